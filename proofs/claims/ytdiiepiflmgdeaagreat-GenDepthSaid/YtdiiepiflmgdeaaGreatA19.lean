/- The same; what an operation looks at. -/
import Derived.Test.YtdiiepiflmgdeaaGreatA18
namespace Go.Ab

theorem T.set_same {α : Type} {k : K} {u : α} : ∀ {t : T α}, T.get k t = some u → T.set k u t = t := by
  induction k with
  | z => intro t h; cases t with
    | leaf => simp at h
    | node v a b c d => rw [T.get_z] at h; rw [T.set_z]; simp only [T.val, T.k1, T.k2, T.k3, T.k4] at h ⊢; rw [h]
  | a k ih => intro t h; cases t with
    | leaf => simp at h
    | node v a b c d => rw [T.get_a] at h; rw [T.set_a, ih h]; rfl
  | b k ih => intro t h; cases t with
    | leaf => simp at h
    | node v a b c d => rw [T.get_b] at h; rw [T.set_b, ih h]; rfl
  | c k ih => intro t h; cases t with
    | leaf => simp at h
    | node v a b c d => rw [T.get_c] at h; rw [T.set_c, ih h]; rfl
  | d k ih => intro t h; cases t with
    | leaf => simp at h
    | node v a b c d => rw [T.get_d] at h; rw [T.set_d, ih h]; rfl

mutual
theorem same_eq : ∀ (x y : AV), same x y = true → x = y
  | .int k a, y, h => by
    cases y <;> simp only [same, Bool.and_eq_true, Bool.false_eq_true] at h
    rw [keq_eq h.1]; rw [ieq_eq] at h; rw [eq_of_beq h.2]
  | .res k q r, y, h => by
    cases y <;> simp only [same, Bool.and_eq_true, Nat.beq_eq, Bool.false_eq_true] at h
    rw [keq_eq h.1.1, h.1.2, h.2]
  | .bool a, y, h => by
    cases y <;> simp only [same, Bool.false_eq_true] at h
    rw [eq_of_beq h]
  | .str n a, y, h => by
    cases y <;> simp only [same, Bool.and_eq_true, Nat.beq_eq, Bool.false_eq_true] at h
    rw [h.1, h.2]
  | .flt k a, y, h => by
    cases y
    case flt l b =>
      cases k <;> cases l <;> simp [same] at h
      rw [h]
    all_goals (cases k <;> simp [same] at h)
  | .cplx k a b, y, h => by
    cases y
    case cplx l c d =>
      cases k <;> cases l <;> simp [same] at h
      rw [h.1, h.2]
    all_goals (cases k <;> simp [same] at h)
  | .ptr b o, y, h => by
    cases y <;> simp only [same, Bool.and_eq_true, Nat.beq_eq, decide_eq_true_eq, Bool.false_eq_true] at h
    rw [h.1, h.2]
  | .vptr l, y, h => by
    cases y <;> simp only [same, Bool.false_eq_true] at h
    rw [sameL_eq _ _ h]
  | .nilp, y, h => by cases y <;> simp only [same, Bool.false_eq_true] at h; rfl
  | .slice b o n c, y, h => by
    cases y <;> simp only [same, Bool.and_eq_true, Nat.beq_eq, decide_eq_true_eq, Bool.false_eq_true] at h
    rw [h.1.1.1, h.1.1.2, h.1.2, h.2]
  | .oslice b o n c, y, h => by
    cases y <;> simp only [same, Bool.and_eq_true, Nat.beq_eq, decide_eq_true_eq, Bool.false_eq_true] at h
    rw [h.1.1.1, h.1.1.2, h.1.2, h.2]
  | .vslice l n e, y, h => by
    cases y <;> simp only [same, Bool.and_eq_true, Nat.beq_eq, Bool.false_eq_true] at h
    rw [sameL_eq _ _ h.1.1, h.1.2, eq_of_beq h.2]
  | .nils, y, h => by cases y <;> simp only [same, Bool.false_eq_true] at h; rfl
  | .map b, y, h => by
    cases y <;> simp only [same, decide_eq_true_eq, Bool.false_eq_true] at h
    rw [h]
  | .nilm, y, h => by cases y <;> simp only [same, Bool.false_eq_true] at h; rfl
  | .func f a b, y, h => by
    cases y <;> simp only [same, Bool.and_eq_true, Nat.beq_eq, Bool.false_eq_true] at h
    rw [h.1.1, sameL_eq _ _ h.1.2, sameL_eq _ _ h.2]
  | .yield b, y, h => by
    cases y <;> simp only [same, decide_eq_true_eq, Bool.false_eq_true] at h
    rw [h]
  | .nilf, y, h => by cases y <;> simp only [same, Bool.false_eq_true] at h; rfl
  | .nili, y, h => by cases y <;> simp only [same, Bool.false_eq_true] at h; rfl
  | .iface t v, y, h => by
    cases y <;> simp only [same, Bool.and_eq_true, Nat.beq_eq, Bool.false_eq_true] at h
    rw [h.1, same_eq _ _ h.2]
  | .agg l, y, h => by
    cases y <;> simp only [same, Bool.false_eq_true] at h
    rw [sameL_eq _ _ h]
  | .tab i l, y, h => by
    cases y <;> simp only [same, Bool.and_eq_true, Nat.beq_eq, Bool.false_eq_true] at h
    rw [h.1, sameL_eq _ _ h.2]
  | .tuple l, y, h => by
    cases y <;> simp only [same, Bool.false_eq_true] at h
    rw [sameL_eq _ _ h]
theorem sameL_eq : ∀ (l m : List AV), sameL l m = true → l = m
  | [], m, h => by cases m <;> simp only [sameL, Bool.false_eq_true] at h; rfl
  | x :: l, m, h => by
    cases m <;> simp only [sameL, Bool.and_eq_true, Bool.false_eq_true] at h
    rw [same_eq _ _ h.1, sameL_eq _ _ h.2]
end

theorem sameE_eq : ∀ (l m : List (AV × AV × Nat)), sameE l m = true → l = m
  | [], m, h => by cases m <;> simp only [sameE, Bool.false_eq_true] at h; rfl
  | x :: l, m, h => by
    cases m <;> simp only [sameE, Bool.and_eq_true, Nat.beq_eq, Bool.false_eq_true] at h
    rename_i y m
    obtain ⟨⟨⟨h1, h2⟩, h3⟩, h4⟩ := h
    rw [sameE_eq _ _ h4]
    congr 1
    exact Prod.ext (same_eq _ _ h1) (Prod.ext (same_eq _ _ h2) h3)
theorem sameO_eq : ∀ (x y : AObj), sameO x y = true → x = y
  | .cells l, y, h => by
    cases y <;> simp only [sameO, Bool.false_eq_true] at h
    rw [sameL_eq _ _ h]
  | .map l c, y, h => by
    cases y <;> simp only [sameO, Bool.and_eq_true, Nat.beq_eq, Bool.false_eq_true] at h
    rw [sameE_eq _ _ h.1, h.2]
  | .iter m a s b, y, h => by
    cases y <;> simp only [sameO, Bool.and_eq_true, Nat.beq_eq, decide_eq_true_eq, Bool.false_eq_true] at h
    rw [h.1.1.1, h.1.1.2, h.1.2, h.2]
  | .loop .., y, h => by cases y <;> simp only [sameO, Bool.false_eq_true] at h
  | .defs, y, h => by cases y <;> simp only [sameO, Bool.false_eq_true] at h; rfl
  | .dead, y, h => by cases y <;> simp only [sameO, Bool.false_eq_true] at h; rfl
theorem sameT_eq {α : Type} {f : α → α → Bool} (hf : ∀ x y, f x y = true → x = y) : ∀ (s t : T α), sameT f s t = true → s = t
  | .leaf, t, h => by cases t <;> simp only [sameT, Bool.false_eq_true] at h; rfl
  | .node v a b c d, t, h => by
    cases t <;> simp only [sameT, Bool.and_eq_true, Bool.false_eq_true] at h
    rename_i v' a' b' c' d'
    obtain ⟨⟨⟨⟨h0, h1⟩, h2⟩, h3⟩, h4⟩ := h
    rw [sameT_eq hf _ _ h1, sameT_eq hf _ _ h2, sameT_eq hf _ _ h3, sameT_eq hf _ _ h4]
    congr 1
    cases v <;> cases v' <;> simp only [Bool.false_eq_true] at h0
    · rfl
    · rw [hf _ _ h0]
theorem sameSt_eq {s t : St} (h : sameSt s t = true) : s = t := by
  simp only [sameSt, Bool.and_eq_true, decide_eq_true_eq] at h
  obtain ⟨⟨⟨h1, h2⟩, h3⟩, h4⟩ := h
  cases s; cases t
  simp only at h1 h2 h3 h4
  rw [sameT_eq same_eq _ _ h1, sameT_eq sameO_eq _ _ h2, h3, h4]

/-! ### what an operation looks at -/
def opdK : Opd → List K
  | .t k => [k]
  | .c _ => []
def opdKs : List Opd → List K
  | [] => []
  | x :: xs => opdK x ++ opdKs xs
def optK : Option Opd → List K
  | none => []
  | some x => opdK x
def partK : List (Nat × Nat × Opd) → List K
  | [] => []
  | p :: ps => opdK p.2.2 ++ partK ps
def opK : AOp → List K
  | .mv x => opdK x
  | .pick c a b => opdK c ++ (opdK a ++ opdK b)
  | .nilchk x => opdK x
  | .alloc _ _ => []
  | .box _ _ x => opdK x
  | .build _ ps => partK ps
  | .vlit _ _ ps => partK ps
  | .hlit _ _ _ ps => partK ps
  | .load _ _ x => opdK x
  | .store _ a v => opdK a ++ opdK v
  | .fieldAddr _ x => opdK x
  | .field _ _ _ x => opdK x
  | .indexAddr _ x i => opdK x ++ opdK i
  | .indexAddrArr _ _ x i => opdK x ++ opdK i
  | .indexArr _ _ _ x i => opdK x ++ opdK i
  | .indexStr x i => opdK x ++ opdK i
  | .slc _ x lo hi mx => opdK x ++ (optK lo ++ (optK hi ++ optK mx))
  | .slcStr x lo hi => opdK x ++ (optK lo ++ optK hi)
  | .bin _ _ x y => opdK x ++ opdK y
  | .un _ x => opdK x
  | .conv _ x => opdK x
  | .convStr x => opdK x
  | .bytesStr x => opdK x
  | .bad => []
  | .mvE x => opdK x
  | .extract x _ => opdK x
  | .mkfunc _ xs ys => opdKs xs ++ opdKs ys
  | .mkmap _ => []
  | .mkslice _ _ _ _ l c => opdK l ++ opdK c
  | .lookup _ _ _ m k => opdK m ++ opdK k
  | .mapput _ m k v => opdK m ++ (opdK k ++ opdK v)
  | .mkiface _ x => opdK x
  | .range _ x => opdK x
  | .next x => opdK x
  | .entry x => opdK x
  | .len _ x => opdK x
  | .max x y => opdK x ++ opdK y
  | .min x y => opdK x ++ opdK y
  | .real x => opdK x
  | .imag x => opdK x
  | .f64bits x => opdK x
  | .append _ _ _ s x => opdK s ++ opdK x
  | .call _ xs => opdKs xs
  | .calld x xs => opdK x ++ opdKs xs

def Agree (R R' : T AV) (ks : List K) : Prop := ∀ k ∈ ks, (R.get k).getD undef = (R'.get k).getD undef
section
variable {R R' : T AV}
theorem Agree.left {a b : List K} (h : Agree R R' (a ++ b)) : Agree R R' a := fun k hk => h k (List.mem_append_left _ hk)
theorem Agree.right {a b : List K} (h : Agree R R' (a ++ b)) : Agree R R' b := fun k hk => h k (List.mem_append_right _ hk)
theorem ev_congr {x : Opd} (h : Agree R R' (opdK x)) : ev R x = ev R' x := by
  cases x with
  | c v => rfl
  | t k => rw [ev_t, ev_t]; exact h k (List.mem_singleton_self k)
theorem evs_congr : ∀ {xs : List Opd}, Agree R R' (opdKs xs) → mapL (ev R) xs = mapL (ev R') xs
  | [], _ => rfl
  | x :: xs, h => by
    have h1 : mapL (ev R) (x :: xs) = ev R x :: mapL (ev R) xs := rfl
    have h2 : mapL (ev R') (x :: xs) = ev R' x :: mapL (ev R') xs := rfl
    rw [h1, h2, ev_congr h.left, evs_congr h.right]
theorem boundO_congr {n d : Nat} {x : Option Opd} (h : Agree R R' (optK x)) : boundO n d R x = boundO n d R' x := by
  cases x with
  | none => rfl
  | some x => simp only [boundO]; rw [ev_congr h]
theorem bnds_congr {n t : Nat} {lo hi mx : Option Opd} (h1 : Agree R R' (optK lo)) (h2 : Agree R R' (optK hi)) (h3 : Agree R R' (optK mx)) : bnds n t lo hi mx R = bnds n t lo hi mx R' := by
  unfold bnds
  have hb : ∀ n, boundO n 0 R lo = boundO n 0 R' lo := fun n => boundO_congr h1
  cases mx with
  | none =>
    cases hi with
    | none => simp only [hb]
    | some q => have := ev_congr (x := q) h2; simp only [hb, this]
  | some z =>
    cases hi with
    | none => rfl
    | some q => have e1 := ev_congr (x := q) h2; have e2 := ev_congr (x := z) h3; simp only [hb, e1, e2]
theorem fillIn_congr : ∀ {ps : List (Nat × Nat × Opd)} {cs : List AV}, Agree R R' (partK ps) → fillIn R cs ps = fillIn R' cs ps
  | [], _, _ => rfl
  | p :: ps, cs, h => by
    have h1 : ∀ R, fillIn R cs (p :: ps) = (if Nat.beq (len (cellsOf (ev R p.2.2))) p.2.1 && allL scal (cellsOf (ev R p.2.2)) then (match splice p.1 (cellsOf (ev R p.2.2)) cs with
        | some cs => fillIn R cs ps
        | none => none) else none) := fun _ => rfl
    rw [h1, h1, ev_congr h.left]
    have h2 : ∀ cs, fillIn R cs ps = fillIn R' cs ps := fun cs => fillIn_congr h.right
    simp only [h2]

theorem aexec_congr {base : K} {op : AOp} {H : T AObj} (h : Agree R R' (opK op)) : aexec base op R H = aexec base op R' H := by
  cases op <;> simp only [opK] at h <;> simp only [aexec]
  case mv x => rw [ev_congr h]
  case pick c a b => rw [ev_congr h.left, ev_congr h.right.left, ev_congr h.right.right]
  case box j n x => rw [ev_congr h]
  case build z ps => rw [fillIn_congr h]
  case vlit n z ps => rw [fillIn_congr h]
  case hlit j n z ps => rw [fillIn_congr h]
  case slc sz x lo hi mx =>
    have : slcOp sz (ev R x) lo hi mx R = slcOp sz (ev R' x) lo hi mx R' := by
      rw [ev_congr h.left]
      unfold slcOp
      simp only [bnds_congr h.right.left h.right.right.left h.right.right.right]
    rw [this]
  case slcStr x lo hi =>
    have : slcStrOp (ev R x) lo hi R = slcStrOp (ev R' x) lo hi R' := by
      rw [ev_congr h.left]
      unfold slcStrOp
      simp only [bnds_congr h.right.left h.right.right (mx := none) (fun _ hk => by cases hk)]
    rw [this]
  case mkfunc f xs ys => rw [evs_congr h.left, evs_congr h.right]
  case mapput q m k v => rw [ev_congr h.left, ev_congr h.right.left, ev_congr h.right.right]
  all_goals first
    | (rw [ev_congr h]; done)
    | (rw [ev_congr h.left, ev_congr h.right]; done)
    | skip
end
end Go.Ab
