/- Comparing; operations on two numbers, two texts. -/
import Derived.Test.YtdiiepiflmgdeaaGreatA9
import Derived.Laws.StructEq
namespace Go.Ab
open Go.RowKit (Below)

section
variable {P : Program} {cd : Nat → Array Oper → DT → Bool} {B0 : Nat} {w0 : Frz} {m : M} {H H' : T AObj} {w : World} {nt : Nat} {R : T AV} {a : Act} {base : K} {v : AV}

theorem eqL_nil (xs ys : List AV) : eqL [] xs ys = match xs, ys with | [], [] => some true | _, _ => none := rfl
theorem eqL_cons {k : LK} {ks : List LK} {xs ys : List AV} {b : Bool} (h : eqL (k :: ks) xs ys = some b) :
    ∃ x xs' y ys' c d, xs = x :: xs' ∧ ys = y :: ys' ∧ eqK k x y = some c ∧ eqL ks xs' ys' = some d ∧ b = (c && d) := by
  cases xs with
  | nil => cases h
  | cons x xs =>
    cases ys with
    | nil => cases h
    | cons y ys =>
      have h' : (match eqK k x y with
        | some b => (match eqL ks xs ys with
          | some c => some (b && c)
          | none => none)
        | none => none) = some b := h
      split at h'
      · rename_i c hc
        split at h'
        · rename_i d hd
          injection h' with h'
          exact ⟨x, xs, y, ys, c, d, rfl, rfl, hc, hd, h'.symm⟩
        · cases h'
      · cases h'
theorem eqL_append {ks ls : List LK} : ∀ {xs ys : List AV} {b : Bool}, eqL (ks ++ ls) xs ys = some b →
    ∃ c d, eqL ks (xs.take ks.length) (ys.take ks.length) = some c ∧ eqL ls (xs.drop ks.length) (ys.drop ks.length) = some d ∧ b = (c && d) := by
  induction ks with
  | nil => intro xs ys b h; exact ⟨true, b, by simp [eqL_nil], by simpa using h, by simp⟩
  | cons k ks ih =>
    intro xs ys b h
    obtain ⟨x, xs', y, ys', c, d, rfl, rfl, h1, h2, rfl⟩ := eqL_cons (by simpa using h)
    obtain ⟨c', d', h3, h4, rfl⟩ := ih h2
    refine ⟨c && c', d', ?_, by simpa using h4, by rw [Bool.and_assoc]⟩
    show (match eqK k x y with
        | some b => (match eqL ks (List.take ks.length xs') (List.take ks.length ys') with
          | some c => some (b && c)
          | none => none)
        | none => none) = _
    rw [h1, h3]
theorem eqL_length {ks : List LK} : ∀ {xs ys : List AV} {b : Bool}, eqL ks xs ys = some b → xs.length = ks.length ∧ ys.length = ks.length := by
  induction ks with
  | nil => intro xs ys b h; rw [eqL_nil] at h; split at h <;> simp_all
  | cons k ks ih =>
    intro xs ys b h
    obtain ⟨x, xs', y, ys', c, d, rfl, rfl, h1, h2, rfl⟩ := eqL_cons h
    have := ih h2
    simp [this.1, this.2]

/- a value of a type, its cells -/
def Shape (P : Program) (m : M) (t : TypeId) (v : Value) (xs : List AV) : Prop :=
  (aggT P t = some true ∧ ∃ c, v = .agg c ∧ RelL m xs c.toList) ∨ (aggT P t = some false ∧ ∃ x, xs = [x] ∧ Rel m x v)

theorem beq_strings {s t : ByteArray} {n c k d : Nat} (h1 : s.size = n) (h2 : codeL s.data.toList = c) (h3 : t.size = k) (h4 : codeL t.data.toList = d) : (s.toList == t.toList) = (Nat.beq n k && Nat.beq c d) := by
  rw [Bool.eq_iff_iff]
  simp only [Bool.and_eq_true, Nat.beq_eq, beq_iff_eq, ByteArray.toList_eq]
  constructor
  · intro h
    have e : s.data.toList.length = t.data.toList.length := by rw [h]
    simp only [Array.length_toList] at e
    subst h1 h2 h3 h4
    exact ⟨e, by rw [h]⟩
  · intro ⟨e1, e2⟩
    subst h1 h2 h3 h4
    exact codeL_inj (by simp only [Array.length_toList]; exact e1) e2

theorem run_eqFields_flat (F : Nat) {f : TypeId → Option (List LK)} {xs ys : Array Value}
    (ih : ∀ t ks, f t = some ks → ∀ (v u : Value) (xs ys : List AV) (b : Bool), Shape P m t v xs → Shape P m t u ys → eqL ks xs ys = some b → (Op.equalIn F t v u).run P w = .ok b w)
    (hag : ∀ t ks, f t = some ks → (∃ q, aggT P t = some q) ∧ (aggT P t = some false → ∃ k, ks = [k])) {as bs : List AV} (ha : RelL m as xs.toList) (hb : RelL m bs ys.toList) :
    ∀ (fs : List Field) (off : Nat) (ls : List LK) (b : Bool), flatT.flatFs P f fs off = some ls → eqL ls (as.drop off) (bs.drop off) = some b → (Op.eqFields F xs ys fs).run P w = .ok b w
  | [], off, ls, b, h, he => by
    injection h with h; subst h
    rw [eqL_nil] at he
    split at he
    · injection he with he; subst he; simp [Op.eqFields]
    · cases he
  | x :: fs, off, ls, b, h, he => by
    unfold flatT.flatFs at h
    split at h
    · cases h
    · rename_i hname
      split at h
      · rename_i hoff
        simp only [beq_iff_eq] at hoff
        split at h
        · rename_i ks s hks hs
          split at h
          · rename_i hl
            simp only [beq_iff_eq] at hl
            split at h
            · rename_i l hrest
              injection h with h; subst h
              obtain ⟨c, d, h1, h2, rfl⟩ := eqL_append he
              obtain ⟨q, hq⟩ := (hag _ _ hks).1
              have hn : x.name ≠ "_" := by simpa using hname
              have part_of : ∀ {zs : Array Value} {zl : List AV}, RelL m zl zs.toList → ((zl.drop off).take ks.length).length = ks.length → ∃ u, (part x.type zs x.offset).run P w = .ok u w ∧ Shape P m x.type u ((zl.drop off).take ks.length) := by
                intro zs zl hz hlen
                have htk : takeN ks.length (dropN off zl) = some ((zl.drop off).take ks.length) := by
                  rw [takeN_eq, dropN_eq, if_pos]
                  simp at hlen ⊢; omega
                cases q with
                | true =>
                  obtain ⟨u, hu, hr⟩ := run_partOf (P := P) (m := m) (t := x.type) (ag := true) (n := ks.length) (by simp [ldOk, hq, hs, hl]) htk (mkv_true _) hz w
                  rw [← hoff] at hu
                  simp only [Rel] at hr
                  exact ⟨u, by rw [hoff] at hu ⊢; exact hu, .inl ⟨hq, hr⟩⟩
                | false =>
                  obtain ⟨k, rfl⟩ := (hag _ _ hks).2 hq
                  simp only [List.length_singleton] at *
                  obtain ⟨z, hz1⟩ : ∃ z, (zl.drop off).take 1 = [z] := by
                    match hh : (zl.drop off).take 1, hlen with
                    | [z], _ => exact ⟨z, rfl⟩
                  obtain ⟨u, hu, hr⟩ := run_partOf (P := P) (m := m) (t := x.type) (ag := false) (n := 1) (by simp [ldOk, hq, hs, hl]) (htk.trans (by rw [hz1])) (v := z) rfl hz w
                  exact ⟨u, by rw [hoff]; exact hu, .inr ⟨hq, z, hz1, hr⟩⟩
              have hle := eqL_length h1
              obtain ⟨u1, p1, s1⟩ := part_of ha hle.1
              obtain ⟨u2, p2, s2⟩ := part_of hb hle.2
              have e1 := ih _ _ hks u1 u2 _ _ c s1 s2 h1
              simp only [Op.eqFields, hn, ne_eq, not_false_eq_true, if_true, Sem.run_bind, p1, p2, e1, Result.andThen_ok]
              rw [List.drop_drop, List.drop_drop, hl] at h2
              have := run_eqFields_flat F ih hag ha hb fs (off + s) l d hrest h2
              cases c
              · simp
              · simpa using this
            · cases h
          · cases h
        · cases h
      · cases h

theorem fieldsOf_eq {t : TypeId} {fs : Array Field} (h : P.underlying t = some (.struct fs)) : P.fieldsOf t = fs := by
  unfold Program.fieldsOf; simp [h]

theorem flat_agg : ∀ (d : Nat) (t : TypeId) (ks : List LK), flatT P d t = some ks → (∃ q, aggT P t = some q) ∧ (aggT P t = some false → ∃ k, ks = [k])
  | 0, t, ks, h => by simp [flatT] at h
  | d + 1, t, ks, h => by
    unfold flatT at h
    split at h
    · rename_i hu; injection h with h; subst h; simp [aggT, hu]
    · rename_i k hu; injection h with h; subst h; simp [aggT, hu]
    · rename_i hu; injection h with h; subst h; simp [aggT, hu]
    · rename_i fs hu; simp [aggT, hu]
    · rename_i n e hu; simp [aggT, hu]
    · cases h

theorem run_eqItems_flat (F : Nat) {e : TypeId} {ks : List LK} {s : Nat} (hs : szOf P e = some s) (hl : ks.length = s) {f : Nat} (hf : flatT P f e = some ks) {xs ys : Array Value}
    (ih : ∀ (v u : Value) (xs ys : List AV) (b : Bool), Shape P m e v xs → Shape P m e u ys → eqL ks xs ys = some b → (Op.equalIn F e v u).run P w = .ok b w)
    {as bs : List AV} (ha : RelL m as xs.toList) (hb : RelL m bs ys.toList) : ∀ (n i : Nat) (b : Bool), eqL (List.replicate n ks).flatten (as.drop (i * s)) (bs.drop (i * s)) = some b →
      (Op.eqItems F e s xs ys (List.range' i n)).run P w = .ok b w
  | 0, i, b, he => by
    simp only [List.replicate_zero, List.flatten_nil, eqL_nil] at he
    split at he
    · injection he with he; subst he; simp [Op.eqItems]
    · cases he
  | n + 1, i, b, he => by
    rw [List.replicate_succ, List.flatten_cons] at he
    obtain ⟨c, d, h1, h2, rfl⟩ := eqL_append he
    obtain ⟨q, hq⟩ := (flat_agg _ _ _ hf).1
    have part_of : ∀ {zs : Array Value} {zl : List AV}, RelL m zl zs.toList → ((zl.drop (i * s)).take ks.length).length = ks.length → ∃ u, (part e zs (i * s)).run P w = .ok u w ∧ Shape P m e u ((zl.drop (i * s)).take ks.length) := by
      intro zs zl hz hlen
      have htk : takeN ks.length (dropN (i * s) zl) = some ((zl.drop (i * s)).take ks.length) := by
        rw [takeN_eq, dropN_eq, if_pos]
        simp at hlen ⊢; omega
      cases q with
      | true =>
        obtain ⟨u, hu, hr⟩ := run_partOf (P := P) (m := m) (t := e) (ag := true) (n := ks.length) (by simp [ldOk, hq, hs, hl]) htk (mkv_true _) hz w
        simp only [Rel] at hr
        exact ⟨u, hu, .inl ⟨hq, hr⟩⟩
      | false =>
        obtain ⟨k, rfl⟩ := (flat_agg _ _ _ hf).2 hq
        simp only [List.length_singleton] at *
        obtain ⟨z, hz1⟩ : ∃ z, (zl.drop (i * s)).take 1 = [z] := by
          match hh : (zl.drop (i * s)).take 1, hlen with
          | [z], _ => exact ⟨z, rfl⟩
        obtain ⟨u, hu, hr⟩ := run_partOf (P := P) (m := m) (t := e) (ag := false) (n := 1) (by simp [ldOk, hq, hs, hl]) (htk.trans (by rw [hz1])) (v := z) rfl hz w
        exact ⟨u, hu, .inr ⟨hq, z, hz1, hr⟩⟩
    have hle := eqL_length h1
    obtain ⟨u1, p1, s1⟩ := part_of ha hle.1
    obtain ⟨u2, p2, s2⟩ := part_of hb hle.2
    have e1 := ih u1 u2 _ _ c s1 s2 h1
    have hstep : i * s + ks.length = (i + 1) * s := by rw [hl, Nat.add_mul, Nat.one_mul]
    rw [List.drop_drop, List.drop_drop, hstep] at h2
    have := run_eqItems_flat F hs hl hf ih ha hb n (i + 1) d h2
    simp only [List.range'_succ, Op.eqItems, Sem.run_bind, p1, p2, e1, Result.andThen_ok]
    cases c
    · simp
    · simpa using this

theorem eqK_leaf {k : LK} {x y : AV} {c : Bool} (h : eqK k x y = some c) :
    (k = .i ∧ ∃ q a b, x = .int q a ∧ y = .int q b ∧ c = (a == b)) ∨ (k = .b ∧ ∃ a b, x = .bool a ∧ y = .bool b ∧ c = (a == b)) ∨ (k = .s ∧ ∃ n a p b, x = .str n a ∧ y = .str p b ∧ c = (Nat.beq n p && Nat.beq a b)) := by
  unfold eqK at h
  split at h
  · rename_i q a l b
    split at h
    · rename_i hk
      have := keq_eq hk; subst this
      injection h with h
      exact .inl ⟨rfl, q, a, b, rfl, rfl, by rw [← h, ieq_eq]⟩
    · cases h
  · rename_i a b
    injection h with h
    exact .inr (.inl ⟨rfl, a, b, rfl, rfl, by rw [← h]; cases a <;> cases b <;> rfl⟩)
  · rename_i n a p b
    injection h with h
    exact .inr (.inr ⟨rfl, n, a, p, b, rfl, rfl, h.symm⟩)
  · cases h

theorem leaf_of {t : TypeId} {v u : Value} {xs ys : List AV} {k : LK} {b : Bool} (h : aggT P t = some false) (h1 : Shape P m t v xs) (h2 : Shape P m t u ys) (he : eqL [k] xs ys = some b) :
    ∃ x y, eqK k x y = some b ∧ Rel m x v ∧ Rel m y u := by
  obtain ⟨x, xs', y, ys', c, d, rfl, rfl, hk, hr, rfl⟩ := eqL_cons he
  rw [eqL_nil] at hr
  split at hr
  · injection hr with hr; subst hr
    rcases h1 with ⟨h', _⟩ | ⟨_, x', e1, r1⟩
    · rw [h] at h'; cases h'
    · rcases h2 with ⟨h', _⟩ | ⟨_, y', e2, r2⟩
      · rw [h] at h'; cases h'
      · injection e1 with e1 _; injection e2 with e2 _
        subst e1 e2
        exact ⟨x, y, by simpa using hk, r1, r2⟩
  · cases hr

theorem eq_flat (w : World) : ∀ (d : Nat) (t : TypeId) (ks : List LK), flatT P d t = some ks → ∀ (F : Nat), d ≤ F → ∀ (v u : Value) (xs ys : List AV) (b : Bool), Shape P m t v xs → Shape P m t u ys → eqL ks xs ys = some b →
    (Op.equalIn F t v u).run P w = .ok b w
  | 0, t, ks, h, F, hF, v, u, xs, ys, b, h1, h2, he => by simp [flatT] at h
  | d + 1, t, ks, h, 0, hF, v, u, xs, ys, b, h1, h2, he => absurd hF (by omega)
  | d + 1, t, ks, h, F + 1, hF, v, u, xs, ys, b, h1, h2, he => by
    unfold flatT at h
    split at h
    · rename_i hu
      injection h with h; subst h
      obtain ⟨x, y, hk, r1, r2⟩ := leaf_of (by simp [aggT, hu]) h1 h2 he
      rcases eqK_leaf hk with ⟨e, _⟩ | ⟨_, p, q, rfl, rfl, rfl⟩ | ⟨e, _⟩
      · cases e
      · simp only [Rel] at r1 r2; subst r1 r2
        exact run_equalIn_bool' w F t p q hu
      · cases e
    · rename_i kk hu
      injection h with h; subst h
      obtain ⟨x, y, hk, r1, r2⟩ := leaf_of (by simp [aggT, hu]) h1 h2 he
      rcases eqK_leaf hk with ⟨_, q, p, p', rfl, rfl, rfl⟩ | ⟨e, _⟩ | ⟨e, _⟩
      · simp only [Rel] at r1 r2; subst r1 r2
        exact run_equalIn_int w F t q kk p p' hu
      · cases e
      · cases e
    · rename_i hu
      injection h with h; subst h
      obtain ⟨x, y, hk, r1, r2⟩ := leaf_of (by simp [aggT, hu]) h1 h2 he
      rcases eqK_leaf hk with ⟨e, _⟩ | ⟨e, _⟩ | ⟨_, n, p, n', p', rfl, rfl, rfl⟩
      · cases e
      · cases e
      · simp only [Rel] at r1 r2
        obtain ⟨s, rfl, s1, s2⟩ := r1
        obtain ⟨s', rfl, s3, s4⟩ := r2
        rw [← beq_strings s1 s2 s3 s4]
        exact run_equalIn_string w F t s s' hu
    · rename_i fs hu
      split at h
      · cases h
      · rename_i hst
        have hag : aggT P t = some true := by simp [aggT, hu]
        rcases h1 with ⟨_, c, rfl, r1⟩ | ⟨h', _⟩
        · rcases h2 with ⟨_, c', rfl, r2⟩ | ⟨h', _⟩
          · have hf := fieldsOf_eq hu
            rw [run_equalIn_struct w F t c c' (by rw [hf]; exact hu) (by simpa using hst), hf]
            exact run_eqFields_flat F (fun t ks hk v u xs ys b => eq_flat w d t ks hk F (by omega) v u xs ys b) (fun t ks hk => flat_agg d t ks hk) r1 r2 fs.toList 0 ks b h (by simpa using he)
          · rw [hag] at h'; cases h'
        · rw [hag] at h'; cases h'
    · rename_i n e hu
      have hag : aggT P t = some true := by simp [aggT, hu]
      split at h
      · rename_i ks' s hks hs
        split at h
        · rename_i hl
          simp only [beq_iff_eq] at hl
          injection h with h; subst h
          rcases h1 with ⟨_, c, rfl, r1⟩ | ⟨h', _⟩
          · rcases h2 with ⟨_, c', rfl, r2⟩ | ⟨h', _⟩
            · unfold szOf at hs
              cases hi : P.info? e with
              | none => rw [hi] at hs; cases hs
              | some i =>
                have hs' : P.cellsOf e = s := by rw [hi] at hs; injection hs with hs; simp [Program.cellsOf, hi, hs]
                rw [run_equalIn_array w F c c' hu hi, hs', List.range_eq_range']
                exact run_eqItems_flat F (by unfold szOf; rw [hi]; rw [hi] at hs; exact hs) hl hks (fun v u xs ys b => eq_flat w d e ks' hks F (by omega) v u xs ys b) r1 r2 n 0 b (by simpa using he)
            · rw [hag] at h'; cases h'
          · rw [hag] at h'; cases h'
        · cases h
      · cases h
    · cases h

/-! ### two operands -/
theorem toList_eq_data (s : ByteArray) : s.toList = s.data.toList := ByteArray.toList_eq s

theorem deep_aux {α : Type} (f : Nat → α) (n : Nat) (h : Nat.ble 8 n = true) : ∃ d, f n = f (d + 1) ∧ 8 ≤ d + 1 := by
  rw [Nat.ble_eq] at h
  cases n with
  | zero => omega
  | succ d => exact ⟨d, rfl, h⟩
theorem deep (t : TypeId) (v u : Value) : ∃ d, Op.equal t v u = Op.equalIn (d + 1) t v u ∧ 8 ≤ d + 1 := by
  unfold Op.equal
  exact deep_aux (fun d => Op.equalIn d t v u) Op.maxDepth rfl

set_option maxHeartbeats 4000000 in
theorem run_eqOp {e : EqT} {t : TypeId} {x y : AV} {v u : Value} {b : Bool} (hc : eqOk P t e = true) (h : eqOp e x y = some b) (r1 : Rel m x v) (r2 : Rel m y u) (w : World) :
    (∀ (op : BinOp) (p q : Operand), (eqGuard op t p q v u).run P w = .ok () w) ∧ ((Go.binOp .eql t v u).run P w = .ok (.bool b) w) ∧ ((Go.binOp .neq t v u).run P w = .ok (.bool (!b)) w) := by
  obtain ⟨d, e0, hd⟩ := deep t v u
  unfold eqOp at h
  split at h
  · -- bools
    rename_i p q
    injection h with h
    simp only [Rel] at r1 r2; subst r1 r2
    unfold eqOk at hc
    simp only at hc
    split at hc
    · rename_i hu
      have hb : (p == q) = b := by rw [← h]; cases p <;> cases q <;> rfl
      have := run_equalIn_bool' (P := P) w d t p q hu
      rw [hb] at this
      refine ⟨(fun op p' q' => by cases op <;> rfl), ?_, ?_⟩
      · simp [Go.binOp, e0, this]
      · simp [Go.binOp, e0, this]
    · cases hc
  · -- several cells
    rename_i ks xs ys
    simp only [Rel] at r1 r2
    obtain ⟨c, rfl, r1⟩ := r1
    obtain ⟨c', rfl, r2⟩ := r2
    simp only [eqOk, Bool.and_eq_true, Bool.not_eq_true', beq_iff_eq] at hc
    obtain ⟨⟨hc, hg⟩, hag⟩ := hc
    split at hc
    · rename_i ls hls
      have := lkq_eq hc; subst this
      have := eq_flat (P := P) (m := m) w 8 t ls hls (d + 1) hd _ _ xs ys b (.inl ⟨hag, c, rfl, r1⟩) (.inl ⟨hag, c', rfl, r2⟩) h
      refine ⟨(fun op p' q' => run_eqGuard_agg w op t p' q' c c' hg), ?_, ?_⟩
      · simp [Go.binOp, e0, this]
      · simp [Go.binOp, e0, this]
    · cases hc
  all_goals try (cases h; done)
  all_goals
    injection h with h; subst h
    simp only [Rel] at r1 r2
    unfold eqOk at hc
    simp only at hc
    split at hc
  all_goals try (cases hc; done)
  all_goals rename_i hu
  all_goals
    first
      | (subst r1 r2; refine ⟨(fun op p q => by cases op <;> rfl), ?_, ?_⟩ <;> simp [Go.binOp, e0, Op.equalIn, run_under hu])
      | (obtain ⟨_, _, _, _, rfl⟩ := r1; subst r2; refine ⟨(fun op p q => by cases op <;> rfl), ?_, ?_⟩ <;> simp [Go.binOp, e0, Op.equalIn, run_under hu])
      | (obtain ⟨_, _, _, _, rfl⟩ := r2; subst r1; refine ⟨(fun op p q => by cases op <;> rfl), ?_, ?_⟩ <;> simp [Go.binOp, e0, Op.equalIn, run_under hu])
      | (obtain ⟨_, _, rfl, _⟩ := r1; subst r2; refine ⟨(fun op p q => by cases op <;> rfl), ?_, ?_⟩ <;> simp [Go.binOp, e0, Op.equalIn, run_under hu])
      | (obtain ⟨_, _, rfl, _⟩ := r2; subst r1; refine ⟨(fun op p q => by cases op <;> rfl), ?_, ?_⟩ <;> simp [Go.binOp, e0, Op.equalIn, run_under hu])
      | (obtain ⟨_, _, _, rfl, _⟩ := r1; subst r2; refine ⟨(fun op p q => by cases op <;> rfl), ?_, ?_⟩ <;> simp [Go.binOp, e0, Op.equalIn, run_under hu])
      | (obtain ⟨_, _, _, rfl, _⟩ := r2; subst r1; refine ⟨(fun op p q => by cases op <;> rfl), ?_, ?_⟩ <;> simp [Go.binOp, e0, Op.equalIn, run_under hu])
      | (obtain ⟨_, _, _, _, _, rfl, _⟩ := r1; subst r2; refine ⟨(fun op p q => by cases op <;> rfl), ?_, ?_⟩ <;> simp [Go.binOp, e0, Op.equalIn, run_under hu])
      | (obtain ⟨_, _, _, _, _, rfl, _⟩ := r2; subst r1; refine ⟨(fun op p q => by cases op <;> rfl), ?_, ?_⟩ <;> simp [Go.binOp, e0, Op.equalIn, run_under hu])

theorem int_bin {op : BinOp} {k : IntKind} {p q : Int} {v : AV} (t : TypeId) (h : (match op with
      | .add => some (mkInt k (p + q))
      | .sub => some (mkInt k (p - q))
      | .mul => some (mkInt k (p * q))
      | .quo => if ieq q 0 then none else some (mkInt k (p.tdiv q))
      | .rem => if ieq q 0 then none else frc (p.tmod q) fun n => some (.int k n)
      | .eql => some (.bool (ieq p q))
      | .neq => some (.bool (!ieq p q))
      | .lss => some (.bool (ilt p q))
      | .leq => some (.bool (!ilt q p))
      | .gtr => some (.bool (ilt q p))
      | .geq => some (.bool (!ilt p q))
      | _ => none) = some v) (w : World) : ∃ u, (Go.binOp op t (.int k p) (.int k q)).run P w = .ok u w ∧ Rel m v u := by
  have nn : ∀ a b : Int, (!decide (a < b)) = decide (b ≤ a) := fun a b => by
    by_cases h : a < b
    · have : ¬ b ≤ a := by omega
      simp [h, this]
    · have : b ≤ a := by omega
      simp [h, this]
  cases op <;> simp only at h
  case add => injection h with h; subst h; exact ⟨_, by simp [Go.binOp, Op.intArith]; rfl, by rw [mkInt_eq]; simp only [Rel]⟩
  case sub => injection h with h; subst h; exact ⟨_, by simp [Go.binOp, Op.intArith]; rfl, by rw [mkInt_eq]; simp only [Rel]⟩
  case mul => injection h with h; subst h; exact ⟨_, by simp [Go.binOp, Op.intArith]; rfl, by rw [mkInt_eq]; simp only [Rel]⟩
  case quo =>
    split at h
    · cases h
    · rename_i h0
      rw [ieq_eq] at h0
      have h0' : ¬ q = 0 := by simpa using h0
      injection h with h; subst h; exact ⟨_, by simp [Go.binOp, Op.intDiv, h0']; rfl, by rw [mkInt_eq]; simp only [Rel]⟩
  case rem =>
    split at h
    · cases h
    · rename_i h0
      rw [ieq_eq] at h0
      have h0' : ¬ q = 0 := by simpa using h0
      rw [frc_eq] at h
      injection h with h; subst h; exact ⟨_, by simp [Go.binOp, Op.intDiv, h0']; rfl, by simp only [Rel]⟩
  case eql => injection h with h; subst h; exact ⟨_, by simp [Go.binOp, Op.intCmp]; rfl, by simp only [Rel]; rw [ieq_eq]⟩
  case neq => injection h with h; subst h; exact ⟨_, by simp [Go.binOp, Op.intCmp]; rfl, by simp only [Rel]; rw [ieq_eq]; rfl⟩
  case lss => injection h with h; subst h; exact ⟨_, by simp [Go.binOp, Op.intCmp]; rfl, by simp only [Rel]; rw [ilt_eq]⟩
  case leq => injection h with h; subst h; exact ⟨_, by simp [Go.binOp, Op.intCmp]; rfl, by simp only [Rel]; rw [ilt_eq, nn]⟩
  case gtr => injection h with h; subst h; exact ⟨_, by simp [Go.binOp, Op.intCmp]; rfl, by simp only [Rel]; rw [ilt_eq]⟩
  case geq => injection h with h; subst h; exact ⟨_, by simp [Go.binOp, Op.intCmp]; rfl, by simp only [Rel]; rw [ilt_eq, nn]⟩
  all_goals cases h

theorem s_bin (hR : RegsRel m nt R a.tmps) (hS : Sim P cd B0 w0 m H w) {o : Oper} {op : BinOp} {e : EqT} {t : TypeId} {x y : Opd} {x' y' : Operand} {z : TypeId} (ho : o.op = .binOp op t x' y' z) (he : eqOk P t e = true) (h1 : chkOpd nt x' x = true) (h2 : chkOpd nt y' y = true)
    (hx : aexec base (.bin op e x y) R H = some (v, H')) : Out P cd B0 w0 m ((execOp a.eval o).run P w) v H' := by
  have r1 := ev_rel hR h1
  have r2 := ev_rel hR h2
  generalize hu1 : a.eval x' = u1 at r1
  generalize hu2 : a.eval y' = u2 at r2
  simp only [aexec] at hx
  split at hx
  · rename_i v' hv'
    injection hx with hx; injection hx with e1 e2; subst e1 e2
    suffices h : (∀ (p q : Operand), (eqGuard op t p q u1 u2).run P w = .ok () w) ∧ ∃ u, (Go.binOp op t u1 u2).run P w = .ok u w ∧ Rel m v' u by
      obtain ⟨hg, u, hb, hr⟩ := h
      exact Out.same hS (u := u) (by simp only [execOp, ho, hu1, hu2, Sem.run_bind, hg, Result.andThen_ok, hb, Sem.run_pure]) hr
    unfold binOp at hv'
    split at hv'
    · rename_i k p l q e1 e2
      split at hv'
      · rename_i hk
        have := keq_eq hk; subst this
        rw [e1] at r1; rw [e2] at r2
        simp only [Rel] at r1 r2
        subst r1 r2
        exact ⟨fun _ _ => by cases op <;> rfl, int_bin t hv' w⟩
      · cases hv'
    · rename_i k q r l b e1 e2
      split at hv'
      · split at hv'
        · rename_i hcond
          simp only [Bool.and_eq_true, Nat.beq_eq, Nat.ble_eq] at hcond
          obtain ⟨hk, hq, hb⟩ := hcond
          have := keq_eq hk; subst this
          rw [e1] at r1; rw [e2] at r2
          simp only [Rel] at r1 r2
          obtain ⟨n, rfl, hn⟩ := r1
          subst r2 hq hn
          injection hv' with hv'; subst hv'
          refine ⟨fun _ _ => rfl, .int k (.ofNat (n % q)), ?_, by simp only [Rel]⟩
          have h0 : ¬ (Int.ofNat q = 0) := fun h => by
            have : q = 0 := Int.ofNat.inj h
            omega
          have ht : (Int.ofNat n).tmod (Int.ofNat q) = Int.ofNat (n % q) := rfl
          simp only [Go.binOp, ne_eq, not_true_eq_false, if_false, Op.intDiv, if_neg h0, ht, Sem.run_pure]
        · cases hv'
      · cases hv'
    · rename_i n p k q e1 e2
      rw [e1] at r1; rw [e2] at r2
      simp only [Rel] at r1 r2
      obtain ⟨s1, rfl, s2, s3⟩ := r1
      obtain ⟨t1, rfl, t2, t3⟩ := r2
      refine ⟨fun _ _ => by cases op <;> rfl, ?_⟩
      have hb := beq_strings s2 s3 t2 t3
      split at hv'
      · split at hv'
        · rename_i hle
          simp only [Nat.ble_eq] at hle
          rw [frcN_eq, frcN_eq] at hv'
          injection hv' with hv'; subst hv'
          have hno : ¬ (((s1.size + t1.size : Nat) : Int) > IntKind.i64.max) := by
            have : IntKind.i64.max = 9223372036854775807 := rfl
            rw [this, s2, t2]; omega
          refine ⟨.string (s1 ++ t1), by simp only [Go.binOp, Op.stringOp, if_neg hno, Sem.run_pure], ?_⟩
          simp only [Rel]
          refine ⟨_, rfl, by rw [ByteArray.size_append, s2, t2], ?_⟩
          have ed : (s1 ++ t1).data.toList = s1.data.toList ++ t1.data.toList := by
            rw [ByteArray.data_append, Array.toList_append]
          have hl : s1.data.toList.length = n := by rw [Array.length_toList]; exact s2
          rw [ed, codeL_append, hl, s3, t3, pow8, Nat.mul_comm]
        · cases hv'
      · injection hv' with hv'; subst hv'
        exact ⟨_, by simp only [Go.binOp, Op.stringOp, Sem.run_pure]; rfl, by simp only [Rel]; rw [hb]⟩
      · injection hv' with hv'; subst hv'
        exact ⟨_, by simp only [Go.binOp, Op.stringOp, Sem.run_pure]; rfl, by simp only [Rel]; rw [hb]⟩
      · cases hv'
    · split at hv'
      · split at hv'
        · rename_i b hb
          injection hv' with hv'; subst hv'
          obtain ⟨h3, h4, _⟩ := run_eqOp he hb r1 r2 w
          exact ⟨h3 _, _, h4, by simp only [Rel]⟩
        · cases hv'
      · split at hv'
        · rename_i b hb
          injection hv' with hv'; subst hv'
          obtain ⟨h3, _, h4⟩ := run_eqOp he hb r1 r2 w
          exact ⟨h3 _, _, h4, by simp only [Rel]⟩
        · cases hv'
      · cases hv'
  · cases hx
end
end Go.Ab
