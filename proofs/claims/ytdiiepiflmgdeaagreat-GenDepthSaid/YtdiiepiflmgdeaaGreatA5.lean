/- Memory: what the abstract heap reads, writes, lays, the world does. -/
import Derived.Test.YtdiiepiflmgdeaaGreatA4
import Derived.Laws.Tables
import Derived.Laws.Cells
import Derived.ChangeKeysEq
namespace Go.Ab
open Go.RowKit (Below)

section
variable {P : Program} {cd : Nat → Array Oper → DT → Bool} {B0 : Nat} {w0 : Frz} {m : M} {H : T AObj} {w : World}

theorem keq_self (k : IntKind) : keq k k = true := by cases k <;> rfl

/-! ### constants -/
theorem cok_leaf (m : M) {x : AV} {v : Value} (hx : ∀ l, x ≠ .agg l ∧ x ≠ .tuple l) (h : cok x v = true) : Rel m x v := by
  unfold cok at h
  split at h
  · simp only [Bool.and_eq_true] at h
    obtain ⟨h1, h2⟩ := h
    rw [ieq_eq] at h2
    simp only [Rel]; rw [keq_eq h1, eq_of_beq h2]
  · simp only [Rel]; congr 1
    split at h <;> simp_all
  · simp only [Bool.and_eq_true, Nat.beq_eq] at h
    simp only [Rel]; exact ⟨_, rfl, h.1, h.2⟩
  · simp only [Nat.beq_eq] at h; simp only [Rel]; rw [h]
  · simp only [Bool.and_eq_true, Nat.beq_eq] at h
    simp only [Rel]; rw [h.1, h.2]
  · simp only [Rel]
  · simp only [Bool.and_eq_true, Nat.beq_eq] at h
    simp only [Rel]; rw [h.1, h.2]
  · simp only [Rel]
  · simp only [Rel]
  · simp only [Rel]
  · exact absurd rfl (hx _).1
  · exact absurd rfl (hx _).2
  · cases h
mutual
theorem cok_rel (m : M) : ∀ (x : AV) (v : Value), cok x v = true → Rel m x v
  | .agg l, v, h => by
    cases v with
    | agg cs => simp only [cok] at h; simp only [Rel]; exact ⟨_, rfl, cokL_rel m l _ h⟩
    | _ => simp [cok] at h
  | .tuple l, v, h => by
    cases v with
    | tuple cs => simp only [cok] at h; simp only [Rel]; exact ⟨_, rfl, cokL_rel m l _ h⟩
    | _ => simp [cok] at h
  | .int _ _, _, h | .res _ _ _, _, h | .bool _, _, h | .str _ _, _, h | .flt _ _, _, h | .cplx _ _ _, _, h | .nilp, _, h | .nils, _, h | .nilm, _, h | .nilf, _, h | .nili, _, h
  | .ptr _ _, _, h | .vptr _, _, h | .slice _ _ _ _, _, h | .oslice _ _ _ _, _, h | .vslice _ _ _, _, h | .map _, _, h | .func _ _ _, _, h | .yield _, _, h | .iface _ _, _, h | .tab _ _, _, h =>
    cok_leaf m (fun _ => ⟨(fun e => by cases e), (fun e => by cases e)⟩) h
theorem cokL_rel (m : M) : ∀ (l : List AV) (vs : List Value), cokL l vs = true → RelL m l vs
  | [], vs, h => by cases vs <;> simp [cokL] at h; simp only [RelL]
  | x :: l, vs, h => by
    cases vs with
    | nil => simp [cokL] at h
    | cons v vs =>
      simp only [cokL, Bool.and_eq_true] at h
      simp only [RelL]; exact ⟨_, _, rfl, cok_rel m x _ h.1, cokL_rel m l _ h.2⟩
end

/-! ### what a value is -/
theorem scal_one {x : AV} {v : Value} (h : Rel m x v) (hs : scal x = true) : v.oneCell' = true := by
  cases x <;> simp only [scal] at hs <;> simp only [Rel] at h <;> first | cases hs | skip
  all_goals first
    | exact h.1
    | (subst h; rfl)
    | (obtain ⟨_, rfl, _⟩ := h; rfl)
    | (obtain ⟨_, _, rfl, _⟩ := h; rfl)
    | (obtain ⟨_, _, _, _, rfl⟩ := h; rfl)
    | (obtain ⟨_, _, _, _, _, rfl, _⟩ := h; rfl)
    | (obtain ⟨_, _, _, rfl, _⟩ := h; rfl)
theorem oneCell_cells {v : Value} (h : v.oneCell' = true) : v.cells = #[v] := by
  cases v <;> simp only [Value.oneCell'] at h <;> first | rfl | cases h
theorem cells_rel {x : AV} {v : Value} (h : Rel m x v) : RelL m (cellsOf x) v.cells.toList := by
  cases x <;> simp only [cellsOf] <;> simp only [Rel] at h
  case agg l => obtain ⟨cs, rfl, h⟩ := h; exact h
  all_goals
    have hv : v.cells = #[v] := by
      first
        | exact oneCell_cells h.1
        | (subst h; rfl)
        | (obtain ⟨_, rfl, _⟩ := h; rfl)
        | (obtain ⟨_, _, rfl, _⟩ := h; rfl)
        | (obtain ⟨_, _, _, _, rfl⟩ := h; rfl)
        | (obtain ⟨_, _, _, _, _, rfl, _⟩ := h; rfl)
        | (obtain ⟨_, _, _, rfl, _⟩ := h; rfl)
    rw [hv]
    simp only [RelL]
    refine ⟨v, [], rfl, ?_, rfl⟩
    simp only [Rel]; exact h

/-! ### rows of cells -/
theorem add_at {a : Addr} (h : a.spot = none) (n : Nat) : a.add n = ⟨a.block, a.off + n, none⟩ := by
  unfold Addr.add
  by_cases hn : n = 0
  · subst hn; cases a; simp_all
  · simp [hn]
theorem readH_some {b : K} {o n : Nat} {cs : List AV} (h : readH H b o n = some cs) : ∃ l, H.get b = some (.cells l) ∧ cs = (l.drop o).take n ∧ cs.length = n ∧ o + n ≤ l.length ∨ n = 0 ∧ cs = [] ∧ H.get b = some (.cells l) := by
  unfold readH at h
  split at h
  · rename_i l hl
    rw [takeN_eq, dropN_eq] at h
    split at h
    · rename_i hn
      injection h with h
      subst h
      by_cases h0 : n = 0
      · subst h0; exact ⟨l, .inr ⟨rfl, by simp, hl⟩⟩
      · simp only [List.length_drop] at hn
        exact ⟨l, .inl ⟨hl, rfl, by simp; omega, by omega⟩⟩
    · cases h
  · cases h

theorem Sim.read (hS : Sim P cd B0 w0 m H w) {b : K} {o n : Nat} {cs : List AV} (h : readH H b o n = some cs) {B d E : Nat} (hr : m.r b = some (B, d, E)) :
    ∃ vs : List Value, vs.length = n ∧ RelL m cs vs ∧ ∀ j v, vs[j]? = some v → w.cell? ⟨B, d + o + j, none⟩ = some v := by
  obtain ⟨l, hl⟩ := readH_some h
  rcases hl with ⟨hl, rfl, hlen, hon⟩ | ⟨rfl, rfl, _⟩
  · obtain ⟨c, el, hb, hsz, hll, hc⟩ := hS.obj b _ hl B d E hr
    refine ⟨(c.toList.drop (d + o)).take n, ?_, ?_, ?_⟩
    · simp; omega
    · refine RelL.of_get (by simp at hlen ⊢; omega) fun i x hx => ?_
      simp only [List.getElem?_take, List.getElem?_drop] at hx ⊢
      by_cases hi : i < n
      · simp only [hi, if_true] at hx ⊢
        obtain ⟨v, hv, hrel⟩ := hc (o + i) x hx
        exact ⟨v, by simpa [Nat.add_assoc] using hv, hrel⟩
      · simp [hi] at hx
    · intro j v hv
      simp only [List.getElem?_take, List.getElem?_drop] at hv
      by_cases hj : j < n
      · simp only [hj, if_true] at hv
        simp [World.cell?, hb]
        simpa using hv
      · simp [hj] at hv
  · exact ⟨[], rfl, by simp only [RelL], fun j v hv => by simp at hv⟩

/- vs laid over c from place i on -/
def putAt (c : Array Value) (i : Nat) : List Value → Array Value
  | [] => c
  | v :: vs => putAt (c.setIfInBounds i v) (i + 1) vs
theorem putAt_size (vs : List Value) : ∀ (c : Array Value) (i : Nat), (putAt c i vs).size = c.size := by
  induction vs with
  | nil => intro c i; rfl
  | cons v vs ih => intro c i; simp [putAt, ih]
theorem putAt_get (vs : List Value) : ∀ (c : Array Value) (i j : Nat), i + vs.length ≤ c.size → (putAt c i vs)[j]? = if i ≤ j ∧ j < i + vs.length then vs[j - i]? else c[j]? := by
  induction vs with
  | nil =>
    intro c i j _
    simp only [putAt, List.length_nil, Nat.add_zero]
    rw [if_neg (by omega)]
  | cons v vs ih =>
    intro c i j h
    simp only [List.length_cons] at h
    have := ih (c.setIfInBounds i v) (i + 1) j (by simp; omega)
    simp only [putAt, this, List.length_cons]
    by_cases hj : j = i
    · subst hj
      have h1 : ¬ (j + 1 ≤ j ∧ j < j + 1 + vs.length) := by omega
      have h2 : j ≤ j ∧ j < j + (vs.length + 1) := by omega
      rw [if_neg h1, if_pos h2]
      have h3 : j < c.size := by omega
      simp [h3]
    · by_cases h1 : i + 1 ≤ j ∧ j < i + 1 + vs.length
      · have h2 : i ≤ j ∧ j < i + (vs.length + 1) := by omega
        rw [if_pos h1, if_pos h2]
        have : j - i = (j - (i + 1)) + 1 := by omega
        rw [this]; simp
      · have h2 : ¬ (i ≤ j ∧ j < i + (vs.length + 1)) := by omega
        rw [if_neg h1, if_neg h2]
        rw [Array.getElem?_setIfInBounds_ne (Ne.symm hj)]

theorem run_storeCells (B d : Nat) (el : TypeId) : ∀ (vs : List Value) (i : Nat) (c : Array Value) (w : World), w.heap[B]? = some (.cells c el (0, 0)) → d + i + vs.length ≤ c.size →
    (∀ v ∈ vs, v.oneCell' = true) → (storeCells ⟨B, d, none⟩ vs i).run P w = .ok () (w.setRow B (putAt c (d + i) vs))
  | [], i, c, w, hb, _, _ => by
    have hlt : B < w.heap.size := (Array.getElem?_eq_some_iff.1 hb).1
    have hv : w.heap[B] = .cells c el (0, 0) := (Array.getElem?_eq_some_iff.1 hb).2
    have hset : (w.setRow B c).heap = w.heap := by
      apply Array.ext
      · simp
      · intro k h1 h2
        simp only [World.setRow, Array.getElem_modify]
        split
        · rename_i hk; subst hk; simp [hv]
        · rfl
    have hw : w.setRow B c = w := by
      have : w.setRow B c = { w with heap := (w.setRow B c).heap } := rfl
      rw [this, hset]
    simp only [storeCells, Sem.run_pure, putAt, hw]
  | v :: vs, i, c, w, hb, hsz, hone => by
    simp only [List.length_cons] at hsz
    have hcell : w.cell? ⟨B, d + i, none⟩ = some c[d + i] := by
      simp [World.cell?, hb]
    have hfz : w.frozen? ⟨B, d + i, none⟩ = false := by simp [World.frozen?, hb]
    have hset := setCell_eq_setRow w B (d + i) c el (0, 0) v hb
    have ih := run_storeCells B d el vs (i + 1) (c.setIfInBounds (d + i) v) (w.setRow B (c.setIfInBounds (d + i) v)) (setRow_heap w B c _ el (0, 0) hb) (by simp; omega) (fun u hu => hone u (List.mem_cons_of_mem _ hu))
    simp only [storeCells, Sem.run_bind, add_at, run_store P w _ v .plain (hone v List.mem_cons_self), hcell, hfz, Bool.false_eq_true, if_false, Result.andThen_ok, hset, ih, setRow_setRow, putAt, Nat.add_assoc]

theorem writeH_some {b : K} {o : Nat} {cs : List AV} {H' : T AObj} (h : writeH H b o cs = some H') :
    ∃ l, H.get b = some (.cells l) ∧ o + cs.length ≤ l.length ∧ H' = H.set b (.cells (l.take o ++ cs ++ l.drop (o + cs.length))) ∧ cs.all scal = true := by
  unfold writeH at h
  split at h
  · rename_i l hl
    split at h
    · rename_i hs
      rw [allL_eq] at hs
      rw [splice_eq] at h
      split at h
      · rename_i l' hl'
        split at hl'
        · rename_i hle
          injection hl' with hl'; injection h with h
          exact ⟨l, hl, hle, by rw [← h, ← hl'], hs⟩
        · cases hl'
      · cases h
    · cases h
  · cases h

theorem one_of_rel {cs : List AV} {vs : List Value} (h : RelL m cs vs) (hs : cs.all scal = true) : ∀ v ∈ vs, v.oneCell' = true := by
  intro v hv
  obtain ⟨i, hi, rfl⟩ := List.getElem_of_mem hv
  have hl := h.length
  have hi' : i < cs.length := by omega
  obtain ⟨u, hu, hrel⟩ := h.get i cs[i] (by simp [hi'])
  rw [List.getElem?_eq_getElem hi] at hu
  injection hu with hu
  rw [hu]
  exact scal_one hrel (List.all_eq_true.1 hs _ (List.getElem_mem hi'))

/- cells of a block are written: which are there, which lie beyond those that are known -/
theorem Sim.write (hS : Sim P cd B0 w0 m H w) {b : K} {o : Nat} {cs : List AV} {H' : T AObj} (h : writeH H b o cs = some H') {B d E : Nat} (hr : m.r b = some (B, d, E)) {vs : List Value} (hv : RelL m cs vs) :
    ∃ w', (storeCells ⟨B, d + o, none⟩ vs).run P w = .ok () w' ∧ Sim P cd B0 w0 m H' w' := by
  obtain ⟨l, hl, hle, rfl, hs⟩ := writeH_some h
  obtain ⟨c, el, hb, hsz, hll, hc⟩ := hS.obj b _ hl B d E hr
  have hlen := hv.length
  refine ⟨_, run_storeCells B (d + o) el vs 0 c w hb (by omega) (one_of_rel hv hs), ?_⟩
  refine hS.turn hl rfl hr (fun k hk => setRow_other w B k _ hk) rfl rfl rfl (by simp) ?_
  refine ⟨_, el, setRow_heap w B c _ el (0, 0) hb, by rw [putAt_size]; exact hsz, by simp; omega, fun i x hx => ?_⟩
  rw [putAt_get vs c (d + o + 0) (d + i) (by omega)]
  by_cases h1 : i < o
  · have h2 : ¬ (d + o + 0 ≤ d + i ∧ d + i < d + o + 0 + vs.length) := by omega
    rw [if_neg h2]
    rw [List.append_assoc, List.getElem?_append_left (by simp; omega), List.getElem?_take] at hx
    rw [if_pos h1] at hx
    exact hc i x hx
  · by_cases h3 : i < o + cs.length
    · have h2 : d + o + 0 ≤ d + i ∧ d + i < d + o + 0 + vs.length := by omega
      rw [if_pos h2]
      rw [List.append_assoc, List.getElem?_append_right (by simp; omega), List.getElem?_append_left (by simp; omega)] at hx
      have e1 : i - (l.take o).length = i - o := by simp; omega
      rw [e1] at hx
      have e2 : d + i - (d + o + 0) = i - o := by omega
      rw [e2]
      exact hv.get _ x hx
    · have h2 : ¬ (d + o + 0 ≤ d + i ∧ d + i < d + o + 0 + vs.length) := by omega
      rw [if_neg h2]
      rw [List.getElem?_append_right (by simp; omega), List.getElem?_drop] at hx
      have e1 : o + cs.length + (i - (l.take o ++ cs).length) = i := by simp; omega
      rw [e1] at hx
      exact hc i x hx

theorem newO_some {id : K} {o : AObj} {H' : T AObj} (h : newO H id o = some H') : H.get id = none ∧ H' = H.set id o := by
  unfold newO at h
  split at h
  · rename_i hn; injection h with h; exact ⟨hn, h.symm⟩
  · cases h

/- a new row -/
theorem Sim.newRow (hS : Sim P cd B0 w0 m H w) {id : K} {l : List AV} {H' : T AObj} (h : newO H id (.cells l) = some H') (el : TypeId) {c : Array Value} {E : Nat} (hE : E ≤ c.size) (hl : l.length ≤ E)
    (hc : ∀ (i : Nat) (x : AV), l[i]? = some x → ∃ v, c[i]? = some v ∧ Rel m x v) : ∃ m', m.le m' ∧ m'.r id = some (w.heap.size, 0, E) ∧ Sim P cd B0 w0 m' H' (w.alloc (.cells c el)) := by
  obtain ⟨hn, rfl⟩ := newO_some h
  have hr := hS.dom id hn
  have hle := M.le_new m (w.heap.size, 0, E) hr
  refine ⟨_, hle, M.new_same _ _ _, hS.alloc hr (hS.fresh hn) ?_⟩
  have hnew : (w.alloc (.cells c el)).heap[w.heap.size]? = some (.cells c el) := by
    show (w.heap.push _)[w.heap.size]? = _
    simp
  exact ⟨c, el, hnew, by omega, hl, fun i x hx => by
    obtain ⟨v, hv, hrel⟩ := hc i x hx
    exact ⟨v, by simpa using hv, hrel.mono hle⟩⟩

/- a new row that is never written: known by its cells -/
def M.lit (m : M) (B : Nat) (c : Array Value) : M := { m with imm := fun b o => if b = B then c[o]? else m.imm b o }
theorem Sim.litRow (hS : Sim P cd B0 w0 m H w) (c : Array Value) (el : TypeId) : m.le (m.lit w.heap.size c) ∧ Sim P cd B0 w0 (m.lit w.heap.size c) H (w.alloc (.cells c el)) := by
  have immlt : ∀ B i v, m.imm B i = some v → B < w.heap.size := fun B i v hi => World.block_lt_of_cell? w ⟨B, i, none⟩ (hS.imm B i v hi)
  have used : ∀ b o, H.get b = some o → live o = true → ∀ B d E, m.r b = some (B, d, E) → B < w.heap.size := by
    intro b o hb hl B d E hr
    have k := hS.obj b o hb B d E hr
    have : ∃ x, w.heap[B]? = some x := by
      cases o with
      | cells l => obtain ⟨c, el, h1, _⟩ := k; exact ⟨_, h1⟩
      | map es clock => obtain ⟨fs, h1, _⟩ := k; exact ⟨_, h1⟩
      | iter b since seen stepped => cases b with
        | none => exact ⟨_, k.2⟩
        | some b => obtain ⟨_, B', d', E', _, h2⟩ := k; exact ⟨_, h2⟩
      | loop st pend R params assign body => obtain ⟨r, nt, h1, _⟩ := k; exact ⟨_, h1⟩
      | defs => exact ⟨_, k⟩
      | dead => simp [live] at hl
    obtain ⟨x, hx⟩ := this
    exact (Array.getElem?_eq_some_iff.1 hx).1
  have hle : m.le (m.lit w.heap.size c) := ⟨fun _ _ h => h, fun B o v h => by
    have := immlt B o v h
    have hne : B ≠ w.heap.size := by omega
    simp [M.lit, hne, h], rfl⟩
  refine ⟨hle, hS.below.alloc hS.base _, by have := hS.base; simp; omega, ?_, hS.own, hS.inj, ?_, ?_, hS.dom, hS.rsv, hS.asm⟩
  · intro b o hb B d E hr
    by_cases hl : live o = true
    · exact (hS.obj b o hb B d E hr).block hle (Below.heap_alloc w _ B (used b o hb hl B d E hr))
    · cases o <;> simp [live] at hl; trivial
  · intro B o v hi
    by_cases e : B = w.heap.size
    · subst e
      simp only [M.lit, if_true] at hi
      rw [World.cell?_alloc_new]; exact hi
    · simp only [M.lit, e, if_false] at hi
      rw [World.cell?_alloc_lt w _ ⟨B, o, none⟩ (immlt B o v hi)]
      exact hS.imm B o v hi
  · intro b o hb hl B d E hr i
    have := used b o hb hl B d E hr
    have e : B ≠ w.heap.size := by omega
    simp only [M.lit, e, if_false]
    exact hS.apart b o hb hl B d E hr i

theorem Sim.readImm (hS : Sim P cd B0 w0 m H w) {a : Addr} {vs : List Value} (h : Imm m a vs) : ∀ j v, vs[j]? = some v → w.cell? (a.add j) = some v := by
  intro j v hv
  rw [add_at h.spot]
  exact hS.imm _ _ _ (h.at_ j v hv)
end
end Go.Ab
