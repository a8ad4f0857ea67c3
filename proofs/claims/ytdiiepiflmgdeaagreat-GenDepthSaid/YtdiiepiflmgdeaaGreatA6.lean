/- Each operation that is no call: what the abstract run does, the model does. -/
import Derived.Test.YtdiiepiflmgdeaaGreatA5
namespace Go.Ab
open Go.RowKit (Below)

def Out (P : Program) (cd : Nat → Array Oper → DT → Bool) (B0 : Nat) (w0 : Frz) (m : M) (res : Result Next) (v : AV) (H' : T AObj) : Prop :=
  ∃ m' v' w', m.le m' ∧ (res = .ok (.value v') w' ∨ (res = .ok .skip w' ∧ v' = Go.undef)) ∧ Rel m' v v' ∧ Sim P cd B0 w0 m' H' w'

section
variable {P : Program} {cd : Nat → Array Oper → DT → Bool} {B0 : Nat} {w0 : Frz} {m : M} {H H' : T AObj} {w : World} {nt : Nat} {R : T AV} {a : Act} {base : K} {v : AV}

theorem ev_t (R : T AV) (k : K) : ev R (.t k) = (R.get k).getD undef := by
  unfold ev
  cases h : R.get k <;> simp [h]

theorem ev_rel (hR : RegsRel m nt R a.tmps) {o : Operand} {x : Opd} (h : chkOpd nt o x = true) : Rel m (ev R x) (a.eval o) := by
  cases x with
  | t k =>
    cases o with
    | tmp t =>
      simp only [chkOpd, Bool.and_eq_true, Nat.beq_eq, Nat.blt_eq] at h
      obtain ⟨rfl, hlt⟩ := h
      rw [ev_t]
      exact hR.2 k hlt
    | _ => simp [chkOpd] at h
  | c u =>
    have he : ev R (.c u) = u := rfl
    rw [he]
    cases o with
    | const c => exact cok_rel m u c (by simpa [chkOpd] using h)
    | func f =>
      simp only [chkOpd] at h
      split at h
      · rename_i g
        simp only [Nat.beq_eq] at h
        subst h
        simp only [Rel]
        exact ⟨#[], #[], rfl, by simp only [RelL], by simp only [RelL]⟩
      · cases h
    | _ => simp [chkOpd] at h

theorem evs_rel (hR : RegsRel m nt R a.tmps) : ∀ {os : List Operand} {xs : List Opd}, chkOpds nt os xs = true → RelL m (mapL (ev R) xs) (os.map a.eval)
  | [], [], _ => by rw [mapL_eq]; simp only [List.map_nil, RelL]
  | o :: os, x :: xs, h => by
    simp only [chkOpds, Bool.and_eq_true] at h
    have := evs_rel hR h.2
    rw [mapL_eq] at this ⊢
    simp only [List.map_cons, RelL]
    exact ⟨_, _, rfl, ev_rel hR h.1, this⟩
  | [], _ :: _, h => by simp [chkOpds] at h
  | _ :: _, [], h => by simp [chkOpds] at h

theorem Out.same (hS : Sim P cd B0 w0 m H w) {u : Value} {res : Result Next} (h : res = .ok (.value u) w) (hr : Rel m v u) : Out P cd B0 w0 m res v H :=
  ⟨m, u, w, M.le.refl m, .inl h, hr, hS⟩

theorem run_under {t : TypeId} {d : TypeDesc} (h : P.underlying t = some d) (w : World) : (underlying t).run P w = .ok d w := by simp [underlying, h]
theorem run_size {t : TypeId} {n : Nat} (h : szOf P t = some n) (w : World) : (sizeOf t).run P w = .ok n w := by
  unfold szOf at h
  cases hi : P.info? t with
  | none => rw [hi] at h; cases h
  | some i => rw [hi] at h; injection h with h; simp [sizeOf, typeInfo, hi, h]
theorem run_agg {t : TypeId} {b : Bool} (h : aggT P t = some b) (w : World) : (isAgg t).run P w = .ok b w := by
  unfold aggT at h
  split at h
  · rename_i fs hu; injection h with h; subst h; simp [isAgg, run_under hu]
  · rename_i n e hu; injection h with h; subst h; simp [isAgg, run_under hu]
  · rename_i d hn1 hn2 hu
    injection h with h; subst h
    simp only [isAgg, Sem.run_bind, run_under hu, Result.andThen_ok]
    rfl
  · cases h

/-! ### moves -/
theorem s_mv (hR : RegsRel m nt R a.tmps) (hS : Sim P cd B0 w0 m H w) {o : Oper} {x : Opd} {y : Operand} (ho : o.op = .move y ∨ o.op = .assign y) (hc : chkOpd nt y x = true) :
    Out P cd B0 w0 m ((execOp a.eval o).run P w) (ev R x) H := by
  refine Out.same hS (u := a.eval y) ?_ (ev_rel hR hc)
  rcases ho with ho | ho <;> simp [execOp, ho]

theorem s_pick (hR : RegsRel m nt R a.tmps) (hS : Sim P cd B0 w0 m H w) {o : Oper} {c x y : Opd} {c' x' y' : Operand} (ho : o.op = .pick c' x' y') (h1 : chkOpd nt c' c = true) (h2 : chkOpd nt x' x = true) (h3 : chkOpd nt y' y = true)
    {b : Bool} (hb : ev R c = .bool b) : Out P cd B0 w0 m ((execOp a.eval o).run P w) (if b then ev R x else ev R y) H := by
  have r1 := ev_rel hR h1
  rw [hb] at r1
  simp only [Rel] at r1
  cases b with
  | true => exact Out.same hS (u := a.eval x') (by simp [execOp, ho, r1, asBool]) (ev_rel hR h2)
  | false => exact Out.same hS (u := a.eval y') (by simp [execOp, ho, r1, asBool]) (ev_rel hR h3)

theorem s_nilchk (hR : RegsRel m nt R a.tmps) (hS : Sim P cd B0 w0 m H w) {o : Oper} {x : Opd} {y : Operand} (ho : o.op = .nilCheck y) (hc : chkOpd nt y x = true)
    (hx : aexec base (.nilchk x) R H = some (v, H')) : Out P cd B0 w0 m ((execOp a.eval o).run P w) v H' := by
  have r := ev_rel hR hc
  simp only [aexec] at hx
  generalize hu : a.eval y = u at r
  split at hx
  · rename_i b of he
    cases hx
    rw [he] at r
    refine Out.same hS (u := u) ?_ r
    simp only [Rel] at r
    obtain ⟨B, d, E, _, rfl⟩ := r
    simp [execOp, ho, hu]
  · rename_i l he
    cases hx
    rw [he] at r
    refine Out.same hS (u := u) ?_ r
    simp only [Rel] at r
    obtain ⟨ad, cs, rfl, _⟩ := r
    simp [execOp, ho, hu]
  · rename_i f p q he
    cases hx
    rw [he] at r
    refine Out.same hS (u := u) ?_ r
    simp only [Rel] at r
    obtain ⟨as, bs, rfl, _⟩ := r
    simp [execOp, ho, hu]
  · rename_i b he
    cases hx
    rw [he] at r
    refine Out.same hS (u := u) ?_ r
    simp only [Rel] at r
    obtain ⟨B, d, E, _, rfl⟩ := r
    simp [execOp, ho, hu]
  · cases hx

/-! ### cells -/
theorem ldOk_some {t : TypeId} {ag : Bool} {n : Nat} (h : ldOk P t ag n = true) : aggT P t = some ag ∧ szOf P t = some n ∧ (ag = true ∨ n = 1) := by
  simp only [ldOk, Bool.and_eq_true, beq_iff_eq, Bool.or_eq_true] at h
  exact ⟨h.1.1, h.1.2, h.2⟩
theorem mkv_true (cs : List AV) : mkv true cs = some (.agg cs) := rfl
theorem mkv_false {cs : List AV} {v : AV} (h : mkv false cs = some v) : cs = [v] := by
  cases cs with
  | nil => simp [mkv] at h
  | cons x l => cases l with
    | nil => simp [mkv] at h; rw [h]
    | cons y l => simp [mkv] at h

/- a value out of so many cells that lie in memory from a place on -/
theorem run_loadVar {t : TypeId} {ag : Bool} {n : Nat} (ht : ldOk P t ag n = true) {cs : List AV} {v : AV} (hv : mkv ag cs = some v) {vs : List Value} (hl : vs.length = n) (hr : RelL m cs vs)
    {ad : Addr} (hc : ∀ j u, vs[j]? = some u → w.cell? (ad.add j) = some u) : ∃ u, (loadVar t ad).run P w = .ok u w ∧ Rel m v u := by
  obtain ⟨h1, h2, h3⟩ := ldOk_some ht
  cases ag with
  | true =>
    rw [mkv_true] at hv; injection hv with hv; subst hv
    refine ⟨.agg vs.toArray, ?_, ?_⟩
    · have := run_loadCells_list (P := P) w ad vs hc
      rw [hl] at this
      simp [loadVar, run_agg h1, run_size h2, this]
    · simp only [Rel]; exact ⟨vs.toArray, rfl, by simpa using hr⟩
  | false =>
    have hcs := mkv_false hv
    subst hcs
    simp only [RelL] at hr
    obtain ⟨u, ws, rfl, hu, rfl⟩ := hr
    have h0 := hc 0 u rfl
    have e0 : ad.add 0 = ad := rfl
    rw [e0] at h0
    exact ⟨u, by simp [loadVar, run_agg h1, h0], hu⟩

theorem add_off {B d : Nat} (j : Nat) : (⟨B, d, none⟩ : Addr).add j = ⟨B, d + j, none⟩ := add_at rfl j

theorem s_load (hR : RegsRel m nt R a.tmps) (hS : Sim P cd B0 w0 m H w) {o : Oper} {ag : Bool} {n : Nat} {x : Opd} {y : Operand} {t : TypeId} (ho : o.op = .load t y) (ht : ldOk P t ag n = true) (hc : chkOpd nt y x = true)
    (hx : aexec base (.load ag n x) R H = some (v, H')) : Out P cd B0 w0 m ((execOp a.eval o).run P w) v H' := by
  have r := ev_rel hR hc
  simp only [aexec] at hx
  generalize hu : a.eval y = u at r
  split at hx
  · rename_i b of he
    rw [he] at r
    simp only [Rel] at r
    obtain ⟨B, d, E, hr, rfl⟩ := r
    split at hx
    · rename_i cs hcs
      split at hx
      · rename_i v' hv
        injection hx with hx; injection hx with e1 e2; subst e1 e2
        obtain ⟨vs, hl, hrel, hcell⟩ := hS.read hcs hr
        obtain ⟨u, hrun, hvu⟩ := run_loadVar (P := P) (w := w) ht hv hl hrel (ad := ⟨B, d + of, none⟩) (fun j u hj => by rw [add_off]; exact hcell j u hj)
        exact Out.same hS (u := u) (by simp [execOp, ho, hu, Instr.loadAt, Instr.sureAddr, hrun]) hvu
      · cases hx
    · cases hx
  · rename_i l he
    rw [he] at r
    simp only [Rel] at r
    obtain ⟨ad, vs, rfl, hrel, himm⟩ := r
    split at hx
    · rename_i cs hcs
      split at hx
      · rename_i v' hv
        injection hx with hx; injection hx with e1 e2; subst e1 e2
        rw [takeN_eq] at hcs
        split at hcs
        · rename_i hn
          injection hcs with hcs; subst hcs
          have hlen := hrel.length
          obtain ⟨u, hrun, hvu⟩ := run_loadVar (P := P) (w := w) ht hv (vs := vs.take n) (by simp; omega) (hrel.take n) (ad := ad) (fun j u hj => by
            rw [List.getElem?_take] at hj
            split at hj
            · exact hS.readImm himm j u hj
            · cases hj)
          exact Out.same hS (u := u) (by simp [execOp, ho, hu, Instr.loadAt, Instr.sureAddr, hrun]) hvu
        · cases hcs
      · cases hx
    · cases hx
  · cases hx

theorem s_store (hR : RegsRel m nt R a.tmps) (hS : Sim P cd B0 w0 m H w) {o : Oper} {n : Nat} {x y : Opd} {x' y' : Operand} {t : TypeId} (ho : o.op = .store t x' y') (ht : szOf P t = some n) (h1 : chkOpd nt x' x = true) (h2 : chkOpd nt y' y = true)
    (hx : aexec base (.store n x y) R H = some (v, H')) : Out P cd B0 w0 m ((execOp a.eval o).run P w) v H' := by
  have r1 := ev_rel hR h1
  have r2 := ev_rel hR h2
  simp only [aexec] at hx
  generalize hu : a.eval x' = u at r1
  split at hx
  · rename_i b of he
    rw [he] at r1
    simp only [Rel] at r1
    obtain ⟨B, d, E, hr, rfl⟩ := r1
    split at hx
    · rename_i hlen
      simp only [len_eq, Nat.beq_eq] at hlen
      split at hx
      · rename_i H1 hH
        injection hx with hx; injection hx with e1 e2; subst e1 e2
        have hcr := cells_rel r2
        obtain ⟨w', hrun, hS'⟩ := hS.write hH hr hcr
        have hsz : (a.eval y').cells.size = n := by
          have := hcr.length
          simp at this; omega
        refine ⟨m, Go.undef, w', M.le.refl m, .inr ⟨?_, rfl⟩, ?_, hS'⟩
        · simp [execOp, ho, hu, Instr.storeAt, Instr.sureAddr, storeVar, run_size ht, hsz, hrun]
        · simp only [undef, Rel]; exact ⟨#[], rfl, by simp only [RelL]⟩
      · cases hx
    · cases hx
  · cases hx

/-! ### values of several cells -/
theorem putAt_zipIdx (l : List Value) : ∀ (k off : Nat) (c : Array Value), (l.zipIdx k).foldl (fun (cs : Array Value) (p : Value × Nat) => cs.setIfInBounds (off + p.2) p.1) c = putAt c (off + k) l := by
  induction l with
  | nil => intro k off c; rfl
  | cons x l ih =>
    intro k off c
    simp only [List.zipIdx_cons, List.foldl_cons, putAt]
    rw [ih]
    simp [Nat.add_assoc]
theorem RelL.putAt {cs us : List AV} {c : Array Value} {ws : List Value} {off : Nat} (h : RelL m cs c.toList) (k : RelL m us ws) (hle : off + us.length ≤ cs.length) :
    RelL m (cs.take off ++ us ++ cs.drop (off + us.length)) (putAt c off ws).toList := by
  have hl := h.length
  have kl := k.length
  simp only [Array.length_toList] at hl
  refine RelL.of_get (by simp [putAt_size]; omega) fun i x hx => ?_
  rw [Array.getElem?_toList, putAt_get ws c off i (by omega)]
  by_cases h1 : i < off
  · have h2 : ¬ (off ≤ i ∧ i < off + ws.length) := by omega
    rw [if_neg h2]
    rw [List.append_assoc, List.getElem?_append_left (by simp; omega), List.getElem?_take, if_pos h1] at hx
    simpa using h.get i x hx
  · by_cases h3 : i < off + us.length
    · have h2 : off ≤ i ∧ i < off + ws.length := by omega
      rw [if_pos h2]
      rw [List.append_assoc, List.getElem?_append_right (by simp; omega), List.getElem?_append_left (by simp; omega)] at hx
      have e1 : i - (cs.take off).length = i - off := by simp; omega
      rw [e1] at hx
      exact k.get _ x hx
    · have h2 : ¬ (off ≤ i ∧ i < off + ws.length) := by omega
      rw [if_neg h2]
      rw [List.getElem?_append_right (by simp; omega), List.getElem?_drop] at hx
      have e1 : off + us.length + (i - (cs.take off ++ us).length) = i := by simp; omega
      rw [e1] at hx
      simpa using h.get i x hx

/- the parts, as the check has them -/
inductive Parts (nt : Nat) (place : Nat → Option (Nat × Nat)) : List (Nat × Operand) → List (Nat × Nat × Opd) → Prop
  | nil : Parts nt place [] []
  | cons {i off n : Nat} {o : Operand} {x : Opd} {ps : List (Nat × Operand)} {qs : List (Nat × Nat × Opd)} (h : place i = some (off, n)) (ho : chkOpd nt o x = true) (t : Parts nt place ps qs) :
      Parts nt place ((i, o) :: ps) ((off, n, x) :: qs)

theorem fillIn_rel (hR : RegsRel m nt R a.tmps) {place : Nat → Option (Nat × Nat)} {ps : List (Nat × Operand)} {qs : List (Nat × Nat × Opd)} (hp : Parts nt place ps qs) :
    ∀ {cs cs' : List AV} {c : Array Value}, RelL m cs c.toList → fillIn R cs qs = some cs' → ∃ c', Instr.fill place c (ps.map fun p => (p.1, a.eval p.2)) = some c' ∧ RelL m cs' c'.toList := by
  induction hp with
  | nil =>
    intro cs cs' c hr h
    injection h with h; subst h
    exact ⟨c, rfl, hr⟩
  | cons hpl ho ht ih =>
    rename_i i off n o x ps qs
    intro cs cs' c hr h
    have hcr := cells_rel (ev_rel hR ho)
    have hlen := hcr.length
    have hrl := hr.length
    simp only [Array.length_toList] at hlen hrl
    have h' : (if Nat.beq (len (cellsOf (ev R x))) n && allL scal (cellsOf (ev R x)) then (match splice off (cellsOf (ev R x)) cs with
        | some cs => fillIn R cs qs
        | none => none) else none) = some cs' := h
    split at h'
    · rename_i hn
      simp only [Bool.and_eq_true, len_eq, Nat.beq_eq] at hn
      rw [splice_eq] at h'
      split at h'
      · rename_i cs1 hcs1
        split at hcs1
        · rename_i hle
          injection hcs1 with hcs1; subst hcs1
          have hput := hr.putAt hcr hle
          obtain ⟨c', hc', hrel⟩ := ih hput h'
          refine ⟨c', ?_, hrel⟩
          simp only [List.map_cons, Instr.fill, hpl]
          have hcond : (decide ((a.eval o).cells.size ≠ n) || decide (off + (a.eval o).cells.size > c.size)) = false := by
            simp; omega
          rw [if_neg (by simp; omega)]
          have hz : (a.eval o).cells.zipIdx.foldl (fun cs (x : Value × Nat) => match x with | (c, j) => cs.setIfInBounds (off + j) c) c = Ab.putAt c off (a.eval o).cells.toList := by
            rw [← Array.foldl_toList, Array.toList_zipIdx]
            exact putAt_zipIdx _ 0 off c
          rw [hz]
          exact hc'
        · cases hcs1
      · cases h'
    · cases h'

theorem partsA {sz : Nat} : ∀ {ps : List (Nat × Operand)} {qs : List (Nat × Nat × Opd)}, chkPartsA nt sz ps qs = true → Parts nt (fun i => some (i * sz, sz)) ps qs
  | [], [], _ => .nil
  | (i, o) :: ps, (off, n, x) :: qs, h => by
    simp only [chkPartsA, Bool.and_eq_true, beq_iff_eq] at h
    obtain ⟨⟨⟨rfl, rfl⟩, h3⟩, h4⟩ := h
    exact .cons rfl h3 (partsA h4)
  | [], _ :: _, h => by simp [chkPartsA] at h
  | _ :: _, [], h => by simp [chkPartsA] at h
theorem partsS {fs : Array Field} : ∀ {ps : List (Nat × Operand)} {qs : List (Nat × Nat × Opd)}, chkPartsS P nt fs ps qs = true → Parts nt (fun i => (fs[i]?).bind fun f => (szOf P f.type).map fun n => (f.offset, n)) ps qs
  | [], [], _ => .nil
  | (i, o) :: ps, (off, n, x) :: qs, h => by
    simp only [chkPartsS, Bool.and_eq_true] at h
    obtain ⟨h1, h4⟩ := h
    split at h1
    · rename_i f hf
      simp only [Bool.and_eq_true, beq_iff_eq] at h1
      obtain ⟨⟨rfl, h2⟩, h3⟩ := h1
      exact .cons (by simp [hf, h2]) h3 (partsS h4)
    · cases h1
  | [], _ :: _, h => by simp [chkPartsS] at h
  | _ :: _, [], h => by simp [chkPartsS] at h

theorem zeros_rel {t : TypeId} {z : List AV} (h : zerosOk P t z = true) : ∃ it zv, P.info? t = some it ∧ it.zero = some zv ∧ RelL m z zv.cells.toList := by
  unfold zerosOk at h
  split at h
  · rename_i v hv
    cases hi : P.info? t with
    | none => rw [hi] at hv; cases hv
    | some it => rw [hi] at hv; exact ⟨it, v, rfl, hv, cokL_rel m z _ h⟩
  · cases h

theorem fieldsSized_map {fs : List Field} (h : fieldsSized P fs = true) : ∃ places, fs.mapM (fun f => (P.info? f.type).map fun i => (f.offset, i.size)) = some places ∧
    ∀ i : Nat, places[i]? = (fs[i]?).bind fun f => (szOf P f.type).map fun n => (f.offset, n) := by
  induction fs with
  | nil => exact ⟨[], rfl, fun i => by simp⟩
  | cons f fs ih =>
    simp only [fieldsSized, List.all_cons, Bool.and_eq_true] at h
    obtain ⟨places, hp, hi⟩ := ih (by simpa [fieldsSized] using h.2)
    unfold szOf at h
    cases hf : P.info? f.type with
    | none => rw [hf] at h; simp at h
    | some it =>
      refine ⟨(f.offset, it.size) :: places, ?_, fun i => ?_⟩
      · simp [List.mapM_cons, hf, hp]
      · cases i with
        | zero => simp [szOf, hf]
        | succ i => simpa using hi i

theorem s_build (hR : RegsRel m nt R a.tmps) (hS : Sim P cd B0 w0 m H w) {o : Oper} {t : TypeId} {ps : Array (Nat × Operand)} {z : List AV} {qs : List (Nat × Nat × Opd)} (ho : o.op = .build t ps)
    (hc : chkOp P nt (.build t ps) (.build z qs) = true) (hx : aexec base (.build z qs) R H = some (v, H')) : Out P cd B0 w0 m ((execOp a.eval o).run P w) v H' := by
  simp only [chkOp, Bool.and_eq_true] at hc
  obtain ⟨hz, hc⟩ := hc
  obtain ⟨it, zv, hit, hzv, hzr⟩ := zeros_rel (m := m) hz
  simp only [aexec] at hx
  split at hx
  · rename_i cs hcs
    injection hx with hx; injection hx with e1 e2; subst e1 e2
    have key : ∃ cells, P.built t (ps.map fun (i, x) => (i, a.eval x)).toList = some cells ∧ RelL m cs cells.toList := by
      split at hc
      · rename_i fs hu
        simp only [Bool.and_eq_true] at hc
        obtain ⟨places, hp, hpi⟩ := fieldsSized_map hc.1
        obtain ⟨c', hf, hrel⟩ := fillIn_rel hR (partsS hc.2) hzr hcs
        refine ⟨c', ?_, hrel⟩
        simp only [Program.built, hit, hu, hzv, hp]
        have e : (places.toArray[·]?) = (fun (i : Nat) => (fs[i]?).bind fun (f : Field) => (szOf P f.type).map fun n => (f.offset, n)) := by
          funext i
          simp [hpi i]
        rw [e]
        simpa using hf
      · rename_i n e hu
        split at hc
        · rename_i sz hsz
          obtain ⟨c', hf, hrel⟩ := fillIn_rel hR (partsA hc) hzr hcs
          unfold szOf at hsz
          cases hie : P.info? e with
          | none => rw [hie] at hsz; cases hsz
          | some ie =>
            rw [hie] at hsz; injection hsz with hsz; subst hsz
            refine ⟨c', ?_, hrel⟩
            simp only [Program.built, hit, hu, hzv, hie]
            simpa using hf
        · cases hc
      · cases hc
    obtain ⟨cells, hb, hrel⟩ := key
    refine Out.same hS (u := .agg cells) ?_ (by simp only [Rel]; exact ⟨cells, rfl, hrel⟩)
    simp [execOp, ho, run_build w t _ cells hb]
  · cases hx
end
end Go.Ab
