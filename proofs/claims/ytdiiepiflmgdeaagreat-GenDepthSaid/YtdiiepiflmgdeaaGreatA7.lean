/- Operations that lay rows, that find places, that cut. -/
import Derived.Test.YtdiiepiflmgdeaaGreatA6
namespace Go.Ab
open Go.RowKit (Below)

section
variable {P : Program} {cd : Nat → Array Oper → DT → Bool} {B0 : Nat} {w0 : Frz} {m : M} {H H' : T AObj} {w : World} {nt : Nat} {R : T AV} {a : Act} {base : K} {v : AV}

theorem run_zero {e : TypeId} {zv : Value} (h : (P.info? e).bind (·.zero) = some zv) (w : World) : (zeroValue e).run P w = .ok zv w := by
  cases hi : P.info? e with
  | none => rw [hi] at h; cases h
  | some it =>
    rw [hi] at h
    have h' : it.zero = some zv := h
    simp [zeroValue, typeInfo, hi, h']

theorem run_lit (hR : RegsRel m nt R a.tmps) {t : TypeId} {k n : Nat} {ps : Array (Nat × Operand)} {z cs : List AV} {qs : List (Nat × Nat × Opd)} (hc : chkLit P nt t k ps n z qs = true) (hf : fillIn R z qs = some cs) (w : World) :
    n = k ∧ ∃ (c : Array Value) (e : TypeId), (Instr.buildSlice t k (ps.map fun (i, x) => (i, a.eval x))).run P w = .ok (.slice (some ⟨w.heap.size, 0, none⟩) k k) (w.alloc (.cells c e)) ∧ RelL m cs c.toList := by
  unfold chkLit at hc
  split at hc
  · rename_i e hu
    split at hc
    · rename_i sz hsz
      simp only [Bool.and_eq_true, beq_iff_eq, decide_eq_true_eq, bne_iff_ne] at hc
      obtain ⟨⟨⟨⟨rfl, hle⟩, hp⟩, hsz0⟩, hz⟩ := hc
      refine ⟨rfl, ?_⟩
      by_cases h0 : n * sz = 0
      · rw [if_pos h0] at hz
        have hz' : z = [] := by split at hz <;> simp_all
        subst hz'
        obtain ⟨c', hf', hrel⟩ := fillIn_rel (c := #[]) hR (partsA hp) (by simp only [RelL]) hf
        refine ⟨c', e, ?_, hrel⟩
        have hf'' : Instr.fill (fun i => some (i * sz, sz)) #[] (ps.map fun (i, x) => (i, a.eval x)).toList = some c' := by simpa using hf'
        have hno : ¬ (n * sz > 2 ^ 24) := by omega
        simp only [Instr.buildSlice, Sem.run_bind, run_under hu, Result.andThen_ok, run_size hsz, Sem.run_ite, if_neg hno, if_pos h0, Sem.run_pure]
        have e0 : (Array.map (fun x => (#[] : Array Value)[x % (#[] : Array Value).size]!) (Array.range (n * sz))) = #[] := by rw [h0]; simp
        rw [e0, hf'']
        simp [newRow]
      · rw [if_neg h0] at hz
        split at hz
        · rename_i zv hzv
          have hzr := cokL_rel m z _ hz
          have e0 : (Array.map (fun x => zv.cells[x % zv.cells.size]!) (Array.range (n * sz))).toList = rowZeros zv.cells (n * sz) := by
            simp [rowZeros, Array.toList_range]
          obtain ⟨c', hf', hrel⟩ := fillIn_rel (c := Array.map (fun x => zv.cells[x % zv.cells.size]!) (Array.range (n * sz))) hR (partsA hp) (by rw [e0]; exact hzr) hf
          refine ⟨c', e, ?_, hrel⟩
          have hf'' : Instr.fill (fun i => some (i * sz, sz)) (Array.map (fun x => zv.cells[x % zv.cells.size]!) (Array.range (n * sz))) (ps.map fun (i, x) => (i, a.eval x)).toList = some c' := by simpa using hf'
          have hno : ¬ (n * sz > 2 ^ 24) := by omega
          simp only [Instr.buildSlice, Sem.run_bind, run_under hu, Result.andThen_ok, run_size hsz, Sem.run_ite, if_neg hno, if_neg h0, Sem.run_pure, run_zero hzv]
          rw [hf'']
          simp [newRow]
        · cases hz
    · cases hc
  · cases hc

theorem s_vlit (hR : RegsRel m nt R a.tmps) (hS : Sim P cd B0 w0 m H w) {o : Oper} {t : TypeId} {k n : Nat} {ps : Array (Nat × Operand)} {z : List AV} {qs : List (Nat × Nat × Opd)} (ho : o.op = .buildSlice t k ps)
    (hc : chkLit P nt t k ps n z qs = true) (hx : aexec base (.vlit n z qs) R H = some (v, H')) : Out P cd B0 w0 m ((execOp a.eval o).run P w) v H' := by
  simp only [aexec] at hx
  split at hx
  · rename_i cs hcs
    injection hx with hx; injection hx with e1 e2; subst e1 e2
    obtain ⟨rfl, c, e, hrun, hrel⟩ := run_lit hR hc hcs w
    obtain ⟨hle, hS'⟩ := hS.litRow c e
    refine ⟨_, _, _, hle, .inl (by simp only [execOp, ho, Sem.run_bind, hrun, Result.andThen_ok, Sem.run_pure]; rfl), ?_, hS'⟩
    simp only [Rel]
    refine ⟨_, _, c.toList, rfl, Nat.le_refl _, fun _ => rfl, hrel.mono hle, rfl, fun i u hi => ?_⟩
    simp only [M.lit, if_true, Nat.zero_add]
    simpa using hi
  · cases hx

theorem s_hlit (hR : RegsRel m nt R a.tmps) (hS : Sim P cd B0 w0 m H w) {o : Oper} {t : TypeId} {j k n : Nat} {ps : Array (Nat × Operand)} {z : List AV} {qs : List (Nat × Nat × Opd)} (ho : o.op = .buildSlice t k ps)
    (hc : chkLit P nt t k ps n z qs = true) (hx : aexec base (.hlit j n z qs) R H = some (v, H')) : Out P cd B0 w0 m ((execOp a.eval o).run P w) v H' := by
  simp only [aexec] at hx
  split at hx
  · rename_i cs hcs
    split at hx
    · rename_i H1 hH
      injection hx with hx; injection hx with e1 e2; subst e1 e2
      obtain ⟨rfl, c, e, hrun, hrel⟩ := run_lit hR hc hcs w
      have hlen := hrel.length
      simp only [Array.length_toList] at hlen
      obtain ⟨m', hle, hr, hS'⟩ := hS.newRow hH e (c := c) (E := c.size) (Nat.le_refl _) (by omega) (fun i x hx => by simpa using hrel.get i x hx)
      refine ⟨_, _, _, hle, .inl (by simp only [execOp, ho, Sem.run_bind, hrun, Result.andThen_ok, Sem.run_pure]; rfl), ?_, hS'⟩
      simp only [Rel]
      exact ⟨_, _, _, hr, rfl⟩
    · cases hx
  · cases hx

theorem s_alloc (hS : Sim P cd B0 w0 m H w) {o : Oper} {t : TypeId} {j : Nat} {z : List AV} (ho : o.op = .alloc t) (hc : zerosOk P t z = true)
    (hx : aexec base (.alloc j z) R H = some (v, H')) : Out P cd B0 w0 m ((execOp a.eval o).run P w) v H' := by
  obtain ⟨it, zv, hit, hzv, hzr⟩ := zeros_rel (m := m) hc
  simp only [aexec] at hx
  split at hx
  · rename_i H1 hH
    injection hx with hx; injection hx with e1 e2; subst e1 e2
    have hlen := hzr.length
    simp only [Array.length_toList] at hlen
    obtain ⟨m', hle, hr, hS'⟩ := hS.newRow hH t (c := zv.cells) (E := zv.cells.size) (Nat.le_refl _) (by omega) (fun i x hx => by simpa using hzr.get i x hx)
    refine ⟨_, _, _, hle, .inl (by
      simp only [execOp, ho, Instr.alloc, Sem.run_bind, run_zero (show (P.info? t).bind (·.zero) = some zv by rw [hit]; exact hzv), Result.andThen_ok, newVar, newRow, run_newObj, Sem.run_pure]; rfl), ?_, hS'⟩
    simp only [Rel]
    exact ⟨_, _, _, hr, rfl⟩
  · cases hx

theorem s_box (hR : RegsRel m nt R a.tmps) (hS : Sim P cd B0 w0 m H w) {o : Oper} {t : TypeId} {j n : Nat} {x : Opd} {y : Operand} (ho : o.op = .box t y) (hc : chkOpd nt y x = true)
    (hx : aexec base (.box j n x) R H = some (v, H')) : Out P cd B0 w0 m ((execOp a.eval o).run P w) v H' := by
  have hcr := cells_rel (ev_rel hR hc)
  simp only [aexec] at hx
  split at hx
  · split at hx
    · rename_i H1 hH
      injection hx with hx; injection hx with e1 e2; subst e1 e2
      have hlen := hcr.length
      simp only [Array.length_toList] at hlen
      obtain ⟨m', hle, hr, hS'⟩ := hS.newRow hH t (c := (a.eval y).cells) (E := (a.eval y).cells.size) (Nat.le_refl _) (by omega) (fun i x hx => by simpa using hcr.get i x hx)
      refine ⟨_, _, _, hle, .inl (by simp only [execOp, ho, Instr.box, newVar, newRow, Sem.run_bind, run_newObj, Result.andThen_ok, Sem.run_pure]; rfl), ?_, hS'⟩
      simp only [Rel]
      exact ⟨_, _, _, hr, rfl⟩
    · cases hx
  · cases hx

/-! ### places -/
theorem s_fieldAddr (hR : RegsRel m nt R a.tmps) (hS : Sim P cd B0 w0 m H w) {o : Oper} {t : TypeId} {f off : Nat} {x : Opd} {y : Operand} (ho : o.op = .fieldAddr t y f)
    (hc : chkOp P nt (.fieldAddr t y f) (.fieldAddr off x) = true) (hx : aexec base (.fieldAddr off x) R H = some (v, H')) : Out P cd B0 w0 m ((execOp a.eval o).run P w) v H' := by
  simp only [chkOp] at hc
  split at hc
  · rename_i fs hu
    split at hc
    · rename_i fd hfd
      simp only [Bool.and_eq_true, beq_iff_eq, bne_iff_ne] at hc
      obtain ⟨⟨⟨rfl, hsome⟩, hne⟩, ho'⟩ := hc
      obtain ⟨n, hn⟩ := Option.isSome_iff_exists.1 hsome
      have hn0 : n ≠ 0 := fun e => hne (by rw [hn, e])
      have r := ev_rel hR ho'
      generalize hv : a.eval y = u at r
      have hplace : ∀ ad : Addr, (fieldPlace ad fd).run P w = .ok (ad.add fd.offset) w := fun ad => by
        simp only [fieldPlace, Sem.run_bind, run_size hn, Result.andThen_ok, Sem.run_ite, if_neg hn0, Sem.run_pure]
      simp only [aexec] at hx
      split at hx
      · rename_i b of he
        rw [frcN_eq] at hx
        injection hx with hx; injection hx with e1 e2; subst e1 e2
        rw [he] at r
        simp only [Rel] at r
        obtain ⟨B, d, E, hr, rfl⟩ := r
        refine Out.same hS (u := .pointer (some ((⟨B, d + of, none⟩ : Addr).add fd.offset))) ?_ ?_
        · simp [execOp, ho, hv, Instr.fieldAt, run_under hu, hfd, Instr.sureAddr, hplace]
        · simp only [Rel]; exact ⟨B, d, E, hr, by rw [add_off, Nat.add_assoc]⟩
      · rename_i l he
        injection hx with hx; injection hx with e1 e2; subst e1 e2
        rw [he] at r
        simp only [Rel] at r
        obtain ⟨ad, cs, rfl, hrel, himm⟩ := r
        refine Out.same hS (u := .pointer (some (ad.add fd.offset))) ?_ ?_
        · simp [execOp, ho, hv, Instr.fieldAt, run_under hu, hfd, Instr.sureAddr, hplace]
        · simp only [Rel]; rw [dropN_eq]; exact ⟨_, _, rfl, hrel.drop _, himm.drop _⟩
      · cases hx
    · cases hc
  · cases hc

/- a part of a value of several cells -/
theorem run_partOf {t : TypeId} {ag : Bool} {n : Nat} (ht : ldOk P t ag n = true) {l cs : List AV} {off : Nat} {v : AV} (hcs : takeN n (dropN off l) = some cs) (hv : mkv ag cs = some v) {c : Array Value} (hr : RelL m l c.toList) (w : World) :
    ∃ u, (part t c off).run P w = .ok u w ∧ Rel m v u := by
  obtain ⟨h1, h2, h3⟩ := ldOk_some ht
  rw [takeN_eq, dropN_eq] at hcs
  split at hcs
  · rename_i hn
    injection hcs with hcs; subst hcs
    have hrel := (hr.drop off).take n
    cases ag with
    | true =>
      rw [mkv_true] at hv; injection hv with hv; subst hv
      refine ⟨.agg (c.extract off (off + n)), by simp [part, run_agg h1, run_size h2], ?_⟩
      simp only [Rel]
      refine ⟨_, rfl, ?_⟩
      simpa [Array.toList_extract, List.extract, Nat.add_sub_cancel_left] using hrel
    | false =>
      have hcs := mkv_false hv
      rw [hcs] at hrel
      simp only [RelL] at hrel
      obtain ⟨u, ws, he, hu, rfl⟩ := hrel
      have h0 : c[off]? = some u := by
        have : ((c.toList.drop off).take n)[0]? = some u := by rw [he]; rfl
        simp only [List.getElem?_take, List.getElem?_drop] at this
        split at this
        · simpa using this
        · cases this
      exact ⟨u, by simp [part, run_agg h1, h0], hu⟩
  · cases hcs

theorem s_field (hR : RegsRel m nt R a.tmps) (hS : Sim P cd B0 w0 m H w) {o : Oper} {t : TypeId} {f off n : Nat} {ag : Bool} {x : Opd} {y : Operand} (ho : o.op = .field t y f)
    (hc : chkOp P nt (.field t y f) (.field ag n off x) = true) (hx : aexec base (.field ag n off x) R H = some (v, H')) : Out P cd B0 w0 m ((execOp a.eval o).run P w) v H' := by
  simp only [chkOp] at hc
  split at hc
  · rename_i fs hu
    split at hc
    · rename_i fd hfd
      simp only [Bool.and_eq_true, beq_iff_eq] at hc
      obtain ⟨⟨rfl, hld⟩, ho'⟩ := hc
      have r := ev_rel hR ho'
      generalize hv : a.eval y = u at r
      simp only [aexec] at hx
      split at hx
      · rename_i l he
        rw [he] at r
        simp only [Rel] at r
        obtain ⟨c, rfl, hrel⟩ := r
        split at hx
        · rename_i cs hcs
          split at hx
          · rename_i v' hv'
            injection hx with hx; injection hx with e1 e2; subst e1 e2
            obtain ⟨u, hrun, hu'⟩ := run_partOf hld hcs hv' hrel w
            exact Out.same hS (u := u) (by simp [execOp, ho, hv, Instr.field, run_under hu, hfd, asAgg, hrun]) hu'
          · cases hx
        · cases hx
      · cases hx
    · cases hc
  · cases hc

theorem place_some {n i : Nat} {x : AV} (h : place n x = some i) : ∃ k, x = .int k (.ofNat i) ∧ i < n := by
  unfold place at h
  split at h
  · split at h
    · rename_i hb; injection h with h; subst h; exact ⟨_, rfl, by simpa using hb⟩
    · cases h
  · cases h

theorem s_indexAddr (hR : RegsRel m nt R a.tmps) (hS : Sim P cd B0 w0 m H w) {o : Oper} {t : TypeId} {sz : Nat} {x i : Opd} {y k : Operand} (ho : o.op = .indexAddr t y k)
    (hc : chkOp P nt (.indexAddr t y k) (.indexAddr sz x i) = true) (hx : aexec base (.indexAddr sz x i) R H = some (v, H')) : Out P cd B0 w0 m ((execOp a.eval o).run P w) v H' := by
  simp only [chkOp] at hc
  split at hc
  · rename_i e hu
    simp only [Bool.and_eq_true, beq_iff_eq] at hc
    obtain ⟨⟨hsz, h1⟩, h2⟩ := hc
    have r1 := ev_rel hR h1
    have r2 := ev_rel hR h2
    generalize hv : a.eval y = u at r1
    generalize hv2 : a.eval k = u2 at r2
    have key : ∀ {n j : Nat} {ad : Addr} {c : Nat}, place n (ev R i) = some j → u = .slice (some ad) n c → (execOp a.eval o).run P w = .ok (.value (.pointer (some (ad.add (j * sz))))) w := by
      intro n j ad c hp hs
      obtain ⟨kk, hk, hlt⟩ := place_some hp
      rw [hk] at r2
      simp only [Rel] at r2
      subst hs
      have hcond : 0 ≤ Int.ofNat j ∧ Int.ofNat j < (n : Int) := ⟨Int.natCast_nonneg j, Int.ofNat_lt.2 hlt⟩
      simp only [execOp, ho, hv, hv2, r2, Instr.indexAt, asIntOf, Sem.run_bind, Sem.run_pure, Result.andThen_ok, run_under hu, Sem.run_ite, if_pos hcond, run_size hsz]
      simp
    simp only [aexec] at hx
    split at hx
    · rename_i b of n c he
      split at hx
      · rename_i j hj
        rw [frcN_eq] at hx
        injection hx with hx; injection hx with e1 e2; subst e1 e2
        rw [he] at r1
        simp only [Rel] at r1
        obtain ⟨B, d, E, hr, hs⟩ := r1
        refine Out.same hS (key hj hs) ?_
        simp only [Rel]; exact ⟨B, d, E, hr, by rw [add_off, Nat.add_assoc]⟩
      · cases hx
    · rename_i b of n c he
      split at hx
      · rename_i j hj
        rw [frcN_eq] at hx
        injection hx with hx; injection hx with e1 e2; subst e1 e2
        rw [he] at r1
        simp only [Rel] at r1
        obtain ⟨B, d, E, cc, hr, hs, _⟩ := r1
        refine Out.same hS (key hj hs) ?_
        simp only [Rel]; exact ⟨B, d, E, hr, by rw [add_off, Nat.add_assoc]⟩
      · cases hx
    · rename_i l n ex he
      split at hx
      · rename_i j hj
        injection hx with hx; injection hx with e1 e2; subst e1 e2
        rw [he] at r1
        simp only [Rel] at r1
        obtain ⟨ad, cc, cs, hs, _, _, hrel, himm⟩ := r1
        refine Out.same hS (key hj hs) ?_
        simp only [Rel]; rw [dropN_eq]; exact ⟨_, _, rfl, hrel.drop _, himm.drop _⟩
      · cases hx
    · cases hx
  · cases hc
end
end Go.Ab
