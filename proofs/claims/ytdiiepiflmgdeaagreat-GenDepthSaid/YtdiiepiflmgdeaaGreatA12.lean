/- Maps written, iterators, lengths. -/
import Derived.Test.YtdiiepiflmgdeaaGreatA11
namespace Go.Ab
open Go.RowKit (Below)

section
variable {P : Program} {cd : Nat → Array Oper → DT → Bool} {B0 : Nat} {w0 : Frz} {m : M} {H H' : T AObj} {w : World} {nt : Nat} {R : T AV} {a : Act} {base : K} {v : AV}

/- an object of another kind than a row turns -/
theorem Sim.setObj (hS : Sim P cd B0 w0 m H w) {id : K} {o o' : AObj} {B d E : Nat} (hid : H.get id = some o) (hl : live o = true) (hr : m.r id = some (B, d, E)) {n old : Obj} (hb : w.heap[B]? = some old)
    (hob : ∀ w' : World, w'.heap[B]? = some n → ObjRel P cd m o' B d E w') : Sim P cd B0 w0 m (H.set id o') { w with heap := w.heap.setIfInBounds B n } := by
  have hlt : B < w.heap.size := (Array.getElem?_eq_some_iff.1 hb).1
  refine hS.turn hid hl hr (fun k hk => ?_) rfl rfl rfl (by simp) (hob _ (by simp [hlt]))
  simp [Ne.symm hk]

theorem undef_rel (m : M) : Rel m undef Go.undef := by simp only [undef, Rel]; exact ⟨#[], rfl, by simp only [RelL]⟩

theorem RelL.one {x : AV} {v : Value} (h : Rel m x v) : RelL m [x] [v] := by simp only [RelL]; exact ⟨_, _, rfl, h, rfl⟩

theorem s_mapput (hR : RegsRel m nt R a.tmps) (hS : Sim P cd B0 w0 m H w) {o : Oper} {t : TypeId} {q : LK} {x k y : Opd} {x' k' y' : Operand} (ho : o.op = .mapUpdate t x' k' y' ∨ o.op = .insert t x' k' y')
    (hc : chkOp P nt (.mapUpdate t x' k' y') (.mapput q x k y) = true) (hx : aexec base (.mapput q x k y) R H = some (v, H')) : Out P cd B0 w0 m ((execOp a.eval o).run P w) v H' := by
  simp only [chkOp] at hc
  split at hc
  · rename_i kt e hu
    simp only [Bool.and_eq_true] at hc
    obtain ⟨⟨⟨hk, h1⟩, h2⟩, h3⟩ := hc
    have r1 := ev_rel hR h1
    have r2 := ev_rel hR h2
    have r3 := ev_rel hR h3
    generalize hu1 : a.eval x' = u1 at r1
    generalize hu2 : a.eval k' = u2 at r2
    generalize hu3 : a.eval y' = u3 at r3
    simp only [aexec] at hx
    split at hx
    · rename_i H1 hH
      injection hx with hx; injection hx with e1 e2; subst e1 e2
      obtain ⟨d, hd⟩ : ∃ d, P.underlying kt = some d := by
        unfold keyOk at hk
        cases hh : P.underlying kt with
        | none => rw [hh] at hk; cases hk
        | some d => exact ⟨d, rfl⟩
      have fin : ∀ w', (Instr.mapUpdate t u1 u2 u3).run P w = .ok () w' → Sim P cd B0 w0 m H1 w' → Out P cd B0 w0 m ((execOp a.eval o).run P w) undef H1 := by
        intro w' h1 h2
        refine ⟨m, Go.undef, w', M.le.refl m, .inr ⟨?_, rfl⟩, undef_rel m, h2⟩
        rcases ho with ho | ho <;> simp only [execOp, ho, hu1, hu2, hu3, Sem.run_bind, h1, Result.andThen_ok, Sem.run_pure]
      unfold mapputOp at hH
      split at hH
      · rename_i b he
        rw [he] at r1
        simp only [Rel] at r1
        obtain ⟨B, d', E, hr, rfl⟩ := r1
        split at hH
        · rename_i es clock hb
          obtain ⟨fs, hfs, hrel⟩ := hS.obj b _ hb B d' E hr
          have hget := run_getObj' (P := P) hfs (fun _ _ _ h => by cases h)
          have hset : ∀ n, (setObj B n).run P w = .ok () { w with heap := w.heap.setIfInBounds B n } := fun n => run_setObj' n hfs (fun _ _ _ h => by cases h)
          split at hH
          · cases hH
          · rename_i hf
            rcases findNow_rel hd hk r2 0 hrel hf with ⟨_, hn⟩ | ⟨j, y, u, e', f', hh, _⟩
            · have hfk := MapKept.run_findKey (w := w) hd hn
              rw [app_eq] at hH
              simp only at hH
              injection hH with hH; subst hH
              refine fin _ (by simp only [Instr.mapUpdate, Sem.run_bind, run_under hu, Result.andThen_ok, hget, run_checkKey' hd hk, hfk, hset]; rfl) ?_
              refine hS.setObj hb rfl hr hfs (fun w' hw' => ?_)
              refine ⟨fs.push { key := u2, val := u3, born := clock }, hw', ?_, ?_, ?_⟩
              · simp only [List.map_append, Array.toList_push, List.map_cons, List.map_nil]
                exact hrel.1.append (RelL.one r2)
              · simp only [List.map_append, Array.toList_push, List.map_cons, List.map_nil]
                exact hrel.2.1.append (RelL.one r3)
              · simp only [List.map_append, Array.toList_push, List.map_cons, List.map_nil, hrel.2.2]
            · cases hh
          · rename_i i0 y0 hf
            rcases findNow_rel hd hk r2 0 hrel hf with ⟨hh, _⟩ | ⟨j, y, u, e', f', hh, hn, hyu, he', hf', hsame⟩
            · cases hh
            · injection hh with hh; injection hh with hh1 hh2; subst hh2
              rw [Nat.zero_add] at hh1 hn
              subst hh1
              have hfk := MapKept.run_findKey (w := w) hd hn
              rw [nth_eq, he'] at hH
              simp only at hH
              rw [splice_eq] at hH
              split at hH
              · rename_i es2 hes2
                split at hes2
                · rename_i hle
                  injection hes2 with hes2; injection hH with hH; subst hH
                  have hi : fs[i0]? = some f' := by simpa using hf'
                  have hkt : (Instr.keyThatStays f'.key u2).run P w = .ok u2 w := by simp [Instr.keyThatStays, hsame]
                  refine fin _ (by simp only [Instr.mapUpdate, Sem.run_bind, run_under hu, Result.andThen_ok, hget, run_checkKey' hd hk, hfk, hi, Option.map_some, Option.getD_some, hkt, hset]; rfl) ?_
                  refine hS.setObj hb rfl hr hfs (fun w' hw' => ?_)
                  have hlen : fs.size = es.length := by
                    have := hrel.1.length; simpa using this
                  have hborn : e'.2.2 = f'.born := by
                    have h3 := hrel.2.2
                    have h4 : (es.map (·.2.2))[i0]? = (fs.toList.map (·.born))[i0]? := by rw [h3]
                    rw [List.getElem?_map, List.getElem?_map, he', hf'] at h4
                    simpa using h4
                  simp only [List.length_singleton] at hle hes2
                  have hget2 : ∀ i, es2[i]? = if i = i0 then some (ev R k, ev R y, e'.2.2) else es[i]? := by
                    intro i
                    rw [← hes2]
                    have hl : (es.take i0).length = i0 := by simp; omega
                    by_cases h : i = i0
                    · subst h
                      rw [if_pos rfl, List.append_assoc, List.getElem?_append_right (by omega), hl, Nat.sub_self]
                      rfl
                    · rw [if_neg h]
                      by_cases h' : i < i0
                      · rw [List.append_assoc, List.getElem?_append_left (by omega), List.getElem?_take, if_pos h']
                      · rw [List.getElem?_append_right (by simp; omega), List.getElem?_drop]
                        congr 1
                        simp; omega
                  have hget3 : ∀ i, (fs.modify i0 fun e => { e with key := u2, val := u3 })[i]? = if i = i0 then some { f' with key := u2, val := u3 } else fs[i]? := by
                    intro i
                    rw [Array.getElem?_modify]
                    by_cases h : i = i0
                    · subst h; simp [hi]
                    · rw [if_neg h, if_neg (Ne.symm h)]
                  have hlen2 : es2.length = es.length := by rw [← hes2]; simp; omega
                  refine ⟨_, hw', ?_, ?_, ?_⟩
                  · refine RelL.of_get (by simp; omega) fun i z hz => ?_
                    rw [List.getElem?_map, hget2] at hz
                    rw [List.getElem?_map, Array.getElem?_toList, hget3]
                    by_cases h : i = i0
                    · rw [if_pos h] at hz ⊢
                      simp only [Option.map_some, Option.some.injEq] at hz ⊢
                      subst hz
                      exact ⟨_, rfl, r2⟩
                    · rw [if_neg h] at hz ⊢
                      have := hrel.1.get i z (by rw [List.getElem?_map]; exact hz)
                      rw [List.getElem?_map, Array.getElem?_toList] at this
                      exact this
                  · refine RelL.of_get (by simp; omega) fun i z hz => ?_
                    rw [List.getElem?_map, hget2] at hz
                    rw [List.getElem?_map, Array.getElem?_toList, hget3]
                    by_cases h : i = i0
                    · rw [if_pos h] at hz ⊢
                      simp only [Option.map_some, Option.some.injEq] at hz ⊢
                      subst hz
                      exact ⟨_, rfl, r3⟩
                    · rw [if_neg h] at hz ⊢
                      have := hrel.2.1.get i z (by rw [List.getElem?_map]; exact hz)
                      rw [List.getElem?_map, Array.getElem?_toList] at this
                      exact this
                  · apply List.ext_getElem?
                    intro i
                    rw [List.getElem?_map, List.getElem?_map, hget2, Array.getElem?_toList (xs := fs.modify i0 fun e => { e with key := u2, val := u3 }), hget3]
                    by_cases h : i = i0
                    · rw [if_pos h, if_pos h]; simp [hborn]
                    · rw [if_neg h, if_neg h]
                      have h4 : (es.map (·.2.2))[i]? = (fs.toList.map (·.born))[i]? := by rw [hrel.2.2]
                      rw [List.getElem?_map, List.getElem?_map, Array.getElem?_toList (xs := fs)] at h4
                      exact h4
                · cases hes2
              · cases hH
        · cases hH
      · cases hH
    · cases hx
  · cases hc

theorem s_mkiface (hR : RegsRel m nt R a.tmps) (hS : Sim P cd B0 w0 m H w) {o : Oper} {t t' : TypeId} {x : Opd} {y : Operand} (ho : o.op = .makeInterface t' y)
    (hc : chkOp P nt (.makeInterface t' y) (.mkiface t x) = true) (hx : aexec base (.mkiface t x) R H = some (v, H')) : Out P cd B0 w0 m ((execOp a.eval o).run P w) v H' := by
  simp only [chkOp, Bool.and_eq_true, beq_iff_eq] at hc
  obtain ⟨rfl, hc⟩ := hc
  simp only [aexec] at hx
  injection hx with hx; injection hx with e1 e2; subst e1 e2
  split at hc
  · cases hc
  · rename_i d hn hu
    have r := ev_rel hR hc
    refine Out.same hS (u := .iface t' (a.eval y)) ?_ (by simp only [Rel]; exact ⟨_, rfl, r⟩)
    simp only [execOp, ho, Instr.makeInterface, Sem.run_bind, run_under hu, Result.andThen_ok, Sem.run_pure]
  · cases hc

theorem s_range (hR : RegsRel m nt R a.tmps) (hS : Sim P cd B0 w0 m H w) {o : Oper} {t : TypeId} {j : Nat} {x : Opd} {y : Operand} (ho : o.op = .range t y)
    (hc : chkOp P nt (.range t y) (.range j x) = true) (hx : aexec base (.range j x) R H = some (v, H')) : Out P cd B0 w0 m ((execOp a.eval o).run P w) v H' := by
  simp only [chkOp] at hc
  split at hc
  · rename_i kt e hu
    have r := ev_rel hR hc
    generalize hu1 : a.eval y = u1 at r
    simp only [aexec] at hx
    split at hx
    · rename_i b he
      split at hx
      · rename_i es clock hb
        split at hx
        · rename_i H1 hH
          injection hx with hx; injection hx with e1 e2; subst e1 e2
          rw [he] at r
          simp only [Rel] at r
          obtain ⟨B, d', E, hr, rfl⟩ := r
          obtain ⟨fs, hfs, hrel⟩ := hS.obj b _ hb B d' E hr
          obtain ⟨hn, rfl⟩ := newO_some hH
          have hnr := hS.dom _ hn
          have hle := M.le_new m (w.heap.size, 0, 0) hnr
          refine ⟨_, .pointer (some ⟨w.heap.size, 0, none⟩), _, hle, .inl ?_, ?_, hS.alloc (ob := .mapIter (some B) clock #[] clock) hnr (hS.fresh hn) ?_⟩
          · simp only [execOp, ho, hu1, Instr.range, Sem.run_bind, run_under hu, Result.andThen_ok, run_getObj' hfs (fun _ _ _ h => by cases h), Sem.run_pure, run_newObj]; rfl
          · simp only [Rel]; exact ⟨_, _, _, M.new_same _ _ _, rfl⟩
          · refine ⟨rfl, B, d', E, hle.r _ _ hr, ?_⟩
            show (w.heap.push _)[w.heap.size]? = _
            simp
        · cases hx
      · cases hx
    · cases hx
  · cases hc

theorem ptr0 {r : K} {v : Value} (h : Rel m (.ptr r 0) v) : ∃ B d E, m.r r = some (B, d, E) ∧ v = .pointer (some ⟨B, d, none⟩) := by
  simp only [Rel] at h; simpa using h

theorem s_next (hR : RegsRel m nt R a.tmps) (hS : Sim P cd B0 w0 m H w) {o : Oper} {x : Opd} {y : Operand} {s : Bool} (ho : o.op = .next y s)
    (hc : chkOp P nt (.next y s) (.next x) = true) (hx : aexec base (.next x) R H = some (v, H')) : Out P cd B0 w0 m ((execOp a.eval o).run P w) v H' := by
  simp only [chkOp, Bool.and_eq_true, Bool.not_eq_true'] at hc
  obtain ⟨rfl, hc⟩ := hc
  have r := ev_rel hR hc
  generalize hu1 : a.eval y = u1 at r
  simp only [aexec] at hx
  split at hx
  · rename_i rr he
    rw [he] at r
    obtain ⟨B, d, E, hr, rfl⟩ := ptr0 r
    split at hx
    · rename_i b since seen stepped hi
      obtain ⟨rfl, B', d', E', hr', hit⟩ := hS.obj rr _ hi B d E hr
      have hg1 := run_getObj' (P := P) hit (fun _ _ _ h => by cases h)
      split at hx
      · rename_i clock hb
        injection hx with hx; injection hx with e1 e2; subst e1 e2
        obtain ⟨fs, hfs, hrel⟩ := hS.obj b _ hb B' d' E' hr'
        have hg2 := run_getObj' (P := P) hfs (fun _ _ _ h => by cases h)
        have hf0 : fs = #[] := by
          have := hrel.1
          simp only [List.map_nil, RelL, List.map_eq_nil_iff, Array.toList_eq_nil_iff] at this
          exact this
        subst hf0
        refine Out.same hS (u := .tuple #[.bool false]) ?_ (by simp only [Rel]; exact ⟨_, rfl, RelL.one (by simp only [Rel])⟩)
        simp [execOp, ho, hu1, Instr.next, hg1, hg2, Question.forced]
      · rename_i e clock hb
        obtain ⟨fs, hfs, hrel⟩ := hS.obj b _ hb B' d' E' hr'
        have hg2 := run_getObj' (P := P) hfs (fun _ _ _ h => by cases h)
        obtain ⟨f, hf⟩ : ∃ f, fs = #[f] := by
          have h3 := hrel.2.2
          have : fs.toList.length = 1 := by have := congrArg List.length h3; simpa using this.symm
          match hh : fs.toList, this with
          | [f], _ => exact ⟨f, by apply Array.ext'; simp [hh]⟩
        subst hf
        obtain ⟨q1, q2, q3⟩ := hrel
        simp only [List.map_cons, List.map_nil, RelL] at q1 q2 q3
        obtain ⟨kv, ks, ek, hk, _⟩ := q1
        obtain ⟨vv, vs, evv, hv, _⟩ := q2
        injection ek with ek _; injection evv with evv _; injection q3 with q3 _
        subst ek evv
        split at hx
        · split at hx
          · rename_i hlt
            simp only [Nat.blt_eq] at hlt
            injection hx with hx; injection hx with e1 e2; subst e1 e2
            have hlt' : f.born < since := by omega
            have hrun : (Instr.next (.pointer (some ⟨B, 0, none⟩)) false o.type).run P w = .ok (.tuple #[.bool true, f.key, f.val]) { w with heap := w.heap.setIfInBounds B (.mapIter (some B') since #[f.born] clock) } := by
              have hset := run_setObj' (P := P) (.mapIter (some B') since #[f.born] clock) hit (fun _ _ _ h => by cases h)
              have hnl : ¬ since ≤ f.born := by omega
              simp [Instr.next, hg1, hg2, Question.forced, hlt', hnl, hset]
            refine ⟨m, _, _, M.le.refl m, .inl (by simp only [execOp, ho, hu1, Sem.run_bind, hrun, Result.andThen_ok, Sem.run_pure]; rfl), ?_, hS.setObj hi rfl hr hit (fun w' hw' => ?_)⟩
            · simp only [Rel]
              refine ⟨_, rfl, ?_⟩
              simp only [RelL]
              exact ⟨_, _, rfl, by simp only [Rel], _, _, rfl, hk, _, _, rfl, hv, rfl⟩
            · exact ⟨rfl, B', d', E', hr', by rw [hw', q3]⟩
          · cases hx
        · rename_i n
          split at hx
          · rename_i hcond
            simp only [Bool.and_eq_true, Nat.beq_eq, Nat.blt_eq] at hcond
            obtain ⟨rfl, hlt⟩ := hcond
            injection hx with hx; injection hx with e1 e2; subst e1 e2
            refine Out.same hS (u := .tuple #[.bool false]) ?_ (by simp only [Rel]; exact ⟨_, rfl, RelL.one (by simp only [Rel])⟩)
            have hnl : ¬ stepped ≤ f.born := by omega
            simp [execOp, ho, hu1, Instr.next, hg1, hg2, Question.forced, hnl, q3]
          · cases hx
        · cases hx
      · cases hx
    · cases hx
  · cases hx

theorem s_entry (hR : RegsRel m nt R a.tmps) (hS : Sim P cd B0 w0 m H w) {o : Oper} {x : Opd} {y : Operand} (ho : o.op = .entry y)
    (hc : chkOpd nt y x = true) (hx : aexec base (.entry x) R H = some (v, H')) : Out P cd B0 w0 m ((execOp a.eval o).run P w) v H' := by
  have r := ev_rel hR hc
  generalize hu1 : a.eval y = u1 at r
  simp only [aexec] at hx
  split at hx
  · rename_i rr he
    rw [he] at r
    obtain ⟨B, d, E, hr, rfl⟩ := ptr0 r
    split at hx
    · rename_i b since n stepped hi
      obtain ⟨rfl, B', d', E', hr', hit⟩ := hS.obj rr _ hi B d E hr
      have hg1 := run_getObj' (P := P) hit (fun _ _ _ h => by cases h)
      split at hx
      · rename_i e clock hb
        obtain ⟨fs, hfs, hrel⟩ := hS.obj b _ hb B' d' E' hr'
        have hg2 := run_getObj' (P := P) hfs (fun _ _ _ h => by cases h)
        obtain ⟨f, hf⟩ : ∃ f, fs = #[f] := by
          have h3 := hrel.2.2
          have : fs.toList.length = 1 := by have := congrArg List.length h3; simpa using this.symm
          match hh : fs.toList, this with
          | [f], _ => exact ⟨f, by apply Array.ext'; simp [hh]⟩
        subst hf
        obtain ⟨q1, q2, q3⟩ := hrel
        simp only [List.map_cons, List.map_nil, RelL] at q1 q2 q3
        obtain ⟨kv, ks, ek, hk, _⟩ := q1
        obtain ⟨vv, vs, evv, hv, _⟩ := q2
        injection ek with ek _; injection evv with evv _; injection q3 with q3 _
        subst ek evv
        split at hx
        · rename_i hcond
          simp only [Bool.and_eq_true, Nat.beq_eq] at hcond
          obtain ⟨rfl, rfl⟩ := hcond
          injection hx with hx; injection hx with e1 e2; subst e1 e2
          refine Out.same hS (u := .tuple #[f.key, f.val]) ?_ ?_
          · simp [execOp, ho, hu1, Instr.entry, hg1, hg2, q3]
          · simp only [Rel]
            refine ⟨_, rfl, ?_⟩
            simp only [RelL]
            exact ⟨_, _, rfl, hk, _, _, rfl, hv, rfl⟩
        · cases hx
      · cases hx
    · cases hx
  · cases hx

/-! ### built-in functions -/
theorem one_arg {args : Array Operand} {x : Opd} (h : chkOpds nt args.toList [x] = true) : ∃ y, args = #[y] ∧ chkOpd nt y x = true := by
  match hh : args.toList, h with
  | [y], h =>
    simp only [chkOpds, Bool.and_true] at h
    exact ⟨y, by apply Array.ext'; simp [hh], h⟩
  | [], h => simp [chkOpds] at h
  | _ :: _ :: _, h => simp [chkOpds] at h
theorem two_args {args : Array Operand} {x y : Opd} (h : chkOpds nt args.toList [x, y] = true) : ∃ x' y', args = #[x', y'] ∧ chkOpd nt x' x = true ∧ chkOpd nt y' y = true := by
  match hh : args.toList, h with
  | [x', y'], h =>
    simp only [chkOpds, Bool.and_true, Bool.and_eq_true] at h
    exact ⟨x', y', by apply Array.ext'; simp [hh], h.1, h.2⟩
  | [], h => simp [chkOpds] at h
  | [_], h => simp [chkOpds] at h
  | _ :: _ :: _ :: _, h => simp [chkOpds] at h

theorem s_len (hR : RegsRel m nt R a.tmps) (hS : Sim P cd B0 w0 m H w) {o : Oper} {k : SK} {x : Opd} {args : Array Operand} {ts : Array TypeId} (ho : o.op = .call ⟨.builtin .len, args, ts⟩)
    (hc : chkOp P nt (.call ⟨.builtin .len, args, ts⟩) (.len k x) = true) (hx : aexec base (.len k x) R H = some (v, H')) : Out P cd B0 w0 m ((execOp a.eval o).run P w) v H' := by
  simp only [chkOp] at hc
  split at hc
  · rename_i t ht
    obtain ⟨d, hu, hargs, hd⟩ : ∃ d, P.underlying t = some d ∧ chkOpds nt args.toList [x] = true ∧ ((k = .str ∧ d = .string) ∨ (k = .slice ∧ ∃ e, d = .slice e) ∨ k = .map ∧ ∃ k e, d = .map k e) := by
      split at hc
      · rename_i hu; split at hc
        · exact ⟨_, hu, hc, .inl ⟨rfl, rfl⟩⟩
        · cases hc
      · rename_i hu; split at hc
        · exact ⟨_, hu, hc, .inr (.inl ⟨rfl, _, rfl⟩)⟩
        · cases hc
      · rename_i hu; split at hc
        · exact ⟨_, hu, hc, .inr (.inr ⟨rfl, _, _, rfl⟩)⟩
        · cases hc
      · cases hc
    obtain ⟨y, rfl, hy⟩ := one_arg hargs
    have r := ev_rel hR hy
    generalize hu1 : a.eval y = u1 at r
    simp only [aexec] at hx
    split at hx
    · rename_i n hn
      rw [frcN_eq] at hx
      injection hx with hx; injection hx with e1 e2; subst e1 e2
      have hcall : (execOp a.eval o).run P w = ((do pure (Next.value (← Builtin.len_ ts o.type #[u1])) : Sem Next)).run P w := by
        simp [execOp, ho, resolve, invoke, builtin, hu1]
      have fin : (Builtin.len_ ts o.type #[u1]).run P w = .ok (goInt n) w → Out P cd B0 w0 m ((execOp a.eval o).run P w) (.int .i64 (.ofNat n)) H := by
        intro hl
        refine Out.same hS (u := .int .i64 (.ofNat n)) ?_ (by simp only [Rel])
        rw [hcall]
        simp only [Sem.run_bind, hl, Result.andThen_ok, Sem.run_pure]
        rfl
      apply fin
      rcases hd with ⟨rfl, rfl⟩ | ⟨rfl, e, rfl⟩ | ⟨rfl, kt, e, rfl⟩ <;> generalize ev R x = xx at hn r <;> cases xx <;> simp only [lenOp] at hn <;> first | (cases hn; done) | skip
      all_goals simp only [Rel] at r
      · obtain ⟨s, rfl, hs, _⟩ := r
        injection hn with hn; subst hn
        simp [Builtin.len_, ht, run_under hu, hs]
      · obtain ⟨B, d, E, _, rfl⟩ := r
        injection hn with hn; subst hn
        simp [Builtin.len_, ht, run_under hu]
      · obtain ⟨B, d, E, c, _, rfl, _⟩ := r
        injection hn with hn; subst hn
        simp [Builtin.len_, ht, run_under hu]
      · obtain ⟨ad, c, cs, rfl, _⟩ := r
        injection hn with hn; subst hn
        simp [Builtin.len_, ht, run_under hu]
      · subst r
        injection hn with hn; subst hn
        simp [Builtin.len_, ht, run_under hu]
      · obtain ⟨B, d, E, hr, rfl⟩ := r
        split at hn
        · rename_i es clock hb
          injection hn with hn; subst hn
          obtain ⟨fs, hfs, hrel⟩ := hS.obj _ _ hb B d E hr
          have hlen : fs.size = es.length := by
            have := hrel.1.length; simpa using this
          simp [Builtin.len_, ht, run_under hu, run_getObj' hfs (fun _ _ _ h => by cases h), hlen, len_eq]
        · cases hn
      · subst r
        injection hn with hn; subst hn
        simp [Builtin.len_, ht, run_under hu]
    · cases hx
  · cases hc

theorem s_max (hR : RegsRel m nt R a.tmps) (hS : Sim P cd B0 w0 m H w) {o : Oper} {x y : Opd} {args : Array Operand} {ts : Array TypeId} (ho : o.op = .call ⟨.builtin .max, args, ts⟩)
    (hc : chkOpds nt args.toList [x, y] = true) (hx : aexec base (.max x y) R H = some (v, H')) : Out P cd B0 w0 m ((execOp a.eval o).run P w) v H' := by
  obtain ⟨x', y', rfl, h1, h2⟩ := two_args hc
  have r1 := ev_rel hR h1
  have r2 := ev_rel hR h2
  generalize hu1 : a.eval x' = u1 at r1
  generalize hu2 : a.eval y' = u2 at r2
  simp only [aexec] at hx
  split at hx
  · rename_i k p l q e1 e2
    split at hx
    · rename_i hk
      have := keq_eq hk; subst this
      injection hx with hx; injection hx with e3 e4; subst e3 e4
      rw [e1] at r1; rw [e2] at r2
      simp only [Rel] at r1 r2; subst r1 r2
      refine Out.same hS (u := .int k (if q > p then q else p)) ?_ ?_
      · simp [execOp, ho, resolve, invoke, builtin, hu1, hu2, Builtin.max_, Builtin.max2]
      · simp only [Rel]
        rw [ilt_eq]
        by_cases h : p < q <;> simp [h]
    · cases hx
  · cases hx
theorem s_min (hR : RegsRel m nt R a.tmps) (hS : Sim P cd B0 w0 m H w) {o : Oper} {x y : Opd} {args : Array Operand} {ts : Array TypeId} (ho : o.op = .call ⟨.builtin .min, args, ts⟩)
    (hc : chkOpds nt args.toList [x, y] = true) (hx : aexec base (.min x y) R H = some (v, H')) : Out P cd B0 w0 m ((execOp a.eval o).run P w) v H' := by
  obtain ⟨x', y', rfl, h1, h2⟩ := two_args hc
  have r1 := ev_rel hR h1
  have r2 := ev_rel hR h2
  generalize hu1 : a.eval x' = u1 at r1
  generalize hu2 : a.eval y' = u2 at r2
  simp only [aexec] at hx
  split at hx
  · rename_i k p l q e1 e2
    split at hx
    · rename_i hk
      have := keq_eq hk; subst this
      injection hx with hx; injection hx with e3 e4; subst e3 e4
      rw [e1] at r1; rw [e2] at r2
      simp only [Rel] at r1 r2; subst r1 r2
      refine Out.same hS (u := .int k (if q < p then q else p)) ?_ ?_
      · simp [execOp, ho, resolve, invoke, builtin, hu1, hu2, Builtin.min_, Builtin.min2]
      · simp only [Rel]
        rw [ilt_eq]
        by_cases h : q < p <;> simp [h]
    · cases hx
  · cases hx
theorem s_real (hR : RegsRel m nt R a.tmps) (hS : Sim P cd B0 w0 m H w) {o : Oper} {x : Opd} {args : Array Operand} {ts : Array TypeId} (ho : o.op = .call ⟨.builtin .real, args, ts⟩)
    (hc : chkOpds nt args.toList [x] = true) (hx : aexec base (.real x) R H = some (v, H')) : Out P cd B0 w0 m ((execOp a.eval o).run P w) v H' := by
  obtain ⟨y, rfl, h1⟩ := one_arg hc
  have r1 := ev_rel hR h1
  generalize hu1 : a.eval y = u1 at r1
  simp only [aexec] at hx
  split at hx
  · rename_i k p q e1
    injection hx with hx; injection hx with e3 e4; subst e3 e4
    rw [e1] at r1
    simp only [Rel] at r1; subst r1
    exact Out.same hS (u := .float k p) (by simp [execOp, ho, resolve, invoke, builtin, hu1]; rfl) (by simp only [Rel])
  · cases hx
theorem s_imag (hR : RegsRel m nt R a.tmps) (hS : Sim P cd B0 w0 m H w) {o : Oper} {x : Opd} {args : Array Operand} {ts : Array TypeId} (ho : o.op = .call ⟨.builtin .imag, args, ts⟩)
    (hc : chkOpds nt args.toList [x] = true) (hx : aexec base (.imag x) R H = some (v, H')) : Out P cd B0 w0 m ((execOp a.eval o).run P w) v H' := by
  obtain ⟨y, rfl, h1⟩ := one_arg hc
  have r1 := ev_rel hR h1
  generalize hu1 : a.eval y = u1 at r1
  simp only [aexec] at hx
  split at hx
  · rename_i k p q e1
    injection hx with hx; injection hx with e3 e4; subst e3 e4
    rw [e1] at r1
    simp only [Rel] at r1; subst r1
    exact Out.same hS (u := .float k q) (by simp [execOp, ho, resolve, invoke, builtin, hu1]; rfl) (by simp only [Rel])
  · cases hx
end
end Go.Ab
