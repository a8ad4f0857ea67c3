/- Steps of a region; code; the whole. -/
import Derived.Test.YtdiiepiflmgdeaaGreatA16
import Derived.LoopNIn
namespace Go.Ab
open Go.RowKit (Below)

section
variable {P : Program} {cd : Nat → Array Oper → DT → Bool} {tab : T AFunc} {B0 : Nat} {w0 : Frz} {m : M} {H H' : T AObj} {w : World} {nt : Nat} {R : T AV} {a : Act} {base : K} {v : AV} {ro : Option Nat}

theorem chkOp_defer (c : Call) (s : AOp) : chkOp P nt (.defer c) s = false := by
  cases s <;> simp [chkOp]

theorem run_callFunc_enter {f : FuncId} {F : Func} {c : Code} (hF : P.funcs[f]? = some F) (hname : (F.name == "runtime.NumGoroutine") = false) (hb : F.body = some c) (args : Array Value) (w : World) :
    (callFunc f args).run P w = .ok (.enter f args) w := by
  have h1 : F.name ≠ "runtime.NumGoroutine" := by simpa using hname
  simp [callFunc, hF, h1, hb]

theorem depth_ok {n : Nat} : ((Fw ro).depth.isSome = true → 1 ≤ n) := fun h => by simp [Fw, Fence.wide] at h

/- a call of a function's value -/
theorem callN_sound (hT : TabOk P cd tab) {n : Nat} (hn : Sound P cd tab n) {k : K} {f : Nat} {first captured args : List AV} {as bs vs : Array Value} (r1 : RelL m first as.toList) (r2 : RelL m captured bs.toList) (r3 : RelL m args vs.toList)
    (hS : Sim P cd B0 w0 m H w) {nx nx' : K} (h : callN tab (run tab n) k f first captured args H nx = some (v, H', nx')) (w' : World) :
    (callFunc f (as ++ vs ++ bs)).run P w' = .ok (.enter f (as ++ vs ++ bs)) w' ∧ CallsIn (Fw ro) 0 P f (as ++ vs ++ bs) w (Ret P cd B0 w0 m v H') := by
  unfold callN at h
  split at h
  · rename_i hk
    simp only [Nat.beq_eq] at hk
    subst hk
    split at h
    · rename_i fn hfn
      rw [app_eq] at h
      simp only at h
      rw [app_eq] at h
      simp only at h
      have hr : RelL m (first ++ args ++ captured) (as ++ vs ++ bs).toList := by
        simp only [Array.toList_append]
        exact (r1.append r3).append r2
      have hc := callF_sound (ro := ro) hT hn hfn hr hS h
      obtain ⟨F, c, hF, hbody, hname⟩ := hT.there hfn
      exact ⟨run_callFunc_enter hF hname hbody _ _, hc⟩
    · cases h
  · cases h

theorem step_sound (hT : TabOk P cd tab) {n : Nat} (hn : Sound P cd tab n) {ops : Array Oper} {o : Oper} {st : AStep} (hc : chkStep P nt ops o st = true) {s s' : St} (h : stepS tab (run tab n) base st s = some s') (hst : StRel P cd B0 w0 nt m s a w)
    {next : Act → World → Prop} {Q : Exit → Act → World → Prop} (hnext : ∀ m' a' w', m.le m' → StRel P cd B0 w0 nt m' s' a' w' → next a' w') :
    if Region.wanted o (yielded ops a.tmps) then o.wpIn (Fw ro) 0 P a w next Q else ((∀ f, o.about P w a.eval = some f → (Fw ro).fn f) ∧ next (a.put o.dst Go.undef) w) := by
  simp only [chkStep, Bool.and_eq_true] at hc
  obtain ⟨⟨hdst, hguard⟩, hop⟩ := hc
  unfold stepS at h
  split at h
  case isFalse => cases h
  rename_i hokg
  rw [wanted_eq hst.regs hguard hokg]
  split at h
  · rename_i hw
    rw [if_pos hw]
    refine ⟨fun _ _ => trivial, ?_⟩
    rw [Oper.semAt_eq _ _ _ (fun c e => by rw [e, chkOp_defer] at hop; cases hop)]
    have put : ∀ {m' : M} {v : AV} {u : Value} {w' : World} {H : T AObj} {nx : K}, m.le m' → Rel m' v u → Sim P cd B0 w0 m' H w' → s' = ⟨putR st.dst v s.R, H, nx, s.ds⟩ → next (a.put o.dst u) w' := by
      intro m' v u w' H nx hle hr hS e
      subst e
      exact hnext m' _ w' hle ⟨put_regs (hst.regs.mono hle) hdst hr, hS, by rw [put_defers]; exact hst.defs.mono hle⟩
    have enter : ∀ {f : FuncId} {args : Array Value} {v : AV} {H : T AObj} {nx : K}, CallsIn (Fw ro) 0 P f args w (Ret P cd B0 w0 m v H) → s' = ⟨putR st.dst v s.R, H, nx, s.ds⟩ → o.uponIn (Fw ro) 0 P a next Q (.ok (.enter f args) w) := by
      intro f args v H nx hcall e
      refine ⟨depth_ok, hcall.mono fun e' w' hr => ?_⟩
      cases e' with
      | returned u => obtain ⟨m', hle, hr, hS⟩ := hr; exact put hle hr hS e
      | panicked c => exact hr.elim
      | outgrown => exact hr.elim
    split at h
    · -- a call of a function
      rename_i f args hop'
      rw [hop'] at hop
      split at h
      · rename_i fn hfn
        split at h
        · rename_i v H1 nx hcf
          injection h with h
          simp only [chkOp] at hop
          split at hop
          · rename_i g args' ts ho
            simp only [Bool.and_eq_true, beq_iff_eq] at hop
            obtain ⟨rfl, hargs⟩ := hop
            have hr := evs_rel hst.regs hargs
            have hr' : RelL m (mapL (ev s.R) args) (args'.map a.eval).toList := by rw [Array.toList_map]; exact hr
            have hcall := callF_sound (ro := ro) hT hn hfn hr' hst.sim hcf
            obtain ⟨F, c, hF, hbody, hname⟩ := hT.there hfn
            have hrun : (execOp a.eval o).run P w = .ok (.enter f.num (args'.map a.eval)) w := by
              have e0 : a.eval (.func f.num) = .func (.func f.num) #[] #[] := rfl
              simp only [execOp, ho, resolve, e0, Deferred.ofValue, Sem.run_bind, Sem.run_pure, Result.andThen_ok, invoke]
              rw [run_callFunc_enter hF hname hbody]
              simp
            rw [hrun]
            exact enter hcall h.symm
          · cases hop
        · cases h
      · cases h
    · -- a call of a value
      rename_i x args hop'
      rw [hop'] at hop
      split at h
      · rename_i v H1 nx hcv
        injection h with h
        simp only [chkOp] at hop
        split at hop
        · rename_i y args' ts ho
          simp only [Bool.and_eq_true] at hop
          obtain ⟨hx, hargs⟩ := hop
          have hr := evs_rel hst.regs hargs
          have hr' : RelL m (mapL (ev s.R) args) (args'.map a.eval).toList := by rw [Array.toList_map]; exact hr
          have rx := ev_rel hst.regs hx
          generalize hu : a.eval y = u at rx
          unfold callV at hcv
          split at hcv
          · rename_i f first captured he
            rw [he] at rx
            simp only [Rel] at rx
            obtain ⟨as, bs, rfl, r1, r2⟩ := rx
            obtain ⟨hrun0, hcall⟩ := callN_sound (ro := ro) hT hn r1 r2 hr' hst.sim hcv w
            have hrun : (execOp a.eval o).run P w = .ok (.enter f (as ++ args'.map a.eval ++ bs)) w := by
              simp only [execOp, ho, resolve, hu, Deferred.ofValue, Sem.run_bind, Sem.run_pure, Result.andThen_ok, invoke]
              exact hrun0
            rw [hrun]
            exact enter hcall h.symm
          · rename_i l he
            rw [he] at rx
            simp only [Rel] at rx
            obtain ⟨B, d, E, hl, rfl⟩ := rx
            obtain ⟨r, tmps, hy, hround⟩ := roundF_sound (ro := ro) hn hl hr' hst.sim hcv
            have hrun : (execOp a.eval o).run P w = .ok (.round B r.fn tmps r.assign r.body) w := by
              simp only [execOp, ho, resolve, hu, Deferred.ofValue, Sem.run_bind, Sem.run_pure, Result.andThen_ok, invoke]
              simpa using hy
            rw [hrun]
            refine ⟨depth_ok, hround.mono fun e' w' hr => ?_⟩
            cases e' with
            | returned u => obtain ⟨m', hle, hr, hS⟩ := hr; exact put hle hr hS h.symm
            | panicked c => exact hr.elim
            | outgrown => exact hr.elim
          · cases hcv
        · cases hop
      · cases h
    · -- any other operation
      split at h
      · rename_i v H1 hx
        injection h with h
        obtain ⟨m', u, w', hle, hres, hrel, hS'⟩ := aexec_sound hst.regs hst.sim hop hx
        rcases hres with hres | ⟨hres, rfl⟩
        · rw [hres]; exact put hle hrel hS' h.symm
        · rw [hres]; exact put hle hrel hS' h.symm
      · cases h
  · rename_i hw
    rw [if_neg hw]
    injection h with h; subst h
    exact ⟨fun _ _ => trivial, hnext m _ w (M.le.refl m) ⟨put_regs hst.regs hdst (undef_rel m), hst.sim, by rw [put_defers]; exact hst.defs⟩⟩

theorem steps_sound (hT : TabOk P cd tab) {n : Nat} (hn : Sound P cd tab n) {ops : Array Oper} {Q : Exit → Act → World → Prop} : ∀ {os : List Oper} {ss : List AStep} {i : Nat} {m : M} {s s' : St} {a : Act} {w : World}, chkSteps P nt ops os ss = true → (∀ j o, os[j]? = some o → ops[i + j]? = some o) →
    stepsS tab (run tab n) base ss s = some s' → StRel P cd B0 w0 nt m s a w → (∀ m' a' w', m.le m' → StRel P cd B0 w0 nt m' s' a' w' → Q .normal a' w') → wpOpsIn (Fw ro) 0 P ops Q (List.range' i os.length) a w
  | [], [], i, m, s, s', a, w, _, _, h, hst, hQ => by
    have h' : some s = some s' := h
    injection h' with h'; subst h'
    exact hQ m a w (M.le.refl m) hst
  | o :: os, st :: ss, i, m, s, s', a, w, hc, hops, h, hst, hQ => by
    simp only [chkSteps, Bool.and_eq_true] at hc
    have h' : (match stepS tab (run tab n) base st s with
      | some s => stepsS tab (run tab n) base ss s
      | none => none) = some s' := h
    split at h'
    · rename_i s1 hs1
      have hget : ops[i]? = some o := hops 0 o rfl
      have hstep := step_sound (ro := ro) (Q := Q) (next := wpOpsIn (Fw ro) 0 P ops Q (List.range' (i + 1) os.length)) hT hn hc.1 hs1 hst (fun m' a' w' hle hst' =>
        steps_sound hT hn hc.2 (fun j o hj => by have := hops (j + 1) o (by simpa using hj); rw [← this]; congr 1; omega) h' hst' (fun m'' a'' w'' hle' => hQ m'' a'' w'' (hle.trans hle')))
      rw [List.length_cons, List.range'_succ]
      simp only [wpOpsIn, hget]
      split
      · rename_i hw; rw [if_pos hw] at hstep; exact hstep
      · rename_i hw; rw [if_neg hw] at hstep; exact hstep
    · cases h'
  | [], _ :: _, _, _, _, _, _, _, hc, _, _, _, _ => by simp [chkSteps] at hc
  | _ :: _, [], _, _, _, _, _, _, hc, _, _, _, _ => by simp [chkSteps] at hc

/-! ### labels -/
theorem findL_ok {cd' : Array Oper → DT → Bool} : ∀ {c : Code} {x : ACode} {l : Nat}, chkCode P nt cd' c x = true → (findL x l = none → findLabel c l = none) ∧ (∀ rest, findL x l = some rest → ∃ rest', findLabel c l = some rest' ∧ chkCode P nt cd' rest' rest = true) := by
  intro c
  induction c with
  | seq a b iha ihb =>
    intro x l hc
    cases x <;> simp only [chkCode] at hc <;> try (cases hc; done)
    rename_i y z
    simp only [Bool.and_eq_true] at hc
    obtain ⟨h1, h2⟩ := iha (l := l) hc.1
    obtain ⟨h3, h4⟩ := ihb (l := l) hc.2
    simp only [findL, findLabel]
    cases hy : findL y l with
    | none =>
      rw [h1 hy]
      exact ⟨h3, h4⟩
    | some rest =>
      obtain ⟨rest', hr, hcr⟩ := h2 rest hy
      rw [hr]
      refine ⟨fun h => (by cases h), fun r h => ?_⟩
      injection h with h; subst h
      exact ⟨_, rfl, by simp only [chkCode, hcr, hc.2, Bool.and_self]⟩
  | label i =>
    intro x l hc
    cases x <;> simp only [chkCode] at hc <;> try (cases hc; done)
    simp only [Nat.beq_eq] at hc
    subst hc
    simp only [findL, findLabel]
    split
    · exact ⟨fun h => (by cases h), fun r h => by injection h with h; subst h; exact ⟨_, rfl, rfl⟩⟩
    · exact ⟨fun _ => rfl, fun r h => by cases h⟩
  | _ =>
    intro x l hc
    cases x <;> first
      | exact ⟨fun _ => rfl, fun r h => by cases h⟩
      | (simp only [chkCode] at hc; cases hc; done)
      | skip
end
end Go.Ab
