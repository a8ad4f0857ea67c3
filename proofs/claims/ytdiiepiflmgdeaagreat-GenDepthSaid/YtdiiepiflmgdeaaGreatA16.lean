/- Steps, calls, rounds. -/
import Derived.Test.YtdiiepiflmgdeaaGreatA15
namespace Go.Ab
open Go.RowKit (Below)

def Sound (P : Program) (cd : Nat → Array Oper → DT → Bool) (tab : T AFunc) (n : Nat) : Prop :=
  ∀ (B0 : Nat) (w0 : Frz) (nt : Nat) (m : M) (ro : Option Nat) (inr : Bool) (c : Code) (x : ACode) (s : St) (e : AExit) (s' : St) (a : Act) (w : World),
    (inr = false → ro = none) → chkCode P nt (cd nt) c x = true → StRel P cd B0 w0 nt m s a w → run tab n inr x s = some (e, s') → c.wpIn (Fw ro) 0 P (Post P cd B0 w0 nt m e s') a w

/- what a call, a round hands back -/
def Ret (P : Program) (cd : Nat → Array Oper → DT → Bool) (B0 : Nat) (w0 : Frz) (m : M) (v : AV) (H' : T AObj) (e : Ending) (w' : World) : Prop :=
  match e with
  | .returned u => ∃ m', m.le m' ∧ Rel m' v u ∧ Sim P cd B0 w0 m' H' w'
  | _ => False

section
variable {P : Program} {cd : Nat → Array Oper → DT → Bool} {tab : T AFunc} {B0 : Nat} {w0 : Frz} {m : M} {H H' : T AObj} {w : World} {nt : Nat} {R : T AV} {a : Act} {base : K} {v : AV} {ro : Option Nat}

theorem shut_sound {F : Fence} {n : Nat} {fn : Func} {tmps : Array Value} {Q : Ending → World → Prop} : ∀ {ds : List K} {H H' : T AObj} {w : World} {defers : List Deferred}, DefRel m ds defers → Sim P cd B0 w0 m H w → shut ds H = some H' →
    (∀ w', Sim P cd B0 w0 m H' w' → LeavesIn F n P fn tmps Q [] .returning w') → LeavesInM F n P fn tmps Q defers .returning w
  | [], H, H', w, defers, hd, hS, h, hQ => by
    have h' : some H = some H' := h
    injection h' with h'; subst h'
    have hd' : defers = [] := hd
    subst hd'
    exact hQ w hS
  | k :: ds, H, H', w, defers, hd, hS, h, hQ => by
    obtain ⟨B, d, E, rest, hr, rfl, hrest⟩ := hd
    have h' : (match H.get k with
      | some .defs => shut ds (H.set k .dead)
      | _ => none) = some H' := h
    split at h'
    · rename_i hk
      have hb : w.heap[B]? = some (.deferred (some [])) := hS.obj k _ hk B d E hr
      have hS' := hS.setObj (n := .deferred none) (o' := .dead) hk rfl hr hb (fun _ _ => trivial)
      refine ⟨(fun h => by cases h), .inl ⟨B, _, rfl, ?_, shut_sound hrest hS' h' hQ⟩⟩
      simp only [Instr.takeDeferred, Sem.run_bind, run_getObj' hb (fun _ _ _ h => by cases h), Result.andThen_ok, run_setObj' _ hb (fun _ _ _ h => by cases h), Sem.run_pure]
    · cases h'

/- the world has grown; what was there is as it was -/
theorem Sim.under (h : Sim P cd B0 w0 m H w) {w' : World} (hb : Below w.heap.size w w') : Sim P cd B0 w0 m H w' := by
  have used : ∀ b o, H.get b = some o → live o = true → ∀ B d E, m.r b = some (B, d, E) → B < w.heap.size := by
    intro b o hb hl B d E hr
    have k := h.obj b o hb B d E hr
    have : ∃ x, w.heap[B]? = some x := by
      cases o with
      | cells l => obtain ⟨c, el, h1, _⟩ := k; exact ⟨_, h1⟩
      | map es clock => obtain ⟨fs, h1, _⟩ := k; exact ⟨_, h1⟩
      | iter b since seen stepped => cases b with
        | none => exact ⟨_, k.2⟩
        | some b => obtain ⟨_, B', d', E', _, h2⟩ := k; exact ⟨_, h2⟩
      | loop st pend R params assign body => obtain ⟨r, nt, h1, _⟩ := k; exact ⟨_, h1⟩
      | defs => exact ⟨_, k⟩
      | dead => simp [live] at hl
    obtain ⟨x, hx⟩ := this
    exact (Array.getElem?_eq_some_iff.1 hx).1
  refine ⟨h.below.trans (hb.mono h.base), Nat.le_trans h.base hb.size, ?_, h.own, h.inj, ?_, h.apart, h.dom, h.rsv, h.asm⟩
  · intro b o hbo B d E hr
    by_cases hl : live o = true
    · exact (h.obj b o hbo B d E hr).block (M.le.refl m) (hb.block B (used b o hbo hl B d E hr))
    · cases o <;> simp [live] at hl; trivial
  · intro B o v hi
    have hc := h.imm B o v hi
    rw [← hc]
    exact World.cell?_of_block (hb.block B (World.block_lt_of_cell? w ⟨B, o, none⟩ hc))

theorem isEnd_cases {e : AExit} (h : isEnd e = true) : e = .normal ∨ e = .ret := by
  cases e <;> simp [isEnd] at h
  · exact .inl rfl
  · exact .inr rfl

theorem callF_sound (hT : TabOk P cd tab) {n : Nat} (hn : Sound P cd tab n) {k : K} {fn : AFunc} (hk : tab.get k = some fn) {args : List AV} {vs : Array Value} (hr : RelL m args vs.toList) (hS : Sim P cd B0 w0 m H w) {nx nx' : K}
    (h : callF (run tab n) fn args H nx = some (v, H', nx')) : CallsIn (Fw ro) 0 P k.num vs w (Ret P cd B0 w0 m v H') := by
  rcases hT k fn hk with ⟨F, c, hF, hbody, hname, hcode, hres⟩ | ⟨_, sv, u, hb, hcok, hcalls⟩
  · apply callsIn_any (ro := none)
    refine callsIn_of_wp_marks hF hbody trivial ?_
    unfold callF at h
    split at h
    · rename_i v0 hb0
      rw [hb0] at hcode
      cases c <;> simp [chkCode] at hcode
    rename_i body hbody'
    split at h
    · rename_i e s hs
      split at h
      · rename_i he
        split at h
        · rename_i H1 hH1
          split at h
          · rename_i us hus
            injection h with h; injection h with e1 e2; injection e2 with e2 e3; subst e1 e2 e3
            have hst : StRel P cd B0 w0 F.ntmps m ⟨initR args, H, nx, []⟩ { tmps := vs ++ Array.replicate (F.ntmps - vs.size) Go.undef, defers := [] } w := ⟨enter_regs hr _, hS, rfl⟩
            have hw := hn B0 w0 F.ntmps m none false c fn.body _ e s _ w (fun _ => rfl) hcode hst hs
            refine wpIn_mono hw ?_
            rintro e' a' w' ⟨rfl, m', hle, hst'⟩
            have fin : LeavesInM (Fw none) 0 P F a'.tmps (Ret P cd B0 w0 m (oneOr us) H1) a'.defers .returning w' := by
              refine shut_sound hst'.defs hst'.sim hH1 (fun w'' hS'' => ?_)
              obtain ⟨u, hu, hru⟩ := results_sound hS'' hst'.regs hres hus
              exact ⟨u, hu, m', hle, hru, hS''⟩
            rcases isEnd_cases he with rfl | rfl
            · exact fin
            · exact fin
          · cases h
        · cases h
      · cases h
    · cases h
  · unfold callF at h
    rw [hb] at h
    simp only at h
    split at h
    · injection h with h; injection h with e1 e2; injection e2 with e2 e3; subst e1 e2 e3
      simp only [RelL] at hr
      have hvs : vs = #[] := by apply Array.ext'; simpa using hr
      subst hvs
      have hc : CallsIn (Fw ro) 0 P k.num #[] w _ := callsIn_any (ro := none) (show CallsIn (Fw none) 0 P k.num #[] w _ from callsIn_wide.2 (hcalls w))
      refine hc.mono fun e' w' he => ?_
      obtain ⟨rfl, hbel⟩ := he
      exact ⟨m, M.le.refl m, cok_rel m _ _ hcok, hS.under hbel⟩
    · cases h

/-! ### rounds -/
theorem setParams_sound : ∀ {ts : List Tmp} {ks : List K} {args : List AV} {vs : List Value} {R R' : T AV} {tmps : Array Value}, chkKs nt ts ks = true → setParams ks args R = some R' → RelL m args vs → RegsRel m nt R tmps →
    vs.length = ts.length ∧ RegsRel m nt R' ((ts.zip vs).foldl (fun tmps (x : Tmp × Value) => tmps.setIfInBounds x.1 x.2) tmps)
  | [], [], [], vs, R, R', tmps, _, h, hr, hR => by
    have h' : some R = some R' := h
    injection h' with h'; subst h'
    simp only [RelL] at hr; subst hr
    exact ⟨rfl, hR⟩
  | [], [], _ :: _, vs, R, R', tmps, _, h, hr, hR => by cases h
  | t :: ts, k :: ks, [], vs, R, R', tmps, _, h, hr, hR => by cases h
  | t :: ts, k :: ks, v :: args, vs, R, R', tmps, hc, h, hr, hR => by
    simp only [chkKs, Bool.and_eq_true, Nat.beq_eq, Nat.blt_eq] at hc
    obtain ⟨⟨rfl, hk⟩, hc⟩ := hc
    simp only [RelL] at hr
    obtain ⟨u, us, rfl, hu, hus⟩ := hr
    have h' : setParams ks args (R.set k v) = some R' := h
    obtain ⟨h1, h2⟩ := setParams_sound hc h' hus (hR.set hk hu)
    exact ⟨by simp [h1], h2⟩
  | [], _ :: _, _, _, _, _, _, hc, _, _, _ => by simp [chkKs] at hc
  | _ :: _, [], _, _, _, _, _, hc, _, _, _ => by simp [chkKs] at hc

theorem run_getLoop {B : Nat} {r : Loop} (h : w.heap[B]? = some (.loop r)) : (Instr.getLoop B).run P w = .ok r w := by
  simp only [Instr.getLoop, Sem.run_bind, run_getObj' h (fun _ _ _ h => by cases h), Result.andThen_ok, Sem.run_pure]

def pendCode : AExit → Option Code
  | .normal => none
  | .ret => some .ret
  | .exit i => some (.exit i)
  | .goto l => some (.goto l)
theorem pend_rel (e : AExit) : PendRel e (pendCode e) := by cases e <;> simp [PendRel, pendCode]
theorem pend_eq {e : AExit} {c : Option Code} (h : PendRel e c) : c = pendCode e := by cases e <;> exact h

theorem roundF_sound {n : Nat} (hn : Sound P cd tab n) {l : K} {B d E : Nat} (hl : m.r l = some (B, d, E)) {args : List AV} {vs : Array Value} (hr : RelL m args vs.toList) (hS : Sim P cd B0 w0 m H w) {nx nx' : K}
    (h : roundF (run tab n) l args H nx = some (v, H', nx')) :
    ∃ (r : Loop) (tmps : Array Value), (Instr.yield B vs).run P w = .ok (.round B r.fn tmps r.assign r.body) w ∧ RoundIn (Fw ro) 0 P B r.fn tmps r.assign r.body w (Ret P cd B0 w0 m v H') := by
  unfold roundF at h
  split at h
  · rename_i p R params assign body hl0
    obtain ⟨r, nt, hb, hst, hp, hR, hks, hca, hcb⟩ := hS.obj l _ hl0 B d E hl
    split at h
    · cases h
    · rename_i R1 hR1
      obtain ⟨hsz, hR1'⟩ := setParams_sound hks hR1 hr hR
      split at h
      · rename_i s1 hs1
        refine ⟨r, (r.params.zip vs).foldl (fun tmps (x : Tmp × Value) => tmps.setIfInBounds x.1 x.2) r.tmps, ?_, ?_⟩
        · have : ¬ (vs.size ≠ r.params.size) := by simpa using hsz
          simp only [Instr.yield, Sem.run_bind, run_getLoop hb, Result.andThen_ok, Sem.run_ite, if_neg this, Sem.run_pure]
        · refine roundIn_of_wpIn trivial ?_
          have hst1 : StRel P cd B0 w0 nt m ⟨R1, H, nx, []⟩ { tmps := (r.params.zip vs).foldl (fun tmps (x : Tmp × Value) => tmps.setIfInBounds x.1 x.2) r.tmps, defers := [] } w :=
            ⟨by rw [← Array.foldl_toList, Array.toList_zip]; exact hR1', hS, rfl⟩
          have hw := hn B0 w0 nt m (some B) true r.assign assign _ _ s1 _ w (fun h => by cases h) hca hst1 hs1
          refine wpIn_mono hw ?_
          rintro e' a1 w1 ⟨rfl, m1, hle1, hst1'⟩
          show ∃ w₂, (Instr.beginRound B).run P w1 = .ok () w₂ ∧ _
          split at h
          · rename_i p1 R0 ps as bd hl1
            obtain ⟨r1, nt1, hb1, hst1'', hp1, hR01, hks1, hca1, hcb1⟩ := hst1'.sim.obj l _ hl1 B d E (hle1.r _ _ hl)
            refine ⟨{ w1 with heap := w1.heap.setIfInBounds B (.loop { r1 with state := .busy }) }, ?_, ?_⟩
            · simp only [Instr.beginRound, Sem.run_bind, run_getLoop hb1, Result.andThen_ok, run_setObj' _ hb1 (fun _ _ _ h => by cases h), hst1'', Sem.run_pure]
            · split at h
              · rename_i e2 s2 hs2
                have hS2 : Sim P cd B0 w0 m1 (s1.H.set l (.loop .busy p1 R0 ps as bd)) { w1 with heap := w1.heap.setIfInBounds B (.loop { r1 with state := .busy }) } :=
                  hst1'.sim.setObj hl1 rfl (hle1.r _ _ hl) hb1 (fun w' hw' => ⟨_, nt1, hw', rfl, hp1, hR01, hks1, hca1, hcb1⟩)
                have hst2 : StRel P cd B0 w0 nt m1 { s1 with H := s1.H.set l (.loop .busy p1 R0 ps as bd) } a1 { w1 with heap := w1.heap.setIfInBounds B (.loop { r1 with state := .busy }) } := ⟨hst1'.regs, hS2, hst1'.defs⟩
                have hw2 := hn B0 w0 nt m1 (some B) true r.body body _ e2 s2 _ _ (fun h => by cases h) hcb hst2 hs2
                refine wpIn_mono hw2 ?_
                rintro e' a2 w2 ⟨rfl, m2, hle2, hst2'⟩
                split at h
                · rename_i p3 R3 ps3 as3 bd3 hl3
                  have hr2 := hle2.r _ _ (hle1.r _ _ hl)
                  obtain ⟨r2, nt2, hb2, hst2'', hp2, hR02, hks2, hca2, hcb2⟩ := hst2'.sim.obj l _ hl3 B d E hr2
                  have hend : ∀ jump, (Instr.endRound B jump).run P w2 = .ok (.bool jump.isNone) { w2 with heap := w2.heap.setIfInBounds B (.loop { r2 with state := if jump.isNone then .ready else .done, pending := jump }) } := by
                    intro jump
                    simp only [Instr.endRound, Sem.run_bind, run_getLoop hb2, Result.andThen_ok, run_setObj' _ hb2 (fun _ _ _ h => by cases h), Sem.run_pure]
                  have hS3 : ∀ (e : AExit), Sim P cd B0 w0 m2 (s2.H.set l (.loop (if (pendCode e).isNone then .ready else .done) e R3 ps3 as3 bd3)) { w2 with heap := w2.heap.setIfInBounds B (.loop { r2 with state := if (pendCode e).isNone then .ready else .done, pending := pendCode e }) } :=
                    fun e => hst2'.sim.setObj hl3 rfl hr2 hb2 (fun w' hw' => ⟨_, nt2, hw', rfl, pend_rel e, hR02, hks2, hca2, hcb2⟩)
                  split at h
                  · split at h
                    · injection h with h; injection h with e1 e3; injection e3 with e3 e4; subst e1 e3 e4
                      exact ⟨_, _, hend none, m2, hle1.trans hle2, by simp only [Rel]; rfl, hS3 .normal⟩
                    · rename_i e3 hne
                      injection h with h; injection h with e1 e3; injection e3 with e3 e4; subst e1 e3 e4
                      cases e2 with
                      | normal => exact absurd rfl (hne ·)
                      | ret => exact ⟨_, _, hend (some .ret), m2, hle1.trans hle2, by simp only [Rel]; rfl, hS3 .ret⟩
                      | exit i => exact ⟨_, _, hend (some (.exit i)), m2, hle1.trans hle2, by simp only [Rel]; rfl, hS3 (.exit i)⟩
                      | goto i => exact ⟨_, _, hend (some (.goto i)), m2, hle1.trans hle2, by simp only [Rel]; rfl, hS3 (.goto i)⟩
                  · cases h
                · cases h
              · cases h
          · cases h
      · cases h
  · cases h
end
end Go.Ab
