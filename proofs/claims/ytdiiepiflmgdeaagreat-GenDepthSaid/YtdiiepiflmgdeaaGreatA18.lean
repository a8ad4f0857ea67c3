/- Code: what the abstract run does, the machine does. -/
import Derived.Test.YtdiiepiflmgdeaaGreatA17
namespace Go.Ab
open Go.RowKit (Below)

/- what is asked of the check of regions whose order is drawn -/
def CdOk (P : Program) (cd : Nat → Array Oper → DT → Bool) (tab : T AFunc) : Prop :=
  ∀ n, Sound P cd tab n → ∀ (B0 : Nat) (w0 : Frz) (nt : Nat) (m : M) (ro : Option Nat) (id : Nat) (ops : Array Oper) (d : DT) (s s' : St) (base : K) (a : Act) (w : World),
    cd nt ops d = true → StRel P cd B0 w0 nt m s a w → runDT tab (run tab n) base d [] s = some s' → (Code.region id ops true).wpIn (Fw ro) 0 P (Post P cd B0 w0 nt m .normal s') a w

section moves
variable {P : Program} {b : Frame} {a : Act} {k : List Item} {cs : List Frame} {w : World}
theorem stepR_scope {c : Code} : step P (lone (b.atR a (.code (.scope c) :: k)) cs w) = .next (lone (b.atR a (.code c :: .inScope c :: k)) cs w) :=
  step_lone_go (by simp [stepG, stepG.exec, Frame.atR])
theorem stepR_inScope {c : Code} : step P (lone (b.atR a (.inScope c :: k)) cs w) = .next (lone (b.atR a k) cs w) :=
  step_lone_go (by simp [stepG, stepG.exec, Frame.atR])
end moves

section
variable {P : Program} {cd : Nat → Array Oper → DT → Bool} {tab : T AFunc} {B0 : Nat} {w0 : Frz} {m m' : M} {w : World} {nt : Nat} {a : Act} {ro : Option Nat} {e : AExit} {s s' : St}

theorem Post.mono (h : m.le m') {e' : Exit} (p : Post P cd B0 w0 nt m' e s e' a w) : Post P cd B0 w0 nt m e s e' a w :=
  ⟨p.1, let ⟨m'', h1, h2⟩ := p.2; ⟨m'', h.trans h1, h2⟩⟩

theorem loop_sound {n : Nat} (ih : ∀ j, j ≤ n → Sound P cd tab j) {inr : Bool} (hro : inr = false → ro = none) {c : Code} {x : ACode} (hc : chkCode P nt (cd nt) c x = true) : ∀ (j : Nat), j ≤ n + 1 → ∀ {m : M} {s s' : St} {e : AExit} {a : Act} {w : World} {Q : Exit → Act → World → Prop},
    StRel P cd B0 w0 nt m s a w → run tab j inr (.loop x) s = some (e, s') → (∀ e' a' w', Post P cd B0 w0 nt m e s' e' a' w' → Q e' a' w') → Code.roundsIn (Fw ro) 0 P c Q j a w
  | 0, _, m, s, s', e, a, w, Q, _, h, _ => by cases h
  | j + 1, hj, m, s, s', e, a, w, Q, hst, h, hQ => by
    have h' : (match run tab j inr x s with
      | some (.normal, s) => run tab j inr (.loop x) s
      | r => r) = some (e, s') := h
    split at h'
    · rename_i s1 hs1
      refine wpIn_mono (ih j (by omega) B0 w0 nt m ro inr c x s .normal s1 a w hro hc hst hs1) ?_
      rintro e1 a1 w1 ⟨rfl, m1, hle, hst1⟩
      exact loop_sound ih hro hc j (by omega) hst1 h' (fun e' a' w' p => hQ e' a' w' (p.mono hle))
    · rename_i r hne
      refine wpIn_mono (ih j (by omega) B0 w0 nt m ro inr c x s e s' a w hro hc hst h') ?_
      intro e1 a1 w1 p
      have hq := hQ e1 a1 w1 p
      obtain ⟨rfl, _⟩ := p
      cases e with
      | normal => exact absurd h' (hne _)
      | exit i => exact hq
      | goto i => exact hq
      | ret => exact hq

theorem scope_sound {n : Nat} (ih : ∀ j, j ≤ n → Sound P cd tab j) {inr : Bool} (hro : inr = false → ro = none) {c : Code} {x : ACode} (hc : chkCode P nt (cd nt) c x = true) {b : Frame} {k : List Item} {cs : List Frame} (hb1 : b.roundOf = (Fw ro).round) (hb2 : (Fw ro).fn b.fn) (hb3 : (Fw ro).room (cs.length + 1 + 0)) :
    ∀ (j : Nat), j ≤ n + 1 → ∀ {m : M} {s s' : St} {e : AExit} {a : Act} {w : World} {y : ACode} {c' : Code}, chkCode P nt (cd nt) c' y = true →
    StRel P cd B0 w0 nt m s a w → run tab j inr (.scope x y) s = some (e, s') →
    ∃ e' a' w', Post P cd B0 w0 nt m e s' e' a' w' ∧ ArrivesIn (Machine.fenced P (Fw ro)) P (lone (b.atR a (.code c' :: .inScope c :: k)) cs w) b k cs e' a' w'
  | 0, _, m, s, s', e, a, w, y, c', _, _, h => by cases h
  | j + 1, hj, m, s, s', e, a, w, y, c', hc', hst, h => by
    have h' : (match run tab j inr y s with
      | some (.goto l, s) => (match findL x l with
        | some rest => run tab j inr (.scope x rest) s
        | none => some (.goto l, s))
      | r => r) = some (e, s') := h
    split at h'
    · rename_i l s1 hs1
      obtain ⟨e1, a1, w1, hpost, harr⟩ := ih j (by omega) B0 w0 nt m ro inr c' y s (.goto l) s1 a w hro hc' hst hs1 b (.inScope c :: k) cs hb1 hb2 hb3
      obtain ⟨rfl, m1, hle, hst1⟩ := hpost
      obtain ⟨f1, f2⟩ := findL_ok (l := l) hc
      split at h'
      · rename_i rest hrest
        obtain ⟨rest', hr', hcr⟩ := f2 rest hrest
        obtain ⟨e2, a2, w2, hpost2, harr2⟩ := scope_sound ih hro hc hb1 hb2 hb3 j (by omega) hcr hst1 h'
        refine ⟨e2, a2, w2, hpost2.mono hle, ?_⟩
        have hgo : gotoIn l (.inScope c :: k) = some (.code rest' :: .inScope c :: k) := by simp [gotoIn, hr']
        exact .of_steps (harr.1 _ hgo) harr2
      · rename_i hnone
        injection h' with h'; injection h' with e1 e2; subst e1 e2
        have hgo : gotoIn l (.inScope c :: k) = gotoIn l k := by simp [gotoIn, f1 hnone]
        refine ⟨.goto l, a1, w1, ⟨rfl, m1, hle, hst1⟩, fun k' hk => harr.1 k' (by rw [hgo]; exact hk), fun hr' hk => harr.2 hr' (by rw [hgo]; exact hk)⟩
    · rename_i r hne
      obtain ⟨e1, a1, w1, hpost, harr⟩ := ih j (by omega) B0 w0 nt m ro inr c' y s e s' a w hro hc' hst h' b (.inScope c :: k) cs hb1 hb2 hb3
      refine ⟨e1, a1, w1, hpost, ?_⟩
      obtain ⟨rfl, _⟩ := hpost
      cases e with
      | normal => exact StepsIn.trans harr (.one (fenced_calm hb2 hb3 rfl) stepR_inScope)
      | exit i => exact harr
      | goto i => exact absurd h' (hne _ _)
      | ret => exact harr

theorem alloc_get (w : World) (ob : Obj) : (w.alloc ob).heap[w.heap.size]? = some ob := by
  show (w.heap.push _)[w.heap.size]? = _
  simp

theorem K.ne_succ (k : K) : k ≠ k.succ := fun h => by
  have := congrArg K.num h
  rw [K.num_succ] at this
  omega

theorem pend_wp {F : Fence} {n : Nat} {Q : Exit → Act → World → Prop} (e : AExit) (h : Q (exitOf e) a w) : match pendCode e with
    | none => Q .normal a w
    | some c => c.wpIn F n P Q a w := by
  cases e with
  | normal => exact h
  | ret => exact wpIn_ret h
  | exit i => exact wpIn_exit h
  | goto l => exact wpIn_goto h

theorem rangeFunc_sound (hT : TabOk P cd tab) {n : Nat} (hn : Sound P cd tab n) {f : Opd} {f' : Operand} {ps : Array Tmp} {ks : List K} {as bd : Code} {as' bd' : ACode}
    (hf : chkOpd nt f' f = true) (hks : chkKs nt ps.toList ks = true) (has : chkCode P nt (cd nt) as as' = true) (hbd : chkCode P nt (cd nt) bd bd' = true)
    (hst : StRel P cd B0 w0 nt m s a w) (h : run tab (n + 1) false (.rangeFunc f ks as' bd') s = some (e, s')) :
    (Code.rangeFunc f' ps as bd).wpIn (Fw none) 0 P (Post P cd B0 w0 nt m e s') a w := by
  have h' : (match newO s.H s.nx .defs with
    | none => none
    | some H => match newO H s.nx.succ (.loop .ready .normal s.R ks as' bd') with
      | none => none
      | some H => match ev s.R f with
        | .func n' first captured => match callN tab (run tab n) (K.ofNat 8 n') n' first captured [.yield s.nx.succ] H s.nx.succ.succ with
          | none => none
          | some (_, H, nx) => match H.get s.nx.succ with
            | some (.loop .ready p _ _ _ _) => some (p, { s with H := H.set s.nx.succ .dead, nx := nx, ds := s.nx :: s.ds })
            | some (.loop .done p _ _ _ _) => some (p, { s with H := H.set s.nx.succ .dead, nx := nx, ds := s.nx :: s.ds })
            | _ => none
        | _ => none) = some (e, s') := h
  clear h
  split at h'
  · cases h'
  · rename_i H1 hH1
    split at h'
    · cases h'
    · rename_i H2 hH2
      split at h'
      · rename_i n' first captured he
        split at h'
        · cases h'
        · rename_i v H3 nx hcall
          obtain ⟨hn1, rfl⟩ := newO_some hH1
          obtain ⟨hn2, rfl⟩ := newO_some hH2
          have hr1 := hst.sim.dom _ hn1
          have hle1 := M.le_new m (w.heap.size, 0, 0) hr1
          have hS1 := hst.sim.alloc (ob := .deferred (some [])) (o := .defs) (d := 0) (E := 0) hr1 (hst.sim.fresh hn1) (alloc_get _ _)
          have hr2 := hS1.dom _ hn2
          refine wpIn_rangeFunc fun fn _ => ?_
          let r : Loop := { state := .ready, pending := none, fn := fn, tmps := a.tmps, params := ps, assign := as, body := bd, defers := w.heap.size }
          have hle2 := M.le_new (m.new s.nx (w.heap.size, 0, 0)) ((w.alloc (.deferred (some []))).heap.size, 0, 0) hr2
          have hS2 := hS1.alloc (ob := .loop r) (o := .loop .ready .normal s.R ks as' bd') (d := 0) (E := 0) hr2 (hS1.fresh hn2)
            ⟨r, nt, alloc_get _ _, rfl, rfl, (hst.regs.mono hle1).mono hle2, hks, has, hbd⟩
          have hle := hle1.trans hle2
          have rx := (ev_rel hst.regs hf).mono hle
          generalize hu : a.eval f' = u at rx
          rw [he] at rx
          simp only [Rel] at rx
          obtain ⟨xs, ys, rfl, q1, q2⟩ := rx
          have hl2 : ((m.new s.nx (w.heap.size, 0, 0)).new s.nx.succ ((w.alloc (.deferred (some []))).heap.size, 0, 0)).r s.nx.succ = some ((w.alloc (.deferred (some []))).heap.size, 0, 0) := M.new_same _ _ _
          have hd2 : ((m.new s.nx (w.heap.size, 0, 0)).new s.nx.succ ((w.alloc (.deferred (some []))).heap.size, 0, 0)).r s.nx = some (w.heap.size, 0, 0) := hle2.r _ _ (M.new_same _ _ _)
          have q3 : RelL ((m.new s.nx (w.heap.size, 0, 0)).new s.nx.succ ((w.alloc (.deferred (some []))).heap.size, 0, 0)) [.yield s.nx.succ] (#[.func (.yield (w.alloc (.deferred (some []))).heap.size) #[] #[]] : Array Value).toList :=
            RelL.one (by simp only [Rel]; exact ⟨_, _, _, hl2, rfl⟩)
          obtain ⟨hinv, hC⟩ := callN_sound (ro := none) hT hn q1 q2 q3 hS2 hcall ((w.alloc (.deferred (some []))).alloc (.loop r))
          refine ⟨(w.alloc (.deferred (some []))).heap.size, [{ target := .collected w.heap.size, args := #[] }], (w.alloc (.deferred (some []))).alloc (.loop r), { target := .fn (.func n') ys, args := xs ++ #[.func (.yield (w.alloc (.deferred (some []))).heap.size) #[] #[]] }, _, n', _, _, ?_, ?_, fun _ _ => trivial, hinv, depth_ok, ?_⟩
          · rfl
          · have e1 : ∀ v, a.eval (.const v) = v := fun _ => rfl
            simp only [resolve, hu, Deferred.ofValue, List.map_toArray, List.map_cons, List.map_nil, e1, Sem.run_pure]
          · refine hC.mono fun e' w3 hret => ?_
            cases e' with
            | panicked c => exact hret.elim
            | outgrown => exact hret.elim
            | returned u =>
              obtain ⟨m3, hle3, _, hS3⟩ := hret
              have fin : ∀ {st : LoopState} {p : AExit} {R0 : T AV} {ps0 : List K} {as0 bd0 : ACode}, st ≠ .busy → H3.get s.nx.succ = some (.loop st p R0 ps0 as0 bd0) →
                  s' = { s with H := H3.set s.nx.succ .dead, nx := nx, ds := s.nx :: s.ds } → e = p →
                  rangePost (Fw none) 0 P (w.alloc (.deferred (some []))).heap.size (Post P cd B0 w0 nt m e s') { a with defers := [{ target := .collected w.heap.size, args := #[] }] ++ a.defers } (.returned u) w3 := by
                intro st p R0 ps0 as0 bd0 hbusy hg es ee
                subst es ee
                obtain ⟨r3, nt3, hb3, hst3, hp3, _⟩ := hS3.obj _ _ hg _ _ _ (hle3.r _ _ hl2)
                refine ⟨r3.pending, { w3 with heap := w3.heap.setIfInBounds (w.alloc (.deferred (some []))).heap.size (.loop { r3 with state := .exhausted }) }, ?_, ?_⟩
                · have hnb : (r3.state == .busy) = false := by
                    rw [hst3]; cases st <;> first | rfl | exact absurd rfl hbusy
                  simp only [Instr.endLoop, Sem.run_bind, run_getLoop hb3, Result.andThen_ok, hnb, Bool.false_eq_true, if_false, run_setObj' _ hb3 (fun _ _ _ h => by cases h), Sem.run_pure]
                · rw [pend_eq hp3]
                  refine pend_wp e ⟨rfl, m3, hle.trans hle3, ?_, ?_, ?_⟩
                  · exact hst.regs.mono (hle.trans hle3)
                  · exact hS3.setObj hg rfl (hle3.r _ _ hl2) hb3 (fun _ _ => trivial)
                  · exact ⟨_, _, _, _, hle3.r _ _ hd2, rfl, hst.defs.mono (hle.trans hle3)⟩
              split at h'
              · rename_i p _ _ _ _ hg
                injection h' with h'; injection h' with e1 e2
                exact fin (by intro h; cases h) hg e2.symm e1.symm
              · rename_i p _ _ _ _ hg
                injection h' with h'; injection h' with e1 e2
                exact fin (by intro h; cases h) hg e2.symm e1.symm
              · cases h'
      · cases h'

theorem sound_all (hT : TabOk P cd tab) (hcd : CdOk P cd tab) (n : Nat) : Sound P cd tab n := by
  induction n using Nat.strongRecOn with
  | _ N ih =>
    cases N with
    | zero => intro B0 w0 nt m ro inr c x s e s' a w _ _ _ h; cases h
    | succ n =>
      have ihn := ih n (by omega)
      have ihl : ∀ j, j ≤ n → Sound P cd tab j := fun j hj => ih j (by omega)
      intro B0 w0 nt m ro inr c x s e s' a w hro hc hst h
      cases x with
      | skip =>
        cases c <;> simp only [chkCode] at hc <;> try (cases hc; done)
        injection h with h; injection h with e1 e2; subst e1 e2
        exact wpIn_skip ⟨rfl, m, M.le.refl m, hst⟩
      | label l =>
        cases c <;> simp only [chkCode] at hc <;> try (cases hc; done)
        injection h with h; injection h with e1 e2; subst e1 e2
        exact wpIn_label ⟨rfl, m, M.le.refl m, hst⟩
      | exit i =>
        cases c <;> simp only [chkCode] at hc <;> try (cases hc; done)
        simp only [Nat.beq_eq] at hc; subst hc
        injection h with h; injection h with e1 e2; subst e1 e2
        exact wpIn_exit ⟨rfl, m, M.le.refl m, hst⟩
      | goto l =>
        cases c <;> simp only [chkCode] at hc <;> try (cases hc; done)
        simp only [Nat.beq_eq] at hc; subst hc
        injection h with h; injection h with e1 e2; subst e1 e2
        exact wpIn_goto ⟨rfl, m, M.le.refl m, hst⟩
      | summ v => cases h
      | ret =>
        cases c <;> simp only [chkCode] at hc <;> try (cases hc; done)
        injection h with h; injection h with e1 e2; subst e1 e2
        exact wpIn_ret ⟨rfl, m, M.le.refl m, hst⟩
      | region na l =>
        cases c with
        | region id ops dr =>
          cases dr with
          | true => simp [chkCode] at hc
          | false =>
            simp only [chkCode] at hc
            have h' : (match stepsS tab (run tab n) s.nx l { s with nx := s.nx.add na } with
              | some s => some (AExit.normal, s)
              | none => none) = some (e, s') := h
            split at h'
            · rename_i s1 hs1
              injection h' with h'; injection h' with e1 e2; subst e1 e2
              refine wpIn_region ?_
              rw [List.range_eq_range', ← Array.length_toList]
              have hst' : StRel P cd B0 w0 nt m { s with nx := s.nx.add na } a w := ⟨hst.regs, hst.sim, hst.defs⟩
              exact steps_sound hT ihn hc (fun j o hj => by simpa using hj) hs1 hst' (fun m' a' w' hle hst'' => ⟨rfl, m', hle, hst''⟩)
            · cases h'
        | _ => simp [chkCode] at hc
      | draw na d =>
        cases c with
        | region id ops dr =>
          cases dr with
          | false => simp [chkCode] at hc
          | true =>
            simp only [chkCode] at hc
            have h' : (match runDT tab (run tab n) s.nx d [] { s with nx := s.nx.add na } with
              | some s => some (AExit.normal, s)
              | none => none) = some (e, s') := h
            split at h'
            · rename_i s1 hs1
              injection h' with h'; injection h' with e1 e2; subst e1 e2
              have hst' : StRel P cd B0 w0 nt m { s with nx := s.nx.add na } a w := ⟨hst.regs, hst.sim, hst.defs⟩
              exact hcd n ihn B0 w0 nt m ro id ops d _ _ _ a w hc hst' hs1
            · cases h'
        | _ => simp [chkCode] at hc
      | seq y z =>
        cases c <;> simp only [chkCode] at hc <;> try (cases hc; done)
        rename_i cy cz
        simp only [Bool.and_eq_true] at hc
        have h' : (match run tab n inr y s with
          | some (.normal, s) => run tab n inr z s
          | r => r) = some (e, s') := h
        split at h'
        · rename_i s1 hs1
          refine wpIn_seq (wpIn_mono (ihn B0 w0 nt m ro inr cy y s .normal s1 a w hro hc.1 hst hs1) ?_)
          rintro e1 a1 w1 ⟨rfl, m1, hle, hst1⟩
          exact wpIn_mono (ihn B0 w0 nt m1 ro inr cz z s1 e s' a1 w1 hro hc.2 hst1 h') (fun e' a' w' p => p.mono hle)
        · rename_i r hne
          refine wpIn_seq (wpIn_mono (ihn B0 w0 nt m ro inr cy y s e s' a w hro hc.1 hst h') ?_)
          intro e1 a1 w1 p
          have p' := p
          obtain ⟨rfl, _⟩ := p
          cases e with
          | normal => exact absurd h' (hne _)
          | exit i => exact p'
          | goto i => exact p'
          | ret => exact p'
      | cond g y z =>
        cases c <;> simp only [chkCode] at hc <;> try (cases hc; done)
        rename_i cg cy cz
        simp only [Bool.and_eq_true] at hc
        obtain ⟨⟨hg, hy⟩, hz⟩ := hc
        have r := ev_rel hst.regs hg
        have h' : (match ev s.R g with
          | .bool true => run tab n inr y s
          | .bool false => run tab n inr z s
          | _ => none) = some (e, s') := h
        split at h'
        · rename_i he
          rw [he] at r; simp only [Rel] at r
          exact wpIn_cond_true r (ihn B0 w0 nt m ro inr cy y s e s' a w hro hy hst h')
        · rename_i he
          rw [he] at r; simp only [Rel] at r
          exact wpIn_cond_false r (ihn B0 w0 nt m ro inr cz z s e s' a w hro hz hst h')
        · cases h'
      | block i y =>
        cases c <;> simp only [chkCode] at hc <;> try (cases hc; done)
        rename_i i' cy
        simp only [Bool.and_eq_true, Nat.beq_eq] at hc
        obtain ⟨rfl, hy⟩ := hc
        have h' : (match run tab n inr y s with
          | some (.exit id', s) => if Nat.beq id' i' then some (.normal, s) else some (.exit id', s)
          | r => r) = some (e, s') := h
        split at h'
        · rename_i id' s1 hs1
          refine wpIn_block (wpIn_mono (ihn B0 w0 nt m ro inr cy y s (.exit id') s1 a w hro hy hst hs1) ?_)
          rintro e1 a1 w1 ⟨rfl, m1, hle, hst1⟩
          show if id' = i' then _ else _
          split at h'
          · rename_i hi
            simp only [Nat.beq_eq] at hi
            injection h' with h'; injection h' with e1 e2; subst e1 e2
            rw [if_pos hi]
            exact ⟨rfl, m1, hle, hst1⟩
          · rename_i hi
            simp only [Nat.beq_eq] at hi
            injection h' with h'; injection h' with e1 e2; subst e1 e2
            rw [if_neg hi]
            exact ⟨rfl, m1, hle, hst1⟩
        · rename_i r hne
          refine wpIn_block (wpIn_mono (ihn B0 w0 nt m ro inr cy y s e s' a w hro hy hst h') ?_)
          intro e1 a1 w1 p
          have p' := p
          obtain ⟨rfl, _⟩ := p
          cases e with
          | normal => exact p'
          | exit i => exact absurd h' (hne _ _)
          | goto i => exact p'
          | ret => exact p'
      | loop y =>
        cases c <;> simp only [chkCode] at hc <;> try (cases hc; done)
        exact wpIn_loop_rounds (n + 1) (loop_sound ihl hro hc (n + 1) (Nat.le_refl _) hst h (fun _ _ _ p => p))
      | scope y z =>
        cases c <;> simp only [chkCode] at hc <;> try (cases hc; done)
        rename_i cy
        simp only [Bool.and_eq_true] at hc
        intro b k cs hb1 hb2 hb3
        obtain ⟨e', a', w', hp, harr⟩ := scope_sound ihl hro hc.1 hb1 hb2 hb3 (n + 1) (Nat.le_refl _) hc.2 hst h
        exact ⟨e', a', w', hp, .of_steps (.one (fenced_calm hb2 hb3 rfl) stepR_scope) harr⟩
      | rangeFunc f ks y z =>
        cases c <;> simp only [chkCode] at hc <;> try (cases hc; done)
        simp only [Bool.and_eq_true] at hc
        cases inr with
        | true => cases h
        | false =>
          have := hro rfl; subst this
          exact rangeFunc_sound hT ihn hc.1.1.1 hc.1.1.2 hc.1.2 hc.2 hst h
end
end Go.Ab
