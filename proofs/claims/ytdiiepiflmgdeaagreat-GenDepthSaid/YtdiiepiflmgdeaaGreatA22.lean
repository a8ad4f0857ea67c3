/- Regions whose order is drawn: what is done early, what is done for real. -/
import Derived.Test.YtdiiepiflmgdeaaGreatA21
namespace Go.Ab
set_option linter.unusedSimpArgs false
open Go.RowKit (Below)

theorem mobile_cases {op : AOp} (h : mobile op = true) : pureOp op = true ∨ readOp op = true ∨ ∃ j, newOp op = some j := by
  simp only [mobile, Bool.or_eq_true, Option.isSome_iff_exists] at h
  exact h
theorem pure_new {op : AOp} (h : pureOp op = true) : newOp op = none := by cases op <;> first | rfl | simp [pureOp] at h
theorem read_new {op : AOp} (h : readOp op = true) : newOp op = none := by cases op <;> first | rfl | simp [readOp] at h

theorem AgainP.keep {gh gh' : K → Prop} {base : K} {st : AStep} {R R' : T AV} {H H' : T AObj} (h : AgainP gh base st R H) (hl : Agree R' R (looksK st)) (hd : ∀ k, st.dst = some k → R'.get k = R.get k) (hg : ∀ b, gh b → gh' b)
    (hH : newOp st.op ≠ none → ∀ id o, H.get id = some o → H'.get id = some o) (hx : newOp st.op = none → ∀ v, aexec base st.op R H = some (v, H) → aexec base st.op R H' = some (v, H')) : AgainP gh' base st R' H' := by
  have hw := wantedA_congr hl.left
  have val : ∀ v, valAt st R v → valAt st R' v := fun v hv k hk => by rw [hd k hk]; exact hv k hk
  refine ⟨by rw [okG_congr hl.left]; exact h.1, fun e => val _ (h.2.1 (by rw [← hw]; exact e)), fun e => ?_⟩
  rcases h.2.2 (by rw [← hw]; exact e) with ⟨j, z, ho, h1, h2, h3⟩ | ⟨j, ho, h1, h2, h3⟩ | ⟨hn, v, h1, h2⟩
  · exact .inl ⟨j, z, ho, hH (by rw [ho]; simp [newOp]) _ _ h1, hg _ h2, val _ h3⟩
  · exact .inr (.inl ⟨j, ho, hH (by rw [ho]; simp [newOp]) _ _ h1, hg _ h2, val _ h3⟩)
  · exact .inr (.inr ⟨hn, v, by rw [aexec_congr hl.right]; exact hx hn v h1, val _ h2⟩)

theorem AgainP.redo {gh : K → Prop} {base : K} {st : AStep} {R : T AV} {H : T AObj} {s1 : St} (h : AgainP gh base st R H) (hl : Agree s1.R R (looksK st)) (hd : ∀ k, st.dst = some k → s1.R.get k = R.get k)
    (hm : readOp st.op = true ∨ ∃ j, newOp st.op = some j) (ha : again base st s1 = true) : AgainP gh base st s1.R s1.H := by
  have hw := wantedA_congr hl.left
  have val : ∀ v, valAt st R v → valAt st s1.R v := fun v hv k hk => by rw [hd k hk]; exact hv k hk
  refine ⟨by rw [okG_congr hl.left]; exact h.1, fun e => val _ (h.2.1 (by rw [← hw]; exact e)), fun e => ?_⟩
  unfold again at ha
  have hokg : okG st.guard s1.R = true := by rw [okG_congr hl.left]; exact h.1
  rw [if_pos hokg, if_pos e] at ha
  rcases h.2.2 (by rw [← hw]; exact e) with ⟨j, z, ho, h1, h2, h3⟩ | ⟨j, ho, h1, h2, h3⟩ | ⟨hn, v, h1, h2⟩
  · rw [ho] at ha
    simp only at ha
    split at ha
    · rename_i l hl'
      rw [sameL_eq _ _ ha] at hl'
      exact .inl ⟨j, z, ho, hl', h2, val _ h3⟩
    · cases ha
  · rw [ho] at ha
    simp only at ha
    split at ha
    · rename_i hl'
      exact .inr (.inl ⟨j, ho, hl', h2, val _ h3⟩)
    · cases ha
  · have hr : readOp st.op = true := by
      rcases hm with hm | ⟨j, hj⟩
      · exact hm
      · rw [hn] at hj; cases hj
    refine .inr (.inr ⟨hn, ?_⟩)
    have ha' : (match aexec base st.op s1.R s1.H with
      | some (v, _) => (match st.dst with
        | some k => (match s1.R.get k with
          | some u => same u v
          | none => false)
        | none => false)
      | none => false) = true := by
      generalize st.op = op at ha hr ⊢
      cases op <;> first | exact ha | (simp [readOp] at hr; done)
    split at ha'
    · rename_i v' H' hx
      obtain ⟨rfl, _⟩ := read_some hr hx
      split at ha'
      · rename_i k hk
        split at ha'
        · rename_i u hu
          have := same_eq _ _ ha'; subst this
          refine ⟨u, hx, fun k' hk' => ?_⟩
          rw [hk] at hk'; injection hk' with hk'; subst hk'
          rw [hu]; rfl
        · cases ha'
      · cases ha'
    · cases ha'

theorem stepS_mob {tab : T AFunc} {run : Run} {base : K} {st : AStep} {s s1 : St} (hm : mobile st.op = true) (h : stepS tab run base st s = some s1) :
    okG st.guard s.R = true ∧ ((wantedA st.guard s.R = false ∧ s1 = { s with R := putR st.dst undef s.R }) ∨ (wantedA st.guard s.R = true ∧ ∃ v H, aexec base st.op s.R s.H = some (v, H) ∧ s1 = ⟨putR st.dst v s.R, H, s.nx, s.ds⟩)) := by
  unfold stepS at h
  split at h
  case isFalse => cases h
  rename_i hokg
  refine ⟨hokg, ?_⟩
  split at h
  · rename_i hw
    right
    refine ⟨hw, ?_⟩
    have h' : (match aexec base st.op s.R s.H with
      | some (v, H) => some (⟨putR st.dst v s.R, H, s.nx, s.ds⟩ : St)
      | none => none) = some s1 := by
      generalize st.op = op at h hm ⊢
      cases op <;> first | exact h | (simp [mobile, pureOp, readOp, newOp] at hm; done)
    split at h'
    · rename_i v H hx
      injection h' with h'
      exact ⟨v, H, hx, h'.symm⟩
    · cases h'
  · rename_i hw
    left
    injection h with h
    exact ⟨by simpa using hw, h.symm⟩

section
variable {P : Program} {cd : Nat → Array Oper → DT → Bool} {tab : T AFunc} {B0 : Nat} {w0 : Frz} {m0 m : M} {nt : Nat} {ops : Array Oper} {base : K}
  {L : List Ent} {s s1 : St} {U : Nat → Prop} {gh : K → Prop} {Rr : T AV} {listed : Array Bool} {a : Act} {w : World} {ro : Option Nat} {Q : Exit → Act → World → Prop}

/- an operation that was done early is done for real -/
theorem Inv.done (h : Inv P cd B0 w0 nt m0 ops base L s U gh Rr m listed a w) {x : Ent} (hx : x ∈ L) {o : Oper} (ho : ops[x.1]? = some o) (hdst : chkDst nt o.dst x.2.1.dst = true) {m' : M} {gh' : K → Prop} {v : AV} {u : Value} {w' : World}
    (hle : m.le m') (hr : Rel m' v u) (hS : Sim P cd B0 ⟨w0.w, fun b => w0.G b ∨ gh' b, w0.as⟩ m' s.H w') (hgh : ∀ b, gh' b → gh b) (hval : valAt x.2.1 s.R v)
    (hag : ∀ y ∈ L, U y.1 → y.1 ≠ x.1 → AgainP gh' base y.2.1 s.R s.H) (hdeps : ∀ d ∈ dirAt ops x.1, listed.getD d false = true) :
    Inv P cd B0 w0 nt m0 ops base L s (fun j => U j ∧ j ≠ x.1) gh' (putR x.2.1.dst v Rr) m' (listed.setIfInBounds x.1 true) (a.put o.dst u) w' := by
  have hlt : x.1 < listed.size := by rw [h.size]; exact (Array.getElem?_eq_some_iff.1 ho).1
  refine ⟨h.le.trans hle, put_regs (h.regs.mono hle) hdst hr, hS, by rw [put_defers]; exact h.defs.mono hle, fun b hb => h.ghG b (hgh b hb), ?_, fun y hy hU => ⟨(h.pend y hy hU.1).1, hag y hy hU.1 hU.2⟩,
    fun y hy z hz h1 h2 => h.pairs y hy z hz h1.1 h2.1, fun y hy z hz h1 h2 => h.slots y hy z hz h1.1 h2.1, h.steps, h.uniq, h.ord, h.clos, ?_, ?_, by simp [h.size], fun i hi => h.sub i hi.1⟩
  · intro k hk
    rw [putR_get]
    by_cases e : x.2.1.dst = some k
    · rw [if_pos e]; exact (hval k e).symm
    · rw [if_neg e]
      refine h.agree k fun y hy hU hd => ?_
      by_cases hxy : y.1 = x.1
      · have := h.uniq y hy x hx hxy; subst this; exact e hd
      · exact hk y hy ⟨hU, hxy⟩ hd
  · intro i
    rw [getD_set hlt, h.lst]
    constructor
    · rintro (rfl | ⟨h1, h2⟩)
      · exact ⟨inL_iff.2 ⟨x, hx, rfl⟩, fun h => h.2 rfl⟩
      · exact ⟨h1, fun h => h2 h.1⟩
    · rintro ⟨h1, h2⟩
      by_cases e : i = x.1
      · exact .inl e
      · exact .inr ⟨h1, fun hu => h2 ⟨hu, e⟩⟩
  · intro i hi j hj
    rw [getD_set hlt] at hi ⊢
    rcases hi with rfl | hi
    · exact .inr (hdeps j hj)
    · exact .inr (h.down i hi j hj)

theorem Inv.real (h : Inv P cd B0 w0 nt m0 ops base L s U gh Rr m listed a w) {x : Ent} (hx : x ∈ L) (hU : U x.1) (hdeps : ∀ d ∈ dirAt ops x.1, listed.getD d false = true) {K0 : Act → World → Prop}
    (hK : ∀ m' a' w' Rr' gh', Inv P cd B0 w0 nt m0 ops base L s (fun j => U j ∧ j ≠ x.1) gh' Rr' m' (listed.setIfInBounds x.1 true) a' w' → K0 a' w') : wpOpIn (Fw ro) 0 P ops Q x.1 K0 a w := by
  obtain ⟨o, ho, hst⟩ := h.steps x hx
  simp only [chkStep, Bool.and_eq_true] at hst
  obtain ⟨⟨hdst, hguard⟩, hop⟩ := hst
  have hlooks := h.looks (l := looksK x.2.1) (c := x.2.2) (fun y hy hUy => h.pairs x hx y hy hU hUy) (fun j hj => h.clos x hx j hj listed h.down hdeps)
  obtain ⟨hmob, hokg, hag0, hag1⟩ := h.pend x hx hU
  have hw : Region.wanted o (yielded ops a.tmps) = wantedA x.2.1.guard s.R := (wanted_eq h.regs hguard (by rw [okG_congr hlooks.left]; exact hokg)).trans (wantedA_congr hlooks.left)
  unfold wpOpIn
  simp only [ho, hw]
  cases hwt : wantedA x.2.1.guard s.R with
  | false =>
    simp only [Bool.false_eq_true, if_false]
    exact ⟨fun _ _ => trivial, hK _ _ _ _ _ (h.done hx ho hdst (M.le.refl m) (undef_rel m) h.sim (fun _ hb => hb) (hag0 hwt) (fun y hy hUy _ => (h.pend y hy hUy).2) hdeps)⟩
  | true =>
    simp only [if_true]
    refine ⟨fun _ _ => trivial, ?_⟩
    rw [Oper.semAt_eq _ _ _ (fun c e => by rw [e, chkOp_defer] at hop; cases hop)]
    have others : ∀ (id : K) (j : Nat), newOp x.2.1.op = some j → id = base.add j → ∀ y ∈ L, U y.1 → y.1 ≠ x.1 → AgainP (fun b => gh b ∧ b ≠ id) base y.2.1 s.R s.H := by
      intro id j hj hid y hy hUy hne
      obtain ⟨_, hag⟩ := h.pend y hy hUy
      have hsl := h.slots x hx y hy hU hUy (Ne.symm hne)
      have ne_id : ∀ j', newOp y.2.1.op = some j' → base.add j' ≠ id := by
        intro j' hj' e
        rw [hj, hj'] at hsl
        simp only [slotNe, Bool.not_eq_true'] at hsl
        rw [hid] at e
        have := congrArg K.num e
        rw [K.num_add, K.num_add] at this
        have : j = j' := by omega
        rw [this, Nat.beq_refl] at hsl
        cases hsl
      refine ⟨hag.1, hag.2.1, fun e => ?_⟩
      rcases hag.2.2 e with ⟨j', z, ho', h1, h2, h3⟩ | ⟨j', ho', h1, h2, h3⟩ | h4
      · exact .inl ⟨j', z, ho', h1, ⟨h2, ne_id j' (by rw [ho']; rfl)⟩, h3⟩
      · exact .inr (.inl ⟨j', ho', h1, ⟨h2, ne_id j' (by rw [ho']; rfl)⟩, h3⟩)
      · exact .inr (.inr h4)
    rcases hag1 hwt with ⟨j, z, hz, hget, hgh, hval⟩ | ⟨j, hz, hget, hgh, hval⟩ | ⟨hn, v, hx', hval⟩
    · -- a row
      rw [hz] at hop
      obtain ⟨t, hot, hzo⟩ : ∃ t, o.op = .alloc t ∧ zerosOk P t z = true := by
        simp only [chkOp] at hop
        split at hop
        · rename_i t ht; exact ⟨t, ht, hop⟩
        · cases hop
      obtain ⟨it, zv, hit, hzv, hzr⟩ := zeros_rel (m := m) hzo
      have hlen := hzr.length
      simp only [Array.length_toList] at hlen
      have hrn : m.r (base.add j) = none := (h.sim.rsv _ (.inr hgh)).1
      have hS1 := h.sim.weaken (G := fun b => w0.G b ∨ (gh b ∧ b ≠ base.add j)) (fun b hb => hb.imp id And.left)
      have hle := M.le_new m (w.heap.size, 0, zv.cells.size) hrn
      have hS2 := hS1.alloc (id := base.add j) (o := .cells z) (ob := .cells zv.cells t) (d := 0) (E := zv.cells.size) hrn
        (fun hb => hb.elim (h.ghG _ hgh) (fun hb => hb.2 rfl))
        ⟨zv.cells, t, alloc_get _ _, by omega, by omega, fun i y hy => by
          obtain ⟨u, hu, hr⟩ := hzr.get i y hy
          exact ⟨u, by simpa using hu, hr.mono hle⟩⟩
      rw [T.set_same hget] at hS2
      have hrun : (execOp a.eval o).run P w = .ok (.value (.pointer (some ⟨w.heap.size, 0, none⟩))) (w.alloc (.cells zv.cells t)) := by
        simp only [execOp, hot, Instr.alloc, Sem.run_bind, run_zero (show (P.info? t).bind (·.zero) = some zv by rw [hit]; exact hzv), Result.andThen_ok, newVar, newRow, run_newObj, Sem.run_pure]
        rfl
      rw [hrun]
      refine hK _ _ _ _ _ (h.done (gh' := fun b => gh b ∧ b ≠ base.add j) hx ho hdst hle (v := .ptr (base.add j) 0) ?_ hS2 (fun b hb => hb.1) hval (others _ j (by rw [hz]; rfl) rfl) hdeps)
      simp only [Rel]
      exact ⟨_, _, _, M.new_same _ _ _, rfl⟩
    · -- a map
      rw [hz] at hop
      obtain ⟨t, hot⟩ : ∃ t, o.op = .makeMap t none := by
        simp only [chkOp] at hop
        split at hop
        · rename_i t r ht
          cases r with
          | none => exact ⟨t, ht⟩
          | some r => simp at hop
        · cases hop
      have hrn : m.r (base.add j) = none := (h.sim.rsv _ (.inr hgh)).1
      have hS1 := h.sim.weaken (G := fun b => w0.G b ∨ (gh b ∧ b ≠ base.add j)) (fun b hb => hb.imp id And.left)
      have hle := M.le_new m (w.heap.size, 0, 0) hrn
      have hS2 := hS1.alloc (id := base.add j) (o := .map [] 0) (ob := .map #[] 0) (d := 0) (E := 0) hrn
        (fun hb => hb.elim (h.ghG _ hgh) (fun hb => hb.2 rfl))
        ⟨#[], alloc_get _ _, by simp only [List.map_nil, RelL], by simp only [List.map_nil, RelL], rfl⟩
      rw [T.set_same hget] at hS2
      have hrun : (execOp a.eval o).run P w = .ok (.value (.map (some w.heap.size))) (w.alloc (.map #[] 0)) := by
        simp only [execOp, hot, Instr.makeMap, Option.map_none, Sem.run_bind, Sem.run_pure, Result.andThen_ok, run_newObj]
        rfl
      rw [hrun]
      refine hK _ _ _ _ _ (h.done (gh' := fun b => gh b ∧ b ≠ base.add j) hx ho hdst hle (v := .map (base.add j)) ?_ hS2 (fun b hb => hb.1) hval (others _ j (by rw [hz]; rfl) rfl) hdeps)
      simp only [Rel]
      exact ⟨_, _, _, M.new_same _ _ _, rfl⟩
    · -- any other
      rw [← aexec_congr hlooks.right] at hx'
      obtain ⟨m', u, w', hle, hres, hrel, hS'⟩ := aexec_sound h.regs h.sim hop hx'
      have fin := hK _ _ _ _ _ (h.done (gh' := gh) hx ho hdst hle hrel hS' (fun _ hb => hb) hval (fun y hy hUy _ => (h.pend y hy hUy).2) hdeps)
      rcases hres with hres | ⟨hres, rfl⟩
      · rw [hres]; exact fin
      · rw [hres]; exact fin
end
end Go.Ab
