/- Regions whose order is drawn: the canonical way, events, the whole. -/
import Derived.Test.YtdiiepiflmgdeaaGreatA22
namespace Go.Ab
set_option linter.unusedSimpArgs false
open Go.RowKit (Below)

section
variable {P : Program} {cd : Nat → Array Oper → DT → Bool} {tab : T AFunc} {B0 : Nat} {w0 : Frz} {m0 m : M} {nt : Nat} {ops : Array Oper} {base : K}
  {L : List Ent} {s s1 s' : St} {U : Nat → Prop} {gh : K → Prop} {Rr : T AV} {listed : Array Bool} {a : Act} {w : World} {ro : Option Nat} {Q : Exit → Act → World → Prop}

/- what the check of one entry says -/
structure EntOk (P : Program) (nt : Nat) (ops : Array Oper) (L : List Ent) (i : Nat) (st : AStep) : Prop where
  oper : ∃ o, ops[i]? = some o ∧ chkStep P nt ops o st = true
  fresh : inL L i = false
  deps : ∀ d ∈ dirAt ops i, inL L d = true
  pair : ∀ y ∈ L, settled L y.1 = true ∨ pairOk st (closOf L (dirAt ops i)) y = true
  self : mobile st.op = true → inK st.dst (looksK st) = false
theorem entOk {i : Nat} {st : AStep} (h : chkEnt P nt ops L i st = true) : EntOk P nt ops L i st := by
  unfold chkEnt at h
  split at h
  · cases h
  · rename_i o ho
    have hd : dirAt ops i = direct o := by unfold dirAt; rw [ho]
    simp only [Bool.and_eq_true, Bool.not_eq_true', List.all_eq_true, Bool.or_eq_true] at h
    obtain ⟨⟨⟨⟨h1, h2⟩, h3⟩, h4⟩, h5⟩ := h
    refine ⟨⟨o, ho, h1⟩, h2, ?_, ?_, ?_⟩
    · rw [hd]; exact h3
    · rw [hd]; exact h4
    · intro hm
      rcases h5 with h5 | h5
      · rw [hm] at h5; cases h5
      · exact h5

/- two entries, where the elder may still be undone -/
structure PairP (st : AStep) (c : Nat) (y : Ent) : Prop where
  p1 : inK st.dst (looksK y.2.1) = false
  p2 : ∀ k, st.dst = some k → y.2.1.dst ≠ some k
  p3 : inK y.2.1.dst (looksK st) = true → c.testBit y.1 = true
  p4 : slotNe (newOp st.op) (newOp y.2.1.op) = true

theorem Inv.unsettled (h : Inv P cd B0 w0 nt m0 ops base L s U gh Rr m listed a w) {y : Ent} (hU : U y.1) : settled L y.1 = false := by
  cases hs : settled L y.1 with
  | false => rfl
  | true =>
    exfalso
    simp only [settled, List.any_eq_true, Bool.and_eq_true, Bool.not_eq_true'] at hs
    obtain ⟨e, he, hm, ht⟩ := hs
    have hne : ¬ U e.1 := fun hu => by have := (h.pend e he hu).1; rw [hm] at this; cases this
    have hl : listed.getD e.1 false = true := (h.lst e.1).2 ⟨inL_iff.2 ⟨e, he, rfl⟩, hne⟩
    have := h.clos e he y.1 ht listed h.down (h.down e.1 hl)
    exact ((h.lst y.1).1 this).2 hU

theorem Inv.pairP (h : Inv P cd B0 w0 nt m0 ops base L s U gh Rr m listed a w) {i : Nat} {st : AStep} (hc : EntOk P nt ops L i st) {y : Ent} (hy : y ∈ L) (hU : U y.1) : PairP st (closOf L (dirAt ops i)) y := by
  have h1 := h.unsettled hU
  rcases hc.pair y hy with h2 | h2
  · rw [h1] at h2; cases h2
  · have hm := (h.pend y hy hU).1
    unfold pairOk at h2
    simp only [hm, Bool.not_true, Bool.false_or, Bool.and_eq_true, Bool.or_eq_true, Bool.not_eq_true'] at h2
    obtain ⟨⟨⟨h3, h4⟩, h5⟩, h6⟩ := h2
    refine ⟨h3, ?_, ?_, h6⟩
    · intro k hk hk'
      have : inK st.dst y.2.1.dst.toList = true := inK_iff.2 ⟨k, hk, by rw [hk']; exact List.mem_singleton_self k⟩
      rw [h4] at this; cases this
    · intro h
      rcases h5 with h5 | h5
      · rw [h5] at h; cases h
      · exact h5

theorem clos_ent (hC : Clos ops L) (i : Nat) (st : AStep) : Clos ops (entOf ops L i st :: L) := by
  intro x hx j ht listed hD hd
  rcases List.mem_cons.1 hx with rfl | hx
  · exact clos_new hC hD hd ht
  · exact hC x hx j ht listed hD hd
theorem inL_cons {x : Ent} {i : Nat} : inL (x :: L) i = true ↔ i = x.1 ∨ inL L i = true := by
  rw [inL_iff, inL_iff]
  constructor
  · rintro ⟨y, hy, rfl⟩
    rcases List.mem_cons.1 hy with rfl | hy
    · exact .inl rfl
    · exact .inr ⟨y, hy, rfl⟩
  · rintro (rfl | ⟨y, hy, rfl⟩)
    · exact ⟨x, List.mem_cons_self, rfl⟩
    · exact ⟨y, List.mem_cons_of_mem _ hy, rfl⟩
theorem uniq_ent (hu : ∀ x ∈ L, ∀ y ∈ L, x.1 = y.1 → x = y) {i : Nat} {st : AStep} (hf : inL L i = false) : ∀ x ∈ entOf ops L i st :: L, ∀ y ∈ entOf ops L i st :: L, x.1 = y.1 → x = y := by
  have no : ∀ y ∈ L, y.1 ≠ i := fun y hy e => by
    have := inL_iff.2 ⟨y, hy, e⟩
    rw [hf] at this; cases this
  intro x hx y hy e
  rcases List.mem_cons.1 hx with rfl | hx
  · rcases List.mem_cons.1 hy with rfl | hy
    · rfl
    · exact absurd e.symm (no y hy)
  · rcases List.mem_cons.1 hy with rfl | hy
    · exact absurd e (no x hx)
    · exact hu x hx y hy e

/- done early -/
theorem Inv.adv (h : Inv P cd B0 w0 nt m0 ops base L s U gh Rr m listed a w) {i : Nat} {st : AStep} (hc : EntOk P nt ops L i st) (hm : mobile st.op = true) {run : Run} (hs : stepS tab run base st s = some s1) :
    ∃ gh', Inv P cd B0 w0 nt m0 ops base (entOf ops L i st :: L) s1 (fun j => j = i ∨ U j) gh' Rr m listed a w := by
  have hnoU : ¬ U i := fun hu => by have := h.sub i hu; rw [hc.fresh] at this; cases this
  have no : ∀ y ∈ L, y.1 ≠ i := fun y hy e => by
    have := inL_iff.2 ⟨y, hy, e⟩
    rw [hc.fresh] at this; cases this
  -- what is common
  have mk : ∀ (gh' : K → Prop) (v : AV) (H1 : T AObj) (nx : K), s1 = ⟨putR st.dst v s.R, H1, nx, s.ds⟩ → Sim P cd B0 ⟨w0.w, fun b => w0.G b ∨ gh' b, w0.as⟩ m H1 w → (∀ b, gh' b → ¬ w0.G b) → AgainP gh' base st s1.R s1.H →
      (∀ y ∈ L, U y.1 → AgainP gh' base y.2.1 s1.R s1.H) → Inv P cd B0 w0 nt m0 ops base (entOf ops L i st :: L) s1 (fun j => j = i ∨ U j) gh' Rr m listed a w := by
    intro gh' v H1 nx hs1 hS hG hag hags
    subst hs1
    refine ⟨h.le, h.regs, hS, h.defs, hG, ?_, ?_, ?_, ?_, ?_, uniq_ent h.uniq hc.fresh, .cons h.ord hc.deps, clos_ent h.clos i st, ?_, h.down, h.size, ?_⟩
    · intro k hk
      have h1 : st.dst ≠ some k := hk _ List.mem_cons_self (.inl rfl)
      rw [putR_get, if_neg h1]
      exact h.agree k fun y hy hU => hk y (List.mem_cons_of_mem _ hy) (.inr hU)
    · intro y hy hU
      rcases List.mem_cons.1 hy with rfl | hy
      · exact ⟨hm, hag⟩
      · have hU' : U y.1 := hU.resolve_left (no y hy)
        exact ⟨(h.pend y hy hU').1, hags y hy hU'⟩
    · intro x hx y hy h1 h2 hin
      rcases List.mem_cons.1 hx with rfl | hx
      · rcases List.mem_cons.1 hy with rfl | hy
        · have := hc.self hm
          have hin' : inK st.dst (looksK st) = true := hin
          rw [this] at hin'; cases hin'
        · exact (h.pairP hc hy (h2.resolve_left (no y hy))).p3 hin
      · rcases List.mem_cons.1 hy with rfl | hy
        · have := (h.pairP hc hx (h1.resolve_left (no x hx))).p1
          have hin' : inK st.dst (looksK x.2.1) = true := hin
          rw [this] at hin'; cases hin'
        · exact h.pairs x hx y hy (h1.resolve_left (no x hx)) (h2.resolve_left (no y hy)) hin
    · intro x hx y hy h1 h2 hne
      have symm : ∀ a b, slotNe a b = true → slotNe b a = true := by
        intro a b hab
        cases a with
        | none => cases b <;> rfl
        | some i =>
          cases b with
          | none => rfl
          | some j =>
            simp only [slotNe, Bool.not_eq_true'] at hab ⊢
            cases hji : Nat.beq j i with
            | false => rfl
            | true =>
              have := Nat.eq_of_beq_eq_true hji
              subst this
              rw [Nat.beq_refl] at hab; cases hab
      rcases List.mem_cons.1 hx with rfl | hx
      · rcases List.mem_cons.1 hy with rfl | hy
        · exact absurd rfl hne
        · exact (h.pairP hc hy (h2.resolve_left (no y hy))).p4
      · rcases List.mem_cons.1 hy with rfl | hy
        · exact symm _ _ (h.pairP hc hx (h1.resolve_left (no x hx))).p4
        · exact h.slots x hx y hy (h1.resolve_left (no x hx)) (h2.resolve_left (no y hy)) hne
    · intro x hx
      rcases List.mem_cons.1 hx with rfl | hx
      · exact hc.oper
      · exact h.steps x hx
    · intro j
      rw [h.lst, inL_cons]
      constructor
      · rintro ⟨h1, h2⟩
        refine ⟨.inr h1, fun hu => ?_⟩
        rcases hu with rfl | hu
        · rw [hc.fresh] at h1; cases h1
        · exact h2 hu
      · rintro ⟨h1, h2⟩
        rcases h1 with h1 | h1
        · exact absurd (.inl h1) h2
        · exact ⟨h1, fun hu => h2 (.inr hu)⟩
    · rintro j (rfl | hj)
      · exact inL_cons.2 (.inl rfl)
      · exact inL_cons.2 (.inr (h.sub j hj))
  have keepD : ∀ (v : AV) y, y ∈ L → U y.1 → ∀ k, y.2.1.dst = some k → (putR st.dst v s.R).get k = s.R.get k := by
    intro v y hy hU k hk
    rw [putR_get, if_neg]
    intro e
    exact (h.pairP hc hy hU).p2 k e hk
  have valS : ∀ (v : AV), valAt st (putR st.dst v s.R) v := by
    intro v k hk
    rw [putR_get, if_pos hk]; rfl
  have selfA : ∀ v, Agree (putR st.dst v s.R) s.R (looksK st) := fun v => agree_put (hc.self hm)
  obtain ⟨hokg, hs'⟩ := stepS_mob hm hs
  have okS : ∀ v, okG st.guard (putR st.dst v s.R) = true := fun v => by rw [okG_congr (selfA v).left]; exact hokg
  rcases hs' with ⟨hw, rfl⟩ | ⟨hw, v, H1, hx, rfl⟩
  · refine ⟨gh, mk gh undef s.H s.nx rfl h.sim h.ghG ⟨okS _, fun _ => valS undef, fun e => ?_⟩ (fun y hy hU => (h.pend y hy hU).2.keep (agree_put (h.pairP hc hy hU).p1) (keepD _ y hy hU) (fun _ hb => hb) (fun _ _ _ h => h) (fun _ _ h => h))⟩
    rw [wantedA_congr (selfA undef).left, hw] at e; cases e
  · have hwt : ¬ wantedA st.guard (putR st.dst v s.R) = false := by rw [wantedA_congr (selfA v).left, hw]; intro h; cases h
    have keepSame : ∀ y ∈ L, U y.1 → AgainP gh base y.2.1 (putR st.dst v s.R) s.H := fun y hy hU =>
      (h.pend y hy hU).2.keep (agree_put (h.pairP hc hy hU).p1) (keepD _ y hy hU) (fun _ hb => hb) (fun _ _ _ h => h) (fun _ _ h => h)
    rcases mobile_cases hm with hp | hp | ⟨j, hj⟩
    · obtain ⟨rfl, hall⟩ := pure_some hp hx
      exact ⟨gh, mk gh v _ s.nx rfl h.sim h.ghG ⟨okS _, fun e => absurd e hwt, fun _ => .inr (.inr ⟨pure_new hp, v, by rw [aexec_congr (selfA v).right]; exact hx, valS v⟩)⟩ keepSame⟩
    · obtain ⟨rfl, hall⟩ := read_some hp hx
      exact ⟨gh, mk gh v _ s.nx rfl h.sim h.ghG ⟨okS _, fun e => absurd e hwt, fun _ => .inr (.inr ⟨read_new hp, v, by rw [aexec_congr (selfA v).right]; exact hx, valS v⟩)⟩ keepSame⟩
    · -- a new object: a ghost
      obtain ⟨o, hn, hH1, hcase⟩ : ∃ o, s.H.get (base.add j) = none ∧ H1 = s.H.set (base.add j) o ∧ ((∃ z, st.op = .alloc j z ∧ o = .cells z ∧ v = .ptr (base.add j) 0) ∨ (st.op = .mkmap j ∧ o = .map [] 0 ∧ v = .map (base.add j))) := by
        generalize st.op = op at hj hx
        cases op <;> simp only [newOp] at hj <;> try (cases hj; done)
        · injection hj with hj; subst hj
          simp only [aexec] at hx
          split at hx
          · rename_i H2 hH2
            injection hx with hx; injection hx with e1 e2; subst e1 e2
            obtain ⟨h1, h2⟩ := newO_some hH2
            exact ⟨_, h1, h2, .inl ⟨_, rfl, rfl, rfl⟩⟩
          · cases hx
        · injection hj with hj; subst hj
          simp only [aexec] at hx
          split at hx
          · rename_i H2 hH2
            injection hx with hx; injection hx with e1 e2; subst e1 e2
            obtain ⟨h1, h2⟩ := newO_some hH2
            exact ⟨_, h1, h2, .inr ⟨rfl, rfl, rfl⟩⟩
          · cases hx
      subst hH1
      have hrn : m.r (base.add j) = none := h.sim.dom _ hn
      have hnG : ¬ (w0.G (base.add j) ∨ gh (base.add j)) := h.sim.fresh hn
      have hS' : Sim P cd B0 ⟨w0.w, fun b => w0.G b ∨ (gh b ∨ b = base.add j), w0.as⟩ m (s.H.set (base.add j) o) w := by
        have old : ∀ b o', (s.H.set (base.add j) o).get b = some o' → ∀ B d E, m.r b = some (B, d, E) → s.H.get b = some o' := by
          intro b o' hb B d E hr
          rw [T.get_set_ne] at hb
          · exact hb
          · intro e; rw [e, hrn] at hr; cases hr
        refine ⟨h.sim.below, h.sim.base, fun b o' hb B d E hr => h.sim.obj b o' (old b o' hb B d E hr) B d E hr, fun b o' hb hl B d E hr => h.sim.own b o' (old b o' hb B d E hr) hl B d E hr, ?_, h.sim.imm,
          fun b o' hb hl B d E hr => h.sim.apart b o' (old b o' hb B d E hr) hl B d E hr, ?_, ?_, h.sim.asm⟩
        · intro b o1 hb hl b' o2 hb' hl' B d E d' E' hr hr'
          exact h.sim.inj b o1 (old b o1 hb B d E hr) hl b' o2 (old b' o2 hb' B d' E' hr') hl' B d E d' E' hr hr'
        · intro b hb
          by_cases e : b = base.add j
          · rw [e]; exact hrn
          · rw [T.get_set_ne e] at hb; exact h.sim.dom b hb
        · intro b hb
          by_cases e : b = base.add j
          · subst e; exact ⟨hrn, by rw [T.get_set_same]; intro h; cases h⟩
          · have hb' : w0.G b ∨ gh b := by
              rcases hb with hb | hb | hb
              · exact .inl hb
              · exact .inr hb
              · exact absurd hb e
            exact ⟨(h.sim.rsv b hb').1, set_keeps (h.sim.rsv b hb').2⟩
      refine ⟨fun b => gh b ∨ b = base.add j, mk _ v _ s.nx rfl hS' ?_ ⟨okS _, fun e => absurd e hwt, fun _ => ?_⟩ ?_⟩
      · rintro b (hb | rfl)
        · exact h.ghG b hb
        · exact fun hg => hnG (.inl hg)
      · rcases hcase with ⟨z, h1, h2, h3⟩ | ⟨h1, h2, h3⟩
        · exact .inl ⟨j, z, h1, by rw [h2]; exact T.get_set_same _ _ _, .inr rfl, by rw [h3]; exact valS _⟩
        · exact .inr (.inl ⟨j, h1, by rw [h2]; exact T.get_set_same _ _ _, .inr rfl, by rw [h3]; exact valS _⟩)
      · intro y hy hU
        refine (h.pend y hy hU).2.keep (agree_put (h.pairP hc hy hU).p1) (keepD _ y hy hU) (fun _ hb => .inl hb) ?_ ?_
        · intro _ id o' hid
          rw [T.get_set_ne]
          · exact hid
          · intro e; rw [e, hn] at hid; cases hid
        · intro hno u hu
          rcases mobile_cases (h.pend y hy hU).1 with hp | hp | ⟨j', hj'⟩
          · exact (pure_some hp hu).2 _
          · exact (read_some hp hu).2 _ _ hn
          · rw [hno] at hj'; cases hj'

/- an event, done for real -/
theorem Inv.event (hT : TabOk P cd tab) {n : Nat} (hn : Sound P cd tab n) (h : Inv P cd B0 w0 nt m0 ops base L s U gh Rr m listed a w) {i : Nat} {st : AStep} (hc : EntOk P nt ops L i st)
    (hdeps : ∀ d ∈ dirAt ops i, listed.getD d false = true) (hs : stepS tab (run tab n) base st s = some s1)
    (hag : ∀ y ∈ L, U y.1 → pureOp y.2.1.op = true ∨ (closOf L (dirAt ops i)).testBit y.1 = true ∨ again base y.2.1 s1 = true) {K0 : Act → World → Prop}
    (hK : ∀ m' a' w' Rr', Inv P cd B0 w0 nt m0 ops base (entOf ops L i st :: L) s1 U gh Rr' m' (listed.setIfInBounds i true) a' w' → K0 a' w') : wpOpIn (Fw ro) 0 P ops Q i K0 a w := by
  obtain ⟨o, ho, hst⟩ := hc.oper
  have hnoU : ¬ U i := fun hu => by have := h.sub i hu; rw [hc.fresh] at this; cases this
  have no : ∀ y ∈ L, y.1 ≠ i := fun y hy e => by
    have := inL_iff.2 ⟨y, hy, e⟩
    rw [hc.fresh] at this; cases this
  have hlt : i < listed.size := by rw [h.size]; exact (Array.getElem?_eq_some_iff.1 ho).1
  have hcl : ∀ j, (closOf L (dirAt ops i)).testBit j = true → listed.getD j false = true := fun j hj => clos_new h.clos h.down hdeps hj
  have hlooks := h.looks (l := looksK st) (c := closOf L (dirAt ops i)) (fun y hy hUy => (h.pairP hc hy hUy).p3) hcl
  obtain ⟨v, H1, nx, rfl, hs'⟩ := stepS_congr hlooks hs
  have hst0 : StRel P cd B0 ⟨w0.w, fun b => w0.G b ∨ gh b, w0.as⟩ nt m { s with R := Rr } a w := ⟨h.regs, h.sim, h.defs⟩
  have key := step_sound (ro := ro) (Q := Q) (next := K0) hT hn hst hs' hst0 (fun m' a' w' hle hst' => by
    refine hK m' a' w' (putR st.dst v Rr) ⟨h.le.trans hle, hst'.regs, hst'.sim, hst'.defs, h.ghG, ?_, ?_, ?_, ?_, ?_, uniq_ent h.uniq hc.fresh, .cons h.ord hc.deps, clos_ent h.clos i st, ?_, ?_, by simp [h.size], ?_⟩
    · intro k hk
      show ((putR st.dst v Rr).get k).getD undef = ((putR st.dst v s.R).get k).getD undef
      rw [putR_get, putR_get]
      by_cases e : st.dst = some k
      · rw [if_pos e, if_pos e]
      · rw [if_neg e, if_neg e]
        exact h.agree k fun y hy hU => hk y (List.mem_cons_of_mem _ hy) hU
    · intro y hy hU
      rcases List.mem_cons.1 hy with rfl | hy
      · exact absurd hU hnoU
      · have hpp := h.pairP hc hy hU
        obtain ⟨hmob, hold⟩ := h.pend y hy hU
        have keepD : ∀ k, y.2.1.dst = some k → (putR st.dst v s.R).get k = s.R.get k := by
          intro k hk
          rw [putR_get, if_neg]
          intro e
          exact hpp.p2 k e hk
        refine ⟨hmob, ?_⟩
        rcases mobile_cases hmob with hp | hp
        · exact hold.keep (agree_put hpp.p1) keepD (fun _ hb => hb) (fun hne => absurd (pure_new hp) hne) (fun _ u hu => (pure_some hp hu).2 _)
        · have hnp : ¬ pureOp y.2.1.op = true := by
            intro hp'
            rcases hp with hp | ⟨j, hj⟩
            · generalize y.2.1.op = op at hp hp'
              cases op <;> simp [pureOp, readOp] at hp hp'
            · rw [pure_new hp'] at hj; cases hj
          rcases hag y hy hU with h1 | h1 | h1
          · exact absurd h1 hnp
          · exact absurd hU ((h.lst y.1).1 (hcl _ h1)).2
          · exact hold.redo (s1 := ⟨putR st.dst v s.R, H1, nx, s.ds⟩) (agree_put hpp.p1) keepD hp h1
    · intro x hx y hy h1 h2 hin
      rcases List.mem_cons.1 hx with rfl | hx
      · exact absurd h1 hnoU
      · rcases List.mem_cons.1 hy with rfl | hy
        · exact absurd h2 hnoU
        · exact h.pairs x hx y hy h1 h2 hin
    · intro x hx y hy h1 h2 hne
      rcases List.mem_cons.1 hx with rfl | hx
      · exact absurd h1 hnoU
      · rcases List.mem_cons.1 hy with rfl | hy
        · exact absurd h2 hnoU
        · exact h.slots x hx y hy h1 h2 hne
    · intro x hx
      rcases List.mem_cons.1 hx with rfl | hx
      · exact hc.oper
      · exact h.steps x hx
    · intro j
      rw [getD_set hlt, h.lst, inL_cons]
      constructor
      · rintro (rfl | ⟨h1, h2⟩)
        · exact ⟨.inl rfl, hnoU⟩
        · exact ⟨.inr h1, h2⟩
      · rintro ⟨h1 | h1, h2⟩
        · exact .inl h1
        · exact .inr ⟨h1, h2⟩
    · intro j hj d hd
      rw [getD_set hlt] at hj ⊢
      rcases hj with rfl | hj
      · exact .inr (hdeps d hd)
      · exact .inr (h.down j hj d hd)
    · exact fun j hj => inL_cons.2 (.inr (h.sub j hj)))
  unfold wpOpIn
  simp only [ho]
  exact key
end
end Go.Ab
