/- Regions whose order is drawn: the invariant; its steps. -/
import Derived.Test.YtdiiepiflmgdeaaGreatA20
namespace Go.Ab
set_option linter.unusedSimpArgs false
open Go.RowKit (Below)

def Down (ops : Array Oper) (listed : Array Bool) : Prop := ∀ i, listed.getD i false = true → ∀ j ∈ dirAt ops i, listed.getD j false = true
def Clos (ops : Array Oper) (L : List Ent) : Prop :=
  ∀ x ∈ L, ∀ j, x.2.2.testBit j = true → ∀ listed, Down ops listed → (∀ d ∈ dirAt ops x.1, listed.getD d false = true) → listed.getD j false = true

theorem maskOf_in : ∀ {L : List Ent} {i j : Nat}, (maskOf L i).testBit j = true → ∃ x ∈ L, x.1 = i ∧ x.2.2.testBit j = true
  | [], i, j, h => by simp [maskOf] at h
  | x :: L, i, j, h => by
    unfold maskOf at h
    split at h
    · rename_i he
      exact ⟨x, List.mem_cons_self, by simpa [Nat.beq_eq] using he, h⟩
    · obtain ⟨y, hy, h1, h2⟩ := maskOf_in h
      exact ⟨y, List.mem_cons_of_mem _ hy, h1, h2⟩
theorem clos_new {ops : Array Oper} {L : List Ent} (hC : Clos ops L) {listed : Array Bool} (hD : Down ops listed) : ∀ {ds : List Nat} {j : Nat}, (∀ d ∈ ds, listed.getD d false = true) → (closOf L ds).testBit j = true → listed.getD j false = true
  | [], j, _, h => by simp [closOf] at h
  | d :: ds, j, hl, h => by
    simp only [closOf, Nat.testBit_or, Bool.or_eq_true] at h
    rcases h with (h | h) | h
    · rw [Nat.testBit_two_pow] at h
      have : d = j := by simpa using h
      subst this
      exact hl d List.mem_cons_self
    · obtain ⟨x, hx, rfl, h2⟩ := maskOf_in h
      exact hC x hx j h2 listed hD (hD x.1 (hl x.1 List.mem_cons_self))
    · exact clos_new hC hD (fun e he => hl e (List.mem_cons_of_mem _ he)) h

inductive Ord (ops : Array Oper) : List Ent → Prop
  | nil : Ord ops []
  | cons {x : Ent} {L : List Ent} (h : Ord ops L) (hd : ∀ d ∈ dirAt ops x.1, inL L d = true) : Ord ops (x :: L)

theorem inL_iff {L : List Ent} {i : Nat} : inL L i = true ↔ ∃ x ∈ L, x.1 = i := by
  simp [inL, List.any_eq_true]
theorem Ord.deps {ops : Array Oper} : ∀ {L : List Ent}, Ord ops L → ∀ x ∈ L, ∀ d ∈ dirAt ops x.1, inL L d = true
  | [], _, x, hx, _, _ => by cases hx
  | y :: L, .cons h hd, x, hx, d, hdd => by
    have up : ∀ d, inL L d = true → inL (y :: L) d = true := fun d h => by
      rw [inL_iff] at h ⊢
      obtain ⟨z, hz, e⟩ := h
      exact ⟨z, List.mem_cons_of_mem _ hz, e⟩
    rcases List.mem_cons.1 hx with rfl | hx
    · exact up d (hd d hdd)
    · exact up d (h.deps x hx d hdd)
theorem Ord.first {ops : Array Oper} {U : Nat → Prop} : ∀ {L : List Ent}, Ord ops L → (∃ x ∈ L, U x.1) → ∃ x ∈ L, U x.1 ∧ ∀ d ∈ dirAt ops x.1, inL L d = true ∧ ¬ U d
  | [], _, ⟨x, hx, _⟩ => by cases hx
  | y :: L, .cons h hd, ⟨x, hx, hU⟩ => by
    have up : ∀ d, inL L d = true → inL (y :: L) d = true := fun d h => by
      rw [inL_iff] at h ⊢
      obtain ⟨z, hz, e⟩ := h
      exact ⟨z, List.mem_cons_of_mem _ hz, e⟩
    by_cases ht : ∃ x ∈ L, U x.1
    · obtain ⟨z, hz, h1, h2⟩ := h.first ht
      exact ⟨z, List.mem_cons_of_mem _ hz, h1, fun d hd => ⟨up d (h2 d hd).1, (h2 d hd).2⟩⟩
    · rcases List.mem_cons.1 hx with rfl | hx
      · refine ⟨x, List.mem_cons_self, hU, fun d hdd => ⟨up d (hd d hdd), fun hu => ?_⟩⟩
        obtain ⟨z, hz, e⟩ := inL_iff.1 (hd d hdd)
        exact ht ⟨z, hz, e ▸ hu⟩
      · exact absurd ⟨x, hx, hU⟩ ht

def valAt (st : AStep) (R : T AV) (v : AV) : Prop := ∀ k, st.dst = some k → (R.get k).getD undef = v
def AgainP (gh : K → Prop) (base : K) (st : AStep) (R : T AV) (H : T AObj) : Prop :=
  okG st.guard R = true ∧
  (wantedA st.guard R = false → valAt st R undef) ∧
  (wantedA st.guard R = true →
    (∃ j z, st.op = .alloc j z ∧ H.get (base.add j) = some (.cells z) ∧ gh (base.add j) ∧ valAt st R (.ptr (base.add j) 0)) ∨
    (∃ j, st.op = .mkmap j ∧ H.get (base.add j) = some (.map [] 0) ∧ gh (base.add j) ∧ valAt st R (.map (base.add j))) ∨
    (newOp st.op = none ∧ ∃ v, aexec base st.op R H = some (v, H) ∧ valAt st R v))

structure Inv (P : Program) (cd : Nat → Array Oper → DT → Bool) (B0 : Nat) (w0 : Frz) (nt : Nat) (m0 : M) (ops : Array Oper) (base : K)
    (L : List Ent) (s : St) (U : Nat → Prop) (gh : K → Prop) (Rr : T AV) (m : M) (listed : Array Bool) (a : Act) (w : World) : Prop where
  le : m0.le m
  regs : RegsRel m nt Rr a.tmps
  sim : Sim P cd B0 ⟨w0.w, fun b => w0.G b ∨ gh b, w0.as⟩ m s.H w
  defs : DefRel m s.ds a.defers
  ghG : ∀ b, gh b → ¬ w0.G b
  agree : ∀ k, (∀ x ∈ L, U x.1 → x.2.1.dst ≠ some k) → (Rr.get k).getD undef = (s.R.get k).getD undef
  pend : ∀ x ∈ L, U x.1 → mobile x.2.1.op = true ∧ AgainP gh base x.2.1 s.R s.H
  pairs : ∀ x ∈ L, ∀ y ∈ L, U x.1 → U y.1 → inK y.2.1.dst (looksK x.2.1) = true → x.2.2.testBit y.1 = true
  slots : ∀ x ∈ L, ∀ y ∈ L, U x.1 → U y.1 → x.1 ≠ y.1 → slotNe (newOp x.2.1.op) (newOp y.2.1.op) = true
  steps : ∀ x ∈ L, ∃ o, ops[x.1]? = some o ∧ chkStep P nt ops o x.2.1 = true
  uniq : ∀ x ∈ L, ∀ y ∈ L, x.1 = y.1 → x = y
  ord : Ord ops L
  clos : Clos ops L
  lst : ∀ i, listed.getD i false = true ↔ inL L i = true ∧ ¬ U i
  down : Down ops listed
  size : listed.size = ops.size
  sub : ∀ i, U i → inL L i = true

section
variable {P : Program} {cd : Nat → Array Oper → DT → Bool} {tab : T AFunc} {B0 : Nat} {w0 : Frz} {m0 m : M} {nt : Nat} {ops : Array Oper} {base : K}
  {L : List Ent} {s s1 : St} {U : Nat → Prop} {gh : K → Prop} {Rr : T AV} {listed : Array Bool} {a : Act} {w : World} {ro : Option Nat} {Q : Exit → Act → World → Prop}

theorem inK_iff {d : Option K} {l : List K} : inK d l = true ↔ ∃ k, d = some k ∧ k ∈ l := by
  cases d with
  | none => simp [inK]
  | some k => simp [inK]

theorem wantedA_congr {g : Option (K × Bool)} {R R' : T AV} (h : Agree R R' (gK g)) : wantedA g R = wantedA g R' := by
  cases g with
  | none => rfl
  | some g =>
    obtain ⟨k, b⟩ := g
    have hw : ∀ R, wantedA (some (k, b)) R = (match (R.get k).getD undef with
      | .bool c => (match c with | true => b | false => !b)
      | _ => false) := by
      intro R
      have : wantedA (some (k, b)) R = (match R.get k with
        | some (.bool c) => (match c with | true => b | false => !b)
        | _ => false) := rfl
      rw [this]
      cases R.get k with
      | none => rfl
      | some x => cases x <;> rfl
    rw [hw, hw, h k (List.mem_singleton_self k)]

theorem okG_congr {g : Option (K × Bool)} {R R' : T AV} (h : Agree R R' (gK g)) : okG g R = okG g R' := by
  cases g with
  | none => rfl
  | some g =>
    obtain ⟨k, b⟩ := g
    have hw : ∀ R, okG (some (k, b)) R = (match (R.get k).getD undef with
      | .tab _ _ => false
      | _ => true) := by
      intro R
      have : okG (some (k, b)) R = (match R.get k with
        | some (.tab _ _) => false
        | _ => true) := rfl
      rw [this]
      cases R.get k with
      | none => rfl
      | some x => cases x <;> rfl
    rw [hw, hw, h k (List.mem_singleton_self k)]

theorem stepS_congr {run : Run} {st : AStep} {R' : T AV} (h : Agree R' s.R (looksK st)) (hs : stepS tab run base st s = some s1) :
    ∃ v H nx, s1 = ⟨putR st.dst v s.R, H, nx, s.ds⟩ ∧ stepS tab run base st { s with R := R' } = some ⟨putR st.dst v R', H, nx, s.ds⟩ := by
  have hw := wantedA_congr h.left
  have ho : Agree R' s.R (opK st.op) := h.right
  have hg := okG_congr h.left
  unfold stepS at hs ⊢
  simp only [hw, hg]
  split at hs
  case isFalse => cases hs
  rename_i hokg
  rw [if_pos hokg]
  split at hs
  · rename_i hwt
    rw [if_pos hwt]
    generalize hop : st.op = op at hs ho ⊢
    split at hs
    · rename_i f args
      simp only [opK] at ho
      rw [evs_congr ho]
      split at hs
      · rename_i fn hfn
        split at hs
        · rename_i v H1 nx hcf
          injection hs with hs
          exact ⟨v, H1, nx, hs.symm, by simp only [hfn, hcf]⟩
        · cases hs
      · cases hs
    · rename_i x args
      simp only [opK] at ho
      rw [evs_congr ho.right, ev_congr ho.left]
      split at hs
      · rename_i v H1 nx hcf
        injection hs with hs
        exact ⟨v, H1, nx, hs.symm, by simp only [hcf]⟩
      · cases hs
    · rename_i h1 h2
      split at hs
      · rename_i v H1 hx
        injection hs with hs
        refine ⟨v, H1, s.nx, hs.symm, ?_⟩
        rw [← aexec_congr ho] at hx
        simp only [hx]
      · cases hs
  · rename_i hwt
    rw [if_neg hwt]
    injection hs with hs
    exact ⟨undef, s.H, s.nx, hs.symm, rfl⟩

/- what a ready operation looks at stands for the real registers -/
theorem Inv.looks (h : Inv P cd B0 w0 nt m0 ops base L s U gh Rr m listed a w) {l : List K} {c : Nat} (hp : ∀ y ∈ L, U y.1 → inK y.2.1.dst l = true → c.testBit y.1 = true) (hc : ∀ j, c.testBit j = true → listed.getD j false = true) : Agree Rr s.R l := by
  intro k hk
  refine h.agree k fun y hy hU hd => ?_
  have h1 := hp y hy hU (inK_iff.2 ⟨k, hd, hk⟩)
  exact ((h.lst y.1).1 (hc _ h1)).2 hU

theorem putR_get {d : Option K} {v : AV} {R : T AV} {k : K} : (putR d v R).get k = if d = some k then some v else R.get k := by
  cases d with
  | none => simp [putR]
  | some d =>
    have : putR (some d) v R = R.set d v := rfl
    rw [this, T.get_set]
    by_cases h : k = d
    · subst h; simp
    · rw [if_neg h, if_neg (by intro e; injection e with e; exact h e.symm)]

theorem agree_put {d : Option K} {v : AV} {R : T AV} {l : List K} (h : inK d l = false) : Agree (putR d v R) R l := by
  intro k hk
  rw [putR_get, if_neg]
  intro e
  have := inK_iff.2 ⟨k, e, hk⟩
  rw [h] at this; cases this

theorem getD_set {listed : Array Bool} {i j : Nat} (hi : i < listed.size) : (listed.setIfInBounds i true).getD j false = true ↔ j = i ∨ listed.getD j false = true := by
  by_cases h : j = i
  · subst h; simp [hi]
  · rw [getD_set_ne false (Ne.symm h)]; simp [h]
end
end Go.Ab
