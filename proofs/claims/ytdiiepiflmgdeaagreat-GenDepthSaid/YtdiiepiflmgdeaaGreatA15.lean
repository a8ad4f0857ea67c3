/- States, steps, calls: what the abstract run does, the machine does. -/
import Derived.Test.YtdiiepiflmgdeaaGreatA14
import Derived.RangeFuncLeaves
namespace Go.Ab
open Go.RowKit (Below)

def Fw (ro : Option Nat) : Fence := { Fence.wide with round := ro }

theorem callsIn_any {ro ro' : Option Nat} {n : Nat} {P : Program} {f : FuncId} {args : Array Value} {w : World} {R : Ending → World → Prop} (h : CallsIn (Fw ro) n P f args w R) : CallsIn (Fw ro') n P f args w R := h
theorem roundIn_any {ro ro' : Option Nat} {n : Nat} {P : Program} {l : Nat} {f : FuncId} {tmps : Array Value} {as bd : Code} {w : World} {R : Ending → World → Prop} (h : RoundIn (Fw ro) n P l f tmps as bd w R) : RoundIn (Fw ro') n P l f tmps as bd w R := h

def DefRel (m : M) : List K → List Deferred → Prop
  | [], ds => ds = []
  | k :: ks, ds => ∃ B d E rest, m.r k = some (B, d, E) ∧ ds = { target := .collected B, args := #[] } :: rest ∧ DefRel m ks rest
theorem DefRel.mono {m m' : M} (h : m.le m') : ∀ {ks : List K} {ds : List Deferred}, DefRel m ks ds → DefRel m' ks ds
  | [], _, r => r
  | _ :: _, _, ⟨B, d, E, rest, h1, h2, h3⟩ => ⟨B, d, E, rest, h.r _ _ h1, h2, h3.mono h⟩

structure StRel (P : Program) (cd : Nat → Array Oper → DT → Bool) (B0 : Nat) (w0 : Frz) (nt : Nat) (m : M) (s : St) (a : Act) (w : World) : Prop where
  regs : RegsRel m nt s.R a.tmps
  sim : Sim P cd B0 w0 m s.H w
  defs : DefRel m s.ds a.defers

def exitOf : AExit → Exit
  | .normal => .normal
  | .exit id => .exit id
  | .goto l => .goto l
  | .ret => .ret

def Post (P : Program) (cd : Nat → Array Oper → DT → Bool) (B0 : Nat) (w0 : Frz) (nt : Nat) (m : M) (e : AExit) (s : St) : Exit → Act → World → Prop :=
  fun e' a w => e' = exitOf e ∧ ∃ m', m.le m' ∧ StRel P cd B0 w0 nt m' s a w

/- results of a function -/
def chkRes (P : Program) (nt : Nat) : List ResultVar → List ARes → Bool
  | [], [] => true
  | .tmp t :: rs, .tmp k :: ks => Nat.beq t k.num && Nat.blt t nt && chkRes P nt rs ks
  | .cell t ty :: rs, .cell k ag n :: ks => Nat.beq t k.num && Nat.blt t nt && ldOk P ty ag n && chkRes P nt rs ks
  | _, _ => false
def FnOk (P : Program) (cd : Nat → Array Oper → DT → Bool) (k : K) (fn : AFunc) : Prop :=
  ∃ F c, P.funcs[k.num]? = some F ∧ F.body = some c ∧ (F.name == "runtime.NumGoroutine") = false ∧ chkCode P F.ntmps (cd F.ntmps) c fn.body = true ∧ chkRes P F.ntmps F.results.toList fn.res = true
/- a function that stands for what is proved of it -/
def SummOk (P : Program) (k : K) (fn : AFunc) : Prop :=
  ∃ v u, fn.body = .summ v ∧ cok v u = true ∧ ∀ w, Calls P k.num #[] w fun e w' => e = .returned u ∧ Below w.heap.size w w'
def FnThere (P : Program) (k : K) : Prop := ∃ F c, P.funcs[k.num]? = some F ∧ F.body = some c ∧ (F.name == "runtime.NumGoroutine") = false
def TabOk (P : Program) (cd : Nat → Array Oper → DT → Bool) (tab : T AFunc) : Prop := ∀ k fn, tab.get k = some fn → FnOk P cd k fn ∨ (FnThere P k ∧ SummOk P k fn)
theorem TabOk.there {P : Program} {cd : Nat → Array Oper → DT → Bool} {tab : T AFunc} (h : TabOk P cd tab) {k : K} {fn : AFunc} (hk : tab.get k = some fn) : FnThere P k := by
  rcases h k fn hk with ⟨F, c, h1, h2, h3, _⟩ | ⟨h1, _⟩
  · exact ⟨F, c, h1, h2, h3⟩
  · exact h1

section
variable {P : Program} {cd : Nat → Array Oper → DT → Bool} {B0 : Nat} {w0 : Frz} {m : M} {H H' : T AObj} {w : World} {nt : Nat} {R : T AV} {a : Act} {base : K} {v : AV}

/-! ### registers -/
theorem RegsRel.set {tmps : Array Value} (h : RegsRel m nt R tmps) {k : K} (hk : k.num < nt) {v : AV} {u : Value} (r : Rel m v u) : RegsRel m nt (R.set k v) (tmps.setIfInBounds k.num u) := by
  refine ⟨by simp; exact h.1, fun l hl => ?_⟩
  have h0 := h.1
  rw [T.get_set]
  by_cases e : l = k
  · subst e
    have hlt : l.num < tmps.size := by omega
    simp [hlt, r]
  · have hne : k.num ≠ l.num := fun h => e (K.num_inj h.symm)
    have := h.2 l hl
    simp only [if_neg e]
    rw [Array.getD_eq_getD_getElem?] at this ⊢
    rw [Array.getElem?_setIfInBounds_ne hne]
    exact this

theorem put_regs (h : RegsRel m nt R a.tmps) {d : Option Tmp} {k : Option K} (hc : chkDst nt d k = true) {v : AV} {u : Value} (r : Rel m v u) : RegsRel m nt (putR k v R) (a.put d u).tmps := by
  cases d with
  | none =>
    cases k with
    | none => exact h
    | some k => simp [chkDst] at hc
  | some d =>
    cases k with
    | none => simp [chkDst] at hc
    | some k =>
      simp only [chkDst, Bool.and_eq_true, Nat.beq_eq, Nat.blt_eq] at hc
      obtain ⟨rfl, hk⟩ := hc
      exact h.set hk r
theorem put_defers (a : Act) (d : Option Tmp) (u : Value) : (a.put d u).defers = a.defers := by cases d <;> rfl

theorem rel_bool {x : AV} {b : Bool} (h : Rel m x (.bool b)) (hn : ∀ i l, x ≠ .tab i l) : x = .bool b := by
  cases x <;> simp only [Rel] at h
  case bool c => injection h with h; rw [h]
  case tab i l => exact absurd rfl (hn i l)
  all_goals first
    | (cases h; done)
    | (obtain ⟨_, h, _⟩ := h; cases h; done)
    | (obtain ⟨_, _, h, _⟩ := h; cases h; done)
    | (obtain ⟨_, _, _, h, _⟩ := h; cases h; done)
    | (obtain ⟨_, _, _, _, h⟩ := h; cases h; done)
    | (obtain ⟨_, _, _, _, _, h, _⟩ := h; cases h; done)

def boolOf : Value → Option Bool
  | .bool b => some b
  | _ => none

theorem wanted_eq (h : RegsRel m nt R a.tmps) {ops : Array Oper} {o : Oper} {g : Option (K × Bool)} (hc : chkGuard nt ops o.guard g = true) (hg : okG g R = true) : Region.wanted o (yielded ops a.tmps) = wantedA g R := by
  unfold Region.wanted
  cases ho : o.guard with
  | none =>
    rw [ho] at hc
    cases g with
    | none => rfl
    | some g => simp [chkGuard] at hc
  | some og =>
    obtain ⟨j, b⟩ := og
    rw [ho] at hc
    cases g with
    | none => simp [chkGuard] at hc
    | some g =>
      obtain ⟨k, c⟩ := g
      simp only [chkGuard, Bool.and_eq_true, beq_iff_eq] at hc
      obtain ⟨rfl, hc⟩ := hc
      split at hc
      · rename_i t ht
        simp only [Bool.and_eq_true, Nat.beq_eq, Nat.blt_eq] at hc
        obtain ⟨rfl, hk⟩ := hc
        have hsz := h.1
        have hrel := h.2 k hk
        have hlt : k.num < a.tmps.size := by omega
        have hget : a.tmps[k.num]? = some (a.tmps.getD k.num Go.undef) := by simp [hlt]
        generalize a.tmps.getD k.num Go.undef = u at hrel hget
        have hy : yielded ops a.tmps j = boolOf u := by
          unfold yielded
          rw [ht]
          simp only [Option.bind_some, hget]
          cases u <;> rfl
        simp only [hy]
        have hw : wantedA (some (k, b)) R = (match R.get k with
          | some (.bool c) => (match c with | true => b | false => !b)
          | _ => false) := rfl
        rw [hw]
        by_cases hb : ∃ c, u = .bool c
        · obtain ⟨c, rfl⟩ := hb
          have hno : ∀ i l, (R.get k).getD undef ≠ .tab i l := by
            intro i l e
            have hg' : (match R.get k with
              | some (.tab _ _) => false
              | _ => true) = true := hg
            cases hR : R.get k with
            | none => rw [hR] at e; cases e
            | some x =>
              rw [hR] at e hg'
              simp only [Option.getD_some] at e
              subst e
              cases hg'
          have := rel_bool hrel hno
          cases hR : R.get k with
          | none => rw [hR] at this; cases this
          | some x =>
            rw [hR] at this
            simp only [Option.getD_some] at this
            subst this
            cases b <;> cases c <;> rfl
        · have h1 : boolOf u = none := by
            cases u <;> first | rfl | exact absurd ⟨_, rfl⟩ hb
          rw [h1]
          have h2 : ∀ c, R.get k ≠ some (.bool c) := by
            intro c hc
            rw [hc] at hrel
            simp only [Option.getD_some, Rel] at hrel
            exact hb ⟨c, hrel⟩
          split
          · rename_i c hc; exact absurd hc (h2 c)
          · rfl
      · cases hc

/-! ### functions' beginnings, their results -/
theorem initR_get (args : List AV) : ∀ (k0 : K) (R : T AV) (k : K), (List.rec (motive := fun _ => K → T AV → T AV) (fun _ R => R) (fun v _ ih k R => ih k.succ (R.set k v)) args k0 R).get k =
    if k0.num ≤ k.num ∧ k.num < k0.num + args.length then args[k.num - k0.num]? else R.get k := by
  induction args with
  | nil => intro k0 R k; rw [if_neg (by simp)]
  | cons v args ih =>
    intro k0 R k
    show (List.rec (motive := fun _ => K → T AV → T AV) (fun _ R => R) (fun v _ ih k R => ih k.succ (R.set k v)) args k0.succ (R.set k0 v)).get k = _
    rw [ih, K.num_succ, T.get_set, List.length_cons]
    by_cases h : k = k0
    · subst h
      rw [if_neg (by omega), if_pos rfl, if_pos (by omega), Nat.sub_self]
      rfl
    · have hne : k.num ≠ k0.num := fun e => h (K.num_inj e)
      rw [if_neg h]
      by_cases h1 : k0.num + 1 ≤ k.num ∧ k.num < k0.num + 1 + args.length
      · rw [if_pos h1, if_pos (by omega)]
        have : k.num - k0.num = (k.num - (k0.num + 1)) + 1 := by omega
        rw [this]; simp
      · rw [if_neg h1, if_neg (by omega)]

theorem enter_regs {args : List AV} {vs : Array Value} (h : RelL m args vs.toList) (nt : Nat) : RegsRel m nt (initR args) (vs ++ Array.replicate (nt - vs.size) Go.undef) := by
  have hl := h.length
  simp only [Array.length_toList] at hl
  refine ⟨by simp; omega, fun k hk => ?_⟩
  have := initR_get args .z .leaf k
  have e0 : initR args = List.rec (motive := fun _ => K → T AV → T AV) (fun _ R => R) (fun v _ ih k R => ih k.succ (R.set k v)) args .z .leaf := rfl
  rw [e0, this, K.num_z, T.get_leaf, Nat.sub_zero]
  rw [Array.getD_eq_getD_getElem?]
  by_cases hlt : k.num < args.length
  · rw [if_pos (by omega), Array.getElem?_append_left (by omega)]
    obtain ⟨u, hu, hr⟩ := h.get k.num _ (List.getElem?_eq_getElem hlt)
    rw [List.getElem?_eq_getElem hlt]
    simp only [Array.getElem?_toList] at hu
    rw [hu]
    exact hr
  · rw [if_neg (by omega), Array.getElem?_append_right (by omega)]
    have : (Array.replicate (nt - vs.size) Go.undef)[k.num - vs.size]?.getD Go.undef = Go.undef := by
      rw [Array.getElem?_replicate]
      split <;> rfl
    rw [this]
    exact undef_rel m

def resOf (tmps : Array Value) : ResultVar → Sem Value
  | .tmp t => pure (tmps.getD t Go.undef)
  | .cell a t => do loadVar t (← asAddr (tmps.getD a Go.undef))
theorem results_eq (F : Func) (tmps : Array Value) : results F tmps = (do
    let vs ← F.results.mapM (resOf tmps)
    pure (if h : vs.size = 1 then vs[0] else .tuple vs)) := by
  unfold results
  congr 1

theorem resL_sound (hS : Sim P cd B0 w0 m H w) {tmps : Array Value} (hR : RegsRel m nt R tmps) : ∀ {rs : List ResultVar} {ks : List ARes} {vs : List AV}, chkRes P nt rs ks = true → resL ks R H = some vs →
    ∃ us : List Value, (rs.mapM (resOf tmps)).run P w = .ok us w ∧ RelL m vs us
  | [], [], vs, _, h => by
    have h' : some [] = some vs := h
    injection h' with h'; subst h'
    exact ⟨[], rfl, by simp only [RelL]⟩
  | r :: rs, k :: ks, vs, hc, h => by
    have h' : (match resV k R H with
      | some v => (match resL ks R H with
        | some vs => some (v :: vs)
        | none => none)
      | none => none) = some vs := h
    split at h'
    · rename_i v hv
      split at h'
      · rename_i vs' hvs
        injection h' with h'; subst h'
        have key : ∃ u, (resOf tmps r).run P w = .ok u w ∧ Rel m v u ∧ chkRes P nt rs ks = true := by
          unfold resV at hv
          cases r with
          | tmp t =>
            cases k with
            | tmp k =>
              simp only [chkRes, Bool.and_eq_true, Nat.beq_eq, Nat.blt_eq] at hc
              obtain ⟨⟨rfl, hk⟩, hc⟩ := hc
              refine ⟨_, rfl, ?_, hc⟩
              have := hR.2 k hk
              simp only at hv
              injection hv with hv; subst hv
              cases hg : R.get k with
              | none => rw [hg] at this; exact this
              | some x => rw [hg] at this; exact this
            | cell k ag n => simp [chkRes] at hc
          | cell t ty =>
            cases k with
            | tmp k => simp [chkRes] at hc
            | cell k ag n =>
              simp only [chkRes, Bool.and_eq_true, Nat.beq_eq, Nat.blt_eq] at hc
              obtain ⟨⟨⟨rfl, hk⟩, hld⟩, hc⟩ := hc
              have := hR.2 k hk
              simp only at hv
              split at hv
              · rename_i b o hg
                rw [hg] at this
                simp only [Option.getD_some, Rel] at this
                obtain ⟨B, d, E, hr, hp⟩ := this
                split at hv
                · rename_i cs hcs
                  obtain ⟨us, hl, hrel, hcell⟩ := hS.read hcs hr
                  obtain ⟨u, hrun, hvu⟩ := run_loadVar (P := P) (w := w) hld hv hl hrel (ad := ⟨B, d + o, none⟩) (fun j u hj => by rw [add_off]; exact hcell j u hj)
                  refine ⟨u, ?_, hvu, hc⟩
                  simp only [resOf, hp, asAddr, Sem.run_bind, Sem.run_pure, Result.andThen_ok, hrun]
                · cases hv
              · cases hv
        obtain ⟨u, hu, hr, hc'⟩ := key
        obtain ⟨us, hus, hrs⟩ := resL_sound hS hR hc' hvs
        refine ⟨u :: us, ?_, by simp only [RelL]; exact ⟨_, _, rfl, hr, hrs⟩⟩
        rw [List.mapM_cons]
        simp only [Sem.run_bind]
        rw [hu]
        simp only [Result.andThen_ok, hus, Sem.run_pure]
      · cases h'
    · cases h'
  | [], _ :: _, _, hc, _ => by simp [chkRes] at hc
  | _ :: _, [], _, hc, _ => by simp [chkRes] at hc

theorem results_sound (hS : Sim P cd B0 w0 m H w) {tmps : Array Value} (hR : RegsRel m nt R tmps) {F : Func} {ks : List ARes} {vs : List AV} (hc : chkRes P nt F.results.toList ks = true) (h : resL ks R H = some vs) :
    ∃ u, (results F tmps).run P w = .ok u w ∧ Rel m (oneOr vs) u := by
  obtain ⟨us, hus, hrel⟩ := resL_sound hS hR hc h
  have hl := hrel.length
  have hrun : (results F tmps).run P w = .ok (if h : us.toArray.size = 1 then us.toArray[0] else .tuple us.toArray) w := by
    rw [results_eq, Array.mapM_eq_mapM_toList]
    simp only [Sem.run_bind, Sem.run_map, hus, Result.andThen_ok, Sem.run_pure]
    try rfl
  refine ⟨_, hrun, ?_⟩
  match vs, us, hrel, hl with
  | [], [], hrel, _ => simp only [oneOr, Rel]; exact ⟨_, rfl, by simpa using hrel⟩
  | [v], [u], hrel, _ =>
    simp only [RelL] at hrel
    obtain ⟨u', ws, e, hr, rfl⟩ := hrel
    injection e with e _; subst e
    exact hr
  | v1 :: v2 :: vs, u1 :: u2 :: us, hrel, _ => simp only [oneOr, Rel]; exact ⟨_, by simp; rfl, by simpa using hrel⟩
  | [], _ :: _, _, hl => simp at hl
  | _ :: _, [], _, hl => simp at hl
  | [_], _ :: _ :: _, _, hl => simp at hl
  | _ :: _ :: _, [_], _, hl => simp at hl
end
end Go.Ab
