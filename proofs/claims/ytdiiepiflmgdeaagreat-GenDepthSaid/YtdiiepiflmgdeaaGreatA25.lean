/- A function's contract out of an abstract run. -/
import Derived.Test.YtdiiepiflmgdeaaGreatA24
namespace Go.Ab
open Go.RowKit (Below)

def M0 : M := { r := fun _ => none, imm := fun _ _ => none, rho := fun _ => 0 }
theorem T.get_leaf' {α : Type} (k : K) : T.get k (.leaf : T α) = none := T.get_leaf k

theorem sim0 (P : Program) (cd : Nat → Array Oper → DT → Bool) (w : World) : Sim P cd w.heap.size ⟨w, fun _ => False, fun _ => True⟩ M0 .leaf w := by
  refine ⟨.refl _ _, Nat.le_refl _, ?_, ?_, ?_, (fun B o v h => by cases h), ?_, (fun _ _ => rfl), (fun b hb => hb.elim), trivial⟩
  · intro b o h; rw [T.get_leaf'] at h; cases h
  · intro b o h; rw [T.get_leaf'] at h; cases h
  · intro b o h; rw [T.get_leaf'] at h; cases h
  · intro b o h; rw [T.get_leaf'] at h; cases h

def cdk (P : Program) : Nat → Array Oper → DT → Bool := fun nt ops d => chkDraw P nt ops d

theorem calls_of_run {P : Program} {tab : T AFunc} (hT : TabOk P (cdk P) tab) {k : K} {fn : AFunc} (hk : tab.get k = some fn) (n : Nat) {args : List AV} {vs : Array Value} (hargs : RelL M0 args vs.toList) {v : AV} {H : T AObj} {nx : K}
    (h : callF (run tab n) fn args .leaf .z = some (v, H, nx)) (w : World) : Calls P k.num vs w fun e w' => match e with
      | .returned u => (∃ m, Rel m v u) ∧ Below w.heap.size w w'
      | _ => False := by
  have hcd : CdOk P (cdk P) tab := cdOk hT (fun _ _ _ h => h)
  have hc := callF_sound (ro := none) hT (sound_all hT hcd n) hk hargs (sim0 P (cdk P) w) h
  have hc' := callsIn_wide.1 (show CallsIn Fence.wide 0 P k.num vs w _ from hc)
  refine Calls.mono hc' fun e w' he => ?_
  cases e with
  | returned u =>
    obtain ⟨m', _, hr, hS⟩ := he
    exact ⟨⟨m', hr⟩, hS.below⟩
  | panicked c => exact he.elim
  | outgrown => exact he.elim

theorem calls_bool {P : Program} {tab : T AFunc} (hT : TabOk P (cdk P) tab) {k : K} {fn : AFunc} (hk : tab.get k = some fn) (n : Nat) {args : List AV} {vs : Array Value} (hargs : RelL M0 args vs.toList) {b : Bool} {H : T AObj} {nx : K}
    (h : callF (run tab n) fn args .leaf .z = some (.bool b, H, nx)) (w : World) : Calls P k.num vs w fun e w' => match e with
      | .returned u => u = .bool b ∧ Below w.heap.size w w'
      | _ => False := by
  refine Calls.mono (calls_of_run hT hk n hargs h w) fun e w' he => ?_
  cases e with
  | returned u =>
    obtain ⟨⟨m, hr⟩, hb⟩ := he
    simp only [Rel] at hr
    exact ⟨hr, hb⟩
  | panicked c => exact he.elim
  | outgrown => exact he.elim
end Go.Ab
