/- A faster way of the abstract run: closed alternatives, what is looked at comes last; what comes next is handed on. (The text is printed by mkg0.py.) -/
import Derived.Test.YtdiiepiflmgdeaaGreatA2
set_option linter.unusedVariables false
namespace Go.Ab

abbrev Om := Option (AExit × St)
abbrev KE := AExit → T AV → T AObj → K → List K → Om
abbrev KS := T AV → T AObj → K → List K → Om
abbrev KC := AV → T AObj → K → Om
abbrev FRun := Bool → ACode → T AV → T AObj → K → List K → KE → Om

/- what comes next is handed what there is, or nothing is -/
noncomputable def bindO {α : Type} (o : Option α) (k : α → Om) : Om := Option.rec none (fun x => k x) o
@[simp] theorem bindO_none {α : Type} (k : α → Om) : bindO none k = none := rfl
@[simp] theorem bindO_some {α : Type} (x : α) (k : α → Om) : bindO (some x) k = k x := rfl

/-! ### values -/
/- in its outermost form -/
noncomputable def wh (v : AV) (k : AV → Om) : Om := AV.rec (motive_1 := fun _ => (AV → Om) → Om) (motive_2 := fun _ => PUnit)
  (fun k' n k => k (.int k' n)) (fun k' q r k => k (.res k' q r)) (fun b k => k (.bool b)) (fun n c k => k (.str n c)) (fun k' x k => k (.flt k' x)) (fun k' x y k => k (.cplx k' x y)) (fun b o k => k (.ptr b o)) (fun l _ k => k (.vptr l)) (fun k => k .nilp) (fun b o n c k => k (.slice b o n c)) (fun b o n c k => k (.oslice b o n c)) (fun l n e _ k => k (.vslice l n e)) (fun k => k .nils) (fun b k => k (.map b)) (fun k => k .nilm) (fun f g h _ _ k => k (.func f g h)) (fun b k => k (.yield b)) (fun k => k .nilf) (fun k => k .nili) (fun t v _ k => k (.iface t v)) (fun l _ k => k (.agg l)) (fun l _ k => k (.tuple l)) (fun i l _ k => k (.tab i l)) .unit (fun _ _ _ _ => .unit) v k
theorem wh_eq (v : AV) (k : AV → Om) : wh v k = k v := by cases v <;> rfl
/- a pointer, a pointer into a literal, or neither -/
noncomputable def onPtr (v : AV) (p : K → Nat → Om) (q : List AV → Om) : Om := AV.rec (motive_1 := fun _ => (K → Nat → Om) → (List AV → Om) → Om) (motive_2 := fun _ => PUnit)
  (fun _ _ _ _ => none) (fun _ _ _ _ _ => none) (fun _ _ _ => none) (fun _ _ _ _ => none) (fun _ _ _ _ => none) (fun _ _ _ _ _ => none) (fun b o p _ => p b o) (fun l _ _ q => q l) (fun _ _ => none) (fun _ _ _ _ _ _ => none) (fun _ _ _ _ _ _ => none) (fun _ _ _ _ _ _ => none) (fun _ _ => none) (fun _ _ _ => none) (fun _ _ => none) (fun _ _ _ _ _ _ _ => none) (fun _ _ _ => none) (fun _ _ => none) (fun _ _ => none) (fun _ _ _ _ _ => none) (fun _ _ _ _ => none) (fun _ _ _ _ => none) (fun _ _ _ _ _ => none) .unit (fun _ _ _ _ => .unit) v p q
noncomputable def onBool (v : AV) (k : Bool → Om) : Om := AV.rec (motive_1 := fun _ => (Bool → Om) → Om) (motive_2 := fun _ => PUnit)
  (fun _ _ _ => none) (fun _ _ _ _ => none) (fun b k => k b) (fun _ _ _ => none) (fun _ _ _ => none) (fun _ _ _ _ => none) (fun _ _ _ => none) (fun _ _ _ => none) (fun _ => none) (fun _ _ _ _ _ => none) (fun _ _ _ _ _ => none) (fun _ _ _ _ _ => none) (fun _ => none) (fun _ _ => none) (fun _ => none) (fun _ _ _ _ _ _ => none) (fun _ _ => none) (fun _ => none) (fun _ => none) (fun _ _ _ _ => none) (fun _ _ _ => none) (fun _ _ _ => none) (fun _ _ _ _ => none) .unit (fun _ _ _ _ => .unit) v k
noncomputable def onIf (v : AV) (x : Om) (y : Om) : Om := AV.rec (motive_1 := fun _ => Om → Om → Om) (motive_2 := fun _ => PUnit)
  (fun _ _ _ _ => none) (fun _ _ _ _ _ => none) (fun b x y => Bool.rec (motive := fun _ => Om → Om → Om) (fun _ y => y) (fun x _ => x) b x y) (fun _ _ _ _ => none) (fun _ _ _ _ => none) (fun _ _ _ _ _ => none) (fun _ _ _ _ => none) (fun _ _ _ _ => none) (fun _ _ => none) (fun _ _ _ _ _ _ => none) (fun _ _ _ _ _ _ => none) (fun _ _ _ _ _ _ => none) (fun _ _ => none) (fun _ _ _ => none) (fun _ _ => none) (fun _ _ _ _ _ _ _ => none) (fun _ _ _ => none) (fun _ _ => none) (fun _ _ => none) (fun _ _ _ _ _ => none) (fun _ _ _ _ => none) (fun _ _ _ _ => none) (fun _ _ _ _ _ => none) .unit (fun _ _ _ _ => .unit) v x y
theorem onIf_eq (v : AV) (x y : Om) : onIf v x y = onBool v (fun b => match b with | true => x | false => y) := by
  cases v with
  | bool b => cases b <;> rfl
  | _ => rfl
noncomputable def onGuard (v : AV) (g : Bool) (x : Om) (y : Om) : Om := AV.rec (motive_1 := fun _ => Bool → Om → Om → Om) (motive_2 := fun _ => PUnit)
  (fun _ _ _ _ y => y) (fun _ _ _ _ _ y => y) (fun b g x y => Bool.rec (motive := fun _ => Bool → Om → Om → Om) (fun g x y => Bool.rec (motive := fun _ => Om → Om → Om) (fun x _ => x) (fun _ y => y) g x y) (fun g x y => Bool.rec (motive := fun _ => Om → Om → Om) (fun _ y => y) (fun x _ => x) g x y) b g x y) (fun _ _ _ _ y => y) (fun _ _ _ _ y => y) (fun _ _ _ _ _ y => y) (fun _ _ _ _ y => y) (fun _ _ _ _ y => y) (fun _ _ y => y) (fun _ _ _ _ _ _ y => y) (fun _ _ _ _ _ _ y => y) (fun _ _ _ _ _ _ y => y) (fun _ _ y => y) (fun _ _ _ y => y) (fun _ _ y => y) (fun _ _ _ _ _ _ _ y => y) (fun _ _ _ y => y) (fun _ _ y => y) (fun _ _ y => y) (fun _ _ _ _ _ y => y) (fun _ _ _ _ y => y) (fun _ _ _ _ y => y) (fun _ _ _ _ _ _ => none) .unit (fun _ _ _ _ => .unit) v g x y
noncomputable def onTuple (v : AV) (k : List AV → Om) : Om := AV.rec (motive_1 := fun _ => (List AV → Om) → Om) (motive_2 := fun _ => PUnit)
  (fun _ _ _ => none) (fun _ _ _ _ => none) (fun _ _ => none) (fun _ _ _ => none) (fun _ _ _ => none) (fun _ _ _ _ => none) (fun _ _ _ => none) (fun _ _ _ => none) (fun _ => none) (fun _ _ _ _ _ => none) (fun _ _ _ _ _ => none) (fun _ _ _ _ _ => none) (fun _ => none) (fun _ _ => none) (fun _ => none) (fun _ _ _ _ _ _ => none) (fun _ _ => none) (fun _ => none) (fun _ => none) (fun _ _ _ _ => none) (fun _ _ _ => none) (fun l _ k => k l) (fun _ _ _ _ => none) .unit (fun _ _ _ _ => .unit) v k
noncomputable def onAgg (v : AV) (k : List AV → Om) : Om := AV.rec (motive_1 := fun _ => (List AV → Om) → Om) (motive_2 := fun _ => PUnit)
  (fun _ _ _ => none) (fun _ _ _ _ => none) (fun _ _ => none) (fun _ _ _ => none) (fun _ _ _ => none) (fun _ _ _ _ => none) (fun _ _ _ => none) (fun _ _ _ => none) (fun _ => none) (fun _ _ _ _ _ => none) (fun _ _ _ _ _ => none) (fun _ _ _ _ _ => none) (fun _ => none) (fun _ _ => none) (fun _ => none) (fun _ _ _ _ _ _ => none) (fun _ _ => none) (fun _ => none) (fun _ => none) (fun _ _ _ _ => none) (fun l _ k => k l) (fun _ _ _ => none) (fun _ _ _ _ => none) .unit (fun _ _ _ _ => .unit) v k
/- its cells: those of a compound, else itself -/
noncomputable def onCellsOf (v : AV) (k : List AV → Om) (s : AV → Om) : Om := AV.rec (motive_1 := fun _ => (List AV → Om) → (AV → Om) → Om) (motive_2 := fun _ => PUnit)
  (fun k' n _ s => s (.int k' n)) (fun k' q r _ s => s (.res k' q r)) (fun b _ s => s (.bool b)) (fun n c _ s => s (.str n c)) (fun k' x _ s => s (.flt k' x)) (fun k' x y _ s => s (.cplx k' x y)) (fun b o _ s => s (.ptr b o)) (fun l _ _ s => s (.vptr l)) (fun _ s => s .nilp) (fun b o n c _ s => s (.slice b o n c)) (fun b o n c _ s => s (.oslice b o n c)) (fun l n e _ _ s => s (.vslice l n e)) (fun _ s => s .nils) (fun b _ s => s (.map b)) (fun _ s => s .nilm) (fun f g h _ _ _ s => s (.func f g h)) (fun b _ s => s (.yield b)) (fun _ s => s .nilf) (fun _ s => s .nili) (fun t v _ _ s => s (.iface t v)) (fun l _ k _ => k l) (fun l _ _ s => s (.tuple l)) (fun i l _ _ s => s (.tab i l)) .unit (fun _ _ _ _ => .unit) v k s
/- a number, or else -/
noncomputable def onInt (v : AV) (f : IntKind → Int → Om) (e : Om) : Om := AV.rec (motive_1 := fun _ => (IntKind → Int → Om) → Om → Om) (motive_2 := fun _ => PUnit)
  (fun k n f _ => f k n) (fun _ _ _ _ e => e) (fun _ _ e => e) (fun _ _ _ e => e) (fun _ _ _ e => e) (fun _ _ _ _ e => e) (fun _ _ _ e => e) (fun _ _ _ e => e) (fun _ e => e) (fun _ _ _ _ _ e => e) (fun _ _ _ _ _ e => e) (fun _ _ _ _ _ e => e) (fun _ e => e) (fun _ _ e => e) (fun _ e => e) (fun _ _ _ _ _ _ e => e) (fun _ _ e => e) (fun _ e => e) (fun _ e => e) (fun _ _ _ _ e => e) (fun _ _ _ e => e) (fun _ _ _ e => e) (fun _ _ _ _ e => e) .unit (fun _ _ _ _ => .unit) v f e
noncomputable def onStr (v : AV) (f : Nat → Nat → Om) (e : Om) : Om := AV.rec (motive_1 := fun _ => (Nat → Nat → Om) → Om → Om) (motive_2 := fun _ => PUnit)
  (fun _ _ _ e => e) (fun _ _ _ _ e => e) (fun _ _ e => e) (fun n c f _ => f n c) (fun _ _ _ e => e) (fun _ _ _ _ e => e) (fun _ _ _ e => e) (fun _ _ _ e => e) (fun _ e => e) (fun _ _ _ _ _ e => e) (fun _ _ _ _ _ e => e) (fun _ _ _ _ _ e => e) (fun _ e => e) (fun _ _ e => e) (fun _ e => e) (fun _ _ _ _ _ _ e => e) (fun _ _ e => e) (fun _ e => e) (fun _ e => e) (fun _ _ _ _ e => e) (fun _ _ _ e => e) (fun _ _ _ e => e) (fun _ _ _ _ e => e) .unit (fun _ _ _ _ => .unit) v f e
/- may it lie in a cell? -/
noncomputable def fscal (v : AV) (x : Om) (y : Om) : Om := AV.rec (motive_1 := fun _ => Om → Om → Om) (motive_2 := fun _ => PUnit)
  (fun _ _ x _ => x) (fun _ _ _ x _ => x) (fun _ x _ => x) (fun _ _ x _ => x) (fun _ _ x _ => x) (fun _ _ _ x _ => x) (fun _ _ x _ => x) (fun _ _ x _ => x) (fun x _ => x) (fun _ _ _ _ x _ => x) (fun _ _ _ _ x _ => x) (fun _ _ _ _ x _ => x) (fun x _ => x) (fun _ x _ => x) (fun x _ => x) (fun _ _ _ _ _ x _ => x) (fun _ x _ => x) (fun x _ => x) (fun x _ => x) (fun _ _ _ x _ => x) (fun _ _ _ y => y) (fun _ _ _ y => y) (fun _ _ _ x _ => x) .unit (fun _ _ _ _ => .unit) v x y
theorem fscal_eq (v : AV) (x y : Om) : fscal v x y = if scal v then x else y := by cases v <;> rfl
/- a row of cells: where, how many; or none; or else -/
noncomputable def onRow (v : AV) (f : K → Nat → Nat → Om) (e : Om) : Om := AV.rec (motive_1 := fun _ => (K → Nat → Nat → Om) → Om → Om) (motive_2 := fun _ => PUnit)
  (fun _ _ _ e => e) (fun _ _ _ _ e => e) (fun _ _ e => e) (fun _ _ _ e => e) (fun _ _ _ e => e) (fun _ _ _ _ e => e) (fun _ _ _ e => e) (fun _ _ _ e => e) (fun _ e => e) (fun b o n _ f _ => f b o n) (fun b o n _ f _ => f b o n) (fun _ _ _ _ _ e => e) (fun _ e => e) (fun _ _ e => e) (fun _ e => e) (fun _ _ _ _ _ _ e => e) (fun _ _ e => e) (fun _ e => e) (fun _ e => e) (fun _ _ _ _ e => e) (fun _ _ _ e => e) (fun _ _ _ e => e) (fun _ _ _ _ e => e) .unit (fun _ _ _ _ => .unit) v f e
/- how many letters or cells -/
noncomputable def onLen (v : AV) (q : SK) (f : Nat → Om) (e : Om) : Om := AV.rec (motive_1 := fun _ => SK → (Nat → Om) → Om → Om) (motive_2 := fun _ => PUnit)
  (fun _ _ _ _ e => e) (fun _ _ _ _ _ e => e) (fun _ _ _ e => e) (fun n _ q f e => SK.rec (motive := fun _ => Nat → (Nat → Om) → Om → Om) (fun n f _ => f n) (fun _ _ e => e) (fun _ _ e => e) q n f e) (fun _ _ _ _ e => e) (fun _ _ _ _ _ e => e) (fun _ _ _ _ e => e) (fun _ _ _ _ e => e) (fun _ _ e => e) (fun _ _ n _ q f e => SK.rec (motive := fun _ => Nat → (Nat → Om) → Om → Om) (fun _ _ e => e) (fun n f _ => f n) (fun _ _ e => e) q n f e) (fun _ _ n _ q f e => SK.rec (motive := fun _ => Nat → (Nat → Om) → Om → Om) (fun _ _ e => e) (fun n f _ => f n) (fun _ _ e => e) q n f e) (fun _ n _ _ q f e => SK.rec (motive := fun _ => Nat → (Nat → Om) → Om → Om) (fun _ _ e => e) (fun n f _ => f n) (fun _ _ e => e) q n f e) (fun q f e => SK.rec (motive := fun _ => (Nat → Om) → Om → Om) (fun _ e => e) (fun f _ => f 0) (fun _ e => e) q f e) (fun _ _ _ e => e) (fun _ _ e => e) (fun _ _ _ _ _ _ _ e => e) (fun _ _ _ e => e) (fun _ _ e => e) (fun _ _ e => e) (fun _ _ _ _ _ e => e) (fun _ _ _ _ e => e) (fun _ _ _ _ e => e) (fun _ _ _ _ _ e => e) .unit (fun _ _ _ _ => .unit) v q f e
/- what cannot be nil, is not -/
noncomputable def onPtrs (v : AV) (k : AV → Om) (e : Om) : Om := AV.rec (motive_1 := fun _ => (AV → Om) → Om → Om) (motive_2 := fun _ => PUnit)
  (fun _ _ _ e => e) (fun _ _ _ _ e => e) (fun _ _ e => e) (fun _ _ _ e => e) (fun _ _ _ e => e) (fun _ _ _ _ e => e) (fun b o k _ => k (.ptr b o)) (fun l _ k _ => k (.vptr l)) (fun _ e => e) (fun _ _ _ _ _ e => e) (fun _ _ _ _ _ e => e) (fun _ _ _ _ _ e => e) (fun _ e => e) (fun _ _ e => e) (fun _ e => e) (fun _ _ _ _ _ _ e => e) (fun _ _ e => e) (fun _ e => e) (fun _ e => e) (fun _ _ _ _ e => e) (fun _ _ _ e => e) (fun _ _ _ e => e) (fun _ _ _ _ e => e) .unit (fun _ _ _ _ => .unit) v k e
noncomputable def isNil (v : AV) (f : Bool → Om) (e : Om) : Om := AV.rec (motive_1 := fun _ => (Bool → Om) → Om → Om) (motive_2 := fun _ => PUnit)
  (fun _ _ _ e => e) (fun _ _ _ _ e => e) (fun _ _ e => e) (fun _ _ _ e => e) (fun _ _ _ e => e) (fun _ _ _ _ e => e) (fun _ _ f _ => f false) (fun _ _ f _ => f false) (fun f _ => f true) (fun _ _ _ _ f _ => f false) (fun _ _ _ _ f _ => f false) (fun _ _ _ _ f _ => f false) (fun f _ => f true) (fun _ _ e => e) (fun _ e => e) (fun _ _ _ _ _ _ e => e) (fun _ _ e => e) (fun _ e => e) (fun _ e => e) (fun _ _ _ _ e => e) (fun _ _ _ e => e) (fun _ _ _ e => e) (fun _ _ _ _ e => e) .unit (fun _ _ _ _ => .unit) v f e

noncomputable def onCellsO (o : AObj) (k : List AV → Om) : Om := AObj.rec (motive := fun _ => (List AV → Om) → Om) (fun l k => k l) (fun _ _ _ => none) (fun _ _ _ _ _ => none) (fun _ _ _ _ _ _ _ => none) (fun _ => none) (fun _ => none) o k

/-! ### registers, the heap -/
inductive ClG where | mk (f : T AV → (AV → Om) → Om)
noncomputable def apG (c : ClG) : T AV → (AV → Om) → Om := ClG.rec (motive := fun _ => T AV → (AV → Om) → Om) (fun f => f) c
noncomputable def optV (o : Option AV) (k : AV → Om) : Om := Option.rec (motive := fun _ => (AV → Om) → Om) (fun k => k undef) (fun v k => k v) o k
noncomputable def getC (q : K) : ClG := K.rec (motive := fun _ => ClG)
  (.mk (fun t k => T.rec (motive := fun _ => (AV → Om) → Om) (fun k => k undef) (fun v _ _ _ _ _ _ _ _ k => optV v k) t k))
  (fun _ ih => .mk (fun t k => T.rec (motive := fun _ => (AV → Om) → Om) (fun k => k undef) (fun _ x _ _ _ _ _ _ _ k => apG ih x k) t k))
  (fun _ ih => .mk (fun t k => T.rec (motive := fun _ => (AV → Om) → Om) (fun k => k undef) (fun _ _ x _ _ _ _ _ _ k => apG ih x k) t k))
  (fun _ ih => .mk (fun t k => T.rec (motive := fun _ => (AV → Om) → Om) (fun k => k undef) (fun _ _ _ x _ _ _ _ _ k => apG ih x k) t k))
  (fun _ ih => .mk (fun t k => T.rec (motive := fun _ => (AV → Om) → Om) (fun k => k undef) (fun _ _ _ _ x _ _ _ _ k => apG ih x k) t k)) q
theorem getC_eq (q : K) (R : T AV) (k : AV → Om) : apG (getC q) R k = k (Option.casesOn (R.get q) undef (fun v => v)) := by
  induction q generalizing R with
  | z =>
    cases R with
    | leaf => rfl
    | node v a b c d => cases v <;> rfl
  | a q ih =>
    cases R with
    | leaf => rw [T.get_leaf]; rfl
    | node v a b c d => exact ih a
  | b q ih =>
    cases R with
    | leaf => rw [T.get_leaf]; rfl
    | node v a b c d => exact ih b
  | c q ih =>
    cases R with
    | leaf => rw [T.get_leaf]; rfl
    | node v a b c d => exact ih c
  | d q ih =>
    cases R with
    | leaf => rw [T.get_leaf]; rfl
    | node v a b c d => exact ih d

inductive ClP where | mk (f : AV → T AV → (T AV → Om) → Om)
noncomputable def apP (c : ClP) : AV → T AV → (T AV → Om) → Om := ClP.rec (motive := fun _ => AV → T AV → (T AV → Om) → Om) (fun f => f) c
noncomputable def setC (q : K) : ClP := K.rec (motive := fun _ => ClP)
  (.mk (fun u t k => T.rec (motive := fun _ => AV → (T AV → Om) → Om) (fun u k => k (.node (some u) .leaf .leaf .leaf .leaf)) (fun _ a b c d _ _ _ _ u k => k (.node (some u) a b c d)) t u k))
  (fun _ ih => .mk (fun u t k => T.rec (motive := fun _ => AV → (T AV → Om) → Om) (fun u k => apP ih u .leaf (fun x => k (.node none x .leaf .leaf .leaf))) (fun v a b c d _ _ _ _ u k => apP ih u a (fun x => k (.node v x b c d))) t u k))
  (fun _ ih => .mk (fun u t k => T.rec (motive := fun _ => AV → (T AV → Om) → Om) (fun u k => apP ih u .leaf (fun x => k (.node none .leaf x .leaf .leaf))) (fun v a b c d _ _ _ _ u k => apP ih u b (fun x => k (.node v a x c d))) t u k))
  (fun _ ih => .mk (fun u t k => T.rec (motive := fun _ => AV → (T AV → Om) → Om) (fun u k => apP ih u .leaf (fun x => k (.node none .leaf .leaf x .leaf))) (fun v a b c d _ _ _ _ u k => apP ih u c (fun x => k (.node v a b x d))) t u k))
  (fun _ ih => .mk (fun u t k => T.rec (motive := fun _ => AV → (T AV → Om) → Om) (fun u k => apP ih u .leaf (fun x => k (.node none .leaf .leaf .leaf x))) (fun v a b c d _ _ _ _ u k => apP ih u d (fun x => k (.node v a b c x))) t u k)) q
theorem setC_eq (q : K) (u : AV) (R : T AV) (k : T AV → Om) : apP (setC q) u R k = k (R.set q u) := by
  induction q generalizing R k with
  | z => cases R <;> rfl
  | a q ih =>
    rw [T.set_a]
    cases R with
    | leaf => exact ih .leaf _
    | node v a b c d => exact ih a _
  | b q ih =>
    rw [T.set_b]
    cases R with
    | leaf => exact ih .leaf _
    | node v a b c d => exact ih b _
  | c q ih =>
    rw [T.set_c]
    cases R with
    | leaf => exact ih .leaf _
    | node v a b c d => exact ih c _
  | d q ih =>
    rw [T.set_d]
    cases R with
    | leaf => exact ih .leaf _
    | node v a b c d => exact ih d _

/- what lies under a number; nothing does -/
noncomputable def optH (o : Option AObj) (k : AObj → Om) (e : Om) : Om := Option.rec (motive := fun _ => (AObj → Om) → Om → Om) (fun _ e => e) (fun v k _ => k v) o k e
noncomputable def hget (q : K) (H : T AObj) (k : AObj → Om) (e : Om) : Om := K.rec (motive := fun _ => T AObj → (AObj → Om) → Om → Om)
  (fun t k e => T.rec (motive := fun _ => (AObj → Om) → Om → Om) (fun _ e => e) (fun v _ _ _ _ _ _ _ _ k e => optH v k e) t k e)
  (fun _ ih t k e => T.rec (motive := fun _ => (T AObj → (AObj → Om) → Om → Om) → (AObj → Om) → Om → Om) (fun _ _ e => e) (fun _ x _ _ _ _ _ _ _ ih k e => ih x k e) t ih k e)
  (fun _ ih t k e => T.rec (motive := fun _ => (T AObj → (AObj → Om) → Om → Om) → (AObj → Om) → Om → Om) (fun _ _ e => e) (fun _ _ x _ _ _ _ _ _ ih k e => ih x k e) t ih k e)
  (fun _ ih t k e => T.rec (motive := fun _ => (T AObj → (AObj → Om) → Om → Om) → (AObj → Om) → Om → Om) (fun _ _ e => e) (fun _ _ _ x _ _ _ _ _ ih k e => ih x k e) t ih k e)
  (fun _ ih t k e => T.rec (motive := fun _ => (T AObj → (AObj → Om) → Om → Om) → (AObj → Om) → Om → Om) (fun _ _ e => e) (fun _ _ _ _ x _ _ _ _ ih k e => ih x k e) t ih k e) q H k e
theorem hget_eq (q : K) (H : T AObj) (k : AObj → Om) (e : Om) : hget q H k e = match H.get q with
    | some o => k o
    | none => e := by
  induction q generalizing H with
  | z => cases H with
    | leaf => rfl
    | node v a b c d => cases v <;> rfl
  | a q ih => cases H with
    | leaf => rw [T.get_leaf]; rfl
    | node v a b c d => exact ih a
  | b q ih => cases H with
    | leaf => rw [T.get_leaf]; rfl
    | node v a b c d => exact ih b
  | c q ih => cases H with
    | leaf => rw [T.get_leaf]; rfl
    | node v a b c d => exact ih c
  | d q ih => cases H with
    | leaf => rw [T.get_leaf]; rfl
    | node v a b c d => exact ih d
noncomputable def hset (q : K) (u : AObj) (H : T AObj) (k : T AObj → Om) : Om := K.rec (motive := fun _ => AObj → T AObj → (T AObj → Om) → Om)
  (fun u t k => T.rec (motive := fun _ => AObj → (T AObj → Om) → Om) (fun u k => k (.node (some u) .leaf .leaf .leaf .leaf)) (fun _ a b c d _ _ _ _ u k => k (.node (some u) a b c d)) t u k)
  (fun _ ih u t k => T.rec (motive := fun _ => (AObj → T AObj → (T AObj → Om) → Om) → AObj → (T AObj → Om) → Om) (fun ih u k => ih u .leaf (fun x => k (.node none x .leaf .leaf .leaf))) (fun v a b c d _ _ _ _ ih u k => ih u a (fun x => k (.node v x b c d))) t ih u k)
  (fun _ ih u t k => T.rec (motive := fun _ => (AObj → T AObj → (T AObj → Om) → Om) → AObj → (T AObj → Om) → Om) (fun ih u k => ih u .leaf (fun x => k (.node none .leaf x .leaf .leaf))) (fun v a b c d _ _ _ _ ih u k => ih u b (fun x => k (.node v a x c d))) t ih u k)
  (fun _ ih u t k => T.rec (motive := fun _ => (AObj → T AObj → (T AObj → Om) → Om) → AObj → (T AObj → Om) → Om) (fun ih u k => ih u .leaf (fun x => k (.node none .leaf .leaf x .leaf))) (fun v a b c d _ _ _ _ ih u k => ih u c (fun x => k (.node v a b x d))) t ih u k)
  (fun _ ih u t k => T.rec (motive := fun _ => (AObj → T AObj → (T AObj → Om) → Om) → AObj → (T AObj → Om) → Om) (fun ih u k => ih u .leaf (fun x => k (.node none .leaf .leaf .leaf x))) (fun v a b c d _ _ _ _ ih u k => ih u d (fun x => k (.node v a b c x))) t ih u k) q u H k
theorem hset_eq (q : K) (u : AObj) (H : T AObj) (k : T AObj → Om) : hset q u H k = k (H.set q u) := by
  induction q generalizing H k with
  | z => cases H <;> rfl
  | a q ih =>
    rw [T.set_a]
    cases H with
    | leaf => exact ih .leaf _
    | node v a b c d => exact ih a _
  | b q ih =>
    rw [T.set_b]
    cases H with
    | leaf => exact ih .leaf _
    | node v a b c d => exact ih b _
  | c q ih =>
    rw [T.set_c]
    cases H with
    | leaf => exact ih .leaf _
    | node v a b c d => exact ih c _
  | d q ih =>
    rw [T.set_d]
    cases H with
    | leaf => exact ih .leaf _
    | node v a b c d => exact ih d _

/- an operand -/
noncomputable def fev (x : Opd) (R : T AV) (k : AV → Om) : Om := Opd.rec (motive := fun _ => T AV → (AV → Om) → Om) (fun q R k => apG (getC q) R k) (fun v _ k => k v) x R k
theorem fev_eq (x : Opd) (R : T AV) (k : AV → Om) : fev x R k = k (ev R x) := by
  cases x with
  | t q => exact getC_eq q R k
  | c v => rfl
noncomputable def fput (d : Option K) (v : AV) (R : T AV) (k : T AV → Om) : Om := Option.rec (motive := fun _ => AV → T AV → (T AV → Om) → Om) (fun _ R k => k R) (fun q v R k => apP (setC q) v R k) d v R k
theorem fput_eq (d : Option K) (v : AV) (R : T AV) (k : T AV → Om) : fput d v R k = k (putR d v R) := by
  cases d with
  | none => rfl
  | some q => exact setC_eq q v R k
noncomputable def onCells (H : T AObj) (b : K) (k : List AV → Om) : Om := hget b H (fun o => onCellsO o k) none
theorem onCells_eq (H : T AObj) (b : K) (k : List AV → Om) : onCells H b k = (match H.get b with
    | some (.cells l) => k l
    | _ => none) := by
  unfold onCells
  rw [hget_eq]
  cases T.get b H with
  | none => rfl
  | some o => cases o <;> rfl

/-! ### numbers -/
noncomputable def fN (n : Nat) (k : Nat → Om) : Om := Nat.rec (motive := fun _ => (Nat → Om) → Om) (fun k => k 0) (fun m _ k => k (Nat.succ m)) n k
theorem fN_eq (n : Nat) (k : Nat → Om) : fN n k = k n := by cases n <;> rfl
noncomputable def fb (b : Bool) (x y : Om) : Om := Bool.rec (motive := fun _ => Om → Om → Om) (fun _ y => y) (fun x _ => x) b x y
theorem fb_eq (b : Bool) (x y : Om) : fb b x y = if b then x else y := by cases b <;> rfl
noncomputable def ikn (k : IntKind) : Nat := IntKind.rec (motive := fun _ => Nat) 0 1 2 3 4 5 6 7 k
noncomputable def fkeq (k l : IntKind) : Bool := Nat.beq (ikn k) (ikn l)
theorem fkeq_eq (k l : IntKind) : fkeq k l = keq k l := by cases k <;> cases l <;> rfl
noncomputable def fhi (k : IntKind) : Nat := IntKind.rec (motive := fun _ => Nat) 127 32767 2147483647 9223372036854775807 255 65535 4294967295 18446744073709551615 k
theorem fhi_eq (k : IntKind) : fhi k = hiK k := by cases k <;> rfl
noncomputable def flo (k : IntKind) : Nat := IntKind.rec (motive := fun _ => Nat) 128 32768 2147483648 9223372036854775808 0 0 0 0 k
theorem flo_eq (k : IntKind) : flo k = loK k := by cases k <;> rfl
/- a number of a kind: as it is, if it fits -/
noncomputable def fmk (k : IntKind) (n : Int) (c : AV → Om) : Om := Int.rec (motive := fun _ => IntKind → (AV → Om) → Om)
  (fun m k c => fN m (fun m => fb (Nat.ble m (fhi k)) (c (.int k (.ofNat m))) (wh (mkInt k (.ofNat m)) c)))
  (fun m k c => fN m (fun m => fb (Nat.blt m (flo k)) (c (.int k (.negSucc m))) (wh (mkInt k (.negSucc m)) c))) n k c
theorem fmk_eq (k : IntKind) (n : Int) (c : AV → Om) : fmk k n c = c (mkInt k n) := by
  cases n with
  | ofNat m =>
    simp only [fmk, fN_eq, fhi_eq, mkInt, frc_eq, fits, fb_eq]
    cases h : Nat.ble m (hiK k)
    · simp only [wh_eq]; rfl
    · rfl
  | negSucc m =>
    simp only [fmk, fN_eq, flo_eq, mkInt, frc_eq, fits, fb_eq]
    cases h : Nat.blt m (loK k)
    · simp only [wh_eq]; rfl
    · rfl
noncomputable def fadd (a b : Int) (k : Int → Om) : Om := Int.rec (motive := fun _ => Int → (Int → Om) → Om)
  (fun a b k => Int.rec (motive := fun _ => Nat → (Int → Om) → Om) (fun b a k => k (.ofNat (Nat.add a b))) (fun b a k => k (Int.subNatNat a (Nat.succ b))) b a k)
  (fun a b k => Int.rec (motive := fun _ => Nat → (Int → Om) → Om) (fun b a k => k (Int.subNatNat b (Nat.succ a))) (fun b a k => k (.negSucc (Nat.succ (Nat.add a b)))) b a k) a b k
theorem fadd_eq (a b : Int) (k : Int → Om) : fadd a b k = k (a + b) := by cases a <;> cases b <;> rfl
noncomputable def fsub (a b : Int) (k : Int → Om) : Om := Int.rec (motive := fun _ => Int → (Int → Om) → Om)
  (fun b a k => Int.rec (motive := fun _ => Nat → (Int → Om) → Om) (fun a b k => Bool.rec (motive := fun _ => Nat → Nat → (Int → Om) → Om) (fun a b k => k (Int.subNatNat a b)) (fun a b k => k (.ofNat (Nat.sub a b))) (Nat.ble b a) a b k) (fun a b k => k (Int.negSucc a - Int.ofNat b)) a b k)
  (fun b a k => k (a - Int.negSucc b)) b a k
theorem fsub_eq (a b : Int) (k : Int → Om) : fsub a b k = k (a - b) := by
  cases b with
  | ofNat b => cases a with
    | ofNat a =>
      simp only [fsub]
      by_cases h : b ≤ a
      · have h' : Nat.ble b a = true := Nat.ble_eq_true_of_le h
        rw [h']
        show k (Int.ofNat (a - b)) = _
        congr 1; simp; omega
      · have h' : Nat.ble b a = false := by
          cases hb : Nat.ble b a
          · rfl
          · exact absurd (Nat.le_of_ble_eq_true hb) h
        rw [h']
        show k (Int.subNatNat a b) = _
        congr 1
        rw [Int.subNatNat_eq_coe]
        rfl
    | negSucc a => rfl
  | negSucc b => rfl
noncomputable def fieq (a b : Int) : Bool := Int.rec (motive := fun _ => Int → Bool)
  (fun a b => Int.rec (motive := fun _ => Nat → Bool) (fun b a => Nat.beq a b) (fun _ _ => false) b a)
  (fun a b => Int.rec (motive := fun _ => Nat → Bool) (fun _ _ => false) (fun b a => Nat.beq a b) b a) a b
theorem fieq_eq (a b : Int) : fieq a b = ieq a b := by cases a <;> cases b <;> rfl
noncomputable def filt (a b : Int) : Bool := Int.rec (motive := fun _ => Int → Bool)
  (fun a b => Int.rec (motive := fun _ => Nat → Bool) (fun b a => Nat.blt a b) (fun _ _ => false) b a)
  (fun a b => Int.rec (motive := fun _ => Nat → Bool) (fun _ _ => true) (fun b a => Nat.blt b a) b a) a b
theorem filt_eq (a b : Int) : filt a b = ilt a b := by cases a <;> cases b <;> rfl
/- a truth, its contrary -/
noncomputable def fB (b : Bool) (k : AV → Om) : Om := Bool.rec (motive := fun _ => (AV → Om) → Om) (fun k => k (.bool false)) (fun k => k (.bool true)) b k
noncomputable def fNB (b : Bool) (k : AV → Om) : Om := Bool.rec (motive := fun _ => (AV → Om) → Om) (fun k => k (.bool true)) (fun k => k (.bool false)) b k
theorem fB_eq (b : Bool) (k : AV → Om) : fB b k = k (.bool b) := by cases b <;> rfl
theorem fNB_eq (b : Bool) (k : AV → Om) : fNB b k = k (.bool (!b)) := by cases b <;> rfl

/-! ### rows -/
noncomputable def fnth (l : List AV) (i : Nat) (k : AV → Om) : Om := Nat.rec (motive := fun _ => List AV → (AV → Om) → Om)
  (fun l k => List.rec (motive := fun _ => (AV → Om) → Om) (fun _ => none) (fun x _ _ k => k x) l k)
  (fun _ ih l k => List.rec (motive := fun _ => (List AV → (AV → Om) → Om) → (AV → Om) → Om) (fun _ _ => none) (fun _ t _ ih k => ih t k) l ih k) i l k
theorem fnth_eq (l : List AV) (i : Nat) (k : AV → Om) : fnth l i k = bindO (nth l i) k := by
  induction i generalizing l with
  | zero => cases l <;> rfl
  | succ i ih =>
    cases l with
    | nil => rfl
    | cons x l => exact ih l
/- one cell turned -/
noncomputable def fset1 (i : Nat) (v : AV) (l : List AV) (k : List AV → Om) : Om :=
  Nat.rec (motive := fun _ => AV → List AV → (List AV → Om) → Om) (fun v l k => List.rec (motive := fun _ => AV → (List AV → Om) → Om) (fun _ _ => none) (fun _ t _ v k => k (v :: t)) l v k)
    (fun _ ih v l k => List.rec (motive := fun _ => (AV → List AV → (List AV → Om) → Om) → AV → (List AV → Om) → Om) (fun _ _ _ => none) (fun x t _ ih v k => ih v t (fun r => k (x :: r))) l ih v k) i v l k
theorem fset1_eq (i : Nat) (v : AV) (l : List AV) (k : List AV → Om) : fset1 i v l k = bindO (splice i [v] l) k := by
  induction i generalizing l k with
  | zero => cases l with
    | nil => rfl
    | cons x l => rfl
  | succ i ih => cases l with
    | nil => rfl
    | cons x l =>
      have h : fset1 (i + 1) v (x :: l) k = fset1 i v l (fun r => k (x :: r)) := rfl
      have h2 : splice (i + 1) [v] (x :: l) = Option.casesOn (motive := fun _ => Option (List AV)) (splice i [v] l) none (fun r => some (x :: r)) := rfl
      rw [h, ih, h2]
      cases splice i [v] l <;> rfl
noncomputable def fdrop (i : Nat) (l : List AV) (k : List AV → Om) : Om := Nat.rec (motive := fun _ => List AV → (List AV → Om) → Om) (fun l k => k l)
  (fun _ ih l k => List.rec (motive := fun _ => (List AV → (List AV → Om) → Om) → (List AV → Om) → Om) (fun _ k => k []) (fun _ t _ ih k => ih t k) l ih k) i l k
theorem fdrop_eq (i : Nat) (l : List AV) (k : List AV → Om) : fdrop i l k = k (dropN i l) := by
  induction i generalizing l with
  | zero => rfl
  | succ i ih =>
    cases l with
    | nil => rfl
    | cons x l => exact ih l
noncomputable def ftakeN (n : Nat) (l : List AV) (k : List AV → Om) : Om := Nat.rec (motive := fun _ => List AV → (List AV → Om) → Om) (fun _ k => k [])
  (fun _ ih l k => List.rec (motive := fun _ => (List AV → (List AV → Om) → Om) → (List AV → Om) → Om) (fun _ _ => none) (fun x t _ ih k => ih t (fun r => k (x :: r))) l ih k) n l k
theorem ftakeN_eq (n : Nat) (l : List AV) (k : List AV → Om) : ftakeN n l k = bindO (takeN n l) k := by
  induction n generalizing l k with
  | zero => rfl
  | succ n ih =>
    cases l with
    | nil => rfl
    | cons x l =>
      have h : ftakeN (n + 1) (x :: l) k = ftakeN n l (fun r => k (x :: r)) := rfl
      have h2 : takeN (n + 1) (x :: l) = Option.casesOn (motive := fun _ => Option (List AV)) (takeN n l) none (fun r => some (x :: r)) := rfl
      rw [h, h2, ih]
      cases takeN n l <;> rfl
noncomputable def ftake (n o : Nat) (l : List AV) (k : List AV → Om) : Om := fdrop o l (fun l => ftakeN n l k)
theorem ftake_eq (n o : Nat) (l : List AV) (k : List AV → Om) : ftake n o l k = bindO (takeN n (dropN o l)) k := by
  unfold ftake
  rw [fdrop_eq, ftakeN_eq]
noncomputable def fmkv (ag : Bool) (l : List AV) (k : AV → Om) : Om := Bool.rec (motive := fun _ => List AV → (AV → Om) → Om)
  (fun l k => List.rec (motive := fun _ => (AV → Om) → Om) (fun _ => none) (fun v t _ k => List.rec (motive := fun _ => AV → (AV → Om) → Om) (fun v k => k v) (fun _ _ _ _ _ => none) t v k) l k)
  (fun l k => k (.agg l)) ag l k
theorem fmkv_eq (ag : Bool) (l : List AV) (k : AV → Om) : fmkv ag l k = bindO (mkv ag l) k := by
  cases ag
  · cases l with
    | nil => rfl
    | cons v t => cases t <;> rfl
  · rfl
/- the number of a place below n -/
noncomputable def fplace (n : Nat) (v : AV) (k : Nat → Om) : Om := onInt v (fun _ i => Int.rec (motive := fun _ => Nat → (Nat → Om) → Om) (fun i n k => fb (Nat.blt i n) (k i) none) (fun _ _ _ => none) i n k) none
theorem fplace_eq (n : Nat) (v : AV) (k : Nat → Om) : fplace n v k = bindO (place n v) k := by
  cases v with
  | int a i => cases i with
    | ofNat i =>
      simp only [fplace, onInt, place, fb_eq]
      cases Nat.blt i n <;> rfl
    | negSucc i => rfl
  | _ => rfl

/-! ### two numbers -/
abbrev FI2 := IntKind → Int → Int → (AV → Om) → Om
noncomputable def fint (op : BinOp) : FI2 := BinOp.rec (motive := fun _ => FI2)
  (fun k a b c => fadd a b (fun n => fmk k n c)) (fun k a b c => fsub a b (fun n => fmk k n c)) (fun k a b c => fmk k (a * b) c)
  (fun k a b c => bindO (binOp .quo .plain (.int k a) (.int k b)) (fun v => wh v c)) (fun k a b c => bindO (binOp .rem .plain (.int k a) (.int k b)) (fun v => wh v c))
  (fun _ _ _ _ => none) (fun _ _ _ _ => none) (fun _ _ _ _ => none) (fun _ _ _ _ => none) (fun _ _ _ _ => none) (fun _ _ _ _ => none)
  (fun k a b c => fB (fieq a b) c) (fun k a b c => fNB (fieq a b) c) (fun k a b c => fB (filt a b) c) (fun k a b c => fNB (filt b a) c) (fun k a b c => fB (filt b a) c) (fun k a b c => fNB (filt a b) c) op
theorem keq_refl (k : IntKind) : keq k k = true := by cases k <;> rfl
theorem fint_eq (op : BinOp) (e : EqT) (k l : IntKind) (a b : Int) (c : AV → Om) (h : keq k l = true) : fint op k a b c = bindO (binOp op e (.int k a) (.int l b)) c := by
  have := keq_eq h; subst this
  have hk := keq_refl k
  cases op <;> simp [fint, binOp, hk, fadd_eq, fsub_eq, fmk_eq, fB_eq, fNB_eq, fieq_eq, filt_eq, wh_eq]
/- two texts: are they one? -/
noncomputable def fstr (op : BinOp) (n a m b : Nat) (c : AV → Om) : Om := BinOp.rec (motive := fun _ => Nat → Nat → Nat → Nat → (AV → Om) → Om)
  (fun n a m b c => bindO (binOp .add .plain (.str n a) (.str m b)) (fun v => wh v c))
  (fun _ _ _ _ _ => none) (fun _ _ _ _ _ => none) (fun _ _ _ _ _ => none) (fun _ _ _ _ _ => none) (fun _ _ _ _ _ => none) (fun _ _ _ _ _ => none) (fun _ _ _ _ _ => none) (fun _ _ _ _ _ => none) (fun _ _ _ _ _ => none) (fun _ _ _ _ _ => none)
  (fun n a m b c => fb (Nat.beq n m) (fB (Nat.beq a b) c) (c (.bool false))) (fun n a m b c => fb (Nat.beq n m) (fNB (Nat.beq a b) c) (c (.bool true)))
  (fun _ _ _ _ _ => none) (fun _ _ _ _ _ => none) (fun _ _ _ _ _ => none) (fun _ _ _ _ _ => none) op n a m b c
theorem fstr_eq (op : BinOp) (e : EqT) (n a m b : Nat) (c : AV → Om) : fstr op n a m b c = bindO (binOp op e (.str n a) (.str m b)) c := by
  cases op with
  | eql =>
    simp only [fstr, binOp, fb_eq, fB_eq, bindO_some]
    cases Nat.beq n m <;> rfl
  | neq =>
    simp only [fstr, binOp, fb_eq, fNB_eq, bindO_some]
    cases Nat.beq n m <;> rfl
  | add => simp only [fstr, binOp, wh_eq]
  | _ => rfl
noncomputable def fbin (op : BinOp) (e : EqT) (x y : AV) (c : AV → Om) : Om :=
  onInt x (fun k a => onInt y (fun l b => fb (fkeq k l) (fint op k a b c) none) (bindO (binOp op e x y) (fun v => wh v c)))
    (onStr x (fun n a => onStr y (fun m b => fstr op n a m b c) (bindO (binOp op e x y) (fun v => wh v c))) (bindO (binOp op e x y) (fun v => wh v c)))
theorem fbin_eq (op : BinOp) (e : EqT) (x y : AV) (c : AV → Om) : fbin op e x y c = bindO (binOp op e x y) c := by
  cases x with
  | int k a => cases y with
    | int l b =>
      simp only [fbin, onInt, fkeq_eq, fb_eq]
      cases h : keq k l with
      | true => exact fint_eq op e k l a b c h
      | false => simp [binOp, h]
    | _ => simp only [fbin, onInt, wh_eq]
  | str n a => cases y with
    | str m b =>
      simp only [fbin, onInt, onStr]
      exact fstr_eq op e n a m b c
    | _ => simp only [fbin, onInt, onStr, wh_eq]
  | _ => simp only [fbin, onInt, onStr, wh_eq]
end Go.Ab
