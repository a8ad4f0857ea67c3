/- The faster run: operations, made ready once. (The text is printed by mkh1.py.) -/
import Derived.Test.YtdiiepiflmgdeaaGreatG0
set_option linter.unusedVariables false
namespace Go.Ab

/-! ### registers: ways that are made ready once -/
abbrev GF := T AV → (AV → Om) → Om
inductive RdyG where | mk (f : GF)
noncomputable def getH (q : K) : RdyG := K.rec (motive := fun _ => RdyG)
  (.mk (fun t k => T.rec (motive := fun _ => (AV → Om) → Om) (fun k => k undef) (fun v _ _ _ _ _ _ _ _ k => Option.rec (motive := fun _ => (AV → Om) → Om) (fun k => k undef) (fun v k => k v) v k) t k))
  (fun _ ih => RdyG.rec (motive := fun _ => RdyG) (fun f => .mk (fun t k => T.rec (motive := fun _ => (AV → Om) → Om) (fun k => k undef) (fun _ x _ _ _ _ _ _ _ k => f x k) t k)) ih)
  (fun _ ih => RdyG.rec (motive := fun _ => RdyG) (fun f => .mk (fun t k => T.rec (motive := fun _ => (AV → Om) → Om) (fun k => k undef) (fun _ _ x _ _ _ _ _ _ k => f x k) t k)) ih)
  (fun _ ih => RdyG.rec (motive := fun _ => RdyG) (fun f => .mk (fun t k => T.rec (motive := fun _ => (AV → Om) → Om) (fun k => k undef) (fun _ _ _ x _ _ _ _ _ k => f x k) t k)) ih)
  (fun _ ih => RdyG.rec (motive := fun _ => RdyG) (fun f => .mk (fun t k => T.rec (motive := fun _ => (AV → Om) → Om) (fun k => k undef) (fun _ _ _ _ x _ _ _ _ k => f x k) t k)) ih) q
def GOk (q : K) (f : GF) : Prop := ∀ R k, f R k = k (Option.casesOn (T.get q R) undef (fun v => v))
theorem getH_ok (q : K) : ∃ f, getH q = .mk f ∧ GOk q f := by
  induction q with
  | z =>
    refine ⟨_, rfl, fun R k => ?_⟩
    cases R with
    | leaf => rfl
    | node v a b c d => cases v <;> rfl
  | a q ih =>
    obtain ⟨f, h, hf⟩ := ih
    refine ⟨(fun t k => T.rec (motive := fun _ => (AV → Om) → Om) (fun k => k undef) (fun _ x _ _ _ _ _ _ _ k => f x k) t k), ?_, fun R k => ?_⟩
    · show RdyG.rec (motive := fun _ => RdyG) (fun f => .mk (fun t k => T.rec (motive := fun _ => (AV → Om) → Om) (fun k => k undef) (fun _ x _ _ _ _ _ _ _ k => f x k) t k)) (getH q) = _
      rw [h]
    · cases R with
      | leaf => exact congrArg k (by rw [T.get_leaf])
      | node v a b c d => exact hf a k
  | b q ih =>
    obtain ⟨f, h, hf⟩ := ih
    refine ⟨(fun t k => T.rec (motive := fun _ => (AV → Om) → Om) (fun k => k undef) (fun _ _ x _ _ _ _ _ _ k => f x k) t k), ?_, fun R k => ?_⟩
    · show RdyG.rec (motive := fun _ => RdyG) (fun f => .mk (fun t k => T.rec (motive := fun _ => (AV → Om) → Om) (fun k => k undef) (fun _ _ x _ _ _ _ _ _ k => f x k) t k)) (getH q) = _
      rw [h]
    · cases R with
      | leaf => exact congrArg k (by rw [T.get_leaf])
      | node v a b c d => exact hf b k
  | c q ih =>
    obtain ⟨f, h, hf⟩ := ih
    refine ⟨(fun t k => T.rec (motive := fun _ => (AV → Om) → Om) (fun k => k undef) (fun _ _ _ x _ _ _ _ _ k => f x k) t k), ?_, fun R k => ?_⟩
    · show RdyG.rec (motive := fun _ => RdyG) (fun f => .mk (fun t k => T.rec (motive := fun _ => (AV → Om) → Om) (fun k => k undef) (fun _ _ _ x _ _ _ _ _ k => f x k) t k)) (getH q) = _
      rw [h]
    · cases R with
      | leaf => exact congrArg k (by rw [T.get_leaf])
      | node v a b c d => exact hf c k
  | d q ih =>
    obtain ⟨f, h, hf⟩ := ih
    refine ⟨(fun t k => T.rec (motive := fun _ => (AV → Om) → Om) (fun k => k undef) (fun _ _ _ _ x _ _ _ _ k => f x k) t k), ?_, fun R k => ?_⟩
    · show RdyG.rec (motive := fun _ => RdyG) (fun f => .mk (fun t k => T.rec (motive := fun _ => (AV → Om) → Om) (fun k => k undef) (fun _ _ _ _ x _ _ _ _ k => f x k) t k)) (getH q) = _
      rw [h]
    · cases R with
      | leaf => exact congrArg k (by rw [T.get_leaf])
      | node v a b c d => exact hf d k

abbrev PF := AV → T AV → (T AV → Om) → Om
inductive RdyP where | mk (f : PF)
noncomputable def setH (q : K) : RdyP := K.rec (motive := fun _ => RdyP)
  (.mk (fun u t k => T.rec (motive := fun _ => AV → (T AV → Om) → Om) (fun u k => k (.node (some u) .leaf .leaf .leaf .leaf)) (fun _ a b c d _ _ _ _ u k => k (.node (some u) a b c d)) t u k))
  (fun _ ih => RdyP.rec (motive := fun _ => RdyP) (fun f => .mk (fun u t k => T.rec (motive := fun _ => AV → (T AV → Om) → Om) (fun u k => f u .leaf (fun x => k (.node none x .leaf .leaf .leaf))) (fun v a b c d _ _ _ _ u k => f u a (fun x => k (.node v x b c d))) t u k)) ih)
  (fun _ ih => RdyP.rec (motive := fun _ => RdyP) (fun f => .mk (fun u t k => T.rec (motive := fun _ => AV → (T AV → Om) → Om) (fun u k => f u .leaf (fun x => k (.node none .leaf x .leaf .leaf))) (fun v a b c d _ _ _ _ u k => f u b (fun x => k (.node v a x c d))) t u k)) ih)
  (fun _ ih => RdyP.rec (motive := fun _ => RdyP) (fun f => .mk (fun u t k => T.rec (motive := fun _ => AV → (T AV → Om) → Om) (fun u k => f u .leaf (fun x => k (.node none .leaf .leaf x .leaf))) (fun v a b c d _ _ _ _ u k => f u c (fun x => k (.node v a b x d))) t u k)) ih)
  (fun _ ih => RdyP.rec (motive := fun _ => RdyP) (fun f => .mk (fun u t k => T.rec (motive := fun _ => AV → (T AV → Om) → Om) (fun u k => f u .leaf (fun x => k (.node none .leaf .leaf .leaf x))) (fun v a b c d _ _ _ _ u k => f u d (fun x => k (.node v a b c x))) t u k)) ih) q
def POkS (q : K) (f : PF) : Prop := ∀ u R k, f u R k = k (T.set q u R)
theorem setH_ok (q : K) : ∃ f, setH q = .mk f ∧ POkS q f := by
  induction q with
  | z =>
    refine ⟨_, rfl, fun u R k => ?_⟩
    cases R <;> rfl
  | a q ih =>
    obtain ⟨f, h, hf⟩ := ih
    refine ⟨(fun u t k => T.rec (motive := fun _ => AV → (T AV → Om) → Om) (fun u k => f u .leaf (fun x => k (.node none x .leaf .leaf .leaf))) (fun v a b c d _ _ _ _ u k => f u a (fun x => k (.node v x b c d))) t u k), ?_, fun u R k => ?_⟩
    · show RdyP.rec (motive := fun _ => RdyP) (fun f => .mk (fun u t k => T.rec (motive := fun _ => AV → (T AV → Om) → Om) (fun u k => f u .leaf (fun x => k (.node none x .leaf .leaf .leaf))) (fun v a b c d _ _ _ _ u k => f u a (fun x => k (.node v x b c d))) t u k)) (setH q) = _
      rw [h]
    · rw [T.set_a]
      cases R with
      | leaf => exact hf u .leaf _
      | node v a b c d => exact hf u a _
  | b q ih =>
    obtain ⟨f, h, hf⟩ := ih
    refine ⟨(fun u t k => T.rec (motive := fun _ => AV → (T AV → Om) → Om) (fun u k => f u .leaf (fun x => k (.node none .leaf x .leaf .leaf))) (fun v a b c d _ _ _ _ u k => f u b (fun x => k (.node v a x c d))) t u k), ?_, fun u R k => ?_⟩
    · show RdyP.rec (motive := fun _ => RdyP) (fun f => .mk (fun u t k => T.rec (motive := fun _ => AV → (T AV → Om) → Om) (fun u k => f u .leaf (fun x => k (.node none .leaf x .leaf .leaf))) (fun v a b c d _ _ _ _ u k => f u b (fun x => k (.node v a x c d))) t u k)) (setH q) = _
      rw [h]
    · rw [T.set_b]
      cases R with
      | leaf => exact hf u .leaf _
      | node v a b c d => exact hf u b _
  | c q ih =>
    obtain ⟨f, h, hf⟩ := ih
    refine ⟨(fun u t k => T.rec (motive := fun _ => AV → (T AV → Om) → Om) (fun u k => f u .leaf (fun x => k (.node none .leaf .leaf x .leaf))) (fun v a b c d _ _ _ _ u k => f u c (fun x => k (.node v a b x d))) t u k), ?_, fun u R k => ?_⟩
    · show RdyP.rec (motive := fun _ => RdyP) (fun f => .mk (fun u t k => T.rec (motive := fun _ => AV → (T AV → Om) → Om) (fun u k => f u .leaf (fun x => k (.node none .leaf .leaf x .leaf))) (fun v a b c d _ _ _ _ u k => f u c (fun x => k (.node v a b x d))) t u k)) (setH q) = _
      rw [h]
    · rw [T.set_c]
      cases R with
      | leaf => exact hf u .leaf _
      | node v a b c d => exact hf u c _
  | d q ih =>
    obtain ⟨f, h, hf⟩ := ih
    refine ⟨(fun u t k => T.rec (motive := fun _ => AV → (T AV → Om) → Om) (fun u k => f u .leaf (fun x => k (.node none .leaf .leaf .leaf x))) (fun v a b c d _ _ _ _ u k => f u d (fun x => k (.node v a b c x))) t u k), ?_, fun u R k => ?_⟩
    · show RdyP.rec (motive := fun _ => RdyP) (fun f => .mk (fun u t k => T.rec (motive := fun _ => AV → (T AV → Om) → Om) (fun u k => f u .leaf (fun x => k (.node none .leaf .leaf .leaf x))) (fun v a b c d _ _ _ _ u k => f u d (fun x => k (.node v a b c x))) t u k)) (setH q) = _
      rw [h]
    · rw [T.set_d]
      cases R with
      | leaf => exact hf u .leaf _
      | node v a b c d => exact hf u d _

/-! ### operands, targets -/
noncomputable def opdH (x : Opd) : RdyG := Opd.rec (motive := fun _ => RdyG) (fun q => getH q) (fun v => .mk (fun _ k => k v)) x
def OOk (x : Opd) (f : GF) : Prop := ∀ R k, f R k = k (ev R x)
theorem opdH_ok (x : Opd) : ∃ f, opdH x = .mk f ∧ OOk x f := by
  cases x with
  | t q => exact getH_ok q
  | c v => exact ⟨_, rfl, fun _ _ => rfl⟩
noncomputable def dstH (d : Option K) : RdyP := Option.rec (motive := fun _ => RdyP) (.mk (fun _ R k => k R)) (fun q => setH q) d
def DOk (d : Option K) (f : PF) : Prop := ∀ v R k, f v R k = k (putR d v R)
theorem dstH_ok (d : Option K) : ∃ f, dstH d = .mk f ∧ DOk d f := by
  cases d with
  | none => exact ⟨_, rfl, fun _ _ _ => rfl⟩
  | some q => exact setH_ok q

/-! ### operations -/
abbrev QF := T AV → T AObj → (AV → Om) → Om
abbrev HF := K → T AV → T AObj → (AV → T AObj → Om) → Om
inductive RdyX where
  | p (f : QF)          -- it leaves the heap as it is
  | h (f : HF)          -- it doesn't
def XOk (op : AOp) : RdyX → Prop
  | .p f => ∀ base R H (k : AV → T AObj → Om), f R H (fun v => k v H) = bindO (aexec base op R H) (fun p => k p.1 p.2)
  | .h f => ∀ base R H (k : AV → T AObj → Om), f base R H k = bindO (aexec base op R H) (fun p => k p.1 p.2)
noncomputable def slow (op : AOp) : RdyX := .h (fun base R H k => bindO (aexec base op R H) (fun p => wh p.1 (fun v => k v p.2)))
theorem slow_ok (op : AOp) : XOk op (slow op) := by
  intro base R H k
  show bindO _ _ = _
  simp only [wh_eq]
noncomputable def w1 (x : Opd) (F : GF → RdyX) : RdyX := RdyG.rec (motive := fun _ => RdyX) F (opdH x)
theorem w1_ok {op : AOp} {x : Opd} {F : GF → RdyX} (h : ∀ g, OOk x g → XOk op (F g)) : XOk op (w1 x F) := by
  obtain ⟨g, e, hg⟩ := opdH_ok x
  unfold w1
  rw [e]
  exact h g hg

noncomputable def slowBin (op : BinOp) (e : EqT) (x y : AV) (c : AV → Om) : Om := bindO (binOp op e x y) (fun v => wh v c)
noncomputable def gbinI (v : AV) (op : BinOp) (e : EqT) (q : IntKind) (m : Int) (f : AV → Om) : Om := AV.rec (motive_1 := fun _ => BinOp → EqT → IntKind → Int → (AV → Om) → Om) (motive_2 := fun _ => PUnit)
  (fun k n op _ q m f => fb (fkeq q k) (fint op q m n f) none) (fun k q' r op e q m f => slowBin op e (.int q m) (.res k q' r) f) (fun b op e q m f => slowBin op e (.int q m) (.bool b) f) (fun n c op e q m f => slowBin op e (.int q m) (.str n c) f) (fun k x op e q m f => slowBin op e (.int q m) (.flt k x) f) (fun k x y op e q m f => slowBin op e (.int q m) (.cplx k x y) f) (fun b o op e q m f => slowBin op e (.int q m) (.ptr b o) f) (fun l _ op e q m f => slowBin op e (.int q m) (.vptr l) f) (fun op e q m f => slowBin op e (.int q m) .nilp f) (fun b o n c op e q m f => slowBin op e (.int q m) (.slice b o n c) f) (fun b o n c op e q m f => slowBin op e (.int q m) (.oslice b o n c) f) (fun l n e' _ op e q m f => slowBin op e (.int q m) (.vslice l n e') f) (fun op e q m f => slowBin op e (.int q m) .nils f) (fun b op e q m f => slowBin op e (.int q m) (.map b) f) (fun op e q m f => slowBin op e (.int q m) .nilm f) (fun f' g h _ _ op e q m f => slowBin op e (.int q m) (.func f' g h) f) (fun b op e q m f => slowBin op e (.int q m) (.yield b) f) (fun op e q m f => slowBin op e (.int q m) .nilf f) (fun op e q m f => slowBin op e (.int q m) .nili f) (fun t v _ op e q m f => slowBin op e (.int q m) (.iface t v) f) (fun l _ op e q m f => slowBin op e (.int q m) (.agg l) f) (fun l _ op e q m f => slowBin op e (.int q m) (.tuple l) f) (fun i l _ op e q m f => slowBin op e (.int q m) (.tab i l) f) .unit (fun _ _ _ _ => .unit) v op e q m f
noncomputable def gbinS (v : AV) (op : BinOp) (e : EqT) (p : Nat) (m : Nat) (f : AV → Om) : Om := AV.rec (motive_1 := fun _ => BinOp → EqT → Nat → Nat → (AV → Om) → Om) (motive_2 := fun _ => PUnit)
  (fun k n op e p m f => slowBin op e (.str p m) (.int k n) f) (fun k q r op e p m f => slowBin op e (.str p m) (.res k q r) f) (fun b op e p m f => slowBin op e (.str p m) (.bool b) f) (fun n c op _ p m f => fstr op p m n c f) (fun k x op e p m f => slowBin op e (.str p m) (.flt k x) f) (fun k x y op e p m f => slowBin op e (.str p m) (.cplx k x y) f) (fun b o op e p m f => slowBin op e (.str p m) (.ptr b o) f) (fun l _ op e p m f => slowBin op e (.str p m) (.vptr l) f) (fun op e p m f => slowBin op e (.str p m) .nilp f) (fun b o n c op e p m f => slowBin op e (.str p m) (.slice b o n c) f) (fun b o n c op e p m f => slowBin op e (.str p m) (.oslice b o n c) f) (fun l n e' _ op e p m f => slowBin op e (.str p m) (.vslice l n e') f) (fun op e p m f => slowBin op e (.str p m) .nils f) (fun b op e p m f => slowBin op e (.str p m) (.map b) f) (fun op e p m f => slowBin op e (.str p m) .nilm f) (fun f' g h _ _ op e p m f => slowBin op e (.str p m) (.func f' g h) f) (fun b op e p m f => slowBin op e (.str p m) (.yield b) f) (fun op e p m f => slowBin op e (.str p m) .nilf f) (fun op e p m f => slowBin op e (.str p m) .nili f) (fun t v _ op e p m f => slowBin op e (.str p m) (.iface t v) f) (fun l _ op e p m f => slowBin op e (.str p m) (.agg l) f) (fun l _ op e p m f => slowBin op e (.str p m) (.tuple l) f) (fun i l _ op e p m f => slowBin op e (.str p m) (.tab i l) f) .unit (fun _ _ _ _ => .unit) v op e p m f
noncomputable def gbin (v : AV) (op : BinOp) (w : EqT) (y : AV) (g : AV → Om) : Om := AV.rec (motive_1 := fun _ => BinOp → EqT → AV → (AV → Om) → Om) (motive_2 := fun _ => PUnit)
  (fun k n op w y g => gbinI y op w k n g) (fun k q r op w y g => slowBin op w (.res k q r) y g) (fun b op w y g => slowBin op w (.bool b) y g) (fun n c op w y g => gbinS y op w n c g) (fun k x op w y g => slowBin op w (.flt k x) y g) (fun k x y' op w y g => slowBin op w (.cplx k x y') y g) (fun b o op w y g => slowBin op w (.ptr b o) y g) (fun l _ op w y g => slowBin op w (.vptr l) y g) (fun op w y g => slowBin op w .nilp y g) (fun b o n c op w y g => slowBin op w (.slice b o n c) y g) (fun b o n c op w y g => slowBin op w (.oslice b o n c) y g) (fun l n e _ op w y g => slowBin op w (.vslice l n e) y g) (fun op w y g => slowBin op w .nils y g) (fun b op w y g => slowBin op w (.map b) y g) (fun op w y g => slowBin op w .nilm y g) (fun f g' h _ _ op w y g => slowBin op w (.func f g' h) y g) (fun b op w y g => slowBin op w (.yield b) y g) (fun op w y g => slowBin op w .nilf y g) (fun op w y g => slowBin op w .nili y g) (fun t v _ op w y g => slowBin op w (.iface t v) y g) (fun l _ op w y g => slowBin op w (.agg l) y g) (fun l _ op w y g => slowBin op w (.tuple l) y g) (fun i l _ op w y g => slowBin op w (.tab i l) y g) .unit (fun _ _ _ _ => .unit) v op w y g
theorem slowBin_eq (op : BinOp) (e : EqT) (x y : AV) (c : AV → Om) : slowBin op e x y c = bindO (binOp op e x y) c := by unfold slowBin; simp only [wh_eq]
theorem gbin_eq (x : AV) (op : BinOp) (e : EqT) (y : AV) (c : AV → Om) : gbin x op e y c = bindO (binOp op e x y) c := by
  cases x with
  | int k a =>
    show gbinI y op e k a c = _
    cases y with
    | int l b =>
      simp only [gbinI, fkeq_eq, fb_eq]
      cases h : keq k l with
      | true => exact fint_eq op e k l a b c h
      | false => simp [binOp, h]
    | _ => exact slowBin_eq _ _ _ _ _
  | str n a =>
    show gbinS y op e n a c = _
    cases y with
    | str m b => exact fstr_eq op e n a m b c
    | _ => exact slowBin_eq _ _ _ _ _
  | _ => exact slowBin_eq _ _ _ _ _

noncomputable def x_mv (x : Opd) : RdyX := w1 x (fun g => .p (fun R H k => g R k))
theorem x_mv_ok (x : Opd) : XOk (.mv x) (x_mv x) := w1_ok fun g hg base R H k => by
  dsimp only
  rw [hg]; simp only [aexec, bindO_some]
noncomputable def x_pick (c a b : Opd) : RdyX := w1 c (fun gc => w1 a (fun ga => w1 b (fun gb => .p (fun R H k => gc R (fun v => onIf v (ga R k) (gb R k))))))
theorem x_pick_ok (c a b : Opd) : XOk (.pick c a b) (x_pick c a b) := w1_ok fun gc hc => w1_ok fun ga ha => w1_ok fun gb hb => fun base R H k => by
  dsimp only
  rw [hc]; simp only [aexec, onIf_eq, ha R, hb R]
  cases ev R c with
  | bool t => cases t <;> rfl
  | _ => rfl
noncomputable def x_nilchk (x : Opd) : RdyX := w1 x (fun g => .p (fun R H k => g R (fun v => onPtrs v k (bindO (aexec .z (.nilchk x) R H) (fun p => wh p.1 k)))))
theorem nilchk_H {base : K} {x : Opd} {R : T AV} {H : T AObj} {p : AV × T AObj} (h : aexec base (.nilchk x) R H = some p) : p.2 = H ∧ aexec .z (.nilchk x) R H = some p := by
  refine ⟨?_, h⟩
  simp only [aexec] at h
  split at h <;> first | (injection h with h; rw [← h]) | cases h
theorem x_nilchk_ok (x : Opd) : XOk (.nilchk x) (x_nilchk x) := w1_ok fun g hg base R H k => by
  dsimp only
  rw [hg]
  have gen : bindO (aexec .z (.nilchk x) R H) (fun p => wh p.1 (fun v => k v H)) = bindO (aexec base (.nilchk x) R H) (fun p => k p.1 p.2) := by
    simp only [wh_eq]
    cases h : aexec base (.nilchk x) R H with
    | none =>
      have : aexec .z (.nilchk x) R H = none := h
      rw [this]; rfl
    | some p =>
      obtain ⟨h1, h2⟩ := nilchk_H h
      rw [h2]
      simp only [bindO_some, h1]
  cases h : ev R x with
  | ptr b o => simp only [onPtrs, aexec, h, bindO_some]
  | vptr l => simp only [onPtrs, aexec, h, bindO_some]
  | _ => exact gen
noncomputable def x_un (op : UnOp) (x : Opd) : RdyX := UnOp.rec (motive := fun _ => Opd → RdyX) (fun x => slow (.un .neg x)) (fun x => slow (.un .xor x))
  (fun x => w1 x (fun g => .p (fun R H k => g R (fun v => onBool v (fun b => fNB b k))))) (fun x => slow (.un .plus x)) op x
theorem x_un_ok (op : UnOp) (x : Opd) : XOk (.un op x) (x_un op x) := by
  cases op with
  | not =>
    show XOk _ (w1 x (fun g => .p (fun R H k => g R (fun v => onBool v (fun b => fNB b k)))))
    apply w1_ok
    intro g hg base R H k
    dsimp only
    rw [hg]
    simp only [aexec]
    cases h : ev R x <;> simp only [onBool, unOp, bindO_none, fNB_eq, bindO_some]
  | neg => exact slow_ok _
  | xor => exact slow_ok _
  | plus => exact slow_ok _

/-! ### loads, stores -/
/- the cells from a place on; a row that was looked at so before is known -/
noncomputable def hd1 (l : List AV) (k : AV → Om) : Om := List.rec (motive := fun _ => (AV → Om) → Om) (fun _ => none) (fun x _ _ k => k x) l k
theorem hd1_eq (l : List AV) (o : Nat) (k : AV → Om) : hd1 (dropN o l) k = bindO (nth l o) k := by
  rw [dropN_eq, nth_eq]
  by_cases h : o < l.length
  · rw [List.drop_eq_getElem_cons h, List.getElem?_eq_getElem h]; rfl
  · rw [List.drop_eq_nil_of_le (by omega), List.getElem?_eq_none (by omega)]; rfl
noncomputable def x_load1 (x : Opd) : RdyX := w1 x (fun g => .p (fun R H k => g R (fun v => onPtr v (fun b o => onCells H b (fun l => hd1 (dropN o l) k)) (fun l => hd1 l k))))
noncomputable def x_loadS (n : Nat) (x : Opd) : RdyX := Bool.rec (motive := fun _ => RdyX) (slow (.load false n x)) (x_load1 x) (Nat.beq n 1)
noncomputable def x_loadA (n : Nat) (x : Opd) : RdyX := w1 x (fun g => .p (fun R H k => g R (fun v => onPtr v
  (fun b o => onCells H b (fun l => ftakeN n (dropN o l) (fun cs => k (.agg cs))))
  (fun l => ftakeN n l (fun cs => k (.agg cs))))))
noncomputable def x_load (ag : Bool) (n : Nat) (x : Opd) : RdyX := Bool.rec (motive := fun _ => Nat → Opd → RdyX) x_loadS x_loadA ag n x
theorem take1 (l : List AV) (o : Nat) (k : AV → Om) : bindO (takeN 1 (dropN o l)) (fun cs => bindO (mkv false cs) k) = bindO (nth l o) k := by
  rw [takeN_eq, dropN_eq, nth_eq]
  by_cases h : o < l.length
  · rw [if_pos (by simp; omega), List.getElem?_eq_getElem h]
    have : List.take 1 (List.drop o l) = [l[o]] := by
      rw [List.drop_eq_getElem_cons h]; rfl
    rw [this]
    rfl
  · rw [if_neg (by simp; omega), List.getElem?_eq_none (by omega)]
    rfl
theorem bindO_fst {α : Type} (o : Option (α × T AObj)) (H : T AObj) (k : α → T AObj → Om) (h : ∀ p, o = some p → p.2 = H) : bindO o (fun p => k p.1 H) = bindO o (fun p => k p.1 p.2) := by
  cases o with
  | none => rfl
  | some p => simp only [bindO_some]; rw [h p rfl]
theorem loadA (H : T AObj) (b : K) (o n : Nat) (ag : Bool) (k : AV → Om) : (match T.get b H with
    | some (.cells l) => bindO (takeN n (dropN o l)) (fun cs => bindO (mkv ag cs) k)
    | _ => none) = bindO (match readH H b o n with
      | some cs => match mkv ag cs with
        | some v => some (v, H)
        | none => none
      | none => none) (fun p => k p.1) := by
  unfold readH
  cases T.get b H with
  | none => rfl
  | some ob => cases ob with
    | cells l =>
      simp only
      cases takeN n (dropN o l) with
      | none => rfl
      | some cs => simp only [bindO_some]; cases mkv ag cs <;> rfl
    | _ => rfl
theorem loadB (l : List AV) (n : Nat) (ag : Bool) (H : T AObj) (k : AV → Om) : bindO (takeN n l) (fun cs => bindO (mkv ag cs) k) = bindO (match takeN n l with
      | some cs => match mkv ag cs with
        | some v => some (v, H)
        | none => none
      | none => none) (fun p => k p.1) := by
  cases takeN n l with
  | none => rfl
  | some cs => simp only [bindO_some]; cases mkv ag cs <;> rfl
/- a load, as its two alternatives -/
theorem load_alt (ag : Bool) (n : Nat) (x : Opd) (base : K) (R : T AV) (H : T AObj) (k : AV → T AObj → Om) : bindO (aexec base (.load ag n x) R H) (fun p => k p.1 p.2) = onPtr (ev R x) (fun b o => match T.get b H with
    | some (.cells l) => bindO (takeN n (dropN o l)) (fun cs => bindO (mkv ag cs) (fun v => k v H))
    | _ => none) (fun l => bindO (takeN n l) (fun cs => bindO (mkv ag cs) (fun v => k v H))) := by
  simp only [aexec]
  cases ev R x with
  | ptr b o =>
    simp only [onPtr]
    rw [loadA H b o n ag (fun v => k v H)]
    symm
    apply bindO_fst
    intro p hp
    split at hp
    · split at hp
      · injection hp with hp; rw [← hp]
      · cases hp
    · cases hp
  | vptr l =>
    simp only [onPtr]
    rw [loadB l n ag H (fun v => k v H)]
    symm
    apply bindO_fst
    intro p hp
    split at hp
    · split at hp
      · injection hp with hp; rw [← hp]
      · cases hp
    · cases hp
  | _ => rfl
theorem x_load_ok (ag : Bool) (n : Nat) (x : Opd) : XOk (.load ag n x) (x_load ag n x) := by
  cases ag with
  | false =>
    show XOk _ (x_loadS n x)
    unfold x_loadS
    cases hn : Nat.beq n 1 with
    | false => exact slow_ok _
    | true =>
      have : n = 1 := Nat.eq_of_beq_eq_true hn
      subst this
      apply w1_ok
      intro g hg base R H k
      dsimp only
      rw [load_alt, hg]
      congr 1
      · funext b o
        rw [onCells_eq]
        cases T.get b H with
        | none => rfl
        | some ob => cases ob with
          | cells l => simp only [hd1_eq]; exact (take1 l o _).symm
          | _ => rfl
      · funext l
        have : l = dropN 0 l := rfl
        rw [this, hd1_eq]
        exact (take1 l 0 _).symm
  | true =>
    show XOk _ (x_loadA n x)
    apply w1_ok
    intro g hg base R H k
    dsimp only
    rw [load_alt, hg]
    congr 1
    · funext b o
      rw [onCells_eq]
      cases T.get b H with
      | none => rfl
      | some ob => cases ob with
        | cells l => simp only [ftakeN_eq]; rfl
        | _ => rfl
    · funext l
      simp only [ftakeN_eq]
      rfl

noncomputable def x_store (n : Nat) (a v : Opd) : RdyX := w1 a (fun ga => w1 v (fun gv => .h (fun base R H k => ga R (fun p => onPtr p (fun b o => gv R (fun u => onCellsOf u (fun _ => bindO (aexec base (.store n a v) R H) (fun p => wh p.1 (fun v => k v p.2)))
  (fun u => fb (Nat.beq 1 n) (fscal u (onCells H b (fun l => fset1 o u l (fun l => hset b (.cells l) H (fun H => k undef H)))) none) none))) (fun _ => none)))))
theorem x_store_ok (n : Nat) (a v : Opd) : XOk (.store n a v) (x_store n a v) := w1_ok fun ga h1 => w1_ok fun gv h2 => fun base R H k => by
  dsimp only
  rw [h1]
  have sl : bindO (aexec base (.store n a v) R H) (fun p => wh p.1 (fun v => k v p.2)) = bindO (aexec base (.store n a v) R H) (fun p => k p.1 p.2) := by simp only [wh_eq]
  cases ha : ev R a with
  | ptr b o =>
    have one : ∀ u, cellsOf u = [u] → ev R v = u → fb (Nat.beq 1 n) (fscal u (onCells H b (fun l => fset1 o u l (fun l => hset b (.cells l) H (fun H => k undef H)))) none) none = bindO (aexec base (.store n a v) R H) (fun p => k p.1 p.2) := by
      intro u hu hv
      simp only [aexec, ha, hv, hu, fb_eq, fscal_eq, hset_eq]
      have hl : len [u] = 1 := rfl
      rw [hl]
      cases Nat.beq 1 n with
      | false => rfl
      | true =>
        simp only [if_true]
        unfold writeH
        rw [onCells_eq]
        have hs : allL scal [u] = scal u := by
          show Bool.casesOn (motive := fun _ => Bool) (scal u) false true = _
          cases scal u <;> rfl
        rw [hs]
        cases T.get b H with
        | none => cases scal u <;> rfl
        | some ob => cases ob with
          | cells l =>
            simp only
            cases scal u with
            | false => rfl
            | true =>
              simp only [if_true, fset1_eq]
              cases splice o [u] l <;> rfl
          | _ => cases scal u <;> rfl
    show gv _ _ = _
    rw [h2]
    cases hv : ev R v with
    | agg l => exact sl
    | _ => exact one _ rfl hv
  | _ => simp only [onPtr, aexec, ha, bindO_none]

noncomputable def x_fieldAddr (off : Nat) (x : Opd) : RdyX := w1 x (fun g => .p (fun R H k => g R (fun v => onPtr v (fun b o => fN (Nat.add o off) (fun o => k (.ptr b o))) (fun l => fdrop off l (fun l => k (.vptr l))))))
theorem x_fieldAddr_ok (off : Nat) (x : Opd) : XOk (.fieldAddr off x) (x_fieldAddr off x) := w1_ok fun g hg base R H k => by
  dsimp only
  rw [hg]
  simp only [aexec, frcN_eq]
  cases ev R x <;> simp only [onPtr, fN_eq, fdrop_eq, bindO_some, bindO_none] <;> rfl

/-! ### new objects -/
noncomputable def fsucc (q : K) (k : K → Om) : Om := K.rec (motive := fun _ => (K → Om) → Om) (fun k => k (.a .z)) (fun q _ k => k (.b q)) (fun q _ k => k (.c q)) (fun q _ k => k (.d q)) (fun q ih k => ih (fun q => k (.a q))) q k
theorem fsucc_eq (q : K) (k : K → Om) : fsucc q k = k q.succ := by
  induction q generalizing k with
  | d q ih =>
    have h : fsucc (.d q) k = fsucc q (fun q => k (.a q)) := rfl
    rw [h, ih]; rfl
  | _ => rfl
noncomputable def fadk (q : K) (n : Nat) (k : K → Om) : Om := Nat.rec (motive := fun _ => K → (K → Om) → Om) (fun q k => k q) (fun _ ih q k => ih q (fun q => fsucc q k)) n q k
theorem fadk_eq (q : K) (n : Nat) (k : K → Om) : fadk q n k = k (q.add n) := by
  induction n generalizing k with
  | zero => rfl
  | succ n ih =>
    have h : fadk q (n + 1) k = fadk q n (fun q => fsucc q k) := rfl
    rw [h, ih, fsucc_eq]; rfl
noncomputable def fnewO (H : T AObj) (id : K) (o : AObj) (k : T AObj → Om) : Om := hget id H (fun _ => none) (hset id o H k)
theorem fnewO_eq (H : T AObj) (id : K) (o : AObj) (k : T AObj → Om) : fnewO H id o k = bindO (newO H id o) k := by
  unfold fnewO newO
  rw [hget_eq, hset_eq]
  cases T.get id H <;> rfl
noncomputable def x_alloc (j : Nat) (zero : List AV) : RdyX := .h (fun base R H k => fadk base j (fun id => fnewO H id (.cells zero) (fun H => k (.ptr id 0) H)))
theorem x_alloc_ok (j : Nat) (zero : List AV) : XOk (.alloc j zero) (x_alloc j zero) := by
  intro base R H k
  dsimp only
  simp only [fadk_eq, fnewO_eq, aexec]
  cases newO H (base.add j) (.cells zero) <;> rfl
noncomputable def x_box (j n : Nat) (x : Opd) : RdyX := w1 x (fun g => .h (fun base R H k => g R (fun v => onCellsOf v (fun l => fb (Nat.beq (len l) n) (fadk base j (fun id => fnewO H id (.cells l) (fun H => k (.ptr id 0) H))) none)
  (fun v => fb (Nat.beq 1 n) (fadk base j (fun id => fnewO H id (.cells [v]) (fun H => k (.ptr id 0) H))) none))))
theorem x_box_ok (j n : Nat) (x : Opd) : XOk (.box j n x) (x_box j n x) := w1_ok fun g hg base R H k => by
  dsimp only
  rw [hg]
  have one : ∀ v l, cellsOf v = l → ev R x = v → fb (Nat.beq (len l) n) (fadk base j (fun id => fnewO H id (.cells l) (fun H => k (.ptr id 0) H))) none = bindO (aexec base (.box j n x) R H) (fun p => k p.1 p.2) := by
    intro v l hv hx
    simp only [aexec, hx, hv, fb_eq, fadk_eq, fnewO_eq]
    cases Nat.beq (len l) n with
    | false => rfl
    | true => simp only [if_true]; cases newO H (base.add j) (.cells l) <;> rfl
  cases hv : ev R x with
  | agg l => exact one _ _ rfl hv
  | _ => exact one _ _ rfl hv

/-! ### places -/
noncomputable def x_indexAddr (sz : Nat) (x i : Opd) : RdyX := w1 x (fun gx => w1 i (fun gi => .p (fun R H k => gx R (fun v => onRow v (fun b o n => gi R (fun i => fplace n i (fun i => fN (Nat.add o (Nat.mul i sz)) (fun o => k (.ptr b o))))) (bindO (aexec .z (.indexAddr sz x i) R H) (fun p => wh p.1 k))))))
theorem indexAddr_H {base : K} {sz : Nat} {x i : Opd} {R : T AV} {H : T AObj} {p : AV × T AObj} (h : aexec base (.indexAddr sz x i) R H = some p) : p.2 = H ∧ aexec .z (.indexAddr sz x i) R H = some p := by
  refine ⟨?_, h⟩
  simp only [aexec, frcN_eq] at h
  split at h <;> (try split at h) <;> first | (injection h with h; rw [← h]) | cases h
theorem x_indexAddr_ok (sz : Nat) (x i : Opd) : XOk (.indexAddr sz x i) (x_indexAddr sz x i) := w1_ok fun gx h1 => w1_ok fun gi h2 => fun base R H k => by
  dsimp only
  rw [h1]
  have gen : bindO (aexec .z (.indexAddr sz x i) R H) (fun p => wh p.1 (fun v => k v H)) = bindO (aexec base (.indexAddr sz x i) R H) (fun p => k p.1 p.2) := by
    simp only [wh_eq]
    cases h : aexec base (.indexAddr sz x i) R H with
    | none =>
      have : aexec .z (.indexAddr sz x i) R H = none := h
      rw [this]; rfl
    | some p =>
      obtain ⟨h1, h2⟩ := indexAddr_H h
      rw [h2]
      simp only [bindO_some, h1]
  cases h : ev R x with
  | slice b o n c =>
    simp only [onRow, h2 R, aexec, h, fplace_eq, fN_eq, frcN_eq]
    cases place n (ev R i) <;> rfl
  | oslice b o n c =>
    simp only [onRow, h2 R, aexec, h, fplace_eq, fN_eq, frcN_eq]
    cases place n (ev R i) <;> rfl
  | _ => exact gen
noncomputable def x_bin (op : BinOp) (e : EqT) (x y : Opd) : RdyX := w1 x (fun gx => w1 y (fun gy => .p (fun R H k => gx R (fun u => gy R (fun v => gbin u op e v k)))))
theorem x_bin_ok (op : BinOp) (e : EqT) (x y : Opd) : XOk (.bin op e x y) (x_bin op e x y) := w1_ok fun gx h1 => w1_ok fun gy h2 => fun base R H k => by
  dsimp only
  rw [h1]
  simp only [h2 R, gbin_eq, aexec]
  cases binOp op e (ev R x) (ev R y) <;> rfl
noncomputable def x_len (q : SK) (x : Opd) : RdyX := w1 x (fun g => .p (fun R H k => g R (fun v => onLen v q (fun n => k (.int .i64 (.ofNat n))) (bindO (lenOp q v H) (fun n => fN n (fun n => k (.int .i64 (.ofNat n))))))))
theorem x_len_ok (q : SK) (x : Opd) : XOk (.len q x) (x_len q x) := w1_ok fun g hg base R H k => by
  dsimp only
  rw [hg]
  simp only [aexec, frcN_eq]
  have gen : ∀ v, bindO (lenOp q v H) (fun n => fN n (fun n => k (.int .i64 (.ofNat n)) H)) = bindO (match lenOp q v H with
    | some n => some (AV.int .i64 (.ofNat n), H)
    | none => none) (fun p => k p.1 p.2) := by
    intro v
    cases lenOp q v H with
    | none => rfl
    | some n => simp only [bindO_some, fN_eq]
  cases h : ev R x <;> cases q <;> first
    | exact gen _
    | rfl
noncomputable def x_extract (x : Opd) (i : Nat) : RdyX := w1 x (fun g => .p (fun R H k => g R (fun v => onTuple v (fun l => fnth l i k))))
theorem x_extract_ok (x : Opd) (i : Nat) : XOk (.extract x i) (x_extract x i) := w1_ok fun g hg base R H k => by
  dsimp only
  rw [hg]
  simp only [fnth_eq, aexec]
  cases ev R x with
  | tuple l => simp only [onTuple]; cases nth l i <;> rfl
  | _ => rfl

/-! ### compounds -/
/- the parts of a compound laid in their places -/
abbrev FF := T AV → List AV → (List AV → Om) → Om
inductive RdyF where | mk (f : FF)
noncomputable def fillH (parts : List (Nat × Nat × Opd)) : RdyF :=
  List.rec (motive := fun _ => RdyF) (.mk (fun _ cs k => k cs))
    (fun p _ ih => RdyF.rec (motive := fun _ => RdyF) (fun rest => RdyG.rec (motive := fun _ => RdyF) (fun g => .mk (fun R cs k => g R (fun v => onCellsOf v
      (fun l => fb (Nat.beq (len l) p.2.1) (fb (allL scal l) (bindO (splice p.1 l cs) (fun cs => rest R cs k)) none) none)
      (fun v => fb (Nat.beq 1 p.2.1) (fscal v (fset1 p.1 v cs (fun cs => rest R cs k)) none) none)))) (opdH p.2.2)) ih) parts
def FOk (parts : List (Nat × Nat × Opd)) (f : FF) : Prop := ∀ R cs k, f R cs k = bindO (fillIn R cs parts) k
theorem fillH_ok (parts : List (Nat × Nat × Opd)) : ∃ f, fillH parts = .mk f ∧ FOk parts f := by
  induction parts with
  | nil => exact ⟨_, rfl, fun _ _ _ => rfl⟩
  | cons p ps ih =>
    obtain ⟨rest, e1, h1⟩ := ih
    obtain ⟨g, e2, h2⟩ := opdH_ok p.2.2
    refine ⟨(fun R cs k => g R (fun v => onCellsOf v
      (fun l => fb (Nat.beq (len l) p.2.1) (fb (allL scal l) (bindO (splice p.1 l cs) (fun cs => rest R cs k)) none) none)
      (fun v => fb (Nat.beq 1 p.2.1) (fscal v (fset1 p.1 v cs (fun cs => rest R cs k)) none) none))), ?_, fun R cs k => ?_⟩
    · show RdyF.rec (motive := fun _ => RdyF) (fun rest => RdyG.rec (motive := fun _ => RdyF) (fun g => .mk (fun R cs k => g R (fun v => onCellsOf v
      (fun l => fb (Nat.beq (len l) p.2.1) (fb (allL scal l) (bindO (splice p.1 l cs) (fun cs => rest R cs k)) none) none)
      (fun v => fb (Nat.beq 1 p.2.1) (fscal v (fset1 p.1 v cs (fun cs => rest R cs k)) none) none)))) (opdH p.2.2)) (fillH ps) = _
      rw [e1, e2]
    · have hh : fillIn R cs (p :: ps) = if Nat.beq (len (cellsOf (ev R p.2.2))) p.2.1 && allL scal (cellsOf (ev R p.2.2)) then (match splice p.1 (cellsOf (ev R p.2.2)) cs with
        | some cs => fillIn R cs ps
        | none => none) else none := rfl
      dsimp only
      rw [hh, h2]
      have all : ∀ l : List AV, fb (Nat.beq (len l) p.2.1) (fb (allL scal l) (bindO (splice p.1 l cs) (fun cs => rest R cs k)) none) none = bindO (if Nat.beq (len l) p.2.1 && allL scal l then (match splice p.1 l cs with
          | some cs => fillIn R cs ps
          | none => none) else none) k := by
        intro l
        simp only [fb_eq]
        cases Nat.beq (len l) p.2.1 with
        | false => rfl
        | true =>
          cases allL scal l with
          | false => rfl
          | true =>
            simp only [if_true, Bool.and_self]
            cases splice p.1 l cs with
            | none => rfl
            | some cs' => exact h1 R cs' k
      have one : ∀ v : AV, cellsOf v = [v] → fb (Nat.beq 1 p.2.1) (fscal v (fset1 p.1 v cs (fun cs => rest R cs k)) none) none = bindO (if Nat.beq (len (cellsOf v)) p.2.1 && allL scal (cellsOf v) then (match splice p.1 (cellsOf v) cs with
          | some cs => fillIn R cs ps
          | none => none) else none) k := by
        intro v hv
        rw [hv, ← all]
        have hs : allL scal [v] = scal v := by
          show Bool.casesOn (motive := fun _ => Bool) (scal v) false true = _
          cases scal v <;> rfl
        have hl : len [v] = 1 := rfl
        rw [hs, hl, fscal_eq, fset1_eq]
        simp only [fb_eq]
      cases hv : ev R p.2.2 with
      | agg l => exact all l
      | _ => exact one _ rfl
noncomputable def wF (parts : List (Nat × Nat × Opd)) (F : FF → RdyX) : RdyX := RdyF.rec (motive := fun _ => RdyX) F (fillH parts)
theorem wF_ok {op : AOp} {parts : List (Nat × Nat × Opd)} {F : FF → RdyX} (h : ∀ g, FOk parts g → XOk op (F g)) : XOk op (wF parts F) := by
  obtain ⟨g, e, hg⟩ := fillH_ok parts
  unfold wF
  rw [e]
  exact h g hg
noncomputable def x_build (zero : List AV) (parts : List (Nat × Nat × Opd)) : RdyX := wF parts (fun f => .p (fun R H k => f R zero (fun cs => k (.agg cs))))
theorem x_build_ok (zero : List AV) (parts : List (Nat × Nat × Opd)) : XOk (.build zero parts) (x_build zero parts) := wF_ok fun f hf base R H k => by
  dsimp only
  rw [hf]; simp only [aexec]
  cases fillIn R zero parts <;> rfl
noncomputable def x_vlit (n : Nat) (zero : List AV) (parts : List (Nat × Nat × Opd)) : RdyX := wF parts (fun f => .p (fun R H k => f R zero (fun cs => k (.vslice cs n true))))
theorem x_vlit_ok (n : Nat) (zero : List AV) (parts : List (Nat × Nat × Opd)) : XOk (.vlit n zero parts) (x_vlit n zero parts) := wF_ok fun f hf base R H k => by
  dsimp only
  rw [hf]; simp only [aexec]
  cases fillIn R zero parts <;> rfl
noncomputable def x_hlit (j n : Nat) (zero : List AV) (parts : List (Nat × Nat × Opd)) : RdyX := wF parts (fun f => .h (fun base R H k => f R zero (fun cs => fadk base j (fun id => fnewO H id (.cells cs) (fun H => k (.slice id 0 n n) H)))))
theorem x_hlit_ok (j n : Nat) (zero : List AV) (parts : List (Nat × Nat × Opd)) : XOk (.hlit j n zero parts) (x_hlit j n zero parts) := wF_ok fun f hf base R H k => by
  dsimp only
  rw [hf]; simp only [aexec, fadk_eq, fnewO_eq]
  cases fillIn R zero parts with
  | none => rfl
  | some cs => simp only [bindO_some]; cases newO H (base.add j) (.cells cs) <;> rfl
noncomputable def x_field (ag : Bool) (n off : Nat) (x : Opd) : RdyX := w1 x (fun g => .p (fun R H k => g R (fun v => onAgg v (fun l => ftake n off l (fun cs => fmkv ag cs k)))))
theorem x_field_ok (ag : Bool) (n off : Nat) (x : Opd) : XOk (.field ag n off x) (x_field ag n off x) := w1_ok fun g hg base R H k => by
  dsimp only
  rw [hg]; simp only [aexec]
  cases ev R x with
  | agg l =>
    simp only [onAgg, ftake_eq, fmkv_eq]
    cases takeN n (dropN off l) with
    | none => rfl
    | some cs => simp only [bindO_some]; cases mkv ag cs <;> rfl
  | _ => rfl
noncomputable def x_indexArr (n : Nat) (ag : Bool) (sz : Nat) (x i : Opd) : RdyX := w1 x (fun gx => w1 i (fun gi => .p (fun R H k => gx R (fun v => onAgg v (fun l => gi R (fun i => fplace n i (fun i => ftakeN sz (dropN (Nat.mul i sz) l) (fun cs => fmkv ag cs k))))))))
theorem x_indexArr_ok (n : Nat) (ag : Bool) (sz : Nat) (x i : Opd) : XOk (.indexArr n ag sz x i) (x_indexArr n ag sz x i) := w1_ok fun gx h1 => w1_ok fun gi h2 => fun base R H k => by
  dsimp only
  rw [h1]
  simp only [h2 R, aexec, fplace_eq]
  cases ev R x with
  | agg l =>
    simp only [onAgg, ftakeN_eq, fmkv_eq]
    cases place n (ev R i) with
    | none => rfl
    | some j =>
      simp only [bindO_some, elemAt]
      have : Nat.mul j sz = j * sz := rfl
      rw [this]
      cases takeN sz (dropN (j * sz) l) with
      | none => rfl
      | some cs => simp only [bindO_some]; cases mkv ag cs <;> rfl
  | _ => rfl
noncomputable def x_indexStr (x i : Opd) : RdyX := w1 x (fun gx => w1 i (fun gi => .p (fun R H k => gx R (fun v => onStr v (fun n c => gi R (fun i => fplace n i (fun i => fN (Nat.mod (Nat.div c (Nat.pow 2 (Nat.mul 8 i))) 256) (fun b => k (.int .u8 (.ofNat b)))))) none))))
theorem x_indexStr_ok (x i : Opd) : XOk (.indexStr x i) (x_indexStr x i) := w1_ok fun gx h1 => w1_ok fun gi h2 => fun base R H k => by
  dsimp only
  rw [h1]
  simp only [h2 R, aexec, fplace_eq, fN_eq, frcN_eq]
  cases ev R x with
  | str n c =>
    simp only [onStr]
    cases place n (ev R i) <;> rfl
  | _ => rfl
noncomputable def x_conv (q : IntKind) (x : Opd) : RdyX := w1 x (fun g => .p (fun R H k => g R (fun v => onInt v (fun _ n => fmk q n k) none)))
theorem x_conv_ok (q : IntKind) (x : Opd) : XOk (.conv q x) (x_conv q x) := w1_ok fun g hg base R H k => by
  dsimp only
  rw [hg]; simp only [aexec]
  cases ev R x with
  | int a n => simp only [onInt, fmk_eq]; rfl
  | _ => rfl
noncomputable def x_slc (sz : Nat) (x : Opd) (lo hi mx : Option Opd) : RdyX := w1 x (fun g => .p (fun R H k => g R (fun v => bindO (slcOp sz v lo hi mx R) (fun v => wh v k))))
theorem x_slc_ok (sz : Nat) (x : Opd) (lo hi mx : Option Opd) : XOk (.slc sz x lo hi mx) (x_slc sz x lo hi mx) := w1_ok fun g hg base R H k => by
  dsimp only
  rw [hg]; simp only [aexec, wh_eq]
  cases slcOp sz (ev R x) lo hi mx R <;> rfl
noncomputable def x_slcStr (x : Opd) (lo hi : Option Opd) : RdyX := w1 x (fun g => .p (fun R H k => g R (fun v => bindO (slcStrOp v lo hi R) (fun v => wh v k))))
theorem x_slcStr_ok (x : Opd) (lo hi : Option Opd) : XOk (.slcStr x lo hi) (x_slcStr x lo hi) := w1_ok fun g hg base R H k => by
  dsimp only
  rw [hg]; simp only [aexec, wh_eq]
  cases slcStrOp (ev R x) lo hi R <;> rfl
noncomputable def x_lookup (zero : AV) (ok : Bool) (q : LK) (m y : Opd) : RdyX := w1 m (fun gm => w1 y (fun gy => .p (fun R H k => gm R (fun m => gy R (fun y => bindO (lookupOp q zero ok m y H) (fun v => wh v k))))))
theorem x_lookup_ok (zero : AV) (ok : Bool) (q : LK) (m y : Opd) : XOk (.lookup zero ok q m y) (x_lookup zero ok q m y) := w1_ok fun gm h1 => w1_ok fun gy h2 => fun base R H k => by
  dsimp only
  rw [h1]; simp only [h2 R, aexec, wh_eq]
  cases lookupOp q zero ok (ev R m) (ev R y) H <;> rfl
noncomputable def x_mapput (q : LK) (m y z : Opd) : RdyX := w1 m (fun gm => w1 y (fun gy => w1 z (fun gz => .h (fun _ R H k => gm R (fun m => gy R (fun y => gz R (fun z => bindO (mapputOp q m y z H) (fun H => k undef H))))))))
theorem x_mapput_ok (q : LK) (m y z : Opd) : XOk (.mapput q m y z) (x_mapput q m y z) := w1_ok fun gm h1 => w1_ok fun gy h2 => w1_ok fun gz h3 => fun base R H k => by
  dsimp only
  rw [h1]; simp only [h2 R, h3 R, aexec]
  cases mapputOp q (ev R m) (ev R y) (ev R z) H <;> rfl
noncomputable def x_append (j sz bytes : Nat) (s x : Opd) : RdyX := w1 s (fun gs => w1 x (fun gx => .h (fun base R H k => gs R (fun s => gx R (fun x => fadk base j (fun id => bindO (appendOp id sz bytes s x H) (fun p => wh p.1 (fun v => k v p.2))))))))
theorem x_append_ok (j sz bytes : Nat) (s x : Opd) : XOk (.append j sz bytes s x) (x_append j sz bytes s x) := w1_ok fun gs h1 => w1_ok fun gx h2 => fun base R H k => by
  dsimp only
  rw [h1]; simp only [h2 R, aexec, wh_eq, fadk_eq]
end Go.Ab
