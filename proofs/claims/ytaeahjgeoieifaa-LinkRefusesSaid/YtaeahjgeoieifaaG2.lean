/- The faster run: steps, calls, code. -/
import Derived.Test.YtaeahjgeoieifaaG1
set_option linter.unusedVariables false
namespace Go.Ab

/-! ### arguments, results -/
inductive ClA where | mk (f : T AV → T AV → (T AV → Om) → Om)
noncomputable def apA (c : ClA) : T AV → T AV → (T AV → Om) → Om := ClA.rec (motive := fun _ => T AV → T AV → (T AV → Om) → Om) (fun f => f) c
noncomputable def argC (l : List Opd) : K → ClA := List.rec (motive := fun _ => K → ClA) (fun _ => .mk (fun _ R0 k => k R0)) (fun x _ ih q => .mk (fun R R0 k => gev x R (fun v => apP (setC q) v R0 (fun R0 => apA (ih q.succ) R R0 k)))) l
theorem argC_eq (l : List Opd) (R : T AV) (k : T AV → Om) : apA (argC l .z) R .leaf k = k (initR (mapL (ev R) l)) := by
  have gen : ∀ (l : List Opd) (q : K) (R0 : T AV), apA (argC l q) R R0 k = k (List.rec (motive := fun _ => K → T AV → T AV) (fun _ R => R) (fun v _ ih k R => ih k.succ (R.set k v)) (mapL (ev R) l) q R0) := by
    intro l
    induction l with
    | nil => intro q R0; rfl
    | cons x l ih =>
      intro q R0
      have h : apA (argC (x :: l) q) R R0 k = gev x R (fun v => apP (setC q) v R0 (fun R0 => apA (argC l q.succ) R R0 k)) := rfl
      rw [h, gev_eq, setC_eq, ih]
      rfl
  exact gen l .z .leaf
noncomputable def fres1 (r : ARes) (R : T AV) (H : T AObj) (k : AV → Om) : Om := ARes.rec (motive := fun _ => T AV → T AObj → (AV → Om) → Om)
  (fun q R H k => apG (getC q) R k)
  (fun q ag n R H k => bindO (resV (.cell q ag n) R H) (fun v => wh v k)) r R H k
theorem fres1_eq (r : ARes) (R : T AV) (H : T AObj) (k : AV → Om) : fres1 r R H k = bindO (resV r R H) k := by
  cases r with
  | tmp q =>
    show apG (getC q) R k = _
    rw [getC_eq]
    simp only [resV]
    cases T.get q R <;> rfl
  | cell q ag n => simp only [fres1, wh_eq]
noncomputable def fresL (rs : List ARes) (R : T AV) (H : T AObj) (k : List AV → Om) : Om :=
  List.rec (motive := fun _ => T AV → T AObj → (List AV → Om) → Om) (fun _ _ k => k []) (fun r _ ih R H k => fres1 r R H (fun v => ih R H (fun vs => k (v :: vs)))) rs R H k
theorem fresL_eq (rs : List ARes) (R : T AV) (H : T AObj) (k : List AV → Om) : fresL rs R H k = bindO (resL rs R H) k := by
  induction rs generalizing k with
  | nil => rfl
  | cons r rs ih =>
    have h : fresL (r :: rs) R H k = fres1 r R H (fun v => fresL rs R H (fun vs => k (v :: vs))) := rfl
    have h2 : resL (r :: rs) R H = (match resV r R H with
      | some v => (match resL rs R H with
        | some vs => some (v :: vs)
        | none => none)
      | none => none) := rfl
    rw [h, h2, fres1_eq]
    cases resV r R H with
    | none => rfl
    | some v =>
      simp only [bindO_some, ih]
      cases resL rs R H <;> rfl
noncomputable def fone (vs : List AV) (k : AV → Om) : Om := List.rec (motive := fun _ => (AV → Om) → Om) (fun k => k (.tuple [])) (fun v t _ k => List.rec (motive := fun _ => AV → (AV → Om) → Om) (fun v k => k v) (fun u t _ v k => k (.tuple (v :: u :: t))) t v k) vs k
theorem fone_eq (vs : List AV) (k : AV → Om) : fone vs k = k (oneOr vs) := by
  cases vs with
  | nil => rfl
  | cons v t => cases t <;> rfl

/-! ### calls -/
def toRun (r : FRun) : Run := fun inr c s => r inr c s.R s.H s.nx s.ds (fun e R H nx ds => some (e, ⟨R, H, nx, ds⟩))
noncomputable def fsumm (c : ACode) : Option AV := ACode.rec (motive := fun _ => Option AV) none (fun _ _ => none) (fun _ _ => none) (fun _ _ _ _ => none) (fun _ _ _ _ _ => none) (fun _ _ _ => none) (fun _ _ => none) (fun _ _ _ _ _ _ => none) (fun _ => none) (fun _ _ _ _ => none) (fun _ => none) (fun _ => none) none (fun v => some v) c
noncomputable def fend (e : AExit) (k : Om) : Om := AExit.rec (motive := fun _ => Om → Om) (fun k => k) (fun _ k => none) (fun _ k => none) (fun k => k) e k
theorem fend_eq (e : AExit) (k : Om) : fend e k = if isEnd e then k else none := by cases e <;> rfl
noncomputable def fshut (ds : List K) (H : T AObj) (k : T AObj → Om) : Om := List.rec (motive := fun _ => T AObj → (T AObj → Om) → Om) (fun H k => k H) (fun d ds _ H k => bindO (shut (d :: ds) H) k) ds H k
theorem fshut_eq (ds : List K) (H : T AObj) (k : T AObj → Om) : fshut ds H k = bindO (shut ds H) k := by cases ds <;> rfl
noncomputable def fback (res : List ARes) (k : KC) (e : AExit) (R : T AV) (H : T AObj) (nx : K) (ds : List K) : Om := fend e (fshut ds H (fun H => fresL res R H (fun vs => fone vs (fun v => k v H nx))))
noncomputable def callB (body : ACode) (res : List ARes) (args : List Opd) : ClX := Option.rec (motive := fun _ => ClX)
    (.mk (fun run _ R H nx k => apA (argC args .z) R .leaf (fun R => run false body R H nx [] (fback res k))))
    (fun v => List.rec (motive := fun _ => ClX) (.mk (fun _ _ _ H nx k => k v H nx)) (fun _ _ _ => .mk (fun _ _ _ _ _ _ => none)) args) (fsumm body)
def SpecR (r : FRun) (s : Run) : Prop := ∀ inr c R H nx ds k, r inr c R H nx ds k = bindO (s inr c ⟨R, H, nx, ds⟩) (fun p => k p.1 p.2.R p.2.H p.2.nx p.2.ds)
theorem SpecR.toRun {r : FRun} {s : Run} (h : SpecR r s) : toRun r = s := by
  funext inr c st
  unfold Ab.toRun
  rw [h]
  cases s inr c ⟨st.R, st.H, st.nx, st.ds⟩ with
  | none => rfl
  | some p => rfl
theorem mapL_nil {α β : Type} (f : α → β) : mapL f [] = [] := rfl
theorem mapL_cons {α β : Type} (f : α → β) (x : α) (l : List α) : mapL f (x :: l) = f x :: mapL f l := rfl
theorem callB_eq {r : FRun} {s : Run} (h : SpecR r s) (body : ACode) (res : List ARes) (args : List Opd) (base : K) (R : T AV) (H : T AObj) (nx : K) (k : KC) :
    apX (callB body res args) r base R H nx k = bindO (callF s ⟨body, res⟩ (mapL (ev R) args) H nx) (fun p => k p.1 p.2.1 p.2.2) := by
  have gen : apA (argC args .z) R .leaf (fun R => r false body R H nx [] (fback res k)) = bindO (match s false body ⟨initR (mapL (ev R) args), H, nx, []⟩ with
  | some (e, s) => if isEnd e then (match shut s.ds s.H with
    | some H => (match resL res s.R H with
      | some vs => some (oneOr vs, H, s.nx)
      | none => none)
    | none => none) else none
  | none => none) (fun p => k p.1 p.2.1 p.2.2) := by
    rw [argC_eq, h]
    cases s false body ⟨initR (mapL (ev R) args), H, nx, []⟩ with
    | none => rfl
    | some p =>
      obtain ⟨e, st⟩ := p
      simp only [bindO_some, fback, fend_eq, fshut_eq, fresL_eq, fone_eq]
      cases isEnd e with
      | false => rfl
      | true =>
        simp only [if_true]
        cases shut st.ds st.H with
        | none => rfl
        | some H' =>
          simp only [bindO_some]
          cases resL res st.R H' <;> rfl
  unfold callF
  cases body with
  | summ v =>
    cases args with
    | nil => rfl
    | cons x l => rfl
  | _ => exact gen
noncomputable def callC (fn : AFunc) (args : List Opd) : ClX := AFunc.rec (motive := fun _ => List Opd → ClX) (fun body res args => callB body res args) fn args
theorem callC_eq {r : FRun} {s : Run} (h : SpecR r s) (fn : AFunc) (args : List Opd) (base : K) (R : T AV) (H : T AObj) (nx : K) (k : KC) : apX (callC fn args) r base R H nx k = bindO (callF s fn (mapL (ev R) args) H nx) (fun p => k p.1 p.2.1 p.2.2) := callB_eq h fn.body fn.res args base R H nx k
noncomputable def x_call (P : T AFunc) (f : K) (args : List Opd) : ClX := Option.rec (motive := fun _ => ClX) (.mk (fun _ _ _ _ _ _ => none)) (fun fn => callC fn args) (P.get f)
noncomputable def x_calld (P : T AFunc) (x : Opd) (args : List Opd) : ClX := .mk (fun run base R H nx k => bindO (callV P (toRun run) (ev R x) (mapL (ev R) args) H nx (K.ofNat 8)) (fun p => wh p.1 (fun v => k v p.2.1 p.2.2)))

/-! ### a step -/
noncomputable def opC (op : AOp) : T AFunc → ClX := AOp.rec (motive := fun _ => T AFunc → ClX) (fun a _ => x_mv a) (fun a b c _ => x_pick a b c) (fun a _ => x_nilchk a) (fun a b _ => x_alloc a b) (fun a b c _ => x_box a b c) (fun a b _ => x_build a b) (fun a b c _ => x_vlit a b c) (fun a b c d _ => x_hlit a b c d) (fun a b c _ => x_load a b c) (fun a b c _ => x_store a b c) (fun a b _ => x_fieldAddr a b)
  (fun a b c d _ => x_field a b c d) (fun a b c _ => x_indexAddr a b c) (fun a b c d _ => slow (.indexAddrArr a b c d)) (fun a b c d e _ => x_indexArr a b c d e) (fun a b _ => x_indexStr a b) (fun a b c d e _ => x_slc a b c d e) (fun a b c _ => x_slcStr a b c) (fun a b c d _ => x_bin a b c d) (fun a b _ => x_un a b)
  (fun a b _ => x_conv a b) (fun a _ => slow (.convStr a)) (fun a b _ => x_extract a b) (fun a b c _ => slow (.mkfunc a b c)) (fun a _ => slow (.mkmap a)) (fun a b c d e f _ => slow (.mkslice a b c d e f)) (fun a b c d e _ => x_lookup a b c d e) (fun a b c d _ => x_mapput a b c d) (fun a b _ => slow (.mkiface a b))
  (fun a b _ => slow (.range a b)) (fun a _ => slow (.next a)) (fun a _ => slow (.entry a)) (fun a b _ => x_len a b) (fun a b _ => slow (.max a b)) (fun a b _ => slow (.min a b)) (fun a _ => slow (.real a)) (fun a _ => slow (.imag a)) (fun a _ => slow (.f64bits a)) (fun a b c d e _ => x_append a b c d e) (fun a b P => x_call P a b) (fun a b P => x_calld P a b) op

/- what a step's operation hands back, as the abstract run has it -/
noncomputable def opS (P : T AFunc) (run : Run) (base : K) (op : AOp) (R : T AV) (H : T AObj) (nx : K) : Option (AV × T AObj × K) :=
  match op with
  | .call f args => match P.get f with
    | some fn => callF run fn (mapL (ev R) args) H nx
    | none => none
  | .calld x args => callV P run (ev R x) (mapL (ev R) args) H nx (K.ofNat 8)
  | op => match aexec base op R H with
    | some (v, H) => some (v, H, nx)
    | none => none
theorem stepS_eq (P : T AFunc) (run : Run) (base : K) (st : AStep) (s : St) : stepS P run base st s = if wantedA st.guard s.R then (match opS P run base st.op s.R s.H s.nx with
    | some (v, H, nx) => some ⟨putR st.dst v s.R, H, nx, s.ds⟩
    | none => none) else some { s with R := putR st.dst undef s.R } := by
  obtain ⟨dst, op, guard⟩ := st
  unfold stepS opS
  cases hw : wantedA guard s.R with
  | false => rfl
  | true =>
    simp only [if_true]
    cases op with
    | call f args =>
      simp only
      cases P.get f with
      | none => rfl
      | some fn => rfl
    | calld x args => rfl
    | _ =>
      simp only
      generalize aexec base _ s.R s.H = o
      cases o <;> rfl

theorem of_xok {op : AOp} {x : ClX} (hx : XOk op x) (h1 : ∀ f a, op ≠ .call f a) (h2 : ∀ y a, op ≠ .calld y a) {r : FRun} {s : Run} (P : T AFunc) (base : K) (R : T AV) (H : T AObj) (nx : K) (k : KC) : apX x r base R H nx k = bindO (opS P s base op R H nx) (fun p => k p.1 p.2.1 p.2.2) := by
  rw [hx]
  unfold opS
  split
  · exact absurd rfl (h1 _ _)
  · exact absurd rfl (h2 _ _)
  · cases aexec base op R H with
    | none => rfl
    | some p => rfl
theorem opC_eq {r : FRun} {s : Run} (h : SpecR r s) (P : T AFunc) (base : K) (op : AOp) (R : T AV) (H : T AObj) (nx : K) (k : KC) : apX (opC op P) r base R H nx k = bindO (opS P s base op R H nx) (fun p => k p.1 p.2.1 p.2.2) := by
  have g : ∀ {op : AOp} {x : ClX} (_ : XOk op x) (_ : ∀ f a, op ≠ .call f a) (_ : ∀ y a, op ≠ .calld y a), apX x r base R H nx k = bindO (opS P s base op R H nx) (fun p => k p.1 p.2.1 p.2.2) := fun hx h1 h2 => of_xok hx h1 h2 P base R H nx k
  cases op with
  | call f args =>
    show apX (x_call P f args) r base R H nx k = _
    unfold x_call opS
    simp only
    cases P.get f with
    | none => rfl
    | some fn => exact callC_eq h fn args base R H nx k
  | calld x args =>
    show bindO (callV P (toRun r) (ev R x) (mapL (ev R) args) H nx (K.ofNat 8)) (fun p => wh p.1 (fun v => k v p.2.1 p.2.2)) = _
    unfold opS
    simp only [h.toRun, wh_eq]
  | mv x => exact g (x_mv_ok x) (fun _ _ h => by cases h) (fun _ _ h => by cases h)
  | pick c a b => exact g (x_pick_ok c a b) (fun _ _ h => by cases h) (fun _ _ h => by cases h)
  | nilchk x => exact g (x_nilchk_ok x) (fun _ _ h => by cases h) (fun _ _ h => by cases h)
  | alloc j z => exact g (x_alloc_ok j z) (fun _ _ h => by cases h) (fun _ _ h => by cases h)
  | box j n x => exact g (x_box_ok j n x) (fun _ _ h => by cases h) (fun _ _ h => by cases h)
  | build z p => exact g (x_build_ok z p) (fun _ _ h => by cases h) (fun _ _ h => by cases h)
  | vlit n z p => exact g (x_vlit_ok n z p) (fun _ _ h => by cases h) (fun _ _ h => by cases h)
  | hlit j n z p => exact g (x_hlit_ok j n z p) (fun _ _ h => by cases h) (fun _ _ h => by cases h)
  | load a n x => exact g (x_load_ok a n x) (fun _ _ h => by cases h) (fun _ _ h => by cases h)
  | store n a v => exact g (x_store_ok n a v) (fun _ _ h => by cases h) (fun _ _ h => by cases h)
  | fieldAddr o x => exact g (x_fieldAddr_ok o x) (fun _ _ h => by cases h) (fun _ _ h => by cases h)
  | field a n o x => exact g (x_field_ok a n o x) (fun _ _ h => by cases h) (fun _ _ h => by cases h)
  | indexAddr s x i => exact g (x_indexAddr_ok s x i) (fun _ _ h => by cases h) (fun _ _ h => by cases h)
  | indexArr n a s x i => exact g (x_indexArr_ok n a s x i) (fun _ _ h => by cases h) (fun _ _ h => by cases h)
  | indexStr x i => exact g (x_indexStr_ok x i) (fun _ _ h => by cases h) (fun _ _ h => by cases h)
  | slc a x l m n => exact g (x_slc_ok a x l m n) (fun _ _ h => by cases h) (fun _ _ h => by cases h)
  | slcStr x l m => exact g (x_slcStr_ok x l m) (fun _ _ h => by cases h) (fun _ _ h => by cases h)
  | bin o e x y => exact g (x_bin_ok o e x y) (fun _ _ h => by cases h) (fun _ _ h => by cases h)
  | un o x => exact g (x_un_ok o x) (fun _ _ h => by cases h) (fun _ _ h => by cases h)
  | conv q x => exact g (x_conv_ok q x) (fun _ _ h => by cases h) (fun _ _ h => by cases h)
  | extract x i => exact g (x_extract_ok x i) (fun _ _ h => by cases h) (fun _ _ h => by cases h)
  | lookup z o q m y => exact g (x_lookup_ok z o q m y) (fun _ _ h => by cases h) (fun _ _ h => by cases h)
  | mapput q m y z => exact g (x_mapput_ok q m y z) (fun _ _ h => by cases h) (fun _ _ h => by cases h)
  | len q x => exact g (x_len_ok q x) (fun _ _ h => by cases h) (fun _ _ h => by cases h)
  | append j s b x y => exact g (x_append_ok j s b x y) (fun _ _ h => by cases h) (fun _ _ h => by cases h)
  | _ => exact g (slow_ok _) (fun _ _ h => by cases h) (fun _ _ h => by cases h)

abbrev FS := FRun → K → T AV → T AObj → K → List K → KS → Om
inductive ClS where | mk (f : FS)
noncomputable def apS (c : ClS) : FS := ClS.rec (motive := fun _ => FS) (fun f => f) c
/- a step, and what comes behind it -/
noncomputable def stepC (st : AStep) (P : T AFunc) (rest : ClS) : ClS := AStep.rec (motive := fun _ => T AFunc → ClS → ClS) (fun dst op guard P rest => Option.rec (motive := fun _ => ClS)
  (.mk (fun run base R H nx ds k => apX (opC op P) run base R H nx (fun v H nx => apD (dstC dst) v R (fun R => apS rest run base R H nx ds k))))
  (fun g => .mk (fun run base R H nx ds k => fb (wantedA (some g) R) (apX (opC op P) run base R H nx (fun v H nx => apD (dstC dst) v R (fun R => apS rest run base R H nx ds k))) (apD (dstC dst) undef R (fun R => apS rest run base R H nx ds k)))) guard) st P rest
theorem stepC_eq {r : FRun} {s : Run} (h : SpecR r s) (st : AStep) (P : T AFunc) (rest : ClS) (base : K) (R : T AV) (H : T AObj) (nx : K) (ds : List K) (k : KS) : apS (stepC st P rest) r base R H nx ds k = bindO (stepS P s base st ⟨R, H, nx, ds⟩) (fun s => apS rest r base s.R s.H s.nx s.ds k) := by
  obtain ⟨dst, op, guard⟩ := st
  rw [stepS_eq]
  have body : apX (opC op P) r base R H nx (fun v H nx => apD (dstC dst) v R (fun R => apS rest r base R H nx ds k)) = bindO (match opS P s base op R H nx with
    | some (v, H, nx) => some (⟨putR dst v R, H, nx, ds⟩ : St)
    | none => none) (fun s => apS rest r base s.R s.H s.nx s.ds k) := by
    rw [opC_eq h]
    simp only [dstC_eq]
    cases opS P s base op R H nx <;> rfl
  cases guard with
  | none => exact body
  | some g =>
    show fb (wantedA (some g) R) _ _ = _
    rw [fb_eq, body, dstC_eq]
    cases wantedA (some g) R <;> rfl
noncomputable def stepsC (l : List AStep) (P : T AFunc) : ClS := List.rec (motive := fun _ => T AFunc → ClS) (fun _ => .mk (fun _ _ R H nx ds k => k R H nx ds)) (fun st _ ih P => stepC st P (ih P)) l P
theorem stepsC_eq {r : FRun} {s : Run} (h : SpecR r s) (l : List AStep) (P : T AFunc) (base : K) (R : T AV) (H : T AObj) (nx : K) (ds : List K) (k : KS) : apS (stepsC l P) r base R H nx ds k = bindO (stepsS P s base l ⟨R, H, nx, ds⟩) (fun s => k s.R s.H s.nx s.ds) := by
  induction l generalizing R H nx ds with
  | nil => rfl
  | cons st l ih =>
    have h1 : stepsC (st :: l) P = stepC st P (stepsC l P) := rfl
    have h2 : stepsS P s base (st :: l) ⟨R, H, nx, ds⟩ = (match stepS P s base st ⟨R, H, nx, ds⟩ with
      | some s' => stepsS P s base l s'
      | none => none) := rfl
    rw [h1, h2, stepC_eq h]
    cases stepS P s base st ⟨R, H, nx, ds⟩ with
    | none => rfl
    | some s' => exact ih s'.R s'.H s'.nx s'.ds

/-! ### drawn regions -/
noncomputable def DTC (d : DT) : List (Nat × AStep) → T AFunc → ClS :=
  DT.rec (motive := fun _ => List (Nat × AStep) → T AFunc → ClS) (fun _ _ => .mk (fun _ _ R H nx ds k => k R H nx ds))
    (fun i st _ ih L P => stepC st P (ih ((i, st) :: L) P))
    (fun i _ ih L P => Option.rec (motive := fun _ => ClS) (.mk (fun _ _ _ _ _ _ _ => none)) (fun st => .mk (fun run base R H nx ds k => fb (again base st ⟨R, H, nx, ds⟩) (apS (ih L P) run base R H nx ds k) none)) (findS i L))
    (fun x y _ _ L P => .mk (fun run base R H nx ds k => bindO (runDT P (toRun run) base (.par x y) L ⟨R, H, nx, ds⟩) (fun s => k s.R s.H s.nx s.ds))) d
theorem DTC_eq {r : FRun} {s : Run} (h : SpecR r s) (d : DT) (P : T AFunc) (base : K) (L : List (Nat × AStep)) (R : T AV) (H : T AObj) (nx : K) (ds : List K) (k : KS) : apS (DTC d L P) r base R H nx ds k = bindO (runDT P s base d L ⟨R, H, nx, ds⟩) (fun s => k s.R s.H s.nx s.ds) := by
  induction d generalizing L R H nx ds with
  | done => rfl
  | op i st n ih =>
    have h1 : DTC (.op i st n) L P = stepC st P (DTC n ((i, st) :: L) P) := rfl
    have h2 : runDT P s base (.op i st n) L ⟨R, H, nx, ds⟩ = (match stepS P s base st ⟨R, H, nx, ds⟩ with
      | some s' => runDT P s base n ((i, st) :: L) s'
      | none => none) := rfl
    rw [h1, h2, stepC_eq h]
    cases stepS P s base st ⟨R, H, nx, ds⟩ with
    | none => rfl
    | some s' => exact ih _ s'.R s'.H s'.nx s'.ds
  | re i n ih =>
    have h1 : DTC (.re i n) L P = Option.rec (motive := fun _ => ClS) (.mk (fun _ _ _ _ _ _ _ => none)) (fun st => .mk (fun run base R H nx ds k => fb (again base st ⟨R, H, nx, ds⟩) (apS (DTC n L P) run base R H nx ds k) none)) (findS i L) := rfl
    have h2 : runDT P s base (.re i n) L ⟨R, H, nx, ds⟩ = (match findS i L with
      | some st => if again base st ⟨R, H, nx, ds⟩ then runDT P s base n L ⟨R, H, nx, ds⟩ else none
      | none => none) := rfl
    rw [h1, h2]
    cases findS i L with
    | none => rfl
    | some st =>
      show fb _ _ _ = _
      rw [fb_eq]
      simp only
      cases again base st ⟨R, H, nx, ds⟩ with
      | false => rfl
      | true => exact ih L R H nx ds
  | par x y _ _ =>
    show bindO (runDT P (toRun r) base (.par x y) L ⟨R, H, nx, ds⟩) (fun s => k s.R s.H s.nx s.ds) = _
    rw [h.toRun]

/-! ### code -/
abbrev FC := FRun → T AV → T AObj → K → List K → KE → Om
inductive ClC where | mk (f : FC)
noncomputable def apC (c : ClC) : FC := ClC.rec (motive := fun _ => FC) (fun f => f) c
noncomputable def onExit (e : AExit) (n : Om) (x : Nat → Om) (g : Nat → Om) (r : Om) : Om := AExit.rec (motive := fun _ => Om → (Nat → Om) → (Nat → Om) → Om → Om) (fun n _ _ _ => n) (fun i _ x _ _ => x i) (fun l _ _ g _ => g l) (fun _ _ _ r => r) e n x g r
/- what comes next, where nothing was left early; else what comes outside -/
noncomputable def onNorm (e : AExit) (n : Om) (k : KE) (R : T AV) (H : T AObj) (nx : K) (ds : List K) : Om := AExit.rec (motive := fun _ => Om → KE → T AV → T AObj → K → List K → Om) (fun n _ _ _ _ _ => n) (fun i _ k R H nx ds => k (.exit i) R H nx ds) (fun l _ k R H nx ds => k (.goto l) R H nx ds) (fun _ k R H nx ds => k .ret R H nx ds) e n k R H nx ds
noncomputable def codeC (c : ACode) : Bool → T AFunc → ClC := ACode.rec (motive := fun _ => Bool → T AFunc → ClC) (fun _ _ => .mk (fun _ R H nx ds k => k .normal R H nx ds))
  (fun na ops _ P => .mk (fun run R H nx ds k => fadk nx na (fun nx' => apS (stepsC ops P) run nx R H nx' ds (k .normal))))
  (fun na d _ P => .mk (fun run R H nx ds k => fadk nx na (fun nx' => apS (DTC d [] P) run nx R H nx' ds (k .normal))))
  (fun a b _ _ inr _ => .mk (fun run R H nx ds k => run inr a R H nx ds (fun e R H nx ds => onNorm e (run inr b R H nx ds k) k R H nx ds)))
  (fun c x y _ _ inr _ => .mk (fun run R H nx ds k => gev c R (fun v => onIf v (run inr x R H nx ds k) (run inr y R H nx ds k))))
  (fun id x _ inr _ => .mk (fun run R H nx ds k => run inr x R H nx ds (fun e R H nx ds => onExit e (k .normal R H nx ds) (fun j => fb (Nat.beq j id) (k .normal R H nx ds) (k (.exit j) R H nx ds)) (fun l => k (.goto l) R H nx ds) (k .ret R H nx ds))))
  (fun a _ inr _ => .mk (fun run R H nx ds k => run inr a R H nx ds (fun e R H nx ds => onNorm e (run inr (.loop a) R H nx ds k) k R H nx ds)))
  (fun a b c d _ _ inr P => .mk (fun run R H nx ds k => bindO (runF P (toRun run) inr (.rangeFunc a b c d) ⟨R, H, nx, ds⟩) (fun p => k p.1 p.2.R p.2.H p.2.nx p.2.ds)))
  (fun id _ _ => .mk (fun _ R H nx ds k => k (.exit id) R H nx ds))
  (fun x y _ _ inr _ => .mk (fun run R H nx ds k => run inr y R H nx ds (fun e R H nx ds => onExit e (k .normal R H nx ds) (fun j => k (.exit j) R H nx ds) (fun l => Option.rec (motive := fun _ => Om) (k (.goto l) R H nx ds) (fun rest => run inr (.scope x rest) R H nx ds k) (findL x l)) (k .ret R H nx ds))))
  (fun _ _ _ => .mk (fun _ R H nx ds k => k .normal R H nx ds)) (fun l _ _ => .mk (fun _ R H nx ds k => k (.goto l) R H nx ds)) (fun _ _ => .mk (fun _ R H nx ds k => k .ret R H nx ds)) (fun _ _ _ => .mk (fun _ _ _ _ _ _ => none)) c
noncomputable def frun (P : T AFunc) (n : Nat) : FRun := Nat.rec (motive := fun _ => FRun) (fun _ _ _ _ _ _ _ => none) (fun _ ih inr c R H nx ds k => apC (codeC c inr P) ih R H nx ds k) n

theorem codeC_eq {r : FRun} {s : Run} (h : SpecR r s) (c : ACode) (P : T AFunc) (inr : Bool) (R : T AV) (H : T AObj) (nx : K) (ds : List K) (k : KE) : apC (codeC c inr P) r R H nx ds k = bindO (runF P s inr c ⟨R, H, nx, ds⟩) (fun p => k p.1 p.2.R p.2.H p.2.nx p.2.ds) := by
  cases c with
  | skip => rfl
  | label l => rfl
  | exit id => rfl
  | goto l => rfl
  | ret => rfl
  | summ v => rfl
  | rangeFunc f ps as bd =>
    show bindO (runF P (toRun r) inr (.rangeFunc f ps as bd) ⟨R, H, nx, ds⟩) (fun p => k p.1 p.2.R p.2.H p.2.nx p.2.ds) = _
    rw [h.toRun]
  | region na ops =>
    show fadk nx na (fun nx' => apS (stepsC ops P) r nx R H nx' ds (k .normal)) = _
    simp only [fadk_eq, stepsC_eq h, runF]
    cases stepsS P s nx ops ⟨R, H, nx.add na, ds⟩ <;> rfl
  | draw na d =>
    show fadk nx na (fun nx' => apS (DTC d [] P) r nx R H nx' ds (k .normal)) = _
    simp only [fadk_eq, DTC_eq h, runF]
    cases runDT P s nx d [] ⟨R, H, nx.add na, ds⟩ <;> rfl
  | seq a b =>
    show r inr a R H nx ds (fun e R H nx ds => onNorm e (r inr b R H nx ds k) k R H nx ds) = _
    simp only [runF, h inr a]
    cases s inr a ⟨R, H, nx, ds⟩ with
    | none => rfl
    | some p =>
      obtain ⟨e, st⟩ := p
      cases e <;> simp only [bindO_some, onNorm, h inr b]
  | loop a =>
    show r inr a R H nx ds (fun e R H nx ds => onNorm e (r inr (.loop a) R H nx ds k) k R H nx ds) = _
    simp only [runF, h inr a]
    cases s inr a ⟨R, H, nx, ds⟩ with
    | none => rfl
    | some p =>
      obtain ⟨e, st⟩ := p
      cases e <;> simp only [bindO_some, onNorm, h inr (.loop a)]
  | cond c x y =>
    show gev c R (fun v => onIf v (r inr x R H nx ds k) (r inr y R H nx ds k)) = _
    simp only [runF, gev_eq, onIf_eq]
    cases ev R c with
    | bool b => cases b <;> simp only [onBool, h inr]
    | _ => rfl
  | block id x =>
    show r inr x R H nx ds (fun e R H nx ds => onExit e (k .normal R H nx ds) (fun j => fb (Nat.beq j id) (k .normal R H nx ds) (k (.exit j) R H nx ds)) (fun l => k (.goto l) R H nx ds) (k .ret R H nx ds)) = _
    simp only [runF, h inr x]
    cases s inr x ⟨R, H, nx, ds⟩ with
    | none => rfl
    | some p =>
      obtain ⟨e, st⟩ := p
      cases e with
      | exit j => simp only [bindO_some, onExit, fb_eq]; cases Nat.beq j id <;> rfl
      | _ => rfl
  | scope x y =>
    show r inr y R H nx ds (fun e R H nx ds => onExit e (k .normal R H nx ds) (fun j => k (.exit j) R H nx ds) (fun l => Option.rec (motive := fun _ => Om) (k (.goto l) R H nx ds) (fun rest => r inr (.scope x rest) R H nx ds k) (findL x l)) (k .ret R H nx ds)) = _
    simp only [runF, h inr y]
    cases s inr y ⟨R, H, nx, ds⟩ with
    | none => rfl
    | some p =>
      obtain ⟨e, st⟩ := p
      cases e with
      | goto l =>
        simp only [bindO_some, onExit]
        cases findL x l with
        | none => rfl
        | some rest => simp only [h inr]
      | _ => rfl
theorem frun_spec (P : T AFunc) (n : Nat) : SpecR (frun P n) (run P n) := by
  induction n with
  | zero => intro inr c R H nx ds k; rfl
  | succ n ih =>
    intro inr c R H nx ds k
    have h1 : frun P (n + 1) inr c R H nx ds k = apC (codeC c inr P) (frun P n) R H nx ds k := rfl
    have h2 : run P (n + 1) inr c ⟨R, H, nx, ds⟩ = runF P (run P n) inr c ⟨R, H, nx, ds⟩ := rfl
    rw [h1, h2, codeC_eq ih]

/- a closed run that ends in true -/
noncomputable def okTrue (v : AV) : Om := onIf v (some (.normal, ⟨.leaf, .leaf, .z, []⟩)) none
noncomputable def isSomeO (o : Om) : Bool := Option.rec (motive := fun _ => Bool) false (fun _ => true) o
noncomputable def ftrue (P : T AFunc) (n : Nat) (fn : AFunc) (args : List AV) : Bool :=
  isSomeO (apX (callC fn (mapL .c args)) (frun P n) .z .leaf .leaf .z (fun v H nx => okTrue v))
theorem evc (R : T AV) (args : List AV) : mapL (ev R) (mapL .c args) = args := by
  induction args with
  | nil => rfl
  | cons x l ih => rw [mapL_cons, mapL_cons, ih]; rfl
theorem of_ftrue {P : T AFunc} {n : Nat} {fn : AFunc} {args : List AV} (h : ftrue P n fn args = true) : ∃ H nx, callF (run P n) fn args .leaf .z = some (.bool true, H, nx) := by
  unfold ftrue at h
  rw [callC_eq (frun_spec P n), evc] at h
  cases hc : callF (run P n) fn args .leaf .z with
  | none => rw [hc] at h; cases h
  | some p =>
    obtain ⟨v, H, nx⟩ := p
    rw [hc] at h
    simp only [bindO_some] at h
    cases v with
    | bool b => cases b with
      | true => exact ⟨H, nx, rfl⟩
      | false => cases h
    | _ => cases h
end Go.Ab
