/- The faster run: steps, calls, code, made ready once. -/
import Derived.Test.YtdiiepiflmgdeaaGreatH1
set_option linter.unusedVariables false
namespace Go.Ab

/-! ### arguments, results -/
abbrev AF := T AV → T AV → (T AV → Om) → Om
inductive RdyA where | mk (f : AF)
noncomputable def argH (l : List Opd) : K → RdyA := List.rec (motive := fun _ => K → RdyA) (fun _ => .mk (fun _ R0 k => k R0))
  (fun x _ ih q => RdyG.rec (motive := fun _ => RdyA) (fun g => RdyP.rec (motive := fun _ => RdyA) (fun s => RdyA.rec (motive := fun _ => RdyA) (fun rest => .mk (fun R R0 k => g R (fun v => s v R0 (fun R0 => rest R R0 k)))) (ih q.succ)) (setH q)) (opdH x)) l
noncomputable def setL (vs : List AV) : K → T AV → T AV := List.rec (motive := fun _ => K → T AV → T AV) (fun _ R => R) (fun v _ ih k R => ih k.succ (R.set k v)) vs
def AOk (l : List Opd) (q : K) (f : AF) : Prop := ∀ R R0 k, f R R0 k = k (setL (mapL (ev R) l) q R0)
theorem argH_ok (l : List Opd) (q : K) : ∃ f, argH l q = .mk f ∧ AOk l q f := by
  induction l generalizing q with
  | nil => exact ⟨_, rfl, fun _ _ _ => rfl⟩
  | cons x l ih =>
    obtain ⟨g, e1, h1⟩ := opdH_ok x
    obtain ⟨s, e2, h2⟩ := setH_ok q
    obtain ⟨rest, e3, h3⟩ := ih q.succ
    refine ⟨(fun R R0 k => g R (fun v => s v R0 (fun R0 => rest R R0 k))), ?_, fun R R0 k => ?_⟩
    · show RdyG.rec (motive := fun _ => RdyA) (fun g => RdyP.rec (motive := fun _ => RdyA) (fun s => RdyA.rec (motive := fun _ => RdyA) (fun rest => .mk (fun R R0 k => g R (fun v => s v R0 (fun R0 => rest R R0 k)))) (argH l q.succ)) (setH q)) (opdH x) = _
      rw [e1, e2, e3]
    · dsimp only
      rw [h1, h2, h3]
      rfl
abbrev RF := T AV → T AObj → (AV → Om) → Om
inductive RdyR where | mk (f : RF)
noncomputable def fres1 (r : ARes) (R : T AV) (H : T AObj) (k : AV → Om) : Om := ARes.rec (motive := fun _ => T AV → T AObj → (AV → Om) → Om)
  (fun q R H k => apG (getC q) R k)
  (fun q ag n R H k => bindO (resV (.cell q ag n) R H) (fun v => wh v k)) r R H k
theorem fres1_eq (r : ARes) (R : T AV) (H : T AObj) (k : AV → Om) : fres1 r R H k = bindO (resV r R H) k := by
  cases r with
  | tmp q =>
    show apG (getC q) R k = _
    rw [getC_eq]
    simp only [resV]
    cases T.get q R <;> rfl
  | cell q ag n => simp only [fres1, wh_eq]
noncomputable def fresL (rs : List ARes) (R : T AV) (H : T AObj) (k : List AV → Om) : Om :=
  List.rec (motive := fun _ => T AV → T AObj → (List AV → Om) → Om) (fun _ _ k => k []) (fun r _ ih R H k => fres1 r R H (fun v => ih R H (fun vs => k (v :: vs)))) rs R H k
theorem resL_cons (r : ARes) (rs : List ARes) (R : T AV) (H : T AObj) : resL (r :: rs) R H = (match resV r R H with
      | some v => (match resL rs R H with
        | some vs => some (v :: vs)
        | none => none)
      | none => none) := rfl
theorem fresL_eq (rs : List ARes) (R : T AV) (H : T AObj) (k : List AV → Om) : fresL rs R H k = bindO (resL rs R H) k := by
  induction rs generalizing k with
  | nil => rfl
  | cons r rs ih =>
    have h : fresL (r :: rs) R H k = fres1 r R H (fun v => fresL rs R H (fun vs => k (v :: vs))) := rfl
    rw [h, resL_cons, fres1_eq]
    cases resV r R H with
    | none => rfl
    | some v =>
      simp only [bindO_some, ih]
      cases resL rs R H <;> rfl
noncomputable def res1H (r : ARes) : RdyR := ARes.rec (motive := fun _ => RdyR) (fun q => RdyG.rec (motive := fun _ => RdyR) (fun g => .mk (fun R _ k => g R k)) (getH q)) (fun q ag n => .mk (fun R H k => bindO (resV (.cell q ag n) R H) (fun v => wh v k))) r
noncomputable def resH (rs : List ARes) : RdyR := List.rec (motive := fun _ => RdyR) (.mk (fun _ _ k => k (.tuple [])))
  (fun r t _ => List.rec (motive := fun _ => RdyR) (res1H r) (fun u t _ => .mk (fun R H k => fres1 r R H (fun v => fres1 u R H (fun w => fresL t R H (fun l => k (.tuple (v :: w :: l))))))) t) rs
def ROk (rs : List ARes) (f : RF) : Prop := ∀ R H k, f R H k = bindO (resL rs R H) (fun vs => k (oneOr vs))
theorem resH_ok (rs : List ARes) : ∃ f, resH rs = .mk f ∧ ROk rs f := by
  cases rs with
  | nil => exact ⟨_, rfl, fun _ _ _ => rfl⟩
  | cons r t => cases t with
    | nil =>
      show ∃ f, res1H r = .mk f ∧ ROk [r] f
      cases r with
      | tmp q =>
        obtain ⟨g, e, hg⟩ := getH_ok q
        refine ⟨(fun R _ k => g R k), ?_, fun R H k => ?_⟩
        · show RdyG.rec (motive := fun _ => RdyR) (fun g => .mk (fun R _ k => g R k)) (getH q) = _
          rw [e]
        · dsimp only
          rw [hg, resL_cons]
          simp only [resV]
          cases T.get q R <;> rfl
      | cell q ag n =>
        refine ⟨_, rfl, fun R H k => ?_⟩
        rw [resL_cons]
        simp only [wh_eq]
        cases resV (.cell q ag n) R H <;> rfl
    | cons u t =>
      refine ⟨_, rfl, fun R H k => ?_⟩
      rw [resL_cons, resL_cons]
      simp only [fres1_eq, fresL_eq]
      cases resV r R H with
      | none => rfl
      | some v =>
        simp only [bindO_some]
        cases resV u R H with
        | none => rfl
        | some w =>
          simp only [bindO_some]
          cases resL t R H <;> rfl

/-! ### calls -/
def toRun (r : FRun) : Run := fun inr c s => r inr c s.R s.H s.nx s.ds (fun e R H nx ds => some (e, ⟨R, H, nx, ds⟩))
noncomputable def fsumm (c : ACode) : Option AV := ACode.rec (motive := fun _ => Option AV) none (fun _ _ => none) (fun _ _ => none) (fun _ _ _ _ => none) (fun _ _ _ _ _ => none) (fun _ _ _ => none) (fun _ _ => none) (fun _ _ _ _ _ _ => none) (fun _ => none) (fun _ _ _ _ => none) (fun _ => none) (fun _ => none) none (fun v => some v) c
noncomputable def fend (e : AExit) (k : Om) : Om := AExit.rec (motive := fun _ => Om → Om) (fun k => k) (fun _ k => none) (fun _ k => none) (fun k => k) e k
theorem fend_eq (e : AExit) (k : Om) : fend e k = if isEnd e then k else none := by cases e <;> rfl
noncomputable def fshut (ds : List K) (H : T AObj) (k : T AObj → Om) : Om := List.rec (motive := fun _ => T AObj → (T AObj → Om) → Om) (fun H k => k H) (fun d ds _ H k => bindO (shut (d :: ds) H) k) ds H k
theorem fshut_eq (ds : List K) (H : T AObj) (k : T AObj → Om) : fshut ds H k = bindO (shut ds H) k := by cases ds <;> rfl
def SpecR (r : FRun) (s : Run) : Prop := ∀ inr c R H nx ds k, r inr c R H nx ds k = bindO (s inr c ⟨R, H, nx, ds⟩) (fun p => k p.1 p.2.R p.2.H p.2.nx p.2.ds)
theorem SpecR.toRun {r : FRun} {s : Run} (h : SpecR r s) : toRun r = s := by
  funext inr c st
  unfold Ab.toRun
  rw [h]
  cases s inr c ⟨st.R, st.H, st.nx, st.ds⟩ with
  | none => rfl
  | some p => rfl
theorem mapL_nil {α β : Type} (f : α → β) : mapL f [] = [] := rfl
theorem mapL_cons {α β : Type} (f : α → β) (x : α) (l : List α) : mapL f (x :: l) = f x :: mapL f l := rfl
abbrev CF := FRun → T AV → T AObj → K → KC → Om
inductive RdyC where | mk (f : CF)
noncomputable def callB (body : ACode) (res : List ARes) (args : List Opd) : RdyC := Option.rec (motive := fun _ => RdyC)
    (RdyA.rec (motive := fun _ => RdyC) (fun a => RdyR.rec (motive := fun _ => RdyC) (fun g => .mk (fun run R H nx k => a R .leaf (fun R => run false body R H nx [] (fun e R H nx ds => fend e (fshut ds H (fun H => g R H (fun v => k v H nx))))))) (resH res)) (argH args .z))
    (fun v => List.rec (motive := fun _ => RdyC) (.mk (fun _ _ H nx k => k v H nx)) (fun _ _ _ => .mk (fun _ _ _ _ _ => none)) args) (fsumm body)
def COk (fn : AFunc) (args : List Opd) (f : CF) : Prop := ∀ (r : FRun) (s : Run), SpecR r s → ∀ R H nx k, f r R H nx k = bindO (callF s fn (mapL (ev R) args) H nx) (fun p => k p.1 p.2.1 p.2.2)
theorem callB_ok (body : ACode) (res : List ARes) (args : List Opd) : ∃ f, callB body res args = .mk f ∧ COk ⟨body, res⟩ args f := by
  obtain ⟨a, e1, h1⟩ := argH_ok args .z
  obtain ⟨g, e2, h2⟩ := resH_ok res
  have gen : ∀ (r : FRun) (s : Run), SpecR r s → ∀ R H nx (k : KC), a R .leaf (fun R => r false body R H nx [] (fun e R H nx ds => fend e (fshut ds H (fun H => g R H (fun v => k v H nx))))) = bindO (match s false body ⟨initR (mapL (ev R) args), H, nx, []⟩ with
  | some (e, s) => if isEnd e then (match shut s.ds s.H with
    | some H => (match resL res s.R H with
      | some vs => some (oneOr vs, H, s.nx)
      | none => none)
    | none => none) else none
  | none => none) (fun p => k p.1 p.2.1 p.2.2) := by
    intro r s h R H nx k
    have hi : setL (mapL (ev R) args) .z .leaf = initR (mapL (ev R) args) := rfl
    rw [h1, hi, h]
    cases s false body ⟨initR (mapL (ev R) args), H, nx, []⟩ with
    | none => rfl
    | some p =>
      obtain ⟨e, st⟩ := p
      simp only [bindO_some, fend_eq, fshut_eq, h2 st.R]
      cases isEnd e with
      | false => rfl
      | true =>
        simp only [if_true]
        cases shut st.ds st.H with
        | none => rfl
        | some H' =>
          simp only [bindO_some]
          cases resL res st.R H' <;> rfl
  have std : fsumm body = none → ∃ f, callB body res args = .mk f ∧ (∀ (r : FRun) (s : Run), SpecR r s → ∀ R H nx (k : KC), f r R H nx k = bindO (match s false body ⟨initR (mapL (ev R) args), H, nx, []⟩ with
  | some (e, s) => if isEnd e then (match shut s.ds s.H with
    | some H => (match resL res s.R H with
      | some vs => some (oneOr vs, H, s.nx)
      | none => none)
    | none => none) else none
  | none => none) (fun p => k p.1 p.2.1 p.2.2)) := by
    intro hs
    refine ⟨(fun run R H nx k => a R .leaf (fun R => run false body R H nx [] (fun e R H nx ds => fend e (fshut ds H (fun H => g R H (fun v => k v H nx)))))), ?_, fun r s h R H nx k => gen r s h R H nx k⟩
    unfold callB
    rw [hs]
    show RdyA.rec (motive := fun _ => RdyC) (fun a => RdyR.rec (motive := fun _ => RdyC) (fun g => .mk (fun run R H nx k => a R .leaf (fun R => run false body R H nx [] (fun e R H nx ds => fend e (fshut ds H (fun H => g R H (fun v => k v H nx))))))) (resH res)) (argH args .z) = _
    rw [e1, e2]
  cases body with
  | summ v =>
    cases args with
    | nil => exact ⟨_, rfl, fun r s h R H nx k => rfl⟩
    | cons x l => exact ⟨_, rfl, fun r s h R H nx k => rfl⟩
  | _ =>
    obtain ⟨f, e, hf⟩ := std rfl
    exact ⟨f, e, fun r s h R H nx k => hf r s h R H nx k⟩
noncomputable def callH (fn : AFunc) (args : List Opd) : RdyC := AFunc.rec (motive := fun _ => List Opd → RdyC) (fun body res args => callB body res args) fn args
theorem callH_ok (fn : AFunc) (args : List Opd) : ∃ f, callH fn args = .mk f ∧ COk fn args f := callB_ok fn.body fn.res args

/-! ### an operation -/
noncomputable def opH (op : AOp) : RdyX := AOp.rec (motive := fun _ => RdyX) (fun a => x_mv a) (fun a b c => x_pick a b c) (fun a => x_nilchk a) (fun a b => x_alloc a b) (fun a b c => x_box a b c) (fun a b => x_build a b) (fun a b c => x_vlit a b c) (fun a b c d => x_hlit a b c d) (fun a b c => x_load a b c) (fun a b c => x_store a b c) (fun a b => x_fieldAddr a b)
  (fun a b c d => x_field a b c d) (fun a b c => x_indexAddr a b c) (fun a b c d => slow (.indexAddrArr a b c d)) (fun a b c d e => x_indexArr a b c d e) (fun a b => x_indexStr a b) (fun a b c d e => x_slc a b c d e) (fun a b c => x_slcStr a b c) (fun a b c d => x_bin a b c d) (fun a b => x_un a b)
  (fun a b => x_conv a b) (fun a => slow (.convStr a)) (fun a => slow (.bytesStr a)) (slow .bad) (fun a => slow (.mvE a)) (fun a b => x_extract a b) (fun a b c => slow (.mkfunc a b c)) (fun a => slow (.mkmap a)) (fun a b c d e f => slow (.mkslice a b c d e f)) (fun a b c d e => x_lookup a b c d e) (fun a b c d => x_mapput a b c d) (fun a b => slow (.mkiface a b))
  (fun a b => slow (.range a b)) (fun a => slow (.next a)) (fun a => slow (.entry a)) (fun a b => x_len a b) (fun a b => slow (.max a b)) (fun a b => slow (.min a b)) (fun a => slow (.real a)) (fun a => slow (.imag a)) (fun a => slow (.f64bits a)) (fun a b c d e => x_append a b c d e) (fun a b => slow (.call a b)) (fun a b => slow (.calld a b)) op
theorem opH_ok (op : AOp) : XOk op (opH op) := by
  cases op with
  | mv x => exact x_mv_ok x
  | pick c a b => exact x_pick_ok c a b
  | nilchk x => exact x_nilchk_ok x
  | alloc j z => exact x_alloc_ok j z
  | box j n x => exact x_box_ok j n x
  | build z p => exact x_build_ok z p
  | vlit n z p => exact x_vlit_ok n z p
  | hlit j n z p => exact x_hlit_ok j n z p
  | load a n x => exact x_load_ok a n x
  | store n a v => exact x_store_ok n a v
  | fieldAddr o x => exact x_fieldAddr_ok o x
  | field a n o x => exact x_field_ok a n o x
  | indexAddr s x i => exact x_indexAddr_ok s x i
  | indexArr n a s x i => exact x_indexArr_ok n a s x i
  | indexStr x i => exact x_indexStr_ok x i
  | slc a x l m n => exact x_slc_ok a x l m n
  | slcStr x l m => exact x_slcStr_ok x l m
  | bin o e x y => exact x_bin_ok o e x y
  | un o x => exact x_un_ok o x
  | conv q x => exact x_conv_ok q x
  | extract x i => exact x_extract_ok x i
  | lookup z o q m y => exact x_lookup_ok z o q m y
  | mapput q m y z => exact x_mapput_ok q m y z
  | len q x => exact x_len_ok q x
  | append j s b x y => exact x_append_ok j s b x y
  | _ => exact slow_ok _

/- what a step's operation hands back, as the abstract run has it -/
noncomputable def opS (P : T AFunc) (run : Run) (base : K) (op : AOp) (R : T AV) (H : T AObj) (nx : K) : Option (AV × T AObj × K) :=
  match op with
  | .call f args => match P.get f with
    | some fn => callF run fn (mapL (ev R) args) H nx
    | none => none
  | .calld x args => callV P run (ev R x) (mapL (ev R) args) H nx (K.ofNat 8)
  | op => match aexec base op R H with
    | some (v, H) => some (v, H, nx)
    | none => none
theorem stepS_eq (P : T AFunc) (run : Run) (base : K) (st : AStep) (s : St) : stepS P run base st s = if okG st.guard s.R then (if wantedA st.guard s.R then (match opS P run base st.op s.R s.H s.nx with
    | some (v, H, nx) => some ⟨putR st.dst v s.R, H, nx, s.ds⟩
    | none => none) else some { s with R := putR st.dst undef s.R }) else none := by
  obtain ⟨dst, op, guard⟩ := st
  unfold stepS opS
  cases hg : okG guard s.R with
  | false => rfl
  | true =>
  simp only [if_true]
  cases hw : wantedA guard s.R with
  | false => rfl
  | true =>
    simp only [if_true]
    cases op with
    | call f args =>
      simp only
      cases P.get f with
      | none => rfl
      | some fn => rfl
    | calld x args => rfl
    | _ =>
      simp only
      generalize aexec base _ s.R s.H = o
      cases o <;> rfl

/-! ### a step, and what comes behind it -/
structure Env where
  run : FRun
  base : K
  ds : List K
  k : KS
abbrev FS := Env → T AV → T AObj → K → Om
inductive RdyS where | mk (f : FS)
/- a rest on the way -/
def onward (f : FS) : FS := fun E R H nx => f E R H nx
/- an operation's way, by what it is -/
noncomputable def wayX (x : RdyX) (d : PF) (rest : FS) : RdyS := RdyX.rec (motive := fun _ => PF → FS → RdyS)
  (fun f d rest => .mk (fun E R H nx => f R H (fun v => d v R (fun R => onward rest E R H nx))))
  (fun f d rest => .mk (fun E R H nx => Env.rec (motive := fun _ => Env → T AV → T AObj → K → Om) (fun _ base _ _ E R H nx => f base R H (fun v H => d v R (fun R => onward rest E R H nx))) E E R H nx)) x d rest
noncomputable def wayC (c : RdyC) (d : PF) (rest : FS) : RdyS := RdyC.rec (motive := fun _ => PF → FS → RdyS)
  (fun f d rest => .mk (fun E R H nx => Env.rec (motive := fun _ => Env → T AV → T AObj → K → Om) (fun run _ _ _ E R H nx => f run R H nx (fun v H nx => d v R (fun R => onward rest E R H nx))) E E R H nx)) c d rest
noncomputable def callD (P : T AFunc) (x : Opd) (args : List Opd) : RdyC := .mk (fun run R H nx k => bindO (callV P (toRun run) (ev R x) (mapL (ev R) args) H nx (K.ofNat 8)) (fun p => wh p.1 (fun v => k v p.2.1 p.2.2)))
noncomputable def callK (P : T AFunc) (f : K) (args : List Opd) : RdyC := Option.rec (motive := fun _ => RdyC) (.mk (fun _ _ _ _ _ => none)) (fun fn => callH fn args) (P.get f)
noncomputable def isCall (P : T AFunc) (op : AOp) : Option RdyC := AOp.rec (motive := fun _ => T AFunc → Option RdyC) (fun _ _ => none) (fun _ _ _ _ => none) (fun _ _ => none) (fun _ _ _ => none) (fun _ _ _ _ => none) (fun _ _ _ => none) (fun _ _ _ _ => none) (fun _ _ _ _ _ => none) (fun _ _ _ _ => none) (fun _ _ _ _ => none) (fun _ _ _ => none)
  (fun _ _ _ _ _ => none) (fun _ _ _ _ => none) (fun _ _ _ _ _ => none) (fun _ _ _ _ _ _ => none) (fun _ _ _ => none) (fun _ _ _ _ _ _ => none) (fun _ _ _ _ => none) (fun _ _ _ _ _ => none) (fun _ _ _ => none)
  (fun _ _ _ => none) (fun _ _ => none) (fun _ _ => none) (fun _ => none) (fun _ _ => none) (fun _ _ _ => none) (fun _ _ _ _ => none) (fun _ _ => none) (fun _ _ _ _ _ _ _ => none) (fun _ _ _ _ _ _ => none) (fun _ _ _ _ _ => none) (fun _ _ _ => none)
  (fun _ _ _ => none) (fun _ _ => none) (fun _ _ => none) (fun _ _ _ => none) (fun _ _ _ => none) (fun _ _ _ => none) (fun _ _ => none) (fun _ _ => none) (fun _ _ => none) (fun _ _ _ _ _ _ => none) (fun a b P => some (callK P a b)) (fun a b P => some (callD P a b)) op P
noncomputable def wayO (P : T AFunc) (op : AOp) (d : PF) (rest : FS) : RdyS := Option.rec (motive := fun _ => RdyS) (wayX (opH op) d rest) (fun c => wayC c d rest) (isCall P op)

theorem wayX_ok {op : AOp} (h1 : ∀ f a, op ≠ .call f a) (h2 : ∀ y a, op ≠ .calld y a) {d : PF} {dst : Option K} (hd : DOk dst d) (rest : FS) (P : T AFunc) :
    ∃ f, wayX (opH op) d rest = .mk f ∧ ∀ (E : Env) (s : Run), SpecR E.run s → ∀ R H nx, f E R H nx = bindO (opS P s E.base op R H nx) (fun p => rest E (putR dst p.1 R) p.2.1 p.2.2) := by
  have key : ∀ (E : Env) (s : Run) R H nx, bindO (aexec E.base op R H) (fun p => rest E (putR dst p.1 R) p.2 nx) = bindO (opS P s E.base op R H nx) (fun p => rest E (putR dst p.1 R) p.2.1 p.2.2) := by
    intro E s R H nx
    have e : opS P s E.base op R H nx = (match aexec E.base op R H with
      | some (v, H) => some (v, H, nx)
      | none => none) := by
      unfold opS
      split
      · exact absurd rfl (h1 _ _)
      · exact absurd rfl (h2 _ _)
      · rfl
    rw [e]
    cases aexec E.base op R H <;> rfl
  have ok := opH_ok op
  cases hx : opH op with
  | p f =>
    rw [hx] at ok
    refine ⟨_, rfl, fun E s hs R H nx => ?_⟩
    rw [← key]
    have := ok E.base R H (fun v H => rest E (putR dst v R) H nx)
    rw [← this]
    congr 1
    funext v
    exact hd v R _
  | h f =>
    rw [hx] at ok
    refine ⟨_, rfl, fun E s hs R H nx => ?_⟩
    rw [← key]
    have := ok E.base R H (fun v H => rest E (putR dst v R) H nx)
    rw [← this]
    dsimp only
    congr 1
    funext v H'
    exact hd v R _
theorem wayC_ok {c : RdyC} {g : CF} (hc : c = .mk g) {o : Env → Run → T AV → T AObj → K → Option (AV × T AObj × K)} (hf : ∀ E s, SpecR E.run s → ∀ R H nx k, g E.run R H nx k = bindO (o E s R H nx) (fun p => k p.1 p.2.1 p.2.2)) {d : PF} {dst : Option K} (hd : DOk dst d) (rest : FS) :
    ∃ f, wayC c d rest = .mk f ∧ ∀ (E : Env) (s : Run), SpecR E.run s → ∀ R H nx, f E R H nx = bindO (o E s R H nx) (fun p => rest E (putR dst p.1 R) p.2.1 p.2.2) := by
  subst hc
  refine ⟨_, rfl, fun E s hs R H nx => ?_⟩
  show g E.run R H nx (fun v H nx => d v R (fun R => onward rest E R H nx)) = _
  rw [hf E s hs]
  congr 1
  funext p
  exact hd p.1 R _
theorem isCall_none {P : T AFunc} {op : AOp} (h1 : ∀ f a, op ≠ .call f a) (h2 : ∀ y a, op ≠ .calld y a) : isCall P op = none := by
  cases op with
  | call f a => exact absurd rfl (h1 f a)
  | calld y a => exact absurd rfl (h2 y a)
  | _ => rfl
theorem wayO_ok (P : T AFunc) (op : AOp) {d : PF} {dst : Option K} (hd : DOk dst d) (rest : FS) :
    ∃ f, wayO P op d rest = .mk f ∧ ∀ (E : Env) (s : Run), SpecR E.run s → ∀ R H nx, f E R H nx = bindO (opS P s E.base op R H nx) (fun p => rest E (putR dst p.1 R) p.2.1 p.2.2) := by
  by_cases h1 : ∃ f a, op = .call f a
  · obtain ⟨f, args, rfl⟩ := h1
    show ∃ g, wayC (callK P f args) d rest = .mk g ∧ _
    unfold callK
    cases hp : P.get f with
    | none =>
      refine ⟨_, rfl, fun E s hs R H nx => ?_⟩
      unfold opS
      simp only [hp]
      rfl
    | some fn =>
      obtain ⟨g, e, hg⟩ := callH_ok fn args
      obtain ⟨F, e2, h2⟩ := wayC_ok (c := callH fn args) e (o := fun E s R H nx => callF s fn (mapL (ev R) args) H nx) (fun E s hs R H nx k => hg E.run s hs R H nx k) hd rest
      refine ⟨F, e2, fun E s hs R H nx => ?_⟩
      unfold opS
      simp only [hp]
      exact h2 E s hs R H nx
  · by_cases h2 : ∃ y a, op = .calld y a
    · obtain ⟨x, args, rfl⟩ := h2
      exact wayC_ok (c := callD P x args) rfl (o := fun E s R H nx => callV P s (ev R x) (mapL (ev R) args) H nx (K.ofNat 8)) (fun E s hs R H nx k => by simp only [hs.toRun, wh_eq]) hd rest
    · have n1 : ∀ f a, op ≠ .call f a := fun f a h => h1 ⟨f, a, h⟩
      have n2 : ∀ y a, op ≠ .calld y a := fun y a h => h2 ⟨y, a, h⟩
      unfold wayO
      rw [isCall_none n1 n2]
      exact wayX_ok n1 n2 hd rest P

theorem stepS_ds {P : T AFunc} {run : Run} {base : K} {st : AStep} {s s' : St} (h : stepS P run base st s = some s') : s'.ds = s.ds := by
  rw [stepS_eq] at h
  split at h
  · split at h
    · split at h
      · injection h with h; rw [← h]
      · cases h
    · injection h with h; rw [← h]
  · cases h
theorem guard_eq {g : K × Bool} {gg : GF} (hg : GOk g.1 gg) (R : T AV) (x y : Om) : gg R (fun v => onGuard v g.2 x y) = if okG (some g) R then (if wantedA (some g) R then x else y) else none := by
  obtain ⟨k, b⟩ := g
  have e1 : okG (some (k, b)) R = (match T.get k R with
    | some (.tab _ _) => false
    | _ => true) := rfl
  have e2 : wantedA (some (k, b)) R = (match T.get k R with
    | some (.bool c) => (match c with | true => b | false => !b)
    | _ => false) := rfl
  rw [e1, e2, hg]
  simp only
  generalize T.get k R = o
  cases o with
  | none => rfl
  | some v =>
    cases v with
    | bool c => cases c <;> cases b <;> rfl
    | _ => rfl
noncomputable def stepR (st : AStep) (P : T AFunc) (rest : FS) : RdyS := AStep.rec (motive := fun _ => T AFunc → FS → RdyS) (fun dst op guard P rest => RdyP.rec (motive := fun _ => RdyS) (fun d => Option.rec (motive := fun _ => RdyS)
  (wayO P op d rest)
  (fun g => RdyG.rec (motive := fun _ => RdyS) (fun gg => RdyS.rec (motive := fun _ => RdyS) (fun w => .mk (fun E R H nx => gg R (fun v => onGuard v g.2 (w E R H nx) (d undef R (fun R => onward rest E R H nx))))) (wayO P op d rest)) (getH g.1)) guard) (dstH dst)) st P rest
theorem stepR_ok (st : AStep) (P : T AFunc) (rest : FS) : ∃ f, stepR st P rest = .mk f ∧ ∀ (E : Env) (s : Run), SpecR E.run s → ∀ R H nx, f E R H nx = bindO (stepS P s E.base st ⟨R, H, nx, E.ds⟩) (fun s => rest E s.R s.H s.nx) := by
  obtain ⟨dst, op, guard⟩ := st
  obtain ⟨d, e, hd⟩ := dstH_ok dst
  obtain ⟨w, ew, hw⟩ := wayO_ok P op hd rest
  have body : ∀ (E : Env) (s : Run), SpecR E.run s → ∀ R H nx, w E R H nx = bindO (match opS P s E.base op R H nx with
    | some (v, H, nx) => some (⟨putR dst v R, H, nx, E.ds⟩ : St)
    | none => none) (fun s => rest E s.R s.H s.nx) := by
    intro E s hs R H nx
    rw [hw E s hs]
    cases opS P s E.base op R H nx <;> rfl
  have h0 : stepR ⟨dst, op, guard⟩ P rest = RdyP.rec (motive := fun _ => RdyS) (fun d => Option.rec (motive := fun _ => RdyS)
    (wayO P op d rest)
    (fun g => RdyG.rec (motive := fun _ => RdyS) (fun gg => RdyS.rec (motive := fun _ => RdyS) (fun w => .mk (fun E R H nx => gg R (fun v => onGuard v g.2 (w E R H nx) (d undef R (fun R => onward rest E R H nx))))) (wayO P op d rest)) (getH g.1)) guard) (dstH dst) := rfl
  rw [h0, e]
  cases guard with
  | none =>
    refine ⟨w, ew, fun E s hs R H nx => ?_⟩
    rw [stepS_eq]
    exact body E s hs R H nx
  | some g =>
    obtain ⟨gg, eg, hgg⟩ := getH_ok g.1
    show ∃ f, RdyG.rec (motive := fun _ => RdyS) (fun gg => RdyS.rec (motive := fun _ => RdyS) (fun w => .mk (fun E R H nx => gg R (fun v => onGuard v g.2 (w E R H nx) (d undef R (fun R => onward rest E R H nx))))) (wayO P op d rest)) (getH g.1) = .mk f ∧ _
    rw [eg, ew]
    refine ⟨_, rfl, fun E s hs R H nx => ?_⟩
    rw [stepS_eq]
    dsimp only
    rw [guard_eq hgg, body E s hs, hd]
    cases okG (some g) R with
    | false => rfl
    | true =>
      simp only [if_true]
      cases wantedA (some g) R <;> rfl

/- steps: what comes behind is made ready first -/
noncomputable def stepsH (l : List AStep) (P : T AFunc) : RdyS := List.rec (motive := fun _ => T AFunc → RdyS) (fun _ => .mk (fun E R H nx => Env.rec (motive := fun _ => T AV → T AObj → K → Om) (fun _ _ ds k R H nx => k R H nx ds) E R H nx)) (fun st _ ih P => RdyS.rec (motive := fun _ => RdyS) (fun rest => stepR st P rest) (ih P)) l P
theorem stepsH_ok (l : List AStep) (P : T AFunc) : ∃ f, stepsH l P = .mk f ∧ ∀ (E : Env) (s : Run), SpecR E.run s → ∀ R H nx, f E R H nx = bindO (stepsS P s E.base l ⟨R, H, nx, E.ds⟩) (fun s => E.k s.R s.H s.nx s.ds) := by
  induction l with
  | nil => exact ⟨_, rfl, fun E s hs R H nx => rfl⟩
  | cons st l ih =>
    obtain ⟨rest, e, hr⟩ := ih
    obtain ⟨f, e2, hf⟩ := stepR_ok st P rest
    refine ⟨f, ?_, fun E s hs R H nx => ?_⟩
    · show RdyS.rec (motive := fun _ => RdyS) (fun rest => stepR st P rest) (stepsH l P) = _
      rw [e]
      exact e2
    · rw [hf E s hs]
      have h2 : stepsS P s E.base (st :: l) ⟨R, H, nx, E.ds⟩ = (match stepS P s E.base st ⟨R, H, nx, E.ds⟩ with
        | some s' => stepsS P s E.base l s'
        | none => none) := rfl
      rw [h2]
      cases hS : stepS P s E.base st ⟨R, H, nx, E.ds⟩ with
      | none => rfl
      | some s' =>
        have hd : s'.ds = E.ds := stepS_ds hS
        obtain ⟨R', H', nx', ds'⟩ := s'
        simp only at hd
        subst hd
        exact hr E s hs R' H' nx'

/-! ### drawn regions -/
noncomputable def DTH (d : DT) : List (Nat × AStep) → T AFunc → RdyS :=
  DT.rec (motive := fun _ => List (Nat × AStep) → T AFunc → RdyS) (fun _ _ => .mk (fun E R H nx => Env.rec (motive := fun _ => T AV → T AObj → K → Om) (fun _ _ ds k R H nx => k R H nx ds) E R H nx))
    (fun i st _ ih L P => RdyS.rec (motive := fun _ => RdyS) (fun rest => stepR st P rest) (ih ((i, st) :: L) P))
    (fun i _ ih L P => RdyS.rec (motive := fun _ => RdyS) (fun rest => Option.rec (motive := fun _ => RdyS) (.mk (fun _ _ _ _ => none)) (fun st => .mk (fun E R H nx => fb (again E.base st ⟨R, H, nx, E.ds⟩) (rest E R H nx) none)) (findS i L)) (ih L P))
    (fun x y _ _ L P => .mk (fun E R H nx => bindO (runDT P (toRun E.run) E.base (.par x y) L ⟨R, H, nx, E.ds⟩) (fun s => E.k s.R s.H s.nx s.ds))) d
theorem DTH_ok (d : DT) (P : T AFunc) (L : List (Nat × AStep)) : ∃ f, DTH d L P = .mk f ∧ ∀ (E : Env) (s : Run), SpecR E.run s → ∀ R H nx, f E R H nx = bindO (runDT P s E.base d L ⟨R, H, nx, E.ds⟩) (fun s => E.k s.R s.H s.nx s.ds) := by
  induction d generalizing L with
  | done => exact ⟨_, rfl, fun E s hs R H nx => rfl⟩
  | op i st n ih =>
    obtain ⟨rest, e, hr⟩ := ih ((i, st) :: L)
    obtain ⟨f, e2, hf⟩ := stepR_ok st P rest
    refine ⟨f, ?_, fun E s hs R H nx => ?_⟩
    · show RdyS.rec (motive := fun _ => RdyS) (fun rest => stepR st P rest) (DTH n ((i, st) :: L) P) = _
      rw [e]
      exact e2
    · rw [hf E s hs]
      have h2 : runDT P s E.base (.op i st n) L ⟨R, H, nx, E.ds⟩ = (match stepS P s E.base st ⟨R, H, nx, E.ds⟩ with
        | some s' => runDT P s E.base n ((i, st) :: L) s'
        | none => none) := rfl
      rw [h2]
      cases hS : stepS P s E.base st ⟨R, H, nx, E.ds⟩ with
      | none => rfl
      | some s' =>
        have hd : s'.ds = E.ds := stepS_ds hS
        obtain ⟨R', H', nx', ds'⟩ := s'
        simp only at hd
        subst hd
        exact hr E s hs R' H' nx'
  | re i n ih =>
    obtain ⟨rest, e, hr⟩ := ih L
    have h1 : DTH (.re i n) L P = RdyS.rec (motive := fun _ => RdyS) (fun rest => Option.rec (motive := fun _ => RdyS) (.mk (fun _ _ _ _ => none)) (fun st => .mk (fun E R H nx => fb (again E.base st ⟨R, H, nx, E.ds⟩) (rest E R H nx) none)) (findS i L)) (DTH n L P) := rfl
    rw [h1, e]
    have h2 : ∀ s base st0, runDT P s base (.re i n) L st0 = (match findS i L with
      | some st => if again base st st0 then runDT P s base n L st0 else none
      | none => none) := fun _ _ _ => rfl
    cases hf : findS i L with
    | none =>
      refine ⟨_, rfl, fun E s hs R H nx => ?_⟩
      rw [h2, hf]; rfl
    | some st =>
      refine ⟨_, rfl, fun E s hs R H nx => ?_⟩
      rw [h2, hf]
      simp only [fb_eq]
      cases again E.base st ⟨R, H, nx, E.ds⟩ with
      | false => rfl
      | true => exact hr E s hs R H nx
  | par x y _ _ =>
    refine ⟨_, rfl, fun E s hs R H nx => ?_⟩
    rw [hs.toRun]

/-! ### code -/
abbrev FC := FRun → T AV → T AObj → K → List K → KE → Om
inductive ClC where | mk (f : FC)
noncomputable def apC (c : ClC) : FC := ClC.rec (motive := fun _ => FC) (fun f => f) c
noncomputable def onExit (e : AExit) (n : Om) (x : Nat → Om) (g : Nat → Om) (r : Om) : Om := AExit.rec (motive := fun _ => Om → (Nat → Om) → (Nat → Om) → Om → Om) (fun n _ _ _ => n) (fun i _ x _ _ => x i) (fun l _ _ g _ => g l) (fun _ _ _ r => r) e n x g r
/- what comes next, where nothing was left early; else what comes outside -/
noncomputable def onNorm (e : AExit) (n : Om) (k : KE) (R : T AV) (H : T AObj) (nx : K) (ds : List K) : Om := AExit.rec (motive := fun _ => Om → KE → T AV → T AObj → K → List K → Om) (fun n _ _ _ _ _ => n) (fun i _ k R H nx ds => k (.exit i) R H nx ds) (fun l _ k R H nx ds => k (.goto l) R H nx ds) (fun _ k R H nx ds => k .ret R H nx ds) e n k R H nx ds
noncomputable def enterH (na : Nat) (c : RdyS) : ClC := RdyS.rec (motive := fun _ => ClC) (fun f => Nat.rec (motive := fun _ => ClC) (.mk (fun run R H nx ds k => f ⟨run, nx, ds, k .normal⟩ R H nx))
  (fun n _ => .mk (fun run R H nx ds k => fadk nx (Nat.succ n) (fun nx' => f ⟨run, nx, ds, k .normal⟩ R H nx'))) na) c
theorem enterH_eq (na : Nat) {c : RdyS} {f : FS} (hc : c = .mk f) (r : FRun) (R : T AV) (H : T AObj) (nx : K) (ds : List K) (k : KE) : apC (enterH na c) r R H nx ds k = f ⟨r, nx, ds, k .normal⟩ R H (nx.add na) := by
  subst hc
  cases na with
  | zero => rfl
  | succ n =>
    show fadk nx (Nat.succ n) (fun nx' => f ⟨r, nx, ds, k .normal⟩ R H nx') = _
    rw [fadk_eq]
noncomputable def codeH (c : ACode) : Bool → T AFunc → ClC := ACode.rec (motive := fun _ => Bool → T AFunc → ClC) (fun _ _ => .mk (fun _ R H nx ds k => k .normal R H nx ds))
  (fun na ops _ P => enterH na (stepsH ops P))
  (fun na d _ P => enterH na (DTH d [] P))
  (fun a b _ _ inr _ => .mk (fun run R H nx ds k => run inr a R H nx ds (fun e R H nx ds => onNorm e (run inr b R H nx ds k) k R H nx ds)))
  (fun c x y _ _ inr _ => RdyG.rec (motive := fun _ => ClC) (fun g => .mk (fun run R H nx ds k => g R (fun v => onIf v (run inr x R H nx ds k) (run inr y R H nx ds k)))) (opdH c))
  (fun id x _ inr _ => .mk (fun run R H nx ds k => run inr x R H nx ds (fun e R H nx ds => onExit e (k .normal R H nx ds) (fun j => fb (Nat.beq j id) (k .normal R H nx ds) (k (.exit j) R H nx ds)) (fun l => k (.goto l) R H nx ds) (k .ret R H nx ds))))
  (fun a _ inr _ => .mk (fun run R H nx ds k => run inr a R H nx ds (fun e R H nx ds => onNorm e (run inr (.loop a) R H nx ds k) k R H nx ds)))
  (fun a b c d _ _ inr P => .mk (fun run R H nx ds k => bindO (runF P (toRun run) inr (.rangeFunc a b c d) ⟨R, H, nx, ds⟩) (fun p => k p.1 p.2.R p.2.H p.2.nx p.2.ds)))
  (fun id _ _ => .mk (fun _ R H nx ds k => k (.exit id) R H nx ds))
  (fun x y _ _ inr _ => .mk (fun run R H nx ds k => run inr y R H nx ds (fun e R H nx ds => onExit e (k .normal R H nx ds) (fun j => k (.exit j) R H nx ds) (fun l => Option.rec (motive := fun _ => Om) (k (.goto l) R H nx ds) (fun rest => run inr (.scope x rest) R H nx ds k) (findL x l)) (k .ret R H nx ds))))
  (fun _ _ _ => .mk (fun _ R H nx ds k => k .normal R H nx ds)) (fun l _ _ => .mk (fun _ R H nx ds k => k (.goto l) R H nx ds)) (fun _ _ => .mk (fun _ R H nx ds k => k .ret R H nx ds)) (fun _ _ _ => .mk (fun _ _ _ _ _ _ => none)) c
noncomputable def frun (P : T AFunc) (n : Nat) : FRun := Nat.rec (motive := fun _ => FRun) (fun _ _ _ _ _ _ _ => none) (fun _ ih inr c R H nx ds k => apC (codeH c inr P) ih R H nx ds k) n

theorem codeH_eq {r : FRun} {s : Run} (h : SpecR r s) (c : ACode) (P : T AFunc) (inr : Bool) (R : T AV) (H : T AObj) (nx : K) (ds : List K) (k : KE) : apC (codeH c inr P) r R H nx ds k = bindO (runF P s inr c ⟨R, H, nx, ds⟩) (fun p => k p.1 p.2.R p.2.H p.2.nx p.2.ds) := by
  cases c with
  | skip => rfl
  | label l => rfl
  | exit id => rfl
  | goto l => rfl
  | ret => rfl
  | summ v => rfl
  | rangeFunc f ps as bd =>
    show bindO (runF P (toRun r) inr (.rangeFunc f ps as bd) ⟨R, H, nx, ds⟩) (fun p => k p.1 p.2.R p.2.H p.2.nx p.2.ds) = _
    rw [h.toRun]
  | region na ops =>
    obtain ⟨f, e, hf⟩ := stepsH_ok ops P
    show apC (enterH na (stepsH ops P)) r R H nx ds k = _
    rw [enterH_eq na e, hf ⟨r, nx, ds, k .normal⟩ s h]
    simp only [runF]
    cases stepsS P s nx ops ⟨R, H, nx.add na, ds⟩ <;> rfl
  | draw na d =>
    obtain ⟨f, e, hf⟩ := DTH_ok d P []
    show apC (enterH na (DTH d [] P)) r R H nx ds k = _
    rw [enterH_eq na e, hf ⟨r, nx, ds, k .normal⟩ s h]
    simp only [runF]
    cases runDT P s nx d [] ⟨R, H, nx.add na, ds⟩ <;> rfl
  | seq a b =>
    show r inr a R H nx ds (fun e R H nx ds => onNorm e (r inr b R H nx ds k) k R H nx ds) = _
    simp only [runF, h inr a]
    cases s inr a ⟨R, H, nx, ds⟩ with
    | none => rfl
    | some p =>
      obtain ⟨e, st⟩ := p
      cases e <;> simp only [bindO_some, onNorm, h inr b]
  | loop a =>
    show r inr a R H nx ds (fun e R H nx ds => onNorm e (r inr (.loop a) R H nx ds k) k R H nx ds) = _
    simp only [runF, h inr a]
    cases s inr a ⟨R, H, nx, ds⟩ with
    | none => rfl
    | some p =>
      obtain ⟨e, st⟩ := p
      cases e <;> simp only [bindO_some, onNorm, h inr (.loop a)]
  | cond c x y =>
    obtain ⟨g, e, hg⟩ := opdH_ok c
    have h0 : codeH (.cond c x y) inr P = RdyG.rec (motive := fun _ => ClC) (fun g => .mk (fun run R H nx ds k => g R (fun v => onIf v (run inr x R H nx ds k) (run inr y R H nx ds k)))) (opdH c) := rfl
    rw [h0, e]
    show g R (fun v => onIf v (r inr x R H nx ds k) (r inr y R H nx ds k)) = _
    rw [hg]
    simp only [runF, onIf_eq]
    cases ev R c with
    | bool b => cases b <;> simp only [onBool, h inr]
    | _ => rfl
  | block id x =>
    show r inr x R H nx ds (fun e R H nx ds => onExit e (k .normal R H nx ds) (fun j => fb (Nat.beq j id) (k .normal R H nx ds) (k (.exit j) R H nx ds)) (fun l => k (.goto l) R H nx ds) (k .ret R H nx ds)) = _
    simp only [runF, h inr x]
    cases s inr x ⟨R, H, nx, ds⟩ with
    | none => rfl
    | some p =>
      obtain ⟨e, st⟩ := p
      cases e with
      | exit j => simp only [bindO_some, onExit, fb_eq]; cases Nat.beq j id <;> rfl
      | _ => rfl
  | scope x y =>
    show r inr y R H nx ds (fun e R H nx ds => onExit e (k .normal R H nx ds) (fun j => k (.exit j) R H nx ds) (fun l => Option.rec (motive := fun _ => Om) (k (.goto l) R H nx ds) (fun rest => r inr (.scope x rest) R H nx ds k) (findL x l)) (k .ret R H nx ds)) = _
    simp only [runF, h inr y]
    cases s inr y ⟨R, H, nx, ds⟩ with
    | none => rfl
    | some p =>
      obtain ⟨e, st⟩ := p
      cases e with
      | goto l =>
        simp only [bindO_some, onExit]
        cases findL x l with
        | none => rfl
        | some rest => simp only [h inr]
      | _ => rfl
theorem frun_spec (P : T AFunc) (n : Nat) : SpecR (frun P n) (run P n) := by
  induction n with
  | zero => intro inr c R H nx ds k; rfl
  | succ n ih =>
    intro inr c R H nx ds k
    have h1 : frun P (n + 1) inr c R H nx ds k = apC (codeH c inr P) (frun P n) R H nx ds k := rfl
    have h2 : run P (n + 1) inr c ⟨R, H, nx, ds⟩ = runF P (run P n) inr c ⟨R, H, nx, ds⟩ := rfl
    rw [h1, h2, codeH_eq ih]

/- a closed run that ends in true -/
noncomputable def okTrue (v : AV) : Om := onIf v (some (.normal, ⟨.leaf, .leaf, .z, []⟩)) none
noncomputable def isSomeO (o : Om) : Bool := Option.rec (motive := fun _ => Bool) false (fun _ => true) o
noncomputable def apK (c : RdyC) : CF := RdyC.rec (motive := fun _ => CF) (fun f => f) c
noncomputable def ftrue (P : T AFunc) (n : Nat) (fn : AFunc) (args : List AV) : Bool :=
  isSomeO (apK (callH fn (mapL .c args)) (frun P n) .leaf .leaf .z (fun v H nx => okTrue v))
theorem evc (R : T AV) (args : List AV) : mapL (ev R) (mapL .c args) = args := by
  induction args with
  | nil => rfl
  | cons x l ih => rw [mapL_cons, mapL_cons, ih]; rfl
theorem of_ftrue {P : T AFunc} {n : Nat} {fn : AFunc} {args : List AV} (h : ftrue P n fn args = true) : ∃ H nx, callF (run P n) fn args .leaf .z = some (.bool true, H, nx) := by
  unfold ftrue at h
  obtain ⟨f, e, hf⟩ := callH_ok fn (mapL .c args)
  rw [e] at h
  have h' : isSomeO (f (frun P n) .leaf .leaf .z (fun v H nx => okTrue v)) = true := h
  rw [hf _ _ (frun_spec P n), evc] at h'
  cases hc : callF (run P n) fn args .leaf .z with
  | none => rw [hc] at h'; cases h'
  | some p =>
    obtain ⟨v, H, nx⟩ := p
    rw [hc] at h'
    simp only [bindO_some] at h'
    cases v with
    | bool b => cases b with
      | true => exact ⟨H, nx, rfl⟩
      | false => cases h'
    | _ => cases h'
end Go.Ab
