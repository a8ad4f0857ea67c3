/- The faster run: operations. (The text is printed by mkg1.py.) -/
import Derived.Test.YtaeahjgeoieifaaG0
set_option linter.unusedVariables false
namespace Go.Ab

/-! ### operands made ready once -/
noncomputable def opdC (x : Opd) : ClG := Opd.rec (motive := fun _ => ClG) (fun q => getC q) (fun v => .mk (fun _ k => k v)) x
noncomputable def gev (x : Opd) (R : T AV) (k : AV → Om) : Om := apG (opdC x) R k
theorem gev_eq (x : Opd) (R : T AV) (k : AV → Om) : gev x R k = k (ev R x) := by
  cases x with
  | t q => exact getC_eq q R k
  | c v => rfl
inductive ClD where | mk (f : AV → T AV → (T AV → Om) → Om)
noncomputable def apD (c : ClD) : AV → T AV → (T AV → Om) → Om := ClD.rec (motive := fun _ => AV → T AV → (T AV → Om) → Om) (fun f => f) c
noncomputable def dstC (d : Option K) : ClD := Option.rec (motive := fun _ => ClD) (.mk (fun _ R k => k R)) (fun q => .mk (apP (setC q))) d
theorem dstC_eq (d : Option K) (v : AV) (R : T AV) (k : T AV → Om) : apD (dstC d) v R k = k (putR d v R) := by
  cases d with
  | none => rfl
  | some q => exact setC_eq q v R k

abbrev XC := FRun → K → T AV → T AObj → K → KC → Om
inductive ClX where | mk (f : XC)
noncomputable def apX (c : ClX) : XC := ClX.rec (motive := fun _ => XC) (fun f => f) c
def XOk (op : AOp) (x : ClX) : Prop := ∀ run base R H nx k, apX x run base R H nx k = bindO (aexec base op R H) (fun p => k p.1 p.2 nx)
noncomputable def slow (op : AOp) : ClX := .mk (fun _ base R H nx k => bindO (aexec base op R H) (fun p => wh p.1 (fun v => k v p.2 nx)))
theorem slow_ok (op : AOp) : XOk op (slow op) := by
  intro run base R H nx k
  show bindO _ _ = _
  simp only [wh_eq]
theorem bindO_bind {α β : Type} (o : Option α) (g : α → Option β) (k : β → Om) : bindO (o.bind g) k = bindO o (fun x => bindO (g x) k) := by cases o <;> rfl

noncomputable def slowBin (op : BinOp) (e : EqT) (x y : AV) (c : AV → Om) : Om := bindO (binOp op e x y) (fun v => wh v c)
noncomputable def gbinI (v : AV) (op : BinOp) (e : EqT) (q : IntKind) (m : Int) (f : AV → Om) : Om := AV.rec (motive_1 := fun _ => BinOp → EqT → IntKind → Int → (AV → Om) → Om) (motive_2 := fun _ => PUnit)
  (fun k n op _ q m f => fb (fkeq q k) (fint op q m n f) none) (fun k q' r op e q m f => slowBin op e (.int q m) (.res k q' r) f) (fun b op e q m f => slowBin op e (.int q m) (.bool b) f) (fun n c op e q m f => slowBin op e (.int q m) (.str n c) f) (fun k x op e q m f => slowBin op e (.int q m) (.flt k x) f) (fun k x y op e q m f => slowBin op e (.int q m) (.cplx k x y) f) (fun b o op e q m f => slowBin op e (.int q m) (.ptr b o) f) (fun l _ op e q m f => slowBin op e (.int q m) (.vptr l) f) (fun op e q m f => slowBin op e (.int q m) .nilp f) (fun b o n c op e q m f => slowBin op e (.int q m) (.slice b o n c) f) (fun b o n c op e q m f => slowBin op e (.int q m) (.oslice b o n c) f) (fun l n e' _ op e q m f => slowBin op e (.int q m) (.vslice l n e') f) (fun op e q m f => slowBin op e (.int q m) .nils f) (fun b op e q m f => slowBin op e (.int q m) (.map b) f) (fun op e q m f => slowBin op e (.int q m) .nilm f) (fun f' g h _ _ op e q m f => slowBin op e (.int q m) (.func f' g h) f) (fun b op e q m f => slowBin op e (.int q m) (.yield b) f) (fun op e q m f => slowBin op e (.int q m) .nilf f) (fun op e q m f => slowBin op e (.int q m) .nili f) (fun t v _ op e q m f => slowBin op e (.int q m) (.iface t v) f) (fun l _ op e q m f => slowBin op e (.int q m) (.agg l) f) (fun l _ op e q m f => slowBin op e (.int q m) (.tuple l) f) .unit (fun _ _ _ _ => .unit) v op e q m f
noncomputable def gbinS (v : AV) (op : BinOp) (e : EqT) (p : Nat) (m : Nat) (f : AV → Om) : Om := AV.rec (motive_1 := fun _ => BinOp → EqT → Nat → Nat → (AV → Om) → Om) (motive_2 := fun _ => PUnit)
  (fun k n op e p m f => slowBin op e (.str p m) (.int k n) f) (fun k q r op e p m f => slowBin op e (.str p m) (.res k q r) f) (fun b op e p m f => slowBin op e (.str p m) (.bool b) f) (fun n c op _ p m f => fstr op p m n c f) (fun k x op e p m f => slowBin op e (.str p m) (.flt k x) f) (fun k x y op e p m f => slowBin op e (.str p m) (.cplx k x y) f) (fun b o op e p m f => slowBin op e (.str p m) (.ptr b o) f) (fun l _ op e p m f => slowBin op e (.str p m) (.vptr l) f) (fun op e p m f => slowBin op e (.str p m) .nilp f) (fun b o n c op e p m f => slowBin op e (.str p m) (.slice b o n c) f) (fun b o n c op e p m f => slowBin op e (.str p m) (.oslice b o n c) f) (fun l n e' _ op e p m f => slowBin op e (.str p m) (.vslice l n e') f) (fun op e p m f => slowBin op e (.str p m) .nils f) (fun b op e p m f => slowBin op e (.str p m) (.map b) f) (fun op e p m f => slowBin op e (.str p m) .nilm f) (fun f' g h _ _ op e p m f => slowBin op e (.str p m) (.func f' g h) f) (fun b op e p m f => slowBin op e (.str p m) (.yield b) f) (fun op e p m f => slowBin op e (.str p m) .nilf f) (fun op e p m f => slowBin op e (.str p m) .nili f) (fun t v _ op e p m f => slowBin op e (.str p m) (.iface t v) f) (fun l _ op e p m f => slowBin op e (.str p m) (.agg l) f) (fun l _ op e p m f => slowBin op e (.str p m) (.tuple l) f) .unit (fun _ _ _ _ => .unit) v op e p m f
noncomputable def gbin (v : AV) (op : BinOp) (w : EqT) (y : AV) (g : AV → Om) : Om := AV.rec (motive_1 := fun _ => BinOp → EqT → AV → (AV → Om) → Om) (motive_2 := fun _ => PUnit)
  (fun k n op w y g => gbinI y op w k n g) (fun k q r op w y g => slowBin op w (.res k q r) y g) (fun b op w y g => slowBin op w (.bool b) y g) (fun n c op w y g => gbinS y op w n c g) (fun k x op w y g => slowBin op w (.flt k x) y g) (fun k x y' op w y g => slowBin op w (.cplx k x y') y g) (fun b o op w y g => slowBin op w (.ptr b o) y g) (fun l _ op w y g => slowBin op w (.vptr l) y g) (fun op w y g => slowBin op w .nilp y g) (fun b o n c op w y g => slowBin op w (.slice b o n c) y g) (fun b o n c op w y g => slowBin op w (.oslice b o n c) y g) (fun l n e _ op w y g => slowBin op w (.vslice l n e) y g) (fun op w y g => slowBin op w .nils y g) (fun b op w y g => slowBin op w (.map b) y g) (fun op w y g => slowBin op w .nilm y g) (fun f g' h _ _ op w y g => slowBin op w (.func f g' h) y g) (fun b op w y g => slowBin op w (.yield b) y g) (fun op w y g => slowBin op w .nilf y g) (fun op w y g => slowBin op w .nili y g) (fun t v _ op w y g => slowBin op w (.iface t v) y g) (fun l _ op w y g => slowBin op w (.agg l) y g) (fun l _ op w y g => slowBin op w (.tuple l) y g) .unit (fun _ _ _ _ => .unit) v op w y g
theorem slowBin_eq (op : BinOp) (e : EqT) (x y : AV) (c : AV → Om) : slowBin op e x y c = bindO (binOp op e x y) c := by unfold slowBin; simp only [wh_eq]
theorem gbin_eq (x : AV) (op : BinOp) (e : EqT) (y : AV) (c : AV → Om) : gbin x op e y c = bindO (binOp op e x y) c := by
  cases x with
  | int k a =>
    show gbinI y op e k a c = _
    cases y with
    | int l b =>
      simp only [gbinI, fkeq_eq, fb_eq]
      cases h : keq k l with
      | true => exact fint_eq op e k l a b c h
      | false => simp [binOp, h]
    | _ => exact slowBin_eq _ _ _ _ _
  | str n a =>
    show gbinS y op e n a c = _
    cases y with
    | str m b => exact fstr_eq op e n a m b c
    | _ => exact slowBin_eq _ _ _ _ _
  | _ => exact slowBin_eq _ _ _ _ _

noncomputable def x_mv (x : Opd) : ClX := .mk (fun _ _ R H nx k => gev x R (fun v => k v H nx))
theorem x_mv_ok (x : Opd) : XOk (.mv x) (x_mv x) := by
  intro run base R H nx k
  show gev _ _ _ = _
  simp only [gev_eq, aexec, bindO_some]
noncomputable def x_pick (c a b : Opd) : ClX := .mk (fun _ _ R H nx k => gev c R (fun v => onIf v (gev a R (fun v => k v H nx)) (gev b R (fun v => k v H nx))))
theorem x_pick_ok (c a b : Opd) : XOk (.pick c a b) (x_pick c a b) := by
  intro run base R H nx k
  show gev _ _ _ = _
  simp only [gev_eq, aexec, onIf_eq]
  cases ev R c with
  | bool t => cases t <;> rfl
  | _ => rfl
noncomputable def x_nilchk (x : Opd) : ClX := .mk (fun run base R H nx k => gev x R (fun v => onPtrs v (fun v => k v H nx) (apX (slow (.nilchk x)) run base R H nx k)))
theorem x_nilchk_ok (x : Opd) : XOk (.nilchk x) (x_nilchk x) := by
  intro run base R H nx k
  show gev _ _ _ = _
  rw [gev_eq]
  cases h : ev R x with
  | ptr b o => simp only [onPtrs, aexec, h, bindO_some]
  | vptr l => simp only [onPtrs, aexec, h, bindO_some]
  | _ => exact slow_ok _ run base R H nx k
noncomputable def x_un (op : UnOp) (x : Opd) : ClX := UnOp.rec (motive := fun _ => Opd → ClX) (fun x => slow (.un .neg x)) (fun x => slow (.un .xor x))
  (fun x => .mk (fun _ _ R H nx k => gev x R (fun v => onBool v (fun b => fNB b (fun v => k v H nx))))) (fun x => slow (.un .plus x)) op x
theorem x_un_ok (op : UnOp) (x : Opd) : XOk (.un op x) (x_un op x) := by
  cases op with
  | not =>
    intro run base R H nx k
    show gev _ _ _ = _
    simp only [gev_eq, aexec]
    cases h : ev R x <;> simp only [onBool, unOp, bindO_none, fNB_eq, bindO_some]
  | neg => exact slow_ok _
  | xor => exact slow_ok _
  | plus => exact slow_ok _

/-! ### loads, stores -/
noncomputable def x_load1 (x : Opd) : ClX := .mk (fun _ _ R H nx k => gev x R (fun v => onPtr v (fun b o => onCells H b (fun l => fnth l o (fun v => k v H nx))) (fun l => fnth l 0 (fun v => k v H nx))))
noncomputable def x_loadS (n : Nat) (x : Opd) : ClX := Bool.rec (motive := fun _ => ClX) (slow (.load false n x)) (x_load1 x) (Nat.beq n 1)
noncomputable def x_loadA (n : Nat) (x : Opd) : ClX := .mk (fun _ _ R H nx k => gev x R (fun v => onPtr v
  (fun b o => onCells H b (fun l => ftake n o l (fun cs => k (.agg cs) H nx)))
  (fun l => ftakeN n l (fun cs => k (.agg cs) H nx))))
noncomputable def x_load (ag : Bool) (n : Nat) (x : Opd) : ClX := Bool.rec (motive := fun _ => Nat → Opd → ClX) x_loadS x_loadA ag n x
theorem take1 (l : List AV) (o : Nat) (k : AV → Om) : bindO (takeN 1 (dropN o l)) (fun cs => bindO (mkv false cs) k) = bindO (nth l o) k := by
  rw [takeN_eq, dropN_eq, nth_eq]
  by_cases h : o < l.length
  · rw [if_pos (by simp; omega), List.getElem?_eq_getElem h]
    have : List.take 1 (List.drop o l) = [l[o]] := by
      rw [List.drop_eq_getElem_cons h]; rfl
    rw [this]
    rfl
  · rw [if_neg (by simp; omega), List.getElem?_eq_none (by omega)]
    rfl
theorem loadA (H : T AObj) (b : K) (o n : Nat) (ag : Bool) (k : AV → Om) : (match T.get b H with
    | some (.cells l) => bindO (takeN n (dropN o l)) (fun cs => bindO (mkv ag cs) k)
    | _ => none) = bindO (match readH H b o n with
      | some cs => match mkv ag cs with
        | some v => some (v, H)
        | none => none
      | none => none) (fun p => k p.1) := by
  unfold readH
  cases T.get b H with
  | none => rfl
  | some ob => cases ob with
    | cells l =>
      simp only
      cases takeN n (dropN o l) with
      | none => rfl
      | some cs => simp only [bindO_some]; cases mkv ag cs <;> rfl
    | _ => rfl
theorem loadB (l : List AV) (n : Nat) (ag : Bool) (H : T AObj) (k : AV → Om) : bindO (takeN n l) (fun cs => bindO (mkv ag cs) k) = bindO (match takeN n l with
      | some cs => match mkv ag cs with
        | some v => some (v, H)
        | none => none
      | none => none) (fun p => k p.1) := by
  cases takeN n l with
  | none => rfl
  | some cs => simp only [bindO_some]; cases mkv ag cs <;> rfl
theorem bindO_fst {α : Type} (o : Option (α × T AObj)) (H : T AObj) (nx : K) (k : α → T AObj → K → Om) (h : ∀ p, o = some p → p.2 = H) : bindO o (fun p => k p.1 H nx) = bindO o (fun p => k p.1 p.2 nx) := by
  cases o with
  | none => rfl
  | some p => simp only [bindO_some]; rw [h p rfl]
/- a load, as its two alternatives -/
theorem load_alt (ag : Bool) (n : Nat) (x : Opd) (base : K) (R : T AV) (H : T AObj) (nx : K) (k : KC) : bindO (aexec base (.load ag n x) R H) (fun p => k p.1 p.2 nx) = onPtr (ev R x) (fun b o => match T.get b H with
    | some (.cells l) => bindO (takeN n (dropN o l)) (fun cs => bindO (mkv ag cs) (fun v => k v H nx))
    | _ => none) (fun l => bindO (takeN n l) (fun cs => bindO (mkv ag cs) (fun v => k v H nx))) := by
  simp only [aexec]
  cases ev R x with
  | ptr b o =>
    simp only [onPtr]
    rw [loadA H b o n ag (fun v => k v H nx)]
    symm
    apply bindO_fst
    intro p hp
    split at hp
    · split at hp
      · injection hp with hp; rw [← hp]
      · cases hp
    · cases hp
  | vptr l =>
    simp only [onPtr]
    rw [loadB l n ag H (fun v => k v H nx)]
    symm
    apply bindO_fst
    intro p hp
    split at hp
    · split at hp
      · injection hp with hp; rw [← hp]
      · cases hp
    · cases hp
  | _ => rfl
theorem x_load_ok (ag : Bool) (n : Nat) (x : Opd) : XOk (.load ag n x) (x_load ag n x) := by
  cases ag with
  | false =>
    show XOk _ (x_loadS n x)
    unfold x_loadS
    cases hn : Nat.beq n 1 with
    | false => exact slow_ok _
    | true =>
      have : n = 1 := Nat.eq_of_beq_eq_true hn
      subst this
      intro run base R H nx k
      rw [load_alt]
      show gev _ _ _ = _
      rw [gev_eq]
      congr 1
      · funext b o
        rw [onCells_eq]
        cases T.get b H with
        | none => rfl
        | some ob => cases ob with
          | cells l => simp only [fnth_eq]; exact (take1 l o _).symm
          | _ => rfl
      · funext l
        simp only [fnth_eq]
        exact (take1 l 0 _).symm
  | true =>
    intro run base R H nx k
    rw [load_alt]
    show gev _ _ _ = _
    rw [gev_eq]
    congr 1
    · funext b o
      rw [onCells_eq]
      cases T.get b H with
      | none => rfl
      | some ob => cases ob with
        | cells l => simp only [ftake_eq]; rfl
        | _ => rfl
    · funext l
      simp only [ftakeN_eq]
      rfl

noncomputable def x_store (n : Nat) (a v : Opd) : ClX := .mk (fun run base R H nx k => gev a R (fun p => onPtr p (fun b o => gev v R (fun u => onCellsOf u (fun _ => apX (slow (.store n a v)) run base R H nx k)
  (fun u => fb (Nat.beq 1 n) (fscal u (onCells H b (fun l => fset1 o u l (fun l => hset b (.cells l) H (fun H => k undef H nx)))) none) none))) (fun _ => none)))
theorem x_store_ok (n : Nat) (a v : Opd) : XOk (.store n a v) (x_store n a v) := by
  intro run base R H nx k
  show gev _ _ _ = _
  rw [gev_eq]
  cases ha : ev R a with
  | ptr b o =>
    have one : ∀ u, cellsOf u = [u] → ev R v = u → fb (Nat.beq 1 n) (fscal u (onCells H b (fun l => fset1 o u l (fun l => hset b (.cells l) H (fun H => k undef H nx)))) none) none = bindO (aexec base (.store n a v) R H) (fun p => k p.1 p.2 nx) := by
      intro u hu hv
      simp only [aexec, ha, hv, hu, fb_eq, fscal_eq, hset_eq]
      have hl : len [u] = 1 := rfl
      rw [hl]
      cases Nat.beq 1 n with
      | false => rfl
      | true =>
        simp only [if_true]
        unfold writeH
        rw [onCells_eq]
        have hs : allL scal [u] = scal u := by
          show Bool.casesOn (motive := fun _ => Bool) (scal u) false true = _
          cases scal u <;> rfl
        rw [hs]
        cases T.get b H with
        | none => cases scal u <;> rfl
        | some ob => cases ob with
          | cells l =>
            simp only
            cases scal u with
            | false => rfl
            | true =>
              simp only [if_true, fset1_eq]
              cases splice o [u] l <;> rfl
          | _ => cases scal u <;> rfl
    show gev _ _ _ = _
    rw [gev_eq]
    cases hv : ev R v with
    | agg l => exact slow_ok _ run base R H nx k
    | _ => exact one _ rfl hv
  | _ => simp only [onPtr, aexec, ha, bindO_none]

noncomputable def x_fieldAddr (off : Nat) (x : Opd) : ClX := .mk (fun _ _ R H nx k => gev x R (fun v => onPtr v (fun b o => fN (Nat.add o off) (fun o => k (.ptr b o) H nx)) (fun l => fdrop off l (fun l => k (.vptr l) H nx))))
theorem x_fieldAddr_ok (off : Nat) (x : Opd) : XOk (.fieldAddr off x) (x_fieldAddr off x) := by
  intro run base R H nx k
  show gev _ _ _ = _
  simp only [gev_eq, aexec, frcN_eq]
  cases ev R x <;> simp only [onPtr, fN_eq, fdrop_eq, bindO_some, bindO_none] <;> rfl

/-! ### new objects -/
noncomputable def fsucc (q : K) (k : K → Om) : Om := K.rec (motive := fun _ => (K → Om) → Om) (fun k => k (.a .z)) (fun q _ k => k (.b q)) (fun q _ k => k (.c q)) (fun q _ k => k (.d q)) (fun q ih k => ih (fun q => k (.a q))) q k
theorem fsucc_eq (q : K) (k : K → Om) : fsucc q k = k q.succ := by
  induction q generalizing k with
  | d q ih =>
    have h : fsucc (.d q) k = fsucc q (fun q => k (.a q)) := rfl
    rw [h, ih]; rfl
  | _ => rfl
noncomputable def fadk (q : K) (n : Nat) (k : K → Om) : Om := Nat.rec (motive := fun _ => K → (K → Om) → Om) (fun q k => k q) (fun _ ih q k => ih q (fun q => fsucc q k)) n q k
theorem fadk_eq (q : K) (n : Nat) (k : K → Om) : fadk q n k = k (q.add n) := by
  induction n generalizing k with
  | zero => rfl
  | succ n ih =>
    have h : fadk q (n + 1) k = fadk q n (fun q => fsucc q k) := rfl
    rw [h, ih, fsucc_eq]; rfl
/- a new object of cells; what comes next has its number -/
noncomputable def fnewO (H : T AObj) (id : K) (o : AObj) (k : T AObj → Om) : Om := hget id H (fun _ => none) (hset id o H k)
theorem fnewO_eq (H : T AObj) (id : K) (o : AObj) (k : T AObj → Om) : fnewO H id o k = bindO (newO H id o) k := by
  unfold fnewO newO
  rw [hget_eq, hset_eq]
  cases T.get id H <;> rfl
noncomputable def x_alloc (j : Nat) (zero : List AV) : ClX := .mk (fun _ base R H nx k => fadk base j (fun id => fnewO H id (.cells zero) (fun H => k (.ptr id 0) H nx)))
theorem x_alloc_ok (j : Nat) (zero : List AV) : XOk (.alloc j zero) (x_alloc j zero) := by
  intro run base R H nx k
  show fadk _ _ _ = _
  simp only [fadk_eq, fnewO_eq, aexec]
  cases newO H (base.add j) (.cells zero) <;> rfl
noncomputable def x_box (j n : Nat) (x : Opd) : ClX := .mk (fun run base R H nx k => gev x R (fun v => onCellsOf v (fun l => fb (Nat.beq (len l) n) (fadk base j (fun id => fnewO H id (.cells l) (fun H => k (.ptr id 0) H nx))) none)
  (fun v => fb (Nat.beq 1 n) (fadk base j (fun id => fnewO H id (.cells [v]) (fun H => k (.ptr id 0) H nx))) none)))
theorem x_box_ok (j n : Nat) (x : Opd) : XOk (.box j n x) (x_box j n x) := by
  intro run base R H nx k
  show gev _ _ _ = _
  rw [gev_eq]
  have one : ∀ v l, cellsOf v = l → ev R x = v → fb (Nat.beq (len l) n) (fadk base j (fun id => fnewO H id (.cells l) (fun H => k (.ptr id 0) H nx))) none = bindO (aexec base (.box j n x) R H) (fun p => k p.1 p.2 nx) := by
    intro v l hv hx
    simp only [aexec, hx, hv, fb_eq, fadk_eq, fnewO_eq]
    cases Nat.beq (len l) n with
    | false => rfl
    | true => simp only [if_true]; cases newO H (base.add j) (.cells l) <;> rfl
  cases hv : ev R x with
  | agg l => exact one _ _ rfl hv
  | _ => exact one _ _ rfl hv

/-! ### places -/
noncomputable def x_indexAddr (sz : Nat) (x i : Opd) : ClX := .mk (fun run base R H nx k => gev x R (fun v => onRow v (fun b o n => gev i R (fun i => fplace n i (fun i => fN (Nat.add o (Nat.mul i sz)) (fun o => k (.ptr b o) H nx)))) (apX (slow (.indexAddr sz x i)) run base R H nx k)))
theorem x_indexAddr_ok (sz : Nat) (x i : Opd) : XOk (.indexAddr sz x i) (x_indexAddr sz x i) := by
  intro run base R H nx k
  show gev _ _ _ = _
  rw [gev_eq]
  cases h : ev R x with
  | slice b o n c =>
    simp only [onRow, gev_eq, aexec, h, fplace_eq, fN_eq, frcN_eq]
    cases place n (ev R i) <;> rfl
  | oslice b o n c =>
    simp only [onRow, gev_eq, aexec, h, fplace_eq, fN_eq, frcN_eq]
    cases place n (ev R i) <;> rfl
  | _ => exact slow_ok _ run base R H nx k
noncomputable def x_bin (op : BinOp) (e : EqT) (x y : Opd) : ClX := .mk (fun _ _ R H nx k => gev x R (fun u => gev y R (fun v => gbin u op e v (fun v => k v H nx))))
theorem x_bin_ok (op : BinOp) (e : EqT) (x y : Opd) : XOk (.bin op e x y) (x_bin op e x y) := by
  intro run base R H nx k
  show gev _ _ _ = _
  simp only [gev_eq, gbin_eq, aexec]
  cases binOp op e (ev R x) (ev R y) <;> rfl
noncomputable def x_len (q : SK) (x : Opd) : ClX := .mk (fun run base R H nx k => gev x R (fun v => onLen v q (fun n => k (.int .i64 (.ofNat n)) H nx) (apX (slow (.len q x)) run base R H nx k)))
theorem x_len_ok (q : SK) (x : Opd) : XOk (.len q x) (x_len q x) := by
  intro run base R H nx k
  show gev _ _ _ = _
  rw [gev_eq]
  cases h : ev R x <;> cases q <;> first
    | exact slow_ok _ run base R H nx k
    | (simp only [aexec, h, lenOp, frcN_eq, bindO_some]; rfl)
noncomputable def x_extract (x : Opd) (i : Nat) : ClX := .mk (fun _ _ R H nx k => gev x R (fun v => onTuple v (fun l => fnth l i (fun v => k v H nx))))
theorem x_extract_ok (x : Opd) (i : Nat) : XOk (.extract x i) (x_extract x i) := by
  intro run base R H nx k
  show gev _ _ _ = _
  simp only [gev_eq, fnth_eq, aexec]
  cases ev R x with
  | tuple l => simp only [onTuple]; cases nth l i <;> rfl
  | _ => rfl

/-! ### compounds -/
noncomputable def ffill (parts : List (Nat × Nat × Opd)) (R : T AV) (cs : List AV) (k : List AV → Om) : Om :=
  List.rec (motive := fun _ => T AV → List AV → (List AV → Om) → Om) (fun _ cs k => k cs)
    (fun p _ ih R cs k => gev p.2.2 R (fun v => onCellsOf v
      (fun l => fb (Nat.beq (len l) p.2.1) (fb (allL scal l) (bindO (splice p.1 l cs) (fun cs => ih R cs k)) none) none)
      (fun v => fb (Nat.beq 1 p.2.1) (fscal v (fset1 p.1 v cs (fun cs => ih R cs k)) none) none))) parts R cs k
theorem ffill_eq (parts : List (Nat × Nat × Opd)) (R : T AV) (cs : List AV) (k : List AV → Om) : ffill parts R cs k = bindO (fillIn R cs parts) k := by
  induction parts generalizing cs k with
  | nil => rfl
  | cons p ps ih =>
    have h1 : ffill (p :: ps) R cs k = gev p.2.2 R (fun v => onCellsOf v
      (fun l => fb (Nat.beq (len l) p.2.1) (fb (allL scal l) (bindO (splice p.1 l cs) (fun cs => ffill ps R cs k)) none) none)
      (fun v => fb (Nat.beq 1 p.2.1) (fscal v (fset1 p.1 v cs (fun cs => ffill ps R cs k)) none) none)) := rfl
    have h2 : fillIn R cs (p :: ps) = if Nat.beq (len (cellsOf (ev R p.2.2))) p.2.1 && allL scal (cellsOf (ev R p.2.2)) then (match splice p.1 (cellsOf (ev R p.2.2)) cs with
        | some cs => fillIn R cs ps
        | none => none) else none := rfl
    rw [h1, h2, gev_eq]
    have all : ∀ l : List AV, fb (Nat.beq (len l) p.2.1) (fb (allL scal l) (bindO (splice p.1 l cs) (fun cs => ffill ps R cs k)) none) none = bindO (if Nat.beq (len l) p.2.1 && allL scal l then (match splice p.1 l cs with
        | some cs => fillIn R cs ps
        | none => none) else none) k := by
      intro l
      simp only [fb_eq]
      cases Nat.beq (len l) p.2.1 with
      | false => rfl
      | true =>
        cases allL scal l with
        | false => rfl
        | true =>
          simp only [if_true, Bool.and_self]
          cases splice p.1 l cs with
          | none => rfl
          | some cs' => exact ih cs' k
    have one : ∀ v : AV, cellsOf v = [v] → fb (Nat.beq 1 p.2.1) (fscal v (fset1 p.1 v cs (fun cs => ffill ps R cs k)) none) none = bindO (if Nat.beq (len (cellsOf v)) p.2.1 && allL scal (cellsOf v) then (match splice p.1 (cellsOf v) cs with
        | some cs => fillIn R cs ps
        | none => none) else none) k := by
      intro v hv
      rw [hv, ← all]
      have hs : allL scal [v] = scal v := by
        show Bool.casesOn (motive := fun _ => Bool) (scal v) false true = _
        cases scal v <;> rfl
      have hl : len [v] = 1 := rfl
      rw [hs, hl, fscal_eq, fset1_eq]
      simp only [fb_eq]
    cases hv : ev R p.2.2 with
    | agg l => exact all l
    | _ => exact one _ rfl
noncomputable def x_build (zero : List AV) (parts : List (Nat × Nat × Opd)) : ClX := .mk (fun _ _ R H nx k => ffill parts R zero (fun cs => k (.agg cs) H nx))
theorem x_build_ok (zero : List AV) (parts : List (Nat × Nat × Opd)) : XOk (.build zero parts) (x_build zero parts) := by
  intro run base R H nx k
  show ffill _ _ _ _ = _
  simp only [ffill_eq, aexec]
  cases fillIn R zero parts <;> rfl
noncomputable def x_vlit (n : Nat) (zero : List AV) (parts : List (Nat × Nat × Opd)) : ClX := .mk (fun _ _ R H nx k => ffill parts R zero (fun cs => k (.vslice cs n true) H nx))
theorem x_vlit_ok (n : Nat) (zero : List AV) (parts : List (Nat × Nat × Opd)) : XOk (.vlit n zero parts) (x_vlit n zero parts) := by
  intro run base R H nx k
  show ffill _ _ _ _ = _
  simp only [ffill_eq, aexec]
  cases fillIn R zero parts <;> rfl
noncomputable def x_hlit (j n : Nat) (zero : List AV) (parts : List (Nat × Nat × Opd)) : ClX := .mk (fun _ base R H nx k => ffill parts R zero (fun cs => fadk base j (fun id => fnewO H id (.cells cs) (fun H => k (.slice id 0 n n) H nx))))
theorem x_hlit_ok (j n : Nat) (zero : List AV) (parts : List (Nat × Nat × Opd)) : XOk (.hlit j n zero parts) (x_hlit j n zero parts) := by
  intro run base R H nx k
  show ffill _ _ _ _ = _
  simp only [ffill_eq, aexec, fadk_eq, fnewO_eq]
  cases fillIn R zero parts with
  | none => rfl
  | some cs => simp only [bindO_some]; cases newO H (base.add j) (.cells cs) <;> rfl
noncomputable def x_field (ag : Bool) (n off : Nat) (x : Opd) : ClX := .mk (fun _ _ R H nx k => gev x R (fun v => onAgg v (fun l => ftake n off l (fun cs => fmkv ag cs (fun v => k v H nx)))))
theorem x_field_ok (ag : Bool) (n off : Nat) (x : Opd) : XOk (.field ag n off x) (x_field ag n off x) := by
  intro run base R H nx k
  show gev _ _ _ = _
  simp only [gev_eq, aexec]
  cases ev R x with
  | agg l =>
    simp only [onAgg, ftake_eq, fmkv_eq]
    cases takeN n (dropN off l) with
    | none => rfl
    | some cs => simp only [bindO_some]; cases mkv ag cs <;> rfl
  | _ => rfl
noncomputable def x_indexArr (n : Nat) (ag : Bool) (sz : Nat) (x i : Opd) : ClX := .mk (fun _ _ R H nx k => gev x R (fun v => onAgg v (fun l => gev i R (fun i => fplace n i (fun i => ftake sz (Nat.mul i sz) l (fun cs => fmkv ag cs (fun v => k v H nx)))))))
theorem x_indexArr_ok (n : Nat) (ag : Bool) (sz : Nat) (x i : Opd) : XOk (.indexArr n ag sz x i) (x_indexArr n ag sz x i) := by
  intro run base R H nx k
  show gev _ _ _ = _
  simp only [gev_eq, aexec, fplace_eq]
  cases ev R x with
  | agg l =>
    simp only [onAgg, ftake_eq, fmkv_eq]
    cases place n (ev R i) with
    | none => rfl
    | some j =>
      simp only [bindO_some, elemAt]
      have : Nat.mul j sz = j * sz := rfl
      rw [this]
      cases takeN sz (dropN (j * sz) l) with
      | none => rfl
      | some cs => simp only [bindO_some]; cases mkv ag cs <;> rfl
  | _ => rfl
noncomputable def x_indexStr (x i : Opd) : ClX := .mk (fun _ _ R H nx k => gev x R (fun v => onStr v (fun n c => gev i R (fun i => fplace n i (fun i => fN (Nat.mod (Nat.div c (Nat.pow 2 (Nat.mul 8 i))) 256) (fun b => k (.int .u8 (.ofNat b)) H nx)))) none))
theorem x_indexStr_ok (x i : Opd) : XOk (.indexStr x i) (x_indexStr x i) := by
  intro run base R H nx k
  show gev _ _ _ = _
  simp only [gev_eq, aexec, fplace_eq, fN_eq, frcN_eq]
  cases ev R x with
  | str n c =>
    simp only [onStr]
    cases place n (ev R i) <;> rfl
  | _ => rfl
noncomputable def x_conv (q : IntKind) (x : Opd) : ClX := .mk (fun _ _ R H nx k => gev x R (fun v => onInt v (fun _ n => fmk q n (fun v => k v H nx)) none))
theorem x_conv_ok (q : IntKind) (x : Opd) : XOk (.conv q x) (x_conv q x) := by
  intro run base R H nx k
  show gev _ _ _ = _
  simp only [gev_eq, aexec]
  cases ev R x with
  | int a n => simp only [onInt, fmk_eq]; rfl
  | _ => rfl
noncomputable def x_slc (sz : Nat) (x : Opd) (lo hi mx : Option Opd) : ClX := .mk (fun _ _ R H nx k => gev x R (fun v => bindO (slcOp sz v lo hi mx R) (fun v => wh v (fun v => k v H nx))))
theorem x_slc_ok (sz : Nat) (x : Opd) (lo hi mx : Option Opd) : XOk (.slc sz x lo hi mx) (x_slc sz x lo hi mx) := by
  intro run base R H nx k
  show gev _ _ _ = _
  simp only [gev_eq, aexec, wh_eq]
  cases slcOp sz (ev R x) lo hi mx R <;> rfl
noncomputable def x_slcStr (x : Opd) (lo hi : Option Opd) : ClX := .mk (fun _ _ R H nx k => gev x R (fun v => bindO (slcStrOp v lo hi R) (fun v => wh v (fun v => k v H nx))))
theorem x_slcStr_ok (x : Opd) (lo hi : Option Opd) : XOk (.slcStr x lo hi) (x_slcStr x lo hi) := by
  intro run base R H nx k
  show gev _ _ _ = _
  simp only [gev_eq, aexec, wh_eq]
  cases slcStrOp (ev R x) lo hi R <;> rfl
noncomputable def x_lookup (zero : AV) (ok : Bool) (q : LK) (m y : Opd) : ClX := .mk (fun _ _ R H nx k => gev m R (fun m => gev y R (fun y => bindO (lookupOp q zero ok m y H) (fun v => wh v (fun v => k v H nx)))))
theorem x_lookup_ok (zero : AV) (ok : Bool) (q : LK) (m y : Opd) : XOk (.lookup zero ok q m y) (x_lookup zero ok q m y) := by
  intro run base R H nx k
  show gev _ _ _ = _
  simp only [gev_eq, aexec, wh_eq]
  cases lookupOp q zero ok (ev R m) (ev R y) H <;> rfl
noncomputable def x_mapput (q : LK) (m y z : Opd) : ClX := .mk (fun _ _ R H nx k => gev m R (fun m => gev y R (fun y => gev z R (fun z => bindO (mapputOp q m y z H) (fun H => k undef H nx)))))
theorem x_mapput_ok (q : LK) (m y z : Opd) : XOk (.mapput q m y z) (x_mapput q m y z) := by
  intro run base R H nx k
  show gev _ _ _ = _
  simp only [gev_eq, aexec]
  cases mapputOp q (ev R m) (ev R y) (ev R z) H <;> rfl
noncomputable def x_append (j sz bytes : Nat) (s x : Opd) : ClX := .mk (fun _ base R H nx k => gev s R (fun s => gev x R (fun x => fadk base j (fun id => bindO (appendOp id sz bytes s x H) (fun p => wh p.1 (fun v => k v p.2 nx))))))
theorem x_append_ok (j sz bytes : Nat) (s x : Opd) : XOk (.append j sz bytes s x) (x_append j sz bytes s x) := by
  intro run base R H nx k
  show gev _ _ _ = _
  simp only [gev_eq, aexec, wh_eq, fadk_eq]
end Go.Ab
