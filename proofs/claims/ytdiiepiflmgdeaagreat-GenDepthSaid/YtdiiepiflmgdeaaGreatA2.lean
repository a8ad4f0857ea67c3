/- The abstract run: what each operation does to the registers and the heap; the code. -/
import GoSem.Step
import Derived.Test.YtdiiepiflmgdeaaGreatA1
namespace Go.Ab

/-! ### numbers -/
noncomputable def frcN {β : Type} (n : Nat) (k : Nat → β) : β := Nat.casesOn n (k 0) (fun m => k (Nat.succ m))
theorem frcN_eq {β : Type} (n : Nat) (k : Nat → β) : frcN n k = k n := by cases n <;> rfl
noncomputable def frc {β : Type} (n : Int) (k : Int → β) : β :=
  Int.casesOn n (fun m => frcN m (fun m => k (.ofNat m))) (fun m => frcN m (fun m => k (.negSucc m)))
theorem frc_eq {β : Type} (n : Int) (k : Int → β) : frc n k = k n := by cases n <;> simp [frc, frcN_eq]

def ilt : Int → Int → Bool
  | .ofNat a, .ofNat b => Nat.blt a b
  | .ofNat _, .negSucc _ => false
  | .negSucc _, .ofNat _ => true
  | .negSucc a, .negSucc b => Nat.blt b a
theorem ilt_eq (a b : Int) : ilt a b = decide (a < b) := by
  rw [Bool.eq_iff_iff]
  cases a <;> cases b <;> simp [ilt] <;> omega
def ieq : Int → Int → Bool
  | .ofNat a, .ofNat b => Nat.beq a b
  | .ofNat _, .negSucc _ => false
  | .negSucc _, .ofNat _ => false
  | .negSucc a, .negSucc b => Nat.beq a b
theorem ieq_eq (a b : Int) : ieq a b = (a == b) := by
  rw [Bool.eq_iff_iff]
  cases a <;> cases b <;> simp [ieq] <;> omega

def hiK : IntKind → Nat
  | .i8 => 127 | .i16 => 32767 | .i32 => 2147483647 | .i64 => 9223372036854775807
  | .u8 => 255 | .u16 => 65535 | .u32 => 4294967295 | .u64 => 18446744073709551615
def loK : IntKind → Nat
  | .i8 => 128 | .i16 => 32768 | .i32 => 2147483648 | .i64 => 9223372036854775808
  | _ => 0
def fits (k : IntKind) : Int → Bool
  | .ofNat m => Nat.ble m (hiK k)
  | .negSucc m => Nat.blt m (loK k)
def keq : IntKind → IntKind → Bool
  | .i8, .i8 | .i16, .i16 | .i32, .i32 | .i64, .i64 | .u8, .u8 | .u16, .u16 | .u32, .u32 | .u64, .u64 => true
  | _, _ => false
theorem keq_eq {k l : IntKind} (h : keq k l = true) : k = l := by cases k <;> cases l <;> simp_all [keq]

/- a number of a kind, brought into its bounds -/
noncomputable def mkInt (k : IntKind) (n : Int) : AV :=
  frc n fun n => Bool.casesOn (fits k n) (frc (k.wrap n) fun n => .int k n) (.int k n)

/-! ### what a value is -/
def cellsOf : AV → List AV
  | .agg l => l
  | v => [v]
/- what may lie in a cell -/
def scal : AV → Bool
  | .agg _ => false
  | .tuple _ => false
  | _ => true
noncomputable def mkv (ag : Bool) (l : List AV) : Option AV :=
  Bool.casesOn ag (List.casesOn l none (fun v l => List.casesOn l (some v) (fun _ _ => none))) (some (.agg l))
noncomputable def ev (R : T AV) (x : Opd) : AV := Opd.casesOn x (fun k => Option.casesOn (R.get k) undef (fun v => v)) (fun v => v)
noncomputable def readH (H : T AObj) (b : K) (o n : Nat) : Option (List AV) :=
  match H.get b with
  | some (.cells l) => takeN n (dropN o l)
  | _ => none
noncomputable def writeH (H : T AObj) (b : K) (o : Nat) (cs : List AV) : Option (T AObj) :=
  match H.get b with
  | some (.cells l) => if allL scal cs then (match splice o cs l with
    | some l => some (H.set b (.cells l))
    | none => none) else none
  | _ => none
/- a new object under a number that has none -/
noncomputable def newO (H : T AObj) (id : K) (o : AObj) : Option (T AObj) :=
  match H.get id with
  | none => some (H.set id o)
  | some _ => none
/- a place of a row: its number, if it lies below n -/
def place (n : Nat) : AV → Option Nat
  | .int _ (.ofNat i) => if Nat.blt i n then some i else none
  | _ => none
/- a bound of a slice: its number, if it is no more than n -/
def bound (n : Nat) : AV → Option Nat
  | .int _ (.ofNat i) => if Nat.ble i n then some i else none
  | _ => none
noncomputable def boundO (n : Nat) (dflt : Nat) (R : T AV) : Option Opd → Option Nat
  | none => some dflt
  | some x => bound n (ev R x)

noncomputable def elemAt (ag : Bool) (sz i : Nat) (l : List AV) : Option AV :=
  match takeN sz (dropN (i * sz) l) with
  | some cs => mkv ag cs
  | none => none

noncomputable def fillIn (R : T AV) (cs : List AV) (parts : List (Nat × Nat × Opd)) : Option (List AV) :=
  List.rec (motive := fun _ => List AV → Option (List AV)) (fun cs => some cs)
    (fun p _ ih cs =>
      match cellsOf (ev R p.2.2) with
      | vs => if Nat.beq (len vs) p.2.1 && allL scal vs then (match splice p.1 vs cs with
        | some cs => ih cs
        | none => none) else none) parts cs

noncomputable def rep (n : Nat) (z : List AV) : Option (List AV) :=
  Nat.rec (motive := fun _ => Option (List AV)) (some []) (fun _ ih => match ih with
    | some l => app z l
    | none => none) n

/- the bounds of a cut: from, to, the capacity's end if one is given; top: what the capacity is at least -/
noncomputable def bnds (n top : Nat) (lo hi mx : Option Opd) (R : T AV) : Option (Nat × Nat × Option Nat) :=
  match mx with
  | none => match hi with
    | none => match boundO n 0 R lo with
      | some l => some (l, n, none)
      | none => none
    | some q => match bound top (ev R q) with
      | some h => match boundO h 0 R lo with
        | some l => some (l, h, none)
        | none => none
      | none => none
  | some z => match hi with
    | none => none
    | some q => match bound top (ev R z) with
      | some mm => match bound mm (ev R q) with
        | some h => match boundO h 0 R lo with
          | some l => some (l, h, some mm)
          | none => none
        | none => none
      | none => none
noncomputable def cutS (b : K) (o l h mm sz : Nat) : AV :=
  if Nat.beq mm l then frcN (h - l) fun n => .slice b o n 0 else frcN (o + l * sz) fun o => frcN (h - l) fun n => frcN (mm - l) fun c => .slice b o n c
noncomputable def slcOp (sz : Nat) (x : AV) (lo hi mx : Option Opd) (R : T AV) : Option AV :=
  match x with
  | .slice b o n cap => match bnds n cap lo hi mx R with
    | some (l, h, none) => some (cutS b o l h cap sz)
    | some (l, h, some mm) => some (cutS b o l h mm sz)
    | none => none
  | .oslice b o n sz' =>
    if Nat.beq sz sz' then
      match bnds n n lo hi mx R with
      | some (l, h, none) => if Nat.beq l 0 then some (.oslice b o h sz) else if Nat.blt l n then frcN (o + l * sz) fun o => frcN (h - l) fun n => some (.oslice b o n sz) else some (.vslice [] 0 false)
      | some (l, h, some mm) => some (cutS b o l h mm sz)
      | none => none
    else none
  | .vslice cs n ex => match bnds n n lo hi mx R with
    | some (l, h, none) => if Nat.beq h l then some (.vslice [] 0 (ex && Nat.beq h n)) else frcN (h - l) fun k => some (.vslice (dropN (l * sz) cs) k (ex && Nat.beq h n))
    | some (l, h, some mm) => if Nat.beq h l then some (.vslice [] 0 (Nat.beq mm h)) else frcN (h - l) fun k => some (.vslice (dropN (l * sz) cs) k (Nat.beq mm h))
    | none => none
  | .nils => match bnds 0 0 lo hi mx R with
    | some _ => some .nils
    | none => none
  | _ => none

noncomputable def slcStrOp (x : AV) (lo hi : Option Opd) (R : T AV) : Option AV :=
  match x with
  | .str n c => match bnds n n lo hi none R with
    | some (l, h, _) => frcN (h - l) fun n => frcN ((c / 2 ^ (8 * l)) % 2 ^ (8 * n)) fun c => some (.str n c)
    | none => none
  | _ => none

/-! ### comparing -/
/- two scalars, by '==': none: not to be told -/
def eqS : AV → AV → Option Bool
  | .int k a, .int l b => if keq k l then some (ieq a b) else none
  | .bool a, .bool b => some (match a with | true => b | false => !b)
  | .str n a, .str m b => some (Nat.beq n m && Nat.beq a b)
  | _, _ => none
def eqK : LK → AV → AV → Option Bool
  | .i, .int k a, .int l b => if keq k l then some (ieq a b) else none
  | .b, .bool a, .bool b => some (match a with | true => b | false => !b)
  | .s, .str n a, .str m b => some (Nat.beq n m && Nat.beq a b)
  | _, _, _ => none
noncomputable def eqL (ks : List LK) (xs ys : List AV) : Option Bool :=
  List.rec (motive := fun _ => List AV → List AV → Option Bool) (fun xs ys => match xs, ys with
      | [], [] => some true
      | _, _ => none)
    (fun k _ ih xs ys => match xs, ys with
      | x :: xs, y :: ys => (match eqK k x y with
        | some b => (match ih xs ys with
          | some c => some (b && c)
          | none => none)
        | none => none)
      | _, _ => none) ks xs ys
noncomputable def eqOp (e : EqT) (x y : AV) : Option Bool :=
  match e, x, y with
  | .bool, .bool a, .bool b => some (match a with | true => b | false => !b)
  | .agg ks, .agg xs, .agg ys => eqL ks xs ys
  | .ptr, .nilp, .nilp => some true
  | .ptr, .nilp, .ptr _ _ => some false
  | .ptr, .nilp, .vptr _ => some false
  | .ptr, .ptr _ _, .nilp => some false
  | .ptr, .vptr _, .nilp => some false
  | .nilable, .nils, .nils => some true
  | .nilable, .nils, .slice .. => some false
  | .nilable, .nils, .oslice .. => some false
  | .nilable, .nils, .vslice .. => some false
  | .nilable, .vslice .., .nils => some false
  | .nilable, .slice .., .nils => some false
  | .nilable, .oslice .., .nils => some false
  | _, _, _ => none
noncomputable def binOp (op : BinOp) (e : EqT) (x y : AV) : Option AV :=
  match x, y with
  | .int k a, .int l b =>
    if keq k l then
      match op with
      | .add => some (mkInt k (a + b))
      | .sub => some (mkInt k (a - b))
      | .mul => some (mkInt k (a * b))
      | .quo => if ieq b 0 then none else some (mkInt k (a.tdiv b))
      | .rem => if ieq b 0 then none else frc (a.tmod b) fun n => some (.int k n)
      | .eql => some (.bool (ieq a b))
      | .neq => some (.bool (!ieq a b))
      | .lss => some (.bool (ilt a b))
      | .leq => some (.bool (!ilt b a))
      | .gtr => some (.bool (ilt b a))
      | .geq => some (.bool (!ilt a b))
      | _ => none
    else none
  | .res k q r, .int l (.ofNat b) =>
    match op with
    | .rem => if keq k l && (Nat.beq q b && Nat.ble 1 b) then some (.int k (.ofNat r)) else none
    | _ => none
  | .str n a, .str m b =>
    match op with
    | .add => if Nat.ble (n + m) 1000000 then frcN (n + m) fun k => frcN (a + b * 2 ^ (8 * n)) fun c => some (.str k c) else none
    | .eql => some (.bool (Nat.beq n m && Nat.beq a b))
    | .neq => some (.bool (!(Nat.beq n m && Nat.beq a b)))
    | _ => none
  | x, y =>
    match op with
    | .eql => match eqOp e x y with
      | some b => some (.bool b)
      | none => none
    | .neq => match eqOp e x y with
      | some b => some (.bool (!b))
      | none => none
    | _ => none
noncomputable def unOp (op : UnOp) (x : AV) : Option AV :=
  match op, x with
  | .not, .bool b => some (.bool (!b))
  | .neg, .int k n => some (mkInt k (-n))
  | _, _ => none

/-! ### maps -/
noncomputable def findK (q : LK) (key : AV) (es : List (AV × AV × Nat)) : Option (Option (Nat × AV)) :=
  List.rec (motive := fun _ => Nat → Option (Option (Nat × AV))) (fun _ => some none)
    (fun e _ ih i => match eqK q key e.1 with
      | some true => some (some (i, e.2.1))
      | some false => ih (Nat.succ i)
      | none => none) es 0
noncomputable def lookupOp (q : LK) (zero : AV) (ok : Bool) (m key : AV) (H : T AObj) : Option AV :=
  match (match m with
    | .nilm => some []
    | .map b => (match H.get b with
      | some (.map es _) => some es
      | _ => none)
    | _ => none) with
  | none => none
  | some es => match findK q key es with
    | none => none
    | some none => some (if ok then .tuple [zero, .bool false] else zero)
    | some (some (_, v)) => some (if ok then .tuple [v, .bool true] else v)
noncomputable def mapputOp (q : LK) (m key v : AV) (H : T AObj) : Option (T AObj) :=
  match m with
  | .map b => match H.get b with
    | some (.map es clock) => match findK q key es with
      | none => none
      | some none => match app es [(key, v, clock)] with
        | some es => some (H.set b (.map es (Nat.succ clock)))
        | none => none
      | some (some (i, _)) => match nth es i with
        | some e => match splice i [(key, v, e.2.2)] es with
          | some es => some (H.set b (.map es clock))
          | none => none
        | none => none
    | _ => none
  | _ => none

/-! ### append -/
def limit : Nat := 65536
noncomputable def source (sz : Nat) (x : AV) (H : T AObj) : Option (Nat × List AV) :=
  match x with
  | .nils => some (0, [])
  | .slice b o n _ => match readH H b o (n * sz) with
    | some cs => some (n, cs)
    | none => none
  | .oslice b o n _ => match readH H b o (n * sz) with
    | some cs => some (n, cs)
    | none => none
  | .vslice cs n _ => match takeN (n * sz) cs with
    | some cs => some (n, cs)
    | none => none
  | _ => none
noncomputable def appendOp (id : K) (sz bytes : Nat) (s x : AV) (H : T AObj) : Option (AV × T AObj) :=
  match source sz x H with
  | none => none
  | some (n, ys) =>
    if Nat.ble n limit && Nat.ble bytes limit && Nat.ble 1 sz then
    match s with
    | .nils => if Nat.beq n 0 then some (.nils, H) else (match newO H id (.cells ys) with
      | some H => some (.oslice id 0 n sz, H)
      | none => none)
    | .vslice cs k true => if Nat.beq n 0 then some (.vslice cs k true, H) else
      if Nat.ble k limit then (match takeN (k * sz) cs with
      | some xs => match app xs ys with
        | some l => (match newO H id (.cells l) with
          | some H => frcN (k + n) fun k => some (.oslice id 0 k sz, H)
          | none => none)
        | none => none
      | none => none) else none
    | .slice b o k cap =>
      if Nat.ble (k + n) cap then (match writeH H b (o + k * sz) ys with
        | some H => frcN (k + n) fun k => some (.slice b o k cap, H)
        | none => none)
      else if Nat.ble k limit then (match readH H b o (k * sz) with
        | some xs => match app xs ys with
          | some l => (match newO H id (.cells l) with
            | some H => frcN (k + n) fun k => some (.oslice id 0 k sz, H)
            | none => none)
          | none => none
        | none => none) else none
    | .oslice b o k sz' =>
      if Nat.beq sz sz' then (match H.get b with
        | some (.cells l) =>
          if Nat.ble (o + (k + n) * sz) (len l) then (match writeH H b (o + k * sz) ys with
            | some H => frcN (k + n) fun k => some (.oslice b o k sz, H)
            | none => none)
          else if Nat.ble k limit && Nat.ble (o + k * sz) (len l) && allL scal ys then (match takeN (k * sz) (dropN o l) with
            | some xs => match app xs ys with
              | some l => (match newO (H.set b .dead) id (.cells l) with
                | some H => frcN (k + n) fun k => some (.oslice id 0 k sz, H)
                | none => none)
              | none => none
            | none => none) else none
        | _ => none) else none
    | _ => none
    else none

noncomputable def lenOp (k : SK) (x : AV) (H : T AObj) : Option Nat :=
  match k, x with
  | .str, .str n _ => some n
  | .slice, .nils => some 0
  | .slice, .slice _ _ n _ => some n
  | .slice, .oslice _ _ n _ => some n
  | .slice, .vslice _ n _ => some n
  | .map, .nilm => some 0
  | .map, .map b => match H.get b with
    | some (.map es _) => some (len es)
    | _ => none
  | _, _ => none

/- bytes, as a text's number -/
noncomputable def codeB (l : List AV) : Option Nat :=
  List.rec (motive := fun _ => Option Nat) (some 0) (fun x _ ih => match x with
    | .int .u8 (.ofNat b) => if Nat.blt b 256 then (match ih with
      | some c => frcN (b + 256 * c) some
      | none => none) else none
    | _ => none) l

/-! ### an operation that is no call -/
noncomputable def aexec (base : K) (op : AOp) (R : T AV) (H : T AObj) : Option (AV × T AObj) :=
  match op with
  | .mv x => some (ev R x, H)
  | .pick c a b => match ev R c with
    | .bool true => some (ev R a, H)
    | .bool false => some (ev R b, H)
    | _ => none
  | .nilchk x => match ev R x with
    | .ptr b o => some (.ptr b o, H)
    | .vptr l => some (.vptr l, H)
    | .func f a b => some (.func f a b, H)
    | .yield b => some (.yield b, H)
    | _ => none
  | .alloc j zero => match newO H (base.add j) (.cells zero) with
    | some H => some (.ptr (base.add j) 0, H)
    | none => none
  | .box j n x => match cellsOf (ev R x) with
    | vs => if Nat.beq (len vs) n then (match newO H (base.add j) (.cells vs) with
      | some H => some (.ptr (base.add j) 0, H)
      | none => none) else none
  | .build zero parts => match fillIn R zero parts with
    | some cs => some (.agg cs, H)
    | none => none
  | .vlit n zero parts => match fillIn R zero parts with
    | some cs => some (.vslice cs n true, H)
    | none => none
  | .hlit j n zero parts => match fillIn R zero parts with
    | some cs => (match newO H (base.add j) (.cells cs) with
      | some H => some (.slice (base.add j) 0 n n, H)
      | none => none)
    | none => none
  | .load ag n x => match ev R x with
    | .ptr b o => match readH H b o n with
      | some cs => match mkv ag cs with
        | some v => some (v, H)
        | none => none
      | none => none
    | .vptr l => match takeN n l with
      | some cs => match mkv ag cs with
        | some v => some (v, H)
        | none => none
      | none => none
    | _ => none
  | .store n a v => match ev R a with
    | .ptr b o => match cellsOf (ev R v) with
      | vs => if Nat.beq (len vs) n then (match writeH H b o vs with
        | some H => some (undef, H)
        | none => none) else none
    | _ => none
  | .fieldAddr off x => match ev R x with
    | .ptr b o => frcN (o + off) fun o => some (.ptr b o, H)
    | .vptr l => some (.vptr (dropN off l), H)
    | _ => none
  | .field ag n off x => match ev R x with
    | .agg l => match takeN n (dropN off l) with
      | some cs => match mkv ag cs with
        | some v => some (v, H)
        | none => none
      | none => none
    | _ => none
  | .indexAddr sz x i => match ev R x with
    | .slice b o n _ => match place n (ev R i) with
      | some i => frcN (o + i * sz) fun o => some (.ptr b o, H)
      | none => none
    | .oslice b o n _ => match place n (ev R i) with
      | some i => frcN (o + i * sz) fun o => some (.ptr b o, H)
      | none => none
    | .vslice cs n _ => match place n (ev R i) with
      | some i => some (.vptr (dropN (i * sz) cs), H)
      | none => none
    | _ => none
  | .indexAddrArr n sz x i => match ev R x with
    | .ptr b o => match place n (ev R i) with
      | some i => frcN (o + i * sz) fun o => some (.ptr b o, H)
      | none => none
    | _ => none
  | .indexArr n ag sz x i => match ev R x with
    | .agg l => match place n (ev R i) with
      | some i => match elemAt ag sz i l with
        | some v => some (v, H)
        | none => none
      | none => none
    | _ => none
  | .indexStr x i => match ev R x with
    | .str n c => match place n (ev R i) with
      | some i => frcN ((c / 2 ^ (8 * i)) % 256) fun b => some (.int .u8 (.ofNat b), H)
      | none => none
    | _ => none
  | .slc sz x lo hi mx => match slcOp sz (ev R x) lo hi mx R with
    | some v => some (v, H)
    | none => none
  | .slcStr x lo hi => match slcStrOp (ev R x) lo hi R with
    | some v => some (v, H)
    | none => none
  | .bin op e x y => match binOp op e (ev R x) (ev R y) with
    | some v => some (v, H)
    | none => none
  | .un op x => match unOp op (ev R x) with
    | some v => some (v, H)
    | none => none
  | .conv k x => match ev R x with
    | .int _ n => some (mkInt k n, H)
    | _ => none
  | .convStr x => match ev R x with
    | .str n c => some (.str n c, H)
    | _ => none
  | .bytesStr x => match source 1 (ev R x) H with
    | some (n, cs) => match codeB cs with
      | some c => some (.str n c, H)
      | none => none
    | none => none
  | .bad => none
  | .mvE x => some (ev R x, H)
  | .extract x i => match ev R x with
    | .tuple l => match nth l i with
      | some v => some (v, H)
      | none => none
    | _ => none
  | .mkfunc f first captured => some (.func f (mapL (ev R) first) (mapL (ev R) captured), H)
  | .mkmap j => match newO H (base.add j) (.map [] 0) with
    | some H => some (.map (base.add j), H)
    | none => none
  | .mkslice j sz bytes zero l c => match ev R l, ev R c with
    | .int .i64 (.ofNat l), .int .i64 (.ofNat c) =>
      if Nat.ble l c && Nat.ble c limit && Nat.ble bytes limit && Nat.beq (len zero) sz then (match rep c zero with
        | some cs => (match newO H (base.add j) (.cells cs) with
          | some H => some (.slice (base.add j) 0 l c, H)
          | none => none)
        | none => none) else none
    | _, _ => none
  | .lookup zero ok q m k => match lookupOp q zero ok (ev R m) (ev R k) H with
    | some v => some (v, H)
    | none => none
  | .mapput q m k v => match mapputOp q (ev R m) (ev R k) (ev R v) H with
    | some H => some (undef, H)
    | none => none
  | .mkiface t x => some (.iface t (ev R x), H)
  | .range j x => match ev R x with
    | .map b => match H.get b with
      | some (.map _ clock) => match newO H (base.add j) (.iter (some b) clock [] clock) with
        | some H => some (.ptr (base.add j) 0, H)
        | none => none
      | _ => none
    | _ => none
  | .next x => match ev R x with
    | .ptr r 0 => match H.get r with
      | some (.iter (some b) since seen stepped) => match H.get b with
        | some (.map [] _) => some (.tuple [.bool false], H)
        | some (.map [e] clock) => match seen with
          | [] => if Nat.blt e.2.2 since then some (.tuple [.bool true, e.1, e.2.1], H.set r (.iter (some b) since [e.2.2] clock)) else none
          | [n] => if Nat.beq n e.2.2 && Nat.blt e.2.2 stepped then some (.tuple [.bool false], H) else none
          | _ => none
        | _ => none
      | _ => none
    | _ => none
  | .entry x => match ev R x with
    | .ptr r 0 => match H.get r with
      | some (.iter (some b) _ [n] stepped) => match H.get b with
        | some (.map [e] clock) => if Nat.beq n e.2.2 && Nat.beq clock stepped then some (.tuple [e.1, e.2.1], H) else none
        | _ => none
      | _ => none
    | _ => none
  | .len k x => match lenOp k (ev R x) H with
    | some n => frcN n fun n => some (.int .i64 (.ofNat n), H)
    | none => none
  | .max x y => match ev R x, ev R y with
    | .int k a, .int l b => if keq k l then some (.int k (if ilt a b then b else a), H) else none
    | _, _ => none
  | .min x y => match ev R x, ev R y with
    | .int k a, .int l b => if keq k l then some (.int k (if ilt b a then b else a), H) else none
    | _, _ => none
  | .real x => match ev R x with
    | .cplx k a _ => some (.flt k a, H)
    | _ => none
  | .imag x => match ev R x with
    | .cplx k _ b => some (.flt k b, H)
    | _ => none
  | .f64bits x => match ev R x with
    | .flt .f64 b => some (.int .u64 (.ofNat b), H)
    | _ => none
  | .append j sz bytes s x => appendOp (base.add j) sz bytes (ev R s) (ev R x) H
  | .call _ _ => none
  | .calld _ _ => none

/-! ### the same? (no is no answer) -/
mutual
def same : AV → AV → Bool
  | .int k a, .int l b => keq k l && ieq a b
  | .res k q r, .res l q' r' => keq k l && Nat.beq q q' && Nat.beq r r'
  | .bool a, .bool b => a == b
  | .str n a, .str m b => Nat.beq n m && Nat.beq a b
  | .flt .f64 a, .flt .f64 b => Nat.beq a b
  | .cplx .f64 a b, .cplx .f64 c d => Nat.beq a c && Nat.beq b d
  | .ptr b o, .ptr c p => decide (b = c) && Nat.beq o p
  | .vptr l, .vptr m => sameL l m
  | .nilp, .nilp => true
  | .slice b o n c, .slice b' o' n' c' => decide (b = b') && Nat.beq o o' && Nat.beq n n' && Nat.beq c c'
  | .oslice b o n c, .oslice b' o' n' c' => decide (b = b') && Nat.beq o o' && Nat.beq n n' && Nat.beq c c'
  | .vslice l n e, .vslice l' n' e' => sameL l l' && Nat.beq n n' && e == e'
  | .nils, .nils => true
  | .map b, .map c => decide (b = c)
  | .nilm, .nilm => true
  | .func f a b, .func g c d => Nat.beq f g && sameL a c && sameL b d
  | .yield b, .yield c => decide (b = c)
  | .nilf, .nilf => true
  | .nili, .nili => true
  | .iface t v, .iface u w => Nat.beq t u && same v w
  | .agg l, .agg m => sameL l m
  | .tuple l, .tuple m => sameL l m
  | .tab i l, .tab j m => Nat.beq i j && sameL l m
  | _, _ => false
def sameL : List AV → List AV → Bool
  | [], [] => true
  | x :: l, y :: m => same x y && sameL l m
  | _, _ => false
end
def sameE : List (AV × AV × Nat) → List (AV × AV × Nat) → Bool
  | [], [] => true
  | x :: l, y :: m => same x.1 y.1 && same x.2.1 y.2.1 && Nat.beq x.2.2 y.2.2 && sameE l m
  | _, _ => false
def sameO : AObj → AObj → Bool
  | .cells l, .cells m => sameL l m
  | .map l c, .map m d => sameE l m && Nat.beq c d
  | .defs, .defs => true
  | .dead, .dead => true
  | .iter m a s b, .iter m' a' s' b' => decide (m = m') && Nat.beq a a' && decide (s = s') && Nat.beq b b'
  | _, _ => false
def sameT {α : Type} (f : α → α → Bool) : T α → T α → Bool
  | .leaf, .leaf => true
  | .node v a b c d, .node v' a' b' c' d' => (match v, v' with
    | none, none => true
    | some x, some y => f x y
    | _, _ => false) && sameT f a a' && sameT f b b' && sameT f c c' && sameT f d d'
  | _, _ => false
def sameSt (s t : St) : Bool := sameT same s.R t.R && sameT sameO s.H t.H && decide (s.nx = t.nx) && decide (s.ds = t.ds)

/-! ### regions, calls, code -/
noncomputable def putR (dst : Option K) (v : AV) (R : T AV) : T AV := Option.casesOn dst R (fun k => R.set k v)
noncomputable def wantedA (g : Option (K × Bool)) (R : T AV) : Bool :=
  Option.casesOn g true (fun g => match R.get g.1 with
    | some (.bool b) => (match b with | true => g.2 | false => !g.2)
    | _ => false)
/- what a guard looks at is no choice that is still open -/
noncomputable def okG (g : Option (K × Bool)) (R : T AV) : Bool :=
  Option.casesOn g true (fun g => match R.get g.1 with
    | some (.tab _ _) => false
    | _ => true)
noncomputable def initR (args : List AV) : T AV :=
  List.rec (motive := fun _ => K → T AV → T AV) (fun _ R => R) (fun v _ ih k R => ih k.succ (R.set k v)) args .z .leaf
noncomputable def setParams (ps : List K) (vs : List AV) (R : T AV) : Option (T AV) :=
  List.rec (motive := fun _ => List AV → T AV → Option (T AV)) (fun vs R => List.casesOn vs (some R) (fun _ _ => none))
    (fun p _ ih vs R => List.casesOn vs none (fun v vs => ih vs (R.set p v))) ps vs R
noncomputable def resV (r : ARes) (R : T AV) (H : T AObj) : Option AV :=
  match r with
  | .tmp k => some (match R.get k with
    | some v => v
    | none => undef)
  | .cell k ag n => match R.get k with
    | some (.ptr b o) => match readH H b o n with
      | some cs => mkv ag cs
      | none => none
    | _ => none
noncomputable def resL (rs : List ARes) (R : T AV) (H : T AObj) : Option (List AV) :=
  List.rec (motive := fun _ => Option (List AV)) (some []) (fun r _ ih => match resV r R H with
    | some v => (match ih with
      | some vs => some (v :: vs)
      | none => none)
    | none => none) rs
def oneOr (vs : List AV) : AV :=
  match vs with
  | [v] => v
  | vs => .tuple vs
/- the blocks for the calls that rounds defer: none was -/
noncomputable def shut (ds : List K) (H : T AObj) : Option (T AObj) :=
  List.rec (motive := fun _ => T AObj → Option (T AObj)) (fun H => some H)
    (fun d _ ih H => match H.get d with
      | some .defs => ih (H.set d .dead)
      | _ => none) ds H

def isEnd : AExit → Bool
  | .normal => true
  | .ret => true
  | _ => false

abbrev Run := Bool → ACode → St → Option (AExit × St)

noncomputable def callF (run : Run) (fn : AFunc) (args : List AV) (H : T AObj) (nx : K) : Option (AV × T AObj × K) :=
  match fn.body with
  | .summ v => (match args with
    | [] => some (v, H, nx)
    | _ => none)
  | body => match run false body ⟨initR args, H, nx, []⟩ with
  | some (e, s) => if isEnd e then (match shut s.ds s.H with
    | some H => (match resL fn.res s.R H with
      | some vs => some (oneOr vs, H, s.nx)
      | none => none)
    | none => none) else none
  | none => none

noncomputable def roundF (run : Run) (l : K) (args : List AV) (H : T AObj) (nx : K) : Option (AV × T AObj × K) :=
  match H.get l with
  | some (.loop .ready _ R params assign body) =>
    match setParams params args R with
    | none => none
    | some R => match run true assign ⟨R, H, nx, []⟩ with
      | some (.normal, s) => match s.H.get l with
        | some (.loop .ready p R0 ps as bd) =>
          match run true body { s with H := s.H.set l (.loop .busy p R0 ps as bd) } with
          | some (e, s) => match s.H.get l with
            | some (.loop .busy _ R0 ps as bd) => match s.ds with
              | [] => (match e with
                | .normal => some (.bool true, s.H.set l (.loop .ready .normal R0 ps as bd), s.nx)
                | e => some (.bool false, s.H.set l (.loop .done e R0 ps as bd), s.nx))
              | _ => none
            | _ => none
          | none => none
        | _ => none
      | _ => none
  | _ => none

noncomputable def callN (P : T AFunc) (run : Run) (k : K) (n : Nat) (first captured args : List AV) (H : T AObj) (nx : K) : Option (AV × T AObj × K) :=
  if Nat.beq k.num n then
    match P.get k with
    | some fn => match app first args with
      | some as => match app as captured with
        | some as => callF run fn as H nx
        | none => none
      | none => none
    | none => none
  else none
noncomputable def callV (P : T AFunc) (run : Run) (x : AV) (args : List AV) (H : T AObj) (nx : K) (f : Nat → K) : Option (AV × T AObj × K) :=
  match x with
  | .func n first captured => callN P run (f n) n first captured args H nx
  | .yield l => roundF run l args H nx
  | _ => none

def K.ofNat : Nat → Nat → K
  | 0, _ => .z
  | f + 1, n => if n = 0 then .z else if n % 4 = 1 then .a (ofNat f (n / 4)) else if n % 4 = 2 then .b (ofNat f (n / 4)) else if n % 4 = 3 then .c (ofNat f (n / 4)) else .d (ofNat f (n / 4 - 1))

noncomputable def stepS (P : T AFunc) (run : Run) (base : K) (st : AStep) (s : St) : Option St :=
  if okG st.guard s.R then
  if wantedA st.guard s.R then
    match st.op with
    | .call f args => match P.get f with
      | some fn => match callF run fn (mapL (ev s.R) args) s.H s.nx with
        | some (v, H, nx) => some ⟨putR st.dst v s.R, H, nx, s.ds⟩
        | none => none
      | none => none
    | .calld x args => match callV P run (ev s.R x) (mapL (ev s.R) args) s.H s.nx (K.ofNat 8) with
      | some (v, H, nx) => some ⟨putR st.dst v s.R, H, nx, s.ds⟩
      | none => none
    | op => match aexec base op s.R s.H with
      | some (v, H) => some ⟨putR st.dst v s.R, H, s.nx, s.ds⟩
      | none => none
  else some { s with R := putR st.dst undef s.R }
  else none

noncomputable def stepsS (P : T AFunc) (run : Run) (base : K) (l : List AStep) (s : St) : Option St :=
  List.rec (motive := fun _ => St → Option St) (fun s => some s) (fun st _ ih s => match stepS P run base st s with
    | some s => ih s
    | none => none) l s

/- an operation that was done ahead: would it still yield what it did? -/
noncomputable def again (base : K) (st : AStep) (s : St) : Bool :=
  if okG st.guard s.R then
  if wantedA st.guard s.R then
    match st.op with
    | .alloc j zero => (match s.H.get (base.add j) with
      | some (.cells l) => sameL l zero
      | _ => false)
    | .mkmap j => (match s.H.get (base.add j) with
      | some (.map [] 0) => true
      | _ => false)
    | op => match aexec base op s.R s.H with
      | some (v, _) => (match st.dst with
        | some k => (match s.R.get k with
          | some u => same u v
          | none => false)
        | none => false)
      | none => false
  else true
  else false

noncomputable def findS (i : Nat) (L : List (Nat × AStep)) : Option AStep :=
  List.rec (motive := fun _ => Option AStep) none (fun x _ ih => if Nat.beq x.1 i then some x.2 else ih) L
noncomputable def runDT (P : T AFunc) (run : Run) (base : K) (d : DT) (L : List (Nat × AStep)) (s : St) : Option St :=
  DT.rec (motive := fun _ => List (Nat × AStep) → St → Option St) (fun _ s => some s)
    (fun i st _ ih L s => match stepS P run base st s with
      | some s => ih ((i, st) :: L) s
      | none => none)
    (fun i _ ih L s => match findS i L with
      | some st => if again base st s then ih L s else none
      | none => none)
    (fun _ _ ih1 ih2 L s => match ih1 L s with
      | some s1 => (match ih2 L s with
        | some s2 => if sameSt s1 s2 then some s1 else none
        | none => none)
      | none => none) d L s

def findL : ACode → Nat → Option ACode
  | .seq a b, l => match findL a l with
    | some rest => some (.seq rest b)
    | none => findL b l
  | .label l', l => if l' == l then some .skip else none
  | _, _ => none

noncomputable def runF (P : T AFunc) (run : Run) (inr : Bool) (c : ACode) (s : St) : Option (AExit × St) :=
  match c with
  | .skip => some (.normal, s)
  | .label _ => some (.normal, s)
  | .exit id => some (.exit id, s)
  | .goto l => some (.goto l, s)
  | .ret => some (.ret, s)
  | .summ _ => none
  | .region na ops => match stepsS P run s.nx ops { s with nx := s.nx.add na } with
    | some s => some (.normal, s)
    | none => none
  | .draw na d => match runDT P run s.nx d [] { s with nx := s.nx.add na } with
    | some s => some (.normal, s)
    | none => none
  | .seq a b => match run inr a s with
    | some (.normal, s) => run inr b s
    | r => r
  | .cond c x y => match ev s.R c with
    | .bool true => run inr x s
    | .bool false => run inr y s
    | _ => none
  | .block id x => match run inr x s with
    | some (.exit id', s) => if Nat.beq id' id then some (.normal, s) else some (.exit id', s)
    | r => r
  | .loop x => match run inr x s with
    | some (.normal, s) => run inr (.loop x) s
    | r => r
  | .scope x y => match run inr y s with
    | some (.goto l, s) => (match findL x l with
      | some rest => run inr (.scope x rest) s
      | none => some (.goto l, s))
    | r => r
  | .rangeFunc f params assign body =>
    if inr then none else
    match newO s.H s.nx .defs with
    | none => none
    | some H => match newO H s.nx.succ (.loop .ready .normal s.R params assign body) with
      | none => none
      | some H => match ev s.R f with
        | .func n first captured => match callN P run (K.ofNat 8 n) n first captured [.yield s.nx.succ] H s.nx.succ.succ with
          | none => none
          | some (_, H, nx) => match H.get s.nx.succ with
            | some (.loop .ready p _ _ _ _) => some (p, { s with H := H.set s.nx.succ .dead, nx := nx, ds := s.nx :: s.ds })
            | some (.loop .done p _ _ _ _) => some (p, { s with H := H.set s.nx.succ .dead, nx := nx, ds := s.nx :: s.ds })
            | _ => none
        | _ => none

noncomputable def run (P : T AFunc) (n : Nat) : Run := Nat.rec (motive := fun _ => Run) (fun _ _ _ => none) (fun _ ih => runF P ih) n
end Go.Ab
