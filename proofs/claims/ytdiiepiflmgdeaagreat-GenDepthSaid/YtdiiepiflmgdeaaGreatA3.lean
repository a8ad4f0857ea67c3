/- When an abstract operation, an abstract code stands for one of the model's: a check that can be run. -/
import Derived.Test.YtdiiepiflmgdeaaGreatA2
namespace Go.Ab

def codeL (l : List UInt8) : Nat := l.foldr (fun b c => b.toNat + 256 * c) 0

mutual
def cok : AV → Value → Bool
  | .int k n, .int l m => keq k l && ieq n m
  | .bool a, .bool b => (match a with | true => b | false => !b)
  | .str n c, .string s => Nat.beq s.size n && Nat.beq (codeL s.data.toList) c
  | .flt .f64 x, .float .f64 y => Nat.beq x y
  | .cplx .f64 a b, .complex .f64 c d => Nat.beq a c && Nat.beq b d
  | .nilp, .pointer none => true
  | .nils, .slice none n c => Nat.beq n 0 && Nat.beq c 0
  | .nilm, .map none => true
  | .nilf, .nilFunc => true
  | .nili, .nilIface => true
  | .agg l, .agg cs => cokL l cs.toList
  | .tuple l, .tuple cs => cokL l cs.toList
  | _, _ => false
def cokL : List AV → List Value → Bool
  | [], [] => true
  | x :: l, v :: vs => cok x v && cokL l vs
  | _, _ => false
end

def chkOpd (nt : Nat) (o : Operand) (x : Opd) : Bool :=
  match x with
  | .t k => (match o with
    | .tmp t => Nat.beq t k.num && Nat.blt t nt
    | _ => false)
  | .c v => (match o with
    | .const u => cok v u
    | .func f => (match v with
      | .func g [] [] => Nat.beq f g
      | _ => false)
    | _ => false)
def chkOpds (nt : Nat) : List Operand → List Opd → Bool
  | [], [] => true
  | o :: os, x :: xs => chkOpd nt o x && chkOpds nt os xs
  | _, _ => false
def chkOpt (nt : Nat) : Option Operand → Option Opd → Bool
  | none, none => true
  | some o, some x => chkOpd nt o x
  | _, _ => false

def szOf (P : Program) (t : TypeId) : Option Nat := (P.info? t).map (·.size)
def zeroOk (P : Program) (t : TypeId) (z : AV) : Bool :=
  match (P.info? t).bind (·.zero) with
  | some v => cok z v
  | none => false
def zeroSz (P : Program) (t : TypeId) (n : Nat) : Bool :=
  match (P.info? t).bind (·.zero) with
  | some v => v.cells.size == n
  | none => false
def zerosOk (P : Program) (t : TypeId) (z : List AV) : Bool :=
  match (P.info? t).bind (·.zero) with
  | some v => cokL z v.cells.toList
  | none => false
def aggT (P : Program) (t : TypeId) : Option Bool :=
  match P.underlying t with
  | some (.struct _) => some true
  | some (.array _ _) => some true
  | some _ => some false
  | none => none
def ldOk (P : Program) (t : TypeId) (ag : Bool) (n : Nat) : Bool :=
  (aggT P t == some ag) && (szOf P t == some n) && (ag || n == 1)
/- the zero cells of a row of so many -/
def rowZeros (z : Array Value) (n : Nat) : List Value := (List.range n).map fun i => z[i % z.size]!
def fieldsSized (P : Program) (fs : List Field) : Bool := fs.all fun f => (szOf P f.type).isSome
def chkPartsS (P : Program) (nt : Nat) (fs : Array Field) : List (Nat × Operand) → List (Nat × Nat × Opd) → Bool
  | [], [] => true
  | (i, o) :: ps, (off, n, x) :: qs => (match fs[i]? with
    | some f => f.offset == off && szOf P f.type == some n && chkOpd nt o x
    | none => false) && chkPartsS P nt fs ps qs
  | _, _ => false
def chkPartsA (nt sz : Nat) : List (Nat × Operand) → List (Nat × Nat × Opd) → Bool
  | [], [] => true
  | (i, o) :: ps, (off, n, x) :: qs => off == i * sz && n == sz && chkOpd nt o x && chkPartsA nt sz ps qs
  | _, _ => false
def chkLit (P : Program) (nt : Nat) (t : TypeId) (len' : Nat) (ps : Array (Nat × Operand)) (n : Nat) (z : List AV) (qs : List (Nat × Nat × Opd)) : Bool :=
  match P.underlying t with
  | some (.slice e) => (match szOf P e with
    | some sz => n == len' && decide (n * sz ≤ 2 ^ 24) && chkPartsA nt sz ps.toList qs && sz != 0 &&
      (if n * sz = 0 then (match z with | [] => true | _ => false) else (match (P.info? e).bind (·.zero) with
        | some v => cokL z (rowZeros v.cells (n * sz))
        | none => false))
    | none => false)
  | _ => false

/- the kinds of the cells of a type that is compared cell by cell -/
def flatT (P : Program) : Nat → TypeId → Option (List LK)
  | 0, _ => none
  | d + 1, t => match P.underlying t with
    | some .bool => some [.b]
    | some (.int _) => some [.i]
    | some .string => some [.s]
    | some (.struct fs) => if P.stoodInHeld t then none else flatFs P (flatT P d) fs.toList 0
    | some (.array n e) => (match flatT P d e, szOf P e with
      | some ks, some s => if ks.length == s then some (List.replicate n ks).flatten else none
      | _, _ => none)
    | _ => none
where flatFs (P : Program) (f : TypeId → Option (List LK)) : List Field → Nat → Option (List LK)
  | [], _ => some []
  | x :: xs, off => if x.name == "_" then none else if x.offset == off then (match f x.type, szOf P x.type with
    | some ks, some s => if ks.length == s then (match flatFs P f xs (off + s) with
      | some l => some (ks ++ l)
      | none => none) else none
    | _, _ => none) else none
def lkq : List LK → List LK → Bool
  | [], [] => true
  | .i :: k, .i :: l => lkq k l
  | .b :: k, .b :: l => lkq k l
  | .s :: k, .s :: l => lkq k l
  | _, _ => false
theorem lkq_eq : ∀ {k l : List LK}, lkq k l = true → k = l
  | [], [], _ => rfl
  | .i :: k, .i :: l, h => by rw [lkq_eq (k := k) (l := l) h]
  | .b :: k, .b :: l, h => by rw [lkq_eq (k := k) (l := l) h]
  | .s :: k, .s :: l, h => by rw [lkq_eq (k := k) (l := l) h]
  | [], .i :: _, h | [], .b :: _, h | [], .s :: _, h | .i :: _, [], h | .b :: _, [], h | .s :: _, [], h
  | .i :: _, .b :: _, h | .i :: _, .s :: _, h | .b :: _, .i :: _, h | .b :: _, .s :: _, h | .s :: _, .i :: _, h | .s :: _, .b :: _, h => by simp [lkq] at h
def eqOk (P : Program) (t : TypeId) : EqT → Bool
  | .plain => true
  | .bool => (match P.underlying t with | some .bool => true | _ => false)
  | .ptr => (match P.underlying t with | some (.pointer _) => true | _ => false)
  | .agg ks => (match flatT P 8 t with
    | some ls => lkq ls ks
    | none => false) && !P.eqGuardType P.depth t && (aggT P t == some true)
  | .nilable => (match P.underlying t with
    | some (.slice _) => true
    | _ => false)
  | .iface => false
def keyOk (P : Program) (t : TypeId) (q : LK) : Bool :=
  match P.underlying t with
  | some .string => (match q with | .s => true | _ => false)
  | some (.int _) => (match q with | .i => true | _ => false)
  | some .bool => (match q with | .b => true | _ => false)
  | _ => false

def bopq (a b : BinOp) : Bool := decide (a = b)

def chkOp (P : Program) (nt : Nat) (o : Op) (a : AOp) : Bool :=
  match a with
  | .mv x => (match o with
    | .move y => chkOpd nt y x
    | .assign y => chkOpd nt y x
    | _ => false)
  | .pick c x y => (match o with
    | .pick c' x' y' => chkOpd nt c' c && chkOpd nt x' x && chkOpd nt y' y
    | _ => false)
  | .nilchk x => (match o with
    | .nilCheck y => chkOpd nt y x
    | _ => false)
  | .alloc _ z => (match o with
    | .alloc t => zerosOk P t z
    | _ => false)
  | .box _ _ x => (match o with
    | .box _ y => chkOpd nt y x
    | _ => false)
  | .build z qs => (match o with
    | .build t ps => zerosOk P t z && (match P.underlying t with
      | some (.struct fs) => fieldsSized P fs.toList && chkPartsS P nt fs ps.toList qs
      | some (.array _ e) => (match szOf P e with
        | some sz => chkPartsA nt sz ps.toList qs
        | none => false)
      | _ => false)
    | _ => false)
  | .vlit n z qs => (match o with
    | .buildSlice t k ps => chkLit P nt t k ps n z qs
    | _ => false)
  | .hlit _ n z qs => (match o with
    | .buildSlice t k ps => chkLit P nt t k ps n z qs
    | _ => false)
  | .load ag n x => (match o with
    | .load t y => ldOk P t ag n && chkOpd nt y x
    | _ => false)
  | .store n x v => (match o with
    | .store t y u => szOf P t == some n && chkOpd nt y x && chkOpd nt u v
    | _ => false)
  | .fieldAddr off x => (match o with
    | .fieldAddr t y f => (match P.underlying t with
      | some (.struct fs) => (match fs[f]? with
        | some fd => fd.offset == off && (szOf P fd.type).isSome && szOf P fd.type != some 0 && chkOpd nt y x
        | none => false)
      | _ => false)
    | _ => false)
  | .field ag n off x => (match o with
    | .field t y f => (match P.underlying t with
      | some (.struct fs) => (match fs[f]? with
        | some fd => fd.offset == off && ldOk P fd.type ag n && chkOpd nt y x
        | none => false)
      | _ => false)
    | _ => false)
  | .indexAddr sz x i => (match o with
    | .indexAddr t y k => (match P.underlying t with
      | some (.slice e) => szOf P e == some sz && chkOpd nt y x && chkOpd nt k i
      | _ => false)
    | _ => false)
  | .indexAddrArr n sz x i => (match o with
    | .indexAddr t y k => (match P.underlying t with
      | some (.array m e) => m == n && szOf P e == some sz && chkOpd nt y x && chkOpd nt k i
      | _ => false)
    | _ => false)
  | .indexArr n ag sz x i => (match o with
    | .index t y k => (match P.underlying t with
      | some (.array m e) => m == n && ldOk P e ag sz && chkOpd nt y x && chkOpd nt k i
      | _ => false)
    | _ => false)
  | .indexStr x i => (match o with
    | .index t y k => (match P.underlying t with
      | some .string => chkOpd nt y x && chkOpd nt k i
      | _ => false)
    | _ => false)
  | .slc sz x lo hi mx => (match o with
    | .slice t y l h m => (match P.underlying t with
      | some (.slice e) => szOf P e == some sz && chkOpd nt y x && chkOpt nt l lo && chkOpt nt h hi && chkOpt nt m mx
      | _ => false)
    | _ => false)
  | .slcStr x lo hi => (match o with
    | .slice t y l h m => (match P.underlying t with
      | some .string => chkOpd nt y x && chkOpt nt l lo && chkOpt nt h hi && m.isNone
      | _ => false)
    | _ => false)
  | .bin op e x y => (match o with
    | .binOp op' t x' y' _ => bopq op' op && eqOk P t e && chkOpd nt x' x && chkOpd nt y' y
    | _ => false)
  | .un op x => (match o with
    | .unOp op' _ y => decide (op' = op) && chkOpd nt y x
    | _ => false)
  | .conv k x => (match o with
    | .convert s d y => (P.underlying s).isSome && (match P.underlying d with
      | some (.int k') => keq k' k && chkOpd nt y x
      | _ => false)
    | _ => false)
  | .convStr x => (match o with
    | .convert s d y => (P.underlying s).isSome && (match P.underlying d with
      | some .string => chkOpd nt y x
      | _ => false)
    | _ => false)
  | .bytesStr x => (match o with
    | .convert s d y => (match P.underlying s with
      | some (.slice e) => szOf P e == some 1 && (match P.underlying e with
        | some (.int .u8) => true
        | _ => false)
      | _ => false) && (match P.underlying d with
      | some .string => chkOpd nt y x
      | _ => false)
    | _ => false)
  | .mvE x => (match o with
    | .move y => chkOpd nt y x
    | .assign y => chkOpd nt y x
    | _ => false)
  | .bad => (match o with
    | .convert _ _ _ => true
    | .call _ => true
    | _ => false)
  | .extract x i => (match o with
    | .extract y k => k == i && chkOpd nt y x
    | _ => false)
  | .mkfunc f xs ys => (match o with
    | .makeFunc (.func g) us vs => g == f && chkOpds nt us.toList xs && chkOpds nt vs.toList ys
    | _ => false)
  | .mkmap _ => (match o with
    | .makeMap _ r => r.isNone
    | _ => false)
  | .mkslice _ sz bytes z l c => (match o with
    | .makeSlice t l' c' => (match P.underlying t with
      | some (.slice e) => szOf P e == some sz && (P.info? e).map (·.bytes) == some bytes && zerosOk P e z && chkOpd nt l' l && chkOpd nt c' c
      | _ => false)
    | _ => false)
  | .lookup z ok q m k => (match o with
    | .lookup t m' k' ok' => (match P.underlying t with
      | some (.map kt e) => keyOk P kt q && zeroOk P e z && (ok' == ok) && chkOpd nt m' m && chkOpd nt k' k
      | _ => false)
    | _ => false)
  | .mapput q m k v => (match o with
    | .mapUpdate t m' k' v' => (match P.underlying t with
      | some (.map kt _) => keyOk P kt q && chkOpd nt m' m && chkOpd nt k' k && chkOpd nt v' v
      | _ => false)
    | .insert t m' k' v' => (match P.underlying t with
      | some (.map kt _) => keyOk P kt q && chkOpd nt m' m && chkOpd nt k' k && chkOpd nt v' v
      | _ => false)
    | _ => false)
  | .mkiface t x => (match o with
    | .makeInterface t' y => t' == t && (match P.underlying t' with
      | some (.interface _) => false
      | some _ => chkOpd nt y x
      | none => false)
    | _ => false)
  | .range _ x => (match o with
    | .range t y => (match P.underlying t with
      | some (.map _ _) => chkOpd nt y x
      | _ => false)
    | _ => false)
  | .next x => (match o with
    | .next y s => !s && chkOpd nt y x
    | _ => false)
  | .entry x => (match o with
    | .entry y => chkOpd nt y x
    | _ => false)
  | .len k x => (match o with
    | .call ⟨.builtin .len, args, ts⟩ => (match ts[0]? with
      | some t => (match P.underlying t with
        | some .string => (match k with | .str => chkOpds nt args.toList [x] | _ => false)
        | some (.slice _) => (match k with | .slice => chkOpds nt args.toList [x] | _ => false)
        | some (.map _ _) => (match k with | .map => chkOpds nt args.toList [x] | _ => false)
        | _ => false)
      | none => false)
    | _ => false)
  | .max x y => (match o with
    | .call ⟨.builtin .max, args, _⟩ => chkOpds nt args.toList [x, y]
    | _ => false)
  | .min x y => (match o with
    | .call ⟨.builtin .min, args, _⟩ => chkOpds nt args.toList [x, y]
    | _ => false)
  | .real x => (match o with
    | .call ⟨.builtin .real, args, _⟩ => chkOpds nt args.toList [x]
    | _ => false)
  | .imag x => (match o with
    | .call ⟨.builtin .imag, args, _⟩ => chkOpds nt args.toList [x]
    | _ => false)
  | .f64bits x => (match o with
    | .call ⟨.value (.func f), args, _⟩ => (match P.funcs[f]? with
      | some fn => fn.name == "math.Float64bits" && fn.body.isNone && (Extern.findNext fn).isNone && chkOpds nt args.toList [x]
      | none => false)
    | _ => false)
  | .append _ sz bytes s x => (match o with
    | .call ⟨.builtin .append, args, ts⟩ => (match ts[0]?, ts[1]? with
      | some t, some u => (match P.underlying t with
        | some (.slice e) => szOf P e == some sz && (P.info? e).map (·.bytes) == some bytes && zeroSz P e sz && (match P.underlying u with
          | some (.slice _) => chkOpds nt args.toList [s, x]
          | _ => false)
        | _ => false)
      | _, _ => false)
    | _ => false)
  | .call f xs => (match o with
    | .call ⟨.value (.func g), args, _⟩ => g == f.num && chkOpds nt args.toList xs
    | _ => false)
  | .calld x xs => (match o with
    | .call ⟨.value y, args, _⟩ => chkOpd nt y x && chkOpds nt args.toList xs
    | _ => false)

def chkDst (nt : Nat) : Option Tmp → Option K → Bool
  | none, none => true
  | some d, some k => Nat.beq d k.num && Nat.blt d nt
  | _, _ => false
def chkGuard (nt : Nat) (ops : Array Oper) : Option (Nat × Bool) → Option (K × Bool) → Bool
  | none, none => true
  | some (g, b), some (k, c) => (b == c) && (match (ops[g]?).bind (·.dst) with
    | some t => Nat.beq t k.num && Nat.blt t nt
    | none => false)
  | _, _ => false
def chkStep (P : Program) (nt : Nat) (ops : Array Oper) (o : Oper) (s : AStep) : Bool :=
  chkDst nt o.dst s.dst && chkGuard nt ops o.guard s.guard && chkOp P nt o.op s.op
def chkSteps (P : Program) (nt : Nat) (ops : Array Oper) : List Oper → List AStep → Bool
  | [], [] => true
  | o :: os, s :: ss => chkStep P nt ops o s && chkSteps P nt ops os ss
  | _, _ => false
def chkKs (nt : Nat) : List Tmp → List K → Bool
  | [], [] => true
  | t :: ts, k :: ks => Nat.beq t k.num && Nat.blt t nt && chkKs nt ts ks
  | _, _ => false
end Go.Ab
