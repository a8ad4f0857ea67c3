/- The values, the objects, the operations and the code that the abstract run goes by. -/
import GoSem.Core.World
import Derived.Test.YtdiiepiflmgdeaaGreatA0
namespace Go.Ab

inductive AV where
  | int (k : IntKind) (n : Int)
  | res (k : IntKind) (q r : Nat)
  | bool (b : Bool)
  | str (n c : Nat)
  | flt (k : FloatKind) (x : Nat)
  | cplx (k : FloatKind) (x y : Nat)
  | ptr (b : K) (o : Nat)
  | vptr (l : List AV)
  | nilp
  | slice (b : K) (o len cap : Nat)
  | oslice (b : K) (o len sz : Nat)
  | vslice (l : List AV) (len : Nat) (ex : Bool)
  | nils
  | map (b : K)
  | nilm
  | func (f : Nat) (first captured : List AV)
  | yield (b : K)
  | nilf
  | nili
  | iface (t : Nat) (v : AV)
  | agg (l : List AV)
  | tuple (l : List AV)
  | tab (i : Nat) (l : List AV)      -- one of these, by what the i-th choice is

def undef : AV := .tuple []

inductive Opd where
  | t (k : K)
  | c (v : AV)

inductive LK where | i | b | s
inductive SK where | str | slice | map

inductive EqT where
  | plain        -- whatever the values say: numbers, strings
  | bool
  | ptr
  | agg (ks : List LK)
  | nilable      -- a slice, a map, a function: against nil alone
  | iface

inductive AOp where
  | mv (x : Opd)
  | pick (c a b : Opd)
  | nilchk (x : Opd)
  | alloc (j : Nat) (zero : List AV)
  | box (j n : Nat) (x : Opd)
  | build (zero : List AV) (parts : List (Nat × Nat × Opd))
  | vlit (len : Nat) (zero : List AV) (parts : List (Nat × Nat × Opd))
  | hlit (j len : Nat) (zero : List AV) (parts : List (Nat × Nat × Opd))
  | load (ag : Bool) (n : Nat) (x : Opd)
  | store (n : Nat) (a v : Opd)
  | fieldAddr (off : Nat) (x : Opd)
  | field (ag : Bool) (n off : Nat) (x : Opd)
  | indexAddr (sz : Nat) (x i : Opd)
  | indexAddrArr (len sz : Nat) (x i : Opd)
  | indexArr (len : Nat) (ag : Bool) (sz : Nat) (x i : Opd)
  | indexStr (x i : Opd)
  | slc (sz : Nat) (x : Opd) (lo hi mx : Option Opd)
  | slcStr (x : Opd) (lo hi : Option Opd)
  | bin (op : BinOp) (e : EqT) (x y : Opd)
  | un (op : UnOp) (x : Opd)
  | conv (k : IntKind) (x : Opd)
  | convStr (x : Opd)
  | bytesStr (x : Opd)
  | bad                    -- what is never come to
  | mvE (x : Opd)          -- as mv, but never done early
  | extract (x : Opd) (i : Nat)
  | mkfunc (f : Nat) (first captured : List Opd)
  | mkmap (j : Nat)
  | mkslice (j sz bytes : Nat) (zero : List AV) (l c : Opd)
  | lookup (zero : AV) (ok : Bool) (e : LK) (m k : Opd)
  | mapput (e : LK) (m k v : Opd)
  | mkiface (t : Nat) (x : Opd)
  | range (j : Nat) (x : Opd)
  | next (x : Opd)
  | entry (x : Opd)
  | len (k : SK) (x : Opd)
  | max (x y : Opd)
  | min (x y : Opd)
  | real (x : Opd)
  | imag (x : Opd)
  | f64bits (x : Opd)
  | append (j sz bytes : Nat) (s x : Opd)
  | call (f : K) (args : List Opd)
  | calld (x : Opd) (args : List Opd)

structure AStep where
  dst : Option K
  op : AOp
  guard : Option (K × Bool)

inductive DT where
  | done
  | op (i : Nat) (s : AStep) (next : DT)
  | re (i : Nat) (next : DT)
  | par (x y : DT)

inductive ACode where
  | skip
  | region (na : Nat) (ops : List AStep)
  | draw (na : Nat) (d : DT)
  | seq (a b : ACode)
  | cond (c : Opd) (x y : ACode)
  | block (id : Nat) (x : ACode)
  | loop (x : ACode)
  | rangeFunc (f : Opd) (params : List K) (assign body : ACode)
  | exit (id : Nat)
  | scope (x y : ACode)    -- the scope's whole code; what is still to be done of it
  | label (l : Nat)
  | goto (l : Nat)
  | ret
  | summ (v : AV)          -- a function's whole code: what it hands back, proved elsewhere

inductive AExit where
  | normal
  | exit (id : Nat)
  | goto (l : Nat)
  | ret
  deriving DecidableEq

inductive ARes where
  | tmp (k : K)
  | cell (k : K) (ag : Bool) (n : Nat)

structure AFunc where
  body : ACode
  res : List ARes

inductive AObj where
  | cells (l : List AV)
  | map (es : List (AV × AV × Nat)) (clock : Nat)
  | iter (m : Option K) (since : Nat) (seen : List Nat) (stepped : Nat)
  | loop (st : LoopState) (pend : AExit) (R : T AV) (params : List K) (assign body : ACode)
  | defs
  | dead

structure St where
  R : T AV
  H : T AObj
  nx : K
  ds : List K

/-! ### lists -/
section lists
variable {α β : Type}
noncomputable def nth (l : List α) (i : Nat) : Option α :=
  List.rec (motive := fun _ => Nat → Option α) (fun _ => none) (fun x _ ih i => Nat.casesOn i (some x) (fun i => ih i)) l i
noncomputable def dropN (i : Nat) (l : List α) : List α :=
  Nat.rec (motive := fun _ => List α → List α) (fun l => l) (fun _ ih l => List.casesOn l [] (fun _ l => ih l)) i l
noncomputable def takeN (n : Nat) (l : List α) : Option (List α) :=
  Nat.rec (motive := fun _ => List α → Option (List α)) (fun _ => some [])
    (fun _ ih l => List.casesOn l none (fun x l => Option.casesOn (ih l) none (fun r => some (x :: r)))) n l
/- vs laid over l from its beginning on -/
noncomputable def over (vs l : List α) : Option (List α) :=
  List.rec (motive := fun _ => List α → Option (List α)) (fun l => some l)
    (fun v _ ih l => List.casesOn l none (fun _ l => Option.casesOn (ih l) none (fun r => some (v :: r)))) vs l
/- vs laid over l from place i on -/
noncomputable def splice (i : Nat) (vs l : List α) : Option (List α) :=
  Nat.rec (motive := fun _ => List α → Option (List α)) (fun l => over vs l)
    (fun _ ih l => List.casesOn l none (fun x l => Option.casesOn (ih l) none (fun r => some (x :: r)))) i l
noncomputable def app (l m : List α) : Option (List α) :=
  List.rec (motive := fun _ => Option (List α)) (some m) (fun x _ ih => Option.casesOn ih none (fun r => some (x :: r))) l
noncomputable def len (l : List α) : Nat := List.rec (motive := fun _ => Nat) 0 (fun _ _ n => Nat.succ n) l
noncomputable def mapL (f : α → β) (l : List α) : List β := List.rec (motive := fun _ => List β) [] (fun x _ r => f x :: r) l
noncomputable def allL (f : α → Bool) (l : List α) : Bool := List.rec (motive := fun _ => Bool) true (fun x _ r => Bool.casesOn (f x) false r) l

theorem nth_eq (l : List α) (i : Nat) : nth l i = l[i]? := by
  induction l generalizing i with
  | nil => rfl
  | cons x l ih => cases i with
    | zero => rfl
    | succ i => exact ih i
theorem dropN_eq (i : Nat) (l : List α) : dropN i l = l.drop i := by
  induction i generalizing l with
  | zero => rfl
  | succ i ih => cases l with
    | nil => rfl
    | cons x l => exact ih l
theorem takeN_eq (n : Nat) (l : List α) : takeN n l = if n ≤ l.length then some (l.take n) else none := by
  induction n generalizing l with
  | zero =>
    have h : takeN 0 l = some [] := rfl
    rw [h]; simp
  | succ n ih => cases l with
    | nil => simp [takeN]
    | cons x l =>
      have h : takeN (n + 1) (x :: l) = Option.casesOn (motive := fun _ => Option (List α)) (takeN n l) none (fun r => some (x :: r)) := rfl
      rw [h, ih l]
      by_cases hn : n ≤ l.length <;> simp [hn]
theorem over_eq (vs l : List α) : over vs l = if vs.length ≤ l.length then some (vs ++ l.drop vs.length) else none := by
  induction vs generalizing l with
  | nil => simp [over]
  | cons v vs ih => cases l with
    | nil => simp [over]
    | cons x l =>
      have h : over (v :: vs) (x :: l) = Option.casesOn (motive := fun _ => Option (List α)) (over vs l) none (fun r => some (v :: r)) := rfl
      rw [h, ih l]
      by_cases hn : vs.length ≤ l.length <;> simp [hn]
theorem splice_eq (i : Nat) (vs l : List α) : splice i vs l = if i + vs.length ≤ l.length then some (l.take i ++ vs ++ l.drop (i + vs.length)) else none := by
  induction i generalizing l with
  | zero =>
    have h : splice 0 vs l = over vs l := rfl
    rw [h, over_eq]; simp
  | succ i ih => cases l with
    | nil => simp [splice]
    | cons x l =>
      have h : splice (i + 1) vs (x :: l) = Option.casesOn (motive := fun _ => Option (List α)) (splice i vs l) none (fun r => some (x :: r)) := rfl
      rw [h, ih l]
      by_cases hn : i + vs.length ≤ l.length
      · have : i + 1 + vs.length ≤ (x :: l).length := by simp; omega
        rw [if_pos hn, if_pos this]
        have e : i + 1 + vs.length = (i + vs.length) + 1 := by omega
        simp [e]
      · have : ¬ i + 1 + vs.length ≤ (x :: l).length := by simp; omega
        rw [if_neg hn, if_neg this]
theorem app_eq (l m : List α) : app l m = some (l ++ m) := by
  induction l with
  | nil => rfl
  | cons x l ih =>
    have h : app (x :: l) m = Option.casesOn (motive := fun _ => Option (List α)) (app l m) none (fun r => some (x :: r)) := rfl
    rw [h, ih]; rfl
theorem len_eq (l : List α) : len l = l.length := by
  induction l with
  | nil => rfl
  | cons x l ih =>
    have h : len (x :: l) = Nat.succ (len l) := rfl
    rw [h, ih]; rfl
theorem mapL_eq (f : α → β) (l : List α) : mapL f l = l.map f := by
  induction l with
  | nil => rfl
  | cons x l ih =>
    have h : mapL f (x :: l) = f x :: mapL f l := rfl
    rw [h, ih]; rfl
theorem allL_eq (f : α → Bool) (l : List α) : allL f l = l.all f := by
  induction l with
  | nil => rfl
  | cons x l ih =>
    have h : allL f (x :: l) = Bool.casesOn (motive := fun _ => Bool) (f x) false (allL f l) := rfl
    rw [h, ih]; cases hx : f x <;> simp [hx]
end lists
end Go.Ab
