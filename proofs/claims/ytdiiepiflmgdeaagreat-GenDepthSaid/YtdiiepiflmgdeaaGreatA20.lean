/- Operations that may be done early; the check of a region whose order is drawn. -/
import Derived.Test.YtdiiepiflmgdeaaGreatA19
import Derived.OrdersIn
namespace Go.Ab
open Go.RowKit (Below)

def pureOp : AOp → Bool
  | .mv _ | .pick _ _ _ | .nilchk _ | .build _ _ | .vlit _ _ _ | .fieldAddr _ _ | .field _ _ _ _ | .indexAddr _ _ _ | .indexAddrArr _ _ _ _ | .indexArr _ _ _ _ _ | .indexStr _ _ | .slc _ _ _ _ _ | .slcStr _ _ _
  | .bin _ _ _ _ | .un _ _ | .conv _ _ | .convStr _ | .extract _ _ | .mkfunc _ _ _ | .mkiface _ _ | .max _ _ | .min _ _ | .real _ | .imag _ | .f64bits _ => true
  | _ => false
def readOp : AOp → Bool
  | .load _ _ _ | .lookup _ _ _ _ _ | .len _ _ => true
  | _ => false
def newOp : AOp → Option Nat
  | .alloc j _ => some j
  | .mkmap j => some j
  | _ => none
def mobile (op : AOp) : Bool := pureOp op || (readOp op || (newOp op).isSome)

section
variable {R : T AV} {H H' : T AObj} {base : K} {op : AOp} {v : AV}

theorem pure_any (hp : pureOp op = true) (H : T AObj) : aexec base op R H = (aexec base op R .leaf).map (fun p => (p.1, H)) := by
  cases op <;> first | (simp [pureOp] at hp; done) | skip
  all_goals simp only [aexec, frcN_eq]
  all_goals repeat' split
  all_goals first | rfl | simp_all

theorem pure_some (hp : pureOp op = true) (h : aexec base op R H = some (v, H')) : H' = H ∧ ∀ G, aexec base op R G = some (v, G) := by
  rw [pure_any hp] at h
  cases hl : aexec base op R .leaf with
  | none => rw [hl] at h; cases h
  | some p =>
    rw [hl] at h
    simp only [Option.map_some, Option.some.injEq, Prod.mk.injEq] at h
    refine ⟨h.2.symm, fun G => ?_⟩
    rw [pure_any hp, hl]
    simp [h.1]

theorem readH_keep {b : K} {o n : Nat} {cs : List AV} (h : readH H b o n = some cs) {id : K} (hid : H.get id = none) (x : AObj) : readH (H.set id x) b o n = some cs := by
  have hne : b ≠ id := fun e => by subst e; unfold readH at h; rw [hid] at h; cases h
  unfold readH at h ⊢
  rw [T.get_set_ne hne]; exact h

theorem read_some (hp : readOp op = true) (h : aexec base op R H = some (v, H')) : H' = H ∧ ∀ id x, H.get id = none → aexec base op R (H.set id x) = some (v, H.set id x) := by
  cases op <;> first | (simp [readOp] at hp; done) | skip
  case load ag n x =>
    simp only [aexec] at h
    split at h
    · rename_i b o he
      split at h
      · rename_i cs hcs
        split at h
        · rename_i u hu
          injection h with h; injection h with e1 e2; subst e1 e2
          refine ⟨rfl, fun id y hid => ?_⟩
          simp only [aexec, he, readH_keep hcs hid y, hu]
        · cases h
      · cases h
    · rename_i l he
      split at h
      · rename_i cs hcs
        split at h
        · rename_i u hu
          injection h with h; injection h with e1 e2; subst e1 e2
          refine ⟨rfl, fun id y hid => ?_⟩
          simp only [aexec, he, hcs, hu]
        · cases h
      · cases h
    · cases h
  case lookup z ok q mm k =>
    simp only [aexec] at h
    split at h
    · rename_i u hu
      injection h with h; injection h with e1 e2; subst e1 e2
      refine ⟨rfl, fun id y hid => ?_⟩
      have : lookupOp q z ok (ev R mm) (ev R k) (H.set id y) = some u := by
        unfold lookupOp at hu ⊢
        generalize ev R mm = mv at hu ⊢
        cases mv <;> simp only at hu ⊢ <;> try exact hu
        rename_i b
        have hne : b ≠ id := fun e => by subst e; rw [hid] at hu; simp at hu
        rw [T.get_set_ne hne]
        exact hu
      simp only [aexec, this]
    · cases h
  case len k x =>
    simp only [aexec, frcN_eq] at h
    split at h
    · rename_i n hn
      injection h with h; injection h with e1 e2; subst e1 e2
      refine ⟨rfl, fun id y hid => ?_⟩
      have : lenOp k (ev R x) (H.set id y) = some n := by
        unfold lenOp at hn ⊢
        generalize ev R x = mv at hn ⊢
        cases k <;> cases mv <;> simp only at hn ⊢ <;> try exact hn
        rename_i b
        have hne : b ≠ id := fun e => by subst e; rw [hid] at hn; simp at hn
        rw [T.get_set_ne hne]
        exact hn
      simp only [aexec, frcN_eq, this]
    · cases h
end

/-! ### the check -/
abbrev Ent := Nat × AStep × Nat
def gK : Option (K × Bool) → List K
  | none => []
  | some g => [g.1]
def looksK (st : AStep) : List K := gK st.guard ++ opK st.op
def inK (d : Option K) (l : List K) : Bool := match d with
  | none => false
  | some k => l.any fun x => decide (x = k)
def direct (o : Oper) : List Nat := (o.after.toList.filter (Region.binds .any)).map (·.on)
def inL (L : List Ent) (i : Nat) : Bool := L.any fun x => Nat.beq x.1 i
def maskOf (L : List Ent) (i : Nat) : Nat := match L with
  | [] => 0
  | x :: L => if Nat.beq x.1 i then x.2.2 else maskOf L i
def closOf (L : List Ent) : List Nat → Nat
  | [] => 0
  | d :: ds => (2 ^ d ||| maskOf L d) ||| closOf L ds
def slotNe (a b : Option Nat) : Bool := match a, b with
  | some i, some j => !Nat.beq i j
  | _, _ => true
def pairOk (st : AStep) (c : Nat) (x : Ent) : Bool :=
  !mobile x.2.1.op || (!inK st.dst (looksK x.2.1) && !inK st.dst x.2.1.dst.toList && (!inK x.2.1.dst (looksK st) || c.testBit x.1) && slotNe (newOp st.op) (newOp x.2.1.op))
/- done for sure: an operation that is never early hangs on it -/
def settled (L : List Ent) (i : Nat) : Bool := L.any fun e => !mobile e.2.1.op && e.2.2.testBit i
def chkEnt (P : Program) (nt : Nat) (ops : Array Oper) (L : List Ent) (i : Nat) (st : AStep) : Bool :=
  match ops[i]? with
  | none => false
  | some o => chkStep P nt ops o st && !inL L i && (direct o).all (inL L) && L.all (fun x => settled L x.1 || pairOk st (closOf L (direct o)) x) && (!mobile st.op || !inK st.dst (looksK st))
def dirAt (ops : Array Oper) (i : Nat) : List Nat := match ops[i]? with
  | none => []
  | some o => direct o
def entOf (ops : Array Oper) (L : List Ent) (i : Nat) (st : AStep) : Ent := (i, st, closOf L (dirAt ops i))
def cover (ops : Array Oper) (L : List Ent) (as : List Nat) : Bool :=
  (List.range ops.size).all fun i => inL L i || (as.any (Nat.beq i) || !(dirAt ops i).all (inL L))
def altsD : DT → List Nat
  | .op i _ _ => [i]
  | .par x y => altsD x ++ altsD y
  | _ => []
def resD : DT → List Nat
  | .re i next => i :: resD next
  | _ => []
def resOk (L : List Ent) (c : Nat) (rs : List Nat) : Bool :=
  L.all fun x => !mobile x.2.1.op || (pureOp x.2.1.op || (c.testBit x.1 || rs.any (Nat.beq x.1)))
def chkN (P : Program) (nt : Nat) (ops : Array Oper) : DT → Bool → List Ent → Bool
  | .done, ev, L => !ev && cover ops L []
  | .op i st next, ev, L => chkEnt P nt ops L i st && ((!ev && mobile st.op) || ((ev || cover ops L [i]) && resOk L (closOf L (dirAt ops i)) (resD next))) && chkN P nt ops next false (entOf ops L i st :: L)
  | .re _ next, ev, L => !ev && chkN P nt ops next false L
  | .par x y, ev, L => (ev || cover ops L (altsD (.par x y))) && (chkN P nt ops x true L && chkN P nt ops y true L)
def chkDraw (P : Program) (nt : Nat) (ops : Array Oper) (d : DT) : Bool := P.follows .mixedOrders && chkN P nt ops d false []
end Go.Ab
