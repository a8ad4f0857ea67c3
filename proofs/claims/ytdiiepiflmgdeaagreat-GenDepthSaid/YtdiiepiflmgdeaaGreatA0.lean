/- Keys and tables: a table of things by keys, and its laws. -/
import GoSem.Core.Code
namespace Go.Ab

inductive K where | z | a (k : K) | b (k : K) | c (k : K) | d (k : K)
  deriving DecidableEq

inductive T (α : Type) where
  | leaf
  | node (v : Option α) (t1 t2 t3 t4 : T α)

noncomputable def K.succ (k : K) : K := K.rec (motive := fun _ => K) (.a .z) (fun k _ => .b k) (fun k _ => .c k) (fun k _ => .d k) (fun _ ih => .a ih) k
def K.num : K → Nat
  | .z => 0
  | .a k => 4 * num k + 1
  | .b k => 4 * num k + 2
  | .c k => 4 * num k + 3
  | .d k => 4 * num k + 4
noncomputable def K.add (k : K) (n : Nat) : K := Nat.rec (motive := fun _ => K) k (fun _ ih => ih.succ) n

namespace K
@[simp] theorem num_z : num .z = 0 := rfl
@[simp] theorem num_a (k : K) : num (.a k) = 4 * num k + 1 := rfl
@[simp] theorem num_b (k : K) : num (.b k) = 4 * num k + 2 := rfl
@[simp] theorem num_c (k : K) : num (.c k) = 4 * num k + 3 := rfl
@[simp] theorem num_d (k : K) : num (.d k) = 4 * num k + 4 := rfl
@[simp] theorem num_succ (k : K) : num k.succ = num k + 1 := by
  induction k with
  | z => rfl
  | a k _ => rfl
  | b k _ => rfl
  | c k _ => rfl
  | d k ih =>
    have : succ (.d k) = .a (succ k) := rfl
    rw [this, num_a, num_d, ih]
    omega
@[simp] theorem num_add (k : K) (n : Nat) : num (k.add n) = num k + n := by
  induction n with
  | zero => rfl
  | succ n ih =>
    have : k.add (n + 1) = (k.add n).succ := rfl
    rw [this, num_succ, ih]
    omega
theorem num_inj {k l : K} (h : num k = num l) : k = l := by
  induction k generalizing l with
  | z => cases l <;> simp at h <;> first | rfl | omega
  | a k ih => cases l <;> simp at h <;> first | omega | (exact congrArg K.a (ih (by omega)))
  | b k ih => cases l <;> simp at h <;> first | omega | (exact congrArg K.b (ih (by omega)))
  | c k ih => cases l <;> simp at h <;> first | omega | (exact congrArg K.c (ih (by omega)))
  | d k ih => cases l <;> simp at h <;> first | omega | (exact congrArg K.d (ih (by omega)))
end K

namespace T
variable {α : Type}
def val (t : T α) : Option α := T.casesOn t none (fun v _ _ _ _ => v)
def k1 (t : T α) : T α := T.casesOn t .leaf (fun _ x _ _ _ => x)
def k2 (t : T α) : T α := T.casesOn t .leaf (fun _ _ x _ _ => x)
def k3 (t : T α) : T α := T.casesOn t .leaf (fun _ _ _ x _ => x)
def k4 (t : T α) : T α := T.casesOn t .leaf (fun _ _ _ _ x => x)

noncomputable def get (k : K) (t : T α) : Option α :=
  K.rec (motive := fun _ => T α → Option α) (fun t => t.val) (fun _ ih t => ih t.k1) (fun _ ih t => ih t.k2) (fun _ ih t => ih t.k3) (fun _ ih t => ih t.k4) k t

/- the result of a step is looked at before it is put in its place: so no row of delayed steps grows -/
def put1 (v : Option α) (x t2 t3 t4 : T α) : T α := T.casesOn x (.node v .leaf t2 t3 t4) (fun u x1 x2 x3 x4 => .node v (.node u x1 x2 x3 x4) t2 t3 t4)
def put2 (v : Option α) (t1 x t3 t4 : T α) : T α := T.casesOn x (.node v t1 .leaf t3 t4) (fun u x1 x2 x3 x4 => .node v t1 (.node u x1 x2 x3 x4) t3 t4)
def put3 (v : Option α) (t1 t2 x t4 : T α) : T α := T.casesOn x (.node v t1 t2 .leaf t4) (fun u x1 x2 x3 x4 => .node v t1 t2 (.node u x1 x2 x3 x4) t4)
def put4 (v : Option α) (t1 t2 t3 x : T α) : T α := T.casesOn x (.node v t1 t2 t3 .leaf) (fun u x1 x2 x3 x4 => .node v t1 t2 t3 (.node u x1 x2 x3 x4))
theorem put1_eq (v : Option α) (x t2 t3 t4 : T α) : put1 v x t2 t3 t4 = .node v x t2 t3 t4 := by cases x <;> rfl
theorem put2_eq (v : Option α) (t1 x t3 t4 : T α) : put2 v t1 x t3 t4 = .node v t1 x t3 t4 := by cases x <;> rfl
theorem put3_eq (v : Option α) (t1 t2 x t4 : T α) : put3 v t1 t2 x t4 = .node v t1 t2 x t4 := by cases x <;> rfl
theorem put4_eq (v : Option α) (t1 t2 t3 x : T α) : put4 v t1 t2 t3 x = .node v t1 t2 t3 x := by cases x <;> rfl

noncomputable def set (k : K) (u : α) (t : T α) : T α :=
  K.rec (motive := fun _ => T α → T α)
    (fun t => T.casesOn t (.node (some u) .leaf .leaf .leaf .leaf) (fun _ t1 t2 t3 t4 => .node (some u) t1 t2 t3 t4))
    (fun _ ih t => T.casesOn t (put1 none (ih .leaf) .leaf .leaf .leaf) (fun v t1 t2 t3 t4 => put1 v (ih t1) t2 t3 t4))
    (fun _ ih t => T.casesOn t (put2 none .leaf (ih .leaf) .leaf .leaf) (fun v t1 t2 t3 t4 => put2 v t1 (ih t2) t3 t4))
    (fun _ ih t => T.casesOn t (put3 none .leaf .leaf (ih .leaf) .leaf) (fun v t1 t2 t3 t4 => put3 v t1 t2 (ih t3) t4))
    (fun _ ih t => T.casesOn t (put4 none .leaf .leaf .leaf (ih .leaf)) (fun v t1 t2 t3 t4 => put4 v t1 t2 t3 (ih t4)))
    k t

theorem get_z (t : T α) : get .z t = t.val := rfl
theorem get_a (k : K) (t : T α) : get (.a k) t = get k t.k1 := rfl
theorem get_b (k : K) (t : T α) : get (.b k) t = get k t.k2 := rfl
theorem get_c (k : K) (t : T α) : get (.c k) t = get k t.k3 := rfl
theorem get_d (k : K) (t : T α) : get (.d k) t = get k t.k4 := rfl
theorem set_z (u : α) (t : T α) : set .z u t = .node (some u) t.k1 t.k2 t.k3 t.k4 := by cases t <;> rfl
theorem set_a (k : K) (u : α) (t : T α) : set (.a k) u t = .node t.val (set k u t.k1) t.k2 t.k3 t.k4 := by
  cases t with
  | leaf => exact put1_eq _ _ _ _ _
  | node v t1 t2 t3 t4 => exact put1_eq _ _ _ _ _
theorem set_b (k : K) (u : α) (t : T α) : set (.b k) u t = .node t.val t.k1 (set k u t.k2) t.k3 t.k4 := by
  cases t with
  | leaf => exact put2_eq _ _ _ _ _
  | node v t1 t2 t3 t4 => exact put2_eq _ _ _ _ _
theorem set_c (k : K) (u : α) (t : T α) : set (.c k) u t = .node t.val t.k1 t.k2 (set k u t.k3) t.k4 := by
  cases t with
  | leaf => exact put3_eq _ _ _ _ _
  | node v t1 t2 t3 t4 => exact put3_eq _ _ _ _ _
theorem set_d (k : K) (u : α) (t : T α) : set (.d k) u t = .node t.val t.k1 t.k2 t.k3 (set k u t.k4) := by
  cases t with
  | leaf => exact put4_eq _ _ _ _ _
  | node v t1 t2 t3 t4 => exact put4_eq _ _ _ _ _

@[simp] theorem get_leaf (k : K) : get k (.leaf : T α) = none := by
  induction k with
  | z => rfl
  | a k ih => exact ih
  | b k ih => exact ih
  | c k ih => exact ih
  | d k ih => exact ih

theorem get_set (k l : K) (u : α) (t : T α) : get l (set k u t) = if l = k then some u else get l t := by
  induction k generalizing l t with
  | z => cases l <;> simp [set_z, get_z, get_a, get_b, get_c, get_d, val, k1, k2, k3, k4]
  | a k ih => cases l <;> simp [set_a, get_z, get_a, get_b, get_c, get_d, val, k1, k2, k3, k4, ih]
  | b k ih => cases l <;> simp [set_b, get_z, get_a, get_b, get_c, get_d, val, k1, k2, k3, k4, ih]
  | c k ih => cases l <;> simp [set_c, get_z, get_a, get_b, get_c, get_d, val, k1, k2, k3, k4, ih]
  | d k ih => cases l <;> simp [set_d, get_z, get_a, get_b, get_c, get_d, val, k1, k2, k3, k4, ih]

@[simp] theorem get_set_same (k : K) (u : α) (t : T α) : get k (set k u t) = some u := by simp [get_set]
theorem get_set_ne {k l : K} (h : l ≠ k) (u : α) (t : T α) : get l (set k u t) = get l t := by simp [get_set, h]

theorem set_set (k : K) (u v : α) (t : T α) : set k u (set k v t) = set k u t := by
  induction k generalizing t with
  | z => simp [set_z, k1, k2, k3, k4]
  | a k ih => simp [set_a, val, k1, k2, k3, k4, ih]
  | b k ih => simp [set_b, val, k1, k2, k3, k4, ih]
  | c k ih => simp [set_c, val, k1, k2, k3, k4, ih]
  | d k ih => simp [set_d, val, k1, k2, k3, k4, ih]

theorem set_comm {k l : K} (h : k ≠ l) (u v : α) (t : T α) : set k u (set l v t) = set l v (set k u t) := by
  induction k generalizing l t with
  | z => cases l <;> simp_all [set_z, set_a, set_b, set_c, set_d, val, k1, k2, k3, k4]
  | a k ih => cases l <;> simp_all [set_z, set_a, set_b, set_c, set_d, val, k1, k2, k3, k4]
  | b k ih => cases l <;> simp_all [set_z, set_a, set_b, set_c, set_d, val, k1, k2, k3, k4]
  | c k ih => cases l <;> simp_all [set_z, set_a, set_b, set_c, set_d, val, k1, k2, k3, k4]
  | d k ih => cases l <;> simp_all [set_z, set_a, set_b, set_c, set_d, val, k1, k2, k3, k4]
end T
end Go.Ab
