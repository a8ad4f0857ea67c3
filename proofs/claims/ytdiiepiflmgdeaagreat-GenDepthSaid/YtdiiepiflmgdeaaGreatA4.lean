/- What ties an abstract state to a world of the model: the map of blocks, the relation of values, of objects, of heaps. -/
import Derived.Test.YtdiiepiflmgdeaaGreatA3
import Derived.Below
import Derived.Laws.Sem
import Derived.RangeFuncLeaves
namespace Go.Ab
open Go.RowKit (Below)

structure M where
  r : K → Option (Nat × Nat × Nat)
  imm : Nat → Nat → Option Value
  rho : Nat → Nat                    -- the choices

structure M.le (m m' : M) : Prop where
  r : ∀ b x, m.r b = some x → m'.r b = some x
  imm : ∀ B o v, m.imm B o = some v → m'.imm B o = some v
  rho : m'.rho = m.rho
theorem M.le.refl (m : M) : m.le m := ⟨fun _ _ h => h, fun _ _ _ h => h, rfl⟩
theorem M.le.trans {a b c : M} (h : a.le b) (k : b.le c) : a.le c := ⟨fun _ _ x => k.r _ _ (h.r _ _ x), fun _ _ _ x => k.imm _ _ _ (h.imm _ _ _ x), k.rho.trans h.rho⟩

structure Imm (m : M) (a : Addr) (cs : List Value) : Prop where
  spot : a.spot = none
  at_ : ∀ i v, cs[i]? = some v → m.imm a.block (a.off + i) = some v

mutual
def Rel (m : M) : AV → Value → Prop
  | .int k n, v => v = .int k n
  | .res k q r, v => ∃ n : Nat, v = .int k (Int.ofNat n) ∧ n % q = r
  | .bool b, v => v = .bool b
  | .str n c, v => ∃ s : ByteArray, v = .string s ∧ s.size = n ∧ codeL s.data.toList = c
  | .flt k x, v => v = .float k x
  | .cplx k x y, v => v = .complex k x y
  | .ptr b o, v => ∃ B d E, m.r b = some (B, d, E) ∧ v = .pointer (some ⟨B, d + o, none⟩)
  | .vptr l, v => ∃ a cs, v = .pointer (some a) ∧ RelL m l cs ∧ Imm m a cs
  | .nilp, v => v = .pointer none
  | .slice b o n c, v => ∃ B d E, m.r b = some (B, d, E) ∧ v = .slice (some ⟨B, d + o, none⟩) n c
  | .oslice b o n sz, v => ∃ B d E c, m.r b = some (B, d, E) ∧ v = .slice (some ⟨B, d + o, none⟩) n c ∧ n ≤ c ∧ o + c * sz = E
  | .vslice l n ex, v => ∃ a c cs, v = .slice (some a) n c ∧ n ≤ c ∧ (ex = true → c = n) ∧ RelL m l cs ∧ Imm m a cs
  | .nils, v => v = .slice none 0 0
  | .map b, v => ∃ B d E, m.r b = some (B, d, E) ∧ v = .map (some B)
  | .nilm, v => v = .map none
  | .func f a b, v => ∃ as bs, v = .func (.func f) as bs ∧ RelL m a as.toList ∧ RelL m b bs.toList
  | .yield b, v => ∃ B d E, m.r b = some (B, d, E) ∧ v = .func (.yield B) #[] #[]
  | .nilf, v => v = .nilFunc
  | .nili, v => v = .nilIface
  | .iface t x, v => ∃ y, v = .iface t y ∧ Rel m x y
  | .agg l, v => ∃ cs, v = .agg cs ∧ RelL m l cs.toList
  | .tuple l, v => ∃ cs, v = .tuple cs ∧ RelL m l cs.toList
  | .tab i l, v => v.oneCell' = true ∧ RelN m (m.rho i) l v
def RelL (m : M) : List AV → List Value → Prop
  | [], vs => vs = []
  | x :: l, vs => ∃ v ws, vs = v :: ws ∧ Rel m x v ∧ RelL m l ws
def RelN (m : M) : Nat → List AV → Value → Prop
  | _, [], _ => False
  | 0, x :: _, v => Rel m x v
  | n + 1, _ :: l, v => RelN m n l v
end

theorem Imm.mono {m m' : M} (h : m.le m') {a : Addr} {cs : List Value} (k : Imm m a cs) : Imm m' a cs := ⟨k.spot, fun i v hi => h.imm _ _ _ (k.at_ i v hi)⟩

mutual
theorem Rel.mono {m m' : M} (h : m.le m') : ∀ (x : AV) (v : Value), Rel m x v → Rel m' x v
  | .int _ _, _, r | .bool _, _, r | .flt _ _, _, r | .cplx _ _ _, _, r | .nilp, _, r | .nils, _, r | .nilm, _, r | .nilf, _, r | .nili, _, r | .str _ _, _, r | .res _ _ _, _, r => by
    simp only [Rel] at *; exact r
  | .ptr _ _, _, r | .slice _ _ _ _, _, r | .map _, _, r | .yield _, _, r => by
    simp only [Rel] at *
    obtain ⟨B, d, E, hr, hv⟩ := r
    exact ⟨B, d, E, h.r _ _ hr, hv⟩
  | .oslice _ _ _ _, _, r => by
    simp only [Rel] at *
    obtain ⟨B, d, E, c, hr, hv⟩ := r
    exact ⟨B, d, E, c, h.r _ _ hr, hv⟩
  | .vptr l, _, r => by
    simp only [Rel] at *
    obtain ⟨a, cs, hv, hl, hi⟩ := r
    exact ⟨a, cs, hv, RelL.mono h l cs hl, hi.mono h⟩
  | .vslice l _ _, _, r => by
    simp only [Rel] at *
    obtain ⟨a, c, cs, hv, h1, h2, hl, hi⟩ := r
    exact ⟨a, c, cs, hv, h1, h2, RelL.mono h l cs hl, hi.mono h⟩
  | .func _ a b, _, r => by
    simp only [Rel] at *
    obtain ⟨as, bs, hv, h1, h2⟩ := r
    exact ⟨as, bs, hv, RelL.mono h a _ h1, RelL.mono h b _ h2⟩
  | .iface _ x, _, r => by
    simp only [Rel] at *
    obtain ⟨y, hv, h1⟩ := r
    exact ⟨y, hv, Rel.mono h x y h1⟩
  | .agg l, _, r | .tuple l, _, r => by
    simp only [Rel] at *
    obtain ⟨cs, hv, h1⟩ := r
    exact ⟨cs, hv, RelL.mono h l _ h1⟩
  | .tab i l, _, r => by
    simp only [Rel] at *
    rw [h.rho]
    exact ⟨r.1, RelN.mono h _ l _ r.2⟩
theorem RelL.mono {m m' : M} (h : m.le m') : ∀ (l : List AV) (vs : List Value), RelL m l vs → RelL m' l vs
  | [], _, r => by simp only [RelL] at *; exact r
  | x :: l, _, r => by
    simp only [RelL] at *
    obtain ⟨v, ws, he, h1, h2⟩ := r
    exact ⟨v, ws, he, Rel.mono h x v h1, RelL.mono h l ws h2⟩
theorem RelN.mono {m m' : M} (h : m.le m') : ∀ (n : Nat) (l : List AV) (v : Value), RelN m n l v → RelN m' n l v
  | _, [], _, r => by simp only [RelN] at r
  | 0, x :: l, v, r => by
    simp only [RelN] at *
    exact Rel.mono h x v r
  | n + 1, x :: l, v, r => by
    simp only [RelN] at *
    exact RelN.mono h n l v r
end
theorem RelN.get {m : M} : ∀ {n : Nat} {l : List AV} {v : Value}, RelN m n l v → ∃ x, l[n]? = some x ∧ Rel m x v
  | _, [], _, r => by simp only [RelN] at r
  | 0, x :: l, v, r => by simp only [RelN] at r; exact ⟨x, rfl, r⟩
  | n + 1, x :: l, v, r => by simp only [RelN] at r; simpa using RelN.get r
theorem RelN.mk {m : M} : ∀ {n : Nat} {l : List AV} {v : Value} {x : AV}, l[n]? = some x → Rel m x v → RelN m n l v
  | _, [], _, _, hx, _ => by simp at hx
  | 0, y :: l, v, x, hx, r => by simp at hx; subst hx; simp only [RelN]; exact r
  | n + 1, y :: l, v, x, hx, r => by simp only [RelN]; exact RelN.mk (by simpa using hx) r

section lists
variable {m : M}
theorem RelL.length : ∀ {l : List AV} {vs : List Value}, RelL m l vs → vs.length = l.length
  | [], vs, h => by simp only [RelL] at h; simp [h]
  | x :: l, vs, h => by
    simp only [RelL] at h
    obtain ⟨v, ws, rfl, _, h2⟩ := h
    simp [RelL.length h2]
theorem RelL.get : ∀ {l : List AV} {vs : List Value}, RelL m l vs → ∀ (i : Nat) (x : AV), l[i]? = some x → ∃ v, vs[i]? = some v ∧ Rel m x v
  | [], vs, h, i, x, hx => by simp at hx
  | y :: l, vs, h, i, x, hx => by
    simp only [RelL] at h
    obtain ⟨v, ws, rfl, h1, h2⟩ := h
    cases i with
    | zero => simp at hx; subst hx; exact ⟨v, rfl, h1⟩
    | succ i => simpa using RelL.get h2 i x (by simpa using hx)
theorem RelL.of_get : ∀ {l : List AV} {vs : List Value}, vs.length = l.length → (∀ (i : Nat) (x : AV), l[i]? = some x → ∃ v, vs[i]? = some v ∧ Rel m x v) → RelL m l vs
  | [], vs, hl, _ => by simp only [RelL]; simpa using hl
  | y :: l, [], hl, _ => by simp at hl
  | y :: l, v :: vs, hl, h => by
    simp only [RelL]
    refine ⟨v, vs, rfl, ?_, RelL.of_get (by simpa using hl) fun i x hx => ?_⟩
    · obtain ⟨u, hu, hr⟩ := h 0 y rfl
      simp at hu; subst hu; exact hr
    · simpa using h (i + 1) x (by simpa using hx)
theorem RelL.append {l k : List AV} {vs us : List Value} (h : RelL m l vs) (h' : RelL m k us) : RelL m (l ++ k) (vs ++ us) := by
  refine RelL.of_get (by simp [h.length, h'.length]) fun i x hx => ?_
  rcases Nat.lt_or_ge i l.length with hi | hi
  · rw [List.getElem?_append_left hi] at hx
    rw [List.getElem?_append_left (by rw [h.length]; exact hi)]
    exact h.get i x hx
  · rw [List.getElem?_append_right hi] at hx
    rw [List.getElem?_append_right (by rw [h.length]; exact hi), h.length]
    exact h'.get _ x hx
theorem RelL.drop {l : List AV} {vs : List Value} (n : Nat) (h : RelL m l vs) : RelL m (l.drop n) (vs.drop n) := by
  refine RelL.of_get (by simp [h.length]) fun i x hx => ?_
  simp only [List.getElem?_drop] at *
  exact h.get _ x hx
theorem RelL.take {l : List AV} {vs : List Value} (n : Nat) (h : RelL m l vs) : RelL m (l.take n) (vs.take n) := by
  refine RelL.of_get (by simp [h.length]) fun i x hx => ?_
  simp only [List.getElem?_take] at *
  by_cases hi : i < n
  · simp only [hi, if_true] at *; exact h.get _ x hx
  · simp [hi] at hx
end lists

theorem Imm.drop {m : M} {a : Addr} {cs : List Value} (h : Imm m a cs) (n : Nat) : Imm m (a.add n) (cs.drop n) := by
  unfold Addr.add
  by_cases hn : n = 0
  · simp [hn]; exact h
  · simp only [hn, if_false]
    refine ⟨rfl, fun i v hi => ?_⟩
    simp only [List.getElem?_drop] at hi
    have := h.at_ (n + i) v hi
    simpa [Nat.add_assoc] using this

/-! ### registers -/
def RegsRel (m : M) (nt : Nat) (R : T AV) (tmps : Array Value) : Prop :=
  nt ≤ tmps.size ∧ ∀ k : K, k.num < nt → Rel m ((R.get k).getD undef) (tmps.getD k.num Go.undef)

theorem RegsRel.mono {m m' : M} (h : m.le m') {nt : Nat} {R : T AV} {tmps : Array Value} (r : RegsRel m nt R tmps) : RegsRel m' nt R tmps :=
  ⟨r.1, fun k hk => (r.2 k hk).mono h⟩

/-! ### the abstract code stands for the code -/
def chkCode (P : Program) (nt : Nat) (cd : Array Oper → DT → Bool) : Code → ACode → Bool
  | .skip, .skip => true
  | .region _ ops false, .region _ l => chkSteps P nt ops ops.toList l
  | .region _ ops true, .draw _ d => cd ops d
  | .seq a b, .seq x y => chkCode P nt cd a x && chkCode P nt cd b y
  | .cond c a b, .cond d x y => chkOpd nt c d && chkCode P nt cd a x && chkCode P nt cd b y
  | .block i a, .block j x => Nat.beq i j && chkCode P nt cd a x
  | .loop a, .loop x => chkCode P nt cd a x
  | .rangeFunc f ps a b, .rangeFunc g ks x y => chkOpd nt f g && chkKs nt ps.toList ks && chkCode P nt cd a x && chkCode P nt cd b y
  | .exit i, .exit j => Nat.beq i j
  | .scope a, .scope x y => chkCode P nt cd a x && chkCode P nt cd a y
  | .label i, .label j => Nat.beq i j
  | .goto i, .goto j => Nat.beq i j
  | .ret, .ret => true
  | _, _ => false

/-! ### objects, heaps -/
def EsRel (m : M) (es : List (AV × AV × Nat)) (fs : List MapEntry) : Prop :=
  RelL m (es.map (·.1)) (fs.map (·.key)) ∧ RelL m (es.map (·.2.1)) (fs.map (·.val)) ∧ es.map (·.2.2) = fs.map (·.born)

def PendRel : AExit → Option Code → Prop
  | .normal, c => c = none
  | .ret, c => c = some .ret
  | .exit i, c => c = some (.exit i)
  | .goto l, c => c = some (.goto l)

def ObjRel (P : Program) (cd : Nat → Array Oper → DT → Bool) (m : M) : AObj → Nat → Nat → Nat → World → Prop
  | .cells l, B, d, E, w => ∃ c el, w.heap[B]? = some (.cells c el (0, 0)) ∧ d + E ≤ c.size ∧ l.length ≤ E ∧
      ∀ i x, l[i]? = some x → ∃ v, c[d + i]? = some v ∧ Rel m x v
  | .map es clock, B, _, _, w => ∃ fs, w.heap[B]? = some (.map fs clock) ∧ EsRel m es fs.toList
  | .iter none since seen stepped, B, d, _, w => d = 0 ∧ w.heap[B]? = some (.mapIter none since seen.toArray stepped)
  | .iter (some b) since seen stepped, B, d, _, w => d = 0 ∧ ∃ B' d' E', m.r b = some (B', d', E') ∧ w.heap[B]? = some (.mapIter (some B') since seen.toArray stepped)
  | .loop st pend R params assign body, B, _, _, w => ∃ r nt, w.heap[B]? = some (.loop r) ∧ r.state = st ∧ PendRel pend r.pending ∧ RegsRel m nt R r.tmps ∧
      chkKs nt r.params.toList params = true ∧ chkCode P nt (cd nt) r.assign assign = true ∧ chkCode P nt (cd nt) r.body body = true
  | .defs, B, _, _, w => w.heap[B]? = some (.deferred (some []))
  | .dead, _, _, _, _ => True

def live : AObj → Bool
  | .dead => false
  | _ => true

/- what is held fixed: the world at the beginning; the names of objects that are not there yet -/
structure Frz where
  w : World
  G : K → Prop
  as : (Nat → Nat) → Prop          -- what is known of the choices

structure Sim (P : Program) (cd : Nat → Array Oper → DT → Bool) (B0 : Nat) (w0 : Frz) (m : M) (H : T AObj) (w : World) : Prop where
  below : Below B0 w0.w w
  base : B0 ≤ w.heap.size
  obj : ∀ b o, H.get b = some o → ∀ B d E, m.r b = some (B, d, E) → ObjRel P cd m o B d E w
  own : ∀ b o, H.get b = some o → live o = true → ∀ B d E, m.r b = some (B, d, E) → B0 ≤ B
  inj : ∀ b o, H.get b = some o → live o = true → ∀ b' o', H.get b' = some o' → live o' = true → ∀ B d E d' E', m.r b = some (B, d, E) → m.r b' = some (B, d', E') → b = b'
  imm : ∀ B o v, m.imm B o = some v → w.cell? ⟨B, o, none⟩ = some v
  apart : ∀ b o, H.get b = some o → live o = true → ∀ B d E, m.r b = some (B, d, E) → ∀ i, m.imm B i = none
  dom : ∀ b, H.get b = none → m.r b = none
  rsv : ∀ b, w0.G b → m.r b = none ∧ H.get b ≠ none
  asm : w0.as m.rho

theorem EsRel.mono {m m' : M} (h : m.le m') {es : List (AV × AV × Nat)} {fs : List MapEntry} (k : EsRel m es fs) : EsRel m' es fs :=
  ⟨k.1.mono h, k.2.1.mono h, k.2.2⟩

/- what is said of an object speaks of its own block alone -/
theorem ObjRel.block {P : Program} {cd : Nat → Array Oper → DT → Bool} {m m' : M} (h : m.le m') {o : AObj} {B d E : Nat} {w w' : World} (hb : w'.heap[B]? = w.heap[B]?)
    (k : ObjRel P cd m o B d E w) : ObjRel P cd m' o B d E w' := by
  cases o with
  | cells l =>
    obtain ⟨c, el, h1, h2, h3, h5⟩ := k
    exact ⟨c, el, hb.trans h1, h2, h3, fun i x hx => let ⟨v, a, b⟩ := h5 i x hx; ⟨v, a, b.mono h⟩⟩
  | map es clock =>
    obtain ⟨fs, h1, h2⟩ := k
    exact ⟨fs, hb.trans h1, h2.mono h⟩
  | iter b since seen stepped =>
    cases b with
    | none => exact ⟨k.1, hb.trans k.2⟩
    | some b =>
      obtain ⟨hd, B', d', E', h1, h2⟩ := k
      exact ⟨hd, B', d', E', h.r _ _ h1, hb.trans h2⟩
  | loop st pend R params assign body =>
    obtain ⟨r, nt, h1, h2, h3, h4, h5⟩ := k
    exact ⟨r, nt, hb.trans h1, h2, h3, h4.mono h, h5⟩
  | defs => exact hb.trans k
  | dead => trivial

section sim
variable {P : Program} {cd : Nat → Array Oper → DT → Bool} {B0 : Nat} {w0 : Frz} {m : M} {H : T AObj} {w : World}

/- a draw -/
theorem Sim.drew (h : Sim P cd B0 w0 m H w) : Sim P cd B0 w0 m H w.drew :=
  ⟨h.below.drew, h.base, fun b o hb B d E hr => (h.obj b o hb B d E hr).block (M.le.refl m) (show w.drew.heap[B]? = w.heap[B]? from rfl), h.own, h.inj, h.imm, h.apart, h.dom, h.rsv, h.asm⟩

/- a new object, laid in a new block -/
def M.new (m : M) (id : K) (x : Nat × Nat × Nat) : M := { m with r := fun b => if b = id then some x else m.r b }
theorem M.le_new (m : M) {id : K} (x : Nat × Nat × Nat) (h : m.r id = none) : m.le (m.new id x) := by
  refine ⟨fun b y hb => ?_, fun _ _ _ h => h, rfl⟩
  have : b ≠ id := fun e => by rw [e, h] at hb; cases hb
  simp [M.new, this, hb]
theorem M.new_same (m : M) (id : K) (x : Nat × Nat × Nat) : (m.new id x).r id = some x := by simp [M.new]

theorem Sim.alloc (h : Sim P cd B0 w0 m H w) {id : K} {o : AObj} {ob : Obj} {d E : Nat} (hid : m.r id = none) (hG : ¬ w0.G id)
    (hob : ObjRel P cd (m.new id (w.heap.size, d, E)) o w.heap.size d E (w.alloc ob)) : Sim P cd B0 w0 (m.new id (w.heap.size, d, E)) (H.set id o) (w.alloc ob) := by
  have hle := M.le_new m (w.heap.size, d, E) hid
  have old : ∀ B, B < w.heap.size → (w.alloc ob).heap[B]? = w.heap[B]? := fun B hB => Below.heap_alloc w ob B hB
  have used : ∀ b o, H.get b = some o → live o = true → ∀ B d E, m.r b = some (B, d, E) → B < w.heap.size := by
    intro b o hb hl B d E hr
    have k := h.obj b o hb B d E hr
    have : ∃ x, w.heap[B]? = some x := by
      cases o with
      | cells l => obtain ⟨c, el, h1, _⟩ := k; exact ⟨_, h1⟩
      | map es clock => obtain ⟨fs, h1, _⟩ := k; exact ⟨_, h1⟩
      | iter b since seen stepped => cases b with
        | none => exact ⟨_, k.2⟩
        | some b => obtain ⟨_, B', d', E', _, h2⟩ := k; exact ⟨_, h2⟩
      | loop st pend R params assign body => obtain ⟨r, nt, h1, _⟩ := k; exact ⟨_, h1⟩
      | defs => exact ⟨_, k⟩
      | dead => simp [live] at hl
    obtain ⟨x, hx⟩ := this
    exact (Array.getElem?_eq_some_iff.1 hx).1
  have immlt : ∀ B i v, m.imm B i = some v → B < w.heap.size := fun B i v hi => World.block_lt_of_cell? w ⟨B, i, none⟩ (h.imm B i v hi)
  have getr : ∀ b x, (m.new id (w.heap.size, d, E)).r b = some x → b = id ∧ x = (w.heap.size, d, E) ∨ b ≠ id ∧ m.r b = some x := by
    intro b x hb
    by_cases e : b = id
    · subst e; rw [M.new_same] at hb; injection hb with hb; exact .inl ⟨rfl, hb.symm⟩
    · simp [M.new, e] at hb; exact .inr ⟨e, hb⟩
  refine ⟨h.below.alloc h.base ob, ?_, ?_, ?_, ?_, ?_, ?_, ?_, ?_, h.asm⟩
  · have := h.base; simp; omega
  · intro b o' hb B d' E' hr
    rcases getr b _ hr with ⟨rfl, hx⟩ | ⟨hne, hr'⟩
    · injection hx with e1 e2; injection e2 with e2 e3; subst e1 e2 e3
      rw [T.get_set_same] at hb; injection hb with hb; subst hb
      exact hob
    · rw [T.get_set_ne hne] at hb
      by_cases hl : live o' = true
      · exact (h.obj b o' hb B d' E' hr').block hle (old B (used b o' hb hl B d' E' hr'))
      · cases o' <;> simp [live] at hl; trivial
  · intro b o' hb hl B d' E' hr
    rcases getr b _ hr with ⟨rfl, hx⟩ | ⟨hne, hr'⟩
    · injection hx with e1 _; subst e1; exact h.base
    · rw [T.get_set_ne hne] at hb; exact h.own b o' hb hl B d' E' hr'
  · intro b o1 hb hl b' o2 hb' hl' B d1 E1 d2 E2 hr hr'
    rcases getr b _ hr with ⟨rfl, hx⟩ | ⟨hne, hr1⟩
    · injection hx with e1 _
      rcases getr b' _ hr' with ⟨rfl, _⟩ | ⟨hne', hr2⟩
      · rfl
      · rw [T.get_set_ne hne'] at hb'
        have := used b' o2 hb' hl' B d2 E2 hr2
        omega
    · rw [T.get_set_ne hne] at hb
      have hB := used b o1 hb hl B d1 E1 hr1
      rcases getr b' _ hr' with ⟨rfl, hx⟩ | ⟨hne', hr2⟩
      · injection hx with e1 _; omega
      · rw [T.get_set_ne hne'] at hb'
        exact h.inj b o1 hb hl b' o2 hb' hl' B d1 E1 d2 E2 hr1 hr2
  · intro B i v hi
    have := immlt B i v hi
    rw [World.cell?_alloc_lt w ob ⟨B, i, none⟩ this]
    exact h.imm B i v hi
  · intro b o' hb hl B d' E' hr i
    rcases getr b _ hr with ⟨rfl, hx⟩ | ⟨hne, hr'⟩
    · injection hx with e1 _; subst e1
      cases hi : m.imm w.heap.size i with
      | none => exact hi
      | some v => exact absurd (immlt _ _ _ hi) (Nat.lt_irrefl _)
    · rw [T.get_set_ne hne] at hb; exact h.apart b o' hb hl B d' E' hr' i
  · intro b hb
    have hne : b ≠ id := fun e => by rw [e, T.get_set_same] at hb; cases hb
    rw [T.get_set_ne hne] at hb
    simp [M.new, hne, h.dom b hb]
  · intro b hb
    have hne : b ≠ id := fun e => hG (e ▸ hb)
    refine ⟨by simp [M.new, hne, (h.rsv b hb).1], ?_⟩
    rw [T.get_set_ne hne]; exact (h.rsv b hb).2

theorem set_keeps {H : T AObj} {id b : K} {o : AObj} (h : H.get b ≠ none) : (H.set id o).get b ≠ none := by
  rw [T.get_set]; split
  · intro h; cases h
  · exact h

theorem Sim.fresh (h : Sim P cd B0 w0 m H w) {id : K} (hn : H.get id = none) : ¬ w0.G id := fun hg => (h.rsv id hg).2 hn

theorem Sim.weaken (h : Sim P cd B0 w0 m H w) {G : K → Prop} (hG : ∀ b, G b → w0.G b) : Sim P cd B0 ⟨w0.w, G, w0.as⟩ m H w :=
  ⟨h.below, h.base, h.obj, h.own, h.inj, h.imm, h.apart, h.dom, fun b hb => h.rsv b (hG b hb), h.asm⟩

/- one object turns, in its own block -/
theorem Sim.turn (h : Sim P cd B0 w0 m H w) {id : K} {o o' : AObj} {B d E : Nat} (hid : H.get id = some o) (hl : live o = true) (hr : m.r id = some (B, d, E)) {w' : World}
    (hbelow : ∀ k, k ≠ B → w'.heap[k]? = w.heap[k]?) (hos : w'.os = w.os) (htape : w'.tape = w.tape) (hout : w'.output = w.output) (hsz : w'.heap.size = w.heap.size)
    (hob : ObjRel P cd m o' B d E w') : Sim P cd B0 w0 m (H.set id o') w' := by
  have hB0 := h.own id o hid hl B d E hr
  refine ⟨h.below.trans ⟨hos, htape, hout, by omega, fun k hk => hbelow k (by omega)⟩, by have := h.base; omega, ?_, ?_, ?_, ?_, ?_, ?_, ?_, h.asm⟩
  · intro b o1 hb B1 d1 E1 hr1
    by_cases e : b = id
    · subst e
      rw [hr] at hr1; injection hr1 with hr1; injection hr1 with e1 e2; injection e2 with e2 e3; subst e1 e2 e3
      rw [T.get_set_same] at hb; injection hb with hb; subst hb
      exact hob
    · rw [T.get_set_ne e] at hb
      by_cases hl1 : live o1 = true
      · refine (h.obj b o1 hb B1 d1 E1 hr1).block (M.le.refl m) (hbelow B1 fun eB => ?_)
        subst eB
        exact e (h.inj b o1 hb hl1 id o hid hl B1 d1 E1 d E hr1 hr)
      · cases o1 <;> simp [live] at hl1; trivial
  · intro b o1 hb hl1 B1 d1 E1 hr1
    by_cases e : b = id
    · subst e; rw [hr] at hr1; injection hr1 with hr1; injection hr1 with e1 _; omega
    · rw [T.get_set_ne e] at hb; exact h.own b o1 hb hl1 B1 d1 E1 hr1
  · intro b o1 hb hl1 b' o2 hb' hl2 B1 d1 E1 d2 E2 hr1 hr2
    by_cases e : b = id
    · by_cases e' : b' = id
      · rw [e, e']
      · subst e
        rw [T.get_set_ne e'] at hb'
        exact h.inj b o hid hl b' o2 hb' hl2 B1 d1 E1 d2 E2 hr1 hr2
    · rw [T.get_set_ne e] at hb
      by_cases e' : b' = id
      · subst e'; exact h.inj b o1 hb hl1 b' o hid hl B1 d1 E1 d2 E2 hr1 hr2
      · rw [T.get_set_ne e'] at hb'
        exact h.inj b o1 hb hl1 b' o2 hb' hl2 B1 d1 E1 d2 E2 hr1 hr2
  · intro B1 i v hi
    have hne : B1 ≠ B := fun e => by subst e; rw [h.apart id o hid hl B1 d E hr i] at hi; cases hi
    rw [← h.imm B1 i v hi]
    simp only [World.cell?, hbelow B1 hne]
  · intro b o1 hb hl1 B1 d1 E1 hr1 i
    by_cases e : b = id
    · subst e; exact h.apart b o hid hl B1 d1 E1 hr1 i
    · rw [T.get_set_ne e] at hb; exact h.apart b o1 hb hl1 B1 d1 E1 hr1 i
  · intro b hb
    have hne : b ≠ id := fun e => by rw [e, T.get_set_same] at hb; cases hb
    rw [T.get_set_ne hne] at hb
    exact h.dom b hb
  · exact fun b hb => ⟨(h.rsv b hb).1, set_keeps (h.rsv b hb).2⟩

/- an object is given up -/
theorem Sim.drop (h : Sim P cd B0 w0 m H w) {id : K} {o : AObj} (hid : H.get id = some o) : Sim P cd B0 w0 m (H.set id .dead) w := by
  refine ⟨h.below, h.base, ?_, ?_, ?_, h.imm, ?_, ?_, ?_, h.asm⟩
  · intro b o1 hb B1 d1 E1 hr1
    by_cases e : b = id
    · subst e; rw [T.get_set_same] at hb; injection hb with hb; subst hb; trivial
    · rw [T.get_set_ne e] at hb; exact h.obj b o1 hb B1 d1 E1 hr1
  · intro b o1 hb hl1 B1 d1 E1 hr1
    by_cases e : b = id
    · subst e; rw [T.get_set_same] at hb; injection hb with hb; subst hb; simp [live] at hl1
    · rw [T.get_set_ne e] at hb; exact h.own b o1 hb hl1 B1 d1 E1 hr1
  · intro b o1 hb hl1 b' o2 hb' hl2 B1 d1 E1 d2 E2 hr1 hr2
    by_cases e : b = id
    · subst e; rw [T.get_set_same] at hb; injection hb with hb; subst hb; simp [live] at hl1
    · rw [T.get_set_ne e] at hb
      by_cases e' : b' = id
      · subst e'; rw [T.get_set_same] at hb'; injection hb' with hb'; subst hb'; simp [live] at hl2
      · rw [T.get_set_ne e'] at hb'
        exact h.inj b o1 hb hl1 b' o2 hb' hl2 B1 d1 E1 d2 E2 hr1 hr2
  · intro b o1 hb hl1 B1 d1 E1 hr1 i
    by_cases e : b = id
    · subst e; rw [T.get_set_same] at hb; injection hb with hb; subst hb; simp [live] at hl1
    · rw [T.get_set_ne e] at hb; exact h.apart b o1 hb hl1 B1 d1 E1 hr1 i
  · intro b hb
    have hne : b ≠ id := fun e => by rw [e, T.get_set_same] at hb; cases hb
    rw [T.get_set_ne hne] at hb
    exact h.dom b hb
  · exact fun b hb => ⟨(h.rsv b hb).1, set_keeps (h.rsv b hb).2⟩
end sim
end Go.Ab
