/- Appends, new rows, the bits of a number. -/
import Derived.Test.YtdiiepiflmgdeaaGreatA12
import Derived.Laws.Externs
import Derived.Laws.BytesArg
namespace Go.Ab
open Go.RowKit (Below)


theorem f64_generic : (Extern.allGenericRows.lookup "math.Float64bits").isNone = true := by decide +kernel
theorem f64_typed : (Extern.allTypedRows.lookup "math.Float64bits").isNone = true := by decide +kernel
theorem f64_rows : Extern.allRows.lookup "math.Float64bits" = some Extern.MathFloatBits.float64bits := by rfl
theorem f64_find {fn : Func} (h : fn.name = "math.Float64bits") : Extern.find fn = some Extern.MathFloatBits.float64bits := by
  unfold Extern.find
  simp only [h, f64_rows, Option.isNone_iff_eq_none.1 f64_generic, Option.isNone_iff_eq_none.1 f64_typed]
  rfl

section
variable {P : Program} {cd : Nat → Array Oper → DT → Bool} {B0 : Nat} {w0 : Frz} {m : M} {H H' : T AObj} {w : World} {nt : Nat} {R : T AV} {a : Act} {base : K} {v : AV}

/-! ### append -/
theorem run_firstCells' {size n : Nat} {ad : Addr} {k c : Nat} {vs : List Value} (hl : vs.length = n * size) (h : ∀ j v, vs[j]? = some v → w.cell? (ad.add j) = some v) :
    (Builtin.firstCells size n (.slice (some ad) k c)).run P w = .ok vs.toArray w := by
  have := run_loadCells_list (P := P) w ad vs h
  rw [hl] at this
  simp only [Builtin.firstCells, this]

/- what is appended -/
theorem Sim.src (hS : Sim P cd B0 w0 m H w) {sz n : Nat} {x : AV} {u : Value} {ys : List AV} (h : source sz x H = some (n, ys)) (r : Rel m x u) :
    (Builtin.lenOf u).run P w = .ok n w ∧ ∃ vs : List Value, RelL m ys vs ∧ vs.length = n * sz ∧ ∀ w' : World, (∀ B o v, w.cell? ⟨B, o, none⟩ = some v → w'.cell? ⟨B, o, none⟩ = some v) → (Builtin.firstCells sz n u).run P w' = .ok vs.toArray w' := by
  unfold source at h
  split at h
  · injection h with h; injection h with e1 e2; subst e1 e2
    simp only [Rel] at r; subst r
    exact ⟨rfl, [], by simp only [RelL], by simp, fun w' _ => rfl⟩
  · split at h
    · rename_i b o k c cs hcs
      injection h with h; injection h with e1 e2; subst e1 e2
      simp only [Rel] at r
      obtain ⟨B, d, E, hr, rfl⟩ := r
      obtain ⟨vs, hl, hrel, hcell⟩ := hS.read hcs hr
      exact ⟨rfl, vs, hrel, hl, fun w' hw => run_firstCells' hl fun j v hj => by rw [add_off]; exact hw _ _ _ (hcell j v hj)⟩
    · cases h
  · split at h
    · rename_i b o k c cs hcs
      injection h with h; injection h with e1 e2; subst e1 e2
      simp only [Rel] at r
      obtain ⟨B, d, E, cc, hr, rfl, _⟩ := r
      obtain ⟨vs, hl, hrel, hcell⟩ := hS.read hcs hr
      exact ⟨rfl, vs, hrel, hl, fun w' hw => run_firstCells' hl fun j v hj => by rw [add_off]; exact hw _ _ _ (hcell j v hj)⟩
    · cases h
  · split at h
    · rename_i cs k ex _ cs' hcs
      injection h with h; injection h with e1 e2; subst e1 e2
      simp only [Rel] at r
      obtain ⟨ad, c, us, rfl, _, _, hrel, himm⟩ := r
      rw [takeN_eq] at hcs
      split at hcs
      · rename_i hn
        injection hcs with hcs; subst hcs
        have hlen := hrel.length
        refine ⟨rfl, us.take (k * sz), hrel.take _, by simp; omega, fun w' hw => run_firstCells' (by simp; omega) fun j v hj => ?_⟩
        have hj' : us[j]? = some v := by
          rw [List.getElem?_take] at hj
          split at hj
          · exact hj
          · cases hj
        rw [add_at himm.spot]
        have h1 := hS.readImm himm j v hj'
        rw [add_at himm.spot] at h1
        exact hw _ _ _ h1
      · cases hcs
    · cases h
  · cases h

/- bytes to a text -/
theorem codeB_cons (x : AV) (l : List AV) : codeB (x :: l) = (match x with
    | .int .u8 (.ofNat b) => if Nat.blt b 256 then (match codeB l with
      | some c => frcN (b + 256 * c) some
      | none => none) else none
    | _ => none) := rfl
theorem codeB_rel : ∀ {cs : List AV} {c : Nat} {vs : List Value}, codeB cs = some c → RelL m cs vs → ∃ ns : List Int, vs = ns.map (Value.int .u8) ∧ codeL (ns.map fun n => UInt8.ofNat n.toNat) = c
  | [], c, vs, h, r => by
    have h' : some 0 = some c := h
    injection h' with h'; subst h'
    simp only [RelL] at r; subst r
    exact ⟨[], rfl, rfl⟩
  | x :: l, c, vs, h, r => by
    rw [codeB_cons] at h
    simp only [RelL] at r
    obtain ⟨v, ws, rfl, r1, r2⟩ := r
    split at h
    · rename_i b
      split at h
      · rename_i hb
        split at h
        · rename_i c' hc'
          rw [frcN_eq] at h
          injection h with h; subst h
          obtain ⟨ns, rfl, hns⟩ := codeB_rel hc' r2
          simp only [Rel] at r1; subst r1
          refine ⟨Int.ofNat b :: ns, rfl, ?_⟩
          rw [List.map_cons, codeL_cons, hns]
          have hb' : b < 256 := by simpa [Nat.blt_eq] using hb
          have : (UInt8.ofNat (Int.ofNat b).toNat).toNat = b := by
            show (UInt8.ofNat b).toNat = b
            rw [UInt8.toNat_ofNat']
            exact Nat.mod_eq_of_lt hb'
          rw [this]
        · cases h
      · cases h
    · cases h
theorem Sim.bytes (hS : Sim P cd B0 w0 m H w) {n : Nat} {x : AV} {u : Value} {ys : List AV} (h : source 1 x H = some (n, ys)) (r : Rel m x u) :
    (u = .slice none 0 0 ∧ n = 0 ∧ ys = []) ∨ ∃ ad c vs, u = .slice (some ad) n c ∧ RelL m ys vs ∧ vs.length = n ∧ (loadCells ad n).run P w = .ok vs.toArray w := by
  have ld : ∀ {ad : Addr} {vs : List Value}, vs.length = n * 1 → (∀ j v, vs[j]? = some v → w.cell? (ad.add j) = some v) → (loadCells ad n).run P w = .ok vs.toArray w := by
    intro ad vs hl h
    have := run_loadCells_list (P := P) w ad vs h
    rw [hl, Nat.mul_one] at this
    exact this
  unfold source at h
  split at h
  · injection h with h; injection h with e1 e2; subst e1 e2
    simp only [Rel] at r; subst r
    exact .inl ⟨rfl, rfl, rfl⟩
  · split at h
    · rename_i b o k c cs hcs
      injection h with h; injection h with e1 e2; subst e1 e2
      simp only [Rel] at r
      obtain ⟨B, d, E, hr, rfl⟩ := r
      obtain ⟨vs, hl, hrel, hcell⟩ := hS.read hcs hr
      exact .inr ⟨_, _, vs, rfl, hrel, by omega, ld hl fun j v hj => by rw [add_off]; exact hcell j v hj⟩
    · cases h
  · split at h
    · rename_i b o k c cs hcs
      injection h with h; injection h with e1 e2; subst e1 e2
      simp only [Rel] at r
      obtain ⟨B, d, E, cc, hr, rfl, _⟩ := r
      obtain ⟨vs, hl, hrel, hcell⟩ := hS.read hcs hr
      exact .inr ⟨_, _, vs, rfl, hrel, by omega, ld hl fun j v hj => by rw [add_off]; exact hcell j v hj⟩
    · cases h
  · split at h
    · rename_i cs k ex _ cs' hcs
      injection h with h; injection h with e1 e2; subst e1 e2
      simp only [Rel] at r
      obtain ⟨ad, c, us, rfl, _, _, hrel, himm⟩ := r
      rw [takeN_eq] at hcs
      split at hcs
      · rename_i hn
        injection hcs with hcs; subst hcs
        have hlen := hrel.length
        refine .inr ⟨_, _, us.take (k * 1), rfl, hrel.take _, by simp; omega, ld (by simp; omega) fun j v hj => ?_⟩
        have hj' : us[j]? = some v := by
          rw [List.getElem?_take] at hj
          split at hj
          · exact hj
          · cases hj
        exact hS.readImm himm j v hj'
      · cases hcs
    · cases h
  · cases h
theorem s_bytesStr (hR : RegsRel m nt R a.tmps) (hS : Sim P cd B0 w0 m H w) {o : Oper} {s d : TypeId} {x : Opd} {y : Operand} (ho : o.op = .convert s d y)
    (hc : chkOp P nt (.convert s d y) (.bytesStr x) = true) (hx : aexec base (.bytesStr x) R H = some (v, H')) : Out P cd B0 w0 m ((execOp a.eval o).run P w) v H' := by
  simp only [chkOp, Bool.and_eq_true] at hc
  obtain ⟨h1, hc⟩ := hc
  split at h1
  · rename_i e hs
    simp only [Bool.and_eq_true] at h1
    obtain ⟨_, h1⟩ := h1
    split at h1
    · rename_i he
      split at hc
      · rename_i hd
        have r := ev_rel hR hc
        generalize hu : a.eval y = u at r
        simp only [aexec] at hx
        split at hx
        · rename_i n cs hsrc
          split at hx
          · rename_i c hcode
            injection hx with hx; injection hx with e1 e2; subst e1 e2
            rcases hS.bytes hsrc r with ⟨rfl, rfl, rfl⟩ | ⟨ad, cap, vs, rfl, hrel, hl, hrun⟩
            · have hc0 : some 0 = some c := hcode
              injection hc0 with hc0; subst hc0
              refine Out.same hS (u := .string ByteArray.empty) ?_ (by simp only [Rel]; exact ⟨_, rfl, rfl, rfl⟩)
              have := run_convert_bytes_nil (P := P) w s e hs he 0 0 d hd
              simp only [execOp, ho, hu, Sem.run_bind, this, Result.andThen_ok, Sem.run_pure]
            · obtain ⟨ns, rfl, hns⟩ := codeB_rel hcode hrel
              have := run_convert_bytes_string (P := P) w s d e (some ad) n cap hs he hd
              rw [run_bytesToString w ad n cap ns hrun, foldl_push_bytes] at this
              refine Out.same hS (u := .string ⟨ByteArray.empty.data ++ (ns.map fun n => UInt8.ofNat n.toNat).toArray⟩) ?_ (by
                simp only [Rel]
                refine ⟨_, rfl, ?_, ?_⟩
                · show (ByteArray.empty.data ++ (ns.map fun n => UInt8.ofNat n.toNat).toArray).size = n
                  simp at hl ⊢
                  exact hl
                · show codeL (ByteArray.empty.data ++ (ns.map fun n => UInt8.ofNat n.toNat).toArray).toList = c
                  simpa using hns)
              simp only [execOp, ho, hu, Sem.run_bind, this, Result.andThen_ok, Sem.run_pure]
          · cases hx
        · cases hx
      · cases hc
    · cases h1
  · cases h1

theorem zeroCells_size (z : Array Value) (n : Nat) : (Builtin.zeroCells z n).size = n * z.size := by simp [Builtin.zeroCells]
theorem grown_ge (w : World) (need old : Nat) (e : TypeId) : need ≤ grownCap w need old e := by simp [grownCap, Question.cut]

/- an append that finds no room -/
theorem run_grow {t t2 e : TypeId} {sz bytes : Nat} {ty : TypeId} {ts : Array TypeId} (h1 : ts[0]? = some t) (h2 : ts[1]? = some t2) (hu : P.underlying t = some (.slice e)) {e2 : TypeId} (hu2 : P.underlying t2 = some (.slice e2)) (hsz : szOf P e = some sz) (hby : (P.info? e).map (·.bytes) = some bytes) {zv : Value} (hz : (P.info? e).bind (·.zero) = some zv)
    {base : Option Addr} {k cap n : Nat} {u : Value} (hn : (Builtin.lenOf u).run P w = .ok n w) (hno : cap < k + n) (hk : k ≤ limit) (hnl : n ≤ limit) (hb : bytes ≤ limit)
    {olds news : List Value} (ho : ∀ w' : World, (∀ B o v, w.cell? ⟨B, o, none⟩ = some v → w'.cell? ⟨B, o, none⟩ = some v) → (Builtin.firstCells sz k (.slice base k cap)).run P w' = .ok olds.toArray w')
    (hnew : ∀ w' : World, (∀ B o v, w.cell? ⟨B, o, none⟩ = some v → w'.cell? ⟨B, o, none⟩ = some v) → (Builtin.firstCells sz n u).run P w' = .ok news.toArray w') :
    (Builtin.append_ ts ty #[.slice base k cap, u]).run P w = .ok (.slice (some ⟨w.heap.size, 0, none⟩) (k + n) (grownCap w (k + n) cap e))
      (w.drew.alloc (.cells (olds.toArray ++ news.toArray ++ Builtin.zeroCells zv.cells (grownCap w (k + n) cap e - (k + n))) e)) := by
  unfold szOf at hsz
  cases hi : P.info? e with
  | none => rw [hi] at hsz; cases hsz
  | some i =>
    rw [hi] at hsz hby hz
    have hsz' : i.size = sz := by injection hsz
    have hby' : i.bytes = bytes := by injection hby
    have hz' : i.zero = some zv := hz
    subst hsz' hby'
    have hlim : limit = 65536 := rfl
    have hfit : ¬ (281474976710656 < Builtin.nextslicecap (k + n) cap * i.bytes) := by
      have := growslice_fits (bytes := i.bytes) hno (by
        have : (k + n) * i.bytes ≤ 131072 * 65536 := Nat.mul_le_mul (by omega) (by omega)
        omega)
      omega
    have h63 : ¬ (9223372036854775807 < ((k : Int) + (n : Int))) := by omega
    have hnn : ¬ (k + n ≤ cap) := by omega
    have d1 := ho w.drew (fun _ _ _ h => h)
    have d2 := hnew w.drew (fun _ _ _ h => h)
    simp [Builtin.append_, h1, h2, run_underlying hu, run_underlying hu2, sizeOf, typeInfo, zeroValue, hi, hz', hn, hnn, h63, hfit, Question.forced, d1, d2, newRow, grownCap]
    congr 2
    apply Array.ext'
    simp [List.append_assoc]

/- one that finds room -/
theorem run_room {t t2 e : TypeId} {sz : Nat} {ty : TypeId} {ts : Array TypeId} (h1 : ts[0]? = some t) (h2 : ts[1]? = some t2) (hu : P.underlying t = some (.slice e)) {e2 : TypeId} (hu2 : P.underlying t2 = some (.slice e2)) (hsz : szOf P e = some sz)
    {base : Option Addr} {k cap n : Nat} {u : Value} (hn : (Builtin.lenOf u).run P w = .ok n w) (hyes : k + n ≤ cap)
    {news : List Value} (hnew : (Builtin.firstCells sz n u).run P w = .ok news.toArray w) {w' : World} (hst : ∀ ad, base = some ad → (storeCells (ad.add (k * sz)) news).run P w = .ok () w') (hnone : base = none → w' = w) :
    (Builtin.append_ ts ty #[.slice base k cap, u]).run P w = .ok (.slice base (k + n) cap) w' := by
  unfold szOf at hsz
  cases hi : P.info? e with
  | none => rw [hi] at hsz; cases hsz
  | some i =>
    rw [hi] at hsz
    have hsz' : i.size = sz := by injection hsz
    subst hsz'
    cases base with
    | none =>
      have := hnone rfl; subst this
      simp [Builtin.append_, h1, h2, run_underlying hu, run_underlying hu2, sizeOf, typeInfo, hi, hn, hyes, hnew]
    | some ad =>
      have := hst ad rfl
      simp [Builtin.append_, h1, h2, run_underlying hu, run_underlying hu2, sizeOf, typeInfo, hi, hn, hyes, hnew, this]

theorem cell_old {ob : Obj} {w : World} : ∀ B o v, w.cell? ⟨B, o, none⟩ = some v → (w.alloc ob).cell? ⟨B, o, none⟩ = some v := fun B o v h => by
  rw [World.cell?_alloc_lt w ob ⟨B, o, none⟩ (World.block_lt_of_cell? w ⟨B, o, none⟩ h)]; exact h

/- a new row whose cells are the old ones, the new ones, and what lies behind -/
theorem Sim.grown (hS : Sim P cd B0 w0 m H w) {id : K} {l : List AV} {H' : T AObj} (h : newO H id (.cells l) = some H') (e : TypeId) {xs ys : List AV} (hl : l = xs ++ ys) {olds news : List Value} (r1 : RelL m xs olds) (r2 : RelL m ys news)
    {z : Array Value} {sz need cap : Nat} (hz : z.size = sz) (hlen : olds.length + news.length = need * sz) (hcap : need ≤ cap) :
    ∃ m', m.le m' ∧ m'.r id = some (w.heap.size, 0, cap * sz) ∧ Sim P cd B0 w0 m' H' (w.drew.alloc (.cells (olds.toArray ++ news.toArray ++ Builtin.zeroCells z (cap - need)) e)) := by
  have hS' := hS.drew
  have hsize : (olds.toArray ++ news.toArray ++ Builtin.zeroCells z (cap - need)).size = cap * sz := by
    simp only [Array.size_append, List.size_toArray, zeroCells_size, hz, hlen, ← Nat.add_mul]
    congr 1; omega
  have hrel := r1.append r2
  have hll := hrel.length
  obtain ⟨m', hle, hr, hS''⟩ := hS'.newRow h e (c := olds.toArray ++ news.toArray ++ Builtin.zeroCells z (cap - need)) (E := cap * sz) (by omega) (by
      subst hl
      have : need * sz ≤ cap * sz := Nat.mul_le_mul_right sz hcap
      simp only [List.length_append] at hll ⊢; omega) (fun i x hx => by
      subst hl
      obtain ⟨u, hu, hr⟩ := hrel.get i x hx
      refine ⟨u, ?_, hr⟩
      have hi : i < (olds ++ news).length := (List.getElem?_eq_some_iff.1 hu).1
      rw [Array.getElem?_append_left (by simp at hi ⊢; omega)]
      rw [← hu]
      simp)
  exact ⟨m', hle, hr, hS''⟩

/- the rest of a row moves to another name -/
theorem Sim.move (hS : Sim P cd B0 w0 m H w) {id b : K} {l : List AV} (hb : H.get b = some (.cells l)) {B d E : Nat} (hr : m.r b = some (B, d, E)) {of : Nat} (hle : of ≤ E) (hid : (H.set b .dead).get id = none) :
    m.r id = none ∧ Sim P cd B0 w0 (m.new id (B, d + of, E - of)) ((H.set b .dead).set id (.cells (l.drop of))) w := by
  have hD := hS.drop hb
  have hnr := hD.dom id hid
  have hne : id ≠ b := fun e => by rw [e, T.get_set_same] at hid; cases hid
  have hle' := M.le_new m (B, d + of, E - of) hnr
  have getr : ∀ b' x, (m.new id (B, d + of, E - of)).r b' = some x → b' = id ∧ x = (B, d + of, E - of) ∨ b' ≠ id ∧ m.r b' = some x := by
    intro b' x hb'
    by_cases e : b' = id
    · subst e; rw [M.new_same] at hb'; injection hb' with hb'; exact .inl ⟨rfl, hb'.symm⟩
    · simp [M.new, e] at hb'; exact .inr ⟨e, hb'⟩
  have old : ∀ b' o, (H.set b .dead).get b' = some o → live o = true → b' ≠ b ∧ H.get b' = some o := by
    intro b' o hb' hl
    by_cases e : b' = b
    · subst e; rw [T.get_set_same] at hb'; injection hb' with hb'; subst hb'; simp [live] at hl
    · rw [T.get_set_ne e] at hb'; exact ⟨e, hb'⟩
  refine ⟨hnr, hS.below, hS.base, ?_, ?_, ?_, hS.imm, ?_, ?_, ?_, hS.asm⟩
  · intro b' o hb' B' d' E' hr'
    rcases getr b' _ hr' with ⟨rfl, hx⟩ | ⟨hne', hr1⟩
    · injection hx with e1 e2; injection e2 with e2 e3; subst e1 e2 e3
      rw [T.get_set_same] at hb'; injection hb' with hb'; subst hb'
      obtain ⟨c, el, h1, h2, h3, h4⟩ := hS.obj b _ hb B' d E hr
      refine ⟨c, el, h1, by omega, by simp; omega, fun i x hx => ?_⟩
      rw [List.getElem?_drop] at hx
      obtain ⟨v, hv, hrel⟩ := h4 _ x hx
      exact ⟨v, by rw [Nat.add_assoc]; exact hv, hrel.mono hle'⟩
    · rw [T.get_set_ne hne'] at hb'
      exact (hD.obj b' o hb' B' d' E' hr1).block hle' rfl
  · intro b' o hb' hl B' d' E' hr'
    rcases getr b' _ hr' with ⟨rfl, hx⟩ | ⟨hne', hr1⟩
    · injection hx with e1 _; subst e1
      exact hS.own b _ hb rfl B' d E hr
    · rw [T.get_set_ne hne'] at hb'
      exact hD.own b' o hb' hl B' d' E' hr1
  · intro b1 o1 hb1 hl1 b2 o2 hb2 hl2 B' d1 E1 d2 E2 hr1 hr2
    rcases getr b1 _ hr1 with ⟨rfl, hx⟩ | ⟨hne1, hr1'⟩
    · rcases getr b2 _ hr2 with ⟨rfl, _⟩ | ⟨hne2, hr2'⟩
      · rfl
      · injection hx with e1 _; subst e1
        rw [T.get_set_ne hne2] at hb2
        obtain ⟨n2, h2⟩ := old b2 o2 hb2 hl2
        exact absurd (hS.inj b2 o2 h2 hl2 b _ hb rfl B' d2 E2 d E hr2' hr) n2
    · rw [T.get_set_ne hne1] at hb1
      obtain ⟨n1, h1⟩ := old b1 o1 hb1 hl1
      rcases getr b2 _ hr2 with ⟨rfl, hx⟩ | ⟨hne2, hr2'⟩
      · injection hx with e1 _; subst e1
        exact absurd (hS.inj b1 o1 h1 hl1 b _ hb rfl B' d1 E1 d E hr1' hr) n1
      · rw [T.get_set_ne hne2] at hb2
        exact hD.inj b1 o1 hb1 hl1 b2 o2 hb2 hl2 B' d1 E1 d2 E2 hr1' hr2'
  · intro b' o hb' hl B' d' E' hr' i
    rcases getr b' _ hr' with ⟨rfl, hx⟩ | ⟨hne', hr1⟩
    · injection hx with e1 _; subst e1
      exact hS.apart b _ hb rfl B' d E hr i
    · rw [T.get_set_ne hne'] at hb'
      exact hD.apart b' o hb' hl B' d' E' hr1 i
  · intro b' hb'
    have hne' : b' ≠ id := fun e => by rw [e, T.get_set_same] at hb'; cases hb'
    rw [T.get_set_ne hne'] at hb'
    simp [M.new, hne', hD.dom b' hb']
  · intro b' hb'
    have hne' : b' ≠ id := fun e => (hD.rsv b' hb').2 (e ▸ hid)
    exact ⟨by simp [M.new, hne', (hD.rsv b' hb').1], set_keeps (hD.rsv b' hb').2⟩

theorem s_append (hR : RegsRel m nt R a.tmps) (hS : Sim P cd B0 w0 m H w) {o : Oper} {j sz bytes : Nat} {s x : Opd} {args : Array Operand} {ts : Array TypeId} (ho : o.op = .call ⟨.builtin .append, args, ts⟩)
    (hc : chkOp P nt (.call ⟨.builtin .append, args, ts⟩) (.append j sz bytes s x) = true) (hx : aexec base (.append j sz bytes s x) R H = some (v, H')) : Out P cd B0 w0 m ((execOp a.eval o).run P w) v H' := by
  simp only [chkOp] at hc
  split at hc
  · rename_i t t2 ht ht2
    split at hc
    · rename_i e hu
      simp only [Bool.and_eq_true, beq_iff_eq] at hc
      obtain ⟨⟨⟨hsz, hby⟩, hz⟩, hc⟩ := hc
      split at hc
      · rename_i e2 hu2
        obtain ⟨s', x', rfl, h1, h2⟩ := two_args hc
        have r1 := ev_rel hR h1
        have r2 := ev_rel hR h2
        generalize hu1 : a.eval s' = u1 at r1
        generalize hu2' : a.eval x' = u2 at r2
        unfold zeroSz at hz
        split at hz
        · rename_i zv hzv
          simp only [beq_iff_eq] at hz
          have hcall : (execOp a.eval o).run P w = ((do pure (Next.value (← Builtin.append_ ts o.type #[u1, u2])) : Sem Next)).run P w := by
            simp [execOp, ho, resolve, invoke, builtin, hu1, hu2']
          have fin : ∀ {m' : M} {u : Value} {w' : World}, (Builtin.append_ ts o.type #[u1, u2]).run P w = .ok u w' → m.le m' → Rel m' v u → Sim P cd B0 w0 m' H' w' → Out P cd B0 w0 m ((execOp a.eval o).run P w) v H' := by
            intro m' u w' hrun hle hr hS'
            refine ⟨m', u, w', hle, .inl ?_, hr, hS'⟩
            rw [hcall]
            simp only [Sem.run_bind, hrun, Result.andThen_ok, Sem.run_pure]
          simp only [aexec] at hx
          unfold appendOp at hx
          split at hx
          · cases hx
          · rename_i n ys hsrc
            obtain ⟨hn, news, hnr, hnl, hfirst⟩ := hS.src hsrc r2
            split at hx
            · rename_i hlim
              simp only [Bool.and_eq_true, Nat.ble_eq] at hlim
              obtain ⟨⟨hl1, hl2⟩, hl3⟩ := hlim
              have same : ∀ B o v, w.cell? ⟨B, o, none⟩ = some v → w.cell? ⟨B, o, none⟩ = some v := fun _ _ _ h => h
              split at hx
              · -- onto nil
                rename_i he
                rw [he] at r1
                simp only [Rel] at r1; subst r1
                split at hx
                · rename_i h0
                  simp only [Nat.beq_eq] at h0
                  injection hx with hx; injection hx with e3 e4; subst e3 e4 h0
                  exact fin (run_room ht ht2 hu hu2 hsz (base := none) (w' := w) hn (Nat.le_refl 0) (hfirst w same) (fun ad h => by cases h) (fun _ => rfl)) (M.le.refl m) (by simp only [Rel]) hS
                · rename_i h0
                  split at hx
                  · rename_i H1 hH
                    injection hx with hx; injection hx with e3 e4; subst e3 e4
                    have hpos : 0 < 0 + n := by
                      rcases Nat.eq_zero_or_pos n with h | h
                      · subst h; exact absurd rfl h0
                      · omega
                    have hgr := run_grow (ty := o.type) ht ht2 hu hu2 hsz hby hzv (base := none) (k := 0) (cap := 0) hn hpos (Nat.zero_le _) hl1 hl2 (olds := []) (fun w' _ => rfl) hfirst
                    obtain ⟨m', hle, hr, hS'⟩ := hS.grown hH e (xs := []) (ys := ys) rfl (olds := []) (by simp only [RelL]) hnr hz (need := 0 + n) (by simpa using hnl) (grown_ge w (0 + n) 0 e)
                    have hge := grown_ge w (0 + n) 0 e
                    generalize grownCap w (0 + n) 0 e = gc at *
                    rw [Nat.zero_add] at hgr hge hS'
                    refine fin hgr hle ?_ hS'
                    simp only [Rel]
                    exact ⟨_, _, _, _, hr, rfl, hge, by omega⟩
                  · cases hx
              · -- onto a row that is never written
                rename_i cs k he
                rw [he] at r1
                simp only [Rel] at r1
                obtain ⟨ad, c, us, hs, hle0, hex, hrel, himm⟩ := r1
                have hck : c = k := hex (by first | rfl | trivial)
                subst hck hs
                split at hx
                · rename_i h0
                  simp only [Nat.beq_eq] at h0
                  injection hx with hx; injection hx with e3 e4; subst e3 e4 h0
                  have hnil : news = [] := by rw [Nat.zero_mul] at hnl; exact List.length_eq_zero_iff.1 hnl
                  subst hnil
                  refine fin (run_room ht ht2 hu hu2 hsz (base := some ad) (w' := w) hn (Nat.le_refl _) (hfirst w same) (fun ad h => rfl) (fun h => by cases h)) (M.le.refl m) ?_ hS
                  simp only [Rel]
                  exact ⟨ad, _, us, rfl, Nat.le_refl _, fun _ => rfl, hrel, himm⟩
                · rename_i h0
                  split at hx
                  · rename_i hkl
                    simp only [Nat.ble_eq] at hkl
                    split at hx
                    · rename_i xs hxs
                      rw [app_eq] at hx
                      simp only at hx
                      split at hx
                      · rename_i H1 hH
                        rw [frcN_eq] at hx
                        injection hx with hx; injection hx with e3 e4; subst e3 e4
                        rw [takeN_eq] at hxs
                        split at hxs
                        · rename_i hkn
                          injection hxs with hxs; subst hxs
                          have hpos : c < c + n := by
                            rcases Nat.eq_zero_or_pos n with h | h
                            · subst h; exact absurd rfl h0
                            · omega
                          have hlen := hrel.length
                          have holds : ∀ w' : World, (∀ B o v, w.cell? ⟨B, o, none⟩ = some v → w'.cell? ⟨B, o, none⟩ = some v) → (Builtin.firstCells sz c (.slice (some ad) c c)).run P w' = .ok (us.take (c * sz)).toArray w' := by
                            intro w' hw
                            refine run_firstCells' (by simp; omega) fun j v hj => ?_
                            have hj' : us[j]? = some v := by
                              rw [List.getElem?_take] at hj
                              split at hj
                              · exact hj
                              · cases hj
                            rw [add_at himm.spot]
                            have h1 := hS.readImm himm j v hj'
                            rw [add_at himm.spot] at h1
                            exact hw _ _ _ h1
                          have hgr := run_grow (ty := o.type) ht ht2 hu hu2 hsz hby hzv (base := some ad) (k := c) (cap := c) hn hpos hkl hl1 hl2 holds hfirst
                          obtain ⟨m', hle, hr, hS'⟩ := hS.grown hH e rfl (hrel.take (c * sz)) hnr hz (need := c + n) (by rw [List.length_take, hnl, Nat.add_mul]; omega) (grown_ge w (c + n) c e)
                          refine fin hgr hle ?_ hS'
                          simp only [Rel]
                          exact ⟨_, _, _, _, hr, rfl, grown_ge w (c + n) c e, by omega⟩
                        · cases hxs
                      · cases hx
                    · cases hx
                  · cases hx
              · -- onto a slice whose capacity is known
                rename_i b of k cap he
                rw [he] at r1
                simp only [Rel] at r1
                obtain ⟨B, d, E, hr, hs⟩ := r1
                subst hs
                split at hx
                · rename_i hfit
                  simp only [Nat.ble_eq] at hfit
                  split at hx
                  · rename_i H1 hH
                    rw [frcN_eq] at hx
                    injection hx with hx; injection hx with e3 e4; subst e3 e4
                    obtain ⟨w', hst, hS'⟩ := hS.write hH hr hnr
                    refine fin (run_room ht ht2 hu hu2 hsz (base := some ⟨B, d + of, none⟩) (w' := w') hn hfit (hfirst w same) (fun ad h => by injection h with h; subst h; rw [add_off, Nat.add_assoc]; exact hst) (fun h => by cases h)) (M.le.refl m) ?_ hS'
                    simp only [Rel]
                    exact ⟨B, d, E, hr, rfl⟩
                  · cases hx
                · rename_i hfit
                  simp only [Nat.ble_eq] at hfit
                  split at hx
                  · rename_i hkl
                    simp only [Nat.ble_eq] at hkl
                    split at hx
                    · rename_i xs hxs
                      rw [app_eq] at hx
                      simp only at hx
                      split at hx
                      · rename_i H1 hH
                        rw [frcN_eq] at hx
                        injection hx with hx; injection hx with e3 e4; subst e3 e4
                        obtain ⟨us, hul, hrel, hcell⟩ := hS.read hxs hr
                        have holds : ∀ w' : World, (∀ B o v, w.cell? ⟨B, o, none⟩ = some v → w'.cell? ⟨B, o, none⟩ = some v) → (Builtin.firstCells sz k (.slice (some ⟨B, d + of, none⟩) k cap)).run P w' = .ok us.toArray w' :=
                          fun w' hw => run_firstCells' hul fun j v hj => by rw [add_off]; exact hw _ _ _ (hcell j v hj)
                        have hgr := run_grow (ty := o.type) ht ht2 hu hu2 hsz hby hzv (base := some ⟨B, d + of, none⟩) (k := k) (cap := cap) hn (by omega) hkl hl1 hl2 holds hfirst
                        obtain ⟨m', hle, hr', hS'⟩ := hS.grown hH e rfl hrel hnr hz (need := k + n) (by rw [hul, hnl, Nat.add_mul]) (grown_ge w (k + n) cap e)
                        refine fin hgr hle ?_ hS'
                        simp only [Rel]
                        exact ⟨_, _, _, _, hr', rfl, grown_ge w (k + n) cap e, by omega⟩
                      · cases hx
                    · cases hx
                  · cases hx
              · -- onto one that may have room behind it
                rename_i b of k sz' he
                rw [he] at r1
                simp only [Rel] at r1
                obtain ⟨B, d, E, cap, hr, hs, hkc, hE⟩ := r1
                subst hs
                split at hx
                · rename_i hszz
                  simp only [Nat.beq_eq] at hszz
                  subst hszz
                  split at hx
                  · rename_i l hb
                    obtain ⟨c, el, hblk, hdE, hlE, hcl⟩ := hS.obj b _ hb B d E hr
                    split at hx
                    · rename_i hin
                      simp only [Nat.ble_eq, len_eq] at hin
                      have hfit : k + n ≤ cap := by
                        have h1 : of + (k + n) * sz ≤ of + cap * sz := by omega
                        have h2 : (k + n) * sz ≤ cap * sz := by omega
                        exact Nat.le_of_mul_le_mul_right h2 (by omega)
                      split at hx
                      · rename_i H1 hH
                        rw [frcN_eq] at hx
                        injection hx with hx; injection hx with e3 e4; subst e3 e4
                        obtain ⟨w', hst, hS'⟩ := hS.write hH hr hnr
                        refine fin (run_room ht ht2 hu hu2 hsz (base := some ⟨B, d + of, none⟩) (w' := w') hn hfit (hfirst w same) (fun ad h => by injection h with h; subst h; rw [add_off, Nat.add_assoc]; exact hst) (fun h => by cases h)) (M.le.refl m) ?_ hS'
                        simp only [Rel]
                        exact ⟨B, d, E, cap, hr, rfl, hfit, hE⟩
                      · cases hx
                    · split at hx
                      · rename_i hkl
                        simp only [Bool.and_eq_true, Nat.ble_eq, len_eq, allL_eq] at hkl
                        obtain ⟨⟨hkl, hkk⟩, hsc⟩ := hkl
                        split at hx
                        · rename_i xs hxs
                          rw [app_eq] at hx
                          simp only at hx
                          split at hx
                          · rename_i H1 hH
                            rw [frcN_eq] at hx
                            injection hx with hx; injection hx with e3 e4; subst e3 e4
                            have hread : readH H b of (k * sz) = some xs := by unfold readH; rw [hb]; exact hxs
                            obtain ⟨us, hul, hrel, hcell⟩ := hS.read hread hr
                            have holds : ∀ w' : World, (∀ B o v, w.cell? ⟨B, o, none⟩ = some v → w'.cell? ⟨B, o, none⟩ = some v) → (Builtin.firstCells sz k (.slice (some ⟨B, d + of, none⟩) k cap)).run P w' = .ok us.toArray w' :=
                              fun w' hw => run_firstCells' hul fun j v hj => by rw [add_off]; exact hw _ _ _ (hcell j v hj)
                            by_cases hfit : k + n ≤ cap
                            · have hlen := hnr.length
                              have hsum : of + k * sz + news.length ≤ E := by
                                have : (k + n) * sz ≤ cap * sz := Nat.mul_le_mul_right sz hfit
                                rw [Nat.add_mul] at this
                                omega
                              have hst := run_storeCells (P := P) B (d + of + k * sz) el news 0 c w hblk (by omega) (one_of_rel hnr hsc)
                              have hS1 := hS.turn hb rfl hr (o' := .cells (l.take (of + k * sz) ++ ys)) (w' := w.setRow B (putAt c (d + of + k * sz + 0) news)) (fun k hk => setRow_other w B k _ hk) rfl rfl rfl (by simp) (by
                                refine ⟨_, el, setRow_heap w B c _ el (0, 0) hblk, by rw [putAt_size]; exact hdE, by simp; omega, fun i x hx => ?_⟩
                                rw [putAt_get news c (d + of + k * sz + 0) (d + i) (by omega)]
                                by_cases h1 : i < of + k * sz
                                · have h2 : ¬ (d + of + k * sz + 0 ≤ d + i ∧ d + i < d + of + k * sz + 0 + news.length) := by omega
                                  rw [if_neg h2]
                                  rw [List.getElem?_append_left (by simp; omega), List.getElem?_take, if_pos h1] at hx
                                  exact hcl i x hx
                                · have hi : i < (l.take (of + k * sz) ++ ys).length := (List.getElem?_eq_some_iff.1 hx).1
                                  rw [List.length_append, List.length_take] at hi
                                  have h2 : d + of + k * sz + 0 ≤ d + i ∧ d + i < d + of + k * sz + 0 + news.length := by omega
                                  rw [if_pos h2]
                                  rw [List.getElem?_append_right (by simp; omega)] at hx
                                  have e1 : i - (l.take (of + k * sz)).length = d + i - (d + of + k * sz + 0) := by simp; omega
                                  rw [e1] at hx
                                  exact hnr.get _ x hx)
                              obtain ⟨hnew, rfl⟩ := newO_some hH
                              have hmv := hS1.move (id := base.add j) (b := b) (T.get_set_same _ _ _) hr (of := of) (by omega) (by
                                rw [T.set_set]; exact hnew)
                              rw [T.set_set] at hmv
                              have hdrop : (l.take (of + k * sz) ++ ys).drop of = xs ++ ys := by
                                rw [takeN_eq, dropN_eq] at hxs
                                split at hxs
                                · injection hxs with hxs
                                  rw [List.drop_append_of_le_length (by simp; omega), ← hxs, List.drop_take]
                                  congr 2
                                  omega
                                · cases hxs
                              rw [hdrop] at hmv
                              refine fin (run_room ht ht2 hu hu2 hsz (base := some ⟨B, d + of, none⟩) hn hfit (hfirst w same) (fun ad h => by injection h with h; subst h; rw [add_off]; exact hst) (fun h => by cases h)) (M.le_new m _ (hmv.1)) ?_ hmv.2
                              simp only [Rel]
                              exact ⟨B, d + of, E - of, cap, M.new_same _ _ _, by simp, hfit, by omega⟩
                            · have hgr := run_grow (ty := o.type) ht ht2 hu hu2 hsz hby hzv (base := some ⟨B, d + of, none⟩) (k := k) (cap := cap) hn (by omega) hkl hl1 hl2 holds hfirst
                              obtain ⟨m', hle, hr', hS'⟩ := (hS.drop hb).grown hH e rfl hrel hnr hz (need := k + n) (by rw [hul, hnl, Nat.add_mul]) (grown_ge w (k + n) cap e)
                              refine fin hgr hle ?_ hS'
                              simp only [Rel]
                              exact ⟨_, _, _, _, hr', rfl, grown_ge w (k + n) cap e, by omega⟩
                          · cases hx
                        · cases hx
                      · cases hx
                  · cases hx
                · cases hx
              · cases hx
            · cases hx
        · cases hz
      · cases hc
    · cases hc
  · cases hc

/-! ### new rows -/
theorem rep_eq (n : Nat) (z : List AV) : rep n z = some (List.replicate n z).flatten := by
  induction n with
  | zero => rfl
  | succ n ih =>
    have h : rep (n + 1) z = (match rep n z with
      | some l => app z l
      | none => none) := rfl
    rw [h, ih]
    simp only [app_eq]
    rw [List.replicate_succ, List.flatten_cons]

theorem flat_get (z : List AV) (n i : Nat) (x : AV) (h : (List.replicate n z).flatten[i]? = some x) : i < n * z.length ∧ z[i % z.length]? = some x := by
  induction n generalizing i with
  | zero => simp at h
  | succ n ih =>
    rw [List.replicate_succ, List.flatten_cons] at h
    by_cases hi : i < z.length
    · rw [List.getElem?_append_left hi] at h
      refine ⟨by rw [Nat.add_mul]; omega, by rw [Nat.mod_eq_of_lt hi]; exact h⟩
    · rw [List.getElem?_append_right (by omega)] at h
      obtain ⟨h1, h2⟩ := ih _ h
      refine ⟨by rw [Nat.add_mul]; omega, ?_⟩
      rw [← Nat.mod_eq_sub_mod (by omega)] at h2
      exact h2

theorem s_mkslice (hR : RegsRel m nt R a.tmps) (hS : Sim P cd B0 w0 m H w) {o : Oper} {j sz bytes : Nat} {z : List AV} {l c : Opd} {l' c' : Operand} {t : TypeId} (ho : o.op = .makeSlice t l' c')
    (hc : chkOp P nt (.makeSlice t l' c') (.mkslice j sz bytes z l c) = true) (hx : aexec base (.mkslice j sz bytes z l c) R H = some (v, H')) : Out P cd B0 w0 m ((execOp a.eval o).run P w) v H' := by
  simp only [chkOp] at hc
  split at hc
  · rename_i e hu
    simp only [Bool.and_eq_true, beq_iff_eq] at hc
    obtain ⟨⟨⟨⟨hsz, hby⟩, hz⟩, h1⟩, h2⟩ := hc
    have r1 := ev_rel hR h1
    have r2 := ev_rel hR h2
    generalize hu1 : a.eval l' = u1 at r1
    generalize hu2 : a.eval c' = u2 at r2
    obtain ⟨i, zv, hi, hzv, hzr⟩ := zeros_rel (m := m) hz
    simp only [aexec] at hx
    split at hx
    · rename_i ln cn e1 e2
      rw [e1] at r1; rw [e2] at r2
      simp only [Rel] at r1 r2; subst r1 r2
      split at hx
      · rename_i hcond
        simp only [Bool.and_eq_true, Nat.ble_eq, Nat.beq_eq, len_eq] at hcond
        obtain ⟨⟨⟨hlc, hcl⟩, hbl⟩, hzl⟩ := hcond
        rw [rep_eq] at hx
        simp only at hx
        split at hx
        · rename_i H1 hH
          injection hx with hx; injection hx with e3 e4; subst e3 e4
          unfold szOf at hsz
          rw [hi] at hsz hby
          have hsz' : i.size = sz := by injection hsz
          have hby' : i.bytes = bytes := by injection hby
          subst hsz' hby'
          have hlen := hzr.length
          simp only [Array.length_toList] at hlen
          have hlim : limit = 65536 := rfl
          have hw : ∀ n : Nat, n ≤ limit → IntKind.i64.wrap (Int.ofNat n) = Int.ofNat n := fun n hn => IntWalk.i64_in _ (by
            have : (0 : Int) ≤ Int.ofNat n := Int.natCast_nonneg n
            have : Int.ofNat n ≤ (65536 : Int) := by rw [hlim] at hn; exact Int.ofNat_le.2 hn
            omega)
          have hw1 := hw ln (by omega)
          have hw2 := hw cn (by omega)
          have hbc : i.bytes * cn ≤ 65536 * 65536 := Nat.mul_le_mul (by omega) (by omega)
          simp only [Int.ofNat_eq_natCast] at hw1 hw2
          have c1 : ¬ ((cn : Int) < 0) := by omega
          have c2 : ¬ (281474976710656 < (i.bytes : Int) * (cn : Int)) := by
            have : ((i.bytes * cn : Nat) : Int) = (i.bytes : Int) * (cn : Int) := by push_cast; rfl
            omega
          have c3 : ¬ ((ln : Int) < 0) := by omega
          have c4 : ¬ ((cn : Int) < (ln : Int)) := by omega
          have hrun : ∃ C : Array Value, (Instr.makeSlice t (.int .i64 (.ofNat ln)) (.int .i64 (.ofNat cn))).run P w = .ok (.slice (some ⟨w.heap.size, 0, none⟩) ln cn) (w.alloc (.cells C e)) ∧ C.size = cn * i.size ∧
              ∀ k, k < cn * i.size → C[k]? = some (zv.cells[k % zv.cells.size]!) := by
            by_cases h0 : cn * i.size = 0
            · refine ⟨#[], ?_, by simp [h0], fun k hk => by omega⟩
              simp [Instr.makeSlice, run_under hu, asInt, asIntOf, typeInfo, sizeOf, hi, hw1, hw2, c1, c2, c3, c4, h0, newRow]
              have e0 : Array.map (fun _ => (default : Value)) (Array.range 0) = #[] := by apply Array.ext' ; simp
              rw [e0]
            · refine ⟨(Array.range (cn * i.size)).map (zv.cells[· % zv.cells.size]!), ?_, by simp, fun k hk => by simp [hk]⟩
              simp [Instr.makeSlice, run_under hu, asInt, asIntOf, typeInfo, sizeOf, zeroValue, hi, hzv, hw1, hw2, c1, c2, c3, c4, h0, newRow]
          obtain ⟨C, hrun, hCs, hCg⟩ := hrun
          obtain ⟨m', hle, hr, hS'⟩ := hS.newRow hH e (c := C) (E := C.size) (Nat.le_refl _) (by simp; rw [hCs, hzl]; exact Nat.le_refl _) (fun k x hx => by
            obtain ⟨h1, h2⟩ := flat_get z cn k x hx
            rw [hzl] at h1 h2
            obtain ⟨u, hu, hr⟩ := hzr.get _ x h2
            refine ⟨u, ?_, hr⟩
            rw [hCg k h1, hlen, hzl]
            simp only [Array.getElem?_toList] at hu
            rw [getElem!_def, hu])
          refine ⟨m', _, _, hle, .inl (by simp only [execOp, ho, hu1, hu2, Sem.run_bind, hrun, Result.andThen_ok, Sem.run_pure]; rfl), ?_, hS'⟩
          simp only [Rel]
          exact ⟨_, _, _, hr, rfl⟩
        · cases hx
      · cases hx
    · cases hx
  · cases hc

theorem s_f64bits (hR : RegsRel m nt R a.tmps) (hS : Sim P cd B0 w0 m H w) {o : Oper} {x : Opd} {c : Call} (ho : o.op = .call c)
    (hc : chkOp P nt (.call c) (.f64bits x) = true) (hx : aexec base (.f64bits x) R H = some (v, H')) : Out P cd B0 w0 m ((execOp a.eval o).run P w) v H' := by
  simp only [chkOp] at hc
  split at hc
  · rename_i f args ts e
    split at hc
    · rename_i fn hfn
      simp only [Bool.and_eq_true, beq_iff_eq] at hc
      obtain ⟨⟨⟨hname, hbody⟩, hnext⟩, hargs⟩ := hc
      obtain ⟨y, rfl, hy⟩ := one_arg hargs
      injection e with e; subst e
      have r := ev_rel hR hy
      generalize hu1 : a.eval y = u1 at r
      simp only [aexec] at hx
      split at hx
      · rename_i b he
        injection hx with hx; injection hx with e1 e2; subst e1 e2
        rw [he] at r
        simp only [Rel] at r; subst r
        refine Out.same hS (u := .int .u64 (.ofNat b)) ?_ (by simp only [Rel])
        have hnum : (fn.name == "runtime.NumGoroutine") = false := by rw [hname]; decide +kernel
        have hcall := run_callFunc_extern hfn hnum hbody (Option.isNone_iff_eq_none.1 hnext) (f64_find hname) #[.float .f64 b] w
        have hev : a.eval (.func f) = .func (.func f) #[] #[] := rfl
        simp only [execOp, ho, resolve, List.map_toArray, List.map_cons, List.map_nil, hu1, hev, Deferred.ofValue, Sem.run_bind, Sem.run_pure, Result.andThen_ok, invoke]
        have e0 : (#[] ++ #[Value.float .f64 b] ++ #[] : Array Value) = #[.float .f64 b] := rfl
        first
          | (rw [e0, hcall]; rfl)
          | (simp [hcall]; rfl)
      · cases hx
    · cases hc
  · cases hc
end
end Go.Ab
