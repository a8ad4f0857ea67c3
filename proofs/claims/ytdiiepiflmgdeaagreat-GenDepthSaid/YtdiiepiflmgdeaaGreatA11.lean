/- Maps, iterators, lengths, appends, new rows. -/
import Derived.Test.YtdiiepiflmgdeaaGreatA10
import Derived.Laws.Append
import Derived.MapKept
namespace Go.Ab
open Go.RowKit (Below)

section
variable {P : Program} {cd : Nat → Array Oper → DT → Bool} {B0 : Nat} {w0 : Frz} {m : M} {H H' : T AObj} {w : World} {nt : Nat} {R : T AV} {a : Act} {base : K} {v : AV}

/-! ### maps -/
theorem run_getObj' {r : Nat} {o : Obj} (hb : w.heap[r]? = some o) (hc : ∀ c e f, o ≠ .cells c e f) : (getObj r).run P w = .ok o w := by
  simp only [getObj, Sem.run, hb]
theorem run_setObj' {r : Nat} {o : Obj} (n : Obj) (hb : w.heap[r]? = some o) (hc : ∀ c e f, o ≠ .cells c e f) : (setObj r n).run P w = .ok () { w with heap := w.heap.setIfInBounds r n } := by
  simp only [setObj, Sem.run, hb]

theorem sameNow_of {t : TypeId} {q : LK} {d : TypeDesc} {x y : AV} {v u : Value} {b : Bool} (hd : P.underlying t = some d) (hk : keyOk P t q = true) (h : eqK q x y = some b) (r1 : Rel m x v) (r2 : Rel m y u) :
    Instr.sameNow d v u = some b ∧ (b = true → Instr.sameBits 10000 u v = true) := by
  unfold keyOk at hk
  rw [hd] at hk
  rcases eqK_leaf h with ⟨rfl, k, p, p', rfl, rfl, rfl⟩ | ⟨rfl, p, p', rfl, rfl, rfl⟩ | ⟨rfl, n, p, n', p', rfl, rfl, rfl⟩
  · simp only [Rel] at r1 r2; subst r1 r2
    split at hk <;> first | cases hk | skip
    rename_i he; injection he with he; subst he
    refine ⟨by simp [Instr.sameNow], fun h => ?_⟩
    have := eq_of_beq h; subst this
    simp [Instr.sameBits]
  · simp only [Rel] at r1 r2; subst r1 r2
    split at hk <;> first | cases hk | skip
    rename_i he; injection he with he; subst he
    refine ⟨by simp [Instr.sameNow], fun h => ?_⟩
    have := eq_of_beq h; subst this
    simp [Instr.sameBits]
  · simp only [Rel] at r1 r2
    obtain ⟨s, rfl, s1, s2⟩ := r1
    obtain ⟨s', rfl, s3, s4⟩ := r2
    split at hk <;> first | cases hk | skip
    rename_i he; injection he with he; subst he
    rw [← beq_strings s1 s2 s3 s4]
    refine ⟨by simp [Instr.sameNow, beq_toListBytes], fun h => ?_⟩
    have h' := eq_of_beq h
    rw [ByteArray.toList_eq, ByteArray.toList_eq] at h'
    have : s = s' := by
      cases s; cases s'
      simp only at h'
      congr 1
      exact Array.ext' h'
    subst this
    simp only [Instr.sameBits]
    exact (MapKept.bytes_beq _ _).2 rfl

theorem findNow_rel {t : TypeId} {q : LK} {d : TypeDesc} {x : AV} {v : Value} (hd : P.underlying t = some d) (hk : keyOk P t q = true) (r1 : Rel m x v) : ∀ {es : List (AV × AV × Nat)} {fs : List MapEntry} (i : Nat) {r : Option (Nat × AV)}, EsRel m es fs →
    List.rec (motive := fun _ => Nat → Option (Option (Nat × AV))) (fun _ => some none)
    (fun e _ ih i => match eqK q x e.1 with
      | some true => some (some (i, e.2.1))
      | some false => ih (Nat.succ i)
      | none => none) es i = some r →
    (r = none ∧ Instr.findNow d v fs i = some none) ∨ ∃ j y u e f, r = some (i + j, y) ∧ Instr.findNow d v fs i = some (some (i + j, u)) ∧ Rel m y u ∧ es[j]? = some e ∧ fs[j]? = some f ∧ Instr.sameBits 10000 f.key v = true
  | [], fs, i, r, h, hr => by
    have hr' : some none = some r := hr
    injection hr' with hr'; subst hr'
    obtain ⟨h1, _, _⟩ := h
    simp only [List.map_nil, RelL, List.map_eq_nil_iff] at h1
    subst h1
    exact .inl ⟨rfl, rfl⟩
  | e :: es, fs, i, r, h, hr => by
    obtain ⟨h1, h2, h3⟩ := h
    cases fs with
    | nil => simp at h3
    | cons f fs =>
      simp only [List.map_cons, RelL] at h1 h2
      obtain ⟨k1, ks, e1, hk1, hks⟩ := h1
      obtain ⟨v1, vs, e2, hv1, hvs⟩ := h2
      injection e1 with e1 e1'; injection e2 with e2 e2'
      subst e1 e2 e1' e2'
      simp only [List.map_cons] at h3
      injection h3 with h3 h3'
      have hr' : (match eqK q x e.1 with
        | some true => some (some (i, e.2.1))
        | some false => List.rec (motive := fun _ => Nat → Option (Option (Nat × AV))) (fun _ => some none)
            (fun e _ ih i => match eqK q x e.1 with
              | some true => some (some (i, e.2.1))
              | some false => ih (Nat.succ i)
              | none => none) es (Nat.succ i)
        | none => none) = some r := hr
      split at hr'
      · rename_i hq
        injection hr' with hr'; subst hr'
        obtain ⟨g1, g2⟩ := sameNow_of hd hk hq r1 hk1
        exact .inr ⟨0, _, _, e, f, rfl, by simp [Instr.findNow, g1], hv1, rfl, rfl, g2 rfl⟩
      · rename_i hq
        obtain ⟨g1, g2⟩ := sameNow_of hd hk hq r1 hk1
        rcases findNow_rel hd hk r1 (Nat.succ i) ⟨hks, hvs, h3'⟩ hr' with ⟨k1, k2⟩ | ⟨j, y, u, e', f', k1, k2, k3, k4, k5, k6⟩
        · exact .inl ⟨k1, by simp only [Instr.findNow, g1]; exact k2⟩
        · refine .inr ⟨j + 1, y, u, e', f', by rw [k1]; congr 2; omega, ?_, k3, by simpa using k4, by simpa using k5, k6⟩
          simp only [Instr.findNow, g1]
          rw [show i + (j + 1) = Nat.succ i + j by omega]
          exact k2
      · cases hr'

theorem run_checkKey' {t : TypeId} {q : LK} {d : TypeDesc} (hd : P.underlying t = some d) (hk : keyOk P t q = true) (v : Value) (e : Bool) (w : World) : (Instr.checkKey e 10000 t v).run P w = .ok () w := by
  have : ∃ n, (10000 : Nat) = n + 1 := ⟨9999, rfl⟩
  obtain ⟨n, hn⟩ := this
  rw [hn]
  unfold keyOk at hk
  rw [hd] at hk
  unfold Instr.checkKey
  simp only [Sem.run_bind, run_under hd, Result.andThen_ok]
  cases d <;> first | (cases hk; done) | (cases v <;> rfl)

theorem s_lookup (hR : RegsRel m nt R a.tmps) (hS : Sim P cd B0 w0 m H w) {o : Oper} {t : TypeId} {z : AV} {q : LK} {ok ok' : Bool} {x k : Opd} {x' k' : Operand} (ho : o.op = .lookup t x' k' ok')
    (hc : chkOp P nt (.lookup t x' k' ok') (.lookup z ok q x k) = true) (hx : aexec base (.lookup z ok q x k) R H = some (v, H')) : Out P cd B0 w0 m ((execOp a.eval o).run P w) v H' := by
  simp only [chkOp] at hc
  split at hc
  · rename_i kt e hu
    simp only [Bool.and_eq_true, beq_iff_eq] at hc
    obtain ⟨⟨⟨⟨hk, hz⟩, rfl⟩, h1⟩, h2⟩ := hc
    have r1 := ev_rel hR h1
    have r2 := ev_rel hR h2
    generalize hu1 : a.eval x' = u1 at r1
    generalize hu2 : a.eval k' = u2 at r2
    simp only [aexec] at hx
    split at hx
    · rename_i v' hv'
      injection hx with hx; injection hx with e1 e2; subst e1 e2
      obtain ⟨d, hd⟩ : ∃ d, P.underlying kt = some d := by
        unfold keyOk at hk
        cases hh : P.underlying kt with
        | none => rw [hh] at hk; cases hk
        | some d => exact ⟨d, rfl⟩
      unfold zeroOk at hz
      split at hz
      · rename_i zv hzv
        have hzr := cok_rel m z zv hz
        unfold lookupOp at hv'
        have hmap : ∀ es, (match ev R x with
          | .nilm => some []
          | .map b => (match H.get b with
            | some (.map es _) => some es
            | _ => none)
          | _ => none) = some es → ∃ fs : Array MapEntry, EsRel m es fs.toList ∧ ∀ (r : Option (Nat × Value)), (Instr.findKey kt u2 fs.toList).run P w = .ok r w → (Instr.lookup t u1 u2 ok').run P w = .ok (match r with
              | some (_, v) => if ok' then .tuple #[v, .bool true] else v
              | none => if ok' then .tuple #[zv, .bool false] else zv) w := by
          intro es hes
          split at hes
          · rename_i he
            injection hes with hes; subst hes
            rw [he] at r1
            simp only [Rel] at r1; subst r1
            refine ⟨#[], ⟨by simp only [List.map_nil, RelL], by simp only [List.map_nil, RelL], rfl⟩, fun r hr => ?_⟩
            simp only [Instr.lookup, Sem.run_bind, run_under hu, Result.andThen_ok, Sem.run_pure, run_checkKey' hd hk, hr]
            cases r with
            | none => simp only [Sem.run_bind, run_zero hzv, Result.andThen_ok, Sem.run_pure]
            | some p => simp only [Sem.run_bind, Result.andThen_ok, Sem.run_pure]
          · rename_i b he
            rw [he] at r1
            simp only [Rel] at r1
            obtain ⟨B, d', E, hr, rfl⟩ := r1
            split at hes
            · rename_i es' clock hb
              injection hes with hes; subst hes
              obtain ⟨fs, hfs, hrel⟩ := hS.obj b _ hb B d' E hr
              refine ⟨fs, hrel, fun r hr => ?_⟩
              simp only [Instr.lookup, Sem.run_bind, run_under hu, Result.andThen_ok, Sem.run_pure, run_getObj' hfs (fun _ _ _ h => by cases h), run_checkKey' hd hk, hr]
              cases r with
              | none => simp only [Sem.run_bind, run_zero hzv, Result.andThen_ok, Sem.run_pure]
              | some p => simp only [Sem.run_bind, Result.andThen_ok, Sem.run_pure]
            · cases hes
          · cases hes
        split at hv'
        · cases hv'
        · rename_i es _
          obtain ⟨fs, hrel, hrun⟩ := hmap es (by assumption)
          split at hv'
          · cases hv'
          · rename_i hf
            injection hv' with hv'; subst hv'
            rcases findNow_rel hd hk r2 0 hrel hf with ⟨_, hn⟩ | ⟨j, y, u, e', f', hh, _⟩
            · have hfk := MapKept.run_findKey (w := w) hd hn
              cases ok' with
              | true =>
                refine Out.same hS (u := .tuple #[zv, .bool false]) ?_ ?_
                · simp only [execOp, ho, hu1, hu2, Sem.run_bind, hrun _ hfk, Result.andThen_ok, Sem.run_pure]; rfl
                · simp only [if_true, Rel]; refine ⟨_, rfl, ?_⟩
                  simp only [RelL]; exact ⟨_, _, rfl, hzr, _, _, rfl, by simp only [Rel], rfl⟩
              | false =>
                refine Out.same hS (u := zv) ?_ hzr
                simp only [execOp, ho, hu1, hu2, Sem.run_bind, hrun _ hfk, Result.andThen_ok, Sem.run_pure]; rfl
            · cases hh
          · rename_i i0 y0 hf
            injection hv' with hv'; subst hv'
            rcases findNow_rel hd hk r2 0 hrel hf with ⟨hh, _⟩ | ⟨j, y, u, e', f', hh, hn, hyu, _⟩
            · cases hh
            · injection hh with hh; injection hh with hh1 hh2; subst hh2
              have hfk := MapKept.run_findKey (w := w) hd hn
              cases ok' with
              | true =>
                refine Out.same hS (u := .tuple #[u, .bool true]) ?_ ?_
                · simp only [execOp, ho, hu1, hu2, Sem.run_bind, hrun _ hfk, Result.andThen_ok, Sem.run_pure]; rfl
                · simp only [if_true, Rel]; refine ⟨_, rfl, ?_⟩
                  simp only [RelL]; exact ⟨_, _, rfl, hyu, _, _, rfl, by simp only [Rel], rfl⟩
              | false =>
                refine Out.same hS (u := u) ?_ hyu
                simp only [execOp, ho, hu1, hu2, Sem.run_bind, hrun _ hfk, Result.andThen_ok, Sem.run_pure]; rfl
      · cases hz
    · cases hx
  · cases hc
end
end Go.Ab
