/- Cuts of slices and texts; comparing; numbers. -/
import Derived.Test.YtdiiepiflmgdeaaGreatA8
namespace Go.Ab
open Go.RowKit (Below)

section
variable {P : Program} {cd : Nat → Array Oper → DT → Bool} {B0 : Nat} {w0 : Frz} {m : M} {H H' : T AObj} {w : World} {nt : Nat} {R : T AV} {a : Act} {base : K} {v : AV}

theorem bound_some {n i : Nat} {x : AV} (h : bound n x = some i) : ∃ k, x = .int k (.ofNat i) ∧ i ≤ n := by
  unfold bound at h
  split at h
  · split at h
    · rename_i hb; injection h with h; subst h; exact ⟨_, rfl, by simpa using hb⟩
    · cases h
  · cases h

theorem run_bound {n i : Nat} {x : Opd} {y : Operand} (hR : RegsRel m nt R a.tmps) (hc : chkOpd nt y x = true) (h : bound n (ev R x) = some i) (c : BoundsCode) {n' : Nat} (hn : n ≤ n') (w : World) :
    (Instr.sliceBound (a.eval y) n' c).run P w = .ok i w ∧ i ≤ n := by
  obtain ⟨k, hk, hle⟩ := bound_some h
  have r := ev_rel hR hc
  rw [hk] at r
  simp only [Rel] at r
  have hcond : 0 ≤ Int.ofNat i ∧ Int.ofNat i ≤ (n' : Int) := ⟨Int.natCast_nonneg i, Int.ofNat_le.2 (by omega)⟩
  refine ⟨?_, hle⟩
  simp only [Instr.sliceBound, r, asIntOf, Sem.run_bind, Sem.run_pure, Result.andThen_ok, Sem.run_ite, if_pos hcond]
  rfl
theorem run_boundO {n i : Nat} {lo : Option Opd} {lo' : Option Operand} (hR : RegsRel m nt R a.tmps) (hc : chkOpt nt lo' lo = true) (h : boundO n 0 R lo = some i) (w : World) :
    i ≤ n ∧ (lo' = none ∧ i = 0 ∨ ∃ y, lo' = some y ∧ ∀ c, (Instr.sliceBound (a.eval y) n c).run P w = .ok i w) := by
  cases lo with
  | none =>
    cases lo' with
    | none => simp only [boundO] at h; injection h with h; subst h; exact ⟨by omega, .inl ⟨rfl, rfl⟩⟩
    | some _ => simp [chkOpt] at hc
  | some x =>
    cases lo' with
    | none => simp [chkOpt] at hc
    | some y => exact ⟨(run_bound (P := P) hR hc h .index (Nat.le_refl _) w).2, .inr ⟨y, rfl, fun c => (run_bound hR hc h c (Nat.le_refl _) w).1⟩⟩

theorem run_bnds (hR : RegsRel m nt R a.tmps) {isS : Bool} {lo hi mx : Option Opd} {lo' hi' mx' : Option Operand} (h1 : chkOpt nt lo' lo = true) (h2 : chkOpt nt hi' hi = true) (h3 : chkOpt nt mx' mx = true)
    {n cap top l h : Nat} {om : Option Nat} (htop : top ≤ cap) (hb : bnds n top lo hi mx R = some (l, h, om)) (w : World) :
    (Instr.sliceBounds isS n cap (lo'.map a.eval) (hi'.map a.eval) (mx'.map a.eval)).run P w = .ok (l, h, om.getD cap) w ∧ l ≤ h ∧ (∀ mm, om = some mm → mm ≤ top ∧ h ≤ mm) ∧ (om = none → h = n ∨ h ≤ top) := by
  unfold bnds at hb
  cases mx with
  | none =>
    cases mx' with
    | some _ => simp [chkOpt] at h3
    | none =>
      cases hi with
      | none =>
        cases hi' with
        | some _ => simp [chkOpt] at h2
        | none =>
          simp only at hb
          split at hb
          · rename_i l' hl
            injection hb with hb; injection hb with e1 e2; injection e2 with e2 e3; subst e1 e2 e3
            obtain ⟨hle, hlo⟩ := run_boundO (P := P) hR h1 hl w
            refine ⟨?_, hle, (fun _ h => by cases h), fun _ => .inl rfl⟩
            rcases hlo with ⟨rfl, rfl⟩ | ⟨y, rfl, hy⟩
            · simp [Instr.sliceBounds]
            · simp [Instr.sliceBounds, hy]
          · cases hb
      | some q =>
        cases hi' with
        | none => simp [chkOpt] at h2
        | some q' =>
          simp only at hb
          split at hb
          · rename_i h' hh
            split at hb
            · rename_i l' hl
              injection hb with hb; injection hb with e1 e2; injection e2 with e2 e3; subst e1 e2 e3
              obtain ⟨hle, hlo⟩ := run_boundO (P := P) hR h1 hl w
              obtain ⟨f1, f2⟩ := run_bound (P := P) hR h2 hh (if isS then .sliceAcap else .sliceAlen) htop w
              refine ⟨?_, hle, (fun _ h => by cases h), fun _ => .inr f2⟩
              rcases hlo with ⟨rfl, rfl⟩ | ⟨y, rfl, hy⟩
              · simp [Instr.sliceBounds, f1]
              · simp [Instr.sliceBounds, hy, f1]
            · cases hb
          · cases hb
  | some z =>
    cases mx' with
    | none => simp [chkOpt] at h3
    | some z' =>
      cases hi with
      | none => simp at hb
      | some q =>
        cases hi' with
        | none => simp [chkOpt] at h2
        | some q' =>
          simp only at hb
          split at hb
          · rename_i mm hmm
            split at hb
            · rename_i h' hh
              split at hb
              · rename_i l' hl
                injection hb with hb; injection hb with e1 e2; injection e2 with e2 e3; subst e1 e2 e3
                obtain ⟨hle, hlo⟩ := run_boundO (P := P) hR h1 hl w
                obtain ⟨f1, f2⟩ := run_bound (P := P) hR h2 hh .slice3B (Nat.le_refl _) w
                obtain ⟨g1, g2⟩ := run_bound (P := P) hR h3 hmm (if isS then .slice3Acap else .slice3Alen) htop w
                refine ⟨?_, hle, (fun _ h => by injection h with h; subst h; exact ⟨g2, f2⟩), (fun h => by cases h)⟩
                rcases hlo with ⟨rfl, rfl⟩ | ⟨y, rfl, hy⟩
                · simp [Instr.sliceBounds, f1, g1]
                · simp [Instr.sliceBounds, hy, f1, g1]
              · cases hb
            · cases hb
          · cases hb

theorem run_slc {t e : TypeId} {sz : Nat} (hu : P.underlying t = some (.slice e)) (hsz : szOf P e = some sz) {ad : Option Addr} {n cap : Nat} {lo hi mx : Option Value} {l h mm : Nat}
    (hb : (Instr.sliceBounds true n cap lo hi mx).run P w = .ok (l, h, mm) w) :
    (Instr.sliceAt t (.slice ad n cap) lo hi mx).run P w = .ok (.slice (if mm = l then ad else ad.map (·.add (l * sz))) (h - l) (mm - l)) w := by
  simp only [Instr.sliceAt, Sem.run_bind, run_under hu, Result.andThen_ok, Instr.slice, hb, run_size hsz, Sem.run_pure]

theorem cutS_rel {b : K} {o l h mm sz B d E : Nat} (hr : m.r b = some (B, d, E)) :
    Rel m (cutS b o l h mm sz) (.slice (if mm = l then some ⟨B, d + o, none⟩ else (some (⟨B, d + o, none⟩ : Addr)).map (·.add (l * sz))) (h - l) (mm - l)) := by
  unfold cutS
  by_cases e : mm = l
  · subst e
    rw [if_pos (Nat.beq_refl mm), frcN_eq, if_pos rfl, Nat.sub_self]
    simp only [Rel]; exact ⟨B, d, E, hr, rfl⟩
  · rw [if_neg (by simpa [Nat.beq_eq] using e), if_neg e, frcN_eq, frcN_eq, frcN_eq]
    simp only [Rel]; exact ⟨B, d, E, hr, by rw [Option.map_some, add_off, Nat.add_assoc]⟩

theorem s_slc (hR : RegsRel m nt R a.tmps) (hS : Sim P cd B0 w0 m H w) {o : Oper} {t : TypeId} {sz : Nat} {x : Opd} {y : Operand} {lo hi mx : Option Opd} {lo' hi' mx' : Option Operand} (ho : o.op = .slice t y lo' hi' mx')
    (hc : chkOp P nt (.slice t y lo' hi' mx') (.slc sz x lo hi mx) = true) (hx : aexec base (.slc sz x lo hi mx) R H = some (v, H')) : Out P cd B0 w0 m ((execOp a.eval o).run P w) v H' := by
  simp only [chkOp] at hc
  split at hc
  · rename_i e hu
    simp only [Bool.and_eq_true, beq_iff_eq] at hc
    obtain ⟨⟨⟨⟨hsz, hcx⟩, h1⟩, h2⟩, h3⟩ := hc
    have r := ev_rel hR hcx
    generalize hu1 : a.eval y = u at r
    simp only [aexec] at hx
    split at hx
    · rename_i v' hv'
      injection hx with hx; injection hx with e1 e2; subst e1 e2
      have key : ∀ {ad : Option Addr} {n cap l h mm : Nat}, u = .slice ad n cap → (Instr.sliceBounds true n cap (lo'.map a.eval) (hi'.map a.eval) (mx'.map a.eval)).run P w = .ok (l, h, mm) w →
          (execOp a.eval o).run P w = .ok (.value (.slice (if mm = l then ad else ad.map (·.add (l * sz))) (h - l) (mm - l))) w := by
        intro ad n cap l h mm hs hb
        subst hs
        simp only [execOp, ho, hu1, Sem.run_bind, run_slc hu hsz hb, Result.andThen_ok, Sem.run_pure]
      unfold slcOp at hv'
      split at hv'
      · -- a slice whose capacity is known
        rename_i b of n cap he
        rw [he] at r
        simp only [Rel] at r
        obtain ⟨B, d, E, hr, hs⟩ := r
        split at hv'
        · rename_i l h hb
          injection hv' with hv'; subst hv'
          exact Out.same hS (key hs (run_bnds hR h1 h2 h3 (Nat.le_refl _) hb w).1) (cutS_rel hr)
        · rename_i l h mm hb
          injection hv' with hv'; subst hv'
          exact Out.same hS (key hs (run_bnds hR h1 h2 h3 (Nat.le_refl _) hb w).1) (cutS_rel hr)
        · cases hv'
      · -- one that may have room behind it
        rename_i b of n sz' he
        rw [he] at r
        simp only [Rel] at r
        obtain ⟨B, d, E, cap, hr, hs, hle, hE⟩ := r
        split at hv'
        · rename_i hszz
          simp only [Nat.beq_eq] at hszz
          subst hszz
          split at hv'
          · rename_i l h hb
            obtain ⟨f1, f2, _, f4⟩ := run_bnds (P := P) (isS := true) hR h1 h2 h3 hle hb w
            have f4' : h ≤ n := by rcases f4 rfl with h | h <;> omega
            have hrun := key hs f1
            simp only [Option.getD_none] at hrun
            split at hv'
            · rename_i hl0
              simp only [Nat.beq_eq] at hl0
              subst hl0
              injection hv' with hv'; subst hv'
              refine Out.same hS hrun ?_
              simp only [Rel]
              exact ⟨B, d, E, cap, hr, by split <;> simp [add_off], by omega, hE⟩
            · rename_i hl0
              split at hv'
              · rename_i hln
                simp only [Nat.blt_eq] at hln
                rw [frcN_eq, frcN_eq] at hv'
                injection hv' with hv'; subst hv'
                refine Out.same hS hrun ?_
                simp only [Rel]
                refine ⟨B, d, E, cap - l, hr, ?_, by omega, ?_⟩
                · rw [if_neg (by omega), Option.map_some, add_off, Nat.add_assoc]
                · rw [Nat.mul_sub_right_distrib]
                  have : l * sz ≤ cap * sz := Nat.mul_le_mul_right sz (by omega)
                  omega
              · rename_i hln
                simp only [Nat.blt_eq] at hln
                have hln' : n ≤ l := by omega
                injection hv' with hv'; subst hv'
                refine Out.same hS hrun ?_
                simp only [Rel]
                have e0 : h - l = 0 := by omega
                rw [e0]
                by_cases ec : cap = l
                · rw [if_pos ec]
                  exact ⟨_, _, [], rfl, Nat.zero_le _, (fun h => by cases h), by simp only [RelL], rfl, fun i v hi => by simp at hi⟩
                · rw [if_neg ec, Option.map_some, add_off]
                  exact ⟨_, _, [], rfl, Nat.zero_le _, (fun h => by cases h), by simp only [RelL], rfl, fun i v hi => by simp at hi⟩
          · rename_i l h mm hb
            injection hv' with hv'; subst hv'
            exact Out.same hS (key hs (run_bnds hR h1 h2 h3 hle hb w).1) (cutS_rel hr)
          · cases hv'
        · cases hv'
      · -- a row that is never written
        rename_i cs n ex he
        rw [he] at r
        simp only [Rel] at r
        obtain ⟨ad, cap, vs, hs, hle, hex, hrel, himm⟩ := r
        have fin : ∀ {l h mm : Nat} {ex' : Bool}, l ≤ h → h ≤ mm → (ex' = true → mm = h) → (if Nat.beq h l then some (AV.vslice [] 0 ex') else frcN (h - l) fun k => some (.vslice (dropN (l * sz) cs) k ex')) = some v' →
            Rel m v' (.slice (if mm = l then some ad else (some ad).map (·.add (l * sz))) (h - l) (mm - l)) := by
          intro l h mm ex' hlh hhm hexx hv
          split at hv
          · rename_i hhl
            simp only [Nat.beq_eq] at hhl
            subst hhl
            injection hv with hv; subst hv
            simp only [Rel]
            by_cases ec : mm = h
            · rw [if_pos ec]
              exact ⟨_, _, [], by rw [Nat.sub_self], Nat.zero_le _, (fun _ => by omega), by simp only [RelL], himm.spot, fun i v hi => by simp at hi⟩
            · rw [if_neg ec, Option.map_some]
              exact ⟨_, _, [], by rw [Nat.sub_self], Nat.zero_le _, (fun hh => absurd (hexx hh) ec), by simp only [RelL], (by rw [add_at himm.spot]), fun i v hi => by simp at hi⟩
          · rename_i hhl
            have hne : h ≠ l := fun e => hhl (by rw [e]; exact Nat.beq_refl l)
            rw [frcN_eq, dropN_eq] at hv
            injection hv with hv; subst hv
            simp only [Rel]
            rw [if_neg (by omega), Option.map_some]
            exact ⟨_, _, _, rfl, by omega, (fun hh => by have := hexx hh; omega), hrel.drop _, himm.drop _⟩
        split at hv'
        · rename_i l h hb
          obtain ⟨f1, f2, _, f4⟩ := run_bnds (P := P) (isS := true) hR h1 h2 h3 hle hb w
          have f4' : h ≤ n := by rcases f4 rfl with h | h <;> omega
          refine Out.same hS (key hs f1) (fin f2 (by simp; omega) (fun hh => ?_) hv')
          simp only [Bool.and_eq_true, Nat.beq_eq] at hh
          have := hex hh.1
          simp; omega
        · rename_i l h mm hb
          obtain ⟨f1, f2, f3, _⟩ := run_bnds (P := P) (isS := true) hR h1 h2 h3 hle hb w
          refine Out.same hS (key hs f1) (fin f2 (f3 mm rfl).2 (fun hh => ?_) hv')
          simpa using hh
        · cases hv'
      · -- nil
        rename_i he
        rw [he] at r
        simp only [Rel] at r
        split at hv'
        · rename_i p hb
          injection hv' with hv'; subst hv'
          obtain ⟨l, h, om⟩ := p
          obtain ⟨f1, f2, f3, f4⟩ := run_bnds (P := P) (isS := true) hR h1 h2 h3 (Nat.le_refl 0) hb w
          have hrun := key r f1
          have h0 : h = 0 := by
            cases om with
            | none => rcases f4 rfl with h | h <;> omega
            | some mm => have := f3 mm rfl; omega
          have l0 : l = 0 := by omega
          have m0 : om.getD 0 = 0 := by
            cases om with
            | none => rfl
            | some mm => have := f3 mm rfl; simp; omega
          rw [m0, h0, l0] at hrun
          exact Out.same hS hrun (by simp only [Rel]; rfl)
        · cases hv'
      · cases hv'
    · cases hx
  · cases hc

theorem s_slcStr (hR : RegsRel m nt R a.tmps) (hS : Sim P cd B0 w0 m H w) {o : Oper} {t : TypeId} {x : Opd} {y : Operand} {lo hi : Option Opd} {lo' hi' mx' : Option Operand} (ho : o.op = .slice t y lo' hi' mx')
    (hc : chkOp P nt (.slice t y lo' hi' mx') (.slcStr x lo hi) = true) (hx : aexec base (.slcStr x lo hi) R H = some (v, H')) : Out P cd B0 w0 m ((execOp a.eval o).run P w) v H' := by
  simp only [chkOp] at hc
  split at hc
  · rename_i hu
    simp only [Bool.and_eq_true, Option.isNone_iff_eq_none] at hc
    obtain ⟨⟨⟨hcx, h1⟩, h2⟩, rfl⟩ := hc
    have r := ev_rel hR hcx
    generalize hu1 : a.eval y = u at r
    simp only [aexec] at hx
    split at hx
    · rename_i v' hv'
      injection hx with hx; injection hx with e1 e2; subst e1 e2
      unfold slcStrOp at hv'
      split at hv'
      · rename_i n c he
        rw [he] at r
        simp only [Rel] at r
        obtain ⟨s, rfl, hs1, hs2⟩ := r
        split at hv'
        · rename_i l h om hb
          rw [frcN_eq, frcN_eq] at hv'
          injection hv' with hv'; subst hv'
          subst hs1
          obtain ⟨f1, f2, f3, f4⟩ := run_bnds (P := P) (isS := false) (mx' := none) hR h1 h2 rfl (Nat.le_refl _) hb w
          have hle : h ≤ s.size := by
            cases om with
            | none => rcases f4 rfl with h | h <;> omega
            | some mm => have := f3 mm rfl; omega
          have hlen : s.data.toList.length = s.size := Array.length_toList
          refine Out.same hS (u := .string (s.extract l h)) ?_ ?_
          · simp only [Option.map_none] at f1
            simp only [execOp, ho, hu1, Instr.sliceAt, Sem.run_bind, run_under hu, Result.andThen_ok, Instr.slice, Option.map_none, Option.isSome_none, Bool.false_eq_true, if_false, f1, Sem.run_pure]
          · simp only [Rel]
            have ed : (s.extract l h).data.toList = (s.data.toList.drop l).take (h - l) := by
              rw [ByteArray.data_extract, Array.toList_extract, List.extract_eq_take_drop]
            refine ⟨_, rfl, ?_, ?_⟩
            · rw [ByteArray.size_extract]; omega
            · rw [ed, codeL_take _ _ (by simp; omega), codeL_drop _ _ (by omega), hs2, pow8, pow8]
        · cases hv'
      · cases hv'
    · cases hx
  · cases hc
end
end Go.Ab
