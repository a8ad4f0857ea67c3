/- Regions whose order is drawn: every order. -/
import Derived.Test.YtdiiepiflmgdeaaGreatA23
namespace Go.Ab
set_option linter.unusedSimpArgs false
open Go.RowKit (Below)

def Lr (L : List Ent) : List (Nat × AStep) := L.map fun x => (x.1, x.2.1)

theorem findS_in : ∀ {L : List Ent} {y : Ent}, y ∈ L → (∀ x ∈ L, ∀ z ∈ L, x.1 = z.1 → x = z) → findS y.1 (Lr L) = some y.2.1
  | [], y, hy, _ => by cases hy
  | x :: L, y, hy, hu => by
    have h : findS y.1 (Lr (x :: L)) = if Nat.beq x.1 y.1 then some x.2.1 else findS y.1 (Lr L) := rfl
    rw [h]
    by_cases e : x.1 = y.1
    · have := hu x List.mem_cons_self y hy e
      subst this
      rw [if_pos (Nat.beq_refl _)]
    · rw [if_neg (by simpa [Nat.beq_eq] using e)]
      have hy' : y ∈ L := by
        rcases List.mem_cons.1 hy with rfl | hy
        · exact absurd rfl e
        · exact hy
      exact findS_in hy' fun a ha b hb => hu a (List.mem_cons_of_mem _ ha) b (List.mem_cons_of_mem _ hb)

section
variable {P : Program} {cd : Nat → Array Oper → DT → Bool} {tab : T AFunc} {B0 : Nat} {w0 : Frz} {m0 m : M} {nt : Nat} {ops : Array Oper} {base : K}
  {L : List Ent} {s s1 s' : St} {U : Nat → Prop} {gh : K → Prop} {Rr : T AV} {listed : Array Bool} {a : Act} {w : World} {ro : Option Nat} {Q : Exit → Act → World → Prop} {rn : Run}

theorem runDT_op {i : Nat} {st : AStep} {next : DT} {Ls : List (Nat × AStep)} : runDT tab rn base (.op i st next) Ls s = match stepS tab rn base st s with
  | some s => runDT tab rn base next ((i, st) :: Ls) s
  | none => none := rfl
theorem runDT_re {i : Nat} {next : DT} {Ls : List (Nat × AStep)} : runDT tab rn base (.re i next) Ls s = match findS i Ls with
  | some st => if again base st s then runDT tab rn base next Ls s else none
  | none => none := rfl
theorem runDT_par {x y : DT} {Ls : List (Nat × AStep)} : runDT tab rn base (.par x y) Ls s = match runDT tab rn base x Ls s with
  | some s1 => (match runDT tab rn base y Ls s with
    | some s2 => if sameSt s1 s2 then some s1 else none
    | none => none)
  | none => none := rfl

theorem res_run : ∀ {d : DT} {Ls : List (Nat × AStep)}, runDT tab rn base d Ls s = some s' → ∀ i ∈ resD d, ∃ st, findS i Ls = some st ∧ again base st s = true
  | .done, _, _, i, hi => by cases hi
  | .op .., _, _, i, hi => by cases hi
  | .par .., _, _, i, hi => by cases hi
  | .re j next, Ls, h, i, hi => by
    rw [runDT_re] at h
    split at h
    · rename_i st hst
      split at h
      · rename_i ha
        rcases List.mem_cons.1 hi with rfl | hi
        · exact ⟨st, hst, ha⟩
        · exact res_run h i hi
      · cases h
    · cases h

def Alt (P : Program) (nt : Nat) (ops : Array Oper) (tab : T AFunc) (rn : Run) (base : K) (L : List Ent) (s s' : St) (x : Nat) : Prop :=
  ∃ st next s1, EntOk P nt ops L x st ∧ resOk L (closOf L (dirAt ops x)) (resD next) = true ∧ chkN P nt ops next false (entOf ops L x st :: L) = true ∧ stepS tab rn base st s = some s1 ∧ runDT tab rn base next (Lr (entOf ops L x st :: L)) s1 = some s'

theorem alts_ok : ∀ {d : DT} {s' : St}, chkN P nt ops d true L = true → runDT tab rn base d (Lr L) s = some s' → altsD d ≠ [] ∧ ∀ x ∈ altsD d, Alt P nt ops tab rn base L s s' x
  | .done, _, hc, _ => by simp [chkN] at hc
  | .re .., _, hc, _ => by simp [chkN] at hc
  | .op i st next, s', hc, h => by
    simp only [chkN, Bool.not_true, Bool.false_and, Bool.false_or, Bool.true_or, Bool.true_and, Bool.and_eq_true] at hc
    rw [runDT_op] at h
    split at h
    · rename_i s1 hs1
      refine ⟨by simp [altsD], fun x hx => ?_⟩
      have : x = i := by simpa [altsD] using hx
      subst this
      exact ⟨st, next, s1, entOk hc.1.1, hc.1.2, hc.2, hs1, h⟩
    · cases h
  | .par y z, s', hc, h => by
    simp only [chkN, Bool.true_or, Bool.true_and, Bool.and_eq_true] at hc
    rw [runDT_par] at h
    split at h
    · rename_i s1 hs1
      split at h
      · rename_i s2 hs2
        split at h
        · rename_i hsame
          have := sameSt_eq hsame; subst this
          injection h with h; subst h
          obtain ⟨h1, h2⟩ := alts_ok hc.1 hs1
          obtain ⟨h3, h4⟩ := alts_ok hc.2 hs2
          refine ⟨?_, fun x hx => ?_⟩
          · intro e
            simp only [altsD, List.append_eq_nil_iff] at e
            exact h1 e.1
          · rcases List.mem_append.1 hx with hx | hx
            · exact h2 x hx
            · exact h4 x hx
        · cases h
      · cases h
    · cases h

theorem settle {n : Nat} : ∀ {d : DT} {L : List Ent} {s : St} {U : Nat → Prop} {gh : K → Prop}, Inv P cd B0 w0 nt m0 ops base L s U gh Rr m listed a w → chkN P nt ops d false L = true → runDT tab (run tab n) base d (Lr L) s = some s' →
    ∃ d' L' s1 U' gh' as, Inv P cd B0 w0 nt m0 ops base L' s1 U' gh' Rr m listed a w ∧ chkN P nt ops d' false L' = true ∧ runDT tab (run tab n) base d' (Lr L') s1 = some s' ∧ cover ops L' as = true ∧ (∀ x ∈ as, Alt P nt ops tab (run tab n) base L' s1 s' x) ∧ (as = [] → s1 = s')
  | .done, L, s, U, gh, h, hc, hr => by
    have hr' : some s = some s' := hr
    injection hr' with hr'
    have hc' := hc
    simp only [chkN, Bool.not_false, Bool.true_and] at hc
    exact ⟨.done, L, s, U, gh, [], h, hc', hr, hc, (fun _ hx => by cases hx), fun _ => hr'⟩
  | .re i next, L, s, U, gh, h, hc, hr => by
    simp only [chkN, Bool.not_false, Bool.true_and] at hc
    rw [runDT_re] at hr
    split at hr
    · split at hr
      · exact settle h hc hr
      · cases hr
    · cases hr
  | .par y z, L, s, U, gh, h, hc, hr => by
    have hc' := hc
    simp only [chkN, Bool.false_or, Bool.and_eq_true] at hc
    have hc2 : chkN P nt ops (.par y z) true L = true := by simp only [chkN, Bool.true_or, Bool.true_and, Bool.and_eq_true]; exact hc.2
    obtain ⟨h1, h2⟩ := alts_ok hc2 hr
    exact ⟨.par y z, L, s, U, gh, altsD (.par y z), h, hc', hr, hc.1, h2, fun e => absurd e h1⟩
  | .op i st next, L, s, U, gh, h, hc, hr => by
    have hc' := hc
    have hr0 := hr
    simp only [chkN, Bool.not_false, Bool.true_and, Bool.false_or, Bool.and_eq_true, Bool.or_eq_true] at hc
    obtain ⟨⟨h1, h2⟩, h3⟩ := hc
    rw [runDT_op] at hr
    split at hr
    · rename_i s2 hs2
      by_cases hm : mobile st.op = true
      · obtain ⟨gh', h'⟩ := h.adv (entOk h1) hm hs2
        exact settle h' h3 hr
      · rcases h2 with h2 | h2
        · exact absurd h2 hm
        · refine ⟨.op i st next, L, s, U, gh, [i], h, hc', hr0, h2.1, fun x hx => ?_, fun e => by cases e⟩
          have : x = i := by simpa using hx
          subst this
          exact ⟨st, next, s2, entOk h1, h2.2, h3, hs2, hr⟩
    · cases hr

theorem direct_iff {o : Oper} {i d : Nat} (ho : ops[i]? = some o) : d ∈ dirAt ops i ↔ ∃ e ∈ o.after, Region.binds .any e = true ∧ e.on = d := by
  unfold dirAt
  rw [ho]
  simp [direct, and_assoc]

theorem getD_both {i : Nat} (hi : i < listed.size) : listed.getD i true = listed.getD i false := by simp [hi]

theorem fin {as : List Nat} (h : Inv P cd B0 w0 nt m0 ops base L s1 U gh Rr m listed a w) (halt : ∀ x ∈ as, Alt P nt ops tab rn base L s1 s' x) (hend : as = [] → s1 = s') (hready : Region.ready .any ops listed = []) :
    Post P cd B0 w0 nt m0 .normal s' .normal a w := by
  have hno : ∀ i o, ops[i]? = some o → listed.getD i false = false → (∀ d ∈ dirAt ops i, listed.getD d false = true) → False := by
    intro i o ho hl hd
    have hi : i < listed.size := by rw [h.size]; exact (Array.getElem?_eq_some_iff.1 ho).1
    have : i ∈ Region.ready .any ops listed := mem_ready.2 ⟨by rw [getD_both hi]; exact hl, o, ho, fun e he hb => hd e.on ((direct_iff ho).2 ⟨e, he, hb, rfl⟩)⟩
    rw [hready] at this; cases this
  have hU : ∀ i, ¬ U i := by
    intro i hu
    obtain ⟨x, hx, e⟩ := inL_iff.1 (h.sub i hu)
    obtain ⟨y, hy, huy, hd⟩ := h.ord.first ⟨x, hx, e ▸ hu⟩
    obtain ⟨o, ho, _⟩ := h.steps y hy
    refine hno y.1 o ho ?_ (fun d hdd => (h.lst d).2 (hd d hdd))
    cases hb : listed.getD y.1 false with
    | false => rfl
    | true => exact absurd huy ((h.lst _).1 hb).2
  have has : as = [] := by
    cases as with
    | nil => rfl
    | cons x as =>
      exfalso
      obtain ⟨st, next, s2, he, _⟩ := halt x List.mem_cons_self
      obtain ⟨o, ho, _⟩ := he.oper
      refine hno x o ho ?_ (fun d hd => (h.lst d).2 ⟨he.deps d hd, hU d⟩)
      cases hb : listed.getD x false with
      | false => rfl
      | true => have := ((h.lst _).1 hb).1; rw [he.fresh] at this; cases this
  have hs := hend has
  subst hs
  refine ⟨rfl, m, h.le, ⟨h.regs.1, fun k hk => ?_⟩, h.sim.weaken (fun b hb => .inl hb), h.defs⟩
  rw [← h.agree k (fun x _ hu => absurd hu (hU x.1))]
  exact h.regs.2 k hk

theorem count_set {i : Nat} (hi : i < listed.size) (hl : listed.getD i false = false) : (listed.setIfInBounds i true).toList.count false + 1 = listed.toList.count false := by
  have hi' : i < listed.toList.length := by simpa using hi
  have hget : listed.toList[i] = false := by simpa [hi] using hl
  have hpos : 0 < listed.toList.count false := List.count_pos_iff.2 (by rw [← hget]; exact List.getElem_mem hi')
  have hc := List.count_set (a := true) (b := false) hi'
  rw [hget] at hc
  rw [Array.toList_setIfInBounds, hc]
  have e1 : (if (false == false) = true then 1 else 0 : Nat) = 1 := rfl
  have e2 : (if (true == false) = true then 1 else 0 : Nat) = 0 := rfl
  rw [e1, e2]
  omega

theorem draw_fuel (hT : TabOk P cd tab) {n : Nat} (hn : Sound P cd tab n) : ∀ (fuel : Nat) {d : DT} {L : List Ent} {s : St} {U : Nat → Prop} {gh : K → Prop} {Rr : T AV} {m : M} {listed : Array Bool} {a : Act} {w : World},
    Inv P cd B0 w0 nt m0 ops base L s U gh Rr m listed a w → chkN P nt ops d false L = true → runDT tab (run tab n) base d (Lr L) s = some s' → listed.toList.count false ≤ fuel →
    wpAnyIn (Fw ro) 0 P .any ops (Post P cd B0 w0 nt m0 .normal s') fuel listed a w := by
  intro fuel
  induction fuel with
  | zero =>
    intro d L s U gh Rr m listed a w h hc hr hf
    obtain ⟨d', L', s1, U', gh', as, h', hc', hr', hcov, halt, hend⟩ := settle h hc hr
    have hready : Region.ready .any ops listed = [] := by
      cases hrd : Region.ready .any ops listed with
      | nil => rfl
      | cons i l =>
        exfalso
        have hi : i ∈ Region.ready .any ops listed := by rw [hrd]; exact List.mem_cons_self
        obtain ⟨h1, o, ho, _⟩ := mem_ready.1 hi
        have hlt : i < listed.size := by rw [h.size]; exact (Array.getElem?_eq_some_iff.1 ho).1
        have := count_set hlt (by rw [← getD_both hlt]; exact h1)
        omega
    exact ⟨hready, fin h' halt hend hready⟩
  | succ fuel ih =>
    intro d L s U gh Rr m listed a w h hc hr hf
    obtain ⟨d', L', s1, U', gh', as, h', hc', hr', hcov, halt, hend⟩ := settle h hc hr
    refine ⟨fin h' halt hend, fun i hi => ?_⟩
    obtain ⟨h1, o, ho, hall⟩ := mem_ready.1 hi
    have hlt : i < listed.size := by rw [h.size]; exact (Array.getElem?_eq_some_iff.1 ho).1
    have hl : listed.getD i false = false := by rw [← getD_both hlt]; exact h1
    have hcnt := count_set hlt hl
    have hdeps : ∀ d ∈ dirAt ops i, listed.getD d false = true := by
      intro d hd
      obtain ⟨e, he, hb, rfl⟩ := (direct_iff ho).1 hd
      exact hall e he hb
    by_cases hin : inL L' i = true
    · obtain ⟨x, hx, rfl⟩ := inL_iff.1 hin
      have hu : U' x.1 := by
        by_cases hu : U' x.1
        · exact hu
        · have := (h'.lst x.1).2 ⟨hin, hu⟩
          rw [hl] at this; cases this
      exact h'.real hx hu hdeps fun m2 a2 w2 Rr2 gh2 hI => ih hI hc' hr' (by omega)
    · have hcv := List.all_eq_true.1 hcov i (List.mem_range.2 (by rw [← h.size]; exact hlt))
      simp only [Bool.or_eq_true, Bool.not_eq_true'] at hcv
      rcases hcv with hcv | hcv | hcv
      · exact absurd hcv hin
      · obtain ⟨x, hx, hxi⟩ := List.any_eq_true.1 hcv
        have hxi' : i = x := by simpa [Nat.beq_eq] using hxi
        subst hxi'
        obtain ⟨st, next, s2, hent, hres, hck, hstep, hrun⟩ := halt i hx
        refine h'.event hT hn hent hdeps hstep (fun y hy hUy => ?_) fun m2 a2 w2 Rr2 hI => ih hI hck hrun (by omega)
        have hm := (h'.pend y hy hUy).1
        have := List.all_eq_true.1 hres y hy
        simp only [hm, Bool.not_true, Bool.false_or, Bool.or_eq_true] at this
        rcases this with h3 | h3 | h3
        · exact .inl h3
        · exact .inr (.inl h3)
        · obtain ⟨j, hj, hjy⟩ := List.any_eq_true.1 h3
          have hjy' : y.1 = j := by simpa [Nat.beq_eq] using hjy
          subst hjy'
          obtain ⟨st', hf', ha⟩ := res_run hrun _ hj
          have hy' : y ∈ entOf ops L' i st :: L' := List.mem_cons_of_mem _ hy
          rw [findS_in hy' (uniq_ent h'.uniq hent.fresh)] at hf'
          injection hf' with hf'; subst hf'
          exact .inr (.inr ha)
      · exfalso
        have : (dirAt ops i).all (inL L') = true := List.all_eq_true.2 fun d hd => ((h'.lst d).1 (hdeps d hd)).1
        rw [this] at hcv; cases hcv
end

theorem cdOk {P : Program} {cd : Nat → Array Oper → DT → Bool} {tab : T AFunc} (hT : TabOk P cd tab) (hcd : ∀ nt ops d, cd nt ops d = true → chkDraw P nt ops d = true) : CdOk P cd tab := by
  intro n hn B0 w0 nt m ro id ops d s s' base a w hc hst hr
  have hc' := hcd nt ops d hc
  simp only [chkDraw, Bool.and_eq_true] at hc'
  refine wpIn_region_any hc'.1 ?_
  have h : Inv P cd B0 w0 nt m ops base [] s (fun _ => False) (fun _ => False) s.R m (Array.replicate ops.size false) a { w with drawn := w.drawn + 1 } := by
    refine ⟨M.le.refl m, hst.regs, (hst.sim.drew).weaken (fun b hb => hb.resolve_right (fun h => h)), hst.defs, fun b hb => hb.elim, fun _ _ => rfl, (fun x hx => by cases hx), (fun x hx => by cases hx), (fun x hx => by cases hx), (fun x hx => by cases hx), (fun x hx => by cases hx), .nil, (fun x hx => by cases hx), ?_, ?_, by simp, fun i hi => hi.elim⟩
    · intro i
      constructor
      · intro h
        exfalso
        simp [Array.getElem?_replicate] at h
        split at h <;> simp at h
      · rintro ⟨h, _⟩; cases h
    · intro i h
      exfalso
      simp [Array.getElem?_replicate] at h
      split at h <;> simp at h
  exact draw_fuel hT hn ops.size h hc'.2 hr (by simp)
end Go.Ab
