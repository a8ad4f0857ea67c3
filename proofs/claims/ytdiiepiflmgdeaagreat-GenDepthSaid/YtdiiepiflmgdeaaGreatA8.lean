/- Operations on arrays, strings, slices; small ones. -/
import Derived.Test.YtdiiepiflmgdeaaGreatA7
import Derived.IntWalk
namespace Go.Ab
open Go.RowKit (Below)

/-! ### texts as numbers -/
theorem codeL_cons (b : UInt8) (l : List UInt8) : codeL (b :: l) = b.toNat + 256 * codeL l := rfl
theorem codeL_lt (l : List UInt8) : codeL l < 256 ^ l.length := by
  induction l with
  | nil => simp [codeL]
  | cons b l ih =>
    rw [codeL_cons, List.length_cons, Nat.pow_succ]
    have := b.toNat_lt
    omega
theorem codeL_append (l k : List UInt8) : codeL (l ++ k) = codeL l + 256 ^ l.length * codeL k := by
  induction l with
  | nil => simp [codeL]
  | cons b l ih =>
    rw [List.cons_append, codeL_cons, codeL_cons, ih, List.length_cons, Nat.pow_succ, Nat.mul_add, ← Nat.add_assoc]
    congr 1
    rw [← Nat.mul_assoc, Nat.mul_comm 256 (256 ^ l.length)]
theorem codeL_drop (l : List UInt8) (n : Nat) (h : n ≤ l.length) : codeL (l.drop n) = codeL l / 256 ^ n := by
  have e : l = l.take n ++ l.drop n := (List.take_append_drop n l).symm
  have hl : (l.take n).length = n := by simp; omega
  have := codeL_append (l.take n) (l.drop n)
  rw [← e, hl] at this
  rw [this, Nat.add_mul_div_left _ _ (Nat.pow_pos (by decide))]
  have hlt := codeL_lt (l.take n)
  rw [hl] at hlt
  rw [Nat.div_eq_of_lt hlt, Nat.zero_add]
theorem codeL_take (l : List UInt8) (n : Nat) (h : n ≤ l.length) : codeL (l.take n) = codeL l % 256 ^ n := by
  have e : l = l.take n ++ l.drop n := (List.take_append_drop n l).symm
  have hl : (l.take n).length = n := by simp; omega
  have := codeL_append (l.take n) (l.drop n)
  rw [← e, hl] at this
  rw [this, Nat.add_mul_mod_self_left]
  have hlt := codeL_lt (l.take n)
  rw [hl] at hlt
  rw [Nat.mod_eq_of_lt hlt]
theorem codeL_get (l : List UInt8) (i : Nat) (h : i < l.length) : (l[i]).toNat = codeL l / 256 ^ i % 256 := by
  rw [← codeL_drop l i (by omega), List.drop_eq_getElem_cons h, codeL_cons]
  have := (l[i]).toNat_lt
  omega
theorem codeL_inj : ∀ {l k : List UInt8}, l.length = k.length → codeL l = codeL k → l = k
  | [], [], _, _ => rfl
  | b :: l, c :: k, hl, h => by
    rw [codeL_cons, codeL_cons] at h
    have hb := b.toNat_lt
    have hc := c.toNat_lt
    have h1 : b.toNat = c.toNat := by omega
    have h2 : codeL l = codeL k := by omega
    rw [UInt8.toNat_inj.1 h1, codeL_inj (by simpa using hl) h2]
  | [], _ :: _, hl, _ => by simp at hl
  | _ :: _, [], hl, _ => by simp at hl
theorem pow8 (n : Nat) : 2 ^ (8 * n) = 256 ^ n := by rw [Nat.pow_mul]

section
variable {P : Program} {cd : Nat → Array Oper → DT → Bool} {B0 : Nat} {w0 : Frz} {m : M} {H H' : T AObj} {w : World} {nt : Nat} {R : T AV} {a : Act} {base : K} {v : AV}

theorem s_indexAddrArr (hR : RegsRel m nt R a.tmps) (hS : Sim P cd B0 w0 m H w) {o : Oper} {t : TypeId} {n sz : Nat} {x i : Opd} {y k : Operand} (ho : o.op = .indexAddr t y k)
    (hc : chkOp P nt (.indexAddr t y k) (.indexAddrArr n sz x i) = true) (hx : aexec base (.indexAddrArr n sz x i) R H = some (v, H')) : Out P cd B0 w0 m ((execOp a.eval o).run P w) v H' := by
  simp only [chkOp] at hc
  split at hc
  · rename_i n' e hu
    simp only [Bool.and_eq_true, beq_iff_eq] at hc
    obtain ⟨⟨⟨rfl, hsz⟩, h1⟩, h2⟩ := hc
    have r1 := ev_rel hR h1
    have r2 := ev_rel hR h2
    generalize hv : a.eval y = u at r1
    generalize hv2 : a.eval k = u2 at r2
    simp only [aexec] at hx
    split at hx
    · rename_i b of he
      split at hx
      · rename_i j hj
        rw [frcN_eq] at hx
        injection hx with hx; injection hx with e1 e2; subst e1 e2
        rw [he] at r1
        simp only [Rel] at r1
        obtain ⟨B, d, E, hr, rfl⟩ := r1
        obtain ⟨kk, hk, hlt⟩ := place_some hj
        rw [hk] at r2
        simp only [Rel] at r2
        have hcond : 0 ≤ Int.ofNat j ∧ Int.ofNat j < (n' : Int) := ⟨Int.natCast_nonneg j, Int.ofNat_lt.2 hlt⟩
        refine Out.same hS (u := .pointer (some ((⟨B, d + of, none⟩ : Addr).add (j * sz)))) ?_ ?_
        · simp only [execOp, ho, hv, hv2, r2, Instr.indexAt, asIntOf, Sem.run_bind, Sem.run_pure, Result.andThen_ok, run_under hu, Instr.sureAddr, Sem.run_ite, if_pos hcond, run_size hsz]
          simp
        · simp only [Rel]; exact ⟨B, d, E, hr, by rw [add_off, Nat.add_assoc]⟩
      · cases hx
    · cases hx
  · cases hc

theorem s_indexArr (hR : RegsRel m nt R a.tmps) (hS : Sim P cd B0 w0 m H w) {o : Oper} {t : TypeId} {n sz : Nat} {ag : Bool} {x i : Opd} {y k : Operand} (ho : o.op = .index t y k)
    (hc : chkOp P nt (.index t y k) (.indexArr n ag sz x i) = true) (hx : aexec base (.indexArr n ag sz x i) R H = some (v, H')) : Out P cd B0 w0 m ((execOp a.eval o).run P w) v H' := by
  simp only [chkOp] at hc
  split at hc
  · rename_i n' e hu
    simp only [Bool.and_eq_true, beq_iff_eq] at hc
    obtain ⟨⟨⟨rfl, hld⟩, h1⟩, h2⟩ := hc
    have r1 := ev_rel hR h1
    have r2 := ev_rel hR h2
    generalize hv : a.eval y = u at r1
    generalize hv2 : a.eval k = u2 at r2
    simp only [aexec] at hx
    split at hx
    · rename_i l he
      split at hx
      · rename_i j hj
        split at hx
        · rename_i v' hv'
          injection hx with hx; injection hx with e1 e2; subst e1 e2
          rw [he] at r1
          simp only [Rel] at r1
          obtain ⟨c, rfl, hrel⟩ := r1
          obtain ⟨kk, hk, hlt⟩ := place_some hj
          rw [hk] at r2
          simp only [Rel] at r2
          have hcond : 0 ≤ Int.ofNat j ∧ Int.ofNat j < (n' : Int) := ⟨Int.natCast_nonneg j, Int.ofNat_lt.2 hlt⟩
          unfold elemAt at hv'
          split at hv'
          · rename_i cs hcs
            obtain ⟨u, hrun, hu'⟩ := run_partOf hld hcs hv' hrel w
            refine Out.same hS (u := u) ?_ hu'
            simp only [execOp, ho, hv, hv2, r2, Instr.index, asIntOf, Sem.run_bind, Sem.run_pure, Result.andThen_ok, run_under hu, Sem.run_ite, if_pos hcond, run_size (ldOk_some hld).2.1]
            have e0 : (Int.ofNat j).toNat = j := rfl
            rw [e0, hrun]; rfl
          · cases hv'
        · cases hx
      · cases hx
    · cases hx
  · cases hc

theorem s_indexStr (hR : RegsRel m nt R a.tmps) (hS : Sim P cd B0 w0 m H w) {o : Oper} {t : TypeId} {x i : Opd} {y k : Operand} (ho : o.op = .index t y k)
    (hc : chkOp P nt (.index t y k) (.indexStr x i) = true) (hx : aexec base (.indexStr x i) R H = some (v, H')) : Out P cd B0 w0 m ((execOp a.eval o).run P w) v H' := by
  simp only [chkOp] at hc
  split at hc
  · rename_i hu
    simp only [Bool.and_eq_true] at hc
    obtain ⟨h1, h2⟩ := hc
    have r1 := ev_rel hR h1
    have r2 := ev_rel hR h2
    generalize hv : a.eval y = u at r1
    generalize hv2 : a.eval k = u2 at r2
    simp only [aexec] at hx
    split at hx
    · rename_i n c he
      split at hx
      · rename_i j hj
        rw [frcN_eq] at hx
        injection hx with hx; injection hx with e1 e2; subst e1 e2
        rw [he] at r1
        simp only [Rel] at r1
        obtain ⟨s, rfl, hs1, hs2⟩ := r1
        obtain ⟨kk, hk, hlt⟩ := place_some hj
        rw [hk] at r2
        simp only [Rel] at r2
        have hlt' : j < s.size := by omega
        have hlen : s.data.toList.length = s.size := Array.length_toList
        have hget : s[(Int.ofNat j).toNat]? = some s[j] := by
          show s[j]? = some s[j]
          exact getElem?_pos s j hlt'
        refine Out.same hS (u := .int .u8 (s[j]).toNat) ?_ ?_
        · have h0 : (0 : Int) ≤ Int.ofNat j := Int.natCast_nonneg j
          simp only [execOp, ho, hv, hv2, r2, Instr.index, asIntOf, Sem.run_bind, Sem.run_pure, Result.andThen_ok, run_under hu, if_pos h0, hget]
        · simp only [Rel]
          have := codeL_get s.data.toList j (by omega)
          rw [hs2, ← pow8] at this
          have e2 : s[j] = s.data.toList[j]'(by omega) := rfl
          rw [e2, this]; rfl
      · cases hx
    · cases hx
  · cases hc

/-! ### small ones -/
theorem s_extract (hR : RegsRel m nt R a.tmps) (hS : Sim P cd B0 w0 m H w) {o : Oper} {i : Nat} {x : Opd} {y : Operand} (ho : o.op = .extract y i) (hc : chkOpd nt y x = true)
    (hx : aexec base (.extract x i) R H = some (v, H')) : Out P cd B0 w0 m ((execOp a.eval o).run P w) v H' := by
  have r := ev_rel hR hc
  generalize hu : a.eval y = u at r
  simp only [aexec] at hx
  split at hx
  · rename_i l he
    split at hx
    · rename_i v' hv'
      injection hx with hx; injection hx with e1 e2; subst e1 e2
      rw [he] at r
      simp only [Rel] at r
      obtain ⟨cs, rfl, hrel⟩ := r
      rw [nth_eq] at hv'
      obtain ⟨u, hu1, hu2⟩ := hrel.get i _ hv'
      exact Out.same hS (u := u) (by simp only [execOp, ho, hu, Instr.extract]; simp only [Array.getElem?_toList] at hu1; rw [hu1]; rfl) hu2
    · cases hx
  · cases hx

theorem s_mkfunc (hR : RegsRel m nt R a.tmps) (hS : Sim P cd B0 w0 m H w) {o : Oper} {f : Nat} {xs ys : List Opd} {us vs : Array Operand} (ho : o.op = .makeFunc (.func f) us vs) (h1 : chkOpds nt us.toList xs = true) (h2 : chkOpds nt vs.toList ys = true)
    (hx : aexec base (.mkfunc f xs ys) R H = some (v, H')) : Out P cd B0 w0 m ((execOp a.eval o).run P w) v H' := by
  simp only [aexec] at hx
  injection hx with hx; injection hx with e1 e2; subst e1 e2
  refine Out.same hS (u := .func (.func f) (us.map a.eval) (vs.map a.eval)) (by simp [execOp, ho, Instr.makeFunc]) ?_
  simp only [Rel]
  exact ⟨_, _, rfl, by simpa using evs_rel hR h1, by simpa using evs_rel hR h2⟩

theorem wrap_fits {k : IntKind} {n : Int} (h : fits k n = true) : k.wrap n = n := by
  have h' : -(loK k : Int) ≤ n ∧ n ≤ hiK k := by
    cases n with
    | ofNat m =>
      simp only [fits, Nat.ble_eq] at h
      exact ⟨by have : (0 : Int) ≤ Int.ofNat m := Int.natCast_nonneg m; omega, Int.ofNat_le.2 h⟩
    | negSucc m =>
      simp only [fits, Nat.blt_eq] at h
      exact ⟨by omega, by omega⟩
  cases k
  · exact IntWalk.i8_in n h'
  · exact IntWalk.i16_in n h'
  · exact IntWalk.i32_in n h'
  · exact IntWalk.i64_in n h'
  · exact IntWalk.u8_in n h'
  · exact IntWalk.u16_in n h'
  · exact IntWalk.u32_in n h'
  · exact IntWalk.u64_in n h'
theorem mkInt_eq (k : IntKind) (n : Int) : mkInt k n = .int k (k.wrap n) := by
  unfold mkInt
  rw [frc_eq]
  cases h : fits k n with
  | false => simp only [frc_eq]
  | true => rw [wrap_fits h]

theorem s_un (hR : RegsRel m nt R a.tmps) (hS : Sim P cd B0 w0 m H w) {o : Oper} {op : UnOp} {t : TypeId} {x : Opd} {y : Operand} (ho : o.op = .unOp op t y) (hc : chkOpd nt y x = true)
    (hx : aexec base (.un op x) R H = some (v, H')) : Out P cd B0 w0 m ((execOp a.eval o).run P w) v H' := by
  have r := ev_rel hR hc
  generalize hu : a.eval y = u at r
  simp only [aexec] at hx
  split at hx
  · rename_i v' hv'
    injection hx with hx; injection hx with e1 e2; subst e1 e2
    unfold unOp at hv'
    split at hv'
    · rename_i b he
      injection hv' with hv'; subst hv'
      rw [he] at r
      simp only [Rel] at r
      subst r
      exact Out.same hS (u := .bool (!b)) (by simp [execOp, ho, hu, Op.unary]) (by simp only [Rel])
    · rename_i k n he
      injection hv' with hv'; subst hv'
      rw [he] at r
      simp only [Rel] at r
      subst r
      exact Out.same hS (u := .int k (k.wrap (-n))) (by simp [execOp, ho, hu, Op.unary, Op.intArith]) (by rw [mkInt_eq]; simp only [Rel])
    · cases hv'
  · cases hx

theorem s_conv (hR : RegsRel m nt R a.tmps) (hS : Sim P cd B0 w0 m H w) {o : Oper} {s d : TypeId} {k : IntKind} {x : Opd} {y : Operand} (ho : o.op = .convert s d y)
    (hc : chkOp P nt (.convert s d y) (.conv k x) = true) (hx : aexec base (.conv k x) R H = some (v, H')) : Out P cd B0 w0 m ((execOp a.eval o).run P w) v H' := by
  simp only [chkOp, Bool.and_eq_true] at hc
  obtain ⟨h1, hc⟩ := hc
  obtain ⟨ds, hds⟩ := Option.isSome_iff_exists.1 h1
  split at hc
  · rename_i k' hd
    simp only [Bool.and_eq_true] at hc
    have hk := keq_eq hc.1
    subst hk
    have r := ev_rel hR hc.2
    generalize hu : a.eval y = u at r
    simp only [aexec] at hx
    split at hx
    · rename_i k2 n he
      injection hx with hx; injection hx with e1 e2; subst e1 e2
      rw [he] at r
      simp only [Rel] at r
      subst r
      refine Out.same hS (u := .int k' (k'.wrap n)) ?_ (by rw [mkInt_eq]; simp only [Rel])
      simp only [execOp, ho, hu, convert, Sem.run_bind, run_under hds, run_under hd, Result.andThen_ok, Conv.intToInt, Sem.run_pure]
    · cases hx
  · cases hc

theorem s_convStr (hR : RegsRel m nt R a.tmps) (hS : Sim P cd B0 w0 m H w) {o : Oper} {s d : TypeId} {x : Opd} {y : Operand} (ho : o.op = .convert s d y)
    (hc : chkOp P nt (.convert s d y) (.convStr x) = true) (hx : aexec base (.convStr x) R H = some (v, H')) : Out P cd B0 w0 m ((execOp a.eval o).run P w) v H' := by
  simp only [chkOp, Bool.and_eq_true] at hc
  obtain ⟨h1, hc⟩ := hc
  obtain ⟨ds, hds⟩ := Option.isSome_iff_exists.1 h1
  split at hc
  · rename_i hd
    have r := ev_rel hR hc
    generalize hu : a.eval y = u at r
    simp only [aexec] at hx
    split at hx
    · rename_i n c he
      injection hx with hx; injection hx with e1 e2; subst e1 e2
      rw [he] at r
      refine Out.same hS (u := u) ?_ r
      simp only [Rel] at r
      obtain ⟨s', rfl, _⟩ := r
      simp only [execOp, ho, hu, convert, Sem.run_bind, run_under hds, run_under hd, Result.andThen_ok, Sem.run_pure]
    · cases hx
  · cases hc

theorem s_mkmap (hS : Sim P cd B0 w0 m H w) {o : Oper} {t : TypeId} {j : Nat} (ho : o.op = .makeMap t none)
    (hx : aexec base (.mkmap j) R H = some (v, H')) : Out P cd B0 w0 m ((execOp a.eval o).run P w) v H' := by
  simp only [aexec] at hx
  split at hx
  · rename_i H1 hH
    injection hx with hx; injection hx with e1 e2; subst e1 e2
    obtain ⟨hn, rfl⟩ := newO_some hH
    have hr := hS.dom _ hn
    refine ⟨_, .map (some w.heap.size), _, M.le_new m (w.heap.size, 0, 0) hr, .inl ?_, ?_, hS.alloc (ob := .map #[] 0) hr (hS.fresh hn) ?_⟩
    · simp only [execOp, ho, Instr.makeMap, Option.map_none, Sem.run_bind, Sem.run_pure, Result.andThen_ok, run_newObj]; rfl
    · simp only [Rel]; exact ⟨_, _, _, M.new_same _ _ _, rfl⟩
    · refine ⟨#[], ?_, ?_⟩
      · show (w.heap.push _)[w.heap.size]? = _
        simp
      · exact ⟨by simp only [List.map_nil, RelL], by simp only [List.map_nil, RelL], rfl⟩
  · cases hx
end
end Go.Ab
