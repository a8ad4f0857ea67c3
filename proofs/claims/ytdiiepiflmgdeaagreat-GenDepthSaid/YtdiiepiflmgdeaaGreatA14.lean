/- Every operation that is no call. -/
import Derived.Test.YtdiiepiflmgdeaaGreatA13
namespace Go.Ab
open Go.RowKit (Below)

section
variable {P : Program} {cd : Nat → Array Oper → DT → Bool} {B0 : Nat} {w0 : Frz} {m : M} {H H' : T AObj} {w : World} {nt : Nat} {R : T AV} {a : Act} {base : K} {v : AV}

theorem aexec_sound (hR : RegsRel m nt R a.tmps) (hS : Sim P cd B0 w0 m H w) {o : Oper} {s : AOp} (hc : chkOp P nt o.op s = true) (hx : aexec base s R H = some (v, H')) : Out P cd B0 w0 m ((execOp a.eval o).run P w) v H' := by
  generalize ho : o.op = op at hc
  cases s with
  | mv x =>
    injection hx with hx; injection hx with e1 e2; subst e1 e2
    simp only [chkOp] at hc
    split at hc
    · exact s_mv hR hS (.inl ho) hc
    · exact s_mv hR hS (.inr ho) hc
    · cases hc
  | pick c x y =>
    simp only [chkOp] at hc
    split at hc
    · simp only [Bool.and_eq_true] at hc
      simp only [aexec] at hx
      split at hx
      · rename_i he
        injection hx with hx; injection hx with e1 e2; subst e1 e2
        exact s_pick hR hS ho hc.1.1 hc.1.2 hc.2 he
      · rename_i he
        injection hx with hx; injection hx with e1 e2; subst e1 e2
        exact s_pick hR hS ho hc.1.1 hc.1.2 hc.2 he
      · cases hx
    · cases hc
  | nilchk x =>
    simp only [chkOp] at hc
    split at hc
    · exact s_nilchk hR hS ho hc hx
    · cases hc
  | alloc j z =>
    simp only [chkOp] at hc
    split at hc
    · exact s_alloc hS ho hc hx
    · cases hc
  | box j n x =>
    simp only [chkOp] at hc
    split at hc
    · exact s_box hR hS ho hc hx
    · cases hc
  | build z qs =>
    cases op with
    | build t ps => exact s_build hR hS ho hc hx
    | _ => simp [chkOp] at hc
  | vlit n z qs =>
    simp only [chkOp] at hc
    split at hc
    · exact s_vlit hR hS ho hc hx
    · cases hc
  | hlit j n z qs =>
    simp only [chkOp] at hc
    split at hc
    · exact s_hlit hR hS ho hc hx
    · cases hc
  | load ag n x =>
    simp only [chkOp] at hc
    split at hc
    · simp only [Bool.and_eq_true] at hc; exact s_load hR hS ho hc.1 hc.2 hx
    · cases hc
  | store n x y =>
    simp only [chkOp] at hc
    split at hc
    · simp only [Bool.and_eq_true, beq_iff_eq] at hc; exact s_store hR hS ho hc.1.1 hc.1.2 hc.2 hx
    · cases hc
  | fieldAddr off x =>
    cases op with
    | fieldAddr t y f => exact s_fieldAddr hR hS ho hc hx
    | _ => simp [chkOp] at hc
  | field ag n off x =>
    cases op with
    | field t y f => exact s_field hR hS ho hc hx
    | _ => simp [chkOp] at hc
  | indexAddr sz x i =>
    cases op with
    | indexAddr t y k => exact s_indexAddr hR hS ho hc hx
    | _ => simp [chkOp] at hc
  | indexAddrArr n sz x i =>
    cases op with
    | indexAddr t y k => exact s_indexAddrArr hR hS ho hc hx
    | _ => simp [chkOp] at hc
  | indexArr n ag sz x i =>
    cases op with
    | index t y k => exact s_indexArr hR hS ho hc hx
    | _ => simp [chkOp] at hc
  | indexStr x i =>
    cases op with
    | index t y k => exact s_indexStr hR hS ho hc hx
    | _ => simp [chkOp] at hc
  | slc sz x lo hi mx =>
    cases op with
    | slice t y l h m => exact s_slc hR hS ho hc hx
    | _ => simp [chkOp] at hc
  | slcStr x lo hi =>
    cases op with
    | slice t y l h m => exact s_slcStr hR hS ho hc hx
    | _ => simp [chkOp] at hc
  | bin b e x y =>
    simp only [chkOp] at hc
    split at hc
    · simp only [Bool.and_eq_true, bopq, decide_eq_true_eq] at hc
      obtain ⟨⟨⟨rfl, h2⟩, h3⟩, h4⟩ := hc
      exact s_bin hR hS ho h2 h3 h4 hx
    · cases hc
  | un u x =>
    simp only [chkOp] at hc
    split at hc
    · simp only [Bool.and_eq_true, decide_eq_true_eq] at hc
      obtain ⟨rfl, h2⟩ := hc
      exact s_un hR hS ho h2 hx
    · cases hc
  | conv k x =>
    cases op with
    | convert s d y => exact s_conv hR hS ho hc hx
    | _ => simp [chkOp] at hc
  | convStr x =>
    cases op with
    | convert s d y => exact s_convStr hR hS ho hc hx
    | _ => simp [chkOp] at hc
  | bytesStr x =>
    cases op with
    | convert s d y => exact s_bytesStr hR hS ho hc hx
    | _ => simp [chkOp] at hc
  | bad => simp only [aexec] at hx; cases hx
  | mvE x =>
    injection hx with hx; injection hx with e1 e2; subst e1 e2
    simp only [chkOp] at hc
    split at hc
    · exact s_mv hR hS (.inl ho) hc
    · exact s_mv hR hS (.inr ho) hc
    · cases hc
  | extract x i =>
    simp only [chkOp] at hc
    split at hc
    · simp only [Bool.and_eq_true, beq_iff_eq] at hc
      obtain ⟨rfl, h2⟩ := hc
      exact s_extract hR hS ho h2 hx
    · cases hc
  | mkfunc f xs ys =>
    simp only [chkOp] at hc
    split at hc
    · simp only [Bool.and_eq_true, beq_iff_eq] at hc
      obtain ⟨⟨rfl, h2⟩, h3⟩ := hc
      exact s_mkfunc hR hS ho h2 h3 hx
    · cases hc
  | mkmap j =>
    simp only [chkOp] at hc
    split at hc
    · rename_i t r
      cases r with
      | none => exact s_mkmap hS ho hx
      | some r => simp at hc
    · cases hc
  | mkslice j sz bytes z l c =>
    cases op with
    | makeSlice t l' c' => exact s_mkslice hR hS ho hc hx
    | _ => simp [chkOp] at hc
  | lookup z ok q x k =>
    cases op with
    | lookup t x' k' ok' => exact s_lookup hR hS ho hc hx
    | _ => simp [chkOp] at hc
  | mapput q x k y =>
    cases op with
    | mapUpdate t x' k' y' => exact s_mapput hR hS (.inl ho) hc hx
    | insert t x' k' y' => exact s_mapput hR hS (.inr ho) hc hx
    | _ => simp [chkOp] at hc
  | mkiface t x =>
    cases op with
    | makeInterface t' y => exact s_mkiface hR hS ho hc hx
    | _ => simp [chkOp] at hc
  | range j x =>
    cases op with
    | range t y => exact s_range hR hS ho hc hx
    | _ => simp [chkOp] at hc
  | next x =>
    cases op with
    | next y s => exact s_next hR hS ho hc hx
    | _ => simp [chkOp] at hc
  | entry x =>
    simp only [chkOp] at hc
    split at hc
    · exact s_entry hR hS ho hc hx
    · cases hc
  | len k x =>
    have hc' := hc
    simp only [chkOp] at hc
    split at hc
    · exact s_len hR hS ho hc' hx
    · cases hc
  | max x y =>
    simp only [chkOp] at hc
    split at hc
    · exact s_max hR hS ho hc hx
    · cases hc
  | min x y =>
    simp only [chkOp] at hc
    split at hc
    · exact s_min hR hS ho hc hx
    · cases hc
  | real x =>
    simp only [chkOp] at hc
    split at hc
    · exact s_real hR hS ho hc hx
    · cases hc
  | imag x =>
    simp only [chkOp] at hc
    split at hc
    · exact s_imag hR hS ho hc hx
    · cases hc
  | f64bits x =>
    cases op with
    | call c => exact s_f64bits hR hS ho hc hx
    | _ => simp [chkOp] at hc
  | append j sz bytes x y =>
    have hc' := hc
    simp only [chkOp] at hc
    split at hc
    · exact s_append hR hS ho hc' hx
    · cases hc
  | call f xs => simp only [aexec] at hx; cases hx
  | calld x xs => simp only [aexec] at hx; cases hx
end
end Go.Ab
