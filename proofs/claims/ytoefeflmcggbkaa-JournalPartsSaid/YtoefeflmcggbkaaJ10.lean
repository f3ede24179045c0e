/- The reference: the sum, frames, the scan, zeros. -/
import Derived.Test.YtoefeflmcggbkaaJ9
set_option linter.unusedVariables false
set_option linter.unusedSimpArgs false
namespace Go.Proofs.Ytoefeflmcggbkaa
open Go.Hp Go.RowKit

theorem refBit (s : BitVec 32) : (if s % 2#32 = 1#32 then (s / 2#32) ^^^ 3988292384#32 else s / 2#32) = crcBit s := by
  have h1 : s % 2#32 = s &&& 1#32 := by
    apply BitVec.eq_of_toNat_eq
    simp [Nat.and_one_is_mod]
  have h2 : s / 2#32 = s >>> 1 := by
    apply BitVec.eq_of_toNat_eq
    simp [Nat.shiftRight_eq_div_pow]
  rw [h1, h2]
  unfold crcBit
  have hc : s &&& 1#32 = 0#32 ∨ s &&& 1#32 = 1#32 := by
    have : (s &&& 1#32).toNat = s.toNat % 2 := by simp [Nat.and_one_is_mod]
    rcases Nat.mod_two_eq_zero_or_one s.toNat with h | h
    · left; apply BitVec.eq_of_toNat_eq; rw [this, h]; rfl
    · right; apply BitVec.eq_of_toNat_eq; rw [this, h]; rfl
  rcases hc with h | h <;> rw [h] <;> simp
theorem allOnes_sub (x : BitVec 32) : BitVec.ofNat 32 4294967295 - x = ~~~x := by
  rw [show BitVec.ofNat 32 4294967295 = BitVec.allOnes 32 from rfl]
  exact BitVec.allOnes_sub_eq_not x
theorem rsum_spec {h : Heap} (l : List UInt8) (hl : l.length ≤ 140737488355328) {K : Value → Heap → Prop} (hk : K (u32 (sumL l)) h) : CallF Try.prog 50 #[str l] h K := by
  apply S50
  unfold F50
  simp only [u32_lit 4294967295 (by decide) (by decide), u32_lit 1 (by decide) (by decide), u32_lit 2 (by decide) (by decide), u32_lit 3988292384 (by decide) (by decide)]
  refine ⟨fun x y h' => ∃ i : Nat, x = u32 ((l.take i).foldl crcByte (BitVec.allOnes 32)) ∧ y = .int .i64 (i : Int) ∧ i ≤ l.length ∧ h' = h, fun x y h' => match y with | .int _ i => l.length - i.toNat | _ => 0, ?_, ?_⟩
  · exact ⟨0, rfl, rfl, by omega, rfl⟩
  · rintro js x y h1 ⟨i, rfl, rfl, hi, rfl⟩
    simp (disch := first | assumption | (with_reducible exact Ext.refl _) | (with_reducible exact Keep.refl _ _) | (with_reducible exact Eq.refl _) | (intro _ he; cases he; assumption) | (intro _ he; with_reducible apply keep_cell' he; assumption; simp; done) | (intro _ he; with_reducible apply ext_cell' he; assumption; done) | (with_reducible first | exact pl_int _ _ | exact pl_byte _ | exact pl_u32 _ | exact pl_bool _ | exact pl_ptr _ | exact pl_slice _ _ _ | exact pl_map _ | exact pl_str _ | exact pl_func _ _ _) | ((rw [okW_setH]; repeat rw [okW_setH]); assumption) | ((with_reducible refine cellH_setH_same ?_ _); (repeat rw [okW_setH]); assumption) | ((rw [cellH_setH_off]; rotate_left; focus decide); (repeat (rw [cellH_setH_off]; rotate_left; focus decide)); first | assumption | ((with_reducible refine cellH_setH_same ?_ _); (repeat rw [okW_setH]); assumption)) | omega) only [↓hpR, ↓nilC_ptr, ↓nilC_func, ↓condP_true, ↓condP_false, ↓condP_bool, ↓guardP_true, ↓guardP_false, ↓guardP_bool_t, ↓guardP_bool_f, ↓skipP_undef, ↓pickP_bool, ↓b_add, ↓b_sub, ↓b_mul, ↓b_quo, ↓b_rem, ↓b_lss, ↓b_leq, ↓b_gtr, ↓b_geq, ↓b_eql, ↓b_neq, ↓u_not, ↓s_add, ↓s_eql, ↓s_neq, ↓i_max2, ↓i_min2, ↓x20, ↓x21, ↓x30, ↓x31, ↓x32, ↓q_b_add, ↓q_b_sub, ↓q_b_mul, ↓q_b_quo, ↓q_b_rem, ↓q_b_lss, ↓q_b_leq, ↓q_b_gtr, ↓q_b_geq, ↓q_b_eql, ↓q_b_neq, ↓q_u_not, ↓q_s_add, ↓q_s_eql, ↓q_s_neq, ↓q_i_max2, ↓q_i_min2, ↓q_x20, ↓q_x21, ↓q_x30, ↓q_x31, ↓q_x32, ↓m_box, decide_true, decide_false, tt_and, ff_and, Nat.zero_add, Int.toNat_natCast, cells_agg, cells_bool, cells_int, cells_str, cells_ptr, cells_slice, ↓qend_eq, ↓jump_none, ↓jump_ret, ↓jump_exit, ↓marks_one, cond_true, cond_false, Bool.not_true, Bool.not_false]
    refine ⟨fun hlt => ?_, fun hge => ?_⟩
    · have hlt' : i < l.length := by simpa using hlt
      obtain ⟨c, hc⟩ : ∃ c, l[i]? = some c := ⟨_, List.getElem?_eq_getElem hlt'⟩
      have hgd : l.getD i 0 = c := by rw [List.getD_eq_getElem?_getD, hc]; rfl
      simp (disch := first | assumption | (with_reducible exact Ext.refl _) | (with_reducible exact Keep.refl _ _) | (with_reducible exact Eq.refl _) | (intro _ he; cases he; assumption) | (intro _ he; with_reducible apply keep_cell' he; assumption; simp; done) | (intro _ he; with_reducible apply ext_cell' he; assumption; done) | (with_reducible first | exact pl_int _ _ | exact pl_byte _ | exact pl_u32 _ | exact pl_bool _ | exact pl_ptr _ | exact pl_slice _ _ _ | exact pl_map _ | exact pl_str _ | exact pl_func _ _ _) | ((rw [okW_setH]; repeat rw [okW_setH]); assumption) | ((with_reducible refine cellH_setH_same ?_ _); (repeat rw [okW_setH]); assumption) | ((rw [cellH_setH_off]; rotate_left; focus decide); (repeat (rw [cellH_setH_off]; rotate_left; focus decide)); first | assumption | ((with_reducible refine cellH_setH_same ?_ _); (repeat rw [okW_setH]); assumption)) | omega) only [↓hpR, ↓nilC_ptr, ↓nilC_func, ↓condP_true, ↓condP_false, ↓condP_bool, ↓guardP_true, ↓guardP_false, ↓guardP_bool_t, ↓guardP_bool_f, ↓skipP_undef, ↓pickP_bool, ↓b_add, ↓b_sub, ↓b_mul, ↓b_quo, ↓b_rem, ↓b_lss, ↓b_leq, ↓b_gtr, ↓b_geq, ↓b_eql, ↓b_neq, ↓u_not, ↓s_add, ↓s_eql, ↓s_neq, ↓i_max2, ↓i_min2, ↓x20, ↓x21, ↓x30, ↓x31, ↓x32, ↓q_b_add, ↓q_b_sub, ↓q_b_mul, ↓q_b_quo, ↓q_b_rem, ↓q_b_lss, ↓q_b_leq, ↓q_b_gtr, ↓q_b_geq, ↓q_b_eql, ↓q_b_neq, ↓q_u_not, ↓q_s_add, ↓q_s_eql, ↓q_s_neq, ↓q_i_max2, ↓q_i_min2, ↓q_x20, ↓q_x21, ↓q_x30, ↓q_x31, ↓q_x32, ↓m_box, decide_true, decide_false, tt_and, ff_and, Nat.zero_add, Int.toNat_natCast, cells_agg, cells_bool, cells_int, cells_str, cells_ptr, cells_slice, ↓qend_eq, ↓jump_none, ↓jump_ret, ↓jump_exit, ↓marks_one, cond_true, cond_false, Bool.not_true, Bool.not_false, ↓byte_fold, ↓cv_byte_32, ↓b32_xor]
      rw [hgd]
      refine ⟨fun x y h' => ∃ k : Nat, x = u32 (crcN k ((l.take i).foldl crcByte (BitVec.allOnes 32) ^^^ BitVec.ofNat 32 c.toNat)) ∧ y = .int .i64 (k : Int) ∧ k ≤ 8 ∧ h' = h1, fun x y h' => match y with | .int _ i => 8 - i.toNat | _ => 0, ?_, ?_⟩
      · exact ⟨0, rfl, rfl, by omega, rfl⟩
      · rintro js x y h2 ⟨k, rfl, rfl, hk8, rfl⟩
        simp (disch := first | assumption | (with_reducible exact Ext.refl _) | (with_reducible exact Keep.refl _ _) | (with_reducible exact Eq.refl _) | (intro _ he; cases he; assumption) | (intro _ he; with_reducible apply keep_cell' he; assumption; simp; done) | (intro _ he; with_reducible apply ext_cell' he; assumption; done) | (with_reducible first | exact pl_int _ _ | exact pl_byte _ | exact pl_u32 _ | exact pl_bool _ | exact pl_ptr _ | exact pl_slice _ _ _ | exact pl_map _ | exact pl_str _ | exact pl_func _ _ _) | ((rw [okW_setH]; repeat rw [okW_setH]); assumption) | ((with_reducible refine cellH_setH_same ?_ _); (repeat rw [okW_setH]); assumption) | ((rw [cellH_setH_off]; rotate_left; focus decide); (repeat (rw [cellH_setH_off]; rotate_left; focus decide)); first | assumption | ((with_reducible refine cellH_setH_same ?_ _); (repeat rw [okW_setH]); assumption)) | omega) only [↓hpR, ↓nilC_ptr, ↓nilC_func, ↓condP_true, ↓condP_false, ↓condP_bool, ↓guardP_true, ↓guardP_false, ↓guardP_bool_t, ↓guardP_bool_f, ↓skipP_undef, ↓pickP_bool, ↓b_add, ↓b_sub, ↓b_mul, ↓b_quo, ↓b_rem, ↓b_lss, ↓b_leq, ↓b_gtr, ↓b_geq, ↓b_eql, ↓b_neq, ↓u_not, ↓s_add, ↓s_eql, ↓s_neq, ↓i_max2, ↓i_min2, ↓x20, ↓x21, ↓x30, ↓x31, ↓x32, ↓q_b_add, ↓q_b_sub, ↓q_b_mul, ↓q_b_quo, ↓q_b_rem, ↓q_b_lss, ↓q_b_leq, ↓q_b_gtr, ↓q_b_geq, ↓q_b_eql, ↓q_b_neq, ↓q_u_not, ↓q_s_add, ↓q_s_eql, ↓q_s_neq, ↓q_i_max2, ↓q_i_min2, ↓q_x20, ↓q_x21, ↓q_x30, ↓q_x31, ↓q_x32, ↓m_box, decide_true, decide_false, tt_and, ff_and, Nat.zero_add, Int.toNat_natCast, cells_agg, cells_bool, cells_int, cells_str, cells_ptr, cells_slice, ↓qend_eq, ↓jump_none, ↓jump_ret, ↓jump_exit, ↓marks_one, cond_true, cond_false, Bool.not_true, Bool.not_false]
        refine ⟨fun hlt2 => ?_, fun hge2 => ?_⟩
        · have hk' : k < 8 := by simp at hlt2; omega
          have hstep := refBit (crcN k ((l.take i).foldl crcByte (BitVec.allOnes 32) ^^^ BitVec.ofNat 32 c.toNat))
          refine Join1.intro (fun x h' => x = u32 (crcN (k + 1) ((l.take i).foldl crcByte (BitVec.allOnes 32) ^^^ BitVec.ofNat 32 c.toNat)) ∧ h' = h2) (fun J hJ => ?_) ?_
          · rw [b32_rem _ _ _ _ _ (by decide), b32_quo _ _ _ _ _ (by decide), b32_eql]
            simp (disch := first | assumption | (with_reducible exact Ext.refl _) | (with_reducible exact Keep.refl _ _) | (with_reducible exact Eq.refl _) | (intro _ he; cases he; assumption) | (intro _ he; with_reducible apply keep_cell' he; assumption; simp; done) | (intro _ he; with_reducible apply ext_cell' he; assumption; done) | (with_reducible first | exact pl_int _ _ | exact pl_byte _ | exact pl_u32 _ | exact pl_bool _ | exact pl_ptr _ | exact pl_slice _ _ _ | exact pl_map _ | exact pl_str _ | exact pl_func _ _ _) | ((rw [okW_setH]; repeat rw [okW_setH]); assumption) | ((with_reducible refine cellH_setH_same ?_ _); (repeat rw [okW_setH]); assumption) | ((rw [cellH_setH_off]; rotate_left; focus decide); (repeat (rw [cellH_setH_off]; rotate_left; focus decide)); first | assumption | ((with_reducible refine cellH_setH_same ?_ _); (repeat rw [okW_setH]); assumption)) | omega) only [↓hpR, ↓nilC_ptr, ↓nilC_func, ↓condP_true, ↓condP_false, ↓condP_bool, ↓guardP_true, ↓guardP_false, ↓guardP_bool_t, ↓guardP_bool_f, ↓skipP_undef, ↓pickP_bool, ↓b_add, ↓b_sub, ↓b_mul, ↓b_quo, ↓b_rem, ↓b_lss, ↓b_leq, ↓b_gtr, ↓b_geq, ↓b_eql, ↓b_neq, ↓u_not, ↓s_add, ↓s_eql, ↓s_neq, ↓i_max2, ↓i_min2, ↓x20, ↓x21, ↓x30, ↓x31, ↓x32, ↓q_b_add, ↓q_b_sub, ↓q_b_mul, ↓q_b_quo, ↓q_b_rem, ↓q_b_lss, ↓q_b_leq, ↓q_b_gtr, ↓q_b_geq, ↓q_b_eql, ↓q_b_neq, ↓q_u_not, ↓q_s_add, ↓q_s_eql, ↓q_s_neq, ↓q_i_max2, ↓q_i_min2, ↓q_x20, ↓q_x21, ↓q_x30, ↓q_x31, ↓q_x32, ↓m_box, decide_true, decide_false, tt_and, ff_and, Nat.zero_add, Int.toNat_natCast, cells_agg, cells_bool, cells_int, cells_str, cells_ptr, cells_slice, ↓qend_eq, ↓jump_none, ↓jump_ret, ↓jump_exit, ↓marks_one, cond_true, cond_false, Bool.not_true, Bool.not_false, ↓b32_xor]
            refine ⟨fun h1 => hJ _ _ ⟨?_, rfl⟩, fun h1 => hJ _ _ ⟨?_, rfl⟩⟩
            · rw [if_pos (by simpa using h1)] at hstep
              rw [crcN, ← hstep]
              rfl
            · rw [if_neg (by simpa using h1)] at hstep
              rw [crcN, ← hstep]
              rfl
          · rintro x h' ⟨rfl, rfl⟩
            simp (disch := first | assumption | (with_reducible exact Ext.refl _) | (with_reducible exact Keep.refl _ _) | (with_reducible exact Eq.refl _) | (intro _ he; cases he; assumption) | (intro _ he; with_reducible apply keep_cell' he; assumption; simp; done) | (intro _ he; with_reducible apply ext_cell' he; assumption; done) | (with_reducible first | exact pl_int _ _ | exact pl_byte _ | exact pl_u32 _ | exact pl_bool _ | exact pl_ptr _ | exact pl_slice _ _ _ | exact pl_map _ | exact pl_str _ | exact pl_func _ _ _) | ((rw [okW_setH]; repeat rw [okW_setH]); assumption) | ((with_reducible refine cellH_setH_same ?_ _); (repeat rw [okW_setH]); assumption) | ((rw [cellH_setH_off]; rotate_left; focus decide); (repeat (rw [cellH_setH_off]; rotate_left; focus decide)); first | assumption | ((with_reducible refine cellH_setH_same ?_ _); (repeat rw [okW_setH]); assumption)) | omega) only [↓hpR, ↓nilC_ptr, ↓nilC_func, ↓condP_true, ↓condP_false, ↓condP_bool, ↓guardP_true, ↓guardP_false, ↓guardP_bool_t, ↓guardP_bool_f, ↓skipP_undef, ↓pickP_bool, ↓b_add, ↓b_sub, ↓b_mul, ↓b_quo, ↓b_rem, ↓b_lss, ↓b_leq, ↓b_gtr, ↓b_geq, ↓b_eql, ↓b_neq, ↓u_not, ↓s_add, ↓s_eql, ↓s_neq, ↓i_max2, ↓i_min2, ↓x20, ↓x21, ↓x30, ↓x31, ↓x32, ↓q_b_add, ↓q_b_sub, ↓q_b_mul, ↓q_b_quo, ↓q_b_rem, ↓q_b_lss, ↓q_b_leq, ↓q_b_gtr, ↓q_b_geq, ↓q_b_eql, ↓q_b_neq, ↓q_u_not, ↓q_s_add, ↓q_s_eql, ↓q_s_neq, ↓q_i_max2, ↓q_i_min2, ↓q_x20, ↓q_x21, ↓q_x30, ↓q_x31, ↓q_x32, ↓m_box, decide_true, decide_false, tt_and, ff_and, Nat.zero_add, Int.toNat_natCast, cells_agg, cells_bool, cells_int, cells_str, cells_ptr, cells_slice, ↓qend_eq, ↓jump_none, ↓jump_ret, ↓jump_exit, ↓marks_one, cond_true, cond_false, Bool.not_true, Bool.not_false]
            exact ⟨⟨k + 1, rfl, by simp, by omega, by trivial⟩, by omega⟩
        · have : k = 8 := by simp at hge2; omega
          subst this
          refine ⟨⟨i + 1, ?_, by simp, by omega, by trivial⟩, by omega⟩
          rw [foldl_take_succ _ _ _ hc]
          rfl
    · have : i = l.length := by simp at hge; omega
      subst this
      rw [b32_sub, List.take_length]
      have e : BitVec.ofNat 32 (Int.toNat 4294967295) - l.foldl crcByte (BitVec.allOnes 32) = sumL l := allOnes_sub _
      rw [e]
      exact hk

theorem rhead (r : List UInt8) : ([1, UInt8.ofNat (r.length / 256), UInt8.ofNat (r.length % 256), UInt8.ofNat (sumL r >>> 24).toNat, UInt8.ofNat (sumL r >>> 16).toNat, UInt8.ofNat (sumL r >>> 8).toNat, UInt8.ofNat (sumL r).toNat] : List UInt8) ++ r ++ [1] = frameL r ∨ 400 < r.length := by
  by_cases h : 400 < r.length
  · exact .inr h
  · left
    unfold frameL laidL
    have e0 : ((BitVec.ofNat 32 r.length) >>> (8 * (2 - 1 - 0))).toNat = r.length / 256 := by
      simp [Nat.shiftRight_eq_div_pow]
      omega
    have e1 : ((BitVec.ofNat 32 r.length) >>> (8 * (2 - 1 - 1))).toNat = r.length := by
      simp
      omega
    have e3 : UInt8.ofNat r.length = UInt8.ofNat (r.length % 256) := by
      apply UInt8.toNat_inj.1
      simp
    show _ = ([1] : List UInt8) ++ [UInt8.ofNat ((BitVec.ofNat 32 r.length) >>> (8 * (2 - 1 - 0))).toNat, UInt8.ofNat ((BitVec.ofNat 32 r.length) >>> (8 * (2 - 1 - 1))).toNat] ++
      [UInt8.ofNat (sumL r >>> 24).toNat, UInt8.ofNat (sumL r >>> 16).toNat, UInt8.ofNat (sumL r >>> 8).toNat, UInt8.ofNat (sumL r >>> (8 * (4 - 1 - 3))).toNat] ++ r ++ [1]
    rw [e0, e1, e3]
    rfl
theorem rframe_spec {h : Heap} (r : List UInt8) (hr : r.length ≤ 140737488355328) {K : Value → Heap → Prop} (hk : ∀ h', Ext h h' → K (.tuple #[str (if frameE r = 0 then frameL r else []), .int .i64 (frameE r)]) h') : CallF Try.prog 35 #[str r] h K := by
  apply S35
  unfold F35
  have es : (Value.string { data := #[] }) = str [] := rfl
  have es1 : (Value.string { data := #[1] }) = str [1] := rfl
  rw [es, es1]
  have bad : (r.length < 1 ∨ 400 < r.length) → K (.tuple #[str [], .int .i64 3]) h := by
    intro hb
    have h2 := hk h (Ext.refl h)
    rwa [show frameE r = 3 by unfold frameE; rw [if_pos hb]] at h2
  simp (disch := first | assumption | (with_reducible exact Ext.refl _) | (with_reducible exact Keep.refl _ _) | (with_reducible exact Eq.refl _) | (intro _ he; cases he; assumption) | (intro _ he; with_reducible apply keep_cell' he; assumption; simp; done) | (intro _ he; with_reducible apply ext_cell' he; assumption; done) | (with_reducible first | exact pl_int _ _ | exact pl_byte _ | exact pl_u32 _ | exact pl_bool _ | exact pl_ptr _ | exact pl_slice _ _ _ | exact pl_map _ | exact pl_str _ | exact pl_func _ _ _) | ((rw [okW_setH]; repeat rw [okW_setH]); assumption) | ((with_reducible refine cellH_setH_same ?_ _); (repeat rw [okW_setH]); assumption) | ((rw [cellH_setH_off]; rotate_left; focus decide); (repeat (rw [cellH_setH_off]; rotate_left; focus decide)); first | assumption | ((with_reducible refine cellH_setH_same ?_ _); (repeat rw [okW_setH]); assumption)) | omega) only [↓hpR, ↓nilC_ptr, ↓nilC_func, ↓condP_true, ↓condP_false, ↓condP_bool, ↓guardP_true, ↓guardP_false, ↓guardP_bool_t, ↓guardP_bool_f, ↓skipP_undef, ↓pickP_bool, ↓b_add, ↓b_sub, ↓b_mul, ↓b_quo, ↓b_rem, ↓b_lss, ↓b_leq, ↓b_gtr, ↓b_geq, ↓b_eql, ↓b_neq, ↓u_not, ↓s_add, ↓s_eql, ↓s_neq, ↓i_max2, ↓i_min2, ↓x20, ↓x21, ↓x30, ↓x31, ↓x32, ↓q_b_add, ↓q_b_sub, ↓q_b_mul, ↓q_b_quo, ↓q_b_rem, ↓q_b_lss, ↓q_b_leq, ↓q_b_gtr, ↓q_b_geq, ↓q_b_eql, ↓q_b_neq, ↓q_u_not, ↓q_s_add, ↓q_s_eql, ↓q_s_neq, ↓q_i_max2, ↓q_i_min2, ↓q_x20, ↓q_x21, ↓q_x30, ↓q_x31, ↓q_x32, ↓m_box, decide_true, decide_false, tt_and, ff_and, Nat.zero_add, Int.toNat_natCast, cells_agg, cells_bool, cells_int, cells_str, cells_ptr, cells_slice, ↓qend_eq, ↓jump_none, ↓jump_ret, ↓jump_exit, ↓marks_one, cond_true, cond_false, Bool.not_true, Bool.not_false, Join1]
  refine ⟨fun h1 => bad (.inl (by simp at h1; omega)), fun h1 => ⟨fun h2 => bad (.inr (by simp at h2; omega)), fun h2 => ?_⟩⟩
  have h1' : 1 ≤ r.length := by simp at h1; omega
  have h2' : r.length ≤ 400 := by simp at h2; omega
  have e0 : frameE r = 0 := by unfold frameE; rw [if_neg (by omega)]
  refine rsum_spec r hr ?_
  have f1 : (r.length : Int) / 256 = ((r.length / 256 : Nat) : Int) := by omega
  have f2 : (r.length : Int) % 256 = ((r.length % 256 : Nat) : Int) := by omega
  simp (disch := first | assumption | (with_reducible exact Ext.refl _) | (with_reducible exact Keep.refl _ _) | (with_reducible exact Eq.refl _) | (intro _ he; cases he; assumption) | (intro _ he; with_reducible apply keep_cell' he; assumption; simp; done) | (intro _ he; with_reducible apply ext_cell' he; assumption; done) | (with_reducible first | exact pl_int _ _ | exact pl_byte _ | exact pl_u32 _ | exact pl_bool _ | exact pl_ptr _ | exact pl_slice _ _ _ | exact pl_map _ | exact pl_str _ | exact pl_func _ _ _) | ((rw [okW_setH]; repeat rw [okW_setH]); assumption) | ((with_reducible refine cellH_setH_same ?_ _); (repeat rw [okW_setH]); assumption) | ((rw [cellH_setH_off]; rotate_left; focus decide); (repeat (rw [cellH_setH_off]; rotate_left; focus decide)); first | assumption | ((with_reducible refine cellH_setH_same ?_ _); (repeat rw [okW_setH]); assumption)) | omega) only [↓hpR, ↓nilC_ptr, ↓nilC_func, ↓condP_true, ↓condP_false, ↓condP_bool, ↓guardP_true, ↓guardP_false, ↓guardP_bool_t, ↓guardP_bool_f, ↓skipP_undef, ↓pickP_bool, ↓b_add, ↓b_sub, ↓b_mul, ↓b_quo, ↓b_rem, ↓b_lss, ↓b_leq, ↓b_gtr, ↓b_geq, ↓b_eql, ↓b_neq, ↓u_not, ↓s_add, ↓s_eql, ↓s_neq, ↓i_max2, ↓i_min2, ↓x20, ↓x21, ↓x30, ↓x31, ↓x32, ↓q_b_add, ↓q_b_sub, ↓q_b_mul, ↓q_b_quo, ↓q_b_rem, ↓q_b_lss, ↓q_b_leq, ↓q_b_gtr, ↓q_b_geq, ↓q_b_eql, ↓q_b_neq, ↓q_u_not, ↓q_s_add, ↓q_s_eql, ↓q_s_neq, ↓q_i_max2, ↓q_i_min2, ↓q_x20, ↓q_x21, ↓q_x30, ↓q_x31, ↓q_x32, ↓m_box, decide_true, decide_false, tt_and, ff_and, Nat.zero_add, Int.toNat_natCast, cells_agg, cells_bool, cells_int, cells_str, cells_ptr, cells_slice, ↓qend_eq, ↓jump_none, ↓jump_ret, ↓jump_exit, ↓marks_one, cond_true, cond_false, Bool.not_true, Bool.not_false, f1, f2, ↓cv_int_byte, ↓b32_shr, ↓cv_32_byte, Int.reduceToNat]
  have g24 : (24 : Int).toNat = 24 := rfl
  rw [m_string (len := 7) Try.underlying54 under9 under5 [1, UInt8.ofNat (r.length / 256), UInt8.ofNat (r.length % 256), UInt8.ofNat (sumL r >>> 24).toNat, UInt8.ofNat (sumL r >>> 16).toNat, UInt8.ofNat (sumL r >>> 8).toNat, UInt8.ofNat (sumL r).toNat] rfl _ (fun j c hc => by
    rw [cellH_push_new]
    match j with
    | 0 | 1 | 2 | 3 | 4 | 5 | 6 => simp at hc; subst hc; rfl
    | j + 7 => simp at hc)]
  have l7 : ([1, UInt8.ofNat (r.length / 256), UInt8.ofNat (r.length % 256), UInt8.ofNat (sumL r >>> 24).toNat, UInt8.ofNat (sumL r >>> 16).toNat, UInt8.ofNat (sumL r >>> 8).toNat, UInt8.ofNat (sumL r).toNat] : List UInt8).length = 7 := rfl
  have hd := (rhead r).resolve_right (by omega)
  generalize ([1, UInt8.ofNat (r.length / 256), UInt8.ofNat (r.length % 256), UInt8.ofNat (sumL r >>> 24).toNat, UInt8.ofNat (sumL r >>> 16).toNat, UInt8.ofNat (sumL r >>> 8).toNat, UInt8.ofNat (sumL r).toNat] : List UInt8) = H at l7 hd ⊢
  have l8 : (H ++ r).length = 7 + r.length := by rw [List.length_append, l7]
  have l1 : ([1] : List UInt8).length = 1 := rfl
  simp (disch := first | assumption | (with_reducible exact Ext.refl _) | (with_reducible exact Keep.refl _ _) | (with_reducible exact Eq.refl _) | (intro _ he; cases he; assumption) | (intro _ he; with_reducible apply keep_cell' he; assumption; simp; done) | (intro _ he; with_reducible apply ext_cell' he; assumption; done) | (with_reducible first | exact pl_int _ _ | exact pl_byte _ | exact pl_u32 _ | exact pl_bool _ | exact pl_ptr _ | exact pl_slice _ _ _ | exact pl_map _ | exact pl_str _ | exact pl_func _ _ _) | ((rw [okW_setH]; repeat rw [okW_setH]); assumption) | ((with_reducible refine cellH_setH_same ?_ _); (repeat rw [okW_setH]); assumption) | ((rw [cellH_setH_off]; rotate_left; focus decide); (repeat (rw [cellH_setH_off]; rotate_left; focus decide)); first | assumption | ((with_reducible refine cellH_setH_same ?_ _); (repeat rw [okW_setH]); assumption)) | omega) only [↓hpR, ↓nilC_ptr, ↓nilC_func, ↓condP_true, ↓condP_false, ↓condP_bool, ↓guardP_true, ↓guardP_false, ↓guardP_bool_t, ↓guardP_bool_f, ↓skipP_undef, ↓pickP_bool, ↓b_add, ↓b_sub, ↓b_mul, ↓b_quo, ↓b_rem, ↓b_lss, ↓b_leq, ↓b_gtr, ↓b_geq, ↓b_eql, ↓b_neq, ↓u_not, ↓s_add, ↓s_eql, ↓s_neq, ↓i_max2, ↓i_min2, ↓x20, ↓x21, ↓x30, ↓x31, ↓x32, ↓q_b_add, ↓q_b_sub, ↓q_b_mul, ↓q_b_quo, ↓q_b_rem, ↓q_b_lss, ↓q_b_leq, ↓q_b_gtr, ↓q_b_geq, ↓q_b_eql, ↓q_b_neq, ↓q_u_not, ↓q_s_add, ↓q_s_eql, ↓q_s_neq, ↓q_i_max2, ↓q_i_min2, ↓q_x20, ↓q_x21, ↓q_x30, ↓q_x31, ↓q_x32, ↓m_box, decide_true, decide_false, tt_and, ff_and, Nat.zero_add, Int.toNat_natCast, cells_agg, cells_bool, cells_int, cells_str, cells_ptr, cells_slice, ↓qend_eq, ↓jump_none, ↓jump_ret, ↓jump_exit, ↓marks_one, cond_true, cond_false, Bool.not_true, Bool.not_false]
  rw [hd]
  rw [e0, if_pos rfl] at hk
  exact hk _ ((Ext.refl h).push _)
theorem zeros_spec {h : Heap} (n : Nat) (hn : n ≤ 1000) {K : Value → Heap → Prop} (hk : K (str (List.replicate n 0)) h) : CallF Try.prog 45 #[.int .i64 (n : Int)] h K := by
  apply S45
  unfold F45
  have es : (Value.string { data := #[] }) = str [] := rfl
  have es1 : (Value.string { data := #[0] }) = str [0] := rfl
  rw [es, es1]
  refine ⟨fun x y h' => ∃ i : Nat, x = str (List.replicate i 0) ∧ y = .int .i64 (i : Int) ∧ i ≤ n ∧ h' = h, fun x y h' => match y with | .int _ i => n - i.toNat | _ => 0, ⟨0, rfl, rfl, by omega, rfl⟩, ?_⟩
  rintro js x y h1 ⟨i, rfl, rfl, hi, rfl⟩
  have l1 : ([0] : List UInt8).length = 1 := rfl
  have li : (List.replicate i (0 : UInt8)).length = i := by simp
  simp (disch := first | assumption | (with_reducible exact Ext.refl _) | (with_reducible exact Keep.refl _ _) | (with_reducible exact Eq.refl _) | (intro _ he; cases he; assumption) | (intro _ he; with_reducible apply keep_cell' he; assumption; simp; done) | (intro _ he; with_reducible apply ext_cell' he; assumption; done) | (with_reducible first | exact pl_int _ _ | exact pl_byte _ | exact pl_u32 _ | exact pl_bool _ | exact pl_ptr _ | exact pl_slice _ _ _ | exact pl_map _ | exact pl_str _ | exact pl_func _ _ _) | ((rw [okW_setH]; repeat rw [okW_setH]); assumption) | ((with_reducible refine cellH_setH_same ?_ _); (repeat rw [okW_setH]); assumption) | ((rw [cellH_setH_off]; rotate_left; focus decide); (repeat (rw [cellH_setH_off]; rotate_left; focus decide)); first | assumption | ((with_reducible refine cellH_setH_same ?_ _); (repeat rw [okW_setH]); assumption)) | omega) only [↓hpR, ↓nilC_ptr, ↓nilC_func, ↓condP_true, ↓condP_false, ↓condP_bool, ↓guardP_true, ↓guardP_false, ↓guardP_bool_t, ↓guardP_bool_f, ↓skipP_undef, ↓pickP_bool, ↓b_add, ↓b_sub, ↓b_mul, ↓b_quo, ↓b_rem, ↓b_lss, ↓b_leq, ↓b_gtr, ↓b_geq, ↓b_eql, ↓b_neq, ↓u_not, ↓s_add, ↓s_eql, ↓s_neq, ↓i_max2, ↓i_min2, ↓x20, ↓x21, ↓x30, ↓x31, ↓x32, ↓q_b_add, ↓q_b_sub, ↓q_b_mul, ↓q_b_quo, ↓q_b_rem, ↓q_b_lss, ↓q_b_leq, ↓q_b_gtr, ↓q_b_geq, ↓q_b_eql, ↓q_b_neq, ↓q_u_not, ↓q_s_add, ↓q_s_eql, ↓q_s_neq, ↓q_i_max2, ↓q_i_min2, ↓q_x20, ↓q_x21, ↓q_x30, ↓q_x31, ↓q_x32, ↓m_box, decide_true, decide_false, tt_and, ff_and, Nat.zero_add, Int.toNat_natCast, cells_agg, cells_bool, cells_int, cells_str, cells_ptr, cells_slice, ↓qend_eq, ↓jump_none, ↓jump_ret, ↓jump_exit, ↓marks_one, cond_true, cond_false, Bool.not_true, Bool.not_false]
  refine ⟨fun hlt => ⟨⟨i + 1, by rw [List.replicate_succ'], by simp, by simp at hlt; omega, by trivial⟩, by simp at hlt; omega⟩, fun hge => ?_⟩
  have : i = n := by simp at hge; omega
  subst this
  exact hk
theorem same_spec {h : Heap} {base base' : Nat} {v w : Value} {l m : List (List UInt8)} (hv : Own h base 9 1 v l.length (strs l)) (hw : Own h base' 9 1 w m.length (strs m)) {K : Value → Heap → Prop} (hk : K (.bool (decide (l = m))) h) : CallF Try.prog 19 #[v, w] h K := by
  apply S19
  unfold F19
  obtain ⟨A, c, rfl⟩ := hv.len
  obtain ⟨B, d, rfl⟩ := hw.len
  have hlv := hv.le
  have hlw := hw.le
  simp (disch := first | assumption | (with_reducible exact Ext.refl _) | (with_reducible exact Keep.refl _ _) | (with_reducible exact Eq.refl _) | (intro _ he; cases he; assumption) | (intro _ he; with_reducible apply keep_cell' he; assumption; simp; done) | (intro _ he; with_reducible apply ext_cell' he; assumption; done) | (with_reducible first | exact pl_int _ _ | exact pl_byte _ | exact pl_u32 _ | exact pl_bool _ | exact pl_ptr _ | exact pl_slice _ _ _ | exact pl_map _ | exact pl_str _ | exact pl_func _ _ _) | ((rw [okW_setH]; repeat rw [okW_setH]); assumption) | ((with_reducible refine cellH_setH_same ?_ _); (repeat rw [okW_setH]); assumption) | ((rw [cellH_setH_off]; rotate_left; focus decide); (repeat (rw [cellH_setH_off]; rotate_left; focus decide)); first | assumption | ((with_reducible refine cellH_setH_same ?_ _); (repeat rw [okW_setH]); assumption)) | omega) only [↓hpR, ↓nilC_ptr, ↓nilC_func, ↓condP_true, ↓condP_false, ↓condP_bool, ↓guardP_true, ↓guardP_false, ↓guardP_bool_t, ↓guardP_bool_f, ↓skipP_undef, ↓pickP_bool, ↓b_add, ↓b_sub, ↓b_mul, ↓b_quo, ↓b_rem, ↓b_lss, ↓b_leq, ↓b_gtr, ↓b_geq, ↓b_eql, ↓b_neq, ↓u_not, ↓s_add, ↓s_eql, ↓s_neq, ↓i_max2, ↓i_min2, ↓x20, ↓x21, ↓x30, ↓x31, ↓x32, ↓q_b_add, ↓q_b_sub, ↓q_b_mul, ↓q_b_quo, ↓q_b_rem, ↓q_b_lss, ↓q_b_leq, ↓q_b_gtr, ↓q_b_geq, ↓q_b_eql, ↓q_b_neq, ↓q_u_not, ↓q_s_add, ↓q_s_eql, ↓q_s_neq, ↓q_i_max2, ↓q_i_min2, ↓q_x20, ↓q_x21, ↓q_x30, ↓q_x31, ↓q_x32, ↓m_box, decide_true, decide_false, tt_and, ff_and, Nat.zero_add, Int.toNat_natCast, cells_agg, cells_bool, cells_int, cells_str, cells_ptr, cells_slice, ↓qend_eq, ↓jump_none, ↓jump_ret, ↓jump_exit, ↓marks_one, cond_true, cond_false, Bool.not_true, Bool.not_false]
  refine ⟨fun hne => ?_, fun heq => ?_⟩
  · have : l ≠ m := fun e => by subst e; simp at hne
    simpa [this] using hk
  · have hlen : l.length = m.length := by simp at heq; omega
    refine ⟨fun x h' => ∃ i : Nat, x = .int .i64 (i : Int) ∧ i ≤ l.length ∧ h' = h ∧ l.take i = m.take i, fun x h' => match x with | .int _ i => l.length - i.toNat | _ => 0, ⟨0, rfl, by omega, rfl, rfl⟩, ?_⟩
    rintro js x h1 ⟨i, rfl, hi, rfl, htk⟩
    simp (disch := first | assumption | (with_reducible exact Ext.refl _) | (with_reducible exact Keep.refl _ _) | (with_reducible exact Eq.refl _) | (intro _ he; cases he; assumption) | (intro _ he; with_reducible apply keep_cell' he; assumption; simp; done) | (intro _ he; with_reducible apply ext_cell' he; assumption; done) | (with_reducible first | exact pl_int _ _ | exact pl_byte _ | exact pl_u32 _ | exact pl_bool _ | exact pl_ptr _ | exact pl_slice _ _ _ | exact pl_map _ | exact pl_str _ | exact pl_func _ _ _) | ((rw [okW_setH]; repeat rw [okW_setH]); assumption) | ((with_reducible refine cellH_setH_same ?_ _); (repeat rw [okW_setH]); assumption) | ((rw [cellH_setH_off]; rotate_left; focus decide); (repeat (rw [cellH_setH_off]; rotate_left; focus decide)); first | assumption | ((with_reducible refine cellH_setH_same ?_ _); (repeat rw [okW_setH]); assumption)) | omega) only [↓hpR, ↓nilC_ptr, ↓nilC_func, ↓condP_true, ↓condP_false, ↓condP_bool, ↓guardP_true, ↓guardP_false, ↓guardP_bool_t, ↓guardP_bool_f, ↓skipP_undef, ↓pickP_bool, ↓b_add, ↓b_sub, ↓b_mul, ↓b_quo, ↓b_rem, ↓b_lss, ↓b_leq, ↓b_gtr, ↓b_geq, ↓b_eql, ↓b_neq, ↓u_not, ↓s_add, ↓s_eql, ↓s_neq, ↓i_max2, ↓i_min2, ↓x20, ↓x21, ↓x30, ↓x31, ↓x32, ↓q_b_add, ↓q_b_sub, ↓q_b_mul, ↓q_b_quo, ↓q_b_rem, ↓q_b_lss, ↓q_b_leq, ↓q_b_gtr, ↓q_b_geq, ↓q_b_eql, ↓q_b_neq, ↓q_u_not, ↓q_s_add, ↓q_s_eql, ↓q_s_neq, ↓q_i_max2, ↓q_i_min2, ↓q_x20, ↓q_x21, ↓q_x30, ↓q_x31, ↓q_x32, ↓m_box, decide_true, decide_false, tt_and, ff_and, Nat.zero_add, Int.toNat_natCast, cells_agg, cells_bool, cells_int, cells_str, cells_ptr, cells_slice, ↓qend_eq, ↓jump_none, ↓jump_ret, ↓jump_exit, ↓marks_one, cond_true, cond_false, Bool.not_true, Bool.not_false]
    refine ⟨fun hlt => ?_, fun hge => ?_⟩
    · have hlt' : i < l.length := by simp at hlt; omega
      obtain ⟨gv, rfl, cv⟩ := hv.cell rfl (strs_bytes l i hlt')
      obtain ⟨gw, rfl, cw⟩ := hw.cell rfl (strs_bytes m i (by omega))
      refine Quiet_eq ?_
      simp (disch := first | assumption | (with_reducible exact Ext.refl _) | (with_reducible exact Keep.refl _ _) | (with_reducible exact Eq.refl _) | (intro _ he; cases he; assumption) | (intro _ he; with_reducible apply keep_cell' he; assumption; simp; done) | (intro _ he; with_reducible apply ext_cell' he; assumption; done) | (with_reducible first | exact pl_int _ _ | exact pl_byte _ | exact pl_u32 _ | exact pl_bool _ | exact pl_ptr _ | exact pl_slice _ _ _ | exact pl_map _ | exact pl_str _ | exact pl_func _ _ _) | ((rw [okW_setH]; repeat rw [okW_setH]); assumption) | ((with_reducible refine cellH_setH_same ?_ _); (repeat rw [okW_setH]); assumption) | ((rw [cellH_setH_off]; rotate_left; focus decide); (repeat (rw [cellH_setH_off]; rotate_left; focus decide)); first | assumption | ((with_reducible refine cellH_setH_same ?_ _); (repeat rw [okW_setH]); assumption)) | omega) only [↓hpR, ↓nilC_ptr, ↓nilC_func, ↓condP_true, ↓condP_false, ↓condP_bool, ↓guardP_true, ↓guardP_false, ↓guardP_bool_t, ↓guardP_bool_f, ↓skipP_undef, ↓pickP_bool, ↓b_add, ↓b_sub, ↓b_mul, ↓b_quo, ↓b_rem, ↓b_lss, ↓b_leq, ↓b_gtr, ↓b_geq, ↓b_eql, ↓b_neq, ↓u_not, ↓s_add, ↓s_eql, ↓s_neq, ↓i_max2, ↓i_min2, ↓x20, ↓x21, ↓x30, ↓x31, ↓x32, ↓q_b_add, ↓q_b_sub, ↓q_b_mul, ↓q_b_quo, ↓q_b_rem, ↓q_b_lss, ↓q_b_leq, ↓q_b_gtr, ↓q_b_geq, ↓q_b_eql, ↓q_b_neq, ↓q_u_not, ↓q_s_add, ↓q_s_eql, ↓q_s_neq, ↓q_i_max2, ↓q_i_min2, ↓q_x20, ↓q_x21, ↓q_x30, ↓q_x31, ↓q_x32, ↓m_box, decide_true, decide_false, tt_and, ff_and, Nat.zero_add, Int.toNat_natCast, cells_agg, cells_bool, cells_int, cells_str, cells_ptr, cells_slice, ↓qend_eq, ↓jump_none, ↓jump_ret, ↓jump_exit, ↓marks_one, cond_true, cond_false, Bool.not_true, Bool.not_false]
      have ex : ∀ l : List (List UInt8), i < l.length → l.take (i + 1) = l.take i ++ [l.getD i []] := fun l hl => by
        rw [List.take_add_one, List.getD_eq_getElem?_getD, List.getElem?_eq_getElem hl]
        rfl
      refine ⟨fun hne => ?_, fun heq2 => ⟨⟨i + 1, by simp, by omega, by trivial, ?_⟩, by omega⟩⟩
      · have : l ≠ m := fun e => by subst e; simp at hne
        simpa [this] using hk
      · have he : l.getD i [] = m.getD i [] := by simpa using heq2
        rw [ex l hlt', ex m (by omega), htk, he]
    · have : i = l.length := by simp at hge; omega
      subst this
      have : l = m := by
        rw [List.take_length, hlen, List.take_length] at htk
        exact htk
      simpa [this] using hk

theorem oneL_eq (t : List UInt8) : oneL t = if 8 < t.length ∧ 1 ≤ lenL t ∧ lenL t ≤ 400 ∧ 8 + lenL t ≤ t.length ∧ t.take (8 + lenL t) = frameL ((t.drop 7).take (lenL t)) then some ((t.drop 7).take (lenL t)) else none := by
  by_cases h : 8 < t.length ∧ 1 ≤ lenL t ∧ lenL t ≤ 400 ∧ 8 + lenL t ≤ t.length ∧ t.take (8 + lenL t) = frameL ((t.drop 7).take (lenL t))
  · rw [if_pos h]
    obtain ⟨h1, h2, h3, h4, h5⟩ := h
    have h0 : t.getD 0 0 = 1 := by
      have : (t.take (8 + lenL t))[0]? = some 1 := by rw [h5]; rfl
      rw [List.getElem?_take, if_pos (by omega)] at this
      rw [List.getD_eq_getElem?_getD, this]
      rfl
    have hp : frameL ((t.drop 7).take (lenL t)) <+: t := by rw [← h5]; exact List.take_prefix _ _
    unfold oneL
    rw [if_neg (by rintro (h | h); (exact absurd h (by omega)); exact h h0), if_neg (by omega), if_neg (by omega), if_pos hp]
  · rw [if_neg h]
    unfold oneL
    split
    · rfl
    · rename_i h1
      split
      · rfl
      · rename_i h2
        split
        · rfl
        · rename_i h3
          split
          · rename_i h4
            refine absurd ⟨by omega, by omega, by omega, by omega, ?_⟩ h
            have hl : (frameL ((t.drop 7).take (lenL t))).length = 8 + lenL t := by rw [frameL_length]; simp; omega
            have := List.prefix_iff_eq_take.1 h4
            rw [hl] at this
            exact this.symm
          · rfl
theorem Own.empty {h : Heap} {base g : Nat} (hb : base ≤ g) {e : TypeId} (hg : h[g]? = some (.cells #[] e (0, 0))) : Own h base e 1 (.slice (some ⟨g, 0, none⟩) 0 0) 0 [] :=
  ⟨rfl, .inr ⟨g, 0, #[], rfl, hb, hg, by omega, by simp [maxLen], rfl, rfl⟩⟩
theorem rscan_spec {h : Heap} (s : List UInt8) (hs : s.length ≤ 70368744177664) {K : Value → Heap → Prop}
    (hk : ∀ h' v, Ext h h' → Own h' h.size 9 1 v (scanL s).1.length (strs (scanL s).1) → v ≠ .slice none 0 0 → K (.tuple #[v, .int .i64 ((scanL s).2 : Int)]) h') : CallF Try.prog 22 #[str s] h K := by
  apply S22
  unfold F22
  simp (disch := first | assumption | (with_reducible exact Ext.refl _) | (with_reducible exact Keep.refl _ _) | (with_reducible exact Eq.refl _) | (intro _ he; cases he; assumption) | (intro _ he; with_reducible apply keep_cell' he; assumption; simp; done) | (intro _ he; with_reducible apply ext_cell' he; assumption; done) | (with_reducible first | exact pl_int _ _ | exact pl_byte _ | exact pl_u32 _ | exact pl_bool _ | exact pl_ptr _ | exact pl_slice _ _ _ | exact pl_map _ | exact pl_str _ | exact pl_func _ _ _) | ((rw [okW_setH]; repeat rw [okW_setH]); assumption) | ((with_reducible refine cellH_setH_same ?_ _); (repeat rw [okW_setH]); assumption) | ((rw [cellH_setH_off]; rotate_left; focus decide); (repeat (rw [cellH_setH_off]; rotate_left; focus decide)); first | assumption | ((with_reducible refine cellH_setH_same ?_ _); (repeat rw [okW_setH]); assumption)) | omega) only [↓hpR, ↓nilC_ptr, ↓nilC_func, ↓condP_true, ↓condP_false, ↓condP_bool, ↓guardP_true, ↓guardP_false, ↓guardP_bool_t, ↓guardP_bool_f, ↓skipP_undef, ↓pickP_bool, ↓b_add, ↓b_sub, ↓b_mul, ↓b_quo, ↓b_rem, ↓b_lss, ↓b_leq, ↓b_gtr, ↓b_geq, ↓b_eql, ↓b_neq, ↓u_not, ↓s_add, ↓s_eql, ↓s_neq, ↓i_max2, ↓i_min2, ↓x20, ↓x21, ↓x30, ↓x31, ↓x32, ↓q_b_add, ↓q_b_sub, ↓q_b_mul, ↓q_b_quo, ↓q_b_rem, ↓q_b_lss, ↓q_b_leq, ↓q_b_gtr, ↓q_b_geq, ↓q_b_eql, ↓q_b_neq, ↓q_u_not, ↓q_s_add, ↓q_s_eql, ↓q_s_neq, ↓q_i_max2, ↓q_i_min2, ↓q_x20, ↓q_x21, ↓q_x30, ↓q_x31, ↓q_x32, ↓m_box, decide_true, decide_false, tt_and, ff_and, Nat.zero_add, Int.toNat_natCast, cells_agg, cells_bool, cells_int, cells_str, cells_ptr, cells_slice, ↓qend_eq, ↓jump_none, ↓jump_ret, ↓jump_exit, ↓marks_one, cond_true, cond_false, Bool.not_true, Bool.not_false]
  refine ⟨fun x y h' => ∃ (at_ : Nat) (acc : List (List UInt8)), y = .int .i64 (at_ : Int) ∧ at_ ≤ s.length ∧ 9 * acc.length ≤ at_ ∧ Ext h h' ∧ h.size < h'.size ∧ x ≠ .slice none 0 0 ∧ Own h' h.size 9 1 x acc.length (strs acc) ∧
      (acc ++ (scanL (s.drop at_)).1, at_ + (scanL (s.drop at_)).2) = scanL s,
    fun x y h' => match y with | .int _ i => s.length - i.toNat | _ => 0, ?_, ?_⟩
  · exact ⟨0, [], rfl, by omega, by simp, (Ext.refl h).push _, by simp, by simp, Own.empty (Nat.le_refl _) (push_new _ _), by simp⟩
  · rintro js v y h1 ⟨at_, acc, rfl, hat, hacc, hx, hsz, hnn, hown, heq⟩
    have hdl : (s.drop at_).length = s.length - at_ := by simp
    have stop : ∀ h', Ext h1 h' → oneL (s.drop at_) = none → K (.tuple #[v, .int .i64 (at_ : Int)]) h' := fun h' hx' ho => by
      rw [scanL_none ho] at heq
      simp only [List.append_nil, Nat.add_zero] at heq
      have := hk h' v (hx.trans hx')
      rw [← heq] at this
      exact this (hown.ext hx') hnn
    simp (disch := first | assumption | (with_reducible exact Ext.refl _) | (with_reducible exact Keep.refl _ _) | (with_reducible exact Eq.refl _) | (intro _ he; cases he; assumption) | (intro _ he; with_reducible apply keep_cell' he; assumption; simp; done) | (intro _ he; with_reducible apply ext_cell' he; assumption; done) | (with_reducible first | exact pl_int _ _ | exact pl_byte _ | exact pl_u32 _ | exact pl_bool _ | exact pl_ptr _ | exact pl_slice _ _ _ | exact pl_map _ | exact pl_str _ | exact pl_func _ _ _) | ((rw [okW_setH]; repeat rw [okW_setH]); assumption) | ((with_reducible refine cellH_setH_same ?_ _); (repeat rw [okW_setH]); assumption) | ((rw [cellH_setH_off]; rotate_left; focus decide); (repeat (rw [cellH_setH_off]; rotate_left; focus decide)); first | assumption | ((with_reducible refine cellH_setH_same ?_ _); (repeat rw [okW_setH]); assumption)) | omega) only [↓hpR, ↓nilC_ptr, ↓nilC_func, ↓condP_true, ↓condP_false, ↓condP_bool, ↓guardP_true, ↓guardP_false, ↓guardP_bool_t, ↓guardP_bool_f, ↓skipP_undef, ↓pickP_bool, ↓b_add, ↓b_sub, ↓b_mul, ↓b_quo, ↓b_rem, ↓b_lss, ↓b_leq, ↓b_gtr, ↓b_geq, ↓b_eql, ↓b_neq, ↓u_not, ↓s_add, ↓s_eql, ↓s_neq, ↓i_max2, ↓i_min2, ↓x20, ↓x21, ↓x30, ↓x31, ↓x32, ↓q_b_add, ↓q_b_sub, ↓q_b_mul, ↓q_b_quo, ↓q_b_rem, ↓q_b_lss, ↓q_b_leq, ↓q_b_gtr, ↓q_b_geq, ↓q_b_eql, ↓q_b_neq, ↓q_u_not, ↓q_s_add, ↓q_s_eql, ↓q_s_neq, ↓q_i_max2, ↓q_i_min2, ↓q_x20, ↓q_x21, ↓q_x30, ↓q_x31, ↓q_x32, ↓m_box, decide_true, decide_false, tt_and, ff_and, Nat.zero_add, Int.toNat_natCast, cells_agg, cells_bool, cells_int, cells_str, cells_ptr, cells_slice, ↓qend_eq, ↓jump_none, ↓jump_ret, ↓jump_exit, ↓marks_one, cond_true, cond_false, Bool.not_true, Bool.not_false]
    refine ⟨fun hlt => ?_, fun hge => ?_⟩
    · have hlt' : at_ + 8 < s.length := by simp at hlt; omega
      have g1 : ∀ i, (s.drop at_).getD i 0 = s.getD (at_ + i) 0 := fun i => by simp [List.getD_eq_getElem?_getD]
      have b1 := (s.getD (at_ + 1) 0).toNat_lt
      have b2 := (s.getD (at_ + 2) 0).toNat_lt
      have z1 : ((at_ : Int) + 1).toNat = at_ + 1 := by omega
      have z2 : ((at_ : Int) + 2).toNat = at_ + 2 := by omega
      refine Quiet_eq ?_
      simp (disch := first | assumption | (with_reducible exact Ext.refl _) | (with_reducible exact Keep.refl _ _) | (with_reducible exact Eq.refl _) | (intro _ he; cases he; assumption) | (intro _ he; with_reducible apply keep_cell' he; assumption; simp; done) | (intro _ he; with_reducible apply ext_cell' he; assumption; done) | (with_reducible first | exact pl_int _ _ | exact pl_byte _ | exact pl_u32 _ | exact pl_bool _ | exact pl_ptr _ | exact pl_slice _ _ _ | exact pl_map _ | exact pl_str _ | exact pl_func _ _ _) | ((rw [okW_setH]; repeat rw [okW_setH]); assumption) | ((with_reducible refine cellH_setH_same ?_ _); (repeat rw [okW_setH]); assumption) | ((rw [cellH_setH_off]; rotate_left; focus decide); (repeat (rw [cellH_setH_off]; rotate_left; focus decide)); first | assumption | ((with_reducible refine cellH_setH_same ?_ _); (repeat rw [okW_setH]); assumption)) | omega) only [↓hpR, ↓nilC_ptr, ↓nilC_func, ↓condP_true, ↓condP_false, ↓condP_bool, ↓guardP_true, ↓guardP_false, ↓guardP_bool_t, ↓guardP_bool_f, ↓skipP_undef, ↓pickP_bool, ↓b_add, ↓b_sub, ↓b_mul, ↓b_quo, ↓b_rem, ↓b_lss, ↓b_leq, ↓b_gtr, ↓b_geq, ↓b_eql, ↓b_neq, ↓u_not, ↓s_add, ↓s_eql, ↓s_neq, ↓i_max2, ↓i_min2, ↓x20, ↓x21, ↓x30, ↓x31, ↓x32, ↓q_b_add, ↓q_b_sub, ↓q_b_mul, ↓q_b_quo, ↓q_b_rem, ↓q_b_lss, ↓q_b_leq, ↓q_b_gtr, ↓q_b_geq, ↓q_b_eql, ↓q_b_neq, ↓q_u_not, ↓q_s_add, ↓q_s_eql, ↓q_s_neq, ↓q_i_max2, ↓q_i_min2, ↓q_x20, ↓q_x21, ↓q_x30, ↓q_x31, ↓q_x32, ↓m_box, decide_true, decide_false, tt_and, ff_and, Nat.zero_add, Int.toNat_natCast, cells_agg, cells_bool, cells_int, cells_str, cells_ptr, cells_slice, ↓qend_eq, ↓jump_none, ↓jump_ret, ↓jump_exit, ↓marks_one, cond_true, cond_false, Bool.not_true, Bool.not_false, z1, z2, ↓byte_fold, ↓q_cv_byte_int]
      have hn : (256 : Int) * ((s.getD (at_ + 1) 0).toNat : Int) + ((s.getD (at_ + 2) 0).toNat : Int) = ((lenL (s.drop at_) : Nat) : Int) := by
        unfold lenL
        rw [g1, g1]
        omega
      rw [hn]
      have ho := oneL_eq (s.drop at_)
      rw [hdl] at ho
      obtain ⟨N, hN⟩ : ∃ N, lenL (s.drop at_) = N := ⟨_, rfl⟩
      rw [hN] at ho ⊢
      have hN0 : N ≤ 65535 := by rw [← hN]; unfold lenL; rw [g1, g1]; omega
      simp (disch := first | assumption | (with_reducible exact Ext.refl _) | (with_reducible exact Keep.refl _ _) | (with_reducible exact Eq.refl _) | (intro _ he; cases he; assumption) | (intro _ he; with_reducible apply keep_cell' he; assumption; simp; done) | (intro _ he; with_reducible apply ext_cell' he; assumption; done) | (with_reducible first | exact pl_int _ _ | exact pl_byte _ | exact pl_u32 _ | exact pl_bool _ | exact pl_ptr _ | exact pl_slice _ _ _ | exact pl_map _ | exact pl_str _ | exact pl_func _ _ _) | ((rw [okW_setH]; repeat rw [okW_setH]); assumption) | ((with_reducible refine cellH_setH_same ?_ _); (repeat rw [okW_setH]); assumption) | ((rw [cellH_setH_off]; rotate_left; focus decide); (repeat (rw [cellH_setH_off]; rotate_left; focus decide)); first | assumption | ((with_reducible refine cellH_setH_same ?_ _); (repeat rw [okW_setH]); assumption)) | omega) only [↓hpR, ↓nilC_ptr, ↓nilC_func, ↓condP_true, ↓condP_false, ↓condP_bool, ↓guardP_true, ↓guardP_false, ↓guardP_bool_t, ↓guardP_bool_f, ↓skipP_undef, ↓pickP_bool, ↓b_add, ↓b_sub, ↓b_mul, ↓b_quo, ↓b_rem, ↓b_lss, ↓b_leq, ↓b_gtr, ↓b_geq, ↓b_eql, ↓b_neq, ↓u_not, ↓s_add, ↓s_eql, ↓s_neq, ↓i_max2, ↓i_min2, ↓x20, ↓x21, ↓x30, ↓x31, ↓x32, ↓q_b_add, ↓q_b_sub, ↓q_b_mul, ↓q_b_quo, ↓q_b_rem, ↓q_b_lss, ↓q_b_leq, ↓q_b_gtr, ↓q_b_geq, ↓q_b_eql, ↓q_b_neq, ↓q_u_not, ↓q_s_add, ↓q_s_eql, ↓q_s_neq, ↓q_i_max2, ↓q_i_min2, ↓q_x20, ↓q_x21, ↓q_x30, ↓q_x31, ↓q_x32, ↓m_box, decide_true, decide_false, tt_and, ff_and, Nat.zero_add, Int.toNat_natCast, cells_agg, cells_bool, cells_int, cells_str, cells_ptr, cells_slice, ↓qend_eq, ↓jump_none, ↓jump_ret, ↓jump_exit, ↓marks_one, cond_true, cond_false, Bool.not_true, Bool.not_false, Join1]
      refine ⟨fun q1 => stop _ (Ext.refl _) (by rw [ho, if_neg (by simp at q1; omega)]), fun q1 => ⟨fun q2 => stop _ (Ext.refl _) (by rw [ho, if_neg (by simp at q2; omega)]), fun q2 => ⟨fun q3 => stop _ (Ext.refl _) (by rw [ho, if_neg (by simp at q3; omega)]), fun q3 => ?_⟩⟩⟩
      have q1' : 1 ≤ N := by simp at q1; omega
      have q2' : N ≤ 400 := by simp at q2; omega
      have q3' : at_ + 8 + N ≤ s.length := by simp at q3; omega
      simp (disch := first | assumption | (with_reducible exact Ext.refl _) | (with_reducible exact Keep.refl _ _) | (with_reducible exact Eq.refl _) | (intro _ he; cases he; assumption) | (intro _ he; with_reducible apply keep_cell' he; assumption; simp; done) | (intro _ he; with_reducible apply ext_cell' he; assumption; done) | (with_reducible first | exact pl_int _ _ | exact pl_byte _ | exact pl_u32 _ | exact pl_bool _ | exact pl_ptr _ | exact pl_slice _ _ _ | exact pl_map _ | exact pl_str _ | exact pl_func _ _ _) | ((rw [okW_setH]; repeat rw [okW_setH]); assumption) | ((with_reducible refine cellH_setH_same ?_ _); (repeat rw [okW_setH]); assumption) | ((rw [cellH_setH_off]; rotate_left; focus decide); (repeat (rw [cellH_setH_off]; rotate_left; focus decide)); first | assumption | ((with_reducible refine cellH_setH_same ?_ _); (repeat rw [okW_setH]); assumption)) | omega) only [↓hpR, ↓nilC_ptr, ↓nilC_func, ↓condP_true, ↓condP_false, ↓condP_bool, ↓guardP_true, ↓guardP_false, ↓guardP_bool_t, ↓guardP_bool_f, ↓skipP_undef, ↓pickP_bool, ↓b_add, ↓b_sub, ↓b_mul, ↓b_quo, ↓b_rem, ↓b_lss, ↓b_leq, ↓b_gtr, ↓b_geq, ↓b_eql, ↓b_neq, ↓u_not, ↓s_add, ↓s_eql, ↓s_neq, ↓i_max2, ↓i_min2, ↓x20, ↓x21, ↓x30, ↓x31, ↓x32, ↓q_b_add, ↓q_b_sub, ↓q_b_mul, ↓q_b_quo, ↓q_b_rem, ↓q_b_lss, ↓q_b_leq, ↓q_b_gtr, ↓q_b_geq, ↓q_b_eql, ↓q_b_neq, ↓q_u_not, ↓q_s_add, ↓q_s_eql, ↓q_s_neq, ↓q_i_max2, ↓q_i_min2, ↓q_x20, ↓q_x21, ↓q_x30, ↓q_x31, ↓q_x32, ↓m_box, decide_true, decide_false, tt_and, ff_and, Nat.zero_add, Int.toNat_natCast, cells_agg, cells_bool, cells_int, cells_str, cells_ptr, cells_slice, ↓qend_eq, ↓jump_none, ↓jump_ret, ↓jump_exit, ↓marks_one, cond_true, cond_false, Bool.not_true, Bool.not_false]
      have y1 : ((at_ : Int) + 7).toNat = at_ + 7 := by omega
      have y2 : ((at_ : Int) + 7 + (N : Int)).toNat - (at_ + 7) = N := by omega
      have y3 : ((at_ : Int) + 8 + (N : Int)).toNat - at_ = 8 + N := by omega
      have hrec : (s.drop (at_ + 7)).take N = ((s.drop at_).drop 7).take N := by rw [List.drop_drop]
      rw [y1, y2, y3, hrec]
      have hrl : (((s.drop at_).drop 7).take N).length = N := by simp; omega
      generalize ((s.drop at_).drop 7).take N = r at ho hrl ⊢
      refine rframe_spec r (by omega) fun h2 hx2 => ?_
      have hfe : frameE r = 0 := by unfold frameE; rw [if_neg (by omega)]
      rw [hfe, if_pos rfl]
      simp (disch := first | assumption | (with_reducible exact Ext.refl _) | (with_reducible exact Keep.refl _ _) | (with_reducible exact Eq.refl _) | (intro _ he; cases he; assumption) | (intro _ he; with_reducible apply keep_cell' he; assumption; simp; done) | (intro _ he; with_reducible apply ext_cell' he; assumption; done) | (with_reducible first | exact pl_int _ _ | exact pl_byte _ | exact pl_u32 _ | exact pl_bool _ | exact pl_ptr _ | exact pl_slice _ _ _ | exact pl_map _ | exact pl_str _ | exact pl_func _ _ _) | ((rw [okW_setH]; repeat rw [okW_setH]); assumption) | ((with_reducible refine cellH_setH_same ?_ _); (repeat rw [okW_setH]); assumption) | ((rw [cellH_setH_off]; rotate_left; focus decide); (repeat (rw [cellH_setH_off]; rotate_left; focus decide)); first | assumption | ((with_reducible refine cellH_setH_same ?_ _); (repeat rw [okW_setH]); assumption)) | omega) only [↓hpR, ↓nilC_ptr, ↓nilC_func, ↓condP_true, ↓condP_false, ↓condP_bool, ↓guardP_true, ↓guardP_false, ↓guardP_bool_t, ↓guardP_bool_f, ↓skipP_undef, ↓pickP_bool, ↓b_add, ↓b_sub, ↓b_mul, ↓b_quo, ↓b_rem, ↓b_lss, ↓b_leq, ↓b_gtr, ↓b_geq, ↓b_eql, ↓b_neq, ↓u_not, ↓s_add, ↓s_eql, ↓s_neq, ↓i_max2, ↓i_min2, ↓x20, ↓x21, ↓x30, ↓x31, ↓x32, ↓q_b_add, ↓q_b_sub, ↓q_b_mul, ↓q_b_quo, ↓q_b_rem, ↓q_b_lss, ↓q_b_leq, ↓q_b_gtr, ↓q_b_geq, ↓q_b_eql, ↓q_b_neq, ↓q_u_not, ↓q_s_add, ↓q_s_eql, ↓q_s_neq, ↓q_i_max2, ↓q_i_min2, ↓q_x20, ↓q_x21, ↓q_x30, ↓q_x31, ↓q_x32, ↓m_box, decide_true, decide_false, tt_and, ff_and, Nat.zero_add, Int.toNat_natCast, cells_agg, cells_bool, cells_int, cells_str, cells_ptr, cells_slice, ↓qend_eq, ↓jump_none, ↓jump_ret, ↓jump_exit, ↓marks_one, cond_true, cond_false, Bool.not_true, Bool.not_false]
      refine ⟨fun q4 => stop _ hx2 (by rw [ho, if_neg (fun hc => by simp [hc.2.2.2.2] at q4)]), fun q4 => ?_⟩
      have ho' : oneL (s.drop at_) = some r := by
        rw [ho, if_pos]
        exact ⟨by omega, q1', q2', by omega, by simpa using q4⟩
      refine o_append Try.underlying32 (z := .string .empty) (size := 1) (bytes := 16) (e := 9) (by kernel_rfl) rfl (by omega) _ _ (hown.ext (hx2.trans ((Ext.refl h2).push _))) (m := 1) (news := [str r]) rfl
        (fun j u hj => ?_) (fun u hu => by simp only [List.mem_singleton] at hu; subst hu; rfl) (by omega) (by omega) (by simp; have := hx.size; have := hx2.size; omega) ?_
      · rw [Nat.zero_add, cellH_push_new]
        simpa using hj
      · intro v' h3 hown3 ho3 hnil hblk
        have hz := hx2.size
        have hz3 := ho3.size
        have hzp : (h2.push (Obj.cells #[str r] 9 (0, 0))).size = h2.size + 1 := by simp
        refine ⟨⟨at_ + (N + 8), acc ++ [r], ?_, by omega, by simp; omega, ?_, by omega, fun hc => hnn (hnil.1 hc).1, ?_, ?_⟩, by omega⟩
        · congr 1
          omega
        · exact ext_only_new (hx.trans (hx2.trans ((Ext.refl h2).push _))) ho3 fun k hk => (hown.ge k hk).1
        · simpa [strs] using hown3
        · rw [← heq, scanL_some ho']
          simp only [List.append_assoc, List.singleton_append, List.drop_drop, hrl]
          congr 1
          omega
    · exact stop _ (Ext.refl _) (by rw [oneL_eq, if_neg (by simp at hge ⊢; omega)])
end Go.Proofs.Ytoefeflmcggbkaa
