/- The reference's Calls, Called, Excluded (printed by gen13.py). -/
import Derived.Test.YtopflbjjbindkaaN9
set_option linter.unusedVariables false
set_option linter.unusedSimpArgs false
namespace Go.Proofs.Ytopflbjjbindkaa
open Go.Hp Go.RowKit

def anyT (f : FlatT) (kind : Int) (n i : Nat) : Bool := (List.range n).any fun k : Nat => tiedB f kind (k : Int) (i : Int)
theorem anyT_zero (f : FlatT) (kind : Int) (i : Nat) : anyT f kind 0 i = false := rfl
theorem anyT_succ (f : FlatT) (kind : Int) (n i : Nat) : anyT f kind (n + 1) i = (anyT f kind n i || tiedB f kind (n : Int) (i : Int)) := by
  unfold anyT
  rw [List.range_succ, List.any_append]
  simp
theorem rcalls_spec {h : Heap} {ve vt : Value} {f : FlatT} (F : FlatAt h ve vt f) (at_ : Int) {K : Value → Heap → Prop}
    (hk : ∀ h' v, OwnI h' h.size v (idx f.ev.length fun i : Nat => inB f.ev.length at_ && tiedB f 2 at_ (i : Int)) → Ext h h' → K v h') : CallF Try.prog 14 #[.agg #[ve, vt], .int .i64 at_] h K := by
  apply S14
  unfold F14
  have hne := F.ne
  refine box_step fun h1 x1 z1 p1 => ?_
  simp only [cells_agg] at p1
  obtain ⟨A, cap, hve⟩ := F.ev.len
  simp (disch := first | assumption | (with_reducible exact Ext.refl _) | (with_reducible exact Keep.refl _ _) | (with_reducible exact Eq.refl _) | (intro _ he; cases he; assumption) | (intro _ he; with_reducible apply keep_cell' he; assumption; simp; done) | (intro _ he; with_reducible apply ext_cell' he; assumption; done) | (with_reducible first | exact pl_int _ _ | exact pl_byte _ | exact pl_u32 _ | exact pl_bool _ | exact pl_ptr _ | exact pl_slice _ _ _ | exact pl_map _ | exact pl_str _ | exact pl_func _ _ _) | ((rw [okW_setH]; repeat rw [okW_setH]); assumption) | ((with_reducible refine cellH_setH_same ?_ _); (repeat rw [okW_setH]); assumption) | ((rw [cellH_setH_off]; rotate_left; focus decide); (repeat (rw [cellH_setH_off]; rotate_left; focus decide)); first | assumption | ((with_reducible refine cellH_setH_same ?_ _); (repeat rw [okW_setH]); assumption)) | omega) only [↓hpR, ↓nilC_ptr, ↓nilC_func, ↓condP_true, ↓condP_false, ↓condP_bool, ↓guardP_true, ↓guardP_false, ↓guardP_bool_t, ↓guardP_bool_f, ↓skipP_undef, ↓pickP_bool, ↓b_add, ↓b_sub, ↓b_mul, ↓b_quo, ↓b_rem, ↓b_lss, ↓b_leq, ↓b_gtr, ↓b_geq, ↓b_eql, ↓b_neq, ↓u_not, ↓s_add, ↓s_eql, ↓s_neq, ↓i_max2, ↓i_min2, ↓x20, ↓x21, ↓x30, ↓x31, ↓x32, ↓q_b_add, ↓q_b_sub, ↓q_b_mul, ↓q_b_quo, ↓q_b_rem, ↓q_b_lss, ↓q_b_leq, ↓q_b_gtr, ↓q_b_geq, ↓q_b_eql, ↓q_b_neq, ↓q_u_not, ↓q_s_add, ↓q_s_eql, ↓q_s_neq, ↓q_i_max2, ↓q_i_min2, ↓q_x20, ↓q_x21, ↓q_x30, ↓q_x31, ↓q_x32, ↓m_box, decide_true, decide_false, tt_and, ff_and, Nat.zero_add, Int.toNat_natCast, cells_agg, cells_bool, cells_int, cells_str, cells_ptr, cells_slice, ↓qend_eq, ↓jump_none, ↓jump_ret, ↓jump_exit, ↓marks_one, cond_true, cond_false, Bool.not_true, Bool.not_false]
  have x2 := x1.push (.cells #[] 3 (0, 0))
  have p2 := push_old p1 (.cells #[] 3 (0, 0))
  have own2 := own0 (Nat.le_refl h1.size)
  have x12 := (Ext.refl h1).push (.cells #[] 3 (0, 0))
  generalize h1.push (.cells #[] 3 (0, 0)) = h2 at x2 x12 p2 own2 ⊢
  obtain ⟨Q, hQ⟩ : ∃ Q : Nat → Bool, Q = fun i : Nat => tiedB f 2 at_ (i : Int) := ⟨_, rfl⟩
  have hQi : ∀ i : Nat, tiedB f 2 at_ (i : Int) = Q i := fun i => by rw [hQ]
  simp only [hQi] at hk
  obtain ⟨P, hP⟩ : ∃ P : Nat → Bool, P = fun i : Nat => inB f.ev.length at_ && Q i := ⟨_, rfl⟩
  have hPi : ∀ i : Nat, (inB f.ev.length at_ && Q i) = P i := fun i => by rw [hP]
  rw [← hP] at hk
  refine ⟨fun x y hh => ∃ i : Nat, y = .int .i64 (i : Int) ∧ i ≤ f.ev.length ∧ Ext h1 hh ∧ OwnI hh h1.size x (idx i P), fun x y hh => match y with | .int _ i => f.ev.length - i.toNat | _ => 0, ⟨0, rfl, Nat.zero_le _, x12, own2⟩, ?_⟩
  rintro js x y h3 ⟨i, rfl, hi, x3, own⟩
  have p3 := x3.at p1
  have c0 : cellH h3 h.size 0 = some ve := by rw [cellH_of p3]; rfl
  have hil := idx_length i P
  refine Join1.intro (fun x hh => x = .bool (decide (i < f.ev.length) && inB f.ev.length at_) ∧ hh = h3) (fun J hJ => ?_) (fun x4 h4 hM => ?_)
  · simp (disch := first | assumption | (with_reducible exact Ext.refl _) | (with_reducible exact Keep.refl _ _) | (with_reducible exact Eq.refl _) | (intro _ he; cases he; assumption) | (intro _ he; with_reducible apply keep_cell' he; assumption; simp; done) | (intro _ he; with_reducible apply ext_cell' he; assumption; done) | (with_reducible first | exact pl_int _ _ | exact pl_byte _ | exact pl_u32 _ | exact pl_bool _ | exact pl_ptr _ | exact pl_slice _ _ _ | exact pl_map _ | exact pl_str _ | exact pl_func _ _ _) | ((rw [okW_setH]; repeat rw [okW_setH]); assumption) | ((with_reducible refine cellH_setH_same ?_ _); (repeat rw [okW_setH]); assumption) | ((rw [cellH_setH_off]; rotate_left; focus decide); (repeat (rw [cellH_setH_off]; rotate_left; focus decide)); first | assumption | ((with_reducible refine cellH_setH_same ?_ _); (repeat rw [okW_setH]); assumption)) | omega) only [↓hpR, ↓nilC_ptr, ↓nilC_func, ↓condP_true, ↓condP_false, ↓condP_bool, ↓guardP_true, ↓guardP_false, ↓guardP_bool_t, ↓guardP_bool_f, ↓skipP_undef, ↓pickP_bool, ↓b_add, ↓b_sub, ↓b_mul, ↓b_quo, ↓b_rem, ↓b_lss, ↓b_leq, ↓b_gtr, ↓b_geq, ↓b_eql, ↓b_neq, ↓u_not, ↓s_add, ↓s_eql, ↓s_neq, ↓i_max2, ↓i_min2, ↓x20, ↓x21, ↓x30, ↓x31, ↓x32, ↓q_b_add, ↓q_b_sub, ↓q_b_mul, ↓q_b_quo, ↓q_b_rem, ↓q_b_lss, ↓q_b_leq, ↓q_b_gtr, ↓q_b_geq, ↓q_b_eql, ↓q_b_neq, ↓q_u_not, ↓q_s_add, ↓q_s_eql, ↓q_s_neq, ↓q_i_max2, ↓q_i_min2, ↓q_x20, ↓q_x21, ↓q_x30, ↓q_x31, ↓q_x32, ↓m_box, decide_true, decide_false, tt_and, ff_and, Nat.zero_add, Int.toNat_natCast, cells_agg, cells_bool, cells_int, cells_str, cells_ptr, cells_slice, ↓qend_eq, ↓jump_none, ↓jump_ret, ↓jump_exit, ↓marks_one, cond_true, cond_false, Bool.not_true, Bool.not_false, hve]
    unfold inB at hJ
    refine ⟨fun e => ⟨fun e1 => ?_, fun e1 => ?_⟩, fun e => ?_⟩
    · have e' : decide (i < f.ev.length) = true := by simpa using e
      exact hJ _ _ ⟨by rw [e', e1]; rfl, rfl⟩
    · have e' : decide (i < f.ev.length) = true := by simpa using e
      exact hJ _ _ ⟨by rw [e', e1]; rfl, rfl⟩
    · have e' : decide (i < f.ev.length) = false := by simpa using e
      exact hJ _ _ ⟨by rw [e']; rfl, rfl⟩
  · obtain ⟨rfl, rfl⟩ := hM
    rw [condP_bool]
    refine ⟨fun e => ?_, fun e => ?_⟩
    · simp only [Bool.and_eq_true, decide_eq_true_eq] at e
      have hp : P i = Q i := by rw [← hPi, e.2, Bool.true_and]
      have hsucc := idx_succ i P
      rw [hp] at hsucc
      refine Join1.intro (fun x hh => Ext h1 hh ∧ OwnI hh h1.size x (idx (i + 1) P)) (fun J hJ => ?_) (fun x5 h5 hM => ?_)
      · rw [m_loadAgg Try.underlying30 rfl size30 p3 (by simp)]
        refine tied_spec (F.ext (x1.trans x3)) 2 at_ i fun h5 x5 => ?_
        rw [condP_bool]
        refine ⟨fun e1 => ?_, fun e1 => ?_⟩
        · have e1' : Q i = true := by rw [← hQi]; exact e1
          simp (disch := first | assumption | (with_reducible exact Ext.refl _) | (with_reducible exact Keep.refl _ _) | (with_reducible exact Eq.refl _) | (intro _ he; cases he; assumption) | (intro _ he; with_reducible apply keep_cell' he; assumption; simp; done) | (intro _ he; with_reducible apply ext_cell' he; assumption; done) | (with_reducible first | exact pl_int _ _ | exact pl_byte _ | exact pl_u32 _ | exact pl_bool _ | exact pl_ptr _ | exact pl_slice _ _ _ | exact pl_map _ | exact pl_str _ | exact pl_func _ _ _) | ((rw [okW_setH]; repeat rw [okW_setH]); assumption) | ((with_reducible refine cellH_setH_same ?_ _); (repeat rw [okW_setH]); assumption) | ((rw [cellH_setH_off]; rotate_left; focus decide); (repeat (rw [cellH_setH_off]; rotate_left; focus decide)); first | assumption | ((with_reducible refine cellH_setH_same ?_ _); (repeat rw [okW_setH]); assumption)) | omega) only [↓hpR, ↓nilC_ptr, ↓nilC_func, ↓condP_true, ↓condP_false, ↓condP_bool, ↓guardP_true, ↓guardP_false, ↓guardP_bool_t, ↓guardP_bool_f, ↓skipP_undef, ↓pickP_bool, ↓b_add, ↓b_sub, ↓b_mul, ↓b_quo, ↓b_rem, ↓b_lss, ↓b_leq, ↓b_gtr, ↓b_geq, ↓b_eql, ↓b_neq, ↓u_not, ↓s_add, ↓s_eql, ↓s_neq, ↓i_max2, ↓i_min2, ↓x20, ↓x21, ↓x30, ↓x31, ↓x32, ↓q_b_add, ↓q_b_sub, ↓q_b_mul, ↓q_b_quo, ↓q_b_rem, ↓q_b_lss, ↓q_b_leq, ↓q_b_gtr, ↓q_b_geq, ↓q_b_eql, ↓q_b_neq, ↓q_u_not, ↓q_s_add, ↓q_s_eql, ↓q_s_neq, ↓q_i_max2, ↓q_i_min2, ↓q_x20, ↓q_x21, ↓q_x30, ↓q_x31, ↓q_x32, ↓m_box, decide_true, decide_false, tt_and, ff_and, Nat.zero_add, Int.toNat_natCast, cells_agg, cells_bool, cells_int, cells_str, cells_ptr, cells_slice, ↓qend_eq, ↓jump_none, ↓jump_ret, ↓jump_exit, ↓marks_one, cond_true, cond_false, Bool.not_true, Bool.not_false]
          exact push1 (own.ext x5) (by omega) (i : Int) (x3.trans x5) fun h6 v6 own6 x6 => hJ _ _ ⟨x6, by rw [hsucc, e1']; exact own6⟩
        · have e1' : Q i = false := by rw [← hQi]; exact e1
          refine hJ _ _ ⟨x3.trans x5, ?_⟩
          rw [hsucc, e1']
          simpa using own.ext x5
      · obtain ⟨q1, q2⟩ := hM
        simp (disch := first | assumption | (with_reducible exact Ext.refl _) | (with_reducible exact Keep.refl _ _) | (with_reducible exact Eq.refl _) | (intro _ he; cases he; assumption) | (intro _ he; with_reducible apply keep_cell' he; assumption; simp; done) | (intro _ he; with_reducible apply ext_cell' he; assumption; done) | (with_reducible first | exact pl_int _ _ | exact pl_byte _ | exact pl_u32 _ | exact pl_bool _ | exact pl_ptr _ | exact pl_slice _ _ _ | exact pl_map _ | exact pl_str _ | exact pl_func _ _ _) | ((rw [okW_setH]; repeat rw [okW_setH]); assumption) | ((with_reducible refine cellH_setH_same ?_ _); (repeat rw [okW_setH]); assumption) | ((rw [cellH_setH_off]; rotate_left; focus decide); (repeat (rw [cellH_setH_off]; rotate_left; focus decide)); first | assumption | ((with_reducible refine cellH_setH_same ?_ _); (repeat rw [okW_setH]); assumption)) | omega) only [↓hpR, ↓nilC_ptr, ↓nilC_func, ↓condP_true, ↓condP_false, ↓condP_bool, ↓guardP_true, ↓guardP_false, ↓guardP_bool_t, ↓guardP_bool_f, ↓skipP_undef, ↓pickP_bool, ↓b_add, ↓b_sub, ↓b_mul, ↓b_quo, ↓b_rem, ↓b_lss, ↓b_leq, ↓b_gtr, ↓b_geq, ↓b_eql, ↓b_neq, ↓u_not, ↓s_add, ↓s_eql, ↓s_neq, ↓i_max2, ↓i_min2, ↓x20, ↓x21, ↓x30, ↓x31, ↓x32, ↓q_b_add, ↓q_b_sub, ↓q_b_mul, ↓q_b_quo, ↓q_b_rem, ↓q_b_lss, ↓q_b_leq, ↓q_b_gtr, ↓q_b_geq, ↓q_b_eql, ↓q_b_neq, ↓q_u_not, ↓q_s_add, ↓q_s_eql, ↓q_s_neq, ↓q_i_max2, ↓q_i_min2, ↓q_x20, ↓q_x21, ↓q_x30, ↓q_x31, ↓q_x32, ↓m_box, decide_true, decide_false, tt_and, ff_and, Nat.zero_add, Int.toNat_natCast, cells_agg, cells_bool, cells_int, cells_str, cells_ptr, cells_slice, ↓qend_eq, ↓jump_none, ↓jump_ret, ↓jump_exit, ↓marks_one, cond_true, cond_false, Bool.not_true, Bool.not_false]
        exact ⟨⟨i + 1, by simp, by omega, q1, q2⟩, by omega⟩
    · have hfin : idx i P = idx f.ev.length P := by
        by_cases h1 : i < f.ev.length
        · have h2 : inB f.ev.length at_ = false := by
            rw [decide_eq_true h1, Bool.true_and] at e
            exact e
          have hno : ∀ j, P j = false := fun j => by rw [← hPi, h2, Bool.false_and]
          rw [idx_none fun j _ => hno j, idx_none fun j _ => hno j]
        · rw [show i = f.ev.length by omega]
      rw [hfin] at own
      exact hk _ _ (own.low x1.size) (x1.trans x3)

theorem rcalled_spec {h : Heap} {ve vt : Value} {f : FlatT} (F : FlatAt h ve vt f) {K : Value → Heap → Prop}
    (hk : ∀ h' v, OwnI h' h.size v (idx f.ev.length fun i : Nat => evP f (fun e => decide (0 ≤ e.due)) i || anyT f 2 f.ev.length i) → Ext h h' → K v h') : CallF Try.prog 19 #[.agg #[ve, vt]] h K := by
  apply S19
  unfold F19
  have hne := F.ne
  refine box_step fun h1 x1 z1 p1 => ?_
  simp only [cells_agg] at p1
  obtain ⟨A, cap, hve⟩ := F.ev.len
  simp (disch := first | assumption | (with_reducible exact Ext.refl _) | (with_reducible exact Keep.refl _ _) | (with_reducible exact Eq.refl _) | (intro _ he; cases he; assumption) | (intro _ he; with_reducible apply keep_cell' he; assumption; simp; done) | (intro _ he; with_reducible apply ext_cell' he; assumption; done) | (with_reducible first | exact pl_int _ _ | exact pl_byte _ | exact pl_u32 _ | exact pl_bool _ | exact pl_ptr _ | exact pl_slice _ _ _ | exact pl_map _ | exact pl_str _ | exact pl_func _ _ _) | ((rw [okW_setH]; repeat rw [okW_setH]); assumption) | ((with_reducible refine cellH_setH_same ?_ _); (repeat rw [okW_setH]); assumption) | ((rw [cellH_setH_off]; rotate_left; focus decide); (repeat (rw [cellH_setH_off]; rotate_left; focus decide)); first | assumption | ((with_reducible refine cellH_setH_same ?_ _); (repeat rw [okW_setH]); assumption)) | omega) only [↓hpR, ↓nilC_ptr, ↓nilC_func, ↓condP_true, ↓condP_false, ↓condP_bool, ↓guardP_true, ↓guardP_false, ↓guardP_bool_t, ↓guardP_bool_f, ↓skipP_undef, ↓pickP_bool, ↓b_add, ↓b_sub, ↓b_mul, ↓b_quo, ↓b_rem, ↓b_lss, ↓b_leq, ↓b_gtr, ↓b_geq, ↓b_eql, ↓b_neq, ↓u_not, ↓s_add, ↓s_eql, ↓s_neq, ↓i_max2, ↓i_min2, ↓x20, ↓x21, ↓x30, ↓x31, ↓x32, ↓q_b_add, ↓q_b_sub, ↓q_b_mul, ↓q_b_quo, ↓q_b_rem, ↓q_b_lss, ↓q_b_leq, ↓q_b_gtr, ↓q_b_geq, ↓q_b_eql, ↓q_b_neq, ↓q_u_not, ↓q_s_add, ↓q_s_eql, ↓q_s_neq, ↓q_i_max2, ↓q_i_min2, ↓q_x20, ↓q_x21, ↓q_x30, ↓q_x31, ↓q_x32, ↓m_box, decide_true, decide_false, tt_and, ff_and, Nat.zero_add, Int.toNat_natCast, cells_agg, cells_bool, cells_int, cells_str, cells_ptr, cells_slice, ↓qend_eq, ↓jump_none, ↓jump_ret, ↓jump_exit, ↓marks_one, cond_true, cond_false, Bool.not_true, Bool.not_false]
  have x2 := x1.push (.cells #[] 3 (0, 0))
  have p2 := push_old p1 (.cells #[] 3 (0, 0))
  have own2 := own0 (Nat.le_refl h1.size)
  have x12 := (Ext.refl h1).push (.cells #[] 3 (0, 0))
  generalize h1.push (.cells #[] 3 (0, 0)) = h2 at x2 x12 p2 own2 ⊢
  obtain ⟨P, hP⟩ : ∃ P : Nat → Bool, P = fun i : Nat => evP f (fun e => decide (0 ≤ e.due)) i || anyT f 2 f.ev.length i := ⟨_, rfl⟩
  rw [← hP] at hk
  refine ⟨fun x y hh => ∃ i : Nat, y = .int .i64 (i : Int) ∧ i ≤ f.ev.length ∧ Ext h1 hh ∧ OwnI hh h1.size x (idx i P), fun x y hh => match y with | .int _ i => f.ev.length - i.toNat | _ => 0, ⟨0, rfl, Nat.zero_le _, x12, own2⟩, ?_⟩
  rintro js x y h3 ⟨i, rfl, hi, x3, own⟩
  have p3 := x3.at p1
  have c0 : cellH h3 h.size 0 = some ve := by rw [cellH_of p3]; rfl
  have hil := idx_length i P
  simp (disch := first | assumption | (with_reducible exact Ext.refl _) | (with_reducible exact Keep.refl _ _) | (with_reducible exact Eq.refl _) | (intro _ he; cases he; assumption) | (intro _ he; with_reducible apply keep_cell' he; assumption; simp; done) | (intro _ he; with_reducible apply ext_cell' he; assumption; done) | (with_reducible first | exact pl_int _ _ | exact pl_byte _ | exact pl_u32 _ | exact pl_bool _ | exact pl_ptr _ | exact pl_slice _ _ _ | exact pl_map _ | exact pl_str _ | exact pl_func _ _ _) | ((rw [okW_setH]; repeat rw [okW_setH]); assumption) | ((with_reducible refine cellH_setH_same ?_ _); (repeat rw [okW_setH]); assumption) | ((rw [cellH_setH_off]; rotate_left; focus decide); (repeat (rw [cellH_setH_off]; rotate_left; focus decide)); first | assumption | ((with_reducible refine cellH_setH_same ?_ _); (repeat rw [okW_setH]); assumption)) | omega) only [↓hpR, ↓nilC_ptr, ↓nilC_func, ↓condP_true, ↓condP_false, ↓condP_bool, ↓guardP_true, ↓guardP_false, ↓guardP_bool_t, ↓guardP_bool_f, ↓skipP_undef, ↓pickP_bool, ↓b_add, ↓b_sub, ↓b_mul, ↓b_quo, ↓b_rem, ↓b_lss, ↓b_leq, ↓b_gtr, ↓b_geq, ↓b_eql, ↓b_neq, ↓u_not, ↓s_add, ↓s_eql, ↓s_neq, ↓i_max2, ↓i_min2, ↓x20, ↓x21, ↓x30, ↓x31, ↓x32, ↓q_b_add, ↓q_b_sub, ↓q_b_mul, ↓q_b_quo, ↓q_b_rem, ↓q_b_lss, ↓q_b_leq, ↓q_b_gtr, ↓q_b_geq, ↓q_b_eql, ↓q_b_neq, ↓q_u_not, ↓q_s_add, ↓q_s_eql, ↓q_s_neq, ↓q_i_max2, ↓q_i_min2, ↓q_x20, ↓q_x21, ↓q_x30, ↓q_x31, ↓q_x32, ↓m_box, decide_true, decide_false, tt_and, ff_and, Nat.zero_add, Int.toNat_natCast, cells_agg, cells_bool, cells_int, cells_str, cells_ptr, cells_slice, ↓qend_eq, ↓jump_none, ↓jump_ret, ↓jump_exit, ↓marks_one, cond_true, cond_false, Bool.not_true, Bool.not_false, hve]
  refine ⟨fun hlt => ?_, fun hge => ?_⟩
  · have hlt' : i < f.ev.length := by simpa using hlt
    have hsucc := idx_succ i P
    obtain ⟨b', o, cap', hve', hrow⟩ := F.event hlt'
    rw [hve] at hve'
    injection hve' with q1 q2 q3
    subst q1
    obtain ⟨e, hei⟩ : ∃ e, f.ev[i] = e := ⟨_, rfl⟩
    rw [hei] at hrow
    have hrow3 := (hrow.ext x1).ext x3
    have d5 : cellH h3 b' (o + i * 6 + 5) = some (.int .i64 e.due) := hrow3 5 _ rfl
    have he : evP f (fun e => decide (0 ≤ e.due)) i = (decide (0 ≤ e.due)) := by
      unfold evP
      rw [List.getElem?_eq_getElem hlt', hei]
      rfl
    refine Join1.intro (fun x hh => Ext h1 hh ∧ OwnI hh h1.size x (idx (i + 1) P)) (fun J hJ => ?_) (fun x5 h5 hM => ?_)
    · simp (disch := first | assumption | (with_reducible exact Ext.refl _) | (with_reducible exact Keep.refl _ _) | (with_reducible exact Eq.refl _) | (intro _ he; cases he; assumption) | (intro _ he; with_reducible apply keep_cell' he; assumption; simp; done) | (intro _ he; with_reducible apply ext_cell' he; assumption; done) | (with_reducible first | exact pl_int _ _ | exact pl_byte _ | exact pl_u32 _ | exact pl_bool _ | exact pl_ptr _ | exact pl_slice _ _ _ | exact pl_map _ | exact pl_str _ | exact pl_func _ _ _) | ((rw [okW_setH]; repeat rw [okW_setH]); assumption) | ((with_reducible refine cellH_setH_same ?_ _); (repeat rw [okW_setH]); assumption) | ((rw [cellH_setH_off]; rotate_left; focus decide); (repeat (rw [cellH_setH_off]; rotate_left; focus decide)); first | assumption | ((with_reducible refine cellH_setH_same ?_ _); (repeat rw [okW_setH]); assumption)) | omega) only [↓hpR, ↓nilC_ptr, ↓nilC_func, ↓condP_true, ↓condP_false, ↓condP_bool, ↓guardP_true, ↓guardP_false, ↓guardP_bool_t, ↓guardP_bool_f, ↓skipP_undef, ↓pickP_bool, ↓b_add, ↓b_sub, ↓b_mul, ↓b_quo, ↓b_rem, ↓b_lss, ↓b_leq, ↓b_gtr, ↓b_geq, ↓b_eql, ↓b_neq, ↓u_not, ↓s_add, ↓s_eql, ↓s_neq, ↓i_max2, ↓i_min2, ↓x20, ↓x21, ↓x30, ↓x31, ↓x32, ↓q_b_add, ↓q_b_sub, ↓q_b_mul, ↓q_b_quo, ↓q_b_rem, ↓q_b_lss, ↓q_b_leq, ↓q_b_gtr, ↓q_b_geq, ↓q_b_eql, ↓q_b_neq, ↓q_u_not, ↓q_s_add, ↓q_s_eql, ↓q_s_neq, ↓q_i_max2, ↓q_i_min2, ↓q_x20, ↓q_x21, ↓q_x30, ↓q_x31, ↓q_x32, ↓m_box, decide_true, decide_false, tt_and, ff_and, Nat.zero_add, Int.toNat_natCast, cells_agg, cells_bool, cells_int, cells_str, cells_ptr, cells_slice, ↓qend_eq, ↓jump_none, ↓jump_ret, ↓jump_exit, ↓marks_one, cond_true, cond_false, Bool.not_true, Bool.not_false, hve]
      refine ⟨fun x y hh => ∃ k : Nat, y = .int .i64 (k : Int) ∧ k ≤ f.ev.length ∧ Ext h3 hh ∧ x = .bool ((decide (0 ≤ e.due)) || anyT f 2 k i), fun x y hh => match y with | .int _ i => f.ev.length - i.toNat | _ => 0, ⟨0, rfl, Nat.zero_le _, Ext.refl _, by rw [anyT_zero, Bool.or_false]⟩, ?_⟩
      rintro js2 x y h4 ⟨k, rfl, hk4, x4, rfl⟩
      have p4 := x4.at p3
      have c4 : cellH h4 h.size 0 = some ve := by rw [cellH_of p4]; rfl
      simp (disch := first | assumption | (with_reducible exact Ext.refl _) | (with_reducible exact Keep.refl _ _) | (with_reducible exact Eq.refl _) | (intro _ he; cases he; assumption) | (intro _ he; with_reducible apply keep_cell' he; assumption; simp; done) | (intro _ he; with_reducible apply ext_cell' he; assumption; done) | (with_reducible first | exact pl_int _ _ | exact pl_byte _ | exact pl_u32 _ | exact pl_bool _ | exact pl_ptr _ | exact pl_slice _ _ _ | exact pl_map _ | exact pl_str _ | exact pl_func _ _ _) | ((rw [okW_setH]; repeat rw [okW_setH]); assumption) | ((with_reducible refine cellH_setH_same ?_ _); (repeat rw [okW_setH]); assumption) | ((rw [cellH_setH_off]; rotate_left; focus decide); (repeat (rw [cellH_setH_off]; rotate_left; focus decide)); first | assumption | ((with_reducible refine cellH_setH_same ?_ _); (repeat rw [okW_setH]); assumption)) | omega) only [↓hpR, ↓nilC_ptr, ↓nilC_func, ↓condP_true, ↓condP_false, ↓condP_bool, ↓guardP_true, ↓guardP_false, ↓guardP_bool_t, ↓guardP_bool_f, ↓skipP_undef, ↓pickP_bool, ↓b_add, ↓b_sub, ↓b_mul, ↓b_quo, ↓b_rem, ↓b_lss, ↓b_leq, ↓b_gtr, ↓b_geq, ↓b_eql, ↓b_neq, ↓u_not, ↓s_add, ↓s_eql, ↓s_neq, ↓i_max2, ↓i_min2, ↓x20, ↓x21, ↓x30, ↓x31, ↓x32, ↓q_b_add, ↓q_b_sub, ↓q_b_mul, ↓q_b_quo, ↓q_b_rem, ↓q_b_lss, ↓q_b_leq, ↓q_b_gtr, ↓q_b_geq, ↓q_b_eql, ↓q_b_neq, ↓q_u_not, ↓q_s_add, ↓q_s_eql, ↓q_s_neq, ↓q_i_max2, ↓q_i_min2, ↓q_x20, ↓q_x21, ↓q_x30, ↓q_x31, ↓q_x32, ↓m_box, decide_true, decide_false, tt_and, ff_and, Nat.zero_add, Int.toNat_natCast, cells_agg, cells_bool, cells_int, cells_str, cells_ptr, cells_slice, ↓qend_eq, ↓jump_none, ↓jump_ret, ↓jump_exit, ↓marks_one, cond_true, cond_false, Bool.not_true, Bool.not_false, hve]
      refine ⟨fun hlt2 => ?_, fun hge2 => ?_⟩
      · have hlt2' : k < f.ev.length := by simpa using hlt2
        refine Join1.intro (fun x hh => x = .bool ((decide (0 ≤ e.due)) || anyT f 2 (k + 1) i) ∧ Ext h3 hh) (fun J1 hJ1 => ?_) (fun x5 h5 hM => ?_)
        · refine ⟨fun e1 => ?_, fun e1 => ?_⟩
          · refine hJ1 _ _ ⟨?_, x4⟩
            rw [anyT_succ, ← Bool.or_assoc, e1, Bool.true_or]
          · rw [m_loadAgg Try.underlying30 rfl size30 p4 (by simp)]
            refine tied_spec (F.ext ((x1.trans x3).trans x4)) 2 k i fun h6 x6 => hJ1 _ _ ⟨?_, x4.trans x6⟩
            rw [anyT_succ, ← Bool.or_assoc, e1, Bool.false_or]
        · obtain ⟨rfl, q2⟩ := hM
          exact ⟨⟨k + 1, by simp, by omega, q2, rfl⟩, by omega⟩
      · have hk' : k = f.ev.length := by simp at hge2; omega
        subst hk'
        have hpi : ((decide (0 ≤ e.due)) || anyT f 2 f.ev.length i) = P i := by rw [hP, ← he]
        rw [hpi]
        refine ⟨fun e1 => ?_, fun e1 => ?_⟩
        · exact push1 (own.ext x4) (by omega) (i : Int) (x3.trans x4) fun h6 v6 own6 x6 => hJ _ _ ⟨x6, by rw [hsucc, e1]; exact own6⟩
        · refine hJ _ _ ⟨x3.trans x4, ?_⟩
          rw [hsucc, e1]
          simpa using own.ext x4
    · obtain ⟨q1, q2⟩ := hM
      exact ⟨⟨i + 1, by simp, by omega, q1, q2⟩, by omega⟩
  · have hi' : i = f.ev.length := by simp at hge; omega
    subst hi'
    exact hk _ _ (own.low x1.size) (x1.trans x3)

theorem rexcluded_spec {h : Heap} {ve vt : Value} {f : FlatT} (F : FlatAt h ve vt f) {K : Value → Heap → Prop}
    (hk : ∀ h' v, OwnI h' h.size v (idx f.ev.length fun i : Nat => evP f (fun e => !e.inn) i || anyT f 4 f.ev.length i) → Ext h h' → K v h') : CallF Try.prog 23 #[.agg #[ve, vt]] h K := by
  apply S23
  unfold F23
  have hne := F.ne
  refine box_step fun h1 x1 z1 p1 => ?_
  simp only [cells_agg] at p1
  obtain ⟨A, cap, hve⟩ := F.ev.len
  simp (disch := first | assumption | (with_reducible exact Ext.refl _) | (with_reducible exact Keep.refl _ _) | (with_reducible exact Eq.refl _) | (intro _ he; cases he; assumption) | (intro _ he; with_reducible apply keep_cell' he; assumption; simp; done) | (intro _ he; with_reducible apply ext_cell' he; assumption; done) | (with_reducible first | exact pl_int _ _ | exact pl_byte _ | exact pl_u32 _ | exact pl_bool _ | exact pl_ptr _ | exact pl_slice _ _ _ | exact pl_map _ | exact pl_str _ | exact pl_func _ _ _) | ((rw [okW_setH]; repeat rw [okW_setH]); assumption) | ((with_reducible refine cellH_setH_same ?_ _); (repeat rw [okW_setH]); assumption) | ((rw [cellH_setH_off]; rotate_left; focus decide); (repeat (rw [cellH_setH_off]; rotate_left; focus decide)); first | assumption | ((with_reducible refine cellH_setH_same ?_ _); (repeat rw [okW_setH]); assumption)) | omega) only [↓hpR, ↓nilC_ptr, ↓nilC_func, ↓condP_true, ↓condP_false, ↓condP_bool, ↓guardP_true, ↓guardP_false, ↓guardP_bool_t, ↓guardP_bool_f, ↓skipP_undef, ↓pickP_bool, ↓b_add, ↓b_sub, ↓b_mul, ↓b_quo, ↓b_rem, ↓b_lss, ↓b_leq, ↓b_gtr, ↓b_geq, ↓b_eql, ↓b_neq, ↓u_not, ↓s_add, ↓s_eql, ↓s_neq, ↓i_max2, ↓i_min2, ↓x20, ↓x21, ↓x30, ↓x31, ↓x32, ↓q_b_add, ↓q_b_sub, ↓q_b_mul, ↓q_b_quo, ↓q_b_rem, ↓q_b_lss, ↓q_b_leq, ↓q_b_gtr, ↓q_b_geq, ↓q_b_eql, ↓q_b_neq, ↓q_u_not, ↓q_s_add, ↓q_s_eql, ↓q_s_neq, ↓q_i_max2, ↓q_i_min2, ↓q_x20, ↓q_x21, ↓q_x30, ↓q_x31, ↓q_x32, ↓m_box, decide_true, decide_false, tt_and, ff_and, Nat.zero_add, Int.toNat_natCast, cells_agg, cells_bool, cells_int, cells_str, cells_ptr, cells_slice, ↓qend_eq, ↓jump_none, ↓jump_ret, ↓jump_exit, ↓marks_one, cond_true, cond_false, Bool.not_true, Bool.not_false]
  have x2 := x1.push (.cells #[] 3 (0, 0))
  have p2 := push_old p1 (.cells #[] 3 (0, 0))
  have own2 := own0 (Nat.le_refl h1.size)
  have x12 := (Ext.refl h1).push (.cells #[] 3 (0, 0))
  generalize h1.push (.cells #[] 3 (0, 0)) = h2 at x2 x12 p2 own2 ⊢
  obtain ⟨P, hP⟩ : ∃ P : Nat → Bool, P = fun i : Nat => evP f (fun e => !e.inn) i || anyT f 4 f.ev.length i := ⟨_, rfl⟩
  rw [← hP] at hk
  refine ⟨fun x y hh => ∃ i : Nat, y = .int .i64 (i : Int) ∧ i ≤ f.ev.length ∧ Ext h1 hh ∧ OwnI hh h1.size x (idx i P), fun x y hh => match y with | .int _ i => f.ev.length - i.toNat | _ => 0, ⟨0, rfl, Nat.zero_le _, x12, own2⟩, ?_⟩
  rintro js x y h3 ⟨i, rfl, hi, x3, own⟩
  have p3 := x3.at p1
  have c0 : cellH h3 h.size 0 = some ve := by rw [cellH_of p3]; rfl
  have hil := idx_length i P
  simp (disch := first | assumption | (with_reducible exact Ext.refl _) | (with_reducible exact Keep.refl _ _) | (with_reducible exact Eq.refl _) | (intro _ he; cases he; assumption) | (intro _ he; with_reducible apply keep_cell' he; assumption; simp; done) | (intro _ he; with_reducible apply ext_cell' he; assumption; done) | (with_reducible first | exact pl_int _ _ | exact pl_byte _ | exact pl_u32 _ | exact pl_bool _ | exact pl_ptr _ | exact pl_slice _ _ _ | exact pl_map _ | exact pl_str _ | exact pl_func _ _ _) | ((rw [okW_setH]; repeat rw [okW_setH]); assumption) | ((with_reducible refine cellH_setH_same ?_ _); (repeat rw [okW_setH]); assumption) | ((rw [cellH_setH_off]; rotate_left; focus decide); (repeat (rw [cellH_setH_off]; rotate_left; focus decide)); first | assumption | ((with_reducible refine cellH_setH_same ?_ _); (repeat rw [okW_setH]); assumption)) | omega) only [↓hpR, ↓nilC_ptr, ↓nilC_func, ↓condP_true, ↓condP_false, ↓condP_bool, ↓guardP_true, ↓guardP_false, ↓guardP_bool_t, ↓guardP_bool_f, ↓skipP_undef, ↓pickP_bool, ↓b_add, ↓b_sub, ↓b_mul, ↓b_quo, ↓b_rem, ↓b_lss, ↓b_leq, ↓b_gtr, ↓b_geq, ↓b_eql, ↓b_neq, ↓u_not, ↓s_add, ↓s_eql, ↓s_neq, ↓i_max2, ↓i_min2, ↓x20, ↓x21, ↓x30, ↓x31, ↓x32, ↓q_b_add, ↓q_b_sub, ↓q_b_mul, ↓q_b_quo, ↓q_b_rem, ↓q_b_lss, ↓q_b_leq, ↓q_b_gtr, ↓q_b_geq, ↓q_b_eql, ↓q_b_neq, ↓q_u_not, ↓q_s_add, ↓q_s_eql, ↓q_s_neq, ↓q_i_max2, ↓q_i_min2, ↓q_x20, ↓q_x21, ↓q_x30, ↓q_x31, ↓q_x32, ↓m_box, decide_true, decide_false, tt_and, ff_and, Nat.zero_add, Int.toNat_natCast, cells_agg, cells_bool, cells_int, cells_str, cells_ptr, cells_slice, ↓qend_eq, ↓jump_none, ↓jump_ret, ↓jump_exit, ↓marks_one, cond_true, cond_false, Bool.not_true, Bool.not_false, hve]
  refine ⟨fun hlt => ?_, fun hge => ?_⟩
  · have hlt' : i < f.ev.length := by simpa using hlt
    have hsucc := idx_succ i P
    obtain ⟨b', o, cap', hve', hrow⟩ := F.event hlt'
    rw [hve] at hve'
    injection hve' with q1 q2 q3
    subst q1
    obtain ⟨e, hei⟩ : ∃ e, f.ev[i] = e := ⟨_, rfl⟩
    rw [hei] at hrow
    have hrow3 := (hrow.ext x1).ext x3
    have d5 : cellH h3 b' (o + i * 6 + 3) = some (.bool e.inn) := hrow3 3 _ rfl
    have he : evP f (fun e => !e.inn) i = (!e.inn) := by
      unfold evP
      rw [List.getElem?_eq_getElem hlt', hei]
      rfl
    refine Join1.intro (fun x hh => Ext h1 hh ∧ OwnI hh h1.size x (idx (i + 1) P)) (fun J hJ => ?_) (fun x5 h5 hM => ?_)
    · simp (disch := first | assumption | (with_reducible exact Ext.refl _) | (with_reducible exact Keep.refl _ _) | (with_reducible exact Eq.refl _) | (intro _ he; cases he; assumption) | (intro _ he; with_reducible apply keep_cell' he; assumption; simp; done) | (intro _ he; with_reducible apply ext_cell' he; assumption; done) | (with_reducible first | exact pl_int _ _ | exact pl_byte _ | exact pl_u32 _ | exact pl_bool _ | exact pl_ptr _ | exact pl_slice _ _ _ | exact pl_map _ | exact pl_str _ | exact pl_func _ _ _) | ((rw [okW_setH]; repeat rw [okW_setH]); assumption) | ((with_reducible refine cellH_setH_same ?_ _); (repeat rw [okW_setH]); assumption) | ((rw [cellH_setH_off]; rotate_left; focus decide); (repeat (rw [cellH_setH_off]; rotate_left; focus decide)); first | assumption | ((with_reducible refine cellH_setH_same ?_ _); (repeat rw [okW_setH]); assumption)) | omega) only [↓hpR, ↓nilC_ptr, ↓nilC_func, ↓condP_true, ↓condP_false, ↓condP_bool, ↓guardP_true, ↓guardP_false, ↓guardP_bool_t, ↓guardP_bool_f, ↓skipP_undef, ↓pickP_bool, ↓b_add, ↓b_sub, ↓b_mul, ↓b_quo, ↓b_rem, ↓b_lss, ↓b_leq, ↓b_gtr, ↓b_geq, ↓b_eql, ↓b_neq, ↓u_not, ↓s_add, ↓s_eql, ↓s_neq, ↓i_max2, ↓i_min2, ↓x20, ↓x21, ↓x30, ↓x31, ↓x32, ↓q_b_add, ↓q_b_sub, ↓q_b_mul, ↓q_b_quo, ↓q_b_rem, ↓q_b_lss, ↓q_b_leq, ↓q_b_gtr, ↓q_b_geq, ↓q_b_eql, ↓q_b_neq, ↓q_u_not, ↓q_s_add, ↓q_s_eql, ↓q_s_neq, ↓q_i_max2, ↓q_i_min2, ↓q_x20, ↓q_x21, ↓q_x30, ↓q_x31, ↓q_x32, ↓m_box, decide_true, decide_false, tt_and, ff_and, Nat.zero_add, Int.toNat_natCast, cells_agg, cells_bool, cells_int, cells_str, cells_ptr, cells_slice, ↓qend_eq, ↓jump_none, ↓jump_ret, ↓jump_exit, ↓marks_one, cond_true, cond_false, Bool.not_true, Bool.not_false, hve]
      refine ⟨fun x y hh => ∃ k : Nat, y = .int .i64 (k : Int) ∧ k ≤ f.ev.length ∧ Ext h3 hh ∧ x = .bool ((!e.inn) || anyT f 4 k i), fun x y hh => match y with | .int _ i => f.ev.length - i.toNat | _ => 0, ⟨0, rfl, Nat.zero_le _, Ext.refl _, by rw [anyT_zero, Bool.or_false]⟩, ?_⟩
      rintro js2 x y h4 ⟨k, rfl, hk4, x4, rfl⟩
      have p4 := x4.at p3
      have c4 : cellH h4 h.size 0 = some ve := by rw [cellH_of p4]; rfl
      simp (disch := first | assumption | (with_reducible exact Ext.refl _) | (with_reducible exact Keep.refl _ _) | (with_reducible exact Eq.refl _) | (intro _ he; cases he; assumption) | (intro _ he; with_reducible apply keep_cell' he; assumption; simp; done) | (intro _ he; with_reducible apply ext_cell' he; assumption; done) | (with_reducible first | exact pl_int _ _ | exact pl_byte _ | exact pl_u32 _ | exact pl_bool _ | exact pl_ptr _ | exact pl_slice _ _ _ | exact pl_map _ | exact pl_str _ | exact pl_func _ _ _) | ((rw [okW_setH]; repeat rw [okW_setH]); assumption) | ((with_reducible refine cellH_setH_same ?_ _); (repeat rw [okW_setH]); assumption) | ((rw [cellH_setH_off]; rotate_left; focus decide); (repeat (rw [cellH_setH_off]; rotate_left; focus decide)); first | assumption | ((with_reducible refine cellH_setH_same ?_ _); (repeat rw [okW_setH]); assumption)) | omega) only [↓hpR, ↓nilC_ptr, ↓nilC_func, ↓condP_true, ↓condP_false, ↓condP_bool, ↓guardP_true, ↓guardP_false, ↓guardP_bool_t, ↓guardP_bool_f, ↓skipP_undef, ↓pickP_bool, ↓b_add, ↓b_sub, ↓b_mul, ↓b_quo, ↓b_rem, ↓b_lss, ↓b_leq, ↓b_gtr, ↓b_geq, ↓b_eql, ↓b_neq, ↓u_not, ↓s_add, ↓s_eql, ↓s_neq, ↓i_max2, ↓i_min2, ↓x20, ↓x21, ↓x30, ↓x31, ↓x32, ↓q_b_add, ↓q_b_sub, ↓q_b_mul, ↓q_b_quo, ↓q_b_rem, ↓q_b_lss, ↓q_b_leq, ↓q_b_gtr, ↓q_b_geq, ↓q_b_eql, ↓q_b_neq, ↓q_u_not, ↓q_s_add, ↓q_s_eql, ↓q_s_neq, ↓q_i_max2, ↓q_i_min2, ↓q_x20, ↓q_x21, ↓q_x30, ↓q_x31, ↓q_x32, ↓m_box, decide_true, decide_false, tt_and, ff_and, Nat.zero_add, Int.toNat_natCast, cells_agg, cells_bool, cells_int, cells_str, cells_ptr, cells_slice, ↓qend_eq, ↓jump_none, ↓jump_ret, ↓jump_exit, ↓marks_one, cond_true, cond_false, Bool.not_true, Bool.not_false, hve]
      refine ⟨fun hlt2 => ?_, fun hge2 => ?_⟩
      · have hlt2' : k < f.ev.length := by simpa using hlt2
        refine Join1.intro (fun x hh => x = .bool ((!e.inn) || anyT f 4 (k + 1) i) ∧ Ext h3 hh) (fun J1 hJ1 => ?_) (fun x5 h5 hM => ?_)
        · refine ⟨fun e1 => ?_, fun e1 => ?_⟩
          · refine hJ1 _ _ ⟨?_, x4⟩
            rw [anyT_succ, ← Bool.or_assoc, e1, Bool.true_or]
          · rw [m_loadAgg Try.underlying30 rfl size30 p4 (by simp)]
            refine tied_spec (F.ext ((x1.trans x3).trans x4)) 4 k i fun h6 x6 => hJ1 _ _ ⟨?_, x4.trans x6⟩
            rw [anyT_succ, ← Bool.or_assoc, e1, Bool.false_or]
        · obtain ⟨rfl, q2⟩ := hM
          exact ⟨⟨k + 1, by simp, by omega, q2, rfl⟩, by omega⟩
      · have hk' : k = f.ev.length := by simp at hge2; omega
        subst hk'
        have hpi : ((!e.inn) || anyT f 4 f.ev.length i) = P i := by rw [hP, ← he]
        rw [hpi]
        refine ⟨fun e1 => ?_, fun e1 => ?_⟩
        · exact push1 (own.ext x4) (by omega) (i : Int) (x3.trans x4) fun h6 v6 own6 x6 => hJ _ _ ⟨x6, by rw [hsucc, e1]; exact own6⟩
        · refine hJ _ _ ⟨x3.trans x4, ?_⟩
          rw [hsucc, e1]
          simpa using own.ext x4
    · obtain ⟨q1, q2⟩ := hM
      exact ⟨⟨i + 1, by simp, by omega, q1, q2⟩, by omega⟩
  · have hi' : i = f.ev.length := by simp at hge; omega
    subst hi'
    exact hk _ _ (own.low x1.size) (x1.trans x3)
end Go.Proofs.Ytopflbjjbindkaa
