/- The reference's: ties, what blocks, what is called for, nets, what may not be in, delays. -/
import Derived.Test.YtopflbjjbindkaaN4
set_option linter.unusedVariables false
set_option linter.unusedSimpArgs false
namespace Go.Proofs.Ytopflbjjbindkaa
open Go.Hp Go.RowKit

def isTie (k a b : Int) (t : TieT) : Bool := decide (t.kind = k) && (decide (t.fr = a) && decide (t.to_ = b))
def tiedB (f : FlatT) (k a b : Int) : Bool := f.ties.any (isTie k a b)
theorem tied_spec {h : Heap} {ve vt : Value} {f : FlatT} (F : FlatAt h ve vt f) (k a b : Int) {K : Value → Heap → Prop} (hk : ∀ h', Ext h h' → K (.bool (tiedB f k a b)) h') : CallF Try.prog 42 #[.agg #[ve, vt], .int .i64 k, .int .i64 a, .int .i64 b] h K := by
  apply S42
  unfold F42
  have hnt := F.nt
  refine box_step fun h1 x1 z1 p1 => ?_
  simp only [cells_agg] at p1
  obtain ⟨A, cap, hvt⟩ := F.ties.len
  refine ⟨fun x hh => ∃ i : Nat, x = .int .i64 (i : Int) ∧ i ≤ f.ties.length ∧ Ext h1 hh ∧ (f.ties.take i).any (isTie k a b) = false, fun x hh => match x with | .int _ i => f.ties.length - i.toNat | _ => 0, ⟨0, rfl, Nat.zero_le _, Ext.refl _, rfl⟩, ?_⟩
  rintro js x h3 ⟨i, rfl, hi, x3, hno⟩
  have c1 : cellH h3 h.size 1 = some vt := by rw [cellH_of (x3.at p1)]; rfl
  simp (disch := first | assumption | (with_reducible exact Ext.refl _) | (with_reducible exact Keep.refl _ _) | (with_reducible exact Eq.refl _) | (intro _ he; cases he; assumption) | (intro _ he; with_reducible apply keep_cell' he; assumption; simp; done) | (intro _ he; with_reducible apply ext_cell' he; assumption; done) | (with_reducible first | exact pl_int _ _ | exact pl_byte _ | exact pl_u32 _ | exact pl_bool _ | exact pl_ptr _ | exact pl_slice _ _ _ | exact pl_map _ | exact pl_str _ | exact pl_func _ _ _) | ((rw [okW_setH]; repeat rw [okW_setH]); assumption) | ((with_reducible refine cellH_setH_same ?_ _); (repeat rw [okW_setH]); assumption) | ((rw [cellH_setH_off]; rotate_left; focus decide); (repeat (rw [cellH_setH_off]; rotate_left; focus decide)); first | assumption | ((with_reducible refine cellH_setH_same ?_ _); (repeat rw [okW_setH]); assumption)) | omega) only [↓hpR, ↓nilC_ptr, ↓nilC_func, ↓condP_true, ↓condP_false, ↓condP_bool, ↓guardP_true, ↓guardP_false, ↓guardP_bool_t, ↓guardP_bool_f, ↓skipP_undef, ↓pickP_bool, ↓b_add, ↓b_sub, ↓b_mul, ↓b_quo, ↓b_rem, ↓b_lss, ↓b_leq, ↓b_gtr, ↓b_geq, ↓b_eql, ↓b_neq, ↓u_not, ↓s_add, ↓s_eql, ↓s_neq, ↓i_max2, ↓i_min2, ↓x20, ↓x21, ↓x30, ↓x31, ↓x32, ↓q_b_add, ↓q_b_sub, ↓q_b_mul, ↓q_b_quo, ↓q_b_rem, ↓q_b_lss, ↓q_b_leq, ↓q_b_gtr, ↓q_b_geq, ↓q_b_eql, ↓q_b_neq, ↓q_u_not, ↓q_s_add, ↓q_s_eql, ↓q_s_neq, ↓q_i_max2, ↓q_i_min2, ↓q_x20, ↓q_x21, ↓q_x30, ↓q_x31, ↓q_x32, ↓m_box, decide_true, decide_false, tt_and, ff_and, Nat.zero_add, Int.toNat_natCast, cells_agg, cells_bool, cells_int, cells_str, cells_ptr, cells_slice, ↓qend_eq, ↓jump_none, ↓jump_ret, ↓jump_exit, ↓marks_one, cond_true, cond_false, Bool.not_true, Bool.not_false, hvt]
  refine ⟨fun hlt => ?_, fun hge => ?_⟩
  · have hlt' : i < f.ties.length := by simpa using hlt
    obtain ⟨b', o, cap', hvt', hrow⟩ := F.tie hlt'
    rw [hvt] at hvt'
    injection hvt' with q1 q2 q3
    subst q1
    obtain ⟨t, hti⟩ : ∃ t, f.ties[i] = t := ⟨_, rfl⟩
    rw [hti] at hrow
    have hsucc : (f.ties.take (i + 1)).any (isTie k a b) = isTie k a b t := by
      rw [List.take_add_one, List.getElem?_eq_getElem hlt', hti, List.any_append, hno]
      simp
    simp (disch := first | assumption | (with_reducible exact Ext.refl _) | (with_reducible exact Keep.refl _ _) | (with_reducible exact Eq.refl _) | (intro _ he; cases he; assumption) | (intro _ he; with_reducible apply keep_cell' he; assumption; simp; done) | (intro _ he; with_reducible apply ext_cell' he; assumption; done) | (with_reducible first | exact pl_int _ _ | exact pl_byte _ | exact pl_u32 _ | exact pl_bool _ | exact pl_ptr _ | exact pl_slice _ _ _ | exact pl_map _ | exact pl_str _ | exact pl_func _ _ _) | ((rw [okW_setH]; repeat rw [okW_setH]); assumption) | ((with_reducible refine cellH_setH_same ?_ _); (repeat rw [okW_setH]); assumption) | ((rw [cellH_setH_off]; rotate_left; focus decide); (repeat (rw [cellH_setH_off]; rotate_left; focus decide)); first | assumption | ((with_reducible refine cellH_setH_same ?_ _); (repeat rw [okW_setH]); assumption)) | omega) only [↓hpR, ↓nilC_ptr, ↓nilC_func, ↓condP_true, ↓condP_false, ↓condP_bool, ↓guardP_true, ↓guardP_false, ↓guardP_bool_t, ↓guardP_bool_f, ↓skipP_undef, ↓pickP_bool, ↓b_add, ↓b_sub, ↓b_mul, ↓b_quo, ↓b_rem, ↓b_lss, ↓b_leq, ↓b_gtr, ↓b_geq, ↓b_eql, ↓b_neq, ↓u_not, ↓s_add, ↓s_eql, ↓s_neq, ↓i_max2, ↓i_min2, ↓x20, ↓x21, ↓x30, ↓x31, ↓x32, ↓q_b_add, ↓q_b_sub, ↓q_b_mul, ↓q_b_quo, ↓q_b_rem, ↓q_b_lss, ↓q_b_leq, ↓q_b_gtr, ↓q_b_geq, ↓q_b_eql, ↓q_b_neq, ↓q_u_not, ↓q_s_add, ↓q_s_eql, ↓q_s_neq, ↓q_i_max2, ↓q_i_min2, ↓q_x20, ↓q_x21, ↓q_x30, ↓q_x31, ↓q_x32, ↓m_box, decide_true, decide_false, tt_and, ff_and, Nat.zero_add, Int.toNat_natCast, cells_agg, cells_bool, cells_int, cells_str, cells_ptr, cells_slice, ↓qend_eq, ↓jump_none, ↓jump_ret, ↓jump_exit, ↓marks_one, cond_true, cond_false, Bool.not_true, Bool.not_false, hvt]
    rw [m_loadRow Try.underlying67 rfl size67 (xs := TieT.cs t) rfl ((hrow.ext x1).ext x3)]
    refine agg_store size67 rfl rfl (by simp [TieT.cs, plainV]) fun h5 x5 z5 p5 => ?_
    have d0 : cellH h5 h3.size 0 = some (.int .i64 t.kind) := by rw [cellH_of p5]; rfl
    have d1 : cellH h5 h3.size 1 = some (.int .i64 t.fr) := by rw [cellH_of p5]; rfl
    have d2 : cellH h5 h3.size 2 = some (.int .i64 t.to_) := by rw [cellH_of p5]; rfl
    have x35 := x3.trans x5
    refine Join1.intro (fun x hh => x = .bool (isTie k a b t) ∧ hh = h5) (fun J1 hJ1 => ?_) (fun x h6 hM => ?_)
    · simp (disch := first | assumption | (with_reducible exact Ext.refl _) | (with_reducible exact Keep.refl _ _) | (with_reducible exact Eq.refl _) | (intro _ he; cases he; assumption) | (intro _ he; with_reducible apply keep_cell' he; assumption; simp; done) | (intro _ he; with_reducible apply ext_cell' he; assumption; done) | (with_reducible first | exact pl_int _ _ | exact pl_byte _ | exact pl_u32 _ | exact pl_bool _ | exact pl_ptr _ | exact pl_slice _ _ _ | exact pl_map _ | exact pl_str _ | exact pl_func _ _ _) | ((rw [okW_setH]; repeat rw [okW_setH]); assumption) | ((with_reducible refine cellH_setH_same ?_ _); (repeat rw [okW_setH]); assumption) | ((rw [cellH_setH_off]; rotate_left; focus decide); (repeat (rw [cellH_setH_off]; rotate_left; focus decide)); first | assumption | ((with_reducible refine cellH_setH_same ?_ _); (repeat rw [okW_setH]); assumption)) | omega) only [↓hpR, ↓nilC_ptr, ↓nilC_func, ↓condP_true, ↓condP_false, ↓condP_bool, ↓guardP_true, ↓guardP_false, ↓guardP_bool_t, ↓guardP_bool_f, ↓skipP_undef, ↓pickP_bool, ↓b_add, ↓b_sub, ↓b_mul, ↓b_quo, ↓b_rem, ↓b_lss, ↓b_leq, ↓b_gtr, ↓b_geq, ↓b_eql, ↓b_neq, ↓u_not, ↓s_add, ↓s_eql, ↓s_neq, ↓i_max2, ↓i_min2, ↓x20, ↓x21, ↓x30, ↓x31, ↓x32, ↓q_b_add, ↓q_b_sub, ↓q_b_mul, ↓q_b_quo, ↓q_b_rem, ↓q_b_lss, ↓q_b_leq, ↓q_b_gtr, ↓q_b_geq, ↓q_b_eql, ↓q_b_neq, ↓q_u_not, ↓q_s_add, ↓q_s_eql, ↓q_s_neq, ↓q_i_max2, ↓q_i_min2, ↓q_x20, ↓q_x21, ↓q_x30, ↓q_x31, ↓q_x32, ↓m_box, decide_true, decide_false, tt_and, ff_and, Nat.zero_add, Int.toNat_natCast, cells_agg, cells_bool, cells_int, cells_str, cells_ptr, cells_slice, ↓qend_eq, ↓jump_none, ↓jump_ret, ↓jump_exit, ↓marks_one, cond_true, cond_false, Bool.not_true, Bool.not_false]
      unfold isTie at hJ1
      refine ⟨fun e1 => ⟨fun e2 => ?_, fun e2 => ?_⟩, fun e1 => ?_⟩
      · exact hJ1 _ _ ⟨by rw [e1, e2]; rfl, rfl⟩
      · exact hJ1 _ _ ⟨by rw [e1, e2]; rfl, rfl⟩
      · exact hJ1 _ _ ⟨by rw [e1]; rfl, rfl⟩
    · obtain ⟨rfl, rfl⟩ := hM
      rw [condP_bool]
      refine ⟨fun e => ?_, fun e => ?_⟩
      · have : tiedB f k a b = true := by
          unfold tiedB
          rw [List.any_eq_true]
          exact ⟨t, by rw [← hti]; exact List.getElem_mem hlt', e⟩
        rw [← this]
        exact hk _ (x1.trans x35)
      · exact ⟨⟨i + 1, by simp, by omega, x35, by rw [hsucc, e]⟩, by omega⟩
  · have hi' : i = f.ties.length := by simp at hge; omega
    subst hi'
    rw [List.take_length] at hno
    have : tiedB f k a b = false := hno
    rw [← this]
    exact hk h3 (x1.trans x3)

theorem idx_none {n : Nat} {p : Nat → Bool} (h : ∀ i, i < n → p i = false) : idx n p = [] := by
  rw [idx_congr (q := fun _ => false) h]
  simp [idx]
theorem own0 {h : Heap} {base : Nat} (hb : base ≤ h.size) : OwnI (h.push (.cells #[] 3 (0, 0))) base (.slice (some ⟨h.size, 0, none⟩) 0 0) [] := ⟨rfl, .inr ⟨h.size, 0, _, rfl, hb, push_new _ _, Nat.le_refl _, Nat.zero_le _, rfl, rfl⟩⟩
def inB (n : Nat) (at_ : Int) : Bool := decide (0 ≤ at_) && decide (at_ < (n : Int))
theorem rblocks_spec {h : Heap} {ve vt : Value} {f : FlatT} (F : FlatAt h ve vt f) (at_ : Int) {K : Value → Heap → Prop}
    (hk : ∀ h' v, OwnI h' h.size v (idx f.ev.length fun i : Nat => inB f.ev.length at_ && (tiedB f 1 (i : Int) at_ || tiedB f 5 (i : Int) at_)) → Ext h h' → K v h') : CallF Try.prog 12 #[.agg #[ve, vt], .int .i64 at_] h K := by
  apply S12
  unfold F12
  have hne := F.ne
  refine box_step fun h1 x1 z1 p1 => ?_
  simp only [cells_agg] at p1
  obtain ⟨A, cap, hve⟩ := F.ev.len
  simp (disch := first | assumption | (with_reducible exact Ext.refl _) | (with_reducible exact Keep.refl _ _) | (with_reducible exact Eq.refl _) | (intro _ he; cases he; assumption) | (intro _ he; with_reducible apply keep_cell' he; assumption; simp; done) | (intro _ he; with_reducible apply ext_cell' he; assumption; done) | (with_reducible first | exact pl_int _ _ | exact pl_byte _ | exact pl_u32 _ | exact pl_bool _ | exact pl_ptr _ | exact pl_slice _ _ _ | exact pl_map _ | exact pl_str _ | exact pl_func _ _ _) | ((rw [okW_setH]; repeat rw [okW_setH]); assumption) | ((with_reducible refine cellH_setH_same ?_ _); (repeat rw [okW_setH]); assumption) | ((rw [cellH_setH_off]; rotate_left; focus decide); (repeat (rw [cellH_setH_off]; rotate_left; focus decide)); first | assumption | ((with_reducible refine cellH_setH_same ?_ _); (repeat rw [okW_setH]); assumption)) | omega) only [↓hpR, ↓nilC_ptr, ↓nilC_func, ↓condP_true, ↓condP_false, ↓condP_bool, ↓guardP_true, ↓guardP_false, ↓guardP_bool_t, ↓guardP_bool_f, ↓skipP_undef, ↓pickP_bool, ↓b_add, ↓b_sub, ↓b_mul, ↓b_quo, ↓b_rem, ↓b_lss, ↓b_leq, ↓b_gtr, ↓b_geq, ↓b_eql, ↓b_neq, ↓u_not, ↓s_add, ↓s_eql, ↓s_neq, ↓i_max2, ↓i_min2, ↓x20, ↓x21, ↓x30, ↓x31, ↓x32, ↓q_b_add, ↓q_b_sub, ↓q_b_mul, ↓q_b_quo, ↓q_b_rem, ↓q_b_lss, ↓q_b_leq, ↓q_b_gtr, ↓q_b_geq, ↓q_b_eql, ↓q_b_neq, ↓q_u_not, ↓q_s_add, ↓q_s_eql, ↓q_s_neq, ↓q_i_max2, ↓q_i_min2, ↓q_x20, ↓q_x21, ↓q_x30, ↓q_x31, ↓q_x32, ↓m_box, decide_true, decide_false, tt_and, ff_and, Nat.zero_add, Int.toNat_natCast, cells_agg, cells_bool, cells_int, cells_str, cells_ptr, cells_slice, ↓qend_eq, ↓jump_none, ↓jump_ret, ↓jump_exit, ↓marks_one, cond_true, cond_false, Bool.not_true, Bool.not_false]
  have x2 := x1.push (.cells #[] 3 (0, 0))
  have p2 := push_old p1 (.cells #[] 3 (0, 0))
  have own2 := own0 (Nat.le_refl h1.size)
  have x12 := (Ext.refl h1).push (.cells #[] 3 (0, 0))
  generalize h1.push (.cells #[] 3 (0, 0)) = h2 at x2 x12 p2 own2 ⊢
  obtain ⟨Q, hQ⟩ : ∃ Q : Nat → Bool, Q = fun i : Nat => tiedB f 1 (i : Int) at_ || tiedB f 5 (i : Int) at_ := ⟨_, rfl⟩
  have hQi : ∀ i : Nat, (tiedB f 1 (i : Int) at_ || tiedB f 5 (i : Int) at_) = Q i := fun i => by rw [hQ]
  simp only [hQi] at hk
  obtain ⟨P, hP⟩ : ∃ P : Nat → Bool, P = fun i : Nat => inB f.ev.length at_ && Q i := ⟨_, rfl⟩
  have hPi : ∀ i : Nat, (inB f.ev.length at_ && Q i) = P i := fun i => by rw [hP]
  rw [← hP] at hk
  refine ⟨fun x y hh => ∃ i : Nat, y = .int .i64 (i : Int) ∧ i ≤ f.ev.length ∧ Ext h1 hh ∧ OwnI hh h1.size x (idx i P), fun x y hh => match y with | .int _ i => f.ev.length - i.toNat | _ => 0, ⟨0, rfl, Nat.zero_le _, x12, own2⟩, ?_⟩
  rintro js x y h3 ⟨i, rfl, hi, x3, own⟩
  have p3 := x3.at p1
  have c0 : cellH h3 h.size 0 = some ve := by rw [cellH_of p3]; rfl
  have hil := idx_length i P
  refine Join1.intro (fun x hh => x = .bool (decide (i < f.ev.length) && inB f.ev.length at_) ∧ hh = h3) (fun J hJ => ?_) (fun x4 h4 hM => ?_)
  · simp (disch := first | assumption | (with_reducible exact Ext.refl _) | (with_reducible exact Keep.refl _ _) | (with_reducible exact Eq.refl _) | (intro _ he; cases he; assumption) | (intro _ he; with_reducible apply keep_cell' he; assumption; simp; done) | (intro _ he; with_reducible apply ext_cell' he; assumption; done) | (with_reducible first | exact pl_int _ _ | exact pl_byte _ | exact pl_u32 _ | exact pl_bool _ | exact pl_ptr _ | exact pl_slice _ _ _ | exact pl_map _ | exact pl_str _ | exact pl_func _ _ _) | ((rw [okW_setH]; repeat rw [okW_setH]); assumption) | ((with_reducible refine cellH_setH_same ?_ _); (repeat rw [okW_setH]); assumption) | ((rw [cellH_setH_off]; rotate_left; focus decide); (repeat (rw [cellH_setH_off]; rotate_left; focus decide)); first | assumption | ((with_reducible refine cellH_setH_same ?_ _); (repeat rw [okW_setH]); assumption)) | omega) only [↓hpR, ↓nilC_ptr, ↓nilC_func, ↓condP_true, ↓condP_false, ↓condP_bool, ↓guardP_true, ↓guardP_false, ↓guardP_bool_t, ↓guardP_bool_f, ↓skipP_undef, ↓pickP_bool, ↓b_add, ↓b_sub, ↓b_mul, ↓b_quo, ↓b_rem, ↓b_lss, ↓b_leq, ↓b_gtr, ↓b_geq, ↓b_eql, ↓b_neq, ↓u_not, ↓s_add, ↓s_eql, ↓s_neq, ↓i_max2, ↓i_min2, ↓x20, ↓x21, ↓x30, ↓x31, ↓x32, ↓q_b_add, ↓q_b_sub, ↓q_b_mul, ↓q_b_quo, ↓q_b_rem, ↓q_b_lss, ↓q_b_leq, ↓q_b_gtr, ↓q_b_geq, ↓q_b_eql, ↓q_b_neq, ↓q_u_not, ↓q_s_add, ↓q_s_eql, ↓q_s_neq, ↓q_i_max2, ↓q_i_min2, ↓q_x20, ↓q_x21, ↓q_x30, ↓q_x31, ↓q_x32, ↓m_box, decide_true, decide_false, tt_and, ff_and, Nat.zero_add, Int.toNat_natCast, cells_agg, cells_bool, cells_int, cells_str, cells_ptr, cells_slice, ↓qend_eq, ↓jump_none, ↓jump_ret, ↓jump_exit, ↓marks_one, cond_true, cond_false, Bool.not_true, Bool.not_false, hve]
    unfold inB at hJ
    refine ⟨fun e => ⟨fun e1 => ?_, fun e1 => ?_⟩, fun e => ?_⟩
    · have e' : decide (i < f.ev.length) = true := by simpa using e
      exact hJ _ _ ⟨by rw [e', e1]; rfl, rfl⟩
    · have e' : decide (i < f.ev.length) = true := by simpa using e
      exact hJ _ _ ⟨by rw [e', e1]; rfl, rfl⟩
    · have e' : decide (i < f.ev.length) = false := by simpa using e
      exact hJ _ _ ⟨by rw [e']; rfl, rfl⟩
  · obtain ⟨rfl, rfl⟩ := hM
    rw [condP_bool]
    refine ⟨fun e => ?_, fun e => ?_⟩
    · simp only [Bool.and_eq_true, decide_eq_true_eq] at e
      have hp : P i = Q i := by rw [← hPi, e.2, Bool.true_and]
      have hsucc := idx_succ i P
      rw [hp] at hsucc
      refine Join1.intro (fun x hh => Ext h1 hh ∧ OwnI hh h1.size x (idx (i + 1) P)) (fun J hJ => ?_) (fun x5 h5 hM => ?_)
      · refine Join1.intro (fun x hh => x = .bool (Q i) ∧ Ext h4 hh) (fun J1 hJ1 => ?_) (fun x5 h5 hM => ?_)
        · rw [m_loadAgg Try.underlying30 rfl size30 p3 (by simp)]
          refine tied_spec (F.ext (x1.trans x3)) 1 i at_ fun h6 x6 => ?_
          simp (disch := first | assumption | (with_reducible exact Ext.refl _) | (with_reducible exact Keep.refl _ _) | (with_reducible exact Eq.refl _) | (intro _ he; cases he; assumption) | (intro _ he; with_reducible apply keep_cell' he; assumption; simp; done) | (intro _ he; with_reducible apply ext_cell' he; assumption; done) | (with_reducible first | exact pl_int _ _ | exact pl_byte _ | exact pl_u32 _ | exact pl_bool _ | exact pl_ptr _ | exact pl_slice _ _ _ | exact pl_map _ | exact pl_str _ | exact pl_func _ _ _) | ((rw [okW_setH]; repeat rw [okW_setH]); assumption) | ((with_reducible refine cellH_setH_same ?_ _); (repeat rw [okW_setH]); assumption) | ((rw [cellH_setH_off]; rotate_left; focus decide); (repeat (rw [cellH_setH_off]; rotate_left; focus decide)); first | assumption | ((with_reducible refine cellH_setH_same ?_ _); (repeat rw [okW_setH]); assumption)) | omega) only [↓hpR, ↓nilC_ptr, ↓nilC_func, ↓condP_true, ↓condP_false, ↓condP_bool, ↓guardP_true, ↓guardP_false, ↓guardP_bool_t, ↓guardP_bool_f, ↓skipP_undef, ↓pickP_bool, ↓b_add, ↓b_sub, ↓b_mul, ↓b_quo, ↓b_rem, ↓b_lss, ↓b_leq, ↓b_gtr, ↓b_geq, ↓b_eql, ↓b_neq, ↓u_not, ↓s_add, ↓s_eql, ↓s_neq, ↓i_max2, ↓i_min2, ↓x20, ↓x21, ↓x30, ↓x31, ↓x32, ↓q_b_add, ↓q_b_sub, ↓q_b_mul, ↓q_b_quo, ↓q_b_rem, ↓q_b_lss, ↓q_b_leq, ↓q_b_gtr, ↓q_b_geq, ↓q_b_eql, ↓q_b_neq, ↓q_u_not, ↓q_s_add, ↓q_s_eql, ↓q_s_neq, ↓q_i_max2, ↓q_i_min2, ↓q_x20, ↓q_x21, ↓q_x30, ↓q_x31, ↓q_x32, ↓m_box, decide_true, decide_false, tt_and, ff_and, Nat.zero_add, Int.toNat_natCast, cells_agg, cells_bool, cells_int, cells_str, cells_ptr, cells_slice, ↓qend_eq, ↓jump_none, ↓jump_ret, ↓jump_exit, ↓marks_one, cond_true, cond_false, Bool.not_true, Bool.not_false]
          refine ⟨fun e1 => hJ1 _ _ ⟨by rw [← hQi, e1]; rfl, x6⟩, fun e1 => ?_⟩
          rw [m_loadAgg Try.underlying30 rfl size30 (x6.at p3) (by simp)]
          exact tied_spec (F.ext ((x1.trans x3).trans x6)) 5 i at_ fun h7 x7 => hJ1 _ _ ⟨by rw [← hQi, e1]; rfl, x6.trans x7⟩
        · obtain ⟨rfl, x5⟩ := hM
          rw [condP_bool]
          refine ⟨fun e1 => ?_, fun e1 => ?_⟩
          · simp (disch := first | assumption | (with_reducible exact Ext.refl _) | (with_reducible exact Keep.refl _ _) | (with_reducible exact Eq.refl _) | (intro _ he; cases he; assumption) | (intro _ he; with_reducible apply keep_cell' he; assumption; simp; done) | (intro _ he; with_reducible apply ext_cell' he; assumption; done) | (with_reducible first | exact pl_int _ _ | exact pl_byte _ | exact pl_u32 _ | exact pl_bool _ | exact pl_ptr _ | exact pl_slice _ _ _ | exact pl_map _ | exact pl_str _ | exact pl_func _ _ _) | ((rw [okW_setH]; repeat rw [okW_setH]); assumption) | ((with_reducible refine cellH_setH_same ?_ _); (repeat rw [okW_setH]); assumption) | ((rw [cellH_setH_off]; rotate_left; focus decide); (repeat (rw [cellH_setH_off]; rotate_left; focus decide)); first | assumption | ((with_reducible refine cellH_setH_same ?_ _); (repeat rw [okW_setH]); assumption)) | omega) only [↓hpR, ↓nilC_ptr, ↓nilC_func, ↓condP_true, ↓condP_false, ↓condP_bool, ↓guardP_true, ↓guardP_false, ↓guardP_bool_t, ↓guardP_bool_f, ↓skipP_undef, ↓pickP_bool, ↓b_add, ↓b_sub, ↓b_mul, ↓b_quo, ↓b_rem, ↓b_lss, ↓b_leq, ↓b_gtr, ↓b_geq, ↓b_eql, ↓b_neq, ↓u_not, ↓s_add, ↓s_eql, ↓s_neq, ↓i_max2, ↓i_min2, ↓x20, ↓x21, ↓x30, ↓x31, ↓x32, ↓q_b_add, ↓q_b_sub, ↓q_b_mul, ↓q_b_quo, ↓q_b_rem, ↓q_b_lss, ↓q_b_leq, ↓q_b_gtr, ↓q_b_geq, ↓q_b_eql, ↓q_b_neq, ↓q_u_not, ↓q_s_add, ↓q_s_eql, ↓q_s_neq, ↓q_i_max2, ↓q_i_min2, ↓q_x20, ↓q_x21, ↓q_x30, ↓q_x31, ↓q_x32, ↓m_box, decide_true, decide_false, tt_and, ff_and, Nat.zero_add, Int.toNat_natCast, cells_agg, cells_bool, cells_int, cells_str, cells_ptr, cells_slice, ↓qend_eq, ↓jump_none, ↓jump_ret, ↓jump_exit, ↓marks_one, cond_true, cond_false, Bool.not_true, Bool.not_false]
            exact push1 (own.ext x5) (by omega) (i : Int) (x3.trans x5) fun h6 v6 own6 x6 => hJ _ _ ⟨x6, by rw [hsucc, e1]; exact own6⟩
          · refine hJ _ _ ⟨x3.trans x5, ?_⟩
            rw [hsucc, e1]
            simpa using own.ext x5
      · obtain ⟨q1, q2⟩ := hM
        simp (disch := first | assumption | (with_reducible exact Ext.refl _) | (with_reducible exact Keep.refl _ _) | (with_reducible exact Eq.refl _) | (intro _ he; cases he; assumption) | (intro _ he; with_reducible apply keep_cell' he; assumption; simp; done) | (intro _ he; with_reducible apply ext_cell' he; assumption; done) | (with_reducible first | exact pl_int _ _ | exact pl_byte _ | exact pl_u32 _ | exact pl_bool _ | exact pl_ptr _ | exact pl_slice _ _ _ | exact pl_map _ | exact pl_str _ | exact pl_func _ _ _) | ((rw [okW_setH]; repeat rw [okW_setH]); assumption) | ((with_reducible refine cellH_setH_same ?_ _); (repeat rw [okW_setH]); assumption) | ((rw [cellH_setH_off]; rotate_left; focus decide); (repeat (rw [cellH_setH_off]; rotate_left; focus decide)); first | assumption | ((with_reducible refine cellH_setH_same ?_ _); (repeat rw [okW_setH]); assumption)) | omega) only [↓hpR, ↓nilC_ptr, ↓nilC_func, ↓condP_true, ↓condP_false, ↓condP_bool, ↓guardP_true, ↓guardP_false, ↓guardP_bool_t, ↓guardP_bool_f, ↓skipP_undef, ↓pickP_bool, ↓b_add, ↓b_sub, ↓b_mul, ↓b_quo, ↓b_rem, ↓b_lss, ↓b_leq, ↓b_gtr, ↓b_geq, ↓b_eql, ↓b_neq, ↓u_not, ↓s_add, ↓s_eql, ↓s_neq, ↓i_max2, ↓i_min2, ↓x20, ↓x21, ↓x30, ↓x31, ↓x32, ↓q_b_add, ↓q_b_sub, ↓q_b_mul, ↓q_b_quo, ↓q_b_rem, ↓q_b_lss, ↓q_b_leq, ↓q_b_gtr, ↓q_b_geq, ↓q_b_eql, ↓q_b_neq, ↓q_u_not, ↓q_s_add, ↓q_s_eql, ↓q_s_neq, ↓q_i_max2, ↓q_i_min2, ↓q_x20, ↓q_x21, ↓q_x30, ↓q_x31, ↓q_x32, ↓m_box, decide_true, decide_false, tt_and, ff_and, Nat.zero_add, Int.toNat_natCast, cells_agg, cells_bool, cells_int, cells_str, cells_ptr, cells_slice, ↓qend_eq, ↓jump_none, ↓jump_ret, ↓jump_exit, ↓marks_one, cond_true, cond_false, Bool.not_true, Bool.not_false]
        exact ⟨⟨i + 1, by simp, by omega, q1, q2⟩, by omega⟩
    · have hfin : idx i P = idx f.ev.length P := by
        by_cases h1 : i < f.ev.length
        · have h2 : inB f.ev.length at_ = false := by
            rw [decide_eq_true h1, Bool.true_and] at e
            exact e
          have hno : ∀ j, P j = false := fun j => by rw [← hPi, h2, Bool.false_and]
          rw [idx_none fun j _ => hno j, idx_none fun j _ => hno j]
        · rw [show i = f.ev.length by omega]
      rw [hfin] at own
      exact hk _ _ (own.low x1.size) (x1.trans x3)
end Go.Proofs.Ytopflbjjbindkaa
