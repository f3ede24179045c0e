/- What blocks, what is called for, what may not be in: the program's. -/
import Derived.Test.YtopflbjjbindkaaN3
set_option linter.unusedVariables false
set_option linter.unusedSimpArgs false
namespace Go.Proofs.Ytopflbjjbindkaa
open Go.Hp Go.RowKit

/-- One number more in a row of one's own. -/
theorem push1 {h0 h : Heap} {v : Value} {l : List Int} (own : OwnI h h0.size v l) (hl : l.length ≤ 1000000) (y : Int) (x : Ext h0 h) {K : Value → Heap → Prop} (hk : ∀ h' v', OwnI h' h0.size v' (l ++ [y]) → Ext h0 h' → K v' h') :
    OpN Try.prog (Go.builtin .append #[33, 33] 33 #[false, false] #[v, .slice (some ⟨h.size, 0, none⟩) 1 1]) (h.push (.cells #[.int .i64 y] 3 (0, 0))) K := by
  have x7 := (Ext.refl h).push (.cells #[.int .i64 y] 3 (0, 0))
  have z := x.size
  refine o_append Try.underlying33 (z := .int .i64 0) (size := 1) (bytes := 8) (e := 3) info3 rfl (by omega) _ _ (own.ext x7) (m := 1) (news := [.int .i64 y]) rfl
    (fun i u hi => by rw [Nat.zero_add, cellH_push_new]; simpa using hi) (fun u hu => by simp only [List.mem_singleton] at hu; subst hu; rfl) (by omega) (by omega) (by simp; omega) ?_
  intro v8 h8 own8 o8 _ _
  refine hk h8 v8 ?_ (Only.fresh (x.trans x7) o8 (fun k hk => (own.ge k hk).1))
  show Own h8 h0.size 3 1 v8 _ _
  rw [List.length_append]
  simpa [ints, intV] using own8

def tellB (at_ : Int) (t : TieT) : Int × Bool := (t.fr, decide (t.to_ = at_) && (decide (t.kind = 1) || decide (t.kind = 5)))
def tellC (at_ : Int) (t : TieT) : Int × Bool := (t.to_, decide (t.fr = at_) && decide (t.kind = 2))
def tellK (k : Int) (t : TieT) : Int × Bool := (t.to_, decide (t.kind = k))
theorem tells_B {h : Heap} {c : Nat} {at_ : Int} (hc : cellH h c 0 = some (.int .i64 at_)) : Tells h (.func (.func 41) #[] #[.pointer (some ⟨c, 0, none⟩)]) (tellB at_) := by
  intro t h' K x hk
  refine CallV_func ?_
  show CallF Try.prog 41 #[t.v, .pointer (some ⟨c, 0, none⟩)] h' K
  apply S41
  unfold F41 TieT.v
  refine box_step fun h1 x1 z1 p1 => ?_
  simp only [cells_agg] at p1
  have c1 := cellH_ext (x.trans x1) hc
  have d0 : cellH h1 h'.size 0 = some (.int .i64 t.kind) := by rw [cellH_of p1]; rfl
  have d1 : cellH h1 h'.size 1 = some (.int .i64 t.fr) := by rw [cellH_of p1]; rfl
  have d2 : cellH h1 h'.size 2 = some (.int .i64 t.to_) := by rw [cellH_of p1]; rfl
  refine Quiet_eq ?_
  simp (disch := first | assumption | (with_reducible exact Ext.refl _) | (with_reducible exact Keep.refl _ _) | (with_reducible exact Eq.refl _) | (intro _ he; cases he; assumption) | (intro _ he; with_reducible apply keep_cell' he; assumption; simp; done) | (intro _ he; with_reducible apply ext_cell' he; assumption; done) | (with_reducible first | exact pl_int _ _ | exact pl_byte _ | exact pl_u32 _ | exact pl_bool _ | exact pl_ptr _ | exact pl_slice _ _ _ | exact pl_map _ | exact pl_str _ | exact pl_func _ _ _) | ((rw [okW_setH]; repeat rw [okW_setH]); assumption) | ((with_reducible refine cellH_setH_same ?_ _); (repeat rw [okW_setH]); assumption) | ((rw [cellH_setH_off]; rotate_left; focus decide); (repeat (rw [cellH_setH_off]; rotate_left; focus decide)); first | assumption | ((with_reducible refine cellH_setH_same ?_ _); (repeat rw [okW_setH]); assumption)) | omega) only [↓hpR, ↓nilC_ptr, ↓nilC_func, ↓condP_true, ↓condP_false, ↓condP_bool, ↓guardP_true, ↓guardP_false, ↓guardP_bool_t, ↓guardP_bool_f, ↓skipP_undef, ↓pickP_bool, ↓b_add, ↓b_sub, ↓b_mul, ↓b_quo, ↓b_rem, ↓b_lss, ↓b_leq, ↓b_gtr, ↓b_geq, ↓b_eql, ↓b_neq, ↓u_not, ↓s_add, ↓s_eql, ↓s_neq, ↓i_max2, ↓i_min2, ↓x20, ↓x21, ↓x30, ↓x31, ↓x32, ↓q_b_add, ↓q_b_sub, ↓q_b_mul, ↓q_b_quo, ↓q_b_rem, ↓q_b_lss, ↓q_b_leq, ↓q_b_gtr, ↓q_b_geq, ↓q_b_eql, ↓q_b_neq, ↓q_u_not, ↓q_s_add, ↓q_s_eql, ↓q_s_neq, ↓q_i_max2, ↓q_i_min2, ↓q_x20, ↓q_x21, ↓q_x30, ↓q_x31, ↓q_x32, ↓m_box, decide_true, decide_false, tt_and, ff_and, Nat.zero_add, Int.toNat_natCast, cells_agg, cells_bool, cells_int, cells_str, cells_ptr, cells_slice, ↓qend_eq, ↓jump_none, ↓jump_ret, ↓jump_exit, ↓marks_one, cond_true, cond_false, Bool.not_true, Bool.not_false]
  have hk1 := hk h1 x1
  unfold tellB at hk1
  refine ⟨fun e => ⟨fun e1 => ?_, fun e1 => ?_⟩, fun e => ?_⟩
  · rw [e, e1] at hk1; exact hk1
  · rw [e, e1] at hk1; exact hk1
  · rw [e] at hk1; exact hk1
theorem tells_C {h : Heap} {c : Nat} {at_ : Int} (hc : cellH h c 0 = some (.int .i64 at_)) : Tells h (.func (.func 43) #[] #[.pointer (some ⟨c, 0, none⟩)]) (tellC at_) := by
  intro t h' K x hk
  refine CallV_func ?_
  show CallF Try.prog 43 #[t.v, .pointer (some ⟨c, 0, none⟩)] h' K
  apply S43
  unfold F43 TieT.v
  refine box_step fun h1 x1 z1 p1 => ?_
  simp only [cells_agg] at p1
  have c1 := cellH_ext (x.trans x1) hc
  have d0 : cellH h1 h'.size 0 = some (.int .i64 t.kind) := by rw [cellH_of p1]; rfl
  have d1 : cellH h1 h'.size 1 = some (.int .i64 t.fr) := by rw [cellH_of p1]; rfl
  have d2 : cellH h1 h'.size 2 = some (.int .i64 t.to_) := by rw [cellH_of p1]; rfl
  refine Quiet_eq ?_
  simp (disch := first | assumption | (with_reducible exact Ext.refl _) | (with_reducible exact Keep.refl _ _) | (with_reducible exact Eq.refl _) | (intro _ he; cases he; assumption) | (intro _ he; with_reducible apply keep_cell' he; assumption; simp; done) | (intro _ he; with_reducible apply ext_cell' he; assumption; done) | (with_reducible first | exact pl_int _ _ | exact pl_byte _ | exact pl_u32 _ | exact pl_bool _ | exact pl_ptr _ | exact pl_slice _ _ _ | exact pl_map _ | exact pl_str _ | exact pl_func _ _ _) | ((rw [okW_setH]; repeat rw [okW_setH]); assumption) | ((with_reducible refine cellH_setH_same ?_ _); (repeat rw [okW_setH]); assumption) | ((rw [cellH_setH_off]; rotate_left; focus decide); (repeat (rw [cellH_setH_off]; rotate_left; focus decide)); first | assumption | ((with_reducible refine cellH_setH_same ?_ _); (repeat rw [okW_setH]); assumption)) | omega) only [↓hpR, ↓nilC_ptr, ↓nilC_func, ↓condP_true, ↓condP_false, ↓condP_bool, ↓guardP_true, ↓guardP_false, ↓guardP_bool_t, ↓guardP_bool_f, ↓skipP_undef, ↓pickP_bool, ↓b_add, ↓b_sub, ↓b_mul, ↓b_quo, ↓b_rem, ↓b_lss, ↓b_leq, ↓b_gtr, ↓b_geq, ↓b_eql, ↓b_neq, ↓u_not, ↓s_add, ↓s_eql, ↓s_neq, ↓i_max2, ↓i_min2, ↓x20, ↓x21, ↓x30, ↓x31, ↓x32, ↓q_b_add, ↓q_b_sub, ↓q_b_mul, ↓q_b_quo, ↓q_b_rem, ↓q_b_lss, ↓q_b_leq, ↓q_b_gtr, ↓q_b_geq, ↓q_b_eql, ↓q_b_neq, ↓q_u_not, ↓q_s_add, ↓q_s_eql, ↓q_s_neq, ↓q_i_max2, ↓q_i_min2, ↓q_x20, ↓q_x21, ↓q_x30, ↓q_x31, ↓q_x32, ↓m_box, decide_true, decide_false, tt_and, ff_and, Nat.zero_add, Int.toNat_natCast, cells_agg, cells_bool, cells_int, cells_str, cells_ptr, cells_slice, ↓qend_eq, ↓jump_none, ↓jump_ret, ↓jump_exit, ↓marks_one, cond_true, cond_false, Bool.not_true, Bool.not_false]
  have hk1 := hk h1 x1
  unfold tellC at hk1
  refine ⟨fun e => ?_, fun e => ?_⟩
  · rw [e] at hk1; exact hk1
  · rw [e] at hk1; exact hk1
theorem tells_47 (h : Heap) : Tells h (.func (.func 47) #[] #[]) (tellK 2) := by
  intro t h' K x hk
  refine CallV_func ?_
  show CallF Try.prog 47 #[t.v] h' K
  apply S47
  unfold F47 TieT.v
  refine box_step fun h1 x1 z1 p1 => ?_
  simp only [cells_agg] at p1
  have d0 : cellH h1 h'.size 0 = some (.int .i64 t.kind) := by rw [cellH_of p1]; rfl
  have d2 : cellH h1 h'.size 2 = some (.int .i64 t.to_) := by rw [cellH_of p1]; rfl
  refine Quiet_eq ?_
  simp (disch := first | assumption | (with_reducible exact Ext.refl _) | (with_reducible exact Keep.refl _ _) | (with_reducible exact Eq.refl _) | (intro _ he; cases he; assumption) | (intro _ he; with_reducible apply keep_cell' he; assumption; simp; done) | (intro _ he; with_reducible apply ext_cell' he; assumption; done) | (with_reducible first | exact pl_int _ _ | exact pl_byte _ | exact pl_u32 _ | exact pl_bool _ | exact pl_ptr _ | exact pl_slice _ _ _ | exact pl_map _ | exact pl_str _ | exact pl_func _ _ _) | ((rw [okW_setH]; repeat rw [okW_setH]); assumption) | ((with_reducible refine cellH_setH_same ?_ _); (repeat rw [okW_setH]); assumption) | ((rw [cellH_setH_off]; rotate_left; focus decide); (repeat (rw [cellH_setH_off]; rotate_left; focus decide)); first | assumption | ((with_reducible refine cellH_setH_same ?_ _); (repeat rw [okW_setH]); assumption)) | omega) only [↓hpR, ↓nilC_ptr, ↓nilC_func, ↓condP_true, ↓condP_false, ↓condP_bool, ↓guardP_true, ↓guardP_false, ↓guardP_bool_t, ↓guardP_bool_f, ↓skipP_undef, ↓pickP_bool, ↓b_add, ↓b_sub, ↓b_mul, ↓b_quo, ↓b_rem, ↓b_lss, ↓b_leq, ↓b_gtr, ↓b_geq, ↓b_eql, ↓b_neq, ↓u_not, ↓s_add, ↓s_eql, ↓s_neq, ↓i_max2, ↓i_min2, ↓x20, ↓x21, ↓x30, ↓x31, ↓x32, ↓q_b_add, ↓q_b_sub, ↓q_b_mul, ↓q_b_quo, ↓q_b_rem, ↓q_b_lss, ↓q_b_leq, ↓q_b_gtr, ↓q_b_geq, ↓q_b_eql, ↓q_b_neq, ↓q_u_not, ↓q_s_add, ↓q_s_eql, ↓q_s_neq, ↓q_i_max2, ↓q_i_min2, ↓q_x20, ↓q_x21, ↓q_x30, ↓q_x31, ↓q_x32, ↓m_box, decide_true, decide_false, tt_and, ff_and, Nat.zero_add, Int.toNat_natCast, cells_agg, cells_bool, cells_int, cells_str, cells_ptr, cells_slice, ↓qend_eq, ↓jump_none, ↓jump_ret, ↓jump_exit, ↓marks_one, cond_true, cond_false, Bool.not_true, Bool.not_false]
  exact hk h1 x1
theorem tells_50 (h : Heap) : Tells h (.func (.func 50) #[] #[]) (tellK 4) := by
  intro t h' K x hk
  refine CallV_func ?_
  show CallF Try.prog 50 #[t.v] h' K
  apply S50
  unfold F50 TieT.v
  refine box_step fun h1 x1 z1 p1 => ?_
  simp only [cells_agg] at p1
  have d0 : cellH h1 h'.size 0 = some (.int .i64 t.kind) := by rw [cellH_of p1]; rfl
  have d2 : cellH h1 h'.size 2 = some (.int .i64 t.to_) := by rw [cellH_of p1]; rfl
  refine Quiet_eq ?_
  simp (disch := first | assumption | (with_reducible exact Ext.refl _) | (with_reducible exact Keep.refl _ _) | (with_reducible exact Eq.refl _) | (intro _ he; cases he; assumption) | (intro _ he; with_reducible apply keep_cell' he; assumption; simp; done) | (intro _ he; with_reducible apply ext_cell' he; assumption; done) | (with_reducible first | exact pl_int _ _ | exact pl_byte _ | exact pl_u32 _ | exact pl_bool _ | exact pl_ptr _ | exact pl_slice _ _ _ | exact pl_map _ | exact pl_str _ | exact pl_func _ _ _) | ((rw [okW_setH]; repeat rw [okW_setH]); assumption) | ((with_reducible refine cellH_setH_same ?_ _); (repeat rw [okW_setH]); assumption) | ((rw [cellH_setH_off]; rotate_left; focus decide); (repeat (rw [cellH_setH_off]; rotate_left; focus decide)); first | assumption | ((with_reducible refine cellH_setH_same ?_ _); (repeat rw [okW_setH]); assumption)) | omega) only [↓hpR, ↓nilC_ptr, ↓nilC_func, ↓condP_true, ↓condP_false, ↓condP_bool, ↓guardP_true, ↓guardP_false, ↓guardP_bool_t, ↓guardP_bool_f, ↓skipP_undef, ↓pickP_bool, ↓b_add, ↓b_sub, ↓b_mul, ↓b_quo, ↓b_rem, ↓b_lss, ↓b_leq, ↓b_gtr, ↓b_geq, ↓b_eql, ↓b_neq, ↓u_not, ↓s_add, ↓s_eql, ↓s_neq, ↓i_max2, ↓i_min2, ↓x20, ↓x21, ↓x30, ↓x31, ↓x32, ↓q_b_add, ↓q_b_sub, ↓q_b_mul, ↓q_b_quo, ↓q_b_rem, ↓q_b_lss, ↓q_b_leq, ↓q_b_gtr, ↓q_b_geq, ↓q_b_eql, ↓q_b_neq, ↓q_u_not, ↓q_s_add, ↓q_s_eql, ↓q_s_neq, ↓q_i_max2, ↓q_i_min2, ↓q_x20, ↓q_x21, ↓q_x30, ↓q_x31, ↓q_x32, ↓m_box, decide_true, decide_false, tt_and, ff_and, Nat.zero_add, Int.toNat_natCast, cells_agg, cells_bool, cells_int, cells_str, cells_ptr, cells_slice, ↓qend_eq, ↓jump_none, ↓jump_ret, ↓jump_exit, ↓marks_one, cond_true, cond_false, Bool.not_true, Bool.not_false]
  exact hk h1 x1
theorem iss_46 (h : Heap) : Iss h (.func (.func 46) #[] #[]) (fun e => decide (0 ≤ e.due)) := by
  intro t h' K x hk
  refine CallV_func ?_
  show CallF Try.prog 46 #[t.v] h' K
  apply S46
  unfold F46 EvT.v
  refine box_step fun h1 x1 z1 p1 => ?_
  simp only [cells_agg] at p1
  have d5 : cellH h1 h'.size 5 = some (.int .i64 t.due) := by rw [cellH_of p1]; rfl
  simp (disch := first | assumption | (with_reducible exact Ext.refl _) | (with_reducible exact Keep.refl _ _) | (with_reducible exact Eq.refl _) | (intro _ he; cases he; assumption) | (intro _ he; with_reducible apply keep_cell' he; assumption; simp; done) | (intro _ he; with_reducible apply ext_cell' he; assumption; done) | (with_reducible first | exact pl_int _ _ | exact pl_byte _ | exact pl_u32 _ | exact pl_bool _ | exact pl_ptr _ | exact pl_slice _ _ _ | exact pl_map _ | exact pl_str _ | exact pl_func _ _ _) | ((rw [okW_setH]; repeat rw [okW_setH]); assumption) | ((with_reducible refine cellH_setH_same ?_ _); (repeat rw [okW_setH]); assumption) | ((rw [cellH_setH_off]; rotate_left; focus decide); (repeat (rw [cellH_setH_off]; rotate_left; focus decide)); first | assumption | ((with_reducible refine cellH_setH_same ?_ _); (repeat rw [okW_setH]); assumption)) | omega) only [↓hpR, ↓nilC_ptr, ↓nilC_func, ↓condP_true, ↓condP_false, ↓condP_bool, ↓guardP_true, ↓guardP_false, ↓guardP_bool_t, ↓guardP_bool_f, ↓skipP_undef, ↓pickP_bool, ↓b_add, ↓b_sub, ↓b_mul, ↓b_quo, ↓b_rem, ↓b_lss, ↓b_leq, ↓b_gtr, ↓b_geq, ↓b_eql, ↓b_neq, ↓u_not, ↓s_add, ↓s_eql, ↓s_neq, ↓i_max2, ↓i_min2, ↓x20, ↓x21, ↓x30, ↓x31, ↓x32, ↓q_b_add, ↓q_b_sub, ↓q_b_mul, ↓q_b_quo, ↓q_b_rem, ↓q_b_lss, ↓q_b_leq, ↓q_b_gtr, ↓q_b_geq, ↓q_b_eql, ↓q_b_neq, ↓q_u_not, ↓q_s_add, ↓q_s_eql, ↓q_s_neq, ↓q_i_max2, ↓q_i_min2, ↓q_x20, ↓q_x21, ↓q_x30, ↓q_x31, ↓q_x32, ↓m_box, decide_true, decide_false, tt_and, ff_and, Nat.zero_add, Int.toNat_natCast, cells_agg, cells_bool, cells_int, cells_str, cells_ptr, cells_slice, ↓qend_eq, ↓jump_none, ↓jump_ret, ↓jump_exit, ↓marks_one, cond_true, cond_false, Bool.not_true, Bool.not_false]
  exact hk h1 x1
theorem iss_49 (h : Heap) : Iss h (.func (.func 49) #[] #[]) (fun e => !e.inn) := by
  intro t h' K x hk
  refine CallV_func ?_
  show CallF Try.prog 49 #[t.v] h' K
  apply S49
  unfold F49 EvT.v
  refine box_step fun h1 x1 z1 p1 => ?_
  simp only [cells_agg] at p1
  have d3 : cellH h1 h'.size 3 = some (.bool t.inn) := by rw [cellH_of p1]; rfl
  simp (disch := first | assumption | (with_reducible exact Ext.refl _) | (with_reducible exact Keep.refl _ _) | (with_reducible exact Eq.refl _) | (intro _ he; cases he; assumption) | (intro _ he; with_reducible apply keep_cell' he; assumption; simp; done) | (intro _ he; with_reducible apply ext_cell' he; assumption; done) | (with_reducible first | exact pl_int _ _ | exact pl_byte _ | exact pl_u32 _ | exact pl_bool _ | exact pl_ptr _ | exact pl_slice _ _ _ | exact pl_map _ | exact pl_str _ | exact pl_func _ _ _) | ((rw [okW_setH]; repeat rw [okW_setH]); assumption) | ((with_reducible refine cellH_setH_same ?_ _); (repeat rw [okW_setH]); assumption) | ((rw [cellH_setH_off]; rotate_left; focus decide); (repeat (rw [cellH_setH_off]; rotate_left; focus decide)); first | assumption | ((with_reducible refine cellH_setH_same ?_ _); (repeat rw [okW_setH]); assumption)) | omega) only [↓hpR, ↓nilC_ptr, ↓nilC_func, ↓condP_true, ↓condP_false, ↓condP_bool, ↓guardP_true, ↓guardP_false, ↓guardP_bool_t, ↓guardP_bool_f, ↓skipP_undef, ↓pickP_bool, ↓b_add, ↓b_sub, ↓b_mul, ↓b_quo, ↓b_rem, ↓b_lss, ↓b_leq, ↓b_gtr, ↓b_geq, ↓b_eql, ↓b_neq, ↓u_not, ↓s_add, ↓s_eql, ↓s_neq, ↓i_max2, ↓i_min2, ↓x20, ↓x21, ↓x30, ↓x31, ↓x32, ↓q_b_add, ↓q_b_sub, ↓q_b_mul, ↓q_b_quo, ↓q_b_rem, ↓q_b_lss, ↓q_b_leq, ↓q_b_gtr, ↓q_b_geq, ↓q_b_eql, ↓q_b_neq, ↓q_u_not, ↓q_s_add, ↓q_s_eql, ↓q_s_neq, ↓q_i_max2, ↓q_i_min2, ↓q_x20, ↓q_x21, ↓q_x30, ↓q_x31, ↓q_x32, ↓m_box, decide_true, decide_false, tt_and, ff_and, Nat.zero_add, Int.toNat_natCast, cells_agg, cells_bool, cells_int, cells_str, cells_ptr, cells_slice, ↓qend_eq, ↓jump_none, ↓jump_ret, ↓jump_exit, ↓marks_one, cond_true, cond_false, Bool.not_true, Bool.not_false]
  exact hk h1 x1

def blocksL (f : FlatT) (at_ : Int) : List Int := placesL f (tellB at_)
def callsL (f : FlatT) (at_ : Int) : List Int := placesL f (tellC at_)
theorem placesL_length (f : FlatT) (tell : TieT → Int × Bool) : (placesL f tell).length ≤ f.ev.length := idx_length _ _
theorem blocks_spec {h : Heap} {ve vt : Value} {f : FlatT} (F : FlatAt h ve vt f) (at_ : Int) {K : Value → Heap → Prop} (hk : ∀ h' v, OwnI h' h.size v (blocksL f at_) → Ext h h' → K v h') : CallF Try.prog 11 #[.agg #[ve, vt], .int .i64 at_] h K := by
  apply S11
  unfold F11
  refine box_step fun h1 x1 z1 p1 => ?_
  refine box_step fun h2 x2 z2 p2 => ?_
  simp only [cells_agg] at p1
  rw [m_loadAgg Try.underlying25 rfl size25 (x2.at p1) (by simp)]
  have c2 : cellH h2 h1.size 0 = some (.int .i64 at_) := by rw [cellH_of p2]; rfl
  have x := x1.trans x2
  refine places_spec (F.ext x) (tells_B c2) (fun t => .inl rfl) fun h3 v own x3 => ?_
  exact hk h3 v (own.low x.size) (x.trans x3)
theorem calls_spec {h : Heap} {ve vt : Value} {f : FlatT} (F : FlatAt h ve vt f) (at_ : Int) {K : Value → Heap → Prop} (hk : ∀ h' v, OwnI h' h.size v (callsL f at_) → Ext h h' → K v h') : CallF Try.prog 13 #[.agg #[ve, vt], .int .i64 at_] h K := by
  apply S13
  unfold F13
  refine box_step fun h1 x1 z1 p1 => ?_
  refine box_step fun h2 x2 z2 p2 => ?_
  simp only [cells_agg] at p1
  rw [m_loadAgg Try.underlying25 rfl size25 (x2.at p1) (by simp)]
  have c2 : cellH h2 h1.size 0 = some (.int .i64 at_) := by rw [cellH_of p2]; rfl
  have x := x1.trans x2
  refine places_spec (F.ext x) (tells_C c2) (fun t => .inr rfl) fun h3 v own x3 => ?_
  exact hk h3 v (own.low x.size) (x.trans x3)
/-- Events of which something is so, and those told by ties. -/
theorem both_spec {h : Heap} {ve vt fe ft : Value} {f : FlatT} {k : FuncId} (F : FlatAt h ve vt f) {p : EvT → Bool} {tell : TieT → Int × Bool} (hp : ∀ h, Iss h fe p) (ht : ∀ h, Tells h ft tell) (hin : ∀ t, (tell t).1 = t.fr ∨ (tell t).1 = t.to_) {N : Value → Heap → Prop}
    (hk : ∀ h' v, OwnI h' h.size v (joinL (idx f.ev.length (evP f p)) (placesL f tell)) → Ext h h' → N v h') :
    RunV Try.prog (Instr.box 25 (.agg #[ve, vt])) h fun t1 h_1 => RunV Try.prog (Instr.loadAt 25 t1) h_1 fun t4 h_2 => CallF Try.prog 45 #[t4, fe] h_2 fun t5 h_3 => RunV Try.prog (Instr.loadAt 25 t1) h_3 fun t7 h_4 =>
      CallF Try.prog 40 #[t7, ft] h_4 fun t8 h_5 => CallF Try.prog 44 #[t5, t8] h_5 N := by
  refine box_step fun h1 x1 z1 p1 => ?_
  simp only [cells_agg] at p1
  rw [m_loadAgg Try.underlying25 rfl size25 p1 (by simp)]
  refine at_spec (F.ext x1) (hp h1) fun h2 v own x2 => ?_
  rw [m_loadAgg Try.underlying25 rfl size25 (x2.at p1) (by simp)]
  have x12 := x1.trans x2
  refine places_spec (F.ext x12) (ht h2) hin fun h3 w own3 x3 => ?_
  have h1l := idx_length f.ev.length (evP f p)
  have h2l := placesL_length f tell
  have hne := F.ne
  refine joined_spec (OwnI.sl (own.ext x3)) (OwnI.sl own3) (by omega) fun h4 v4 own4 x4 => ?_
  have x := (x12.trans x3)
  exact hk h4 v4 (own4.low x.size) (x.trans x4)
def calledL (f : FlatT) : List Int := joinL (idx f.ev.length (evP f fun e => decide (0 ≤ e.due))) (placesL f (tellK 2))
def excludedL (f : FlatT) : List Int := joinL (idx f.ev.length (evP f fun e => !e.inn)) (placesL f (tellK 4))
theorem called_spec {h : Heap} {ve vt : Value} {f : FlatT} (F : FlatAt h ve vt f) {K : Value → Heap → Prop} (hk : ∀ h' v, OwnI h' h.size v (calledL f) → Ext h h' → K v h') : CallF Try.prog 18 #[.agg #[ve, vt]] h K := by
  apply S18
  unfold F18
  exact both_spec (k := 0) F iss_46 tells_47 (fun t => .inr rfl) hk
theorem excluded_spec {h : Heap} {ve vt : Value} {f : FlatT} (F : FlatAt h ve vt f) {K : Value → Heap → Prop} (hk : ∀ h' v, OwnI h' h.size v (excludedL f) → Ext h h' → K v h') : CallF Try.prog 22 #[.agg #[ve, vt]] h K := by
  apply S22
  unfold F22
  exact both_spec (k := 0) F iss_49 tells_50 (fun t => .inr rfl) hk

/-- The greatest delay. -/
def delayL (f : FlatT) (at_ : Int) (n : Nat) : Int := (f.ties.take n).foldl (fun m t => if decide (t.kind = 1) && decide (t.to_ = at_) && twoB f.ev.length t then max m t.time else m) 0
theorem delay_spec {h : Heap} {ve vt : Value} {f : FlatT} (F : FlatAt h ve vt f) (at_ : Int) {K : Value → Heap → Prop} (hk : ∀ h', Ext h h' → K (.int .i64 (delayL f at_ f.ties.length)) h') : CallF Try.prog 24 #[.agg #[ve, vt], .int .i64 at_] h K := by
  apply S24
  unfold F24
  have hnt := F.nt
  refine box_step fun h1 x1 z1 p1 => ?_
  simp only [cells_agg] at p1
  obtain ⟨A, cap, hvt⟩ := F.ties.len
  have c1 : cellH h1 h.size 1 = some vt := by rw [cellH_of p1]; rfl
  simp (disch := first | assumption | (with_reducible exact Ext.refl _) | (with_reducible exact Keep.refl _ _) | (with_reducible exact Eq.refl _) | (intro _ he; cases he; assumption) | (intro _ he; with_reducible apply keep_cell' he; assumption; simp; done) | (intro _ he; with_reducible apply ext_cell' he; assumption; done) | (with_reducible first | exact pl_int _ _ | exact pl_byte _ | exact pl_u32 _ | exact pl_bool _ | exact pl_ptr _ | exact pl_slice _ _ _ | exact pl_map _ | exact pl_str _ | exact pl_func _ _ _) | ((rw [okW_setH]; repeat rw [okW_setH]); assumption) | ((with_reducible refine cellH_setH_same ?_ _); (repeat rw [okW_setH]); assumption) | ((rw [cellH_setH_off]; rotate_left; focus decide); (repeat (rw [cellH_setH_off]; rotate_left; focus decide)); first | assumption | ((with_reducible refine cellH_setH_same ?_ _); (repeat rw [okW_setH]); assumption)) | omega) only [↓hpR, ↓nilC_ptr, ↓nilC_func, ↓condP_true, ↓condP_false, ↓condP_bool, ↓guardP_true, ↓guardP_false, ↓guardP_bool_t, ↓guardP_bool_f, ↓skipP_undef, ↓pickP_bool, ↓b_add, ↓b_sub, ↓b_mul, ↓b_quo, ↓b_rem, ↓b_lss, ↓b_leq, ↓b_gtr, ↓b_geq, ↓b_eql, ↓b_neq, ↓u_not, ↓s_add, ↓s_eql, ↓s_neq, ↓i_max2, ↓i_min2, ↓x20, ↓x21, ↓x30, ↓x31, ↓x32, ↓q_b_add, ↓q_b_sub, ↓q_b_mul, ↓q_b_quo, ↓q_b_rem, ↓q_b_lss, ↓q_b_leq, ↓q_b_gtr, ↓q_b_geq, ↓q_b_eql, ↓q_b_neq, ↓q_u_not, ↓q_s_add, ↓q_s_eql, ↓q_s_neq, ↓q_i_max2, ↓q_i_min2, ↓q_x20, ↓q_x21, ↓q_x30, ↓q_x31, ↓q_x32, ↓m_box, decide_true, decide_false, tt_and, ff_and, Nat.zero_add, Int.toNat_natCast, cells_agg, cells_bool, cells_int, cells_str, cells_ptr, cells_slice, ↓qend_eq, ↓jump_none, ↓jump_ret, ↓jump_exit, ↓marks_one, cond_true, cond_false, Bool.not_true, Bool.not_false, hvt]
  refine ⟨fun x y hh => ∃ i : Nat, y = .int .i64 (i : Int) ∧ i ≤ f.ties.length ∧ Ext h1 hh ∧ x = .int .i64 (delayL f at_ i), fun x y hh => match y with | .int _ i => f.ties.length - i.toNat | _ => 0, ⟨0, rfl, Nat.zero_le _, Ext.refl _, rfl⟩, ?_⟩
  rintro js x y h3 ⟨i, rfl, hi, x3, rfl⟩
  simp (disch := first | assumption | (with_reducible exact Ext.refl _) | (with_reducible exact Keep.refl _ _) | (with_reducible exact Eq.refl _) | (intro _ he; cases he; assumption) | (intro _ he; with_reducible apply keep_cell' he; assumption; simp; done) | (intro _ he; with_reducible apply ext_cell' he; assumption; done) | (with_reducible first | exact pl_int _ _ | exact pl_byte _ | exact pl_u32 _ | exact pl_bool _ | exact pl_ptr _ | exact pl_slice _ _ _ | exact pl_map _ | exact pl_str _ | exact pl_func _ _ _) | ((rw [okW_setH]; repeat rw [okW_setH]); assumption) | ((with_reducible refine cellH_setH_same ?_ _); (repeat rw [okW_setH]); assumption) | ((rw [cellH_setH_off]; rotate_left; focus decide); (repeat (rw [cellH_setH_off]; rotate_left; focus decide)); first | assumption | ((with_reducible refine cellH_setH_same ?_ _); (repeat rw [okW_setH]); assumption)) | omega) only [↓hpR, ↓nilC_ptr, ↓nilC_func, ↓condP_true, ↓condP_false, ↓condP_bool, ↓guardP_true, ↓guardP_false, ↓guardP_bool_t, ↓guardP_bool_f, ↓skipP_undef, ↓pickP_bool, ↓b_add, ↓b_sub, ↓b_mul, ↓b_quo, ↓b_rem, ↓b_lss, ↓b_leq, ↓b_gtr, ↓b_geq, ↓b_eql, ↓b_neq, ↓u_not, ↓s_add, ↓s_eql, ↓s_neq, ↓i_max2, ↓i_min2, ↓x20, ↓x21, ↓x30, ↓x31, ↓x32, ↓q_b_add, ↓q_b_sub, ↓q_b_mul, ↓q_b_quo, ↓q_b_rem, ↓q_b_lss, ↓q_b_leq, ↓q_b_gtr, ↓q_b_geq, ↓q_b_eql, ↓q_b_neq, ↓q_u_not, ↓q_s_add, ↓q_s_eql, ↓q_s_neq, ↓q_i_max2, ↓q_i_min2, ↓q_x20, ↓q_x21, ↓q_x30, ↓q_x31, ↓q_x32, ↓m_box, decide_true, decide_false, tt_and, ff_and, Nat.zero_add, Int.toNat_natCast, cells_agg, cells_bool, cells_int, cells_str, cells_ptr, cells_slice, ↓qend_eq, ↓jump_none, ↓jump_ret, ↓jump_exit, ↓marks_one, cond_true, cond_false, Bool.not_true, Bool.not_false]
  refine ⟨fun hlt => ?_, fun hge => ?_⟩
  · have hlt' : i < f.ties.length := by simpa using hlt
    obtain ⟨b, o, cap', hvt', hrow⟩ := F.tie hlt'
    rw [hvt] at hvt'
    injection hvt' with q1 q2 q3
    subst q1
    obtain ⟨t, hti⟩ : ∃ t, f.ties[i] = t := ⟨_, rfl⟩
    rw [hti] at hrow
    have hsucc : delayL f at_ (i + 1) = if decide (t.kind = 1) && decide (t.to_ = at_) && twoB f.ev.length t then max (delayL f at_ i) t.time else delayL f at_ i := by
      unfold delayL
      rw [List.take_add_one, List.getElem?_eq_getElem hlt', hti, List.foldl_append]
      rfl
    refine Join1.intro (fun x hh => Ext h1 hh ∧ x = .int .i64 (delayL f at_ (i + 1))) (fun J hJ => ?_) (fun x h4 hM => ?_)
    · simp (disch := first | assumption | (with_reducible exact Ext.refl _) | (with_reducible exact Keep.refl _ _) | (with_reducible exact Eq.refl _) | (intro _ he; cases he; assumption) | (intro _ he; with_reducible apply keep_cell' he; assumption; simp; done) | (intro _ he; with_reducible apply ext_cell' he; assumption; done) | (with_reducible first | exact pl_int _ _ | exact pl_byte _ | exact pl_u32 _ | exact pl_bool _ | exact pl_ptr _ | exact pl_slice _ _ _ | exact pl_map _ | exact pl_str _ | exact pl_func _ _ _) | ((rw [okW_setH]; repeat rw [okW_setH]); assumption) | ((with_reducible refine cellH_setH_same ?_ _); (repeat rw [okW_setH]); assumption) | ((rw [cellH_setH_off]; rotate_left; focus decide); (repeat (rw [cellH_setH_off]; rotate_left; focus decide)); first | assumption | ((with_reducible refine cellH_setH_same ?_ _); (repeat rw [okW_setH]); assumption)) | omega) only [↓hpR, ↓nilC_ptr, ↓nilC_func, ↓condP_true, ↓condP_false, ↓condP_bool, ↓guardP_true, ↓guardP_false, ↓guardP_bool_t, ↓guardP_bool_f, ↓skipP_undef, ↓pickP_bool, ↓b_add, ↓b_sub, ↓b_mul, ↓b_quo, ↓b_rem, ↓b_lss, ↓b_leq, ↓b_gtr, ↓b_geq, ↓b_eql, ↓b_neq, ↓u_not, ↓s_add, ↓s_eql, ↓s_neq, ↓i_max2, ↓i_min2, ↓x20, ↓x21, ↓x30, ↓x31, ↓x32, ↓q_b_add, ↓q_b_sub, ↓q_b_mul, ↓q_b_quo, ↓q_b_rem, ↓q_b_lss, ↓q_b_leq, ↓q_b_gtr, ↓q_b_geq, ↓q_b_eql, ↓q_b_neq, ↓q_u_not, ↓q_s_add, ↓q_s_eql, ↓q_s_neq, ↓q_i_max2, ↓q_i_min2, ↓q_x20, ↓q_x21, ↓q_x30, ↓q_x31, ↓q_x32, ↓m_box, decide_true, decide_false, tt_and, ff_and, Nat.zero_add, Int.toNat_natCast, cells_agg, cells_bool, cells_int, cells_str, cells_ptr, cells_slice, ↓qend_eq, ↓jump_none, ↓jump_ret, ↓jump_exit, ↓marks_one, cond_true, cond_false, Bool.not_true, Bool.not_false]
      rw [m_loadRow Try.underlying48 rfl size48 (xs := TieT.cs t) rfl ((hrow.ext x1).ext x3)]
      refine agg_store size48 rfl rfl (by simp [TieT.cs, plainV]) fun h5 x5 z5 p5 => ?_
      have d0 : cellH h5 h3.size 0 = some (.int .i64 t.kind) := by rw [cellH_of p5]; rfl
      have d2 : cellH h5 h3.size 2 = some (.int .i64 t.to_) := by rw [cellH_of p5]; rfl
      have x35 := x3.trans x5
      refine Join1.intro (fun x hh => x = .bool (decide (t.kind = 1) && decide (t.to_ = at_) && twoB f.ev.length t) ∧ Ext h5 hh) (fun J1 hJ1 => ?_) (fun x h6 hM => ?_)
      · simp (disch := first | assumption | (with_reducible exact Ext.refl _) | (with_reducible exact Keep.refl _ _) | (with_reducible exact Eq.refl _) | (intro _ he; cases he; assumption) | (intro _ he; with_reducible apply keep_cell' he; assumption; simp; done) | (intro _ he; with_reducible apply ext_cell' he; assumption; done) | (with_reducible first | exact pl_int _ _ | exact pl_byte _ | exact pl_u32 _ | exact pl_bool _ | exact pl_ptr _ | exact pl_slice _ _ _ | exact pl_map _ | exact pl_str _ | exact pl_func _ _ _) | ((rw [okW_setH]; repeat rw [okW_setH]); assumption) | ((with_reducible refine cellH_setH_same ?_ _); (repeat rw [okW_setH]); assumption) | ((rw [cellH_setH_off]; rotate_left; focus decide); (repeat (rw [cellH_setH_off]; rotate_left; focus decide)); first | assumption | ((with_reducible refine cellH_setH_same ?_ _); (repeat rw [okW_setH]); assumption)) | omega) only [↓hpR, ↓nilC_ptr, ↓nilC_func, ↓condP_true, ↓condP_false, ↓condP_bool, ↓guardP_true, ↓guardP_false, ↓guardP_bool_t, ↓guardP_bool_f, ↓skipP_undef, ↓pickP_bool, ↓b_add, ↓b_sub, ↓b_mul, ↓b_quo, ↓b_rem, ↓b_lss, ↓b_leq, ↓b_gtr, ↓b_geq, ↓b_eql, ↓b_neq, ↓u_not, ↓s_add, ↓s_eql, ↓s_neq, ↓i_max2, ↓i_min2, ↓x20, ↓x21, ↓x30, ↓x31, ↓x32, ↓q_b_add, ↓q_b_sub, ↓q_b_mul, ↓q_b_quo, ↓q_b_rem, ↓q_b_lss, ↓q_b_leq, ↓q_b_gtr, ↓q_b_geq, ↓q_b_eql, ↓q_b_neq, ↓q_u_not, ↓q_s_add, ↓q_s_eql, ↓q_s_neq, ↓q_i_max2, ↓q_i_min2, ↓q_x20, ↓q_x21, ↓q_x30, ↓q_x31, ↓q_x32, ↓m_box, decide_true, decide_false, tt_and, ff_and, Nat.zero_add, Int.toNat_natCast, cells_agg, cells_bool, cells_int, cells_str, cells_ptr, cells_slice, ↓qend_eq, ↓jump_none, ↓jump_ret, ↓jump_exit, ↓marks_one, cond_true, cond_false, Bool.not_true, Bool.not_false]
        refine ⟨fun e1 => ⟨fun e2 => ?_, fun e2 => ?_⟩, fun e1 => ?_⟩
        · rw [m_loadAgg Try.underlying25 rfl size25 (x35.at p1) (by simp)]
          rw [m_loadAgg Try.underlying48 rfl size48 p5 (by simp [TieT.cs])]
          have hv : Value.agg ((TieT.cs t).toArray.extract 0 (0 + 4)) = t.v := rfl
          rw [hv]
          refine two_spec (F.ext (x1.trans x35)) t fun h7 x7 => hJ1 _ _ ⟨by rw [e1, e2]; rfl, x7⟩
        · exact hJ1 _ _ ⟨by rw [e1, e2]; rfl, Ext.refl _⟩
        · exact hJ1 _ _ ⟨by rw [e1]; rfl, Ext.refl _⟩
      · obtain ⟨rfl, x6⟩ := hM
        have d3 : cellH h6 h3.size 3 = some (.int .i64 t.time) := by rw [cellH_of (x6.at p5)]; rfl
        rw [condP_bool]
        refine ⟨fun e => ?_, fun e => ?_⟩
        · simp (disch := first | assumption | (with_reducible exact Ext.refl _) | (with_reducible exact Keep.refl _ _) | (with_reducible exact Eq.refl _) | (intro _ he; cases he; assumption) | (intro _ he; with_reducible apply keep_cell' he; assumption; simp; done) | (intro _ he; with_reducible apply ext_cell' he; assumption; done) | (with_reducible first | exact pl_int _ _ | exact pl_byte _ | exact pl_u32 _ | exact pl_bool _ | exact pl_ptr _ | exact pl_slice _ _ _ | exact pl_map _ | exact pl_str _ | exact pl_func _ _ _) | ((rw [okW_setH]; repeat rw [okW_setH]); assumption) | ((with_reducible refine cellH_setH_same ?_ _); (repeat rw [okW_setH]); assumption) | ((rw [cellH_setH_off]; rotate_left; focus decide); (repeat (rw [cellH_setH_off]; rotate_left; focus decide)); first | assumption | ((with_reducible refine cellH_setH_same ?_ _); (repeat rw [okW_setH]); assumption)) | omega) only [↓hpR, ↓nilC_ptr, ↓nilC_func, ↓condP_true, ↓condP_false, ↓condP_bool, ↓guardP_true, ↓guardP_false, ↓guardP_bool_t, ↓guardP_bool_f, ↓skipP_undef, ↓pickP_bool, ↓b_add, ↓b_sub, ↓b_mul, ↓b_quo, ↓b_rem, ↓b_lss, ↓b_leq, ↓b_gtr, ↓b_geq, ↓b_eql, ↓b_neq, ↓u_not, ↓s_add, ↓s_eql, ↓s_neq, ↓i_max2, ↓i_min2, ↓x20, ↓x21, ↓x30, ↓x31, ↓x32, ↓q_b_add, ↓q_b_sub, ↓q_b_mul, ↓q_b_quo, ↓q_b_rem, ↓q_b_lss, ↓q_b_leq, ↓q_b_gtr, ↓q_b_geq, ↓q_b_eql, ↓q_b_neq, ↓q_u_not, ↓q_s_add, ↓q_s_eql, ↓q_s_neq, ↓q_i_max2, ↓q_i_min2, ↓q_x20, ↓q_x21, ↓q_x30, ↓q_x31, ↓q_x32, ↓m_box, decide_true, decide_false, tt_and, ff_and, Nat.zero_add, Int.toNat_natCast, cells_agg, cells_bool, cells_int, cells_str, cells_ptr, cells_slice, ↓qend_eq, ↓jump_none, ↓jump_ret, ↓jump_exit, ↓marks_one, cond_true, cond_false, Bool.not_true, Bool.not_false]
          exact hJ _ _ ⟨x35.trans x6, by rw [hsucc, e]; rfl⟩
        · exact hJ _ _ ⟨x35.trans x6, by rw [hsucc, e]; rfl⟩
    · obtain ⟨q1, rfl⟩ := hM
      exact ⟨⟨i + 1, by simp, by omega, q1, rfl⟩, by omega⟩
  · have hi' : i = f.ties.length := by simp at hge; omega
    subst hi'
    exact hk h3 (x1.trans x3)
end Go.Proofs.Ytopflbjjbindkaa
