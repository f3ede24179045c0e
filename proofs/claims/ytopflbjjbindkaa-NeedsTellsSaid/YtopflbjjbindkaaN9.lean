/- Matters. -/
import Derived.Test.YtopflbjjbindkaaN8
set_option linter.unusedVariables false
set_option linter.unusedSimpArgs false
namespace Go.Proofs.Ytopflbjjbindkaa
open Go.Hp Go.RowKit

theorem joinIdx (n : Nat) (p q : Nat → Bool) : joinL (idx n p) (idx n q) = idx n fun i => p i || q i := by
  refine rise_eq_idx (joinL_rise _ _) fun x => ?_
  rw [mem_joinL, mem_idx, mem_idx]
  constructor
  · rintro (⟨i, h1, h2, h3⟩ | ⟨i, h1, h2, h3⟩)
    · exact ⟨i, h1, by rw [h2]; rfl, h3⟩
    · exact ⟨i, h1, by rw [h2]; simp, h3⟩
  · rintro ⟨i, h1, h2, h3⟩
    rcases (Bool.or_eq_true _ _).mp h2 with h2 | h2
    · exact .inl ⟨i, h1, h2, h3⟩
    · exact .inr ⟨i, h1, h2, h3⟩
def placesP (f : FlatT) (tell : TieT → Int × Bool) (i : Nat) : Bool := f.ties.any fun t => (tell t).2 && twoB f.ev.length t && decide ((tell t).1 = (i : Int))
theorem placesL_eq (f : FlatT) (tell : TieT → Int × Bool) : placesL f tell = idx f.ev.length (placesP f tell) := rfl
def needP (f : FlatT) (i j : Nat) : Bool := placesP f (tellB (i : Int)) j || placesP f (tellC (i : Int)) j
def calledP (f : FlatT) (i : Nat) : Bool := evP f (fun e => decide (0 ≤ e.due)) i || placesP f (tellK 2) i
def excludedP (f : FlatT) (i : Nat) : Bool := evP f (fun e => !e.inn) i || placesP f (tellK 4) i
theorem needsI_eq (f : FlatT) (i : Nat) : needsI f i = idx f.ev.length (needP f i) := joinIdx _ _ _
theorem calledL_eq (f : FlatT) : calledL f = idx f.ev.length (calledP f) := joinIdx _ _ _
theorem excludedL_eq (f : FlatT) : excludedL f = idx f.ev.length (excludedP f) := joinIdx _ _ _
theorem way_net (f : FlatT) (i j : Nat) : Way (netL f) i j ↔ i < f.ev.length ∧ j < f.ev.length ∧ needP f i j = true := by
  unfold Way waysL
  rw [netL_length]
  by_cases hi : i < f.ev.length
  · have e : (netL f).getD i [] = needsI f i := by
      unfold netL
      rw [List.getD_eq_getElem?_getD, List.getElem?_map, List.getElem?_range hi]
      rfl
    rw [e, needsI_eq, List.mem_filter, mem_idx]
    constructor
    · rintro ⟨⟨k, h1, h2, h3⟩, _⟩
      have : j = k := by omega
      subst this
      exact ⟨hi, h1, h2⟩
    · rintro ⟨_, h1, h2⟩
      exact ⟨⟨j, h1, h2, rfl⟩, by unfold inB; simp; omega⟩
  · have e : (netL f).getD i [] = [] := by
      rw [List.getD_eq_getElem?_getD, List.getElem?_eq_none (by rw [netL_length]; omega)]
      rfl
    rw [e]
    simp; omega
theorem net_rows (f : FlatT) : ∀ l ∈ netL f, l.length ≤ f.ev.length := by
  intro l hl
  obtain ⟨i, _, rfl⟩ := List.mem_map.1 hl
  rw [needsI_eq]
  exact idx_length _ _

def Mat (f : FlatT) (j : Nat) : Prop := calledP f j = true ∨ ∃ k, k < f.ev.length ∧ calledP f k = true ∧ Lead (netL f) k j
theorem matters_spec {h : Heap} {ve vt : Value} {f : FlatT} (F : FlatAt h ve vt f) (hn : f.ev.length ≤ 900) {K : Value → Heap → Prop}
    (hk : ∀ h' v (P : Nat → Bool), (∀ j, j < f.ev.length → (P j = true ↔ Mat f j)) → OwnI h' h.size v (idx f.ev.length P) → Ext h h' → K v h') : CallF Try.prog 20 #[.agg #[ve, vt]] h K := by
  apply S20
  unfold F20
  refine box_step fun h1 x1 z1 p1 => ?_
  simp only [cells_agg] at p1
  rw [m_loadAgg Try.underlying25 rfl size25 p1 (by simp)]
  refine net_spec (F.ext x1) fun h2 vn N2 x2 => ?_
  rw [m_loadAgg Try.underlying25 rfl size25 (x2.at p1) (by simp)]
  refine called_spec (F.ext (x1.trans x2)) fun h3 vc own3 x3 => ?_
  have x03 := (x1.trans x2).trans x3
  rw [calledL_eq] at own3
  obtain ⟨n, hnn⟩ : ∃ n, f.ev.length = n := ⟨_, rfl⟩
  rw [hnn] at own3 hk hn
  obtain ⟨l0, hl0⟩ : ∃ l0, idx n (calledP f) = l0 := ⟨_, rfl⟩
  have hl0n : l0.length ≤ n := by rw [← hl0]; exact idx_length _ _
  have ownc := own3
  rw [hl0] at own3
  obtain ⟨A3, c3, hvc⟩ := own3.len
  simp (disch := first | assumption | (with_reducible exact Ext.refl _) | (with_reducible exact Keep.refl _ _) | (with_reducible exact Eq.refl _) | (intro _ he; cases he; assumption) | (intro _ he; with_reducible apply keep_cell' he; assumption; simp; done) | (intro _ he; with_reducible apply ext_cell' he; assumption; done) | (with_reducible first | exact pl_int _ _ | exact pl_byte _ | exact pl_u32 _ | exact pl_bool _ | exact pl_ptr _ | exact pl_slice _ _ _ | exact pl_map _ | exact pl_str _ | exact pl_func _ _ _) | ((rw [okW_setH]; repeat rw [okW_setH]); assumption) | ((with_reducible refine cellH_setH_same ?_ _); (repeat rw [okW_setH]); assumption) | ((rw [cellH_setH_off]; rotate_left; focus decide); (repeat (rw [cellH_setH_off]; rotate_left; focus decide)); first | assumption | ((with_reducible refine cellH_setH_same ?_ _); (repeat rw [okW_setH]); assumption)) | omega) only [↓hpR, ↓nilC_ptr, ↓nilC_func, ↓condP_true, ↓condP_false, ↓condP_bool, ↓guardP_true, ↓guardP_false, ↓guardP_bool_t, ↓guardP_bool_f, ↓skipP_undef, ↓pickP_bool, ↓b_add, ↓b_sub, ↓b_mul, ↓b_quo, ↓b_rem, ↓b_lss, ↓b_leq, ↓b_gtr, ↓b_geq, ↓b_eql, ↓b_neq, ↓u_not, ↓s_add, ↓s_eql, ↓s_neq, ↓i_max2, ↓i_min2, ↓x20, ↓x21, ↓x30, ↓x31, ↓x32, ↓q_b_add, ↓q_b_sub, ↓q_b_mul, ↓q_b_quo, ↓q_b_rem, ↓q_b_lss, ↓q_b_leq, ↓q_b_gtr, ↓q_b_geq, ↓q_b_eql, ↓q_b_neq, ↓q_u_not, ↓q_s_add, ↓q_s_eql, ↓q_s_neq, ↓q_i_max2, ↓q_i_min2, ↓q_x20, ↓q_x21, ↓q_x30, ↓q_x31, ↓q_x32, ↓m_box, decide_true, decide_false, tt_and, ff_and, Nat.zero_add, Int.toNat_natCast, cells_agg, cells_bool, cells_int, cells_str, cells_ptr, cells_slice, ↓qend_eq, ↓jump_none, ↓jump_ret, ↓jump_exit, ↓marks_one, cond_true, cond_false, Bool.not_true, Bool.not_false, hvc]
  rw [← hvc]
  refine ⟨fun x y hh => ∃ (i : Nat) (P : Nat → Bool), y = .int .i64 (i : Int) ∧ i ≤ l0.length ∧ Ext h3 hh ∧ OwnI hh h.size x (idx n P) ∧ (∀ j, j < n → (P j = true ↔ (calledP f j = true ∨ ∃ k : Nat, (k : Int) ∈ l0.take i ∧ Lead (netL f) k j))), fun x y hh => match y with | .int _ i => l0.length - i.toNat | _ => 0,
    ⟨0, calledP f, rfl, Nat.zero_le _, Ext.refl _, ownc.low (by have := x1.size; have := x2.size; omega), fun j hj => by simp⟩, ?_⟩
  rintro js x y h4 ⟨i, P, rfl, hi, x4, own4, hP⟩
  simp (disch := first | assumption | (with_reducible exact Ext.refl _) | (with_reducible exact Keep.refl _ _) | (with_reducible exact Eq.refl _) | (intro _ he; cases he; assumption) | (intro _ he; with_reducible apply keep_cell' he; assumption; simp; done) | (intro _ he; with_reducible apply ext_cell' he; assumption; done) | (with_reducible first | exact pl_int _ _ | exact pl_byte _ | exact pl_u32 _ | exact pl_bool _ | exact pl_ptr _ | exact pl_slice _ _ _ | exact pl_map _ | exact pl_str _ | exact pl_func _ _ _) | ((rw [okW_setH]; repeat rw [okW_setH]); assumption) | ((with_reducible refine cellH_setH_same ?_ _); (repeat rw [okW_setH]); assumption) | ((rw [cellH_setH_off]; rotate_left; focus decide); (repeat (rw [cellH_setH_off]; rotate_left; focus decide)); first | assumption | ((with_reducible refine cellH_setH_same ?_ _); (repeat rw [okW_setH]); assumption)) | omega) only [↓hpR, ↓nilC_ptr, ↓nilC_func, ↓condP_true, ↓condP_false, ↓condP_bool, ↓guardP_true, ↓guardP_false, ↓guardP_bool_t, ↓guardP_bool_f, ↓skipP_undef, ↓pickP_bool, ↓b_add, ↓b_sub, ↓b_mul, ↓b_quo, ↓b_rem, ↓b_lss, ↓b_leq, ↓b_gtr, ↓b_geq, ↓b_eql, ↓b_neq, ↓u_not, ↓s_add, ↓s_eql, ↓s_neq, ↓i_max2, ↓i_min2, ↓x20, ↓x21, ↓x30, ↓x31, ↓x32, ↓q_b_add, ↓q_b_sub, ↓q_b_mul, ↓q_b_quo, ↓q_b_rem, ↓q_b_lss, ↓q_b_leq, ↓q_b_gtr, ↓q_b_geq, ↓q_b_eql, ↓q_b_neq, ↓q_u_not, ↓q_s_add, ↓q_s_eql, ↓q_s_neq, ↓q_i_max2, ↓q_i_min2, ↓q_x20, ↓q_x21, ↓q_x30, ↓q_x31, ↓q_x32, ↓m_box, decide_true, decide_false, tt_and, ff_and, Nat.zero_add, Int.toNat_natCast, cells_agg, cells_bool, cells_int, cells_str, cells_ptr, cells_slice, ↓qend_eq, ↓jump_none, ↓jump_ret, ↓jump_exit, ↓marks_one, cond_true, cond_false, Bool.not_true, Bool.not_false]
  refine ⟨fun hlt => ?_, fun hge => ?_⟩
  · have hlt' : i < l0.length := by simpa using hlt
    obtain ⟨k, hki⟩ : ∃ k, l0[i]? = some k := ⟨_, List.getElem?_eq_getElem hlt'⟩
    obtain ⟨k0, hk0n, _, rfl⟩ : ∃ k0 : Nat, k0 < n ∧ calledP f k0 = true ∧ k = (k0 : Int) := by
      have := List.mem_of_getElem? hki
      rw [← hl0, mem_idx] at this
      exact this
    obtain ⟨g, hg, hc⟩ := (own3.ext x4).cell hvc (i := i) (x := .int .i64 (k0 : Int)) (by unfold ints; rw [List.getElem?_map, hki]; rfl)
    subst hg
    simp (disch := first | assumption | (with_reducible exact Ext.refl _) | (with_reducible exact Keep.refl _ _) | (with_reducible exact Eq.refl _) | (intro _ he; cases he; assumption) | (intro _ he; with_reducible apply keep_cell' he; assumption; simp; done) | (intro _ he; with_reducible apply ext_cell' he; assumption; done) | (with_reducible first | exact pl_int _ _ | exact pl_byte _ | exact pl_u32 _ | exact pl_bool _ | exact pl_ptr _ | exact pl_slice _ _ _ | exact pl_map _ | exact pl_str _ | exact pl_func _ _ _) | ((rw [okW_setH]; repeat rw [okW_setH]); assumption) | ((with_reducible refine cellH_setH_same ?_ _); (repeat rw [okW_setH]); assumption) | ((rw [cellH_setH_off]; rotate_left; focus decide); (repeat (rw [cellH_setH_off]; rotate_left; focus decide)); first | assumption | ((with_reducible refine cellH_setH_same ?_ _); (repeat rw [okW_setH]); assumption)) | omega) only [↓hpR, ↓nilC_ptr, ↓nilC_func, ↓condP_true, ↓condP_false, ↓condP_bool, ↓guardP_true, ↓guardP_false, ↓guardP_bool_t, ↓guardP_bool_f, ↓skipP_undef, ↓pickP_bool, ↓b_add, ↓b_sub, ↓b_mul, ↓b_quo, ↓b_rem, ↓b_lss, ↓b_leq, ↓b_gtr, ↓b_geq, ↓b_eql, ↓b_neq, ↓u_not, ↓s_add, ↓s_eql, ↓s_neq, ↓i_max2, ↓i_min2, ↓x20, ↓x21, ↓x30, ↓x31, ↓x32, ↓q_b_add, ↓q_b_sub, ↓q_b_mul, ↓q_b_quo, ↓q_b_rem, ↓q_b_lss, ↓q_b_leq, ↓q_b_gtr, ↓q_b_geq, ↓q_b_eql, ↓q_b_neq, ↓q_u_not, ↓q_s_add, ↓q_s_eql, ↓q_s_neq, ↓q_i_max2, ↓q_i_min2, ↓q_x20, ↓q_x21, ↓q_x30, ↓q_x31, ↓q_x32, ↓m_box, decide_true, decide_false, tt_and, ff_and, Nat.zero_add, Int.toNat_natCast, cells_agg, cells_bool, cells_int, cells_str, cells_ptr, cells_slice, ↓qend_eq, ↓jump_none, ↓jump_ret, ↓jump_exit, ↓marks_one, cond_true, cond_false, Bool.not_true, Bool.not_false, hvc, Nat.mul_one]
    have hin : inB (netL f).length (k0 : Int) = true := by rw [netL_length, hnn]; unfold inB; simp; omega
    refine reach_spec (N2.ext (x3.trans x4)) (k0 : Int) (M := n) (fun l hl => by rw [← hnn]; exact net_rows f l hl) (by rw [netL_length, hnn]; exact Nat.le_trans (Nat.mul_le_mul (show n + 1 ≤ 901 by omega) hn) (by omega)) (by rw [netL_length]; omega) (fun e => by rw [hin] at e; cases e) fun _ h5 v5 p hp own5 x5 => ?_
    rw [netL_length, hnn] at hp own5
    simp only [Int.toNat_natCast] at hp
    have i1 := idx_length n P
    have i2 := idx_length n p
    refine joined_spec (OwnI.sl (own4.ext x5)) (OwnI.sl own5) (by omega) fun h6 v6 own6 x6 => ?_
    rw [joinIdx] at own6
    refine ⟨⟨i + 1, fun j => P j || p j, by simp, by omega, (x4.trans x5).trans x6, own6.low (by have := x03.size; have := x4.size; have := x5.size; omega), fun j hj => ?_⟩, by omega⟩
    rw [Bool.or_eq_true, hP j hj, hp j hj]
    constructor
    · rintro ((h1 | ⟨k, h1, h2⟩) | h1)
      · exact .inl h1
      · exact .inr ⟨k, by rw [List.take_add_one]; exact List.mem_append.2 (.inl h1), h2⟩
      · exact .inr ⟨k0, by rw [List.take_add_one, hki]; simp, h1⟩
    · rintro (h1 | ⟨k, h1, h2⟩)
      · exact .inl (.inl h1)
      · rw [List.take_add_one, hki] at h1
        rcases List.mem_append.1 h1 with h1 | h1
        · exact .inl (.inr ⟨k, h1, h2⟩)
        · simp at h1
          rw [show k = k0 by omega] at h2
          exact .inr h2
  · have hi' : i = l0.length := by simp at hge; omega
    subst hi'
    rw [List.take_of_length_le (Nat.le_refl _)] at hP
    refine hk h4 x P (fun j hj => ?_) own4 (x03.trans x4)
    rw [hP j hj]
    unfold Mat
    rw [hnn]
    constructor
    · rintro (h1 | ⟨k, h1, h2⟩)
      · exact .inl h1
      · rw [← hl0, mem_idx] at h1
        obtain ⟨k', h3, h4, h5⟩ := h1
        rw [show k = k' by omega] at h2
        exact .inr ⟨k', h3, h4, h2⟩
    · rintro (h1 | ⟨k, h1, h2, h3⟩)
      · exact .inl h1
      · exact .inr ⟨k, by rw [← hl0, mem_idx]; exact ⟨k, h1, h2, rfl⟩, h3⟩

/-! ### Same -/
theorem same_spec {h : Heap} {va vb : Value} {a b : List Int} (ha : SlI h va a) (hb : SlI h vb b) (hl : a.length ≤ 1000000) {K : Value → Heap → Prop} (hk : K (.bool (decide (a = b))) h) : CallF Try.prog 10 #[va, vb] h K := by
  apply S10
  unfold F10
  obtain ⟨A, ca, hva⟩ := SlR.len ha
  obtain ⟨B, cb, hvb⟩ := SlR.len hb
  simp (disch := first | assumption | (with_reducible exact Ext.refl _) | (with_reducible exact Keep.refl _ _) | (with_reducible exact Eq.refl _) | (intro _ he; cases he; assumption) | (intro _ he; with_reducible apply keep_cell' he; assumption; simp; done) | (intro _ he; with_reducible apply ext_cell' he; assumption; done) | (with_reducible first | exact pl_int _ _ | exact pl_byte _ | exact pl_u32 _ | exact pl_bool _ | exact pl_ptr _ | exact pl_slice _ _ _ | exact pl_map _ | exact pl_str _ | exact pl_func _ _ _) | ((rw [okW_setH]; repeat rw [okW_setH]); assumption) | ((with_reducible refine cellH_setH_same ?_ _); (repeat rw [okW_setH]); assumption) | ((rw [cellH_setH_off]; rotate_left; focus decide); (repeat (rw [cellH_setH_off]; rotate_left; focus decide)); first | assumption | ((with_reducible refine cellH_setH_same ?_ _); (repeat rw [okW_setH]); assumption)) | omega) only [↓hpR, ↓nilC_ptr, ↓nilC_func, ↓condP_true, ↓condP_false, ↓condP_bool, ↓guardP_true, ↓guardP_false, ↓guardP_bool_t, ↓guardP_bool_f, ↓skipP_undef, ↓pickP_bool, ↓b_add, ↓b_sub, ↓b_mul, ↓b_quo, ↓b_rem, ↓b_lss, ↓b_leq, ↓b_gtr, ↓b_geq, ↓b_eql, ↓b_neq, ↓u_not, ↓s_add, ↓s_eql, ↓s_neq, ↓i_max2, ↓i_min2, ↓x20, ↓x21, ↓x30, ↓x31, ↓x32, ↓q_b_add, ↓q_b_sub, ↓q_b_mul, ↓q_b_quo, ↓q_b_rem, ↓q_b_lss, ↓q_b_leq, ↓q_b_gtr, ↓q_b_geq, ↓q_b_eql, ↓q_b_neq, ↓q_u_not, ↓q_s_add, ↓q_s_eql, ↓q_s_neq, ↓q_i_max2, ↓q_i_min2, ↓q_x20, ↓q_x21, ↓q_x30, ↓q_x31, ↓q_x32, ↓m_box, decide_true, decide_false, tt_and, ff_and, Nat.zero_add, Int.toNat_natCast, cells_agg, cells_bool, cells_int, cells_str, cells_ptr, cells_slice, ↓qend_eq, ↓jump_none, ↓jump_ret, ↓jump_exit, ↓marks_one, cond_true, cond_false, Bool.not_true, Bool.not_false, hva, hvb]
  refine ⟨fun e => ?_, fun e => ?_⟩
  · have : a ≠ b := by rintro rfl; simp at e
    rw [decide_eq_false this] at hk
    exact hk
  · have e2 : (a.length : Int) = (b.length : Int) := by simpa using e
    have hlen : a.length = b.length := by omega
    refine ⟨fun x hh => ∃ i : Nat, x = .int .i64 (i : Int) ∧ i ≤ a.length ∧ hh = h ∧ a.take i = b.take i, fun x hh => match x with | .int _ i => a.length - i.toNat | _ => 0, ⟨0, rfl, Nat.zero_le _, rfl, by simp⟩, ?_⟩
    rintro js x h3 ⟨i, rfl, hi, rfl, heq⟩
    simp (disch := first | assumption | (with_reducible exact Ext.refl _) | (with_reducible exact Keep.refl _ _) | (with_reducible exact Eq.refl _) | (intro _ he; cases he; assumption) | (intro _ he; with_reducible apply keep_cell' he; assumption; simp; done) | (intro _ he; with_reducible apply ext_cell' he; assumption; done) | (with_reducible first | exact pl_int _ _ | exact pl_byte _ | exact pl_u32 _ | exact pl_bool _ | exact pl_ptr _ | exact pl_slice _ _ _ | exact pl_map _ | exact pl_str _ | exact pl_func _ _ _) | ((rw [okW_setH]; repeat rw [okW_setH]); assumption) | ((with_reducible refine cellH_setH_same ?_ _); (repeat rw [okW_setH]); assumption) | ((rw [cellH_setH_off]; rotate_left; focus decide); (repeat (rw [cellH_setH_off]; rotate_left; focus decide)); first | assumption | ((with_reducible refine cellH_setH_same ?_ _); (repeat rw [okW_setH]); assumption)) | omega) only [↓hpR, ↓nilC_ptr, ↓nilC_func, ↓condP_true, ↓condP_false, ↓condP_bool, ↓guardP_true, ↓guardP_false, ↓guardP_bool_t, ↓guardP_bool_f, ↓skipP_undef, ↓pickP_bool, ↓b_add, ↓b_sub, ↓b_mul, ↓b_quo, ↓b_rem, ↓b_lss, ↓b_leq, ↓b_gtr, ↓b_geq, ↓b_eql, ↓b_neq, ↓u_not, ↓s_add, ↓s_eql, ↓s_neq, ↓i_max2, ↓i_min2, ↓x20, ↓x21, ↓x30, ↓x31, ↓x32, ↓q_b_add, ↓q_b_sub, ↓q_b_mul, ↓q_b_quo, ↓q_b_rem, ↓q_b_lss, ↓q_b_leq, ↓q_b_gtr, ↓q_b_geq, ↓q_b_eql, ↓q_b_neq, ↓q_u_not, ↓q_s_add, ↓q_s_eql, ↓q_s_neq, ↓q_i_max2, ↓q_i_min2, ↓q_x20, ↓q_x21, ↓q_x30, ↓q_x31, ↓q_x32, ↓m_box, decide_true, decide_false, tt_and, ff_and, Nat.zero_add, Int.toNat_natCast, cells_agg, cells_bool, cells_int, cells_str, cells_ptr, cells_slice, ↓qend_eq, ↓jump_none, ↓jump_ret, ↓jump_exit, ↓marks_one, cond_true, cond_false, Bool.not_true, Bool.not_false]
    refine ⟨fun hlt => ?_, fun hge => ?_⟩
    · have hlt' : i < a.length := by simpa using hlt
      obtain ⟨xa, hxa⟩ : ∃ y, a[i]? = some y := ⟨_, List.getElem?_eq_getElem hlt'⟩
      obtain ⟨xb, hxb⟩ : ∃ y, b[i]? = some y := ⟨_, List.getElem?_eq_getElem (by omega)⟩
      obtain ⟨g1, o1, k1, e1, q1⟩ := SlI.cell ha (by omega)
      obtain ⟨g2, o2, k2, e2, q2⟩ := SlI.cell hb (by omega)
      have r1 := q1 i _ hxa
      have r2 := q2 i _ hxb
      rw [hva] at e1
      rw [hvb] at e2
      injection e1 with e11 _ _
      injection e2 with e21 _ _
      subst e11 e21
      refine Quiet_eq ?_
      simp (disch := first | assumption | (with_reducible exact Ext.refl _) | (with_reducible exact Keep.refl _ _) | (with_reducible exact Eq.refl _) | (intro _ he; cases he; assumption) | (intro _ he; with_reducible apply keep_cell' he; assumption; simp; done) | (intro _ he; with_reducible apply ext_cell' he; assumption; done) | (with_reducible first | exact pl_int _ _ | exact pl_byte _ | exact pl_u32 _ | exact pl_bool _ | exact pl_ptr _ | exact pl_slice _ _ _ | exact pl_map _ | exact pl_str _ | exact pl_func _ _ _) | ((rw [okW_setH]; repeat rw [okW_setH]); assumption) | ((with_reducible refine cellH_setH_same ?_ _); (repeat rw [okW_setH]); assumption) | ((rw [cellH_setH_off]; rotate_left; focus decide); (repeat (rw [cellH_setH_off]; rotate_left; focus decide)); first | assumption | ((with_reducible refine cellH_setH_same ?_ _); (repeat rw [okW_setH]); assumption)) | omega) only [↓hpR, ↓nilC_ptr, ↓nilC_func, ↓condP_true, ↓condP_false, ↓condP_bool, ↓guardP_true, ↓guardP_false, ↓guardP_bool_t, ↓guardP_bool_f, ↓skipP_undef, ↓pickP_bool, ↓b_add, ↓b_sub, ↓b_mul, ↓b_quo, ↓b_rem, ↓b_lss, ↓b_leq, ↓b_gtr, ↓b_geq, ↓b_eql, ↓b_neq, ↓u_not, ↓s_add, ↓s_eql, ↓s_neq, ↓i_max2, ↓i_min2, ↓x20, ↓x21, ↓x30, ↓x31, ↓x32, ↓q_b_add, ↓q_b_sub, ↓q_b_mul, ↓q_b_quo, ↓q_b_rem, ↓q_b_lss, ↓q_b_leq, ↓q_b_gtr, ↓q_b_geq, ↓q_b_eql, ↓q_b_neq, ↓q_u_not, ↓q_s_add, ↓q_s_eql, ↓q_s_neq, ↓q_i_max2, ↓q_i_min2, ↓q_x20, ↓q_x21, ↓q_x30, ↓q_x31, ↓q_x32, ↓m_box, decide_true, decide_false, tt_and, ff_and, Nat.zero_add, Int.toNat_natCast, cells_agg, cells_bool, cells_int, cells_str, cells_ptr, cells_slice, ↓qend_eq, ↓jump_none, ↓jump_ret, ↓jump_exit, ↓marks_one, cond_true, cond_false, Bool.not_true, Bool.not_false, Nat.mul_one]
      refine ⟨fun e => ?_, fun e => ?_⟩
      · have : a ≠ b := by
          rintro rfl
          rw [hxa] at hxb
          injection hxb with hxb
          subst hxb
          simp at e
        rw [decide_eq_false this] at hk
        exact hk
      · have e' : xa = xb := by simpa using e
        refine ⟨⟨i + 1, by simp, by omega, trivial, ?_⟩, by omega⟩
        rw [List.take_add_one, List.take_add_one, heq, hxa, hxb, e']
    · have hi' : i = a.length := by simp at hge; omega
      subst hi'
      rw [List.take_of_length_le (Nat.le_refl _), hlen, List.take_of_length_le (Nat.le_refl _)] at heq
      rw [decide_eq_true heq] at hk
      exact hk
end Go.Proofs.Ytopflbjjbindkaa
