/- The reference's Matters; the law NeedsTells. -/
import Derived.Test.YtopflbjjbindkaaN17
import Derived.Test.YtopflbjjbindkaaN15
import Derived.Test.YtopflbjjbindkaaN10
set_option linter.unusedVariables false
set_option linter.unusedSimpArgs false
namespace Go.Proofs.Ytopflbjjbindkaa
open Go.Hp Go.RowKit

theorem beq_of_iff {p q : Bool} (h : p = true ↔ q = true) : p = q := by cases p <;> cases q <;> simp_all
theorem anyT_eq {f : FlatT} (k : Int) {i : Nat} (hi : i < f.ev.length) : anyT f k f.ev.length i = placesP f (tellK k) i := by
  apply beq_of_iff
  unfold anyT placesP tiedB tellK isTie twoB
  simp only [List.any_eq_true, Bool.and_eq_true, decide_eq_true_eq, List.mem_range]
  constructor
  · rintro ⟨a, h1, t, h2, h3, h4, h5⟩
    exact ⟨t, h2, ⟨h3, by omega⟩, h5⟩
  · rintro ⟨t, h1, ⟨h2, h3⟩, h4⟩
    exact ⟨t.fr.toNat, by omega, t, h1, h2, by omega, h4⟩
theorem rcalled_eq (f : FlatT) : (idx f.ev.length fun i : Nat => evP f (fun e => decide (0 ≤ e.due)) i || anyT f 2 f.ev.length i) = idx f.ev.length (calledP f) :=
  idx_congr fun i hi => by unfold calledP; rw [anyT_eq 2 hi]
theorem rexcluded_eq (f : FlatT) : (idx f.ev.length fun i : Nat => evP f (fun e => !e.inn) i || anyT f 4 f.ev.length i) = idx f.ev.length (excludedP f) :=
  idx_congr fun i hi => by unfold excludedP; rw [anyT_eq 4 hi]
theorem rblocks_eq (f : FlatT) (at_ : Int) : (idx f.ev.length fun i : Nat => inB f.ev.length at_ && (tiedB f 1 (i : Int) at_ || tiedB f 5 (i : Int) at_)) = blocksL f at_ := by
  show _ = idx f.ev.length (placesP f (tellB at_))
  refine idx_congr fun i hi => beq_of_iff ?_
  unfold placesP tiedB tellB isTie twoB inB
  simp only [List.any_eq_true, Bool.and_eq_true, Bool.or_eq_true, decide_eq_true_eq]
  constructor
  · rintro ⟨⟨h1, h2⟩, ⟨t, h3, h4, h5, h6⟩ | ⟨t, h3, h4, h5, h6⟩⟩
    · exact ⟨t, h3, ⟨⟨h6, .inl h4⟩, by omega⟩, h5⟩
    · exact ⟨t, h3, ⟨⟨h6, .inr h4⟩, by omega⟩, h5⟩
  · rintro ⟨t, h1, ⟨⟨h2, h3⟩, h4⟩, h5⟩
    refine ⟨by omega, ?_⟩
    rcases h3 with h3 | h3
    · exact .inl ⟨t, h1, h3, h5, h2⟩
    · exact .inr ⟨t, h1, h3, h5, h2⟩
theorem rcalls_eq (f : FlatT) (at_ : Int) : (idx f.ev.length fun i : Nat => inB f.ev.length at_ && tiedB f 2 at_ (i : Int)) = callsL f at_ := by
  show _ = idx f.ev.length (placesP f (tellC at_))
  refine idx_congr fun i hi => beq_of_iff ?_
  unfold placesP tiedB tellC isTie twoB inB
  simp only [List.any_eq_true, Bool.and_eq_true, decide_eq_true_eq]
  constructor
  · rintro ⟨⟨h1, h2⟩, t, h3, h4, h5, h6⟩
    exact ⟨t, h3, ⟨⟨h5, h4⟩, by omega⟩, h6⟩
  · rintro ⟨t, h1, ⟨⟨h2, h3⟩, h4⟩, h5⟩
    exact ⟨by omega, t, h1, h3, h2, h5⟩

theorem rmatters_spec {h : Heap} {ve vt : Value} {f : FlatT} (F : FlatAt h ve vt f) (hn : f.ev.length ≤ 900) {K : Value → Heap → Prop}
    (hk : ∀ h' v (P : Nat → Bool), (∀ j, j < f.ev.length → (P j = true ↔ Mat f j)) → OwnI h' h.size v (idx f.ev.length P) → Ext h h' → K v h') : CallF Try.prog 21 #[.agg #[ve, vt]] h K := by
  apply S21
  unfold F21
  refine box_step fun h1 x1 z1 p1 => ?_
  simp only [cells_agg] at p1
  obtain ⟨A, cap, hve⟩ := F.ev.len
  rw [m_loadAgg Try.underlying30 rfl size30 p1 (by simp)]
  refine rnet_spec (F.ext x1) fun h2 vn N2 x2 => ?_
  refine table_spec N2 (by rw [netL_length]; omega) (fun l hl => Nat.le_trans (net_rows f l hl) (by omega)) fun h3 v11 M T3 hM x3 => ?_
  rw [netL_length] at T3 hM
  rw [m_loadAgg Try.underlying30 rfl size30 ((x2.trans x3).at p1) (by simp)]
  refine rcalled_spec (F.ext ((x1.trans x2).trans x3)) fun h4 v13 own4 x4 => ?_
  rw [rcalled_eq] at own4
  have x14 := (x2.trans x3).trans x4
  obtain ⟨n, hnn⟩ : ∃ n, f.ev.length = n := ⟨_, rfl⟩
  rw [hnn] at own4 hk hn T3 hM hve
  obtain ⟨l, hl⟩ : ∃ l, idx n (calledP f) = l := ⟨_, rfl⟩
  have hll : l.length ≤ n := by rw [← hl]; exact idx_length _ _
  have hml : ∀ x, x ∈ l ↔ ∃ i : Nat, i < n ∧ calledP f i = true ∧ x = (i : Int) := fun x => by rw [← hl]; exact mem_idx
  rw [hl] at own4
  obtain ⟨A13, c13, hv13⟩ := own4.len
  simp (disch := first | assumption | (with_reducible exact Ext.refl _) | (with_reducible exact Keep.refl _ _) | (with_reducible exact Eq.refl _) | (intro _ he; cases he; assumption) | (intro _ he; with_reducible apply keep_cell' he; assumption; simp; done) | (intro _ he; with_reducible apply ext_cell' he; assumption; done) | (with_reducible first | exact pl_int _ _ | exact pl_byte _ | exact pl_u32 _ | exact pl_bool _ | exact pl_ptr _ | exact pl_slice _ _ _ | exact pl_map _ | exact pl_str _ | exact pl_func _ _ _) | ((rw [okW_setH]; repeat rw [okW_setH]); assumption) | ((with_reducible refine cellH_setH_same ?_ _); (repeat rw [okW_setH]); assumption) | ((rw [cellH_setH_off]; rotate_left; focus decide); (repeat (rw [cellH_setH_off]; rotate_left; focus decide)); first | assumption | ((with_reducible refine cellH_setH_same ?_ _); (repeat rw [okW_setH]); assumption)) | omega) only [↓hpR, ↓nilC_ptr, ↓nilC_func, ↓condP_true, ↓condP_false, ↓condP_bool, ↓guardP_true, ↓guardP_false, ↓guardP_bool_t, ↓guardP_bool_f, ↓skipP_undef, ↓pickP_bool, ↓b_add, ↓b_sub, ↓b_mul, ↓b_quo, ↓b_rem, ↓b_lss, ↓b_leq, ↓b_gtr, ↓b_geq, ↓b_eql, ↓b_neq, ↓u_not, ↓s_add, ↓s_eql, ↓s_neq, ↓i_max2, ↓i_min2, ↓x20, ↓x21, ↓x30, ↓x31, ↓x32, ↓q_b_add, ↓q_b_sub, ↓q_b_mul, ↓q_b_quo, ↓q_b_rem, ↓q_b_lss, ↓q_b_leq, ↓q_b_gtr, ↓q_b_geq, ↓q_b_eql, ↓q_b_neq, ↓q_u_not, ↓q_s_add, ↓q_s_eql, ↓q_s_neq, ↓q_i_max2, ↓q_i_min2, ↓q_x20, ↓q_x21, ↓q_x30, ↓q_x31, ↓q_x32, ↓m_box, decide_true, decide_false, tt_and, ff_and, Nat.zero_add, Int.toNat_natCast, cells_agg, cells_bool, cells_int, cells_str, cells_ptr, cells_slice, ↓qend_eq, ↓jump_none, ↓jump_ret, ↓jump_exit, ↓marks_one, cond_true, cond_false, Bool.not_true, Bool.not_false]
  have x5 := (Ext.refl h4).push (.cells #[] 3 (0, 0))
  have own5 := own0 (Nat.le_refl h4.size)
  generalize h4.push (.cells #[] 3 (0, 0)) = h5 at x5 own5 ⊢
  obtain ⟨P, hP⟩ : ∃ P : Nat → Bool, P = fun i : Nat => l.any fun a => decide (a = (i : Int)) || M a.toNat i := ⟨_, rfl⟩
  have hPm : ∀ j, j < n → (P j = true ↔ Mat f j) := by
    intro j hj
    rw [hP]
    simp only [List.any_eq_true, Bool.or_eq_true, decide_eq_true_eq]
    unfold Mat
    rw [hnn]
    constructor
    · rintro ⟨a, h1, h2⟩
      obtain ⟨a0, h3, h4, rfl⟩ := (hml a).1 h1
      rcases h2 with h2 | h2
      · rw [show j = a0 by omega]
        exact .inl h4
      · exact .inr ⟨a0, h3, h4, (hM a0 j h3 hj).1 h2⟩
    · rintro (h1 | ⟨k, h1, h2, h3⟩)
      · exact ⟨(j : Int), (hml _).2 ⟨j, hj, h1, rfl⟩, .inl rfl⟩
      · exact ⟨(k : Int), (hml _).2 ⟨k, h1, h2, rfl⟩, .inr ((hM k j h1 hj).2 h3)⟩
  refine ⟨fun x y hh => ∃ i : Nat, y = .int .i64 (i : Int) ∧ i ≤ n ∧ Ext h4 hh ∧ OwnI hh h4.size x (idx i P), fun x y hh => match y with | .int _ i => n - i.toNat | _ => 0, ⟨0, rfl, Nat.zero_le _, x5, own5⟩, ?_⟩
  rintro js x y h6 ⟨i, rfl, hi, x6, own6⟩
  have p6 := (x14.trans x6).at p1
  have c0 : cellH h6 h.size 0 = some ve := by rw [cellH_of p6]; rfl
  have hil := idx_length i P
  simp (disch := first | assumption | (with_reducible exact Ext.refl _) | (with_reducible exact Keep.refl _ _) | (with_reducible exact Eq.refl _) | (intro _ he; cases he; assumption) | (intro _ he; with_reducible apply keep_cell' he; assumption; simp; done) | (intro _ he; with_reducible apply ext_cell' he; assumption; done) | (with_reducible first | exact pl_int _ _ | exact pl_byte _ | exact pl_u32 _ | exact pl_bool _ | exact pl_ptr _ | exact pl_slice _ _ _ | exact pl_map _ | exact pl_str _ | exact pl_func _ _ _) | ((rw [okW_setH]; repeat rw [okW_setH]); assumption) | ((with_reducible refine cellH_setH_same ?_ _); (repeat rw [okW_setH]); assumption) | ((rw [cellH_setH_off]; rotate_left; focus decide); (repeat (rw [cellH_setH_off]; rotate_left; focus decide)); first | assumption | ((with_reducible refine cellH_setH_same ?_ _); (repeat rw [okW_setH]); assumption)) | omega) only [↓hpR, ↓nilC_ptr, ↓nilC_func, ↓condP_true, ↓condP_false, ↓condP_bool, ↓guardP_true, ↓guardP_false, ↓guardP_bool_t, ↓guardP_bool_f, ↓skipP_undef, ↓pickP_bool, ↓b_add, ↓b_sub, ↓b_mul, ↓b_quo, ↓b_rem, ↓b_lss, ↓b_leq, ↓b_gtr, ↓b_geq, ↓b_eql, ↓b_neq, ↓u_not, ↓s_add, ↓s_eql, ↓s_neq, ↓i_max2, ↓i_min2, ↓x20, ↓x21, ↓x30, ↓x31, ↓x32, ↓q_b_add, ↓q_b_sub, ↓q_b_mul, ↓q_b_quo, ↓q_b_rem, ↓q_b_lss, ↓q_b_leq, ↓q_b_gtr, ↓q_b_geq, ↓q_b_eql, ↓q_b_neq, ↓q_u_not, ↓q_s_add, ↓q_s_eql, ↓q_s_neq, ↓q_i_max2, ↓q_i_min2, ↓q_x20, ↓q_x21, ↓q_x30, ↓q_x31, ↓q_x32, ↓m_box, decide_true, decide_false, tt_and, ff_and, Nat.zero_add, Int.toNat_natCast, cells_agg, cells_bool, cells_int, cells_str, cells_ptr, cells_slice, ↓qend_eq, ↓jump_none, ↓jump_ret, ↓jump_exit, ↓marks_one, cond_true, cond_false, Bool.not_true, Bool.not_false, hve]
  refine ⟨fun hlt => ?_, fun hge => ?_⟩
  · have hlt' : i < n := by simpa using hlt
    have hsucc := idx_succ i P
    have T6 := T3.ext (x4.trans x6)
    have own46 := own4.ext x6
    refine Join1.intro (fun x hh => Ext h4 hh ∧ OwnI hh h4.size x (idx (i + 1) P)) (fun J hJ => ?_) (fun x7 h7 hM' => ?_)
    · refine ⟨fun x y hh => ∃ k : Nat, y = .int .i64 (k : Int) ∧ k ≤ l.length ∧ hh = h6 ∧ x = .bool ((l.take k).any fun a => decide (a = (i : Int)) || M a.toNat i), fun x y hh => match y with | .int _ i => l.length - i.toNat | _ => 0, ⟨0, rfl, Nat.zero_le _, rfl, rfl⟩, ?_⟩
      rintro js2 x2 y2 h7 ⟨k, rfl, hk7, rfl, rfl⟩
      simp (disch := first | assumption | (with_reducible exact Ext.refl _) | (with_reducible exact Keep.refl _ _) | (with_reducible exact Eq.refl _) | (intro _ he; cases he; assumption) | (intro _ he; with_reducible apply keep_cell' he; assumption; simp; done) | (intro _ he; with_reducible apply ext_cell' he; assumption; done) | (with_reducible first | exact pl_int _ _ | exact pl_byte _ | exact pl_u32 _ | exact pl_bool _ | exact pl_ptr _ | exact pl_slice _ _ _ | exact pl_map _ | exact pl_str _ | exact pl_func _ _ _) | ((rw [okW_setH]; repeat rw [okW_setH]); assumption) | ((with_reducible refine cellH_setH_same ?_ _); (repeat rw [okW_setH]); assumption) | ((rw [cellH_setH_off]; rotate_left; focus decide); (repeat (rw [cellH_setH_off]; rotate_left; focus decide)); first | assumption | ((with_reducible refine cellH_setH_same ?_ _); (repeat rw [okW_setH]); assumption)) | omega) only [↓hpR, ↓nilC_ptr, ↓nilC_func, ↓condP_true, ↓condP_false, ↓condP_bool, ↓guardP_true, ↓guardP_false, ↓guardP_bool_t, ↓guardP_bool_f, ↓skipP_undef, ↓pickP_bool, ↓b_add, ↓b_sub, ↓b_mul, ↓b_quo, ↓b_rem, ↓b_lss, ↓b_leq, ↓b_gtr, ↓b_geq, ↓b_eql, ↓b_neq, ↓u_not, ↓s_add, ↓s_eql, ↓s_neq, ↓i_max2, ↓i_min2, ↓x20, ↓x21, ↓x30, ↓x31, ↓x32, ↓q_b_add, ↓q_b_sub, ↓q_b_mul, ↓q_b_quo, ↓q_b_rem, ↓q_b_lss, ↓q_b_leq, ↓q_b_gtr, ↓q_b_geq, ↓q_b_eql, ↓q_b_neq, ↓q_u_not, ↓q_s_add, ↓q_s_eql, ↓q_s_neq, ↓q_i_max2, ↓q_i_min2, ↓q_x20, ↓q_x21, ↓q_x30, ↓q_x31, ↓q_x32, ↓m_box, decide_true, decide_false, tt_and, ff_and, Nat.zero_add, Int.toNat_natCast, cells_agg, cells_bool, cells_int, cells_str, cells_ptr, cells_slice, ↓qend_eq, ↓jump_none, ↓jump_ret, ↓jump_exit, ↓marks_one, cond_true, cond_false, Bool.not_true, Bool.not_false, hv13]
      refine ⟨fun hlt2 => ?_, fun hge2 => ?_⟩
      · have hlt2' : k < l.length := by simpa using hlt2
        obtain ⟨a, hka⟩ : ∃ a, l[k]? = some a := ⟨_, List.getElem?_eq_getElem hlt2'⟩
        obtain ⟨a0, ha0, _, rfl⟩ := (hml a).1 (List.mem_of_getElem? hka)
        obtain ⟨g, hg, hc⟩ := own46.cell hv13 (i := k) (x := .int .i64 (a0 : Int)) (by unfold ints; rw [List.getElem?_map, hka]; rfl)
        subst hg
        obtain ⟨g2, cg, r, hv11, hca, hBr, hrg, hBg, hcells, _⟩ := T6.row ha0
        have hci := (hcells i hlt').1
        have hstep : (l.take (k + 1)).any (fun a => decide (a = (i : Int)) || M a.toNat i) = ((l.take k).any (fun a => decide (a = (i : Int)) || M a.toNat i) || (decide ((a0 : Int) = (i : Int)) || M a0 i)) := by
          rw [List.take_add_one, hka, List.any_append]
          simp
        refine Join1.intro (fun x hh => x = .bool ((l.take (k + 1)).any fun a => decide (a = (i : Int)) || M a.toNat i) ∧ hh = h7) (fun J1 hJ1 => ?_) (fun x8 h8 hM' => ?_)
        · refine ⟨fun e1 => hJ1 _ _ ⟨by rw [hstep, e1, Bool.true_or], rfl⟩, fun e1 => ?_⟩
          simp (disch := first | assumption | (with_reducible exact Ext.refl _) | (with_reducible exact Keep.refl _ _) | (with_reducible exact Eq.refl _) | (intro _ he; cases he; assumption) | (intro _ he; with_reducible apply keep_cell' he; assumption; simp; done) | (intro _ he; with_reducible apply ext_cell' he; assumption; done) | (with_reducible first | exact pl_int _ _ | exact pl_byte _ | exact pl_u32 _ | exact pl_bool _ | exact pl_ptr _ | exact pl_slice _ _ _ | exact pl_map _ | exact pl_str _ | exact pl_func _ _ _) | ((rw [okW_setH]; repeat rw [okW_setH]); assumption) | ((with_reducible refine cellH_setH_same ?_ _); (repeat rw [okW_setH]); assumption) | ((rw [cellH_setH_off]; rotate_left; focus decide); (repeat (rw [cellH_setH_off]; rotate_left; focus decide)); first | assumption | ((with_reducible refine cellH_setH_same ?_ _); (repeat rw [okW_setH]); assumption)) | omega) only [↓hpR, ↓nilC_ptr, ↓nilC_func, ↓condP_true, ↓condP_false, ↓condP_bool, ↓guardP_true, ↓guardP_false, ↓guardP_bool_t, ↓guardP_bool_f, ↓skipP_undef, ↓pickP_bool, ↓b_add, ↓b_sub, ↓b_mul, ↓b_quo, ↓b_rem, ↓b_lss, ↓b_leq, ↓b_gtr, ↓b_geq, ↓b_eql, ↓b_neq, ↓u_not, ↓s_add, ↓s_eql, ↓s_neq, ↓i_max2, ↓i_min2, ↓x20, ↓x21, ↓x30, ↓x31, ↓x32, ↓q_b_add, ↓q_b_sub, ↓q_b_mul, ↓q_b_quo, ↓q_b_rem, ↓q_b_lss, ↓q_b_leq, ↓q_b_gtr, ↓q_b_geq, ↓q_b_eql, ↓q_b_neq, ↓q_u_not, ↓q_s_add, ↓q_s_eql, ↓q_s_neq, ↓q_i_max2, ↓q_i_min2, ↓q_x20, ↓q_x21, ↓q_x30, ↓q_x31, ↓q_x32, ↓m_box, decide_true, decide_false, tt_and, ff_and, Nat.zero_add, Int.toNat_natCast, cells_agg, cells_bool, cells_int, cells_str, cells_ptr, cells_slice, ↓qend_eq, ↓jump_none, ↓jump_ret, ↓jump_exit, ↓marks_one, cond_true, cond_false, Bool.not_true, Bool.not_false, hv13, hv11, Nat.mul_one]
          refine ⟨fun e2 => hJ1 _ _ ⟨by rw [hstep, e1, e2, Bool.false_or, Bool.true_or], rfl⟩, fun e2 => hJ1 _ _ ⟨by rw [hstep, e1, e2, Bool.false_or, Bool.false_or], rfl⟩⟩
        · obtain ⟨rfl, rfl⟩ := hM'
          exact ⟨⟨k + 1, by simp, by omega, rfl, rfl⟩, by omega⟩
      · have hk' : k = l.length := by simp at hge2; omega
        subst hk'
        rw [List.take_of_length_le (Nat.le_refl _)]
        have hpi : (l.any fun a => decide (a = (i : Int)) || M a.toNat i) = P i := by rw [hP]
        rw [hpi]
        refine ⟨fun e1 => ?_, fun e1 => ?_⟩
        · exact push1 own6 (by omega) (i : Int) x6 fun h8 v8 own8 x8 => hJ _ _ ⟨x8, by rw [hsucc, e1]; exact own8⟩
        · refine hJ _ _ ⟨x6, ?_⟩
          rw [hsucc, e1]
          simpa using own6
    · obtain ⟨q1, q2⟩ := hM'
      exact ⟨⟨i + 1, by simp, by omega, q1, q2⟩, by omega⟩
  · have hi' : i = n := by simp at hge; omega
    subst hi'
    exact hk _ _ P hPm (own6.low (by have := x1.size; have := x14.size; omega)) ((x1.trans x14).trans x6)
end Go.Proofs.Ytopflbjjbindkaa
