/- The reference's Table, walked. -/
import Derived.Test.YtopflbjjbindkaaN16
set_option linter.unusedVariables false
set_option linter.unusedSimpArgs false
namespace Go.Proofs.Ytopflbjjbindkaa
open Go.Hp Go.RowKit

def tabA (nn : List (List Int)) (i k : Nat) : Nat → Nat → Bool := fun x y => if x < i then wayB nn x y else if x = i then ((nn.getD i []).take k).contains (y : Int) else false
def tabN (E : Nat → Nat → Bool) (k i j : Nat) : Nat → Nat → Bool := fun x y => if x < i then Wk E (k + 1) x y else if x = i ∧ y < j then Wk E (k + 1) x y else Wk E k x y
theorem tabA_row (nn : List (List Int)) (i k y : Nat) : tabA nn i k i y = ((nn.getD i []).take k).contains (y : Int) := by
  unfold tabA
  rw [if_neg (Nat.lt_irrefl i), if_pos rfl]
theorem tabA_lt (nn : List (List Int)) {i x : Nat} (k y : Nat) (h : x < i) : tabA nn i k x y = wayB nn x y := by
  unfold tabA
  rw [if_pos h]
theorem tabN_i {E : Nat → Nat → Bool} {k i j : Nat} (y : Nat) (h : j ≤ y) : tabN E k i j i y = Wk E k i y := by
  unfold tabN
  rw [if_neg (by omega), if_neg (by omega)]
theorem tabN_in {E : Nat → Nat → Bool} {k i j : Nat} (y : Nat) (h : y < j) : tabN E k i j i y = Wk E (k + 1) i y := by
  unfold tabN
  rw [if_neg (by omega), if_pos ⟨rfl, h⟩]
theorem tabN_lt {E : Nat → Nat → Bool} {k i j x : Nat} (y : Nat) (h : x < i) : tabN E k i j x y = Wk E (k + 1) x y := by
  unfold tabN
  rw [if_pos h]
theorem tabN_gt {E : Nat → Nat → Bool} {k i j x : Nat} (y : Nat) (h : i < x) : tabN E k i j x y = Wk E k x y := by
  unfold tabN
  rw [if_neg (by omega), if_neg (by omega)]
theorem tabN_col {E : Nat → Nat → Bool} {k i j : Nat} : tabN E k i j i k = Wk E k i k := by
  unfold tabN
  rw [if_neg (by omega)]
  split
  · exact Wk_col E k i
  · rfl
theorem tabN_row {E : Nat → Nat → Bool} {k i j : Nat} (y : Nat) : tabN E k i j k y = Wk E k k y := by
  unfold tabN
  split
  · exact Wk_row E k y
  · split
    · exact Wk_row E k y
    · rfl
theorem tabN_upd {E : Nat → Nat → Bool} {k i j : Nat} (hc : Wk E k i k = true) {b : Bool} (hb : b = (Wk E k i j || Wk E k k j)) (x y : Nat) : upd2 (tabN E k i j) i j b x y = tabN E k i (j + 1) x y := by
  unfold upd2
  have hw : Wk E (k + 1) i j = b := by
    show (_ || (_ && _)) = _
    rw [hc, hb, Bool.true_and]
  by_cases hx : x = i
  · subst hx
    rw [if_pos rfl]
    by_cases hy : y = j
    · subst hy
      rw [if_pos rfl]
      unfold tabN
      rw [if_neg (by omega), if_pos (by omega)]
      exact hw.symm
    · rw [if_neg hy]
      unfold tabN
      have hxx : ¬ x < x := by omega
      simp only [if_neg hxx]
      by_cases hyj : y < j
      · rw [if_pos ⟨trivial, hyj⟩, if_pos ⟨trivial, by omega⟩]
      · rw [if_neg (by omega), if_neg (by omega)]
  · rw [if_neg hx]
    unfold tabN
    by_cases h1 : x < i
    · rw [if_pos h1, if_pos h1]
    · rw [if_neg h1, if_neg h1, if_neg (by omega), if_neg (by omega)]

theorem table_spec {h : Heap} {v : Value} {nn : List (List Int)} (N : NetAt h v nn) (hn : nn.length ≤ 1000000) (hr : ∀ l ∈ nn, l.length ≤ 1000000) {K : Value → Heap → Prop}
    (hk : ∀ h' v' M, TabAt h' h.size v' nn.length nn.length M → (∀ i j, i < nn.length → j < nn.length → (M i j = true ↔ Lead nn i j)) → Ext h h' → K v' h') : CallF Try.prog 48 #[v] h K := by
  apply S48
  unfold F48
  obtain ⟨n, hnn⟩ : ∃ n, nn.length = n := ⟨_, rfl⟩
  rw [hnn] at hk hn
  obtain ⟨A, cap, hv⟩ := SlR.len N
  rw [hnn] at hv
  rw [bs74_0]
  have T0 := tab0 (Nat.le_refl h.size) n (tabA nn 0 0)
  have x0 := (Ext.refl h).push (.cells #[] 76 (0, 0))
  generalize h.push (.cells #[] 76 (0, 0)) = h1 at T0 x0 ⊢
  refine ⟨fun x y hh => ∃ i : Nat, y = .int .i64 (i : Int) ∧ i ≤ n ∧ Ext h hh ∧ TabAt hh h.size x n i (tabA nn i 0), fun x y hh => match y with | .int _ i => n - i.toNat | _ => 0, ⟨0, rfl, Nat.zero_le _, x0, T0⟩, ?_⟩
  rintro js x y h3 ⟨i, rfl, hi, x3, T⟩
  rw [hv, ln37, b_lss, condP_bool]
  refine ⟨fun hlt => ?_, fun hge => ?_⟩
  · have hlt' : i < n := by simpa using hlt
    obtain ⟨b, o, cap', w, hv', hcw, sw⟩ := NetAt.row N (i := i) (by omega)
    rw [hnn, hv] at hv'
    injection hv' with e1 _ e3
    subst e1 e3
    obtain ⟨l, hl⟩ : ∃ l, nn[i] = l := ⟨_, rfl⟩
    have hlm : l.length ≤ 1000000 := by rw [← hl]; exact hr _ (List.getElem_mem (by omega))
    rw [hl] at sw
    have hgl : nn.getD i [] = l := by rw [List.getD_eq_getElem?_getD, List.getElem?_eq_getElem (by omega), hl]; rfl
    obtain ⟨Aw, cw, hw⟩ := SlR.len sw
    rw [ln37, mk76 _ (by omega) (by omega) (by omega), Int.toNat_natCast]
    have hrow : rowOf #[.bool false] (n * 1) = bools (rowB n (tabA nn i 0 i)) := by
      have e : rowB n (tabA nn i 0 i) = List.replicate n false := by
        apply List.ext_getElem?
        intro z
        by_cases hz : z < n
        · rw [rowB_get hz, List.getElem?_replicate, if_pos hz]
          unfold tabA
          rw [if_neg (by omega), if_pos rfl]
          rfl
        · rw [List.getElem?_eq_none (by simp [rowB]; omega), List.getElem?_eq_none (by simp; omega)]
      rw [e, Nat.mul_one, bools_rep]
      exact rowOf_one _ _
    rw [hrow]
    have x4 := (Ext.refl h3).push (.cells (bools (rowB n (tabA nn i 0 i))) 4 (0, 0))
    have p4 := push_new h3 (.cells (bools (rowB n (tabA nn i 0 i))) 4 (0, 0))
    generalize h3.push (.cells (bools (rowB n (tabA nn i 0 i))) 4 (0, 0)) = h4 at x4 p4 ⊢
    rw [bs74_1 (pl_slice _ _ _)]
    refine tab_push T x4 rfl p4 (by omega) x3 fun h5 v5 T5 x5 => ?_
    refine ⟨fun x hh => ∃ k : Nat, x = .int .i64 (k : Int) ∧ k ≤ l.length ∧ Ext h hh ∧ TabAt hh h.size v5 n (i + 1) (tabA nn i k), fun x hh => match x with | .int _ i => l.length - i.toNat | _ => 0, ⟨0, rfl, Nat.zero_le _, x5, T5⟩, ?_⟩
    rintro js2 x2 h6 ⟨k, rfl, hk6, x6, T6⟩
    have cw6 := cellH_ext x6 hcw
    have sw6 := sw.ext x6
    simp (disch := first | assumption | (with_reducible exact Ext.refl _) | (with_reducible exact Keep.refl _ _) | (with_reducible exact Eq.refl _) | (intro _ he; cases he; assumption) | (intro _ he; with_reducible apply keep_cell' he; assumption; simp; done) | (intro _ he; with_reducible apply ext_cell' he; assumption; done) | (with_reducible first | exact pl_int _ _ | exact pl_byte _ | exact pl_u32 _ | exact pl_bool _ | exact pl_ptr _ | exact pl_slice _ _ _ | exact pl_map _ | exact pl_str _ | exact pl_func _ _ _) | ((rw [okW_setH]; repeat rw [okW_setH]); assumption) | ((with_reducible refine cellH_setH_same ?_ _); (repeat rw [okW_setH]); assumption) | ((rw [cellH_setH_off]; rotate_left; focus decide); (repeat (rw [cellH_setH_off]; rotate_left; focus decide)); first | assumption | ((with_reducible refine cellH_setH_same ?_ _); (repeat rw [okW_setH]); assumption)) | omega) only [↓hpR, ↓nilC_ptr, ↓nilC_func, ↓condP_true, ↓condP_false, ↓condP_bool, ↓guardP_true, ↓guardP_false, ↓guardP_bool_t, ↓guardP_bool_f, ↓skipP_undef, ↓pickP_bool, ↓b_add, ↓b_sub, ↓b_mul, ↓b_quo, ↓b_rem, ↓b_lss, ↓b_leq, ↓b_gtr, ↓b_geq, ↓b_eql, ↓b_neq, ↓u_not, ↓s_add, ↓s_eql, ↓s_neq, ↓i_max2, ↓i_min2, ↓x20, ↓x21, ↓x30, ↓x31, ↓x32, ↓q_b_add, ↓q_b_sub, ↓q_b_mul, ↓q_b_quo, ↓q_b_rem, ↓q_b_lss, ↓q_b_leq, ↓q_b_gtr, ↓q_b_geq, ↓q_b_eql, ↓q_b_neq, ↓q_u_not, ↓q_s_add, ↓q_s_eql, ↓q_s_neq, ↓q_i_max2, ↓q_i_min2, ↓q_x20, ↓q_x21, ↓q_x30, ↓q_x31, ↓q_x32, ↓m_box, decide_true, decide_false, tt_and, ff_and, Nat.zero_add, Int.toNat_natCast, cells_agg, cells_bool, cells_int, cells_str, cells_ptr, cells_slice, ↓qend_eq, ↓jump_none, ↓jump_ret, ↓jump_exit, ↓marks_one, cond_true, cond_false, Bool.not_true, Bool.not_false, Nat.mul_one, hw]
    refine ⟨fun hlt2 => ?_, fun hge2 => ?_⟩
    · have hlt2' : k < l.length := by simpa using hlt2
      obtain ⟨t, hkt⟩ : ∃ t, l[k]? = some t := ⟨_, List.getElem?_eq_getElem hlt2'⟩
      obtain ⟨b2, o2, c2, ew, q2⟩ := SlI.cell sw6 (by omega)
      have r2 := q2 k _ hkt
      rw [hw] at ew
      injection ew with e1 _ _
      subst e1
      refine Join0.intro (fun hh => Ext h hh ∧ TabAt hh h.size v5 n (i + 1) (tabA nn i (k + 1))) (fun J hJ => ?_) (fun h7 hM => ?_)
      · simp (disch := first | assumption | (with_reducible exact Ext.refl _) | (with_reducible exact Keep.refl _ _) | (with_reducible exact Eq.refl _) | (intro _ he; cases he; assumption) | (intro _ he; with_reducible apply keep_cell' he; assumption; simp; done) | (intro _ he; with_reducible apply ext_cell' he; assumption; done) | (with_reducible first | exact pl_int _ _ | exact pl_byte _ | exact pl_u32 _ | exact pl_bool _ | exact pl_ptr _ | exact pl_slice _ _ _ | exact pl_map _ | exact pl_str _ | exact pl_func _ _ _) | ((rw [okW_setH]; repeat rw [okW_setH]); assumption) | ((with_reducible refine cellH_setH_same ?_ _); (repeat rw [okW_setH]); assumption) | ((rw [cellH_setH_off]; rotate_left; focus decide); (repeat (rw [cellH_setH_off]; rotate_left; focus decide)); first | assumption | ((with_reducible refine cellH_setH_same ?_ _); (repeat rw [okW_setH]); assumption)) | omega) only [↓hpR, ↓nilC_ptr, ↓nilC_func, ↓condP_true, ↓condP_false, ↓condP_bool, ↓guardP_true, ↓guardP_false, ↓guardP_bool_t, ↓guardP_bool_f, ↓skipP_undef, ↓pickP_bool, ↓b_add, ↓b_sub, ↓b_mul, ↓b_quo, ↓b_rem, ↓b_lss, ↓b_leq, ↓b_gtr, ↓b_geq, ↓b_eql, ↓b_neq, ↓u_not, ↓s_add, ↓s_eql, ↓s_neq, ↓i_max2, ↓i_min2, ↓x20, ↓x21, ↓x30, ↓x31, ↓x32, ↓q_b_add, ↓q_b_sub, ↓q_b_mul, ↓q_b_quo, ↓q_b_rem, ↓q_b_lss, ↓q_b_leq, ↓q_b_gtr, ↓q_b_geq, ↓q_b_eql, ↓q_b_neq, ↓q_u_not, ↓q_s_add, ↓q_s_eql, ↓q_s_neq, ↓q_i_max2, ↓q_i_min2, ↓q_x20, ↓q_x21, ↓q_x30, ↓q_x31, ↓q_x32, ↓m_box, decide_true, decide_false, tt_and, ff_and, Nat.zero_add, Int.toNat_natCast, cells_agg, cells_bool, cells_int, cells_str, cells_ptr, cells_slice, ↓qend_eq, ↓jump_none, ↓jump_ret, ↓jump_exit, ↓marks_one, cond_true, cond_false, Bool.not_true, Bool.not_false, Nat.mul_one, hw]
        refine Join1.intro (fun x hh => x = .bool (inB n t) ∧ hh = h6) (fun J1 hJ1 => ?_) (fun x7 h7 hM => ?_)
        · unfold inB at hJ1
          refine ⟨fun e => hJ1 _ _ ⟨by rw [e, Bool.true_and], rfl⟩, fun e => hJ1 _ _ ⟨by rw [e, Bool.false_and], rfl⟩⟩
        · obtain ⟨rfl, rfl⟩ := hM
          have htk : l.take (k + 1) = l.take k ++ [t] := by rw [List.take_add_one, hkt]; rfl
          rw [condP_bool]
          refine ⟨fun e => ?_, fun e => ?_⟩
          · unfold inB at e
            simp only [Bool.and_eq_true, decide_eq_true_eq] at e
            obtain ⟨t0, ht0⟩ : ∃ t0 : Nat, t = (t0 : Int) := ⟨t.toNat, by omega⟩
            subst ht0
            obtain ⟨g, cg, r, hv5, cg6, hBr, hrg, hBg, hcells, hset⟩ := T6.row (i := i) (by omega)
            have hw7 := (hcells t0 (by omega)).2
            simp (disch := first | assumption | (with_reducible exact Ext.refl _) | (with_reducible exact Keep.refl _ _) | (with_reducible exact Eq.refl _) | (intro _ he; cases he; assumption) | (intro _ he; with_reducible apply keep_cell' he; assumption; simp; done) | (intro _ he; with_reducible apply ext_cell' he; assumption; done) | (with_reducible first | exact pl_int _ _ | exact pl_byte _ | exact pl_u32 _ | exact pl_bool _ | exact pl_ptr _ | exact pl_slice _ _ _ | exact pl_map _ | exact pl_str _ | exact pl_func _ _ _) | ((rw [okW_setH]; repeat rw [okW_setH]); assumption) | ((with_reducible refine cellH_setH_same ?_ _); (repeat rw [okW_setH]); assumption) | ((rw [cellH_setH_off]; rotate_left; focus decide); (repeat (rw [cellH_setH_off]; rotate_left; focus decide)); first | assumption | ((with_reducible refine cellH_setH_same ?_ _); (repeat rw [okW_setH]); assumption)) | omega) only [↓hpR, ↓nilC_ptr, ↓nilC_func, ↓condP_true, ↓condP_false, ↓condP_bool, ↓guardP_true, ↓guardP_false, ↓guardP_bool_t, ↓guardP_bool_f, ↓skipP_undef, ↓pickP_bool, ↓b_add, ↓b_sub, ↓b_mul, ↓b_quo, ↓b_rem, ↓b_lss, ↓b_leq, ↓b_gtr, ↓b_geq, ↓b_eql, ↓b_neq, ↓u_not, ↓s_add, ↓s_eql, ↓s_neq, ↓i_max2, ↓i_min2, ↓x20, ↓x21, ↓x30, ↓x31, ↓x32, ↓q_b_add, ↓q_b_sub, ↓q_b_mul, ↓q_b_quo, ↓q_b_rem, ↓q_b_lss, ↓q_b_leq, ↓q_b_gtr, ↓q_b_geq, ↓q_b_eql, ↓q_b_neq, ↓q_u_not, ↓q_s_add, ↓q_s_eql, ↓q_s_neq, ↓q_i_max2, ↓q_i_min2, ↓q_x20, ↓q_x21, ↓q_x30, ↓q_x31, ↓q_x32, ↓m_box, decide_true, decide_false, tt_and, ff_and, Nat.zero_add, Int.toNat_natCast, cells_agg, cells_bool, cells_int, cells_str, cells_ptr, cells_slice, ↓qend_eq, ↓jump_none, ↓jump_ret, ↓jump_exit, ↓marks_one, cond_true, cond_false, Bool.not_true, Bool.not_false, hv5, Nat.mul_one]
            refine hJ _ ⟨Only.fresh x6 (setH_only (S := [r]) (Only.refl _ _) (.inl (by simp)) _ _) (by simpa using hBr), (hset t0 true (by omega)).congr fun a c ha hc => ?_⟩
            unfold upd2
            by_cases hai : a = i
            · subst hai
              rw [if_pos rfl, tabA_row, tabA_row, hgl, htk]
              by_cases hct : c = t0
              · subst hct
                rw [if_pos rfl]
                simp
              · rw [if_neg hct]
                have hne : ¬ (c : Int) = (t0 : Int) := by omega
                simp [hne]
            · rw [if_neg hai, tabA_lt _ _ _ (by omega), tabA_lt _ _ _ (by omega)]
          · refine hJ _ ⟨x6, T6.congr fun a c ha hc => ?_⟩
            by_cases hai : a = i
            · subst hai
              rw [tabA_row, tabA_row, hgl, htk]
              unfold inB at e
              have hne : ¬ (c : Int) = t := by
                intro h
                subst h
                simp at e
                omega
              simp [hne]
            · rw [tabA_lt _ _ _ (by omega), tabA_lt _ _ _ (by omega)]
      · obtain ⟨q1, q2⟩ := hM
        exact ⟨⟨k + 1, by simp, by omega, q1, q2⟩, by omega⟩
    · have hk' : k = l.length := by simp at hge2; omega
      subst hk'
      refine ⟨⟨i + 1, by simp, by omega, x6, T6.congr fun a c ha hc => ?_⟩, by omega⟩
      by_cases hai : a = i
      · subst hai
        rw [tabA_row, tabA_lt _ _ _ (by omega), hgl, List.take_of_length_le (Nat.le_refl _)]
        unfold wayB waysL
        rw [hgl, hnn]
        have : inB n (c : Int) = true := by unfold inB; simp; omega
        have e : ∀ (p q : Bool), (p = true ↔ q = true) → p = q := fun p q h => by cases p <;> cases q <;> simp_all
        apply e
        simp [this]
      · rw [tabA_lt _ _ _ (by omega), tabA_lt _ _ _ (by omega)]
  · have hi' : i = n := by simp at hge; omega
    subst hi'
    have T2 : TabAt h3 h.size x i i (Wk (wayB nn) 0) := T.congr fun a c ha hc => by unfold tabA; rw [if_pos ha]; rfl
    clear T hge hi
    refine ⟨fun y hh => ∃ k : Nat, y = .int .i64 (k : Int) ∧ k ≤ i ∧ Ext h hh ∧ TabAt hh h.size x i i (Wk (wayB nn) k), fun y hh => match y with | .int _ k => i - k.toNat | _ => 0, ⟨0, rfl, Nat.zero_le _, x3, T2⟩, ?_⟩
    rintro js2 y2 h4 ⟨k, rfl, hk4, x4, T4⟩
    rw [ln37, b_lss, condP_bool]
    refine ⟨fun hlt => ?_, fun hge => ?_⟩
    · have hkn : k < i := by simpa using hlt
      refine ⟨fun y hh => ∃ a : Nat, y = .int .i64 (a : Int) ∧ a ≤ i ∧ Ext h hh ∧ TabAt hh h.size x i i (tabN (wayB nn) k a 0), fun y hh => match y with | .int _ a => i - a.toNat | _ => 0,
        ⟨0, rfl, Nat.zero_le _, x4, T4.congr fun a c ha hc => by unfold tabN; rw [if_neg (by omega), if_neg (by omega)]⟩, ?_⟩
      rintro js3 y3 h5 ⟨a, rfl, ha, x5, T5⟩
      rw [ln37, b_lss, condP_bool]
      refine ⟨fun hlt3 => ?_, fun hge3 => ?_⟩
      · have han : a < i := by simpa using hlt3
        refine ⟨fun y hh => ∃ j : Nat, y = .int .i64 (j : Int) ∧ j ≤ i ∧ Ext h hh ∧ TabAt hh h.size x i i (tabN (wayB nn) k a j) ∧ (Wk (wayB nn) k a k = false → j = 0), fun y hh => match y with | .int _ j => i - j.toNat | _ => 0,
          ⟨0, rfl, Nat.zero_le _, x5, T5, fun _ => rfl⟩, ?_⟩
        rintro js4 y4 h6 ⟨j, rfl, hj, x6, T6, hj0⟩
        obtain ⟨g, cg, r, hvx, cga, hBr, hrg, hBg, hcells, hset⟩ := T6.row han
        obtain ⟨g', cg', rk, hvx', cgk, hBk, hkg, _, hcellsk, _⟩ := T6.row hkn
        rw [hvx] at hvx'
        injection hvx' with e1 _ e3
        injection e1 with e1
        injection e1 with e1
        subst e1 e3
        have hc1 := (hcells k hkn).1
        rw [tabN_col] at hc1
        refine Join1.intro (fun y hh => y = .bool (decide ((j : Int) < (i : Int)) && Wk (wayB nn) k a k) ∧ hh = h6) (fun J hJ => ?_) (fun y7 h7 hM => ?_)
        · simp (disch := first | assumption | (with_reducible exact Ext.refl _) | (with_reducible exact Keep.refl _ _) | (with_reducible exact Eq.refl _) | (intro _ he; cases he; assumption) | (intro _ he; with_reducible apply keep_cell' he; assumption; simp; done) | (intro _ he; with_reducible apply ext_cell' he; assumption; done) | (with_reducible first | exact pl_int _ _ | exact pl_byte _ | exact pl_u32 _ | exact pl_bool _ | exact pl_ptr _ | exact pl_slice _ _ _ | exact pl_map _ | exact pl_str _ | exact pl_func _ _ _) | ((rw [okW_setH]; repeat rw [okW_setH]); assumption) | ((with_reducible refine cellH_setH_same ?_ _); (repeat rw [okW_setH]); assumption) | ((rw [cellH_setH_off]; rotate_left; focus decide); (repeat (rw [cellH_setH_off]; rotate_left; focus decide)); first | assumption | ((with_reducible refine cellH_setH_same ?_ _); (repeat rw [okW_setH]); assumption)) | omega) only [↓hpR, ↓nilC_ptr, ↓nilC_func, ↓condP_true, ↓condP_false, ↓condP_bool, ↓guardP_true, ↓guardP_false, ↓guardP_bool_t, ↓guardP_bool_f, ↓skipP_undef, ↓pickP_bool, ↓b_add, ↓b_sub, ↓b_mul, ↓b_quo, ↓b_rem, ↓b_lss, ↓b_leq, ↓b_gtr, ↓b_geq, ↓b_eql, ↓b_neq, ↓u_not, ↓s_add, ↓s_eql, ↓s_neq, ↓i_max2, ↓i_min2, ↓x20, ↓x21, ↓x30, ↓x31, ↓x32, ↓q_b_add, ↓q_b_sub, ↓q_b_mul, ↓q_b_quo, ↓q_b_rem, ↓q_b_lss, ↓q_b_leq, ↓q_b_gtr, ↓q_b_geq, ↓q_b_eql, ↓q_b_neq, ↓q_u_not, ↓q_s_add, ↓q_s_eql, ↓q_s_neq, ↓q_i_max2, ↓q_i_min2, ↓q_x20, ↓q_x21, ↓q_x30, ↓q_x31, ↓q_x32, ↓m_box, decide_true, decide_false, tt_and, ff_and, Nat.zero_add, Int.toNat_natCast, cells_agg, cells_bool, cells_int, cells_str, cells_ptr, cells_slice, ↓qend_eq, ↓jump_none, ↓jump_ret, ↓jump_exit, ↓marks_one, cond_true, cond_false, Bool.not_true, Bool.not_false, hvx, Nat.mul_one]
          exact ⟨fun e => hJ _ _ ⟨by rw [e, Bool.true_and], rfl⟩, fun e => hJ _ _ ⟨by rw [e, Bool.false_and], rfl⟩⟩
        · obtain ⟨rfl, rfl⟩ := hM
          rw [condP_bool]
          refine ⟨fun e => ?_, fun e => ?_⟩
          · simp only [Bool.and_eq_true, decide_eq_true_eq] at e
            have hjn : j < i := by omega
            have hcond := e.2
            refine Join0.intro (fun hh => Ext h hh ∧ TabAt hh h.size x i i (tabN (wayB nn) k a (j + 1))) (fun J hJ => ?_) (fun h8 hM => ?_)
            · have hd1 := (hcells j hjn).1
              have hw1 := (hcells j hjn).2
              rw [tabN_i j (Nat.le_refl _)] at hd1
              have hd2 := (hcellsk j hjn).1
              rw [tabN_row] at hd2
              refine ⟨fun h' => cellH h' g a = some (.slice (some ⟨r, 0, none⟩) i i) ∧ cellH h' g k = some (.slice (some ⟨rk, 0, none⟩) i i) ∧ cellH h' rk j = some (.bool (Wk (wayB nn) k k j)), ⟨cga, cgk, hd2⟩, ?_⟩
              obtain ⟨S, hS⟩ : ∃ S : Heap → Prop, S = fun h' => cellH h' g a = some (.slice (some ⟨r, 0, none⟩) i i) ∧ cellH h' g k = some (.slice (some ⟨rk, 0, none⟩) i i) ∧ cellH h' rk j = some (.bool (Wk (wayB nn) k k j)) := ⟨_, rfl⟩
              rw [← hS]
              have hC : S h7 := by rw [hS]; exact ⟨cga, cgk, hd2⟩
              have s1 : ∀ h', S h' → cellH h' g (0 + a) = some (.slice (some ⟨r, 0, none⟩) i i) := fun h' q => by rw [hS] at q; rw [Nat.zero_add]; exact q.1
              have s2 : ∀ h', S h' → cellH h' g (0 + k) = some (.slice (some ⟨rk, 0, none⟩) i i) := fun h' q => by rw [hS] at q; rw [Nat.zero_add]; exact q.2.1
              have s3 : ∀ h', S h' → cellH h' rk (0 + j) = some (.bool (Wk (wayB nn) k k j)) := fun h' q => by rw [hS] at q; rw [Nat.zero_add]; exact q.2.2
              have hfin : ∀ b : Bool, b = (Wk (wayB nn) k a j || Wk (wayB nn) k k j) → S (setH h7 r j (.bool b)) ∧ J (setH h7 r j (.bool b)) := by
                intro b hb
                have o7 : Only [r] h7 (setH h7 r j (.bool b)) := setH_only (Only.refl _ _) (.inl (by simp)) _ _
                have T8 := (hset j b hjn).congr fun u w _ _ => tabN_upd hcond hb u w
                have n1 : g ∉ [r] := by simpa using fun e => hrg e.symm
                have k2 := cellH_only o7 cgk n1
                refine ⟨?_, hJ _ ⟨Only.fresh x6 o7 (by simpa using hBr), T8⟩⟩
                rw [hS]
                refine ⟨cellH_only o7 cga n1, k2, ?_⟩
                obtain ⟨g2, cg2, r2, hv2, ck2, _, _, _, hc2, _⟩ := T8.row hkn
                rw [hvx] at hv2
                injection hv2 with f1 _ _
                injection f1 with f1
                injection f1 with f1
                subst f1
                rw [k2] at ck2
                injection ck2 with ck2
                injection ck2 with f1 _ _
                injection f1 with f1
                injection f1 with f1
                subst f1
                have := (hc2 j hjn).1
                rw [tabN_row] at this
                exact this
              rw [hvx, qix74 hC _ _ _ _ _ (by omega) (by omega)]
              simp only [Int.toNat_natCast, Nat.mul_one]
              rw [qld76 hC s1, qix74 hC _ _ _ _ _ (by omega) (by omega)]
              simp only [Int.toNat_natCast, Nat.mul_one]
              rw [qld76 hC s1, qix76 hC _ _ _ _ _ (by omega) (by omega)]
              simp only [Int.toNat_natCast, Nat.mul_one, Nat.zero_add]
              rw [ld4 hd1]
              refine ⟨hC, ?_⟩
              cases hb : Wk (wayB nn) k a j with
              | false =>
                show QV Try.prog S _ _
                rw [qix74 hC _ _ _ _ _ (by omega) (by omega)]
                simp only [Int.toNat_natCast, Nat.mul_one]
                rw [qld76 hC s2, qix76 hC _ _ _ _ _ (by omega) (by omega)]
                simp only [Int.toNat_natCast, Nat.mul_one]
                rw [qld4 hC s3, qix76 hC _ _ _ _ _ (by omega) (by omega)]
                simp only [Int.toNat_natCast, Nat.mul_one, Nat.zero_add]
                rw [st4 (pl_bool _) hw1]
                exact hfin _ (by rw [hb, Bool.false_or])
              | true =>
                show QV Try.prog S _ _
                rw [qix76 hC _ _ _ _ _ (by omega) (by omega)]
                simp only [Int.toNat_natCast, Nat.mul_one, Nat.zero_add]
                rw [st4 (pl_bool _) hw1]
                exact hfin _ (by rw [hb, Bool.true_or])
            · obtain ⟨q1, q2⟩ := hM
              simp (disch := first | assumption | (with_reducible exact Ext.refl _) | (with_reducible exact Keep.refl _ _) | (with_reducible exact Eq.refl _) | (intro _ he; cases he; assumption) | (intro _ he; with_reducible apply keep_cell' he; assumption; simp; done) | (intro _ he; with_reducible apply ext_cell' he; assumption; done) | (with_reducible first | exact pl_int _ _ | exact pl_byte _ | exact pl_u32 _ | exact pl_bool _ | exact pl_ptr _ | exact pl_slice _ _ _ | exact pl_map _ | exact pl_str _ | exact pl_func _ _ _) | ((rw [okW_setH]; repeat rw [okW_setH]); assumption) | ((with_reducible refine cellH_setH_same ?_ _); (repeat rw [okW_setH]); assumption) | ((rw [cellH_setH_off]; rotate_left; focus decide); (repeat (rw [cellH_setH_off]; rotate_left; focus decide)); first | assumption | ((with_reducible refine cellH_setH_same ?_ _); (repeat rw [okW_setH]); assumption)) | omega) only [↓hpR, ↓nilC_ptr, ↓nilC_func, ↓condP_true, ↓condP_false, ↓condP_bool, ↓guardP_true, ↓guardP_false, ↓guardP_bool_t, ↓guardP_bool_f, ↓skipP_undef, ↓pickP_bool, ↓b_add, ↓b_sub, ↓b_mul, ↓b_quo, ↓b_rem, ↓b_lss, ↓b_leq, ↓b_gtr, ↓b_geq, ↓b_eql, ↓b_neq, ↓u_not, ↓s_add, ↓s_eql, ↓s_neq, ↓i_max2, ↓i_min2, ↓x20, ↓x21, ↓x30, ↓x31, ↓x32, ↓q_b_add, ↓q_b_sub, ↓q_b_mul, ↓q_b_quo, ↓q_b_rem, ↓q_b_lss, ↓q_b_leq, ↓q_b_gtr, ↓q_b_geq, ↓q_b_eql, ↓q_b_neq, ↓q_u_not, ↓q_s_add, ↓q_s_eql, ↓q_s_neq, ↓q_i_max2, ↓q_i_min2, ↓q_x20, ↓q_x21, ↓q_x30, ↓q_x31, ↓q_x32, ↓m_box, decide_true, decide_false, tt_and, ff_and, Nat.zero_add, Int.toNat_natCast, cells_agg, cells_bool, cells_int, cells_str, cells_ptr, cells_slice, ↓qend_eq, ↓jump_none, ↓jump_ret, ↓jump_exit, ↓marks_one, cond_true, cond_false, Bool.not_true, Bool.not_false]
              refine ⟨⟨j + 1, by simp, by omega, q1, q2, fun h => by rw [hcond] at h; cases h⟩, ?_⟩
              omega
          · simp (disch := first | assumption | (with_reducible exact Ext.refl _) | (with_reducible exact Keep.refl _ _) | (with_reducible exact Eq.refl _) | (intro _ he; cases he; assumption) | (intro _ he; with_reducible apply keep_cell' he; assumption; simp; done) | (intro _ he; with_reducible apply ext_cell' he; assumption; done) | (with_reducible first | exact pl_int _ _ | exact pl_byte _ | exact pl_u32 _ | exact pl_bool _ | exact pl_ptr _ | exact pl_slice _ _ _ | exact pl_map _ | exact pl_str _ | exact pl_func _ _ _) | ((rw [okW_setH]; repeat rw [okW_setH]); assumption) | ((with_reducible refine cellH_setH_same ?_ _); (repeat rw [okW_setH]); assumption) | ((rw [cellH_setH_off]; rotate_left; focus decide); (repeat (rw [cellH_setH_off]; rotate_left; focus decide)); first | assumption | ((with_reducible refine cellH_setH_same ?_ _); (repeat rw [okW_setH]); assumption)) | omega) only [↓hpR, ↓nilC_ptr, ↓nilC_func, ↓condP_true, ↓condP_false, ↓condP_bool, ↓guardP_true, ↓guardP_false, ↓guardP_bool_t, ↓guardP_bool_f, ↓skipP_undef, ↓pickP_bool, ↓b_add, ↓b_sub, ↓b_mul, ↓b_quo, ↓b_rem, ↓b_lss, ↓b_leq, ↓b_gtr, ↓b_geq, ↓b_eql, ↓b_neq, ↓u_not, ↓s_add, ↓s_eql, ↓s_neq, ↓i_max2, ↓i_min2, ↓x20, ↓x21, ↓x30, ↓x31, ↓x32, ↓q_b_add, ↓q_b_sub, ↓q_b_mul, ↓q_b_quo, ↓q_b_rem, ↓q_b_lss, ↓q_b_leq, ↓q_b_gtr, ↓q_b_geq, ↓q_b_eql, ↓q_b_neq, ↓q_u_not, ↓q_s_add, ↓q_s_eql, ↓q_s_neq, ↓q_i_max2, ↓q_i_min2, ↓q_x20, ↓q_x21, ↓q_x30, ↓q_x31, ↓q_x32, ↓m_box, decide_true, decide_false, tt_and, ff_and, Nat.zero_add, Int.toNat_natCast, cells_agg, cells_bool, cells_int, cells_str, cells_ptr, cells_slice, ↓qend_eq, ↓jump_none, ↓jump_ret, ↓jump_exit, ↓marks_one, cond_true, cond_false, Bool.not_true, Bool.not_false]
            refine ⟨⟨a + 1, by simp, by omega, x6, T6.congr fun u w hu hw => ?_⟩, ?_⟩
            · by_cases hua : u = a
              · subst hua
                rw [tabN_lt (i := u + 1) (j := 0) w (by omega)]
                cases hc : Wk (wayB nn) k u k with
                | true =>
                  rw [hc, Bool.and_true] at e
                  have : j = i := by simp at e; omega
                  subst this
                  exact tabN_in _ hw
                | false =>
                  rw [hj0 hc, tabN_i _ (Nat.zero_le _)]
                  show _ = (_ || (_ && _))
                  rw [hc, Bool.false_and, Bool.or_false]
              · by_cases hlt : u < a
                · rw [tabN_lt (i := a) (j := j) w hlt, tabN_lt (i := a + 1) (j := 0) w (by omega)]
                · rw [tabN_gt (i := a) (j := j) w (by omega)]
                  by_cases hu1 : u = a + 1
                  · subst hu1
                    rw [tabN_i _ (Nat.zero_le _)]
                  · rw [tabN_gt (i := a + 1) (j := 0) w (by omega)]
            · omega
      · have ha' : a = i := by simp at hge3; omega
        subst ha'
        simp (disch := first | assumption | (with_reducible exact Ext.refl _) | (with_reducible exact Keep.refl _ _) | (with_reducible exact Eq.refl _) | (intro _ he; cases he; assumption) | (intro _ he; with_reducible apply keep_cell' he; assumption; simp; done) | (intro _ he; with_reducible apply ext_cell' he; assumption; done) | (with_reducible first | exact pl_int _ _ | exact pl_byte _ | exact pl_u32 _ | exact pl_bool _ | exact pl_ptr _ | exact pl_slice _ _ _ | exact pl_map _ | exact pl_str _ | exact pl_func _ _ _) | ((rw [okW_setH]; repeat rw [okW_setH]); assumption) | ((with_reducible refine cellH_setH_same ?_ _); (repeat rw [okW_setH]); assumption) | ((rw [cellH_setH_off]; rotate_left; focus decide); (repeat (rw [cellH_setH_off]; rotate_left; focus decide)); first | assumption | ((with_reducible refine cellH_setH_same ?_ _); (repeat rw [okW_setH]); assumption)) | omega) only [↓hpR, ↓nilC_ptr, ↓nilC_func, ↓condP_true, ↓condP_false, ↓condP_bool, ↓guardP_true, ↓guardP_false, ↓guardP_bool_t, ↓guardP_bool_f, ↓skipP_undef, ↓pickP_bool, ↓b_add, ↓b_sub, ↓b_mul, ↓b_quo, ↓b_rem, ↓b_lss, ↓b_leq, ↓b_gtr, ↓b_geq, ↓b_eql, ↓b_neq, ↓u_not, ↓s_add, ↓s_eql, ↓s_neq, ↓i_max2, ↓i_min2, ↓x20, ↓x21, ↓x30, ↓x31, ↓x32, ↓q_b_add, ↓q_b_sub, ↓q_b_mul, ↓q_b_quo, ↓q_b_rem, ↓q_b_lss, ↓q_b_leq, ↓q_b_gtr, ↓q_b_geq, ↓q_b_eql, ↓q_b_neq, ↓q_u_not, ↓q_s_add, ↓q_s_eql, ↓q_s_neq, ↓q_i_max2, ↓q_i_min2, ↓q_x20, ↓q_x21, ↓q_x30, ↓q_x31, ↓q_x32, ↓m_box, decide_true, decide_false, tt_and, ff_and, Nat.zero_add, Int.toNat_natCast, cells_agg, cells_bool, cells_int, cells_str, cells_ptr, cells_slice, ↓qend_eq, ↓jump_none, ↓jump_ret, ↓jump_exit, ↓marks_one, cond_true, cond_false, Bool.not_true, Bool.not_false]
        refine ⟨⟨k + 1, by simp, by omega, x5, T5.congr fun u w hu hw => ?_⟩, ?_⟩
        · unfold tabN
          rw [if_pos hu]
        · omega
    · have hk' : k = i := by simp at hge; omega
      subst hk'
      refine hk h4 x _ T4 (fun a c ha hc => ?_) x4
      rw [← hnn]
      exact ⟨Wk_lead _, lead_Wk⟩
end Go.Proofs.Ytopflbjjbindkaa
