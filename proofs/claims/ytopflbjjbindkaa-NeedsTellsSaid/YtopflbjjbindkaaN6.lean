/- Large; the net of needs. -/
import Derived.Test.YtopflbjjbindkaaN5
set_option linter.unusedVariables false
set_option linter.unusedSimpArgs false
namespace Go.Proofs.Ytopflbjjbindkaa
open Go.Hp Go.RowKit

abbrev NetAt (h : Heap) (v : Value) (nn : List (List Int)) : Prop := SlR 1 (fun cs x => ∃ w, cs = [w] ∧ SlI h w x) h v nn
theorem NetAt.ext {h h' : Heap} {v : Value} {nn : List (List Int)} (N : NetAt h v nn) (x : Ext h h') : NetAt h' v nn := SlR.mono N x fun cs y _ ⟨w, e, s⟩ => ⟨w, e, s.ext x⟩
theorem NetAt.row {h : Heap} {v : Value} {nn : List (List Int)} (N : NetAt h v nn) {i : Nat} (hi : i < nn.length) : ∃ b o cap w, v = .slice (some ⟨b, o, none⟩) nn.length cap ∧ cellH h b (o + i) = some w ∧ SlI h w nn[i] := by
  obtain ⟨b, o, cap, e, hr⟩ := SlR.get N (by omega)
  obtain ⟨cs, h1, ⟨w, rfl, s⟩, h3⟩ := hr i _ (List.getElem?_eq_getElem hi)
  exact ⟨b, o, cap, w, e, by have := h3 0 w rfl; simpa using this, s⟩

def largeB (a b : Nat) : Bool := decide ((20 : Int) < (a : Int)) || decide ((150 : Int) < (b : Int))
theorem large_spec {h : Heap} {A B : Option Addr} {a b ca cb : Nat} {K : Value → Heap → Prop} (hk : ∀ h', Ext h h' → K (.bool (largeB a b)) h') : CallF Try.prog 8 #[.agg #[.slice A a ca, .slice B b cb]] h K := by
  apply S8
  unfold F8
  refine box_step fun h1 x1 z1 p1 => ?_
  simp only [cells_agg] at p1
  have c0 : cellH h1 h.size 0 = some (.slice A a ca) := by rw [cellH_of p1]; rfl
  have c1 : cellH h1 h.size 1 = some (.slice B b cb) := by rw [cellH_of p1]; rfl
  have := hk h1 x1
  unfold largeB at this
  simp (disch := first | assumption | (with_reducible exact Ext.refl _) | (with_reducible exact Keep.refl _ _) | (with_reducible exact Eq.refl _) | (intro _ he; cases he; assumption) | (intro _ he; with_reducible apply keep_cell' he; assumption; simp; done) | (intro _ he; with_reducible apply ext_cell' he; assumption; done) | (with_reducible first | exact pl_int _ _ | exact pl_byte _ | exact pl_u32 _ | exact pl_bool _ | exact pl_ptr _ | exact pl_slice _ _ _ | exact pl_map _ | exact pl_str _ | exact pl_func _ _ _) | ((rw [okW_setH]; repeat rw [okW_setH]); assumption) | ((with_reducible refine cellH_setH_same ?_ _); (repeat rw [okW_setH]); assumption) | ((rw [cellH_setH_off]; rotate_left; focus decide); (repeat (rw [cellH_setH_off]; rotate_left; focus decide)); first | assumption | ((with_reducible refine cellH_setH_same ?_ _); (repeat rw [okW_setH]); assumption)) | omega) only [↓hpR, ↓nilC_ptr, ↓nilC_func, ↓condP_true, ↓condP_false, ↓condP_bool, ↓guardP_true, ↓guardP_false, ↓guardP_bool_t, ↓guardP_bool_f, ↓skipP_undef, ↓pickP_bool, ↓b_add, ↓b_sub, ↓b_mul, ↓b_quo, ↓b_rem, ↓b_lss, ↓b_leq, ↓b_gtr, ↓b_geq, ↓b_eql, ↓b_neq, ↓u_not, ↓s_add, ↓s_eql, ↓s_neq, ↓i_max2, ↓i_min2, ↓x20, ↓x21, ↓x30, ↓x31, ↓x32, ↓q_b_add, ↓q_b_sub, ↓q_b_mul, ↓q_b_quo, ↓q_b_rem, ↓q_b_lss, ↓q_b_leq, ↓q_b_gtr, ↓q_b_geq, ↓q_b_eql, ↓q_b_neq, ↓q_u_not, ↓q_s_add, ↓q_s_eql, ↓q_s_neq, ↓q_i_max2, ↓q_i_min2, ↓q_x20, ↓q_x21, ↓q_x30, ↓q_x31, ↓q_x32, ↓m_box, decide_true, decide_false, tt_and, ff_and, Nat.zero_add, Int.toNat_natCast, cells_agg, cells_bool, cells_int, cells_str, cells_ptr, cells_slice, ↓qend_eq, ↓jump_none, ↓jump_ret, ↓jump_exit, ↓marks_one, cond_true, cond_false, Bool.not_true, Bool.not_false]
  refine ⟨fun e => ?_, fun e => ?_⟩
  · rw [e, Bool.true_or] at this
    exact this
  · rw [e, Bool.false_or] at this
    exact this

def needsI (f : FlatT) (i : Nat) : List Int := joinL (blocksL f (i : Int)) (callsL f (i : Int))
def netL (f : FlatT) : List (List Int) := (List.range f.ev.length).map (needsI f)
theorem netL_length (f : FlatT) : (netL f).length = f.ev.length := by simp [netL]
theorem net_spec {h : Heap} {ve vt : Value} {f : FlatT} (F : FlatAt h ve vt f) {K : Value → Heap → Prop} (hk : ∀ h' v, NetAt h' v (netL f) → Ext h h' → K v h') : CallF Try.prog 16 #[.agg #[ve, vt]] h K := by
  apply S16
  unfold F16
  have hne := F.ne
  refine box_step fun h1 x1 z1 p1 => ?_
  simp only [cells_agg] at p1
  obtain ⟨A, cap, hve⟩ := F.ev.len
  have c1 : cellH h1 h.size 0 = some ve := by rw [cellH_of p1]; rfl
  simp (disch := first | assumption | (with_reducible exact Ext.refl _) | (with_reducible exact Keep.refl _ _) | (with_reducible exact Eq.refl _) | (intro _ he; cases he; assumption) | (intro _ he; with_reducible apply keep_cell' he; assumption; simp; done) | (intro _ he; with_reducible apply ext_cell' he; assumption; done) | (with_reducible first | exact pl_int _ _ | exact pl_byte _ | exact pl_u32 _ | exact pl_bool _ | exact pl_ptr _ | exact pl_slice _ _ _ | exact pl_map _ | exact pl_str _ | exact pl_func _ _ _) | ((rw [okW_setH]; repeat rw [okW_setH]); assumption) | ((with_reducible refine cellH_setH_same ?_ _); (repeat rw [okW_setH]); assumption) | ((rw [cellH_setH_off]; rotate_left; focus decide); (repeat (rw [cellH_setH_off]; rotate_left; focus decide)); first | assumption | ((with_reducible refine cellH_setH_same ?_ _); (repeat rw [okW_setH]); assumption)) | omega) only [↓hpR, ↓nilC_ptr, ↓nilC_func, ↓condP_true, ↓condP_false, ↓condP_bool, ↓guardP_true, ↓guardP_false, ↓guardP_bool_t, ↓guardP_bool_f, ↓skipP_undef, ↓pickP_bool, ↓b_add, ↓b_sub, ↓b_mul, ↓b_quo, ↓b_rem, ↓b_lss, ↓b_leq, ↓b_gtr, ↓b_geq, ↓b_eql, ↓b_neq, ↓u_not, ↓s_add, ↓s_eql, ↓s_neq, ↓i_max2, ↓i_min2, ↓x20, ↓x21, ↓x30, ↓x31, ↓x32, ↓q_b_add, ↓q_b_sub, ↓q_b_mul, ↓q_b_quo, ↓q_b_rem, ↓q_b_lss, ↓q_b_leq, ↓q_b_gtr, ↓q_b_geq, ↓q_b_eql, ↓q_b_neq, ↓q_u_not, ↓q_s_add, ↓q_s_eql, ↓q_s_neq, ↓q_i_max2, ↓q_i_min2, ↓q_x20, ↓q_x21, ↓q_x30, ↓q_x31, ↓q_x32, ↓m_box, decide_true, decide_false, tt_and, ff_and, Nat.zero_add, Int.toNat_natCast, cells_agg, cells_bool, cells_int, cells_str, cells_ptr, cells_slice, ↓qend_eq, ↓jump_none, ↓jump_ret, ↓jump_exit, ↓marks_one, cond_true, cond_false, Bool.not_true, Bool.not_false, hve]
  have hrow : rowOf #[.slice none 0 0] (f.ev.length * 1) = Array.replicate f.ev.length (.slice none 0 0) := by rw [Nat.mul_one]; exact rowOf_one _ _
  rw [hrow]
  have x2 := (Ext.refl h1).push (.cells (Array.replicate f.ev.length (.slice none 0 0)) 33 (0, 0))
  have p2 := push_new h1 (.cells (Array.replicate f.ev.length (.slice none 0 0)) 33 (0, 0))
  have z2 : (h1.push (.cells (Array.replicate f.ev.length (.slice none 0 0)) 33 (0, 0))).size = h1.size + 1 := by simp
  generalize h1.push (.cells (Array.replicate f.ev.length (.slice none 0 0)) 33 (0, 0)) = h2 at x2 p2 z2 ⊢
  refine ⟨fun x hh => ∃ i : Nat, x = .int .i64 (i : Int) ∧ i ≤ f.ev.length ∧ Ext h1 hh ∧ h1.size < hh.size ∧ ∃ cur : Array Value, hh[h1.size]? = some (.cells cur 33 (0, 0)) ∧ cur.size = f.ev.length ∧ ∀ j, j < i → ∃ w, cur[j]? = some w ∧ OwnI hh (h1.size + 1) w (needsI f j), fun x hh => match x with | .int _ i => f.ev.length - i.toNat | _ => 0, ⟨0, rfl, Nat.zero_le _, x2, by omega, _, p2, by simp, fun j hj => absurd hj (Nat.not_lt_zero _)⟩, ?_⟩
  rintro js x h3 ⟨i, rfl, hi, x3, z3, cur, p3, hcs, hrows⟩
  simp (disch := first | assumption | (with_reducible exact Ext.refl _) | (with_reducible exact Keep.refl _ _) | (with_reducible exact Eq.refl _) | (intro _ he; cases he; assumption) | (intro _ he; with_reducible apply keep_cell' he; assumption; simp; done) | (intro _ he; with_reducible apply ext_cell' he; assumption; done) | (with_reducible first | exact pl_int _ _ | exact pl_byte _ | exact pl_u32 _ | exact pl_bool _ | exact pl_ptr _ | exact pl_slice _ _ _ | exact pl_map _ | exact pl_str _ | exact pl_func _ _ _) | ((rw [okW_setH]; repeat rw [okW_setH]); assumption) | ((with_reducible refine cellH_setH_same ?_ _); (repeat rw [okW_setH]); assumption) | ((rw [cellH_setH_off]; rotate_left; focus decide); (repeat (rw [cellH_setH_off]; rotate_left; focus decide)); first | assumption | ((with_reducible refine cellH_setH_same ?_ _); (repeat rw [okW_setH]); assumption)) | omega) only [↓hpR, ↓nilC_ptr, ↓nilC_func, ↓condP_true, ↓condP_false, ↓condP_bool, ↓guardP_true, ↓guardP_false, ↓guardP_bool_t, ↓guardP_bool_f, ↓skipP_undef, ↓pickP_bool, ↓b_add, ↓b_sub, ↓b_mul, ↓b_quo, ↓b_rem, ↓b_lss, ↓b_leq, ↓b_gtr, ↓b_geq, ↓b_eql, ↓b_neq, ↓u_not, ↓s_add, ↓s_eql, ↓s_neq, ↓i_max2, ↓i_min2, ↓x20, ↓x21, ↓x30, ↓x31, ↓x32, ↓q_b_add, ↓q_b_sub, ↓q_b_mul, ↓q_b_quo, ↓q_b_rem, ↓q_b_lss, ↓q_b_leq, ↓q_b_gtr, ↓q_b_geq, ↓q_b_eql, ↓q_b_neq, ↓q_u_not, ↓q_s_add, ↓q_s_eql, ↓q_s_neq, ↓q_i_max2, ↓q_i_min2, ↓q_x20, ↓q_x21, ↓q_x30, ↓q_x31, ↓q_x32, ↓m_box, decide_true, decide_false, tt_and, ff_and, Nat.zero_add, Int.toNat_natCast, cells_agg, cells_bool, cells_int, cells_str, cells_ptr, cells_slice, ↓qend_eq, ↓jump_none, ↓jump_ret, ↓jump_exit, ↓marks_one, cond_true, cond_false, Bool.not_true, Bool.not_false]
  refine ⟨fun hlt => ?_, fun hge => ?_⟩
  · have hlt' : i < f.ev.length := by simpa using hlt
    refine Quiet_keep [h.size] ?_
    have q1 : ∀ h', Keep [h.size] h3 h' → h'[h.size]? = some (.cells #[ve, vt] 25 (0, 0)) := fun h' he => keep_at he (x3.at p1) (by simp)
    rw [q_m_loadAgg (Keep.refl _ _) Try.underlying25 rfl size25 q1 (by simp), q_m_loadAgg (Keep.refl _ _) Try.underlying25 rfl size25 q1 (by simp)]
    refine blocks_spec (F.ext (x1.trans x3)) (i : Int) fun h4 v4 own4 x4 => ?_
    have hsz : h.size < h3.size := by have := x3.size; omega
    refine ⟨keep_ext x4 (by simpa using hsz), ?_⟩
    refine calls_spec (F.ext ((x1.trans x3).trans x4)) (i : Int) fun h5 v5 own5 x5 => ?_
    refine ⟨keep_ext (x4.trans x5) (by simpa using hsz), ?_⟩
    have hb1 := placesL_length f (tellB (i : Int))
    have hb2 := placesL_length f (tellC (i : Int))
    refine joined_spec (OwnI.sl (own4.ext x5)) (OwnI.sl own5) (by unfold blocksL callsL; omega) fun h6 v6 own6 x6 => ?_
    have x36 := (x4.trans x5).trans x6
    refine ⟨keep_ext x36 (by simpa using hsz), ?_⟩
    have p6 := x36.at p3
    have w6 : okW h6 h1.size i = true := okW_of p6 (by omega)
    have pl := own6.plain
    simp (disch := first | assumption | (with_reducible exact Ext.refl _) | (with_reducible exact Keep.refl _ _) | (with_reducible exact Eq.refl _) | (intro _ he; cases he; assumption) | (intro _ he; with_reducible apply keep_cell' he; assumption; simp; done) | (intro _ he; with_reducible apply ext_cell' he; assumption; done) | (with_reducible first | exact pl_int _ _ | exact pl_byte _ | exact pl_u32 _ | exact pl_bool _ | exact pl_ptr _ | exact pl_slice _ _ _ | exact pl_map _ | exact pl_str _ | exact pl_func _ _ _) | ((rw [okW_setH]; repeat rw [okW_setH]); assumption) | ((with_reducible refine cellH_setH_same ?_ _); (repeat rw [okW_setH]); assumption) | ((rw [cellH_setH_off]; rotate_left; focus decide); (repeat (rw [cellH_setH_off]; rotate_left; focus decide)); first | assumption | ((with_reducible refine cellH_setH_same ?_ _); (repeat rw [okW_setH]); assumption)) | omega) only [↓hpR, ↓nilC_ptr, ↓nilC_func, ↓condP_true, ↓condP_false, ↓condP_bool, ↓guardP_true, ↓guardP_false, ↓guardP_bool_t, ↓guardP_bool_f, ↓skipP_undef, ↓pickP_bool, ↓b_add, ↓b_sub, ↓b_mul, ↓b_quo, ↓b_rem, ↓b_lss, ↓b_leq, ↓b_gtr, ↓b_geq, ↓b_eql, ↓b_neq, ↓u_not, ↓s_add, ↓s_eql, ↓s_neq, ↓i_max2, ↓i_min2, ↓x20, ↓x21, ↓x30, ↓x31, ↓x32, ↓q_b_add, ↓q_b_sub, ↓q_b_mul, ↓q_b_quo, ↓q_b_rem, ↓q_b_lss, ↓q_b_leq, ↓q_b_gtr, ↓q_b_geq, ↓q_b_eql, ↓q_b_neq, ↓q_u_not, ↓q_s_add, ↓q_s_eql, ↓q_s_neq, ↓q_i_max2, ↓q_i_min2, ↓q_x20, ↓q_x21, ↓q_x30, ↓q_x31, ↓q_x32, ↓m_box, decide_true, decide_false, tt_and, ff_and, Nat.zero_add, Int.toNat_natCast, cells_agg, cells_bool, cells_int, cells_str, cells_ptr, cells_slice, ↓qend_eq, ↓jump_none, ↓jump_ret, ↓jump_exit, ↓marks_one, cond_true, cond_false, Bool.not_true, Bool.not_false]
    have ho6 : Only [h1.size] h6 (setH h6 h1.size i v6) := setH_only (Only.refl _ _) (.inl (by simp)) _ _
    have p7 := setH_at p6 i v6
    have hne' : h.size ≠ h1.size := by omega
    refine ⟨?_, ⟨i + 1, by simp, by omega, ?_, ?_, _, p7, by simpa using hcs, fun j hj => ?_⟩, by omega⟩
    · exact (keep_ext x36 (by simpa using hsz)).trans (keep_of ho6 (by have := x36.size; simp; omega) (by simpa using hne'))
    · exact Only.fresh (x3.trans x36) ho6 (by simp)
    · have := ho6.size
      have := x36.size
      omega
    · have h56 := x5.size
      have h34 := x4.size
      by_cases hji : j = i
      · subst hji
        refine ⟨v6, by simp [hcs, hlt'], ?_⟩
        have o6 : OwnI h6 (h1.size + 1) v6 (needsI f j) := own6.low (by omega)
        exact o6.only ho6 (fun k hk => by have := (o6.ge k hk).1; simp; omega)
      · obtain ⟨w, hw, ow⟩ := hrows j (by omega)
        refine ⟨w, by rw [Array.getElem?_setIfInBounds_ne (by omega)]; exact hw, ?_⟩
        have o6 := ow.ext x36
        exact o6.only ho6 (fun k hk => by have := (o6.ge k hk).1; simp; omega)
  · have hi' : i = f.ev.length := by simp at hge; omega
    subst hi'
    refine hk h3 _ ⟨some ⟨h1.size, 0, none⟩, f.ev.length, by rw [netL_length], by rw [netL_length]; exact Nat.le_refl _, .inr ⟨h1.size, 0, rfl, fun j x hj => ?_⟩⟩ (x1.trans x3)
    unfold netL at hj
    rw [List.getElem?_map] at hj
    obtain ⟨hjl, hjx⟩ : j < f.ev.length ∧ needsI f j = x := by
      by_cases hjl : j < f.ev.length
      · rw [List.getElem?_range hjl] at hj
        exact ⟨hjl, by simpa using hj⟩
      · rw [List.getElem?_eq_none (by simpa using hjl)] at hj
        cases hj
    obtain ⟨w, hw, ow⟩ := hrows j hjl
    refine ⟨[w], rfl, ⟨w, rfl, by rw [← hjx]; exact ow.sl⟩, fun m u hm => ?_⟩
    have : m = 0 ∧ u = w := by
      cases m with
      | zero => exact ⟨rfl, by simpa using hm.symm⟩
      | succ m => simp at hm
    obtain ⟨rfl, rfl⟩ := this
    rw [cellH_of p3]
    simpa using hw
end Go.Proofs.Ytopflbjjbindkaa
