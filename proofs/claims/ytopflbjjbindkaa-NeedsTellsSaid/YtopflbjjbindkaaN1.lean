/- Library calls: numbers sorted, each once, joined; a map's keys collected. -/
import Derived.Test.YtopflbjjbindkaaEm
import Derived.Test.YtopflbjjbindkaaTy
import Derived.Test.YtopflbjjbindkaaHpW
import Derived.Test.YtopflbjjbindkaaHpM
import Derived.Test.YtopflbjjbindkaaHpC
import Derived.Test.YtopflbjjbindkaaShelf
set_option linter.unusedVariables false
set_option linter.unusedSimpArgs false
namespace Go.Proofs.Ytopflbjjbindkaa
open Go.Hp Go.RowKit

theorem callF_run {P : Program} {f : FuncId} {args : Array Value} {h : Heap} {K : Value → Heap → Prop} (hr : ∀ w : World, (callFunc f args).run P w = .ok (.enter f args) w)
    (H : ∀ w : World, w.heap = h → Calls P f args w (fun e w' => ∃ v, e = .returned v ∧ Same w w' ∧ K v w'.heap)) : CallF P f args h K :=
  fun w hw => ⟨.enter f args, w, hr w, Same.refl w, H w hw⟩
theorem below_same {B : Nat} {w w' : World} (h : Below B w w') : Same w w' := ⟨h.os, h.tape, h.output⟩
theorem below_ext {w w' : World} (h : Below w.heap.size w w') : Ext w.heap w'.heap := ⟨h.size, h.block⟩
theorem under3 : Try.prog.underlying 3 = some (.int .i64) := by kernel_rfl
theorem under4 : Try.prog.underlying 4 = some .bool := by kernel_rfl

def intV (n : Int) : Value := .int .i64 n
def ints (l : List Int) : List Value := l.map intV
/-- A slice of numbers, read. -/
abbrev SlI (h : Heap) (v : Value) (l : List Int) : Prop := SlR 1 (fun cs x => cs = [intV x]) h v l
/-- A row of numbers of one's own. -/
abbrev OwnI (h : Heap) (base : Nat) (v : Value) (l : List Int) : Prop := Own h base 3 1 v l.length (ints l)
theorem OwnI.sl {h : Heap} {base : Nat} {v : Value} {l : List Int} (o : OwnI h base v l) : SlI h v l := Own.slR o
theorem SlI.cell {h : Heap} {v : Value} {l : List Int} (s : SlI h v l) (h0 : 0 < l.length) : ∃ b o cap, v = .slice (some ⟨b, o, none⟩) l.length cap ∧ ∀ i x, l[i]? = some x → cellH h b (o + i) = some (.int .i64 x) := by
  obtain ⟨b, o, cap, h1, h2⟩ := SlR.get s h0
  refine ⟨b, o, cap, h1, fun i x hx => ?_⟩
  obtain ⟨cs, q1, rfl, q3⟩ := h2 i x hx
  have h3 : cellH h b (o + i) = some (intV x) := by simpa using q3 0 _ rfl
  exact h3
theorem info3 : (Try.prog.info? 3).map (fun i => (i.zero, i.size, i.bytes)) = some (some (.int .i64 0), 1, 8) := by kernel_rfl

/-! ### Sorted -/
theorem sort_spec {h : Heap} {base : Nat} {v : Value} {l : List Int} (ho : OwnI h base v l) (hl : l.length ≤ 1000000) {K : Value → Heap → Prop}
    (hk : ∀ h', OwnI h' base v (l.mergeSort fun x y => decide (x ≤ y)) → Only (blk v) h h' → K (.tuple #[]) h') : CallF Try.prog 57 #[v] h K := by
  have hlen := (sorted_merge l).2.2
  refine callF_run (R57 _) fun w hw => ?_
  subst hw
  rcases ho.2 with ⟨rfl, hn⟩ | ⟨g, cap, cur, rfl, hb, hg, h1, h2, h3, h4⟩
  · have hl0 : l = [] := List.length_eq_zero_iff.1 hn
    subst hl0
    refine (Try.slices_Sort_int_none none 0 w).mono ?_
    rintro e w' ⟨rfl, rfl⟩
    exact ⟨_, rfl, Same.refl _, hk _ (by rw [List.mergeSort_nil]; exact Own.nil _ _ _ _) (Only.refl _ _)⟩
  · rw [Nat.mul_one] at h3 h4
    have hH : Sort.Holds (Value.int .i64) w g 0 l.toArray := by
      intro j hj
      have hj' : j < l.length := by simpa using hj
      have hc : cur[j]? = some (.int .i64 (l.toArray[j]!)) := by
        have : (ints l)[j]? = some (intV l[j]) := by simp [ints, hj']
        rw [← h4, List.getElem?_take, if_pos hj'] at this
        rw [← Array.getElem?_toList, this]
        simp [intV, hj']
      rw [Nat.zero_add, cell_world, cellH_of hg]
      exact ⟨hc, by simp [World.frozen?, hg]⟩
    refine (Try.slices_Sort_int g 0 cap l w hH (lt_of_at hg) (by omega)).mono ?_
    rintro e w' ⟨rfl, n, os, rfl⟩
    obtain ⟨q1, q2, q3, q4⟩ := onRow (enc := Value.int .i64) (n := n) (d := (l.mergeSort fun x y => decide (x ≤ y)).toArray) (os := os) hg
    refine ⟨_, rfl, q4, hk _ ⟨by simp [ints, hlen], .inr ⟨g, cap, _, by rw [hlen], hb, q1, by omega, h2, by rw [putCells_size, h3, Nat.mul_one], ?_⟩⟩ ⟨q3, fun k hk hne => q2 k hk (fun e => hne (by simp [blk, Value.ownBlock, e]))⟩⟩
    rw [Nat.mul_one, putCells_take _ _ _ _ (by omega) (by omega), List.take_of_length_le (by omega)]
    rfl
theorem compact_spec {h : Heap} {base : Nat} {v : Value} {l : List Int} (ho : OwnI h base v l) (hl : l.length ≤ 1000000) {K : Value → Heap → Prop}
    (hk : ∀ h' v', OwnI h' base v' (Lib.compact l) → Only (blk v) h h' → blk v' = blk v → K v' h') : CallF Try.prog 66 #[v] h K := by
  refine callF_run (R66 _) fun w hw => ?_
  subst hw
  rcases ho.2 with ⟨rfl, hn⟩ | ⟨g, cap, cur, rfl, hb, hg, h1, h2, h3, h4⟩
  · have hl0 : l = [] := List.length_eq_zero_iff.1 hn
    subst hl0
    refine (Try.slices_Compact_int_empty none 0 w).mono ?_
    rintro e w' ⟨rfl, rfl⟩
    exact ⟨_, rfl, Same.refl _, hk _ _ (Own.nil _ _ _ _) (Only.refl _ _) rfl⟩
  · rw [Nat.mul_one] at h3 h4
    have hH : Sort.Holds (Value.int .i64) w g 0 l.toArray := by
      intro j hj
      have hj' : j < l.length := by simpa using hj
      have hc : cur[j]? = some (.int .i64 (l.toArray[j]!)) := by
        have : (ints l)[j]? = some (intV l[j]) := by simp [ints, hj']
        rw [← h4, List.getElem?_take, if_pos hj'] at this
        rw [← Array.getElem?_toList, this]
        simp [intV, hj']
      rw [Nat.zero_add, cell_world, cellH_of hg]
      exact ⟨hc, by simp [World.frozen?, hg]⟩
    have hcl : (Lib.compact l).length ≤ l.length := by
      unfold Lib.compact Lib.compactUpTo
      rw [List.length_map]
      have := List.length_filter_le (Lib.keeps l.toArray) (List.range l.length)
      simpa using this
    refine (Try.slices_Compact_int g 0 cap l w hH (by omega) h1).mono ?_
    rintro e w' ⟨rfl, n, rfl⟩
    obtain ⟨q1, q2, q3, q4⟩ := onRow (enc := Value.int .i64) (n := n) (d := (Lib.compact l ++ List.replicate (l.length - (Lib.compact l).length) 0).toArray) (os := #[]) hg
    have e0 : Sort.grow (Sort.putRow (Value.int .i64) (Sort.ahead w n) g 0 (Lib.compact l ++ List.replicate (l.length - (Lib.compact l).length) 0).toArray) #[] = Sort.putRow (Value.int .i64) (Sort.ahead w n) g 0 (Lib.compact l ++ List.replicate (l.length - (Lib.compact l).length) 0).toArray := by
      unfold Sort.grow
      simp
      rfl
    rw [e0] at q1 q2 q3 q4
    refine ⟨_, rfl, q4, hk _ _ ⟨by simp [ints], .inr ⟨g, cap, _, rfl, hb, q1, by omega, h2, by rw [putCells_size, h3, Nat.mul_one], ?_⟩⟩ ⟨q3, fun k hk hne => q2 k hk (fun e => hne (by simp [blk, Value.ownBlock, e]))⟩ rfl⟩
    rw [Nat.mul_one, putCells_take _ _ _ _ (by simp) (by simp; omega), List.take_left]
    rfl
theorem contains_spec {h : Heap} {v : Value} {l : List Int} (s : SlI h v l) (hl : l.length ≤ 1000000) (x : Int) {K : Value → Heap → Prop} (hk : K (.bool (l.contains x)) h) : CallF Try.prog 62 #[v, .int .i64 x] h K := by
  refine callF_run (R62 _) fun w hw => ?_
  subst hw
  by_cases h0 : 0 < l.length
  · obtain ⟨b, o, cap, rfl, hc⟩ := SlI.cell s h0
    refine (Try.slices_Contains_int b o l.length cap l x w (Nat.le_refl _) (by omega) (fun j hj => ?_)).mono ?_
    · rw [cell_world, hc j (l.getD j 0) (by simp [List.getD_eq_getElem?_getD, hj])]
    · rintro e w' ⟨rfl, rfl⟩
      rw [List.take_of_length_le (Nat.le_refl _)]
      exact ⟨_, rfl, Same.refl _, hk⟩
  · have hl0 : l = [] := List.length_eq_zero_iff.1 (by omega)
    subst hl0
    obtain ⟨A, cap, rfl⟩ := SlR.len s
    refine (Try.slices_Contains_int_empty A cap x w).mono ?_
    rintro e w' ⟨rfl, rfl⟩
    exact ⟨_, rfl, Same.refl _, hk⟩

/-! ### Joined -/
theorem grow_spec {h : Heap} (n : Nat) (hn : n ≤ 1000000) {K : Value → Heap → Prop} (hk : ∀ h' v, OwnI h' h.size v [] → Ext h h' → K v h') : CallF Try.prog 75 #[.slice none 0 0, .int .i64 (n : Int)] h K := by
  apply S75
  unfold F75
  simp (disch := first | assumption | (with_reducible exact Ext.refl _) | (with_reducible exact Keep.refl _ _) | (with_reducible exact Eq.refl _) | (intro _ he; cases he; assumption) | (intro _ he; with_reducible apply keep_cell' he; assumption; simp; done) | (intro _ he; with_reducible apply ext_cell' he; assumption; done) | (with_reducible first | exact pl_int _ _ | exact pl_byte _ | exact pl_u32 _ | exact pl_bool _ | exact pl_ptr _ | exact pl_slice _ _ _ | exact pl_map _ | exact pl_str _ | exact pl_func _ _ _) | ((rw [okW_setH]; repeat rw [okW_setH]); assumption) | ((with_reducible refine cellH_setH_same ?_ _); (repeat rw [okW_setH]); assumption) | ((rw [cellH_setH_off]; rotate_left; focus decide); (repeat (rw [cellH_setH_off]; rotate_left; focus decide)); first | assumption | ((with_reducible refine cellH_setH_same ?_ _); (repeat rw [okW_setH]); assumption)) | omega) only [↓hpR, ↓nilC_ptr, ↓nilC_func, ↓condP_true, ↓condP_false, ↓condP_bool, ↓guardP_true, ↓guardP_false, ↓guardP_bool_t, ↓guardP_bool_f, ↓skipP_undef, ↓pickP_bool, ↓b_add, ↓b_sub, ↓b_mul, ↓b_quo, ↓b_rem, ↓b_lss, ↓b_leq, ↓b_gtr, ↓b_geq, ↓b_eql, ↓b_neq, ↓u_not, ↓s_add, ↓s_eql, ↓s_neq, ↓i_max2, ↓i_min2, ↓x20, ↓x21, ↓x30, ↓x31, ↓x32, ↓q_b_add, ↓q_b_sub, ↓q_b_mul, ↓q_b_quo, ↓q_b_rem, ↓q_b_lss, ↓q_b_leq, ↓q_b_gtr, ↓q_b_geq, ↓q_b_eql, ↓q_b_neq, ↓q_u_not, ↓q_s_add, ↓q_s_eql, ↓q_s_neq, ↓q_i_max2, ↓q_i_min2, ↓q_x20, ↓q_x21, ↓q_x30, ↓q_x31, ↓q_x32, ↓m_box, decide_true, decide_false, tt_and, ff_and, Nat.zero_add, Int.toNat_natCast, cells_agg, cells_bool, cells_int, cells_str, cells_ptr, cells_slice, ↓qend_eq, ↓jump_none, ↓jump_ret, ↓jump_exit, ↓marks_one, cond_true, cond_false, Bool.not_true, Bool.not_false]
  refine Join0.intro (fun hh => hh = h) (fun J hJ => ?_) (fun h1 hM => ?_)
  · refine ⟨fun hc => ?_, fun _ => hJ _ rfl⟩
    simp at hc
    omega
  subst hM
  rw [m_cap Try.underlying33]
  simp (disch := first | assumption | (with_reducible exact Ext.refl _) | (with_reducible exact Keep.refl _ _) | (with_reducible exact Eq.refl _) | (intro _ he; cases he; assumption) | (intro _ he; with_reducible apply keep_cell' he; assumption; simp; done) | (intro _ he; with_reducible apply ext_cell' he; assumption; done) | (with_reducible first | exact pl_int _ _ | exact pl_byte _ | exact pl_u32 _ | exact pl_bool _ | exact pl_ptr _ | exact pl_slice _ _ _ | exact pl_map _ | exact pl_str _ | exact pl_func _ _ _) | ((rw [okW_setH]; repeat rw [okW_setH]); assumption) | ((with_reducible refine cellH_setH_same ?_ _); (repeat rw [okW_setH]); assumption) | ((rw [cellH_setH_off]; rotate_left; focus decide); (repeat (rw [cellH_setH_off]; rotate_left; focus decide)); first | assumption | ((with_reducible refine cellH_setH_same ?_ _); (repeat rw [okW_setH]); assumption)) | omega) only [↓hpR, ↓nilC_ptr, ↓nilC_func, ↓condP_true, ↓condP_false, ↓condP_bool, ↓guardP_true, ↓guardP_false, ↓guardP_bool_t, ↓guardP_bool_f, ↓skipP_undef, ↓pickP_bool, ↓b_add, ↓b_sub, ↓b_mul, ↓b_quo, ↓b_rem, ↓b_lss, ↓b_leq, ↓b_gtr, ↓b_geq, ↓b_eql, ↓b_neq, ↓u_not, ↓s_add, ↓s_eql, ↓s_neq, ↓i_max2, ↓i_min2, ↓x20, ↓x21, ↓x30, ↓x31, ↓x32, ↓q_b_add, ↓q_b_sub, ↓q_b_mul, ↓q_b_quo, ↓q_b_rem, ↓q_b_lss, ↓q_b_leq, ↓q_b_gtr, ↓q_b_geq, ↓q_b_eql, ↓q_b_neq, ↓q_u_not, ↓q_s_add, ↓q_s_eql, ↓q_s_neq, ↓q_i_max2, ↓q_i_min2, ↓q_x20, ↓q_x21, ↓q_x30, ↓q_x31, ↓q_x32, ↓m_box, decide_true, decide_false, tt_and, ff_and, Nat.zero_add, Int.toNat_natCast, cells_agg, cells_bool, cells_int, cells_str, cells_ptr, cells_slice, ↓qend_eq, ↓jump_none, ↓jump_ret, ↓jump_exit, ↓marks_one, cond_true, cond_false, Bool.not_true, Bool.not_false]
  refine ⟨fun hc => ?_, fun hc => ?_⟩
  · have hc' : 0 < n := by simp at hc; omega
    rw [m_cap Try.underlying33]
    rw [m_sliceHi Try.underlying33 size3 none 0 0 _ (by simp) (by simp)]
    have e0 : ((n : Int) - (((0 : Nat) : Int) - ((0 : Nat) : Int))) = (n : Int) := by omega
    rw [e0]
    obtain ⟨i3, hi, hz, hs3, hb3⟩ : ∃ i, Try.prog.info? 3 = some i ∧ i.zero = some (.int .i64 0) ∧ i.size = 1 ∧ i.bytes = 8 := by
      have := info3
      cases hx : Try.prog.info? 3 with
      | none => rw [hx] at this; cases this
      | some i => rw [hx] at this; simp only [Option.map_some, Option.some.injEq, Prod.mk.injEq] at this; exact ⟨i, rfl, this⟩
    refine o_append_zeros Try.underlying33 under3 hi hz rfl hs3 _ _ hc' (by rw [hb3]; omega) (by omega) fun cap cur h' q1 q2 q3 q4 q5 => ?_
    rw [m_sliceHi Try.underlying33 size3 _ n cap _ (by simp) (by simp)]
    refine hk _ _ ⟨rfl, .inr ⟨_, cap, cur, rfl, Nat.le_refl _, q4, by simp, q2, by omega, rfl⟩⟩ q3
  · exact hk _ _ (Own.nil _ _ _ _) (Ext.refl _)
theorem concat_spec {h : Heap} {g : Nat} {va vb : Value} {a b : List Int} (hg : h[g]? = some (.cells #[va, vb] 33 (0, 0))) (ha : SlI h va a) (hb : SlI h vb b) (hn : a.length + b.length ≤ 1000000) {K : Value → Heap → Prop} (hk : ∀ h' v, OwnI h' h.size v (a ++ b) → Ext h h' → K v h') :
    CallF Try.prog 65 #[.slice (some ⟨g, 0, none⟩) 2 2] h K := by
  apply S65
  unfold F65
  obtain ⟨A, ca, ea⟩ := SlR.len ha
  obtain ⟨B, cb, eb⟩ := SlR.len hb
  have c0 : cellH h g 0 = some va := by rw [cellH_of hg]; rfl
  have c1 : cellH h g 1 = some vb := by rw [cellH_of hg]; rfl
  simp (disch := first | assumption | (with_reducible exact Ext.refl _) | (with_reducible exact Keep.refl _ _) | (with_reducible exact Eq.refl _) | (intro _ he; cases he; assumption) | (intro _ he; with_reducible apply keep_cell' he; assumption; simp; done) | (intro _ he; with_reducible apply ext_cell' he; assumption; done) | (with_reducible first | exact pl_int _ _ | exact pl_byte _ | exact pl_u32 _ | exact pl_bool _ | exact pl_ptr _ | exact pl_slice _ _ _ | exact pl_map _ | exact pl_str _ | exact pl_func _ _ _) | ((rw [okW_setH]; repeat rw [okW_setH]); assumption) | ((with_reducible refine cellH_setH_same ?_ _); (repeat rw [okW_setH]); assumption) | ((rw [cellH_setH_off]; rotate_left; focus decide); (repeat (rw [cellH_setH_off]; rotate_left; focus decide)); first | assumption | ((with_reducible refine cellH_setH_same ?_ _); (repeat rw [okW_setH]); assumption)) | omega) only [↓hpR, ↓nilC_ptr, ↓nilC_func, ↓condP_true, ↓condP_false, ↓condP_bool, ↓guardP_true, ↓guardP_false, ↓guardP_bool_t, ↓guardP_bool_f, ↓skipP_undef, ↓pickP_bool, ↓b_add, ↓b_sub, ↓b_mul, ↓b_quo, ↓b_rem, ↓b_lss, ↓b_leq, ↓b_gtr, ↓b_geq, ↓b_eql, ↓b_neq, ↓u_not, ↓s_add, ↓s_eql, ↓s_neq, ↓i_max2, ↓i_min2, ↓x20, ↓x21, ↓x30, ↓x31, ↓x32, ↓q_b_add, ↓q_b_sub, ↓q_b_mul, ↓q_b_quo, ↓q_b_rem, ↓q_b_lss, ↓q_b_leq, ↓q_b_gtr, ↓q_b_geq, ↓q_b_eql, ↓q_b_neq, ↓q_u_not, ↓q_s_add, ↓q_s_eql, ↓q_s_neq, ↓q_i_max2, ↓q_i_min2, ↓q_x20, ↓q_x21, ↓q_x30, ↓q_x31, ↓q_x32, ↓m_box, decide_true, decide_false, tt_and, ff_and, Nat.zero_add, Int.toNat_natCast, cells_agg, cells_bool, cells_int, cells_str, cells_ptr, cells_slice, ↓qend_eq, ↓jump_none, ↓jump_ret, ↓jump_exit, ↓marks_one, cond_true, cond_false, Bool.not_true, Bool.not_false]
  have hv : ∀ i : Nat, i < 2 → ∃ v l A c, cellH h g i = some v ∧ v = .slice A l.length c ∧ SlI h v l ∧ l.length ≤ 1000000 ∧ l = if i = 0 then a else b := by
    intro i hi
    match i, hi with
    | 0, _ => exact ⟨va, a, A, ca, c0, ea, ha, by omega, rfl⟩
    | 1, _ => exact ⟨vb, b, B, cb, c1, eb, hb, by omega, rfl⟩
  obtain ⟨cl, hcl⟩ : ∃ cl : Nat → Nat, cl = fun i => if i = 0 then 0 else if i = 1 then a.length else a.length + b.length := ⟨_, rfl⟩
  have hc0 : cl 0 = 0 := by rw [hcl]; rfl
  have hc2 : cl 2 = a.length + b.length := by rw [hcl]; rfl
  have hcs : ∀ i l, i < 2 → l = (if i = 0 then a else b) → cl i + l.length = cl (i + 1) ∧ cl (i + 1) ≤ 1000000 := by
    intro i l hi hl
    rw [hcl, hl]
    match i, hi with
    | 0, _ => simp; omega
    | 1, _ => simp; omega
  refine ⟨fun x y hh => ∃ i : Nat, y = .int .i64 (i : Int) ∧ i ≤ 2 ∧ hh = h ∧ x = .int .i64 (cl i : Int), fun x y hh => match y with | .int _ i => 2 - i.toNat | _ => 0, ⟨0, rfl, by omega, rfl, by rw [hc0]; rfl⟩, ?_⟩
  clear hcl
  rintro js x y hh ⟨i, rfl, hi, rfl, rfl⟩
  simp (disch := first | assumption | (with_reducible exact Ext.refl _) | (with_reducible exact Keep.refl _ _) | (with_reducible exact Eq.refl _) | (intro _ he; cases he; assumption) | (intro _ he; with_reducible apply keep_cell' he; assumption; simp; done) | (intro _ he; with_reducible apply ext_cell' he; assumption; done) | (with_reducible first | exact pl_int _ _ | exact pl_byte _ | exact pl_u32 _ | exact pl_bool _ | exact pl_ptr _ | exact pl_slice _ _ _ | exact pl_map _ | exact pl_str _ | exact pl_func _ _ _) | ((rw [okW_setH]; repeat rw [okW_setH]); assumption) | ((with_reducible refine cellH_setH_same ?_ _); (repeat rw [okW_setH]); assumption) | ((rw [cellH_setH_off]; rotate_left; focus decide); (repeat (rw [cellH_setH_off]; rotate_left; focus decide)); first | assumption | ((with_reducible refine cellH_setH_same ?_ _); (repeat rw [okW_setH]); assumption)) | omega) only [↓hpR, ↓nilC_ptr, ↓nilC_func, ↓condP_true, ↓condP_false, ↓condP_bool, ↓guardP_true, ↓guardP_false, ↓guardP_bool_t, ↓guardP_bool_f, ↓skipP_undef, ↓pickP_bool, ↓b_add, ↓b_sub, ↓b_mul, ↓b_quo, ↓b_rem, ↓b_lss, ↓b_leq, ↓b_gtr, ↓b_geq, ↓b_eql, ↓b_neq, ↓u_not, ↓s_add, ↓s_eql, ↓s_neq, ↓i_max2, ↓i_min2, ↓x20, ↓x21, ↓x30, ↓x31, ↓x32, ↓q_b_add, ↓q_b_sub, ↓q_b_mul, ↓q_b_quo, ↓q_b_rem, ↓q_b_lss, ↓q_b_leq, ↓q_b_gtr, ↓q_b_geq, ↓q_b_eql, ↓q_b_neq, ↓q_u_not, ↓q_s_add, ↓q_s_eql, ↓q_s_neq, ↓q_i_max2, ↓q_i_min2, ↓q_x20, ↓q_x21, ↓q_x30, ↓q_x31, ↓q_x32, ↓m_box, decide_true, decide_false, tt_and, ff_and, Nat.zero_add, Int.toNat_natCast, cells_agg, cells_bool, cells_int, cells_str, cells_ptr, cells_slice, ↓qend_eq, ↓jump_none, ↓jump_ret, ↓jump_exit, ↓marks_one, cond_true, cond_false, Bool.not_true, Bool.not_false]
  refine ⟨fun hlt => ?_, fun hge => ?_⟩
  · have hlt' : i < 2 := by simp at hlt; omega
    obtain ⟨v, l, A', c', hc, rfl, hsl, hll, hle⟩ := hv i hlt'
    obtain ⟨hst, hsm⟩ := hcs i l hlt' hle
    refine Join1.intro (fun x h1 => x = .int .i64 (cl (i + 1) : Int) ∧ h1 = hh) (fun J hJ => ?_) (fun x h1 hM => ?_)
    · have hx : (cl i : Int) + (l.length : Int) = (cl (i + 1) : Int) := by omega
      simp (disch := first | assumption | (with_reducible exact Ext.refl _) | (with_reducible exact Keep.refl _ _) | (with_reducible exact Eq.refl _) | (intro _ he; cases he; assumption) | (intro _ he; with_reducible apply keep_cell' he; assumption; simp; done) | (intro _ he; with_reducible apply ext_cell' he; assumption; done) | (with_reducible first | exact pl_int _ _ | exact pl_byte _ | exact pl_u32 _ | exact pl_bool _ | exact pl_ptr _ | exact pl_slice _ _ _ | exact pl_map _ | exact pl_str _ | exact pl_func _ _ _) | ((rw [okW_setH]; repeat rw [okW_setH]); assumption) | ((with_reducible refine cellH_setH_same ?_ _); (repeat rw [okW_setH]); assumption) | ((rw [cellH_setH_off]; rotate_left; focus decide); (repeat (rw [cellH_setH_off]; rotate_left; focus decide)); first | assumption | ((with_reducible refine cellH_setH_same ?_ _); (repeat rw [okW_setH]); assumption)) | omega) only [↓hpR, ↓nilC_ptr, ↓nilC_func, ↓condP_true, ↓condP_false, ↓condP_bool, ↓guardP_true, ↓guardP_false, ↓guardP_bool_t, ↓guardP_bool_f, ↓skipP_undef, ↓pickP_bool, ↓b_add, ↓b_sub, ↓b_mul, ↓b_quo, ↓b_rem, ↓b_lss, ↓b_leq, ↓b_gtr, ↓b_geq, ↓b_eql, ↓b_neq, ↓u_not, ↓s_add, ↓s_eql, ↓s_neq, ↓i_max2, ↓i_min2, ↓x20, ↓x21, ↓x30, ↓x31, ↓x32, ↓q_b_add, ↓q_b_sub, ↓q_b_mul, ↓q_b_quo, ↓q_b_rem, ↓q_b_lss, ↓q_b_leq, ↓q_b_gtr, ↓q_b_geq, ↓q_b_eql, ↓q_b_neq, ↓q_u_not, ↓q_s_add, ↓q_s_eql, ↓q_s_neq, ↓q_i_max2, ↓q_i_min2, ↓q_x20, ↓q_x21, ↓q_x30, ↓q_x31, ↓q_x32, ↓m_box, decide_true, decide_false, tt_and, ff_and, Nat.zero_add, Int.toNat_natCast, cells_agg, cells_bool, cells_int, cells_str, cells_ptr, cells_slice, ↓qend_eq, ↓jump_none, ↓jump_ret, ↓jump_exit, ↓marks_one, cond_true, cond_false, Bool.not_true, Bool.not_false]
      rw [hx]
      refine ⟨fun hc => ?_, fun hc => hJ _ _ ⟨rfl, rfl⟩⟩
      simp at hc
      omega
    · obtain ⟨rfl, rfl⟩ := hM
      simp (disch := first | assumption | (with_reducible exact Ext.refl _) | (with_reducible exact Keep.refl _ _) | (with_reducible exact Eq.refl _) | (intro _ he; cases he; assumption) | (intro _ he; with_reducible apply keep_cell' he; assumption; simp; done) | (intro _ he; with_reducible apply ext_cell' he; assumption; done) | (with_reducible first | exact pl_int _ _ | exact pl_byte _ | exact pl_u32 _ | exact pl_bool _ | exact pl_ptr _ | exact pl_slice _ _ _ | exact pl_map _ | exact pl_str _ | exact pl_func _ _ _) | ((rw [okW_setH]; repeat rw [okW_setH]); assumption) | ((with_reducible refine cellH_setH_same ?_ _); (repeat rw [okW_setH]); assumption) | ((rw [cellH_setH_off]; rotate_left; focus decide); (repeat (rw [cellH_setH_off]; rotate_left; focus decide)); first | assumption | ((with_reducible refine cellH_setH_same ?_ _); (repeat rw [okW_setH]); assumption)) | omega) only [↓hpR, ↓nilC_ptr, ↓nilC_func, ↓condP_true, ↓condP_false, ↓condP_bool, ↓guardP_true, ↓guardP_false, ↓guardP_bool_t, ↓guardP_bool_f, ↓skipP_undef, ↓pickP_bool, ↓b_add, ↓b_sub, ↓b_mul, ↓b_quo, ↓b_rem, ↓b_lss, ↓b_leq, ↓b_gtr, ↓b_geq, ↓b_eql, ↓b_neq, ↓u_not, ↓s_add, ↓s_eql, ↓s_neq, ↓i_max2, ↓i_min2, ↓x20, ↓x21, ↓x30, ↓x31, ↓x32, ↓q_b_add, ↓q_b_sub, ↓q_b_mul, ↓q_b_quo, ↓q_b_rem, ↓q_b_lss, ↓q_b_leq, ↓q_b_gtr, ↓q_b_geq, ↓q_b_eql, ↓q_b_neq, ↓q_u_not, ↓q_s_add, ↓q_s_eql, ↓q_s_neq, ↓q_i_max2, ↓q_i_min2, ↓q_x20, ↓q_x21, ↓q_x30, ↓q_x31, ↓q_x32, ↓m_box, decide_true, decide_false, tt_and, ff_and, Nat.zero_add, Int.toNat_natCast, cells_agg, cells_bool, cells_int, cells_str, cells_ptr, cells_slice, ↓qend_eq, ↓jump_none, ↓jump_ret, ↓jump_exit, ↓marks_one, cond_true, cond_false, Bool.not_true, Bool.not_false]
      exact ⟨⟨i + 1, by simp, by omega, by trivial, rfl⟩, by omega⟩
  · have hi2 : i = 2 := by simp at hge; omega
    subst hi2
    rw [hc2]
    refine grow_spec _ hn fun h1 v own x1 => ?_
    refine ⟨fun x y h2 => ∃ i : Nat, y = .int .i64 (i : Int) ∧ i ≤ 2 ∧ Ext hh h2 ∧ OwnI h2 hh.size x (if i = 0 then [] else if i = 1 then a else a ++ b), fun x y h2 => match y with | .int _ i => 2 - i.toNat | _ => 0, ⟨0, rfl, by omega, x1, own⟩, ?_⟩
    rintro js x y h2 ⟨i, rfl, hi, x2, own2⟩
    simp (disch := first | assumption | (with_reducible exact Ext.refl _) | (with_reducible exact Keep.refl _ _) | (with_reducible exact Eq.refl _) | (intro _ he; cases he; assumption) | (intro _ he; with_reducible apply keep_cell' he; assumption; simp; done) | (intro _ he; with_reducible apply ext_cell' he; assumption; done) | (with_reducible first | exact pl_int _ _ | exact pl_byte _ | exact pl_u32 _ | exact pl_bool _ | exact pl_ptr _ | exact pl_slice _ _ _ | exact pl_map _ | exact pl_str _ | exact pl_func _ _ _) | ((rw [okW_setH]; repeat rw [okW_setH]); assumption) | ((with_reducible refine cellH_setH_same ?_ _); (repeat rw [okW_setH]); assumption) | ((rw [cellH_setH_off]; rotate_left; focus decide); (repeat (rw [cellH_setH_off]; rotate_left; focus decide)); first | assumption | ((with_reducible refine cellH_setH_same ?_ _); (repeat rw [okW_setH]); assumption)) | omega) only [↓hpR, ↓nilC_ptr, ↓nilC_func, ↓condP_true, ↓condP_false, ↓condP_bool, ↓guardP_true, ↓guardP_false, ↓guardP_bool_t, ↓guardP_bool_f, ↓skipP_undef, ↓pickP_bool, ↓b_add, ↓b_sub, ↓b_mul, ↓b_quo, ↓b_rem, ↓b_lss, ↓b_leq, ↓b_gtr, ↓b_geq, ↓b_eql, ↓b_neq, ↓u_not, ↓s_add, ↓s_eql, ↓s_neq, ↓i_max2, ↓i_min2, ↓x20, ↓x21, ↓x30, ↓x31, ↓x32, ↓q_b_add, ↓q_b_sub, ↓q_b_mul, ↓q_b_quo, ↓q_b_rem, ↓q_b_lss, ↓q_b_leq, ↓q_b_gtr, ↓q_b_geq, ↓q_b_eql, ↓q_b_neq, ↓q_u_not, ↓q_s_add, ↓q_s_eql, ↓q_s_neq, ↓q_i_max2, ↓q_i_min2, ↓q_x20, ↓q_x21, ↓q_x30, ↓q_x31, ↓q_x32, ↓m_box, decide_true, decide_false, tt_and, ff_and, Nat.zero_add, Int.toNat_natCast, cells_agg, cells_bool, cells_int, cells_str, cells_ptr, cells_slice, ↓qend_eq, ↓jump_none, ↓jump_ret, ↓jump_exit, ↓marks_one, cond_true, cond_false, Bool.not_true, Bool.not_false]
    refine ⟨fun hlt => ?_, fun hge => ?_⟩
    · have hlt' : i < 2 := by simp at hlt; omega
      obtain ⟨v', l, A', c', hc, hv', hsl, hll, hle⟩ := hv i hlt'
      have hc2 := cellH_ext x2 hc
      have hnext : (if i = 0 then [] else if i = 1 then a else a ++ b) ++ l = if i + 1 = 0 then [] else if i + 1 = 1 then a else a ++ b := by
        rw [hle]
        match i, hlt' with
        | 0, _ => simp
        | 1, _ => simp
      have hlen : (if i = 0 then [] else if i = 1 then a else a ++ b).length + l.length ≤ 1000000 := by
        rw [hle]
        match i, hlt' with
        | 0, _ => simp; omega
        | 1, _ => simp; omega
      simp (disch := first | assumption | (with_reducible exact Ext.refl _) | (with_reducible exact Keep.refl _ _) | (with_reducible exact Eq.refl _) | (intro _ he; cases he; assumption) | (intro _ he; with_reducible apply keep_cell' he; assumption; simp; done) | (intro _ he; with_reducible apply ext_cell' he; assumption; done) | (with_reducible first | exact pl_int _ _ | exact pl_byte _ | exact pl_u32 _ | exact pl_bool _ | exact pl_ptr _ | exact pl_slice _ _ _ | exact pl_map _ | exact pl_str _ | exact pl_func _ _ _) | ((rw [okW_setH]; repeat rw [okW_setH]); assumption) | ((with_reducible refine cellH_setH_same ?_ _); (repeat rw [okW_setH]); assumption) | ((rw [cellH_setH_off]; rotate_left; focus decide); (repeat (rw [cellH_setH_off]; rotate_left; focus decide)); first | assumption | ((with_reducible refine cellH_setH_same ?_ _); (repeat rw [okW_setH]); assumption)) | omega) only [↓hpR, ↓nilC_ptr, ↓nilC_func, ↓condP_true, ↓condP_false, ↓condP_bool, ↓guardP_true, ↓guardP_false, ↓guardP_bool_t, ↓guardP_bool_f, ↓skipP_undef, ↓pickP_bool, ↓b_add, ↓b_sub, ↓b_mul, ↓b_quo, ↓b_rem, ↓b_lss, ↓b_leq, ↓b_gtr, ↓b_geq, ↓b_eql, ↓b_neq, ↓u_not, ↓s_add, ↓s_eql, ↓s_neq, ↓i_max2, ↓i_min2, ↓x20, ↓x21, ↓x30, ↓x31, ↓x32, ↓q_b_add, ↓q_b_sub, ↓q_b_mul, ↓q_b_quo, ↓q_b_rem, ↓q_b_lss, ↓q_b_leq, ↓q_b_gtr, ↓q_b_geq, ↓q_b_eql, ↓q_b_neq, ↓q_u_not, ↓q_s_add, ↓q_s_eql, ↓q_s_neq, ↓q_i_max2, ↓q_i_min2, ↓q_x20, ↓q_x21, ↓q_x30, ↓q_x31, ↓q_x32, ↓m_box, decide_true, decide_false, tt_and, ff_and, Nat.zero_add, Int.toNat_natCast, cells_agg, cells_bool, cells_int, cells_str, cells_ptr, cells_slice, ↓qend_eq, ↓jump_none, ↓jump_ret, ↓jump_exit, ↓marks_one, cond_true, cond_false, Bool.not_true, Bool.not_false]
      by_cases h0 : 0 < l.length
      · obtain ⟨b', o', cap', rfl, hcs⟩ := SlI.cell (hsl.ext x2) h0
        refine o_append Try.underlying33 (z := .int .i64 0) (size := 1) (bytes := 8) (e := 3) info3 rfl (by omega) _ _ own2 (m := l.length) (news := ints l) (by simp [ints])
          (fun j u hj => ?_) (fun u hu => by simp only [ints, List.mem_map] at hu; obtain ⟨x, _, rfl⟩ := hu; rfl) (by omega) (by omega) x2.size ?_
        · simp only [ints, List.getElem?_map] at hj
          cases hlj : l[j]? with
          | none => rw [hlj] at hj; cases hj
          | some y =>
            rw [hlj] at hj
            simp only [Option.map_some, Option.some.injEq] at hj
            rw [← hj]
            exact hcs j y hlj
        · intro v3 h3 own3 o3 _ _
          refine ⟨⟨i + 1, by simp, by omega, Only.fresh x2 o3 (fun k hk => (own2.ge k hk).1), ?_⟩, by omega⟩
          rw [← hnext]
          show Own h3 hh.size 3 1 v3 _ (ints _)
          rw [List.length_append]
          simpa [ints] using own3
      · have hl0 : l = [] := List.length_eq_zero_iff.1 (by omega)
        obtain ⟨i3, hi3⟩ : ∃ i, Try.prog.info? 3 = some i := by
          cases hx : Try.prog.info? 3 with
          | none => have := info3; rw [hx] at this; cases this
          | some i => exact ⟨i, rfl⟩
        rw [hl0] at hv' hnext
        rw [hv']
        show OpN Try.prog (Go.builtin .append #[33, 33] 33 #[false, false] #[x, .slice A' 0 c']) h2 _
        rw [o_append_empty Try.underlying33 hi3 _ _ own2]
        rw [List.append_nil] at hnext
        exact ⟨⟨i + 1, by simp, by omega, x2, by rw [← hnext]; exact own2⟩, by omega⟩
    · have hi2 : i = 2 := by simp at hge; omega
      subst hi2
      exact hk _ _ own2 x2
end Go.Proofs.Ytopflbjjbindkaa
