/- The reference's store. -/
import Derived.Test.YtoefeflmcggbkaaJ10
set_option linter.unusedVariables false
set_option linter.unusedSimpArgs false
namespace Go.Proofs.Ytoefeflmcggbkaa
open Go.Hp Go.RowKit

def rows (s : Sto) : List (List UInt8) := (List.range s.n).map (blkL s.bs)
theorem rows_length (s : Sto) : (rows s).length = s.n := by simp [rows]
theorem rows_get (s : Sto) {i : Nat} (hi : i < s.n) : (rows s)[i]? = some (blkL s.bs i) := by simp [rows, hi]
theorem strs_get {l : List (List UInt8)} {i : Nat} {x : List UInt8} (h : l[i]? = some x) : (strs l)[i]? = some (str x) := by simp [strs, h]
theorem blkL_length {bs : List UInt8} {i : Nat} (h : 32 * i + 32 ≤ bs.length) : (blkL bs i).length = 32 := by simp [blkL]; omega
theorem blk_blit_ne {bs d : List UInt8} {i k : Nat} (hb : 32 * i + d.length ≤ bs.length) (hd : d.length ≤ 32) (hk : k ≠ i) : blkL (blit bs (32 * i) d) k = blkL bs k := by
  unfold blkL blit
  apply List.ext_getElem?
  intro j
  rw [List.getElem?_take, List.getElem?_take]
  split
  · rename_i hj
    rw [List.getElem?_drop, List.getElem?_drop]
    rcases Nat.lt_or_gt_of_ne hk with h | h
    · rw [List.append_assoc, List.getElem?_append_left (by simp; omega), List.getElem?_take, if_pos (by omega)]
    · have hl : (bs.take (32 * i) ++ d).length = 32 * i + d.length := by simp; omega
      rw [List.getElem?_append_right (by rw [hl]; omega), List.getElem?_drop, hl]
      congr 1
      omega
  · rfl
theorem blk_blit_eq {bs d : List UInt8} {i : Nat} (hb : 32 * i + 32 ≤ bs.length) (hd : d.length ≤ 32) : blkL (blit bs (32 * i) d) i = d ++ (blkL bs i).drop d.length := by
  unfold blkL blit
  have h1 : (bs.take (32 * i)).length = 32 * i := by simp; omega
  rw [List.append_assoc, List.drop_append, h1, Nat.sub_self, List.drop_zero, List.drop_of_length_le (by omega), List.nil_append, List.take_append, List.take_of_length_le hd, List.drop_take, List.drop_drop]
theorem rows_blit {s : Sto} (hs : s.ok) {i : Nat} (hi : i < s.n) {d : List UInt8} (hd : d.length ≤ 32) (f : Int) (b : Bool) : rows { s with bs := blit s.bs (32 * i) d, fuse := f, down := b } = (rows s).set i (d ++ (blkL s.bs i).drop d.length) := by
  have hl := hs.1
  apply List.ext_getElem?
  intro k
  rw [List.getElem?_set]
  by_cases hk : k < s.n
  · rw [rows_get _ (by exact hk)]
    by_cases e : i = k
    · subst e
      rw [if_pos rfl, if_pos (by rw [rows_length]; exact hi), blk_blit_eq (by omega) hd]
    · rw [if_neg e, rows_get _ hk, blk_blit_ne (by omega) hd (fun h => e h.symm)]
  · rw [List.getElem?_eq_none (by rw [rows_length]; exact Nat.le_of_not_lt hk)]
    split
    · omega
    · rw [List.getElem?_eq_none (by rw [rows_length]; omega)]

structure RAt (h : Heap) (rb : Nat) (s : Sto) (v : Value) : Prop where
  ok : s.ok
  hd : ∃ wr : Int, h[rb]? = some (.cells #[v, .int .i64 s.fuse, .int .i64 (s.pre : Int), .bool s.down, .int .i64 wr] 67 (0, 0))
  own : Own h 0 9 1 v s.n (strs (rows s))
  ne : rb ∉ blk v
theorem RAt.only {h h' : Heap} {rb : Nat} {s : Sto} {v : Value} (hr : RAt h rb s v) {S : List Nat} (ho : Only S h h') (h1 : rb ∉ S) (h2 : ∀ k ∈ blk v, k ∉ S) : RAt h' rb s v :=
  ⟨hr.ok, hr.hd.elim fun wr hw => ⟨wr, ho.at hw h1⟩, hr.own.only ho h2, hr.ne⟩
theorem RAt.ext {h h' : Heap} {rb : Nat} {s : Sto} {v : Value} (hr : RAt h rb s v) (ho : Ext h h') : RAt h' rb s v := hr.only (ho.only []) (by simp) (by simp)
theorem RAt.cells {h : Heap} {rb : Nat} {s : Sto} {v : Value} (hr : RAt h rb s v) : ∃ wr : Int, cellH h rb 0 = some v ∧ cellH h rb 1 = some (.int .i64 s.fuse) ∧ cellH h rb 2 = some (.int .i64 (s.pre : Int)) ∧ cellH h rb 3 = some (.bool s.down) ∧ cellH h rb 4 = some (.int .i64 wr) := by
  obtain ⟨wr, hw⟩ := hr.hd
  refine ⟨wr, ?_⟩
  simp only [cellH_of hw]
  exact ⟨rfl, rfl, rfl, rfl, rfl⟩
theorem RAt.okw {h : Heap} {rb : Nat} {s : Sto} {v : Value} (hr : RAt h rb s v) : okW h rb 0 = true ∧ okW h rb 1 = true ∧ okW h rb 2 = true ∧ okW h rb 3 = true ∧ okW h rb 4 = true := by
  obtain ⟨wr, hw⟩ := hr.hd
  exact ⟨okW_of hw (by simp), okW_of hw (by simp), okW_of hw (by simp), okW_of hw (by simp), okW_of hw (by simp)⟩
theorem RAt.slice {h : Heap} {rb : Nat} {s : Sto} {v : Value} (hr : RAt h rb s v) : ∃ (g c : Nat) (cur : Array Value), v = .slice (some ⟨g, 0, none⟩) s.n c ∧ h[g]? = some (.cells cur 9 (0, 0)) ∧ s.n ≤ c ∧ cur.size = c ∧ cur.toList.take s.n = strs (rows s) := by
  rcases hr.own.2 with ⟨_, hn⟩ | ⟨g, c, cur, hv, _, hg, h1, h2, h3, h4⟩
  · have := hr.ok.2.1
    omega
  · exact ⟨g, c, cur, hv, hg, h1, by omega, by simpa using h4⟩
theorem RAt.row {h : Heap} {rb : Nat} {s : Sto} {v : Value} (hr : RAt h rb s v) {g c : Nat} (hv : v = .slice (some ⟨g, 0, none⟩) s.n c) {i : Nat} (hi : i < s.n) : cellH h g i = some (str (blkL s.bs i)) := by
  obtain ⟨g', c', cur, hv', hg, h1, h2, h3⟩ := hr.slice
  rw [hv] at hv'
  injection hv' with e1 e2 e3
  injection e1 with e1
  injection e1 with e1
  subst e1
  rw [cellH_of hg]
  have := strs_get (rows_get s hi)
  rw [← h3, List.getElem?_take, if_pos hi] at this
  simpa using this

theorem rfuse_spec {h : Heap} {rb : Nat} {s : Sto} {v : Value} (hr : RAt h rb s v) (x y : Int) (hx : -9223372036854775808 ≤ x ∧ x ≤ 9223372036854775807) {K : Value → Heap → Prop}
    (hk : ∀ h', RAt h' rb { s with fuse := max x (-1), pre := (max y 0).toNat % 33 } v → Only [rb] h h' → K (.tuple #[]) h') : CallF Try.prog 13 #[.pointer (some ⟨rb, 0, none⟩), .int .i64 x, .int .i64 y] h K := by
  apply S13
  unfold F13
  obtain ⟨w0, w1, w2, w3, w4⟩ := hr.okw
  obtain ⟨wr, hb⟩ := hr.hd
  simp (disch := first | assumption | (with_reducible exact Ext.refl _) | (with_reducible exact Keep.refl _ _) | (with_reducible exact Eq.refl _) | (intro _ he; cases he; assumption) | (intro _ he; with_reducible apply keep_cell' he; assumption; simp; done) | (intro _ he; with_reducible apply ext_cell' he; assumption; done) | (with_reducible first | exact pl_int _ _ | exact pl_byte _ | exact pl_u32 _ | exact pl_bool _ | exact pl_ptr _ | exact pl_slice _ _ _ | exact pl_map _ | exact pl_str _ | exact pl_func _ _ _) | ((rw [okW_setH]; repeat rw [okW_setH]); assumption) | ((with_reducible refine cellH_setH_same ?_ _); (repeat rw [okW_setH]); assumption) | ((rw [cellH_setH_off]; rotate_left; focus decide); (repeat (rw [cellH_setH_off]; rotate_left; focus decide)); first | assumption | ((with_reducible refine cellH_setH_same ?_ _); (repeat rw [okW_setH]); assumption)) | omega) only [↓hpR, ↓nilC_ptr, ↓nilC_func, ↓condP_true, ↓condP_false, ↓condP_bool, ↓guardP_true, ↓guardP_false, ↓guardP_bool_t, ↓guardP_bool_f, ↓skipP_undef, ↓pickP_bool, ↓b_add, ↓b_sub, ↓b_mul, ↓b_quo, ↓b_rem, ↓b_lss, ↓b_leq, ↓b_gtr, ↓b_geq, ↓b_eql, ↓b_neq, ↓u_not, ↓s_add, ↓s_eql, ↓s_neq, ↓i_max2, ↓i_min2, ↓x20, ↓x21, ↓x30, ↓x31, ↓x32, ↓q_b_add, ↓q_b_sub, ↓q_b_mul, ↓q_b_quo, ↓q_b_rem, ↓q_b_lss, ↓q_b_leq, ↓q_b_gtr, ↓q_b_geq, ↓q_b_eql, ↓q_b_neq, ↓q_u_not, ↓q_s_add, ↓q_s_eql, ↓q_s_neq, ↓q_i_max2, ↓q_i_min2, ↓q_x20, ↓q_x21, ↓q_x30, ↓q_x31, ↓q_x32, ↓m_box, decide_true, decide_false, tt_and, ff_and, Nat.zero_add, Int.toNat_natCast, cells_agg, cells_bool, cells_int, cells_str, cells_ptr, cells_slice, ↓qend_eq, ↓jump_none, ↓jump_ret, ↓jump_exit, ↓marks_one, cond_true, cond_false, Bool.not_true, Bool.not_false]
  have e : max y 0 % 33 = (((max y 0).toNat % 33 : Nat) : Int) := by omega
  have hox : Only [rb] h (setH (setH h rb 1 (.int .i64 (max x (-1)))) rb 2 (.int .i64 (max y 0 % 33))) := setH_only (setH_only (Only.refl _ _) (.inl (by simp)) _ _) (.inl (by simp)) _ _
  refine hk _ ⟨⟨hr.ok.1, hr.ok.2.1, hr.ok.2.2.1, by simp only; omega, by simp only; omega, by simp only; omega⟩, ⟨wr, ?_⟩, hr.own.only hox (fun k hm => by simp; rintro rfl; exact hr.ne hm), hr.ne⟩ hox
  rw [setH_at (setH_at hb _ _), e]; rfl
theorem rup_spec {h : Heap} {rb : Nat} {s : Sto} {v : Value} (hr : RAt h rb s v) {K : Value → Heap → Prop}
    (hk : ∀ h', RAt h' rb { s with fuse := -1, down := false } v → Only [rb] h h' → K (.tuple #[]) h') : CallF Try.prog 15 #[.pointer (some ⟨rb, 0, none⟩)] h K := by
  apply S15
  unfold F15
  obtain ⟨w0, w1, w2, w3, w4⟩ := hr.okw
  obtain ⟨wr, hb⟩ := hr.hd
  simp (disch := first | assumption | (with_reducible exact Ext.refl _) | (with_reducible exact Keep.refl _ _) | (with_reducible exact Eq.refl _) | (intro _ he; cases he; assumption) | (intro _ he; with_reducible apply keep_cell' he; assumption; simp; done) | (intro _ he; with_reducible apply ext_cell' he; assumption; done) | (with_reducible first | exact pl_int _ _ | exact pl_byte _ | exact pl_u32 _ | exact pl_bool _ | exact pl_ptr _ | exact pl_slice _ _ _ | exact pl_map _ | exact pl_str _ | exact pl_func _ _ _) | ((rw [okW_setH]; repeat rw [okW_setH]); assumption) | ((with_reducible refine cellH_setH_same ?_ _); (repeat rw [okW_setH]); assumption) | ((rw [cellH_setH_off]; rotate_left; focus decide); (repeat (rw [cellH_setH_off]; rotate_left; focus decide)); first | assumption | ((with_reducible refine cellH_setH_same ?_ _); (repeat rw [okW_setH]); assumption)) | omega) only [↓hpR, ↓nilC_ptr, ↓nilC_func, ↓condP_true, ↓condP_false, ↓condP_bool, ↓guardP_true, ↓guardP_false, ↓guardP_bool_t, ↓guardP_bool_f, ↓skipP_undef, ↓pickP_bool, ↓b_add, ↓b_sub, ↓b_mul, ↓b_quo, ↓b_rem, ↓b_lss, ↓b_leq, ↓b_gtr, ↓b_geq, ↓b_eql, ↓b_neq, ↓u_not, ↓s_add, ↓s_eql, ↓s_neq, ↓i_max2, ↓i_min2, ↓x20, ↓x21, ↓x30, ↓x31, ↓x32, ↓q_b_add, ↓q_b_sub, ↓q_b_mul, ↓q_b_quo, ↓q_b_rem, ↓q_b_lss, ↓q_b_leq, ↓q_b_gtr, ↓q_b_geq, ↓q_b_eql, ↓q_b_neq, ↓q_u_not, ↓q_s_add, ↓q_s_eql, ↓q_s_neq, ↓q_i_max2, ↓q_i_min2, ↓q_x20, ↓q_x21, ↓q_x30, ↓q_x31, ↓q_x32, ↓m_box, decide_true, decide_false, tt_and, ff_and, Nat.zero_add, Int.toNat_natCast, cells_agg, cells_bool, cells_int, cells_str, cells_ptr, cells_slice, ↓qend_eq, ↓jump_none, ↓jump_ret, ↓jump_exit, ↓marks_one, cond_true, cond_false, Bool.not_true, Bool.not_false]
  have hox : Only [rb] h (setH (setH h rb 3 (.bool false)) rb 1 (.int .i64 (-1))) := setH_only (setH_only (Only.refl _ _) (.inl (by simp)) _ _) (.inl (by simp)) _ _
  refine hk _ ⟨⟨hr.ok.1, hr.ok.2.1, hr.ok.2.2.1, by simp, by simp, hr.ok.2.2.2.2.2⟩, ⟨wr, ?_⟩, hr.own.only hox (fun k hm => by simp; rintro rfl; exact hr.ne hm), hr.ne⟩ hox
  rw [setH_at (setH_at hb _ _)]; rfl
theorem rbytes_spec {h : Heap} {rb : Nat} {s : Sto} {v : Value} (hr : RAt h rb s v) {K : Value → Heap → Prop} (hk : K (str s.bs) h) : CallF Try.prog 21 #[.pointer (some ⟨rb, 0, none⟩)] h K := by
  apply S21
  unfold F21
  obtain ⟨ok1, ok2, ok3, ok4, ok5, ok6⟩ := hr.ok
  obtain ⟨wr, c0, c1, c2, c3, c4⟩ := hr.cells
  obtain ⟨g, c, cur, hv, hg, hc1, hc2, hc3⟩ := hr.slice
  have es : (Value.string { data := #[] }) = str [] := rfl
  rw [es]
  rw [hv] at c0
  refine ⟨fun x y h' => ∃ i : Nat, x = str (s.bs.take (32 * i)) ∧ y = .int .i64 (i : Int) ∧ i ≤ s.n ∧ h' = h, fun x y h' => match y with | .int _ i => s.n - i.toNat | _ => 0, ⟨0, rfl, rfl, by omega, rfl⟩, ?_⟩
  rintro js x y h1 ⟨i, rfl, rfl, hi, rfl⟩
  simp (disch := first | assumption | (with_reducible exact Ext.refl _) | (with_reducible exact Keep.refl _ _) | (with_reducible exact Eq.refl _) | (intro _ he; cases he; assumption) | (intro _ he; with_reducible apply keep_cell' he; assumption; simp; done) | (intro _ he; with_reducible apply ext_cell' he; assumption; done) | (with_reducible first | exact pl_int _ _ | exact pl_byte _ | exact pl_u32 _ | exact pl_bool _ | exact pl_ptr _ | exact pl_slice _ _ _ | exact pl_map _ | exact pl_str _ | exact pl_func _ _ _) | ((rw [okW_setH]; repeat rw [okW_setH]); assumption) | ((with_reducible refine cellH_setH_same ?_ _); (repeat rw [okW_setH]); assumption) | ((rw [cellH_setH_off]; rotate_left; focus decide); (repeat (rw [cellH_setH_off]; rotate_left; focus decide)); first | assumption | ((with_reducible refine cellH_setH_same ?_ _); (repeat rw [okW_setH]); assumption)) | omega) only [↓hpR, ↓nilC_ptr, ↓nilC_func, ↓condP_true, ↓condP_false, ↓condP_bool, ↓guardP_true, ↓guardP_false, ↓guardP_bool_t, ↓guardP_bool_f, ↓skipP_undef, ↓pickP_bool, ↓b_add, ↓b_sub, ↓b_mul, ↓b_quo, ↓b_rem, ↓b_lss, ↓b_leq, ↓b_gtr, ↓b_geq, ↓b_eql, ↓b_neq, ↓u_not, ↓s_add, ↓s_eql, ↓s_neq, ↓i_max2, ↓i_min2, ↓x20, ↓x21, ↓x30, ↓x31, ↓x32, ↓q_b_add, ↓q_b_sub, ↓q_b_mul, ↓q_b_quo, ↓q_b_rem, ↓q_b_lss, ↓q_b_leq, ↓q_b_gtr, ↓q_b_geq, ↓q_b_eql, ↓q_b_neq, ↓q_u_not, ↓q_s_add, ↓q_s_eql, ↓q_s_neq, ↓q_i_max2, ↓q_i_min2, ↓q_x20, ↓q_x21, ↓q_x30, ↓q_x31, ↓q_x32, ↓m_box, decide_true, decide_false, tt_and, ff_and, Nat.zero_add, Int.toNat_natCast, cells_agg, cells_bool, cells_int, cells_str, cells_ptr, cells_slice, ↓qend_eq, ↓jump_none, ↓jump_ret, ↓jump_exit, ↓marks_one, cond_true, cond_false, Bool.not_true, Bool.not_false]
  refine ⟨fun hlt => ?_, fun hge => ?_⟩
  · have hlt' : i < s.n := by simp at hlt; omega
    have cr := hr.row hv hlt'
    have hl1 : (s.bs.take (32 * i)).length = 32 * i := by simp; omega
    have hl2 := blkL_length (bs := s.bs) (i := i) (by omega)
    simp (disch := first | assumption | (with_reducible exact Ext.refl _) | (with_reducible exact Keep.refl _ _) | (with_reducible exact Eq.refl _) | (intro _ he; cases he; assumption) | (intro _ he; with_reducible apply keep_cell' he; assumption; simp; done) | (intro _ he; with_reducible apply ext_cell' he; assumption; done) | (with_reducible first | exact pl_int _ _ | exact pl_byte _ | exact pl_u32 _ | exact pl_bool _ | exact pl_ptr _ | exact pl_slice _ _ _ | exact pl_map _ | exact pl_str _ | exact pl_func _ _ _) | ((rw [okW_setH]; repeat rw [okW_setH]); assumption) | ((with_reducible refine cellH_setH_same ?_ _); (repeat rw [okW_setH]); assumption) | ((rw [cellH_setH_off]; rotate_left; focus decide); (repeat (rw [cellH_setH_off]; rotate_left; focus decide)); first | assumption | ((with_reducible refine cellH_setH_same ?_ _); (repeat rw [okW_setH]); assumption)) | omega) only [↓hpR, ↓nilC_ptr, ↓nilC_func, ↓condP_true, ↓condP_false, ↓condP_bool, ↓guardP_true, ↓guardP_false, ↓guardP_bool_t, ↓guardP_bool_f, ↓skipP_undef, ↓pickP_bool, ↓b_add, ↓b_sub, ↓b_mul, ↓b_quo, ↓b_rem, ↓b_lss, ↓b_leq, ↓b_gtr, ↓b_geq, ↓b_eql, ↓b_neq, ↓u_not, ↓s_add, ↓s_eql, ↓s_neq, ↓i_max2, ↓i_min2, ↓x20, ↓x21, ↓x30, ↓x31, ↓x32, ↓q_b_add, ↓q_b_sub, ↓q_b_mul, ↓q_b_quo, ↓q_b_rem, ↓q_b_lss, ↓q_b_leq, ↓q_b_gtr, ↓q_b_geq, ↓q_b_eql, ↓q_b_neq, ↓q_u_not, ↓q_s_add, ↓q_s_eql, ↓q_s_neq, ↓q_i_max2, ↓q_i_min2, ↓q_x20, ↓q_x21, ↓q_x30, ↓q_x31, ↓q_x32, ↓m_box, decide_true, decide_false, tt_and, ff_and, Nat.zero_add, Int.toNat_natCast, cells_agg, cells_bool, cells_int, cells_str, cells_ptr, cells_slice, ↓qend_eq, ↓jump_none, ↓jump_ret, ↓jump_exit, ↓marks_one, cond_true, cond_false, Bool.not_true, Bool.not_false]
    refine ⟨⟨i + 1, ?_, by simp, by omega, by trivial⟩, by omega⟩
    unfold blkL
    rw [show 32 * (i + 1) = 32 * i + 32 by omega, List.take_add]
  · have : i = s.n := by simp at hge; omega
    subst this
    rw [List.take_of_length_le (by omega)]
    exact hk
end Go.Proofs.Ytoefeflmcggbkaa
