/- The reference's journals. -/
import Derived.Test.YtoefeflmcggbkaaJ13
set_option linter.unusedVariables false
set_option linter.unusedSimpArgs false
namespace Go.Proofs.Ytoefeflmcggbkaa
open Go.Hp Go.RowKit

theorem clear_blk {P : List UInt8} {n e i : Nat} (hP : P.length = 32 * n) (he : e ≤ 32 * n) (hi : e / 32 ≤ i) (hin : i < n) : blkL (clearL P e) i = (blkL P i).take (e - 32 * i) ++ List.replicate (32 - (e - 32 * i)) 0 := by
  unfold blkL clearL
  have h1 : (P.take e).length = e := by simp; omega
  have h2 : ((P.take e).drop (32 * i)).length = e - 32 * i := by simp; omega
  rw [List.drop_append, h1, List.take_append, h2, List.take_of_length_le (by rw [h2]; omega), List.drop_take, List.take_take, Nat.min_eq_left (by omega), List.drop_replicate, List.take_replicate]
  congr 2
  omega
theorem writeS_ok {s : Sto} (hs : s.ok) (i : Int) (d : List UInt8) : (writeS s i d).2.ok := by
  unfold writeS
  split
  · exact hs
  · rename_i hm
    have hm' : mayS s i = 0 := by omega
    obtain ⟨_, h0, h1⟩ := mayS_zero hm'
    obtain ⟨o1, o2, o3, o4, o5, o6⟩ := hs
    split
    · exact ⟨o1, o2, o3, o4, o5, o6⟩
    · rename_i hd
      split
      · exact ⟨by rw [blit_length (by simp; omega)]; exact o1, o2, o3, by simp, by simp, o6⟩
      · exact ⟨by rw [blit_length (by omega)]; exact o1, o2, o3, by simp only; omega, by simp only; omega, o6⟩
theorem writeS_blk {s : Sto} (hs : s.ok) (i k : Nat) (hk : k ≠ i) (d : List UInt8) : blkL (writeS s (i : Int) d).2.bs k = blkL s.bs k := by
  unfold writeS
  split
  · rfl
  · rename_i hm
    have hm' : mayS s i = 0 := by omega
    obtain ⟨_, h0, h1⟩ := mayS_zero hm'
    obtain ⟨o1, o2, o3, o4, o5, o6⟩ := hs
    split
    · rfl
    · rename_i hd
      split
      · exact blk_blit_ne (by simp; omega) (by simp; omega) hk
      · exact blk_blit_ne (by simp; omega) (by omega) hk
theorem part_blk {s : Sto} {f n i : Nat} (hi : i < n) : blkL (partL s f n) i = blkL s.bs (f + i) := by
  unfold blkL partL
  rw [List.drop_take, List.take_take, Nat.min_eq_left (by omega), List.drop_drop, show 32 * f + 32 * i = 32 * (f + i) by omega]

structure RJ (h : Heap) (jb rb : Nat) (j : Jr) (v : Value) : Prop where
  hd : h[jb]? = some (.cells #[.pointer (some ⟨rb, 0, none⟩), .int .i64 (j.f : Int), .int .i64 (j.n : Int), v, .int .i64 (j.e : Int), .bool j.down] 51 (0, 0))
  own : Own h 0 9 1 v j.l.length (strs j.l)
  ne : jb ∉ blk v
  el : 9 * j.l.length ≤ j.e
  en : j.e ≤ 32 * j.n
  nn : v ≠ .slice none 0 0
theorem RJ.only {h h' : Heap} {jb b : Nat} {j : Jr} {v : Value} (hj : RJ h jb b j v) {S : List Nat} (ho : Only S h h') (h1 : jb ∉ S) (h2 : ∀ k ∈ blk v, k ∉ S) : RJ h' jb b j v :=
  ⟨ho.at hj.hd h1, hj.own.only ho h2, hj.ne, hj.el, hj.en, hj.nn⟩
theorem RJ.ext {h h' : Heap} {jb b : Nat} {j : Jr} {v : Value} (hj : RJ h jb b j v) (ho : Ext h h') : RJ h' jb b j v := hj.only (ho.only []) (by simp) (by simp)

theorem rpart_spec {h : Heap} {rb : Nat} {s : Sto} {vs : Value} (hr : RAt h rb s vs) (f n : Int) {K : Value → Heap → Prop}
    (hbad : partB s f n = false → K (.tuple #[.pointer none, .slice none 0 0, .int .i64 1]) h)
    (herr : partB s f n = true → (openP s f.toNat n.toNat).1 ≠ 0 → ∀ h', RAt h' rb (openP s f.toNat n.toNat).2 vs → Only (rb :: blk vs) h h' → K (.tuple #[.pointer none, .slice none 0 0, .int .i64 (openP s f.toNat n.toNat).1]) h')
    (hk : partB s f n = true → (openP s f.toNat n.toNat).1 = 0 → ∀ h' jb v, RAt h' rb (openP s f.toNat n.toNat).2 vs → Only (rb :: blk vs) h h' → RJ h' jb rb (jr0 s f.toNat n.toNat) v → h.size ≤ jb → (∀ k ∈ blk v, h.size ≤ k) →
      K (.tuple #[.pointer (some ⟨jb, 0, none⟩), v, .int .i64 0]) h') :
    CallF Try.prog 30 #[.pointer (some ⟨rb, 0, none⟩), .int .i64 f, .int .i64 n] h K := by
  apply S30
  unfold F30
  obtain ⟨ok1, ok2, ok3, ok4, ok5, ok6⟩ := hr.ok
  have hrl : rb < h.size := hr.hd.elim fun wr hw => lt_of_at hw
  refine ris_spec hr f n ?_
  simp (disch := first | assumption | (with_reducible exact Ext.refl _) | (with_reducible exact Keep.refl _ _) | (with_reducible exact Eq.refl _) | (intro _ he; cases he; assumption) | (intro _ he; with_reducible apply keep_cell' he; assumption; simp; done) | (intro _ he; with_reducible apply ext_cell' he; assumption; done) | (with_reducible first | exact pl_int _ _ | exact pl_byte _ | exact pl_u32 _ | exact pl_bool _ | exact pl_ptr _ | exact pl_slice _ _ _ | exact pl_map _ | exact pl_str _ | exact pl_func _ _ _) | ((rw [okW_setH]; repeat rw [okW_setH]); assumption) | ((with_reducible refine cellH_setH_same ?_ _); (repeat rw [okW_setH]); assumption) | ((rw [cellH_setH_off]; rotate_left; focus decide); (repeat (rw [cellH_setH_off]; rotate_left; focus decide)); first | assumption | ((with_reducible refine cellH_setH_same ?_ _); (repeat rw [okW_setH]); assumption)) | omega) only [↓hpR, ↓nilC_ptr, ↓nilC_func, ↓condP_true, ↓condP_false, ↓condP_bool, ↓guardP_true, ↓guardP_false, ↓guardP_bool_t, ↓guardP_bool_f, ↓skipP_undef, ↓pickP_bool, ↓b_add, ↓b_sub, ↓b_mul, ↓b_quo, ↓b_rem, ↓b_lss, ↓b_leq, ↓b_gtr, ↓b_geq, ↓b_eql, ↓b_neq, ↓u_not, ↓s_add, ↓s_eql, ↓s_neq, ↓i_max2, ↓i_min2, ↓x20, ↓x21, ↓x30, ↓x31, ↓x32, ↓q_b_add, ↓q_b_sub, ↓q_b_mul, ↓q_b_quo, ↓q_b_rem, ↓q_b_lss, ↓q_b_leq, ↓q_b_gtr, ↓q_b_geq, ↓q_b_eql, ↓q_b_neq, ↓q_u_not, ↓q_s_add, ↓q_s_eql, ↓q_s_neq, ↓q_i_max2, ↓q_i_min2, ↓q_x20, ↓q_x21, ↓q_x30, ↓q_x31, ↓q_x32, ↓m_box, decide_true, decide_false, tt_and, ff_and, Nat.zero_add, Int.toNat_natCast, cells_agg, cells_bool, cells_int, cells_str, cells_ptr, cells_slice, ↓qend_eq, ↓jump_none, ↓jump_ret, ↓jump_exit, ↓marks_one, cond_true, cond_false, Bool.not_true, Bool.not_false]
  refine ⟨fun hb => hbad (by simpa using hb), fun hb => ?_⟩
  have hb' : partB s f n = true := by simpa using hb
  obtain ⟨q1, q2, q3⟩ := partB_iff hb'
  have hfn : f.toNat + n.toNat ≤ s.n := by omega
  have hef : f = ((f.toNat : Nat) : Int) := by omega
  have hen : n = ((n.toNat : Nat) : Int) := by omega
  obtain ⟨F, hF⟩ : ∃ F, f.toNat = F := ⟨_, rfl⟩
  obtain ⟨N, hN⟩ : ∃ N, n.toNat = N := ⟨_, rfl⟩
  rw [hF] at hef hfn herr hk
  rw [hN] at hen hfn herr hk
  subst hef hen
  clear hF hN
  have hpl := partL_length hr.ok hfn
  have hse := scanL_le (partL s F N)
  have hsc := scanL_count2 (partL s F N)
  refine rscan14_spec hr F N hfn fun h1 v x1 ho hnn => ?_
  simp (disch := first | assumption | (with_reducible exact Ext.refl _) | (with_reducible exact Keep.refl _ _) | (with_reducible exact Eq.refl _) | (intro _ he; cases he; assumption) | (intro _ he; with_reducible apply keep_cell' he; assumption; simp; done) | (intro _ he; with_reducible apply ext_cell' he; assumption; done) | (with_reducible first | exact pl_int _ _ | exact pl_byte _ | exact pl_u32 _ | exact pl_bool _ | exact pl_ptr _ | exact pl_slice _ _ _ | exact pl_map _ | exact pl_str _ | exact pl_func _ _ _) | ((rw [okW_setH]; repeat rw [okW_setH]); assumption) | ((with_reducible refine cellH_setH_same ?_ _); (repeat rw [okW_setH]); assumption) | ((rw [cellH_setH_off]; rotate_left; focus decide); (repeat (rw [cellH_setH_off]; rotate_left; focus decide)); first | assumption | ((with_reducible refine cellH_setH_same ?_ _); (repeat rw [okW_setH]); assumption)) | omega) only [↓hpR, ↓nilC_ptr, ↓nilC_func, ↓condP_true, ↓condP_false, ↓condP_bool, ↓guardP_true, ↓guardP_false, ↓guardP_bool_t, ↓guardP_bool_f, ↓skipP_undef, ↓pickP_bool, ↓b_add, ↓b_sub, ↓b_mul, ↓b_quo, ↓b_rem, ↓b_lss, ↓b_leq, ↓b_gtr, ↓b_geq, ↓b_eql, ↓b_neq, ↓u_not, ↓s_add, ↓s_eql, ↓s_neq, ↓i_max2, ↓i_min2, ↓x20, ↓x21, ↓x30, ↓x31, ↓x32, ↓q_b_add, ↓q_b_sub, ↓q_b_mul, ↓q_b_quo, ↓q_b_rem, ↓q_b_lss, ↓q_b_leq, ↓q_b_gtr, ↓q_b_geq, ↓q_b_eql, ↓q_b_neq, ↓q_u_not, ↓q_s_add, ↓q_s_eql, ↓q_s_neq, ↓q_i_max2, ↓q_i_min2, ↓q_x20, ↓q_x21, ↓q_x30, ↓q_x31, ↓q_x32, ↓m_box, decide_true, decide_false, tt_and, ff_and, Nat.zero_add, Int.toNat_natCast, cells_agg, cells_bool, cells_int, cells_str, cells_ptr, cells_slice, ↓qend_eq, ↓jump_none, ↓jump_ret, ↓jump_exit, ↓marks_one, cond_true, cond_false, Bool.not_true, Bool.not_false]
  obtain ⟨e, he⟩ : ∃ e, (scanL (partL s F N)).2 = e := ⟨_, rfl⟩
  have hop : openP s F N = putN F (partL s F N) (clearL (partL s F N) e) false (N - e / 32) (e / 32) s := by rw [← he]; rfl
  rw [he] at hse hsc ⊢
  have hfe : (e : Int) / 32 = ((e / 32 : Nat) : Int) := by omega
  rw [hfe]
  refine ⟨fun x h' => ∃ (i : Nat) (s' : Sto), x = .int .i64 (i : Int) ∧ e / 32 ≤ i ∧ i ≤ N ∧ RAt h' rb s' vs ∧ Only (rb :: blk vs) h1 h' ∧ s'.n = s.n ∧ (∀ k, i ≤ k → k < N → blkL s'.bs (F + k) = blkL (partL s F N) k) ∧
      putN F (partL s F N) (clearL (partL s F N) e) false (N - i) i s' = openP s F N, fun x h' => match x with | .int _ i => N - i.toNat | _ => 0, ?_, ?_⟩
  · exact ⟨e / 32, s, rfl, Nat.le_refl _, by omega, hr.ext x1, Only.refl _ _, rfl, fun k _ hk => (part_blk hk).symm, hop.symm⟩
  · rintro js x h2 ⟨i, s', rfl, hei, hi, hr2, ho2, hn2, hblk, heq⟩
    have ho12 : Only (rb :: blk vs) h h2 := (x1.only _).trans ho2
    simp (disch := first | assumption | (with_reducible exact Ext.refl _) | (with_reducible exact Keep.refl _ _) | (with_reducible exact Eq.refl _) | (intro _ he; cases he; assumption) | (intro _ he; with_reducible apply keep_cell' he; assumption; simp; done) | (intro _ he; with_reducible apply ext_cell' he; assumption; done) | (with_reducible first | exact pl_int _ _ | exact pl_byte _ | exact pl_u32 _ | exact pl_bool _ | exact pl_ptr _ | exact pl_slice _ _ _ | exact pl_map _ | exact pl_str _ | exact pl_func _ _ _) | ((rw [okW_setH]; repeat rw [okW_setH]); assumption) | ((with_reducible refine cellH_setH_same ?_ _); (repeat rw [okW_setH]); assumption) | ((rw [cellH_setH_off]; rotate_left; focus decide); (repeat (rw [cellH_setH_off]; rotate_left; focus decide)); first | assumption | ((with_reducible refine cellH_setH_same ?_ _); (repeat rw [okW_setH]); assumption)) | omega) only [↓hpR, ↓nilC_ptr, ↓nilC_func, ↓condP_true, ↓condP_false, ↓condP_bool, ↓guardP_true, ↓guardP_false, ↓guardP_bool_t, ↓guardP_bool_f, ↓skipP_undef, ↓pickP_bool, ↓b_add, ↓b_sub, ↓b_mul, ↓b_quo, ↓b_rem, ↓b_lss, ↓b_leq, ↓b_gtr, ↓b_geq, ↓b_eql, ↓b_neq, ↓u_not, ↓s_add, ↓s_eql, ↓s_neq, ↓i_max2, ↓i_min2, ↓x20, ↓x21, ↓x30, ↓x31, ↓x32, ↓q_b_add, ↓q_b_sub, ↓q_b_mul, ↓q_b_quo, ↓q_b_rem, ↓q_b_lss, ↓q_b_leq, ↓q_b_gtr, ↓q_b_geq, ↓q_b_eql, ↓q_b_neq, ↓q_u_not, ↓q_s_add, ↓q_s_eql, ↓q_s_neq, ↓q_i_max2, ↓q_i_min2, ↓q_x20, ↓q_x21, ↓q_x30, ↓q_x31, ↓q_x32, ↓m_box, decide_true, decide_false, tt_and, ff_and, Nat.zero_add, Int.toNat_natCast, cells_agg, cells_bool, cells_int, cells_str, cells_ptr, cells_slice, ↓qend_eq, ↓jump_none, ↓jump_ret, ↓jump_exit, ↓marks_one, cond_true, cond_false, Bool.not_true, Bool.not_false]
    refine ⟨fun hlt => ?_, fun hge => ?_⟩
    · have hlt' : i < N := by simp at hlt; omega
      have hnd : N - i = (N - (i + 1)) + 1 := by omega
      obtain ⟨wr, c0, c1, c2, c3, c4⟩ := hr2.cells
      obtain ⟨g, c, cur, hv, hg, hc1, hc2, hc3⟩ := hr2.slice
      rw [hv] at c0
      have cr := hr2.row hv (i := F + i) (by omega)
      rw [hblk i (Nat.le_refl _) hlt'] at cr
      have hl2 : (blkL (partL s F N) i).length = 32 := blkL_length (by omega)
      have ei : ((F : Int) + (i : Int)).toNat = F + i := by omega
      have em : max ((e : Int) - 32 * (i : Int)) 0 = ((e - 32 * i : Nat) : Int) := by omega
      have hl1 : ((blkL (partL s F N) i).take (e - 32 * i)).length = e - 32 * i := by simp; omega
      refine Join0.intro (fun h' => ∃ s2, RAt h' rb s2 vs ∧ Only (rb :: blk vs) h1 h' ∧ s2.n = s.n ∧ (∀ k, i + 1 ≤ k → k < N → blkL s2.bs (F + k) = blkL (partL s F N) k) ∧
        putN F (partL s F N) (clearL (partL s F N) e) false (N - (i + 1)) (i + 1) s2 = openP s F N) (fun J hJ => ?_) ?_
      · simp (disch := first | assumption | (with_reducible exact Ext.refl _) | (with_reducible exact Keep.refl _ _) | (with_reducible exact Eq.refl _) | (intro _ he; cases he; assumption) | (intro _ he; with_reducible apply keep_cell' he; assumption; simp; done) | (intro _ he; with_reducible apply ext_cell' he; assumption; done) | (with_reducible first | exact pl_int _ _ | exact pl_byte _ | exact pl_u32 _ | exact pl_bool _ | exact pl_ptr _ | exact pl_slice _ _ _ | exact pl_map _ | exact pl_str _ | exact pl_func _ _ _) | ((rw [okW_setH]; repeat rw [okW_setH]); assumption) | ((with_reducible refine cellH_setH_same ?_ _); (repeat rw [okW_setH]); assumption) | ((rw [cellH_setH_off]; rotate_left; focus decide); (repeat (rw [cellH_setH_off]; rotate_left; focus decide)); first | assumption | ((with_reducible refine cellH_setH_same ?_ _); (repeat rw [okW_setH]); assumption)) | omega) only [↓hpR, ↓nilC_ptr, ↓nilC_func, ↓condP_true, ↓condP_false, ↓condP_bool, ↓guardP_true, ↓guardP_false, ↓guardP_bool_t, ↓guardP_bool_f, ↓skipP_undef, ↓pickP_bool, ↓b_add, ↓b_sub, ↓b_mul, ↓b_quo, ↓b_rem, ↓b_lss, ↓b_leq, ↓b_gtr, ↓b_geq, ↓b_eql, ↓b_neq, ↓u_not, ↓s_add, ↓s_eql, ↓s_neq, ↓i_max2, ↓i_min2, ↓x20, ↓x21, ↓x30, ↓x31, ↓x32, ↓q_b_add, ↓q_b_sub, ↓q_b_mul, ↓q_b_quo, ↓q_b_rem, ↓q_b_lss, ↓q_b_leq, ↓q_b_gtr, ↓q_b_geq, ↓q_b_eql, ↓q_b_neq, ↓q_u_not, ↓q_s_add, ↓q_s_eql, ↓q_s_neq, ↓q_i_max2, ↓q_i_min2, ↓q_x20, ↓q_x21, ↓q_x30, ↓q_x31, ↓q_x32, ↓m_box, decide_true, decide_false, tt_and, ff_and, Nat.zero_add, Int.toNat_natCast, cells_agg, cells_bool, cells_int, cells_str, cells_ptr, cells_slice, ↓qend_eq, ↓jump_none, ↓jump_ret, ↓jump_exit, ↓marks_one, cond_true, cond_false, Bool.not_true, Bool.not_false, em]
        refine Quiet_eq ?_
        simp (disch := first | assumption | (with_reducible exact Ext.refl _) | (with_reducible exact Keep.refl _ _) | (with_reducible exact Eq.refl _) | (intro _ he; cases he; assumption) | (intro _ he; with_reducible apply keep_cell' he; assumption; simp; done) | (intro _ he; with_reducible apply ext_cell' he; assumption; done) | (with_reducible first | exact pl_int _ _ | exact pl_byte _ | exact pl_u32 _ | exact pl_bool _ | exact pl_ptr _ | exact pl_slice _ _ _ | exact pl_map _ | exact pl_str _ | exact pl_func _ _ _) | ((rw [okW_setH]; repeat rw [okW_setH]); assumption) | ((with_reducible refine cellH_setH_same ?_ _); (repeat rw [okW_setH]); assumption) | ((rw [cellH_setH_off]; rotate_left; focus decide); (repeat (rw [cellH_setH_off]; rotate_left; focus decide)); first | assumption | ((with_reducible refine cellH_setH_same ?_ _); (repeat rw [okW_setH]); assumption)) | omega) only [↓hpR, ↓nilC_ptr, ↓nilC_func, ↓condP_true, ↓condP_false, ↓condP_bool, ↓guardP_true, ↓guardP_false, ↓guardP_bool_t, ↓guardP_bool_f, ↓skipP_undef, ↓pickP_bool, ↓b_add, ↓b_sub, ↓b_mul, ↓b_quo, ↓b_rem, ↓b_lss, ↓b_leq, ↓b_gtr, ↓b_geq, ↓b_eql, ↓b_neq, ↓u_not, ↓s_add, ↓s_eql, ↓s_neq, ↓i_max2, ↓i_min2, ↓x20, ↓x21, ↓x30, ↓x31, ↓x32, ↓q_b_add, ↓q_b_sub, ↓q_b_mul, ↓q_b_quo, ↓q_b_rem, ↓q_b_lss, ↓q_b_leq, ↓q_b_gtr, ↓q_b_geq, ↓q_b_eql, ↓q_b_neq, ↓q_u_not, ↓q_s_add, ↓q_s_eql, ↓q_s_neq, ↓q_i_max2, ↓q_i_min2, ↓q_x20, ↓q_x21, ↓q_x30, ↓q_x31, ↓q_x32, ↓m_box, decide_true, decide_false, tt_and, ff_and, Nat.zero_add, Int.toNat_natCast, cells_agg, cells_bool, cells_int, cells_str, cells_ptr, cells_slice, ↓qend_eq, ↓jump_none, ↓jump_ret, ↓jump_exit, ↓marks_one, cond_true, cond_false, Bool.not_true, Bool.not_false, ei]
        have ez : (32 : Int) - ((e - 32 * i : Nat) : Int) = ((32 - (e - 32 * i) : Nat) : Int) := by omega
        rw [ez]
        refine QCallF_eq (v := str (List.replicate (32 - (e - 32 * i)) 0)) (R45 _) (zeros_spec _ (by omega) ⟨rfl, rfl⟩) ?_
        have hl3 : (List.replicate (32 - (e - 32 * i)) (0 : UInt8)).length = 32 - (e - 32 * i) := by simp
        simp (disch := first | assumption | (with_reducible exact Ext.refl _) | (with_reducible exact Keep.refl _ _) | (with_reducible exact Eq.refl _) | (intro _ he; cases he; assumption) | (intro _ he; with_reducible apply keep_cell' he; assumption; simp; done) | (intro _ he; with_reducible apply ext_cell' he; assumption; done) | (with_reducible first | exact pl_int _ _ | exact pl_byte _ | exact pl_u32 _ | exact pl_bool _ | exact pl_ptr _ | exact pl_slice _ _ _ | exact pl_map _ | exact pl_str _ | exact pl_func _ _ _) | ((rw [okW_setH]; repeat rw [okW_setH]); assumption) | ((with_reducible refine cellH_setH_same ?_ _); (repeat rw [okW_setH]); assumption) | ((rw [cellH_setH_off]; rotate_left; focus decide); (repeat (rw [cellH_setH_off]; rotate_left; focus decide)); first | assumption | ((with_reducible refine cellH_setH_same ?_ _); (repeat rw [okW_setH]); assumption)) | omega) only [↓hpR, ↓nilC_ptr, ↓nilC_func, ↓condP_true, ↓condP_false, ↓condP_bool, ↓guardP_true, ↓guardP_false, ↓guardP_bool_t, ↓guardP_bool_f, ↓skipP_undef, ↓pickP_bool, ↓b_add, ↓b_sub, ↓b_mul, ↓b_quo, ↓b_rem, ↓b_lss, ↓b_leq, ↓b_gtr, ↓b_geq, ↓b_eql, ↓b_neq, ↓u_not, ↓s_add, ↓s_eql, ↓s_neq, ↓i_max2, ↓i_min2, ↓x20, ↓x21, ↓x30, ↓x31, ↓x32, ↓q_b_add, ↓q_b_sub, ↓q_b_mul, ↓q_b_quo, ↓q_b_rem, ↓q_b_lss, ↓q_b_leq, ↓q_b_gtr, ↓q_b_geq, ↓q_b_eql, ↓q_b_neq, ↓q_u_not, ↓q_s_add, ↓q_s_eql, ↓q_s_neq, ↓q_i_max2, ↓q_i_min2, ↓q_x20, ↓q_x21, ↓q_x30, ↓q_x31, ↓q_x32, ↓m_box, decide_true, decide_false, tt_and, ff_and, Nat.zero_add, Int.toNat_natCast, cells_agg, cells_bool, cells_int, cells_str, cells_ptr, cells_slice, ↓qend_eq, ↓jump_none, ↓jump_ret, ↓jump_exit, ↓marks_one, cond_true, cond_false, Bool.not_true, Bool.not_false]
        rw [← clear_blk hpl (by omega) hei hlt']
        have ef : (F : Int) + (i : Int) = ((F + i : Nat) : Int) := by omega
        rw [ef]
        have hstep := heq
        rw [hnd] at hstep
        simp only [putN, true_and] at hstep
        have hcl : (blkL (clearL (partL s F N) e) i).length = 32 := blkL_length (by rw [clearL_length hse, hpl]; omega)
        have hbl2 : ∀ k, i + 1 ≤ k → k < N → blkL s'.bs (F + k) = blkL (partL s F N) k := fun k h1 h2 => hblk k (by omega) h2
        refine ⟨fun hne => ?_, fun heq2 => hJ _ ⟨s', hr2, ho2, hn2, hbl2, ?_⟩⟩
        · have hne' : ¬ blkL (clearL (partL s F N) e) i = blkL (partL s F N) i := by simpa using hne
          rw [if_neg hne'] at hstep
          refine rwrite_spec hr2 _ _ (by omega) fun h3 hr3 ho3 => ?_
          have hok2 := hr2.ok
          simp (disch := first | assumption | (with_reducible exact Ext.refl _) | (with_reducible exact Keep.refl _ _) | (with_reducible exact Eq.refl _) | (intro _ he; cases he; assumption) | (intro _ he; with_reducible apply keep_cell' he; assumption; simp; done) | (intro _ he; with_reducible apply ext_cell' he; assumption; done) | (with_reducible first | exact pl_int _ _ | exact pl_byte _ | exact pl_u32 _ | exact pl_bool _ | exact pl_ptr _ | exact pl_slice _ _ _ | exact pl_map _ | exact pl_str _ | exact pl_func _ _ _) | ((rw [okW_setH]; repeat rw [okW_setH]); assumption) | ((with_reducible refine cellH_setH_same ?_ _); (repeat rw [okW_setH]); assumption) | ((rw [cellH_setH_off]; rotate_left; focus decide); (repeat (rw [cellH_setH_off]; rotate_left; focus decide)); first | assumption | ((with_reducible refine cellH_setH_same ?_ _); (repeat rw [okW_setH]); assumption)) | omega) only [↓hpR, ↓nilC_ptr, ↓nilC_func, ↓condP_true, ↓condP_false, ↓condP_bool, ↓guardP_true, ↓guardP_false, ↓guardP_bool_t, ↓guardP_bool_f, ↓skipP_undef, ↓pickP_bool, ↓b_add, ↓b_sub, ↓b_mul, ↓b_quo, ↓b_rem, ↓b_lss, ↓b_leq, ↓b_gtr, ↓b_geq, ↓b_eql, ↓b_neq, ↓u_not, ↓s_add, ↓s_eql, ↓s_neq, ↓i_max2, ↓i_min2, ↓x20, ↓x21, ↓x30, ↓x31, ↓x32, ↓q_b_add, ↓q_b_sub, ↓q_b_mul, ↓q_b_quo, ↓q_b_rem, ↓q_b_lss, ↓q_b_leq, ↓q_b_gtr, ↓q_b_geq, ↓q_b_eql, ↓q_b_neq, ↓q_u_not, ↓q_s_add, ↓q_s_eql, ↓q_s_neq, ↓q_i_max2, ↓q_i_min2, ↓q_x20, ↓q_x21, ↓q_x30, ↓q_x31, ↓q_x32, ↓m_box, decide_true, decide_false, tt_and, ff_and, Nat.zero_add, Int.toNat_natCast, cells_agg, cells_bool, cells_int, cells_str, cells_ptr, cells_slice, ↓qend_eq, ↓jump_none, ↓jump_ret, ↓jump_exit, ↓marks_one, cond_true, cond_false, Bool.not_true, Bool.not_false]
          refine ⟨fun hw => ?_, fun hw => hJ _ ⟨_, hr3, ho2.trans ho3, (writeS_n _ _ _).trans hn2, fun k h1 h2 => ?_, ?_⟩⟩
          · have hw' : (writeS s' ((F + i : Nat) : Int) (blkL (clearL (partL s F N) e) i)).1 ≠ 0 := by simpa using hw
            rw [if_neg hw'] at hstep
            rw [← hstep] at herr
            exact herr hb' hw' h3 hr3 (ho12.trans ho3)
          · rw [writeS_blk hok2 _ _ (by omega)]
            exact hbl2 k h1 h2
          · have hw' : (writeS s' ((F + i : Nat) : Int) (blkL (clearL (partL s F N) e) i)).1 = 0 := by simpa using hw
            rw [if_pos hw'] at hstep
            exact hstep
        · have heq2' : blkL (clearL (partL s F N) e) i = blkL (partL s F N) i := by simpa using heq2
          rw [if_pos heq2'] at hstep
          exact hstep
      · rintro h3 ⟨s2, hr3, ho3, hn3, hblk3, heq3⟩
        exact ⟨⟨i + 1, s2, by simp, by omega, by omega, hr3, ho3, hn3, hblk3, heq3⟩, by omega⟩
    · have hie : i = N := by simp at hge; omega
      subst hie
      rw [Nat.sub_self] at heq
      simp only [putN] at heq
      have hpv := ho.plain
      have hvo : Own h2 h.size 9 1 v (scanL (partL s F i)).1.length (strs (scanL (partL s F i)).1) := ho.only ho2 fun k hm => by
        have h5 := ho.ge k hm
        have hsl := hr.own.ge
        intro hc
        rcases List.mem_cons.1 hc with rfl | hc
        · omega
        · have := (hsl k hc).2; omega
      have hx3 := (Ext.refl h2).push (.cells #[.pointer (some ⟨rb, 0, none⟩), .int .i64 ((jr0 s F i).f : Int), .int .i64 ((jr0 s F i).n : Int), v, .int .i64 ((jr0 s F i).e : Int), .bool (jr0 s F i).down] 51 (0, 0))
      have hj3 := push_new h2 (.cells #[.pointer (some ⟨rb, 0, none⟩), .int .i64 ((jr0 s F i).f : Int), .int .i64 ((jr0 s F i).n : Int), v, .int .i64 ((jr0 s F i).e : Int), .bool (jr0 s F i).down] 51 (0, 0))
      rw [← heq] at hk
      have he' : (jr0 s F i).e = e := he
      simp (disch := first | assumption | (with_reducible exact Ext.refl _) | (with_reducible exact Keep.refl _ _) | (with_reducible exact Eq.refl _) | (intro _ he; cases he; assumption) | (intro _ he; with_reducible apply keep_cell' he; assumption; simp; done) | (intro _ he; with_reducible apply ext_cell' he; assumption; done) | (with_reducible first | exact pl_int _ _ | exact pl_byte _ | exact pl_u32 _ | exact pl_bool _ | exact pl_ptr _ | exact pl_slice _ _ _ | exact pl_map _ | exact pl_str _ | exact pl_func _ _ _) | ((rw [okW_setH]; repeat rw [okW_setH]); assumption) | ((with_reducible refine cellH_setH_same ?_ _); (repeat rw [okW_setH]); assumption) | ((rw [cellH_setH_off]; rotate_left; focus decide); (repeat (rw [cellH_setH_off]; rotate_left; focus decide)); first | assumption | ((with_reducible refine cellH_setH_same ?_ _); (repeat rw [okW_setH]); assumption)) | omega) only [↓hpR, ↓nilC_ptr, ↓nilC_func, ↓condP_true, ↓condP_false, ↓condP_bool, ↓guardP_true, ↓guardP_false, ↓guardP_bool_t, ↓guardP_bool_f, ↓skipP_undef, ↓pickP_bool, ↓b_add, ↓b_sub, ↓b_mul, ↓b_quo, ↓b_rem, ↓b_lss, ↓b_leq, ↓b_gtr, ↓b_geq, ↓b_eql, ↓b_neq, ↓u_not, ↓s_add, ↓s_eql, ↓s_neq, ↓i_max2, ↓i_min2, ↓x20, ↓x21, ↓x30, ↓x31, ↓x32, ↓q_b_add, ↓q_b_sub, ↓q_b_mul, ↓q_b_quo, ↓q_b_rem, ↓q_b_lss, ↓q_b_leq, ↓q_b_gtr, ↓q_b_geq, ↓q_b_eql, ↓q_b_neq, ↓q_u_not, ↓q_s_add, ↓q_s_eql, ↓q_s_neq, ↓q_i_max2, ↓q_i_min2, ↓q_x20, ↓q_x21, ↓q_x30, ↓q_x31, ↓q_x32, ↓m_box, decide_true, decide_false, tt_and, ff_and, Nat.zero_add, Int.toNat_natCast, cells_agg, cells_bool, cells_int, cells_str, cells_ptr, cells_slice, ↓qend_eq, ↓jump_none, ↓jump_ret, ↓jump_exit, ↓marks_one, cond_true, cond_false, Bool.not_true, Bool.not_false]
      have := hk hb' rfl _ h2.size v (hr2.ext hx3) (ho12.trans (hx3.only _)) ⟨hj3, (hvo.ext hx3).low (Nat.zero_le _), fun hm => by have := (hvo.ge _ hm).2; omega, by rw [he']; exact hsc, by rw [he']; show e ≤ 32 * i; omega, hnn⟩ ho12.size (fun k hm => (hvo.ge k hm).1)
      rw [he'] at this
      exact this
end Go.Proofs.Ytoefeflmcggbkaa
