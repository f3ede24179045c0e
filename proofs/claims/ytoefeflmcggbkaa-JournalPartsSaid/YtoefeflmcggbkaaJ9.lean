/- A record is appended. -/
import Derived.Test.YtoefeflmcggbkaaJ8
set_option linter.unusedVariables false
set_option linter.unusedSimpArgs false
namespace Go.Proofs.Ytoefeflmcggbkaa
open Go.Hp Go.RowKit

def appAll (s : Sto) (j : Jr) (r : List UInt8) : List UInt8 :=
  clearL ((partL s j.f j.n).take j.e ++ frameL r ++ (partL s j.f j.n).drop (j.e + (frameL r).length)) (j.e + (frameL r).length)
def appPut (s : Sto) (j : Jr) (r : List UInt8) : Int × Sto :=
  putN j.f (partL s j.f j.n) (appAll s j r) true ((j.e + (frameL r).length + 31) / 32 - j.e / 32) (j.e / 32) s
def appendP (s : Sto) (j : Jr) (r : List UInt8) : Int × Sto × Jr :=
  if frameE r ≠ 0 then (frameE r, s, j) else
  if 32 * j.n < j.e + (frameL r).length then (14, s, j) else
  if j.down then (16, s, j) else
  if (appPut s j r).1 ≠ 0 then ((appPut s j r).1, (appPut s j r).2, { j with down := true }) else (0, (appPut s j r).2, { j with l := j.l ++ [r], e := j.e + (frameL r).length })

theorem jpart_load {h : Heap} {jb b : Nat} {j : Jr} {v : Value} (hj : JAt h jb b j v) (K : Value → Heap → Prop) : RunV Try.prog (Instr.loadAt 72 (.pointer (some ⟨jb, 0, none⟩))) h K = K (partV b j.f j.n) h := by
  rw [m_loadAgg Try.underlying72 rfl size72 hj.hd (by simp)]
  rfl
theorem q_jpart_load {C : Heap → Prop} {h0 : Heap} (hC : C h0) {jb b : Nat} {j : Jr} {v : Value} (hj : ∀ h', C h' → h'[jb]? = some (.cells #[.pointer (some ⟨b, 0, none⟩), .int .i64 (j.f : Int), .int .i64 (j.n : Int), v, .int .i64 (j.e : Int), .bool j.down] 74 (0, 0))) (K : Value → Prop) :
    QV Try.prog C (Instr.loadAt 72 (.pointer (some ⟨jb, 0, none⟩))) K = K (partV b j.f j.n) := by
  rw [q_m_loadAgg hC Try.underlying72 rfl size72 hj (by simp)]
  rfl
theorem JAt.ok {h : Heap} {jb b : Nat} {j : Jr} {v : Value} (hj : JAt h jb b j v) : okW h jb 3 = true ∧ okW h jb 4 = true ∧ okW h jb 5 = true :=
  ⟨okW_of hj.hd (by simp), okW_of hj.hd (by simp), okW_of hj.hd (by simp)⟩

theorem append_spec {h : Heap} {jb b g : Nat} {s : Sto} {j : Jr} {v : Value} (hs : StoreAt h b g s) (hj : JAt h jb b j v) (hfn : j.f + j.n ≤ s.n) (hb : jb ≠ b) (hg : jb ≠ g) (hbv : b ∉ blk v) (hgv : g ∉ blk v) (r : List UInt8) (hr : r.length ≤ 1099511627776) {K : Value → Heap → Prop}
    (hk : ∀ h' v', StoreAt h' b g (appendP s j r).2.1 → JAt h' jb b (appendP s j r).2.2 v' → Only (b :: g :: jb :: blk v) h h' → (∀ k ∈ blk v', k ∈ blk v ∨ h.size ≤ k) → K (.int .i64 (appendP s j r).1) h') :
    CallF Try.prog 10 #[.pointer (some ⟨jb, 0, none⟩), str r] h K := by
  apply S10
  unfold F10
  obtain ⟨ok1, ok2, ok3, ok4, ok5, ok6⟩ := hs.ok
  have hjl : jb < h.size := lt_of_at hj.hd
  refine frame_spec r (by omega) fun h1 x1 => ?_
  have hj1 := hj.ext x1
  have hs1 := hs.ext x1
  simp (disch := first | assumption | (with_reducible exact Ext.refl _) | (with_reducible exact Keep.refl _ _) | (with_reducible exact Eq.refl _) | (intro _ he; cases he; assumption) | (intro _ he; with_reducible apply keep_cell' he; assumption; simp; done) | (intro _ he; with_reducible apply ext_cell' he; assumption; done) | (with_reducible first | exact pl_int _ _ | exact pl_byte _ | exact pl_u32 _ | exact pl_bool _ | exact pl_ptr _ | exact pl_slice _ _ _ | exact pl_map _ | exact pl_str _ | exact pl_func _ _ _) | ((rw [okW_setH]; repeat rw [okW_setH]); assumption) | ((with_reducible refine cellH_setH_same ?_ _); (repeat rw [okW_setH]); assumption) | ((rw [cellH_setH_off]; rotate_left; focus decide); (repeat (rw [cellH_setH_off]; rotate_left; focus decide)); first | assumption | ((with_reducible refine cellH_setH_same ?_ _); (repeat rw [okW_setH]); assumption)) | omega) only [↓hpR, ↓nilC_ptr, ↓nilC_func, ↓condP_true, ↓condP_false, ↓condP_bool, ↓guardP_true, ↓guardP_false, ↓guardP_bool_t, ↓guardP_bool_f, ↓skipP_undef, ↓pickP_bool, ↓b_add, ↓b_sub, ↓b_mul, ↓b_quo, ↓b_rem, ↓b_lss, ↓b_leq, ↓b_gtr, ↓b_geq, ↓b_eql, ↓b_neq, ↓u_not, ↓s_add, ↓s_eql, ↓s_neq, ↓i_max2, ↓i_min2, ↓x20, ↓x21, ↓x30, ↓x31, ↓x32, ↓q_b_add, ↓q_b_sub, ↓q_b_mul, ↓q_b_quo, ↓q_b_rem, ↓q_b_lss, ↓q_b_leq, ↓q_b_gtr, ↓q_b_geq, ↓q_b_eql, ↓q_b_neq, ↓q_u_not, ↓q_s_add, ↓q_s_eql, ↓q_s_neq, ↓q_i_max2, ↓q_i_min2, ↓q_x20, ↓q_x21, ↓q_x30, ↓q_x31, ↓q_x32, ↓m_box, decide_true, decide_false, tt_and, ff_and, Nat.zero_add, Int.toNat_natCast, cells_agg, cells_bool, cells_int, cells_str, cells_ptr, cells_slice, ↓qend_eq, ↓jump_none, ↓jump_ret, ↓jump_exit, ↓marks_one, cond_true, cond_false, Bool.not_true, Bool.not_false]
  refine ⟨fun he => ?_, fun he => ?_⟩
  · have he' : frameE r ≠ 0 := by simpa using he
    have e : appendP s j r = (frameE r, s, j) := by unfold appendP; rw [if_pos he']
    rw [e] at hk
    exact hk h1 v hs1 hj1 (x1.only _) (fun k hk => .inl hk)
  · have he' : frameE r = 0 := by simpa using he
    have hfl := frameL_length r
    have hr400 : r.length ≤ 400 ∧ 1 ≤ r.length := by
      unfold frameE at he'
      split at he'
      · cases he'
      · omega
    rw [if_pos he']
    have hjen := hj.en
    have hjel := hj.el
    refine room_spec hj1 (by omega) ?_
    obtain ⟨c2, c3, c4, c5⟩ := hj1.cells
    simp (disch := first | assumption | (with_reducible exact Ext.refl _) | (with_reducible exact Keep.refl _ _) | (with_reducible exact Eq.refl _) | (intro _ he; cases he; assumption) | (intro _ he; with_reducible apply keep_cell' he; assumption; simp; done) | (intro _ he; with_reducible apply ext_cell' he; assumption; done) | (with_reducible first | exact pl_int _ _ | exact pl_byte _ | exact pl_u32 _ | exact pl_bool _ | exact pl_ptr _ | exact pl_slice _ _ _ | exact pl_map _ | exact pl_str _ | exact pl_func _ _ _) | ((rw [okW_setH]; repeat rw [okW_setH]); assumption) | ((with_reducible refine cellH_setH_same ?_ _); (repeat rw [okW_setH]); assumption) | ((rw [cellH_setH_off]; rotate_left; focus decide); (repeat (rw [cellH_setH_off]; rotate_left; focus decide)); first | assumption | ((with_reducible refine cellH_setH_same ?_ _); (repeat rw [okW_setH]); assumption)) | omega) only [↓hpR, ↓nilC_ptr, ↓nilC_func, ↓condP_true, ↓condP_false, ↓condP_bool, ↓guardP_true, ↓guardP_false, ↓guardP_bool_t, ↓guardP_bool_f, ↓skipP_undef, ↓pickP_bool, ↓b_add, ↓b_sub, ↓b_mul, ↓b_quo, ↓b_rem, ↓b_lss, ↓b_leq, ↓b_gtr, ↓b_geq, ↓b_eql, ↓b_neq, ↓u_not, ↓s_add, ↓s_eql, ↓s_neq, ↓i_max2, ↓i_min2, ↓x20, ↓x21, ↓x30, ↓x31, ↓x32, ↓q_b_add, ↓q_b_sub, ↓q_b_mul, ↓q_b_quo, ↓q_b_rem, ↓q_b_lss, ↓q_b_leq, ↓q_b_gtr, ↓q_b_geq, ↓q_b_eql, ↓q_b_neq, ↓q_u_not, ↓q_s_add, ↓q_s_eql, ↓q_s_neq, ↓q_i_max2, ↓q_i_min2, ↓q_x20, ↓q_x21, ↓q_x30, ↓q_x31, ↓q_x32, ↓m_box, decide_true, decide_false, tt_and, ff_and, Nat.zero_add, Int.toNat_natCast, cells_agg, cells_bool, cells_int, cells_str, cells_ptr, cells_slice, ↓qend_eq, ↓jump_none, ↓jump_ret, ↓jump_exit, ↓marks_one, cond_true, cond_false, Bool.not_true, Bool.not_false]
    refine ⟨fun hf => ?_, fun hf => ?_⟩
    · have hf' : 32 * j.n < j.e + (frameL r).length := by simp at hf; omega
      have e : appendP s j r = (14, s, j) := by unfold appendP; rw [if_neg (by omega), if_pos hf']
      rw [e] at hk
      exact hk h1 v hs1 hj1 (x1.only _) (fun k hk => .inl hk)
    · have hf' : ¬ 32 * j.n < j.e + (frameL r).length := by simp at hf; omega
      refine ⟨fun hd => ?_, fun hd => ?_⟩
      · have e : appendP s j r = (16, s, j) := by unfold appendP; rw [if_neg (by omega), if_neg hf', if_pos hd]
        rw [e] at hk
        exact hk h1 v hs1 hj1 (x1.only _) (fun k hk => .inl hk)
      · rw [jpart_load hj1]
        refine part_bytes hs1 j.f j.n hfn fun h2 x2 => ?_
        have hj2 := hj1.ext x2
        have hs2 := hs1.ext x2
        have hpl := partL_length hs.ok hfn
        obtain ⟨c2, c3, c4, c5⟩ := hj2.cells
        simp (disch := first | assumption | (with_reducible exact Ext.refl _) | (with_reducible exact Keep.refl _ _) | (with_reducible exact Eq.refl _) | (intro _ he; cases he; assumption) | (intro _ he; with_reducible apply keep_cell' he; assumption; simp; done) | (intro _ he; with_reducible apply ext_cell' he; assumption; done) | (with_reducible first | exact pl_int _ _ | exact pl_byte _ | exact pl_u32 _ | exact pl_bool _ | exact pl_ptr _ | exact pl_slice _ _ _ | exact pl_map _ | exact pl_str _ | exact pl_func _ _ _) | ((rw [okW_setH]; repeat rw [okW_setH]); assumption) | ((with_reducible refine cellH_setH_same ?_ _); (repeat rw [okW_setH]); assumption) | ((rw [cellH_setH_off]; rotate_left; focus decide); (repeat (rw [cellH_setH_off]; rotate_left; focus decide)); first | assumption | ((with_reducible refine cellH_setH_same ?_ _); (repeat rw [okW_setH]); assumption)) | omega) only [↓hpR, ↓nilC_ptr, ↓nilC_func, ↓condP_true, ↓condP_false, ↓condP_bool, ↓guardP_true, ↓guardP_false, ↓guardP_bool_t, ↓guardP_bool_f, ↓skipP_undef, ↓pickP_bool, ↓b_add, ↓b_sub, ↓b_mul, ↓b_quo, ↓b_rem, ↓b_lss, ↓b_leq, ↓b_gtr, ↓b_geq, ↓b_eql, ↓b_neq, ↓u_not, ↓s_add, ↓s_eql, ↓s_neq, ↓i_max2, ↓i_min2, ↓x20, ↓x21, ↓x30, ↓x31, ↓x32, ↓q_b_add, ↓q_b_sub, ↓q_b_mul, ↓q_b_quo, ↓q_b_rem, ↓q_b_lss, ↓q_b_leq, ↓q_b_gtr, ↓q_b_geq, ↓q_b_eql, ↓q_b_neq, ↓q_u_not, ↓q_s_add, ↓q_s_eql, ↓q_s_neq, ↓q_i_max2, ↓q_i_min2, ↓q_x20, ↓q_x21, ↓q_x30, ↓q_x31, ↓q_x32, ↓m_box, decide_true, decide_false, tt_and, ff_and, Nat.zero_add, Int.toNat_natCast, cells_agg, cells_bool, cells_int, cells_str, cells_ptr, cells_slice, ↓qend_eq, ↓jump_none, ↓jump_ret, ↓jump_exit, ↓marks_one, cond_true, cond_false, Bool.not_true, Bool.not_false]
        refine Quiet_keep [jb] ?_
        simp (disch := first | assumption | (with_reducible exact Ext.refl _) | (with_reducible exact Keep.refl _ _) | (with_reducible exact Eq.refl _) | (intro _ he; cases he; assumption) | (intro _ he; with_reducible apply keep_cell' he; assumption; simp; done) | (intro _ he; with_reducible apply ext_cell' he; assumption; done) | (with_reducible first | exact pl_int _ _ | exact pl_byte _ | exact pl_u32 _ | exact pl_bool _ | exact pl_ptr _ | exact pl_slice _ _ _ | exact pl_map _ | exact pl_str _ | exact pl_func _ _ _) | ((rw [okW_setH]; repeat rw [okW_setH]); assumption) | ((with_reducible refine cellH_setH_same ?_ _); (repeat rw [okW_setH]); assumption) | ((rw [cellH_setH_off]; rotate_left; focus decide); (repeat (rw [cellH_setH_off]; rotate_left; focus decide)); first | assumption | ((with_reducible refine cellH_setH_same ?_ _); (repeat rw [okW_setH]); assumption)) | omega) only [↓hpR, ↓nilC_ptr, ↓nilC_func, ↓condP_true, ↓condP_false, ↓condP_bool, ↓guardP_true, ↓guardP_false, ↓guardP_bool_t, ↓guardP_bool_f, ↓skipP_undef, ↓pickP_bool, ↓b_add, ↓b_sub, ↓b_mul, ↓b_quo, ↓b_rem, ↓b_lss, ↓b_leq, ↓b_gtr, ↓b_geq, ↓b_eql, ↓b_neq, ↓u_not, ↓s_add, ↓s_eql, ↓s_neq, ↓i_max2, ↓i_min2, ↓x20, ↓x21, ↓x30, ↓x31, ↓x32, ↓q_b_add, ↓q_b_sub, ↓q_b_mul, ↓q_b_quo, ↓q_b_rem, ↓q_b_lss, ↓q_b_leq, ↓q_b_gtr, ↓q_b_geq, ↓q_b_eql, ↓q_b_neq, ↓q_u_not, ↓q_s_add, ↓q_s_eql, ↓q_s_neq, ↓q_i_max2, ↓q_i_min2, ↓q_x20, ↓q_x21, ↓q_x30, ↓q_x31, ↓q_x32, ↓m_box, decide_true, decide_false, tt_and, ff_and, Nat.zero_add, Int.toNat_natCast, cells_agg, cells_bool, cells_int, cells_str, cells_ptr, cells_slice, ↓qend_eq, ↓jump_none, ↓jump_ret, ↓jump_exit, ↓marks_one, cond_true, cond_false, Bool.not_true, Bool.not_false]
        rw [q_jpart_load (Keep.refl _ _) (fun h' he => keep_at he hj2.hd (by simp))]
        have k4 : ∀ h', Keep [jb] h2 h' → cellH h' jb 4 = some (.int .i64 (j.e : Int)) := fun h' he => by rw [cellH_of (keep_at he hj2.hd (by simp))]; rfl
        have t1 : ((partL s j.f j.n).take j.e).length = j.e := by simp; omega
        have t2 : ((partL s j.f j.n).take j.e ++ frameL r).length = j.e + (frameL r).length := by rw [List.length_append, t1]
        have e3 : ((j.e : Int) + ((frameL r).length : Int)).toNat = j.e + (frameL r).length := by omega
        have t3 : ((partL s j.f j.n).drop (j.e + (frameL r).length)).length = 32 * j.n - (j.e + (frameL r).length) := by simp; omega
        simp (disch := first | assumption | (with_reducible exact Ext.refl _) | (with_reducible exact Keep.refl _ _) | (with_reducible exact Eq.refl _) | (intro _ he; cases he; assumption) | (intro _ he; with_reducible apply keep_cell' he; assumption; simp; done) | (intro _ he; with_reducible apply ext_cell' he; assumption; done) | (with_reducible first | exact pl_int _ _ | exact pl_byte _ | exact pl_u32 _ | exact pl_bool _ | exact pl_ptr _ | exact pl_slice _ _ _ | exact pl_map _ | exact pl_str _ | exact pl_func _ _ _) | ((rw [okW_setH]; repeat rw [okW_setH]); assumption) | ((with_reducible refine cellH_setH_same ?_ _); (repeat rw [okW_setH]); assumption) | ((rw [cellH_setH_off]; rotate_left; focus decide); (repeat (rw [cellH_setH_off]; rotate_left; focus decide)); first | assumption | ((with_reducible refine cellH_setH_same ?_ _); (repeat rw [okW_setH]); assumption)) | omega) only [↓hpR, ↓nilC_ptr, ↓nilC_func, ↓condP_true, ↓condP_false, ↓condP_bool, ↓guardP_true, ↓guardP_false, ↓guardP_bool_t, ↓guardP_bool_f, ↓skipP_undef, ↓pickP_bool, ↓b_add, ↓b_sub, ↓b_mul, ↓b_quo, ↓b_rem, ↓b_lss, ↓b_leq, ↓b_gtr, ↓b_geq, ↓b_eql, ↓b_neq, ↓u_not, ↓s_add, ↓s_eql, ↓s_neq, ↓i_max2, ↓i_min2, ↓x20, ↓x21, ↓x30, ↓x31, ↓x32, ↓q_b_add, ↓q_b_sub, ↓q_b_mul, ↓q_b_quo, ↓q_b_rem, ↓q_b_lss, ↓q_b_leq, ↓q_b_gtr, ↓q_b_geq, ↓q_b_eql, ↓q_b_neq, ↓q_u_not, ↓q_s_add, ↓q_s_eql, ↓q_s_neq, ↓q_i_max2, ↓q_i_min2, ↓q_x20, ↓q_x21, ↓q_x30, ↓q_x31, ↓q_x32, ↓m_box, decide_true, decide_false, tt_and, ff_and, Nat.zero_add, Int.toNat_natCast, cells_agg, cells_bool, cells_int, cells_str, cells_ptr, cells_slice, ↓qend_eq, ↓jump_none, ↓jump_ret, ↓jump_exit, ↓marks_one, cond_true, cond_false, Bool.not_true, Bool.not_false, e3]
        have t4 : ((partL s j.f j.n).take j.e ++ frameL r ++ (partL s j.f j.n).drop (j.e + (frameL r).length)).length = 32 * j.n := by rw [List.length_append, t2, t3]; omega
        have e4 : (j.e : Int) + ((frameL r).length : Int) = ((j.e + (frameL r).length : Nat) : Int) := by omega
        rw [e4]
        obtain ⟨L, hL⟩ : ∃ L, (partL s j.f j.n).take j.e ++ frameL r ++ (partL s j.f j.n).drop (j.e + (frameL r).length) = L := ⟨_, rfl⟩
        have hall : appAll s j r = clearL L (j.e + (frameL r).length) := by unfold appAll; rw [hL]
        rw [hL] at t4 ⊢
        refine cleared_spec L (j.e + (frameL r).length) (by omega) (by omega) fun h3 x3 => ⟨keep_one hj2.hd (x3.at hj2.hd), ?_⟩
        rw [show L.take (j.e + (frameL r).length) ++ List.replicate (L.length - (j.e + (frameL r).length)) 0 = appAll s j r from hall.symm]
        have hj3 := hj2.ext x3
        refine put_spec (hs2.ext x3) j.f j.n hfn (appAll s j r) (by rw [hall, clearL_length (by omega), t4]) j.e (j.e + (frameL r).length) hjen (by omega) true fun h4 hs4 ho4 => ?_
        have hop : putN j.f (partL s j.f j.n) (appAll s j r) true ((j.e + (frameL r).length + 31) / 32 - j.e / 32) (j.e / 32) s = appPut s j r := rfl
        rw [hop] at hs4 ⊢
        have hj4 := hj3.only ho4 (by simp; omega) (fun k hm => by simp only [List.mem_cons, List.not_mem_nil, or_false]; rintro (rfl | rfl); (exact hbv hm); exact hgv hm)
        refine ⟨keep_one hj2.hd hj4.hd, ?_⟩
        have x13 : Ext h h3 := (x1.trans x2).trans x3
        have ho14 : Only (b :: g :: jb :: blk v) h h4 := (x13.only _).trans (ho4.mono (by intro k hm; simp at hm ⊢; omega))
        obtain ⟨w3, w4, w5⟩ := hj4.ok
        obtain ⟨c2, c3, c4, c5⟩ := hj4.cells
        have hpl := hj4.own.plain
        simp (disch := first | assumption | (with_reducible exact Ext.refl _) | (with_reducible exact Keep.refl _ _) | (with_reducible exact Eq.refl _) | (intro _ he; cases he; assumption) | (intro _ he; with_reducible apply keep_cell' he; assumption; simp; done) | (intro _ he; with_reducible apply ext_cell' he; assumption; done) | (with_reducible first | exact pl_int _ _ | exact pl_byte _ | exact pl_u32 _ | exact pl_bool _ | exact pl_ptr _ | exact pl_slice _ _ _ | exact pl_map _ | exact pl_str _ | exact pl_func _ _ _) | ((rw [okW_setH]; repeat rw [okW_setH]); assumption) | ((with_reducible refine cellH_setH_same ?_ _); (repeat rw [okW_setH]); assumption) | ((rw [cellH_setH_off]; rotate_left; focus decide); (repeat (rw [cellH_setH_off]; rotate_left; focus decide)); first | assumption | ((with_reducible refine cellH_setH_same ?_ _); (repeat rw [okW_setH]); assumption)) | omega) only [↓hpR, ↓nilC_ptr, ↓nilC_func, ↓condP_true, ↓condP_false, ↓condP_bool, ↓guardP_true, ↓guardP_false, ↓guardP_bool_t, ↓guardP_bool_f, ↓skipP_undef, ↓pickP_bool, ↓b_add, ↓b_sub, ↓b_mul, ↓b_quo, ↓b_rem, ↓b_lss, ↓b_leq, ↓b_gtr, ↓b_geq, ↓b_eql, ↓b_neq, ↓u_not, ↓s_add, ↓s_eql, ↓s_neq, ↓i_max2, ↓i_min2, ↓x20, ↓x21, ↓x30, ↓x31, ↓x32, ↓q_b_add, ↓q_b_sub, ↓q_b_mul, ↓q_b_quo, ↓q_b_rem, ↓q_b_lss, ↓q_b_leq, ↓q_b_gtr, ↓q_b_geq, ↓q_b_eql, ↓q_b_neq, ↓q_u_not, ↓q_s_add, ↓q_s_eql, ↓q_s_neq, ↓q_i_max2, ↓q_i_min2, ↓q_x20, ↓q_x21, ↓q_x30, ↓q_x31, ↓q_x32, ↓m_box, decide_true, decide_false, tt_and, ff_and, Nat.zero_add, Int.toNat_natCast, cells_agg, cells_bool, cells_int, cells_str, cells_ptr, cells_slice, ↓qend_eq, ↓jump_none, ↓jump_ret, ↓jump_exit, ↓marks_one, cond_true, cond_false, Bool.not_true, Bool.not_false]
        refine ⟨fun hp => ?_, fun hp => ?_⟩
        · have hp' : (appPut s j r).1 ≠ 0 := by simpa using hp
          have e : appendP s j r = ((appPut s j r).1, (appPut s j r).2, { j with down := true }) := by unfold appendP; rw [if_neg (by omega), if_neg hf', if_neg (by rw [hd]; simp), if_pos hp']
          rw [e] at hk
          have hox : Only [jb] h4 (setH h4 jb 5 (.bool true)) := setH_only (Only.refl _ _) (.inl (by simp)) _ _
          refine hk _ v (hs4.only hox (by simp; omega) (by simp; omega)) ⟨?_, hj4.own.only hox (fun k hm => by simp; rintro rfl; exact hj4.ne hm), hj.ne, hjel, hjen⟩ (ho14.trans (hox.mono (by simp))) (fun k hk => .inl hk)
          rw [setH_at hj4.hd]
          rfl
        · have hp' : (appPut s j r).1 = 0 := by simpa using hp
          have e : appendP s j r = (0, (appPut s j r).2, { j with l := j.l ++ [r], e := j.e + (frameL r).length }) := by unfold appendP; rw [if_neg (by omega), if_neg hf', if_neg (by rw [hd]; simp), if_neg (by omega)]
          rw [e] at hk
          have hx5 := (Ext.refl h4).push (.cells #[str r] 9 (0, 0))
          have hj5 := hj4.ext hx5
          refine o_append Try.underlying32 (z := .string .empty) (size := 1) (bytes := 16) (e := 9) (by kernel_rfl) rfl (by omega) _ _ hj5.own (m := 1) (news := [str r]) rfl
            (fun i u hi => by rw [Nat.zero_add, cellH_push_new]; simpa using hi) (fun u hu => by simp only [List.mem_singleton] at hu; subst hu; rfl) (by omega) (by omega) (by omega) ?_
          intro v' h6 hown6 ho6 _ hblk
          have hj6 := ho6.at hj5.hd hj.ne
          have hv' := hown6.plain
          have w3 : okW h6 jb 3 = true := okW_of hj6 (by simp)
          have w4 : okW h6 jb 4 = true := okW_of hj6 (by simp)
          simp (disch := first | assumption | (with_reducible exact Ext.refl _) | (with_reducible exact Keep.refl _ _) | (with_reducible exact Eq.refl _) | (intro _ he; cases he; assumption) | (intro _ he; with_reducible apply keep_cell' he; assumption; simp; done) | (intro _ he; with_reducible apply ext_cell' he; assumption; done) | (with_reducible first | exact pl_int _ _ | exact pl_byte _ | exact pl_u32 _ | exact pl_bool _ | exact pl_ptr _ | exact pl_slice _ _ _ | exact pl_map _ | exact pl_str _ | exact pl_func _ _ _) | ((rw [okW_setH]; repeat rw [okW_setH]); assumption) | ((with_reducible refine cellH_setH_same ?_ _); (repeat rw [okW_setH]); assumption) | ((rw [cellH_setH_off]; rotate_left; focus decide); (repeat (rw [cellH_setH_off]; rotate_left; focus decide)); first | assumption | ((with_reducible refine cellH_setH_same ?_ _); (repeat rw [okW_setH]); assumption)) | omega) only [↓hpR, ↓nilC_ptr, ↓nilC_func, ↓condP_true, ↓condP_false, ↓condP_bool, ↓guardP_true, ↓guardP_false, ↓guardP_bool_t, ↓guardP_bool_f, ↓skipP_undef, ↓pickP_bool, ↓b_add, ↓b_sub, ↓b_mul, ↓b_quo, ↓b_rem, ↓b_lss, ↓b_leq, ↓b_gtr, ↓b_geq, ↓b_eql, ↓b_neq, ↓u_not, ↓s_add, ↓s_eql, ↓s_neq, ↓i_max2, ↓i_min2, ↓x20, ↓x21, ↓x30, ↓x31, ↓x32, ↓q_b_add, ↓q_b_sub, ↓q_b_mul, ↓q_b_quo, ↓q_b_rem, ↓q_b_lss, ↓q_b_leq, ↓q_b_gtr, ↓q_b_geq, ↓q_b_eql, ↓q_b_neq, ↓q_u_not, ↓q_s_add, ↓q_s_eql, ↓q_s_neq, ↓q_i_max2, ↓q_i_min2, ↓q_x20, ↓q_x21, ↓q_x30, ↓q_x31, ↓q_x32, ↓m_box, decide_true, decide_false, tt_and, ff_and, Nat.zero_add, Int.toNat_natCast, cells_agg, cells_bool, cells_int, cells_str, cells_ptr, cells_slice, ↓qend_eq, ↓jump_none, ↓jump_ret, ↓jump_exit, ↓marks_one, cond_true, cond_false, Bool.not_true, Bool.not_false]
          have hz : h.size ≤ h4.size := ho14.size
          have hz5 : (h4.push (Obj.cells #[str r] 9 (0, 0))).size = h4.size + 1 := by simp
          have hjn : jb ∉ blk v' := fun hm => by
            rcases hblk jb hm with h' | h'
            · exact hj.ne h'
            · omega
          have hox : Only [jb] h6 (setH (setH h6 jb 3 v') jb 4 (.int .i64 ((j.e + (frameL r).length : Nat) : Int))) := setH_only (setH_only (Only.refl _ _) (.inl (by simp)) _ _) (.inl (by simp)) _ _
          have hs6 : StoreAt h6 b g (appPut s j r).2 := (hs4.ext hx5).only ho6 hbv hgv
          refine hk _ v' (hs6.only hox (by simp; omega) (by simp; omega)) ⟨?_, ?_, hjn, ?_, ?_⟩ ?_ ?_
          · rw [setH_at (setH_at hj6 _ _)]
            rfl
          · have := hown6.only hox (fun k hm => by simp; rintro rfl; exact hjn hm)
            simpa [strs] using this
          · simp; omega
          · show j.e + (frameL r).length ≤ 32 * j.n
            omega
          · refine ((ho14.trans (hx5.only _)).trans (ho6.mono (by intro k hk; simp [hk]))).trans (hox.mono (by simp))
          · intro k hk
            rcases hblk k hk with h' | h'
            · exact .inl h'
            · right; omega
end Go.Proofs.Ytoefeflmcggbkaa
