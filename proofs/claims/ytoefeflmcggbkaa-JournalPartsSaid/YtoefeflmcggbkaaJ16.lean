/- A record is appended, by the reference. -/
import Derived.Test.YtoefeflmcggbkaaJ15
set_option linter.unusedVariables false
set_option linter.unusedSimpArgs false
namespace Go.Proofs.Ytoefeflmcggbkaa
open Go.Hp Go.RowKit

theorem appAll_eq {s : Sto} (hs : s.ok) {j : Jr} (hfn : j.f + j.n ≤ s.n) {r : List UInt8} (hl : j.e + (frameL r).length ≤ 32 * j.n) :
    appAll s j r = (partL s j.f j.n).take j.e ++ (frameL r ++ List.replicate (32 * j.n - (j.e + (frameL r).length)) 0) := by
  have hpl := partL_length hs hfn
  have h1 : ((partL s j.f j.n).take j.e).length = j.e := by simp; omega
  have h2 : ((partL s j.f j.n).take j.e ++ frameL r).length = j.e + (frameL r).length := by rw [List.length_append, h1]
  unfold appAll clearL
  rw [List.take_append_of_le_length (by rw [h2]; omega), List.take_of_length_le (by rw [h2]; omega), List.append_assoc]
  congr 3
  rw [List.length_append, h2]
  simp
  omega
def byteA (s : Sto) (j : Jr) (r : List UInt8) (p : Nat) : UInt8 :=
  if p < j.e then (partL s j.f j.n).getD p 0 else if p < j.e + (frameL r).length then (frameL r).getD (p - j.e) 0 else 0
theorem appAll_get {s : Sto} (hs : s.ok) {j : Jr} (hfn : j.f + j.n ≤ s.n) {r : List UInt8} (hl : j.e + (frameL r).length ≤ 32 * j.n) {p : Nat} (hp : p < 32 * j.n) : (appAll s j r)[p]? = some (byteA s j r p) := by
  have hpl := partL_length hs hfn
  have h1 : ((partL s j.f j.n).take j.e).length = j.e := by simp; omega
  rw [appAll_eq hs hfn hl]
  unfold byteA
  split
  · rename_i h
    rw [List.getElem?_append_left (by omega), List.getElem?_take, if_pos h, List.getD_eq_getElem?_getD, List.getElem?_eq_getElem (by omega)]
    rfl
  · rename_i h
    rw [List.getElem?_append_right (by omega), h1]
    split
    · rename_i h2
      rw [List.getElem?_append_left (by omega), List.getD_eq_getElem?_getD, List.getElem?_eq_getElem (by omega)]
      rfl
    · rename_i h2
      rw [List.getElem?_append_right (by omega), List.getElem?_replicate, if_pos (by omega)]
theorem blkA_succ {s : Sto} (hs : s.ok) {j : Jr} (hfn : j.f + j.n ≤ s.n) {r : List UInt8} (hl : j.e + (frameL r).length ≤ 32 * j.n) {i k : Nat} (hi : i < j.n) (hk : k < 32) :
    (blkL (appAll s j r) i).take (k + 1) = (blkL (appAll s j r) i).take k ++ [byteA s j r (32 * i + k)] := by
  rw [List.take_add_one]
  congr 1
  unfold blkL
  rw [List.getElem?_take, if_pos hk, List.getElem?_drop, appAll_get hs hfn hl (by omega)]
  rfl
theorem drop_take_one {l : List UInt8} {k : Nat} (hk : k < l.length) : (l.drop k).take 1 = [l.getD k 0] := by
  rw [List.getD_eq_getElem?_getD, List.getElem?_eq_getElem hk, ← List.getElem_cons_drop hk]
  rfl

theorem rappend_spec {h : Heap} {jb rb : Nat} {s : Sto} {j : Jr} {v vs : Value} (hr : RAt h rb s vs) (hj : RJ h jb rb j v) (hfn : j.f + j.n ≤ s.n) (hb : jb ≠ rb) (hjs : jb ∉ blk vs) (hbv : rb ∉ blk v) (hvv : ∀ k ∈ blk v, k ∉ blk vs) (r : List UInt8) (hrl : r.length ≤ 1099511627776) {K : Value → Heap → Prop}
    (hk : ∀ h' v', RAt h' rb (appendP s j r).2.1 vs → RJ h' jb rb (appendP s j r).2.2 v' → Only (rb :: jb :: blk vs) h h' → (∀ k ∈ blk v', k ∈ blk v ∨ h.size ≤ k) → K (.int .i64 (appendP s j r).1) h') :
    CallF Try.prog 11 #[.pointer (some ⟨jb, 0, none⟩), str r] h K := by
  apply S11
  unfold F11
  obtain ⟨ok1, ok2, ok3, ok4, ok5, ok6⟩ := hr.ok
  refine rframe_spec r (by omega) fun h1 x1 => ?_
  have hj1 := hj.ext x1
  have hr1 := hr.ext x1
  simp (disch := first | assumption | (with_reducible exact Ext.refl _) | (with_reducible exact Keep.refl _ _) | (with_reducible exact Eq.refl _) | (intro _ he; cases he; assumption) | (intro _ he; with_reducible apply keep_cell' he; assumption; simp; done) | (intro _ he; with_reducible apply ext_cell' he; assumption; done) | (with_reducible first | exact pl_int _ _ | exact pl_byte _ | exact pl_u32 _ | exact pl_bool _ | exact pl_ptr _ | exact pl_slice _ _ _ | exact pl_map _ | exact pl_str _ | exact pl_func _ _ _) | ((rw [okW_setH]; repeat rw [okW_setH]); assumption) | ((with_reducible refine cellH_setH_same ?_ _); (repeat rw [okW_setH]); assumption) | ((rw [cellH_setH_off]; rotate_left; focus decide); (repeat (rw [cellH_setH_off]; rotate_left; focus decide)); first | assumption | ((with_reducible refine cellH_setH_same ?_ _); (repeat rw [okW_setH]); assumption)) | omega) only [↓hpR, ↓nilC_ptr, ↓nilC_func, ↓condP_true, ↓condP_false, ↓condP_bool, ↓guardP_true, ↓guardP_false, ↓guardP_bool_t, ↓guardP_bool_f, ↓skipP_undef, ↓pickP_bool, ↓b_add, ↓b_sub, ↓b_mul, ↓b_quo, ↓b_rem, ↓b_lss, ↓b_leq, ↓b_gtr, ↓b_geq, ↓b_eql, ↓b_neq, ↓u_not, ↓s_add, ↓s_eql, ↓s_neq, ↓i_max2, ↓i_min2, ↓x20, ↓x21, ↓x30, ↓x31, ↓x32, ↓q_b_add, ↓q_b_sub, ↓q_b_mul, ↓q_b_quo, ↓q_b_rem, ↓q_b_lss, ↓q_b_leq, ↓q_b_gtr, ↓q_b_geq, ↓q_b_eql, ↓q_b_neq, ↓q_u_not, ↓q_s_add, ↓q_s_eql, ↓q_s_neq, ↓q_i_max2, ↓q_i_min2, ↓q_x20, ↓q_x21, ↓q_x30, ↓q_x31, ↓q_x32, ↓m_box, decide_true, decide_false, tt_and, ff_and, Nat.zero_add, Int.toNat_natCast, cells_agg, cells_bool, cells_int, cells_str, cells_ptr, cells_slice, ↓qend_eq, ↓jump_none, ↓jump_ret, ↓jump_exit, ↓marks_one, cond_true, cond_false, Bool.not_true, Bool.not_false]
  refine ⟨fun he => ?_, fun he => ?_⟩
  · have he' : frameE r ≠ 0 := by simpa using he
    have e : appendP s j r = (frameE r, s, j) := by unfold appendP; rw [if_pos he']
    rw [e] at hk
    exact hk h1 v hr1 hj1 (x1.only _) (fun k hk => .inl hk)
  · have he' : frameE r = 0 := by simpa using he
    have hfl := frameL_length r
    have hr400 : r.length ≤ 400 ∧ 1 ≤ r.length := by
      unfold frameE at he'
      split at he'
      · cases he'
      · omega
    rw [if_pos he']
    have hjen := hj.en
    have hjel := hj.el
    refine rroom_spec hj1 (by omega) ?_
    obtain ⟨c0, c1, c2, c3, c4, c5⟩ := hj1.cells
    simp (disch := first | assumption | (with_reducible exact Ext.refl _) | (with_reducible exact Keep.refl _ _) | (with_reducible exact Eq.refl _) | (intro _ he; cases he; assumption) | (intro _ he; with_reducible apply keep_cell' he; assumption; simp; done) | (intro _ he; with_reducible apply ext_cell' he; assumption; done) | (with_reducible first | exact pl_int _ _ | exact pl_byte _ | exact pl_u32 _ | exact pl_bool _ | exact pl_ptr _ | exact pl_slice _ _ _ | exact pl_map _ | exact pl_str _ | exact pl_func _ _ _) | ((rw [okW_setH]; repeat rw [okW_setH]); assumption) | ((with_reducible refine cellH_setH_same ?_ _); (repeat rw [okW_setH]); assumption) | ((rw [cellH_setH_off]; rotate_left; focus decide); (repeat (rw [cellH_setH_off]; rotate_left; focus decide)); first | assumption | ((with_reducible refine cellH_setH_same ?_ _); (repeat rw [okW_setH]); assumption)) | omega) only [↓hpR, ↓nilC_ptr, ↓nilC_func, ↓condP_true, ↓condP_false, ↓condP_bool, ↓guardP_true, ↓guardP_false, ↓guardP_bool_t, ↓guardP_bool_f, ↓skipP_undef, ↓pickP_bool, ↓b_add, ↓b_sub, ↓b_mul, ↓b_quo, ↓b_rem, ↓b_lss, ↓b_leq, ↓b_gtr, ↓b_geq, ↓b_eql, ↓b_neq, ↓u_not, ↓s_add, ↓s_eql, ↓s_neq, ↓i_max2, ↓i_min2, ↓x20, ↓x21, ↓x30, ↓x31, ↓x32, ↓q_b_add, ↓q_b_sub, ↓q_b_mul, ↓q_b_quo, ↓q_b_rem, ↓q_b_lss, ↓q_b_leq, ↓q_b_gtr, ↓q_b_geq, ↓q_b_eql, ↓q_b_neq, ↓q_u_not, ↓q_s_add, ↓q_s_eql, ↓q_s_neq, ↓q_i_max2, ↓q_i_min2, ↓q_x20, ↓q_x21, ↓q_x30, ↓q_x31, ↓q_x32, ↓m_box, decide_true, decide_false, tt_and, ff_and, Nat.zero_add, Int.toNat_natCast, cells_agg, cells_bool, cells_int, cells_str, cells_ptr, cells_slice, ↓qend_eq, ↓jump_none, ↓jump_ret, ↓jump_exit, ↓marks_one, cond_true, cond_false, Bool.not_true, Bool.not_false]
    refine ⟨fun hf => ?_, fun hf => ?_⟩
    · have hf' : 32 * j.n < j.e + (frameL r).length := by simp at hf; omega
      have e : appendP s j r = (14, s, j) := by unfold appendP; rw [if_neg (by omega), if_pos hf']
      rw [e] at hk
      exact hk h1 v hr1 hj1 (x1.only _) (fun k hk => .inl hk)
    · have hf' : ¬ 32 * j.n < j.e + (frameL r).length := by simp at hf; omega
      refine ⟨fun hd => ?_, fun hd => ?_⟩
      · have e : appendP s j r = (16, s, j) := by unfold appendP; rw [if_neg (by omega), if_neg hf', if_pos hd]
        rw [e] at hk
        exact hk h1 v hr1 hj1 (x1.only _) (fun k hk => .inl hk)
      · have hl : j.e + (frameL r).length ≤ 32 * j.n := by omega
        have hje : (j.e : Int) / 32 = ((j.e / 32 : Nat) : Int) := by omega
        rw [hje]
        obtain ⟨E, hE⟩ : ∃ E, (j.e + (frameL r).length + 31) / 32 = E := ⟨_, rfl⟩
        have hEn : E ≤ j.n := by omega
        have hop : appPut s j r = putN j.f (partL s j.f j.n) (appAll s j r) true (E - j.e / 32) (j.e / 32) s := by unfold appPut; rw [hE]
        have hjl : jb < h1.size := lt_of_at hj1.hd
        refine ⟨fun x h' => ∃ (i : Nat) (s' : Sto), x = .int .i64 (i : Int) ∧ j.e / 32 ≤ i ∧ i ≤ E ∧ RAt h' rb s' vs ∧ Only (rb :: blk vs) h1 h' ∧ s'.n = s.n ∧ (∀ k, i ≤ k → k < j.n → blkL s'.bs (j.f + k) = blkL (partL s j.f j.n) k) ∧
            putN j.f (partL s j.f j.n) (appAll s j r) true (E - i) i s' = appPut s j r, fun x h' => match x with | .int _ i => E - i.toNat | _ => 0, ?_, ?_⟩
        · exact ⟨j.e / 32, s, rfl, Nat.le_refl _, by omega, hr1, Only.refl _ _, rfl, fun k _ hk => (part_blk hk).symm, hop.symm⟩
        · rintro js x h2 ⟨i, s', rfl, hei, hiE, hr2, ho2, hn2, hblk, heq⟩
          have hj2 := hj1.only ho2 (by simp [hb, hjs]) (fun k hm => by simp only [List.mem_cons, not_or]; exact ⟨fun e => hbv (e ▸ hm), hvv k hm⟩)
          obtain ⟨d0, d1, d2, d3, d4, d5⟩ := hj2.cells
          simp (disch := first | assumption | (with_reducible exact Ext.refl _) | (with_reducible exact Keep.refl _ _) | (with_reducible exact Eq.refl _) | (intro _ he; cases he; assumption) | (intro _ he; with_reducible apply keep_cell' he; assumption; simp; done) | (intro _ he; with_reducible apply ext_cell' he; assumption; done) | (with_reducible first | exact pl_int _ _ | exact pl_byte _ | exact pl_u32 _ | exact pl_bool _ | exact pl_ptr _ | exact pl_slice _ _ _ | exact pl_map _ | exact pl_str _ | exact pl_func _ _ _) | ((rw [okW_setH]; repeat rw [okW_setH]); assumption) | ((with_reducible refine cellH_setH_same ?_ _); (repeat rw [okW_setH]); assumption) | ((rw [cellH_setH_off]; rotate_left; focus decide); (repeat (rw [cellH_setH_off]; rotate_left; focus decide)); first | assumption | ((with_reducible refine cellH_setH_same ?_ _); (repeat rw [okW_setH]); assumption)) | omega) only [↓hpR, ↓nilC_ptr, ↓nilC_func, ↓condP_true, ↓condP_false, ↓condP_bool, ↓guardP_true, ↓guardP_false, ↓guardP_bool_t, ↓guardP_bool_f, ↓skipP_undef, ↓pickP_bool, ↓b_add, ↓b_sub, ↓b_mul, ↓b_quo, ↓b_rem, ↓b_lss, ↓b_leq, ↓b_gtr, ↓b_geq, ↓b_eql, ↓b_neq, ↓u_not, ↓s_add, ↓s_eql, ↓s_neq, ↓i_max2, ↓i_min2, ↓x20, ↓x21, ↓x30, ↓x31, ↓x32, ↓q_b_add, ↓q_b_sub, ↓q_b_mul, ↓q_b_quo, ↓q_b_rem, ↓q_b_lss, ↓q_b_leq, ↓q_b_gtr, ↓q_b_geq, ↓q_b_eql, ↓q_b_neq, ↓q_u_not, ↓q_s_add, ↓q_s_eql, ↓q_s_neq, ↓q_i_max2, ↓q_i_min2, ↓q_x20, ↓q_x21, ↓q_x30, ↓q_x31, ↓q_x32, ↓m_box, decide_true, decide_false, tt_and, ff_and, Nat.zero_add, Int.toNat_natCast, cells_agg, cells_bool, cells_int, cells_str, cells_ptr, cells_slice, ↓qend_eq, ↓jump_none, ↓jump_ret, ↓jump_exit, ↓marks_one, cond_true, cond_false, Bool.not_true, Bool.not_false]
          refine ⟨fun hlt => ?_, fun hge => ?_⟩
          · have hlt' : i < E := by simp at hlt; omega
            have hin : i < j.n := by omega
            have hnd : E - i = (E - (i + 1)) + 1 := by omega
            obtain ⟨wr, f0, f1, f2, f3, f4⟩ := hr2.cells
            obtain ⟨g, c, cur, hv, hg, hc1, hc2, hc3⟩ := hr2.slice
            rw [hv] at f0
            have cr := hr2.row hv (i := j.f + i) (by omega)
            rw [hblk i (Nat.le_refl _) hin] at cr
            have hpl := partL_length hr.ok hfn
            have hl2 : (blkL (partL s j.f j.n) i).length = 32 := blkL_length (by omega)
            have hlA : (blkL (appAll s j r) i).length = 32 := blkL_length (by
              rw [appAll_eq hr.ok hfn hl]; simp; omega)
            have ei : ((j.f : Int) + (i : Int)).toNat = j.f + i := by omega
            have es : (Value.string { data := #[] }) = str [] := rfl
            have es1 : (Value.string { data := #[0] }) = str [0] := rfl
            rw [es, es1]
            refine ⟨fun x y h' => ∃ k : Nat, x = str ((blkL (appAll s j r) i).take k) ∧ y = .int .i64 (k : Int) ∧ k ≤ 32 ∧ h' = h2, fun x y h' => match y with | .int _ i => 32 - i.toNat | _ => 0, ⟨0, rfl, rfl, by omega, rfl⟩, ?_⟩
            rintro js x y h3 ⟨k, rfl, rfl, hk32, rfl⟩
            have hlk : ((blkL (appAll s j r) i).take k).length = k := by simp; omega
            simp (disch := first | assumption | (with_reducible exact Ext.refl _) | (with_reducible exact Keep.refl _ _) | (with_reducible exact Eq.refl _) | (intro _ he; cases he; assumption) | (intro _ he; with_reducible apply keep_cell' he; assumption; simp; done) | (intro _ he; with_reducible apply ext_cell' he; assumption; done) | (with_reducible first | exact pl_int _ _ | exact pl_byte _ | exact pl_u32 _ | exact pl_bool _ | exact pl_ptr _ | exact pl_slice _ _ _ | exact pl_map _ | exact pl_str _ | exact pl_func _ _ _) | ((rw [okW_setH]; repeat rw [okW_setH]); assumption) | ((with_reducible refine cellH_setH_same ?_ _); (repeat rw [okW_setH]); assumption) | ((rw [cellH_setH_off]; rotate_left; focus decide); (repeat (rw [cellH_setH_off]; rotate_left; focus decide)); first | assumption | ((with_reducible refine cellH_setH_same ?_ _); (repeat rw [okW_setH]); assumption)) | omega) only [↓hpR, ↓nilC_ptr, ↓nilC_func, ↓condP_true, ↓condP_false, ↓condP_bool, ↓guardP_true, ↓guardP_false, ↓guardP_bool_t, ↓guardP_bool_f, ↓skipP_undef, ↓pickP_bool, ↓b_add, ↓b_sub, ↓b_mul, ↓b_quo, ↓b_rem, ↓b_lss, ↓b_leq, ↓b_gtr, ↓b_geq, ↓b_eql, ↓b_neq, ↓u_not, ↓s_add, ↓s_eql, ↓s_neq, ↓i_max2, ↓i_min2, ↓x20, ↓x21, ↓x30, ↓x31, ↓x32, ↓q_b_add, ↓q_b_sub, ↓q_b_mul, ↓q_b_quo, ↓q_b_rem, ↓q_b_lss, ↓q_b_leq, ↓q_b_gtr, ↓q_b_geq, ↓q_b_eql, ↓q_b_neq, ↓q_u_not, ↓q_s_add, ↓q_s_eql, ↓q_s_neq, ↓q_i_max2, ↓q_i_min2, ↓q_x20, ↓q_x21, ↓q_x30, ↓q_x31, ↓q_x32, ↓m_box, decide_true, decide_false, tt_and, ff_and, Nat.zero_add, Int.toNat_natCast, cells_agg, cells_bool, cells_int, cells_str, cells_ptr, cells_slice, ↓qend_eq, ↓jump_none, ↓jump_ret, ↓jump_exit, ↓marks_one, cond_true, cond_false, Bool.not_true, Bool.not_false]
            refine ⟨fun hklt => ?_, fun hkge => ?_⟩
            · have hk' : k < 32 := by simp at hklt; omega
              have hsucc := blkA_succ hr.ok hfn hl hin hk'
              refine Join1.intro (fun x h' => x = str ((blkL (appAll s j r) i).take (k + 1)) ∧ h' = h3) (fun J hJ => ?_) ?_
              · have hbk : (blkL (partL s j.f j.n) i).getD k 0 = (partL s j.f j.n).getD (32 * i + k) 0 := by
                  unfold blkL
                  rw [List.getD_eq_getElem?_getD, List.getElem?_take, if_pos hk', List.getElem?_drop, List.getD_eq_getElem?_getD]
                have l1 : ([0] : List UInt8).length = 1 := rfl
                refine ⟨fun hlo => ?_, fun hlo => ⟨fun hmi => ?_, fun hmi => ?_⟩⟩
                · have hlo' : 32 * i + k < j.e := by simp at hlo; omega
                  refine Quiet_eq ?_
                  have ek : ((k : Int) + 1).toNat - k = 1 := by omega
                  have hl3 : (((blkL (partL s j.f j.n) i).drop k).take 1).length = 1 := by simp; omega
                  simp (disch := first | assumption | (with_reducible exact Ext.refl _) | (with_reducible exact Keep.refl _ _) | (with_reducible exact Eq.refl _) | (intro _ he; cases he; assumption) | (intro _ he; with_reducible apply keep_cell' he; assumption; simp; done) | (intro _ he; with_reducible apply ext_cell' he; assumption; done) | (with_reducible first | exact pl_int _ _ | exact pl_byte _ | exact pl_u32 _ | exact pl_bool _ | exact pl_ptr _ | exact pl_slice _ _ _ | exact pl_map _ | exact pl_str _ | exact pl_func _ _ _) | ((rw [okW_setH]; repeat rw [okW_setH]); assumption) | ((with_reducible refine cellH_setH_same ?_ _); (repeat rw [okW_setH]); assumption) | ((rw [cellH_setH_off]; rotate_left; focus decide); (repeat (rw [cellH_setH_off]; rotate_left; focus decide)); first | assumption | ((with_reducible refine cellH_setH_same ?_ _); (repeat rw [okW_setH]); assumption)) | omega) only [↓hpR, ↓nilC_ptr, ↓nilC_func, ↓condP_true, ↓condP_false, ↓condP_bool, ↓guardP_true, ↓guardP_false, ↓guardP_bool_t, ↓guardP_bool_f, ↓skipP_undef, ↓pickP_bool, ↓b_add, ↓b_sub, ↓b_mul, ↓b_quo, ↓b_rem, ↓b_lss, ↓b_leq, ↓b_gtr, ↓b_geq, ↓b_eql, ↓b_neq, ↓u_not, ↓s_add, ↓s_eql, ↓s_neq, ↓i_max2, ↓i_min2, ↓x20, ↓x21, ↓x30, ↓x31, ↓x32, ↓q_b_add, ↓q_b_sub, ↓q_b_mul, ↓q_b_quo, ↓q_b_rem, ↓q_b_lss, ↓q_b_leq, ↓q_b_gtr, ↓q_b_geq, ↓q_b_eql, ↓q_b_neq, ↓q_u_not, ↓q_s_add, ↓q_s_eql, ↓q_s_neq, ↓q_i_max2, ↓q_i_min2, ↓q_x20, ↓q_x21, ↓q_x30, ↓q_x31, ↓q_x32, ↓m_box, decide_true, decide_false, tt_and, ff_and, Nat.zero_add, Int.toNat_natCast, cells_agg, cells_bool, cells_int, cells_str, cells_ptr, cells_slice, ↓qend_eq, ↓jump_none, ↓jump_ret, ↓jump_exit, ↓marks_one, cond_true, cond_false, Bool.not_true, Bool.not_false, ei, ek]
                  refine hJ _ _ ⟨?_, rfl⟩
                  rw [hsucc, drop_take_one (by omega), hbk]
                  unfold byteA
                  rw [if_pos hlo']
                · have hlo' : ¬ 32 * i + k < j.e := by simp at hlo; omega
                  have hmi' : 32 * i + k < j.e + (frameL r).length := by simp at hmi; omega
                  refine Quiet_eq ?_
                  have ek : (32 * (i : Int) + (k : Int) - (j.e : Int)).toNat = 32 * i + k - j.e := by omega
                  have ek2 : (32 * (i : Int) + (k : Int) - (j.e : Int) + 1).toNat - (32 * i + k - j.e) = 1 := by omega
                  have hl3 : (((frameL r).drop (32 * i + k - j.e)).take 1).length = 1 := by simp; omega
                  simp (disch := first | assumption | (with_reducible exact Ext.refl _) | (with_reducible exact Keep.refl _ _) | (with_reducible exact Eq.refl _) | (intro _ he; cases he; assumption) | (intro _ he; with_reducible apply keep_cell' he; assumption; simp; done) | (intro _ he; with_reducible apply ext_cell' he; assumption; done) | (with_reducible first | exact pl_int _ _ | exact pl_byte _ | exact pl_u32 _ | exact pl_bool _ | exact pl_ptr _ | exact pl_slice _ _ _ | exact pl_map _ | exact pl_str _ | exact pl_func _ _ _) | ((rw [okW_setH]; repeat rw [okW_setH]); assumption) | ((with_reducible refine cellH_setH_same ?_ _); (repeat rw [okW_setH]); assumption) | ((rw [cellH_setH_off]; rotate_left; focus decide); (repeat (rw [cellH_setH_off]; rotate_left; focus decide)); first | assumption | ((with_reducible refine cellH_setH_same ?_ _); (repeat rw [okW_setH]); assumption)) | omega) only [↓hpR, ↓nilC_ptr, ↓nilC_func, ↓condP_true, ↓condP_false, ↓condP_bool, ↓guardP_true, ↓guardP_false, ↓guardP_bool_t, ↓guardP_bool_f, ↓skipP_undef, ↓pickP_bool, ↓b_add, ↓b_sub, ↓b_mul, ↓b_quo, ↓b_rem, ↓b_lss, ↓b_leq, ↓b_gtr, ↓b_geq, ↓b_eql, ↓b_neq, ↓u_not, ↓s_add, ↓s_eql, ↓s_neq, ↓i_max2, ↓i_min2, ↓x20, ↓x21, ↓x30, ↓x31, ↓x32, ↓q_b_add, ↓q_b_sub, ↓q_b_mul, ↓q_b_quo, ↓q_b_rem, ↓q_b_lss, ↓q_b_leq, ↓q_b_gtr, ↓q_b_geq, ↓q_b_eql, ↓q_b_neq, ↓q_u_not, ↓q_s_add, ↓q_s_eql, ↓q_s_neq, ↓q_i_max2, ↓q_i_min2, ↓q_x20, ↓q_x21, ↓q_x30, ↓q_x31, ↓q_x32, ↓m_box, decide_true, decide_false, tt_and, ff_and, Nat.zero_add, Int.toNat_natCast, cells_agg, cells_bool, cells_int, cells_str, cells_ptr, cells_slice, ↓qend_eq, ↓jump_none, ↓jump_ret, ↓jump_exit, ↓marks_one, cond_true, cond_false, Bool.not_true, Bool.not_false, ek, ek2]
                  refine hJ _ _ ⟨?_, rfl⟩
                  rw [hsucc, drop_take_one (by omega)]
                  unfold byteA
                  rw [if_neg hlo', if_pos hmi']
                · have hlo' : ¬ 32 * i + k < j.e := by simp at hlo; omega
                  have hmi' : ¬ 32 * i + k < j.e + (frameL r).length := by simp at hmi; omega
                  rw [s_add _ _ _ _ _ _ (by omega)]
                  refine hJ _ _ ⟨?_, rfl⟩
                  rw [hsucc]
                  unfold byteA
                  rw [if_neg hlo', if_neg hmi']
              · rintro x h' ⟨rfl, rfl⟩
                exact ⟨⟨k + 1, rfl, by simp, by omega, by trivial⟩, by omega⟩
            · have : k = 32 := by simp at hkge; omega
              subst this
              rw [List.take_of_length_le (by omega)]
              refine Quiet_keep [jb] ?_
              have p0 : ∀ h', Keep [jb] h3 h' → cellH h' jb 0 = some (.pointer (some ⟨rb, 0, none⟩)) := fun h' he => by rw [cellH_of (keep_at he hj2.hd (by simp))]; rfl
              simp (disch := first | assumption | (with_reducible exact Ext.refl _) | (with_reducible exact Keep.refl _ _) | (with_reducible exact Eq.refl _) | (intro _ he; cases he; assumption) | (intro _ he; with_reducible apply keep_cell' he; assumption; simp; done) | (intro _ he; with_reducible apply ext_cell' he; assumption; done) | (with_reducible first | exact pl_int _ _ | exact pl_byte _ | exact pl_u32 _ | exact pl_bool _ | exact pl_ptr _ | exact pl_slice _ _ _ | exact pl_map _ | exact pl_str _ | exact pl_func _ _ _) | ((rw [okW_setH]; repeat rw [okW_setH]); assumption) | ((with_reducible refine cellH_setH_same ?_ _); (repeat rw [okW_setH]); assumption) | ((rw [cellH_setH_off]; rotate_left; focus decide); (repeat (rw [cellH_setH_off]; rotate_left; focus decide)); first | assumption | ((with_reducible refine cellH_setH_same ?_ _); (repeat rw [okW_setH]); assumption)) | omega) only [↓hpR, ↓nilC_ptr, ↓nilC_func, ↓condP_true, ↓condP_false, ↓condP_bool, ↓guardP_true, ↓guardP_false, ↓guardP_bool_t, ↓guardP_bool_f, ↓skipP_undef, ↓pickP_bool, ↓b_add, ↓b_sub, ↓b_mul, ↓b_quo, ↓b_rem, ↓b_lss, ↓b_leq, ↓b_gtr, ↓b_geq, ↓b_eql, ↓b_neq, ↓u_not, ↓s_add, ↓s_eql, ↓s_neq, ↓i_max2, ↓i_min2, ↓x20, ↓x21, ↓x30, ↓x31, ↓x32, ↓q_b_add, ↓q_b_sub, ↓q_b_mul, ↓q_b_quo, ↓q_b_rem, ↓q_b_lss, ↓q_b_leq, ↓q_b_gtr, ↓q_b_geq, ↓q_b_eql, ↓q_b_neq, ↓q_u_not, ↓q_s_add, ↓q_s_eql, ↓q_s_neq, ↓q_i_max2, ↓q_i_min2, ↓q_x20, ↓q_x21, ↓q_x30, ↓q_x31, ↓q_x32, ↓m_box, decide_true, decide_false, tt_and, ff_and, Nat.zero_add, Int.toNat_natCast, cells_agg, cells_bool, cells_int, cells_str, cells_ptr, cells_slice, ↓qend_eq, ↓jump_none, ↓jump_ret, ↓jump_exit, ↓marks_one, cond_true, cond_false, Bool.not_true, Bool.not_false]
              have ef : (j.f : Int) + (i : Int) = ((j.f + i : Nat) : Int) := by omega
              rw [ef]
              have hstep := heq
              rw [hnd] at hstep
              simp only [putN, Bool.true_eq_false, false_and, if_false] at hstep
              refine rwrite_spec hr2 _ _ (by omega) fun h4 hr4 ho4 => ?_
              have hok2 := hr2.ok
              have hj4 := hj2.only ho4 (by simp [hb, hjs]) (fun k hm => by simp only [List.mem_cons, not_or]; exact ⟨fun e => hbv (e ▸ hm), hvv k hm⟩)
              refine ⟨keep_one hj2.hd hj4.hd, ?_⟩
              have ho14 : Only (rb :: jb :: blk vs) h h4 := (x1.only _).trans ((ho2.trans ho4).mono (by intro k hm; simp at hm ⊢; rcases hm with rfl | hm; (exact .inl rfl); exact .inr (.inr hm)))
              have w5 : okW h4 jb 5 = true := okW_of hj4.hd (by simp)
              simp (disch := first | assumption | (with_reducible exact Ext.refl _) | (with_reducible exact Keep.refl _ _) | (with_reducible exact Eq.refl _) | (intro _ he; cases he; assumption) | (intro _ he; with_reducible apply keep_cell' he; assumption; simp; done) | (intro _ he; with_reducible apply ext_cell' he; assumption; done) | (with_reducible first | exact pl_int _ _ | exact pl_byte _ | exact pl_u32 _ | exact pl_bool _ | exact pl_ptr _ | exact pl_slice _ _ _ | exact pl_map _ | exact pl_str _ | exact pl_func _ _ _) | ((rw [okW_setH]; repeat rw [okW_setH]); assumption) | ((with_reducible refine cellH_setH_same ?_ _); (repeat rw [okW_setH]); assumption) | ((rw [cellH_setH_off]; rotate_left; focus decide); (repeat (rw [cellH_setH_off]; rotate_left; focus decide)); first | assumption | ((with_reducible refine cellH_setH_same ?_ _); (repeat rw [okW_setH]); assumption)) | omega) only [↓hpR, ↓nilC_ptr, ↓nilC_func, ↓condP_true, ↓condP_false, ↓condP_bool, ↓guardP_true, ↓guardP_false, ↓guardP_bool_t, ↓guardP_bool_f, ↓skipP_undef, ↓pickP_bool, ↓b_add, ↓b_sub, ↓b_mul, ↓b_quo, ↓b_rem, ↓b_lss, ↓b_leq, ↓b_gtr, ↓b_geq, ↓b_eql, ↓b_neq, ↓u_not, ↓s_add, ↓s_eql, ↓s_neq, ↓i_max2, ↓i_min2, ↓x20, ↓x21, ↓x30, ↓x31, ↓x32, ↓q_b_add, ↓q_b_sub, ↓q_b_mul, ↓q_b_quo, ↓q_b_rem, ↓q_b_lss, ↓q_b_leq, ↓q_b_gtr, ↓q_b_geq, ↓q_b_eql, ↓q_b_neq, ↓q_u_not, ↓q_s_add, ↓q_s_eql, ↓q_s_neq, ↓q_i_max2, ↓q_i_min2, ↓q_x20, ↓q_x21, ↓q_x30, ↓q_x31, ↓q_x32, ↓m_box, decide_true, decide_false, tt_and, ff_and, Nat.zero_add, Int.toNat_natCast, cells_agg, cells_bool, cells_int, cells_str, cells_ptr, cells_slice, ↓qend_eq, ↓jump_none, ↓jump_ret, ↓jump_exit, ↓marks_one, cond_true, cond_false, Bool.not_true, Bool.not_false]
              refine ⟨fun hw => ?_, fun hw => ⟨⟨i + 1, _, by simp, by omega, by omega, hr4, ho2.trans ho4, (writeS_n _ _ _).trans hn2, fun k h1 h2 => ?_, ?_⟩, by omega⟩⟩
              · have hw' : (writeS s' ((j.f + i : Nat) : Int) (blkL (appAll s j r) i)).1 ≠ 0 := by simpa using hw
                rw [if_neg hw'] at hstep
                have e : appendP s j r = ((appPut s j r).1, (appPut s j r).2, { j with down := true }) := by unfold appendP; rw [if_neg (by omega), if_neg hf', if_neg (by rw [hd]; simp), if_pos (by rw [← hstep]; exact hw')]
                rw [e, ← hstep] at hk
                have hox : Only [jb] h4 (setH h4 jb 5 (.bool true)) := setH_only (Only.refl _ _) (.inl (by simp)) _ _
                refine hk _ v (hr4.only hox (by simpa using hb.symm) (fun k hm => by simp; rintro rfl; exact hjs hm)) ⟨?_, hj4.own.only hox (fun k hm => by simp; rintro rfl; exact hj4.ne hm), hj.ne, hjel, hjen, hj.nn⟩ (ho14.trans (hox.mono (by simp))) (fun k hk => .inl hk)
                rw [setH_at hj4.hd]
                rfl
              · rw [writeS_blk hok2 _ _ (by omega)]
                exact hblk k (by omega) h2
              · have hw' : (writeS s' ((j.f + i : Nat) : Int) (blkL (appAll s j r) i)).1 = 0 := by simpa using hw
                rw [if_pos hw'] at hstep
                exact hstep
          · have hiE' : i = E := by simp at hge; omega
            subst hiE'
            rw [Nat.sub_self] at heq
            simp only [putN] at heq
            have e : appendP s j r = (0, (appPut s j r).2, { j with l := j.l ++ [r], e := j.e + (frameL r).length }) := by unfold appendP; rw [if_neg (by omega), if_neg hf', if_neg (by rw [hd]; simp), if_neg (by rw [← heq]; simp)]
            rw [e, ← heq] at hk
            have ho12 : Only (rb :: jb :: blk vs) h h2 := (x1.only _).trans (ho2.mono (by intro k hm; simp at hm ⊢; rcases hm with rfl | hm; (exact .inl rfl); exact .inr (.inr hm)))
            obtain ⟨gv, cv, curv, hvv', _, hgv, hv1, hv2, hv3, hv4⟩ := hj2.own.2.resolve_left (fun hc => hj.nn hc.1)
            have hxp := (Ext.refl h2).push (.cells #[] 9 (0, 0))
            have hjp := hj2.ext hxp
            have d3' : cellH (h2.push (.cells #[] 9 (0, 0))) jb 3 = some v := by rw [cellH_of hjp.hd]; rfl
            simp (disch := first | assumption | (with_reducible exact Ext.refl _) | (with_reducible exact Keep.refl _ _) | (with_reducible exact Eq.refl _) | (intro _ he; cases he; assumption) | (intro _ he; with_reducible apply keep_cell' he; assumption; simp; done) | (intro _ he; with_reducible apply ext_cell' he; assumption; done) | (with_reducible first | exact pl_int _ _ | exact pl_byte _ | exact pl_u32 _ | exact pl_bool _ | exact pl_ptr _ | exact pl_slice _ _ _ | exact pl_map _ | exact pl_str _ | exact pl_func _ _ _) | ((rw [okW_setH]; repeat rw [okW_setH]); assumption) | ((with_reducible refine cellH_setH_same ?_ _); (repeat rw [okW_setH]); assumption) | ((rw [cellH_setH_off]; rotate_left; focus decide); (repeat (rw [cellH_setH_off]; rotate_left; focus decide)); first | assumption | ((with_reducible refine cellH_setH_same ?_ _); (repeat rw [okW_setH]); assumption)) | omega) only [↓hpR, ↓nilC_ptr, ↓nilC_func, ↓condP_true, ↓condP_false, ↓condP_bool, ↓guardP_true, ↓guardP_false, ↓guardP_bool_t, ↓guardP_bool_f, ↓skipP_undef, ↓pickP_bool, ↓b_add, ↓b_sub, ↓b_mul, ↓b_quo, ↓b_rem, ↓b_lss, ↓b_leq, ↓b_gtr, ↓b_geq, ↓b_eql, ↓b_neq, ↓u_not, ↓s_add, ↓s_eql, ↓s_neq, ↓i_max2, ↓i_min2, ↓x20, ↓x21, ↓x30, ↓x31, ↓x32, ↓q_b_add, ↓q_b_sub, ↓q_b_mul, ↓q_b_quo, ↓q_b_rem, ↓q_b_lss, ↓q_b_leq, ↓q_b_gtr, ↓q_b_geq, ↓q_b_eql, ↓q_b_neq, ↓q_u_not, ↓q_s_add, ↓q_s_eql, ↓q_s_neq, ↓q_i_max2, ↓q_i_min2, ↓q_x20, ↓q_x21, ↓q_x30, ↓q_x31, ↓q_x32, ↓m_box, decide_true, decide_false, tt_and, ff_and, Nat.zero_add, Int.toNat_natCast, cells_agg, cells_bool, cells_int, cells_str, cells_ptr, cells_slice, ↓qend_eq, ↓jump_none, ↓jump_ret, ↓jump_exit, ↓marks_one, cond_true, cond_false, Bool.not_true, Bool.not_false]
            rw [hvv']
            have hgv' := hxp.at hgv
            have hzp : (h2.push (Obj.cells #[] 9 (0, 0))).size = h2.size + 1 := by simp
            have hz2 := ho12.size
            refine o_append Try.underlying32 (z := .string .empty) (size := 1) (bytes := 16) (e := 9) (by kernel_rfl) rfl (by omega) _ _ (Own.empty (Nat.le_refl _) (push_new h2 _)) (m := j.l.length) (news := strs j.l) (by simp [strs])
              (fun k u hu => ?_) (fun u hu => by simp only [strs, List.mem_map] at hu; obtain ⟨x, _, rfl⟩ := hu; rfl) (by omega) (by omega) (by omega) ?_
            · rw [Nat.zero_add, cellH_of hgv']
              rw [← hv4, List.getElem?_take] at hu
              split at hu
              · simpa using hu
              · cases hu
            · intro v5 h5 hown5 ho5 _ hblk5
              simp only [Nat.zero_add, List.nil_append] at hown5
              have hx25 : Ext h2 h5 := ext_only_new hxp ho5 (by simp [blk, Value.ownBlock])
              have hj5 := hj2.ext hx25
              have hr5 := hr2.ext hx25
              have hx6 := (Ext.refl h5).push (Obj.cells #[str r] 9 (0, 0))
              have hz5 := hx25.size
              have hz6 : (h5.push (Obj.cells #[str r] 9 (0, 0))).size = h5.size + 1 := by simp
              have hne5 : jb ∉ blk v5 := fun hm => by have h9 := (hown5.ge _ hm).1; have := lt_of_at hj2.hd; omega
              have hns5 : ∀ k ∈ blk v5, k ∉ blk vs ∧ k ≠ rb := fun k hm => by
                have h9 := (hown5.ge _ hm).1
                refine ⟨fun hc => ?_, ?_⟩
                · have := (hr2.own.ge _ hc).2; omega
                · rintro rfl
                  obtain ⟨wr, hw⟩ := hr2.hd
                  have := lt_of_at hw
                  omega
              refine o_append Try.underlying32 (z := .string .empty) (size := 1) (bytes := 16) (e := 9) (by kernel_rfl) rfl (by omega) _ _ (hown5.ext hx6) (m := 1) (news := [str r]) rfl
                (fun i u hi => by rw [Nat.zero_add, cellH_push_new]; simpa using hi) (fun u hu => by simp only [List.mem_singleton] at hu; subst hu; rfl) (by omega) (by omega) (by omega) ?_
              intro v7 h7 hown7 ho7 hnil7 hblk7
              have hj7 := ho7.at (hx6.at hj5.hd) hne5
              have hr7 := (hr5.ext hx6).only ho7 (fun hm => (hns5 _ hm).2 rfl) (fun k hm hc => (hns5 _ hc).1 hm)
              have hpv7 := hown7.plain
              have w3 : okW h7 jb 3 = true := okW_of hj7 (by simp)
              have w4 : okW h7 jb 4 = true := okW_of hj7 (by simp)
              have q4 : cellH h7 jb 4 = some (.int .i64 (j.e : Int)) := by rw [cellH_of hj7]; rfl
              simp (disch := first | assumption | (with_reducible exact Ext.refl _) | (with_reducible exact Keep.refl _ _) | (with_reducible exact Eq.refl _) | (intro _ he; cases he; assumption) | (intro _ he; with_reducible apply keep_cell' he; assumption; simp; done) | (intro _ he; with_reducible apply ext_cell' he; assumption; done) | (with_reducible first | exact pl_int _ _ | exact pl_byte _ | exact pl_u32 _ | exact pl_bool _ | exact pl_ptr _ | exact pl_slice _ _ _ | exact pl_map _ | exact pl_str _ | exact pl_func _ _ _) | ((rw [okW_setH]; repeat rw [okW_setH]); assumption) | ((with_reducible refine cellH_setH_same ?_ _); (repeat rw [okW_setH]); assumption) | ((rw [cellH_setH_off]; rotate_left; focus decide); (repeat (rw [cellH_setH_off]; rotate_left; focus decide)); first | assumption | ((with_reducible refine cellH_setH_same ?_ _); (repeat rw [okW_setH]); assumption)) | omega) only [↓hpR, ↓nilC_ptr, ↓nilC_func, ↓condP_true, ↓condP_false, ↓condP_bool, ↓guardP_true, ↓guardP_false, ↓guardP_bool_t, ↓guardP_bool_f, ↓skipP_undef, ↓pickP_bool, ↓b_add, ↓b_sub, ↓b_mul, ↓b_quo, ↓b_rem, ↓b_lss, ↓b_leq, ↓b_gtr, ↓b_geq, ↓b_eql, ↓b_neq, ↓u_not, ↓s_add, ↓s_eql, ↓s_neq, ↓i_max2, ↓i_min2, ↓x20, ↓x21, ↓x30, ↓x31, ↓x32, ↓q_b_add, ↓q_b_sub, ↓q_b_mul, ↓q_b_quo, ↓q_b_rem, ↓q_b_lss, ↓q_b_leq, ↓q_b_gtr, ↓q_b_geq, ↓q_b_eql, ↓q_b_neq, ↓q_u_not, ↓q_s_add, ↓q_s_eql, ↓q_s_neq, ↓q_i_max2, ↓q_i_min2, ↓q_x20, ↓q_x21, ↓q_x30, ↓q_x31, ↓q_x32, ↓m_box, decide_true, decide_false, tt_and, ff_and, Nat.zero_add, Int.toNat_natCast, cells_agg, cells_bool, cells_int, cells_str, cells_ptr, cells_slice, ↓qend_eq, ↓jump_none, ↓jump_ret, ↓jump_exit, ↓marks_one, cond_true, cond_false, Bool.not_true, Bool.not_false]
              have e4 : (j.e : Int) + ((frameL r).length : Int) = ((j.e + (frameL r).length : Nat) : Int) := by omega
              rw [e4]
              have hox : Only [jb] h7 (setH (setH h7 jb 3 v7) jb 4 (.int .i64 ((j.e + (frameL r).length : Nat) : Int))) := setH_only (setH_only (Only.refl _ _) (.inl (by simp)) _ _) (.inl (by simp)) _ _
              have hx27 : Ext h2 h7 := ext_only_new (hx25.trans hx6) ho7 (fun k hm => (hown5.ge _ hm).1)
              have hjn : jb ∉ blk v7 := fun hm => by
                rcases hblk7 jb hm with h' | h'
                · exact hne5 h'
                · have := lt_of_at hj2.hd; omega
              refine hk _ v7 (hr7.only hox (by simpa using hb.symm) (fun k hm => by simp; rintro rfl; exact hjs hm)) ⟨?_, ?_, hjn, ?_, ?_, fun hc => by have := (hnil7.1 hc).2; omega⟩ ?_ ?_
              · rw [setH_at (setH_at hj7 _ _)]
                rfl
              · have := hown7.only hox (fun k hm => by simp; rintro rfl; exact hjn hm)
                have h0 := this.low (Nat.zero_le _)
                simpa [strs] using h0
              · simp; omega
              · show j.e + (frameL r).length ≤ 32 * j.n
                omega
              · exact (ho12.trans (hx27.only _)).trans (hox.mono (by simp))
              · intro k hm
                right
                rcases hblk7 k hm with h' | h'
                · have := (hown5.ge _ h').1; omega
                · omega
end Go.Proofs.Ytoefeflmcggbkaa
