/- The store's bytes; parts. -/
import Derived.Test.YtoefeflmcggbkaaJ2
set_option linter.unusedVariables false
set_option linter.unusedSimpArgs false
namespace Go.Proofs.Ytoefeflmcggbkaa
open Go.Hp

abbrev zero32 : Array Value := #[.int .u8 0, .int .u8 0, .int .u8 0, .int .u8 0, .int .u8 0, .int .u8 0, .int .u8 0, .int .u8 0, .int .u8 0, .int .u8 0, .int .u8 0, .int .u8 0, .int .u8 0, .int .u8 0, .int .u8 0, .int .u8 0, .int .u8 0, .int .u8 0, .int .u8 0, .int .u8 0, .int .u8 0, .int .u8 0, .int .u8 0, .int .u8 0, .int .u8 0, .int .u8 0, .int .u8 0, .int .u8 0, .int .u8 0, .int .u8 0, .int .u8 0, .int .u8 0]
theorem al79' {h : Heap} (x : Value) (K : Value → Heap → Prop) : RunV Try.prog (Instr.alloc 79 true x) h K = K (.pointer (some ⟨h.size, 0, none⟩)) (h.push (.cells zero32 79 (0, 0))) := al79 x K
theorem size79' : (Try.prog.info? 79).map (·.size) = some 32 := by kernel_rfl
theorem blk_load {h : Heap} {g : Nat} {bs : List UInt8} (hg : h[g]? = some (bytObj bs)) {i n : Nat} (hi : i < n) (hl : bs.length = 32 * n) (K : Value → Heap → Prop) :
    RunV Try.prog (Instr.loadAt 79 (.pointer (some ⟨g, i * 32, none⟩))) h K = K (.agg (((bs.drop (32 * i)).take 32).map byteV).toArray) h := by
  rw [m_loadAgg Try.underlying79 rfl size79' hg (by simp; omega)]
  congr 2
  apply Array.ext'
  simp [List.extract_eq_take_drop, List.map_take, List.map_drop, Nat.mul_comm]
theorem blk_store {h : Heap} {b : Nat} (hb : h[b]? = some (.cells zero32 79 (0, 0))) {l : List UInt8} (hl : l.length = 32) (K : Heap → Prop) :
    RunU Try.prog (Instr.storeAt 79 (.pointer (some ⟨b, 0, none⟩)) (.agg (l.map byteV).toArray)) h K = K (h.setIfInBounds b (.cells (l.map byteV).toArray 79 (0, 0))) := by
  rw [m_storeAgg size79' hb (by simp [hl]) (by simp [zero32]) (by intro v hv; simp only [List.mem_map] at hv; obtain ⟨x, _, rfl⟩ := hv; rfl)]
  congr 3
  apply Array.ext'
  rw [writeAt_toList _ _ _ (by simp [hl, zero32])]
  simp [hl, zero32]

theorem bytes_spec {h : Heap} {b g : Nat} {s : Sto} (hs : StoreAt h b g s) {K : Value → Heap → Prop} (hk : ∀ h', Ext h h' → K (str s.bs) h') :
    CallF Try.prog 20 #[.pointer (some ⟨b, 0, none⟩)] h K := by
  apply S20
  unfold F20
  obtain ⟨wr, hb⟩ := hs.hd
  obtain ⟨c0, c1, c2, c3, c4⟩ := stoC hb
  obtain ⟨ok1, ok2, ok3, ok4, ok5, ok6⟩ := hs.ok
  have c0' := cellH_push_old c0 (.cells #[.pointer none, .slice none 0 0] 83 (0, 0))
  simp (disch := first | assumption | (with_reducible exact Ext.refl _) | (with_reducible exact Keep.refl _ _) | (with_reducible exact Eq.refl _) | (intro _ he; cases he; assumption) | (intro _ he; with_reducible apply keep_cell' he; assumption; simp; done) | (intro _ he; with_reducible apply ext_cell' he; assumption; done) | (with_reducible first | exact pl_int _ _ | exact pl_byte _ | exact pl_u32 _ | exact pl_bool _ | exact pl_ptr _ | exact pl_slice _ _ _ | exact pl_map _ | exact pl_str _ | exact pl_func _ _ _) | ((rw [okW_setH]; repeat rw [okW_setH]); assumption) | ((with_reducible refine cellH_setH_same ?_ _); (repeat rw [okW_setH]); assumption) | ((rw [cellH_setH_off]; rotate_left; focus decide); (repeat (rw [cellH_setH_off]; rotate_left; focus decide)); first | assumption | ((with_reducible refine cellH_setH_same ?_ _); (repeat rw [okW_setH]); assumption)) | omega) only [↓hpR, ↓nilC_ptr, ↓nilC_func, ↓condP_true, ↓condP_false, ↓condP_bool, ↓guardP_true, ↓guardP_false, ↓guardP_bool_t, ↓guardP_bool_f, ↓skipP_undef, ↓pickP_bool, ↓b_add, ↓b_sub, ↓b_mul, ↓b_quo, ↓b_rem, ↓b_lss, ↓b_leq, ↓b_gtr, ↓b_geq, ↓b_eql, ↓b_neq, ↓u_not, ↓s_add, ↓s_eql, ↓s_neq, ↓i_max2, ↓i_min2, ↓x20, ↓x21, ↓x30, ↓x31, ↓x32, ↓q_b_add, ↓q_b_sub, ↓q_b_mul, ↓q_b_quo, ↓q_b_rem, ↓q_b_lss, ↓q_b_leq, ↓q_b_gtr, ↓q_b_geq, ↓q_b_eql, ↓q_b_neq, ↓q_u_not, ↓q_s_add, ↓q_s_eql, ↓q_s_neq, ↓q_i_max2, ↓q_i_min2, ↓q_x20, ↓q_x21, ↓q_x30, ↓q_x31, ↓q_x32, ↓m_box, decide_true, decide_false, tt_and, ff_and, Nat.zero_add, Int.toNat_natCast, cells_agg, cells_bool, cells_int, cells_str, cells_ptr, cells_slice, ↓qend_eq, ↓jump_none, ↓jump_ret, ↓jump_exit, ↓marks_one, cond_true, cond_false, Bool.not_true, Bool.not_false]
  refine ⟨fun x h' => ∃ (i : Nat) (p v : Value), x = .int .i64 (i : Int) ∧ i ≤ s.n ∧ BAt h' h.size h.size p v (s.bs.take (32 * i)) ∧ Ext h h', fun x h' => match x with | .int _ i => s.n - i.toNat | _ => 0, ?_, ?_⟩
  · refine ⟨0, .pointer none, .slice none 0 0, rfl, by omega, ⟨push_new _ _, ?_, by simp [blk, Value.ownBlock], Nat.le_refl _, .inl rfl⟩, (Ext.refl h).push _⟩
    simpa using Own.nil _ _ _ _
  · rintro js x h1 ⟨i, p, v, rfl, hi, hB, he⟩
    have hb1 := he.at hb
    have hg1 := he.at hs.row
    simp (disch := first | assumption | (with_reducible exact Ext.refl _) | (with_reducible exact Keep.refl _ _) | (with_reducible exact Eq.refl _) | (intro _ he; cases he; assumption) | (intro _ he; with_reducible apply keep_cell' he; assumption; simp; done) | (intro _ he; with_reducible apply ext_cell' he; assumption; done) | (with_reducible first | exact pl_int _ _ | exact pl_byte _ | exact pl_u32 _ | exact pl_bool _ | exact pl_ptr _ | exact pl_slice _ _ _ | exact pl_map _ | exact pl_str _ | exact pl_func _ _ _) | ((rw [okW_setH]; repeat rw [okW_setH]); assumption) | ((with_reducible refine cellH_setH_same ?_ _); (repeat rw [okW_setH]); assumption) | ((rw [cellH_setH_off]; rotate_left; focus decide); (repeat (rw [cellH_setH_off]; rotate_left; focus decide)); first | assumption | ((with_reducible refine cellH_setH_same ?_ _); (repeat rw [okW_setH]); assumption)) | omega) only [↓hpR, ↓nilC_ptr, ↓nilC_func, ↓condP_true, ↓condP_false, ↓condP_bool, ↓guardP_true, ↓guardP_false, ↓guardP_bool_t, ↓guardP_bool_f, ↓skipP_undef, ↓pickP_bool, ↓b_add, ↓b_sub, ↓b_mul, ↓b_quo, ↓b_rem, ↓b_lss, ↓b_leq, ↓b_gtr, ↓b_geq, ↓b_eql, ↓b_neq, ↓u_not, ↓s_add, ↓s_eql, ↓s_neq, ↓i_max2, ↓i_min2, ↓x20, ↓x21, ↓x30, ↓x31, ↓x32, ↓q_b_add, ↓q_b_sub, ↓q_b_mul, ↓q_b_quo, ↓q_b_rem, ↓q_b_lss, ↓q_b_leq, ↓q_b_gtr, ↓q_b_geq, ↓q_b_eql, ↓q_b_neq, ↓q_u_not, ↓q_s_add, ↓q_s_eql, ↓q_s_neq, ↓q_i_max2, ↓q_i_min2, ↓q_x20, ↓q_x21, ↓q_x30, ↓q_x31, ↓q_x32, ↓m_box, decide_true, decide_false, tt_and, ff_and, Nat.zero_add, Int.toNat_natCast, cells_agg, cells_bool, cells_int, cells_str, cells_ptr, cells_slice, ↓qend_eq, ↓jump_none, ↓jump_ret, ↓jump_exit, ↓marks_one, cond_true, cond_false, Bool.not_true, Bool.not_false]
    refine ⟨fun hlt => ?_, fun hge => ?_⟩
    · have hlt' : i < s.n := by simpa using hlt
      have e0 : (i : Int).toNat = i := by omega
      simp (disch := first | assumption | (with_reducible exact Ext.refl _) | (with_reducible exact Keep.refl _ _) | (with_reducible exact Eq.refl _) | (intro _ he; cases he; assumption) | (intro _ he; with_reducible apply keep_cell' he; assumption; simp; done) | (intro _ he; with_reducible apply ext_cell' he; assumption; done) | (with_reducible first | exact pl_int _ _ | exact pl_byte _ | exact pl_u32 _ | exact pl_bool _ | exact pl_ptr _ | exact pl_slice _ _ _ | exact pl_map _ | exact pl_str _ | exact pl_func _ _ _) | ((rw [okW_setH]; repeat rw [okW_setH]); assumption) | ((with_reducible refine cellH_setH_same ?_ _); (repeat rw [okW_setH]); assumption) | ((rw [cellH_setH_off]; rotate_left; focus decide); (repeat (rw [cellH_setH_off]; rotate_left; focus decide)); first | assumption | ((with_reducible refine cellH_setH_same ?_ _); (repeat rw [okW_setH]); assumption)) | omega) only [↓hpR, ↓nilC_ptr, ↓nilC_func, ↓condP_true, ↓condP_false, ↓condP_bool, ↓guardP_true, ↓guardP_false, ↓guardP_bool_t, ↓guardP_bool_f, ↓skipP_undef, ↓pickP_bool, ↓b_add, ↓b_sub, ↓b_mul, ↓b_quo, ↓b_rem, ↓b_lss, ↓b_leq, ↓b_gtr, ↓b_geq, ↓b_eql, ↓b_neq, ↓u_not, ↓s_add, ↓s_eql, ↓s_neq, ↓i_max2, ↓i_min2, ↓x20, ↓x21, ↓x30, ↓x31, ↓x32, ↓q_b_add, ↓q_b_sub, ↓q_b_mul, ↓q_b_quo, ↓q_b_rem, ↓q_b_lss, ↓q_b_leq, ↓q_b_gtr, ↓q_b_geq, ↓q_b_eql, ↓q_b_neq, ↓q_u_not, ↓q_s_add, ↓q_s_eql, ↓q_s_neq, ↓q_i_max2, ↓q_i_min2, ↓q_x20, ↓q_x21, ↓q_x30, ↓q_x31, ↓q_x32, ↓m_box, decide_true, decide_false, tt_and, ff_and, Nat.zero_add, Int.toNat_natCast, cells_agg, cells_bool, cells_int, cells_str, cells_ptr, cells_slice, ↓qend_eq, ↓jump_none, ↓jump_ret, ↓jump_exit, ↓marks_one, cond_true, cond_false, Bool.not_true, Bool.not_false]
      rw [blk_load hg1 hlt' ok1, blk_store (push_new _ _) (by simp; omega), set_push_new]
      have hBn : BAt (h1.push (.cells (((s.bs.drop (32 * i)).take 32).map byteV).toArray 79 (0, 0))) h.size h.size p v (s.bs.take (32 * i)) :=
        ⟨push_old hB.hd _, hB.own.ext ((Ext.refl h1).push _), hB.ne, hB.ge, hB.p⟩
      refine bwrite_spec hBn (by have := he.size; simp; omega) (g := h1.size) (o := 0) (m := 32) (news := (s.bs.drop (32 * i)).take 32) ?_ (by simp; omega) ?_ (by simp; omega) ?_
      · have := lt_of_at hB.hd; omega
      · intro j u hj
        rw [cellH_push_new]
        simpa using hj
      · intro v' h2 hB2 hO hblk
        have hlt1 := lt_of_at hB.hd
        have he2 : Ext h h2 := by
          refine ⟨by have h9 := hO.size; simp at h9; have := he.size; omega, fun k hk => ?_⟩
          rw [hO.block k (by have := he.size; simp; omega) (fun hm => ?_), Array.getElem?_push, if_neg (by have := he.size; omega), he.block k hk]
          simp only [List.mem_cons] at hm
          rcases hm with hm | hm
          · omega
          · have := (hB.own.ge k hm).1; omega
        refine ⟨⟨i + 1, selfP h.size, v', by simp, by omega, ?_, he2⟩, ?_⟩
        · have e1 : s.bs.take (32 * i) ++ (s.bs.drop (32 * i)).take 32 = s.bs.take (32 * (i + 1)) := by
            rw [show 32 * (i + 1) = 32 * i + 32 by omega, List.take_add]
          rw [e1] at hB2
          exact hB2
        · omega
    · have hge' : i = s.n := by simp at hge; omega
      subst hge'
      refine bstring_spec hB he.size fun h2 hsz hbk => ?_
      rw [List.take_of_length_le (by omega)]
      exact hk h2 ⟨by have := he.size; omega, fun k hk' => (hbk k hk').trans (he.block k hk')⟩
end Go.Proofs.Ytoefeflmcggbkaa
