/- Journals: parts are looked at, and opened. -/
import Derived.Test.YtoefeflmcggbkaaJ7
set_option linter.unusedVariables false
set_option linter.unusedSimpArgs false
namespace Go.Proofs.Ytoefeflmcggbkaa
open Go.Hp Go.RowKit

theorem strs_bytes (l : List (List UInt8)) (j : Nat) (hj : j < l.length) : (strs l)[j]? = some (str (l.getD j [])) := by
  simp [strs, List.getD_eq_getElem?_getD, List.getElem?_eq_getElem hj]
theorem clone_spec {h : Heap} {base : Nat} {v : Value} {l : List (List UInt8)} (ho : Own h base 9 1 v l.length (strs l)) (hl : l.length * 16 ≤ 140737488355328) {K : Value → Heap → Prop}
    (hk : ∀ h' v', Ext h h' → Own h' h.size 9 1 v' l.length (strs l) → K v' h') : CallF Try.prog 40 #[v] h K := by
  refine callF_run (R40 _) fun w hw => ?_
  subst hw
  rcases ho.2 with ⟨rfl, hn⟩ | ⟨g, cap, cur, rfl, hb, hg, h1, h2, h3, h4⟩
  · refine (Try.slices_Clone_string_nil 0 0 w).mono ?_
    rintro e w' ⟨rfl, rfl⟩
    have hl0 : l = [] := List.length_eq_zero_iff.1 hn
    subst hl0
    exact ⟨_, rfl, Same.refl _, hk _ _ (Ext.refl _) (Own.nil _ _ _ _)⟩
  · refine (Try.slices_Clone_string g 0 l.length cap (l.map fun x => ByteArray.mk x.toArray) w (by simp) (by omega) (fun j hj => ?_)).mono ?_
    · have hj' : j < l.length := by simpa using hj
      rw [cell_world, cellH_of hg, Nat.zero_add]
      have : cur.toList[j]? = some (str (l.getD j [])) := by
        have := strs_bytes l j hj'
        rw [← h4, List.getElem?_take] at this
        split at this
        · exact this
        · cases this
      rw [← Array.getElem?_toList, this]
      simp [str, List.getD_eq_getElem?_getD, List.getElem?_eq_getElem hj']
    · rintro e w' ⟨v', rfl, hown, _, hbl⟩
      refine ⟨v', rfl, below_same hbl, hk _ _ (below_ext hbl) ?_⟩
      have e1 : ((l.map fun x => ByteArray.mk x.toArray).take l.length).map Value.string = strs l := by
        rw [List.take_of_length_le (by simp), List.map_map]
        rfl
      rw [e1] at hown
      exact hown

theorem scanL_count2 (s : List UInt8) : 9 * (scanL s).1.length ≤ (scanL s).2 := by
  obtain ⟨n, hn⟩ : ∃ n, s.length = n := ⟨_, rfl⟩
  induction n using Nat.strongRecOn generalizing s with
  | _ n ih =>
    cases ho : oneL s with
    | none => rw [scanL_none ho]; simp
    | some r =>
      obtain ⟨hl, h1, _⟩ := oneL_len ho
      rw [scanL_some ho]
      have := ih (s.drop (r.length + 8)).length (by simp; omega) (s.drop (r.length + 8)) rfl
      simp at this ⊢
      omega
theorem partL_length {s : Sto} (hs : s.ok) {f n : Nat} (h : f + n ≤ s.n) : (partL s f n).length = 32 * n := by
  have := hs.1
  simp [partL]; omega

/-- The variable of a part. -/
theorem part_var {h : Heap} {b : Nat} {f n : Int} {K : Value → Heap → Prop} (hk : ∀ h', Ext h h' → h'.size = h.size + 1 → h'[h.size]? = some (Obj.cells #[.pointer (some ⟨b, 0, none⟩), .int .i64 f, .int .i64 n] 72 (0, 0)) → K (.pointer (some ⟨h.size, 0, none⟩)) h') :
    RunV Try.prog (Instr.alloc 72 true (.tuple #[])) h fun p h2 => RunU Try.prog (Instr.storeAt 72 p (.agg #[.pointer (some ⟨b, 0, none⟩), .int .i64 f, .int .i64 n])) h2 fun h3 => K p h3 := by
  simp (disch := first | assumption | (with_reducible exact Ext.refl _) | (with_reducible exact Keep.refl _ _) | (with_reducible exact Eq.refl _) | (intro _ he; cases he; assumption) | (intro _ he; with_reducible apply keep_cell' he; assumption; simp; done) | (intro _ he; with_reducible apply ext_cell' he; assumption; done) | (with_reducible first | exact pl_int _ _ | exact pl_byte _ | exact pl_u32 _ | exact pl_bool _ | exact pl_ptr _ | exact pl_slice _ _ _ | exact pl_map _ | exact pl_str _ | exact pl_func _ _ _) | ((rw [okW_setH]; repeat rw [okW_setH]); assumption) | ((with_reducible refine cellH_setH_same ?_ _); (repeat rw [okW_setH]); assumption) | ((rw [cellH_setH_off]; rotate_left; focus decide); (repeat (rw [cellH_setH_off]; rotate_left; focus decide)); first | assumption | ((with_reducible refine cellH_setH_same ?_ _); (repeat rw [okW_setH]); assumption)) | omega) only [↓hpR, ↓nilC_ptr, ↓nilC_func, ↓condP_true, ↓condP_false, ↓condP_bool, ↓guardP_true, ↓guardP_false, ↓guardP_bool_t, ↓guardP_bool_f, ↓skipP_undef, ↓pickP_bool, ↓b_add, ↓b_sub, ↓b_mul, ↓b_quo, ↓b_rem, ↓b_lss, ↓b_leq, ↓b_gtr, ↓b_geq, ↓b_eql, ↓b_neq, ↓u_not, ↓s_add, ↓s_eql, ↓s_neq, ↓i_max2, ↓i_min2, ↓x20, ↓x21, ↓x30, ↓x31, ↓x32, ↓q_b_add, ↓q_b_sub, ↓q_b_mul, ↓q_b_quo, ↓q_b_rem, ↓q_b_lss, ↓q_b_leq, ↓q_b_gtr, ↓q_b_geq, ↓q_b_eql, ↓q_b_neq, ↓q_u_not, ↓q_s_add, ↓q_s_eql, ↓q_s_neq, ↓q_i_max2, ↓q_i_min2, ↓q_x20, ↓q_x21, ↓q_x30, ↓q_x31, ↓q_x32, ↓m_box, decide_true, decide_false, tt_and, ff_and, Nat.zero_add, Int.toNat_natCast, cells_agg, cells_bool, cells_int, cells_str, cells_ptr, cells_slice, ↓qend_eq, ↓jump_none, ↓jump_ret, ↓jump_exit, ↓marks_one, cond_true, cond_false, Bool.not_true, Bool.not_false]
  rw [m_storeAgg size72 (push_new _ _) rfl (by simp) (by simp [plainV])]
  have e : writeAt #[Value.pointer none, .int .i64 0, .int .i64 0] 0 (#[Value.pointer (some ⟨b, 0, none⟩), .int .i64 f, .int .i64 n] : Array Value).toList = #[.pointer (some ⟨b, 0, none⟩), .int .i64 f, .int .i64 n] := by
    apply Array.ext'
    rw [writeAt_toList _ _ _ (by simp)]
    simp
  rw [e, set_push_new]
  exact hk _ ((Ext.refl h).push _) (by simp) (push_new _ _)

def partObj (b : Nat) (f n : Int) : Obj := .cells #[.pointer (some ⟨b, 0, none⟩), .int .i64 f, .int .i64 n] 72 (0, 0)
theorem part_load {h : Heap} {c b : Nat} {f n : Int} (hc : h[c]? = some (partObj b f n)) (K : Value → Heap → Prop) : RunV Try.prog (Instr.loadAt 72 (.pointer (some ⟨c, 0, none⟩))) h K = K (partV b f n) h := by
  rw [m_loadAgg Try.underlying72 rfl size72 hc (by simp)]
  rfl
theorem q_part_load {C : Heap → Prop} {h0 : Heap} (hC : C h0) {c b : Nat} {f n : Int} (hc : ∀ h', C h' → h'[c]? = some (partObj b f n)) (K : Value → Prop) : QV Try.prog C (Instr.loadAt 72 (.pointer (some ⟨c, 0, none⟩))) K = K (partV b f n) := by
  rw [q_m_loadAgg hC Try.underlying72 rfl size72 hc (by simp)]
  rfl

theorem look_spec {h : Heap} {b g : Nat} {s : Sto} (hs : StoreAt h b g s) (f n : Int) {K : Value → Heap → Prop}
    (hbad : partB s f n = false → ∀ h', Ext h h' → K (.slice none 0 0) h')
    (hk : partB s f n = true → ∀ h' v, Ext h h' → Own h' h.size 9 1 v (scanL (partL s f.toNat n.toNat)).1.length (strs (scanL (partL s f.toNat n.toNat)).1) → K v h') :
    CallF Try.prog 28 #[.pointer (some ⟨b, 0, none⟩), .int .i64 f, .int .i64 n] h K := by
  apply S28
  unfold F28
  obtain ⟨ok1, ok2, ok3, ok4, ok5, ok6⟩ := hs.ok
  rw [bd72_0_1_2 rfl rfl rfl]
  refine part_var fun h1 x1 z1 p1 => ?_
  rw [part_load p1]
  refine is_spec (hs.ext x1) f n fun h2 x2 => ?_
  simp (disch := first | assumption | (with_reducible exact Ext.refl _) | (with_reducible exact Keep.refl _ _) | (with_reducible exact Eq.refl _) | (intro _ he; cases he; assumption) | (intro _ he; with_reducible apply keep_cell' he; assumption; simp; done) | (intro _ he; with_reducible apply ext_cell' he; assumption; done) | (with_reducible first | exact pl_int _ _ | exact pl_byte _ | exact pl_u32 _ | exact pl_bool _ | exact pl_ptr _ | exact pl_slice _ _ _ | exact pl_map _ | exact pl_str _ | exact pl_func _ _ _) | ((rw [okW_setH]; repeat rw [okW_setH]); assumption) | ((with_reducible refine cellH_setH_same ?_ _); (repeat rw [okW_setH]); assumption) | ((rw [cellH_setH_off]; rotate_left; focus decide); (repeat (rw [cellH_setH_off]; rotate_left; focus decide)); first | assumption | ((with_reducible refine cellH_setH_same ?_ _); (repeat rw [okW_setH]); assumption)) | omega) only [↓hpR, ↓nilC_ptr, ↓nilC_func, ↓condP_true, ↓condP_false, ↓condP_bool, ↓guardP_true, ↓guardP_false, ↓guardP_bool_t, ↓guardP_bool_f, ↓skipP_undef, ↓pickP_bool, ↓b_add, ↓b_sub, ↓b_mul, ↓b_quo, ↓b_rem, ↓b_lss, ↓b_leq, ↓b_gtr, ↓b_geq, ↓b_eql, ↓b_neq, ↓u_not, ↓s_add, ↓s_eql, ↓s_neq, ↓i_max2, ↓i_min2, ↓x20, ↓x21, ↓x30, ↓x31, ↓x32, ↓q_b_add, ↓q_b_sub, ↓q_b_mul, ↓q_b_quo, ↓q_b_rem, ↓q_b_lss, ↓q_b_leq, ↓q_b_gtr, ↓q_b_geq, ↓q_b_eql, ↓q_b_neq, ↓q_u_not, ↓q_s_add, ↓q_s_eql, ↓q_s_neq, ↓q_i_max2, ↓q_i_min2, ↓q_x20, ↓q_x21, ↓q_x30, ↓q_x31, ↓q_x32, ↓m_box, decide_true, decide_false, tt_and, ff_and, Nat.zero_add, Int.toNat_natCast, cells_agg, cells_bool, cells_int, cells_str, cells_ptr, cells_slice, ↓qend_eq, ↓jump_none, ↓jump_ret, ↓jump_exit, ↓marks_one, cond_true, cond_false, Bool.not_true, Bool.not_false]
  refine ⟨fun hb => ?_, fun hb => ?_⟩
  · exact hbad (by simpa using hb) h2 (x1.trans x2)
  · have hb' : partB s f n = true := by simpa using hb
    obtain ⟨q1, q2, q3⟩ := partB_iff hb'
    rw [part_load (x2.at p1)]
    have e1 : partV b f n = partV b ((f.toNat : Nat) : Int) ((n.toNat : Nat) : Int) := by rw [Int.toNat_of_nonneg q1, Int.toNat_of_nonneg (by omega)]
    rw [e1]
    refine part_bytes ((hs.ext x1).ext x2) f.toNat n.toNat (by omega) fun h3 x3 => ?_
    have hl := partL_length hs.ok (show f.toNat + n.toNat ≤ s.n by omega)
    refine scan_spec _ (by omega) fun h4 v x4 ho => ?_
    simp (disch := first | assumption | (with_reducible exact Ext.refl _) | (with_reducible exact Keep.refl _ _) | (with_reducible exact Eq.refl _) | (intro _ he; cases he; assumption) | (intro _ he; with_reducible apply keep_cell' he; assumption; simp; done) | (intro _ he; with_reducible apply ext_cell' he; assumption; done) | (with_reducible first | exact pl_int _ _ | exact pl_byte _ | exact pl_u32 _ | exact pl_bool _ | exact pl_ptr _ | exact pl_slice _ _ _ | exact pl_map _ | exact pl_str _ | exact pl_func _ _ _) | ((rw [okW_setH]; repeat rw [okW_setH]); assumption) | ((with_reducible refine cellH_setH_same ?_ _); (repeat rw [okW_setH]); assumption) | ((rw [cellH_setH_off]; rotate_left; focus decide); (repeat (rw [cellH_setH_off]; rotate_left; focus decide)); first | assumption | ((with_reducible refine cellH_setH_same ?_ _); (repeat rw [okW_setH]); assumption)) | omega) only [↓hpR, ↓nilC_ptr, ↓nilC_func, ↓condP_true, ↓condP_false, ↓condP_bool, ↓guardP_true, ↓guardP_false, ↓guardP_bool_t, ↓guardP_bool_f, ↓skipP_undef, ↓pickP_bool, ↓b_add, ↓b_sub, ↓b_mul, ↓b_quo, ↓b_rem, ↓b_lss, ↓b_leq, ↓b_gtr, ↓b_geq, ↓b_eql, ↓b_neq, ↓u_not, ↓s_add, ↓s_eql, ↓s_neq, ↓i_max2, ↓i_min2, ↓x20, ↓x21, ↓x30, ↓x31, ↓x32, ↓q_b_add, ↓q_b_sub, ↓q_b_mul, ↓q_b_quo, ↓q_b_rem, ↓q_b_lss, ↓q_b_leq, ↓q_b_gtr, ↓q_b_geq, ↓q_b_eql, ↓q_b_neq, ↓q_u_not, ↓q_s_add, ↓q_s_eql, ↓q_s_neq, ↓q_i_max2, ↓q_i_min2, ↓q_x20, ↓q_x21, ↓q_x30, ↓q_x31, ↓q_x32, ↓m_box, decide_true, decide_false, tt_and, ff_and, Nat.zero_add, Int.toNat_natCast, cells_agg, cells_bool, cells_int, cells_str, cells_ptr, cells_slice, ↓qend_eq, ↓jump_none, ↓jump_ret, ↓jump_exit, ↓marks_one, cond_true, cond_false, Bool.not_true, Bool.not_false]
    refine hk hb' h4 v (((x1.trans x2).trans x3).trans x4) ?_
    refine ⟨ho.1, ho.2.imp id ?_⟩
    rintro ⟨g', cap, cur, e, hge, r⟩
    have := (x1.trans x2 |>.trans x3).size
    exact ⟨g', cap, cur, e, by omega, r⟩

theorem records_spec {h : Heap} {b g : Nat} {s : Sto} (hs : StoreAt h b g s) {K : Value → Heap → Prop}
    (hk : ∀ h' v, Ext h h' → Own h' h.size 9 1 v (scanL s.bs).1.length (strs (scanL s.bs).1) → K v h') : CallF Try.prog 23 #[.pointer (some ⟨b, 0, none⟩)] h K := by
  apply S23
  unfold F23
  obtain ⟨ok1, ok2, ok3, ok4, ok5, ok6⟩ := hs.ok
  simp (disch := first | assumption | (with_reducible exact Ext.refl _) | (with_reducible exact Keep.refl _ _) | (with_reducible exact Eq.refl _) | (intro _ he; cases he; assumption) | (intro _ he; with_reducible apply keep_cell' he; assumption; simp; done) | (intro _ he; with_reducible apply ext_cell' he; assumption; done) | (with_reducible first | exact pl_int _ _ | exact pl_byte _ | exact pl_u32 _ | exact pl_bool _ | exact pl_ptr _ | exact pl_slice _ _ _ | exact pl_map _ | exact pl_str _ | exact pl_func _ _ _) | ((rw [okW_setH]; repeat rw [okW_setH]); assumption) | ((with_reducible refine cellH_setH_same ?_ _); (repeat rw [okW_setH]); assumption) | ((rw [cellH_setH_off]; rotate_left; focus decide); (repeat (rw [cellH_setH_off]; rotate_left; focus decide)); first | assumption | ((with_reducible refine cellH_setH_same ?_ _); (repeat rw [okW_setH]); assumption)) | omega) only [↓hpR, ↓nilC_ptr, ↓nilC_func, ↓condP_true, ↓condP_false, ↓condP_bool, ↓guardP_true, ↓guardP_false, ↓guardP_bool_t, ↓guardP_bool_f, ↓skipP_undef, ↓pickP_bool, ↓b_add, ↓b_sub, ↓b_mul, ↓b_quo, ↓b_rem, ↓b_lss, ↓b_leq, ↓b_gtr, ↓b_geq, ↓b_eql, ↓b_neq, ↓u_not, ↓s_add, ↓s_eql, ↓s_neq, ↓i_max2, ↓i_min2, ↓x20, ↓x21, ↓x30, ↓x31, ↓x32, ↓q_b_add, ↓q_b_sub, ↓q_b_mul, ↓q_b_quo, ↓q_b_rem, ↓q_b_lss, ↓q_b_leq, ↓q_b_gtr, ↓q_b_geq, ↓q_b_eql, ↓q_b_neq, ↓q_u_not, ↓q_s_add, ↓q_s_eql, ↓q_s_neq, ↓q_i_max2, ↓q_i_min2, ↓q_x20, ↓q_x21, ↓q_x30, ↓q_x31, ↓q_x32, ↓m_box, decide_true, decide_false, tt_and, ff_and, Nat.zero_add, Int.toNat_natCast, cells_agg, cells_bool, cells_int, cells_str, cells_ptr, cells_slice, ↓qend_eq, ↓jump_none, ↓jump_ret, ↓jump_exit, ↓marks_one, cond_true, cond_false, Bool.not_true, Bool.not_false, Option.isNone_some]
  refine blocks_spec hs ?_
  have hb : partB s 0 (s.n : Int) = true := by simp [partB]; omega
  refine look_spec hs 0 (s.n : Int) (fun h => by rw [hb] at h; cases h) fun _ h' v hx ho => ?_
  have e : partL s (0 : Int).toNat (s.n : Int).toNat = s.bs := by
    simp only [partL, Int.toNat_natCast]
    rw [← ok1]
    simp
  rw [e] at ho
  exact hk h' v hx ho

structure Jr where
  f : Nat
  n : Nat
  l : List (List UInt8)
  e : Nat
  down : Bool
structure JAt (h : Heap) (jb b : Nat) (j : Jr) (v : Value) : Prop where
  hd : h[jb]? = some (.cells #[.pointer (some ⟨b, 0, none⟩), .int .i64 (j.f : Int), .int .i64 (j.n : Int), v, .int .i64 (j.e : Int), .bool j.down] 74 (0, 0))
  own : Own h 0 9 1 v j.l.length (strs j.l)
  ne : jb ∉ blk v
  el : 9 * j.l.length ≤ j.e
  en : j.e ≤ 32 * j.n
theorem JAt.only {h h' : Heap} {jb b : Nat} {j : Jr} {v : Value} (hj : JAt h jb b j v) {S : List Nat} (ho : Only S h h') (h1 : jb ∉ S) (h2 : ∀ k ∈ blk v, k ∉ S) : JAt h' jb b j v :=
  ⟨ho.at hj.hd h1, hj.own.only ho h2, hj.ne, hj.el, hj.en⟩
theorem JAt.ext {h h' : Heap} {jb b : Nat} {j : Jr} {v : Value} (hj : JAt h jb b j v) (ho : Ext h h') : JAt h' jb b j v := hj.only (ho.only []) (by simp) (by simp)
theorem JAt.cells {h : Heap} {jb b : Nat} {j : Jr} {v : Value} (hj : JAt h jb b j v) : cellH h jb 2 = some (.int .i64 (j.n : Int)) ∧ cellH h jb 3 = some v ∧ cellH h jb 4 = some (.int .i64 (j.e : Int)) ∧ cellH h jb 5 = some (.bool j.down) := by
  simp only [cellH_of hj.hd]
  exact ⟨rfl, rfl, rfl, rfl⟩
theorem room_spec {h : Heap} {jb b : Nat} {j : Jr} {v : Value} (hj : JAt h jb b j v) (hn : j.n ≤ 256) {K : Value → Heap → Prop} (hk : K (.int .i64 (32 * (j.n : Int) - j.e)) h) : CallF Try.prog 25 #[.pointer (some ⟨jb, 0, none⟩)] h K := by
  apply S25
  unfold F25
  obtain ⟨c2, c3, c4, c5⟩ := hj.cells
  have := hj.en
  refine Quiet_eq ?_
  simp (disch := first | assumption | (with_reducible exact Ext.refl _) | (with_reducible exact Keep.refl _ _) | (with_reducible exact Eq.refl _) | (intro _ he; cases he; assumption) | (intro _ he; with_reducible apply keep_cell' he; assumption; simp; done) | (intro _ he; with_reducible apply ext_cell' he; assumption; done) | (with_reducible first | exact pl_int _ _ | exact pl_byte _ | exact pl_u32 _ | exact pl_bool _ | exact pl_ptr _ | exact pl_slice _ _ _ | exact pl_map _ | exact pl_str _ | exact pl_func _ _ _) | ((rw [okW_setH]; repeat rw [okW_setH]); assumption) | ((with_reducible refine cellH_setH_same ?_ _); (repeat rw [okW_setH]); assumption) | ((rw [cellH_setH_off]; rotate_left; focus decide); (repeat (rw [cellH_setH_off]; rotate_left; focus decide)); first | assumption | ((with_reducible refine cellH_setH_same ?_ _); (repeat rw [okW_setH]); assumption)) | omega) only [↓hpR, ↓nilC_ptr, ↓nilC_func, ↓condP_true, ↓condP_false, ↓condP_bool, ↓guardP_true, ↓guardP_false, ↓guardP_bool_t, ↓guardP_bool_f, ↓skipP_undef, ↓pickP_bool, ↓b_add, ↓b_sub, ↓b_mul, ↓b_quo, ↓b_rem, ↓b_lss, ↓b_leq, ↓b_gtr, ↓b_geq, ↓b_eql, ↓b_neq, ↓u_not, ↓s_add, ↓s_eql, ↓s_neq, ↓i_max2, ↓i_min2, ↓x20, ↓x21, ↓x30, ↓x31, ↓x32, ↓q_b_add, ↓q_b_sub, ↓q_b_mul, ↓q_b_quo, ↓q_b_rem, ↓q_b_lss, ↓q_b_leq, ↓q_b_gtr, ↓q_b_geq, ↓q_b_eql, ↓q_b_neq, ↓q_u_not, ↓q_s_add, ↓q_s_eql, ↓q_s_neq, ↓q_i_max2, ↓q_i_min2, ↓q_x20, ↓q_x21, ↓q_x30, ↓q_x31, ↓q_x32, ↓m_box, decide_true, decide_false, tt_and, ff_and, Nat.zero_add, Int.toNat_natCast, cells_agg, cells_bool, cells_int, cells_str, cells_ptr, cells_slice, ↓qend_eq, ↓jump_none, ↓jump_ret, ↓jump_exit, ↓marks_one, cond_true, cond_false, Bool.not_true, Bool.not_false]
  rw [Int.mul_comm]
  exact hk
theorem jrecs_spec {h : Heap} {jb b : Nat} {j : Jr} {v : Value} (hj : JAt h jb b j v) (hn : j.n ≤ 256) {K : Value → Heap → Prop} (hk : ∀ h' v', Ext h h' → Own h' h.size 9 1 v' j.l.length (strs j.l) → K v' h') : CallF Try.prog 24 #[.pointer (some ⟨jb, 0, none⟩)] h K := by
  apply S24
  unfold F24
  obtain ⟨c2, c3, c4, c5⟩ := hj.cells
  simp (disch := first | assumption | (with_reducible exact Ext.refl _) | (with_reducible exact Keep.refl _ _) | (with_reducible exact Eq.refl _) | (intro _ he; cases he; assumption) | (intro _ he; with_reducible apply keep_cell' he; assumption; simp; done) | (intro _ he; with_reducible apply ext_cell' he; assumption; done) | (with_reducible first | exact pl_int _ _ | exact pl_byte _ | exact pl_u32 _ | exact pl_bool _ | exact pl_ptr _ | exact pl_slice _ _ _ | exact pl_map _ | exact pl_str _ | exact pl_func _ _ _) | ((rw [okW_setH]; repeat rw [okW_setH]); assumption) | ((with_reducible refine cellH_setH_same ?_ _); (repeat rw [okW_setH]); assumption) | ((rw [cellH_setH_off]; rotate_left; focus decide); (repeat (rw [cellH_setH_off]; rotate_left; focus decide)); first | assumption | ((with_reducible refine cellH_setH_same ?_ _); (repeat rw [okW_setH]); assumption)) | omega) only [↓hpR, ↓nilC_ptr, ↓nilC_func, ↓condP_true, ↓condP_false, ↓condP_bool, ↓guardP_true, ↓guardP_false, ↓guardP_bool_t, ↓guardP_bool_f, ↓skipP_undef, ↓pickP_bool, ↓b_add, ↓b_sub, ↓b_mul, ↓b_quo, ↓b_rem, ↓b_lss, ↓b_leq, ↓b_gtr, ↓b_geq, ↓b_eql, ↓b_neq, ↓u_not, ↓s_add, ↓s_eql, ↓s_neq, ↓i_max2, ↓i_min2, ↓x20, ↓x21, ↓x30, ↓x31, ↓x32, ↓q_b_add, ↓q_b_sub, ↓q_b_mul, ↓q_b_quo, ↓q_b_rem, ↓q_b_lss, ↓q_b_leq, ↓q_b_gtr, ↓q_b_geq, ↓q_b_eql, ↓q_b_neq, ↓q_u_not, ↓q_s_add, ↓q_s_eql, ↓q_s_neq, ↓q_i_max2, ↓q_i_min2, ↓q_x20, ↓q_x21, ↓q_x30, ↓q_x31, ↓q_x32, ↓m_box, decide_true, decide_false, tt_and, ff_and, Nat.zero_add, Int.toNat_natCast, cells_agg, cells_bool, cells_int, cells_str, cells_ptr, cells_slice, ↓qend_eq, ↓jump_none, ↓jump_ret, ↓jump_exit, ↓marks_one, cond_true, cond_false, Bool.not_true, Bool.not_false]
  have := hj.en
  have := hj.el
  exact clone_spec hj.own (by omega) hk

/-! ### A part is opened -/
def clearL (l : List UInt8) (e : Nat) : List UInt8 := l.take e ++ List.replicate (l.length - e) 0
theorem clearL_length {l : List UInt8} {e : Nat} (h : e ≤ l.length) : (clearL l e).length = l.length := by simp [clearL]; omega
def openP (s : Sto) (f n : Nat) : Int × Sto :=
  putN f (partL s f n) (clearL (partL s f n) (scanL (partL s f n)).2) false (n - (scanL (partL s f n)).2 / 32) ((scanL (partL s f n)).2 / 32) s
theorem blk_ge {h : Heap} {base : Nat} {e : TypeId} {size : Nat} {v : Value} {n : Nat} {xs : List Value} (ho : Own h base e size v n xs) : ∀ k ∈ blk v, base ≤ k ∧ k < h.size := ho.ge
def jr0 (s : Sto) (f n : Nat) : Jr := ⟨f, n, (scanL (partL s f n)).1, (scanL (partL s f n)).2, false⟩
theorem part_spec {h : Heap} {b g : Nat} {s : Sto} (hs : StoreAt h b g s) (f n : Int) {K : Value → Heap → Prop}
    (hbad : partB s f n = false → ∀ h', Ext h h' → K (.tuple #[.pointer none, .slice none 0 0, .int .i64 1]) h')
    (herr : partB s f n = true → (openP s f.toNat n.toNat).1 ≠ 0 → ∀ h', StoreAt h' b g (openP s f.toNat n.toNat).2 → Only [b, g] h h' → K (.tuple #[.pointer none, .slice none 0 0, .int .i64 (openP s f.toNat n.toNat).1]) h')
    (hk : partB s f n = true → (openP s f.toNat n.toNat).1 = 0 → ∀ h' jb v v2, StoreAt h' b g (openP s f.toNat n.toNat).2 → Only [b, g] h h' → JAt h' jb b (jr0 s f.toNat n.toNat) v → h.size ≤ jb → (∀ k ∈ blk v, h.size ≤ k) → (∀ k ∈ blk v2, k ∉ blk v) →
      Own h' h.size 9 1 v2 (jr0 s f.toNat n.toNat).l.length (strs (jr0 s f.toNat n.toNat).l) → K (.tuple #[.pointer (some ⟨jb, 0, none⟩), v2, .int .i64 0]) h') :
    CallF Try.prog 27 #[.pointer (some ⟨b, 0, none⟩), .int .i64 f, .int .i64 n] h K := by
  apply S27
  unfold F27
  obtain ⟨ok1, ok2, ok3, ok4, ok5, ok6⟩ := hs.ok
  have hbl : b < h.size := hs.hd.elim fun wr hw => lt_of_at hw
  have hgl : g < h.size := lt_of_at hs.row
  rw [bd72_0_1_2 rfl rfl rfl]
  refine part_var fun h1 x1 z1 p1 => ?_
  rw [part_load p1]
  refine is_spec (hs.ext x1) f n fun h2 x2 => ?_
  simp (disch := first | assumption | (with_reducible exact Ext.refl _) | (with_reducible exact Keep.refl _ _) | (with_reducible exact Eq.refl _) | (intro _ he; cases he; assumption) | (intro _ he; with_reducible apply keep_cell' he; assumption; simp; done) | (intro _ he; with_reducible apply ext_cell' he; assumption; done) | (with_reducible first | exact pl_int _ _ | exact pl_byte _ | exact pl_u32 _ | exact pl_bool _ | exact pl_ptr _ | exact pl_slice _ _ _ | exact pl_map _ | exact pl_str _ | exact pl_func _ _ _) | ((rw [okW_setH]; repeat rw [okW_setH]); assumption) | ((with_reducible refine cellH_setH_same ?_ _); (repeat rw [okW_setH]); assumption) | ((rw [cellH_setH_off]; rotate_left; focus decide); (repeat (rw [cellH_setH_off]; rotate_left; focus decide)); first | assumption | ((with_reducible refine cellH_setH_same ?_ _); (repeat rw [okW_setH]); assumption)) | omega) only [↓hpR, ↓nilC_ptr, ↓nilC_func, ↓condP_true, ↓condP_false, ↓condP_bool, ↓guardP_true, ↓guardP_false, ↓guardP_bool_t, ↓guardP_bool_f, ↓skipP_undef, ↓pickP_bool, ↓b_add, ↓b_sub, ↓b_mul, ↓b_quo, ↓b_rem, ↓b_lss, ↓b_leq, ↓b_gtr, ↓b_geq, ↓b_eql, ↓b_neq, ↓u_not, ↓s_add, ↓s_eql, ↓s_neq, ↓i_max2, ↓i_min2, ↓x20, ↓x21, ↓x30, ↓x31, ↓x32, ↓q_b_add, ↓q_b_sub, ↓q_b_mul, ↓q_b_quo, ↓q_b_rem, ↓q_b_lss, ↓q_b_leq, ↓q_b_gtr, ↓q_b_geq, ↓q_b_eql, ↓q_b_neq, ↓q_u_not, ↓q_s_add, ↓q_s_eql, ↓q_s_neq, ↓q_i_max2, ↓q_i_min2, ↓q_x20, ↓q_x21, ↓q_x30, ↓q_x31, ↓q_x32, ↓m_box, decide_true, decide_false, tt_and, ff_and, Nat.zero_add, Int.toNat_natCast, cells_agg, cells_bool, cells_int, cells_str, cells_ptr, cells_slice, ↓qend_eq, ↓jump_none, ↓jump_ret, ↓jump_exit, ↓marks_one, cond_true, cond_false, Bool.not_true, Bool.not_false]
  refine ⟨fun hb => ?_, fun hb => ?_⟩
  · exact hbad (by simpa using hb) h2 (x1.trans x2)
  · have hb' : partB s f n = true := by simpa using hb
    obtain ⟨q1, q2, q3⟩ := partB_iff hb'
    rw [part_load (x2.at p1)]
    have e1 : partV b f n = partV b ((f.toNat : Nat) : Int) ((n.toNat : Nat) : Int) := by rw [Int.toNat_of_nonneg q1, Int.toNat_of_nonneg (by omega)]
    have hfn : f.toNat + n.toNat ≤ s.n := by omega
    have hef : f = ((f.toNat : Nat) : Int) := by omega
    have hen : n = ((n.toNat : Nat) : Int) := by omega
    obtain ⟨F, hF⟩ : ∃ F, f.toNat = F := ⟨_, rfl⟩
    obtain ⟨N, hN⟩ : ∃ N, n.toNat = N := ⟨_, rfl⟩
    rw [hF] at hef hfn herr hk
    rw [hN] at hen hfn herr hk
    subst hef hen
    clear hF hN e1
    refine part_bytes ((hs.ext x1).ext x2) F N hfn fun h3 x3 => ?_
    have hl := partL_length hs.ok hfn
    have hse := scanL_le (partL s F N)
    have hsc := scanL_count2 (partL s F N)
    refine scan_spec _ (by omega) fun h4 v x4 ho => ?_
    simp (disch := first | assumption | (with_reducible exact Ext.refl _) | (with_reducible exact Keep.refl _ _) | (with_reducible exact Eq.refl _) | (intro _ he; cases he; assumption) | (intro _ he; with_reducible apply keep_cell' he; assumption; simp; done) | (intro _ he; with_reducible apply ext_cell' he; assumption; done) | (with_reducible first | exact pl_int _ _ | exact pl_byte _ | exact pl_u32 _ | exact pl_bool _ | exact pl_ptr _ | exact pl_slice _ _ _ | exact pl_map _ | exact pl_str _ | exact pl_func _ _ _) | ((rw [okW_setH]; repeat rw [okW_setH]); assumption) | ((with_reducible refine cellH_setH_same ?_ _); (repeat rw [okW_setH]); assumption) | ((rw [cellH_setH_off]; rotate_left; focus decide); (repeat (rw [cellH_setH_off]; rotate_left; focus decide)); first | assumption | ((with_reducible refine cellH_setH_same ?_ _); (repeat rw [okW_setH]); assumption)) | omega) only [↓hpR, ↓nilC_ptr, ↓nilC_func, ↓condP_true, ↓condP_false, ↓condP_bool, ↓guardP_true, ↓guardP_false, ↓guardP_bool_t, ↓guardP_bool_f, ↓skipP_undef, ↓pickP_bool, ↓b_add, ↓b_sub, ↓b_mul, ↓b_quo, ↓b_rem, ↓b_lss, ↓b_leq, ↓b_gtr, ↓b_geq, ↓b_eql, ↓b_neq, ↓u_not, ↓s_add, ↓s_eql, ↓s_neq, ↓i_max2, ↓i_min2, ↓x20, ↓x21, ↓x30, ↓x31, ↓x32, ↓q_b_add, ↓q_b_sub, ↓q_b_mul, ↓q_b_quo, ↓q_b_rem, ↓q_b_lss, ↓q_b_leq, ↓q_b_gtr, ↓q_b_geq, ↓q_b_eql, ↓q_b_neq, ↓q_u_not, ↓q_s_add, ↓q_s_eql, ↓q_s_neq, ↓q_i_max2, ↓q_i_min2, ↓q_x20, ↓q_x21, ↓q_x30, ↓q_x31, ↓q_x32, ↓m_box, decide_true, decide_false, tt_and, ff_and, Nat.zero_add, Int.toNat_natCast, cells_agg, cells_bool, cells_int, cells_str, cells_ptr, cells_slice, ↓qend_eq, ↓jump_none, ↓jump_ret, ↓jump_exit, ↓marks_one, cond_true, cond_false, Bool.not_true, Bool.not_false]
    have x14 : Ext h1 h4 := (x2.trans x3).trans x4
    have p4 := x14.at p1
    refine Quiet_keep [h.size] ?_
    rw [q_part_load (Keep.refl _ _) (fun h' he => (he h.size (by simp)).trans p4)]
    simp (disch := first | assumption | (with_reducible exact Ext.refl _) | (with_reducible exact Keep.refl _ _) | (with_reducible exact Eq.refl _) | (intro _ he; cases he; assumption) | (intro _ he; with_reducible apply keep_cell' he; assumption; simp; done) | (intro _ he; with_reducible apply ext_cell' he; assumption; done) | (with_reducible first | exact pl_int _ _ | exact pl_byte _ | exact pl_u32 _ | exact pl_bool _ | exact pl_ptr _ | exact pl_slice _ _ _ | exact pl_map _ | exact pl_str _ | exact pl_func _ _ _) | ((rw [okW_setH]; repeat rw [okW_setH]); assumption) | ((with_reducible refine cellH_setH_same ?_ _); (repeat rw [okW_setH]); assumption) | ((rw [cellH_setH_off]; rotate_left; focus decide); (repeat (rw [cellH_setH_off]; rotate_left; focus decide)); first | assumption | ((with_reducible refine cellH_setH_same ?_ _); (repeat rw [okW_setH]); assumption)) | omega) only [↓hpR, ↓nilC_ptr, ↓nilC_func, ↓condP_true, ↓condP_false, ↓condP_bool, ↓guardP_true, ↓guardP_false, ↓guardP_bool_t, ↓guardP_bool_f, ↓skipP_undef, ↓pickP_bool, ↓b_add, ↓b_sub, ↓b_mul, ↓b_quo, ↓b_rem, ↓b_lss, ↓b_leq, ↓b_gtr, ↓b_geq, ↓b_eql, ↓b_neq, ↓u_not, ↓s_add, ↓s_eql, ↓s_neq, ↓i_max2, ↓i_min2, ↓x20, ↓x21, ↓x30, ↓x31, ↓x32, ↓q_b_add, ↓q_b_sub, ↓q_b_mul, ↓q_b_quo, ↓q_b_rem, ↓q_b_lss, ↓q_b_leq, ↓q_b_gtr, ↓q_b_geq, ↓q_b_eql, ↓q_b_neq, ↓q_u_not, ↓q_s_add, ↓q_s_eql, ↓q_s_neq, ↓q_i_max2, ↓q_i_min2, ↓q_x20, ↓q_x21, ↓q_x30, ↓q_x31, ↓q_x32, ↓m_box, decide_true, decide_false, tt_and, ff_and, Nat.zero_add, Int.toNat_natCast, cells_agg, cells_bool, cells_int, cells_str, cells_ptr, cells_slice, ↓qend_eq, ↓jump_none, ↓jump_ret, ↓jump_exit, ↓marks_one, cond_true, cond_false, Bool.not_true, Bool.not_false]
    refine cleared_spec _ _ hse (by omega) fun h5 x5 => ⟨keep_one p4 (x5.at p4), ?_⟩
    · have x15 := x14.trans x5
      have hs5 := (hs.ext x1).ext x15
      refine put_spec hs5 F N hfn (clearL (partL s F N) (scanL (partL s F N)).2) (by rw [clearL_length hse, hl]) _ _ (by omega) (by omega) false fun h6 hs6 ho6 => ⟨keep_one p4 (ho6.at (x15.at p1) (by simp; omega)), ?_⟩
      · have hn : ((partL s F N).length + 31) / 32 - (scanL (partL s F N)).2 / 32 = N - (scanL (partL s F N)).2 / 32 := by rw [hl]; omega
        rw [hn] at hs6 ⊢
        have hop : putN F (partL s F N) (clearL (partL s F N) (scanL (partL s F N)).2) false (N - (scanL (partL s F N)).2 / 32) ((scanL (partL s F N)).2 / 32) s = openP s F N := rfl
        rw [hop] at hs6 ⊢
        have ho16 : Only [b, g] h h6 := ((x1.trans x15).only _).trans ho6
        simp (disch := first | assumption | (with_reducible exact Ext.refl _) | (with_reducible exact Keep.refl _ _) | (with_reducible exact Eq.refl _) | (intro _ he; cases he; assumption) | (intro _ he; with_reducible apply keep_cell' he; assumption; simp; done) | (intro _ he; with_reducible apply ext_cell' he; assumption; done) | (with_reducible first | exact pl_int _ _ | exact pl_byte _ | exact pl_u32 _ | exact pl_bool _ | exact pl_ptr _ | exact pl_slice _ _ _ | exact pl_map _ | exact pl_str _ | exact pl_func _ _ _) | ((rw [okW_setH]; repeat rw [okW_setH]); assumption) | ((with_reducible refine cellH_setH_same ?_ _); (repeat rw [okW_setH]); assumption) | ((rw [cellH_setH_off]; rotate_left; focus decide); (repeat (rw [cellH_setH_off]; rotate_left; focus decide)); first | assumption | ((with_reducible refine cellH_setH_same ?_ _); (repeat rw [okW_setH]); assumption)) | omega) only [↓hpR, ↓nilC_ptr, ↓nilC_func, ↓condP_true, ↓condP_false, ↓condP_bool, ↓guardP_true, ↓guardP_false, ↓guardP_bool_t, ↓guardP_bool_f, ↓skipP_undef, ↓pickP_bool, ↓b_add, ↓b_sub, ↓b_mul, ↓b_quo, ↓b_rem, ↓b_lss, ↓b_leq, ↓b_gtr, ↓b_geq, ↓b_eql, ↓b_neq, ↓u_not, ↓s_add, ↓s_eql, ↓s_neq, ↓i_max2, ↓i_min2, ↓x20, ↓x21, ↓x30, ↓x31, ↓x32, ↓q_b_add, ↓q_b_sub, ↓q_b_mul, ↓q_b_quo, ↓q_b_rem, ↓q_b_lss, ↓q_b_leq, ↓q_b_gtr, ↓q_b_geq, ↓q_b_eql, ↓q_b_neq, ↓q_u_not, ↓q_s_add, ↓q_s_eql, ↓q_s_neq, ↓q_i_max2, ↓q_i_min2, ↓q_x20, ↓q_x21, ↓q_x30, ↓q_x31, ↓q_x32, ↓m_box, decide_true, decide_false, tt_and, ff_and, Nat.zero_add, Int.toNat_natCast, cells_agg, cells_bool, cells_int, cells_str, cells_ptr, cells_slice, ↓qend_eq, ↓jump_none, ↓jump_ret, ↓jump_exit, ↓marks_one, cond_true, cond_false, Bool.not_true, Bool.not_false]
        refine ⟨fun he => ?_, fun he => ?_⟩
        · exact herr hb' (by simpa using he) h6 hs6 ho16
        · have he' : (openP s F N).1 = 0 := by simpa using he
          have p6 : h6[h.size]? = some (partObj b F N) := ho6.at (x15.at p1) (by simp; omega)
          have x13 : Ext h h3 := (x1.trans x2).trans x3
          have ho5 : Own h6 h.size 9 1 v (scanL (partL s F N)).1.length (strs (scanL (partL s F N)).1) := ((ho.ext x5).low x13.size).only ho6 fun k hk => by have := (ho.ge k hk).1; have := x13.size; simp; omega
          refine Quiet_keep [h.size] ?_
          rw [q_part_load (Keep.refl _ _) (fun h' he => (he h.size (by simp)).trans p6)]
          unfold partV
          rw [qbd74_0_1_2 (Keep.refl _ _) ho.plain rfl]
          simp only [cells_agg]
          have hob : Obj.cells #[.pointer (some ⟨b, 0, none⟩), .int .i64 (F : Int), .int .i64 (N : Int), v, .int .i64 ((scanL (partL s F N)).2 : Int), .bool false] 74 (0, 0) =
            .cells #[.pointer (some ⟨b, 0, none⟩), .int .i64 ((jr0 s F N).f : Int), .int .i64 ((jr0 s F N).n : Int), v, .int .i64 ((jr0 s F N).e : Int), .bool (jr0 s F N).down] 74 (0, 0) := rfl
          rw [hob]
          have hl16 : (scanL (partL s F N)).1.length * 16 ≤ 140737488355328 := by omega
          have hz6 : h.size ≤ h6.size := ho16.size
          have mk : ∀ h7 : Heap, Own h7 h.size 9 1 v (scanL (partL s F N)).1.length (strs (scanL (partL s F N)).1) → ∀ jb, jb ∉ blk v → h7[jb]? = some (.cells #[.pointer (some ⟨b, 0, none⟩), .int .i64 ((jr0 s F N).f : Int), .int .i64 ((jr0 s F N).n : Int), v, .int .i64 ((jr0 s F N).e : Int), .bool (jr0 s F N).down] 74 (0, 0)) → JAt h7 jb b (jr0 s F N) v :=
            fun h7 hO jb hne hat => ⟨hat, hO.low (Nat.zero_le _), hne, hsc, by show (scanL (partL s F N)).2 ≤ 32 * N; omega⟩
          have hvb : ∀ k ∈ blk v, h.size ≤ k ∧ k < h6.size := fun k hk => ho5.ge k hk
          refine ⟨⟨?_, ?_⟩, ?_⟩
          · exact keep_one p6 (push_old p6 _)
          · have hx7 := (Ext.refl h6).push (.cells #[.pointer (some ⟨b, 0, none⟩), .int .i64 ((jr0 s F N).f : Int), .int .i64 ((jr0 s F N).n : Int), v, .int .i64 ((jr0 s F N).e : Int), .bool (jr0 s F N).down] 74 (0, 0))
            have hj7 := push_new h6 (.cells #[.pointer (some ⟨b, 0, none⟩), .int .i64 ((jr0 s F N).f : Int), .int .i64 ((jr0 s F N).n : Int), v, .int .i64 ((jr0 s F N).e : Int), .bool (jr0 s F N).down] 74 (0, 0))
            refine clone_spec (ho5.ext hx7) hl16 fun h8 v2 hx8 hv2 => ⟨keep_one p6 ((hx7.trans hx8).at p6), ?_⟩
            refine hk hb' he' h8 h6.size v v2 ((hs6.ext hx7).ext hx8) (ho16.trans ((hx7.trans hx8).only _)) (mk h8 (ho5.ext (hx7.trans hx8)) h6.size (fun hm => by have := hvb _ hm; omega) (hx8.at hj7)) hz6 (fun k hk => (hvb k hk).1) (fun k h2 hv => by have q1 := (hv2.ge k h2).1; have q2 := (hvb k hv).2; have q3 := hx7.size; omega) ?_
            exact hv2.low (by have := hx7.size; omega)
          · refine clone_spec ho5 hl16 fun h8 v2 hx8 hv2 => ⟨keep_one p6 (hx8.at p6), keep_one p6 (push_old (hx8.at p6) _), ?_⟩
            have hx9 := (Ext.refl h8).push (.cells #[.pointer (some ⟨b, 0, none⟩), .int .i64 ((jr0 s F N).f : Int), .int .i64 ((jr0 s F N).n : Int), v, .int .i64 ((jr0 s F N).e : Int), .bool (jr0 s F N).down] 74 (0, 0))
            have hj9 := push_new h8 (.cells #[.pointer (some ⟨b, 0, none⟩), .int .i64 ((jr0 s F N).f : Int), .int .i64 ((jr0 s F N).n : Int), v, .int .i64 ((jr0 s F N).e : Int), .bool (jr0 s F N).down] 74 (0, 0))
            have hz8 := hx8.size
            refine hk hb' he' _ h8.size v v2 ((hs6.ext hx8).ext hx9) (ho16.trans ((hx8.trans hx9).only _)) (mk _ (ho5.ext (hx8.trans hx9)) h8.size (fun hm => by have := hvb _ hm; omega) hj9) (by omega) (fun k hk => (hvb k hk).1) (fun k h2 hv => by have q1 := (hv2.ge k h2).1; have q2 := (hvb k hv).2; omega) ?_
            exact (hv2.ext hx9).low (by omega)

theorem open_spec {h : Heap} {b g : Nat} {s : Sto} (hs : StoreAt h b g s) {K : Value → Heap → Prop}
    (herr : (openP s 0 s.n).1 ≠ 0 → ∀ h', StoreAt h' b g (openP s 0 s.n).2 → Only [b, g] h h' → K (.tuple #[.pointer none, .slice none 0 0, .int .i64 (openP s 0 s.n).1]) h')
    (hk : (openP s 0 s.n).1 = 0 → ∀ h' jb v v2, StoreAt h' b g (openP s 0 s.n).2 → Only [b, g] h h' → JAt h' jb b (jr0 s 0 s.n) v → h.size ≤ jb → (∀ k ∈ blk v, h.size ≤ k) → (∀ k ∈ blk v2, k ∉ blk v) →
      Own h' h.size 9 1 v2 (jr0 s 0 s.n).l.length (strs (jr0 s 0 s.n).l) → K (.tuple #[.pointer (some ⟨jb, 0, none⟩), v2, .int .i64 0]) h') :
    CallF Try.prog 8 #[.pointer (some ⟨b, 0, none⟩)] h K := by
  apply S8
  unfold F8
  obtain ⟨ok1, ok2, ok3, ok4, ok5, ok6⟩ := hs.ok
  simp (disch := first | assumption | (with_reducible exact Ext.refl _) | (with_reducible exact Keep.refl _ _) | (with_reducible exact Eq.refl _) | (intro _ he; cases he; assumption) | (intro _ he; with_reducible apply keep_cell' he; assumption; simp; done) | (intro _ he; with_reducible apply ext_cell' he; assumption; done) | (with_reducible first | exact pl_int _ _ | exact pl_byte _ | exact pl_u32 _ | exact pl_bool _ | exact pl_ptr _ | exact pl_slice _ _ _ | exact pl_map _ | exact pl_str _ | exact pl_func _ _ _) | ((rw [okW_setH]; repeat rw [okW_setH]); assumption) | ((with_reducible refine cellH_setH_same ?_ _); (repeat rw [okW_setH]); assumption) | ((rw [cellH_setH_off]; rotate_left; focus decide); (repeat (rw [cellH_setH_off]; rotate_left; focus decide)); first | assumption | ((with_reducible refine cellH_setH_same ?_ _); (repeat rw [okW_setH]); assumption)) | omega) only [↓hpR, ↓nilC_ptr, ↓nilC_func, ↓condP_true, ↓condP_false, ↓condP_bool, ↓guardP_true, ↓guardP_false, ↓guardP_bool_t, ↓guardP_bool_f, ↓skipP_undef, ↓pickP_bool, ↓b_add, ↓b_sub, ↓b_mul, ↓b_quo, ↓b_rem, ↓b_lss, ↓b_leq, ↓b_gtr, ↓b_geq, ↓b_eql, ↓b_neq, ↓u_not, ↓s_add, ↓s_eql, ↓s_neq, ↓i_max2, ↓i_min2, ↓x20, ↓x21, ↓x30, ↓x31, ↓x32, ↓q_b_add, ↓q_b_sub, ↓q_b_mul, ↓q_b_quo, ↓q_b_rem, ↓q_b_lss, ↓q_b_leq, ↓q_b_gtr, ↓q_b_geq, ↓q_b_eql, ↓q_b_neq, ↓q_u_not, ↓q_s_add, ↓q_s_eql, ↓q_s_neq, ↓q_i_max2, ↓q_i_min2, ↓q_x20, ↓q_x21, ↓q_x30, ↓q_x31, ↓q_x32, ↓m_box, decide_true, decide_false, tt_and, ff_and, Nat.zero_add, Int.toNat_natCast, cells_agg, cells_bool, cells_int, cells_str, cells_ptr, cells_slice, ↓qend_eq, ↓jump_none, ↓jump_ret, ↓jump_exit, ↓marks_one, cond_true, cond_false, Bool.not_true, Bool.not_false, Option.isNone_some]
  refine blocks_spec hs ?_
  have hb : partB s 0 (s.n : Int) = true := by simp [partB]; omega
  refine part_spec hs 0 (s.n : Int) (fun h => by rw [hb] at h; cases h) (fun _ he h' hs' ho' => ?_) (fun _ he h' jb v v2 hs' ho' hj h1 h2 hd h3 => ?_)
  · simp (disch := first | assumption | (with_reducible exact Ext.refl _) | (with_reducible exact Keep.refl _ _) | (with_reducible exact Eq.refl _) | (intro _ he; cases he; assumption) | (intro _ he; with_reducible apply keep_cell' he; assumption; simp; done) | (intro _ he; with_reducible apply ext_cell' he; assumption; done) | (with_reducible first | exact pl_int _ _ | exact pl_byte _ | exact pl_u32 _ | exact pl_bool _ | exact pl_ptr _ | exact pl_slice _ _ _ | exact pl_map _ | exact pl_str _ | exact pl_func _ _ _) | ((rw [okW_setH]; repeat rw [okW_setH]); assumption) | ((with_reducible refine cellH_setH_same ?_ _); (repeat rw [okW_setH]); assumption) | ((rw [cellH_setH_off]; rotate_left; focus decide); (repeat (rw [cellH_setH_off]; rotate_left; focus decide)); first | assumption | ((with_reducible refine cellH_setH_same ?_ _); (repeat rw [okW_setH]); assumption)) | omega) only [↓hpR, ↓nilC_ptr, ↓nilC_func, ↓condP_true, ↓condP_false, ↓condP_bool, ↓guardP_true, ↓guardP_false, ↓guardP_bool_t, ↓guardP_bool_f, ↓skipP_undef, ↓pickP_bool, ↓b_add, ↓b_sub, ↓b_mul, ↓b_quo, ↓b_rem, ↓b_lss, ↓b_leq, ↓b_gtr, ↓b_geq, ↓b_eql, ↓b_neq, ↓u_not, ↓s_add, ↓s_eql, ↓s_neq, ↓i_max2, ↓i_min2, ↓x20, ↓x21, ↓x30, ↓x31, ↓x32, ↓q_b_add, ↓q_b_sub, ↓q_b_mul, ↓q_b_quo, ↓q_b_rem, ↓q_b_lss, ↓q_b_leq, ↓q_b_gtr, ↓q_b_geq, ↓q_b_eql, ↓q_b_neq, ↓q_u_not, ↓q_s_add, ↓q_s_eql, ↓q_s_neq, ↓q_i_max2, ↓q_i_min2, ↓q_x20, ↓q_x21, ↓q_x30, ↓q_x31, ↓q_x32, ↓m_box, decide_true, decide_false, tt_and, ff_and, Nat.zero_add, Int.toNat_natCast, cells_agg, cells_bool, cells_int, cells_str, cells_ptr, cells_slice, ↓qend_eq, ↓jump_none, ↓jump_ret, ↓jump_exit, ↓marks_one, cond_true, cond_false, Bool.not_true, Bool.not_false]
    exact herr he h' hs' ho'
  · simp (disch := first | assumption | (with_reducible exact Ext.refl _) | (with_reducible exact Keep.refl _ _) | (with_reducible exact Eq.refl _) | (intro _ he; cases he; assumption) | (intro _ he; with_reducible apply keep_cell' he; assumption; simp; done) | (intro _ he; with_reducible apply ext_cell' he; assumption; done) | (with_reducible first | exact pl_int _ _ | exact pl_byte _ | exact pl_u32 _ | exact pl_bool _ | exact pl_ptr _ | exact pl_slice _ _ _ | exact pl_map _ | exact pl_str _ | exact pl_func _ _ _) | ((rw [okW_setH]; repeat rw [okW_setH]); assumption) | ((with_reducible refine cellH_setH_same ?_ _); (repeat rw [okW_setH]); assumption) | ((rw [cellH_setH_off]; rotate_left; focus decide); (repeat (rw [cellH_setH_off]; rotate_left; focus decide)); first | assumption | ((with_reducible refine cellH_setH_same ?_ _); (repeat rw [okW_setH]); assumption)) | omega) only [↓hpR, ↓nilC_ptr, ↓nilC_func, ↓condP_true, ↓condP_false, ↓condP_bool, ↓guardP_true, ↓guardP_false, ↓guardP_bool_t, ↓guardP_bool_f, ↓skipP_undef, ↓pickP_bool, ↓b_add, ↓b_sub, ↓b_mul, ↓b_quo, ↓b_rem, ↓b_lss, ↓b_leq, ↓b_gtr, ↓b_geq, ↓b_eql, ↓b_neq, ↓u_not, ↓s_add, ↓s_eql, ↓s_neq, ↓i_max2, ↓i_min2, ↓x20, ↓x21, ↓x30, ↓x31, ↓x32, ↓q_b_add, ↓q_b_sub, ↓q_b_mul, ↓q_b_quo, ↓q_b_rem, ↓q_b_lss, ↓q_b_leq, ↓q_b_gtr, ↓q_b_geq, ↓q_b_eql, ↓q_b_neq, ↓q_u_not, ↓q_s_add, ↓q_s_eql, ↓q_s_neq, ↓q_i_max2, ↓q_i_min2, ↓q_x20, ↓q_x21, ↓q_x30, ↓q_x31, ↓q_x32, ↓m_box, decide_true, decide_false, tt_and, ff_and, Nat.zero_add, Int.toNat_natCast, cells_agg, cells_bool, cells_int, cells_str, cells_ptr, cells_slice, ↓qend_eq, ↓jump_none, ↓jump_ret, ↓jump_exit, ↓marks_one, cond_true, cond_false, Bool.not_true, Bool.not_false]
    exact hk he h' jb v v2 hs' ho' hj h1 h2 hd h3
theorem open_nil {h : Heap} {K : Value → Heap → Prop} (hk : K (.tuple #[.pointer none, .slice none 0 0, .int .i64 1]) h) : CallF Try.prog 8 #[.pointer none] h K := by
  apply S8
  unfold F8
  simp (disch := first | assumption | (with_reducible exact Ext.refl _) | (with_reducible exact Keep.refl _ _) | (with_reducible exact Eq.refl _) | (intro _ he; cases he; assumption) | (intro _ he; with_reducible apply keep_cell' he; assumption; simp; done) | (intro _ he; with_reducible apply ext_cell' he; assumption; done) | (with_reducible first | exact pl_int _ _ | exact pl_byte _ | exact pl_u32 _ | exact pl_bool _ | exact pl_ptr _ | exact pl_slice _ _ _ | exact pl_map _ | exact pl_str _ | exact pl_func _ _ _) | ((rw [okW_setH]; repeat rw [okW_setH]); assumption) | ((with_reducible refine cellH_setH_same ?_ _); (repeat rw [okW_setH]); assumption) | ((rw [cellH_setH_off]; rotate_left; focus decide); (repeat (rw [cellH_setH_off]; rotate_left; focus decide)); first | assumption | ((with_reducible refine cellH_setH_same ?_ _); (repeat rw [okW_setH]); assumption)) | omega) only [↓hpR, ↓nilC_ptr, ↓nilC_func, ↓condP_true, ↓condP_false, ↓condP_bool, ↓guardP_true, ↓guardP_false, ↓guardP_bool_t, ↓guardP_bool_f, ↓skipP_undef, ↓pickP_bool, ↓b_add, ↓b_sub, ↓b_mul, ↓b_quo, ↓b_rem, ↓b_lss, ↓b_leq, ↓b_gtr, ↓b_geq, ↓b_eql, ↓b_neq, ↓u_not, ↓s_add, ↓s_eql, ↓s_neq, ↓i_max2, ↓i_min2, ↓x20, ↓x21, ↓x30, ↓x31, ↓x32, ↓q_b_add, ↓q_b_sub, ↓q_b_mul, ↓q_b_quo, ↓q_b_rem, ↓q_b_lss, ↓q_b_leq, ↓q_b_gtr, ↓q_b_geq, ↓q_b_eql, ↓q_b_neq, ↓q_u_not, ↓q_s_add, ↓q_s_eql, ↓q_s_neq, ↓q_i_max2, ↓q_i_min2, ↓q_x20, ↓q_x21, ↓q_x30, ↓q_x31, ↓q_x32, ↓m_box, decide_true, decide_false, tt_and, ff_and, Nat.zero_add, Int.toNat_natCast, cells_agg, cells_bool, cells_int, cells_str, cells_ptr, cells_slice, ↓qend_eq, ↓jump_none, ↓jump_ret, ↓jump_exit, ↓marks_one, cond_true, cond_false, Bool.not_true, Bool.not_false, Option.isNone_none]
  exact hk
end Go.Proofs.Ytoefeflmcggbkaa
