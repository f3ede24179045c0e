/- The law NeedsTells. -/
import Derived.Test.YtopflbjjbindkaaN18
set_option linter.unusedVariables false
set_option linter.unusedSimpArgs false
namespace Go.Proofs.Ytopflbjjbindkaa
open Go.Hp Go.RowKit

theorem tells_spec {h : Heap} {ve vt : Value} {f : FlatT} (at_ : Int) (he : SlR 6 (fun cs x => cs = EvT.cs x) h ve f.ev) (ht : SlR 4 (fun cs x => cs = TieT.cs x) h vt f.ties) {K : Value → Heap → Prop} (hk : ∀ h', Ext h h' → K (.bool true) h') : CallF Try.prog 3 #[.agg #[ve, vt], .int .i64 at_] h K := by
  apply S3
  unfold F3
  refine box_step fun h1 x1 z1 p1 => ?_
  simp only [cells_agg] at p1
  refine awake_spec fun h2 x2 => ?_
  have x02 := x1.trans x2
  rw [u_not, condP_bool]
  refine ⟨fun e => absurd e (by decide), fun _ => ?_⟩
  rw [m_loadAgg Try.underlying25 rfl size25 (x2.at p1) (by simp)]
  obtain ⟨A, ca, hve⟩ := SlR.len he
  obtain ⟨B, cb, hvt⟩ := SlR.len ht
  have plE : plainV ve = true := SlR.plain he
  have hlarge : ∀ {K : Value → Heap → Prop}, (∀ h', Ext h2 h' → K (.bool (largeB f.ev.length f.ties.length)) h') → CallF Try.prog 8 #[.agg (Array.extract #[ve, vt] 0 (0 + 2))] h2 K := fun hk => by
    rw [hve, hvt]
    exact large_spec hk
  refine hlarge fun h3 x3 => ?_
  have x03 := x02.trans x3
  cases hlb : largeB f.ev.length f.ties.length with
  | true =>
    rw [condP_bool]
    exact ⟨fun _ => hk h3 x03, fun e => by cases e⟩
  | false =>
    rw [condP_bool]
    refine ⟨fun e => (by cases e), fun _ => ?_⟩
    have hsm : f.ev.length ≤ 20 ∧ f.ties.length ≤ 150 := by
      unfold largeB at hlb
      simp at hlb
      omega
    have F : FlatAt h ve vt f := ⟨he, ht, by omega, by omega⟩
    have F3 := F.ext x03
    have p3 := (x2.trans x3).at p1
    rw [m_loadAgg Try.underlying25 rfl size25 p3 (by simp)]
    refine ownT_spec F3 fun h4 vt' R4 x4 => ?_
    have plT' : plainV vt' = true := SlR.plain R4.ties
    have p4 := x4.at p3
    rw [al30]
    refine agg_store size30 rfl rfl (by intro u hu; simp at hu; rcases hu with rfl | rfl; exact plE; exact plT') fun h5 x5 z5 p5 => ?_
    obtain ⟨b5, hb5⟩ : ∃ b, h4.size = b := ⟨_, rfl⟩
    rw [hb5] at p5 ⊢
    have r5 := x5.at p4
    have F5 := F3.ext (x4.trans x5)
    have R5 := R4.ext x5
    have x05 := (x03.trans x4).trans x5
    have l1 := lt_of_at r5
    have l2 := lt_of_at p5
    refine Quiet_keep [h.size, b5] ?_
    have hC := Keep.refl [h.size, b5] h5
    have u1 : ∀ h', Keep [h.size, b5] h5 h' → h'[h.size]? = some (.cells #[ve, vt] 25 (0, 0)) := fun h' he => keep_at he r5 (by simp)
    have u2 : ∀ h', Keep [h.size, b5] h5 h' → h'[b5]? = some (.cells #[ve, vt'] 30 (0, 0)) := fun h' he => keep_at he p5 (by simp)
    have hS : ∀ {g : Heap}, Ext h5 g → Keep [h.size, b5] h5 g := fun x => keep_ext x (by simp; omega)
    have g1 := placesL_length f (tellB at_)
    have g2 := placesL_length f (tellC at_)
    have n1 := idx_length f.ev.length (calledP f)
    have n2 := idx_length f.ev.length (excludedP f)
    -- blocks
    rw [q_m_loadAgg hC Try.underlying25 rfl size25 u1 (by simp), q_m_loadAgg hC Try.underlying30 rfl size30 u2 (by simp)]
    refine blocks_spec F5 at_ fun h6 v6 own6 x6 => ?_
    refine ⟨hS x6, rblocks_spec (R5.ext x6) at_ fun h7 v7 own7 x7 => ?_⟩
    have y7 := x6.trans x7
    rw [rblocks_eq] at own7
    refine ⟨hS y7, same_spec (OwnI.sl (own6.ext x7)) (OwnI.sl own7) (by unfold blocksL; omega) ?_⟩
    refine ⟨hS y7, ?_⟩
    rw [decide_eq_true rfl]
    show QV Try.prog _ _ _
    -- calls
    rw [q_m_loadAgg hC Try.underlying25 rfl size25 u1 (by simp), q_m_loadAgg hC Try.underlying30 rfl size30 u2 (by simp)]
    refine calls_spec (F5.ext y7) at_ fun h8 v8 own8 x8 => ?_
    have y8 := y7.trans x8
    refine ⟨hS y8, rcalls_spec (R5.ext y8) at_ fun h9 v9 own9 x9 => ?_⟩
    have y9 := y8.trans x9
    rw [rcalls_eq] at own9
    refine ⟨hS y9, same_spec (OwnI.sl (own8.ext x9)) (OwnI.sl own9) (by unfold callsL; omega) ?_⟩
    refine ⟨hS y9, ?_⟩
    rw [decide_eq_true rfl]
    show QV Try.prog _ _ _
    -- the net
    rw [q_m_loadAgg hC Try.underlying25 rfl size25 u1 (by simp), q_m_loadAgg hC Try.underlying30 rfl size30 u2 (by simp)]
    refine net_spec (F5.ext y9) fun h10 v10 N10 x10 => ?_
    have y10 := y9.trans x10
    refine ⟨hS y10, rnet_spec (R5.ext y10) fun h11 v11 N11 x11 => ?_⟩
    have y11 := y10.trans x11
    refine ⟨hS y11, all_spec (N10.ext x11) N11 (by rw [netL_length]; omega) (fun l hl => Nat.le_trans (net_rows f l hl) (by omega)) ?_⟩
    refine ⟨hS y11, ?_⟩
    show QV Try.prog _ _ _
    -- called
    rw [q_m_loadAgg hC Try.underlying25 rfl size25 u1 (by simp), q_m_loadAgg hC Try.underlying30 rfl size30 u2 (by simp)]
    refine called_spec (F5.ext y11) fun h12 v12 own12 x12 => ?_
    have y12 := y11.trans x12
    refine ⟨hS y12, rcalled_spec (R5.ext y12) fun h13 v13 own13 x13 => ?_⟩
    have y13 := y12.trans x13
    rw [rcalled_eq] at own13
    rw [calledL_eq] at own12
    refine ⟨hS y13, same_spec (OwnI.sl (own12.ext x13)) (OwnI.sl own13) (by omega) ?_⟩
    refine ⟨hS y13, ?_⟩
    rw [decide_eq_true rfl]
    show QV Try.prog _ _ _
    -- matters
    rw [q_m_loadAgg hC Try.underlying25 rfl size25 u1 (by simp), q_m_loadAgg hC Try.underlying30 rfl size30 u2 (by simp)]
    refine matters_spec (F5.ext y13) (by omega) fun h14 v14 P hP own14 x14 => ?_
    have y14 := y13.trans x14
    refine ⟨hS y14, rmatters_spec (R5.ext y14) (by omega) fun h15 v15 Q hQ own15 x15 => ?_⟩
    have y15 := y14.trans x15
    have ePQ : idx f.ev.length P = idx f.ev.length Q := idx_congr fun i hi => beq_of_iff ((hP i hi).trans (hQ i hi).symm)
    rw [← ePQ] at own15
    have n3 := idx_length f.ev.length P
    refine ⟨hS y15, same_spec (OwnI.sl (own14.ext x15)) (OwnI.sl own15) (by omega) ?_⟩
    refine ⟨hS y15, ?_⟩
    rw [decide_eq_true rfl]
    show QV Try.prog _ _ _
    -- excluded
    rw [q_m_loadAgg hC Try.underlying25 rfl size25 u1 (by simp), q_m_loadAgg hC Try.underlying30 rfl size30 u2 (by simp)]
    refine excluded_spec (F5.ext y15) fun h16 v16 own16 x16 => ?_
    have y16 := y15.trans x16
    refine ⟨hS y16, rexcluded_spec (R5.ext y16) fun h17 v17 own17 x17 => ?_⟩
    have y17 := y16.trans x17
    rw [rexcluded_eq] at own17
    rw [excludedL_eq] at own16
    refine ⟨hS y17, same_spec (OwnI.sl (own16.ext x17)) (OwnI.sl own17) (by omega) ?_⟩
    refine ⟨hS y17, ?_⟩
    rw [decide_eq_true rfl]
    show QV Try.prog _ _ _
    -- delay
    rw [q_m_loadAgg hC Try.underlying25 rfl size25 u1 (by simp), q_m_loadAgg hC Try.underlying30 rfl size30 u2 (by simp)]
    refine delay_spec (F5.ext y17) at_ fun h18 x18 => ?_
    have y18 := y17.trans x18
    refine ⟨hS y18, rdelay_spec (R5.ext y18) at_ fun h19 x19 => ?_⟩
    have y19 := y18.trans x19
    refine ⟨hS y19, ?_⟩
    simp (disch := first | assumption | (with_reducible exact Ext.refl _) | (with_reducible exact Keep.refl _ _) | (with_reducible exact Eq.refl _) | (intro _ he; cases he; assumption) | (intro _ he; with_reducible apply keep_cell' he; assumption; simp; done) | (intro _ he; with_reducible apply ext_cell' he; assumption; done) | (with_reducible first | exact pl_int _ _ | exact pl_byte _ | exact pl_u32 _ | exact pl_bool _ | exact pl_ptr _ | exact pl_slice _ _ _ | exact pl_map _ | exact pl_str _ | exact pl_func _ _ _) | ((rw [okW_setH]; repeat rw [okW_setH]); assumption) | ((with_reducible refine cellH_setH_same ?_ _); (repeat rw [okW_setH]); assumption) | ((rw [cellH_setH_off]; rotate_left; focus decide); (repeat (rw [cellH_setH_off]; rotate_left; focus decide)); first | assumption | ((with_reducible refine cellH_setH_same ?_ _); (repeat rw [okW_setH]); assumption)) | omega) only [↓hpR, ↓nilC_ptr, ↓nilC_func, ↓condP_true, ↓condP_false, ↓condP_bool, ↓guardP_true, ↓guardP_false, ↓guardP_bool_t, ↓guardP_bool_f, ↓skipP_undef, ↓pickP_bool, ↓b_add, ↓b_sub, ↓b_mul, ↓b_quo, ↓b_rem, ↓b_lss, ↓b_leq, ↓b_gtr, ↓b_geq, ↓b_eql, ↓b_neq, ↓u_not, ↓s_add, ↓s_eql, ↓s_neq, ↓i_max2, ↓i_min2, ↓x20, ↓x21, ↓x30, ↓x31, ↓x32, ↓q_b_add, ↓q_b_sub, ↓q_b_mul, ↓q_b_quo, ↓q_b_rem, ↓q_b_lss, ↓q_b_leq, ↓q_b_gtr, ↓q_b_geq, ↓q_b_eql, ↓q_b_neq, ↓q_u_not, ↓q_s_add, ↓q_s_eql, ↓q_s_neq, ↓q_i_max2, ↓q_i_min2, ↓q_x20, ↓q_x21, ↓q_x30, ↓q_x31, ↓q_x32, ↓m_box, decide_true, decide_false, tt_and, ff_and, Nat.zero_add, Int.toNat_natCast, cells_agg, cells_bool, cells_int, cells_str, cells_ptr, cells_slice, ↓qend_eq, ↓jump_none, ↓jump_ret, ↓jump_exit, ↓marks_one, cond_true, cond_false, Bool.not_true, Bool.not_false]
    exact hk _ (x05.trans y19)
end Go.Proofs.Ytopflbjjbindkaa
