/- Own: the reference's copy of a flat graph. -/
import Derived.Test.YtopflbjjbindkaaN12
import Derived.Test.YtopflbjjbindkaaN14
set_option linter.unusedVariables false
set_option linter.unusedSimpArgs false
namespace Go.Proofs.Ytopflbjjbindkaa
open Go.Hp Go.RowKit

theorem info67 : (Try.prog.info? 67).map (fun i => (i.zero, i.size, i.bytes)) = some (some (.agg #[.int .i64 0, .int .i64 0, .int .i64 0, .int .i64 0]), 4, 32) := by kernel_rfl
abbrev OwnR (h : Heap) (B : Nat) (v : Value) (l : List TieT) : Prop := Own h B 67 4 v l.length (l.flatMap TieT.cs)
theorem opR {g : Heap} {B : Nat} {v : Value} {l : List TieT} {t : TieT} {c : Nat} (own : OwnR g B v l) (p : g[c]? = some (.cells (TieT.cs t).toArray 67 (0, 0))) (hl : l.length ≤ 1000) (hB : B ≤ g.size) {K : Value → Heap → Prop}
    (hk : ∀ g' v', OwnR g' B v' (l ++ [t]) → Only (blk v) g g' → K v' g') : OpN Try.prog (Go.builtin .append #[28, 28] 28 #[false, false] #[v, .slice (some ⟨c, 0, none⟩) 1 1]) g K :=
  appendR 4 TieT.cs (fun _ => rfl) (by omega) tie_pl Try.underlying28 info67 rfl own (slR_flat 4 TieT.cs (fun _ => rfl) (l := [t]) p (by simp)) (by simp; omega) (by simp; omega) hB fun g' v' h1 h2 _ => hk g' v' h1 h2
theorem ownT_spec {h : Heap} {ve vt : Value} {f : FlatT} (F : FlatAt h ve vt f) {K : Value → Heap → Prop} (hk : ∀ h' v', FlatAt h' ve v' f → Ext h h' → K (.agg #[ve, v']) h') : CallF Try.prog 9 #[.agg #[ve, vt]] h K := by
  apply S9
  unfold F9
  have hnt := F.nt
  refine box_step fun h1 x1 z1 p1 => ?_
  simp only [cells_agg] at p1
  obtain ⟨A, cap, hvt⟩ := F.ties.len
  have plE : plainV ve = true := SlR.plain F.ev
  have plT : plainV vt = true := SlR.plain F.ties
  rw [al30]
  have x2 := (Ext.refl h1).push (.cells #[.slice none 0 0, .slice none 0 0] 30 (0, 0))
  have p2 := push_new h1 (.cells #[.slice none 0 0, .slice none 0 0] 30 (0, 0))
  have z2 : (h1.push (.cells #[.slice none 0 0, .slice none 0 0] 30 (0, 0))).size = h1.size + 1 := by simp
  generalize h1.push (.cells #[.slice none 0 0, .slice none 0 0] 30 (0, 0)) = h2 at x2 p2 z2 ⊢
  have q2 := x2.at p1
  have c0 : cellH h2 h.size 0 = some ve := by rw [cellH_of q2]; rfl
  rw [fa25_0, ld22 c0, bd30_0 plE, al30]
  refine agg_store size30 rfl rfl (by intro u hu; simp at hu; rcases hu with rfl | rfl; exact plE; rfl) fun h3 x3 z3 p3 => ?_
  have q3 := x3.at q2
  have c1 : cellH h3 h.size 1 = some vt := by rw [cellH_of q3]; rfl
  rw [fa25_1, ld23 c1, hvt, ln23]
  obtain ⟨b3, hb3⟩ : ∃ b, h2.size = b := ⟨_, rfl⟩
  rw [hb3] at p3 ⊢
  have hb1 : h.size < b3 := by omega
  have hb2 : h1.size < b3 := by omega
  refine ⟨fun x hh => ∃ (i : Nat) (v : Value), x = .int .i64 (i : Int) ∧ i ≤ f.ties.length ∧ Ext h2 hh ∧ hh[b3]? = some (.cells #[ve, v] 30 (0, 0)) ∧ OwnR hh (b3 + 1) v (f.ties.take i), fun x hh => match x with | .int _ i => f.ties.length - i.toNat | _ => 0,
    ⟨0, _, rfl, Nat.zero_le _, x3, p3, Own.nil _ _ _ _⟩, ?_⟩
  rintro js x h4 ⟨i, v, rfl, hi, x4, p4, own4⟩
  rw [b_lss, condP_bool]
  have q4 := x4.at q2
  have x04 := (x1.trans x2).trans x4
  refine ⟨fun hlt => ?_, fun hge => ?_⟩
  · have hlt' : i < f.ties.length := by simpa using hlt
    refine Join0.intro (fun hh => ∃ v', Ext h2 hh ∧ hh[b3]? = some (.cells #[ve, v'] 30 (0, 0)) ∧ OwnR hh (b3 + 1) v' (f.ties.take (i + 1))) (fun J hJ => ?_) (fun h5 hM => ?_)
    · obtain ⟨b', o, cap', hvt', hrow⟩ := F.tie hlt'
      obtain ⟨t, hti⟩ : ∃ t, f.ties[i] = t := ⟨_, rfl⟩
      rw [hti] at hrow
      have hrow4 := hrow.ext x04
      have hbb : b' < h4.size := cellH_lt (hrow4 0 _ rfl)
      have hb3s : b3 < h4.size := lt_of_at p4
      have hb3' : b' < h.size := cellH_lt (hrow 0 _ rfl)
      have htk : f.ties.take (i + 1) = f.ties.take i ++ [t] := by rw [List.take_add_one, List.getElem?_eq_getElem hlt', hti]; rfl
      have hl4 : (f.ties.take i).length ≤ 1000 := by simp; omega
      refine Quiet_keep [h.size, b'] ?_
      have hC := Keep.refl [h.size, b'] h4
      have hS : ∀ {g : Heap}, Ext h4 g → Keep [h.size, b'] h4 g := fun x => keep_ext x (by simp; omega)
      have d1 : cellH h4 h.size 1 = some vt := by rw [cellH_of q4]; rfl
      have hr : ∀ h', Keep [h.size, b'] h4 h' → RowAt h' b' (o + i * 4) (TieT.cs t) := fun h' he j u hu => keep_cell' he (hrow4 j u hu) (by simp)
      rw [qfa30_1 hC, qfa25_1 hC, qld23 hC (fun h' he => keep_cell' he d1 (by simp)), hvt', qix23 hC _ _ _ _ _ (by omega) (by omega), Int.toNat_natCast, q_m_loadRow hC Try.underlying48 rfl size48 (xs := TieT.cs t) rfl hr]
      have w3 : ∀ {g : Heap} {u : Value}, g[b3]? = some (.cells #[ve, u] 30 (0, 0)) → okW g b3 (0 + 1) = true := fun p => okW_of p (by simp)
      have hfin : ∀ {g5 g6 : Heap} {c : Nat} {v6 : Value}, Ext h4 g5 → g5[b3]? = some (.cells #[ve, v] 30 (0, 0)) → OwnR g6 (b3 + 1) v6 (f.ties.take i ++ [t]) → Only (blk v) g5 g6 →
          Keep [h.size, b'] h4 g6 ∧ QV Try.prog (Keep [h.size, b'] h4) (Instr.fieldAt 30 (.pointer (some ⟨b3, 0, none⟩)) 1) fun t23 => RunU Try.prog (Instr.storeAt 28 t23 v6) g6 fun h_18 => Keep [h.size, b'] h4 h_18 ∧ J h_18 := by
        intro g5 g6 c v6 x5 p5 own6 o6
        have hbv : ∀ k ∈ blk v, b3 + 1 ≤ k := fun k hk => (own4.ge k hk).1
        have x46 : Ext h2 g6 := Only.fresh (x4.trans x5) o6 (fun k hk => by have := hbv k hk; omega)
        have hb3v : b3 ∉ blk v := fun hm => by have := hbv _ hm; omega
        have p6 := o6.at p5 hb3v
        have k56 : Keep [h.size, b'] h4 g6 := (hS x5).trans (keep_of o6 (by have := x5.size; simp; omega) (fun k hk hm => by have := hbv k hm; simp at hk; omega))
        refine ⟨k56, ?_⟩
        rw [qfa30_1 hC, st28 own6.plain (w3 p6)]
        have o7 : Only [b3] g6 (setH g6 b3 (0 + 1) v6) := setH_only (Only.refl _ _) (.inl (by simp)) _ _
        have p7 := setH_at p6 (0 + 1) v6
        have z6 := x46.size
        refine ⟨k56.trans (keep_of o7 (by have := lt_of_at p6; simp; omega) (by simp; omega)), hJ _ ⟨v6, Only.fresh x46 o7 (by simp; omega), p7, ?_⟩⟩
        rw [htk]
        exact own6.only o7 (fun k hk => by have := (own6.ge k hk).1; simp; omega)
      have e3 : cellH h4 b3 (0 + 1) = some v := by rw [cellH_of p4]; rfl
      have hcs : ∀ {g : Heap} {K : Value → Heap → Prop}, (∀ g', g'[g.size]? = some (.cells (TieT.cs t).toArray 67 (0, 0)) → Ext g g' → g.size < g'.size → K (.slice (some ⟨g.size, 0, none⟩) 1 1) g') → RunV Try.prog (Instr.buildSlice 28 1 #[(0, .agg (TieT.cs t).toArray)]) g K := by
        intro g K hk
        show RunV Try.prog (Instr.buildSlice 28 1 #[(0, .agg #[.int .i64 t.kind, .int .i64 t.fr, .int .i64 t.to_, .int .i64 t.time])]) g K
        rw [bs28_1]
        exact hk _ (push_new _ _) ((Ext.refl g).push _) (by simp)
      refine ⟨?_, ?_⟩
      · rw [ld28 e3]
        refine ⟨hC, hcs fun g5 p5 x5 z5 => ?_⟩
        refine ⟨hS x5, opR (own4.ext x5) p5 hl4 (by have := x5.size; omega) fun g6 v6 own6 o6 => ?_⟩
        exact hfin (c := 0) x5 (x5.at p4) own6 o6
      · refine hcs fun g5 p5 x5 z5 => ?_
        refine ⟨hS x5, ?_⟩
        rw [ld28 (cellH_ext x5 e3)]
        refine ⟨hS x5, opR (own4.ext x5) p5 hl4 (by have := x5.size; omega) fun g6 v6 own6 o6 => ?_⟩
        exact hfin (c := 0) x5 (x5.at p4) own6 o6
    · obtain ⟨v', x5, p5, own5⟩ := hM
      simp (disch := first | assumption | (with_reducible exact Ext.refl _) | (with_reducible exact Keep.refl _ _) | (with_reducible exact Eq.refl _) | (intro _ he; cases he; assumption) | (intro _ he; with_reducible apply keep_cell' he; assumption; simp; done) | (intro _ he; with_reducible apply ext_cell' he; assumption; done) | (with_reducible first | exact pl_int _ _ | exact pl_byte _ | exact pl_u32 _ | exact pl_bool _ | exact pl_ptr _ | exact pl_slice _ _ _ | exact pl_map _ | exact pl_str _ | exact pl_func _ _ _) | ((rw [okW_setH]; repeat rw [okW_setH]); assumption) | ((with_reducible refine cellH_setH_same ?_ _); (repeat rw [okW_setH]); assumption) | ((rw [cellH_setH_off]; rotate_left; focus decide); (repeat (rw [cellH_setH_off]; rotate_left; focus decide)); first | assumption | ((with_reducible refine cellH_setH_same ?_ _); (repeat rw [okW_setH]); assumption)) | omega) only [↓hpR, ↓nilC_ptr, ↓nilC_func, ↓condP_true, ↓condP_false, ↓condP_bool, ↓guardP_true, ↓guardP_false, ↓guardP_bool_t, ↓guardP_bool_f, ↓skipP_undef, ↓pickP_bool, ↓b_add, ↓b_sub, ↓b_mul, ↓b_quo, ↓b_rem, ↓b_lss, ↓b_leq, ↓b_gtr, ↓b_geq, ↓b_eql, ↓b_neq, ↓u_not, ↓s_add, ↓s_eql, ↓s_neq, ↓i_max2, ↓i_min2, ↓x20, ↓x21, ↓x30, ↓x31, ↓x32, ↓q_b_add, ↓q_b_sub, ↓q_b_mul, ↓q_b_quo, ↓q_b_rem, ↓q_b_lss, ↓q_b_leq, ↓q_b_gtr, ↓q_b_geq, ↓q_b_eql, ↓q_b_neq, ↓q_u_not, ↓q_s_add, ↓q_s_eql, ↓q_s_neq, ↓q_i_max2, ↓q_i_min2, ↓q_x20, ↓q_x21, ↓q_x30, ↓q_x31, ↓q_x32, ↓m_box, decide_true, decide_false, tt_and, ff_and, Nat.zero_add, Int.toNat_natCast, cells_agg, cells_bool, cells_int, cells_str, cells_ptr, cells_slice, ↓qend_eq, ↓jump_none, ↓jump_ret, ↓jump_exit, ↓marks_one, cond_true, cond_false, Bool.not_true, Bool.not_false]
      exact ⟨⟨i + 1, v', by simp, by omega, x5, p5, own5⟩, by omega⟩
  · have hi' : i = f.ties.length := by simp at hge; omega
    subst hi'
    rw [List.take_of_length_le (Nat.le_refl _)] at own4
    have pl := own4.plain
    rw [m_loadAgg Try.underlying30 rfl size30 p4 (by simp)]
    show RunU Try.prog (Instr.storeAt 30 (.pointer (some ⟨h1.size, 0, none⟩)) (.agg #[ve, v])) h4 _
    have p24 := x4.at p2
    rw [m_storeAgg size30 p24 rfl (by simp) (by simp [plE, pl])]
    have ew : writeAt #[Value.slice none 0 0, Value.slice none 0 0] 0 (#[ve, v] : Array Value).toList = #[ve, v] := rfl
    rw [ew]
    have p5 : (h4.setIfInBounds h1.size (.cells #[ve, v] 30 (0, 0)))[h1.size]? = some (.cells #[ve, v] 30 (0, 0)) := by rw [Array.getElem?_setIfInBounds_self_of_lt (lt_of_at p24)]
    have o5 : Only [h1.size] h4 (h4.setIfInBounds h1.size (.cells #[ve, v] 30 (0, 0))) := ⟨by simp, fun k hk hn => by rw [Array.getElem?_setIfInBounds_ne (by intro e; subst e; simp at hn)]⟩
    generalize h4.setIfInBounds h1.size (.cells #[ve, v] 30 (0, 0)) = h5 at p5 o5 ⊢
    rw [q_m_loadAgg (C := fun hr => hr = h5) (h0 := h5) rfl Try.underlying30 rfl size30 (fun h' (e : h' = h5) => by rw [e]; exact p5) (by simp)]
    have x5 : Ext h h5 := Only.fresh x04 o5 (by have := x1.size; simp; omega)
    refine hk h5 v ⟨F.ev.ext x5, own_slRc 4 TieT.cs (fun _ => rfl) (own4.only o5 (fun k hk => by have := (own4.ge k hk).1; simp; omega)), F.ne, F.nt⟩ x5
end Go.Proofs.Ytopflbjjbindkaa
