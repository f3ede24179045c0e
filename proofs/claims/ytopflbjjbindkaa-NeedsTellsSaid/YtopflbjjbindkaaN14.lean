/- The reference's Delay, Net; All. -/
import Derived.Test.YtopflbjjbindkaaN13
set_option linter.unusedVariables false
set_option linter.unusedSimpArgs false
namespace Go.Proofs.Ytopflbjjbindkaa
open Go.Hp Go.RowKit

def delayC (n : Nat) (at_ m : Int) (t : TieT) : Bool := decide (t.kind = 1) && (decide (t.to_ = at_) && (decide (0 ≤ at_) && (decide (at_ < (n : Int)) && (decide (0 ≤ t.fr) && (decide (t.fr < (n : Int)) && decide (m < t.time))))))
theorem delay_step (f : FlatT) (at_ : Int) {i : Nat} {t : TieT} (h : f.ties[i]? = some t) : delayL f at_ (i + 1) = if delayC f.ev.length at_ (delayL f at_ i) t = true then t.time else delayL f at_ i := by
  obtain ⟨m, hm⟩ : ∃ m, delayL f at_ i = m := ⟨_, rfl⟩
  have e : delayL f at_ (i + 1) = if decide (t.kind = 1) && decide (t.to_ = at_) && twoB f.ev.length t then max m t.time else m := by
    rw [← hm]
    unfold delayL
    rw [List.take_add_one, h, List.foldl_append]
    rfl
  rw [e, hm]
  unfold delayC twoB
  simp only [Bool.and_eq_true, decide_eq_true_eq]
  split
  · split <;> omega
  · split <;> omega
theorem rdelay_spec {h : Heap} {ve vt : Value} {f : FlatT} (F : FlatAt h ve vt f) (at_ : Int) {K : Value → Heap → Prop} (hk : ∀ h', Ext h h' → K (.int .i64 (delayL f at_ f.ties.length)) h') : CallF Try.prog 25 #[.agg #[ve, vt], .int .i64 at_] h K := by
  apply S25
  unfold F25
  have hnt := F.nt
  have hne := F.ne
  refine box_step fun h1 x1 z1 p1 => ?_
  simp only [cells_agg] at p1
  obtain ⟨A, cap, hvt⟩ := F.ties.len
  obtain ⟨B, capE, hve⟩ := F.ev.len
  refine ⟨fun x y hh => ∃ i : Nat, y = .int .i64 (i : Int) ∧ i ≤ f.ties.length ∧ Ext h1 hh ∧ x = .int .i64 (delayL f at_ i), fun x y hh => match y with | .int _ i => f.ties.length - i.toNat | _ => 0, ⟨0, rfl, Nat.zero_le _, Ext.refl _, rfl⟩, ?_⟩
  rintro js x y h3 ⟨i, rfl, hi, x3, rfl⟩
  have p3 := x3.at p1
  have c1 : cellH h3 h.size 1 = some vt := by rw [cellH_of p3]; rfl
  simp (disch := first | assumption | (with_reducible exact Ext.refl _) | (with_reducible exact Keep.refl _ _) | (with_reducible exact Eq.refl _) | (intro _ he; cases he; assumption) | (intro _ he; with_reducible apply keep_cell' he; assumption; simp; done) | (intro _ he; with_reducible apply ext_cell' he; assumption; done) | (with_reducible first | exact pl_int _ _ | exact pl_byte _ | exact pl_u32 _ | exact pl_bool _ | exact pl_ptr _ | exact pl_slice _ _ _ | exact pl_map _ | exact pl_str _ | exact pl_func _ _ _) | ((rw [okW_setH]; repeat rw [okW_setH]); assumption) | ((with_reducible refine cellH_setH_same ?_ _); (repeat rw [okW_setH]); assumption) | ((rw [cellH_setH_off]; rotate_left; focus decide); (repeat (rw [cellH_setH_off]; rotate_left; focus decide)); first | assumption | ((with_reducible refine cellH_setH_same ?_ _); (repeat rw [okW_setH]); assumption)) | omega) only [↓hpR, ↓nilC_ptr, ↓nilC_func, ↓condP_true, ↓condP_false, ↓condP_bool, ↓guardP_true, ↓guardP_false, ↓guardP_bool_t, ↓guardP_bool_f, ↓skipP_undef, ↓pickP_bool, ↓b_add, ↓b_sub, ↓b_mul, ↓b_quo, ↓b_rem, ↓b_lss, ↓b_leq, ↓b_gtr, ↓b_geq, ↓b_eql, ↓b_neq, ↓u_not, ↓s_add, ↓s_eql, ↓s_neq, ↓i_max2, ↓i_min2, ↓x20, ↓x21, ↓x30, ↓x31, ↓x32, ↓q_b_add, ↓q_b_sub, ↓q_b_mul, ↓q_b_quo, ↓q_b_rem, ↓q_b_lss, ↓q_b_leq, ↓q_b_gtr, ↓q_b_geq, ↓q_b_eql, ↓q_b_neq, ↓q_u_not, ↓q_s_add, ↓q_s_eql, ↓q_s_neq, ↓q_i_max2, ↓q_i_min2, ↓q_x20, ↓q_x21, ↓q_x30, ↓q_x31, ↓q_x32, ↓m_box, decide_true, decide_false, tt_and, ff_and, Nat.zero_add, Int.toNat_natCast, cells_agg, cells_bool, cells_int, cells_str, cells_ptr, cells_slice, ↓qend_eq, ↓jump_none, ↓jump_ret, ↓jump_exit, ↓marks_one, cond_true, cond_false, Bool.not_true, Bool.not_false, hvt]
  refine ⟨fun hlt => ?_, fun hge => ?_⟩
  · have hlt' : i < f.ties.length := by simpa using hlt
    obtain ⟨b', o, cap', hvt', hrow⟩ := F.tie hlt'
    rw [hvt] at hvt'
    injection hvt' with q1 q2 q3
    subst q1
    obtain ⟨t, hti⟩ : ∃ t, f.ties[i] = t := ⟨_, rfl⟩
    rw [hti] at hrow
    have hstep := delay_step f at_ (i := i) (t := t) (by rw [List.getElem?_eq_getElem hlt', hti])
    simp (disch := first | assumption | (with_reducible exact Ext.refl _) | (with_reducible exact Keep.refl _ _) | (with_reducible exact Eq.refl _) | (intro _ he; cases he; assumption) | (intro _ he; with_reducible apply keep_cell' he; assumption; simp; done) | (intro _ he; with_reducible apply ext_cell' he; assumption; done) | (with_reducible first | exact pl_int _ _ | exact pl_byte _ | exact pl_u32 _ | exact pl_bool _ | exact pl_ptr _ | exact pl_slice _ _ _ | exact pl_map _ | exact pl_str _ | exact pl_func _ _ _) | ((rw [okW_setH]; repeat rw [okW_setH]); assumption) | ((with_reducible refine cellH_setH_same ?_ _); (repeat rw [okW_setH]); assumption) | ((rw [cellH_setH_off]; rotate_left; focus decide); (repeat (rw [cellH_setH_off]; rotate_left; focus decide)); first | assumption | ((with_reducible refine cellH_setH_same ?_ _); (repeat rw [okW_setH]); assumption)) | omega) only [↓hpR, ↓nilC_ptr, ↓nilC_func, ↓condP_true, ↓condP_false, ↓condP_bool, ↓guardP_true, ↓guardP_false, ↓guardP_bool_t, ↓guardP_bool_f, ↓skipP_undef, ↓pickP_bool, ↓b_add, ↓b_sub, ↓b_mul, ↓b_quo, ↓b_rem, ↓b_lss, ↓b_leq, ↓b_gtr, ↓b_geq, ↓b_eql, ↓b_neq, ↓u_not, ↓s_add, ↓s_eql, ↓s_neq, ↓i_max2, ↓i_min2, ↓x20, ↓x21, ↓x30, ↓x31, ↓x32, ↓q_b_add, ↓q_b_sub, ↓q_b_mul, ↓q_b_quo, ↓q_b_rem, ↓q_b_lss, ↓q_b_leq, ↓q_b_gtr, ↓q_b_geq, ↓q_b_eql, ↓q_b_neq, ↓q_u_not, ↓q_s_add, ↓q_s_eql, ↓q_s_neq, ↓q_i_max2, ↓q_i_min2, ↓q_x20, ↓q_x21, ↓q_x30, ↓q_x31, ↓q_x32, ↓m_box, decide_true, decide_false, tt_and, ff_and, Nat.zero_add, Int.toNat_natCast, cells_agg, cells_bool, cells_int, cells_str, cells_ptr, cells_slice, ↓qend_eq, ↓jump_none, ↓jump_ret, ↓jump_exit, ↓marks_one, cond_true, cond_false, Bool.not_true, Bool.not_false, hvt]
    refine Join1.intro (fun x hh => x = .int .i64 (delayL f at_ (i + 1)) ∧ Ext h1 hh) (fun J hJ => ?_) (fun x6 h6 hM => ?_)
    · rw [m_loadRow Try.underlying67 rfl size67 (xs := TieT.cs t) rfl ((hrow.ext x1).ext x3)]
      refine agg_store size67 rfl rfl (by simp [TieT.cs, plainV]) fun h5 x5 z5 p5 => ?_
      have d0 : cellH h5 h3.size 0 = some (.int .i64 t.kind) := by rw [cellH_of p5]; rfl
      have d1 : cellH h5 h3.size 1 = some (.int .i64 t.fr) := by rw [cellH_of p5]; rfl
      have d2 : cellH h5 h3.size 2 = some (.int .i64 t.to_) := by rw [cellH_of p5]; rfl
      have d3 : cellH h5 h3.size 3 = some (.int .i64 t.time) := by rw [cellH_of p5]; rfl
      have e0 : cellH h5 h.size 0 = some ve := by rw [cellH_of (x5.at p3)]; rfl
      have x35 := x3.trans x5
      refine Join1.intro (fun x hh => x = .bool (delayC f.ev.length at_ (delayL f at_ i) t) ∧ hh = h5) (fun J1 hJ1 => ?_) (fun x6 h6 hM => ?_)
      · simp (disch := first | assumption | (with_reducible exact Ext.refl _) | (with_reducible exact Keep.refl _ _) | (with_reducible exact Eq.refl _) | (intro _ he; cases he; assumption) | (intro _ he; with_reducible apply keep_cell' he; assumption; simp; done) | (intro _ he; with_reducible apply ext_cell' he; assumption; done) | (with_reducible first | exact pl_int _ _ | exact pl_byte _ | exact pl_u32 _ | exact pl_bool _ | exact pl_ptr _ | exact pl_slice _ _ _ | exact pl_map _ | exact pl_str _ | exact pl_func _ _ _) | ((rw [okW_setH]; repeat rw [okW_setH]); assumption) | ((with_reducible refine cellH_setH_same ?_ _); (repeat rw [okW_setH]); assumption) | ((rw [cellH_setH_off]; rotate_left; focus decide); (repeat (rw [cellH_setH_off]; rotate_left; focus decide)); first | assumption | ((with_reducible refine cellH_setH_same ?_ _); (repeat rw [okW_setH]); assumption)) | omega) only [↓hpR, ↓nilC_ptr, ↓nilC_func, ↓condP_true, ↓condP_false, ↓condP_bool, ↓guardP_true, ↓guardP_false, ↓guardP_bool_t, ↓guardP_bool_f, ↓skipP_undef, ↓pickP_bool, ↓b_add, ↓b_sub, ↓b_mul, ↓b_quo, ↓b_rem, ↓b_lss, ↓b_leq, ↓b_gtr, ↓b_geq, ↓b_eql, ↓b_neq, ↓u_not, ↓s_add, ↓s_eql, ↓s_neq, ↓i_max2, ↓i_min2, ↓x20, ↓x21, ↓x30, ↓x31, ↓x32, ↓q_b_add, ↓q_b_sub, ↓q_b_mul, ↓q_b_quo, ↓q_b_rem, ↓q_b_lss, ↓q_b_leq, ↓q_b_gtr, ↓q_b_geq, ↓q_b_eql, ↓q_b_neq, ↓q_u_not, ↓q_s_add, ↓q_s_eql, ↓q_s_neq, ↓q_i_max2, ↓q_i_min2, ↓q_x20, ↓q_x21, ↓q_x30, ↓q_x31, ↓q_x32, ↓m_box, decide_true, decide_false, tt_and, ff_and, Nat.zero_add, Int.toNat_natCast, cells_agg, cells_bool, cells_int, cells_str, cells_ptr, cells_slice, ↓qend_eq, ↓jump_none, ↓jump_ret, ↓jump_exit, ↓marks_one, cond_true, cond_false, Bool.not_true, Bool.not_false, hve]
        unfold delayC at hJ1
        refine ⟨fun e1 => ⟨fun e2 => ⟨fun e3 => ⟨fun e4 => ⟨fun e5 => ⟨fun e6 => ?_, fun e6 => ?_⟩, fun e5 => ?_⟩, fun e4 => ?_⟩, fun e3 => ?_⟩, fun e2 => ?_⟩, fun e1 => ?_⟩
        · exact hJ1 _ _ ⟨by rw [e1, e2, e3, e4, e5, e6]; rfl, rfl⟩
        · exact hJ1 _ _ ⟨by rw [e1, e2, e3, e4, e5, e6]; rfl, rfl⟩
        · exact hJ1 _ _ ⟨by rw [e1, e2, e3, e4, e5]; rfl, rfl⟩
        · exact hJ1 _ _ ⟨by rw [e1, e2, e3, e4]; rfl, rfl⟩
        · exact hJ1 _ _ ⟨by rw [e1, e2, e3]; rfl, rfl⟩
        · exact hJ1 _ _ ⟨by rw [e1, e2]; rfl, rfl⟩
        · exact hJ1 _ _ ⟨by rw [e1]; rfl, rfl⟩
      · obtain ⟨rfl, rfl⟩ := hM
        rw [condP_bool]
        refine ⟨fun e => ?_, fun e => ?_⟩
        · simp (disch := first | assumption | (with_reducible exact Ext.refl _) | (with_reducible exact Keep.refl _ _) | (with_reducible exact Eq.refl _) | (intro _ he; cases he; assumption) | (intro _ he; with_reducible apply keep_cell' he; assumption; simp; done) | (intro _ he; with_reducible apply ext_cell' he; assumption; done) | (with_reducible first | exact pl_int _ _ | exact pl_byte _ | exact pl_u32 _ | exact pl_bool _ | exact pl_ptr _ | exact pl_slice _ _ _ | exact pl_map _ | exact pl_str _ | exact pl_func _ _ _) | ((rw [okW_setH]; repeat rw [okW_setH]); assumption) | ((with_reducible refine cellH_setH_same ?_ _); (repeat rw [okW_setH]); assumption) | ((rw [cellH_setH_off]; rotate_left; focus decide); (repeat (rw [cellH_setH_off]; rotate_left; focus decide)); first | assumption | ((with_reducible refine cellH_setH_same ?_ _); (repeat rw [okW_setH]); assumption)) | omega) only [↓hpR, ↓nilC_ptr, ↓nilC_func, ↓condP_true, ↓condP_false, ↓condP_bool, ↓guardP_true, ↓guardP_false, ↓guardP_bool_t, ↓guardP_bool_f, ↓skipP_undef, ↓pickP_bool, ↓b_add, ↓b_sub, ↓b_mul, ↓b_quo, ↓b_rem, ↓b_lss, ↓b_leq, ↓b_gtr, ↓b_geq, ↓b_eql, ↓b_neq, ↓u_not, ↓s_add, ↓s_eql, ↓s_neq, ↓i_max2, ↓i_min2, ↓x20, ↓x21, ↓x30, ↓x31, ↓x32, ↓q_b_add, ↓q_b_sub, ↓q_b_mul, ↓q_b_quo, ↓q_b_rem, ↓q_b_lss, ↓q_b_leq, ↓q_b_gtr, ↓q_b_geq, ↓q_b_eql, ↓q_b_neq, ↓q_u_not, ↓q_s_add, ↓q_s_eql, ↓q_s_neq, ↓q_i_max2, ↓q_i_min2, ↓q_x20, ↓q_x21, ↓q_x30, ↓q_x31, ↓q_x32, ↓m_box, decide_true, decide_false, tt_and, ff_and, Nat.zero_add, Int.toNat_natCast, cells_agg, cells_bool, cells_int, cells_str, cells_ptr, cells_slice, ↓qend_eq, ↓jump_none, ↓jump_ret, ↓jump_exit, ↓marks_one, cond_true, cond_false, Bool.not_true, Bool.not_false]
          exact hJ _ _ ⟨by rw [hstep, if_pos e], x35⟩
        · exact hJ _ _ ⟨by rw [hstep, if_neg (by rw [e]; simp)], x35⟩
    · obtain ⟨rfl, q2⟩ := hM
      exact ⟨⟨i + 1, by simp, by omega, q2, rfl⟩, by omega⟩
  · have hi' : i = f.ties.length := by simp at hge; omega
    subst hi'
    exact hk h3 (x1.trans x3)

/-! ### Net -/
theorem info33 : (Try.prog.info? 33).map (fun i => (i.zero, i.size, i.bytes)) = some (some (.slice none 0 0), 1, 24) := by kernel_rfl
def rneedP (f : FlatT) (i j : Nat) : Bool := tiedB f 1 (j : Int) (i : Int) || (tiedB f 5 (j : Int) (i : Int) || tiedB f 2 (i : Int) (j : Int))
theorem rneed_eq {f : FlatT} {i j : Nat} (hi : i < f.ev.length) (hj : j < f.ev.length) : rneedP f i j = needP f i j := by
  have e : ∀ (p q : Bool), (p = true ↔ q = true) → p = q := fun p q h => by cases p <;> cases q <;> simp_all
  apply e
  unfold rneedP needP placesP tiedB tellB tellC isTie twoB
  simp only [Bool.or_eq_true, List.any_eq_true, Bool.and_eq_true, decide_eq_true_eq]
  constructor
  · rintro (⟨t, h1, h2, h3, h4⟩ | ⟨t, h1, h2, h3, h4⟩ | ⟨t, h1, h2, h3, h4⟩)
    · exact .inl ⟨t, h1, ⟨⟨h4, .inl h2⟩, by omega⟩, h3⟩
    · exact .inl ⟨t, h1, ⟨⟨h4, .inr h2⟩, by omega⟩, h3⟩
    · exact .inr ⟨t, h1, ⟨⟨h3, h2⟩, by omega⟩, h4⟩
  · rintro (⟨t, h1, ⟨⟨h2, h3⟩, h4⟩, h5⟩ | ⟨t, h1, ⟨⟨h2, h3⟩, h4⟩, h5⟩)
    · rcases h3 with h3 | h3
      · exact .inl ⟨t, h1, h3, h5, h2⟩
      · exact .inr (.inl ⟨t, h1, h3, h5, h2⟩)
    · exact .inr (.inr ⟨t, h1, h3, h2, h5⟩)
/-- A row of rows of one's own: 'bs': the blocks in which its rows lie. -/
structure OwnN (h : Heap) (B : Nat) (v : Value) (l : List (List Int)) : Prop where
  ex : ∃ ws : List Value, Own h B 33 1 v l.length ws ∧ ws.length = l.length ∧ ∀ (i : Nat) (w : Value) (x : List Int), ws[i]? = some w → l[i]? = some x → OwnI h B w x ∧ ∀ k ∈ blk w, k ∉ blk v
theorem OwnN.net {h : Heap} {B : Nat} {v : Value} {l : List (List Int)} (o : OwnN h B v l) : NetAt h v l := by
  obtain ⟨ws, o1, hl, h2⟩ := o.ex
  rcases o1.2 with ⟨rfl, h0⟩ | ⟨g, cap, cur, hv, hb, hg, h3, h4, h5, h6⟩
  · exact ⟨none, 0, by rw [h0], by omega, .inl rfl⟩
  · refine ⟨some ⟨g, 0, none⟩, cap, hv, h3, .inr ⟨g, 0, rfl, fun i x hx => ?_⟩⟩
    have hil : i < l.length := (List.getElem?_eq_some_iff.1 hx).1
    obtain ⟨w, hw⟩ : ∃ w, ws[i]? = some w := ⟨_, List.getElem?_eq_getElem (by omega)⟩
    refine ⟨[w], rfl, ⟨w, rfl, OwnI.sl (h2 i w x hw hx).1⟩, fun j u hj => ?_⟩
    have hj0 : j = 0 ∧ u = w := by
      cases j with
      | zero => exact ⟨rfl, by simpa using hj.symm⟩
      | succ j => simp at hj
    obtain ⟨rfl, rfl⟩ := hj0
    have e : 0 + i * 1 + 0 = i := by omega
    rw [cellH_of hg, e, ← Array.getElem?_toList]
    rw [← h6, List.getElem?_take] at hw
    split at hw
    · exact hw
    · cases hw
theorem OwnN.ext {h h' : Heap} {B : Nat} {v : Value} {l : List (List Int)} (o : OwnN h B v l) (x : Ext h h') : OwnN h' B v l := by
  obtain ⟨ws, o1, hl, h2⟩ := o.ex
  exact ⟨ws, o1.ext x, hl, fun i w y hw hy => ⟨(h2 i w y hw hy).1.ext x, (h2 i w y hw hy).2⟩⟩
theorem OwnN.low {h : Heap} {B B' : Nat} {v : Value} {l : List (List Int)} (o : OwnN h B v l) (x : B' ≤ B) : OwnN h B' v l := by
  obtain ⟨ws, o1, hl, h2⟩ := o.ex
  exact ⟨ws, o1.low x, hl, fun i w y hw hy => ⟨(h2 i w y hw hy).1.low x, (h2 i w y hw hy).2⟩⟩
theorem pushN {h0 h : Heap} {v w : Value} {l : List (List Int)} {y : List Int} (own : OwnN h h0.size v l) (ow : OwnI h h0.size w y) (hw : ∀ k ∈ blk w, k ∉ blk v) (hl : l.length ≤ 1000000) (x : Ext h0 h) {K : Value → Heap → Prop} (hk : ∀ h' v', OwnN h' h0.size v' (l ++ [y]) → Ext h0 h' → K v' h') :
    OpN Try.prog (Go.builtin .append #[37, 37] 37 #[false, false] #[v, .slice (some ⟨h.size, 0, none⟩) 1 1]) (h.push (.cells #[w] 33 (0, 0))) K := by
  obtain ⟨ws, o1, hl1, h2⟩ := own.ex
  have x7 := (Ext.refl h).push (.cells #[w] 33 (0, 0))
  have z := x.size
  have plw : plainV w = true := ow.plain
  refine o_append Try.underlying37 (z := .slice none 0 0) (size := 1) (bytes := 24) (e := 33) info33 rfl (by omega) _ _ (o1.ext x7) (m := 1) (news := [w]) rfl
    (fun i u hi => by rw [Nat.zero_add, cellH_push_new]; simpa using hi) (fun u hu => by simp only [List.mem_singleton] at hu; subst hu; exact plw) (by omega) (by omega) (by simp; omega) ?_
  intro v8 h8 own8 o8 _ hb8
  refine hk h8 v8 ⟨ws ++ [w], ?_, by simp [hl1], fun i u a hu ha => ?_⟩ (Only.fresh (x.trans x7) o8 (fun k hk => (o1.ge k hk).1))
  · rw [List.length_append]
    exact own8
  · have hrest : OwnI h h0.size u a ∧ ∀ k ∈ blk u, k ∉ blk v := by
      by_cases hi : i < l.length
      · rw [List.getElem?_append_left (by omega)] at hu
        rw [List.getElem?_append_left hi] at ha
        exact h2 i u a hu ha
      · have hie : i = l.length := by
          have := (List.getElem?_eq_some_iff.1 ha).1
          simp at this
          omega
        subst hie
        rw [List.getElem?_append_right (by omega)] at hu ha
        rw [hl1] at hu
        simp at hu ha
        subst hu ha
        exact ⟨ow, hw⟩
    refine ⟨(hrest.1.ext x7).only o8 hrest.2, fun k hku hkv => ?_⟩
    rcases hb8 k hkv with hkv | hkv
    · exact hrest.2 k hku hkv
    · have := (hrest.1.ge k hku).2
      simp at hkv
      omega
theorem ownN0 {h : Heap} {base : Nat} (hb : base ≤ h.size) : OwnN (h.push (.cells #[] 33 (0, 0))) base (.slice (some ⟨h.size, 0, none⟩) 0 0) [] :=
  ⟨[], ⟨rfl, .inr ⟨h.size, 0, _, rfl, hb, push_new _ _, Nat.le_refl _, Nat.zero_le _, rfl, rfl⟩⟩, rfl, fun i w x hw => by simp at hw⟩
def rnetL (f : FlatT) (n : Nat) : List (List Int) := (List.range n).map fun i => idx f.ev.length (rneedP f i)
theorem rnetL_eq (f : FlatT) : rnetL f f.ev.length = netL f := by
  unfold rnetL netL
  refine List.map_congr_left fun i hi => ?_
  rw [needsI_eq]
  exact idx_congr fun j hj => rneed_eq (by simpa using hi) hj
theorem rnet_spec {h : Heap} {ve vt : Value} {f : FlatT} (F : FlatAt h ve vt f) {K : Value → Heap → Prop} (hk : ∀ h' v, NetAt h' v (netL f) → Ext h h' → K v h') : CallF Try.prog 17 #[.agg #[ve, vt]] h K := by
  apply S17
  unfold F17
  have hne := F.ne
  refine box_step fun h1 x1 z1 p1 => ?_
  simp only [cells_agg] at p1
  obtain ⟨A, cap, hve⟩ := F.ev.len
  simp (disch := first | assumption | (with_reducible exact Ext.refl _) | (with_reducible exact Keep.refl _ _) | (with_reducible exact Eq.refl _) | (intro _ he; cases he; assumption) | (intro _ he; with_reducible apply keep_cell' he; assumption; simp; done) | (intro _ he; with_reducible apply ext_cell' he; assumption; done) | (with_reducible first | exact pl_int _ _ | exact pl_byte _ | exact pl_u32 _ | exact pl_bool _ | exact pl_ptr _ | exact pl_slice _ _ _ | exact pl_map _ | exact pl_str _ | exact pl_func _ _ _) | ((rw [okW_setH]; repeat rw [okW_setH]); assumption) | ((with_reducible refine cellH_setH_same ?_ _); (repeat rw [okW_setH]); assumption) | ((rw [cellH_setH_off]; rotate_left; focus decide); (repeat (rw [cellH_setH_off]; rotate_left; focus decide)); first | assumption | ((with_reducible refine cellH_setH_same ?_ _); (repeat rw [okW_setH]); assumption)) | omega) only [↓hpR, ↓nilC_ptr, ↓nilC_func, ↓condP_true, ↓condP_false, ↓condP_bool, ↓guardP_true, ↓guardP_false, ↓guardP_bool_t, ↓guardP_bool_f, ↓skipP_undef, ↓pickP_bool, ↓b_add, ↓b_sub, ↓b_mul, ↓b_quo, ↓b_rem, ↓b_lss, ↓b_leq, ↓b_gtr, ↓b_geq, ↓b_eql, ↓b_neq, ↓u_not, ↓s_add, ↓s_eql, ↓s_neq, ↓i_max2, ↓i_min2, ↓x20, ↓x21, ↓x30, ↓x31, ↓x32, ↓q_b_add, ↓q_b_sub, ↓q_b_mul, ↓q_b_quo, ↓q_b_rem, ↓q_b_lss, ↓q_b_leq, ↓q_b_gtr, ↓q_b_geq, ↓q_b_eql, ↓q_b_neq, ↓q_u_not, ↓q_s_add, ↓q_s_eql, ↓q_s_neq, ↓q_i_max2, ↓q_i_min2, ↓q_x20, ↓q_x21, ↓q_x30, ↓q_x31, ↓q_x32, ↓m_box, decide_true, decide_false, tt_and, ff_and, Nat.zero_add, Int.toNat_natCast, cells_agg, cells_bool, cells_int, cells_str, cells_ptr, cells_slice, ↓qend_eq, ↓jump_none, ↓jump_ret, ↓jump_exit, ↓marks_one, cond_true, cond_false, Bool.not_true, Bool.not_false]
  have own2 := ownN0 (Nat.le_refl h1.size)
  have x12 := (Ext.refl h1).push (.cells #[] 33 (0, 0))
  generalize h1.push (.cells #[] 33 (0, 0)) = h2 at x12 own2 ⊢
  refine ⟨fun x y hh => ∃ i : Nat, y = .int .i64 (i : Int) ∧ i ≤ f.ev.length ∧ Ext h1 hh ∧ OwnN hh h1.size x (rnetL f i), fun x y hh => match y with | .int _ i => f.ev.length - i.toNat | _ => 0, ⟨0, rfl, Nat.zero_le _, x12, own2⟩, ?_⟩
  rintro js x y h3 ⟨i, rfl, hi, x3, own⟩
  have p3 := x3.at p1
  have c0 : cellH h3 h.size 0 = some ve := by rw [cellH_of p3]; rfl
  simp (disch := first | assumption | (with_reducible exact Ext.refl _) | (with_reducible exact Keep.refl _ _) | (with_reducible exact Eq.refl _) | (intro _ he; cases he; assumption) | (intro _ he; with_reducible apply keep_cell' he; assumption; simp; done) | (intro _ he; with_reducible apply ext_cell' he; assumption; done) | (with_reducible first | exact pl_int _ _ | exact pl_byte _ | exact pl_u32 _ | exact pl_bool _ | exact pl_ptr _ | exact pl_slice _ _ _ | exact pl_map _ | exact pl_str _ | exact pl_func _ _ _) | ((rw [okW_setH]; repeat rw [okW_setH]); assumption) | ((with_reducible refine cellH_setH_same ?_ _); (repeat rw [okW_setH]); assumption) | ((rw [cellH_setH_off]; rotate_left; focus decide); (repeat (rw [cellH_setH_off]; rotate_left; focus decide)); first | assumption | ((with_reducible refine cellH_setH_same ?_ _); (repeat rw [okW_setH]); assumption)) | omega) only [↓hpR, ↓nilC_ptr, ↓nilC_func, ↓condP_true, ↓condP_false, ↓condP_bool, ↓guardP_true, ↓guardP_false, ↓guardP_bool_t, ↓guardP_bool_f, ↓skipP_undef, ↓pickP_bool, ↓b_add, ↓b_sub, ↓b_mul, ↓b_quo, ↓b_rem, ↓b_lss, ↓b_leq, ↓b_gtr, ↓b_geq, ↓b_eql, ↓b_neq, ↓u_not, ↓s_add, ↓s_eql, ↓s_neq, ↓i_max2, ↓i_min2, ↓x20, ↓x21, ↓x30, ↓x31, ↓x32, ↓q_b_add, ↓q_b_sub, ↓q_b_mul, ↓q_b_quo, ↓q_b_rem, ↓q_b_lss, ↓q_b_leq, ↓q_b_gtr, ↓q_b_geq, ↓q_b_eql, ↓q_b_neq, ↓q_u_not, ↓q_s_add, ↓q_s_eql, ↓q_s_neq, ↓q_i_max2, ↓q_i_min2, ↓q_x20, ↓q_x21, ↓q_x30, ↓q_x31, ↓q_x32, ↓m_box, decide_true, decide_false, tt_and, ff_and, Nat.zero_add, Int.toNat_natCast, cells_agg, cells_bool, cells_int, cells_str, cells_ptr, cells_slice, ↓qend_eq, ↓jump_none, ↓jump_ret, ↓jump_exit, ↓marks_one, cond_true, cond_false, Bool.not_true, Bool.not_false, hve]
  refine ⟨fun hlt => ?_, fun hge => ?_⟩
  · have hlt' : i < f.ev.length := by simpa using hlt
    have hsuccN : rnetL f (i + 1) = rnetL f i ++ [idx f.ev.length (rneedP f i)] := by unfold rnetL; rw [List.range_succ, List.map_append]; rfl
    have z3 := x3.size
    have hxb : ∀ k ∈ blk x, k < h3.size := fun k hk => by
      obtain ⟨ws, o1, _⟩ := own.ex
      exact (o1.ge k hk).2
    have own4 := own0 (Nat.le_refl h3.size)
    have x34 := (Ext.refl h3).push (.cells #[] 3 (0, 0))
    generalize h3.push (.cells #[] 3 (0, 0)) = h4 at x34 own4 ⊢
    obtain ⟨P, hP⟩ : ∃ P : Nat → Bool, P = rneedP f i := ⟨_, rfl⟩
    refine ⟨fun x y hh => ∃ k : Nat, y = .int .i64 (k : Int) ∧ k ≤ f.ev.length ∧ Ext h3 hh ∧ OwnI hh h3.size x (idx k P), fun x y hh => match y with | .int _ i => f.ev.length - i.toNat | _ => 0, ⟨0, rfl, Nat.zero_le _, x34, own4⟩, ?_⟩
    rintro js2 x2 y2 h5 ⟨k, rfl, hk5, x5, own5⟩
    have p5 := x5.at p3
    have c5 : cellH h5 h.size 0 = some ve := by rw [cellH_of p5]; rfl
    simp (disch := first | assumption | (with_reducible exact Ext.refl _) | (with_reducible exact Keep.refl _ _) | (with_reducible exact Eq.refl _) | (intro _ he; cases he; assumption) | (intro _ he; with_reducible apply keep_cell' he; assumption; simp; done) | (intro _ he; with_reducible apply ext_cell' he; assumption; done) | (with_reducible first | exact pl_int _ _ | exact pl_byte _ | exact pl_u32 _ | exact pl_bool _ | exact pl_ptr _ | exact pl_slice _ _ _ | exact pl_map _ | exact pl_str _ | exact pl_func _ _ _) | ((rw [okW_setH]; repeat rw [okW_setH]); assumption) | ((with_reducible refine cellH_setH_same ?_ _); (repeat rw [okW_setH]); assumption) | ((rw [cellH_setH_off]; rotate_left; focus decide); (repeat (rw [cellH_setH_off]; rotate_left; focus decide)); first | assumption | ((with_reducible refine cellH_setH_same ?_ _); (repeat rw [okW_setH]); assumption)) | omega) only [↓hpR, ↓nilC_ptr, ↓nilC_func, ↓condP_true, ↓condP_false, ↓condP_bool, ↓guardP_true, ↓guardP_false, ↓guardP_bool_t, ↓guardP_bool_f, ↓skipP_undef, ↓pickP_bool, ↓b_add, ↓b_sub, ↓b_mul, ↓b_quo, ↓b_rem, ↓b_lss, ↓b_leq, ↓b_gtr, ↓b_geq, ↓b_eql, ↓b_neq, ↓u_not, ↓s_add, ↓s_eql, ↓s_neq, ↓i_max2, ↓i_min2, ↓x20, ↓x21, ↓x30, ↓x31, ↓x32, ↓q_b_add, ↓q_b_sub, ↓q_b_mul, ↓q_b_quo, ↓q_b_rem, ↓q_b_lss, ↓q_b_leq, ↓q_b_gtr, ↓q_b_geq, ↓q_b_eql, ↓q_b_neq, ↓q_u_not, ↓q_s_add, ↓q_s_eql, ↓q_s_neq, ↓q_i_max2, ↓q_i_min2, ↓q_x20, ↓q_x21, ↓q_x30, ↓q_x31, ↓q_x32, ↓m_box, decide_true, decide_false, tt_and, ff_and, Nat.zero_add, Int.toNat_natCast, cells_agg, cells_bool, cells_int, cells_str, cells_ptr, cells_slice, ↓qend_eq, ↓jump_none, ↓jump_ret, ↓jump_exit, ↓marks_one, cond_true, cond_false, Bool.not_true, Bool.not_false, hve]
    refine ⟨fun hlt2 => ?_, fun hge2 => ?_⟩
    · have hlt2' : k < f.ev.length := by simpa using hlt2
      have hil := idx_length k P
      have hsucc := idx_succ k P
      refine Join1.intro (fun x hh => Ext h3 hh ∧ OwnI hh h3.size x (idx (k + 1) P)) (fun J hJ => ?_) (fun x6 h6 hM => ?_)
      · refine Join1.intro (fun x hh => x = .bool (P k) ∧ Ext h5 hh) (fun J1 hJ1 => ?_) (fun x6 h6 hM => ?_)
        · have hPk : P k = (tiedB f 1 (k : Int) (i : Int) || (tiedB f 5 (k : Int) (i : Int) || tiedB f 2 (i : Int) (k : Int))) := by rw [hP]; rfl
          rw [m_loadAgg Try.underlying30 rfl size30 p5 (by simp)]
          refine tied_spec (F.ext ((x1.trans x3).trans x5)) 1 k i fun h6 x6 => ?_
          simp (disch := first | assumption | (with_reducible exact Ext.refl _) | (with_reducible exact Keep.refl _ _) | (with_reducible exact Eq.refl _) | (intro _ he; cases he; assumption) | (intro _ he; with_reducible apply keep_cell' he; assumption; simp; done) | (intro _ he; with_reducible apply ext_cell' he; assumption; done) | (with_reducible first | exact pl_int _ _ | exact pl_byte _ | exact pl_u32 _ | exact pl_bool _ | exact pl_ptr _ | exact pl_slice _ _ _ | exact pl_map _ | exact pl_str _ | exact pl_func _ _ _) | ((rw [okW_setH]; repeat rw [okW_setH]); assumption) | ((with_reducible refine cellH_setH_same ?_ _); (repeat rw [okW_setH]); assumption) | ((rw [cellH_setH_off]; rotate_left; focus decide); (repeat (rw [cellH_setH_off]; rotate_left; focus decide)); first | assumption | ((with_reducible refine cellH_setH_same ?_ _); (repeat rw [okW_setH]); assumption)) | omega) only [↓hpR, ↓nilC_ptr, ↓nilC_func, ↓condP_true, ↓condP_false, ↓condP_bool, ↓guardP_true, ↓guardP_false, ↓guardP_bool_t, ↓guardP_bool_f, ↓skipP_undef, ↓pickP_bool, ↓b_add, ↓b_sub, ↓b_mul, ↓b_quo, ↓b_rem, ↓b_lss, ↓b_leq, ↓b_gtr, ↓b_geq, ↓b_eql, ↓b_neq, ↓u_not, ↓s_add, ↓s_eql, ↓s_neq, ↓i_max2, ↓i_min2, ↓x20, ↓x21, ↓x30, ↓x31, ↓x32, ↓q_b_add, ↓q_b_sub, ↓q_b_mul, ↓q_b_quo, ↓q_b_rem, ↓q_b_lss, ↓q_b_leq, ↓q_b_gtr, ↓q_b_geq, ↓q_b_eql, ↓q_b_neq, ↓q_u_not, ↓q_s_add, ↓q_s_eql, ↓q_s_neq, ↓q_i_max2, ↓q_i_min2, ↓q_x20, ↓q_x21, ↓q_x30, ↓q_x31, ↓q_x32, ↓m_box, decide_true, decide_false, tt_and, ff_and, Nat.zero_add, Int.toNat_natCast, cells_agg, cells_bool, cells_int, cells_str, cells_ptr, cells_slice, ↓qend_eq, ↓jump_none, ↓jump_ret, ↓jump_exit, ↓marks_one, cond_true, cond_false, Bool.not_true, Bool.not_false]
          refine ⟨fun e1 => hJ1 _ _ ⟨by rw [hPk, e1]; rfl, x6⟩, fun e1 => ?_⟩
          rw [m_loadAgg Try.underlying30 rfl size30 (x6.at p5) (by simp)]
          refine tied_spec (F.ext (((x1.trans x3).trans x5).trans x6)) 5 k i fun h7 x7 => ?_
          simp (disch := first | assumption | (with_reducible exact Ext.refl _) | (with_reducible exact Keep.refl _ _) | (with_reducible exact Eq.refl _) | (intro _ he; cases he; assumption) | (intro _ he; with_reducible apply keep_cell' he; assumption; simp; done) | (intro _ he; with_reducible apply ext_cell' he; assumption; done) | (with_reducible first | exact pl_int _ _ | exact pl_byte _ | exact pl_u32 _ | exact pl_bool _ | exact pl_ptr _ | exact pl_slice _ _ _ | exact pl_map _ | exact pl_str _ | exact pl_func _ _ _) | ((rw [okW_setH]; repeat rw [okW_setH]); assumption) | ((with_reducible refine cellH_setH_same ?_ _); (repeat rw [okW_setH]); assumption) | ((rw [cellH_setH_off]; rotate_left; focus decide); (repeat (rw [cellH_setH_off]; rotate_left; focus decide)); first | assumption | ((with_reducible refine cellH_setH_same ?_ _); (repeat rw [okW_setH]); assumption)) | omega) only [↓hpR, ↓nilC_ptr, ↓nilC_func, ↓condP_true, ↓condP_false, ↓condP_bool, ↓guardP_true, ↓guardP_false, ↓guardP_bool_t, ↓guardP_bool_f, ↓skipP_undef, ↓pickP_bool, ↓b_add, ↓b_sub, ↓b_mul, ↓b_quo, ↓b_rem, ↓b_lss, ↓b_leq, ↓b_gtr, ↓b_geq, ↓b_eql, ↓b_neq, ↓u_not, ↓s_add, ↓s_eql, ↓s_neq, ↓i_max2, ↓i_min2, ↓x20, ↓x21, ↓x30, ↓x31, ↓x32, ↓q_b_add, ↓q_b_sub, ↓q_b_mul, ↓q_b_quo, ↓q_b_rem, ↓q_b_lss, ↓q_b_leq, ↓q_b_gtr, ↓q_b_geq, ↓q_b_eql, ↓q_b_neq, ↓q_u_not, ↓q_s_add, ↓q_s_eql, ↓q_s_neq, ↓q_i_max2, ↓q_i_min2, ↓q_x20, ↓q_x21, ↓q_x30, ↓q_x31, ↓q_x32, ↓m_box, decide_true, decide_false, tt_and, ff_and, Nat.zero_add, Int.toNat_natCast, cells_agg, cells_bool, cells_int, cells_str, cells_ptr, cells_slice, ↓qend_eq, ↓jump_none, ↓jump_ret, ↓jump_exit, ↓marks_one, cond_true, cond_false, Bool.not_true, Bool.not_false]
          refine ⟨fun e2 => hJ1 _ _ ⟨by rw [hPk, e1, e2]; rfl, x6.trans x7⟩, fun e2 => ?_⟩
          rw [m_loadAgg Try.underlying30 rfl size30 ((x6.trans x7).at p5) (by simp)]
          exact tied_spec (F.ext ((((x1.trans x3).trans x5).trans x6).trans x7)) 2 i k fun h8 x8 => hJ1 _ _ ⟨by rw [hPk, e1, e2]; rfl, (x6.trans x7).trans x8⟩
        · obtain ⟨rfl, x6⟩ := hM
          rw [condP_bool]
          refine ⟨fun e1 => ?_, fun e1 => ?_⟩
          · skip
            exact push1 (own5.ext x6) (by omega) (k : Int) (x5.trans x6) fun h7 v7 own7 x7 => hJ _ _ ⟨x7, by rw [hsucc, e1]; exact own7⟩
          · refine hJ _ _ ⟨x5.trans x6, ?_⟩
            rw [hsucc, e1]
            simpa using own5.ext x6
      · obtain ⟨q1, q2⟩ := hM
        exact ⟨⟨k + 1, by simp, by omega, q1, q2⟩, by omega⟩
    · have hk' : k = f.ev.length := by simp at hge2; omega
      subst hk'
      have pl := own5.plain
      simp (disch := first | assumption | (with_reducible exact Ext.refl _) | (with_reducible exact Keep.refl _ _) | (with_reducible exact Eq.refl _) | (intro _ he; cases he; assumption) | (intro _ he; with_reducible apply keep_cell' he; assumption; simp; done) | (intro _ he; with_reducible apply ext_cell' he; assumption; done) | (with_reducible first | exact pl_int _ _ | exact pl_byte _ | exact pl_u32 _ | exact pl_bool _ | exact pl_ptr _ | exact pl_slice _ _ _ | exact pl_map _ | exact pl_str _ | exact pl_func _ _ _) | ((rw [okW_setH]; repeat rw [okW_setH]); assumption) | ((with_reducible refine cellH_setH_same ?_ _); (repeat rw [okW_setH]); assumption) | ((rw [cellH_setH_off]; rotate_left; focus decide); (repeat (rw [cellH_setH_off]; rotate_left; focus decide)); first | assumption | ((with_reducible refine cellH_setH_same ?_ _); (repeat rw [okW_setH]); assumption)) | omega) only [↓hpR, ↓nilC_ptr, ↓nilC_func, ↓condP_true, ↓condP_false, ↓condP_bool, ↓guardP_true, ↓guardP_false, ↓guardP_bool_t, ↓guardP_bool_f, ↓skipP_undef, ↓pickP_bool, ↓b_add, ↓b_sub, ↓b_mul, ↓b_quo, ↓b_rem, ↓b_lss, ↓b_leq, ↓b_gtr, ↓b_geq, ↓b_eql, ↓b_neq, ↓u_not, ↓s_add, ↓s_eql, ↓s_neq, ↓i_max2, ↓i_min2, ↓x20, ↓x21, ↓x30, ↓x31, ↓x32, ↓q_b_add, ↓q_b_sub, ↓q_b_mul, ↓q_b_quo, ↓q_b_rem, ↓q_b_lss, ↓q_b_leq, ↓q_b_gtr, ↓q_b_geq, ↓q_b_eql, ↓q_b_neq, ↓q_u_not, ↓q_s_add, ↓q_s_eql, ↓q_s_neq, ↓q_i_max2, ↓q_i_min2, ↓q_x20, ↓q_x21, ↓q_x30, ↓q_x31, ↓q_x32, ↓m_box, decide_true, decide_false, tt_and, ff_and, Nat.zero_add, Int.toNat_natCast, cells_agg, cells_bool, cells_int, cells_str, cells_ptr, cells_slice, ↓qend_eq, ↓jump_none, ↓jump_ret, ↓jump_exit, ↓marks_one, cond_true, cond_false, Bool.not_true, Bool.not_false]
      refine pushN (own.ext x5) (own5.low z3) (fun k hk hx => ?_) (by unfold rnetL; simp; omega) (x3.trans x5) fun h6 v6 own6 x6 => ?_
      · have := (own5.ge k hk).1
        have := hxb k hx
        omega
      · skip
        refine ⟨⟨i + 1, by simp, by omega, x6, ?_⟩, by omega⟩
        rw [hsuccN, ← hP]
        exact own6
  · have hi' : i = f.ev.length := by simp at hge; omega
    subst hi'
    rw [rnetL_eq] at own
    exact hk _ _ own.net (x1.trans x3)

/-! ### All -/
theorem all_spec {h : Heap} {va vb : Value} {a : List (List Int)} (ha : NetAt h va a) (hb : NetAt h vb a) (hl : a.length ≤ 1000000) (hr : ∀ l ∈ a, l.length ≤ 1000000) {K : Value → Heap → Prop} (hk : K (.bool true) h) : CallF Try.prog 15 #[va, vb] h K := by
  apply S15
  unfold F15
  obtain ⟨A, ca, hva⟩ := SlR.len ha
  obtain ⟨B, cb, hvb⟩ := SlR.len hb
  simp (disch := first | assumption | (with_reducible exact Ext.refl _) | (with_reducible exact Keep.refl _ _) | (with_reducible exact Eq.refl _) | (intro _ he; cases he; assumption) | (intro _ he; with_reducible apply keep_cell' he; assumption; simp; done) | (intro _ he; with_reducible apply ext_cell' he; assumption; done) | (with_reducible first | exact pl_int _ _ | exact pl_byte _ | exact pl_u32 _ | exact pl_bool _ | exact pl_ptr _ | exact pl_slice _ _ _ | exact pl_map _ | exact pl_str _ | exact pl_func _ _ _) | ((rw [okW_setH]; repeat rw [okW_setH]); assumption) | ((with_reducible refine cellH_setH_same ?_ _); (repeat rw [okW_setH]); assumption) | ((rw [cellH_setH_off]; rotate_left; focus decide); (repeat (rw [cellH_setH_off]; rotate_left; focus decide)); first | assumption | ((with_reducible refine cellH_setH_same ?_ _); (repeat rw [okW_setH]); assumption)) | omega) only [↓hpR, ↓nilC_ptr, ↓nilC_func, ↓condP_true, ↓condP_false, ↓condP_bool, ↓guardP_true, ↓guardP_false, ↓guardP_bool_t, ↓guardP_bool_f, ↓skipP_undef, ↓pickP_bool, ↓b_add, ↓b_sub, ↓b_mul, ↓b_quo, ↓b_rem, ↓b_lss, ↓b_leq, ↓b_gtr, ↓b_geq, ↓b_eql, ↓b_neq, ↓u_not, ↓s_add, ↓s_eql, ↓s_neq, ↓i_max2, ↓i_min2, ↓x20, ↓x21, ↓x30, ↓x31, ↓x32, ↓q_b_add, ↓q_b_sub, ↓q_b_mul, ↓q_b_quo, ↓q_b_rem, ↓q_b_lss, ↓q_b_leq, ↓q_b_gtr, ↓q_b_geq, ↓q_b_eql, ↓q_b_neq, ↓q_u_not, ↓q_s_add, ↓q_s_eql, ↓q_s_neq, ↓q_i_max2, ↓q_i_min2, ↓q_x20, ↓q_x21, ↓q_x30, ↓q_x31, ↓q_x32, ↓m_box, decide_true, decide_false, tt_and, ff_and, Nat.zero_add, Int.toNat_natCast, cells_agg, cells_bool, cells_int, cells_str, cells_ptr, cells_slice, ↓qend_eq, ↓jump_none, ↓jump_ret, ↓jump_exit, ↓marks_one, cond_true, cond_false, Bool.not_true, Bool.not_false, hva, hvb]
  refine ⟨fun x hh => ∃ i : Nat, x = .int .i64 (i : Int) ∧ i ≤ a.length ∧ hh = h, fun x hh => match x with | .int _ i => a.length - i.toNat | _ => 0, ⟨0, rfl, Nat.zero_le _, rfl⟩, ?_⟩
  rintro js x h3 ⟨i, rfl, hi, rfl⟩
  simp (disch := first | assumption | (with_reducible exact Ext.refl _) | (with_reducible exact Keep.refl _ _) | (with_reducible exact Eq.refl _) | (intro _ he; cases he; assumption) | (intro _ he; with_reducible apply keep_cell' he; assumption; simp; done) | (intro _ he; with_reducible apply ext_cell' he; assumption; done) | (with_reducible first | exact pl_int _ _ | exact pl_byte _ | exact pl_u32 _ | exact pl_bool _ | exact pl_ptr _ | exact pl_slice _ _ _ | exact pl_map _ | exact pl_str _ | exact pl_func _ _ _) | ((rw [okW_setH]; repeat rw [okW_setH]); assumption) | ((with_reducible refine cellH_setH_same ?_ _); (repeat rw [okW_setH]); assumption) | ((rw [cellH_setH_off]; rotate_left; focus decide); (repeat (rw [cellH_setH_off]; rotate_left; focus decide)); first | assumption | ((with_reducible refine cellH_setH_same ?_ _); (repeat rw [okW_setH]); assumption)) | omega) only [↓hpR, ↓nilC_ptr, ↓nilC_func, ↓condP_true, ↓condP_false, ↓condP_bool, ↓guardP_true, ↓guardP_false, ↓guardP_bool_t, ↓guardP_bool_f, ↓skipP_undef, ↓pickP_bool, ↓b_add, ↓b_sub, ↓b_mul, ↓b_quo, ↓b_rem, ↓b_lss, ↓b_leq, ↓b_gtr, ↓b_geq, ↓b_eql, ↓b_neq, ↓u_not, ↓s_add, ↓s_eql, ↓s_neq, ↓i_max2, ↓i_min2, ↓x20, ↓x21, ↓x30, ↓x31, ↓x32, ↓q_b_add, ↓q_b_sub, ↓q_b_mul, ↓q_b_quo, ↓q_b_rem, ↓q_b_lss, ↓q_b_leq, ↓q_b_gtr, ↓q_b_geq, ↓q_b_eql, ↓q_b_neq, ↓q_u_not, ↓q_s_add, ↓q_s_eql, ↓q_s_neq, ↓q_i_max2, ↓q_i_min2, ↓q_x20, ↓q_x21, ↓q_x30, ↓q_x31, ↓q_x32, ↓m_box, decide_true, decide_false, tt_and, ff_and, Nat.zero_add, Int.toNat_natCast, cells_agg, cells_bool, cells_int, cells_str, cells_ptr, cells_slice, ↓qend_eq, ↓jump_none, ↓jump_ret, ↓jump_exit, ↓marks_one, cond_true, cond_false, Bool.not_true, Bool.not_false]
  refine ⟨fun hlt => ?_, fun hge => hk⟩
  have hlt' : i < a.length := by simpa using hlt
  obtain ⟨g1, o1, k1, w1, e1, q1, s1⟩ := NetAt.row ha hlt'
  obtain ⟨g2, o2, k2, w2, e2, q2, s2⟩ := NetAt.row hb hlt'
  rw [hva] at e1
  rw [hvb] at e2
  injection e1 with e11 _ _
  injection e2 with e21 _ _
  subst e11 e21
  refine Quiet_eq ?_
  simp (disch := first | assumption | (with_reducible exact Ext.refl _) | (with_reducible exact Keep.refl _ _) | (with_reducible exact Eq.refl _) | (intro _ he; cases he; assumption) | (intro _ he; with_reducible apply keep_cell' he; assumption; simp; done) | (intro _ he; with_reducible apply ext_cell' he; assumption; done) | (with_reducible first | exact pl_int _ _ | exact pl_byte _ | exact pl_u32 _ | exact pl_bool _ | exact pl_ptr _ | exact pl_slice _ _ _ | exact pl_map _ | exact pl_str _ | exact pl_func _ _ _) | ((rw [okW_setH]; repeat rw [okW_setH]); assumption) | ((with_reducible refine cellH_setH_same ?_ _); (repeat rw [okW_setH]); assumption) | ((rw [cellH_setH_off]; rotate_left; focus decide); (repeat (rw [cellH_setH_off]; rotate_left; focus decide)); first | assumption | ((with_reducible refine cellH_setH_same ?_ _); (repeat rw [okW_setH]); assumption)) | omega) only [↓hpR, ↓nilC_ptr, ↓nilC_func, ↓condP_true, ↓condP_false, ↓condP_bool, ↓guardP_true, ↓guardP_false, ↓guardP_bool_t, ↓guardP_bool_f, ↓skipP_undef, ↓pickP_bool, ↓b_add, ↓b_sub, ↓b_mul, ↓b_quo, ↓b_rem, ↓b_lss, ↓b_leq, ↓b_gtr, ↓b_geq, ↓b_eql, ↓b_neq, ↓u_not, ↓s_add, ↓s_eql, ↓s_neq, ↓i_max2, ↓i_min2, ↓x20, ↓x21, ↓x30, ↓x31, ↓x32, ↓q_b_add, ↓q_b_sub, ↓q_b_mul, ↓q_b_quo, ↓q_b_rem, ↓q_b_lss, ↓q_b_leq, ↓q_b_gtr, ↓q_b_geq, ↓q_b_eql, ↓q_b_neq, ↓q_u_not, ↓q_s_add, ↓q_s_eql, ↓q_s_neq, ↓q_i_max2, ↓q_i_min2, ↓q_x20, ↓q_x21, ↓q_x30, ↓q_x31, ↓q_x32, ↓m_box, decide_true, decide_false, tt_and, ff_and, Nat.zero_add, Int.toNat_natCast, cells_agg, cells_bool, cells_int, cells_str, cells_ptr, cells_slice, ↓qend_eq, ↓jump_none, ↓jump_ret, ↓jump_exit, ↓marks_one, cond_true, cond_false, Bool.not_true, Bool.not_false, Nat.mul_one]
  refine QCallF_eq (v := .bool true) (R10 _) (same_spec s1 s2 (hr _ (List.getElem_mem hlt')) ⟨by simp, rfl⟩) ?_
  simp (disch := first | assumption | (with_reducible exact Ext.refl _) | (with_reducible exact Keep.refl _ _) | (with_reducible exact Eq.refl _) | (intro _ he; cases he; assumption) | (intro _ he; with_reducible apply keep_cell' he; assumption; simp; done) | (intro _ he; with_reducible apply ext_cell' he; assumption; done) | (with_reducible first | exact pl_int _ _ | exact pl_byte _ | exact pl_u32 _ | exact pl_bool _ | exact pl_ptr _ | exact pl_slice _ _ _ | exact pl_map _ | exact pl_str _ | exact pl_func _ _ _) | ((rw [okW_setH]; repeat rw [okW_setH]); assumption) | ((with_reducible refine cellH_setH_same ?_ _); (repeat rw [okW_setH]); assumption) | ((rw [cellH_setH_off]; rotate_left; focus decide); (repeat (rw [cellH_setH_off]; rotate_left; focus decide)); first | assumption | ((with_reducible refine cellH_setH_same ?_ _); (repeat rw [okW_setH]); assumption)) | omega) only [↓hpR, ↓nilC_ptr, ↓nilC_func, ↓condP_true, ↓condP_false, ↓condP_bool, ↓guardP_true, ↓guardP_false, ↓guardP_bool_t, ↓guardP_bool_f, ↓skipP_undef, ↓pickP_bool, ↓b_add, ↓b_sub, ↓b_mul, ↓b_quo, ↓b_rem, ↓b_lss, ↓b_leq, ↓b_gtr, ↓b_geq, ↓b_eql, ↓b_neq, ↓u_not, ↓s_add, ↓s_eql, ↓s_neq, ↓i_max2, ↓i_min2, ↓x20, ↓x21, ↓x30, ↓x31, ↓x32, ↓q_b_add, ↓q_b_sub, ↓q_b_mul, ↓q_b_quo, ↓q_b_rem, ↓q_b_lss, ↓q_b_leq, ↓q_b_gtr, ↓q_b_geq, ↓q_b_eql, ↓q_b_neq, ↓q_u_not, ↓q_s_add, ↓q_s_eql, ↓q_s_neq, ↓q_i_max2, ↓q_i_min2, ↓q_x20, ↓q_x21, ↓q_x30, ↓q_x31, ↓q_x32, ↓m_box, decide_true, decide_false, tt_and, ff_and, Nat.zero_add, Int.toNat_natCast, cells_agg, cells_bool, cells_int, cells_str, cells_ptr, cells_slice, ↓qend_eq, ↓jump_none, ↓jump_ret, ↓jump_exit, ↓marks_one, cond_true, cond_false, Bool.not_true, Bool.not_false]
  exact ⟨⟨i + 1, by simp, by omega, trivial⟩, by omega⟩
end Go.Proofs.Ytopflbjjbindkaa
