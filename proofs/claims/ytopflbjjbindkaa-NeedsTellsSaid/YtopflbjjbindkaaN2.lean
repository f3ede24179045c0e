/- Numbers joined; a map's keys, sorted. -/
import Derived.Test.YtopflbjjbindkaaN1
set_option linter.unusedVariables false
set_option linter.unusedSimpArgs false
namespace Go.Proofs.Ytopflbjjbindkaa
open Go.Hp Go.RowKit

def joinL (a b : List Int) : List Int := Lib.compact ((a ++ b).mergeSort fun x y => decide (x ≤ y))
theorem joinL_rise (a b : List Int) : Rise (joinL a b) := (compact_sorted (sorted_merge (a ++ b)).1).1
theorem mem_joinL {a b : List Int} {x : Int} : x ∈ joinL a b ↔ x ∈ a ∨ x ∈ b := by
  unfold joinL
  rw [(compact_sorted (sorted_merge (a ++ b)).1).2, (sorted_merge (a ++ b)).2.1, List.mem_append]
theorem joined_spec {h : Heap} {va vb : Value} {a b : List Int} (ha : SlI h va a) (hb : SlI h vb b) (hn : a.length + b.length ≤ 1000000) {K : Value → Heap → Prop} (hk : ∀ h' v, OwnI h' h.size v (joinL a b) → Ext h h' → K v h') : CallF Try.prog 44 #[va, vb] h K := by
  apply S44
  unfold F44
  rw [bs37_2 (SlR.plain ha) (SlR.plain hb)]
  have x1 := (Ext.refl h).push (Obj.cells #[va, vb] 33 (0, 0))
  refine concat_spec (push_new h _) (ha.ext x1) (hb.ext x1) hn fun h2 v own x2 => ?_
  have own2 : OwnI h2 h.size v (a ++ b) := own.low (by simp)
  refine sort_spec own2 (by rw [List.length_append]; exact hn) fun h3 own3 o3 => ?_
  refine compact_spec own3 (by rw [(sorted_merge (a ++ b)).2.2, List.length_append]; exact hn) fun h4 v4 own4 o4 _ => ?_
  refine hk h4 v4 own4 ?_
  exact Only.fresh (Only.fresh (x1.trans x2) o3 (fun k hk => (own2.ge k hk).1)) o4 (fun k hk => (own3.ge k hk).1)

/-! ### The keys of a map -/
def I64 (x : Int) : Prop := -9223372036854775808 ≤ x ∧ x ≤ 9223372036854775807
theorem keyInt : KeyE Try.prog 3 intV I64 where
  keyed := Maps.int_keyed under3
  key := fun x hx => ⟨_, Maps.keyOf_int_mk under3 (by
    have e1 : IntKind.i64.min = -9223372036854775808 := by decide
    have e2 : IntKind.i64.max = 9223372036854775807 := by decide
    simp [Lit.wf]
    unfold I64 at hx
    omega)⟩
  inj := fun x y h => by injection h
abbrev SetAt (h : Heap) (b : Nat) (m : List (Int × Value)) : Prop := MapAt h b intV I64 m

/-- The collecting loop's state: 'u': the list's variable; the two records behind it; the iterator. -/
structure CS (h0 h : Heap) (u r mb : Nat) (rec : Obj) (m left : List (Int × Value)) (done : List Int) (v : Value) : Prop where
  ext : Ext h0 h
  it : IterAt h r mb intV left
  perm : (done ++ left.map (·.1)).Perm (m.map (·.1))
  rc : h[u + 2]? = some rec
  df : h[u + 1]? = some (.deferred (some []))
  var : h[u]? = some (.cells #[v] 33 (0, 0))
  own : OwnI h (r + 1) v done
  hu : h0.size ≤ u
  hr : u + 2 < r
  hm : mb < h0.size
theorem CS.sz {h0 h : Heap} {u r mb : Nat} {rec : Obj} {m left : List (Int × Value)} {done : List Int} {v : Value} (c : CS h0 h u r mb rec m left done v) : r < h.size := c.it.lt.1
theorem collect_spec {h : Heap} {b mb : Nat} {m : List (Int × Value)} (hb : cellH h b 0 = some (.map (some mb))) (M : SetAt h mb m) (hn : m.length ≤ 1000000) {K : Value → Heap → Prop} (hk : ∀ h' v l, OwnI h' h.size v l → l.Perm (m.map (·.1)) → Ext h h' → K v h') :
    CallF Try.prog 73 #[.func (.func 74) #[] #[.pointer (some ⟨b, 0, none⟩)]] h K := by
  apply S73
  unfold F73
  apply S96
  unfold F96
  simp (disch := first | assumption | (with_reducible exact Ext.refl _) | (with_reducible exact Keep.refl _ _) | (with_reducible exact Eq.refl _) | (intro _ he; cases he; assumption) | (intro _ he; with_reducible apply keep_cell' he; assumption; simp; done) | (intro _ he; with_reducible apply ext_cell' he; assumption; done) | (with_reducible first | exact pl_int _ _ | exact pl_byte _ | exact pl_u32 _ | exact pl_bool _ | exact pl_ptr _ | exact pl_slice _ _ _ | exact pl_map _ | exact pl_str _ | exact pl_func _ _ _) | ((rw [okW_setH]; repeat rw [okW_setH]); assumption) | ((with_reducible refine cellH_setH_same ?_ _); (repeat rw [okW_setH]); assumption) | ((rw [cellH_setH_off]; rotate_left; focus decide); (repeat (rw [cellH_setH_off]; rotate_left; focus decide)); first | assumption | ((with_reducible refine cellH_setH_same ?_ _); (repeat rw [okW_setH]); assumption)) | omega) only [↓hpR, ↓nilC_ptr, ↓nilC_func, ↓condP_true, ↓condP_false, ↓condP_bool, ↓guardP_true, ↓guardP_false, ↓guardP_bool_t, ↓guardP_bool_f, ↓skipP_undef, ↓pickP_bool, ↓b_add, ↓b_sub, ↓b_mul, ↓b_quo, ↓b_rem, ↓b_lss, ↓b_leq, ↓b_gtr, ↓b_geq, ↓b_eql, ↓b_neq, ↓u_not, ↓s_add, ↓s_eql, ↓s_neq, ↓i_max2, ↓i_min2, ↓x20, ↓x21, ↓x30, ↓x31, ↓x32, ↓q_b_add, ↓q_b_sub, ↓q_b_mul, ↓q_b_quo, ↓q_b_rem, ↓q_b_lss, ↓q_b_leq, ↓q_b_gtr, ↓q_b_geq, ↓q_b_eql, ↓q_b_neq, ↓q_u_not, ↓q_s_add, ↓q_s_eql, ↓q_s_neq, ↓q_i_max2, ↓q_i_min2, ↓q_x20, ↓q_x21, ↓q_x30, ↓q_x31, ↓q_x32, ↓m_box, decide_true, decide_false, tt_and, ff_and, Nat.zero_add, Int.toNat_natCast, cells_agg, cells_bool, cells_int, cells_str, cells_ptr, cells_slice, ↓qend_eq, ↓jump_none, ↓jump_ret, ↓jump_exit, ↓marks_one, cond_true, cond_false, Bool.not_true, Bool.not_false]
  have hbl := cellH_lt hb
  have hml := M.lt
  obtain ⟨u, hu⟩ : ∃ u, h.size = u := ⟨_, rfl⟩
  have p0 := push_new h (Obj.cells #[.slice none 0 0] 33 (0, 0))
  have x0 := (Ext.refl h).push (Obj.cells #[.slice none 0 0] 33 (0, 0))
  have z0 : (h.push (Obj.cells #[.slice none 0 0] 33 (0, 0))).size = u + 1 := by simp [hu]
  rw [hu] at p0 ⊢
  generalize h.push (Obj.cells #[.slice none 0 0] 33 (0, 0)) = h1 at p0 x0 z0 ⊢
  refine ⟨74, _, rfl, R74, fun mk Y => ?_⟩
  rw [z0] at Y ⊢
  have e0 : (#[Value.func (.yield (u + 1 + 1)) #[] #[]] ++ #[.pointer (some ⟨b, 0, none⟩)] : Array Value) = #[.func (.yield (u + 2)) #[] #[], .pointer (some ⟨b, 0, none⟩)] := rfl
  rw [e0]
  have p1 : ((h1.push (.deferred (some []))).push (mk .ready none))[u + 1]? = some (.deferred (some [])) := by rw [← z0]; exact push_old (push_new _ _) _
  have p2 : ((h1.push (.deferred (some []))).push (mk .ready none))[u + 2]? = some (mk .ready none) := by
    have := push_new (h1.push (.deferred (some []))) (mk .ready none)
    simpa [z0] using this
  have x1 : Ext h1 ((h1.push (.deferred (some []))).push (mk .ready none)) := ((Ext.refl h1).push _).push _
  have z2 : ((h1.push (.deferred (some []))).push (mk .ready none)).size = u + 3 := by simp [z0]
  have p0' := x1.at p0
  generalize (h1.push (.deferred (some []))).push (mk .ready none) = h2 at p1 p2 x1 z2 p0' ⊢
  have x02 := x0.trans x1
  apply S74
  unfold F74
  have c0 := cellH_ext x02 hb
  simp (disch := first | assumption | (with_reducible exact Ext.refl _) | (with_reducible exact Keep.refl _ _) | (with_reducible exact Eq.refl _) | (intro _ he; cases he; assumption) | (intro _ he; with_reducible apply keep_cell' he; assumption; simp; done) | (intro _ he; with_reducible apply ext_cell' he; assumption; done) | (with_reducible first | exact pl_int _ _ | exact pl_byte _ | exact pl_u32 _ | exact pl_bool _ | exact pl_ptr _ | exact pl_slice _ _ _ | exact pl_map _ | exact pl_str _ | exact pl_func _ _ _) | ((rw [okW_setH]; repeat rw [okW_setH]); assumption) | ((with_reducible refine cellH_setH_same ?_ _); (repeat rw [okW_setH]); assumption) | ((rw [cellH_setH_off]; rotate_left; focus decide); (repeat (rw [cellH_setH_off]; rotate_left; focus decide)); first | assumption | ((with_reducible refine cellH_setH_same ?_ _); (repeat rw [okW_setH]); assumption)) | omega) only [↓hpR, ↓nilC_ptr, ↓nilC_func, ↓condP_true, ↓condP_false, ↓condP_bool, ↓guardP_true, ↓guardP_false, ↓guardP_bool_t, ↓guardP_bool_f, ↓skipP_undef, ↓pickP_bool, ↓b_add, ↓b_sub, ↓b_mul, ↓b_quo, ↓b_rem, ↓b_lss, ↓b_leq, ↓b_gtr, ↓b_geq, ↓b_eql, ↓b_neq, ↓u_not, ↓s_add, ↓s_eql, ↓s_neq, ↓i_max2, ↓i_min2, ↓x20, ↓x21, ↓x30, ↓x31, ↓x32, ↓q_b_add, ↓q_b_sub, ↓q_b_mul, ↓q_b_quo, ↓q_b_rem, ↓q_b_lss, ↓q_b_leq, ↓q_b_gtr, ↓q_b_geq, ↓q_b_eql, ↓q_b_neq, ↓q_u_not, ↓q_s_add, ↓q_s_eql, ↓q_s_neq, ↓q_i_max2, ↓q_i_min2, ↓q_x20, ↓q_x21, ↓q_x30, ↓q_x31, ↓q_x32, ↓m_box, decide_true, decide_false, tt_and, ff_and, Nat.zero_add, Int.toNat_natCast, cells_agg, cells_bool, cells_int, cells_str, cells_ptr, cells_slice, ↓qend_eq, ↓jump_none, ↓jump_ret, ↓jump_exit, ↓marks_one, cond_true, cond_false, Bool.not_true, Bool.not_false]
  refine m_range Try.underlying46 (M.ext x02) fun h3 it x3 z3 => ?_
  rw [z2] at it z3 ⊢
  have cs0 : CS h h3 u (u + 3) mb (mk .ready none) m m [] (.slice none 0 0) :=
    ⟨x02.trans x3, it, by simp, x3.at p2, x3.at p1, x3.at p0', Own.nil _ _ _ _, by omega, by omega, by omega⟩
  refine ⟨fun hh => ∃ left done v, CS h hh u (u + 3) mb (mk .ready none) m left done v, fun hh => leftN hh mb (u + 3), ⟨_, _, _, cs0⟩, ?_⟩
  clear cs0 it x3 z3 c0 p0' z2 x1 p1 p2 x02 p0 x0 z0
  rintro js h4 ⟨left, done, v, c⟩
  refine m_next c.it _ (fun hl => ?_) (fun p l1 l2 h5 hsp it5 o5 hent => ?_)
  · rw [r_extract _ 0 _ rfl]
    simp (disch := first | assumption | (with_reducible exact Ext.refl _) | (with_reducible exact Keep.refl _ _) | (with_reducible exact Eq.refl _) | (intro _ he; cases he; assumption) | (intro _ he; with_reducible apply keep_cell' he; assumption; simp; done) | (intro _ he; with_reducible apply ext_cell' he; assumption; done) | (with_reducible first | exact pl_int _ _ | exact pl_byte _ | exact pl_u32 _ | exact pl_bool _ | exact pl_ptr _ | exact pl_slice _ _ _ | exact pl_map _ | exact pl_str _ | exact pl_func _ _ _) | ((rw [okW_setH]; repeat rw [okW_setH]); assumption) | ((with_reducible refine cellH_setH_same ?_ _); (repeat rw [okW_setH]); assumption) | ((rw [cellH_setH_off]; rotate_left; focus decide); (repeat (rw [cellH_setH_off]; rotate_left; focus decide)); first | assumption | ((with_reducible refine cellH_setH_same ?_ _); (repeat rw [okW_setH]); assumption)) | omega) only [↓hpR, ↓nilC_ptr, ↓nilC_func, ↓condP_true, ↓condP_false, ↓condP_bool, ↓guardP_true, ↓guardP_false, ↓guardP_bool_t, ↓guardP_bool_f, ↓skipP_undef, ↓pickP_bool, ↓b_add, ↓b_sub, ↓b_mul, ↓b_quo, ↓b_rem, ↓b_lss, ↓b_leq, ↓b_gtr, ↓b_geq, ↓b_eql, ↓b_neq, ↓u_not, ↓s_add, ↓s_eql, ↓s_neq, ↓i_max2, ↓i_min2, ↓x20, ↓x21, ↓x30, ↓x31, ↓x32, ↓q_b_add, ↓q_b_sub, ↓q_b_mul, ↓q_b_quo, ↓q_b_rem, ↓q_b_lss, ↓q_b_leq, ↓q_b_gtr, ↓q_b_geq, ↓q_b_eql, ↓q_b_neq, ↓q_u_not, ↓q_s_add, ↓q_s_eql, ↓q_s_neq, ↓q_i_max2, ↓q_i_min2, ↓q_x20, ↓q_x21, ↓q_x30, ↓q_x31, ↓q_x32, ↓m_box, decide_true, decide_false, tt_and, ff_and, Nat.zero_add, Int.toNat_natCast, cells_agg, cells_bool, cells_int, cells_str, cells_ptr, cells_slice, ↓qend_eq, ↓jump_none, ↓jump_ret, ↓jump_exit, ↓marks_one, cond_true, cond_false, Bool.not_true, Bool.not_false]
    refine ⟨.ready, none, by simp, c.rc, ?_⟩
    subst hl
    have hn1 : ∀ k, k ≠ u + 2 → (h4.setIfInBounds (u + 2) (mk .exhausted none))[k]? = h4[k]? := fun k hk => by rw [Array.getElem?_setIfInBounds, if_neg (fun e => hk e.symm)]
    have o6 : Only [u + 2] h4 (h4.setIfInBounds (u + 2) (mk .exhausted none)) := Only.set (Only.refl _ _) (.inl (by simp)) _
    have v6 := o6.at c.var (by simp)
    have d6 := o6.at c.df (by simp)
    have own6 := c.own.only o6 (fun k hk => by have := (c.own.ge k hk).1; simp; omega)
    have x6 := Only.fresh c.ext o6 (by simp; have := c.hu; omega)
    generalize h4.setIfInBounds (u + 2) (mk .exhausted none) = h6 at v6 d6 own6 x6 ⊢
    have k6 : cellH h6 u 0 = some v := by rw [cellH_of v6]; rfl
    simp (disch := first | assumption | (with_reducible exact Ext.refl _) | (with_reducible exact Keep.refl _ _) | (with_reducible exact Eq.refl _) | (intro _ he; cases he; assumption) | (intro _ he; with_reducible apply keep_cell' he; assumption; simp; done) | (intro _ he; with_reducible apply ext_cell' he; assumption; done) | (with_reducible first | exact pl_int _ _ | exact pl_byte _ | exact pl_u32 _ | exact pl_bool _ | exact pl_ptr _ | exact pl_slice _ _ _ | exact pl_map _ | exact pl_str _ | exact pl_func _ _ _) | ((rw [okW_setH]; repeat rw [okW_setH]); assumption) | ((with_reducible refine cellH_setH_same ?_ _); (repeat rw [okW_setH]); assumption) | ((rw [cellH_setH_off]; rotate_left; focus decide); (repeat (rw [cellH_setH_off]; rotate_left; focus decide)); first | assumption | ((with_reducible refine cellH_setH_same ?_ _); (repeat rw [okW_setH]); assumption)) | omega) only [↓hpR, ↓nilC_ptr, ↓nilC_func, ↓condP_true, ↓condP_false, ↓condP_bool, ↓guardP_true, ↓guardP_false, ↓guardP_bool_t, ↓guardP_bool_f, ↓skipP_undef, ↓pickP_bool, ↓b_add, ↓b_sub, ↓b_mul, ↓b_quo, ↓b_rem, ↓b_lss, ↓b_leq, ↓b_gtr, ↓b_geq, ↓b_eql, ↓b_neq, ↓u_not, ↓s_add, ↓s_eql, ↓s_neq, ↓i_max2, ↓i_min2, ↓x20, ↓x21, ↓x30, ↓x31, ↓x32, ↓q_b_add, ↓q_b_sub, ↓q_b_mul, ↓q_b_quo, ↓q_b_rem, ↓q_b_lss, ↓q_b_leq, ↓q_b_gtr, ↓q_b_geq, ↓q_b_eql, ↓q_b_neq, ↓q_u_not, ↓q_s_add, ↓q_s_eql, ↓q_s_neq, ↓q_i_max2, ↓q_i_min2, ↓q_x20, ↓q_x21, ↓q_x30, ↓q_x31, ↓q_x32, ↓m_box, decide_true, decide_false, tt_and, ff_and, Nat.zero_add, Int.toNat_natCast, cells_agg, cells_bool, cells_int, cells_str, cells_ptr, cells_slice, ↓qend_eq, ↓jump_none, ↓jump_ret, ↓jump_exit, ↓marks_one, cond_true, cond_false, Bool.not_true, Bool.not_false]
    refine ⟨d6, ?_⟩
    have o7 : Only [u + 1] h6 (h6.setIfInBounds (u + 1) (.deferred none)) := Only.set (Only.refl _ _) (.inl (by simp)) _
    refine hk _ v done ((own6.only o7 (fun k hk => by have := (own6.ge k hk).1; simp; omega)).low (by have := c.hu; omega)) (by simpa using c.perm) (Only.fresh x6 o7 (by simp; have := c.hu; omega))
  · rw [r_extract _ 0 _ rfl]
    simp (disch := first | assumption | (with_reducible exact Ext.refl _) | (with_reducible exact Keep.refl _ _) | (with_reducible exact Eq.refl _) | (intro _ he; cases he; assumption) | (intro _ he; with_reducible apply keep_cell' he; assumption; simp; done) | (intro _ he; with_reducible apply ext_cell' he; assumption; done) | (with_reducible first | exact pl_int _ _ | exact pl_byte _ | exact pl_u32 _ | exact pl_bool _ | exact pl_ptr _ | exact pl_slice _ _ _ | exact pl_map _ | exact pl_str _ | exact pl_func _ _ _) | ((rw [okW_setH]; repeat rw [okW_setH]); assumption) | ((with_reducible refine cellH_setH_same ?_ _); (repeat rw [okW_setH]); assumption) | ((rw [cellH_setH_off]; rotate_left; focus decide); (repeat (rw [cellH_setH_off]; rotate_left; focus decide)); first | assumption | ((with_reducible refine cellH_setH_same ?_ _); (repeat rw [okW_setH]); assumption)) | omega) only [↓hpR, ↓nilC_ptr, ↓nilC_func, ↓condP_true, ↓condP_false, ↓condP_bool, ↓guardP_true, ↓guardP_false, ↓guardP_bool_t, ↓guardP_bool_f, ↓skipP_undef, ↓pickP_bool, ↓b_add, ↓b_sub, ↓b_mul, ↓b_quo, ↓b_rem, ↓b_lss, ↓b_leq, ↓b_gtr, ↓b_geq, ↓b_eql, ↓b_neq, ↓u_not, ↓s_add, ↓s_eql, ↓s_neq, ↓i_max2, ↓i_min2, ↓x20, ↓x21, ↓x30, ↓x31, ↓x32, ↓q_b_add, ↓q_b_sub, ↓q_b_mul, ↓q_b_quo, ↓q_b_rem, ↓q_b_lss, ↓q_b_leq, ↓q_b_gtr, ↓q_b_geq, ↓q_b_eql, ↓q_b_neq, ↓q_u_not, ↓q_s_add, ↓q_s_eql, ↓q_s_neq, ↓q_i_max2, ↓q_i_min2, ↓q_x20, ↓q_x21, ↓q_x30, ↓q_x31, ↓q_x32, ↓m_box, decide_true, decide_false, tt_and, ff_and, Nat.zero_add, Int.toNat_natCast, cells_agg, cells_bool, cells_int, cells_str, cells_ptr, cells_slice, ↓qend_eq, ↓jump_none, ↓jump_ret, ↓jump_exit, ↓marks_one, cond_true, cond_false, Bool.not_true, Bool.not_false]
    rw [hent]
    simp (disch := first | assumption | (with_reducible exact Ext.refl _) | (with_reducible exact Keep.refl _ _) | (with_reducible exact Eq.refl _) | (intro _ he; cases he; assumption) | (intro _ he; with_reducible apply keep_cell' he; assumption; simp; done) | (intro _ he; with_reducible apply ext_cell' he; assumption; done) | (with_reducible first | exact pl_int _ _ | exact pl_byte _ | exact pl_u32 _ | exact pl_bool _ | exact pl_ptr _ | exact pl_slice _ _ _ | exact pl_map _ | exact pl_str _ | exact pl_func _ _ _) | ((rw [okW_setH]; repeat rw [okW_setH]); assumption) | ((with_reducible refine cellH_setH_same ?_ _); (repeat rw [okW_setH]); assumption) | ((rw [cellH_setH_off]; rotate_left; focus decide); (repeat (rw [cellH_setH_off]; rotate_left; focus decide)); first | assumption | ((with_reducible refine cellH_setH_same ?_ _); (repeat rw [okW_setH]); assumption)) | omega) only [↓hpR, ↓nilC_ptr, ↓nilC_func, ↓condP_true, ↓condP_false, ↓condP_bool, ↓guardP_true, ↓guardP_false, ↓guardP_bool_t, ↓guardP_bool_f, ↓skipP_undef, ↓pickP_bool, ↓b_add, ↓b_sub, ↓b_mul, ↓b_quo, ↓b_rem, ↓b_lss, ↓b_leq, ↓b_gtr, ↓b_geq, ↓b_eql, ↓b_neq, ↓u_not, ↓s_add, ↓s_eql, ↓s_neq, ↓i_max2, ↓i_min2, ↓x20, ↓x21, ↓x30, ↓x31, ↓x32, ↓q_b_add, ↓q_b_sub, ↓q_b_mul, ↓q_b_quo, ↓q_b_rem, ↓q_b_lss, ↓q_b_leq, ↓q_b_gtr, ↓q_b_geq, ↓q_b_eql, ↓q_b_neq, ↓q_u_not, ↓q_s_add, ↓q_s_eql, ↓q_s_neq, ↓q_i_max2, ↓q_i_min2, ↓q_x20, ↓q_x21, ↓q_x30, ↓q_x31, ↓q_x32, ↓m_box, decide_true, decide_false, tt_and, ff_and, Nat.zero_add, Int.toNat_natCast, cells_agg, cells_bool, cells_int, cells_str, cells_ptr, cells_slice, ↓qend_eq, ↓jump_none, ↓jump_ret, ↓jump_exit, ↓marks_one, cond_true, cond_false, Bool.not_true, Bool.not_false]
    have hne : ∀ k, k ≠ u + 3 → k ∉ [u + 3] := fun k hk => by simpa using hk
    have rc5 := o5.at c.rc (hne _ (by omega))
    refine Y _ _ _ rc5 ⟨rc5, ?_⟩
    have hmu := c.hm
    have hhu := c.hu
    have hol : ∀ k ∈ blk v, u + 3 < k := fun k hk => by have := (c.own.ge k hk).1; omega
    have o6 : Only [u + 3, u + 2] h4 (h5.setIfInBounds (u + 2) (mk .busy none)) := (o5.mono (by simp)).set (.inl (by simp)) _
    have rc6 : (h5.setIfInBounds (u + 2) (mk .busy none))[u + 2]? = some (mk .busy none) := set_same rc5 _
    have o56 : Only [u + 2] h5 (h5.setIfInBounds (u + 2) (mk .busy none)) := Only.set (Only.refl _ _) (.inl (by simp)) _
    have it6 := it5.only o56 (by simp; omega) (by simp)
    have df6 := o6.at c.df (by simp)
    have var6 := o6.at c.var (by simp)
    have own6 := c.own.only o6 (fun k hk => by have := hol k hk; simp; omega)
    have x6 := Only.fresh c.ext o6 (by simp; omega)
    generalize h5.setIfInBounds (u + 2) (mk .busy none) = h6 at rc6 it6 df6 var6 own6 x6 ⊢
    have k6 : cellH h6 u 0 = some v := by rw [cellH_of var6]; rfl
    unfold intV
    simp (disch := first | assumption | (with_reducible exact Ext.refl _) | (with_reducible exact Keep.refl _ _) | (with_reducible exact Eq.refl _) | (intro _ he; cases he; assumption) | (intro _ he; with_reducible apply keep_cell' he; assumption; simp; done) | (intro _ he; with_reducible apply ext_cell' he; assumption; done) | (with_reducible first | exact pl_int _ _ | exact pl_byte _ | exact pl_u32 _ | exact pl_bool _ | exact pl_ptr _ | exact pl_slice _ _ _ | exact pl_map _ | exact pl_str _ | exact pl_func _ _ _) | ((rw [okW_setH]; repeat rw [okW_setH]); assumption) | ((with_reducible refine cellH_setH_same ?_ _); (repeat rw [okW_setH]); assumption) | ((rw [cellH_setH_off]; rotate_left; focus decide); (repeat (rw [cellH_setH_off]; rotate_left; focus decide)); first | assumption | ((with_reducible refine cellH_setH_same ?_ _); (repeat rw [okW_setH]); assumption)) | omega) only [↓hpR, ↓nilC_ptr, ↓nilC_func, ↓condP_true, ↓condP_false, ↓condP_bool, ↓guardP_true, ↓guardP_false, ↓guardP_bool_t, ↓guardP_bool_f, ↓skipP_undef, ↓pickP_bool, ↓b_add, ↓b_sub, ↓b_mul, ↓b_quo, ↓b_rem, ↓b_lss, ↓b_leq, ↓b_gtr, ↓b_geq, ↓b_eql, ↓b_neq, ↓u_not, ↓s_add, ↓s_eql, ↓s_neq, ↓i_max2, ↓i_min2, ↓x20, ↓x21, ↓x30, ↓x31, ↓x32, ↓q_b_add, ↓q_b_sub, ↓q_b_mul, ↓q_b_quo, ↓q_b_rem, ↓q_b_lss, ↓q_b_leq, ↓q_b_gtr, ↓q_b_geq, ↓q_b_eql, ↓q_b_neq, ↓q_u_not, ↓q_s_add, ↓q_s_eql, ↓q_s_neq, ↓q_i_max2, ↓q_i_min2, ↓q_x20, ↓q_x21, ↓q_x30, ↓q_x31, ↓q_x32, ↓m_box, decide_true, decide_false, tt_and, ff_and, Nat.zero_add, Int.toNat_natCast, cells_agg, cells_bool, cells_int, cells_str, cells_ptr, cells_slice, ↓qend_eq, ↓jump_none, ↓jump_ret, ↓jump_exit, ↓marks_one, cond_true, cond_false, Bool.not_true, Bool.not_false]
    have z6 := it6.lt.1
    have hdl : done.length + 1 ≤ 1000000 := by
      have := c.perm.length_eq
      rw [hsp] at this
      simp at this
      omega
    have x7 := (Ext.refl h6).push (.cells #[.int .i64 p.1] 3 (0, 0))
    refine o_append Try.underlying33 (z := .int .i64 0) (size := 1) (bytes := 8) (e := 3) info3 rfl (by omega) _ _ (own6.ext x7) (m := 1) (news := [.int .i64 p.1]) rfl
      (fun i u hi => by rw [Nat.zero_add, cellH_push_new]; simpa using hi) (fun u hu => by simp only [List.mem_singleton] at hu; subst hu; rfl) (by omega) (by omega) (by simp; omega) ?_
    intro v8 h8 own8 o8 _ _
    have hb8 : ∀ k, k ≤ u + 3 → k ∉ blk v := fun k hk hm => by have := hol k hm; omega
    have var8 := o8.at (x7.at var6) (hb8 _ (by omega))
    have w8 : okW h8 u 0 = true := okW_of var8 (by simp)
    have hp8 := own8.plain
    simp (disch := first | assumption | (with_reducible exact Ext.refl _) | (with_reducible exact Keep.refl _ _) | (with_reducible exact Eq.refl _) | (intro _ he; cases he; assumption) | (intro _ he; with_reducible apply keep_cell' he; assumption; simp; done) | (intro _ he; with_reducible apply ext_cell' he; assumption; done) | (with_reducible first | exact pl_int _ _ | exact pl_byte _ | exact pl_u32 _ | exact pl_bool _ | exact pl_ptr _ | exact pl_slice _ _ _ | exact pl_map _ | exact pl_str _ | exact pl_func _ _ _) | ((rw [okW_setH]; repeat rw [okW_setH]); assumption) | ((with_reducible refine cellH_setH_same ?_ _); (repeat rw [okW_setH]); assumption) | ((rw [cellH_setH_off]; rotate_left; focus decide); (repeat (rw [cellH_setH_off]; rotate_left; focus decide)); first | assumption | ((with_reducible refine cellH_setH_same ?_ _); (repeat rw [okW_setH]); assumption)) | omega) only [↓hpR, ↓nilC_ptr, ↓nilC_func, ↓condP_true, ↓condP_false, ↓condP_bool, ↓guardP_true, ↓guardP_false, ↓guardP_bool_t, ↓guardP_bool_f, ↓skipP_undef, ↓pickP_bool, ↓b_add, ↓b_sub, ↓b_mul, ↓b_quo, ↓b_rem, ↓b_lss, ↓b_leq, ↓b_gtr, ↓b_geq, ↓b_eql, ↓b_neq, ↓u_not, ↓s_add, ↓s_eql, ↓s_neq, ↓i_max2, ↓i_min2, ↓x20, ↓x21, ↓x30, ↓x31, ↓x32, ↓q_b_add, ↓q_b_sub, ↓q_b_mul, ↓q_b_quo, ↓q_b_rem, ↓q_b_lss, ↓q_b_leq, ↓q_b_gtr, ↓q_b_geq, ↓q_b_eql, ↓q_b_neq, ↓q_u_not, ↓q_s_add, ↓q_s_eql, ↓q_s_neq, ↓q_i_max2, ↓q_i_min2, ↓q_x20, ↓q_x21, ↓q_x30, ↓q_x31, ↓q_x32, ↓m_box, decide_true, decide_false, tt_and, ff_and, Nat.zero_add, Int.toNat_natCast, cells_agg, cells_bool, cells_int, cells_str, cells_ptr, cells_slice, ↓qend_eq, ↓jump_none, ↓jump_ret, ↓jump_exit, ↓marks_one, cond_true, cond_false, Bool.not_true, Bool.not_false]
    have o9 : Only [u] h8 (setH h8 u 0 v8) := setH_only (Only.refl _ _) (.inl (by simp)) _ _
    have rc9 := o9.at (o8.at (x7.at rc6) (hb8 _ (by omega))) (by simp)
    refine ⟨rc9, ?_⟩
    simp only [Option.isNone_none, cond_true]
    simp (disch := first | assumption | (with_reducible exact Ext.refl _) | (with_reducible exact Keep.refl _ _) | (with_reducible exact Eq.refl _) | (intro _ he; cases he; assumption) | (intro _ he; with_reducible apply keep_cell' he; assumption; simp; done) | (intro _ he; with_reducible apply ext_cell' he; assumption; done) | (with_reducible first | exact pl_int _ _ | exact pl_byte _ | exact pl_u32 _ | exact pl_bool _ | exact pl_ptr _ | exact pl_slice _ _ _ | exact pl_map _ | exact pl_str _ | exact pl_func _ _ _) | ((rw [okW_setH]; repeat rw [okW_setH]); assumption) | ((with_reducible refine cellH_setH_same ?_ _); (repeat rw [okW_setH]); assumption) | ((rw [cellH_setH_off]; rotate_left; focus decide); (repeat (rw [cellH_setH_off]; rotate_left; focus decide)); first | assumption | ((with_reducible refine cellH_setH_same ?_ _); (repeat rw [okW_setH]); assumption)) | omega) only [↓hpR, ↓nilC_ptr, ↓nilC_func, ↓condP_true, ↓condP_false, ↓condP_bool, ↓guardP_true, ↓guardP_false, ↓guardP_bool_t, ↓guardP_bool_f, ↓skipP_undef, ↓pickP_bool, ↓b_add, ↓b_sub, ↓b_mul, ↓b_quo, ↓b_rem, ↓b_lss, ↓b_leq, ↓b_gtr, ↓b_geq, ↓b_eql, ↓b_neq, ↓u_not, ↓s_add, ↓s_eql, ↓s_neq, ↓i_max2, ↓i_min2, ↓x20, ↓x21, ↓x30, ↓x31, ↓x32, ↓q_b_add, ↓q_b_sub, ↓q_b_mul, ↓q_b_quo, ↓q_b_rem, ↓q_b_lss, ↓q_b_leq, ↓q_b_gtr, ↓q_b_geq, ↓q_b_eql, ↓q_b_neq, ↓q_u_not, ↓q_s_add, ↓q_s_eql, ↓q_s_neq, ↓q_i_max2, ↓q_i_min2, ↓q_x20, ↓q_x21, ↓q_x30, ↓q_x31, ↓q_x32, ↓m_box, decide_true, decide_false, tt_and, ff_and, Nat.zero_add, Int.toNat_natCast, cells_agg, cells_bool, cells_int, cells_str, cells_ptr, cells_slice, ↓qend_eq, ↓jump_none, ↓jump_ret, ↓jump_exit, ↓marks_one, cond_true, cond_false, Bool.not_true, Bool.not_false]
    have o10 : Only [u + 2] (setH h8 u 0 v8) ((setH h8 u 0 v8).setIfInBounds (u + 2) (mk .ready none)) := Only.set (Only.refl _ _) (.inl (by simp)) _
    have var9 : (setH h8 u 0 v8)[u]? = some (.cells #[v8] 33 (0, 0)) := by rw [setH_at var8]; rfl
    have hol8 : ∀ k ∈ blk v8, u + 3 < k := fun k hk => by have := (own8.ge k hk).1; omega
    have it8 := (it6.only (x7.only []) (by simp) (by simp)).only o8 (hb8 _ (by omega)) (hb8 _ (by omega))
    have c' : CS h ((setH h8 u 0 v8).setIfInBounds (u + 2) (mk .ready none)) u (u + 3) mb (mk .ready none) m (l1 ++ l2) (done ++ [p.1]) v8 := by
      refine ⟨?_, (it8.only o9 (by simp; omega) (by simp)).only o10 (by simp; omega) (by simp), ?_, set_same rc9 _, o10.at (o9.at (o8.at (x7.at df6) (hb8 _ (by omega))) (by simp)) (by simp), o10.at var9 (by simp), ?_, hhu, by omega, hmu⟩
      · refine Only.fresh (Only.fresh (Only.fresh (x6.trans x7) o8 (fun k hk => by have := hol k hk; omega)) o9 (by simp; omega)) o10 (by simp; omega)
      · refine List.Perm.trans ?_ c.perm
        rw [hsp]
        simp only [List.map_append, List.map_cons, List.append_assoc, List.singleton_append]
        exact List.Perm.append_left _ (List.perm_middle.symm)
      · have h1 := (own8.only o9 (fun k hk => by have := hol8 k hk; simp; omega)).only o10 (fun k hk => by have := hol8 k hk; simp; omega)
        show Own _ _ 3 1 v8 _ _
        rw [List.length_append]
        simpa [ints, intV] using h1
    refine ⟨⟨_, _, _, c'⟩, ?_⟩
    rw [c'.it.leftN_eq, c.it.leftN_eq, hsp]
    simp
theorem sortedKeys_spec {h : Heap} {b mb : Nat} {m : List (Int × Value)} (hb : cellH h b 0 = some (.map (some mb))) (M : SetAt h mb m) (hn : m.length ≤ 1000000) {K : Value → Heap → Prop} (hk : ∀ h' v l, OwnI h' h.size v l → Rise l → (∀ x, x ∈ l ↔ x ∈ m.map (·.1)) → Ext h h' → K v h') :
    CallF Try.prog 63 #[.func (.func 74) #[] #[.pointer (some ⟨b, 0, none⟩)]] h K := by
  apply S63
  unfold F63
  refine collect_spec hb M hn fun h1 v l own hp x1 => ?_
  have hl : l.length ≤ 1000000 := by rw [hp.length_eq, List.length_map]; exact hn
  refine sort_spec own hl fun h2 own2 o2 => ?_
  obtain ⟨s1, s2, s3⟩ := sorted_merge l
  refine hk h2 v _ ?_ (rise_of_sorted_nodup s1 ?_) (fun x => by rw [s2, hp.mem_iff]) (Only.fresh x1 o2 (fun k hk => (own.ge k hk).1))
  · exact own2
  · exact ((List.mergeSort_perm l _).trans hp).nodup_iff.2 M.nodup
end Go.Proofs.Ytopflbjjbindkaa
