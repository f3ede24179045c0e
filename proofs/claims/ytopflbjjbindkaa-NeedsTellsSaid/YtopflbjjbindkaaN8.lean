/- Reach. -/
import Derived.Test.YtopflbjjbindkaaN7
set_option linter.unusedVariables false
set_option linter.unusedSimpArgs false
namespace Go.Proofs.Ytopflbjjbindkaa
open Go.Hp Go.RowKit

theorem appendI {h : Heap} {base : Nat} {v w : Value} {l m : List Int} (own : OwnI h base v l) (s : SlI h w m) (hl : l.length + m.length ≤ 1000000) (hb : base ≤ h.size) {K : Value → Heap → Prop}
    (hk : ∀ h' v', OwnI h' base v' (l ++ m) → Only (blk v) h h' → K v' h') : OpN Try.prog (Go.builtin .append #[33, 33] 33 #[false, false] #[v, w]) h K := by
  by_cases h0 : 0 < m.length
  · obtain ⟨b, o, cap, rfl, hc⟩ := SlI.cell s h0
    refine o_append Try.underlying33 (z := .int .i64 0) (size := 1) (bytes := 8) (e := 3) info3 rfl (by omega) _ _ own (m := m.length) (news := ints m) (by simp [ints])
      (fun i u hi => ?_) (fun u hu => ?_) (by omega) (by omega) hb ?_
    · unfold ints at hi
      rw [List.getElem?_map] at hi
      cases hx : m[i]? with
      | none => rw [hx] at hi; cases hi
      | some y => rw [hx] at hi; simp only [Option.map_some, Option.some.injEq] at hi; rw [← hi]; exact hc i y hx
    · unfold ints at hu
      obtain ⟨y, _, rfl⟩ := List.mem_map.1 hu
      rfl
    · intro v8 h8 own8 o8 _ _
      refine hk h8 v8 ?_ o8
      show Own h8 base 3 1 v8 _ _
      rw [List.length_append]
      simpa [ints, intV] using own8
  · have hm0 : m = [] := List.length_eq_zero_iff.1 (by omega)
    subst hm0
    obtain ⟨A, cap, rfl⟩ := SlR.len s
    obtain ⟨i, hi⟩ : ∃ i, Try.prog.info? 3 = some i := by
      have := info3
      cases hx : Try.prog.info? 3 with
      | none => rw [hx] at this; cases this
      | some i => exact ⟨i, rfl⟩
    show OpN Try.prog (Go.builtin .append #[33, 33] 33 #[false, false] #[v, .slice A 0 cap]) h K
    rw [o_append_empty Try.underlying33 hi _ _ own]
    exact hk h v (by rw [List.append_nil]; exact own) (Only.refl _ _)
theorem own_cut {h : Heap} {base : Nat} {v : Value} {l : List Int} {y : Int} (own : OwnI h base v (l ++ [y])) : ∃ A cap, v = .slice A (l.length + 1) cap ∧ l.length + 1 ≤ cap ∧ OwnI h base (.slice A l.length cap) l ∧ ∃ g, A = some ⟨g, 0, none⟩ ∧ cellH h g l.length = some (.int .i64 y) ∧ blk v = [g] ∧ blk (.slice A l.length cap) = [g] := by
  rcases own.2 with ⟨_, h0⟩ | ⟨g, cap, cur, hv, hb, hg, h1, h2, h3, h4⟩
  · simp at h0
  have hl : (l ++ [y]).length = l.length + 1 := by simp
  rw [hl] at h1 h4 hv
  refine ⟨_, cap, hv, h1, ⟨by simp [ints], .inr ⟨g, cap, cur, rfl, hb, hg, by omega, h2, h3, ?_⟩⟩, g, rfl, ?_, by rw [hv]; simp [blk, Value.ownBlock], by simp [blk, Value.ownBlock]⟩
  · have := congrArg (List.take l.length) h4
    rw [List.take_take, Nat.mul_one, Nat.min_eq_left (by omega)] at this
    rw [Nat.mul_one, this]
    unfold ints
    rw [List.map_append, List.take_left' (by simp)]
  · rw [cellH_of hg]
    have := congrArg (fun z => z[l.length]?) h4
    simp only [List.getElem?_take_of_lt (show l.length < (l.length + 1) * 1 by omega)] at this
    rw [Array.getElem?_toList] at this
    rw [this]
    unfold ints
    rw [List.map_append, List.getElem?_append_right (by simp)]
    simp [intV]

def Way (nn : List (List Int)) (i j : Nat) : Prop := (j : Int) ∈ waysL nn i
inductive Lead (nn : List (List Int)) (a : Nat) : Nat → Prop
  | one {j : Nat} : Way nn a j → Lead nn a j
  | step {i j : Nat} : Lead nn a i → Way nn i j → Lead nn a j
theorem mem_ways {nn : List (List Int)} {i : Nat} {t : Int} (h : t ∈ waysL nn i) : ∃ j : Nat, j < nn.length ∧ t = (j : Int) := by
  have := (List.mem_filter.1 h).2
  unfold inB at this
  simp only [Bool.and_eq_true, decide_eq_true_eq] at this
  exact ⟨t.toNat, by omega, by omega⟩
theorem ways_length {nn : List (List Int)} {M : Nat} (hM : ∀ l ∈ nn, l.length ≤ M) (i : Nat) : (waysL nn i).length ≤ M := by
  refine Nat.le_trans (List.length_filter_le _ _) ?_
  rw [List.getD_eq_getElem?_getD]
  cases hx : nn[i]? with
  | none => simp
  | some l => exact hM l (List.mem_of_getElem? hx)
def bools (l : List Bool) : Array Value := (l.map Value.bool).toArray
theorem bools_get {l : List Bool} {i : Nat} : (bools l)[i]? = (l[i]?).map Value.bool := by simp [bools]
theorem bools_set (l : List Bool) (i : Nat) (b : Bool) : (bools l).setIfInBounds i (.bool b) = bools (l.set i b) := by simp [bools]
theorem bools_rep (n : Nat) (b : Bool) : bools (List.replicate n b) = Array.replicate n (.bool b) := by simp [bools]
theorem bools_size (l : List Bool) : (bools l).size = l.length := by simp [bools]
def isF : Value → Bool | .bool b => !b | _ => false
def unseen (hh : Heap) (b : Nat) : Nat := match hh[b]? with | some (.cells c _ _) => c.toList.countP isF | _ => 0
theorem unseen_eq {hh : Heap} {b : Nat} {l : List Bool} {e : TypeId} {f : Nat × Nat} (h : hh[b]? = some (.cells (bools l) e f)) : unseen hh b = l.count false := by
  unfold unseen
  rw [h]
  unfold bools
  simp only [List.countP_map]
  unfold List.count
  congr 1
  funext b
  cases b <;> rfl
theorem count_seen {l : List Bool} {i : Nat} (h : l[i]? = some false) : (l.set i true).count false + 1 = l.count false ∧ (l.set i true).count true = l.count true + 1 := by
  induction l generalizing i with
  | nil => simp at h
  | cons x l ih =>
    cases i with
    | zero => simp at h; subst h; simp
    | succ i =>
      simp at h
      have := ih h
      cases x <;> simp [List.count_cons] <;> omega

theorem reach_spec {h : Heap} {v : Value} {nn : List (List Int)} (N : NetAt h v nn) (a : Int) {M : Nat} (hM : ∀ l ∈ nn, l.length ≤ M) (hs : (nn.length + 1) * M ≤ 1000000) (hn : nn.length ≤ 1000000) {K : Value → Heap → Prop}
    (hno : inB nn.length a = false → K (.slice none 0 0) h)
    (hk : inB nn.length a = true → ∀ h' v' (p : Nat → Bool), (∀ i, i < nn.length → (p i = true ↔ Lead nn a.toNat i)) → OwnI h' h.size v' (idx nn.length p) → Ext h h' → K v' h') : CallF Try.prog 36 #[v, .int .i64 a] h K := by
  apply S36
  unfold F36
  obtain ⟨A, cap, hv⟩ := SlR.len N
  rw [hv]
  refine has_spec a ?_
  cases hin : inB nn.length a with
  | false =>
    simp (disch := first | assumption | (with_reducible exact Ext.refl _) | (with_reducible exact Keep.refl _ _) | (with_reducible exact Eq.refl _) | (intro _ he; cases he; assumption) | (intro _ he; with_reducible apply keep_cell' he; assumption; simp; done) | (intro _ he; with_reducible apply ext_cell' he; assumption; done) | (with_reducible first | exact pl_int _ _ | exact pl_byte _ | exact pl_u32 _ | exact pl_bool _ | exact pl_ptr _ | exact pl_slice _ _ _ | exact pl_map _ | exact pl_str _ | exact pl_func _ _ _) | ((rw [okW_setH]; repeat rw [okW_setH]); assumption) | ((with_reducible refine cellH_setH_same ?_ _); (repeat rw [okW_setH]); assumption) | ((rw [cellH_setH_off]; rotate_left; focus decide); (repeat (rw [cellH_setH_off]; rotate_left; focus decide)); first | assumption | ((with_reducible refine cellH_setH_same ?_ _); (repeat rw [okW_setH]); assumption)) | omega) only [↓hpR, ↓nilC_ptr, ↓nilC_func, ↓condP_true, ↓condP_false, ↓condP_bool, ↓guardP_true, ↓guardP_false, ↓guardP_bool_t, ↓guardP_bool_f, ↓skipP_undef, ↓pickP_bool, ↓b_add, ↓b_sub, ↓b_mul, ↓b_quo, ↓b_rem, ↓b_lss, ↓b_leq, ↓b_gtr, ↓b_geq, ↓b_eql, ↓b_neq, ↓u_not, ↓s_add, ↓s_eql, ↓s_neq, ↓i_max2, ↓i_min2, ↓x20, ↓x21, ↓x30, ↓x31, ↓x32, ↓q_b_add, ↓q_b_sub, ↓q_b_mul, ↓q_b_quo, ↓q_b_rem, ↓q_b_lss, ↓q_b_leq, ↓q_b_gtr, ↓q_b_geq, ↓q_b_eql, ↓q_b_neq, ↓q_u_not, ↓q_s_add, ↓q_s_eql, ↓q_s_neq, ↓q_i_max2, ↓q_i_min2, ↓q_x20, ↓q_x21, ↓q_x30, ↓q_x31, ↓q_x32, ↓m_box, decide_true, decide_false, tt_and, ff_and, Nat.zero_add, Int.toNat_natCast, cells_agg, cells_bool, cells_int, cells_str, cells_ptr, cells_slice, ↓qend_eq, ↓jump_none, ↓jump_ret, ↓jump_exit, ↓marks_one, cond_true, cond_false, Bool.not_true, Bool.not_false]
    exact hno hin
  | true =>
    have hk := hk hin
    unfold inB at hin
    simp only [Bool.and_eq_true, decide_eq_true_eq] at hin
    obtain ⟨a0, ha0⟩ : ∃ a0 : Nat, a = (a0 : Int) := ⟨a.toNat, by omega⟩
    subst ha0
    simp only [Int.toNat_natCast] at hk
    have haln : a0 < nn.length := by omega
    have hM1 : M ≤ 1000000 := Nat.le_trans (Nat.le_mul_of_pos_left M (by omega)) hs
    have hML : ∀ l ∈ nn, l.length ≤ 1000000 := fun l hl => Nat.le_trans (hM l hl) hM1
    simp (disch := first | assumption | (with_reducible exact Ext.refl _) | (with_reducible exact Keep.refl _ _) | (with_reducible exact Eq.refl _) | (intro _ he; cases he; assumption) | (intro _ he; with_reducible apply keep_cell' he; assumption; simp; done) | (intro _ he; with_reducible apply ext_cell' he; assumption; done) | (with_reducible first | exact pl_int _ _ | exact pl_byte _ | exact pl_u32 _ | exact pl_bool _ | exact pl_ptr _ | exact pl_slice _ _ _ | exact pl_map _ | exact pl_str _ | exact pl_func _ _ _) | ((rw [okW_setH]; repeat rw [okW_setH]); assumption) | ((with_reducible refine cellH_setH_same ?_ _); (repeat rw [okW_setH]); assumption) | ((rw [cellH_setH_off]; rotate_left; focus decide); (repeat (rw [cellH_setH_off]; rotate_left; focus decide)); first | assumption | ((with_reducible refine cellH_setH_same ?_ _); (repeat rw [okW_setH]); assumption)) | omega) only [↓hpR, ↓nilC_ptr, ↓nilC_func, ↓condP_true, ↓condP_false, ↓condP_bool, ↓guardP_true, ↓guardP_false, ↓guardP_bool_t, ↓guardP_bool_f, ↓skipP_undef, ↓pickP_bool, ↓b_add, ↓b_sub, ↓b_mul, ↓b_quo, ↓b_rem, ↓b_lss, ↓b_leq, ↓b_gtr, ↓b_geq, ↓b_eql, ↓b_neq, ↓u_not, ↓s_add, ↓s_eql, ↓s_neq, ↓i_max2, ↓i_min2, ↓x20, ↓x21, ↓x30, ↓x31, ↓x32, ↓q_b_add, ↓q_b_sub, ↓q_b_mul, ↓q_b_quo, ↓q_b_rem, ↓q_b_lss, ↓q_b_leq, ↓q_b_gtr, ↓q_b_geq, ↓q_b_eql, ↓q_b_neq, ↓q_u_not, ↓q_s_add, ↓q_s_eql, ↓q_s_neq, ↓q_i_max2, ↓q_i_min2, ↓q_x20, ↓q_x21, ↓q_x30, ↓q_x31, ↓q_x32, ↓m_box, decide_true, decide_false, tt_and, ff_and, Nat.zero_add, Int.toNat_natCast, cells_agg, cells_bool, cells_int, cells_str, cells_ptr, cells_slice, ↓qend_eq, ↓jump_none, ↓jump_ret, ↓jump_exit, ↓marks_one, cond_true, cond_false, Bool.not_true, Bool.not_false]
    rw [← hv]
    have hrow : rowOf #[.bool false] (nn.length * 1) = bools (List.replicate nn.length false) := by rw [Nat.mul_one, bools_rep]; exact rowOf_one _ _
    rw [hrow]
    have x1 := (Ext.refl h).push (.cells (bools (List.replicate nn.length false)) 4 (0, 0))
    have p1 := push_new h (.cells (bools (List.replicate nn.length false)) 4 (0, 0))
    have z1 : (h.push (.cells (bools (List.replicate nn.length false)) 4 (0, 0))).size = h.size + 1 := by simp
    generalize h.push (.cells (bools (List.replicate nn.length false)) 4 (0, 0)) = h1 at x1 p1 z1 ⊢
    refine ways_spec (N.ext x1) haln hML fun h2 v2 own2 x2 => ?_
    refine ⟨fun x hh => ∃ (T : List Int) (sn : List Bool), OwnI hh (h.size + 1) x T ∧ hh[h.size]? = some (.cells (bools sn) 4 (0, 0)) ∧ sn.length = nn.length ∧ Ext h hh ∧ h.size < hh.size ∧
        (∀ t ∈ T, ∃ i : Nat, i < nn.length ∧ t = (i : Int) ∧ Lead nn a0 i) ∧ (∀ i : Nat, sn[i]? = some true → Lead nn a0 i) ∧
        (∀ j : Nat, Way nn a0 j → sn[j]? = some true ∨ (j : Int) ∈ T) ∧ (∀ i j : Nat, sn[i]? = some true → Way nn i j → sn[j]? = some true ∨ (j : Int) ∈ T) ∧ T.length ≤ (1 + sn.count true) * M,
      fun x hh => unseen hh h.size * (M + 1) + (match x with | .slice _ n _ => n | _ => 0), ⟨waysL nn a0, List.replicate nn.length false, own2.low (by omega), x2.at p1, by simp, x1.trans x2, by have := x2.size; omega, fun t ht => ?_, fun i hi => ?_, fun j hj => .inr hj, fun i j hi => ?_, ?_⟩, ?_⟩
    · obtain ⟨j, hj, rfl⟩ := mem_ways ht
      exact ⟨j, hj, rfl, .one ht⟩
    · rw [List.getElem?_replicate] at hi; split at hi <;> simp at hi
    · rw [List.getElem?_replicate] at hi; split at hi <;> simp at hi
    · rw [List.count_replicate]; simp; exact ways_length hM _
    rintro js x h3 ⟨T, sn, own3, p3, hsl, x3, z3, hT, hS, hA, hB, hTl⟩
    have hcle : sn.count true ≤ nn.length := by rw [← hsl]; exact List.count_le_length
    have hTb : T.length ≤ 1000000 := Nat.le_trans hTl (Nat.le_trans (Nat.mul_le_mul_right M (by omega)) hs)
    rcases List.eq_nil_or_concat T with rfl | ⟨T0, t, rfl⟩
    · obtain ⟨A3, c3, hx⟩ := own3.len
      simp (disch := first | assumption | (with_reducible exact Ext.refl _) | (with_reducible exact Keep.refl _ _) | (with_reducible exact Eq.refl _) | (intro _ he; cases he; assumption) | (intro _ he; with_reducible apply keep_cell' he; assumption; simp; done) | (intro _ he; with_reducible apply ext_cell' he; assumption; done) | (with_reducible first | exact pl_int _ _ | exact pl_byte _ | exact pl_u32 _ | exact pl_bool _ | exact pl_ptr _ | exact pl_slice _ _ _ | exact pl_map _ | exact pl_str _ | exact pl_func _ _ _) | ((rw [okW_setH]; repeat rw [okW_setH]); assumption) | ((with_reducible refine cellH_setH_same ?_ _); (repeat rw [okW_setH]); assumption) | ((rw [cellH_setH_off]; rotate_left; focus decide); (repeat (rw [cellH_setH_off]; rotate_left; focus decide)); first | assumption | ((with_reducible refine cellH_setH_same ?_ _); (repeat rw [okW_setH]); assumption)) | omega) only [↓hpR, ↓nilC_ptr, ↓nilC_func, ↓condP_true, ↓condP_false, ↓condP_bool, ↓guardP_true, ↓guardP_false, ↓guardP_bool_t, ↓guardP_bool_f, ↓skipP_undef, ↓pickP_bool, ↓b_add, ↓b_sub, ↓b_mul, ↓b_quo, ↓b_rem, ↓b_lss, ↓b_leq, ↓b_gtr, ↓b_geq, ↓b_eql, ↓b_neq, ↓u_not, ↓s_add, ↓s_eql, ↓s_neq, ↓i_max2, ↓i_min2, ↓x20, ↓x21, ↓x30, ↓x31, ↓x32, ↓q_b_add, ↓q_b_sub, ↓q_b_mul, ↓q_b_quo, ↓q_b_rem, ↓q_b_lss, ↓q_b_leq, ↓q_b_gtr, ↓q_b_geq, ↓q_b_eql, ↓q_b_neq, ↓q_u_not, ↓q_s_add, ↓q_s_eql, ↓q_s_neq, ↓q_i_max2, ↓q_i_min2, ↓q_x20, ↓q_x21, ↓q_x30, ↓q_x31, ↓q_x32, ↓m_box, decide_true, decide_false, tt_and, ff_and, Nat.zero_add, Int.toNat_natCast, cells_agg, cells_bool, cells_int, cells_str, cells_ptr, cells_slice, ↓qend_eq, ↓jump_none, ↓jump_ret, ↓jump_exit, ↓marks_one, cond_true, cond_false, Bool.not_true, Bool.not_false, hx, List.length_nil]
      refine ⟨fun e => absurd e (by simp), fun _ => ?_⟩
      obtain ⟨P, hP⟩ : ∃ P : Nat → Bool, P = fun i => sn.getD i false := ⟨_, rfl⟩
      have hPl : ∀ i, i < nn.length → sn[i]? = some (P i) := fun i hi => by rw [hP]; simp only [List.getD_eq_getElem?_getD]; rw [List.getElem?_eq_getElem (by omega)]; rfl
      have hfin : ∀ i, i < nn.length → (P i = true ↔ Lead nn a0 i) := by
        intro i hi
        refine ⟨fun e => hS i (by rw [hPl i hi, e]), fun hl => ?_⟩
        have hall : ∀ j, Lead nn a0 j → sn[j]? = some true := by
          intro j hj
          induction hj with
          | one hw => exact (hA _ hw).resolve_right (by simp)
          | step _ hw ih => exact (hB _ _ ih hw).resolve_right (by simp)
        have := hall i hl
        rw [hPl i hi] at this
        injection this
      refine ⟨fun x y hh => ∃ i : Nat, y = .int .i64 (i : Int) ∧ i ≤ nn.length ∧ Ext h3 hh ∧ OwnI hh h3.size x (idx i P), fun x y hh => match y with | .int _ i => nn.length - i.toNat | _ => 0, ⟨0, rfl, Nat.zero_le _, Ext.refl _, Own.nil _ _ _ _⟩, ?_⟩
      rintro js x y h4 ⟨i, rfl, hi, x4, own4⟩
      have p4 := x4.at p3
      simp (disch := first | assumption | (with_reducible exact Ext.refl _) | (with_reducible exact Keep.refl _ _) | (with_reducible exact Eq.refl _) | (intro _ he; cases he; assumption) | (intro _ he; with_reducible apply keep_cell' he; assumption; simp; done) | (intro _ he; with_reducible apply ext_cell' he; assumption; done) | (with_reducible first | exact pl_int _ _ | exact pl_byte _ | exact pl_u32 _ | exact pl_bool _ | exact pl_ptr _ | exact pl_slice _ _ _ | exact pl_map _ | exact pl_str _ | exact pl_func _ _ _) | ((rw [okW_setH]; repeat rw [okW_setH]); assumption) | ((with_reducible refine cellH_setH_same ?_ _); (repeat rw [okW_setH]); assumption) | ((rw [cellH_setH_off]; rotate_left; focus decide); (repeat (rw [cellH_setH_off]; rotate_left; focus decide)); first | assumption | ((with_reducible refine cellH_setH_same ?_ _); (repeat rw [okW_setH]); assumption)) | omega) only [↓hpR, ↓nilC_ptr, ↓nilC_func, ↓condP_true, ↓condP_false, ↓condP_bool, ↓guardP_true, ↓guardP_false, ↓guardP_bool_t, ↓guardP_bool_f, ↓skipP_undef, ↓pickP_bool, ↓b_add, ↓b_sub, ↓b_mul, ↓b_quo, ↓b_rem, ↓b_lss, ↓b_leq, ↓b_gtr, ↓b_geq, ↓b_eql, ↓b_neq, ↓u_not, ↓s_add, ↓s_eql, ↓s_neq, ↓i_max2, ↓i_min2, ↓x20, ↓x21, ↓x30, ↓x31, ↓x32, ↓q_b_add, ↓q_b_sub, ↓q_b_mul, ↓q_b_quo, ↓q_b_rem, ↓q_b_lss, ↓q_b_leq, ↓q_b_gtr, ↓q_b_geq, ↓q_b_eql, ↓q_b_neq, ↓q_u_not, ↓q_s_add, ↓q_s_eql, ↓q_s_neq, ↓q_i_max2, ↓q_i_min2, ↓q_x20, ↓q_x21, ↓q_x30, ↓q_x31, ↓q_x32, ↓m_box, decide_true, decide_false, tt_and, ff_and, Nat.zero_add, Int.toNat_natCast, cells_agg, cells_bool, cells_int, cells_str, cells_ptr, cells_slice, ↓qend_eq, ↓jump_none, ↓jump_ret, ↓jump_exit, ↓marks_one, cond_true, cond_false, Bool.not_true, Bool.not_false]
      refine ⟨fun hlt => ?_, fun hge => ?_⟩
      · have hlt' : i < nn.length := by simpa using hlt
        have c4 : cellH h4 h.size i = some (.bool (P i)) := by rw [cellH_of p4, bools_get, hPl i hlt']; rfl
        have hil := idx_length i P
        have hsucc := idx_succ i P
        refine Join1.intro (fun x hh => Ext h3 hh ∧ OwnI hh h3.size x (idx (i + 1) P)) (fun J hJ => ?_) (fun x5 h5 hM => ?_)
        · simp (disch := first | assumption | (with_reducible exact Ext.refl _) | (with_reducible exact Keep.refl _ _) | (with_reducible exact Eq.refl _) | (intro _ he; cases he; assumption) | (intro _ he; with_reducible apply keep_cell' he; assumption; simp; done) | (intro _ he; with_reducible apply ext_cell' he; assumption; done) | (with_reducible first | exact pl_int _ _ | exact pl_byte _ | exact pl_u32 _ | exact pl_bool _ | exact pl_ptr _ | exact pl_slice _ _ _ | exact pl_map _ | exact pl_str _ | exact pl_func _ _ _) | ((rw [okW_setH]; repeat rw [okW_setH]); assumption) | ((with_reducible refine cellH_setH_same ?_ _); (repeat rw [okW_setH]); assumption) | ((rw [cellH_setH_off]; rotate_left; focus decide); (repeat (rw [cellH_setH_off]; rotate_left; focus decide)); first | assumption | ((with_reducible refine cellH_setH_same ?_ _); (repeat rw [okW_setH]); assumption)) | omega) only [↓hpR, ↓nilC_ptr, ↓nilC_func, ↓condP_true, ↓condP_false, ↓condP_bool, ↓guardP_true, ↓guardP_false, ↓guardP_bool_t, ↓guardP_bool_f, ↓skipP_undef, ↓pickP_bool, ↓b_add, ↓b_sub, ↓b_mul, ↓b_quo, ↓b_rem, ↓b_lss, ↓b_leq, ↓b_gtr, ↓b_geq, ↓b_eql, ↓b_neq, ↓u_not, ↓s_add, ↓s_eql, ↓s_neq, ↓i_max2, ↓i_min2, ↓x20, ↓x21, ↓x30, ↓x31, ↓x32, ↓q_b_add, ↓q_b_sub, ↓q_b_mul, ↓q_b_quo, ↓q_b_rem, ↓q_b_lss, ↓q_b_leq, ↓q_b_gtr, ↓q_b_geq, ↓q_b_eql, ↓q_b_neq, ↓q_u_not, ↓q_s_add, ↓q_s_eql, ↓q_s_neq, ↓q_i_max2, ↓q_i_min2, ↓q_x20, ↓q_x21, ↓q_x30, ↓q_x31, ↓q_x32, ↓m_box, decide_true, decide_false, tt_and, ff_and, Nat.zero_add, Int.toNat_natCast, cells_agg, cells_bool, cells_int, cells_str, cells_ptr, cells_slice, ↓qend_eq, ↓jump_none, ↓jump_ret, ↓jump_exit, ↓marks_one, cond_true, cond_false, Bool.not_true, Bool.not_false, Nat.mul_one]
          refine ⟨fun e1 => ?_, fun e1 => ?_⟩
          · exact push1 own4 (by omega) (i : Int) x4 fun h6 v6 own6 x6 => hJ _ _ ⟨x6, by rw [hsucc, e1]; exact own6⟩
          · refine hJ _ _ ⟨x4, ?_⟩
            rw [hsucc, e1]
            simpa using own4
        · obtain ⟨q1, q2⟩ := hM
          exact ⟨⟨i + 1, by simp, by omega, q1, q2⟩, by omega⟩
      · have hi' : i = nn.length := by simp at hge; omega
        subst hi'
        exact hk h4 x P hfin (own4.low (by have := x3.size; omega)) (x3.trans x4)
    · rw [List.concat_eq_append] at own3 hT hA hB hTl hTb
      obtain ⟨A3, c3, hx, hcap, ownc, g, rfl, hcell, hb1, hb2⟩ := own_cut own3
      have hg3 : h.size + 1 ≤ g := (own3.ge g (by rw [hb1]; simp)).1
      obtain ⟨t0, ht0, rfl, hLt⟩ := hT t (by simp)
      simp only [List.length_append, List.length_singleton] at hTl hTb
      have hlen1 : ((T0.length + 1 : Nat) : Int) - 1 = (T0.length : Int) := by omega
      simp (disch := first | assumption | (with_reducible exact Ext.refl _) | (with_reducible exact Keep.refl _ _) | (with_reducible exact Eq.refl _) | (intro _ he; cases he; assumption) | (intro _ he; with_reducible apply keep_cell' he; assumption; simp; done) | (intro _ he; with_reducible apply ext_cell' he; assumption; done) | (with_reducible first | exact pl_int _ _ | exact pl_byte _ | exact pl_u32 _ | exact pl_bool _ | exact pl_ptr _ | exact pl_slice _ _ _ | exact pl_map _ | exact pl_str _ | exact pl_func _ _ _) | ((rw [okW_setH]; repeat rw [okW_setH]); assumption) | ((with_reducible refine cellH_setH_same ?_ _); (repeat rw [okW_setH]); assumption) | ((rw [cellH_setH_off]; rotate_left; focus decide); (repeat (rw [cellH_setH_off]; rotate_left; focus decide)); first | assumption | ((with_reducible refine cellH_setH_same ?_ _); (repeat rw [okW_setH]); assumption)) | omega) only [↓hpR, ↓nilC_ptr, ↓nilC_func, ↓condP_true, ↓condP_false, ↓condP_bool, ↓guardP_true, ↓guardP_false, ↓guardP_bool_t, ↓guardP_bool_f, ↓skipP_undef, ↓pickP_bool, ↓b_add, ↓b_sub, ↓b_mul, ↓b_quo, ↓b_rem, ↓b_lss, ↓b_leq, ↓b_gtr, ↓b_geq, ↓b_eql, ↓b_neq, ↓u_not, ↓s_add, ↓s_eql, ↓s_neq, ↓i_max2, ↓i_min2, ↓x20, ↓x21, ↓x30, ↓x31, ↓x32, ↓q_b_add, ↓q_b_sub, ↓q_b_mul, ↓q_b_quo, ↓q_b_rem, ↓q_b_lss, ↓q_b_leq, ↓q_b_gtr, ↓q_b_geq, ↓q_b_eql, ↓q_b_neq, ↓q_u_not, ↓q_s_add, ↓q_s_eql, ↓q_s_neq, ↓q_i_max2, ↓q_i_min2, ↓q_x20, ↓q_x21, ↓q_x30, ↓q_x31, ↓q_x32, ↓m_box, decide_true, decide_false, tt_and, ff_and, Nat.zero_add, Int.toNat_natCast, cells_agg, cells_bool, cells_int, cells_str, cells_ptr, cells_slice, ↓qend_eq, ↓jump_none, ↓jump_ret, ↓jump_exit, ↓marks_one, cond_true, cond_false, Bool.not_true, Bool.not_false, hx]
      refine ⟨fun _ => ?_, fun e => absurd e (by simp)⟩
      have hu : unseen h3 h.size = sn.count false := unseen_eq p3
      obtain ⟨b, hsb⟩ : ∃ b, sn[t0]? = some b := ⟨_, List.getElem?_eq_getElem (by omega)⟩
      have c4 : cellH h3 h.size t0 = some (.bool b) := by rw [cellH_of p3, bools_get, hsb]; rfl
      simp (disch := first | assumption | (with_reducible exact Ext.refl _) | (with_reducible exact Keep.refl _ _) | (with_reducible exact Eq.refl _) | (intro _ he; cases he; assumption) | (intro _ he; with_reducible apply keep_cell' he; assumption; simp; done) | (intro _ he; with_reducible apply ext_cell' he; assumption; done) | (with_reducible first | exact pl_int _ _ | exact pl_byte _ | exact pl_u32 _ | exact pl_bool _ | exact pl_ptr _ | exact pl_slice _ _ _ | exact pl_map _ | exact pl_str _ | exact pl_func _ _ _) | ((rw [okW_setH]; repeat rw [okW_setH]); assumption) | ((with_reducible refine cellH_setH_same ?_ _); (repeat rw [okW_setH]); assumption) | ((rw [cellH_setH_off]; rotate_left; focus decide); (repeat (rw [cellH_setH_off]; rotate_left; focus decide)); first | assumption | ((with_reducible refine cellH_setH_same ?_ _); (repeat rw [okW_setH]); assumption)) | omega) only [↓hpR, ↓nilC_ptr, ↓nilC_func, ↓condP_true, ↓condP_false, ↓condP_bool, ↓guardP_true, ↓guardP_false, ↓guardP_bool_t, ↓guardP_bool_f, ↓skipP_undef, ↓pickP_bool, ↓b_add, ↓b_sub, ↓b_mul, ↓b_quo, ↓b_rem, ↓b_lss, ↓b_leq, ↓b_gtr, ↓b_geq, ↓b_eql, ↓b_neq, ↓u_not, ↓s_add, ↓s_eql, ↓s_neq, ↓i_max2, ↓i_min2, ↓x20, ↓x21, ↓x30, ↓x31, ↓x32, ↓q_b_add, ↓q_b_sub, ↓q_b_mul, ↓q_b_quo, ↓q_b_rem, ↓q_b_lss, ↓q_b_leq, ↓q_b_gtr, ↓q_b_geq, ↓q_b_eql, ↓q_b_neq, ↓q_u_not, ↓q_s_add, ↓q_s_eql, ↓q_s_neq, ↓q_i_max2, ↓q_i_min2, ↓q_x20, ↓q_x21, ↓q_x30, ↓q_x31, ↓q_x32, ↓m_box, decide_true, decide_false, tt_and, ff_and, Nat.zero_add, Int.toNat_natCast, cells_agg, cells_bool, cells_int, cells_str, cells_ptr, cells_slice, ↓qend_eq, ↓jump_none, ↓jump_ret, ↓jump_exit, ↓marks_one, cond_true, cond_false, Bool.not_true, Bool.not_false, Nat.mul_one, hlen1]
      rw [m_sliceHi Try.underlying33 (sz := 1) (by kernel_rfl) _ _ _ (T0.length : Int) (by omega) (by omega)]
      simp (disch := first | assumption | (with_reducible exact Ext.refl _) | (with_reducible exact Keep.refl _ _) | (with_reducible exact Eq.refl _) | (intro _ he; cases he; assumption) | (intro _ he; with_reducible apply keep_cell' he; assumption; simp; done) | (intro _ he; with_reducible apply ext_cell' he; assumption; done) | (with_reducible first | exact pl_int _ _ | exact pl_byte _ | exact pl_u32 _ | exact pl_bool _ | exact pl_ptr _ | exact pl_slice _ _ _ | exact pl_map _ | exact pl_str _ | exact pl_func _ _ _) | ((rw [okW_setH]; repeat rw [okW_setH]); assumption) | ((with_reducible refine cellH_setH_same ?_ _); (repeat rw [okW_setH]); assumption) | ((rw [cellH_setH_off]; rotate_left; focus decide); (repeat (rw [cellH_setH_off]; rotate_left; focus decide)); first | assumption | ((with_reducible refine cellH_setH_same ?_ _); (repeat rw [okW_setH]); assumption)) | omega) only [↓hpR, ↓nilC_ptr, ↓nilC_func, ↓condP_true, ↓condP_false, ↓condP_bool, ↓guardP_true, ↓guardP_false, ↓guardP_bool_t, ↓guardP_bool_f, ↓skipP_undef, ↓pickP_bool, ↓b_add, ↓b_sub, ↓b_mul, ↓b_quo, ↓b_rem, ↓b_lss, ↓b_leq, ↓b_gtr, ↓b_geq, ↓b_eql, ↓b_neq, ↓u_not, ↓s_add, ↓s_eql, ↓s_neq, ↓i_max2, ↓i_min2, ↓x20, ↓x21, ↓x30, ↓x31, ↓x32, ↓q_b_add, ↓q_b_sub, ↓q_b_mul, ↓q_b_quo, ↓q_b_rem, ↓q_b_lss, ↓q_b_leq, ↓q_b_gtr, ↓q_b_geq, ↓q_b_eql, ↓q_b_neq, ↓q_u_not, ↓q_s_add, ↓q_s_eql, ↓q_s_neq, ↓q_i_max2, ↓q_i_min2, ↓q_x20, ↓q_x21, ↓q_x30, ↓q_x31, ↓q_x32, ↓m_box, decide_true, decide_false, tt_and, ff_and, Nat.zero_add, Int.toNat_natCast, cells_agg, cells_bool, cells_int, cells_str, cells_ptr, cells_slice, ↓qend_eq, ↓jump_none, ↓jump_ret, ↓jump_exit, ↓marks_one, cond_true, cond_false, Bool.not_true, Bool.not_false, Nat.mul_one]
      refine ⟨fun e => ?_, fun e => ?_⟩
      · have hb : b = false := by simpa using e
        subst hb
        have w3 : okW h3 h.size t0 = true := okW_of p3 (by rw [bools_size]; omega)
        simp (disch := first | assumption | (with_reducible exact Ext.refl _) | (with_reducible exact Keep.refl _ _) | (with_reducible exact Eq.refl _) | (intro _ he; cases he; assumption) | (intro _ he; with_reducible apply keep_cell' he; assumption; simp; done) | (intro _ he; with_reducible apply ext_cell' he; assumption; done) | (with_reducible first | exact pl_int _ _ | exact pl_byte _ | exact pl_u32 _ | exact pl_bool _ | exact pl_ptr _ | exact pl_slice _ _ _ | exact pl_map _ | exact pl_str _ | exact pl_func _ _ _) | ((rw [okW_setH]; repeat rw [okW_setH]); assumption) | ((with_reducible refine cellH_setH_same ?_ _); (repeat rw [okW_setH]); assumption) | ((rw [cellH_setH_off]; rotate_left; focus decide); (repeat (rw [cellH_setH_off]; rotate_left; focus decide)); first | assumption | ((with_reducible refine cellH_setH_same ?_ _); (repeat rw [okW_setH]); assumption)) | omega) only [↓hpR, ↓nilC_ptr, ↓nilC_func, ↓condP_true, ↓condP_false, ↓condP_bool, ↓guardP_true, ↓guardP_false, ↓guardP_bool_t, ↓guardP_bool_f, ↓skipP_undef, ↓pickP_bool, ↓b_add, ↓b_sub, ↓b_mul, ↓b_quo, ↓b_rem, ↓b_lss, ↓b_leq, ↓b_gtr, ↓b_geq, ↓b_eql, ↓b_neq, ↓u_not, ↓s_add, ↓s_eql, ↓s_neq, ↓i_max2, ↓i_min2, ↓x20, ↓x21, ↓x30, ↓x31, ↓x32, ↓q_b_add, ↓q_b_sub, ↓q_b_mul, ↓q_b_quo, ↓q_b_rem, ↓q_b_lss, ↓q_b_leq, ↓q_b_gtr, ↓q_b_geq, ↓q_b_eql, ↓q_b_neq, ↓q_u_not, ↓q_s_add, ↓q_s_eql, ↓q_s_neq, ↓q_i_max2, ↓q_i_min2, ↓q_x20, ↓q_x21, ↓q_x30, ↓q_x31, ↓q_x32, ↓m_box, decide_true, decide_false, tt_and, ff_and, Nat.zero_add, Int.toNat_natCast, cells_agg, cells_bool, cells_int, cells_str, cells_ptr, cells_slice, ↓qend_eq, ↓jump_none, ↓jump_ret, ↓jump_exit, ↓marks_one, cond_true, cond_false, Bool.not_true, Bool.not_false, Nat.mul_one]
        have o4 : Only [h.size] h3 (setH h3 h.size t0 (.bool true)) := setH_only (Only.refl _ _) (.inl (by simp)) _ _
        have p4 := setH_at p3 t0 (.bool true)
        rw [bools_set] at p4
        have z4 : h3.size ≤ (setH h3 h.size t0 (.bool true)).size := o4.size
        have x4 : Ext h (setH h3 h.size t0 (.bool true)) := Only.fresh x3 o4 (by simp)
        have own4 := ownc.only o4 (by rw [hb2]; simp; omega)
        generalize setH h3 h.size t0 (.bool true) = h4 at o4 p4 z4 x4 own4 ⊢
        refine ways_spec (N.ext x4) ht0 hML fun h5 v5 own5 x5 => ?_
        have hwl := ways_length hM t0
        have hcs := count_seen hsb
        have hcle2 : (sn.set t0 true).count true ≤ nn.length := by have := List.count_le_length (a := true) (l := sn.set t0 true); simp only [List.length_set] at this; omega
        have hnewlen : (T0 ++ waysL nn t0).length ≤ (1 + (sn.set t0 true).count true) * M := by
          rw [List.length_append, hcs.2, ← Nat.add_assoc, Nat.add_mul (1 + sn.count true) 1 M]
          omega
        have hnew6 : (T0 ++ waysL nn t0).length ≤ 1000000 := Nat.le_trans hnewlen (Nat.le_trans (Nat.mul_le_mul_right M (by omega)) hs)
        rw [List.length_append] at hnew6
        have z5 := x5.size
        refine appendI (own4.ext x5) (OwnI.sl own5) hnew6 (by omega) fun h6 v6 own6 o6 => ?_
        have p6 := o6.at (x5.at p4) (by rw [hb2]; simp; omega)
        have hu6 : unseen h6 h.size = (sn.set t0 true).count false := unseen_eq p6
        have z6 := o6.size
        refine ⟨⟨T0 ++ waysL nn t0, sn.set t0 true, own6, p6, by simpa using hsl, Only.fresh (x4.trans x5) o6 (by rw [hb2]; simp; omega), by omega, fun t ht => ?_, fun i hi => ?_, fun j hj => ?_, fun i j hi hj => ?_, hnewlen⟩, ?_⟩
        · rcases List.mem_append.1 ht with ht | ht
          · exact hT t (by simp [ht])
          · obtain ⟨j, hj, rfl⟩ := mem_ways ht
            exact ⟨j, hj, rfl, .step hLt ht⟩
        · by_cases hit : i = t0
          · subst hit; exact hLt
          · rw [List.getElem?_set_ne (by omega)] at hi
            exact hS i hi
        · by_cases hit : j = t0
          · subst hit
            exact .inl (by rw [List.getElem?_set_self (by omega)])
          · rw [List.getElem?_set_ne (by omega)]
            rcases hA j hj with h1 | h1
            · exact .inl h1
            · rcases List.mem_append.1 h1 with h1 | h1
              · exact .inr (by simp [h1])
              · simp at h1; omega
        · by_cases hit : j = t0
          · subst hit
            exact .inl (by rw [List.getElem?_set_self (by omega)])
          · rw [List.getElem?_set_ne (by omega)]
            by_cases hi2 : i = t0
            · subst hi2
              exact .inr (List.mem_append.2 (.inr hj))
            · rw [List.getElem?_set_ne (by omega)] at hi
              rcases hB i j hi hj with h1 | h1
              · exact .inl h1
              · rcases List.mem_append.1 h1 with h1 | h1
                · exact .inr (by simp [h1])
                · simp at h1; omega
        · obtain ⟨A6, c6, hv6⟩ := own6.len
          rw [hu6, hu, hv6, ← hcs.1, Nat.add_mul, List.length_append]
          simp only
          omega
      · have hb : b = true := by simpa using e
        subst hb
        refine ⟨⟨T0, sn, ownc, p3, hsl, x3, z3, fun t ht => hT t (by simp [ht]), hS, fun j hj => ?_, fun i j hi hj => ?_, by omega⟩, ?_⟩
        · rcases hA j hj with h1 | h1
          · exact .inl h1
          · rcases List.mem_append.1 h1 with h1 | h1
            · exact .inr h1
            · simp at h1
              rw [show j = t0 by omega]
              exact .inl hsb
        · rcases hB i j hi hj with h1 | h1
          · exact .inl h1
          · rcases List.mem_append.1 h1 with h1 | h1
            · exact .inr h1
            · simp at h1
              rw [show j = t0 by omega]
              exact .inl hsb
        · omega
end Go.Proofs.Ytopflbjjbindkaa
