/- The law NeedsFew (printed by gen12.py). -/
import Derived.Test.YtopflbjjbindkaaN11
set_option linter.unusedVariables false
set_option linter.unusedSimpArgs false
namespace Go.Proofs.Ytopflbjjbindkaa
open Go.Hp Go.RowKit

theorem own_slRc {α : Type} (c : Nat) (cs : α → List Value) (hc : ∀ x, (cs x).length = c) {h : Heap} {base : Nat} {e : TypeId} {v : Value} {l : List α} (o : Own h base e c v l.length (l.flatMap cs)) : SlR c (fun k x => k = cs x) h v l := by
  rcases o.2 with ⟨rfl, h0⟩ | ⟨g, cap, cur, hv, hb, hg, h1, h2, h3, h4⟩
  · exact ⟨none, 0, by rw [h0], by omega, .inl rfl⟩
  · refine ⟨some ⟨g, 0, none⟩, cap, hv, h1, .inr ⟨g, 0, rfl, fun i x hx => ⟨cs x, hc x, rfl, fun j u hj => ?_⟩⟩⟩
    have hjc : j < c := by rw [← hc x]; exact (List.getElem?_eq_some_iff.1 hj).1
    have := flatMap_get c cs hc l i j x hx hjc
    rw [← h4, hj, List.getElem?_take] at this
    split at this
    · rw [cellH_of hg, Nat.zero_add, ← Array.getElem?_toList]
      exact this
    · cases this
theorem flat_len {α : Type} (c : Nat) (cs : α → List Value) (hc : ∀ x, (cs x).length = c) (l : List α) : (l.flatMap cs).length = l.length * c := by
  induction l with
  | nil => simp
  | cons x l ih => rw [List.flatMap_cons, List.length_append, ih, hc, List.length_cons, Nat.add_mul]; omega
theorem appendR {α : Type} (c : Nat) (cs : α → List Value) (hc : ∀ x, (cs x).length = c) (hc0 : 0 < c) (hpl : ∀ x, ∀ u ∈ cs x, plainV u = true) {t e : TypeId} (hu : Try.prog.underlying t = some (.slice e)) {z : Value} {bytes : Nat} (hi : (Try.prog.info? e).map (fun i => (i.zero, i.size, i.bytes)) = some (some z, c, bytes)) (hz : z.cells.size = c)
    {h : Heap} {base : Nat} {v w : Value} {l m : List α} (own : Own h base e c v l.length (l.flatMap cs)) (s : SlR c (fun k x => k = cs x) h w m) (hby : (l.length + m.length) * bytes ≤ 140737488355328) (hl : l.length + m.length ≤ 1000000) (hb : base ≤ h.size) {ty : TypeId} {ca : Array Bool} {K : Value → Heap → Prop}
    (hk : ∀ h' v', Own h' base e c v' (l ++ m).length ((l ++ m).flatMap cs) → Only (blk v) h h' → (∀ k ∈ blk v', k ∈ blk v ∨ k = h.size) → K v' h') : OpN Try.prog (Go.builtin .append #[t, t] ty ca #[v, w]) h K := by
  by_cases h0 : 0 < m.length
  · obtain ⟨b, o, cap, rfl, hr⟩ := SlR.get s h0
    refine o_append hu hi hz hc0 _ _ own (m := m.length) (news := m.flatMap cs) (flat_len c cs hc m) (fun j u hj => ?_) (fun u hu => ?_) hby (by omega) hb ?_
    · have hjl : j < m.length * c := by rw [← flat_len c cs hc m]; exact (List.getElem?_eq_some_iff.1 hj).1
      have hil : j / c < m.length := by rw [Nat.div_lt_iff_lt_mul hc0]; exact hjl
      obtain ⟨k, _, rfl, hrow⟩ := hr (j / c) _ (List.getElem?_eq_getElem hil)
      have e1 : j / c * c + j % c = j := Nat.div_add_mod' j c
      have hf := flatMap_get c cs hc m (j / c) (j % c) _ (List.getElem?_eq_getElem hil) (Nat.mod_lt _ hc0)
      rw [e1, hj] at hf
      have := hrow (j % c) u hf.symm
      rw [Nat.add_assoc, e1] at this
      exact this
    · obtain ⟨x, _, hx⟩ := List.mem_flatMap.1 hu
      exact hpl x u hx
    · intro v8 h8 own8 o8 _ hb8
      refine hk h8 v8 ?_ o8 hb8
      rw [List.length_append, List.flatMap_append]
      exact own8
  · have hm0 : m = [] := List.length_eq_zero_iff.1 (by omega)
    subst hm0
    obtain ⟨A, cap, rfl⟩ := SlR.len s
    obtain ⟨i, hi'⟩ : ∃ i, Try.prog.info? e = some i := by
      cases hx : Try.prog.info? e with
      | none => rw [hx] at hi; cases hi
      | some i => exact ⟨i, rfl⟩
    show OpN Try.prog (Go.builtin .append #[t, t] ty ca #[v, .slice A 0 cap]) h K
    rw [o_append_empty hu hi' _ _ own]
    exact hk h v (by rw [List.append_nil]; exact own) (Only.refl _ _) (fun _ h => .inl h)

theorem info48 : (Try.prog.info? 48).map (fun i => (i.zero, i.size, i.bytes)) = some (some (.agg #[.int .i64 0, .int .i64 0, .int .i64 0, .int .i64 0]), 4, 32) := by kernel_rfl
theorem tie_pl : ∀ x : TieT, ∀ u ∈ TieT.cs x, plainV u = true := by
  intro x u hu
  simp only [TieT.cs, List.mem_cons, List.not_mem_nil, or_false] at hu
  rcases hu with rfl | rfl | rfl | rfl <;> rfl
abbrev SlT (h : Heap) (v : Value) (l : List TieT) : Prop := SlR 4 (fun k x => k = TieT.cs x) h v l
abbrev OwnT (h : Heap) (B : Nat) (v : Value) (l : List TieT) : Prop := Own h B 48 4 v l.length (l.flatMap TieT.cs)
theorem opA {g : Heap} {B : Nat} (hB : B ≤ g.size) {K : Value → Heap → Prop} (hk : ∀ g' v, OwnT g' B v [] → Ext g g' → blk v = [g.size] → g.size < g'.size → K v g') : RunV Try.prog (Instr.buildSlice 23 0 #[]) g K := by
  rw [bs23_0]
  exact hk _ _ ⟨rfl, .inr ⟨g.size, 0, _, rfl, hB, push_new _ _, Nat.le_refl _, Nat.zero_le _, rfl, rfl⟩⟩ ((Ext.refl g).push _) (by simp [blk, Value.ownBlock]) (by simp)
theorem opT {g : Heap} {B : Nat} {v w : Value} {l m : List TieT} (own : OwnT g B v l) (s : SlT g w m) (hl : l.length + m.length ≤ 1000) (hB : B ≤ g.size) {K : Value → Heap → Prop}
    (hk : ∀ g' v', OwnT g' B v' (l ++ m) → Only (blk v) g g' → (∀ k ∈ blk v', k ∈ blk v ∨ k = g.size) → K v' g') : OpN Try.prog (Go.builtin .append #[23, 23] 23 #[false, false] #[v, w]) g K :=
  appendR 4 TieT.cs (fun _ => rfl) (by omega) tie_pl Try.underlying23 info48 rfl own s (by omega) (by omega) hB hk
theorem opC {g : Heap} (t : TieT) {K : Value → Heap → Prop} (hk : ∀ g', g'[g.size]? = some (.cells (TieT.cs t).toArray 48 (0, 0)) → Ext g g' → g.size < g'.size → K (.slice (some ⟨g.size, 0, none⟩) 1 1) g') : RunV Try.prog (Instr.buildSlice 23 1 #[(0, TieT.v t)]) g K := by
  unfold TieT.v
  rw [bs23_1]
  exact hk _ (push_new _ _) ((Ext.refl g).push _) (by simp)
theorem one_slT {g : Heap} {c : Nat} {t : TieT} (p : g[c]? = some (.cells (TieT.cs t).toArray 48 (0, 0))) : SlT g (.slice (some ⟨c, 0, none⟩) 1 1) [t] := slR_flat 4 TieT.cs (fun _ => rfl) (l := [t]) p (by simp)
theorem opE {g : Heap} (x : Value) {K : Value → Heap → Prop} (hk : ∀ g', g'[g.size]? = some (.cells #[.slice none 0 0, .slice none 0 0] 25 (0, 0)) → Ext g g' → g.size < g'.size → K (.pointer (some ⟨g.size, 0, none⟩)) g') : RunV Try.prog (Instr.alloc 25 true x) g K := by
  rw [al25]
  exact hk _ (push_new _ _) ((Ext.refl g).push _) (by simp)
theorem opG {g : Heap} {c : Nat} {a b x y : Value} (p : g[c]? = some (.cells #[x, y] 25 (0, 0))) (ha : plainV a = true) (hb : plainV b = true) {K : Heap → Prop} (hk : ∀ g', g'[c]? = some (.cells #[a, b] 25 (0, 0)) → Only [c] g g' → K g') : RunU Try.prog (Instr.storeAt 25 (.pointer (some ⟨c, 0, none⟩)) (.agg #[a, b])) g K := by
  rw [m_storeAgg size25 p rfl (by simp) (by simp [ha, hb])]
  refine hk _ ?_ ⟨by simp, fun k hk hn => ?_⟩
  · rw [Array.getElem?_setIfInBounds_self_of_lt (lt_of_at p)]
    rfl
  · rw [Array.getElem?_setIfInBounds_ne (by intro e; subst e; simp at hn)]

theorem has_few {h : Heap} {v : Value} {l : List Int} (s : SlI h v l) (hl : l.length ≤ 1000000) (x : Int) {K : Value → Heap → Prop} (hk : x ∈ l → K (.bool true) h) (hx : x ∈ l) : CallV Try.prog (.func (.func 26) #[] #[]) #[v, .int .i64 x] h K := by
  refine CallV_func ?_
  show CallF Try.prog 26 #[v, .int .i64 x] h K
  apply S26
  unfold F26
  obtain ⟨A, cap, hv⟩ := SlR.len s
  simp (disch := first | assumption | (with_reducible exact Ext.refl _) | (with_reducible exact Keep.refl _ _) | (with_reducible exact Eq.refl _) | (intro _ he; cases he; assumption) | (intro _ he; with_reducible apply keep_cell' he; assumption; simp; done) | (intro _ he; with_reducible apply ext_cell' he; assumption; done) | (with_reducible first | exact pl_int _ _ | exact pl_byte _ | exact pl_u32 _ | exact pl_bool _ | exact pl_ptr _ | exact pl_slice _ _ _ | exact pl_map _ | exact pl_str _ | exact pl_func _ _ _) | ((rw [okW_setH]; repeat rw [okW_setH]); assumption) | ((with_reducible refine cellH_setH_same ?_ _); (repeat rw [okW_setH]); assumption) | ((rw [cellH_setH_off]; rotate_left; focus decide); (repeat (rw [cellH_setH_off]; rotate_left; focus decide)); first | assumption | ((with_reducible refine cellH_setH_same ?_ _); (repeat rw [okW_setH]); assumption)) | omega) only [↓hpR, ↓nilC_ptr, ↓nilC_func, ↓condP_true, ↓condP_false, ↓condP_bool, ↓guardP_true, ↓guardP_false, ↓guardP_bool_t, ↓guardP_bool_f, ↓skipP_undef, ↓pickP_bool, ↓b_add, ↓b_sub, ↓b_mul, ↓b_quo, ↓b_rem, ↓b_lss, ↓b_leq, ↓b_gtr, ↓b_geq, ↓b_eql, ↓b_neq, ↓u_not, ↓s_add, ↓s_eql, ↓s_neq, ↓i_max2, ↓i_min2, ↓x20, ↓x21, ↓x30, ↓x31, ↓x32, ↓q_b_add, ↓q_b_sub, ↓q_b_mul, ↓q_b_quo, ↓q_b_rem, ↓q_b_lss, ↓q_b_leq, ↓q_b_gtr, ↓q_b_geq, ↓q_b_eql, ↓q_b_neq, ↓q_u_not, ↓q_s_add, ↓q_s_eql, ↓q_s_neq, ↓q_i_max2, ↓q_i_min2, ↓q_x20, ↓q_x21, ↓q_x30, ↓q_x31, ↓q_x32, ↓m_box, decide_true, decide_false, tt_and, ff_and, Nat.zero_add, Int.toNat_natCast, cells_agg, cells_bool, cells_int, cells_str, cells_ptr, cells_slice, ↓qend_eq, ↓jump_none, ↓jump_ret, ↓jump_exit, ↓marks_one, cond_true, cond_false, Bool.not_true, Bool.not_false, hv]
  refine ⟨fun y hh => ∃ i : Nat, y = .int .i64 (i : Int) ∧ i ≤ l.length ∧ hh = h ∧ x ∉ l.take i, fun y hh => match y with | .int _ i => l.length - i.toNat | _ => 0, ⟨0, rfl, Nat.zero_le _, rfl, by simp⟩, ?_⟩
  rintro js y h3 ⟨i, rfl, hi, rfl, hno⟩
  simp (disch := first | assumption | (with_reducible exact Ext.refl _) | (with_reducible exact Keep.refl _ _) | (with_reducible exact Eq.refl _) | (intro _ he; cases he; assumption) | (intro _ he; with_reducible apply keep_cell' he; assumption; simp; done) | (intro _ he; with_reducible apply ext_cell' he; assumption; done) | (with_reducible first | exact pl_int _ _ | exact pl_byte _ | exact pl_u32 _ | exact pl_bool _ | exact pl_ptr _ | exact pl_slice _ _ _ | exact pl_map _ | exact pl_str _ | exact pl_func _ _ _) | ((rw [okW_setH]; repeat rw [okW_setH]); assumption) | ((with_reducible refine cellH_setH_same ?_ _); (repeat rw [okW_setH]); assumption) | ((rw [cellH_setH_off]; rotate_left; focus decide); (repeat (rw [cellH_setH_off]; rotate_left; focus decide)); first | assumption | ((with_reducible refine cellH_setH_same ?_ _); (repeat rw [okW_setH]); assumption)) | omega) only [↓hpR, ↓nilC_ptr, ↓nilC_func, ↓condP_true, ↓condP_false, ↓condP_bool, ↓guardP_true, ↓guardP_false, ↓guardP_bool_t, ↓guardP_bool_f, ↓skipP_undef, ↓pickP_bool, ↓b_add, ↓b_sub, ↓b_mul, ↓b_quo, ↓b_rem, ↓b_lss, ↓b_leq, ↓b_gtr, ↓b_geq, ↓b_eql, ↓b_neq, ↓u_not, ↓s_add, ↓s_eql, ↓s_neq, ↓i_max2, ↓i_min2, ↓x20, ↓x21, ↓x30, ↓x31, ↓x32, ↓q_b_add, ↓q_b_sub, ↓q_b_mul, ↓q_b_quo, ↓q_b_rem, ↓q_b_lss, ↓q_b_leq, ↓q_b_gtr, ↓q_b_geq, ↓q_b_eql, ↓q_b_neq, ↓q_u_not, ↓q_s_add, ↓q_s_eql, ↓q_s_neq, ↓q_i_max2, ↓q_i_min2, ↓q_x20, ↓q_x21, ↓q_x30, ↓q_x31, ↓q_x32, ↓m_box, decide_true, decide_false, tt_and, ff_and, Nat.zero_add, Int.toNat_natCast, cells_agg, cells_bool, cells_int, cells_str, cells_ptr, cells_slice, ↓qend_eq, ↓jump_none, ↓jump_ret, ↓jump_exit, ↓marks_one, cond_true, cond_false, Bool.not_true, Bool.not_false]
  refine ⟨fun hlt => ?_, fun hge => ?_⟩
  · have hlt' : i < l.length := by simpa using hlt
    obtain ⟨k, hki⟩ : ∃ k, l[i]? = some k := ⟨_, List.getElem?_eq_getElem hlt'⟩
    obtain ⟨g, o, c, e, q⟩ := SlI.cell s (by omega)
    have r := q i _ hki
    rw [hv] at e
    injection e with e1 _ _
    subst e1
    simp (disch := first | assumption | (with_reducible exact Ext.refl _) | (with_reducible exact Keep.refl _ _) | (with_reducible exact Eq.refl _) | (intro _ he; cases he; assumption) | (intro _ he; with_reducible apply keep_cell' he; assumption; simp; done) | (intro _ he; with_reducible apply ext_cell' he; assumption; done) | (with_reducible first | exact pl_int _ _ | exact pl_byte _ | exact pl_u32 _ | exact pl_bool _ | exact pl_ptr _ | exact pl_slice _ _ _ | exact pl_map _ | exact pl_str _ | exact pl_func _ _ _) | ((rw [okW_setH]; repeat rw [okW_setH]); assumption) | ((with_reducible refine cellH_setH_same ?_ _); (repeat rw [okW_setH]); assumption) | ((rw [cellH_setH_off]; rotate_left; focus decide); (repeat (rw [cellH_setH_off]; rotate_left; focus decide)); first | assumption | ((with_reducible refine cellH_setH_same ?_ _); (repeat rw [okW_setH]); assumption)) | omega) only [↓hpR, ↓nilC_ptr, ↓nilC_func, ↓condP_true, ↓condP_false, ↓condP_bool, ↓guardP_true, ↓guardP_false, ↓guardP_bool_t, ↓guardP_bool_f, ↓skipP_undef, ↓pickP_bool, ↓b_add, ↓b_sub, ↓b_mul, ↓b_quo, ↓b_rem, ↓b_lss, ↓b_leq, ↓b_gtr, ↓b_geq, ↓b_eql, ↓b_neq, ↓u_not, ↓s_add, ↓s_eql, ↓s_neq, ↓i_max2, ↓i_min2, ↓x20, ↓x21, ↓x30, ↓x31, ↓x32, ↓q_b_add, ↓q_b_sub, ↓q_b_mul, ↓q_b_quo, ↓q_b_rem, ↓q_b_lss, ↓q_b_leq, ↓q_b_gtr, ↓q_b_geq, ↓q_b_eql, ↓q_b_neq, ↓q_u_not, ↓q_s_add, ↓q_s_eql, ↓q_s_neq, ↓q_i_max2, ↓q_i_min2, ↓q_x20, ↓q_x21, ↓q_x30, ↓q_x31, ↓q_x32, ↓m_box, decide_true, decide_false, tt_and, ff_and, Nat.zero_add, Int.toNat_natCast, cells_agg, cells_bool, cells_int, cells_str, cells_ptr, cells_slice, ↓qend_eq, ↓jump_none, ↓jump_ret, ↓jump_exit, ↓marks_one, cond_true, cond_false, Bool.not_true, Bool.not_false, Nat.mul_one]
    refine ⟨fun e => hk hx, fun e => ⟨⟨i + 1, by simp, by omega, trivial, ?_⟩, by omega⟩⟩
    have hne : k ≠ x := by simpa using e
    rw [List.take_add_one, hki]
    simp
    exact ⟨hno, fun e => hne e.symm⟩
  · have hi' : i = l.length := by simp at hge; omega
    subst hi'
    rw [List.take_of_length_le (Nat.le_refl _)] at hno
    exact absurd hx hno

/-! ### A tie more -/
def more (f : FlatT) (t : TieT) : FlatT := ⟨f.ev, f.ties ++ [t]⟩
theorem placesP_more {f : FlatT} {t : TieT} {tell : TieT → Int × Bool} {i : Nat} (h : placesP f tell i = true) : placesP (more f t) tell i = true := by
  unfold placesP more at *
  rw [List.any_append]
  show (List.any _ _ || _) = true
  rw [h]
  rfl
theorem needP_more {f : FlatT} {t : TieT} {i j : Nat} (h : needP f i j = true) : needP (more f t) i j = true := by
  unfold needP at *
  rcases (Bool.or_eq_true _ _).mp h with h | h
  · rw [placesP_more h]; rfl
  · rw [placesP_more (tell := tellC (i : Int)) h]; simp
theorem calledP_more {f : FlatT} {t : TieT} {i : Nat} (h : calledP f i = true) : calledP (more f t) i = true := by
  unfold calledP at *
  rcases (Bool.or_eq_true _ _).mp h with h | h
  · have : evP (more f t) (fun e => decide (0 ≤ e.due)) i = true := h
    rw [this]; rfl
  · rw [placesP_more (tell := tellK 2) h]; simp
theorem excludedP_more {f : FlatT} {t : TieT} {i : Nat} (h : excludedP f i = true) : excludedP (more f t) i = true := by
  unfold excludedP at *
  rcases (Bool.or_eq_true _ _).mp h with h | h
  · have : evP (more f t) (fun e => !e.inn) i = true := h
    rw [this]; rfl
  · rw [placesP_more (tell := tellK 4) h]; simp
theorem lead_more {f : FlatT} {t : TieT} {i j : Nat} (h : Lead (netL f) i j) : Lead (netL (more f t)) i j := by
  induction h with
  | one hw =>
    obtain ⟨h1, h2, h3⟩ := (way_net f _ _).1 hw
    exact .one ((way_net _ _ _).2 ⟨h1, h2, needP_more h3⟩)
  | step _ hw ih =>
    obtain ⟨h1, h2, h3⟩ := (way_net f _ _).1 hw
    exact .step ih ((way_net _ _ _).2 ⟨h1, h2, needP_more h3⟩)
theorem mat_more {f : FlatT} {t : TieT} {j : Nat} (h : Mat f j) : Mat (more f t) j := by
  rcases h with h | ⟨k, h1, h2, h3⟩
  · exact .inl (calledP_more h)
  · exact .inr ⟨k, h1, calledP_more h2, lead_more h3⟩
theorem idx_mono {n : Nat} {p q : Nat → Bool} (h : ∀ i, i < n → p i = true → q i = true) : (idx n p).length ≤ (idx n q).length := by
  unfold idx
  rw [List.length_map, List.length_map]
  have : (List.range n).filter p = ((List.range n).filter q).filter p := by
    rw [List.filter_filter]
    refine List.filter_congr fun i hi => ?_
    have := h i (by simpa using hi)
    cases hp : p i with
    | false => simp
    | true => simp [this hp]
  rw [this]
  exact List.length_filter_le _ _

theorem few_spec {h : Heap} {ve vt : Value} {f : FlatT} (t : TieT) (he : SlR 6 (fun cs x => cs = EvT.cs x) h ve f.ev) (ht : SlR 4 (fun cs x => cs = TieT.cs x) h vt f.ties) {K : Value → Heap → Prop} (hk : ∀ h', Ext h h' → K (.bool true) h') : CallF Try.prog 5 #[.agg #[ve, vt], TieT.v t] h K := by
  apply S5
  unfold F5
  refine box_step fun h1 x1 z1 p1 => ?_
  refine box_step fun h1' x1' z1' p1' => ?_
  simp only [cells_agg, TieT.v] at p1 p1'
  refine awake_spec fun h2 x2 => ?_
  have x02 := (x1.trans x1').trans x2
  rw [u_not, condP_bool]
  refine ⟨fun e => absurd e (by decide), fun _ => ?_⟩
  rw [m_loadAgg Try.underlying25 rfl size25 ((x1'.trans x2).at p1) (by simp)]
  obtain ⟨A, ca, hve⟩ := SlR.len he
  obtain ⟨B, cb, hvt⟩ := SlR.len ht
  have plE : plainV ve = true := SlR.plain he
  have plT : plainV vt = true := SlR.plain ht
  have hlarge : ∀ {K : Value → Heap → Prop}, (∀ h', Ext h2 h' → K (.bool (largeB f.ev.length f.ties.length)) h') → CallF Try.prog 8 #[.agg (Array.extract #[ve, vt] 0 (0 + 2))] h2 K := fun hk => by
    rw [hve, hvt]
    exact large_spec hk
  refine hlarge fun h3 x3 => ?_
  have x03 := x02.trans x3
  cases hlb : largeB f.ev.length f.ties.length with
  | true =>
    rw [condP_bool]
    exact ⟨fun _ => hk h3 x03, fun e => by cases e⟩
  | false =>
    rw [condP_bool]
    refine ⟨fun e => (by cases e), fun _ => ?_⟩
    have hsm : f.ev.length ≤ 20 ∧ f.ties.length ≤ 150 := by
      unfold largeB at hlb
      simp at hlb
      omega
    have F : FlatAt h ve vt f := ⟨he, ht, by omega, by omega⟩
    have F3 := F.ext x03
    have p3 := ((x1'.trans x2).trans x3).at p1
    have q3 := (x2.trans x3).at p1'
    refine Join1.intro (fun x hh => ∃ c5 v23, x = .pointer (some ⟨c5, 0, none⟩) ∧ hh[c5]? = some (.cells #[ve, v23] 25 (0, 0)) ∧ SlT hh v23 (f.ties ++ [t]) ∧ Ext h3 hh) (fun J hJ => ?_) (fun xj h4 hM => ?_)
    · have c0 : cellH h3 h.size 0 = some ve := by rw [cellH_of p3]; rfl
      have c1 : cellH h3 h.size 1 = some vt := by rw [cellH_of p3]; rfl
      have hb1 : h.size < h3.size := lt_of_at p3
      have hb2 : h1.size < h3.size := lt_of_at q3
      refine Quiet_keep [h.size, h1.size] ?_
      have hS : ∀ {g : Heap}, Ext h3 g → Keep [h.size, h1.size] h3 g := fun x => keep_ext x (by simp; omega)
      rw [qfa25_0 (Keep.refl _ _), qld22 (Keep.refl _ _) (fun h' he => keep_cell' he c0 (by simp)), qfa25_1 (Keep.refl _ _), qld23 (Keep.refl _ _) (fun h' he => keep_cell' he c1 (by simp))]
      have qq : ∀ h', Keep [h.size, h1.size] h3 h' → h'[h1.size]? = some (.cells (TieT.cs t).toArray 48 (0, 0)) := fun h' he => keep_at he q3 (by simp)
      rw [q_m_loadAgg (Keep.refl _ _) Try.underlying48 rfl size48 qq (by simp [TieT.cs])]
      have et : Value.agg ((TieT.cs t).toArray.extract 0 (0 + 4)) = TieT.v t := rfl
      rw [et]
      have xs := Ext.refl h3
      obtain ⟨s3, hs3⟩ : ∃ s, h3.size = s := ⟨_, rfl⟩
      have s19 := F3.ties
      refine ⟨?_, ⟨?_, ?_⟩⟩
      · refine opA (B := h3.size) xs.size fun g1 v17 own17 x1 b17 z1 => ?_
        obtain ⟨k17, hk17⟩ : ∃ k, h3.size = k := ⟨_, rfl⟩
        rw [hk17] at b17
        have y1 := x1.size
        replace xs := xs.trans x1
        refine ⟨hS xs, ?_⟩
        refine ⟨?_, ⟨?_, ?_⟩⟩
        · refine opT own17 (s19.ext xs) (by simp; omega) xs.size fun g2 v20 own20 o2 b20 => ?_
          obtain ⟨k20, hk20⟩ : ∃ k, g1.size = k := ⟨_, rfl⟩
          rw [hk20, b17] at b20
          have y2 := o2.size
          have f2 : ∀ k ∈ blk v17, h3.size ≤ k := fun k hk => (own17.ge k hk).1
          replace xs := Only.fresh xs o2 f2
          refine ⟨hS xs, ?_⟩
          refine ⟨?_, ?_⟩
          · refine opC t fun g3 p22 x3 z3 => ?_
            obtain ⟨k22, hk22⟩ : ∃ k, g2.size = k := ⟨_, rfl⟩
            rw [hk22] at p22 ⊢
            have y3 := x3.size
            replace own20 := own20.ext x3
            replace xs := xs.trans x3
            refine ⟨hS xs, ?_⟩
            refine ⟨?_, ?_⟩
            · refine opT own20 (one_slT p22) (by simp; omega) xs.size fun g4 v23 own23 o4 b23 => ?_
              obtain ⟨k23, hk23⟩ : ∃ k, g3.size = k := ⟨_, rfl⟩
              rw [hk23] at b23
              have y4 := o4.size
              have f4 : ∀ k ∈ blk v20, h3.size ≤ k := fun k hk => (own20.ge k hk).1
              replace xs := Only.fresh xs o4 f4
              refine ⟨hS xs, ?_⟩
              rw [qbd25_0_1 (Keep.refl _ _) plE own23.plain]
              refine opE _ fun g5 p5 x5 z5 => ?_
              obtain ⟨k5, hk5⟩ : ∃ k, g4.size = k := ⟨_, rfl⟩
              rw [hk5] at p5 ⊢
              have n5 : k5 ∉ blk v23 := fun hm => by have := (own23.ge _ hm).2; omega
              have y5 := x5.size
              replace own23 := own23.ext x5
              replace xs := xs.trans x5
              refine ⟨hS xs, ?_⟩
              refine opG p5 plE own23.plain fun g6 p5 o6 => ?_
              refine ⟨hS (Only.fresh xs o6 (by simp; omega)), ?_⟩
              exact hJ _ _ ⟨k5, v23, rfl, p5, own_slRc 4 TieT.cs (fun _ => rfl) (own23.only o6 (fun k hk => by simp only [List.mem_singleton]; rintro rfl; exact n5 hk)), Only.fresh xs o6 (by simp; omega)⟩
            · refine opE _ fun g7 p5 x7 z7 => ?_
              obtain ⟨k5, hk5⟩ : ∃ k, g3.size = k := ⟨_, rfl⟩
              rw [hk5] at p5 ⊢
              have m5 : k5 ∉ blk v20 := fun hm => by have := (own20.ge _ hm).2; omega
              have y7 := x7.size
              replace own20 := own20.ext x7
              replace p22 := x7.at p22
              replace xs := xs.trans x7
              refine ⟨hS xs, ?_⟩
              refine opT own20 (one_slT p22) (by simp; omega) xs.size fun g8 v23 own23 o8 b23 => ?_
              obtain ⟨k23, hk23⟩ : ∃ k, g7.size = k := ⟨_, rfl⟩
              rw [hk23] at b23
              have y8 := o8.size
              have f8 : ∀ k ∈ blk v20, h3.size ≤ k := fun k hk => (own20.ge k hk).1
              have n5 : k5 ∉ blk v23 := by
                intro hm
                rcases b23 _ hm with hm | hm
                · exact m5 hm
                · omega
              replace p5 := o8.at p5 m5
              replace xs := Only.fresh xs o8 f8
              refine ⟨hS xs, ?_⟩
              rw [qbd25_0_1 (Keep.refl _ _) plE own23.plain]
              refine opG p5 plE own23.plain fun g9 p5 o9 => ?_
              refine ⟨hS (Only.fresh xs o9 (by simp; omega)), ?_⟩
              exact hJ _ _ ⟨k5, v23, rfl, p5, own_slRc 4 TieT.cs (fun _ => rfl) (own23.only o9 (fun k hk => by simp only [List.mem_singleton]; rintro rfl; exact n5 hk)), Only.fresh xs o9 (by simp; omega)⟩
          · refine opE _ fun g10 p5 x10 z10 => ?_
            obtain ⟨k5, hk5⟩ : ∃ k, g2.size = k := ⟨_, rfl⟩
            rw [hk5] at p5 ⊢
            have m5 : k5 ∉ blk v20 := fun hm => by have := (own20.ge _ hm).2; omega
            have y10 := x10.size
            replace own20 := own20.ext x10
            replace xs := xs.trans x10
            refine ⟨hS xs, ?_⟩
            refine opC t fun g11 p22 x11 z11 => ?_
            obtain ⟨k22, hk22⟩ : ∃ k, g10.size = k := ⟨_, rfl⟩
            rw [hk22] at p22 ⊢
            have y11 := x11.size
            replace own20 := own20.ext x11
            replace p5 := x11.at p5
            replace xs := xs.trans x11
            refine ⟨hS xs, ?_⟩
            refine opT own20 (one_slT p22) (by simp; omega) xs.size fun g12 v23 own23 o12 b23 => ?_
            obtain ⟨k23, hk23⟩ : ∃ k, g11.size = k := ⟨_, rfl⟩
            rw [hk23] at b23
            have y12 := o12.size
            have f12 : ∀ k ∈ blk v20, h3.size ≤ k := fun k hk => (own20.ge k hk).1
            have n5 : k5 ∉ blk v23 := by
              intro hm
              rcases b23 _ hm with hm | hm
              · exact m5 hm
              · omega
            replace p5 := o12.at p5 m5
            replace xs := Only.fresh xs o12 f12
            refine ⟨hS xs, ?_⟩
            rw [qbd25_0_1 (Keep.refl _ _) plE own23.plain]
            refine opG p5 plE own23.plain fun g13 p5 o13 => ?_
            refine ⟨hS (Only.fresh xs o13 (by simp; omega)), ?_⟩
            exact hJ _ _ ⟨k5, v23, rfl, p5, own_slRc 4 TieT.cs (fun _ => rfl) (own23.only o13 (fun k hk => by simp only [List.mem_singleton]; rintro rfl; exact n5 hk)), Only.fresh xs o13 (by simp; omega)⟩
        · refine opC t fun g14 p22 x14 z14 => ?_
          obtain ⟨k22, hk22⟩ : ∃ k, g1.size = k := ⟨_, rfl⟩
          rw [hk22] at p22 ⊢
          have y14 := x14.size
          replace own17 := own17.ext x14
          replace xs := xs.trans x14
          refine ⟨hS xs, ?_⟩
          refine ⟨?_, ?_⟩
          · refine opT own17 (s19.ext xs) (by simp; omega) xs.size fun g15 v20 own20 o15 b20 => ?_
            obtain ⟨k20, hk20⟩ : ∃ k, g14.size = k := ⟨_, rfl⟩
            rw [hk20, b17] at b20
            have y15 := o15.size
            have f15 : ∀ k ∈ blk v17, h3.size ≤ k := fun k hk => (own17.ge k hk).1
            replace p22 := o15.at p22 (by rw [b17]; simp <;> omega)
            replace xs := Only.fresh xs o15 f15
            refine ⟨hS xs, ?_⟩
            refine ⟨?_, ?_⟩
            · refine opT own20 (one_slT p22) (by simp; omega) xs.size fun g16 v23 own23 o16 b23 => ?_
              obtain ⟨k23, hk23⟩ : ∃ k, g15.size = k := ⟨_, rfl⟩
              rw [hk23] at b23
              have y16 := o16.size
              have f16 : ∀ k ∈ blk v20, h3.size ≤ k := fun k hk => (own20.ge k hk).1
              replace xs := Only.fresh xs o16 f16
              refine ⟨hS xs, ?_⟩
              rw [qbd25_0_1 (Keep.refl _ _) plE own23.plain]
              refine opE _ fun g17 p5 x17 z17 => ?_
              obtain ⟨k5, hk5⟩ : ∃ k, g16.size = k := ⟨_, rfl⟩
              rw [hk5] at p5 ⊢
              have n5 : k5 ∉ blk v23 := fun hm => by have := (own23.ge _ hm).2; omega
              have y17 := x17.size
              replace own23 := own23.ext x17
              replace xs := xs.trans x17
              refine ⟨hS xs, ?_⟩
              refine opG p5 plE own23.plain fun g18 p5 o18 => ?_
              refine ⟨hS (Only.fresh xs o18 (by simp; omega)), ?_⟩
              exact hJ _ _ ⟨k5, v23, rfl, p5, own_slRc 4 TieT.cs (fun _ => rfl) (own23.only o18 (fun k hk => by simp only [List.mem_singleton]; rintro rfl; exact n5 hk)), Only.fresh xs o18 (by simp; omega)⟩
            · refine opE _ fun g19 p5 x19 z19 => ?_
              obtain ⟨k5, hk5⟩ : ∃ k, g15.size = k := ⟨_, rfl⟩
              rw [hk5] at p5 ⊢
              have m5 : k5 ∉ blk v20 := fun hm => by have := (own20.ge _ hm).2; omega
              have y19 := x19.size
              replace own20 := own20.ext x19
              replace p22 := x19.at p22
              replace xs := xs.trans x19
              refine ⟨hS xs, ?_⟩
              refine opT own20 (one_slT p22) (by simp; omega) xs.size fun g20 v23 own23 o20 b23 => ?_
              obtain ⟨k23, hk23⟩ : ∃ k, g19.size = k := ⟨_, rfl⟩
              rw [hk23] at b23
              have y20 := o20.size
              have f20 : ∀ k ∈ blk v20, h3.size ≤ k := fun k hk => (own20.ge k hk).1
              have n5 : k5 ∉ blk v23 := by
                intro hm
                rcases b23 _ hm with hm | hm
                · exact m5 hm
                · omega
              replace p5 := o20.at p5 m5
              replace xs := Only.fresh xs o20 f20
              refine ⟨hS xs, ?_⟩
              rw [qbd25_0_1 (Keep.refl _ _) plE own23.plain]
              refine opG p5 plE own23.plain fun g21 p5 o21 => ?_
              refine ⟨hS (Only.fresh xs o21 (by simp; omega)), ?_⟩
              exact hJ _ _ ⟨k5, v23, rfl, p5, own_slRc 4 TieT.cs (fun _ => rfl) (own23.only o21 (fun k hk => by simp only [List.mem_singleton]; rintro rfl; exact n5 hk)), Only.fresh xs o21 (by simp; omega)⟩
          · refine opE _ fun g22 p5 x22 z22 => ?_
            obtain ⟨k5, hk5⟩ : ∃ k, g14.size = k := ⟨_, rfl⟩
            rw [hk5] at p5 ⊢
            have y22 := x22.size
            replace own17 := own17.ext x22
            replace p22 := x22.at p22
            replace xs := xs.trans x22
            refine ⟨hS xs, ?_⟩
            refine opT own17 (s19.ext xs) (by simp; omega) xs.size fun g23 v20 own20 o23 b20 => ?_
            obtain ⟨k20, hk20⟩ : ∃ k, g22.size = k := ⟨_, rfl⟩
            rw [hk20, b17] at b20
            have y23 := o23.size
            have f23 : ∀ k ∈ blk v17, h3.size ≤ k := fun k hk => (own17.ge k hk).1
            replace p22 := o23.at p22 (by rw [b17]; simp <;> omega)
            have m5 : k5 ∉ blk v20 := by
              intro hm
              have := b20 _ hm
              simp only [List.mem_singleton] at this
              omega
            replace p5 := o23.at p5 (by rw [b17]; simp <;> omega)
            replace xs := Only.fresh xs o23 f23
            refine ⟨hS xs, ?_⟩
            refine opT own20 (one_slT p22) (by simp; omega) xs.size fun g24 v23 own23 o24 b23 => ?_
            obtain ⟨k23, hk23⟩ : ∃ k, g23.size = k := ⟨_, rfl⟩
            rw [hk23] at b23
            have y24 := o24.size
            have f24 : ∀ k ∈ blk v20, h3.size ≤ k := fun k hk => (own20.ge k hk).1
            have n5 : k5 ∉ blk v23 := by
              intro hm
              rcases b23 _ hm with hm | hm
              · exact m5 hm
              · omega
            replace p5 := o24.at p5 m5
            replace xs := Only.fresh xs o24 f24
            refine ⟨hS xs, ?_⟩
            rw [qbd25_0_1 (Keep.refl _ _) plE own23.plain]
            refine opG p5 plE own23.plain fun g25 p5 o25 => ?_
            refine ⟨hS (Only.fresh xs o25 (by simp; omega)), ?_⟩
            exact hJ _ _ ⟨k5, v23, rfl, p5, own_slRc 4 TieT.cs (fun _ => rfl) (own23.only o25 (fun k hk => by simp only [List.mem_singleton]; rintro rfl; exact n5 hk)), Only.fresh xs o25 (by simp; omega)⟩
        · refine opE _ fun g26 p5 x26 z26 => ?_
          obtain ⟨k5, hk5⟩ : ∃ k, g1.size = k := ⟨_, rfl⟩
          rw [hk5] at p5 ⊢
          have y26 := x26.size
          replace own17 := own17.ext x26
          replace xs := xs.trans x26
          refine ⟨hS xs, ?_⟩
          refine ⟨?_, ?_⟩
          · refine opT own17 (s19.ext xs) (by simp; omega) xs.size fun g27 v20 own20 o27 b20 => ?_
            obtain ⟨k20, hk20⟩ : ∃ k, g26.size = k := ⟨_, rfl⟩
            rw [hk20, b17] at b20
            have y27 := o27.size
            have f27 : ∀ k ∈ blk v17, h3.size ≤ k := fun k hk => (own17.ge k hk).1
            have m5 : k5 ∉ blk v20 := by
              intro hm
              have := b20 _ hm
              simp only [List.mem_singleton] at this
              omega
            replace p5 := o27.at p5 (by rw [b17]; simp <;> omega)
            replace xs := Only.fresh xs o27 f27
            refine ⟨hS xs, ?_⟩
            refine opC t fun g28 p22 x28 z28 => ?_
            obtain ⟨k22, hk22⟩ : ∃ k, g27.size = k := ⟨_, rfl⟩
            rw [hk22] at p22 ⊢
            have y28 := x28.size
            replace own20 := own20.ext x28
            replace p5 := x28.at p5
            replace xs := xs.trans x28
            refine ⟨hS xs, ?_⟩
            refine opT own20 (one_slT p22) (by simp; omega) xs.size fun g29 v23 own23 o29 b23 => ?_
            obtain ⟨k23, hk23⟩ : ∃ k, g28.size = k := ⟨_, rfl⟩
            rw [hk23] at b23
            have y29 := o29.size
            have f29 : ∀ k ∈ blk v20, h3.size ≤ k := fun k hk => (own20.ge k hk).1
            have n5 : k5 ∉ blk v23 := by
              intro hm
              rcases b23 _ hm with hm | hm
              · exact m5 hm
              · omega
            replace p5 := o29.at p5 m5
            replace xs := Only.fresh xs o29 f29
            refine ⟨hS xs, ?_⟩
            rw [qbd25_0_1 (Keep.refl _ _) plE own23.plain]
            refine opG p5 plE own23.plain fun g30 p5 o30 => ?_
            refine ⟨hS (Only.fresh xs o30 (by simp; omega)), ?_⟩
            exact hJ _ _ ⟨k5, v23, rfl, p5, own_slRc 4 TieT.cs (fun _ => rfl) (own23.only o30 (fun k hk => by simp only [List.mem_singleton]; rintro rfl; exact n5 hk)), Only.fresh xs o30 (by simp; omega)⟩
          · refine opC t fun g31 p22 x31 z31 => ?_
            obtain ⟨k22, hk22⟩ : ∃ k, g26.size = k := ⟨_, rfl⟩
            rw [hk22] at p22 ⊢
            have y31 := x31.size
            replace own17 := own17.ext x31
            replace p5 := x31.at p5
            replace xs := xs.trans x31
            refine ⟨hS xs, ?_⟩
            refine opT own17 (s19.ext xs) (by simp; omega) xs.size fun g32 v20 own20 o32 b20 => ?_
            obtain ⟨k20, hk20⟩ : ∃ k, g31.size = k := ⟨_, rfl⟩
            rw [hk20, b17] at b20
            have y32 := o32.size
            have f32 : ∀ k ∈ blk v17, h3.size ≤ k := fun k hk => (own17.ge k hk).1
            replace p22 := o32.at p22 (by rw [b17]; simp <;> omega)
            have m5 : k5 ∉ blk v20 := by
              intro hm
              have := b20 _ hm
              simp only [List.mem_singleton] at this
              omega
            replace p5 := o32.at p5 (by rw [b17]; simp <;> omega)
            replace xs := Only.fresh xs o32 f32
            refine ⟨hS xs, ?_⟩
            refine opT own20 (one_slT p22) (by simp; omega) xs.size fun g33 v23 own23 o33 b23 => ?_
            obtain ⟨k23, hk23⟩ : ∃ k, g32.size = k := ⟨_, rfl⟩
            rw [hk23] at b23
            have y33 := o33.size
            have f33 : ∀ k ∈ blk v20, h3.size ≤ k := fun k hk => (own20.ge k hk).1
            have n5 : k5 ∉ blk v23 := by
              intro hm
              rcases b23 _ hm with hm | hm
              · exact m5 hm
              · omega
            replace p5 := o33.at p5 m5
            replace xs := Only.fresh xs o33 f33
            refine ⟨hS xs, ?_⟩
            rw [qbd25_0_1 (Keep.refl _ _) plE own23.plain]
            refine opG p5 plE own23.plain fun g34 p5 o34 => ?_
            refine ⟨hS (Only.fresh xs o34 (by simp; omega)), ?_⟩
            exact hJ _ _ ⟨k5, v23, rfl, p5, own_slRc 4 TieT.cs (fun _ => rfl) (own23.only o34 (fun k hk => by simp only [List.mem_singleton]; rintro rfl; exact n5 hk)), Only.fresh xs o34 (by simp; omega)⟩
      · refine opC t fun g35 p22 x35 z35 => ?_
        obtain ⟨k22, hk22⟩ : ∃ k, h3.size = k := ⟨_, rfl⟩
        rw [hk22] at p22 ⊢
        have y35 := x35.size
        replace xs := xs.trans x35
        refine ⟨hS xs, ?_⟩
        refine ⟨?_, ?_⟩
        · refine opA (B := h3.size) xs.size fun g36 v17 own17 x36 b17 z36 => ?_
          obtain ⟨k17, hk17⟩ : ∃ k, g35.size = k := ⟨_, rfl⟩
          rw [hk17] at b17
          have y36 := x36.size
          replace p22 := x36.at p22
          replace xs := xs.trans x36
          refine ⟨hS xs, ?_⟩
          refine ⟨?_, ?_⟩
          · refine opT own17 (s19.ext xs) (by simp; omega) xs.size fun g37 v20 own20 o37 b20 => ?_
            obtain ⟨k20, hk20⟩ : ∃ k, g36.size = k := ⟨_, rfl⟩
            rw [hk20, b17] at b20
            have y37 := o37.size
            have f37 : ∀ k ∈ blk v17, h3.size ≤ k := fun k hk => (own17.ge k hk).1
            replace p22 := o37.at p22 (by rw [b17]; simp <;> omega)
            replace xs := Only.fresh xs o37 f37
            refine ⟨hS xs, ?_⟩
            refine ⟨?_, ?_⟩
            · refine opT own20 (one_slT p22) (by simp; omega) xs.size fun g38 v23 own23 o38 b23 => ?_
              obtain ⟨k23, hk23⟩ : ∃ k, g37.size = k := ⟨_, rfl⟩
              rw [hk23] at b23
              have y38 := o38.size
              have f38 : ∀ k ∈ blk v20, h3.size ≤ k := fun k hk => (own20.ge k hk).1
              replace xs := Only.fresh xs o38 f38
              refine ⟨hS xs, ?_⟩
              rw [qbd25_0_1 (Keep.refl _ _) plE own23.plain]
              refine opE _ fun g39 p5 x39 z39 => ?_
              obtain ⟨k5, hk5⟩ : ∃ k, g38.size = k := ⟨_, rfl⟩
              rw [hk5] at p5 ⊢
              have n5 : k5 ∉ blk v23 := fun hm => by have := (own23.ge _ hm).2; omega
              have y39 := x39.size
              replace own23 := own23.ext x39
              replace xs := xs.trans x39
              refine ⟨hS xs, ?_⟩
              refine opG p5 plE own23.plain fun g40 p5 o40 => ?_
              refine ⟨hS (Only.fresh xs o40 (by simp; omega)), ?_⟩
              exact hJ _ _ ⟨k5, v23, rfl, p5, own_slRc 4 TieT.cs (fun _ => rfl) (own23.only o40 (fun k hk => by simp only [List.mem_singleton]; rintro rfl; exact n5 hk)), Only.fresh xs o40 (by simp; omega)⟩
            · refine opE _ fun g41 p5 x41 z41 => ?_
              obtain ⟨k5, hk5⟩ : ∃ k, g37.size = k := ⟨_, rfl⟩
              rw [hk5] at p5 ⊢
              have m5 : k5 ∉ blk v20 := fun hm => by have := (own20.ge _ hm).2; omega
              have y41 := x41.size
              replace own20 := own20.ext x41
              replace p22 := x41.at p22
              replace xs := xs.trans x41
              refine ⟨hS xs, ?_⟩
              refine opT own20 (one_slT p22) (by simp; omega) xs.size fun g42 v23 own23 o42 b23 => ?_
              obtain ⟨k23, hk23⟩ : ∃ k, g41.size = k := ⟨_, rfl⟩
              rw [hk23] at b23
              have y42 := o42.size
              have f42 : ∀ k ∈ blk v20, h3.size ≤ k := fun k hk => (own20.ge k hk).1
              have n5 : k5 ∉ blk v23 := by
                intro hm
                rcases b23 _ hm with hm | hm
                · exact m5 hm
                · omega
              replace p5 := o42.at p5 m5
              replace xs := Only.fresh xs o42 f42
              refine ⟨hS xs, ?_⟩
              rw [qbd25_0_1 (Keep.refl _ _) plE own23.plain]
              refine opG p5 plE own23.plain fun g43 p5 o43 => ?_
              refine ⟨hS (Only.fresh xs o43 (by simp; omega)), ?_⟩
              exact hJ _ _ ⟨k5, v23, rfl, p5, own_slRc 4 TieT.cs (fun _ => rfl) (own23.only o43 (fun k hk => by simp only [List.mem_singleton]; rintro rfl; exact n5 hk)), Only.fresh xs o43 (by simp; omega)⟩
          · refine opE _ fun g44 p5 x44 z44 => ?_
            obtain ⟨k5, hk5⟩ : ∃ k, g36.size = k := ⟨_, rfl⟩
            rw [hk5] at p5 ⊢
            have y44 := x44.size
            replace own17 := own17.ext x44
            replace p22 := x44.at p22
            replace xs := xs.trans x44
            refine ⟨hS xs, ?_⟩
            refine opT own17 (s19.ext xs) (by simp; omega) xs.size fun g45 v20 own20 o45 b20 => ?_
            obtain ⟨k20, hk20⟩ : ∃ k, g44.size = k := ⟨_, rfl⟩
            rw [hk20, b17] at b20
            have y45 := o45.size
            have f45 : ∀ k ∈ blk v17, h3.size ≤ k := fun k hk => (own17.ge k hk).1
            replace p22 := o45.at p22 (by rw [b17]; simp <;> omega)
            have m5 : k5 ∉ blk v20 := by
              intro hm
              have := b20 _ hm
              simp only [List.mem_singleton] at this
              omega
            replace p5 := o45.at p5 (by rw [b17]; simp <;> omega)
            replace xs := Only.fresh xs o45 f45
            refine ⟨hS xs, ?_⟩
            refine opT own20 (one_slT p22) (by simp; omega) xs.size fun g46 v23 own23 o46 b23 => ?_
            obtain ⟨k23, hk23⟩ : ∃ k, g45.size = k := ⟨_, rfl⟩
            rw [hk23] at b23
            have y46 := o46.size
            have f46 : ∀ k ∈ blk v20, h3.size ≤ k := fun k hk => (own20.ge k hk).1
            have n5 : k5 ∉ blk v23 := by
              intro hm
              rcases b23 _ hm with hm | hm
              · exact m5 hm
              · omega
            replace p5 := o46.at p5 m5
            replace xs := Only.fresh xs o46 f46
            refine ⟨hS xs, ?_⟩
            rw [qbd25_0_1 (Keep.refl _ _) plE own23.plain]
            refine opG p5 plE own23.plain fun g47 p5 o47 => ?_
            refine ⟨hS (Only.fresh xs o47 (by simp; omega)), ?_⟩
            exact hJ _ _ ⟨k5, v23, rfl, p5, own_slRc 4 TieT.cs (fun _ => rfl) (own23.only o47 (fun k hk => by simp only [List.mem_singleton]; rintro rfl; exact n5 hk)), Only.fresh xs o47 (by simp; omega)⟩
        · refine opE _ fun g48 p5 x48 z48 => ?_
          obtain ⟨k5, hk5⟩ : ∃ k, g35.size = k := ⟨_, rfl⟩
          rw [hk5] at p5 ⊢
          have y48 := x48.size
          replace p22 := x48.at p22
          replace xs := xs.trans x48
          refine ⟨hS xs, ?_⟩
          refine opA (B := h3.size) xs.size fun g49 v17 own17 x49 b17 z49 => ?_
          obtain ⟨k17, hk17⟩ : ∃ k, g48.size = k := ⟨_, rfl⟩
          rw [hk17] at b17
          have y49 := x49.size
          replace p22 := x49.at p22
          replace p5 := x49.at p5
          replace xs := xs.trans x49
          refine ⟨hS xs, ?_⟩
          refine opT own17 (s19.ext xs) (by simp; omega) xs.size fun g50 v20 own20 o50 b20 => ?_
          obtain ⟨k20, hk20⟩ : ∃ k, g49.size = k := ⟨_, rfl⟩
          rw [hk20, b17] at b20
          have y50 := o50.size
          have f50 : ∀ k ∈ blk v17, h3.size ≤ k := fun k hk => (own17.ge k hk).1
          replace p22 := o50.at p22 (by rw [b17]; simp <;> omega)
          have m5 : k5 ∉ blk v20 := by
            intro hm
            have := b20 _ hm
            simp only [List.mem_singleton] at this
            omega
          replace p5 := o50.at p5 (by rw [b17]; simp <;> omega)
          replace xs := Only.fresh xs o50 f50
          refine ⟨hS xs, ?_⟩
          refine opT own20 (one_slT p22) (by simp; omega) xs.size fun g51 v23 own23 o51 b23 => ?_
          obtain ⟨k23, hk23⟩ : ∃ k, g50.size = k := ⟨_, rfl⟩
          rw [hk23] at b23
          have y51 := o51.size
          have f51 : ∀ k ∈ blk v20, h3.size ≤ k := fun k hk => (own20.ge k hk).1
          have n5 : k5 ∉ blk v23 := by
            intro hm
            rcases b23 _ hm with hm | hm
            · exact m5 hm
            · omega
          replace p5 := o51.at p5 m5
          replace xs := Only.fresh xs o51 f51
          refine ⟨hS xs, ?_⟩
          rw [qbd25_0_1 (Keep.refl _ _) plE own23.plain]
          refine opG p5 plE own23.plain fun g52 p5 o52 => ?_
          refine ⟨hS (Only.fresh xs o52 (by simp; omega)), ?_⟩
          exact hJ _ _ ⟨k5, v23, rfl, p5, own_slRc 4 TieT.cs (fun _ => rfl) (own23.only o52 (fun k hk => by simp only [List.mem_singleton]; rintro rfl; exact n5 hk)), Only.fresh xs o52 (by simp; omega)⟩
      · refine opE _ fun g53 p5 x53 z53 => ?_
        obtain ⟨k5, hk5⟩ : ∃ k, h3.size = k := ⟨_, rfl⟩
        rw [hk5] at p5 ⊢
        have y53 := x53.size
        replace xs := xs.trans x53
        refine ⟨hS xs, ?_⟩
        refine ⟨?_, ?_⟩
        · refine opA (B := h3.size) xs.size fun g54 v17 own17 x54 b17 z54 => ?_
          obtain ⟨k17, hk17⟩ : ∃ k, g53.size = k := ⟨_, rfl⟩
          rw [hk17] at b17
          have y54 := x54.size
          replace p5 := x54.at p5
          replace xs := xs.trans x54
          refine ⟨hS xs, ?_⟩
          refine ⟨?_, ?_⟩
          · refine opT own17 (s19.ext xs) (by simp; omega) xs.size fun g55 v20 own20 o55 b20 => ?_
            obtain ⟨k20, hk20⟩ : ∃ k, g54.size = k := ⟨_, rfl⟩
            rw [hk20, b17] at b20
            have y55 := o55.size
            have f55 : ∀ k ∈ blk v17, h3.size ≤ k := fun k hk => (own17.ge k hk).1
            have m5 : k5 ∉ blk v20 := by
              intro hm
              have := b20 _ hm
              simp only [List.mem_singleton] at this
              omega
            replace p5 := o55.at p5 (by rw [b17]; simp <;> omega)
            replace xs := Only.fresh xs o55 f55
            refine ⟨hS xs, ?_⟩
            refine opC t fun g56 p22 x56 z56 => ?_
            obtain ⟨k22, hk22⟩ : ∃ k, g55.size = k := ⟨_, rfl⟩
            rw [hk22] at p22 ⊢
            have y56 := x56.size
            replace own20 := own20.ext x56
            replace p5 := x56.at p5
            replace xs := xs.trans x56
            refine ⟨hS xs, ?_⟩
            refine opT own20 (one_slT p22) (by simp; omega) xs.size fun g57 v23 own23 o57 b23 => ?_
            obtain ⟨k23, hk23⟩ : ∃ k, g56.size = k := ⟨_, rfl⟩
            rw [hk23] at b23
            have y57 := o57.size
            have f57 : ∀ k ∈ blk v20, h3.size ≤ k := fun k hk => (own20.ge k hk).1
            have n5 : k5 ∉ blk v23 := by
              intro hm
              rcases b23 _ hm with hm | hm
              · exact m5 hm
              · omega
            replace p5 := o57.at p5 m5
            replace xs := Only.fresh xs o57 f57
            refine ⟨hS xs, ?_⟩
            rw [qbd25_0_1 (Keep.refl _ _) plE own23.plain]
            refine opG p5 plE own23.plain fun g58 p5 o58 => ?_
            refine ⟨hS (Only.fresh xs o58 (by simp; omega)), ?_⟩
            exact hJ _ _ ⟨k5, v23, rfl, p5, own_slRc 4 TieT.cs (fun _ => rfl) (own23.only o58 (fun k hk => by simp only [List.mem_singleton]; rintro rfl; exact n5 hk)), Only.fresh xs o58 (by simp; omega)⟩
          · refine opC t fun g59 p22 x59 z59 => ?_
            obtain ⟨k22, hk22⟩ : ∃ k, g54.size = k := ⟨_, rfl⟩
            rw [hk22] at p22 ⊢
            have y59 := x59.size
            replace own17 := own17.ext x59
            replace p5 := x59.at p5
            replace xs := xs.trans x59
            refine ⟨hS xs, ?_⟩
            refine opT own17 (s19.ext xs) (by simp; omega) xs.size fun g60 v20 own20 o60 b20 => ?_
            obtain ⟨k20, hk20⟩ : ∃ k, g59.size = k := ⟨_, rfl⟩
            rw [hk20, b17] at b20
            have y60 := o60.size
            have f60 : ∀ k ∈ blk v17, h3.size ≤ k := fun k hk => (own17.ge k hk).1
            replace p22 := o60.at p22 (by rw [b17]; simp <;> omega)
            have m5 : k5 ∉ blk v20 := by
              intro hm
              have := b20 _ hm
              simp only [List.mem_singleton] at this
              omega
            replace p5 := o60.at p5 (by rw [b17]; simp <;> omega)
            replace xs := Only.fresh xs o60 f60
            refine ⟨hS xs, ?_⟩
            refine opT own20 (one_slT p22) (by simp; omega) xs.size fun g61 v23 own23 o61 b23 => ?_
            obtain ⟨k23, hk23⟩ : ∃ k, g60.size = k := ⟨_, rfl⟩
            rw [hk23] at b23
            have y61 := o61.size
            have f61 : ∀ k ∈ blk v20, h3.size ≤ k := fun k hk => (own20.ge k hk).1
            have n5 : k5 ∉ blk v23 := by
              intro hm
              rcases b23 _ hm with hm | hm
              · exact m5 hm
              · omega
            replace p5 := o61.at p5 m5
            replace xs := Only.fresh xs o61 f61
            refine ⟨hS xs, ?_⟩
            rw [qbd25_0_1 (Keep.refl _ _) plE own23.plain]
            refine opG p5 plE own23.plain fun g62 p5 o62 => ?_
            refine ⟨hS (Only.fresh xs o62 (by simp; omega)), ?_⟩
            exact hJ _ _ ⟨k5, v23, rfl, p5, own_slRc 4 TieT.cs (fun _ => rfl) (own23.only o62 (fun k hk => by simp only [List.mem_singleton]; rintro rfl; exact n5 hk)), Only.fresh xs o62 (by simp; omega)⟩
        · refine opC t fun g63 p22 x63 z63 => ?_
          obtain ⟨k22, hk22⟩ : ∃ k, g53.size = k := ⟨_, rfl⟩
          rw [hk22] at p22 ⊢
          have y63 := x63.size
          replace p5 := x63.at p5
          replace xs := xs.trans x63
          refine ⟨hS xs, ?_⟩
          refine opA (B := h3.size) xs.size fun g64 v17 own17 x64 b17 z64 => ?_
          obtain ⟨k17, hk17⟩ : ∃ k, g63.size = k := ⟨_, rfl⟩
          rw [hk17] at b17
          have y64 := x64.size
          replace p22 := x64.at p22
          replace p5 := x64.at p5
          replace xs := xs.trans x64
          refine ⟨hS xs, ?_⟩
          refine opT own17 (s19.ext xs) (by simp; omega) xs.size fun g65 v20 own20 o65 b20 => ?_
          obtain ⟨k20, hk20⟩ : ∃ k, g64.size = k := ⟨_, rfl⟩
          rw [hk20, b17] at b20
          have y65 := o65.size
          have f65 : ∀ k ∈ blk v17, h3.size ≤ k := fun k hk => (own17.ge k hk).1
          replace p22 := o65.at p22 (by rw [b17]; simp <;> omega)
          have m5 : k5 ∉ blk v20 := by
            intro hm
            have := b20 _ hm
            simp only [List.mem_singleton] at this
            omega
          replace p5 := o65.at p5 (by rw [b17]; simp <;> omega)
          replace xs := Only.fresh xs o65 f65
          refine ⟨hS xs, ?_⟩
          refine opT own20 (one_slT p22) (by simp; omega) xs.size fun g66 v23 own23 o66 b23 => ?_
          obtain ⟨k23, hk23⟩ : ∃ k, g65.size = k := ⟨_, rfl⟩
          rw [hk23] at b23
          have y66 := o66.size
          have f66 : ∀ k ∈ blk v20, h3.size ≤ k := fun k hk => (own20.ge k hk).1
          have n5 : k5 ∉ blk v23 := by
            intro hm
            rcases b23 _ hm with hm | hm
            · exact m5 hm
            · omega
          replace p5 := o66.at p5 m5
          replace xs := Only.fresh xs o66 f66
          refine ⟨hS xs, ?_⟩
          rw [qbd25_0_1 (Keep.refl _ _) plE own23.plain]
          refine opG p5 plE own23.plain fun g67 p5 o67 => ?_
          refine ⟨hS (Only.fresh xs o67 (by simp; omega)), ?_⟩
          exact hJ _ _ ⟨k5, v23, rfl, p5, own_slRc 4 TieT.cs (fun _ => rfl) (own23.only o67 (fun k hk => by simp only [List.mem_singleton]; rintro rfl; exact n5 hk)), Only.fresh xs o67 (by simp; omega)⟩
    · obtain ⟨c5, v23, rfl, p4, s4, x4⟩ := hM
      have x04 := x03.trans x4
      have F4 := F.ext x04
      have G4 : FlatAt h4 ve v23 (more f t) := ⟨F4.ev, s4, F4.ne, by unfold more; simp; omega⟩
      have p40 := x4.at p3
      obtain ⟨n, hnn⟩ : ∃ n, f.ev.length = n := ⟨_, rfl⟩
      have hnn' : (more f t).ev.length = n := hnn
      rw [m_loadAgg Try.underlying25 rfl size25 p40 (by simp)]
      refine matters_spec F4 (by omega) fun h5 v5 P hP own5 x5 => ?_
      rw [hnn] at own5 hsm hP
      obtain ⟨l, hl⟩ : ∃ l, idx n P = l := ⟨_, rfl⟩
      have hll : l.length ≤ n := by rw [← hl]; exact idx_length _ _
      have hml : ∀ x, x ∈ l ↔ ∃ i : Nat, i < n ∧ P i = true ∧ x = (i : Int) := fun x => by rw [← hl]; exact mem_idx
      rw [hl] at own5
      obtain ⟨A5, c5', hv5⟩ := own5.len
      simp (disch := first | assumption | (with_reducible exact Ext.refl _) | (with_reducible exact Keep.refl _ _) | (with_reducible exact Eq.refl _) | (intro _ he; cases he; assumption) | (intro _ he; with_reducible apply keep_cell' he; assumption; simp; done) | (intro _ he; with_reducible apply ext_cell' he; assumption; done) | (with_reducible first | exact pl_int _ _ | exact pl_byte _ | exact pl_u32 _ | exact pl_bool _ | exact pl_ptr _ | exact pl_slice _ _ _ | exact pl_map _ | exact pl_str _ | exact pl_func _ _ _) | ((rw [okW_setH]; repeat rw [okW_setH]); assumption) | ((with_reducible refine cellH_setH_same ?_ _); (repeat rw [okW_setH]); assumption) | ((rw [cellH_setH_off]; rotate_left; focus decide); (repeat (rw [cellH_setH_off]; rotate_left; focus decide)); first | assumption | ((with_reducible refine cellH_setH_same ?_ _); (repeat rw [okW_setH]); assumption)) | omega) only [↓hpR, ↓nilC_ptr, ↓nilC_func, ↓condP_true, ↓condP_false, ↓condP_bool, ↓guardP_true, ↓guardP_false, ↓guardP_bool_t, ↓guardP_bool_f, ↓skipP_undef, ↓pickP_bool, ↓b_add, ↓b_sub, ↓b_mul, ↓b_quo, ↓b_rem, ↓b_lss, ↓b_leq, ↓b_gtr, ↓b_geq, ↓b_eql, ↓b_neq, ↓u_not, ↓s_add, ↓s_eql, ↓s_neq, ↓i_max2, ↓i_min2, ↓x20, ↓x21, ↓x30, ↓x31, ↓x32, ↓q_b_add, ↓q_b_sub, ↓q_b_mul, ↓q_b_quo, ↓q_b_rem, ↓q_b_lss, ↓q_b_leq, ↓q_b_gtr, ↓q_b_geq, ↓q_b_eql, ↓q_b_neq, ↓q_u_not, ↓q_s_add, ↓q_s_eql, ↓q_s_neq, ↓q_i_max2, ↓q_i_min2, ↓q_x20, ↓q_x21, ↓q_x30, ↓q_x31, ↓q_x32, ↓m_box, decide_true, decide_false, tt_and, ff_and, Nat.zero_add, Int.toNat_natCast, cells_agg, cells_bool, cells_int, cells_str, cells_ptr, cells_slice, ↓qend_eq, ↓jump_none, ↓jump_ret, ↓jump_exit, ↓marks_one, cond_true, cond_false, Bool.not_true, Bool.not_false, hv5]
      rw [← hv5]
      refine ⟨fun x hh => ∃ i : Nat, x = .int .i64 (i : Int) ∧ i ≤ l.length ∧ Ext h5 hh, fun x hh => match x with | .int _ i => l.length - i.toNat | _ => 0, ⟨0, rfl, Nat.zero_le _, Ext.refl _⟩, ?_⟩
      rintro js x h6 ⟨i, rfl, hi, x6⟩
      have x46 := x5.trans x6
      have p6 := x46.at p40
      have r6 := x46.at p4
      simp (disch := first | assumption | (with_reducible exact Ext.refl _) | (with_reducible exact Keep.refl _ _) | (with_reducible exact Eq.refl _) | (intro _ he; cases he; assumption) | (intro _ he; with_reducible apply keep_cell' he; assumption; simp; done) | (intro _ he; with_reducible apply ext_cell' he; assumption; done) | (with_reducible first | exact pl_int _ _ | exact pl_byte _ | exact pl_u32 _ | exact pl_bool _ | exact pl_ptr _ | exact pl_slice _ _ _ | exact pl_map _ | exact pl_str _ | exact pl_func _ _ _) | ((rw [okW_setH]; repeat rw [okW_setH]); assumption) | ((with_reducible refine cellH_setH_same ?_ _); (repeat rw [okW_setH]); assumption) | ((rw [cellH_setH_off]; rotate_left; focus decide); (repeat (rw [cellH_setH_off]; rotate_left; focus decide)); first | assumption | ((with_reducible refine cellH_setH_same ?_ _); (repeat rw [okW_setH]); assumption)) | omega) only [↓hpR, ↓nilC_ptr, ↓nilC_func, ↓condP_true, ↓condP_false, ↓condP_bool, ↓guardP_true, ↓guardP_false, ↓guardP_bool_t, ↓guardP_bool_f, ↓skipP_undef, ↓pickP_bool, ↓b_add, ↓b_sub, ↓b_mul, ↓b_quo, ↓b_rem, ↓b_lss, ↓b_leq, ↓b_gtr, ↓b_geq, ↓b_eql, ↓b_neq, ↓u_not, ↓s_add, ↓s_eql, ↓s_neq, ↓i_max2, ↓i_min2, ↓x20, ↓x21, ↓x30, ↓x31, ↓x32, ↓q_b_add, ↓q_b_sub, ↓q_b_mul, ↓q_b_quo, ↓q_b_rem, ↓q_b_lss, ↓q_b_leq, ↓q_b_gtr, ↓q_b_geq, ↓q_b_eql, ↓q_b_neq, ↓q_u_not, ↓q_s_add, ↓q_s_eql, ↓q_s_neq, ↓q_i_max2, ↓q_i_min2, ↓q_x20, ↓q_x21, ↓q_x30, ↓q_x31, ↓q_x32, ↓m_box, decide_true, decide_false, tt_and, ff_and, Nat.zero_add, Int.toNat_natCast, cells_agg, cells_bool, cells_int, cells_str, cells_ptr, cells_slice, ↓qend_eq, ↓jump_none, ↓jump_ret, ↓jump_exit, ↓marks_one, cond_true, cond_false, Bool.not_true, Bool.not_false]
      refine ⟨fun hlt => ?_, fun hge => ?_⟩
      · have hlt' : i < l.length := by simpa using hlt
        obtain ⟨k, hki⟩ : ∃ k, l[i]? = some k := ⟨_, List.getElem?_eq_getElem hlt'⟩
        obtain ⟨k0, hk0, hPk, rfl⟩ := (hml k).1 (List.mem_of_getElem? hki)
        obtain ⟨g, hg, hc⟩ := (own5.ext x6).cell hv5 (i := i) (x := .int .i64 (k0 : Int)) (by unfold ints; rw [List.getElem?_map, hki]; rfl)
        subst hg
        simp (disch := first | assumption | (with_reducible exact Ext.refl _) | (with_reducible exact Keep.refl _ _) | (with_reducible exact Eq.refl _) | (intro _ he; cases he; assumption) | (intro _ he; with_reducible apply keep_cell' he; assumption; simp; done) | (intro _ he; with_reducible apply ext_cell' he; assumption; done) | (with_reducible first | exact pl_int _ _ | exact pl_byte _ | exact pl_u32 _ | exact pl_bool _ | exact pl_ptr _ | exact pl_slice _ _ _ | exact pl_map _ | exact pl_str _ | exact pl_func _ _ _) | ((rw [okW_setH]; repeat rw [okW_setH]); assumption) | ((with_reducible refine cellH_setH_same ?_ _); (repeat rw [okW_setH]); assumption) | ((rw [cellH_setH_off]; rotate_left; focus decide); (repeat (rw [cellH_setH_off]; rotate_left; focus decide)); first | assumption | ((with_reducible refine cellH_setH_same ?_ _); (repeat rw [okW_setH]); assumption)) | omega) only [↓hpR, ↓nilC_ptr, ↓nilC_func, ↓condP_true, ↓condP_false, ↓condP_bool, ↓guardP_true, ↓guardP_false, ↓guardP_bool_t, ↓guardP_bool_f, ↓skipP_undef, ↓pickP_bool, ↓b_add, ↓b_sub, ↓b_mul, ↓b_quo, ↓b_rem, ↓b_lss, ↓b_leq, ↓b_gtr, ↓b_geq, ↓b_eql, ↓b_neq, ↓u_not, ↓s_add, ↓s_eql, ↓s_neq, ↓i_max2, ↓i_min2, ↓x20, ↓x21, ↓x30, ↓x31, ↓x32, ↓q_b_add, ↓q_b_sub, ↓q_b_mul, ↓q_b_quo, ↓q_b_rem, ↓q_b_lss, ↓q_b_leq, ↓q_b_gtr, ↓q_b_geq, ↓q_b_eql, ↓q_b_neq, ↓q_u_not, ↓q_s_add, ↓q_s_eql, ↓q_s_neq, ↓q_i_max2, ↓q_i_min2, ↓q_x20, ↓q_x21, ↓q_x30, ↓q_x31, ↓q_x32, ↓m_box, decide_true, decide_false, tt_and, ff_and, Nat.zero_add, Int.toNat_natCast, cells_agg, cells_bool, cells_int, cells_str, cells_ptr, cells_slice, ↓qend_eq, ↓jump_none, ↓jump_ret, ↓jump_exit, ↓marks_one, cond_true, cond_false, Bool.not_true, Bool.not_false, hv5, Nat.mul_one]
        rw [m_loadAgg Try.underlying25 rfl size25 r6 (by simp)]
        refine matters_spec (G4.ext x46) (by omega) fun h7 v7 P7 hP7 own7 x7 => ?_
        rw [hnn'] at own7 hP7
        have := idx_length n P7
        refine has_few (OwnI.sl own7) (by omega) (k0 : Int) (fun _ => ?_) (mem_idx.2 ⟨k0, hk0, (hP7 k0 hk0).2 (mat_more ((hP k0 hk0).1 hPk)), rfl⟩)
        simp (disch := first | assumption | (with_reducible exact Ext.refl _) | (with_reducible exact Keep.refl _ _) | (with_reducible exact Eq.refl _) | (intro _ he; cases he; assumption) | (intro _ he; with_reducible apply keep_cell' he; assumption; simp; done) | (intro _ he; with_reducible apply ext_cell' he; assumption; done) | (with_reducible first | exact pl_int _ _ | exact pl_byte _ | exact pl_u32 _ | exact pl_bool _ | exact pl_ptr _ | exact pl_slice _ _ _ | exact pl_map _ | exact pl_str _ | exact pl_func _ _ _) | ((rw [okW_setH]; repeat rw [okW_setH]); assumption) | ((with_reducible refine cellH_setH_same ?_ _); (repeat rw [okW_setH]); assumption) | ((rw [cellH_setH_off]; rotate_left; focus decide); (repeat (rw [cellH_setH_off]; rotate_left; focus decide)); first | assumption | ((with_reducible refine cellH_setH_same ?_ _); (repeat rw [okW_setH]); assumption)) | omega) only [↓hpR, ↓nilC_ptr, ↓nilC_func, ↓condP_true, ↓condP_false, ↓condP_bool, ↓guardP_true, ↓guardP_false, ↓guardP_bool_t, ↓guardP_bool_f, ↓skipP_undef, ↓pickP_bool, ↓b_add, ↓b_sub, ↓b_mul, ↓b_quo, ↓b_rem, ↓b_lss, ↓b_leq, ↓b_gtr, ↓b_geq, ↓b_eql, ↓b_neq, ↓u_not, ↓s_add, ↓s_eql, ↓s_neq, ↓i_max2, ↓i_min2, ↓x20, ↓x21, ↓x30, ↓x31, ↓x32, ↓q_b_add, ↓q_b_sub, ↓q_b_mul, ↓q_b_quo, ↓q_b_rem, ↓q_b_lss, ↓q_b_leq, ↓q_b_gtr, ↓q_b_geq, ↓q_b_eql, ↓q_b_neq, ↓q_u_not, ↓q_s_add, ↓q_s_eql, ↓q_s_neq, ↓q_i_max2, ↓q_i_min2, ↓q_x20, ↓q_x21, ↓q_x30, ↓q_x31, ↓q_x32, ↓m_box, decide_true, decide_false, tt_and, ff_and, Nat.zero_add, Int.toNat_natCast, cells_agg, cells_bool, cells_int, cells_str, cells_ptr, cells_slice, ↓qend_eq, ↓jump_none, ↓jump_ret, ↓jump_exit, ↓marks_one, cond_true, cond_false, Bool.not_true, Bool.not_false]
        exact ⟨⟨i + 1, by simp, by omega, x6.trans x7⟩, by omega⟩
      · clear hge hi
        rw [m_loadAgg Try.underlying25 rfl size25 p6 (by simp)]
        refine called_spec (F4.ext x46) fun h7 v7 own7 x7 => ?_
        rw [calledL_eq, hnn] at own7
        obtain ⟨lc, hlc⟩ : ∃ lc, idx n (calledP f) = lc := ⟨_, rfl⟩
        have hmc : ∀ x, x ∈ lc ↔ ∃ i : Nat, i < n ∧ calledP f i = true ∧ x = (i : Int) := fun x => by rw [← hlc]; exact mem_idx
        have hlcl : lc.length ≤ n := by rw [← hlc]; exact idx_length _ _
        rw [hlc] at own7
        obtain ⟨A7, c7, hv7⟩ := own7.len
        simp (disch := first | assumption | (with_reducible exact Ext.refl _) | (with_reducible exact Keep.refl _ _) | (with_reducible exact Eq.refl _) | (intro _ he; cases he; assumption) | (intro _ he; with_reducible apply keep_cell' he; assumption; simp; done) | (intro _ he; with_reducible apply ext_cell' he; assumption; done) | (with_reducible first | exact pl_int _ _ | exact pl_byte _ | exact pl_u32 _ | exact pl_bool _ | exact pl_ptr _ | exact pl_slice _ _ _ | exact pl_map _ | exact pl_str _ | exact pl_func _ _ _) | ((rw [okW_setH]; repeat rw [okW_setH]); assumption) | ((with_reducible refine cellH_setH_same ?_ _); (repeat rw [okW_setH]); assumption) | ((rw [cellH_setH_off]; rotate_left; focus decide); (repeat (rw [cellH_setH_off]; rotate_left; focus decide)); first | assumption | ((with_reducible refine cellH_setH_same ?_ _); (repeat rw [okW_setH]); assumption)) | omega) only [↓hpR, ↓nilC_ptr, ↓nilC_func, ↓condP_true, ↓condP_false, ↓condP_bool, ↓guardP_true, ↓guardP_false, ↓guardP_bool_t, ↓guardP_bool_f, ↓skipP_undef, ↓pickP_bool, ↓b_add, ↓b_sub, ↓b_mul, ↓b_quo, ↓b_rem, ↓b_lss, ↓b_leq, ↓b_gtr, ↓b_geq, ↓b_eql, ↓b_neq, ↓u_not, ↓s_add, ↓s_eql, ↓s_neq, ↓i_max2, ↓i_min2, ↓x20, ↓x21, ↓x30, ↓x31, ↓x32, ↓q_b_add, ↓q_b_sub, ↓q_b_mul, ↓q_b_quo, ↓q_b_rem, ↓q_b_lss, ↓q_b_leq, ↓q_b_gtr, ↓q_b_geq, ↓q_b_eql, ↓q_b_neq, ↓q_u_not, ↓q_s_add, ↓q_s_eql, ↓q_s_neq, ↓q_i_max2, ↓q_i_min2, ↓q_x20, ↓q_x21, ↓q_x30, ↓q_x31, ↓q_x32, ↓m_box, decide_true, decide_false, tt_and, ff_and, Nat.zero_add, Int.toNat_natCast, cells_agg, cells_bool, cells_int, cells_str, cells_ptr, cells_slice, ↓qend_eq, ↓jump_none, ↓jump_ret, ↓jump_exit, ↓marks_one, cond_true, cond_false, Bool.not_true, Bool.not_false, hv7]
        rw [← hv7]
        refine ⟨fun x hh => ∃ i : Nat, x = .int .i64 (i : Int) ∧ i ≤ lc.length ∧ Ext h7 hh, fun x hh => match x with | .int _ i => lc.length - i.toNat | _ => 0, ⟨0, rfl, Nat.zero_le _, Ext.refl _⟩, ?_⟩
        rintro js x h8 ⟨i, rfl, hi, x8⟩
        have x48 := (x46.trans x7).trans x8
        have p8 := x48.at p40
        have r8 := x48.at p4
        simp (disch := first | assumption | (with_reducible exact Ext.refl _) | (with_reducible exact Keep.refl _ _) | (with_reducible exact Eq.refl _) | (intro _ he; cases he; assumption) | (intro _ he; with_reducible apply keep_cell' he; assumption; simp; done) | (intro _ he; with_reducible apply ext_cell' he; assumption; done) | (with_reducible first | exact pl_int _ _ | exact pl_byte _ | exact pl_u32 _ | exact pl_bool _ | exact pl_ptr _ | exact pl_slice _ _ _ | exact pl_map _ | exact pl_str _ | exact pl_func _ _ _) | ((rw [okW_setH]; repeat rw [okW_setH]); assumption) | ((with_reducible refine cellH_setH_same ?_ _); (repeat rw [okW_setH]); assumption) | ((rw [cellH_setH_off]; rotate_left; focus decide); (repeat (rw [cellH_setH_off]; rotate_left; focus decide)); first | assumption | ((with_reducible refine cellH_setH_same ?_ _); (repeat rw [okW_setH]); assumption)) | omega) only [↓hpR, ↓nilC_ptr, ↓nilC_func, ↓condP_true, ↓condP_false, ↓condP_bool, ↓guardP_true, ↓guardP_false, ↓guardP_bool_t, ↓guardP_bool_f, ↓skipP_undef, ↓pickP_bool, ↓b_add, ↓b_sub, ↓b_mul, ↓b_quo, ↓b_rem, ↓b_lss, ↓b_leq, ↓b_gtr, ↓b_geq, ↓b_eql, ↓b_neq, ↓u_not, ↓s_add, ↓s_eql, ↓s_neq, ↓i_max2, ↓i_min2, ↓x20, ↓x21, ↓x30, ↓x31, ↓x32, ↓q_b_add, ↓q_b_sub, ↓q_b_mul, ↓q_b_quo, ↓q_b_rem, ↓q_b_lss, ↓q_b_leq, ↓q_b_gtr, ↓q_b_geq, ↓q_b_eql, ↓q_b_neq, ↓q_u_not, ↓q_s_add, ↓q_s_eql, ↓q_s_neq, ↓q_i_max2, ↓q_i_min2, ↓q_x20, ↓q_x21, ↓q_x30, ↓q_x31, ↓q_x32, ↓m_box, decide_true, decide_false, tt_and, ff_and, Nat.zero_add, Int.toNat_natCast, cells_agg, cells_bool, cells_int, cells_str, cells_ptr, cells_slice, ↓qend_eq, ↓jump_none, ↓jump_ret, ↓jump_exit, ↓marks_one, cond_true, cond_false, Bool.not_true, Bool.not_false]
        refine ⟨fun hlt => ?_, fun hge => ?_⟩
        · have hlt' : i < lc.length := by simpa using hlt
          obtain ⟨k, hki⟩ : ∃ k, lc[i]? = some k := ⟨_, List.getElem?_eq_getElem hlt'⟩
          obtain ⟨k0, hk0, hck, rfl⟩ := (hmc k).1 (List.mem_of_getElem? hki)
          obtain ⟨g, hg, hc⟩ := (own7.ext x8).cell hv7 (i := i) (x := .int .i64 (k0 : Int)) (by unfold ints; rw [List.getElem?_map, hki]; rfl)
          subst hg
          simp (disch := first | assumption | (with_reducible exact Ext.refl _) | (with_reducible exact Keep.refl _ _) | (with_reducible exact Eq.refl _) | (intro _ he; cases he; assumption) | (intro _ he; with_reducible apply keep_cell' he; assumption; simp; done) | (intro _ he; with_reducible apply ext_cell' he; assumption; done) | (with_reducible first | exact pl_int _ _ | exact pl_byte _ | exact pl_u32 _ | exact pl_bool _ | exact pl_ptr _ | exact pl_slice _ _ _ | exact pl_map _ | exact pl_str _ | exact pl_func _ _ _) | ((rw [okW_setH]; repeat rw [okW_setH]); assumption) | ((with_reducible refine cellH_setH_same ?_ _); (repeat rw [okW_setH]); assumption) | ((rw [cellH_setH_off]; rotate_left; focus decide); (repeat (rw [cellH_setH_off]; rotate_left; focus decide)); first | assumption | ((with_reducible refine cellH_setH_same ?_ _); (repeat rw [okW_setH]); assumption)) | omega) only [↓hpR, ↓nilC_ptr, ↓nilC_func, ↓condP_true, ↓condP_false, ↓condP_bool, ↓guardP_true, ↓guardP_false, ↓guardP_bool_t, ↓guardP_bool_f, ↓skipP_undef, ↓pickP_bool, ↓b_add, ↓b_sub, ↓b_mul, ↓b_quo, ↓b_rem, ↓b_lss, ↓b_leq, ↓b_gtr, ↓b_geq, ↓b_eql, ↓b_neq, ↓u_not, ↓s_add, ↓s_eql, ↓s_neq, ↓i_max2, ↓i_min2, ↓x20, ↓x21, ↓x30, ↓x31, ↓x32, ↓q_b_add, ↓q_b_sub, ↓q_b_mul, ↓q_b_quo, ↓q_b_rem, ↓q_b_lss, ↓q_b_leq, ↓q_b_gtr, ↓q_b_geq, ↓q_b_eql, ↓q_b_neq, ↓q_u_not, ↓q_s_add, ↓q_s_eql, ↓q_s_neq, ↓q_i_max2, ↓q_i_min2, ↓q_x20, ↓q_x21, ↓q_x30, ↓q_x31, ↓q_x32, ↓m_box, decide_true, decide_false, tt_and, ff_and, Nat.zero_add, Int.toNat_natCast, cells_agg, cells_bool, cells_int, cells_str, cells_ptr, cells_slice, ↓qend_eq, ↓jump_none, ↓jump_ret, ↓jump_exit, ↓marks_one, cond_true, cond_false, Bool.not_true, Bool.not_false, hv7, Nat.mul_one]
          rw [m_loadAgg Try.underlying25 rfl size25 r8 (by simp)]
          refine called_spec (G4.ext x48) fun h9 v9 own9 x9 => ?_
          rw [calledL_eq, hnn'] at own9
          have := idx_length n (calledP (more f t))
          refine has_few (OwnI.sl own9) (by omega) (k0 : Int) (fun _ => ?_) (mem_idx.2 ⟨k0, hk0, calledP_more hck, rfl⟩)
          simp (disch := first | assumption | (with_reducible exact Ext.refl _) | (with_reducible exact Keep.refl _ _) | (with_reducible exact Eq.refl _) | (intro _ he; cases he; assumption) | (intro _ he; with_reducible apply keep_cell' he; assumption; simp; done) | (intro _ he; with_reducible apply ext_cell' he; assumption; done) | (with_reducible first | exact pl_int _ _ | exact pl_byte _ | exact pl_u32 _ | exact pl_bool _ | exact pl_ptr _ | exact pl_slice _ _ _ | exact pl_map _ | exact pl_str _ | exact pl_func _ _ _) | ((rw [okW_setH]; repeat rw [okW_setH]); assumption) | ((with_reducible refine cellH_setH_same ?_ _); (repeat rw [okW_setH]); assumption) | ((rw [cellH_setH_off]; rotate_left; focus decide); (repeat (rw [cellH_setH_off]; rotate_left; focus decide)); first | assumption | ((with_reducible refine cellH_setH_same ?_ _); (repeat rw [okW_setH]); assumption)) | omega) only [↓hpR, ↓nilC_ptr, ↓nilC_func, ↓condP_true, ↓condP_false, ↓condP_bool, ↓guardP_true, ↓guardP_false, ↓guardP_bool_t, ↓guardP_bool_f, ↓skipP_undef, ↓pickP_bool, ↓b_add, ↓b_sub, ↓b_mul, ↓b_quo, ↓b_rem, ↓b_lss, ↓b_leq, ↓b_gtr, ↓b_geq, ↓b_eql, ↓b_neq, ↓u_not, ↓s_add, ↓s_eql, ↓s_neq, ↓i_max2, ↓i_min2, ↓x20, ↓x21, ↓x30, ↓x31, ↓x32, ↓q_b_add, ↓q_b_sub, ↓q_b_mul, ↓q_b_quo, ↓q_b_rem, ↓q_b_lss, ↓q_b_leq, ↓q_b_gtr, ↓q_b_geq, ↓q_b_eql, ↓q_b_neq, ↓q_u_not, ↓q_s_add, ↓q_s_eql, ↓q_s_neq, ↓q_i_max2, ↓q_i_min2, ↓q_x20, ↓q_x21, ↓q_x30, ↓q_x31, ↓q_x32, ↓m_box, decide_true, decide_false, tt_and, ff_and, Nat.zero_add, Int.toNat_natCast, cells_agg, cells_bool, cells_int, cells_str, cells_ptr, cells_slice, ↓qend_eq, ↓jump_none, ↓jump_ret, ↓jump_exit, ↓marks_one, cond_true, cond_false, Bool.not_true, Bool.not_false]
          exact ⟨⟨i + 1, by simp, by omega, x8.trans x9⟩, by omega⟩
        · refine Quiet_keep [h.size, c5] ?_
          have u1 : ∀ h', Keep [h.size, c5] h8 h' → h'[h.size]? = some (.cells #[ve, vt] 25 (0, 0)) := fun h' he => keep_at he p8 (by simp)
          have u2 : ∀ h', Keep [h.size, c5] h8 h' → h'[c5]? = some (.cells #[ve, v23] 25 (0, 0)) := fun h' he => keep_at he r8 (by simp)
          rw [q_m_loadAgg (Keep.refl _ _) Try.underlying25 rfl size25 u2 (by simp), q_m_loadAgg (Keep.refl _ _) Try.underlying25 rfl size25 u1 (by simp)]
          have w1 := lt_of_at p8
          have w2 := lt_of_at r8
          refine excluded_spec (G4.ext x48) fun h9 v9 own9 x9 => ?_
          refine ⟨keep_ext x9 (by simp; omega), ?_⟩
          rw [excludedL_eq, hnn'] at own9
          obtain ⟨A9, c9, hv9⟩ := own9.len
          simp (disch := first | assumption | (with_reducible exact Ext.refl _) | (with_reducible exact Keep.refl _ _) | (with_reducible exact Eq.refl _) | (intro _ he; cases he; assumption) | (intro _ he; with_reducible apply keep_cell' he; assumption; simp; done) | (intro _ he; with_reducible apply ext_cell' he; assumption; done) | (with_reducible first | exact pl_int _ _ | exact pl_byte _ | exact pl_u32 _ | exact pl_bool _ | exact pl_ptr _ | exact pl_slice _ _ _ | exact pl_map _ | exact pl_str _ | exact pl_func _ _ _) | ((rw [okW_setH]; repeat rw [okW_setH]); assumption) | ((with_reducible refine cellH_setH_same ?_ _); (repeat rw [okW_setH]); assumption) | ((rw [cellH_setH_off]; rotate_left; focus decide); (repeat (rw [cellH_setH_off]; rotate_left; focus decide)); first | assumption | ((with_reducible refine cellH_setH_same ?_ _); (repeat rw [okW_setH]); assumption)) | omega) only [↓hpR, ↓nilC_ptr, ↓nilC_func, ↓condP_true, ↓condP_false, ↓condP_bool, ↓guardP_true, ↓guardP_false, ↓guardP_bool_t, ↓guardP_bool_f, ↓skipP_undef, ↓pickP_bool, ↓b_add, ↓b_sub, ↓b_mul, ↓b_quo, ↓b_rem, ↓b_lss, ↓b_leq, ↓b_gtr, ↓b_geq, ↓b_eql, ↓b_neq, ↓u_not, ↓s_add, ↓s_eql, ↓s_neq, ↓i_max2, ↓i_min2, ↓x20, ↓x21, ↓x30, ↓x31, ↓x32, ↓q_b_add, ↓q_b_sub, ↓q_b_mul, ↓q_b_quo, ↓q_b_rem, ↓q_b_lss, ↓q_b_leq, ↓q_b_gtr, ↓q_b_geq, ↓q_b_eql, ↓q_b_neq, ↓q_u_not, ↓q_s_add, ↓q_s_eql, ↓q_s_neq, ↓q_i_max2, ↓q_i_min2, ↓q_x20, ↓q_x21, ↓q_x30, ↓q_x31, ↓q_x32, ↓m_box, decide_true, decide_false, tt_and, ff_and, Nat.zero_add, Int.toNat_natCast, cells_agg, cells_bool, cells_int, cells_str, cells_ptr, cells_slice, ↓qend_eq, ↓jump_none, ↓jump_ret, ↓jump_exit, ↓marks_one, cond_true, cond_false, Bool.not_true, Bool.not_false, hv9]
          refine excluded_spec (F4.ext (x48.trans x9)) fun h10 v10 own10 x10 => ?_
          refine ⟨keep_ext (x9.trans x10) (by simp; omega), ?_⟩
          rw [excludedL_eq, hnn] at own10
          obtain ⟨A10, c10, hv10⟩ := own10.len
          simp (disch := first | assumption | (with_reducible exact Ext.refl _) | (with_reducible exact Keep.refl _ _) | (with_reducible exact Eq.refl _) | (intro _ he; cases he; assumption) | (intro _ he; with_reducible apply keep_cell' he; assumption; simp; done) | (intro _ he; with_reducible apply ext_cell' he; assumption; done) | (with_reducible first | exact pl_int _ _ | exact pl_byte _ | exact pl_u32 _ | exact pl_bool _ | exact pl_ptr _ | exact pl_slice _ _ _ | exact pl_map _ | exact pl_str _ | exact pl_func _ _ _) | ((rw [okW_setH]; repeat rw [okW_setH]); assumption) | ((with_reducible refine cellH_setH_same ?_ _); (repeat rw [okW_setH]); assumption) | ((rw [cellH_setH_off]; rotate_left; focus decide); (repeat (rw [cellH_setH_off]; rotate_left; focus decide)); first | assumption | ((with_reducible refine cellH_setH_same ?_ _); (repeat rw [okW_setH]); assumption)) | omega) only [↓hpR, ↓nilC_ptr, ↓nilC_func, ↓condP_true, ↓condP_false, ↓condP_bool, ↓guardP_true, ↓guardP_false, ↓guardP_bool_t, ↓guardP_bool_f, ↓skipP_undef, ↓pickP_bool, ↓b_add, ↓b_sub, ↓b_mul, ↓b_quo, ↓b_rem, ↓b_lss, ↓b_leq, ↓b_gtr, ↓b_geq, ↓b_eql, ↓b_neq, ↓u_not, ↓s_add, ↓s_eql, ↓s_neq, ↓i_max2, ↓i_min2, ↓x20, ↓x21, ↓x30, ↓x31, ↓x32, ↓q_b_add, ↓q_b_sub, ↓q_b_mul, ↓q_b_quo, ↓q_b_rem, ↓q_b_lss, ↓q_b_leq, ↓q_b_gtr, ↓q_b_geq, ↓q_b_eql, ↓q_b_neq, ↓q_u_not, ↓q_s_add, ↓q_s_eql, ↓q_s_neq, ↓q_i_max2, ↓q_i_min2, ↓q_x20, ↓q_x21, ↓q_x30, ↓q_x31, ↓q_x32, ↓m_box, decide_true, decide_false, tt_and, ff_and, Nat.zero_add, Int.toNat_natCast, cells_agg, cells_bool, cells_int, cells_str, cells_ptr, cells_slice, ↓qend_eq, ↓jump_none, ↓jump_ret, ↓jump_exit, ↓marks_one, cond_true, cond_false, Bool.not_true, Bool.not_false, hv10]
          have hm := idx_mono (n := n) (p := excludedP f) (q := excludedP (more f t)) fun i _ h => excludedP_more h
          rw [decide_eq_true (by omega)]
          exact hk h10 (x04.trans ((x48.trans x9).trans x10))
end Go.Proofs.Ytopflbjjbindkaa
