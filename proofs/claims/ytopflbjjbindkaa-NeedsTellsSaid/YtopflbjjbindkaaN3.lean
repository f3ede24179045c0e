/- Flat graphs; places told by ties, and events of which something is so. -/
import Derived.Test.YtopflbjjbindkaaN2
set_option linter.unusedVariables false
set_option linter.unusedSimpArgs false
namespace Go.Proofs.Ytopflbjjbindkaa
open Go.Hp Go.RowKit

theorem size25 : (Try.prog.info? 25).map (·.size) = some 2 := by kernel_rfl
theorem size30 : (Try.prog.info? 30).map (·.size) = some 2 := by kernel_rfl
structure EvT where
  name : List UInt8
  group : List UInt8
  role : List UInt8
  inn : Bool
  done : Bool
  due : Int
def EvT.cs (x : EvT) : List Value := [str x.name, str x.group, str x.role, .bool x.inn, .bool x.done, .int .i64 x.due]
def EvT.v (x : EvT) : Value := .agg #[str x.name, str x.group, str x.role, .bool x.inn, .bool x.done, .int .i64 x.due]
structure TieT where
  kind : Int
  fr : Int
  to_ : Int
  time : Int
def TieT.cs (t : TieT) : List Value := [.int .i64 t.kind, .int .i64 t.fr, .int .i64 t.to_, .int .i64 t.time]
def TieT.v (t : TieT) : Value := .agg #[.int .i64 t.kind, .int .i64 t.fr, .int .i64 t.to_, .int .i64 t.time]
structure FlatT where
  ev : List EvT
  ties : List TieT
structure FlatAt (h : Heap) (ve vt : Value) (f : FlatT) : Prop where
  ev : SlR 6 (fun cs x => cs = EvT.cs x) h ve f.ev
  ties : SlR 4 (fun cs x => cs = TieT.cs x) h vt f.ties
  ne : f.ev.length ≤ 1000
  nt : f.ties.length ≤ 1000
theorem FlatAt.ext {h h' : Heap} {ve vt : Value} {f : FlatT} (F : FlatAt h ve vt f) (x : Ext h h') : FlatAt h' ve vt f := ⟨F.ev.ext x, F.ties.ext x, F.ne, F.nt⟩
/-- An event's, a tie's cells. -/
theorem FlatAt.tie {h : Heap} {ve vt : Value} {f : FlatT} (F : FlatAt h ve vt f) {i : Nat} (hi : i < f.ties.length) : ∃ b o cap, vt = .slice (some ⟨b, o, none⟩) f.ties.length cap ∧ RowAt h b (o + i * 4) (TieT.cs f.ties[i]) := by
  obtain ⟨b, o, cap, h1, h2⟩ := F.ties.get (by omega)
  obtain ⟨cs, q1, rfl, q3⟩ := h2 i f.ties[i] (List.getElem?_eq_getElem hi)
  exact ⟨b, o, cap, h1, q3⟩
theorem FlatAt.event {h : Heap} {ve vt : Value} {f : FlatT} (F : FlatAt h ve vt f) {i : Nat} (hi : i < f.ev.length) : ∃ b o cap, ve = .slice (some ⟨b, o, none⟩) f.ev.length cap ∧ RowAt h b (o + i * 6) (EvT.cs f.ev[i]) := by
  obtain ⟨b, o, cap, h1, h2⟩ := F.ev.get (by omega)
  obtain ⟨cs, q1, rfl, q3⟩ := h2 i f.ev[i] (List.getElem?_eq_getElem hi)
  exact ⟨b, o, cap, h1, q3⟩

def twoB (n : Nat) (t : TieT) : Bool := decide (0 ≤ min t.fr t.to_) && decide (max t.fr t.to_ < (n : Int))
theorem two_spec {h : Heap} {ve vt : Value} {f : FlatT} (F : FlatAt h ve vt f) (t : TieT) {K : Value → Heap → Prop} (hk : ∀ h', Ext h h' → K (.bool (twoB f.ev.length t)) h') : CallF Try.prog 51 #[.agg #[ve, vt], t.v] h K := by
  apply S51
  unfold F51 TieT.v
  obtain ⟨A, cap, rfl⟩ := F.ev.len
  have hne := F.ne
  refine box_step fun h1 x1 z1 p1 => ?_
  refine box_step fun h2 x2 z2 p2 => ?_
  simp only [cells_agg] at p1 p2
  have p1 := x2.at p1
  have c0 : cellH h2 h.size 0 = some (.slice A f.ev.length cap) := by rw [cellH_of p1]; rfl
  have d1 : cellH h2 h1.size 1 = some (.int .i64 t.fr) := by rw [cellH_of p2]; rfl
  have d2 : cellH h2 h1.size 2 = some (.int .i64 t.to_) := by rw [cellH_of p2]; rfl
  have x := x1.trans x2
  simp (disch := first | assumption | (with_reducible exact Ext.refl _) | (with_reducible exact Keep.refl _ _) | (with_reducible exact Eq.refl _) | (intro _ he; cases he; assumption) | (intro _ he; with_reducible apply keep_cell' he; assumption; simp; done) | (intro _ he; with_reducible apply ext_cell' he; assumption; done) | (with_reducible first | exact pl_int _ _ | exact pl_byte _ | exact pl_u32 _ | exact pl_bool _ | exact pl_ptr _ | exact pl_slice _ _ _ | exact pl_map _ | exact pl_str _ | exact pl_func _ _ _) | ((rw [okW_setH]; repeat rw [okW_setH]); assumption) | ((with_reducible refine cellH_setH_same ?_ _); (repeat rw [okW_setH]); assumption) | ((rw [cellH_setH_off]; rotate_left; focus decide); (repeat (rw [cellH_setH_off]; rotate_left; focus decide)); first | assumption | ((with_reducible refine cellH_setH_same ?_ _); (repeat rw [okW_setH]); assumption)) | omega) only [↓hpR, ↓nilC_ptr, ↓nilC_func, ↓condP_true, ↓condP_false, ↓condP_bool, ↓guardP_true, ↓guardP_false, ↓guardP_bool_t, ↓guardP_bool_f, ↓skipP_undef, ↓pickP_bool, ↓b_add, ↓b_sub, ↓b_mul, ↓b_quo, ↓b_rem, ↓b_lss, ↓b_leq, ↓b_gtr, ↓b_geq, ↓b_eql, ↓b_neq, ↓u_not, ↓s_add, ↓s_eql, ↓s_neq, ↓i_max2, ↓i_min2, ↓x20, ↓x21, ↓x30, ↓x31, ↓x32, ↓q_b_add, ↓q_b_sub, ↓q_b_mul, ↓q_b_quo, ↓q_b_rem, ↓q_b_lss, ↓q_b_leq, ↓q_b_gtr, ↓q_b_geq, ↓q_b_eql, ↓q_b_neq, ↓q_u_not, ↓q_s_add, ↓q_s_eql, ↓q_s_neq, ↓q_i_max2, ↓q_i_min2, ↓q_x20, ↓q_x21, ↓q_x30, ↓q_x31, ↓q_x32, ↓m_box, decide_true, decide_false, tt_and, ff_and, Nat.zero_add, Int.toNat_natCast, cells_agg, cells_bool, cells_int, cells_str, cells_ptr, cells_slice, ↓qend_eq, ↓jump_none, ↓jump_ret, ↓jump_exit, ↓marks_one, cond_true, cond_false, Bool.not_true, Bool.not_false]
  unfold twoB at hk
  refine ⟨fun h0 => ?_, fun h0 => ?_⟩
  · have := hk h2 x
    rwa [show decide (0 ≤ min t.fr t.to_) = true from h0, Bool.true_and] at this
  · have := hk h2 x
    rwa [show decide (0 ≤ min t.fr t.to_) = false from h0, Bool.false_and] at this

def Tells (h : Heap) (fv : Value) (tell : TieT → Int × Bool) : Prop := ∀ (t : TieT) (h' : Heap) (K : Value → Heap → Prop), Ext h h' → (∀ h'', Ext h' h'' → K (.tuple #[.int .i64 (tell t).1, .bool (tell t).2]) h'') → CallV Try.prog fv #[t.v] h' K
def Iss (h : Heap) (fv : Value) (p : EvT → Bool) : Prop := ∀ (e : EvT) (h' : Heap) (K : Value → Heap → Prop), Ext h h' → (∀ h'', Ext h' h'' → K (.bool (p e)) h'') → CallV Try.prog fv #[e.v] h' K
theorem keys_spec {h : Heap} {mb : Nat} {K : Value → Heap → Prop} (hk : ∀ h', Ext h h' → cellH h' h.size 0 = some (.map (some mb)) → K (.func (.func 74) #[] #[.pointer (some ⟨h.size, 0, none⟩)]) h') : CallF Try.prog 64 #[.map (some mb)] h K := by
  apply S64
  unfold F64
  refine box_step fun h1 x1 z1 p1 => ?_
  refine hk h1 x1 ?_
  rw [cellH_of p1]
  rfl
theorem putM_length {κ : Type} [DecidableEq κ] (m : List (κ × Value)) (x : κ) (v : Value) : (putM m x v).length ≤ m.length + 1 := by
  have := congrArg List.length (putM_keys m x v)
  simp only [List.length_map] at this
  rw [this]
  split <;> simp
def placesL (f : FlatT) (tell : TieT → Int × Bool) : List Int := idx f.ev.length fun i => f.ties.any fun t => (tell t).2 && twoB f.ev.length t && decide ((tell t).1 = (i : Int))
theorem places_spec {h : Heap} {ve vt fv : Value} {f : FlatT} (F : FlatAt h ve vt f) {tell : TieT → Int × Bool} (ht : Tells h fv tell) (hin : ∀ t, (tell t).1 = t.fr ∨ (tell t).1 = t.to_) {K : Value → Heap → Prop} (hk : ∀ h' v, OwnI h' h.size v (placesL f tell) → Ext h h' → K v h') :
    CallF Try.prog 40 #[.agg #[ve, vt], fv] h K := by
  apply S40
  unfold F40
  have hnt := F.nt
  have hne := F.ne
  refine box_step fun h1 x1 z1 p1 => ?_
  simp only [cells_agg] at p1
  rw [m_makeMap]
  have x2 := x1.push (.map #[] 0)
  have M2 := MapAt.new h1 intV I64
  have p2 := push_old p1 (.map #[] 0)
  generalize h1.push (.map #[] 0) = h2 at x2 M2 p2 ⊢
  obtain ⟨A, cap, hvt⟩ := F.ties.len
  have c1 : cellH h2 h.size 1 = some vt := by rw [cellH_of p2]; rfl
  have hz : h.size < h1.size := by omega
  obtain ⟨mb, hmb⟩ : ∃ mb, mb = h1.size := ⟨_, rfl⟩
  rw [← hmb] at M2 hz ⊢
  obtain ⟨u, hu⟩ : ∃ u, h.size = u := ⟨_, rfl⟩
  rw [hu] at p2 c1 hz ⊢
  simp (disch := first | assumption | (with_reducible exact Ext.refl _) | (with_reducible exact Keep.refl _ _) | (with_reducible exact Eq.refl _) | (intro _ he; cases he; assumption) | (intro _ he; with_reducible apply keep_cell' he; assumption; simp; done) | (intro _ he; with_reducible apply ext_cell' he; assumption; done) | (with_reducible first | exact pl_int _ _ | exact pl_byte _ | exact pl_u32 _ | exact pl_bool _ | exact pl_ptr _ | exact pl_slice _ _ _ | exact pl_map _ | exact pl_str _ | exact pl_func _ _ _) | ((rw [okW_setH]; repeat rw [okW_setH]); assumption) | ((with_reducible refine cellH_setH_same ?_ _); (repeat rw [okW_setH]); assumption) | ((rw [cellH_setH_off]; rotate_left; focus decide); (repeat (rw [cellH_setH_off]; rotate_left; focus decide)); first | assumption | ((with_reducible refine cellH_setH_same ?_ _); (repeat rw [okW_setH]); assumption)) | omega) only [↓hpR, ↓nilC_ptr, ↓nilC_func, ↓condP_true, ↓condP_false, ↓condP_bool, ↓guardP_true, ↓guardP_false, ↓guardP_bool_t, ↓guardP_bool_f, ↓skipP_undef, ↓pickP_bool, ↓b_add, ↓b_sub, ↓b_mul, ↓b_quo, ↓b_rem, ↓b_lss, ↓b_leq, ↓b_gtr, ↓b_geq, ↓b_eql, ↓b_neq, ↓u_not, ↓s_add, ↓s_eql, ↓s_neq, ↓i_max2, ↓i_min2, ↓x20, ↓x21, ↓x30, ↓x31, ↓x32, ↓q_b_add, ↓q_b_sub, ↓q_b_mul, ↓q_b_quo, ↓q_b_rem, ↓q_b_lss, ↓q_b_leq, ↓q_b_gtr, ↓q_b_geq, ↓q_b_eql, ↓q_b_neq, ↓q_u_not, ↓q_s_add, ↓q_s_eql, ↓q_s_neq, ↓q_i_max2, ↓q_i_min2, ↓q_x20, ↓q_x21, ↓q_x30, ↓q_x31, ↓q_x32, ↓m_box, decide_true, decide_false, tt_and, ff_and, Nat.zero_add, Int.toNat_natCast, cells_agg, cells_bool, cells_int, cells_str, cells_ptr, cells_slice, ↓qend_eq, ↓jump_none, ↓jump_ret, ↓jump_exit, ↓marks_one, cond_true, cond_false, Bool.not_true, Bool.not_false, hvt]
  have hnum : ∀ x, x ∈ ([] : List (Int × Value)).map (·.1) ↔ ∃ t ∈ f.ties.take 0, (tell t).2 = true ∧ twoB f.ev.length t = true ∧ (tell t).1 = x := by simp
  refine ⟨fun x hh => ∃ (i : Nat) (m : List (Int × Value)), x = .int .i64 (i : Int) ∧ i ≤ f.ties.length ∧ Ext h hh ∧ SetAt hh mb m ∧ m.length ≤ i ∧ hh[u]? = some (.cells #[ve, vt] 25 (0, 0)) ∧ ∀ x, x ∈ m.map (·.1) ↔ ∃ t ∈ f.ties.take i, (tell t).2 = true ∧ twoB f.ev.length t = true ∧ (tell t).1 = x,
    fun x hh => match x with | .int _ i => f.ties.length - i.toNat | _ => 0, ⟨0, [], rfl, Nat.zero_le _, x2, M2, by simp, p2, hnum⟩, ?_⟩
  clear hnum M2 x2 p2 c1 p1 x1 z1 hmb
  rintro js x h3 ⟨i, m, rfl, hi, x3, M3, hml, p3, hkeys⟩
  simp (disch := first | assumption | (with_reducible exact Ext.refl _) | (with_reducible exact Keep.refl _ _) | (with_reducible exact Eq.refl _) | (intro _ he; cases he; assumption) | (intro _ he; with_reducible apply keep_cell' he; assumption; simp; done) | (intro _ he; with_reducible apply ext_cell' he; assumption; done) | (with_reducible first | exact pl_int _ _ | exact pl_byte _ | exact pl_u32 _ | exact pl_bool _ | exact pl_ptr _ | exact pl_slice _ _ _ | exact pl_map _ | exact pl_str _ | exact pl_func _ _ _) | ((rw [okW_setH]; repeat rw [okW_setH]); assumption) | ((with_reducible refine cellH_setH_same ?_ _); (repeat rw [okW_setH]); assumption) | ((rw [cellH_setH_off]; rotate_left; focus decide); (repeat (rw [cellH_setH_off]; rotate_left; focus decide)); first | assumption | ((with_reducible refine cellH_setH_same ?_ _); (repeat rw [okW_setH]); assumption)) | omega) only [↓hpR, ↓nilC_ptr, ↓nilC_func, ↓condP_true, ↓condP_false, ↓condP_bool, ↓guardP_true, ↓guardP_false, ↓guardP_bool_t, ↓guardP_bool_f, ↓skipP_undef, ↓pickP_bool, ↓b_add, ↓b_sub, ↓b_mul, ↓b_quo, ↓b_rem, ↓b_lss, ↓b_leq, ↓b_gtr, ↓b_geq, ↓b_eql, ↓b_neq, ↓u_not, ↓s_add, ↓s_eql, ↓s_neq, ↓i_max2, ↓i_min2, ↓x20, ↓x21, ↓x30, ↓x31, ↓x32, ↓q_b_add, ↓q_b_sub, ↓q_b_mul, ↓q_b_quo, ↓q_b_rem, ↓q_b_lss, ↓q_b_leq, ↓q_b_gtr, ↓q_b_geq, ↓q_b_eql, ↓q_b_neq, ↓q_u_not, ↓q_s_add, ↓q_s_eql, ↓q_s_neq, ↓q_i_max2, ↓q_i_min2, ↓q_x20, ↓q_x21, ↓q_x30, ↓q_x31, ↓q_x32, ↓m_box, decide_true, decide_false, tt_and, ff_and, Nat.zero_add, Int.toNat_natCast, cells_agg, cells_bool, cells_int, cells_str, cells_ptr, cells_slice, ↓qend_eq, ↓jump_none, ↓jump_ret, ↓jump_exit, ↓marks_one, cond_true, cond_false, Bool.not_true, Bool.not_false]
  refine ⟨fun hlt => ?_, fun hge => ?_⟩
  · have hlt' : i < f.ties.length := by simpa using hlt
    obtain ⟨b, o, cap', hvt', hrow⟩ := F.tie hlt'
    rw [hvt] at hvt'
    injection hvt' with q1 q2 q3
    subst q1
    obtain ⟨t, hti⟩ : ∃ t, f.ties[i] = t := ⟨_, rfl⟩
    rw [hti] at hrow
    have htake : f.ties.take (i + 1) = f.ties.take i ++ [t] := by rw [List.take_add_one, List.getElem?_eq_getElem hlt', hti]; rfl
    refine Join0.intro (fun hh => ∃ (m : List (Int × Value)), Ext h hh ∧ SetAt hh mb m ∧ m.length ≤ i + 1 ∧ hh[u]? = some (.cells #[ve, vt] 25 (0, 0)) ∧ ∀ x, x ∈ m.map (·.1) ↔ ∃ t ∈ f.ties.take (i + 1), (tell t).2 = true ∧ twoB f.ev.length t = true ∧ (tell t).1 = x) (fun J hJ => ?_) (fun h4 hM => ?_)
    · simp (disch := first | assumption | (with_reducible exact Ext.refl _) | (with_reducible exact Keep.refl _ _) | (with_reducible exact Eq.refl _) | (intro _ he; cases he; assumption) | (intro _ he; with_reducible apply keep_cell' he; assumption; simp; done) | (intro _ he; with_reducible apply ext_cell' he; assumption; done) | (with_reducible first | exact pl_int _ _ | exact pl_byte _ | exact pl_u32 _ | exact pl_bool _ | exact pl_ptr _ | exact pl_slice _ _ _ | exact pl_map _ | exact pl_str _ | exact pl_func _ _ _) | ((rw [okW_setH]; repeat rw [okW_setH]); assumption) | ((with_reducible refine cellH_setH_same ?_ _); (repeat rw [okW_setH]); assumption) | ((rw [cellH_setH_off]; rotate_left; focus decide); (repeat (rw [cellH_setH_off]; rotate_left; focus decide)); first | assumption | ((with_reducible refine cellH_setH_same ?_ _); (repeat rw [okW_setH]); assumption)) | omega) only [↓hpR, ↓nilC_ptr, ↓nilC_func, ↓condP_true, ↓condP_false, ↓condP_bool, ↓guardP_true, ↓guardP_false, ↓guardP_bool_t, ↓guardP_bool_f, ↓skipP_undef, ↓pickP_bool, ↓b_add, ↓b_sub, ↓b_mul, ↓b_quo, ↓b_rem, ↓b_lss, ↓b_leq, ↓b_gtr, ↓b_geq, ↓b_eql, ↓b_neq, ↓u_not, ↓s_add, ↓s_eql, ↓s_neq, ↓i_max2, ↓i_min2, ↓x20, ↓x21, ↓x30, ↓x31, ↓x32, ↓q_b_add, ↓q_b_sub, ↓q_b_mul, ↓q_b_quo, ↓q_b_rem, ↓q_b_lss, ↓q_b_leq, ↓q_b_gtr, ↓q_b_geq, ↓q_b_eql, ↓q_b_neq, ↓q_u_not, ↓q_s_add, ↓q_s_eql, ↓q_s_neq, ↓q_i_max2, ↓q_i_min2, ↓q_x20, ↓q_x21, ↓q_x30, ↓q_x31, ↓q_x32, ↓m_box, decide_true, decide_false, tt_and, ff_and, Nat.zero_add, Int.toNat_natCast, cells_agg, cells_bool, cells_int, cells_str, cells_ptr, cells_slice, ↓qend_eq, ↓jump_none, ↓jump_ret, ↓jump_exit, ↓marks_one, cond_true, cond_false, Bool.not_true, Bool.not_false]
      rw [m_loadRow Try.underlying48 rfl size48 (xs := TieT.cs t) rfl (hrow.ext x3)]
      refine agg_store size48 rfl rfl (by simp [TieT.cs, plainV]) fun h5 x5 z5 p5 => ?_
      rw [m_loadAgg Try.underlying48 rfl size48 p5 (by simp [TieT.cs])]
      have hv : Value.agg ((TieT.cs t).toArray.extract 0 (0 + 4)) = t.v := rfl
      rw [hv]
      refine ht t h5 _ (x3.trans x5) fun h6 x6 => ?_
      have x36 := x5.trans x6
      have M6 := M3.ext x36
      have p6 := x36.at p3
      have q6 := x6.at p5
      simp (disch := first | assumption | (with_reducible exact Ext.refl _) | (with_reducible exact Keep.refl _ _) | (with_reducible exact Eq.refl _) | (intro _ he; cases he; assumption) | (intro _ he; with_reducible apply keep_cell' he; assumption; simp; done) | (intro _ he; with_reducible apply ext_cell' he; assumption; done) | (with_reducible first | exact pl_int _ _ | exact pl_byte _ | exact pl_u32 _ | exact pl_bool _ | exact pl_ptr _ | exact pl_slice _ _ _ | exact pl_map _ | exact pl_str _ | exact pl_func _ _ _) | ((rw [okW_setH]; repeat rw [okW_setH]); assumption) | ((with_reducible refine cellH_setH_same ?_ _); (repeat rw [okW_setH]); assumption) | ((rw [cellH_setH_off]; rotate_left; focus decide); (repeat (rw [cellH_setH_off]; rotate_left; focus decide)); first | assumption | ((with_reducible refine cellH_setH_same ?_ _); (repeat rw [okW_setH]); assumption)) | omega) only [↓hpR, ↓nilC_ptr, ↓nilC_func, ↓condP_true, ↓condP_false, ↓condP_bool, ↓guardP_true, ↓guardP_false, ↓guardP_bool_t, ↓guardP_bool_f, ↓skipP_undef, ↓pickP_bool, ↓b_add, ↓b_sub, ↓b_mul, ↓b_quo, ↓b_rem, ↓b_lss, ↓b_leq, ↓b_gtr, ↓b_geq, ↓b_eql, ↓b_neq, ↓u_not, ↓s_add, ↓s_eql, ↓s_neq, ↓i_max2, ↓i_min2, ↓x20, ↓x21, ↓x30, ↓x31, ↓x32, ↓q_b_add, ↓q_b_sub, ↓q_b_mul, ↓q_b_quo, ↓q_b_rem, ↓q_b_lss, ↓q_b_leq, ↓q_b_gtr, ↓q_b_geq, ↓q_b_eql, ↓q_b_neq, ↓q_u_not, ↓q_s_add, ↓q_s_eql, ↓q_s_neq, ↓q_i_max2, ↓q_i_min2, ↓q_x20, ↓q_x21, ↓q_x30, ↓q_x31, ↓q_x32, ↓m_box, decide_true, decide_false, tt_and, ff_and, Nat.zero_add, Int.toNat_natCast, cells_agg, cells_bool, cells_int, cells_str, cells_ptr, cells_slice, ↓qend_eq, ↓jump_none, ↓jump_ret, ↓jump_exit, ↓marks_one, cond_true, cond_false, Bool.not_true, Bool.not_false]
      have stay : ((tell t).2 = false ∨ twoB f.ev.length t = false) → ∀ h7, Ext h6 h7 → J h7 := fun hno h7 x7 => hJ _ ⟨m, (x3.trans x36).trans x7, M6.ext x7, by omega, x7.at p6, fun x => by
        rw [hkeys, htake]
        simp only [List.mem_append, List.mem_singleton]
        constructor
        · rintro ⟨s, hs, hr⟩; exact ⟨s, .inl hs, hr⟩
        · rintro ⟨s, hs | rfl, h1, h2, h3⟩
          · exact ⟨s, hs, h1, h2, h3⟩
          · rcases hno with hno | hno
            · rw [hno] at h1; cases h1
            · rw [hno] at h2; cases h2⟩
      refine Join1.intro (fun x hh => x = .bool ((tell t).2 && twoB f.ev.length t) ∧ Ext h6 hh) (fun J1 hJ1 => ?_) (fun x h7 hM => ?_)
      · refine ⟨fun h1 => ?_, fun h1 => hJ1 _ _ ⟨by rw [h1]; rfl, Ext.refl _⟩⟩
        rw [m_loadAgg Try.underlying25 rfl size25 p6 (by simp)]
        rw [m_loadAgg Try.underlying48 rfl size48 q6 (by simp [TieT.cs])]
        rw [hv]
        refine two_spec (F.ext (x3.trans x36)) t fun h7 x7 => hJ1 _ _ ⟨by rw [h1]; rfl, x7⟩
      · obtain ⟨rfl, x7⟩ := hM
        rw [condP_bool]
        refine ⟨fun hb => ?_, fun hb => stay ?_ h7 x7⟩
        · simp only [Bool.and_eq_true] at hb
          have hrange : I64 (tell t).1 ∧ 0 ≤ (tell t).1 ∧ (tell t).1 < (f.ev.length : Int) := by
            have h2 := hb.2
            unfold twoB at h2
            simp only [Bool.and_eq_true, decide_eq_true_eq] at h2
            have := hin t
            unfold I64
            omega
          refine m_update keyInt Try.underlying46 (M6.ext x7) (tell t).1 hrange.1 (.bool true) fun h8 M8 o8 => hJ _ ⟨_, ?_, M8, ?_, ?_, ?_⟩
          · exact Only.fresh ((x3.trans x36).trans x7) o8 (by simp; omega)
          · have := putM_length m (tell t).1 (.bool true); omega
          · exact o8.at (x7.at p6) (by simp; omega)
          · intro x
            rw [mem_putM, hkeys, htake]
            simp only [List.mem_append, List.mem_singleton]
            constructor
            · rintro (rfl | ⟨s, hs, hr⟩)
              · exact ⟨t, .inr rfl, hb.1, hb.2, rfl⟩
              · exact ⟨s, .inl hs, hr⟩
            · rintro ⟨s, hs | rfl, h1, h2, h3⟩
              · exact .inr ⟨s, hs, h1, h2, h3⟩
              · exact .inl h3.symm
        · cases h1 : (tell t).2
          · exact .inl rfl
          · right; rw [h1, Bool.true_and] at hb; exact hb
    · obtain ⟨m', q1, q2, q3, q4, q5⟩ := hM
      exact ⟨⟨i + 1, m', by simp, by omega, q1, q2, q3, q4, q5⟩, by omega⟩
  · have hi' : i = f.ties.length := by simp at hge; omega
    subst hi'
    refine keys_spec fun h4 x4 c4 => ?_
    refine sortedKeys_spec c4 (M3.ext x4) (by omega) fun h5 v l own hr hm x5 => ?_
    have hl : l = placesL f tell := by
      refine rise_eq_idx hr fun x => ?_
      rw [hm, hkeys, List.take_length]
      simp only [List.any_eq_true, Bool.and_eq_true, decide_eq_true_eq]
      constructor
      · rintro ⟨t, ht1, h1, h2, h3⟩
        have h2' := h2
        unfold twoB at h2'
        simp only [Bool.and_eq_true, decide_eq_true_eq] at h2'
        have := hin t
        exact ⟨x.toNat, by omega, ⟨t, ht1, ⟨h1, h2⟩, by omega⟩, by omega⟩
      · rintro ⟨i, hi, ⟨t, ht1, ⟨h1, h2⟩, h3⟩, rfl⟩
        exact ⟨t, ht1, h1, h2, h3⟩
    rw [hl] at own
    exact hk h5 v (own.low (by have := x3.size; have := x4.size; omega)) ((x3.trans x4).trans x5)

def evP (f : FlatT) (p : EvT → Bool) (i : Nat) : Bool := (f.ev[i]?).any p
theorem at_spec {h : Heap} {ve vt fv : Value} {f : FlatT} (F : FlatAt h ve vt f) {p : EvT → Bool} (hp : Iss h fv p) {K : Value → Heap → Prop} (hk : ∀ h' v, OwnI h' h.size v (idx f.ev.length (evP f p)) → Ext h h' → K v h') :
    CallF Try.prog 45 #[.agg #[ve, vt], fv] h K := by
  apply S45
  unfold F45
  have hne := F.ne
  refine box_step fun h1 x1 z1 p1 => ?_
  simp only [cells_agg] at p1
  obtain ⟨A, cap, hve⟩ := F.ev.len
  have c0 : cellH h1 h.size 0 = some ve := by rw [cellH_of p1]; rfl
  simp (disch := first | assumption | (with_reducible exact Ext.refl _) | (with_reducible exact Keep.refl _ _) | (with_reducible exact Eq.refl _) | (intro _ he; cases he; assumption) | (intro _ he; with_reducible apply keep_cell' he; assumption; simp; done) | (intro _ he; with_reducible apply ext_cell' he; assumption; done) | (with_reducible first | exact pl_int _ _ | exact pl_byte _ | exact pl_u32 _ | exact pl_bool _ | exact pl_ptr _ | exact pl_slice _ _ _ | exact pl_map _ | exact pl_str _ | exact pl_func _ _ _) | ((rw [okW_setH]; repeat rw [okW_setH]); assumption) | ((with_reducible refine cellH_setH_same ?_ _); (repeat rw [okW_setH]); assumption) | ((rw [cellH_setH_off]; rotate_left; focus decide); (repeat (rw [cellH_setH_off]; rotate_left; focus decide)); first | assumption | ((with_reducible refine cellH_setH_same ?_ _); (repeat rw [okW_setH]); assumption)) | omega) only [↓hpR, ↓nilC_ptr, ↓nilC_func, ↓condP_true, ↓condP_false, ↓condP_bool, ↓guardP_true, ↓guardP_false, ↓guardP_bool_t, ↓guardP_bool_f, ↓skipP_undef, ↓pickP_bool, ↓b_add, ↓b_sub, ↓b_mul, ↓b_quo, ↓b_rem, ↓b_lss, ↓b_leq, ↓b_gtr, ↓b_geq, ↓b_eql, ↓b_neq, ↓u_not, ↓s_add, ↓s_eql, ↓s_neq, ↓i_max2, ↓i_min2, ↓x20, ↓x21, ↓x30, ↓x31, ↓x32, ↓q_b_add, ↓q_b_sub, ↓q_b_mul, ↓q_b_quo, ↓q_b_rem, ↓q_b_lss, ↓q_b_leq, ↓q_b_gtr, ↓q_b_geq, ↓q_b_eql, ↓q_b_neq, ↓q_u_not, ↓q_s_add, ↓q_s_eql, ↓q_s_neq, ↓q_i_max2, ↓q_i_min2, ↓q_x20, ↓q_x21, ↓q_x30, ↓q_x31, ↓q_x32, ↓m_box, decide_true, decide_false, tt_and, ff_and, Nat.zero_add, Int.toNat_natCast, cells_agg, cells_bool, cells_int, cells_str, cells_ptr, cells_slice, ↓qend_eq, ↓jump_none, ↓jump_ret, ↓jump_exit, ↓marks_one, cond_true, cond_false, Bool.not_true, Bool.not_false, hve]
  refine ⟨fun x y hh => ∃ i : Nat, y = .int .i64 (i : Int) ∧ i ≤ f.ev.length ∧ Ext h hh ∧ OwnI hh h.size x (idx i (evP f p)), fun x y hh => match y with | .int _ i => f.ev.length - i.toNat | _ => 0, ⟨0, rfl, Nat.zero_le _, x1, Own.nil _ _ _ _⟩, ?_⟩
  rintro js x y h3 ⟨i, rfl, hi, x3, own⟩
  simp (disch := first | assumption | (with_reducible exact Ext.refl _) | (with_reducible exact Keep.refl _ _) | (with_reducible exact Eq.refl _) | (intro _ he; cases he; assumption) | (intro _ he; with_reducible apply keep_cell' he; assumption; simp; done) | (intro _ he; with_reducible apply ext_cell' he; assumption; done) | (with_reducible first | exact pl_int _ _ | exact pl_byte _ | exact pl_u32 _ | exact pl_bool _ | exact pl_ptr _ | exact pl_slice _ _ _ | exact pl_map _ | exact pl_str _ | exact pl_func _ _ _) | ((rw [okW_setH]; repeat rw [okW_setH]); assumption) | ((with_reducible refine cellH_setH_same ?_ _); (repeat rw [okW_setH]); assumption) | ((rw [cellH_setH_off]; rotate_left; focus decide); (repeat (rw [cellH_setH_off]; rotate_left; focus decide)); first | assumption | ((with_reducible refine cellH_setH_same ?_ _); (repeat rw [okW_setH]); assumption)) | omega) only [↓hpR, ↓nilC_ptr, ↓nilC_func, ↓condP_true, ↓condP_false, ↓condP_bool, ↓guardP_true, ↓guardP_false, ↓guardP_bool_t, ↓guardP_bool_f, ↓skipP_undef, ↓pickP_bool, ↓b_add, ↓b_sub, ↓b_mul, ↓b_quo, ↓b_rem, ↓b_lss, ↓b_leq, ↓b_gtr, ↓b_geq, ↓b_eql, ↓b_neq, ↓u_not, ↓s_add, ↓s_eql, ↓s_neq, ↓i_max2, ↓i_min2, ↓x20, ↓x21, ↓x30, ↓x31, ↓x32, ↓q_b_add, ↓q_b_sub, ↓q_b_mul, ↓q_b_quo, ↓q_b_rem, ↓q_b_lss, ↓q_b_leq, ↓q_b_gtr, ↓q_b_geq, ↓q_b_eql, ↓q_b_neq, ↓q_u_not, ↓q_s_add, ↓q_s_eql, ↓q_s_neq, ↓q_i_max2, ↓q_i_min2, ↓q_x20, ↓q_x21, ↓q_x30, ↓q_x31, ↓q_x32, ↓m_box, decide_true, decide_false, tt_and, ff_and, Nat.zero_add, Int.toNat_natCast, cells_agg, cells_bool, cells_int, cells_str, cells_ptr, cells_slice, ↓qend_eq, ↓jump_none, ↓jump_ret, ↓jump_exit, ↓marks_one, cond_true, cond_false, Bool.not_true, Bool.not_false]
  refine ⟨fun hlt => ?_, fun hge => ?_⟩
  · have hlt' : i < f.ev.length := by simpa using hlt
    obtain ⟨b, o, cap', hve', hrow⟩ := F.event hlt'
    rw [hve] at hve'
    injection hve' with q1 q2 q3
    subst q1
    obtain ⟨e, hei⟩ : ∃ e, f.ev[i] = e := ⟨_, rfl⟩
    rw [hei] at hrow
    have hev : evP f p i = p e := by simp [evP, List.getElem?_eq_getElem hlt', hei]
    have hsucc := idx_succ i (evP f p)
    rw [hev] at hsucc
    have hil := idx_length i (evP f p)
    refine Join1.intro (fun x hh => Ext h hh ∧ OwnI hh h.size x (idx (i + 1) (evP f p))) (fun J hJ => ?_) (fun x h4 hM => ?_)
    · simp (disch := first | assumption | (with_reducible exact Ext.refl _) | (with_reducible exact Keep.refl _ _) | (with_reducible exact Eq.refl _) | (intro _ he; cases he; assumption) | (intro _ he; with_reducible apply keep_cell' he; assumption; simp; done) | (intro _ he; with_reducible apply ext_cell' he; assumption; done) | (with_reducible first | exact pl_int _ _ | exact pl_byte _ | exact pl_u32 _ | exact pl_bool _ | exact pl_ptr _ | exact pl_slice _ _ _ | exact pl_map _ | exact pl_str _ | exact pl_func _ _ _) | ((rw [okW_setH]; repeat rw [okW_setH]); assumption) | ((with_reducible refine cellH_setH_same ?_ _); (repeat rw [okW_setH]); assumption) | ((rw [cellH_setH_off]; rotate_left; focus decide); (repeat (rw [cellH_setH_off]; rotate_left; focus decide)); first | assumption | ((with_reducible refine cellH_setH_same ?_ _); (repeat rw [okW_setH]); assumption)) | omega) only [↓hpR, ↓nilC_ptr, ↓nilC_func, ↓condP_true, ↓condP_false, ↓condP_bool, ↓guardP_true, ↓guardP_false, ↓guardP_bool_t, ↓guardP_bool_f, ↓skipP_undef, ↓pickP_bool, ↓b_add, ↓b_sub, ↓b_mul, ↓b_quo, ↓b_rem, ↓b_lss, ↓b_leq, ↓b_gtr, ↓b_geq, ↓b_eql, ↓b_neq, ↓u_not, ↓s_add, ↓s_eql, ↓s_neq, ↓i_max2, ↓i_min2, ↓x20, ↓x21, ↓x30, ↓x31, ↓x32, ↓q_b_add, ↓q_b_sub, ↓q_b_mul, ↓q_b_quo, ↓q_b_rem, ↓q_b_lss, ↓q_b_leq, ↓q_b_gtr, ↓q_b_geq, ↓q_b_eql, ↓q_b_neq, ↓q_u_not, ↓q_s_add, ↓q_s_eql, ↓q_s_neq, ↓q_i_max2, ↓q_i_min2, ↓q_x20, ↓q_x21, ↓q_x30, ↓q_x31, ↓q_x32, ↓m_box, decide_true, decide_false, tt_and, ff_and, Nat.zero_add, Int.toNat_natCast, cells_agg, cells_bool, cells_int, cells_str, cells_ptr, cells_slice, ↓qend_eq, ↓jump_none, ↓jump_ret, ↓jump_exit, ↓marks_one, cond_true, cond_false, Bool.not_true, Bool.not_false]
      rw [m_loadRow Try.underlying66 rfl size66 (xs := EvT.cs e) rfl (hrow.ext x3)]
      refine agg_store size66 rfl rfl (by simp [EvT.cs, plainV, str]) fun h5 x5 z5 p5 => ?_
      rw [m_loadAgg Try.underlying66 rfl size66 p5 (by simp [EvT.cs])]
      have hv : Value.agg ((EvT.cs e).toArray.extract 0 (0 + 6)) = e.v := rfl
      rw [hv]
      refine hp e h5 _ (x3.trans x5) fun h6 x6 => ?_
      have x36 := x5.trans x6
      rw [condP_bool]
      refine ⟨fun h1 => ?_, fun h1 => ?_⟩
      · have x7 := (Ext.refl h6).push (.cells #[.int .i64 (i : Int)] 3 (0, 0))
        have xh6 := x3.trans x36
        have zh6 := xh6.size
        refine o_append Try.underlying33 (z := .int .i64 0) (size := 1) (bytes := 8) (e := 3) info3 rfl (by omega) _ _ ((own.ext x36).ext x7) (m := 1) (news := [.int .i64 (i : Int)]) rfl
          (fun i u hi => by rw [Nat.zero_add, cellH_push_new]; simpa using hi) (fun u hu => by simp only [List.mem_singleton] at hu; subst hu; rfl) (by omega) (by omega) (by simp; omega) ?_
        intro v8 h8 own8 o8 _ _
        rw [h1] at hsucc
        refine hJ _ _ ⟨Only.fresh (xh6.trans x7) o8 (fun k hk => (own.ge k hk).1), ?_⟩
        rw [hsucc]
        show Own h8 h.size 3 1 v8 _ _
        rw [if_pos rfl, List.length_append]
        simpa [ints, intV] using own8
      · rw [h1] at hsucc
        refine hJ _ _ ⟨x3.trans x36, ?_⟩
        rw [hsucc]
        simpa using own.ext x36
    · obtain ⟨q1, q2⟩ := hM
      exact ⟨⟨i + 1, by simp, by omega, q1, q2⟩, by omega⟩
  · have hi' : i = f.ev.length := by simp at hge; omega
    subst hi'
    exact hk h3 _ own x3
end Go.Proofs.Ytopflbjjbindkaa
