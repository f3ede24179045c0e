/- Library calls: strings.Repeat, slices.Clone, strings.Builder; the store's bytes. -/
import Derived.Test.YtoefeflmcggbkaaJ1
import Derived.Test.YtoefeflmcggbkaaShelf
set_option linter.unusedVariables false
set_option linter.unusedSimpArgs false
namespace Go.Proofs.Ytoefeflmcggbkaa
open Go.Hp Go.RowKit

theorem callF_run {P : Program} {f : FuncId} {args : Array Value} {h : Heap} {K : Value → Heap → Prop} (hr : ∀ w : World, (callFunc f args).run P w = .ok (.enter f args) w)
    (H : ∀ w : World, w.heap = h → Calls P f args w (fun e w' => ∃ v, e = .returned v ∧ Same w w' ∧ K v w'.heap)) : CallF P f args h K :=
  fun w hw => ⟨.enter f args, w, hr w, Same.refl w, H w hw⟩
theorem below_same {B : Nat} {w w' : World} (h : Below B w w') : Same w w' := ⟨h.os, h.tape, h.output⟩
theorem below_ext {w w' : World} (h : Below w.heap.size w w') : Ext w.heap w'.heap := ⟨h.size, h.block⟩

theorem repeatL_one (b : UInt8) (c : Nat) : Lib.repeatL [b] c = List.replicate c b := by
  induction c with
  | zero => rfl
  | succ c ih => rw [Lib.repeatL, ih]; rfl
theorem repeat_spec {h : Heap} (b : UInt8) (c : Nat) (hc : c ≤ 140737488355328) {K : Value → Heap → Prop} (hk : ∀ h', Ext h h' → K (str (List.replicate c b)) h') :
    CallF Try.prog 49 #[str [b], .int .i64 (c : Int)] h K := by
  refine callF_run (R49 _) fun w hw => ?_
  subst hw
  refine (Try.strings_Repeat ⟨[b].toArray⟩ c w (by omega) (by simp [size_mk]; omega)).mono ?_
  rintro e w' ⟨rfl, hb⟩
  refine ⟨_, rfl, below_same hb, ?_⟩
  have := hk w'.heap (below_ext hb)
  rwa [show (ByteArray.mk [b].toArray).data.toList = [b] by simp, repeatL_one]

/-! ### The builder -/
def selfP (b : Nat) : Value := .pointer (some ⟨b, 0, none⟩)
structure BAt (h : Heap) (base b : Nat) (p v : Value) (l : List UInt8) : Prop where
  hd : h[b]? = some (.cells #[p, v] 83 (0, 0))
  own : Own h base 5 1 v l.length (l.map byteV)
  ne : b ∉ blk v
  ge : base ≤ b
  p : p = .pointer none ∨ p = selfP b
theorem byteCells_eq (l : List UInt8) : Lib.byteCells l = l.map byteV := by
  simp [Lib.byteCells, byteV]
theorem copyCheck_spec {h : Heap} {b : Nat} {p v : Value} (hb : h[b]? = some (.cells #[p, v] 83 (0, 0))) (hp : p = .pointer none ∨ p = selfP b) {K : Value → Heap → Prop}
    (hk : K (.tuple #[]) (h.setIfInBounds b (.cells #[selfP b, v] 83 (0, 0)))) : CallF Try.prog 51 #[selfP b] h K := by
  refine callF_run (R51 _) fun w hw => ?_
  subst hw
  have c0 : w.cell? ⟨b, 0, none⟩ = some p := by rw [cell_world, cellH_of hb]; rfl
  rcases hp with rfl | rfl
  · refine (Any.Builder_copyCheck_fresh (ρ := Try.lays105_ren) { Try.lays105 with } Try.Builder_Extra_105.toX72 b w c0 (by simp [World.shape?, hb]; rfl) (by simp [World.frozen?, hb])).mono ?_
    rintro e w' ⟨rfl, rfl⟩
    refine ⟨_, rfl, ⟨rfl, rfl, rfl⟩, ?_⟩
    rw [setCell_world, setH_of hb]
    exact hk
  · refine (Any.Builder_copyCheck_used (ρ := Try.lays105_ren) { Try.lays105 with } Try.Builder_Extra_105.toX72 b w c0).mono ?_
    rintro e w' ⟨rfl, rfl⟩
    refine ⟨_, rfl, Same.refl _, ?_⟩
    have : w'.heap.setIfInBounds b (.cells #[selfP b, v] 83 (0, 0)) = w'.heap := by
      apply Array.ext_getElem?
      intro k
      rw [Array.getElem?_setIfInBounds]
      split
      · rename_i hk; subst hk; rw [hb]; simp [lt_of_at hb]
      · rfl
    rwa [this] at hk
theorem bwrite_spec {h : Heap} {base b : Nat} {p v : Value} {l : List UInt8} (hB : BAt h base b p v l) (hbase : base ≤ h.size) {g o m c : Nat} {news : List UInt8} (hg : g ≠ b) (hl : news.length = m)
    (hn : ∀ j u, (news.map byteV)[j]? = some u → cellH h g (o + j) = some u) (hlen : l.length + m ≤ 140737488355328) {K : Value → Heap → Prop}
    (hk : ∀ v' h', BAt h' base b (selfP b) v' (l ++ news) → Only (b :: blk v) h h' → (∀ k ∈ blk v', k ∈ blk v ∨ h.size ≤ k) → K (.tuple #[.int .i64 m, .nilIface]) h') :
    CallF Try.prog 38 #[selfP b, .slice (some ⟨g, o, none⟩) m c] h K := by
  apply S38
  unfold F38
  refine copyCheck_spec hB.hd hB.p ?_
  have hb1 := set_same hB.hd (.cells #[selfP b, v] 83 (0, 0))
  have c1 : cellH (h.setIfInBounds b (.cells #[selfP b, v] 83 (0, 0))) b 1 = some v := by rw [cellH_of hb1]; rfl
  have ho1 : Only [b] h (h.setIfInBounds b (.cells #[selfP b, v] 83 (0, 0))) := Only.set (Only.refl _ _) (.inl (by simp)) _
  have hown1 := hB.own.only ho1 (fun k hk2 e => by simp at e; subst e; exact hB.ne hk2)
  have hsz : (h.setIfInBounds b (.cells #[selfP b, v] 83 (0, 0))).size = h.size := by simp
  generalize hh : h.setIfInBounds b (.cells #[selfP b, v] 83 (0, 0)) = h1 at *
  unfold selfP
  simp (disch := first | assumption | (with_reducible exact Ext.refl _) | (with_reducible exact Keep.refl _ _) | (with_reducible exact Eq.refl _) | (intro _ he; cases he; assumption) | (intro _ he; with_reducible apply keep_cell' he; assumption; simp; done) | (intro _ he; with_reducible apply ext_cell' he; assumption; done) | (with_reducible first | exact pl_int _ _ | exact pl_byte _ | exact pl_u32 _ | exact pl_bool _ | exact pl_ptr _ | exact pl_slice _ _ _ | exact pl_map _ | exact pl_str _ | exact pl_func _ _ _) | ((rw [okW_setH]; repeat rw [okW_setH]); assumption) | ((with_reducible refine cellH_setH_same ?_ _); (repeat rw [okW_setH]); assumption) | ((rw [cellH_setH_off]; rotate_left; focus decide); (repeat (rw [cellH_setH_off]; rotate_left; focus decide)); first | assumption | ((with_reducible refine cellH_setH_same ?_ _); (repeat rw [okW_setH]); assumption)) | omega) only [↓hpR, ↓nilC_ptr, ↓nilC_func, ↓condP_true, ↓condP_false, ↓condP_bool, ↓guardP_true, ↓guardP_false, ↓guardP_bool_t, ↓guardP_bool_f, ↓skipP_undef, ↓pickP_bool, ↓b_add, ↓b_sub, ↓b_mul, ↓b_quo, ↓b_rem, ↓b_lss, ↓b_leq, ↓b_gtr, ↓b_geq, ↓b_eql, ↓b_neq, ↓u_not, ↓s_add, ↓s_eql, ↓s_neq, ↓i_max2, ↓i_min2, ↓x20, ↓x21, ↓x30, ↓x31, ↓x32, ↓q_b_add, ↓q_b_sub, ↓q_b_mul, ↓q_b_quo, ↓q_b_rem, ↓q_b_lss, ↓q_b_leq, ↓q_b_gtr, ↓q_b_geq, ↓q_b_eql, ↓q_b_neq, ↓q_u_not, ↓q_s_add, ↓q_s_eql, ↓q_s_neq, ↓q_i_max2, ↓q_i_min2, ↓q_x20, ↓q_x21, ↓q_x30, ↓q_x31, ↓q_x32, ↓m_box, decide_true, decide_false, tt_and, ff_and, Nat.zero_add, Int.toNat_natCast, cells_agg, cells_bool, cells_int, cells_str, cells_ptr, cells_slice, ↓qend_eq, ↓jump_none, ↓jump_ret, ↓jump_exit, ↓marks_one, cond_true, cond_false, Bool.not_true, Bool.not_false]
  refine o_append Try.underlying54 (z := .int .u8 0) (size := 1) (bytes := 1) (e := 5) (by kernel_rfl) rfl (by omega) _ _ hown1 (m := m) (news := news.map byteV) (by simp [hl])
    (fun j u hj => ?_) (fun u hu => by simp only [List.mem_map] at hu; obtain ⟨x, _, rfl⟩ := hu; rfl) (by omega) (by omega) (by omega) ?_
  · have := hn j u hj
    unfold cellH at this ⊢
    rw [← hh, Array.getElem?_setIfInBounds, if_neg (fun e => hg e.symm)]
    exact this
  · intro v' h2 hown2 hon2 hnil hblk
    have hb2 : h2[b]? = some (.cells #[selfP b, v] 83 (0, 0)) := hon2.at hb1 hB.ne
    have hv' : plainV v' = true := by obtain ⟨A, c, rfl⟩ := hown2.len; rfl
    have w1 : okW h2 b 1 = true := okW_of hb2 (by simp)
    simp (disch := first | assumption | (with_reducible exact Ext.refl _) | (with_reducible exact Keep.refl _ _) | (with_reducible exact Eq.refl _) | (intro _ he; cases he; assumption) | (intro _ he; with_reducible apply keep_cell' he; assumption; simp; done) | (intro _ he; with_reducible apply ext_cell' he; assumption; done) | (with_reducible first | exact pl_int _ _ | exact pl_byte _ | exact pl_u32 _ | exact pl_bool _ | exact pl_ptr _ | exact pl_slice _ _ _ | exact pl_map _ | exact pl_str _ | exact pl_func _ _ _) | ((rw [okW_setH]; repeat rw [okW_setH]); assumption) | ((with_reducible refine cellH_setH_same ?_ _); (repeat rw [okW_setH]); assumption) | ((rw [cellH_setH_off]; rotate_left; focus decide); (repeat (rw [cellH_setH_off]; rotate_left; focus decide)); first | assumption | ((with_reducible refine cellH_setH_same ?_ _); (repeat rw [okW_setH]); assumption)) | omega) only [↓hpR, ↓nilC_ptr, ↓nilC_func, ↓condP_true, ↓condP_false, ↓condP_bool, ↓guardP_true, ↓guardP_false, ↓guardP_bool_t, ↓guardP_bool_f, ↓skipP_undef, ↓pickP_bool, ↓b_add, ↓b_sub, ↓b_mul, ↓b_quo, ↓b_rem, ↓b_lss, ↓b_leq, ↓b_gtr, ↓b_geq, ↓b_eql, ↓b_neq, ↓u_not, ↓s_add, ↓s_eql, ↓s_neq, ↓i_max2, ↓i_min2, ↓x20, ↓x21, ↓x30, ↓x31, ↓x32, ↓q_b_add, ↓q_b_sub, ↓q_b_mul, ↓q_b_quo, ↓q_b_rem, ↓q_b_lss, ↓q_b_leq, ↓q_b_gtr, ↓q_b_geq, ↓q_b_eql, ↓q_b_neq, ↓q_u_not, ↓q_s_add, ↓q_s_eql, ↓q_s_neq, ↓q_i_max2, ↓q_i_min2, ↓q_x20, ↓q_x21, ↓q_x30, ↓q_x31, ↓q_x32, ↓m_box, decide_true, decide_false, tt_and, ff_and, Nat.zero_add, Int.toNat_natCast, cells_agg, cells_bool, cells_int, cells_str, cells_ptr, cells_slice, ↓qend_eq, ↓jump_none, ↓jump_ret, ↓jump_exit, ↓marks_one, cond_true, cond_false, Bool.not_true, Bool.not_false]
    rw [setH_of hb2]
    have hne' : b ∉ blk v' := fun hm => by
      rcases hblk b hm with h' | h'
      · exact hB.ne h'
      · have := lt_of_at hB.hd; omega
    have ho3 : Only [b] h2 (h2.setIfInBounds b (.cells (#[selfP b, v].setIfInBounds 1 v') 83 (0, 0))) := Only.set (Only.refl _ _) (.inl (by simp)) _
    refine hk v' _ ⟨?_, ?_, hne', hB.ge, .inr rfl⟩ ?_ ?_
    · rw [set_same hb2]; rfl
    · have := hown2.only ho3 (fun k hk2 e => by simp at e; subst e; exact hne' hk2)
      simpa [hl] using this
    · refine (ho1.mono (by simp)).trans ((hon2.mono (by simp; intro k hk; exact .inr hk)).trans (ho3.mono (by simp)))
    · intro k hk
      rcases hblk k hk with h' | h'
      · exact .inl h'
      · right; omega
theorem bstring_spec {h : Heap} {base b : Nat} {p v : Value} {l : List UInt8} (hB : BAt h base b p v l) (hbase : base ≤ h.size) {K : Value → Heap → Prop}
    (hk : ∀ h', h.size ≤ h'.size → (∀ k, k < base → h'[k]? = h[k]?) → K (str l) h') : CallF Try.prog 39 #[selfP b] h K := by
  refine callF_run (R39 _) fun w hw => ?_
  subst hw
  have hbl : Lib.BuilderAt 83 5 base b p (Lib.byteCells l) w := ⟨hB.ge, v, hB.hd, by
    have := hB.own
    rw [← byteCells_eq] at this
    have e : (Lib.byteCells l).length = l.length := by simp [Lib.byteCells]
    rw [e]
    exact this, fun e => hB.ne (by unfold blk; rw [e]; simp)⟩
  have hib : Lib.IsBuilder 83 5 base b (Lib.byteCells l) w := by
    rcases hB.p with e | e
    · left; rw [← e]; exact hbl
    · right; rw [show (Value.pointer (some ⟨b, 0, none⟩)) = p from e.symm]; exact hbl
  refine (Try.Builder_String_any base b l w hib hbase).mono ?_
  rintro e w' ⟨rfl, hb⟩
  exact ⟨_, rfl, below_same hb, hk _ hb.size hb.block⟩
end Go.Proofs.Ytoefeflmcggbkaa
