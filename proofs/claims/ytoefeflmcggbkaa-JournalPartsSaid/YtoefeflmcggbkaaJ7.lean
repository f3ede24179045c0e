/- Blocks of a part are put. -/
import Derived.Test.YtoefeflmcggbkaaJ6
set_option linter.unusedVariables false
set_option linter.unusedSimpArgs false
namespace Go.Proofs.Ytoefeflmcggbkaa
open Go.Hp Go.RowKit

def blkL (l : List UInt8) (i : Nat) : List UInt8 := (l.drop (32 * i)).take 32
def putN (pf : Nat) (was all : List UInt8) (must : Bool) : Nat → Nat → Sto → Int × Sto
  | 0, _, s => (0, s)
  | k + 1, i, s =>
    if must = false ∧ blkL all i = blkL was i then putN pf was all must k (i + 1) s
    else if (writeS s ((pf + i : Nat) : Int) (blkL all i)).1 = 0 then putN pf was all must k (i + 1) (writeS s ((pf + i : Nat) : Int) (blkL all i)).2
    else writeS s ((pf + i : Nat) : Int) (blkL all i)
theorem writeS_n (s : Sto) (i : Int) (d : List UInt8) : (writeS s i d).2.n = s.n := by
  unfold writeS
  split
  · rfl
  · split
    · rfl
    · split <;> rfl

structure PI (n0 u b pf nb : Nat) (all was : List UInt8) (must : Bool) (fr te : Nat) (h : Heap) : Prop where
  a0 : h[n0]? = some (.cells #[.pointer (some ⟨b, 0, none⟩), .int .i64 (pf : Int), .int .i64 (nb : Int)] 72 (0, 0))
  a1 : h[n0 + 1]? = some (one1 9 (str all))
  a2 : h[n0 + 2]? = some (one1 4 (.bool must))
  a4 : h[u]? = some (one1 9 (str was))
  x : h[u + 1]? = some (one1 3 (.int .i64 (fr : Int)))
  y : h[u + 2]? = some (one1 3 (.int .i64 (te : Int)))
theorem PI.only {n0 u b pf nb : Nat} {all was : List UInt8} {must : Bool} {fr te : Nat} {h h' : Heap} (hp : PI n0 u b pf nb all was must fr te h) (hu : n0 + 4 ≤ u) {S : List Nat} (ho : Only S h h') (hS : ∀ k ∈ S, k < n0 ∨ k = n0 + 3 ∨ u + 3 ≤ k) :
    PI n0 u b pf nb all was must fr te h' := by
  have key : ∀ k, n0 ≤ k → k ≠ n0 + 3 → k < u + 3 → k ∉ S := fun k h1 h2 h3 hm => by have := hS k hm; omega
  exact ⟨ho.at hp.a0 (key _ (by omega) (by omega) (by omega)), ho.at hp.a1 (key _ (by omega) (by omega) (by omega)), ho.at hp.a2 (key _ (by omega) (by omega) (by omega)), ho.at hp.a4 (key _ (by omega) (by omega) (by omega)), ho.at hp.x (key _ (by omega) (by omega) (by omega)), ho.at hp.y (key _ (by omega) (by omega) (by omega))⟩

structure PS (h0 : Heap) (n0 u b g pf nb : Nat) (all was : List UInt8) (must : Bool) (fr te : Nat) (ev : Value) (s : Sto) (h : Heap) : Prop where
  pi : PI n0 u b pf nb all was must fr te h
  e : h[n0 + 3]? = some (one1 25 ev)
  d : h[u + 3]? = some (.deferred (some []))
  st : StoreAt h b g s
  on : Only [b, g] h0 h
  bl : b < n0
  gl : g < n0
  sz : h0.size = n0
  hu : n0 + 4 ≤ u
theorem PS.set {h0 : Heap} {n0 u b g pf nb : Nat} {all was : List UInt8} {must : Bool} {fr te : Nat} {ev : Value} {s : Sto} {h : Heap} (hp : PS h0 n0 u b g pf nb all was must fr te ev s h) (o : Obj) :
    PS h0 n0 u b g pf nb all was must fr te ev s (h.setIfInBounds (u + 4) o) := by
  have ho : Only [u + 4] h (h.setIfInBounds (u + 4) o) := Only.set (Only.refl _ _) (.inl (by simp)) _
  have := hp.bl
  have := hp.gl
  have := hp.hu
  have := hp.sz
  exact ⟨hp.pi.only hp.hu ho (by intro k hk; simp at hk; omega), ho.at hp.e (by simp; omega), ho.at hp.d (by simp), hp.st.only ho (by simp; omega) (by simp; omega), Only.set hp.on (.inr (by omega)) _, hp.bl, hp.gl, hp.sz, hp.hu⟩
theorem PS.write {h0 : Heap} {n0 u b g pf nb : Nat} {all was : List UInt8} {must : Bool} {fr te : Nat} {ev : Value} {s s' : Sto} {h h' : Heap} (hp : PS h0 n0 u b g pf nb all was must fr te ev s h) (ho : Only [b, g] h h') (hs : StoreAt h' b g s') :
    PS h0 n0 u b g pf nb all was must fr te ev s' h' := by
  have := hp.bl
  have := hp.gl
  have := hp.hu
  exact ⟨hp.pi.only hp.hu ho (by intro k hk; simp at hk; omega), ho.at hp.e (by simp; omega), ho.at hp.d (by simp; omega), hs, hp.on.trans ho, hp.bl, hp.gl, hp.sz, hp.hu⟩
theorem PS.err {h0 : Heap} {n0 u b g pf nb : Nat} {all was : List UInt8} {must : Bool} {fr te : Nat} {ev : Value} {s : Sto} {h : Heap} (hp : PS h0 n0 u b g pf nb all was must fr te ev s h) (v : Value) :
    PS h0 n0 u b g pf nb all was must fr te v s (setH h (n0 + 3) 0 v) := by
  have ho : Only [n0 + 3] h (setH h (n0 + 3) 0 v) := setH_only (Only.refl _ _) (.inl (by simp)) _ _
  have := hp.bl
  have := hp.gl
  have := hp.hu
  have := hp.sz
  exact ⟨hp.pi.only hp.hu ho (by intro k hk; simp at hk; omega), one_set hp.e v, ho.at hp.d (by simp; omega), hp.st.only ho (by simp; omega) (by simp; omega), setH_only hp.on (.inr (by omega)) _ _, hp.bl, hp.gl, hp.sz, hp.hu⟩
theorem PS.shut {h0 : Heap} {n0 u b g pf nb : Nat} {all was : List UInt8} {must : Bool} {fr te : Nat} {ev : Value} {s : Sto} {h : Heap} (hp : PS h0 n0 u b g pf nb all was must fr te ev s h) :
    StoreAt (h.setIfInBounds (u + 3) (.deferred none)) b g s ∧ Only [b, g] h0 (h.setIfInBounds (u + 3) (.deferred none)) ∧ cellH (h.setIfInBounds (u + 3) (.deferred none)) (n0 + 3) 0 = some ev := by
  have ho : Only [u + 3] h (h.setIfInBounds (u + 3) (.deferred none)) := Only.set (Only.refl _ _) (.inl (by simp)) _
  have := hp.bl
  have := hp.gl
  have := hp.hu
  have := hp.sz
  exact ⟨hp.st.only ho (by simp; omega) (by simp; omega), Only.set hp.on (.inr (by omega)) _, one_cell (ho.at hp.e (by simp; omega))⟩
theorem blocks_it {h : Heap} (fr te : Nat) {K : Value → Heap → Prop} (hk : K (.func (.func 54) #[] #[.pointer (some ⟨h.size, 0, none⟩), .pointer (some ⟨h.size + 1, 0, none⟩)]) ((h.push (one1 3 (.int .i64 (fr : Int)))).push (one1 3 (.int .i64 (te : Int))))) :
    CallF Try.prog 48 #[.int .i64 (fr : Int), .int .i64 (te : Int)] h K := by
  apply S48
  unfold F48
  simp (disch := first | assumption | (with_reducible exact Ext.refl _) | (with_reducible exact Keep.refl _ _) | (with_reducible exact Eq.refl _) | (intro _ he; cases he; assumption) | (intro _ he; with_reducible apply keep_cell' he; assumption; simp; done) | (intro _ he; with_reducible apply ext_cell' he; assumption; done) | (with_reducible first | exact pl_int _ _ | exact pl_byte _ | exact pl_u32 _ | exact pl_bool _ | exact pl_ptr _ | exact pl_slice _ _ _ | exact pl_map _ | exact pl_str _ | exact pl_func _ _ _) | ((rw [okW_setH]; repeat rw [okW_setH]); assumption) | ((with_reducible refine cellH_setH_same ?_ _); (repeat rw [okW_setH]); assumption) | ((rw [cellH_setH_off]; rotate_left; focus decide); (repeat (rw [cellH_setH_off]; rotate_left; focus decide)); first | assumption | ((with_reducible refine cellH_setH_same ?_ _); (repeat rw [okW_setH]); assumption)) | omega) only [↓hpR, ↓nilC_ptr, ↓nilC_func, ↓condP_true, ↓condP_false, ↓condP_bool, ↓guardP_true, ↓guardP_false, ↓guardP_bool_t, ↓guardP_bool_f, ↓skipP_undef, ↓pickP_bool, ↓b_add, ↓b_sub, ↓b_mul, ↓b_quo, ↓b_rem, ↓b_lss, ↓b_leq, ↓b_gtr, ↓b_geq, ↓b_eql, ↓b_neq, ↓u_not, ↓s_add, ↓s_eql, ↓s_neq, ↓i_max2, ↓i_min2, ↓x20, ↓x21, ↓x30, ↓x31, ↓x32, ↓q_b_add, ↓q_b_sub, ↓q_b_mul, ↓q_b_quo, ↓q_b_rem, ↓q_b_lss, ↓q_b_leq, ↓q_b_gtr, ↓q_b_geq, ↓q_b_eql, ↓q_b_neq, ↓q_u_not, ↓q_s_add, ↓q_s_eql, ↓q_s_neq, ↓q_i_max2, ↓q_i_min2, ↓q_x20, ↓q_x21, ↓q_x30, ↓q_x31, ↓q_x32, ↓m_box, decide_true, decide_false, tt_and, ff_and, Nat.zero_add, Int.toNat_natCast, cells_agg, cells_bool, cells_int, cells_str, cells_ptr, cells_slice, ↓qend_eq, ↓jump_none, ↓jump_ret, ↓jump_exit, ↓marks_one, cond_true, cond_false, Bool.not_true, Bool.not_false]
  simpa [one1] using hk

theorem put_spec {h : Heap} {b g : Nat} {s : Sto} (hs : StoreAt h b g s) (pf nb : Nat) (hpn : pf + nb ≤ s.n) (all : List UInt8) (hall : all.length = 32 * nb) (fr te : Nat) (hfr : fr ≤ 32 * nb) (hte : te ≤ 32 * nb) (must : Bool) {K : Value → Heap → Prop}
    (hk : ∀ h', StoreAt h' b g (putN pf (partL s pf nb) all must ((te + 31) / 32 - fr / 32) (fr / 32) s).2 → Only [b, g] h h' → K (.int .i64 (putN pf (partL s pf nb) all must ((te + 31) / 32 - fr / 32) (fr / 32) s).1) h') :
    CallF Try.prog 33 #[partV b pf nb, str all, .int .i64 (fr : Int), .int .i64 (te : Int), .bool must] h K := by
  apply S33
  unfold F33 partV
  obtain ⟨ok1, ok2, ok3, ok4, ok5, ok6⟩ := hs.ok
  have hbl : b < h.size := hs.hd.elim fun wr hw => lt_of_at hw
  have hgl : g < h.size := lt_of_at hs.row
  have hwl : (partL s pf nb).length = 32 * nb := by simp [partL]; omega
  simp (disch := first | assumption | (with_reducible exact Ext.refl _) | (with_reducible exact Keep.refl _ _) | (with_reducible exact Eq.refl _) | (intro _ he; cases he; assumption) | (intro _ he; with_reducible apply keep_cell' he; assumption; simp; done) | (intro _ he; with_reducible apply ext_cell' he; assumption; done) | (with_reducible first | exact pl_int _ _ | exact pl_byte _ | exact pl_u32 _ | exact pl_bool _ | exact pl_ptr _ | exact pl_slice _ _ _ | exact pl_map _ | exact pl_str _ | exact pl_func _ _ _) | ((rw [okW_setH]; repeat rw [okW_setH]); assumption) | ((with_reducible refine cellH_setH_same ?_ _); (repeat rw [okW_setH]); assumption) | ((rw [cellH_setH_off]; rotate_left; focus decide); (repeat (rw [cellH_setH_off]; rotate_left; focus decide)); first | assumption | ((with_reducible refine cellH_setH_same ?_ _); (repeat rw [okW_setH]); assumption)) | omega) only [↓hpR, ↓nilC_ptr, ↓nilC_func, ↓condP_true, ↓condP_false, ↓condP_bool, ↓guardP_true, ↓guardP_false, ↓guardP_bool_t, ↓guardP_bool_f, ↓skipP_undef, ↓pickP_bool, ↓b_add, ↓b_sub, ↓b_mul, ↓b_quo, ↓b_rem, ↓b_lss, ↓b_leq, ↓b_gtr, ↓b_geq, ↓b_eql, ↓b_neq, ↓u_not, ↓s_add, ↓s_eql, ↓s_neq, ↓i_max2, ↓i_min2, ↓x20, ↓x21, ↓x30, ↓x31, ↓x32, ↓q_b_add, ↓q_b_sub, ↓q_b_mul, ↓q_b_quo, ↓q_b_rem, ↓q_b_lss, ↓q_b_leq, ↓q_b_gtr, ↓q_b_geq, ↓q_b_eql, ↓q_b_neq, ↓q_u_not, ↓q_s_add, ↓q_s_eql, ↓q_s_neq, ↓q_i_max2, ↓q_i_min2, ↓q_x20, ↓q_x21, ↓q_x30, ↓q_x31, ↓q_x32, ↓m_box, decide_true, decide_false, tt_and, ff_and, Nat.zero_add, Int.toNat_natCast, cells_agg, cells_bool, cells_int, cells_str, cells_ptr, cells_slice, ↓qend_eq, ↓jump_none, ↓jump_ret, ↓jump_exit, ↓marks_one, cond_true, cond_false, Bool.not_true, Bool.not_false]
  obtain ⟨n0, hn0⟩ : ∃ n0, h.size = n0 := ⟨_, rfl⟩
  have a0 : ((((h.push (Obj.cells #[.pointer (some ⟨b, 0, none⟩), .int .i64 (pf : Int), .int .i64 (nb : Int)] 72 (0, 0))).push (.cells #[str all] 9 (0, 0))).push (.cells #[.bool must] 4 (0, 0))).push (.cells #[.int .i64 0] 25 (0, 0)))[n0]? = some (Obj.cells #[.pointer (some ⟨b, 0, none⟩), .int .i64 (pf : Int), .int .i64 (nb : Int)] 72 (0, 0)) := by
    rw [← hn0]; exact push_old (push_old (push_old (push_new _ _) _) _) _
  have a1 : ((((h.push (Obj.cells #[.pointer (some ⟨b, 0, none⟩), .int .i64 (pf : Int), .int .i64 (nb : Int)] 72 (0, 0))).push (.cells #[str all] 9 (0, 0))).push (.cells #[.bool must] 4 (0, 0))).push (.cells #[.int .i64 0] 25 (0, 0)))[n0 + 1]? = some (one1 9 (str all)) := by
    have := push_old (push_old (push_new (h.push (Obj.cells #[.pointer (some ⟨b, 0, none⟩), .int .i64 (pf : Int), .int .i64 (nb : Int)] 72 (0, 0))) (.cells #[str all] 9 (0, 0))) (.cells #[.bool must] 4 (0, 0))) (.cells #[.int .i64 0] 25 (0, 0))
    simp only [Array.size_push, hn0, Nat.add_assoc] at this
    exact this
  have a2 : ((((h.push (Obj.cells #[.pointer (some ⟨b, 0, none⟩), .int .i64 (pf : Int), .int .i64 (nb : Int)] 72 (0, 0))).push (.cells #[str all] 9 (0, 0))).push (.cells #[.bool must] 4 (0, 0))).push (.cells #[.int .i64 0] 25 (0, 0)))[n0 + 2]? = some (one1 4 (.bool must)) := by
    have := push_old (push_new ((h.push (Obj.cells #[.pointer (some ⟨b, 0, none⟩), .int .i64 (pf : Int), .int .i64 (nb : Int)] 72 (0, 0))).push (.cells #[str all] 9 (0, 0))) (.cells #[.bool must] 4 (0, 0))) (.cells #[.int .i64 0] 25 (0, 0))
    simp only [Array.size_push, hn0, Nat.add_assoc] at this
    exact this
  have a3 : ((((h.push (Obj.cells #[.pointer (some ⟨b, 0, none⟩), .int .i64 (pf : Int), .int .i64 (nb : Int)] 72 (0, 0))).push (.cells #[str all] 9 (0, 0))).push (.cells #[.bool must] 4 (0, 0))).push (.cells #[.int .i64 0] 25 (0, 0)))[n0 + 3]? = some (one1 25 (.int .i64 0)) := by
    have := push_new (((h.push (Obj.cells #[.pointer (some ⟨b, 0, none⟩), .int .i64 (pf : Int), .int .i64 (nb : Int)] 72 (0, 0))).push (.cells #[str all] 9 (0, 0))).push (.cells #[.bool must] 4 (0, 0))) (.cells #[.int .i64 0] 25 (0, 0))
    simp only [Array.size_push, hn0, Nat.add_assoc] at this
    exact this
  have hx : Ext h ((((h.push (Obj.cells #[.pointer (some ⟨b, 0, none⟩), .int .i64 (pf : Int), .int .i64 (nb : Int)] 72 (0, 0))).push (.cells #[str all] 9 (0, 0))).push (.cells #[.bool must] 4 (0, 0))).push (.cells #[.int .i64 0] 25 (0, 0))) := ((((Ext.refl h).push _).push _).push _).push _
  have hz : ((((h.push (Obj.cells #[.pointer (some ⟨b, 0, none⟩), .int .i64 (pf : Int), .int .i64 (nb : Int)] 72 (0, 0))).push (.cells #[str all] 9 (0, 0))).push (.cells #[.bool must] 4 (0, 0))).push (.cells #[.int .i64 0] 25 (0, 0))).size = n0 + 4 := by simp [hn0]
  simp only [Array.size_push, hn0]
  generalize ((((h.push (Obj.cells #[.pointer (some ⟨b, 0, none⟩), .int .i64 (pf : Int), .int .i64 (nb : Int)] 72 (0, 0))).push (.cells #[str all] 9 (0, 0))).push (.cells #[.bool must] 4 (0, 0))).push (.cells #[.int .i64 0] 25 (0, 0))) = ha at a0 a1 a2 a3 hx hz ⊢
  rw [m_loadAgg Try.underlying72 rfl size72 a0 (by simp)]
  refine part_bytes (hs.ext hx) pf nb hpn fun h6 hx6 => ?_
  have w9 : okW (h6.push (one1 9 (str []))) h6.size 0 = true := one_ok (push_new _ _)
  have e9 : h6.push (.cells #[str []] 9 (0, 0)) = h6.push (one1 9 (str [])) := rfl
  simp (disch := first | assumption | (with_reducible exact Ext.refl _) | (with_reducible exact Keep.refl _ _) | (with_reducible exact Eq.refl _) | (intro _ he; cases he; assumption) | (intro _ he; with_reducible apply keep_cell' he; assumption; simp; done) | (intro _ he; with_reducible apply ext_cell' he; assumption; done) | (with_reducible first | exact pl_int _ _ | exact pl_byte _ | exact pl_u32 _ | exact pl_bool _ | exact pl_ptr _ | exact pl_slice _ _ _ | exact pl_map _ | exact pl_str _ | exact pl_func _ _ _) | ((rw [okW_setH]; repeat rw [okW_setH]); assumption) | ((with_reducible refine cellH_setH_same ?_ _); (repeat rw [okW_setH]); assumption) | ((rw [cellH_setH_off]; rotate_left; focus decide); (repeat (rw [cellH_setH_off]; rotate_left; focus decide)); first | assumption | ((with_reducible refine cellH_setH_same ?_ _); (repeat rw [okW_setH]); assumption)) | omega) only [↓hpR, ↓nilC_ptr, ↓nilC_func, ↓condP_true, ↓condP_false, ↓condP_bool, ↓guardP_true, ↓guardP_false, ↓guardP_bool_t, ↓guardP_bool_f, ↓skipP_undef, ↓pickP_bool, ↓b_add, ↓b_sub, ↓b_mul, ↓b_quo, ↓b_rem, ↓b_lss, ↓b_leq, ↓b_gtr, ↓b_geq, ↓b_eql, ↓b_neq, ↓u_not, ↓s_add, ↓s_eql, ↓s_neq, ↓i_max2, ↓i_min2, ↓x20, ↓x21, ↓x30, ↓x31, ↓x32, ↓q_b_add, ↓q_b_sub, ↓q_b_mul, ↓q_b_quo, ↓q_b_rem, ↓q_b_lss, ↓q_b_leq, ↓q_b_gtr, ↓q_b_geq, ↓q_b_eql, ↓q_b_neq, ↓q_u_not, ↓q_s_add, ↓q_s_eql, ↓q_s_neq, ↓q_i_max2, ↓q_i_min2, ↓q_x20, ↓q_x21, ↓q_x30, ↓q_x31, ↓q_x32, ↓m_box, decide_true, decide_false, tt_and, ff_and, Nat.zero_add, Int.toNat_natCast, cells_agg, cells_bool, cells_int, cells_str, cells_ptr, cells_slice, ↓qend_eq, ↓jump_none, ↓jump_ret, ↓jump_exit, ↓marks_one, cond_true, cond_false, Bool.not_true, Bool.not_false, e9]
  have hw0 : (setH (h6.push (one1 9 (str []))) h6.size 0 (str (partL s pf nb)))[h6.size]? = some (one1 9 (str (partL s pf nb))) := one_set (push_new _ _) _
  have hx8 : Ext ha (setH (h6.push (one1 9 (str []))) h6.size 0 (str (partL s pf nb))) := (setH_only ((hx6.push _).only []) (.inr hx6.size) _ _).ext
  have hz8 : (setH (h6.push (one1 9 (str []))) h6.size 0 (str (partL s pf nb))).size = h6.size + 1 := by simp [setH]
  have hz6 := hx6.size
  obtain ⟨u, hu⟩ : ∃ u, h6.size = u := ⟨_, rfl⟩
  simp only [hu] at hw0 hx8 hz8 ⊢
  rw [hu] at hz6
  generalize setH (h6.push (one1 9 (str []))) u 0 (str (partL s pf nb)) = h8 at hw0 hx8 hz8 ⊢
  refine blocks_it fr te ?_
  rw [hz8]
  have b0 : ((h8.push (one1 3 (.int .i64 (fr : Int)))).push (one1 3 (.int .i64 (te : Int))))[u + 1]? = some (one1 3 (.int .i64 (fr : Int))) := by rw [← hz8]; exact push_old (push_new _ _) _
  have b1 : ((h8.push (one1 3 (.int .i64 (fr : Int)))).push (one1 3 (.int .i64 (te : Int))))[u + 2]? = some (one1 3 (.int .i64 (te : Int))) := by
    have := push_new (h8.push (one1 3 (.int .i64 (fr : Int)))) (one1 3 (.int .i64 (te : Int)))
    simpa [hz8] using this
  have hx9 : Ext h8 ((h8.push (one1 3 (.int .i64 (fr : Int)))).push (one1 3 (.int .i64 (te : Int)))) := ((Ext.refl h8).push _).push _
  have hz9 : ((h8.push (one1 3 (.int .i64 (fr : Int)))).push (one1 3 (.int .i64 (te : Int)))).size = u + 3 := by simp [hz8]
  generalize (h8.push (one1 3 (.int .i64 (fr : Int)))).push (one1 3 (.int .i64 (te : Int))) = h9 at b0 b1 hx9 hz9 ⊢
  have hxa : Ext ha h9 := hx8.trans hx9
  have hPI : PI n0 u b pf nb all (partL s pf nb) must fr te h9 := ⟨hxa.at a0, hxa.at a1, hxa.at a2, hx9.at hw0, b0, b1⟩
  have h3 : h9[n0 + 3]? = some (one1 25 (.int .i64 0)) := hxa.at a3
  have hu4 : n0 + 4 ≤ u := by omega
  have hs9 : StoreAt h9 b g s := hs.ext (hx.trans hxa)
  have ho9 : Only [b, g] h h9 := (hx.trans hxa).only _
  clear hx hx6 hx8 hx9 hxa a0 a1 a2 a3 b0 b1 hw0 w9 e9 hz6 hz8 hz hu
  clear ha h6 h8
  refine ⟨54, _, rfl, R54, fun mk Y => ?_⟩
  have eA : (#[Value.func (.yield (h9.size + 1)) #[] #[]] ++ #[.pointer (some ⟨u + 1, 0, none⟩), .pointer (some ⟨u + 1 + 1, 0, none⟩)] : Array Value) = #[.func (.yield (u + 4)) #[] #[], .pointer (some ⟨u + 1, 0, none⟩), .pointer (some ⟨u + 2, 0, none⟩)] := by rw [hz9]; rfl
  rw [eA, hz9, show u + 3 + 1 = u + 4 from rfl]
  rw [hz9, show u + 3 + 1 = u + 4 from rfl] at Y
  clear eA
  have hrec : ((h9.push (.deferred (some []))).push (mk .ready none))[u + 4]? = some (mk .ready none) := by
    have := push_new (h9.push (.deferred (some []))) (mk .ready none)
    simpa [hz9] using this
  have hdef : ((h9.push (.deferred (some []))).push (mk .ready none))[u + 3]? = some (.deferred (some [])) := by
    rw [← hz9]; exact push_old (push_new _ _) _
  have hxA : Ext h9 ((h9.push (.deferred (some []))).push (mk .ready none)) := ((Ext.refl h9).push _).push _
  generalize (h9.push (.deferred (some []))).push (mk .ready none) = hA at hrec hdef hxA ⊢
  have hPA : PS h n0 u b g pf nb all (partL s pf nb) must fr te (.int .i64 0) s hA := ⟨hPI.only hu4 (hxA.only []) (by simp), hxA.at h3, hdef, hs9.ext hxA, ho9.trans (hxA.only _), by omega, by omega, hn0, hu4⟩
  clear hPI h3 hs9 ho9 hxA hdef
  have hnb : (te + 31) / 32 ≤ nb := by omega
  have hfb : fr / 32 ≤ nb := by omega
  obtain ⟨E, hE⟩ : ∃ E, (te + 31) / 32 = E := ⟨_, rfl⟩
  obtain ⟨w, hw⟩ : ∃ w, partL s pf nb = w := ⟨_, rfl⟩
  rw [hE, hw] at hk
  rw [hE] at hnb
  rw [hw] at hwl hPA
  apply S54
  unfold F54
  have c1 := one_cell hPA.pi.x
  simp (disch := first | assumption | (with_reducible exact Ext.refl _) | (with_reducible exact Keep.refl _ _) | (with_reducible exact Eq.refl _) | (intro _ he; cases he; assumption) | (intro _ he; with_reducible apply keep_cell' he; assumption; simp; done) | (intro _ he; with_reducible apply ext_cell' he; assumption; done) | (with_reducible first | exact pl_int _ _ | exact pl_byte _ | exact pl_u32 _ | exact pl_bool _ | exact pl_ptr _ | exact pl_slice _ _ _ | exact pl_map _ | exact pl_str _ | exact pl_func _ _ _) | ((rw [okW_setH]; repeat rw [okW_setH]); assumption) | ((with_reducible refine cellH_setH_same ?_ _); (repeat rw [okW_setH]); assumption) | ((rw [cellH_setH_off]; rotate_left; focus decide); (repeat (rw [cellH_setH_off]; rotate_left; focus decide)); first | assumption | ((with_reducible refine cellH_setH_same ?_ _); (repeat rw [okW_setH]); assumption)) | omega) only [↓hpR, ↓nilC_ptr, ↓nilC_func, ↓condP_true, ↓condP_false, ↓condP_bool, ↓guardP_true, ↓guardP_false, ↓guardP_bool_t, ↓guardP_bool_f, ↓skipP_undef, ↓pickP_bool, ↓b_add, ↓b_sub, ↓b_mul, ↓b_quo, ↓b_rem, ↓b_lss, ↓b_leq, ↓b_gtr, ↓b_geq, ↓b_eql, ↓b_neq, ↓u_not, ↓s_add, ↓s_eql, ↓s_neq, ↓i_max2, ↓i_min2, ↓x20, ↓x21, ↓x30, ↓x31, ↓x32, ↓q_b_add, ↓q_b_sub, ↓q_b_mul, ↓q_b_quo, ↓q_b_rem, ↓q_b_lss, ↓q_b_leq, ↓q_b_gtr, ↓q_b_geq, ↓q_b_eql, ↓q_b_neq, ↓q_u_not, ↓q_s_add, ↓q_s_eql, ↓q_s_neq, ↓q_i_max2, ↓q_i_min2, ↓q_x20, ↓q_x21, ↓q_x30, ↓q_x31, ↓q_x32, ↓m_box, decide_true, decide_false, tt_and, ff_and, Nat.zero_add, Int.toNat_natCast, cells_agg, cells_bool, cells_int, cells_str, cells_ptr, cells_slice, ↓qend_eq, ↓jump_none, ↓jump_ret, ↓jump_exit, ↓marks_one, cond_true, cond_false, Bool.not_true, Bool.not_false]
  refine ⟨fun x h' => ∃ (i : Nat) (s' : Sto), x = .int .i64 (i : Int) ∧ i ≤ nb ∧ PS h n0 u b g pf nb all w must fr te (.int .i64 0) s' h' ∧ h'[u + 4]? = some (mk .ready none) ∧
      s'.n = s.n ∧ putN pf w all must (E - i) i s' = putN pf w all must (E - fr / 32) (fr / 32) s, fun x h' => match x with | .int _ i => E - i.toNat | _ => 0, ?_, ?_⟩
  · exact ⟨fr / 32, s, by congr 1, hfb, hPA, hrec, rfl, rfl⟩
  · rintro js x h1 ⟨i, s1, rfl, hi, hP, hr, hn1, heq⟩
    clear hPA hrec c1
    have c2 := one_cell hP.pi.y
    have e3 : n0 + 1 + 1 + 1 = n0 + 3 := rfl
    have e2 : n0 + 1 + 1 = n0 + 2 := rfl
    simp only [e3, e2] at Y
    simp (disch := first | assumption | (with_reducible exact Ext.refl _) | (with_reducible exact Keep.refl _ _) | (with_reducible exact Eq.refl _) | (intro _ he; cases he; assumption) | (intro _ he; with_reducible apply keep_cell' he; assumption; simp; done) | (intro _ he; with_reducible apply ext_cell' he; assumption; done) | (with_reducible first | exact pl_int _ _ | exact pl_byte _ | exact pl_u32 _ | exact pl_bool _ | exact pl_ptr _ | exact pl_slice _ _ _ | exact pl_map _ | exact pl_str _ | exact pl_func _ _ _) | ((rw [okW_setH]; repeat rw [okW_setH]); assumption) | ((with_reducible refine cellH_setH_same ?_ _); (repeat rw [okW_setH]); assumption) | ((rw [cellH_setH_off]; rotate_left; focus decide); (repeat (rw [cellH_setH_off]; rotate_left; focus decide)); first | assumption | ((with_reducible refine cellH_setH_same ?_ _); (repeat rw [okW_setH]); assumption)) | omega) only [↓hpR, ↓nilC_ptr, ↓nilC_func, ↓condP_true, ↓condP_false, ↓condP_bool, ↓guardP_true, ↓guardP_false, ↓guardP_bool_t, ↓guardP_bool_f, ↓skipP_undef, ↓pickP_bool, ↓b_add, ↓b_sub, ↓b_mul, ↓b_quo, ↓b_rem, ↓b_lss, ↓b_leq, ↓b_gtr, ↓b_geq, ↓b_eql, ↓b_neq, ↓u_not, ↓s_add, ↓s_eql, ↓s_neq, ↓i_max2, ↓i_min2, ↓x20, ↓x21, ↓x30, ↓x31, ↓x32, ↓q_b_add, ↓q_b_sub, ↓q_b_mul, ↓q_b_quo, ↓q_b_rem, ↓q_b_lss, ↓q_b_leq, ↓q_b_gtr, ↓q_b_geq, ↓q_b_eql, ↓q_b_neq, ↓q_u_not, ↓q_s_add, ↓q_s_eql, ↓q_s_neq, ↓q_i_max2, ↓q_i_min2, ↓q_x20, ↓q_x21, ↓q_x30, ↓q_x31, ↓q_x32, ↓m_box, decide_true, decide_false, tt_and, ff_and, Nat.zero_add, Int.toNat_natCast, cells_agg, cells_bool, cells_int, cells_str, cells_ptr, cells_slice, ↓qend_eq, ↓jump_none, ↓jump_ret, ↓jump_exit, ↓marks_one, cond_true, cond_false, Bool.not_true, Bool.not_false, e3]
    refine ⟨fun hlt => ?_, fun hge => ?_⟩
    · have hlt' : i * 32 < te := by simp at hlt; omega
      have hnd : E - i = (E - (i + 1)) + 1 := by omega
      refine Y _ _ _ hr ⟨hr, ?_⟩
      have hr4 := set_same hr (mk .busy none)
      have hP4 := hP.set (mk .busy none)
      generalize h1.setIfInBounds (u + 4) (mk .busy none) = h4 at hr4 hP4 ⊢
      clear hP hr c2
      have d0 : cellH h4 n0 0 = some (.pointer (some ⟨b, 0, none⟩)) := by rw [cellH_of hP4.pi.a0]; rfl
      have d1 : cellH h4 n0 1 = some (.int .i64 (pf : Int)) := by rw [cellH_of hP4.pi.a0]; rfl
      have d2 := one_cell hP4.pi.a1
      have d3 := one_cell hP4.pi.a2
      have d4 := one_cell hP4.pi.a4
      have f1 : ((i : Int) * 32).toNat = 32 * i := by omega
      have f2 : (((i : Int) + 1) * 32).toNat - 32 * i = 32 := by omega
      simp (disch := first | assumption | (with_reducible exact Ext.refl _) | (with_reducible exact Keep.refl _ _) | (with_reducible exact Eq.refl _) | (intro _ he; cases he; assumption) | (intro _ he; with_reducible apply keep_cell' he; assumption; simp; done) | (intro _ he; with_reducible apply ext_cell' he; assumption; done) | (with_reducible first | exact pl_int _ _ | exact pl_byte _ | exact pl_u32 _ | exact pl_bool _ | exact pl_ptr _ | exact pl_slice _ _ _ | exact pl_map _ | exact pl_str _ | exact pl_func _ _ _) | ((rw [okW_setH]; repeat rw [okW_setH]); assumption) | ((with_reducible refine cellH_setH_same ?_ _); (repeat rw [okW_setH]); assumption) | ((rw [cellH_setH_off]; rotate_left; focus decide); (repeat (rw [cellH_setH_off]; rotate_left; focus decide)); first | assumption | ((with_reducible refine cellH_setH_same ?_ _); (repeat rw [okW_setH]); assumption)) | omega) only [↓hpR, ↓nilC_ptr, ↓nilC_func, ↓condP_true, ↓condP_false, ↓condP_bool, ↓guardP_true, ↓guardP_false, ↓guardP_bool_t, ↓guardP_bool_f, ↓skipP_undef, ↓pickP_bool, ↓b_add, ↓b_sub, ↓b_mul, ↓b_quo, ↓b_rem, ↓b_lss, ↓b_leq, ↓b_gtr, ↓b_geq, ↓b_eql, ↓b_neq, ↓u_not, ↓s_add, ↓s_eql, ↓s_neq, ↓i_max2, ↓i_min2, ↓x20, ↓x21, ↓x30, ↓x31, ↓x32, ↓q_b_add, ↓q_b_sub, ↓q_b_mul, ↓q_b_quo, ↓q_b_rem, ↓q_b_lss, ↓q_b_leq, ↓q_b_gtr, ↓q_b_geq, ↓q_b_eql, ↓q_b_neq, ↓q_u_not, ↓q_s_add, ↓q_s_eql, ↓q_s_neq, ↓q_i_max2, ↓q_i_min2, ↓q_x20, ↓q_x21, ↓q_x30, ↓q_x31, ↓q_x32, ↓m_box, decide_true, decide_false, tt_and, ff_and, Nat.zero_add, Int.toNat_natCast, cells_agg, cells_bool, cells_int, cells_str, cells_ptr, cells_slice, ↓qend_eq, ↓jump_none, ↓jump_ret, ↓jump_exit, ↓marks_one, cond_true, cond_false, Bool.not_true, Bool.not_false]
      have next : ∀ (s2 : Sto) (h5 : Heap), PS h n0 u b g pf nb all w must fr te (.int .i64 0) s2 h5 → s2.n = s.n → h5[u + 4]? = some (mk .busy none) → putN pf w all must (E - (i + 1)) (i + 1) s2 = putN pf w all must (E - fr / 32) (fr / 32) s →
          (∃ (i_1 : Nat) (s' : Sto), Value.int .i64 ((i : Int) + 1) = Value.int .i64 (i_1 : Int) ∧ i_1 ≤ nb ∧ PS h n0 u b g pf nb all w must fr te (.int .i64 0) s' (h5.setIfInBounds (u + 4) (mk .ready none)) ∧ (h5.setIfInBounds (u + 4) (mk .ready none))[u + 4]? = some (mk .ready none) ∧
            s'.n = s.n ∧ putN pf w all must (E - i_1) i_1 s' = putN pf w all must (E - fr / 32) (fr / 32) s) ∧ E - ((i : Int) + 1).toNat < E - i :=
        fun s2 h5 hP5 hn2 hr5 heq5 => ⟨⟨i + 1, s2, rfl, by omega, hP5.set _, set_same hr5 _, hn2, heq5⟩, by omega⟩
      refine Join1.intro (fun x h' => h' = h4 ∧ x = .bool (decide (must = false ∧ blkL all i = blkL w i))) (fun J hJ => ?_) ?_
      · refine Quiet_eq ?_
        cases must with
        | true =>
          simp (disch := first | assumption | (with_reducible exact Ext.refl _) | (with_reducible exact Keep.refl _ _) | (with_reducible exact Eq.refl _) | (intro _ he; cases he; assumption) | (intro _ he; with_reducible apply keep_cell' he; assumption; simp; done) | (intro _ he; with_reducible apply ext_cell' he; assumption; done) | (with_reducible first | exact pl_int _ _ | exact pl_byte _ | exact pl_u32 _ | exact pl_bool _ | exact pl_ptr _ | exact pl_slice _ _ _ | exact pl_map _ | exact pl_str _ | exact pl_func _ _ _) | ((rw [okW_setH]; repeat rw [okW_setH]); assumption) | ((with_reducible refine cellH_setH_same ?_ _); (repeat rw [okW_setH]); assumption) | ((rw [cellH_setH_off]; rotate_left; focus decide); (repeat (rw [cellH_setH_off]; rotate_left; focus decide)); first | assumption | ((with_reducible refine cellH_setH_same ?_ _); (repeat rw [okW_setH]); assumption)) | omega) only [↓hpR, ↓nilC_ptr, ↓nilC_func, ↓condP_true, ↓condP_false, ↓condP_bool, ↓guardP_true, ↓guardP_false, ↓guardP_bool_t, ↓guardP_bool_f, ↓skipP_undef, ↓pickP_bool, ↓b_add, ↓b_sub, ↓b_mul, ↓b_quo, ↓b_rem, ↓b_lss, ↓b_leq, ↓b_gtr, ↓b_geq, ↓b_eql, ↓b_neq, ↓u_not, ↓s_add, ↓s_eql, ↓s_neq, ↓i_max2, ↓i_min2, ↓x20, ↓x21, ↓x30, ↓x31, ↓x32, ↓q_b_add, ↓q_b_sub, ↓q_b_mul, ↓q_b_quo, ↓q_b_rem, ↓q_b_lss, ↓q_b_leq, ↓q_b_gtr, ↓q_b_geq, ↓q_b_eql, ↓q_b_neq, ↓q_u_not, ↓q_s_add, ↓q_s_eql, ↓q_s_neq, ↓q_i_max2, ↓q_i_min2, ↓q_x20, ↓q_x21, ↓q_x30, ↓q_x31, ↓q_x32, ↓m_box, decide_true, decide_false, tt_and, ff_and, Nat.zero_add, Int.toNat_natCast, cells_agg, cells_bool, cells_int, cells_str, cells_ptr, cells_slice, ↓qend_eq, ↓jump_none, ↓jump_ret, ↓jump_exit, ↓marks_one, cond_true, cond_false, Bool.not_true, Bool.not_false]
          exact hJ _ _ ⟨rfl, by simp⟩
        | false =>
          simp (disch := first | assumption | (with_reducible exact Ext.refl _) | (with_reducible exact Keep.refl _ _) | (with_reducible exact Eq.refl _) | (intro _ he; cases he; assumption) | (intro _ he; with_reducible apply keep_cell' he; assumption; simp; done) | (intro _ he; with_reducible apply ext_cell' he; assumption; done) | (with_reducible first | exact pl_int _ _ | exact pl_byte _ | exact pl_u32 _ | exact pl_bool _ | exact pl_ptr _ | exact pl_slice _ _ _ | exact pl_map _ | exact pl_str _ | exact pl_func _ _ _) | ((rw [okW_setH]; repeat rw [okW_setH]); assumption) | ((with_reducible refine cellH_setH_same ?_ _); (repeat rw [okW_setH]); assumption) | ((rw [cellH_setH_off]; rotate_left; focus decide); (repeat (rw [cellH_setH_off]; rotate_left; focus decide)); first | assumption | ((with_reducible refine cellH_setH_same ?_ _); (repeat rw [okW_setH]); assumption)) | omega) only [↓hpR, ↓nilC_ptr, ↓nilC_func, ↓condP_true, ↓condP_false, ↓condP_bool, ↓guardP_true, ↓guardP_false, ↓guardP_bool_t, ↓guardP_bool_f, ↓skipP_undef, ↓pickP_bool, ↓b_add, ↓b_sub, ↓b_mul, ↓b_quo, ↓b_rem, ↓b_lss, ↓b_leq, ↓b_gtr, ↓b_geq, ↓b_eql, ↓b_neq, ↓u_not, ↓s_add, ↓s_eql, ↓s_neq, ↓i_max2, ↓i_min2, ↓x20, ↓x21, ↓x30, ↓x31, ↓x32, ↓q_b_add, ↓q_b_sub, ↓q_b_mul, ↓q_b_quo, ↓q_b_rem, ↓q_b_lss, ↓q_b_leq, ↓q_b_gtr, ↓q_b_geq, ↓q_b_eql, ↓q_b_neq, ↓q_u_not, ↓q_s_add, ↓q_s_eql, ↓q_s_neq, ↓q_i_max2, ↓q_i_min2, ↓q_x20, ↓q_x21, ↓q_x30, ↓q_x31, ↓q_x32, ↓m_box, decide_true, decide_false, tt_and, ff_and, Nat.zero_add, Int.toNat_natCast, cells_agg, cells_bool, cells_int, cells_str, cells_ptr, cells_slice, ↓qend_eq, ↓jump_none, ↓jump_ret, ↓jump_exit, ↓marks_one, cond_true, cond_false, Bool.not_true, Bool.not_false]
          rw [f1, f2]
          exact hJ _ _ ⟨rfl, by simp [blkL]⟩
      · rintro x h' ⟨rfl, rfl⟩
        simp (disch := first | assumption | (with_reducible exact Ext.refl _) | (with_reducible exact Keep.refl _ _) | (with_reducible exact Eq.refl _) | (intro _ he; cases he; assumption) | (intro _ he; with_reducible apply keep_cell' he; assumption; simp; done) | (intro _ he; with_reducible apply ext_cell' he; assumption; done) | (with_reducible first | exact pl_int _ _ | exact pl_byte _ | exact pl_u32 _ | exact pl_bool _ | exact pl_ptr _ | exact pl_slice _ _ _ | exact pl_map _ | exact pl_str _ | exact pl_func _ _ _) | ((rw [okW_setH]; repeat rw [okW_setH]); assumption) | ((with_reducible refine cellH_setH_same ?_ _); (repeat rw [okW_setH]); assumption) | ((rw [cellH_setH_off]; rotate_left; focus decide); (repeat (rw [cellH_setH_off]; rotate_left; focus decide)); first | assumption | ((with_reducible refine cellH_setH_same ?_ _); (repeat rw [okW_setH]); assumption)) | omega) only [↓hpR, ↓nilC_ptr, ↓nilC_func, ↓condP_true, ↓condP_false, ↓condP_bool, ↓guardP_true, ↓guardP_false, ↓guardP_bool_t, ↓guardP_bool_f, ↓skipP_undef, ↓pickP_bool, ↓b_add, ↓b_sub, ↓b_mul, ↓b_quo, ↓b_rem, ↓b_lss, ↓b_leq, ↓b_gtr, ↓b_geq, ↓b_eql, ↓b_neq, ↓u_not, ↓s_add, ↓s_eql, ↓s_neq, ↓i_max2, ↓i_min2, ↓x20, ↓x21, ↓x30, ↓x31, ↓x32, ↓q_b_add, ↓q_b_sub, ↓q_b_mul, ↓q_b_quo, ↓q_b_rem, ↓q_b_lss, ↓q_b_leq, ↓q_b_gtr, ↓q_b_geq, ↓q_b_eql, ↓q_b_neq, ↓q_u_not, ↓q_s_add, ↓q_s_eql, ↓q_s_neq, ↓q_i_max2, ↓q_i_min2, ↓q_x20, ↓q_x21, ↓q_x30, ↓q_x31, ↓q_x32, ↓m_box, decide_true, decide_false, tt_and, ff_and, Nat.zero_add, Int.toNat_natCast, cells_agg, cells_bool, cells_int, cells_str, cells_ptr, cells_slice, ↓qend_eq, ↓jump_none, ↓jump_ret, ↓jump_exit, ↓marks_one, cond_true, cond_false, Bool.not_true, Bool.not_false]
        refine ⟨fun hsk => ?_, fun hsk => ?_⟩
        · have hsk' : must = false ∧ blkL all i = blkL w i := by simpa using hsk
          refine ⟨hr4, ?_⟩
          simp only [Option.isNone_none, cond_true]
          simp (disch := first | assumption | (with_reducible exact Ext.refl _) | (with_reducible exact Keep.refl _ _) | (with_reducible exact Eq.refl _) | (intro _ he; cases he; assumption) | (intro _ he; with_reducible apply keep_cell' he; assumption; simp; done) | (intro _ he; with_reducible apply ext_cell' he; assumption; done) | (with_reducible first | exact pl_int _ _ | exact pl_byte _ | exact pl_u32 _ | exact pl_bool _ | exact pl_ptr _ | exact pl_slice _ _ _ | exact pl_map _ | exact pl_str _ | exact pl_func _ _ _) | ((rw [okW_setH]; repeat rw [okW_setH]); assumption) | ((with_reducible refine cellH_setH_same ?_ _); (repeat rw [okW_setH]); assumption) | ((rw [cellH_setH_off]; rotate_left; focus decide); (repeat (rw [cellH_setH_off]; rotate_left; focus decide)); first | assumption | ((with_reducible refine cellH_setH_same ?_ _); (repeat rw [okW_setH]); assumption)) | omega) only [↓hpR, ↓nilC_ptr, ↓nilC_func, ↓condP_true, ↓condP_false, ↓condP_bool, ↓guardP_true, ↓guardP_false, ↓guardP_bool_t, ↓guardP_bool_f, ↓skipP_undef, ↓pickP_bool, ↓b_add, ↓b_sub, ↓b_mul, ↓b_quo, ↓b_rem, ↓b_lss, ↓b_leq, ↓b_gtr, ↓b_geq, ↓b_eql, ↓b_neq, ↓u_not, ↓s_add, ↓s_eql, ↓s_neq, ↓i_max2, ↓i_min2, ↓x20, ↓x21, ↓x30, ↓x31, ↓x32, ↓q_b_add, ↓q_b_sub, ↓q_b_mul, ↓q_b_quo, ↓q_b_rem, ↓q_b_lss, ↓q_b_leq, ↓q_b_gtr, ↓q_b_geq, ↓q_b_eql, ↓q_b_neq, ↓q_u_not, ↓q_s_add, ↓q_s_eql, ↓q_s_neq, ↓q_i_max2, ↓q_i_min2, ↓q_x20, ↓q_x21, ↓q_x30, ↓q_x31, ↓q_x32, ↓m_box, decide_true, decide_false, tt_and, ff_and, Nat.zero_add, Int.toNat_natCast, cells_agg, cells_bool, cells_int, cells_str, cells_ptr, cells_slice, ↓qend_eq, ↓jump_none, ↓jump_ret, ↓jump_exit, ↓marks_one, cond_true, cond_false, Bool.not_true, Bool.not_false]
          refine next s1 h' hP4 hn1 hr4 ?_
          rw [← heq, hnd]
          simp only [putN]
          rw [if_pos hsk']
        · have hsk' : ¬ (must = false ∧ blkL all i = blkL w i) := by simpa using hsk
          refine ⟨Keep [n0, n0 + 1] h', Keep.refl _ _, ?_⟩
          simp (disch := first | assumption | (with_reducible exact Ext.refl _) | (with_reducible exact Keep.refl _ _) | (with_reducible exact Eq.refl _) | (intro _ he; cases he; assumption) | (intro _ he; with_reducible apply keep_cell' he; assumption; simp; done) | (intro _ he; with_reducible apply ext_cell' he; assumption; done) | (with_reducible first | exact pl_int _ _ | exact pl_byte _ | exact pl_u32 _ | exact pl_bool _ | exact pl_ptr _ | exact pl_slice _ _ _ | exact pl_map _ | exact pl_str _ | exact pl_func _ _ _) | ((rw [okW_setH]; repeat rw [okW_setH]); assumption) | ((with_reducible refine cellH_setH_same ?_ _); (repeat rw [okW_setH]); assumption) | ((rw [cellH_setH_off]; rotate_left; focus decide); (repeat (rw [cellH_setH_off]; rotate_left; focus decide)); first | assumption | ((with_reducible refine cellH_setH_same ?_ _); (repeat rw [okW_setH]); assumption)) | omega) only [↓hpR, ↓nilC_ptr, ↓nilC_func, ↓condP_true, ↓condP_false, ↓condP_bool, ↓guardP_true, ↓guardP_false, ↓guardP_bool_t, ↓guardP_bool_f, ↓skipP_undef, ↓pickP_bool, ↓b_add, ↓b_sub, ↓b_mul, ↓b_quo, ↓b_rem, ↓b_lss, ↓b_leq, ↓b_gtr, ↓b_geq, ↓b_eql, ↓b_neq, ↓u_not, ↓s_add, ↓s_eql, ↓s_neq, ↓i_max2, ↓i_min2, ↓x20, ↓x21, ↓x30, ↓x31, ↓x32, ↓q_b_add, ↓q_b_sub, ↓q_b_mul, ↓q_b_quo, ↓q_b_rem, ↓q_b_lss, ↓q_b_leq, ↓q_b_gtr, ↓q_b_geq, ↓q_b_eql, ↓q_b_neq, ↓q_u_not, ↓q_s_add, ↓q_s_eql, ↓q_s_neq, ↓q_i_max2, ↓q_i_min2, ↓q_x20, ↓q_x21, ↓q_x30, ↓q_x31, ↓q_x32, ↓m_box, decide_true, decide_false, tt_and, ff_and, Nat.zero_add, Int.toNat_natCast, cells_agg, cells_bool, cells_int, cells_str, cells_ptr, cells_slice, ↓qend_eq, ↓jump_none, ↓jump_ret, ↓jump_exit, ↓marks_one, cond_true, cond_false, Bool.not_true, Bool.not_false]
          rw [f1, f2]
          have fi : (pf : Int) + (i : Int) = ((pf + i : Nat) : Int) := by omega
          rw [fi]
          have hbk : (blkL all i).length ≤ 9223372036854775807 := by simp [blkL]; omega
          refine write_spec hP4.st _ (blkL all i) hbk fun h5 hs5 ho5 => ⟨?_, ?_⟩
          · have h1 := hP4.bl
            have h2 := hP4.gl
            intro k hk
            simp only [List.mem_cons, List.not_mem_nil, or_false] at hk
            rcases hk with rfl | rfl
            · rw [ho5.at hP4.pi.a0 (by simp; omega), hP4.pi.a0]
            · rw [ho5.at hP4.pi.a1 (by simp; omega), hP4.pi.a1]
          · have hP5 := hP4.write ho5 hs5
            have hr5 := ho5.at hr4 (by have := hP4.bl; have := hP4.gl; have := hP4.hu; simp; omega)
            have hn5 := writeS_n s1 ((pf + i : Nat) : Int) (blkL all i)
            simp (disch := first | assumption | (with_reducible exact Ext.refl _) | (with_reducible exact Keep.refl _ _) | (with_reducible exact Eq.refl _) | (intro _ he; cases he; assumption) | (intro _ he; with_reducible apply keep_cell' he; assumption; simp; done) | (intro _ he; with_reducible apply ext_cell' he; assumption; done) | (with_reducible first | exact pl_int _ _ | exact pl_byte _ | exact pl_u32 _ | exact pl_bool _ | exact pl_ptr _ | exact pl_slice _ _ _ | exact pl_map _ | exact pl_str _ | exact pl_func _ _ _) | ((rw [okW_setH]; repeat rw [okW_setH]); assumption) | ((with_reducible refine cellH_setH_same ?_ _); (repeat rw [okW_setH]); assumption) | ((rw [cellH_setH_off]; rotate_left; focus decide); (repeat (rw [cellH_setH_off]; rotate_left; focus decide)); first | assumption | ((with_reducible refine cellH_setH_same ?_ _); (repeat rw [okW_setH]); assumption)) | omega) only [↓hpR, ↓nilC_ptr, ↓nilC_func, ↓condP_true, ↓condP_false, ↓condP_bool, ↓guardP_true, ↓guardP_false, ↓guardP_bool_t, ↓guardP_bool_f, ↓skipP_undef, ↓pickP_bool, ↓b_add, ↓b_sub, ↓b_mul, ↓b_quo, ↓b_rem, ↓b_lss, ↓b_leq, ↓b_gtr, ↓b_geq, ↓b_eql, ↓b_neq, ↓u_not, ↓s_add, ↓s_eql, ↓s_neq, ↓i_max2, ↓i_min2, ↓x20, ↓x21, ↓x30, ↓x31, ↓x32, ↓q_b_add, ↓q_b_sub, ↓q_b_mul, ↓q_b_quo, ↓q_b_rem, ↓q_b_lss, ↓q_b_leq, ↓q_b_gtr, ↓q_b_geq, ↓q_b_eql, ↓q_b_neq, ↓q_u_not, ↓q_s_add, ↓q_s_eql, ↓q_s_neq, ↓q_i_max2, ↓q_i_min2, ↓q_x20, ↓q_x21, ↓q_x30, ↓q_x31, ↓q_x32, ↓m_box, decide_true, decide_false, tt_and, ff_and, Nat.zero_add, Int.toNat_natCast, cells_agg, cells_bool, cells_int, cells_str, cells_ptr, cells_slice, ↓qend_eq, ↓jump_none, ↓jump_ret, ↓jump_exit, ↓marks_one, cond_true, cond_false, Bool.not_true, Bool.not_false]
            refine ⟨fun he => ?_, fun he => ?_⟩
            · have he' : (writeS s1 ((pf + i : Nat) : Int) (blkL all i)).1 ≠ 0 := by simpa using he
              have w3 := one_ok hP5.e
              simp (disch := first | assumption | (with_reducible exact Ext.refl _) | (with_reducible exact Keep.refl _ _) | (with_reducible exact Eq.refl _) | (intro _ he; cases he; assumption) | (intro _ he; with_reducible apply keep_cell' he; assumption; simp; done) | (intro _ he; with_reducible apply ext_cell' he; assumption; done) | (with_reducible first | exact pl_int _ _ | exact pl_byte _ | exact pl_u32 _ | exact pl_bool _ | exact pl_ptr _ | exact pl_slice _ _ _ | exact pl_map _ | exact pl_str _ | exact pl_func _ _ _) | ((rw [okW_setH]; repeat rw [okW_setH]); assumption) | ((with_reducible refine cellH_setH_same ?_ _); (repeat rw [okW_setH]); assumption) | ((rw [cellH_setH_off]; rotate_left; focus decide); (repeat (rw [cellH_setH_off]; rotate_left; focus decide)); first | assumption | ((with_reducible refine cellH_setH_same ?_ _); (repeat rw [okW_setH]); assumption)) | omega) only [↓hpR, ↓nilC_ptr, ↓nilC_func, ↓condP_true, ↓condP_false, ↓condP_bool, ↓guardP_true, ↓guardP_false, ↓guardP_bool_t, ↓guardP_bool_f, ↓skipP_undef, ↓pickP_bool, ↓b_add, ↓b_sub, ↓b_mul, ↓b_quo, ↓b_rem, ↓b_lss, ↓b_leq, ↓b_gtr, ↓b_geq, ↓b_eql, ↓b_neq, ↓u_not, ↓s_add, ↓s_eql, ↓s_neq, ↓i_max2, ↓i_min2, ↓x20, ↓x21, ↓x30, ↓x31, ↓x32, ↓q_b_add, ↓q_b_sub, ↓q_b_mul, ↓q_b_quo, ↓q_b_rem, ↓q_b_lss, ↓q_b_leq, ↓q_b_gtr, ↓q_b_geq, ↓q_b_eql, ↓q_b_neq, ↓q_u_not, ↓q_s_add, ↓q_s_eql, ↓q_s_neq, ↓q_i_max2, ↓q_i_min2, ↓q_x20, ↓q_x21, ↓q_x30, ↓q_x31, ↓q_x32, ↓m_box, decide_true, decide_false, tt_and, ff_and, Nat.zero_add, Int.toNat_natCast, cells_agg, cells_bool, cells_int, cells_str, cells_ptr, cells_slice, ↓qend_eq, ↓jump_none, ↓jump_ret, ↓jump_exit, ↓marks_one, cond_true, cond_false, Bool.not_true, Bool.not_false]
              have hP6 := hP5.err (.int .i64 (writeS s1 ((pf + i : Nat) : Int) (blkL all i)).1)
              have hr6 := setH_other hr5 (by have := hP5.hu; omega : n0 + 3 ≠ u + 4) 0 (.int .i64 (writeS s1 ((pf + i : Nat) : Int) (blkL all i)).1)
              refine ⟨hr6, ?_⟩
              simp only [Option.isNone_some, cond_false]
              simp (disch := first | assumption | (with_reducible exact Ext.refl _) | (with_reducible exact Keep.refl _ _) | (with_reducible exact Eq.refl _) | (intro _ he; cases he; assumption) | (intro _ he; with_reducible apply keep_cell' he; assumption; simp; done) | (intro _ he; with_reducible apply ext_cell' he; assumption; done) | (with_reducible first | exact pl_int _ _ | exact pl_byte _ | exact pl_u32 _ | exact pl_bool _ | exact pl_ptr _ | exact pl_slice _ _ _ | exact pl_map _ | exact pl_str _ | exact pl_func _ _ _) | ((rw [okW_setH]; repeat rw [okW_setH]); assumption) | ((with_reducible refine cellH_setH_same ?_ _); (repeat rw [okW_setH]); assumption) | ((rw [cellH_setH_off]; rotate_left; focus decide); (repeat (rw [cellH_setH_off]; rotate_left; focus decide)); first | assumption | ((with_reducible refine cellH_setH_same ?_ _); (repeat rw [okW_setH]); assumption)) | omega) only [↓hpR, ↓nilC_ptr, ↓nilC_func, ↓condP_true, ↓condP_false, ↓condP_bool, ↓guardP_true, ↓guardP_false, ↓guardP_bool_t, ↓guardP_bool_f, ↓skipP_undef, ↓pickP_bool, ↓b_add, ↓b_sub, ↓b_mul, ↓b_quo, ↓b_rem, ↓b_lss, ↓b_leq, ↓b_gtr, ↓b_geq, ↓b_eql, ↓b_neq, ↓u_not, ↓s_add, ↓s_eql, ↓s_neq, ↓i_max2, ↓i_min2, ↓x20, ↓x21, ↓x30, ↓x31, ↓x32, ↓q_b_add, ↓q_b_sub, ↓q_b_mul, ↓q_b_quo, ↓q_b_rem, ↓q_b_lss, ↓q_b_leq, ↓q_b_gtr, ↓q_b_geq, ↓q_b_eql, ↓q_b_neq, ↓q_u_not, ↓q_s_add, ↓q_s_eql, ↓q_s_neq, ↓q_i_max2, ↓q_i_min2, ↓q_x20, ↓q_x21, ↓q_x30, ↓q_x31, ↓q_x32, ↓m_box, decide_true, decide_false, tt_and, ff_and, Nat.zero_add, Int.toNat_natCast, cells_agg, cells_bool, cells_int, cells_str, cells_ptr, cells_slice, ↓qend_eq, ↓jump_none, ↓jump_ret, ↓jump_exit, ↓marks_one, cond_true, cond_false, Bool.not_true, Bool.not_false]
              refine ⟨.done, some .ret, by simp, set_same hr6 _, ?_⟩
              have hP7 := (hP6.set (mk .done (some .ret))).set (mk .exhausted (some .ret))
              obtain ⟨q1, q2, q3⟩ := hP7.shut
              refine ⟨hP7.d, ?_⟩
              simp (disch := first | assumption | (with_reducible exact Ext.refl _) | (with_reducible exact Keep.refl _ _) | (with_reducible exact Eq.refl _) | (intro _ he; cases he; assumption) | (intro _ he; with_reducible apply keep_cell' he; assumption; simp; done) | (intro _ he; with_reducible apply ext_cell' he; assumption; done) | (with_reducible first | exact pl_int _ _ | exact pl_byte _ | exact pl_u32 _ | exact pl_bool _ | exact pl_ptr _ | exact pl_slice _ _ _ | exact pl_map _ | exact pl_str _ | exact pl_func _ _ _) | ((rw [okW_setH]; repeat rw [okW_setH]); assumption) | ((with_reducible refine cellH_setH_same ?_ _); (repeat rw [okW_setH]); assumption) | ((rw [cellH_setH_off]; rotate_left; focus decide); (repeat (rw [cellH_setH_off]; rotate_left; focus decide)); first | assumption | ((with_reducible refine cellH_setH_same ?_ _); (repeat rw [okW_setH]); assumption)) | omega) only [↓hpR, ↓nilC_ptr, ↓nilC_func, ↓condP_true, ↓condP_false, ↓condP_bool, ↓guardP_true, ↓guardP_false, ↓guardP_bool_t, ↓guardP_bool_f, ↓skipP_undef, ↓pickP_bool, ↓b_add, ↓b_sub, ↓b_mul, ↓b_quo, ↓b_rem, ↓b_lss, ↓b_leq, ↓b_gtr, ↓b_geq, ↓b_eql, ↓b_neq, ↓u_not, ↓s_add, ↓s_eql, ↓s_neq, ↓i_max2, ↓i_min2, ↓x20, ↓x21, ↓x30, ↓x31, ↓x32, ↓q_b_add, ↓q_b_sub, ↓q_b_mul, ↓q_b_quo, ↓q_b_rem, ↓q_b_lss, ↓q_b_leq, ↓q_b_gtr, ↓q_b_geq, ↓q_b_eql, ↓q_b_neq, ↓q_u_not, ↓q_s_add, ↓q_s_eql, ↓q_s_neq, ↓q_i_max2, ↓q_i_min2, ↓q_x20, ↓q_x21, ↓q_x30, ↓q_x31, ↓q_x32, ↓m_box, decide_true, decide_false, tt_and, ff_and, Nat.zero_add, Int.toNat_natCast, cells_agg, cells_bool, cells_int, cells_str, cells_ptr, cells_slice, ↓qend_eq, ↓jump_none, ↓jump_ret, ↓jump_exit, ↓marks_one, cond_true, cond_false, Bool.not_true, Bool.not_false]
              have hR : putN pf w all must (E - fr / 32) (fr / 32) s = writeS s1 ((pf + i : Nat) : Int) (blkL all i) := by
                rw [← heq, hnd]
                simp only [putN]
                rw [if_neg hsk', if_neg he']
              rw [hR] at hk
              exact hk _ q1 q2
            · have he' : (writeS s1 ((pf + i : Nat) : Int) (blkL all i)).1 = 0 := by simpa using he
              refine ⟨hr5, ?_⟩
              simp only [Option.isNone_none, cond_true]
              simp (disch := first | assumption | (with_reducible exact Ext.refl _) | (with_reducible exact Keep.refl _ _) | (with_reducible exact Eq.refl _) | (intro _ he; cases he; assumption) | (intro _ he; with_reducible apply keep_cell' he; assumption; simp; done) | (intro _ he; with_reducible apply ext_cell' he; assumption; done) | (with_reducible first | exact pl_int _ _ | exact pl_byte _ | exact pl_u32 _ | exact pl_bool _ | exact pl_ptr _ | exact pl_slice _ _ _ | exact pl_map _ | exact pl_str _ | exact pl_func _ _ _) | ((rw [okW_setH]; repeat rw [okW_setH]); assumption) | ((with_reducible refine cellH_setH_same ?_ _); (repeat rw [okW_setH]); assumption) | ((rw [cellH_setH_off]; rotate_left; focus decide); (repeat (rw [cellH_setH_off]; rotate_left; focus decide)); first | assumption | ((with_reducible refine cellH_setH_same ?_ _); (repeat rw [okW_setH]); assumption)) | omega) only [↓hpR, ↓nilC_ptr, ↓nilC_func, ↓condP_true, ↓condP_false, ↓condP_bool, ↓guardP_true, ↓guardP_false, ↓guardP_bool_t, ↓guardP_bool_f, ↓skipP_undef, ↓pickP_bool, ↓b_add, ↓b_sub, ↓b_mul, ↓b_quo, ↓b_rem, ↓b_lss, ↓b_leq, ↓b_gtr, ↓b_geq, ↓b_eql, ↓b_neq, ↓u_not, ↓s_add, ↓s_eql, ↓s_neq, ↓i_max2, ↓i_min2, ↓x20, ↓x21, ↓x30, ↓x31, ↓x32, ↓q_b_add, ↓q_b_sub, ↓q_b_mul, ↓q_b_quo, ↓q_b_rem, ↓q_b_lss, ↓q_b_leq, ↓q_b_gtr, ↓q_b_geq, ↓q_b_eql, ↓q_b_neq, ↓q_u_not, ↓q_s_add, ↓q_s_eql, ↓q_s_neq, ↓q_i_max2, ↓q_i_min2, ↓q_x20, ↓q_x21, ↓q_x30, ↓q_x31, ↓q_x32, ↓m_box, decide_true, decide_false, tt_and, ff_and, Nat.zero_add, Int.toNat_natCast, cells_agg, cells_bool, cells_int, cells_str, cells_ptr, cells_slice, ↓qend_eq, ↓jump_none, ↓jump_ret, ↓jump_exit, ↓marks_one, cond_true, cond_false, Bool.not_true, Bool.not_false]
              refine next _ h5 hP5 (hn5.trans hn1) hr5 ?_
              rw [← heq, hnd]
              simp only [putN]
              rw [if_neg hsk', if_pos he']
    · have hge' : E ≤ i := by simp at hge; omega
      refine ⟨.ready, none, by simp, hr, ?_⟩
      have hP4 := hP.set (mk .exhausted none)
      have w3 := one_ok hP4.e
      simp (disch := first | assumption | (with_reducible exact Ext.refl _) | (with_reducible exact Keep.refl _ _) | (with_reducible exact Eq.refl _) | (intro _ he; cases he; assumption) | (intro _ he; with_reducible apply keep_cell' he; assumption; simp; done) | (intro _ he; with_reducible apply ext_cell' he; assumption; done) | (with_reducible first | exact pl_int _ _ | exact pl_byte _ | exact pl_u32 _ | exact pl_bool _ | exact pl_ptr _ | exact pl_slice _ _ _ | exact pl_map _ | exact pl_str _ | exact pl_func _ _ _) | ((rw [okW_setH]; repeat rw [okW_setH]); assumption) | ((with_reducible refine cellH_setH_same ?_ _); (repeat rw [okW_setH]); assumption) | ((rw [cellH_setH_off]; rotate_left; focus decide); (repeat (rw [cellH_setH_off]; rotate_left; focus decide)); first | assumption | ((with_reducible refine cellH_setH_same ?_ _); (repeat rw [okW_setH]); assumption)) | omega) only [↓hpR, ↓nilC_ptr, ↓nilC_func, ↓condP_true, ↓condP_false, ↓condP_bool, ↓guardP_true, ↓guardP_false, ↓guardP_bool_t, ↓guardP_bool_f, ↓skipP_undef, ↓pickP_bool, ↓b_add, ↓b_sub, ↓b_mul, ↓b_quo, ↓b_rem, ↓b_lss, ↓b_leq, ↓b_gtr, ↓b_geq, ↓b_eql, ↓b_neq, ↓u_not, ↓s_add, ↓s_eql, ↓s_neq, ↓i_max2, ↓i_min2, ↓x20, ↓x21, ↓x30, ↓x31, ↓x32, ↓q_b_add, ↓q_b_sub, ↓q_b_mul, ↓q_b_quo, ↓q_b_rem, ↓q_b_lss, ↓q_b_leq, ↓q_b_gtr, ↓q_b_geq, ↓q_b_eql, ↓q_b_neq, ↓q_u_not, ↓q_s_add, ↓q_s_eql, ↓q_s_neq, ↓q_i_max2, ↓q_i_min2, ↓q_x20, ↓q_x21, ↓q_x30, ↓q_x31, ↓q_x32, ↓m_box, decide_true, decide_false, tt_and, ff_and, Nat.zero_add, Int.toNat_natCast, cells_agg, cells_bool, cells_int, cells_str, cells_ptr, cells_slice, ↓qend_eq, ↓jump_none, ↓jump_ret, ↓jump_exit, ↓marks_one, cond_true, cond_false, Bool.not_true, Bool.not_false]
      have hP5 := hP4.err (.int .i64 0)
      obtain ⟨q1, q2, q3⟩ := hP5.shut
      refine ⟨hP5.d, ?_⟩
      simp (disch := first | assumption | (with_reducible exact Ext.refl _) | (with_reducible exact Keep.refl _ _) | (with_reducible exact Eq.refl _) | (intro _ he; cases he; assumption) | (intro _ he; with_reducible apply keep_cell' he; assumption; simp; done) | (intro _ he; with_reducible apply ext_cell' he; assumption; done) | (with_reducible first | exact pl_int _ _ | exact pl_byte _ | exact pl_u32 _ | exact pl_bool _ | exact pl_ptr _ | exact pl_slice _ _ _ | exact pl_map _ | exact pl_str _ | exact pl_func _ _ _) | ((rw [okW_setH]; repeat rw [okW_setH]); assumption) | ((with_reducible refine cellH_setH_same ?_ _); (repeat rw [okW_setH]); assumption) | ((rw [cellH_setH_off]; rotate_left; focus decide); (repeat (rw [cellH_setH_off]; rotate_left; focus decide)); first | assumption | ((with_reducible refine cellH_setH_same ?_ _); (repeat rw [okW_setH]); assumption)) | omega) only [↓hpR, ↓nilC_ptr, ↓nilC_func, ↓condP_true, ↓condP_false, ↓condP_bool, ↓guardP_true, ↓guardP_false, ↓guardP_bool_t, ↓guardP_bool_f, ↓skipP_undef, ↓pickP_bool, ↓b_add, ↓b_sub, ↓b_mul, ↓b_quo, ↓b_rem, ↓b_lss, ↓b_leq, ↓b_gtr, ↓b_geq, ↓b_eql, ↓b_neq, ↓u_not, ↓s_add, ↓s_eql, ↓s_neq, ↓i_max2, ↓i_min2, ↓x20, ↓x21, ↓x30, ↓x31, ↓x32, ↓q_b_add, ↓q_b_sub, ↓q_b_mul, ↓q_b_quo, ↓q_b_rem, ↓q_b_lss, ↓q_b_leq, ↓q_b_gtr, ↓q_b_geq, ↓q_b_eql, ↓q_b_neq, ↓q_u_not, ↓q_s_add, ↓q_s_eql, ↓q_s_neq, ↓q_i_max2, ↓q_i_min2, ↓q_x20, ↓q_x21, ↓q_x30, ↓q_x31, ↓q_x32, ↓m_box, decide_true, decide_false, tt_and, ff_and, Nat.zero_add, Int.toNat_natCast, cells_agg, cells_bool, cells_int, cells_str, cells_ptr, cells_slice, ↓qend_eq, ↓jump_none, ↓jump_ret, ↓jump_exit, ↓marks_one, cond_true, cond_false, Bool.not_true, Bool.not_false]
      have hR : putN pf w all must (E - fr / 32) (fr / 32) s = (0, s1) := by
        rw [← heq, show E - i = 0 by omega]
        rfl
      rw [hR] at hk
      exact hk _ q1 q2
end Go.Proofs.Ytoefeflmcggbkaa
