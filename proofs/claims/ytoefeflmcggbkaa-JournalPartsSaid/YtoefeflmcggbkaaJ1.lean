/- The store, the program's. -/
import Derived.Test.YtoefeflmcggbkaaEm
import Derived.Test.YtoefeflmcggbkaaTy
import Derived.Test.YtoefeflmcggbkaaHpW
set_option linter.unusedVariables false
set_option linter.unusedSimpArgs false
namespace Go.Proofs.Ytoefeflmcggbkaa
open Go.Hp

structure Sto where
  bs : List UInt8
  n : Nat
  fuse : Int
  pre : Nat
  down : Bool
def Sto.ok (s : Sto) : Prop := s.bs.length = 32 * s.n ∧ 1 ≤ s.n ∧ s.n ≤ 256 ∧ -1 ≤ s.fuse ∧ s.fuse ≤ 9223372036854775807 ∧ s.pre ≤ 32
def stoObj (g : Nat) (s : Sto) (wr : Int) : Obj := .cells #[.slice (some ⟨g, 0, none⟩) s.n s.n, .int .i64 s.fuse, .int .i64 (s.pre : Int), .bool s.down, .int .i64 wr] 65 (0, 0)
def bytObj (bs : List UInt8) : Obj := .cells (bs.map byteV).toArray 79 (0, 0)
structure StoreAt (h : Heap) (b g : Nat) (s : Sto) : Prop where
  ok : s.ok
  ne : b ≠ g
  hd : ∃ wr : Int, h[b]? = some (stoObj g s wr)
  row : h[g]? = some (bytObj s.bs)

theorem StoreAt.only {h h' : Heap} {b g : Nat} {s : Sto} {S : List Nat} (hs : StoreAt h b g s) (ho : Only S h h') (h1 : b ∉ S) (h2 : g ∉ S) : StoreAt h' b g s :=
  ⟨hs.ok, hs.ne, hs.hd.elim fun wr hw => ⟨wr, ho.at hw h1⟩, ho.at hs.row h2⟩
theorem StoreAt.ext {h h' : Heap} {b g : Nat} {s : Sto} (hs : StoreAt h b g s) (ho : Ext h h') : StoreAt h' b g s :=
  hs.only (ho.only []) (by simp) (by simp)

def mayS (s : Sto) (i : Int) : Int := if s.down then 16 else if i < 0 ∨ s.n ≤ i then 3 else 0

theorem may_spec {h : Heap} {b g : Nat} {s : Sto} (hs : StoreAt h b g s) (i : Int) {K : Value → Heap → Prop} (hk : K (.int .i64 (mayS s i)) h) :
    CallF Try.prog 36 #[.pointer (some ⟨b, 0, none⟩), .int .i64 i] h K := by
  apply S36
  unfold F36
  obtain ⟨wr, hb⟩ := hs.hd
  have h3 : cellH h b 3 = some (.bool s.down) := by rw [stoObj] at hb; rw [cellH_of hb]; rfl
  have h0 : cellH h b 0 = some (.slice (some ⟨g, 0, none⟩) s.n s.n) := by rw [stoObj] at hb; rw [cellH_of hb]; rfl
  simp (disch := first | assumption | (with_reducible exact Ext.refl _) | (with_reducible exact Keep.refl _ _) | (with_reducible exact Eq.refl _) | (intro _ he; cases he; assumption) | (intro _ he; with_reducible apply keep_cell' he; assumption; simp; done) | (intro _ he; with_reducible apply ext_cell' he; assumption; done) | (with_reducible first | exact pl_int _ _ | exact pl_byte _ | exact pl_u32 _ | exact pl_bool _ | exact pl_ptr _ | exact pl_slice _ _ _ | exact pl_map _ | exact pl_str _ | exact pl_func _ _ _) | ((rw [okW_setH]; repeat rw [okW_setH]); assumption) | ((with_reducible refine cellH_setH_same ?_ _); (repeat rw [okW_setH]); assumption) | ((rw [cellH_setH_off]; rotate_left; focus decide); (repeat (rw [cellH_setH_off]; rotate_left; focus decide)); first | assumption | ((with_reducible refine cellH_setH_same ?_ _); (repeat rw [okW_setH]); assumption)) | omega) only [↓hpR, ↓nilC_ptr, ↓nilC_func, ↓condP_true, ↓condP_false, ↓condP_bool, ↓guardP_true, ↓guardP_false, ↓guardP_bool_t, ↓guardP_bool_f, ↓skipP_undef, ↓pickP_bool, ↓b_add, ↓b_sub, ↓b_mul, ↓b_quo, ↓b_rem, ↓b_lss, ↓b_leq, ↓b_gtr, ↓b_geq, ↓b_eql, ↓b_neq, ↓u_not, ↓s_add, ↓s_eql, ↓s_neq, ↓i_max2, ↓i_min2, ↓x20, ↓x21, ↓x30, ↓x31, ↓x32, ↓q_b_add, ↓q_b_sub, ↓q_b_mul, ↓q_b_quo, ↓q_b_rem, ↓q_b_lss, ↓q_b_leq, ↓q_b_gtr, ↓q_b_geq, ↓q_b_eql, ↓q_b_neq, ↓q_u_not, ↓q_s_add, ↓q_s_eql, ↓q_s_neq, ↓q_i_max2, ↓q_i_min2, ↓q_x20, ↓q_x21, ↓q_x30, ↓q_x31, ↓q_x32, ↓m_box, decide_true, decide_false, tt_and, ff_and, Nat.zero_add, Int.toNat_natCast, cells_agg, cells_bool, cells_int, cells_str, cells_ptr, cells_slice, ↓qend_eq, ↓jump_none, ↓jump_ret, ↓jump_exit, ↓marks_one, cond_true, cond_false, Bool.not_true, Bool.not_false, Join1]
  refine ⟨fun hd => ?_, fun hd => ⟨fun hi => ?_, fun hi => ⟨fun hj => ?_, fun hj => ?_⟩⟩⟩
  · simpa [mayS, hd] using hk
  · simp only [decide_eq_true_eq] at hi
    simpa [mayS, hd, hi] using hk
  · simp only [decide_eq_true_eq] at hj
    simpa [mayS, hd, hj] using hk
  · simp only [decide_eq_false_iff_not] at hi hj
    simpa [mayS, hd, hi, hj] using hk

theorem blocks_spec {h : Heap} {b g : Nat} {s : Sto} (hs : StoreAt h b g s) {K : Value → Heap → Prop} (hk : K (.int .i64 s.n) h) :
    CallF Try.prog 29 #[.pointer (some ⟨b, 0, none⟩)] h K := by
  apply S29
  unfold F29
  obtain ⟨wr, hb⟩ := hs.hd
  have h0 : cellH h b 0 = some (.slice (some ⟨g, 0, none⟩) s.n s.n) := by rw [stoObj] at hb; rw [cellH_of hb]; rfl
  simp (disch := first | assumption | (with_reducible exact Ext.refl _) | (with_reducible exact Keep.refl _ _) | (with_reducible exact Eq.refl _) | (intro _ he; cases he; assumption) | (intro _ he; with_reducible apply keep_cell' he; assumption; simp; done) | (intro _ he; with_reducible apply ext_cell' he; assumption; done) | (with_reducible first | exact pl_int _ _ | exact pl_byte _ | exact pl_u32 _ | exact pl_bool _ | exact pl_ptr _ | exact pl_slice _ _ _ | exact pl_map _ | exact pl_str _ | exact pl_func _ _ _) | ((rw [okW_setH]; repeat rw [okW_setH]); assumption) | ((with_reducible refine cellH_setH_same ?_ _); (repeat rw [okW_setH]); assumption) | ((rw [cellH_setH_off]; rotate_left; focus decide); (repeat (rw [cellH_setH_off]; rotate_left; focus decide)); first | assumption | ((with_reducible refine cellH_setH_same ?_ _); (repeat rw [okW_setH]); assumption)) | omega) only [↓hpR, ↓nilC_ptr, ↓nilC_func, ↓condP_true, ↓condP_false, ↓condP_bool, ↓guardP_true, ↓guardP_false, ↓guardP_bool_t, ↓guardP_bool_f, ↓skipP_undef, ↓pickP_bool, ↓b_add, ↓b_sub, ↓b_mul, ↓b_quo, ↓b_rem, ↓b_lss, ↓b_leq, ↓b_gtr, ↓b_geq, ↓b_eql, ↓b_neq, ↓u_not, ↓s_add, ↓s_eql, ↓s_neq, ↓i_max2, ↓i_min2, ↓x20, ↓x21, ↓x30, ↓x31, ↓x32, ↓q_b_add, ↓q_b_sub, ↓q_b_mul, ↓q_b_quo, ↓q_b_rem, ↓q_b_lss, ↓q_b_leq, ↓q_b_gtr, ↓q_b_geq, ↓q_b_eql, ↓q_b_neq, ↓q_u_not, ↓q_s_add, ↓q_s_eql, ↓q_s_neq, ↓q_i_max2, ↓q_i_min2, ↓q_x20, ↓q_x21, ↓q_x30, ↓q_x31, ↓q_x32, ↓m_box, decide_true, decide_false, tt_and, ff_and, Nat.zero_add, Int.toNat_natCast, cells_agg, cells_bool, cells_int, cells_str, cells_ptr, cells_slice, ↓qend_eq, ↓jump_none, ↓jump_ret, ↓jump_exit, ↓marks_one, cond_true, cond_false, Bool.not_true, Bool.not_false]
  exact hk

theorem stoW {h : Heap} {b g : Nat} {s : Sto} {wr : Int} (hb : h[b]? = some (stoObj g s wr)) : okW h b 0 = true ∧ okW h b 1 = true ∧ okW h b 2 = true ∧ okW h b 3 = true ∧ okW h b 4 = true :=
  ⟨okW_of hb (by simp), okW_of hb (by simp), okW_of hb (by simp), okW_of hb (by simp), okW_of hb (by simp)⟩
theorem stoC {h : Heap} {b g : Nat} {s : Sto} {wr : Int} (hb : h[b]? = some (stoObj g s wr)) :
    cellH h b 0 = some (.slice (some ⟨g, 0, none⟩) s.n s.n) ∧ cellH h b 1 = some (.int .i64 s.fuse) ∧ cellH h b 2 = some (.int .i64 (s.pre : Int)) ∧ cellH h b 3 = some (.bool s.down) ∧ cellH h b 4 = some (.int .i64 wr) := by
  rw [stoObj] at hb
  simp only [cellH_of hb]
  exact ⟨rfl, rfl, rfl, rfl, rfl⟩
theorem setH_at {h : Heap} {b : Nat} {c : Array Value} {e : TypeId} {f : Nat × Nat} (hb : h[b]? = some (.cells c e f)) (o : Nat) (v : Value) : (setH h b o v)[b]? = some (.cells (c.setIfInBounds o v) e f) := by
  rw [setH_of hb]; exact set_same hb _
theorem setH_other {h : Heap} {b c : Nat} {o' : Obj} (hb : h[c]? = some o') (hne : b ≠ c) (o : Nat) (v : Value) : (setH h b o v)[c]? = some o' := by
  unfold setH; rw [Array.getElem?_modify, if_neg hne]; exact hb
theorem setH_only {S : List Nat} {h h' : Heap} (ho : Only S h h') {b : Nat} (hb : b ∈ S ∨ h.size ≤ b) (o : Nat) (v : Value) : Only S h (setH h' b o v) :=
  ho.then (by simp [setH]) fun k hk hS => by
    unfold setH
    rw [Array.getElem?_modify, if_neg]
    rintro rfl
    rcases hb with hb | hb
    · exact hS hb
    · omega

theorem fuse_spec {h : Heap} {b g : Nat} {s : Sto} (hs : StoreAt h b g s) (x y : Int) (hx : -9223372036854775808 ≤ x ∧ x ≤ 9223372036854775807) {K : Value → Heap → Prop}
    (hk : ∀ h', StoreAt h' b g { s with fuse := max x (-1), pre := (max y 0).toNat % 33 } → Only [b] h h' → K (.tuple #[]) h') :
    CallF Try.prog 12 #[.pointer (some ⟨b, 0, none⟩), .int .i64 x, .int .i64 y] h K := by
  apply S12
  unfold F12
  obtain ⟨wr, hb⟩ := hs.hd
  obtain ⟨w0, w1, w2, w3, w4⟩ := stoW hb
  simp (disch := first | assumption | (with_reducible exact Ext.refl _) | (with_reducible exact Keep.refl _ _) | (with_reducible exact Eq.refl _) | (intro _ he; cases he; assumption) | (intro _ he; with_reducible apply keep_cell' he; assumption; simp; done) | (intro _ he; with_reducible apply ext_cell' he; assumption; done) | (with_reducible first | exact pl_int _ _ | exact pl_byte _ | exact pl_u32 _ | exact pl_bool _ | exact pl_ptr _ | exact pl_slice _ _ _ | exact pl_map _ | exact pl_str _ | exact pl_func _ _ _) | ((rw [okW_setH]; repeat rw [okW_setH]); assumption) | ((with_reducible refine cellH_setH_same ?_ _); (repeat rw [okW_setH]); assumption) | ((rw [cellH_setH_off]; rotate_left; focus decide); (repeat (rw [cellH_setH_off]; rotate_left; focus decide)); first | assumption | ((with_reducible refine cellH_setH_same ?_ _); (repeat rw [okW_setH]); assumption)) | omega) only [↓hpR, ↓nilC_ptr, ↓nilC_func, ↓condP_true, ↓condP_false, ↓condP_bool, ↓guardP_true, ↓guardP_false, ↓guardP_bool_t, ↓guardP_bool_f, ↓skipP_undef, ↓pickP_bool, ↓b_add, ↓b_sub, ↓b_mul, ↓b_quo, ↓b_rem, ↓b_lss, ↓b_leq, ↓b_gtr, ↓b_geq, ↓b_eql, ↓b_neq, ↓u_not, ↓s_add, ↓s_eql, ↓s_neq, ↓i_max2, ↓i_min2, ↓x20, ↓x21, ↓x30, ↓x31, ↓x32, ↓q_b_add, ↓q_b_sub, ↓q_b_mul, ↓q_b_quo, ↓q_b_rem, ↓q_b_lss, ↓q_b_leq, ↓q_b_gtr, ↓q_b_geq, ↓q_b_eql, ↓q_b_neq, ↓q_u_not, ↓q_s_add, ↓q_s_eql, ↓q_s_neq, ↓q_i_max2, ↓q_i_min2, ↓q_x20, ↓q_x21, ↓q_x30, ↓q_x31, ↓q_x32, ↓m_box, decide_true, decide_false, tt_and, ff_and, Nat.zero_add, Int.toNat_natCast, cells_agg, cells_bool, cells_int, cells_str, cells_ptr, cells_slice, ↓qend_eq, ↓jump_none, ↓jump_ret, ↓jump_exit, ↓marks_one, cond_true, cond_false, Bool.not_true, Bool.not_false]
  have e : max y 0 % 33 = (((max y 0).toNat % 33 : Nat) : Int) := by omega
  refine hk _ ⟨⟨hs.ok.1, hs.ok.2.1, hs.ok.2.2.1, by simp only; omega, by simp only; omega, by simp only; omega⟩, hs.ne, ⟨wr, ?_⟩, ?_⟩ ?_
  · rw [setH_at (setH_at hb _ _), e]; rfl
  · exact setH_other (setH_other hs.row hs.ne _ _) hs.ne _ _
  · exact setH_only (setH_only (Only.refl _ _) (.inl (by simp)) _ _) (.inl (by simp)) _ _
theorem up_spec {h : Heap} {b g : Nat} {s : Sto} (hs : StoreAt h b g s) {K : Value → Heap → Prop}
    (hk : ∀ h', StoreAt h' b g { s with fuse := -1, down := false } → Only [b] h h' → K (.tuple #[]) h') :
    CallF Try.prog 14 #[.pointer (some ⟨b, 0, none⟩)] h K := by
  apply S14
  unfold F14
  obtain ⟨wr, hb⟩ := hs.hd
  obtain ⟨w0, w1, w2, w3, w4⟩ := stoW hb
  simp (disch := first | assumption | (with_reducible exact Ext.refl _) | (with_reducible exact Keep.refl _ _) | (with_reducible exact Eq.refl _) | (intro _ he; cases he; assumption) | (intro _ he; with_reducible apply keep_cell' he; assumption; simp; done) | (intro _ he; with_reducible apply ext_cell' he; assumption; done) | (with_reducible first | exact pl_int _ _ | exact pl_byte _ | exact pl_u32 _ | exact pl_bool _ | exact pl_ptr _ | exact pl_slice _ _ _ | exact pl_map _ | exact pl_str _ | exact pl_func _ _ _) | ((rw [okW_setH]; repeat rw [okW_setH]); assumption) | ((with_reducible refine cellH_setH_same ?_ _); (repeat rw [okW_setH]); assumption) | ((rw [cellH_setH_off]; rotate_left; focus decide); (repeat (rw [cellH_setH_off]; rotate_left; focus decide)); first | assumption | ((with_reducible refine cellH_setH_same ?_ _); (repeat rw [okW_setH]); assumption)) | omega) only [↓hpR, ↓nilC_ptr, ↓nilC_func, ↓condP_true, ↓condP_false, ↓condP_bool, ↓guardP_true, ↓guardP_false, ↓guardP_bool_t, ↓guardP_bool_f, ↓skipP_undef, ↓pickP_bool, ↓b_add, ↓b_sub, ↓b_mul, ↓b_quo, ↓b_rem, ↓b_lss, ↓b_leq, ↓b_gtr, ↓b_geq, ↓b_eql, ↓b_neq, ↓u_not, ↓s_add, ↓s_eql, ↓s_neq, ↓i_max2, ↓i_min2, ↓x20, ↓x21, ↓x30, ↓x31, ↓x32, ↓q_b_add, ↓q_b_sub, ↓q_b_mul, ↓q_b_quo, ↓q_b_rem, ↓q_b_lss, ↓q_b_leq, ↓q_b_gtr, ↓q_b_geq, ↓q_b_eql, ↓q_b_neq, ↓q_u_not, ↓q_s_add, ↓q_s_eql, ↓q_s_neq, ↓q_i_max2, ↓q_i_min2, ↓q_x20, ↓q_x21, ↓q_x30, ↓q_x31, ↓q_x32, ↓m_box, decide_true, decide_false, tt_and, ff_and, Nat.zero_add, Int.toNat_natCast, cells_agg, cells_bool, cells_int, cells_str, cells_ptr, cells_slice, ↓qend_eq, ↓jump_none, ↓jump_ret, ↓jump_exit, ↓marks_one, cond_true, cond_false, Bool.not_true, Bool.not_false]
  refine hk _ ⟨⟨hs.ok.1, hs.ok.2.1, hs.ok.2.2.1, by simp, by simp, hs.ok.2.2.2.2.2⟩, hs.ne, ⟨wr, ?_⟩, ?_⟩ ?_
  · rw [setH_at (setH_at hb _ _)]; rfl
  · exact setH_other (setH_other hs.row hs.ne _ _) hs.ne _ _
  · exact setH_only (setH_only (Only.refl _ _) (.inl (by simp)) _ _) (.inl (by simp)) _ _

def blit (bs : List UInt8) (o : Nat) (d : List UInt8) : List UInt8 := bs.take o ++ d ++ bs.drop (o + d.length)
theorem blit_length {bs d : List UInt8} {o : Nat} (h : o + d.length ≤ bs.length) : (blit bs o d).length = bs.length := by simp [blit]; omega
theorem blit_obj {bs d : List UInt8} {o : Nat} (h : o + d.length ≤ bs.length) : writeAt (bs.map byteV).toArray o (d.map byteV) = ((blit bs o d).map byteV).toArray := by
  apply Array.ext'
  rw [writeAt_toList _ _ _ (by simpa using h)]
  simp [blit, List.map_take, List.map_drop]
def writeS (s : Sto) (i : Int) (d : List UInt8) : Int × Sto :=
  if mayS s i ≠ 0 then (mayS s i, s) else
  if d.length ≠ 32 then (1, s) else
  if s.fuse = 0 then (16, { s with bs := blit s.bs (32 * i.toNat) (d.take s.pre), down := true, fuse := -1 }) else
  (0, { s with bs := blit s.bs (32 * i.toNat) d, fuse := max (s.fuse - 1) (-1) })
theorem mayS_zero {s : Sto} {i : Int} (h : mayS s i = 0) : s.down = false ∧ 0 ≤ i ∧ i < s.n := by
  unfold mayS at h
  split at h
  · omega
  · rename_i hd
    split at h
    · omega
    · exact ⟨by simpa using hd, by omega, by omega⟩
theorem copy_rule {h : Heap} {t : TypeId} (hu : Try.prog.underlying 54 = some (.slice 5)) (ty : TypeId) (c : Array Bool) {g o len cap : Nat} {bs : List UInt8} (hg : h[g]? = some (bytObj bs)) (l : List UInt8) (hl : o + l.length ≤ bs.length) (hlen : l.length ≤ len) (K : Value → Heap → Prop) :
    OpN Try.prog (Go.builtin .copy #[54, t] ty c #[.slice (some ⟨g, o, none⟩) len cap, str l]) h K = K (.int .i64 (l.length : Int)) (h.setIfInBounds g (bytObj (blit bs o l))) := by
  rw [m_copyStr hu size5 t ty c hg l (by simp; omega), Nat.min_eq_left hlen, List.take_of_length_le (by omega)]
  unfold bytObj
  rw [← blit_obj hl]
  rfl

theorem b_addw {P : Program} {h : Heap} (t : TypeId) (x y : Operand) (a b : Int) (K : Value → Heap → Prop) : RunV P (binS .add t x y (.int .i64 a) (.int .i64 b)) h K = K (.int .i64 (IntKind.i64.wrap (a + b))) h :=
  RunV_pure fun w hw => by rw [binS_int]; simp only [binOp, Op.intArith, ne_eq, not_true, if_false, Sem.run_pure]
theorem write_spec {h : Heap} {b g : Nat} {s : Sto} (hs : StoreAt h b g s) (i : Int) (d : List UInt8) (hd : d.length ≤ 9223372036854775807) {K : Value → Heap → Prop}
    (hk : ∀ h', StoreAt h' b g (writeS s i d).2 → Only [b, g] h h' → K (.int .i64 (writeS s i d).1) h') :
    CallF Try.prog 16 #[.pointer (some ⟨b, 0, none⟩), .int .i64 i, str d] h K := by
  apply S16
  unfold F16
  refine may_spec hs i ?_
  obtain ⟨wr, hb⟩ := hs.hd
  obtain ⟨w0, w1, w2, w3, w4⟩ := stoW hb
  obtain ⟨c0, c1, c2, c3, c4⟩ := stoC hb
  obtain ⟨ok1, ok2, ok3, ok4, ok5, ok6⟩ := hs.ok
  simp (disch := first | assumption | (with_reducible exact Ext.refl _) | (with_reducible exact Keep.refl _ _) | (with_reducible exact Eq.refl _) | (intro _ he; cases he; assumption) | (intro _ he; with_reducible apply keep_cell' he; assumption; simp; done) | (intro _ he; with_reducible apply ext_cell' he; assumption; done) | (with_reducible first | exact pl_int _ _ | exact pl_byte _ | exact pl_u32 _ | exact pl_bool _ | exact pl_ptr _ | exact pl_slice _ _ _ | exact pl_map _ | exact pl_str _ | exact pl_func _ _ _) | ((rw [okW_setH]; repeat rw [okW_setH]); assumption) | ((with_reducible refine cellH_setH_same ?_ _); (repeat rw [okW_setH]); assumption) | ((rw [cellH_setH_off]; rotate_left; focus decide); (repeat (rw [cellH_setH_off]; rotate_left; focus decide)); first | assumption | ((with_reducible refine cellH_setH_same ?_ _); (repeat rw [okW_setH]); assumption)) | omega) only [↓hpR, ↓nilC_ptr, ↓nilC_func, ↓condP_true, ↓condP_false, ↓condP_bool, ↓guardP_true, ↓guardP_false, ↓guardP_bool_t, ↓guardP_bool_f, ↓skipP_undef, ↓pickP_bool, ↓b_add, ↓b_sub, ↓b_mul, ↓b_quo, ↓b_rem, ↓b_lss, ↓b_leq, ↓b_gtr, ↓b_geq, ↓b_eql, ↓b_neq, ↓u_not, ↓s_add, ↓s_eql, ↓s_neq, ↓i_max2, ↓i_min2, ↓x20, ↓x21, ↓x30, ↓x31, ↓x32, ↓q_b_add, ↓q_b_sub, ↓q_b_mul, ↓q_b_quo, ↓q_b_rem, ↓q_b_lss, ↓q_b_leq, ↓q_b_gtr, ↓q_b_geq, ↓q_b_eql, ↓q_b_neq, ↓q_u_not, ↓q_s_add, ↓q_s_eql, ↓q_s_neq, ↓q_i_max2, ↓q_i_min2, ↓q_x20, ↓q_x21, ↓q_x30, ↓q_x31, ↓q_x32, ↓m_box, decide_true, decide_false, tt_and, ff_and, Nat.zero_add, Int.toNat_natCast, cells_agg, cells_bool, cells_int, cells_str, cells_ptr, cells_slice, ↓qend_eq, ↓jump_none, ↓jump_ret, ↓jump_exit, ↓marks_one, cond_true, cond_false, Bool.not_true, Bool.not_false]
  refine ⟨fun hm => ?_, fun hm => ⟨fun hl => ?_, fun hl => ⟨fun hf => ?_, fun hf => ?_⟩⟩⟩
  · have hm' : mayS s i ≠ 0 := by simpa using hm
    have := hk h (by rw [writeS, if_pos hm']; exact hs) (Only.refl _ _)
    rwa [writeS, if_pos hm'] at this
  · have hm' : mayS s i = 0 := by simpa using hm
    have hl' : d.length ≠ 32 := by simp at hl; omega
    have e : writeS s i d = (1, s) := by rw [writeS, if_neg (by omega), if_pos hl']
    have := hk h (by rw [e]; exact hs) (Only.refl _ _)
    rwa [e] at this
  · have hm' : mayS s i = 0 := by simpa using hm
    have hl' : d.length = 32 := by simp at hl; omega
    have hf' : s.fuse = 0 := by simpa using hf
    obtain ⟨hdn, hi0, hi1⟩ := mayS_zero hm'
    have e : writeS s i d = (16, { s with bs := blit s.bs (32 * i.toNat) (d.take s.pre), down := true, fuse := -1 }) := by
      rw [writeS, if_neg (by omega), if_neg (by omega), if_pos hf']
    refine ⟨Keep [b] h, Keep.refl _ _, ?_⟩
    simp (disch := first | assumption | (with_reducible exact Ext.refl _) | (with_reducible exact Keep.refl _ _) | (with_reducible exact Eq.refl _) | (intro _ he; cases he; assumption) | (intro _ he; with_reducible apply keep_cell' he; assumption; simp; done) | (intro _ he; with_reducible apply ext_cell' he; assumption; done) | (with_reducible first | exact pl_int _ _ | exact pl_byte _ | exact pl_u32 _ | exact pl_bool _ | exact pl_ptr _ | exact pl_slice _ _ _ | exact pl_map _ | exact pl_str _ | exact pl_func _ _ _) | ((rw [okW_setH]; repeat rw [okW_setH]); assumption) | ((with_reducible refine cellH_setH_same ?_ _); (repeat rw [okW_setH]); assumption) | ((rw [cellH_setH_off]; rotate_left; focus decide); (repeat (rw [cellH_setH_off]; rotate_left; focus decide)); first | assumption | ((with_reducible refine cellH_setH_same ?_ _); (repeat rw [okW_setH]); assumption)) | omega) only [↓hpR, ↓nilC_ptr, ↓nilC_func, ↓condP_true, ↓condP_false, ↓condP_bool, ↓guardP_true, ↓guardP_false, ↓guardP_bool_t, ↓guardP_bool_f, ↓skipP_undef, ↓pickP_bool, ↓b_add, ↓b_sub, ↓b_mul, ↓b_quo, ↓b_rem, ↓b_lss, ↓b_leq, ↓b_gtr, ↓b_geq, ↓b_eql, ↓b_neq, ↓u_not, ↓s_add, ↓s_eql, ↓s_neq, ↓i_max2, ↓i_min2, ↓x20, ↓x21, ↓x30, ↓x31, ↓x32, ↓q_b_add, ↓q_b_sub, ↓q_b_mul, ↓q_b_quo, ↓q_b_rem, ↓q_b_lss, ↓q_b_leq, ↓q_b_gtr, ↓q_b_geq, ↓q_b_eql, ↓q_b_neq, ↓q_u_not, ↓q_s_add, ↓q_s_eql, ↓q_s_neq, ↓q_i_max2, ↓q_i_min2, ↓q_x20, ↓q_x21, ↓q_x30, ↓q_x31, ↓q_x32, ↓m_box, decide_true, decide_false, tt_and, ff_and, Nat.zero_add, Int.toNat_natCast, cells_agg, cells_bool, cells_int, cells_str, cells_ptr, cells_slice, ↓qend_eq, ↓jump_none, ↓jump_ret, ↓jump_exit, ↓marks_one, cond_true, cond_false, Bool.not_true, Bool.not_false]
    rw [copy_rule (t := 9) Try.underlying54 3 _ hs.row _ (by simp; omega) (by simp; omega)]
    have hrow : ∀ o : Obj, (h.setIfInBounds g o)[b]? = some (stoObj g s wr) := fun o => set_other hb (Ne.symm hs.ne) o
    obtain ⟨w0, w1, w2, w3, w4⟩ := stoW (hrow (bytObj (blit s.bs (i.toNat * 32) (List.take s.pre d))))
    refine ⟨fun k hk => by simp only [List.mem_singleton] at hk; subst hk; exact (hrow _).trans hb.symm, ?_⟩
    simp (disch := first | assumption | (with_reducible exact Ext.refl _) | (with_reducible exact Keep.refl _ _) | (with_reducible exact Eq.refl _) | (intro _ he; cases he; assumption) | (intro _ he; with_reducible apply keep_cell' he; assumption; simp; done) | (intro _ he; with_reducible apply ext_cell' he; assumption; done) | (with_reducible first | exact pl_int _ _ | exact pl_byte _ | exact pl_u32 _ | exact pl_bool _ | exact pl_ptr _ | exact pl_slice _ _ _ | exact pl_map _ | exact pl_str _ | exact pl_func _ _ _) | ((rw [okW_setH]; repeat rw [okW_setH]); assumption) | ((with_reducible refine cellH_setH_same ?_ _); (repeat rw [okW_setH]); assumption) | ((rw [cellH_setH_off]; rotate_left; focus decide); (repeat (rw [cellH_setH_off]; rotate_left; focus decide)); first | assumption | ((with_reducible refine cellH_setH_same ?_ _); (repeat rw [okW_setH]); assumption)) | omega) only [↓hpR, ↓nilC_ptr, ↓nilC_func, ↓condP_true, ↓condP_false, ↓condP_bool, ↓guardP_true, ↓guardP_false, ↓guardP_bool_t, ↓guardP_bool_f, ↓skipP_undef, ↓pickP_bool, ↓b_add, ↓b_sub, ↓b_mul, ↓b_quo, ↓b_rem, ↓b_lss, ↓b_leq, ↓b_gtr, ↓b_geq, ↓b_eql, ↓b_neq, ↓u_not, ↓s_add, ↓s_eql, ↓s_neq, ↓i_max2, ↓i_min2, ↓x20, ↓x21, ↓x30, ↓x31, ↓x32, ↓q_b_add, ↓q_b_sub, ↓q_b_mul, ↓q_b_quo, ↓q_b_rem, ↓q_b_lss, ↓q_b_leq, ↓q_b_gtr, ↓q_b_geq, ↓q_b_eql, ↓q_b_neq, ↓q_u_not, ↓q_s_add, ↓q_s_eql, ↓q_s_neq, ↓q_i_max2, ↓q_i_min2, ↓q_x20, ↓q_x21, ↓q_x30, ↓q_x31, ↓q_x32, ↓m_box, decide_true, decide_false, tt_and, ff_and, Nat.zero_add, Int.toNat_natCast, cells_agg, cells_bool, cells_int, cells_str, cells_ptr, cells_slice, ↓qend_eq, ↓jump_none, ↓jump_ret, ↓jump_exit, ↓marks_one, cond_true, cond_false, Bool.not_true, Bool.not_false]
    have e2 : (i.toNat * 32) = 32 * i.toNat := by omega
    rw [e2]
    have hfin := hk (setH (setH (h.setIfInBounds g (bytObj (blit s.bs (32 * i.toNat) (d.take s.pre)))) b 3 (.bool true)) b 1 (.int .i64 (-1)))
    rw [e] at hfin
    refine hfin ⟨⟨?_, ok2, ok3, by simp, by simp, ok6⟩, hs.ne, ⟨wr, ?_⟩, ?_⟩ ?_
    · rw [blit_length (by simp; omega)]; exact ok1
    · rw [setH_at (setH_at (hrow _) _ _)]; rfl
    · exact setH_other (setH_other (set_same hs.row _) hs.ne _ _) hs.ne _ _
    · exact setH_only (setH_only (Only.set (Only.refl _ _) (.inl (by simp)) _) (.inl (by simp)) _ _) (.inl (by simp)) _ _
  · have hm' : mayS s i = 0 := by simpa using hm
    have hl' : d.length = 32 := by simp at hl; omega
    have hf' : s.fuse ≠ 0 := by simpa using hf
    obtain ⟨hdn, hi0, hi1⟩ := mayS_zero hm'
    have e : writeS s i d = (0, { s with bs := blit s.bs (32 * i.toNat) d, fuse := max (s.fuse - 1) (-1) }) := by
      rw [writeS, if_neg (by omega), if_neg (by omega), if_neg hf']
    simp (disch := first | assumption | (with_reducible exact Ext.refl _) | (with_reducible exact Keep.refl _ _) | (with_reducible exact Eq.refl _) | (intro _ he; cases he; assumption) | (intro _ he; with_reducible apply keep_cell' he; assumption; simp; done) | (intro _ he; with_reducible apply ext_cell' he; assumption; done) | (with_reducible first | exact pl_int _ _ | exact pl_byte _ | exact pl_u32 _ | exact pl_bool _ | exact pl_ptr _ | exact pl_slice _ _ _ | exact pl_map _ | exact pl_str _ | exact pl_func _ _ _) | ((rw [okW_setH]; repeat rw [okW_setH]); assumption) | ((with_reducible refine cellH_setH_same ?_ _); (repeat rw [okW_setH]); assumption) | ((rw [cellH_setH_off]; rotate_left; focus decide); (repeat (rw [cellH_setH_off]; rotate_left; focus decide)); first | assumption | ((with_reducible refine cellH_setH_same ?_ _); (repeat rw [okW_setH]); assumption)) | omega) only [↓hpR, ↓nilC_ptr, ↓nilC_func, ↓condP_true, ↓condP_false, ↓condP_bool, ↓guardP_true, ↓guardP_false, ↓guardP_bool_t, ↓guardP_bool_f, ↓skipP_undef, ↓pickP_bool, ↓b_add, ↓b_sub, ↓b_mul, ↓b_quo, ↓b_rem, ↓b_lss, ↓b_leq, ↓b_gtr, ↓b_geq, ↓b_eql, ↓b_neq, ↓u_not, ↓s_add, ↓s_eql, ↓s_neq, ↓i_max2, ↓i_min2, ↓x20, ↓x21, ↓x30, ↓x31, ↓x32, ↓q_b_add, ↓q_b_sub, ↓q_b_mul, ↓q_b_quo, ↓q_b_rem, ↓q_b_lss, ↓q_b_leq, ↓q_b_gtr, ↓q_b_geq, ↓q_b_eql, ↓q_b_neq, ↓q_u_not, ↓q_s_add, ↓q_s_eql, ↓q_s_neq, ↓q_i_max2, ↓q_i_min2, ↓q_x20, ↓q_x21, ↓q_x30, ↓q_x31, ↓q_x32, ↓m_box, decide_true, decide_false, tt_and, ff_and, Nat.zero_add, Int.toNat_natCast, cells_agg, cells_bool, cells_int, cells_str, cells_ptr, cells_slice, ↓qend_eq, ↓jump_none, ↓jump_ret, ↓jump_exit, ↓marks_one, cond_true, cond_false, Bool.not_true, Bool.not_false]
    have hg' : (setH h b 1 (.int .i64 (max (s.fuse - 1) (-1))))[g]? = some (bytObj s.bs) := setH_other hs.row hs.ne _ _
    rw [copy_rule (t := 9) Try.underlying54 3 _ hg' _ (by omega) (by omega)]
    have hb2 : ∀ o : Obj, ((setH h b 1 (.int .i64 (max (s.fuse - 1) (-1)))).setIfInBounds g o)[b]? = some (stoObj g { s with fuse := max (s.fuse - 1) (-1) } wr) := fun o => set_other (by rw [setH_at hb]; rfl) (Ne.symm hs.ne) o
    obtain ⟨w0, w1, w2, w3, w4⟩ := stoW (hb2 (bytObj (blit s.bs (i.toNat * 32) d)))
    obtain ⟨c0, c1, c2, c3, c4⟩ := stoC (hb2 (bytObj (blit s.bs (i.toNat * 32) d)))
    have e2 : (i.toNat * 32) = 32 * i.toNat := by omega
    simp (disch := first | assumption | (with_reducible exact Ext.refl _) | (with_reducible exact Keep.refl _ _) | (with_reducible exact Eq.refl _) | (intro _ he; cases he; assumption) | (intro _ he; with_reducible apply keep_cell' he; assumption; simp; done) | (intro _ he; with_reducible apply ext_cell' he; assumption; done) | (with_reducible first | exact pl_int _ _ | exact pl_byte _ | exact pl_u32 _ | exact pl_bool _ | exact pl_ptr _ | exact pl_slice _ _ _ | exact pl_map _ | exact pl_str _ | exact pl_func _ _ _) | ((rw [okW_setH]; repeat rw [okW_setH]); assumption) | ((with_reducible refine cellH_setH_same ?_ _); (repeat rw [okW_setH]); assumption) | ((rw [cellH_setH_off]; rotate_left; focus decide); (repeat (rw [cellH_setH_off]; rotate_left; focus decide)); first | assumption | ((with_reducible refine cellH_setH_same ?_ _); (repeat rw [okW_setH]); assumption)) | omega) only [↓hpR, ↓nilC_ptr, ↓nilC_func, ↓condP_true, ↓condP_false, ↓condP_bool, ↓guardP_true, ↓guardP_false, ↓guardP_bool_t, ↓guardP_bool_f, ↓skipP_undef, ↓pickP_bool, ↓b_add, ↓b_sub, ↓b_mul, ↓b_quo, ↓b_rem, ↓b_lss, ↓b_leq, ↓b_gtr, ↓b_geq, ↓b_eql, ↓b_neq, ↓u_not, ↓s_add, ↓s_eql, ↓s_neq, ↓i_max2, ↓i_min2, ↓x20, ↓x21, ↓x30, ↓x31, ↓x32, ↓q_b_add, ↓q_b_sub, ↓q_b_mul, ↓q_b_quo, ↓q_b_rem, ↓q_b_lss, ↓q_b_leq, ↓q_b_gtr, ↓q_b_geq, ↓q_b_eql, ↓q_b_neq, ↓q_u_not, ↓q_s_add, ↓q_s_eql, ↓q_s_neq, ↓q_i_max2, ↓q_i_min2, ↓q_x20, ↓q_x21, ↓q_x30, ↓q_x31, ↓q_x32, ↓m_box, decide_true, decide_false, tt_and, ff_and, Nat.zero_add, Int.toNat_natCast, cells_agg, cells_bool, cells_int, cells_str, cells_ptr, cells_slice, ↓qend_eq, ↓jump_none, ↓jump_ret, ↓jump_exit, ↓marks_one, cond_true, cond_false, Bool.not_true, Bool.not_false]
    rw [b_addw]
    simp (disch := first | assumption | (with_reducible exact Ext.refl _) | (with_reducible exact Keep.refl _ _) | (with_reducible exact Eq.refl _) | (intro _ he; cases he; assumption) | (intro _ he; with_reducible apply keep_cell' he; assumption; simp; done) | (intro _ he; with_reducible apply ext_cell' he; assumption; done) | (with_reducible first | exact pl_int _ _ | exact pl_byte _ | exact pl_u32 _ | exact pl_bool _ | exact pl_ptr _ | exact pl_slice _ _ _ | exact pl_map _ | exact pl_str _ | exact pl_func _ _ _) | ((rw [okW_setH]; repeat rw [okW_setH]); assumption) | ((with_reducible refine cellH_setH_same ?_ _); (repeat rw [okW_setH]); assumption) | ((rw [cellH_setH_off]; rotate_left; focus decide); (repeat (rw [cellH_setH_off]; rotate_left; focus decide)); first | assumption | ((with_reducible refine cellH_setH_same ?_ _); (repeat rw [okW_setH]); assumption)) | omega) only [↓hpR, ↓nilC_ptr, ↓nilC_func, ↓condP_true, ↓condP_false, ↓condP_bool, ↓guardP_true, ↓guardP_false, ↓guardP_bool_t, ↓guardP_bool_f, ↓skipP_undef, ↓pickP_bool, ↓b_add, ↓b_sub, ↓b_mul, ↓b_quo, ↓b_rem, ↓b_lss, ↓b_leq, ↓b_gtr, ↓b_geq, ↓b_eql, ↓b_neq, ↓u_not, ↓s_add, ↓s_eql, ↓s_neq, ↓i_max2, ↓i_min2, ↓x20, ↓x21, ↓x30, ↓x31, ↓x32, ↓q_b_add, ↓q_b_sub, ↓q_b_mul, ↓q_b_quo, ↓q_b_rem, ↓q_b_lss, ↓q_b_leq, ↓q_b_gtr, ↓q_b_geq, ↓q_b_eql, ↓q_b_neq, ↓q_u_not, ↓q_s_add, ↓q_s_eql, ↓q_s_neq, ↓q_i_max2, ↓q_i_min2, ↓q_x20, ↓q_x21, ↓q_x30, ↓q_x31, ↓q_x32, ↓m_box, decide_true, decide_false, tt_and, ff_and, Nat.zero_add, Int.toNat_natCast, cells_agg, cells_bool, cells_int, cells_str, cells_ptr, cells_slice, ↓qend_eq, ↓jump_none, ↓jump_ret, ↓jump_exit, ↓marks_one, cond_true, cond_false, Bool.not_true, Bool.not_false]
    rw [e2]
    have hfin := hk (setH ((setH h b 1 (.int .i64 (max (s.fuse - 1) (-1)))).setIfInBounds g (bytObj (blit s.bs (32 * i.toNat) d))) b 4 (.int .i64 (IntKind.i64.wrap (wr + 1))))
    rw [e] at hfin
    refine hfin ⟨⟨?_, ok2, ok3, by show -1 ≤ max (s.fuse - 1) (-1); omega, by show max (s.fuse - 1) (-1) ≤ 9223372036854775807; omega, ok6⟩, hs.ne, ⟨IntKind.i64.wrap (wr + 1), ?_⟩, ?_⟩ ?_
    · rw [blit_length (by omega)]; exact ok1
    · rw [setH_at (hb2 _)]; rfl
    · exact setH_other (set_same hg' _) hs.ne _ _
    · exact setH_only (Only.set (setH_only (Only.refl _ _) (.inl (by simp)) _ _) (.inl (by simp)) _) (.inl (by simp)) _ _
end Go.Proofs.Ytoefeflmcggbkaa
