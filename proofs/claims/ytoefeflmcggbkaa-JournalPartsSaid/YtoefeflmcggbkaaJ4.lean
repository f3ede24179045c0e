/- The log: the program's sum, frames, and their scan. -/
import Derived.Test.YtoefeflmcggbkaaJ3
set_option linter.unusedVariables false
set_option linter.unusedSimpArgs false
namespace Go.Proofs.Ytoefeflmcggbkaa
open Go.Hp Go.RowKit

def crcBit (s : BitVec 32) : BitVec 32 := (s >>> 1) ^^^ (3988292384#32 * (s &&& 1#32))
def crcN : Nat → BitVec 32 → BitVec 32
  | 0, s => s
  | n + 1, s => crcBit (crcN n s)
def crcByte (s : BitVec 32) (c : UInt8) : BitVec 32 := crcN 8 (s ^^^ BitVec.ofNat 32 c.toNat)
def sumL (l : List UInt8) : BitVec 32 := ~~~ (l.foldl crcByte (BitVec.allOnes 32))
def laidL (n : BitVec 32) (k : Nat) : List UInt8 := (List.range k).map fun i => UInt8.ofNat (n >>> (8 * (k - 1 - i))).toNat
def frameL (r : List UInt8) : List UInt8 := [1] ++ laidL (BitVec.ofNat 32 r.length) 2 ++ laidL (sumL r) 4 ++ r ++ [1]

theorem under3 : Try.prog.underlying 3 = some (.int .i64) := by kernel_rfl
theorem under5 : Try.prog.underlying 5 = some (.int .u8) := by kernel_rfl
theorem under9 : Try.prog.underlying 9 = some .string := by kernel_rfl
theorem under93 : Try.prog.underlying 93 = some (.int .u32) := by kernel_rfl
theorem cv_byte_32 {h : Heap} (c : UInt8) (K : Value → Heap → Prop) : RunV Try.prog (convert 5 93 (byteV c)) h K = K (u32 (BitVec.ofNat 32 c.toNat)) h := by
  unfold byteV; rw [conv_int under5 under93, wrap_u32_8]
theorem cv_32_byte {h : Heap} (a : BitVec 32) (K : Value → Heap → Prop) : RunV Try.prog (convert 93 5 (u32 a)) h K = K (byteV (UInt8.ofNat a.toNat)) h := by
  unfold u32; rw [conv_int under93 under5, wrap_u8_32]
theorem cv_int_32 {h : Heap} (n : Nat) (K : Value → Heap → Prop) : RunV Try.prog (convert 3 93 (.int .i64 (n : Int))) h K = K (u32 (BitVec.ofNat 32 n)) h := by
  rw [conv_int under3 under93, wrap32_ofInt]
  congr 2
theorem cv_int_byte {h : Heap} (n : Nat) (K : Value → Heap → Prop) : RunV Try.prog (convert 3 5 (.int .i64 (n : Int))) h K = K (byteV (UInt8.ofNat n)) h := by
  rw [conv_int under3 under5, wrap_u8_nat]
theorem wrap_i64_byte (c : UInt8) : IntKind.i64.wrap (c.toNat : Int) = (c.toNat : Int) := by
  rw [IntKind.wrap_i64]; have := c.toNat_lt; omega
theorem cv_byte_int {h : Heap} (c : UInt8) (K : Value → Heap → Prop) : RunV Try.prog (convert 5 3 (byteV c)) h K = K (.int .i64 (c.toNat : Int)) h := by
  unfold byteV; rw [conv_int under5 under3, wrap_i64_byte]
theorem q_cv_byte_int {C : Heap → Prop} {h0 : Heap} (hC : C h0) (c : UInt8) (K : Value → Prop) : QV Try.prog C (convert 5 3 (byteV c)) K = K (.int .i64 (c.toNat : Int)) := by
  unfold byteV; rw [q_conv_int hC under5 under3, wrap_i64_byte]

def one1 (e : TypeId) (v : Value) : Obj := .cells #[v] e (0, 0)
theorem one_cell {h : Heap} {b : Nat} {e : TypeId} {v : Value} (hb : h[b]? = some (one1 e v)) : cellH h b 0 = some v := by rw [cellH_of hb]; rfl
theorem one_ok {h : Heap} {b : Nat} {e : TypeId} {v : Value} (hb : h[b]? = some (one1 e v)) : okW h b 0 = true := okW_of hb (by simp)
theorem one_set {h : Heap} {b : Nat} {e : TypeId} {v : Value} (hb : h[b]? = some (one1 e v)) (u : Value) : (setH h b 0 u)[b]? = some (one1 e u) := by rw [setH_at hb]; rfl

theorem step_spec {h : Heap} {b : Nat} {s : BitVec 32} (hb : h[b]? = some (one1 93 (u32 s))) (c : UInt8) {K : Value → Heap → Prop}
    (hk : ∀ h', h'[b]? = some (one1 93 (u32 (crcByte s c))) → Only [b] h h' → K (.tuple #[]) h') : CallF Try.prog 53 #[byteV c, .pointer (some ⟨b, 0, none⟩)] h K := by
  apply S53
  unfold F53
  have c0 := one_cell hb
  have k0 := one_ok hb
  simp (disch := first | assumption | (with_reducible exact Ext.refl _) | (with_reducible exact Keep.refl _ _) | (with_reducible exact Eq.refl _) | (intro _ he; cases he; assumption) | (intro _ he; with_reducible apply keep_cell' he; assumption; simp; done) | (intro _ he; with_reducible apply ext_cell' he; assumption; done) | (with_reducible first | exact pl_int _ _ | exact pl_byte _ | exact pl_u32 _ | exact pl_bool _ | exact pl_ptr _ | exact pl_slice _ _ _ | exact pl_map _ | exact pl_str _ | exact pl_func _ _ _) | ((rw [okW_setH]; repeat rw [okW_setH]); assumption) | ((with_reducible refine cellH_setH_same ?_ _); (repeat rw [okW_setH]); assumption) | ((rw [cellH_setH_off]; rotate_left; focus decide); (repeat (rw [cellH_setH_off]; rotate_left; focus decide)); first | assumption | ((with_reducible refine cellH_setH_same ?_ _); (repeat rw [okW_setH]); assumption)) | omega) only [↓hpR, ↓nilC_ptr, ↓nilC_func, ↓condP_true, ↓condP_false, ↓condP_bool, ↓guardP_true, ↓guardP_false, ↓guardP_bool_t, ↓guardP_bool_f, ↓skipP_undef, ↓pickP_bool, ↓b_add, ↓b_sub, ↓b_mul, ↓b_quo, ↓b_rem, ↓b_lss, ↓b_leq, ↓b_gtr, ↓b_geq, ↓b_eql, ↓b_neq, ↓u_not, ↓s_add, ↓s_eql, ↓s_neq, ↓i_max2, ↓i_min2, ↓x20, ↓x21, ↓x30, ↓x31, ↓x32, ↓q_b_add, ↓q_b_sub, ↓q_b_mul, ↓q_b_quo, ↓q_b_rem, ↓q_b_lss, ↓q_b_leq, ↓q_b_gtr, ↓q_b_geq, ↓q_b_eql, ↓q_b_neq, ↓q_u_not, ↓q_s_add, ↓q_s_eql, ↓q_s_neq, ↓q_i_max2, ↓q_i_min2, ↓q_x20, ↓q_x21, ↓q_x30, ↓q_x31, ↓q_x32, ↓m_box, decide_true, decide_false, tt_and, ff_and, Nat.zero_add, Int.toNat_natCast, cells_agg, cells_bool, cells_int, cells_str, cells_ptr, cells_slice, ↓qend_eq, ↓jump_none, ↓jump_ret, ↓jump_exit, ↓marks_one, cond_true, cond_false, Bool.not_true, Bool.not_false, ↓cv_byte_32, ↓b32_xor]
  have hb1 := one_set hb (u32 (s ^^^ BitVec.ofNat 32 c.toNat))
  refine ⟨fun x h' => ∃ i : Nat, x = .int .i64 (i : Int) ∧ i ≤ 8 ∧ h'[b]? = some (one1 93 (u32 (crcN i (s ^^^ BitVec.ofNat 32 c.toNat)))) ∧ Only [b] h h', fun x h' => match x with | .int _ i => 8 - i.toNat | _ => 0, ?_, ?_⟩
  · exact ⟨0, rfl, by omega, hb1, setH_only (Only.refl _ _) (.inl (by simp)) _ _⟩
  · rintro js x h1 ⟨i, rfl, hi, hb2, ho⟩
    have c0 := one_cell hb2
    have k0 := one_ok hb2
    simp only [u32_lit 1 (by decide) (by decide), u32_lit 3988292384 (by decide) (by decide)]
    simp (disch := first | assumption | (with_reducible exact Ext.refl _) | (with_reducible exact Keep.refl _ _) | (with_reducible exact Eq.refl _) | (intro _ he; cases he; assumption) | (intro _ he; with_reducible apply keep_cell' he; assumption; simp; done) | (intro _ he; with_reducible apply ext_cell' he; assumption; done) | (with_reducible first | exact pl_int _ _ | exact pl_byte _ | exact pl_u32 _ | exact pl_bool _ | exact pl_ptr _ | exact pl_slice _ _ _ | exact pl_map _ | exact pl_str _ | exact pl_func _ _ _) | ((rw [okW_setH]; repeat rw [okW_setH]); assumption) | ((with_reducible refine cellH_setH_same ?_ _); (repeat rw [okW_setH]); assumption) | ((rw [cellH_setH_off]; rotate_left; focus decide); (repeat (rw [cellH_setH_off]; rotate_left; focus decide)); first | assumption | ((with_reducible refine cellH_setH_same ?_ _); (repeat rw [okW_setH]); assumption)) | omega) only [↓hpR, ↓nilC_ptr, ↓nilC_func, ↓condP_true, ↓condP_false, ↓condP_bool, ↓guardP_true, ↓guardP_false, ↓guardP_bool_t, ↓guardP_bool_f, ↓skipP_undef, ↓pickP_bool, ↓b_add, ↓b_sub, ↓b_mul, ↓b_quo, ↓b_rem, ↓b_lss, ↓b_leq, ↓b_gtr, ↓b_geq, ↓b_eql, ↓b_neq, ↓u_not, ↓s_add, ↓s_eql, ↓s_neq, ↓i_max2, ↓i_min2, ↓x20, ↓x21, ↓x30, ↓x31, ↓x32, ↓q_b_add, ↓q_b_sub, ↓q_b_mul, ↓q_b_quo, ↓q_b_rem, ↓q_b_lss, ↓q_b_leq, ↓q_b_gtr, ↓q_b_geq, ↓q_b_eql, ↓q_b_neq, ↓q_u_not, ↓q_s_add, ↓q_s_eql, ↓q_s_neq, ↓q_i_max2, ↓q_i_min2, ↓q_x20, ↓q_x21, ↓q_x30, ↓q_x31, ↓q_x32, ↓m_box, decide_true, decide_false, tt_and, ff_and, Nat.zero_add, Int.toNat_natCast, cells_agg, cells_bool, cells_int, cells_str, cells_ptr, cells_slice, ↓qend_eq, ↓jump_none, ↓jump_ret, ↓jump_exit, ↓marks_one, cond_true, cond_false, Bool.not_true, Bool.not_false, ↓b32_xor, ↓b32_and, ↓b32_mul, ↓b32_shr]
    refine ⟨fun hlt => ?_, fun hge => ?_⟩
    · refine ⟨⟨i + 1, by simp, by simp at hlt; omega, ?_, setH_only ho (.inl (by simp)) _ _⟩, by simp at hlt; omega⟩
      rw [one_set hb2]
      rfl
    · have : i = 8 := by simp at hge; omega
      subst this
      exact hk h1 hb2 ho

theorem byte_fold (c : UInt8) : Value.int .u8 (c.toNat : Int) = byteV c := rfl
theorem ext_only_new {a b c : Heap} {S : List Nat} (h1 : Ext a b) (h2 : Only S b c) (hS : ∀ k ∈ S, a.size ≤ k) : Ext a c :=
  ⟨Nat.le_trans h1.size h2.size, fun k hk => (h2.block k (Nat.lt_of_lt_of_le hk h1.size) (fun hm => by have := hS k hm; omega)).trans (h1.block k hk)⟩
theorem foldl_take_succ {α β : Type} (f : β → α → β) (l : List α) (z : β) {i : Nat} {x : α} (hx : l[i]? = some x) : (l.take (i + 1)).foldl f z = f ((l.take i).foldl f z) x := by
  rw [List.take_add_one, hx]
  simp

theorem sum_spec {h : Heap} (l : List UInt8) (hl : l.length ≤ 140737488355328) {K : Value → Heap → Prop} (hk : ∀ h', Ext h h' → K (u32 (sumL l)) h') : CallF Try.prog 47 #[str l] h K := by
  apply S47
  unfold F47
  simp only [u32_lit 4294967295 (by decide) (by decide)]
  have k0 : okW (h.push (one1 93 (.int .u32 0))) h.size 0 = true := one_ok (push_new _ _)
  have e0 : h.push (.cells #[.int .u32 0] 93 (0, 0)) = h.push (one1 93 (.int .u32 0)) := rfl
  simp (disch := first | assumption | (with_reducible exact Ext.refl _) | (with_reducible exact Keep.refl _ _) | (with_reducible exact Eq.refl _) | (intro _ he; cases he; assumption) | (intro _ he; with_reducible apply keep_cell' he; assumption; simp; done) | (intro _ he; with_reducible apply ext_cell' he; assumption; done) | (with_reducible first | exact pl_int _ _ | exact pl_byte _ | exact pl_u32 _ | exact pl_bool _ | exact pl_ptr _ | exact pl_slice _ _ _ | exact pl_map _ | exact pl_str _ | exact pl_func _ _ _) | ((rw [okW_setH]; repeat rw [okW_setH]); assumption) | ((with_reducible refine cellH_setH_same ?_ _); (repeat rw [okW_setH]); assumption) | ((rw [cellH_setH_off]; rotate_left; focus decide); (repeat (rw [cellH_setH_off]; rotate_left; focus decide)); first | assumption | ((with_reducible refine cellH_setH_same ?_ _); (repeat rw [okW_setH]); assumption)) | omega) only [↓hpR, ↓nilC_ptr, ↓nilC_func, ↓condP_true, ↓condP_false, ↓condP_bool, ↓guardP_true, ↓guardP_false, ↓guardP_bool_t, ↓guardP_bool_f, ↓skipP_undef, ↓pickP_bool, ↓b_add, ↓b_sub, ↓b_mul, ↓b_quo, ↓b_rem, ↓b_lss, ↓b_leq, ↓b_gtr, ↓b_geq, ↓b_eql, ↓b_neq, ↓u_not, ↓s_add, ↓s_eql, ↓s_neq, ↓i_max2, ↓i_min2, ↓x20, ↓x21, ↓x30, ↓x31, ↓x32, ↓q_b_add, ↓q_b_sub, ↓q_b_mul, ↓q_b_quo, ↓q_b_rem, ↓q_b_lss, ↓q_b_leq, ↓q_b_gtr, ↓q_b_geq, ↓q_b_eql, ↓q_b_neq, ↓q_u_not, ↓q_s_add, ↓q_s_eql, ↓q_s_neq, ↓q_i_max2, ↓q_i_min2, ↓q_x20, ↓q_x21, ↓q_x30, ↓q_x31, ↓q_x32, ↓m_box, decide_true, decide_false, tt_and, ff_and, Nat.zero_add, Int.toNat_natCast, cells_agg, cells_bool, cells_int, cells_str, cells_ptr, cells_slice, ↓qend_eq, ↓jump_none, ↓jump_ret, ↓jump_exit, ↓marks_one, cond_true, cond_false, Bool.not_true, Bool.not_false, e0]
  refine m_bytes (u := .string) under9 Try.underlying54 under5 l ?_
  intro cap pad fr
  have hb := one_set (push_new h (one1 93 (.int .u32 0))) (u32 (BitVec.ofNat 32 (Int.toNat 4294967295)))
  have hx : Ext h (setH (h.push (one1 93 (.int .u32 0))) h.size 0 (u32 (BitVec.ofNat 32 (Int.toNat 4294967295)))) := (setH_only ((Ext.refl h).push _ |>.only []) (.inr (Nat.le_refl _)) _ _).ext
  have hz : (setH (h.push (one1 93 (.int .u32 0))) h.size 0 (u32 (BitVec.ofNat 32 (Int.toNat 4294967295)))).size = h.size + 1 := by simp [setH]
  generalize setH (h.push (one1 93 (.int .u32 0))) h.size 0 (u32 (BitVec.ofNat 32 (Int.toNat 4294967295))) = h1 at hb hx hz ⊢
  rw [hz]
  have hg : (h1.push (Obj.cells (l.map byteV ++ pad).toArray 5 fr))[h.size + 1]? = some (Obj.cells (l.map byteV ++ pad).toArray 5 fr) := by rw [← hz]; exact push_new _ _
  have hb' := push_old hb (Obj.cells (l.map byteV ++ pad).toArray 5 fr)
  have hx' := hx.push (Obj.cells (l.map byteV ++ pad).toArray 5 fr)
  generalize h1.push (Obj.cells (l.map byteV ++ pad).toArray 5 fr) = h2 at hg hb' hx' ⊢
  simp (disch := first | assumption | (with_reducible exact Ext.refl _) | (with_reducible exact Keep.refl _ _) | (with_reducible exact Eq.refl _) | (intro _ he; cases he; assumption) | (intro _ he; with_reducible apply keep_cell' he; assumption; simp; done) | (intro _ he; with_reducible apply ext_cell' he; assumption; done) | (with_reducible first | exact pl_int _ _ | exact pl_byte _ | exact pl_u32 _ | exact pl_bool _ | exact pl_ptr _ | exact pl_slice _ _ _ | exact pl_map _ | exact pl_str _ | exact pl_func _ _ _) | ((rw [okW_setH]; repeat rw [okW_setH]); assumption) | ((with_reducible refine cellH_setH_same ?_ _); (repeat rw [okW_setH]); assumption) | ((rw [cellH_setH_off]; rotate_left; focus decide); (repeat (rw [cellH_setH_off]; rotate_left; focus decide)); first | assumption | ((with_reducible refine cellH_setH_same ?_ _); (repeat rw [okW_setH]); assumption)) | omega) only [↓hpR, ↓nilC_ptr, ↓nilC_func, ↓condP_true, ↓condP_false, ↓condP_bool, ↓guardP_true, ↓guardP_false, ↓guardP_bool_t, ↓guardP_bool_f, ↓skipP_undef, ↓pickP_bool, ↓b_add, ↓b_sub, ↓b_mul, ↓b_quo, ↓b_rem, ↓b_lss, ↓b_leq, ↓b_gtr, ↓b_geq, ↓b_eql, ↓b_neq, ↓u_not, ↓s_add, ↓s_eql, ↓s_neq, ↓i_max2, ↓i_min2, ↓x20, ↓x21, ↓x30, ↓x31, ↓x32, ↓q_b_add, ↓q_b_sub, ↓q_b_mul, ↓q_b_quo, ↓q_b_rem, ↓q_b_lss, ↓q_b_leq, ↓q_b_gtr, ↓q_b_geq, ↓q_b_eql, ↓q_b_neq, ↓q_u_not, ↓q_s_add, ↓q_s_eql, ↓q_s_neq, ↓q_i_max2, ↓q_i_min2, ↓q_x20, ↓q_x21, ↓q_x30, ↓q_x31, ↓q_x32, ↓m_box, decide_true, decide_false, tt_and, ff_and, Nat.zero_add, Int.toNat_natCast, cells_agg, cells_bool, cells_int, cells_str, cells_ptr, cells_slice, ↓qend_eq, ↓jump_none, ↓jump_ret, ↓jump_exit, ↓marks_one, cond_true, cond_false, Bool.not_true, Bool.not_false]
  refine ⟨fun x h' => ∃ i : Nat, x = .int .i64 (i : Int) ∧ i ≤ l.length ∧ h'[h.size]? = some (one1 93 (u32 ((l.take i).foldl crcByte (BitVec.allOnes 32)))) ∧ h'[h.size + 1]? = some (Obj.cells (l.map byteV ++ pad).toArray 5 fr) ∧ Ext h h',
    fun x h' => match x with | .int _ i => l.length - i.toNat | _ => 0, ?_, ?_⟩
  · exact ⟨0, rfl, by omega, hb', hg, hx'⟩
  · rintro js x h3 ⟨i, rfl, hi, hb3, hg3, hx3⟩
    have c0 := one_cell hb3
    simp (disch := first | assumption | (with_reducible exact Ext.refl _) | (with_reducible exact Keep.refl _ _) | (with_reducible exact Eq.refl _) | (intro _ he; cases he; assumption) | (intro _ he; with_reducible apply keep_cell' he; assumption; simp; done) | (intro _ he; with_reducible apply ext_cell' he; assumption; done) | (with_reducible first | exact pl_int _ _ | exact pl_byte _ | exact pl_u32 _ | exact pl_bool _ | exact pl_ptr _ | exact pl_slice _ _ _ | exact pl_map _ | exact pl_str _ | exact pl_func _ _ _) | ((rw [okW_setH]; repeat rw [okW_setH]); assumption) | ((with_reducible refine cellH_setH_same ?_ _); (repeat rw [okW_setH]); assumption) | ((rw [cellH_setH_off]; rotate_left; focus decide); (repeat (rw [cellH_setH_off]; rotate_left; focus decide)); first | assumption | ((with_reducible refine cellH_setH_same ?_ _); (repeat rw [okW_setH]); assumption)) | omega) only [↓hpR, ↓nilC_ptr, ↓nilC_func, ↓condP_true, ↓condP_false, ↓condP_bool, ↓guardP_true, ↓guardP_false, ↓guardP_bool_t, ↓guardP_bool_f, ↓skipP_undef, ↓pickP_bool, ↓b_add, ↓b_sub, ↓b_mul, ↓b_quo, ↓b_rem, ↓b_lss, ↓b_leq, ↓b_gtr, ↓b_geq, ↓b_eql, ↓b_neq, ↓u_not, ↓s_add, ↓s_eql, ↓s_neq, ↓i_max2, ↓i_min2, ↓x20, ↓x21, ↓x30, ↓x31, ↓x32, ↓q_b_add, ↓q_b_sub, ↓q_b_mul, ↓q_b_quo, ↓q_b_rem, ↓q_b_lss, ↓q_b_leq, ↓q_b_gtr, ↓q_b_geq, ↓q_b_eql, ↓q_b_neq, ↓q_u_not, ↓q_s_add, ↓q_s_eql, ↓q_s_neq, ↓q_i_max2, ↓q_i_min2, ↓q_x20, ↓q_x21, ↓q_x30, ↓q_x31, ↓q_x32, ↓m_box, decide_true, decide_false, tt_and, ff_and, Nat.zero_add, Int.toNat_natCast, cells_agg, cells_bool, cells_int, cells_str, cells_ptr, cells_slice, ↓qend_eq, ↓jump_none, ↓jump_ret, ↓jump_exit, ↓marks_one, cond_true, cond_false, Bool.not_true, Bool.not_false]
    refine ⟨fun hlt => ?_, fun hge => ?_⟩
    · have hlt' : i < l.length := by simpa using hlt
      obtain ⟨c, hc⟩ : ∃ c, l[i]? = some c := ⟨_, List.getElem?_eq_getElem hlt'⟩
      have c1 : cellH h3 (h.size + 1) (0 + i) = some (byteV c) := by
        rw [cellH_of hg3]; simp [List.getElem?_append, hlt', List.getElem?_eq_getElem hlt'] at hc ⊢; rw [hc]
      rw [Nat.zero_add] at c1
      simp (disch := first | assumption | (with_reducible exact Ext.refl _) | (with_reducible exact Keep.refl _ _) | (with_reducible exact Eq.refl _) | (intro _ he; cases he; assumption) | (intro _ he; with_reducible apply keep_cell' he; assumption; simp; done) | (intro _ he; with_reducible apply ext_cell' he; assumption; done) | (with_reducible first | exact pl_int _ _ | exact pl_byte _ | exact pl_u32 _ | exact pl_bool _ | exact pl_ptr _ | exact pl_slice _ _ _ | exact pl_map _ | exact pl_str _ | exact pl_func _ _ _) | ((rw [okW_setH]; repeat rw [okW_setH]); assumption) | ((with_reducible refine cellH_setH_same ?_ _); (repeat rw [okW_setH]); assumption) | ((rw [cellH_setH_off]; rotate_left; focus decide); (repeat (rw [cellH_setH_off]; rotate_left; focus decide)); first | assumption | ((with_reducible refine cellH_setH_same ?_ _); (repeat rw [okW_setH]); assumption)) | omega) only [↓hpR, ↓nilC_ptr, ↓nilC_func, ↓condP_true, ↓condP_false, ↓condP_bool, ↓guardP_true, ↓guardP_false, ↓guardP_bool_t, ↓guardP_bool_f, ↓skipP_undef, ↓pickP_bool, ↓b_add, ↓b_sub, ↓b_mul, ↓b_quo, ↓b_rem, ↓b_lss, ↓b_leq, ↓b_gtr, ↓b_geq, ↓b_eql, ↓b_neq, ↓u_not, ↓s_add, ↓s_eql, ↓s_neq, ↓i_max2, ↓i_min2, ↓x20, ↓x21, ↓x30, ↓x31, ↓x32, ↓q_b_add, ↓q_b_sub, ↓q_b_mul, ↓q_b_quo, ↓q_b_rem, ↓q_b_lss, ↓q_b_leq, ↓q_b_gtr, ↓q_b_geq, ↓q_b_eql, ↓q_b_neq, ↓q_u_not, ↓q_s_add, ↓q_s_eql, ↓q_s_neq, ↓q_i_max2, ↓q_i_min2, ↓q_x20, ↓q_x21, ↓q_x30, ↓q_x31, ↓q_x32, ↓m_box, decide_true, decide_false, tt_and, ff_and, Nat.zero_add, Int.toNat_natCast, cells_agg, cells_bool, cells_int, cells_str, cells_ptr, cells_slice, ↓qend_eq, ↓jump_none, ↓jump_ret, ↓jump_exit, ↓marks_one, cond_true, cond_false, Bool.not_true, Bool.not_false]
      refine CallV_func (step_spec hb3 c fun h4 hb4 ho4 => ?_)
      refine ⟨⟨i + 1, by simp, by omega, ?_, ho4.at hg3 (by simp), ext_only_new hx3 ho4 (by simp)⟩, by omega⟩
      rw [hb4, foldl_take_succ _ _ _ hc]
    · have : i = l.length := by simp at hge; omega
      subst this
      simp (disch := first | assumption | (with_reducible exact Ext.refl _) | (with_reducible exact Keep.refl _ _) | (with_reducible exact Eq.refl _) | (intro _ he; cases he; assumption) | (intro _ he; with_reducible apply keep_cell' he; assumption; simp; done) | (intro _ he; with_reducible apply ext_cell' he; assumption; done) | (with_reducible first | exact pl_int _ _ | exact pl_byte _ | exact pl_u32 _ | exact pl_bool _ | exact pl_ptr _ | exact pl_slice _ _ _ | exact pl_map _ | exact pl_str _ | exact pl_func _ _ _) | ((rw [okW_setH]; repeat rw [okW_setH]); assumption) | ((with_reducible refine cellH_setH_same ?_ _); (repeat rw [okW_setH]); assumption) | ((rw [cellH_setH_off]; rotate_left; focus decide); (repeat (rw [cellH_setH_off]; rotate_left; focus decide)); first | assumption | ((with_reducible refine cellH_setH_same ?_ _); (repeat rw [okW_setH]); assumption)) | omega) only [↓hpR, ↓nilC_ptr, ↓nilC_func, ↓condP_true, ↓condP_false, ↓condP_bool, ↓guardP_true, ↓guardP_false, ↓guardP_bool_t, ↓guardP_bool_f, ↓skipP_undef, ↓pickP_bool, ↓b_add, ↓b_sub, ↓b_mul, ↓b_quo, ↓b_rem, ↓b_lss, ↓b_leq, ↓b_gtr, ↓b_geq, ↓b_eql, ↓b_neq, ↓u_not, ↓s_add, ↓s_eql, ↓s_neq, ↓i_max2, ↓i_min2, ↓x20, ↓x21, ↓x30, ↓x31, ↓x32, ↓q_b_add, ↓q_b_sub, ↓q_b_mul, ↓q_b_quo, ↓q_b_rem, ↓q_b_lss, ↓q_b_leq, ↓q_b_gtr, ↓q_b_geq, ↓q_b_eql, ↓q_b_neq, ↓q_u_not, ↓q_s_add, ↓q_s_eql, ↓q_s_neq, ↓q_i_max2, ↓q_i_min2, ↓q_x20, ↓q_x21, ↓q_x30, ↓q_x31, ↓q_x32, ↓m_box, decide_true, decide_false, tt_and, ff_and, Nat.zero_add, Int.toNat_natCast, cells_agg, cells_bool, cells_int, cells_str, cells_ptr, cells_slice, ↓qend_eq, ↓jump_none, ↓jump_ret, ↓jump_exit, ↓marks_one, cond_true, cond_false, Bool.not_true, Bool.not_false, ↓u32_not]
      rw [List.take_length]
      exact hk h3 hx3

theorem laidL_length (n : BitVec 32) (k : Nat) : (laidL n k).length = k := by simp [laidL]
theorem laid_spec {h : Heap} (n : BitVec 32) (k : Nat) (hk8 : k ≤ 8) {K : Value → Heap → Prop} (hk : ∀ h', Ext h h' → K (str (laidL n k)) h') : CallF Try.prog 46 #[u32 n, .int .i64 (k : Int)] h K := by
  apply S46
  unfold F46
  simp (disch := first | assumption | (with_reducible exact Ext.refl _) | (with_reducible exact Keep.refl _ _) | (with_reducible exact Eq.refl _) | (intro _ he; cases he; assumption) | (intro _ he; with_reducible apply keep_cell' he; assumption; simp; done) | (intro _ he; with_reducible apply ext_cell' he; assumption; done) | (with_reducible first | exact pl_int _ _ | exact pl_byte _ | exact pl_u32 _ | exact pl_bool _ | exact pl_ptr _ | exact pl_slice _ _ _ | exact pl_map _ | exact pl_str _ | exact pl_func _ _ _) | ((rw [okW_setH]; repeat rw [okW_setH]); assumption) | ((with_reducible refine cellH_setH_same ?_ _); (repeat rw [okW_setH]); assumption) | ((rw [cellH_setH_off]; rotate_left; focus decide); (repeat (rw [cellH_setH_off]; rotate_left; focus decide)); first | assumption | ((with_reducible refine cellH_setH_same ?_ _); (repeat rw [okW_setH]); assumption)) | omega) only [↓hpR, ↓nilC_ptr, ↓nilC_func, ↓condP_true, ↓condP_false, ↓condP_bool, ↓guardP_true, ↓guardP_false, ↓guardP_bool_t, ↓guardP_bool_f, ↓skipP_undef, ↓pickP_bool, ↓b_add, ↓b_sub, ↓b_mul, ↓b_quo, ↓b_rem, ↓b_lss, ↓b_leq, ↓b_gtr, ↓b_geq, ↓b_eql, ↓b_neq, ↓u_not, ↓s_add, ↓s_eql, ↓s_neq, ↓i_max2, ↓i_min2, ↓x20, ↓x21, ↓x30, ↓x31, ↓x32, ↓q_b_add, ↓q_b_sub, ↓q_b_mul, ↓q_b_quo, ↓q_b_rem, ↓q_b_lss, ↓q_b_leq, ↓q_b_gtr, ↓q_b_geq, ↓q_b_eql, ↓q_b_neq, ↓q_u_not, ↓q_s_add, ↓q_s_eql, ↓q_s_neq, ↓q_i_max2, ↓q_i_min2, ↓q_x20, ↓q_x21, ↓q_x30, ↓q_x31, ↓q_x32, ↓m_box, decide_true, decide_false, tt_and, ff_and, Nat.zero_add, Int.toNat_natCast, cells_agg, cells_bool, cells_int, cells_str, cells_ptr, cells_slice, ↓qend_eq, ↓jump_none, ↓jump_ret, ↓jump_exit, ↓marks_one, cond_true, cond_false, Bool.not_true, Bool.not_false]
  rw [rowOf_one, Nat.mul_one]
  refine ⟨fun x h' => ∃ i : Nat, x = .int .i64 (i : Int) ∧ i ≤ k ∧ h'[h.size]? = some (Obj.cells (((laidL n k).take i).map byteV ++ List.replicate (k - i) (Value.int .u8 0)).toArray 5 (0, 0)) ∧ Ext h h',
    fun x h' => match x with | .int _ i => k - i.toNat | _ => 0, ?_, ?_⟩
  · refine ⟨0, rfl, by omega, ?_, (Ext.refl h).push _⟩
    rw [push_new]
    simp
  · rintro js x h1 ⟨i, rfl, hi, hg, hx⟩
    simp (disch := first | assumption | (with_reducible exact Ext.refl _) | (with_reducible exact Keep.refl _ _) | (with_reducible exact Eq.refl _) | (intro _ he; cases he; assumption) | (intro _ he; with_reducible apply keep_cell' he; assumption; simp; done) | (intro _ he; with_reducible apply ext_cell' he; assumption; done) | (with_reducible first | exact pl_int _ _ | exact pl_byte _ | exact pl_u32 _ | exact pl_bool _ | exact pl_ptr _ | exact pl_slice _ _ _ | exact pl_map _ | exact pl_str _ | exact pl_func _ _ _) | ((rw [okW_setH]; repeat rw [okW_setH]); assumption) | ((with_reducible refine cellH_setH_same ?_ _); (repeat rw [okW_setH]); assumption) | ((rw [cellH_setH_off]; rotate_left; focus decide); (repeat (rw [cellH_setH_off]; rotate_left; focus decide)); first | assumption | ((with_reducible refine cellH_setH_same ?_ _); (repeat rw [okW_setH]); assumption)) | omega) only [↓hpR, ↓nilC_ptr, ↓nilC_func, ↓condP_true, ↓condP_false, ↓condP_bool, ↓guardP_true, ↓guardP_false, ↓guardP_bool_t, ↓guardP_bool_f, ↓skipP_undef, ↓pickP_bool, ↓b_add, ↓b_sub, ↓b_mul, ↓b_quo, ↓b_rem, ↓b_lss, ↓b_leq, ↓b_gtr, ↓b_geq, ↓b_eql, ↓b_neq, ↓u_not, ↓s_add, ↓s_eql, ↓s_neq, ↓i_max2, ↓i_min2, ↓x20, ↓x21, ↓x30, ↓x31, ↓x32, ↓q_b_add, ↓q_b_sub, ↓q_b_mul, ↓q_b_quo, ↓q_b_rem, ↓q_b_lss, ↓q_b_leq, ↓q_b_gtr, ↓q_b_geq, ↓q_b_eql, ↓q_b_neq, ↓q_u_not, ↓q_s_add, ↓q_s_eql, ↓q_s_neq, ↓q_i_max2, ↓q_i_min2, ↓q_x20, ↓q_x21, ↓q_x30, ↓q_x31, ↓q_x32, ↓m_box, decide_true, decide_false, tt_and, ff_and, Nat.zero_add, Int.toNat_natCast, cells_agg, cells_bool, cells_int, cells_str, cells_ptr, cells_slice, ↓qend_eq, ↓jump_none, ↓jump_ret, ↓jump_exit, ↓marks_one, cond_true, cond_false, Bool.not_true, Bool.not_false]
    refine ⟨fun hlt => ?_, fun hge => ?_⟩
    · have hlt' : i < k := by simpa using hlt
      have w0 : okW h1 h.size i = true := okW_of hg (by simp [laidL_length]; omega)
      simp (disch := first | assumption | (with_reducible exact Ext.refl _) | (with_reducible exact Keep.refl _ _) | (with_reducible exact Eq.refl _) | (intro _ he; cases he; assumption) | (intro _ he; with_reducible apply keep_cell' he; assumption; simp; done) | (intro _ he; with_reducible apply ext_cell' he; assumption; done) | (with_reducible first | exact pl_int _ _ | exact pl_byte _ | exact pl_u32 _ | exact pl_bool _ | exact pl_ptr _ | exact pl_slice _ _ _ | exact pl_map _ | exact pl_str _ | exact pl_func _ _ _) | ((rw [okW_setH]; repeat rw [okW_setH]); assumption) | ((with_reducible refine cellH_setH_same ?_ _); (repeat rw [okW_setH]); assumption) | ((rw [cellH_setH_off]; rotate_left; focus decide); (repeat (rw [cellH_setH_off]; rotate_left; focus decide)); first | assumption | ((with_reducible refine cellH_setH_same ?_ _); (repeat rw [okW_setH]); assumption)) | omega) only [↓hpR, ↓nilC_ptr, ↓nilC_func, ↓condP_true, ↓condP_false, ↓condP_bool, ↓guardP_true, ↓guardP_false, ↓guardP_bool_t, ↓guardP_bool_f, ↓skipP_undef, ↓pickP_bool, ↓b_add, ↓b_sub, ↓b_mul, ↓b_quo, ↓b_rem, ↓b_lss, ↓b_leq, ↓b_gtr, ↓b_geq, ↓b_eql, ↓b_neq, ↓u_not, ↓s_add, ↓s_eql, ↓s_neq, ↓i_max2, ↓i_min2, ↓x20, ↓x21, ↓x30, ↓x31, ↓x32, ↓q_b_add, ↓q_b_sub, ↓q_b_mul, ↓q_b_quo, ↓q_b_rem, ↓q_b_lss, ↓q_b_leq, ↓q_b_gtr, ↓q_b_geq, ↓q_b_eql, ↓q_b_neq, ↓q_u_not, ↓q_s_add, ↓q_s_eql, ↓q_s_neq, ↓q_i_max2, ↓q_i_min2, ↓q_x20, ↓q_x21, ↓q_x30, ↓q_x31, ↓q_x32, ↓m_box, decide_true, decide_false, tt_and, ff_and, Nat.zero_add, Int.toNat_natCast, cells_agg, cells_bool, cells_int, cells_str, cells_ptr, cells_slice, ↓qend_eq, ↓jump_none, ↓jump_ret, ↓jump_exit, ↓marks_one, cond_true, cond_false, Bool.not_true, Bool.not_false, ↓b32_shr, ↓cv_32_byte]
      have e : (8 * ((k : Int) - 1 - (i : Int))).toNat = 8 * (k - 1 - i) := by omega
      refine ⟨⟨i + 1, by simp, by omega, ?_, (setH_only (hx.only []) (.inr (Nat.le_refl _)) _ _).ext⟩, by omega⟩
      rw [setH_at hg, e]
      congr 2
      apply Array.ext'
      have hli : (laidL n k)[i]? = some (UInt8.ofNat (n >>> (8 * (k - 1 - i))).toNat) := by simp [laidL, hlt']
      rw [List.take_add_one, hli]
      have hr : List.replicate (k - i) (Value.int .u8 0) = Value.int .u8 0 :: List.replicate (k - (i + 1)) (Value.int .u8 0) := by
        rw [← List.replicate_succ]; congr 1; omega
      rw [hr]
      simp [List.set_append, laidL_length, Nat.min_eq_left hi]
    · have : i = k := by simp at hge; omega
      subst this
      rw [m_string Try.underlying54 under9 under5 (laidL n i) (laidL_length n i) _ (fun j c hc => by
        rw [cellH_of hg, Nat.zero_add]
        have hj : j < i := by
          rcases Nat.lt_or_ge j (laidL n i).length with h' | h'
          · rwa [laidL_length] at h'
          · rw [List.getElem?_eq_none h'] at hc; cases hc
        simp [List.take_of_length_le (Nat.le_of_eq (laidL_length n i)), hc])]
      exact hk h1 hx
theorem frameL_length (r : List UInt8) : (frameL r).length = r.length + 8 := by simp [frameL, laidL_length]; omega
def frameE (r : List UInt8) : Int := if r.length < 1 ∨ 400 < r.length then 3 else 0
theorem frame_spec {h : Heap} (r : List UInt8) (hr : r.length ≤ 140737488355328) {K : Value → Heap → Prop} (hk : ∀ h', Ext h h' → K (.tuple #[str (if frameE r = 0 then frameL r else []), .int .i64 (frameE r)]) h') : CallF Try.prog 31 #[str r] h K := by
  apply S31
  unfold F31
  have es : (Value.string { data := #[] }) = str [] := rfl
  rw [es]
  simp (disch := first | assumption | (with_reducible exact Ext.refl _) | (with_reducible exact Keep.refl _ _) | (with_reducible exact Eq.refl _) | (intro _ he; cases he; assumption) | (intro _ he; with_reducible apply keep_cell' he; assumption; simp; done) | (intro _ he; with_reducible apply ext_cell' he; assumption; done) | (with_reducible first | exact pl_int _ _ | exact pl_byte _ | exact pl_u32 _ | exact pl_bool _ | exact pl_ptr _ | exact pl_slice _ _ _ | exact pl_map _ | exact pl_str _ | exact pl_func _ _ _) | ((rw [okW_setH]; repeat rw [okW_setH]); assumption) | ((with_reducible refine cellH_setH_same ?_ _); (repeat rw [okW_setH]); assumption) | ((rw [cellH_setH_off]; rotate_left; focus decide); (repeat (rw [cellH_setH_off]; rotate_left; focus decide)); first | assumption | ((with_reducible refine cellH_setH_same ?_ _); (repeat rw [okW_setH]); assumption)) | omega) only [↓hpR, ↓nilC_ptr, ↓nilC_func, ↓condP_true, ↓condP_false, ↓condP_bool, ↓guardP_true, ↓guardP_false, ↓guardP_bool_t, ↓guardP_bool_f, ↓skipP_undef, ↓pickP_bool, ↓b_add, ↓b_sub, ↓b_mul, ↓b_quo, ↓b_rem, ↓b_lss, ↓b_leq, ↓b_gtr, ↓b_geq, ↓b_eql, ↓b_neq, ↓u_not, ↓s_add, ↓s_eql, ↓s_neq, ↓i_max2, ↓i_min2, ↓x20, ↓x21, ↓x30, ↓x31, ↓x32, ↓q_b_add, ↓q_b_sub, ↓q_b_mul, ↓q_b_quo, ↓q_b_rem, ↓q_b_lss, ↓q_b_leq, ↓q_b_gtr, ↓q_b_geq, ↓q_b_eql, ↓q_b_neq, ↓q_u_not, ↓q_s_add, ↓q_s_eql, ↓q_s_neq, ↓q_i_max2, ↓q_i_min2, ↓q_x20, ↓q_x21, ↓q_x30, ↓q_x31, ↓q_x32, ↓m_box, decide_true, decide_false, tt_and, ff_and, Nat.zero_add, Int.toNat_natCast, cells_agg, cells_bool, cells_int, cells_str, cells_ptr, cells_slice, ↓qend_eq, ↓jump_none, ↓jump_ret, ↓jump_exit, ↓marks_one, cond_true, cond_false, Bool.not_true, Bool.not_false, Join1]
  have bad : (r = [] ∨ 400 < r.length) → frameE r = 3 := by
    intro hb
    unfold frameE
    rw [if_pos]
    rcases hb with rfl | hb
    · left; simp
    · right; exact hb
  refine ⟨fun he => ?_, fun he => ⟨fun hb => ?_, fun hb => ?_⟩⟩
  · have := bad (.inl (by simpa using he))
    have h2 := hk h (Ext.refl h)
    rw [this] at h2
    exact h2
  · have := bad (.inr (by simp at hb; omega))
    have h2 := hk h (Ext.refl h)
    rw [this] at h2
    exact h2
  · have h1 : 1 ≤ r.length := by
      rcases Nat.eq_zero_or_pos r.length with h0 | h0
      · rw [List.length_eq_zero_iff] at h0; simp [h0] at he
      · exact h0
    have h4 : r.length ≤ 400 := by simp at hb; omega
    have e0 : frameE r = 0 := by unfold frameE; rw [if_neg (by omega)]
    rw [m_string (len := 1) Try.underlying54 under9 under5 [1] rfl _ (fun j c hc => by
      rw [cellH_push_new]
      match j with
      | 0 => simp at hc; subst hc; rfl
      | j + 1 => simp at hc)]
    simp (disch := first | assumption | (with_reducible exact Ext.refl _) | (with_reducible exact Keep.refl _ _) | (with_reducible exact Eq.refl _) | (intro _ he; cases he; assumption) | (intro _ he; with_reducible apply keep_cell' he; assumption; simp; done) | (intro _ he; with_reducible apply ext_cell' he; assumption; done) | (with_reducible first | exact pl_int _ _ | exact pl_byte _ | exact pl_u32 _ | exact pl_bool _ | exact pl_ptr _ | exact pl_slice _ _ _ | exact pl_map _ | exact pl_str _ | exact pl_func _ _ _) | ((rw [okW_setH]; repeat rw [okW_setH]); assumption) | ((with_reducible refine cellH_setH_same ?_ _); (repeat rw [okW_setH]); assumption) | ((rw [cellH_setH_off]; rotate_left; focus decide); (repeat (rw [cellH_setH_off]; rotate_left; focus decide)); first | assumption | ((with_reducible refine cellH_setH_same ?_ _); (repeat rw [okW_setH]); assumption)) | omega) only [↓hpR, ↓nilC_ptr, ↓nilC_func, ↓condP_true, ↓condP_false, ↓condP_bool, ↓guardP_true, ↓guardP_false, ↓guardP_bool_t, ↓guardP_bool_f, ↓skipP_undef, ↓pickP_bool, ↓b_add, ↓b_sub, ↓b_mul, ↓b_quo, ↓b_rem, ↓b_lss, ↓b_leq, ↓b_gtr, ↓b_geq, ↓b_eql, ↓b_neq, ↓u_not, ↓s_add, ↓s_eql, ↓s_neq, ↓i_max2, ↓i_min2, ↓x20, ↓x21, ↓x30, ↓x31, ↓x32, ↓q_b_add, ↓q_b_sub, ↓q_b_mul, ↓q_b_quo, ↓q_b_rem, ↓q_b_lss, ↓q_b_leq, ↓q_b_gtr, ↓q_b_geq, ↓q_b_eql, ↓q_b_neq, ↓q_u_not, ↓q_s_add, ↓q_s_eql, ↓q_s_neq, ↓q_i_max2, ↓q_i_min2, ↓q_x20, ↓q_x21, ↓q_x30, ↓q_x31, ↓q_x32, ↓m_box, decide_true, decide_false, tt_and, ff_and, Nat.zero_add, Int.toNat_natCast, cells_agg, cells_bool, cells_int, cells_str, cells_ptr, cells_slice, ↓qend_eq, ↓jump_none, ↓jump_ret, ↓jump_exit, ↓marks_one, cond_true, cond_false, Bool.not_true, Bool.not_false, ↓cv_int_32]
    refine laid_spec (BitVec.ofNat 32 r.length) 2 (by omega) fun h1 hx1 => ?_
    have l2 := laidL_length (BitVec.ofNat 32 r.length) 2
    have l3 : ([1] ++ laidL (BitVec.ofNat 32 r.length) 2).length = 3 := by simp [l2]
    rw [s_add _ _ _ _ _ _ (by simp [l2])]
    refine sum_spec r (by omega) fun h2 hx2 => ?_
    refine laid_spec (sumL r) 4 (by omega) fun h3 hx3 => ?_
    have l4 := laidL_length (sumL r) 4
    have l7 : ([1] ++ laidL (BitVec.ofNat 32 r.length) 2 ++ laidL (sumL r) 4).length = 7 := by simp [l2, l4]
    have l1 : ([1] : List UInt8).length = 1 := rfl
    have l8 : ([1] ++ laidL (BitVec.ofNat 32 r.length) 2 ++ laidL (sumL r) 4 ++ r).length = 7 + r.length := by rw [List.length_append, l7]
    simp (disch := first | assumption | (with_reducible exact Ext.refl _) | (with_reducible exact Keep.refl _ _) | (with_reducible exact Eq.refl _) | (intro _ he; cases he; assumption) | (intro _ he; with_reducible apply keep_cell' he; assumption; simp; done) | (intro _ he; with_reducible apply ext_cell' he; assumption; done) | (with_reducible first | exact pl_int _ _ | exact pl_byte _ | exact pl_u32 _ | exact pl_bool _ | exact pl_ptr _ | exact pl_slice _ _ _ | exact pl_map _ | exact pl_str _ | exact pl_func _ _ _) | ((rw [okW_setH]; repeat rw [okW_setH]); assumption) | ((with_reducible refine cellH_setH_same ?_ _); (repeat rw [okW_setH]); assumption) | ((rw [cellH_setH_off]; rotate_left; focus decide); (repeat (rw [cellH_setH_off]; rotate_left; focus decide)); first | assumption | ((with_reducible refine cellH_setH_same ?_ _); (repeat rw [okW_setH]); assumption)) | omega) only [↓hpR, ↓nilC_ptr, ↓nilC_func, ↓condP_true, ↓condP_false, ↓condP_bool, ↓guardP_true, ↓guardP_false, ↓guardP_bool_t, ↓guardP_bool_f, ↓skipP_undef, ↓pickP_bool, ↓b_add, ↓b_sub, ↓b_mul, ↓b_quo, ↓b_rem, ↓b_lss, ↓b_leq, ↓b_gtr, ↓b_geq, ↓b_eql, ↓b_neq, ↓u_not, ↓s_add, ↓s_eql, ↓s_neq, ↓i_max2, ↓i_min2, ↓x20, ↓x21, ↓x30, ↓x31, ↓x32, ↓q_b_add, ↓q_b_sub, ↓q_b_mul, ↓q_b_quo, ↓q_b_rem, ↓q_b_lss, ↓q_b_leq, ↓q_b_gtr, ↓q_b_geq, ↓q_b_eql, ↓q_b_neq, ↓q_u_not, ↓q_s_add, ↓q_s_eql, ↓q_s_neq, ↓q_i_max2, ↓q_i_min2, ↓q_x20, ↓q_x21, ↓q_x30, ↓q_x31, ↓q_x32, ↓m_box, decide_true, decide_false, tt_and, ff_and, Nat.zero_add, Int.toNat_natCast, cells_agg, cells_bool, cells_int, cells_str, cells_ptr, cells_slice, ↓qend_eq, ↓jump_none, ↓jump_ret, ↓jump_exit, ↓marks_one, cond_true, cond_false, Bool.not_true, Bool.not_false]
    have := hk h3 (((((Ext.refl h).push _).trans hx1).trans hx2).trans hx3)
    rw [e0, if_pos rfl] at this
    exact this
end Go.Proofs.Ytoefeflmcggbkaa
