/- JournalParts: the walk. -/
import Derived.Test.YtoefeflmcggbkaaP2
set_option linter.unusedVariables false
set_option linter.unusedSimpArgs false
namespace Go.Proofs.Ytoefeflmcggbkaa
open Go.Hp Go.RowKit

def sumN (f : Nat → List UInt8) : Nat → Nat
  | 0 => 0
  | i + 1 => sumN f i + (f i).length
theorem sumN_le {f : Nat → List UInt8} {c : Nat} (hf : ∀ i, (f i).length ≤ c) : ∀ n, sumN f n ≤ n * c
  | 0 => by simp [sumN]
  | n + 1 => by
    have := sumN_le hf n
    have := hf n
    simp only [sumN, Nat.succ_mul]
    omega
theorem le_sumN {f : Nat → List UInt8} : ∀ {n i : Nat}, i < n → (f i).length ≤ sumN f n
  | n + 1, i, h => by
    simp only [sumN]
    by_cases e : i = n
    · subst e; omega
    · have := le_sumN (f := f) (show i < n by omega)
      omega
theorem wrap_add (a b : Int) : IntKind.i64.wrap (IntKind.i64.wrap a + b) = IntKind.i64.wrap (a + b) := by
  simp only [IntKind.wrap_i64]
  omega
theorem wrap_id {a : Int} (h1 : -9223372036854775808 ≤ a) (h2 : a ≤ 9223372036854775807) : IntKind.i64.wrap a = a := by
  simp only [IntKind.wrap_i64]
  omega
theorem arr_store {h : Heap} {t : TypeId} (hs : (Try.prog.info? t).map (·.size) = some 3) {c : Nat} {z0 z1 z2 v0 v1 v2 : Value} {e : TypeId} (ho : h[c]? = some (.cells #[z0, z1, z2] e (0, 0))) (h0 : plainV v0 = true) (h1 : plainV v1 = true) (h2 : plainV v2 = true) (K : Heap → Prop) :
    RunU Try.prog (Instr.storeAt t (.pointer (some ⟨c, 0, none⟩)) (.agg #[v0, v1, v2])) h K = K (h.setIfInBounds c (.cells #[v0, v1, v2] e (0, 0))) := by
  rw [m_storeAgg hs ho rfl (by simp) (by simp [h0, h1, h2])]
  have e' : writeAt #[z0, z1, z2] 0 (#[v0, v1, v2] : Array Value).toList = #[v0, v1, v2] := by
    apply Array.ext'
    rw [writeAt_toList _ _ _ (by simp)]
    simp
  rw [e']
theorem keep_of {S T : List Nat} {h h' : Heap} (o : Only S h h') (h1 : ∀ k ∈ T, k < h.size) (h2 : ∀ k ∈ T, k ∉ S) : Keep T h h' := fun k hk => o.block k (h1 k hk) (h2 k hk)
theorem cellH_lt {h : Heap} {b o : Nat} {v : Value} (hc : cellH h b o = some v) : b < h.size := by
  unfold cellH at hc
  split at hc
  · rename_i hb
    exact lt_of_at hb
  · cases hc
theorem want_step {h0 h9 : Heap} {col : Nat → Nat} {b g c15 c16 c17 c18 : Nat} {F M : Nat → Nat} {s : Sto} {m : Nat} {jb : Nat → Nat} {vj wv : Nat → Value} {j : Nat → Jr} {L : Nat → List (List UInt8)} (J : JS h0 h9 col b g c15 c16 c17 c18 F M s m jb vj wv j L)
    {k : Nat} (hk : k < 3) (r : List UInt8) (hl : (L k).length ≤ 10000) {ab : Nat} (hab : ab < h0.size) {N : Heap → Prop} (hN : ∀ h' col wv, JS h0 h' col b g c15 c16 c17 c18 F M s m jb vj wv j (upN L k (L k ++ [r])) → N h') :
    OpN Try.prog (Go.builtin .append #[32, 32] 32 #[false, false] #[wv k, .slice (some ⟨h9.size, 0, none⟩) 1 1]) (h9.push (.cells #[str r] 9 (0, 0))) fun v h1 => Keep [ab] h9 h1 ∧ RunU Try.prog (Instr.storeAt 32 (.pointer (some ⟨c18, k, none⟩)) v) h1 fun h2 => Keep [ab] h9 h2 ∧ N h2 := by
  have x1 := (Ext.refl h9).push (.cells #[str r] 9 (0, 0))
  have hz9 := J.ext.size
  have hz1 : (h9.push (Obj.cells #[str r] 9 (0, 0))).size = h9.size + 1 := by simp
  have hcol := J.old ab hab
  have J1 := J.ext' x1
  refine o_append Try.underlying32 (z := .string .empty) (size := 1) (bytes := 16) (e := 9) (by kernel_rfl) rfl (by omega) _ _ (J1.ws k hk) (m := 1) (news := [str r]) rfl
    (fun i u hi => by rw [Nat.zero_add, cellH_push_new]; simpa using hi) (fun u hu => by simp only [List.mem_singleton] at hu; subst hu; rfl) (by omega) (by omega) (by omega) ?_
  intro v' h2 own o _ hb
  have hb' : ∀ x ∈ blk v', x ∈ blk (wv k) ∨ h9.size ≤ x := fun x hx => by
    rcases hb x hx with e | e
    · exact .inl e
    · right; omega
  have own' : Own h2 0 9 1 v' (L k ++ [r]).length (strs (L k ++ [r])) := by simpa [strs] using own
  have K1 : Keep [ab] h9 h2 := fun x hx => by
    simp only [List.mem_singleton] at hx
    subst hx
    rw [o.block _ (by omega) (fun hm => by have := J.cw k hk _ hm; omega), x1.block _ (by omega)]
  refine ⟨K1, ?_⟩
  have o18 := o.at J1.o18 (fun hm => by have := J1.cw k hk _ hm; have := J1.c8; omega)
  have w18 := arr3_ok o18 hk
  have hpl := own.plain
  simp (disch := first | assumption | (with_reducible exact Ext.refl _) | (with_reducible exact Keep.refl _ _) | (with_reducible exact Eq.refl _) | (intro _ he; cases he; assumption) | (intro _ he; with_reducible apply keep_cell' he; assumption; simp; done) | (intro _ he; with_reducible apply ext_cell' he; assumption; done) | (with_reducible first | exact pl_int _ _ | exact pl_byte _ | exact pl_u32 _ | exact pl_bool _ | exact pl_ptr _ | exact pl_slice _ _ _ | exact pl_map _ | exact pl_str _ | exact pl_func _ _ _) | ((rw [okW_setH]; repeat rw [okW_setH]); assumption) | ((with_reducible refine cellH_setH_same ?_ _); (repeat rw [okW_setH]); assumption) | ((rw [cellH_setH_off]; rotate_left; focus decide); (repeat (rw [cellH_setH_off]; rotate_left; focus decide)); first | assumption | ((with_reducible refine cellH_setH_same ?_ _); (repeat rw [okW_setH]); assumption)) | omega) only [↓hpR, ↓nilC_ptr, ↓nilC_func, ↓condP_true, ↓condP_false, ↓condP_bool, ↓guardP_true, ↓guardP_false, ↓guardP_bool_t, ↓guardP_bool_f, ↓skipP_undef, ↓pickP_bool, ↓b_add, ↓b_sub, ↓b_mul, ↓b_quo, ↓b_rem, ↓b_lss, ↓b_leq, ↓b_gtr, ↓b_geq, ↓b_eql, ↓b_neq, ↓u_not, ↓s_add, ↓s_eql, ↓s_neq, ↓i_max2, ↓i_min2, ↓x20, ↓x21, ↓x30, ↓x31, ↓x32, ↓q_b_add, ↓q_b_sub, ↓q_b_mul, ↓q_b_quo, ↓q_b_rem, ↓q_b_lss, ↓q_b_leq, ↓q_b_gtr, ↓q_b_geq, ↓q_b_eql, ↓q_b_neq, ↓q_u_not, ↓q_s_add, ↓q_s_eql, ↓q_s_neq, ↓q_i_max2, ↓q_i_min2, ↓q_x20, ↓q_x21, ↓q_x30, ↓q_x31, ↓q_x32, ↓m_box, decide_true, decide_false, tt_and, ff_and, Nat.zero_add, Int.toNat_natCast, cells_agg, cells_bool, cells_int, cells_str, cells_ptr, cells_slice, ↓qend_eq, ↓jump_none, ↓jump_ret, ↓jump_exit, ↓marks_one, cond_true, cond_false, Bool.not_true, Bool.not_false]
  refine ⟨fun x hx => ?_, hN _ _ _ (J.want hk x1 o own' hb')⟩
  rw [← K1 x hx]
  simp only [List.mem_singleton] at hx
  subst hx
  unfold setH
  rw [Array.getElem?_modify, if_neg (by rintro rfl; have := J.c8; omega)]
theorem keep_ext {T : List Nat} {h h' : Heap} (e : Ext h h') (hT : ∀ k ∈ T, k < h.size) : Keep T h h' := fun k hk => e.block k (hT k hk)
theorem Keep.trans {T : List Nat} {a b c : Heap} (h : Keep T a b) (k : Keep T b c) : Keep T a c := fun i hi => (k i hi).trans (h i hi)
theorem pair_store {h : Heap} {u v : Value} (h0 : plainV u = true) (h1 : plainV v = true) {K : Heap → Prop} (hk : ∀ h', Ext h h' → h'.size = h.size + 1 → h'[h.size]? = some (.cells #[u, v] 60 (0, 0)) → K h') :
    RunU Try.prog (Instr.storeAt 60 (.pointer (some ⟨h.size, 0, none⟩)) (.agg #[u, v])) (h.push (.cells #[.int .i64 0, .int .i64 0] 60 (0, 0))) K := by
  rw [m_storeAgg size60 (push_new _ _) rfl (by simp) (by simp [h0, h1])]
  have e : writeAt #[Value.int .i64 0, .int .i64 0] 0 (#[u, v] : Array Value).toList = #[u, v] := by
    apply Array.ext'
    rw [writeAt_toList _ _ _ (by simp)]
    simp
  rw [e, set_push_new]
  exact hk _ ((Ext.refl h).push _) (by simp) (push_new _ _)
def badPr : Nat → Int × Int
  | 0 => (-1, 3)
  | 1 => (60, 1)
  | 2 => (0, 61)
  | 3 => (59, 2)
  | 4 => (5, 0)
  | _ => (1, 9223372036854775807)
theorem badPr_part {s : Sto} (hn : s.n = 60) : ∀ i, i < 6 → partB s (badPr i).1 (badPr i).2 = false
  | 0, _ => by simp [partB, badPr]
  | 1, _ => by simp [partB, badPr, hn]
  | 2, _ => by simp [partB, badPr, hn]
  | 3, _ => by simp [partB, badPr, hn]
  | 4, _ => by simp [partB, badPr, hn]
  | 5, _ => by simp [partB, badPr, hn]
theorem u8_mod {h : Heap} (x y : Operand) (a : UInt8) (n : Nat) {c : Int} (hc : c = (n : Int)) (hn : 0 < n) (N : Value → Heap → Prop) :
    (RunV Try.prog (binS .rem 5 x y (.int .u8 (a.toNat : Int)) (.int .u8 c)) h fun t h => RunV Try.prog (convert 5 3 t) h N) = N (.int .i64 ((a.toNat % n : Nat) : Int)) h := by
  subst hc
  rw [b_remk _ _ _ _ _ _ _ (by omega) (by omega), conv_int Try.underlying5 Try.underlying3]
  have h1 := a.toNat_lt
  have h2 : a.toNat % n ≤ a.toNat := Nat.mod_le _ _
  have e : (a.toNat : Int) % (n : Int) = ((a.toNat % n : Nat) : Int) := by simp
  rw [e, wrap_id (by omega) (by omega)]
theorem size55 : (Try.prog.info? 55).map (·.size) = some 3 := by kernel_rfl
theorem size56 : (Try.prog.info? 56).map (·.size) = some 3 := by kernel_rfl
theorem size57 : (Try.prog.info? 57).map (·.size) = some 3 := by kernel_rfl
/-- A part that is of one frame behind the other is opened. -/
theorem part_at {h : Heap} {b g : Nat} {s : Sto} (hs : StoreAt h b g s) (hc : Calm s) {j : Jr} (p : PartIs s j) (h1 : 1 ≤ j.n) {K : Value → Heap → Prop}
    (hk : ∀ h' jb v v2 s', StoreAt h' b g s' → Calm s' → s'.n = s.n → (∀ j, PartIs s j → PartIs s' j) → Only [b, g] h h' → JAt h' jb b j v → (∀ x ∈ jb :: blk v, h.size ≤ x) → Own h' h.size 9 1 v2 j.l.length (strs j.l) → (∀ x ∈ blk v2, x ∉ jb :: blk v) → K (.tuple #[.pointer (some ⟨jb, 0, none⟩), v2, .int .i64 0]) h') :
    CallF Try.prog 27 #[.pointer (some ⟨b, 0, none⟩), .int .i64 (j.f : Int), .int .i64 (j.n : Int)] h K := by
  obtain ⟨q1, q2⟩ := p.open hs.ok hc
  have hfit := p.fits
  have hb : partB s (j.f : Int) (j.n : Int) = true := by simp [partB]; omega
  refine part_spec hs (j.f : Int) (j.n : Int) (fun h => by rw [hb] at h; cases h) (fun _ he => ?_) (fun _ he h' jb v v2 hs' o hj jge vge dis own => ?_)
  · simp only [Int.toNat_natCast] at he
    exact absurd q1 he
  · simp only [Int.toNat_natCast] at hs' hj own
    rw [p.jr] at hj own
    refine hk h' jb v v2 _ hs' q2.calm q2.n (fun j' p' => p'.put hs.ok q2 fun m _ _ => by omega) o hj ?_ own ?_
    · intro x hx
      simp only [List.mem_cons] at hx
      rcases hx with rfl | hx
      · exact jge
      · exact vge x hx
    · intro x hx hm
      simp only [List.mem_cons] at hm
      rcases hm with rfl | hm
      · exact jat_not hj own hx
      · exact dis x hx hm
theorem look_at {h : Heap} {b g : Nat} {s : Sto} (hs : StoreAt h b g s) {j : Jr} (p : PartIs s j) (h1 : 1 ≤ j.n) {K : Value → Heap → Prop} (hk : ∀ h' v, Ext h h' → Own h' h.size 9 1 v j.l.length (strs j.l) → K v h') :
    CallF Try.prog 28 #[.pointer (some ⟨b, 0, none⟩), .int .i64 (j.f : Int), .int .i64 (j.n : Int)] h K := by
  have hfit := p.fits
  have hb : partB s (j.f : Int) (j.n : Int) = true := by simp [partB]; omega
  refine look_spec hs (j.f : Int) (j.n : Int) (fun h => by rw [hb] at h; cases h) (fun _ h' v x own => ?_)
  simp only [Int.toNat_natCast] at own
  rw [p.scan] at own
  exact hk h' v x own

theorem parts_spec {h : Heap} (a0 a1 : UInt8) {a2 a3 : Value} {len len3 : Nat} {f : Nat → List UInt8} {tg : Nat → UInt8} (hA : ArgS h a2 len 1 (fun i _ => str (f i))) (hf : ∀ i, (f i).length ≤ 140737488355328) (hB : ArgS h a3 len3 1 (fun i _ => byteV (tg i)))
    {K : Value → Heap → Prop} (hk : ∀ h', Ext h h' → K (.bool true) h') : CallF Try.prog 4 #[.int .u8 (a0.toNat : Int), .int .u8 (a1.toNat : Int), a2, a3] h K := by
  apply S4
  unfold F4
  refine awake_spec fun h1 x1 => ?_
  have hA1 := hA.ext x1
  have hB1 := hB.ext x1
  obtain ⟨A2, cap2, rfl, hlen, hA2⟩ := hA
  obtain ⟨A3, cap3, rfl, hlen3, hB2⟩ := hB
  simp (disch := first | assumption | (with_reducible exact Ext.refl _) | (with_reducible exact Keep.refl _ _) | (with_reducible exact Eq.refl _) | (intro _ he; cases he; assumption) | (intro _ he; with_reducible apply keep_cell' he; assumption; simp; done) | (intro _ he; with_reducible apply ext_cell' he; assumption; done) | (with_reducible first | exact pl_int _ _ | exact pl_byte _ | exact pl_u32 _ | exact pl_bool _ | exact pl_ptr _ | exact pl_slice _ _ _ | exact pl_map _ | exact pl_str _ | exact pl_func _ _ _) | ((rw [okW_setH]; repeat rw [okW_setH]); assumption) | ((with_reducible refine cellH_setH_same ?_ _); (repeat rw [okW_setH]); assumption) | ((rw [cellH_setH_off]; rotate_left; focus decide); (repeat (rw [cellH_setH_off]; rotate_left; focus decide)); first | assumption | ((with_reducible refine cellH_setH_same ?_ _); (repeat rw [okW_setH]); assumption)) | omega) only [↓hpR, ↓nilC_ptr, ↓nilC_func, ↓condP_true, ↓condP_false, ↓condP_bool, ↓guardP_true, ↓guardP_false, ↓guardP_bool_t, ↓guardP_bool_f, ↓skipP_undef, ↓pickP_bool, ↓b_add, ↓b_sub, ↓b_mul, ↓b_quo, ↓b_rem, ↓b_lss, ↓b_leq, ↓b_gtr, ↓b_geq, ↓b_eql, ↓b_neq, ↓u_not, ↓s_add, ↓s_eql, ↓s_neq, ↓i_max2, ↓i_min2, ↓x20, ↓x21, ↓x30, ↓x31, ↓x32, ↓q_b_add, ↓q_b_sub, ↓q_b_mul, ↓q_b_quo, ↓q_b_rem, ↓q_b_lss, ↓q_b_leq, ↓q_b_gtr, ↓q_b_geq, ↓q_b_eql, ↓q_b_neq, ↓q_u_not, ↓q_s_add, ↓q_s_eql, ↓q_s_neq, ↓q_i_max2, ↓q_i_min2, ↓q_x20, ↓q_x21, ↓q_x30, ↓q_x31, ↓q_x32, ↓m_box, decide_true, decide_false, tt_and, ff_and, Nat.zero_add, Int.toNat_natCast, cells_agg, cells_bool, cells_int, cells_str, cells_ptr, cells_slice, ↓qend_eq, ↓jump_none, ↓jump_ret, ↓jump_exit, ↓marks_one, cond_true, cond_false, Bool.not_true, Bool.not_false]
  refine ⟨fun x y hh => ∃ i : Nat, y = .int .i64 (i : Int) ∧ i ≤ len ∧ hh = h1 ∧ x = .int .i64 (IntKind.i64.wrap (sumN f i : Int)), fun x y hh => match y with | .int _ i => len - i.toNat | _ => 0, ⟨0, rfl, Nat.zero_le _, rfl, rfl⟩, ?_⟩
  rintro js x y hh ⟨i, rfl, hil, rfl, rfl⟩
  simp (disch := first | assumption | (with_reducible exact Ext.refl _) | (with_reducible exact Keep.refl _ _) | (with_reducible exact Eq.refl _) | (intro _ he; cases he; assumption) | (intro _ he; with_reducible apply keep_cell' he; assumption; simp; done) | (intro _ he; with_reducible apply ext_cell' he; assumption; done) | (with_reducible first | exact pl_int _ _ | exact pl_byte _ | exact pl_u32 _ | exact pl_bool _ | exact pl_ptr _ | exact pl_slice _ _ _ | exact pl_map _ | exact pl_str _ | exact pl_func _ _ _) | ((rw [okW_setH]; repeat rw [okW_setH]); assumption) | ((with_reducible refine cellH_setH_same ?_ _); (repeat rw [okW_setH]); assumption) | ((rw [cellH_setH_off]; rotate_left; focus decide); (repeat (rw [cellH_setH_off]; rotate_left; focus decide)); first | assumption | ((with_reducible refine cellH_setH_same ?_ _); (repeat rw [okW_setH]); assumption)) | omega) only [↓hpR, ↓nilC_ptr, ↓nilC_func, ↓condP_true, ↓condP_false, ↓condP_bool, ↓guardP_true, ↓guardP_false, ↓guardP_bool_t, ↓guardP_bool_f, ↓skipP_undef, ↓pickP_bool, ↓b_add, ↓b_sub, ↓b_mul, ↓b_quo, ↓b_rem, ↓b_lss, ↓b_leq, ↓b_gtr, ↓b_geq, ↓b_eql, ↓b_neq, ↓u_not, ↓s_add, ↓s_eql, ↓s_neq, ↓i_max2, ↓i_min2, ↓x20, ↓x21, ↓x30, ↓x31, ↓x32, ↓q_b_add, ↓q_b_sub, ↓q_b_mul, ↓q_b_quo, ↓q_b_rem, ↓q_b_lss, ↓q_b_leq, ↓q_b_gtr, ↓q_b_geq, ↓q_b_eql, ↓q_b_neq, ↓q_u_not, ↓q_s_add, ↓q_s_eql, ↓q_s_neq, ↓q_i_max2, ↓q_i_min2, ↓q_x20, ↓q_x21, ↓q_x30, ↓q_x31, ↓q_x32, ↓m_box, decide_true, decide_false, tt_and, ff_and, Nat.zero_add, Int.toNat_natCast, cells_agg, cells_bool, cells_int, cells_str, cells_ptr, cells_slice, ↓qend_eq, ↓jump_none, ↓jump_ret, ↓jump_exit, ↓marks_one, cond_true, cond_false, Bool.not_true, Bool.not_false]
  refine ⟨fun hlt => ?_, fun hge => ?_⟩
  · have hlt' : i < len := by simpa using hlt
    obtain ⟨ab, ao, rfl, hcells⟩ := hA2 (by omega)
    have c0 : cellH hh ab (ao + i) = some (str (f i)) := by
      have := cellH_ext x1 (hcells i hlt' 0 (by omega))
      simpa using this
    simp (disch := first | assumption | (with_reducible exact Ext.refl _) | (with_reducible exact Keep.refl _ _) | (with_reducible exact Eq.refl _) | (intro _ he; cases he; assumption) | (intro _ he; with_reducible apply keep_cell' he; assumption; simp; done) | (intro _ he; with_reducible apply ext_cell' he; assumption; done) | (with_reducible first | exact pl_int _ _ | exact pl_byte _ | exact pl_u32 _ | exact pl_bool _ | exact pl_ptr _ | exact pl_slice _ _ _ | exact pl_map _ | exact pl_str _ | exact pl_func _ _ _) | ((rw [okW_setH]; repeat rw [okW_setH]); assumption) | ((with_reducible refine cellH_setH_same ?_ _); (repeat rw [okW_setH]); assumption) | ((rw [cellH_setH_off]; rotate_left; focus decide); (repeat (rw [cellH_setH_off]; rotate_left; focus decide)); first | assumption | ((with_reducible refine cellH_setH_same ?_ _); (repeat rw [okW_setH]); assumption)) | omega) only [↓hpR, ↓nilC_ptr, ↓nilC_func, ↓condP_true, ↓condP_false, ↓condP_bool, ↓guardP_true, ↓guardP_false, ↓guardP_bool_t, ↓guardP_bool_f, ↓skipP_undef, ↓pickP_bool, ↓b_add, ↓b_sub, ↓b_mul, ↓b_quo, ↓b_rem, ↓b_lss, ↓b_leq, ↓b_gtr, ↓b_geq, ↓b_eql, ↓b_neq, ↓u_not, ↓s_add, ↓s_eql, ↓s_neq, ↓i_max2, ↓i_min2, ↓x20, ↓x21, ↓x30, ↓x31, ↓x32, ↓q_b_add, ↓q_b_sub, ↓q_b_mul, ↓q_b_quo, ↓q_b_rem, ↓q_b_lss, ↓q_b_leq, ↓q_b_gtr, ↓q_b_geq, ↓q_b_eql, ↓q_b_neq, ↓q_u_not, ↓q_s_add, ↓q_s_eql, ↓q_s_neq, ↓q_i_max2, ↓q_i_min2, ↓q_x20, ↓q_x21, ↓q_x30, ↓q_x31, ↓q_x32, ↓m_box, decide_true, decide_false, tt_and, ff_and, Nat.zero_add, Int.toNat_natCast, cells_agg, cells_bool, cells_int, cells_str, cells_ptr, cells_slice, ↓qend_eq, ↓jump_none, ↓jump_ret, ↓jump_exit, ↓marks_one, cond_true, cond_false, Bool.not_true, Bool.not_false]
    rw [b_addw]
    simp (disch := first | assumption | (with_reducible exact Ext.refl _) | (with_reducible exact Keep.refl _ _) | (with_reducible exact Eq.refl _) | (intro _ he; cases he; assumption) | (intro _ he; with_reducible apply keep_cell' he; assumption; simp; done) | (intro _ he; with_reducible apply ext_cell' he; assumption; done) | (with_reducible first | exact pl_int _ _ | exact pl_byte _ | exact pl_u32 _ | exact pl_bool _ | exact pl_ptr _ | exact pl_slice _ _ _ | exact pl_map _ | exact pl_str _ | exact pl_func _ _ _) | ((rw [okW_setH]; repeat rw [okW_setH]); assumption) | ((with_reducible refine cellH_setH_same ?_ _); (repeat rw [okW_setH]); assumption) | ((rw [cellH_setH_off]; rotate_left; focus decide); (repeat (rw [cellH_setH_off]; rotate_left; focus decide)); first | assumption | ((with_reducible refine cellH_setH_same ?_ _); (repeat rw [okW_setH]); assumption)) | omega) only [↓hpR, ↓nilC_ptr, ↓nilC_func, ↓condP_true, ↓condP_false, ↓condP_bool, ↓guardP_true, ↓guardP_false, ↓guardP_bool_t, ↓guardP_bool_f, ↓skipP_undef, ↓pickP_bool, ↓b_add, ↓b_sub, ↓b_mul, ↓b_quo, ↓b_rem, ↓b_lss, ↓b_leq, ↓b_gtr, ↓b_geq, ↓b_eql, ↓b_neq, ↓u_not, ↓s_add, ↓s_eql, ↓s_neq, ↓i_max2, ↓i_min2, ↓x20, ↓x21, ↓x30, ↓x31, ↓x32, ↓q_b_add, ↓q_b_sub, ↓q_b_mul, ↓q_b_quo, ↓q_b_rem, ↓q_b_lss, ↓q_b_leq, ↓q_b_gtr, ↓q_b_geq, ↓q_b_eql, ↓q_b_neq, ↓q_u_not, ↓q_s_add, ↓q_s_eql, ↓q_s_neq, ↓q_i_max2, ↓q_i_min2, ↓q_x20, ↓q_x21, ↓q_x30, ↓q_x31, ↓q_x32, ↓m_box, decide_true, decide_false, tt_and, ff_and, Nat.zero_add, Int.toNat_natCast, cells_agg, cells_bool, cells_int, cells_str, cells_ptr, cells_slice, ↓qend_eq, ↓jump_none, ↓jump_ret, ↓jump_exit, ↓marks_one, cond_true, cond_false, Bool.not_true, Bool.not_false]
    rw [wrap_add]
    exact ⟨⟨i + 1, by simp, by omega, by trivial, by simp [sumN]⟩, by omega⟩
  have hil' : i = len := by simp at hge; omega
  subst hil'
  refine new_spec 60 (by omega) (fun h => by omega) fun _ _ h2 hs2' x2 => ?_
  have hs2 : StoreAt h2 (hh.size + 1) hh.size (newS 60) := hs2'
  obtain ⟨b, hb⟩ : ∃ b, b = hh.size + 1 := ⟨_, rfl⟩
  obtain ⟨g, hg⟩ : ∃ g, g = hh.size := ⟨_, rfl⟩
  rw [← hb, ← hg] at hs2
  rw [← hb]
  clear hs2'
  simp (disch := first | assumption | (with_reducible exact Ext.refl _) | (with_reducible exact Keep.refl _ _) | (with_reducible exact Eq.refl _) | (intro _ he; cases he; assumption) | (intro _ he; with_reducible apply keep_cell' he; assumption; simp; done) | (intro _ he; with_reducible apply ext_cell' he; assumption; done) | (with_reducible first | exact pl_int _ _ | exact pl_byte _ | exact pl_u32 _ | exact pl_bool _ | exact pl_ptr _ | exact pl_slice _ _ _ | exact pl_map _ | exact pl_str _ | exact pl_func _ _ _) | ((rw [okW_setH]; repeat rw [okW_setH]); assumption) | ((with_reducible refine cellH_setH_same ?_ _); (repeat rw [okW_setH]); assumption) | ((rw [cellH_setH_off]; rotate_left; focus decide); (repeat (rw [cellH_setH_off]; rotate_left; focus decide)); first | assumption | ((with_reducible refine cellH_setH_same ?_ _); (repeat rw [okW_setH]); assumption)) | omega) only [↓hpR, ↓nilC_ptr, ↓nilC_func, ↓condP_true, ↓condP_false, ↓condP_bool, ↓guardP_true, ↓guardP_false, ↓guardP_bool_t, ↓guardP_bool_f, ↓skipP_undef, ↓pickP_bool, ↓b_add, ↓b_sub, ↓b_mul, ↓b_quo, ↓b_rem, ↓b_lss, ↓b_leq, ↓b_gtr, ↓b_geq, ↓b_eql, ↓b_neq, ↓u_not, ↓s_add, ↓s_eql, ↓s_neq, ↓i_max2, ↓i_min2, ↓x20, ↓x21, ↓x30, ↓x31, ↓x32, ↓q_b_add, ↓q_b_sub, ↓q_b_mul, ↓q_b_quo, ↓q_b_rem, ↓q_b_lss, ↓q_b_leq, ↓q_b_gtr, ↓q_b_geq, ↓q_b_eql, ↓q_b_neq, ↓q_u_not, ↓q_s_add, ↓q_s_eql, ↓q_s_neq, ↓q_i_max2, ↓q_i_min2, ↓q_x20, ↓q_x21, ↓q_x30, ↓q_x31, ↓q_x32, ↓m_box, decide_true, decide_false, tt_and, ff_and, Nat.zero_add, Int.toNat_natCast, cells_agg, cells_bool, cells_int, cells_str, cells_ptr, cells_slice, ↓qend_eq, ↓jump_none, ↓jump_ret, ↓jump_exit, ↓marks_one, cond_true, cond_false, Bool.not_true, Bool.not_false]
  refine Join1.intro (fun x h => ∃ bb : Bool, x = .bool bb ∧ h = h2 ∧ (bb = false → i ≤ 30 ∧ IntKind.i64.wrap (sumN f i : Int) ≤ 1500)) (fun J hJ => ?_) (fun x h3 hM => ?_)
  · simp (disch := first | assumption | (with_reducible exact Ext.refl _) | (with_reducible exact Keep.refl _ _) | (with_reducible exact Eq.refl _) | (intro _ he; cases he; assumption) | (intro _ he; with_reducible apply keep_cell' he; assumption; simp; done) | (intro _ he; with_reducible apply ext_cell' he; assumption; done) | (with_reducible first | exact pl_int _ _ | exact pl_byte _ | exact pl_u32 _ | exact pl_bool _ | exact pl_ptr _ | exact pl_slice _ _ _ | exact pl_map _ | exact pl_str _ | exact pl_func _ _ _) | ((rw [okW_setH]; repeat rw [okW_setH]); assumption) | ((with_reducible refine cellH_setH_same ?_ _); (repeat rw [okW_setH]); assumption) | ((rw [cellH_setH_off]; rotate_left; focus decide); (repeat (rw [cellH_setH_off]; rotate_left; focus decide)); first | assumption | ((with_reducible refine cellH_setH_same ?_ _); (repeat rw [okW_setH]); assumption)) | omega) only [↓hpR, ↓nilC_ptr, ↓nilC_func, ↓condP_true, ↓condP_false, ↓condP_bool, ↓guardP_true, ↓guardP_false, ↓guardP_bool_t, ↓guardP_bool_f, ↓skipP_undef, ↓pickP_bool, ↓b_add, ↓b_sub, ↓b_mul, ↓b_quo, ↓b_rem, ↓b_lss, ↓b_leq, ↓b_gtr, ↓b_geq, ↓b_eql, ↓b_neq, ↓u_not, ↓s_add, ↓s_eql, ↓s_neq, ↓i_max2, ↓i_min2, ↓x20, ↓x21, ↓x30, ↓x31, ↓x32, ↓q_b_add, ↓q_b_sub, ↓q_b_mul, ↓q_b_quo, ↓q_b_rem, ↓q_b_lss, ↓q_b_leq, ↓q_b_gtr, ↓q_b_geq, ↓q_b_eql, ↓q_b_neq, ↓q_u_not, ↓q_s_add, ↓q_s_eql, ↓q_s_neq, ↓q_i_max2, ↓q_i_min2, ↓q_x20, ↓q_x21, ↓q_x30, ↓q_x31, ↓q_x32, ↓m_box, decide_true, decide_false, tt_and, ff_and, Nat.zero_add, Int.toNat_natCast, cells_agg, cells_bool, cells_int, cells_str, cells_ptr, cells_slice, ↓qend_eq, ↓jump_none, ↓jump_ret, ↓jump_exit, ↓marks_one, cond_true, cond_false, Bool.not_true, Bool.not_false, Option.isNone_some]
    refine ⟨fun h15 => hJ _ _ ⟨true, rfl, rfl, fun h => by cases h⟩, fun h15 => hJ _ _ ⟨_, rfl, rfl, fun h30 => ?_⟩⟩
    simp at h15 h30
    omega
  obtain ⟨bb, rfl, rfl, hbb⟩ := hM
  rw [condP_bool]
  refine ⟨fun _ => ?_, fun hbf => ?_⟩
  · simp (disch := first | assumption | (with_reducible exact Ext.refl _) | (with_reducible exact Keep.refl _ _) | (with_reducible exact Eq.refl _) | (intro _ he; cases he; assumption) | (intro _ he; with_reducible apply keep_cell' he; assumption; simp; done) | (intro _ he; with_reducible apply ext_cell' he; assumption; done) | (with_reducible first | exact pl_int _ _ | exact pl_byte _ | exact pl_u32 _ | exact pl_bool _ | exact pl_ptr _ | exact pl_slice _ _ _ | exact pl_map _ | exact pl_str _ | exact pl_func _ _ _) | ((rw [okW_setH]; repeat rw [okW_setH]); assumption) | ((with_reducible refine cellH_setH_same ?_ _); (repeat rw [okW_setH]); assumption) | ((rw [cellH_setH_off]; rotate_left; focus decide); (repeat (rw [cellH_setH_off]; rotate_left; focus decide)); first | assumption | ((with_reducible refine cellH_setH_same ?_ _); (repeat rw [okW_setH]); assumption)) | omega) only [↓hpR, ↓nilC_ptr, ↓nilC_func, ↓condP_true, ↓condP_false, ↓condP_bool, ↓guardP_true, ↓guardP_false, ↓guardP_bool_t, ↓guardP_bool_f, ↓skipP_undef, ↓pickP_bool, ↓b_add, ↓b_sub, ↓b_mul, ↓b_quo, ↓b_rem, ↓b_lss, ↓b_leq, ↓b_gtr, ↓b_geq, ↓b_eql, ↓b_neq, ↓u_not, ↓s_add, ↓s_eql, ↓s_neq, ↓i_max2, ↓i_min2, ↓x20, ↓x21, ↓x30, ↓x31, ↓x32, ↓q_b_add, ↓q_b_sub, ↓q_b_mul, ↓q_b_quo, ↓q_b_rem, ↓q_b_lss, ↓q_b_leq, ↓q_b_gtr, ↓q_b_geq, ↓q_b_eql, ↓q_b_neq, ↓q_u_not, ↓q_s_add, ↓q_s_eql, ↓q_s_neq, ↓q_i_max2, ↓q_i_min2, ↓q_x20, ↓q_x21, ↓q_x30, ↓q_x31, ↓q_x32, ↓m_box, decide_true, decide_false, tt_and, ff_and, Nat.zero_add, Int.toNat_natCast, cells_agg, cells_bool, cells_int, cells_str, cells_ptr, cells_slice, ↓qend_eq, ↓jump_none, ↓jump_ret, ↓jump_exit, ↓marks_one, cond_true, cond_false, Bool.not_true, Bool.not_false, Option.isNone_some]
    exact hk _ (x1.trans x2)
  obtain ⟨h30, hsum⟩ := hbb hbf
  have hle := sumN_le hf i
  rw [wrap_id (by omega) (by omega)] at hsum
  have hshort : ∀ k, k < i → (f k).length ≤ 1500 := fun k hk => by
    have := le_sumN (f := f) hk
    omega
  clear hbb hbf hsum hle
  rw [u8_mod (c := 20) _ _ a0 20 rfl (by omega)]
  have hx20 := Nat.mod_lt a0.toNat (show 0 < 20 by omega)
  have hy20 := Nat.mod_lt a1.toNat (show 0 < 20 by omega)
  generalize a0.toNat % 20 = X at hx20 ⊢
  simp (disch := first | assumption | (with_reducible exact Ext.refl _) | (with_reducible exact Keep.refl _ _) | (with_reducible exact Eq.refl _) | (intro _ he; cases he; assumption) | (intro _ he; with_reducible apply keep_cell' he; assumption; simp; done) | (intro _ he; with_reducible apply ext_cell' he; assumption; done) | (with_reducible first | exact pl_int _ _ | exact pl_byte _ | exact pl_u32 _ | exact pl_bool _ | exact pl_ptr _ | exact pl_slice _ _ _ | exact pl_map _ | exact pl_str _ | exact pl_func _ _ _) | ((rw [okW_setH]; repeat rw [okW_setH]); assumption) | ((with_reducible refine cellH_setH_same ?_ _); (repeat rw [okW_setH]); assumption) | ((rw [cellH_setH_off]; rotate_left; focus decide); (repeat (rw [cellH_setH_off]; rotate_left; focus decide)); first | assumption | ((with_reducible refine cellH_setH_same ?_ _); (repeat rw [okW_setH]); assumption)) | omega) only [↓hpR, ↓nilC_ptr, ↓nilC_func, ↓condP_true, ↓condP_false, ↓condP_bool, ↓guardP_true, ↓guardP_false, ↓guardP_bool_t, ↓guardP_bool_f, ↓skipP_undef, ↓pickP_bool, ↓b_add, ↓b_sub, ↓b_mul, ↓b_quo, ↓b_rem, ↓b_lss, ↓b_leq, ↓b_gtr, ↓b_geq, ↓b_eql, ↓b_neq, ↓u_not, ↓s_add, ↓s_eql, ↓s_neq, ↓i_max2, ↓i_min2, ↓x20, ↓x21, ↓x30, ↓x31, ↓x32, ↓q_b_add, ↓q_b_sub, ↓q_b_mul, ↓q_b_quo, ↓q_b_rem, ↓q_b_lss, ↓q_b_leq, ↓q_b_gtr, ↓q_b_geq, ↓q_b_eql, ↓q_b_neq, ↓q_u_not, ↓q_s_add, ↓q_s_eql, ↓q_s_neq, ↓q_i_max2, ↓q_i_min2, ↓q_x20, ↓q_x21, ↓q_x30, ↓q_x31, ↓q_x32, ↓m_box, decide_true, decide_false, tt_and, ff_and, Nat.zero_add, Int.toNat_natCast, cells_agg, cells_bool, cells_int, cells_str, cells_ptr, cells_slice, ↓qend_eq, ↓jump_none, ↓jump_ret, ↓jump_exit, ↓marks_one, cond_true, cond_false, Bool.not_true, Bool.not_false]
  rw [u8_mod (c := 20) _ _ a1 20 rfl (by omega)]
  generalize a1.toNat % 20 = Y at hy20 ⊢
  simp (disch := first | assumption | (with_reducible exact Ext.refl _) | (with_reducible exact Keep.refl _ _) | (with_reducible exact Eq.refl _) | (intro _ he; cases he; assumption) | (intro _ he; with_reducible apply keep_cell' he; assumption; simp; done) | (intro _ he; with_reducible apply ext_cell' he; assumption; done) | (with_reducible first | exact pl_int _ _ | exact pl_byte _ | exact pl_u32 _ | exact pl_bool _ | exact pl_ptr _ | exact pl_slice _ _ _ | exact pl_map _ | exact pl_str _ | exact pl_func _ _ _) | ((rw [okW_setH]; repeat rw [okW_setH]); assumption) | ((with_reducible refine cellH_setH_same ?_ _); (repeat rw [okW_setH]); assumption) | ((rw [cellH_setH_off]; rotate_left; focus decide); (repeat (rw [cellH_setH_off]; rotate_left; focus decide)); first | assumption | ((with_reducible refine cellH_setH_same ?_ _); (repeat rw [okW_setH]); assumption)) | omega) only [↓hpR, ↓nilC_ptr, ↓nilC_func, ↓condP_true, ↓condP_false, ↓condP_bool, ↓guardP_true, ↓guardP_false, ↓guardP_bool_t, ↓guardP_bool_f, ↓skipP_undef, ↓pickP_bool, ↓b_add, ↓b_sub, ↓b_mul, ↓b_quo, ↓b_rem, ↓b_lss, ↓b_leq, ↓b_gtr, ↓b_geq, ↓b_eql, ↓b_neq, ↓u_not, ↓s_add, ↓s_eql, ↓s_neq, ↓i_max2, ↓i_min2, ↓x20, ↓x21, ↓x30, ↓x31, ↓x32, ↓q_b_add, ↓q_b_sub, ↓q_b_mul, ↓q_b_quo, ↓q_b_rem, ↓q_b_lss, ↓q_b_leq, ↓q_b_gtr, ↓q_b_geq, ↓q_b_eql, ↓q_b_neq, ↓q_u_not, ↓q_s_add, ↓q_s_eql, ↓q_s_neq, ↓q_i_max2, ↓q_i_min2, ↓q_x20, ↓q_x21, ↓q_x30, ↓q_x31, ↓q_x32, ↓m_box, decide_true, decide_false, tt_and, ff_and, Nat.zero_add, Int.toNat_natCast, cells_agg, cells_bool, cells_int, cells_str, cells_ptr, cells_slice, ↓qend_eq, ↓jump_none, ↓jump_ret, ↓jump_exit, ↓marks_one, cond_true, cond_false, Bool.not_true, Bool.not_false]
  obtain ⟨F, hF⟩ : ∃ F : Nat → Nat, F = fun k => match k with | 0 => 0 | 1 => 1 + X | _ => 2 + X + Y := ⟨_, rfl⟩
  obtain ⟨M, hM⟩ : ∃ M : Nat → Nat, M = fun k => match k with | 0 => 1 + X | 1 => 1 + Y | _ => 58 - X - Y := ⟨_, rfl⟩
  have e1 : (#[Value.int IntKind.i64 0, Value.int IntKind.i64 (1 + (X : Int)), Value.int IntKind.i64 (1 + (X : Int) + (1 + (Y : Int)))] : Array Value) = #[.int .i64 (F 0 : Int), .int .i64 (F 1 : Int), .int .i64 (F 2 : Int)] := by
    rw [hF]
    simp
    try omega
  have e2 : (#[Value.int IntKind.i64 (1 + (X : Int)), Value.int IntKind.i64 (1 + (Y : Int)), Value.int IntKind.i64 (60 - (1 + (X : Int)) - (1 + (Y : Int)))] : Array Value) = #[.int .i64 (M 0 : Int), .int .i64 (M 1 : Int), .int .i64 (M 2 : Int)] := by
    rw [hM]
    simp
    try omega
  have T : Tri F M := by
    rw [hF, hM]
    refine ⟨fun k hk => ?_, fun k k' hk hk' hne => ?_⟩
    · match k, hk with
      | 0, _ => simp only; omega
      | 1, _ => simp only; omega
      | 2, _ => simp only; omega
    · match k, k', hk, hk' with
      | 0, 0, _, _ => omega
      | 0, 1, _, _ => simp only; omega
      | 0, 2, _, _ => simp only; omega
      | 1, 0, _, _ => simp only; omega
      | 1, 1, _, _ => omega
      | 1, 2, _, _ => simp only; omega
      | 2, 0, _, _ => simp only; omega
      | 2, 1, _, _ => simp only; omega
      | 2, 2, _, _ => omega
  rw [e1, e2]
  clear e1 e2 hF hM hx20 hy20
  obtain ⟨z55, hz55⟩ : ∃ z, z = Obj.cells #[Value.int IntKind.i64 0, Value.int IntKind.i64 0, Value.int IntKind.i64 0] 55 (0, 0) := ⟨_, rfl⟩
  rw [← hz55]
  rw [arr_store size55 ((push_old (push_new h3 z55) z55).trans (congrArg some hz55)) rfl rfl rfl]
  rw [arr_store size55 ((set_other (push_new (h3.push z55) z55) (by simp) _).trans (congrArg some hz55)) rfl rfl rfl]
  obtain ⟨o15, ho15⟩ : ∃ o, o = Obj.cells #[Value.int IntKind.i64 (F 0 : Int), Value.int IntKind.i64 (F 1 : Int), Value.int IntKind.i64 (F 2 : Int)] 55 (0, 0) := ⟨_, rfl⟩
  obtain ⟨o16, ho16⟩ : ∃ o, o = Obj.cells #[Value.int IntKind.i64 (M 0 : Int), Value.int IntKind.i64 (M 1 : Int), Value.int IntKind.i64 (M 2 : Int)] 55 (0, 0) := ⟨_, rfl⟩
  rw [← ho15, ← ho16]
  have x4 : Ext h3 ((((h3.push z55).push z55).setIfInBounds h3.size o15).setIfInBounds (h3.push z55).size o16) :=
    ext_only_new (((Ext.refl h3).push z55).push z55) ((Only.set (S := [h3.size, (h3.push z55).size]) (Only.refl _ _) (.inl (by simp)) _).set (.inl (by simp)) _) (by simp)
  have q15 : ((((h3.push z55).push z55).setIfInBounds h3.size o15).setIfInBounds (h3.push z55).size o16)[h3.size]? = some o15 := set_other (set_same (push_old (push_new h3 z55) z55) _) (by simp) _
  have q16 : ((((h3.push z55).push z55).setIfInBounds h3.size o15).setIfInBounds (h3.push z55).size o16)[(h3.push z55).size]? = some o16 := set_same (set_other (push_new (h3.push z55) z55) (by simp) _) _
  have z4 : ((((h3.push z55).push z55).setIfInBounds h3.size o15).setIfInBounds (h3.push z55).size o16).size = h3.size + 2 := by simp
  generalize ((((h3.push z55).push z55).setIfInBounds h3.size o15).setIfInBounds (h3.push z55).size o16) = h4 at x4 q15 q16 z4 ⊢
  have zc : (h3.push z55).size = h3.size + 1 := by simp
  generalize (h3.push z55).size = c16 at q16 zc ⊢
  obtain ⟨c15, hc15⟩ : ∃ c, c = h3.size := ⟨_, rfl⟩
  rw [← hc15] at q15 zc z4 ⊢
  subst ho15 ho16
  obtain ⟨o17, ho17⟩ : ∃ o, o = Obj.cells #[Value.pointer none, Value.pointer none, Value.pointer none] 56 (0, 0) := ⟨_, rfl⟩
  obtain ⟨o18, ho18⟩ : ∃ o, o = Obj.cells #[Value.slice none 0 0, Value.slice none 0 0, Value.slice none 0 0] 57 (0, 0) := ⟨_, rfl⟩
  rw [← ho17, ← ho18]
  rw [arr_store size56 ((push_old (push_new h4 o17) o18).trans (congrArg some ho17)) rfl rfl rfl]
  rw [arr_store size57 ((set_other (push_new (h4.push o17) o18) (by simp) _).trans (congrArg some ho18)) rfl rfl rfl]
  rw [← ho17, ← ho18]
  have x5 : Ext h4 ((((h4.push o17).push o18).setIfInBounds h4.size o17).setIfInBounds (h4.push o17).size o18) :=
    ext_only_new (((Ext.refl h4).push o17).push o18) ((Only.set (S := [h4.size, (h4.push o17).size]) (Only.refl _ _) (.inl (by simp)) _).set (.inl (by simp)) _) (by simp)
  have q17 : ((((h4.push o17).push o18).setIfInBounds h4.size o17).setIfInBounds (h4.push o17).size o18)[h4.size]? = some o17 := set_other (set_same (push_old (push_new h4 o17) o18) _) (by simp) _
  have q18 : ((((h4.push o17).push o18).setIfInBounds h4.size o17).setIfInBounds (h4.push o17).size o18)[(h4.push o17).size]? = some o18 := set_same (set_other (push_new (h4.push o17) o18) (by simp) _) _
  generalize ((((h4.push o17).push o18).setIfInBounds h4.size o17).setIfInBounds (h4.push o17).size o18) = h5 at x5 q17 q18 ⊢
  have zc8 : (h4.push o17).size = h4.size + 1 := by simp
  generalize (h4.push o17).size = c18 at q18 zc8 ⊢
  obtain ⟨c17, hc17⟩ : ∃ c, c = h4.size := ⟨_, rfl⟩
  rw [← hc17] at q17 zc8 ⊢
  subst ho17 ho18
  have zb : b < h3.size ∧ g < h3.size ∧ h.size ≤ b ∧ h.size ≤ g ∧ b ≠ g := ⟨hs2.hd.elim fun _ hw => lt_of_at hw, lt_of_at hs2.row, by have := x1.size; omega, by have := x1.size; omega, by omega⟩
  have z3 := (x1.trans x2).size
  have J0 : JS h h5 (fun x => if x < h.size then 9 else if x < c15 then 0 else if x < c17 then 1 else if x = c17 then 10 else 11) b g c15 c16 c17 c18 F M (newS 60) 0 (fun _ => 0) (fun _ => .slice none 0 0) (fun _ => .slice none 0 0) (fun k => ⟨F k, M k, [], 0, false⟩) (fun _ => []) := by
    refine ⟨((x1.trans x2).trans x4).trans x5, (hs2.ext x4).ext x5, ⟨rfl, rfl⟩, rfl, x5.at q15, x5.at q16, q17, q18, fun k hk => ⟨part_new (T.f k hk).2, rfl, rfl⟩, fun k hk => by omega, fun k hk => Own.nil _ _ _ _, fun x hx => by rw [if_pos hx], fun x hx => ?_, fun x hx => ?_, ?_, ?_, fun k hk => by omega, fun k hk x hx => by simp [blk, Value.ownBlock] at hx⟩
    · simp at hx
      rw [if_neg (by omega), if_pos (by omega)]
    · simp at hx
      rw [if_neg (by omega), if_neg (by omega), if_pos (by omega)]
    · rw [if_neg (by omega), if_neg (by omega), if_neg (by omega), if_pos rfl]
    · rw [if_neg (by omega), if_neg (by omega), if_neg (by omega), if_neg (by omega)]
  have hA5 := ((hA1.ext x2).ext x4).ext x5
  have hB5 := ((hB1.ext x2).ext x4).ext x5
  clear x5 q17 q18 zc8 hc17 x4 q15 q16 z4 zc hc15 zb z3 hs2 x2 hb hg hA1 hB1
  generalize (fun x => if x < h.size then 9 else if x < c15 then 0 else if x < c17 then 1 else if x = c17 then 10 else 11) = col at J0
  -- the parts are opened
  refine ⟨fun x hh => ∃ m : Nat, x = .int .i64 (m : Int) ∧ m ≤ 3 ∧ ∃ col s jb vj, JS h hh col b g c15 c16 c17 c18 F M s m jb vj (fun _ => .slice none 0 0) (fun k => ⟨F k, M k, [], 0, false⟩) (fun _ => []), fun x hh => match x with | .int _ m => 3 - m.toNat | _ => 0, ⟨0, rfl, by omega, _, _, _, _, J0⟩, ?_⟩
  clear J0 col
  rintro js x h6 ⟨m, rfl, hm3, col, s, jb, vj, J⟩
  simp (disch := first | assumption | (with_reducible exact Ext.refl _) | (with_reducible exact Keep.refl _ _) | (with_reducible exact Eq.refl _) | (intro _ he; cases he; assumption) | (intro _ he; with_reducible apply keep_cell' he; assumption; simp; done) | (intro _ he; with_reducible apply ext_cell' he; assumption; done) | (with_reducible first | exact pl_int _ _ | exact pl_byte _ | exact pl_u32 _ | exact pl_bool _ | exact pl_ptr _ | exact pl_slice _ _ _ | exact pl_map _ | exact pl_str _ | exact pl_func _ _ _) | ((rw [okW_setH]; repeat rw [okW_setH]); assumption) | ((with_reducible refine cellH_setH_same ?_ _); (repeat rw [okW_setH]); assumption) | ((rw [cellH_setH_off]; rotate_left; focus decide); (repeat (rw [cellH_setH_off]; rotate_left; focus decide)); first | assumption | ((with_reducible refine cellH_setH_same ?_ _); (repeat rw [okW_setH]); assumption)) | omega) only [↓hpR, ↓nilC_ptr, ↓nilC_func, ↓condP_true, ↓condP_false, ↓condP_bool, ↓guardP_true, ↓guardP_false, ↓guardP_bool_t, ↓guardP_bool_f, ↓skipP_undef, ↓pickP_bool, ↓b_add, ↓b_sub, ↓b_mul, ↓b_quo, ↓b_rem, ↓b_lss, ↓b_leq, ↓b_gtr, ↓b_geq, ↓b_eql, ↓b_neq, ↓u_not, ↓s_add, ↓s_eql, ↓s_neq, ↓i_max2, ↓i_min2, ↓x20, ↓x21, ↓x30, ↓x31, ↓x32, ↓q_b_add, ↓q_b_sub, ↓q_b_mul, ↓q_b_quo, ↓q_b_rem, ↓q_b_lss, ↓q_b_leq, ↓q_b_gtr, ↓q_b_geq, ↓q_b_eql, ↓q_b_neq, ↓q_u_not, ↓q_s_add, ↓q_s_eql, ↓q_s_neq, ↓q_i_max2, ↓q_i_min2, ↓q_x20, ↓q_x21, ↓q_x30, ↓q_x31, ↓q_x32, ↓m_box, decide_true, decide_false, tt_and, ff_and, Nat.zero_add, Int.toNat_natCast, cells_agg, cells_bool, cells_int, cells_str, cells_ptr, cells_slice, ↓qend_eq, ↓jump_none, ↓jump_ret, ↓jump_exit, ↓marks_one, cond_true, cond_false, Bool.not_true, Bool.not_false]
  refine ⟨fun hm => ?_, fun hm => ?_⟩
  · have hm' : m < 3 := by simp at hm; omega
    have k15 := arr3_cell J.o15 hm'
    have k16 := arr3_cell J.o16 hm'
    refine Quiet_keep [c15, c16] ?_
    simp (disch := first | assumption | (with_reducible exact Ext.refl _) | (with_reducible exact Keep.refl _ _) | (with_reducible exact Eq.refl _) | (intro _ he; cases he; assumption) | (intro _ he; with_reducible apply keep_cell' he; assumption; simp; done) | (intro _ he; with_reducible apply ext_cell' he; assumption; done) | (with_reducible first | exact pl_int _ _ | exact pl_byte _ | exact pl_u32 _ | exact pl_bool _ | exact pl_ptr _ | exact pl_slice _ _ _ | exact pl_map _ | exact pl_str _ | exact pl_func _ _ _) | ((rw [okW_setH]; repeat rw [okW_setH]); assumption) | ((with_reducible refine cellH_setH_same ?_ _); (repeat rw [okW_setH]); assumption) | ((rw [cellH_setH_off]; rotate_left; focus decide); (repeat (rw [cellH_setH_off]; rotate_left; focus decide)); first | assumption | ((with_reducible refine cellH_setH_same ?_ _); (repeat rw [okW_setH]); assumption)) | omega) only [↓hpR, ↓nilC_ptr, ↓nilC_func, ↓condP_true, ↓condP_false, ↓condP_bool, ↓guardP_true, ↓guardP_false, ↓guardP_bool_t, ↓guardP_bool_f, ↓skipP_undef, ↓pickP_bool, ↓b_add, ↓b_sub, ↓b_mul, ↓b_quo, ↓b_rem, ↓b_lss, ↓b_leq, ↓b_gtr, ↓b_geq, ↓b_eql, ↓b_neq, ↓u_not, ↓s_add, ↓s_eql, ↓s_neq, ↓i_max2, ↓i_min2, ↓x20, ↓x21, ↓x30, ↓x31, ↓x32, ↓q_b_add, ↓q_b_sub, ↓q_b_mul, ↓q_b_quo, ↓q_b_rem, ↓q_b_lss, ↓q_b_leq, ↓q_b_gtr, ↓q_b_geq, ↓q_b_eql, ↓q_b_neq, ↓q_u_not, ↓q_s_add, ↓q_s_eql, ↓q_s_neq, ↓q_i_max2, ↓q_i_min2, ↓q_x20, ↓q_x21, ↓q_x30, ↓q_x31, ↓q_x32, ↓m_box, decide_true, decide_false, tt_and, ff_and, Nat.zero_add, Int.toNat_natCast, cells_agg, cells_bool, cells_int, cells_str, cells_ptr, cells_slice, ↓qend_eq, ↓jump_none, ↓jump_ret, ↓jump_exit, ↓marks_one, cond_true, cond_false, Bool.not_true, Bool.not_false]
    refine part_at (j := ⟨F m, M m, [], 0, false⟩) J.hs J.calm (J.pi m hm').1 (T.f m hm').1 fun h7 jn v v2 s' hs7 hc7 hn7 hp7 o7 hj7 hnew _ _ => ?_
    have hK7 : Keep [c15, c16] h6 h7 := keep_of o7 J.lt.2.1 fun x hx hm => by
      have e1 := J.cc x hx
      have e2 := J.cb x hm
      omega
    have J7 := (J.recol (12 + m)).store o7 hs7 hc7 hn7 hp7
    have w7 := arr3_ok J7.o17 hm'
    refine ⟨hK7, ?_⟩
    simp (disch := first | assumption | (with_reducible exact Ext.refl _) | (with_reducible exact Keep.refl _ _) | (with_reducible exact Eq.refl _) | (intro _ he; cases he; assumption) | (intro _ he; with_reducible apply keep_cell' he; assumption; simp; done) | (intro _ he; with_reducible apply ext_cell' he; assumption; done) | (with_reducible first | exact pl_int _ _ | exact pl_byte _ | exact pl_u32 _ | exact pl_bool _ | exact pl_ptr _ | exact pl_slice _ _ _ | exact pl_map _ | exact pl_str _ | exact pl_func _ _ _) | ((rw [okW_setH]; repeat rw [okW_setH]); assumption) | ((with_reducible refine cellH_setH_same ?_ _); (repeat rw [okW_setH]); assumption) | ((rw [cellH_setH_off]; rotate_left; focus decide); (repeat (rw [cellH_setH_off]; rotate_left; focus decide)); first | assumption | ((with_reducible refine cellH_setH_same ?_ _); (repeat rw [okW_setH]); assumption)) | omega) only [↓hpR, ↓nilC_ptr, ↓nilC_func, ↓condP_true, ↓condP_false, ↓condP_bool, ↓guardP_true, ↓guardP_false, ↓guardP_bool_t, ↓guardP_bool_f, ↓skipP_undef, ↓pickP_bool, ↓b_add, ↓b_sub, ↓b_mul, ↓b_quo, ↓b_rem, ↓b_lss, ↓b_leq, ↓b_gtr, ↓b_geq, ↓b_eql, ↓b_neq, ↓u_not, ↓s_add, ↓s_eql, ↓s_neq, ↓i_max2, ↓i_min2, ↓x20, ↓x21, ↓x30, ↓x31, ↓x32, ↓q_b_add, ↓q_b_sub, ↓q_b_mul, ↓q_b_quo, ↓q_b_rem, ↓q_b_lss, ↓q_b_leq, ↓q_b_gtr, ↓q_b_geq, ↓q_b_eql, ↓q_b_neq, ↓q_u_not, ↓q_s_add, ↓q_s_eql, ↓q_s_neq, ↓q_i_max2, ↓q_i_min2, ↓q_x20, ↓q_x21, ↓q_x30, ↓q_x31, ↓q_x32, ↓m_box, decide_true, decide_false, tt_and, ff_and, Nat.zero_add, Int.toNat_natCast, cells_agg, cells_bool, cells_int, cells_str, cells_ptr, cells_slice, ↓qend_eq, ↓jump_none, ↓jump_ret, ↓jump_exit, ↓marks_one, cond_true, cond_false, Bool.not_true, Bool.not_false]
    have J8 := J7.more hm' hj7 (fun x hx => recol_new (hnew x hx))
    have hK8 : Keep [c15, c16] h6 (setH h7 c17 m (.pointer (some ⟨jn, 0, none⟩))) := fun x hx => by
      have e1 := J.cc x hx
      have e2 := J.c7
      have hne : c17 ≠ x := by rintro rfl; omega
      rw [← hK7 x hx]
      unfold setH
      rw [Array.getElem?_modify, if_neg hne]
    refine ⟨hK8, ?_⟩
    generalize setH h7 c17 m (.pointer (some ⟨jn, 0, none⟩)) = h8 at J8 hK8 ⊢
    refine Join1.intro (fun x hh => x = .bool false ∧ hh = h8) (fun J1 hJ1 => ?_) (fun x h9 hM => ?_)
    · refine Quiet_eq ?_
      have k17 := arr3_cell J8.o17 hm'
      have k16 := arr3_cell J8.o16 hm'
      have hjm := J8.js m (by omega)
      unfold ptrs at k17
      rw [if_pos (by omega)] at k17
      rw [upN_same] at k17 hjm
      simp (disch := first | assumption | (with_reducible exact Ext.refl _) | (with_reducible exact Keep.refl _ _) | (with_reducible exact Eq.refl _) | (intro _ he; cases he; assumption) | (intro _ he; with_reducible apply keep_cell' he; assumption; simp; done) | (intro _ he; with_reducible apply ext_cell' he; assumption; done) | (with_reducible first | exact pl_int _ _ | exact pl_byte _ | exact pl_u32 _ | exact pl_bool _ | exact pl_ptr _ | exact pl_slice _ _ _ | exact pl_map _ | exact pl_str _ | exact pl_func _ _ _) | ((rw [okW_setH]; repeat rw [okW_setH]); assumption) | ((with_reducible refine cellH_setH_same ?_ _); (repeat rw [okW_setH]); assumption) | ((rw [cellH_setH_off]; rotate_left; focus decide); (repeat (rw [cellH_setH_off]; rotate_left; focus decide)); first | assumption | ((with_reducible refine cellH_setH_same ?_ _); (repeat rw [okW_setH]); assumption)) | omega) only [↓hpR, ↓nilC_ptr, ↓nilC_func, ↓condP_true, ↓condP_false, ↓condP_bool, ↓guardP_true, ↓guardP_false, ↓guardP_bool_t, ↓guardP_bool_f, ↓skipP_undef, ↓pickP_bool, ↓b_add, ↓b_sub, ↓b_mul, ↓b_quo, ↓b_rem, ↓b_lss, ↓b_leq, ↓b_gtr, ↓b_geq, ↓b_eql, ↓b_neq, ↓u_not, ↓s_add, ↓s_eql, ↓s_neq, ↓i_max2, ↓i_min2, ↓x20, ↓x21, ↓x30, ↓x31, ↓x32, ↓q_b_add, ↓q_b_sub, ↓q_b_mul, ↓q_b_quo, ↓q_b_rem, ↓q_b_lss, ↓q_b_leq, ↓q_b_gtr, ↓q_b_geq, ↓q_b_eql, ↓q_b_neq, ↓q_u_not, ↓q_s_add, ↓q_s_eql, ↓q_s_neq, ↓q_i_max2, ↓q_i_min2, ↓q_x20, ↓q_x21, ↓q_x30, ↓q_x31, ↓q_x32, ↓m_box, decide_true, decide_false, tt_and, ff_and, Nat.zero_add, Int.toNat_natCast, cells_agg, cells_bool, cells_int, cells_str, cells_ptr, cells_slice, ↓qend_eq, ↓jump_none, ↓jump_ret, ↓jump_exit, ↓marks_one, cond_true, cond_false, Bool.not_true, Bool.not_false, Option.isNone_some]
      refine QCallF_eq (R25 _) (room_spec hjm (by have := T.f m hm'; show M m ≤ 256; omega) ⟨rfl, rfl⟩) ?_
      have hMb := (T.f m hm').2
      simp (disch := first | assumption | (with_reducible exact Ext.refl _) | (with_reducible exact Keep.refl _ _) | (with_reducible exact Eq.refl _) | (intro _ he; cases he; assumption) | (intro _ he; with_reducible apply keep_cell' he; assumption; simp; done) | (intro _ he; with_reducible apply ext_cell' he; assumption; done) | (with_reducible first | exact pl_int _ _ | exact pl_byte _ | exact pl_u32 _ | exact pl_bool _ | exact pl_ptr _ | exact pl_slice _ _ _ | exact pl_map _ | exact pl_str _ | exact pl_func _ _ _) | ((rw [okW_setH]; repeat rw [okW_setH]); assumption) | ((with_reducible refine cellH_setH_same ?_ _); (repeat rw [okW_setH]); assumption) | ((rw [cellH_setH_off]; rotate_left; focus decide); (repeat (rw [cellH_setH_off]; rotate_left; focus decide)); first | assumption | ((with_reducible refine cellH_setH_same ?_ _); (repeat rw [okW_setH]); assumption)) | omega) only [↓hpR, ↓nilC_ptr, ↓nilC_func, ↓condP_true, ↓condP_false, ↓condP_bool, ↓guardP_true, ↓guardP_false, ↓guardP_bool_t, ↓guardP_bool_f, ↓skipP_undef, ↓pickP_bool, ↓b_add, ↓b_sub, ↓b_mul, ↓b_quo, ↓b_rem, ↓b_lss, ↓b_leq, ↓b_gtr, ↓b_geq, ↓b_eql, ↓b_neq, ↓u_not, ↓s_add, ↓s_eql, ↓s_neq, ↓i_max2, ↓i_min2, ↓x20, ↓x21, ↓x30, ↓x31, ↓x32, ↓q_b_add, ↓q_b_sub, ↓q_b_mul, ↓q_b_quo, ↓q_b_rem, ↓q_b_lss, ↓q_b_leq, ↓q_b_gtr, ↓q_b_geq, ↓q_b_eql, ↓q_b_neq, ↓q_u_not, ↓q_s_add, ↓q_s_eql, ↓q_s_neq, ↓q_i_max2, ↓q_i_min2, ↓q_x20, ↓q_x21, ↓q_x30, ↓q_x31, ↓q_x32, ↓m_box, decide_true, decide_false, tt_and, ff_and, Nat.zero_add, Int.toNat_natCast, cells_agg, cells_bool, cells_int, cells_str, cells_ptr, cells_slice, ↓qend_eq, ↓jump_none, ↓jump_ret, ↓jump_exit, ↓marks_one, cond_true, cond_false, Bool.not_true, Bool.not_false]
      have e : decide (32 * ((M m : Nat) : Int) - ((0 : Nat) : Int) = 32 * ((M m : Nat) : Int)) = true := by rw [decide_eq_true_eq]; omega
      rw [e]
      exact hJ1 _ _ ⟨rfl, rfl⟩
    · obtain ⟨rfl, rfl⟩ := hM
      exact ⟨⟨m + 1, by simp, by omega, _, _, _, _, J8⟩, by omega⟩
  have hm' : m = 3 := by simp at hm; omega
  subst hm'
  -- records are appended, in turns
  refine ⟨fun x hh => ∃ q : Nat, x = .int .i64 (q : Int) ∧ q ≤ i ∧ ∃ col s vj wv j L, JS h hh col b g c15 c16 c17 c18 F M s 3 jb vj wv j L ∧ ∀ k, k < 3 → L k = (j k).l, fun x hh => match x with | .int _ q => i - q.toNat | _ => 0, ⟨0, rfl, Nat.zero_le _, _, _, _, _, _, _, J, fun _ _ => rfl⟩, ?_⟩
  clear J vj col s
  rintro js2 x h7 ⟨q, rfl, hqi, col, s, vj, wv, j, L, J, hL⟩
  simp (disch := first | assumption | (with_reducible exact Ext.refl _) | (with_reducible exact Keep.refl _ _) | (with_reducible exact Eq.refl _) | (intro _ he; cases he; assumption) | (intro _ he; with_reducible apply keep_cell' he; assumption; simp; done) | (intro _ he; with_reducible apply ext_cell' he; assumption; done) | (with_reducible first | exact pl_int _ _ | exact pl_byte _ | exact pl_u32 _ | exact pl_bool _ | exact pl_ptr _ | exact pl_slice _ _ _ | exact pl_map _ | exact pl_str _ | exact pl_func _ _ _) | ((rw [okW_setH]; repeat rw [okW_setH]); assumption) | ((with_reducible refine cellH_setH_same ?_ _); (repeat rw [okW_setH]); assumption) | ((rw [cellH_setH_off]; rotate_left; focus decide); (repeat (rw [cellH_setH_off]; rotate_left; focus decide)); first | assumption | ((with_reducible refine cellH_setH_same ?_ _); (repeat rw [okW_setH]); assumption)) | omega) only [↓hpR, ↓nilC_ptr, ↓nilC_func, ↓condP_true, ↓condP_false, ↓condP_bool, ↓guardP_true, ↓guardP_false, ↓guardP_bool_t, ↓guardP_bool_f, ↓skipP_undef, ↓pickP_bool, ↓b_add, ↓b_sub, ↓b_mul, ↓b_quo, ↓b_rem, ↓b_lss, ↓b_leq, ↓b_gtr, ↓b_geq, ↓b_eql, ↓b_neq, ↓u_not, ↓s_add, ↓s_eql, ↓s_neq, ↓i_max2, ↓i_min2, ↓x20, ↓x21, ↓x30, ↓x31, ↓x32, ↓q_b_add, ↓q_b_sub, ↓q_b_mul, ↓q_b_quo, ↓q_b_rem, ↓q_b_lss, ↓q_b_leq, ↓q_b_gtr, ↓q_b_geq, ↓q_b_eql, ↓q_b_neq, ↓q_u_not, ↓q_s_add, ↓q_s_eql, ↓q_s_neq, ↓q_i_max2, ↓q_i_min2, ↓q_x20, ↓q_x21, ↓q_x30, ↓q_x31, ↓q_x32, ↓m_box, decide_true, decide_false, tt_and, ff_and, Nat.zero_add, Int.toNat_natCast, cells_agg, cells_bool, cells_int, cells_str, cells_ptr, cells_slice, ↓qend_eq, ↓jump_none, ↓jump_ret, ↓jump_exit, ↓marks_one, cond_true, cond_false, Bool.not_true, Bool.not_false]
  refine ⟨fun hq => ?_, fun hq => ?_⟩
  · have hq' : q < i := by simp at hq; omega
    refine Join0.intro (fun hh => ∃ col s vj wv j L, JS h hh col b g c15 c16 c17 c18 F M s 3 jb vj wv j L ∧ ∀ k, k < 3 → L k = (j k).l) (fun J0 hJ0 => ?_) (fun h8 hM => ?_)
    · refine Join1.intro (fun x hh => ∃ k : Nat, x = .int .i64 (k : Int) ∧ k < 3 ∧ hh = h7) (fun J1 hJ1 => ?_) (fun x h8 hM => ?_)
      · refine ⟨fun h3 => ?_, fun h3 => hJ1 _ _ ⟨0, rfl, by omega, rfl⟩⟩
        have h3' : q < len3 := by simp at h3; omega
        obtain ⟨tb, to', rfl, hc⟩ := hB2 (by omega)
        have c0 : cellH h7 tb (to' + q) = some (byteV (tg q)) := by
          have := cellH_ext J.ext (hc q h3' 0 (by omega))
          simpa using this
        simp (disch := first | assumption | (with_reducible exact Ext.refl _) | (with_reducible exact Keep.refl _ _) | (with_reducible exact Eq.refl _) | (intro _ he; cases he; assumption) | (intro _ he; with_reducible apply keep_cell' he; assumption; simp; done) | (intro _ he; with_reducible apply ext_cell' he; assumption; done) | (with_reducible first | exact pl_int _ _ | exact pl_byte _ | exact pl_u32 _ | exact pl_bool _ | exact pl_ptr _ | exact pl_slice _ _ _ | exact pl_map _ | exact pl_str _ | exact pl_func _ _ _) | ((rw [okW_setH]; repeat rw [okW_setH]); assumption) | ((with_reducible refine cellH_setH_same ?_ _); (repeat rw [okW_setH]); assumption) | ((rw [cellH_setH_off]; rotate_left; focus decide); (repeat (rw [cellH_setH_off]; rotate_left; focus decide)); first | assumption | ((with_reducible refine cellH_setH_same ?_ _); (repeat rw [okW_setH]); assumption)) | omega) only [↓hpR, ↓nilC_ptr, ↓nilC_func, ↓condP_true, ↓condP_false, ↓condP_bool, ↓guardP_true, ↓guardP_false, ↓guardP_bool_t, ↓guardP_bool_f, ↓skipP_undef, ↓pickP_bool, ↓b_add, ↓b_sub, ↓b_mul, ↓b_quo, ↓b_rem, ↓b_lss, ↓b_leq, ↓b_gtr, ↓b_geq, ↓b_eql, ↓b_neq, ↓u_not, ↓s_add, ↓s_eql, ↓s_neq, ↓i_max2, ↓i_min2, ↓x20, ↓x21, ↓x30, ↓x31, ↓x32, ↓q_b_add, ↓q_b_sub, ↓q_b_mul, ↓q_b_quo, ↓q_b_rem, ↓q_b_lss, ↓q_b_leq, ↓q_b_gtr, ↓q_b_geq, ↓q_b_eql, ↓q_b_neq, ↓q_u_not, ↓q_s_add, ↓q_s_eql, ↓q_s_neq, ↓q_i_max2, ↓q_i_min2, ↓q_x20, ↓q_x21, ↓q_x30, ↓q_x31, ↓q_x32, ↓m_box, decide_true, decide_false, tt_and, ff_and, Nat.zero_add, Int.toNat_natCast, cells_agg, cells_bool, cells_int, cells_str, cells_ptr, cells_slice, ↓qend_eq, ↓jump_none, ↓jump_ret, ↓jump_exit, ↓marks_one, cond_true, cond_false, Bool.not_true, Bool.not_false]
        unfold byteV
        rw [u8_mod (c := 3) _ _ (tg q) 3 rfl (by omega)]
        exact hJ1 _ _ ⟨_, rfl, Nat.mod_lt _ (by omega), rfl⟩
      obtain ⟨k, rfl, hk3, rfl⟩ := hM
      obtain ⟨ab, ao, rfl, hcells⟩ := hA2 (by omega)
      have hcq := hcells q hq' 0 (by omega)
      have hab : ab < h.size := cellH_lt hcq
      have c0 : cellH h8 ab (ao + q) = some (str (f q)) := by
        have := cellH_ext J.ext hcq
        simpa using this
      have k17 := arr3_cell J.o17 hk3
      unfold ptrs at k17
      rw [if_pos hk3] at k17
      obtain ⟨p0, p1, p2⟩ := J.pi k hk3
      have hcb := J.cb b (by simp)
      have hcg := J.cb g (by simp)
      have hcj := J.cj k hk3
      have hco := J.old ab hab
      have hc7 := J.c7
      refine Quiet_keep [c17, ab] ?_
      simp (disch := first | assumption | (with_reducible exact Ext.refl _) | (with_reducible exact Keep.refl _ _) | (with_reducible exact Eq.refl _) | (intro _ he; cases he; assumption) | (intro _ he; with_reducible apply keep_cell' he; assumption; simp; done) | (intro _ he; with_reducible apply ext_cell' he; assumption; done) | (with_reducible first | exact pl_int _ _ | exact pl_byte _ | exact pl_u32 _ | exact pl_bool _ | exact pl_ptr _ | exact pl_slice _ _ _ | exact pl_map _ | exact pl_str _ | exact pl_func _ _ _) | ((rw [okW_setH]; repeat rw [okW_setH]); assumption) | ((with_reducible refine cellH_setH_same ?_ _); (repeat rw [okW_setH]); assumption) | ((rw [cellH_setH_off]; rotate_left; focus decide); (repeat (rw [cellH_setH_off]; rotate_left; focus decide)); first | assumption | ((with_reducible refine cellH_setH_same ?_ _); (repeat rw [okW_setH]); assumption)) | omega) only [↓hpR, ↓nilC_ptr, ↓nilC_func, ↓condP_true, ↓condP_false, ↓condP_bool, ↓guardP_true, ↓guardP_false, ↓guardP_bool_t, ↓guardP_bool_f, ↓skipP_undef, ↓pickP_bool, ↓b_add, ↓b_sub, ↓b_mul, ↓b_quo, ↓b_rem, ↓b_lss, ↓b_leq, ↓b_gtr, ↓b_geq, ↓b_eql, ↓b_neq, ↓u_not, ↓s_add, ↓s_eql, ↓s_neq, ↓i_max2, ↓i_min2, ↓x20, ↓x21, ↓x30, ↓x31, ↓x32, ↓q_b_add, ↓q_b_sub, ↓q_b_mul, ↓q_b_quo, ↓q_b_rem, ↓q_b_lss, ↓q_b_leq, ↓q_b_gtr, ↓q_b_geq, ↓q_b_eql, ↓q_b_neq, ↓q_u_not, ↓q_s_add, ↓q_s_eql, ↓q_s_neq, ↓q_i_max2, ↓q_i_min2, ↓q_x20, ↓q_x21, ↓q_x30, ↓q_x31, ↓q_x32, ↓m_box, decide_true, decide_false, tt_and, ff_and, Nat.zero_add, Int.toNat_natCast, cells_agg, cells_bool, cells_int, cells_str, cells_ptr, cells_slice, ↓qend_eq, ↓jump_none, ↓jump_ret, ↓jump_exit, ↓marks_one, cond_true, cond_false, Bool.not_true, Bool.not_false]
      refine append_spec J.hs (J.js k hk3) p0.fits (fun e => by have := hcj _ (by simp : jb k ∈ jb k :: blk (vj k)); rw [e] at this; omega) (fun e => by have := hcj _ (by simp : jb k ∈ jb k :: blk (vj k)); rw [e] at this; omega)
        (fun hm => by have := hcj b (by simp [hm]); omega) (fun hm => by have := hcj g (by simp [hm]); omega) (f q) (by have := hshort q hq'; omega) fun h9 v' hs9 hj9 o9 b9 => ?_
      have J9 := J.app T hk3 (f q) hs9 hj9 o9 b9
      have hno : ∀ x, col x ≠ 0 → col x ≠ 12 + k → x ∉ b :: g :: jb k :: blk (vj k) := fun x e1 e2 hm => by
        simp only [List.mem_cons] at hm
        rcases hm with rfl | rfl | hm
        · exact e1 hcb
        · exact e1 hcg
        · exact e2 (hcj x (by simpa using hm))
      have hz8 := J.ext.size
      have K9 : Keep [c17, ab] h8 h9 := keep_of o9 (fun x hx => by simp at hx; rcases hx with rfl | rfl; exact J.lt.2.2.1; omega) (fun x hx => by
        simp at hx
        rcases hx with rfl | rfl
        · exact hno _ (by omega) (by omega)
        · exact hno _ (by omega) (by omega))
      refine ⟨K9, ?_⟩
      have hlk : (L k).length ≤ 10000 := by
        have := (J.js k hk3).el
        have := (J.js k hk3).en
        have := T.f k hk3
        rw [hL k hk3]
        omega
      obtain ⟨a1, _⟩ := appendP_parts J.hs.ok J.calm p0 (f q)
      have c9 : cellH h9 ab (ao + q) = some (str (f q)) := keep_cell' K9 c0 (by simp)
      rcases a1 with ⟨hz, hl⟩ | ⟨hz, hl⟩
      · rw [hz]
        simp (disch := first | assumption | (with_reducible exact Ext.refl _) | (with_reducible exact Keep.refl _ _) | (with_reducible exact Eq.refl _) | (intro _ he; cases he; assumption) | (intro _ he; with_reducible apply keep_cell' he; assumption; simp; done) | (intro _ he; with_reducible apply ext_cell' he; assumption; done) | (with_reducible first | exact pl_int _ _ | exact pl_byte _ | exact pl_u32 _ | exact pl_bool _ | exact pl_ptr _ | exact pl_slice _ _ _ | exact pl_map _ | exact pl_str _ | exact pl_func _ _ _) | ((rw [okW_setH]; repeat rw [okW_setH]); assumption) | ((with_reducible refine cellH_setH_same ?_ _); (repeat rw [okW_setH]); assumption) | ((rw [cellH_setH_off]; rotate_left; focus decide); (repeat (rw [cellH_setH_off]; rotate_left; focus decide)); first | assumption | ((with_reducible refine cellH_setH_same ?_ _); (repeat rw [okW_setH]); assumption)) | omega) only [↓hpR, ↓nilC_ptr, ↓nilC_func, ↓condP_true, ↓condP_false, ↓condP_bool, ↓guardP_true, ↓guardP_false, ↓guardP_bool_t, ↓guardP_bool_f, ↓skipP_undef, ↓pickP_bool, ↓b_add, ↓b_sub, ↓b_mul, ↓b_quo, ↓b_rem, ↓b_lss, ↓b_leq, ↓b_gtr, ↓b_geq, ↓b_eql, ↓b_neq, ↓u_not, ↓s_add, ↓s_eql, ↓s_neq, ↓i_max2, ↓i_min2, ↓x20, ↓x21, ↓x30, ↓x31, ↓x32, ↓q_b_add, ↓q_b_sub, ↓q_b_mul, ↓q_b_quo, ↓q_b_rem, ↓q_b_lss, ↓q_b_leq, ↓q_b_gtr, ↓q_b_geq, ↓q_b_eql, ↓q_b_neq, ↓q_u_not, ↓q_s_add, ↓q_s_eql, ↓q_s_neq, ↓q_i_max2, ↓q_i_min2, ↓q_x20, ↓q_x21, ↓q_x30, ↓q_x31, ↓q_x32, ↓m_box, decide_true, decide_false, tt_and, ff_and, Nat.zero_add, Int.toNat_natCast, cells_agg, cells_bool, cells_int, cells_str, cells_ptr, cells_slice, ↓qend_eq, ↓jump_none, ↓jump_ret, ↓jump_exit, ↓marks_one, cond_true, cond_false, Bool.not_true, Bool.not_false]
        refine Quiet_keep [ab] ?_
        have k18 := arr3_cell J9.o18 hk3
        simp (disch := first | assumption | (with_reducible exact Ext.refl _) | (with_reducible exact Keep.refl _ _) | (with_reducible exact Eq.refl _) | (intro _ he; cases he; assumption) | (intro _ he; with_reducible apply keep_cell' he; assumption; simp; done) | (intro _ he; with_reducible apply ext_cell' he; assumption; done) | (with_reducible first | exact pl_int _ _ | exact pl_byte _ | exact pl_u32 _ | exact pl_bool _ | exact pl_ptr _ | exact pl_slice _ _ _ | exact pl_map _ | exact pl_str _ | exact pl_func _ _ _) | ((rw [okW_setH]; repeat rw [okW_setH]); assumption) | ((with_reducible refine cellH_setH_same ?_ _); (repeat rw [okW_setH]); assumption) | ((rw [cellH_setH_off]; rotate_left; focus decide); (repeat (rw [cellH_setH_off]; rotate_left; focus decide)); first | assumption | ((with_reducible refine cellH_setH_same ?_ _); (repeat rw [okW_setH]); assumption)) | omega) only [↓hpR, ↓nilC_ptr, ↓nilC_func, ↓condP_true, ↓condP_false, ↓condP_bool, ↓guardP_true, ↓guardP_false, ↓guardP_bool_t, ↓guardP_bool_f, ↓skipP_undef, ↓pickP_bool, ↓b_add, ↓b_sub, ↓b_mul, ↓b_quo, ↓b_rem, ↓b_lss, ↓b_leq, ↓b_gtr, ↓b_geq, ↓b_eql, ↓b_neq, ↓u_not, ↓s_add, ↓s_eql, ↓s_neq, ↓i_max2, ↓i_min2, ↓x20, ↓x21, ↓x30, ↓x31, ↓x32, ↓q_b_add, ↓q_b_sub, ↓q_b_mul, ↓q_b_quo, ↓q_b_rem, ↓q_b_lss, ↓q_b_leq, ↓q_b_gtr, ↓q_b_geq, ↓q_b_eql, ↓q_b_neq, ↓q_u_not, ↓q_s_add, ↓q_s_eql, ↓q_s_neq, ↓q_i_max2, ↓q_i_min2, ↓q_x20, ↓q_x21, ↓q_x30, ↓q_x31, ↓q_x32, ↓m_box, decide_true, decide_false, tt_and, ff_and, Nat.zero_add, Int.toNat_natCast, cells_agg, cells_bool, cells_int, cells_str, cells_ptr, cells_slice, ↓qend_eq, ↓jump_none, ↓jump_ret, ↓jump_exit, ↓marks_one, cond_true, cond_false, Bool.not_true, Bool.not_false]
        have fin : ∀ h' col' wv', JS h h' col' b g c15 c16 c17 c18 F M (appendP s (j k) (f q)).2.1 3 jb (upN vj k v') wv' (upN j k (appendP s (j k) (f q)).2.2) (upN L k (L k ++ [f q])) → J0 h' := fun h' col' wv' J' => hJ0 _ ⟨_, _, _, _, _, _, J', fun i hi => by
          by_cases e : i = k
          · subst e
            rw [upN_same, upN_same, hl, hL i hi]
          · rw [upN_other _ _ e, upN_other _ _ e]
            exact hL i hi⟩
        have xp := (Ext.refl h9).push (.cells #[str (f q)] 9 (0, 0))
        have hab9 := cellH_lt c9
        have Kp : Keep [ab] h9 (h9.push (.cells #[str (f q)] 9 (0, 0))) := fun x hx => by
          simp only [List.mem_singleton] at hx
          subst hx
          exact xp.block _ hab9
        refine ⟨⟨Keep.refl _ _, Kp, want_step J9 hk3 (f q) hlk hab fin⟩, Kp, ?_⟩
        have k18' := arr3_cell (J9.ext' xp).o18 hk3
        simp (disch := first | assumption | (with_reducible exact Ext.refl _) | (with_reducible exact Keep.refl _ _) | (with_reducible exact Eq.refl _) | (intro _ he; cases he; assumption) | (intro _ he; with_reducible apply keep_cell' he; assumption; simp; done) | (intro _ he; with_reducible apply ext_cell' he; assumption; done) | (with_reducible first | exact pl_int _ _ | exact pl_byte _ | exact pl_u32 _ | exact pl_bool _ | exact pl_ptr _ | exact pl_slice _ _ _ | exact pl_map _ | exact pl_str _ | exact pl_func _ _ _) | ((rw [okW_setH]; repeat rw [okW_setH]); assumption) | ((with_reducible refine cellH_setH_same ?_ _); (repeat rw [okW_setH]); assumption) | ((rw [cellH_setH_off]; rotate_left; focus decide); (repeat (rw [cellH_setH_off]; rotate_left; focus decide)); first | assumption | ((with_reducible refine cellH_setH_same ?_ _); (repeat rw [okW_setH]); assumption)) | omega) only [↓hpR, ↓nilC_ptr, ↓nilC_func, ↓condP_true, ↓condP_false, ↓condP_bool, ↓guardP_true, ↓guardP_false, ↓guardP_bool_t, ↓guardP_bool_f, ↓skipP_undef, ↓pickP_bool, ↓b_add, ↓b_sub, ↓b_mul, ↓b_quo, ↓b_rem, ↓b_lss, ↓b_leq, ↓b_gtr, ↓b_geq, ↓b_eql, ↓b_neq, ↓u_not, ↓s_add, ↓s_eql, ↓s_neq, ↓i_max2, ↓i_min2, ↓x20, ↓x21, ↓x30, ↓x31, ↓x32, ↓q_b_add, ↓q_b_sub, ↓q_b_mul, ↓q_b_quo, ↓q_b_rem, ↓q_b_lss, ↓q_b_leq, ↓q_b_gtr, ↓q_b_geq, ↓q_b_eql, ↓q_b_neq, ↓q_u_not, ↓q_s_add, ↓q_s_eql, ↓q_s_neq, ↓q_i_max2, ↓q_i_min2, ↓q_x20, ↓q_x21, ↓q_x30, ↓q_x31, ↓q_x32, ↓m_box, decide_true, decide_false, tt_and, ff_and, Nat.zero_add, Int.toNat_natCast, cells_agg, cells_bool, cells_int, cells_str, cells_ptr, cells_slice, ↓qend_eq, ↓jump_none, ↓jump_ret, ↓jump_exit, ↓marks_one, cond_true, cond_false, Bool.not_true, Bool.not_false]
        exact ⟨Kp, want_step J9 hk3 (f q) hlk hab fin⟩
      · have fin : J0 h9 := hJ0 _ ⟨_, _, _, _, _, _, J9, fun i hi => by
          by_cases e : i = k
          · subst e
            rw [upN_same, hl, hL i hi]
          · rw [upN_other _ _ e]
            exact hL i hi⟩
        rcases hz with hz | hz
        · rw [hz]
          simp (disch := first | assumption | (with_reducible exact Ext.refl _) | (with_reducible exact Keep.refl _ _) | (with_reducible exact Eq.refl _) | (intro _ he; cases he; assumption) | (intro _ he; with_reducible apply keep_cell' he; assumption; simp; done) | (intro _ he; with_reducible apply ext_cell' he; assumption; done) | (with_reducible first | exact pl_int _ _ | exact pl_byte _ | exact pl_u32 _ | exact pl_bool _ | exact pl_ptr _ | exact pl_slice _ _ _ | exact pl_map _ | exact pl_str _ | exact pl_func _ _ _) | ((rw [okW_setH]; repeat rw [okW_setH]); assumption) | ((with_reducible refine cellH_setH_same ?_ _); (repeat rw [okW_setH]); assumption) | ((rw [cellH_setH_off]; rotate_left; focus decide); (repeat (rw [cellH_setH_off]; rotate_left; focus decide)); first | assumption | ((with_reducible refine cellH_setH_same ?_ _); (repeat rw [okW_setH]); assumption)) | omega) only [↓hpR, ↓nilC_ptr, ↓nilC_func, ↓condP_true, ↓condP_false, ↓condP_bool, ↓guardP_true, ↓guardP_false, ↓guardP_bool_t, ↓guardP_bool_f, ↓skipP_undef, ↓pickP_bool, ↓b_add, ↓b_sub, ↓b_mul, ↓b_quo, ↓b_rem, ↓b_lss, ↓b_leq, ↓b_gtr, ↓b_geq, ↓b_eql, ↓b_neq, ↓u_not, ↓s_add, ↓s_eql, ↓s_neq, ↓i_max2, ↓i_min2, ↓x20, ↓x21, ↓x30, ↓x31, ↓x32, ↓q_b_add, ↓q_b_sub, ↓q_b_mul, ↓q_b_quo, ↓q_b_rem, ↓q_b_lss, ↓q_b_leq, ↓q_b_gtr, ↓q_b_geq, ↓q_b_eql, ↓q_b_neq, ↓q_u_not, ↓q_s_add, ↓q_s_eql, ↓q_s_neq, ↓q_i_max2, ↓q_i_min2, ↓q_x20, ↓q_x21, ↓q_x30, ↓q_x31, ↓q_x32, ↓m_box, decide_true, decide_false, tt_and, ff_and, Nat.zero_add, Int.toNat_natCast, cells_agg, cells_bool, cells_int, cells_str, cells_ptr, cells_slice, ↓qend_eq, ↓jump_none, ↓jump_ret, ↓jump_exit, ↓marks_one, cond_true, cond_false, Bool.not_true, Bool.not_false, Int.reduceEq]
          refine Join1.intro (fun x hh => x = .bool false ∧ hh = h9) (fun J1 hJ1 => ?_) (fun x h10 hM => ?_)
          · exact hJ1 _ _ ⟨rfl, rfl⟩
          · obtain ⟨rfl, rfl⟩ := hM
            exact fin
        · rw [hz]
          simp (disch := first | assumption | (with_reducible exact Ext.refl _) | (with_reducible exact Keep.refl _ _) | (with_reducible exact Eq.refl _) | (intro _ he; cases he; assumption) | (intro _ he; with_reducible apply keep_cell' he; assumption; simp; done) | (intro _ he; with_reducible apply ext_cell' he; assumption; done) | (with_reducible first | exact pl_int _ _ | exact pl_byte _ | exact pl_u32 _ | exact pl_bool _ | exact pl_ptr _ | exact pl_slice _ _ _ | exact pl_map _ | exact pl_str _ | exact pl_func _ _ _) | ((rw [okW_setH]; repeat rw [okW_setH]); assumption) | ((with_reducible refine cellH_setH_same ?_ _); (repeat rw [okW_setH]); assumption) | ((rw [cellH_setH_off]; rotate_left; focus decide); (repeat (rw [cellH_setH_off]; rotate_left; focus decide)); first | assumption | ((with_reducible refine cellH_setH_same ?_ _); (repeat rw [okW_setH]); assumption)) | omega) only [↓hpR, ↓nilC_ptr, ↓nilC_func, ↓condP_true, ↓condP_false, ↓condP_bool, ↓guardP_true, ↓guardP_false, ↓guardP_bool_t, ↓guardP_bool_f, ↓skipP_undef, ↓pickP_bool, ↓b_add, ↓b_sub, ↓b_mul, ↓b_quo, ↓b_rem, ↓b_lss, ↓b_leq, ↓b_gtr, ↓b_geq, ↓b_eql, ↓b_neq, ↓u_not, ↓s_add, ↓s_eql, ↓s_neq, ↓i_max2, ↓i_min2, ↓x20, ↓x21, ↓x30, ↓x31, ↓x32, ↓q_b_add, ↓q_b_sub, ↓q_b_mul, ↓q_b_quo, ↓q_b_rem, ↓q_b_lss, ↓q_b_leq, ↓q_b_gtr, ↓q_b_geq, ↓q_b_eql, ↓q_b_neq, ↓q_u_not, ↓q_s_add, ↓q_s_eql, ↓q_s_neq, ↓q_i_max2, ↓q_i_min2, ↓q_x20, ↓q_x21, ↓q_x30, ↓q_x31, ↓q_x32, ↓m_box, decide_true, decide_false, tt_and, ff_and, Nat.zero_add, Int.toNat_natCast, cells_agg, cells_bool, cells_int, cells_str, cells_ptr, cells_slice, ↓qend_eq, ↓jump_none, ↓jump_ret, ↓jump_exit, ↓marks_one, cond_true, cond_false, Bool.not_true, Bool.not_false, Int.reduceEq]
          refine Join1.intro (fun x hh => x = .bool false ∧ hh = h9) (fun J1 hJ1 => ?_) (fun x h10 hM => ?_)
          · exact hJ1 _ _ ⟨rfl, rfl⟩
          · obtain ⟨rfl, rfl⟩ := hM
            exact fin
    · obtain ⟨col, s, vj, wv, j, L, J, hL⟩ := hM
      exact ⟨⟨q + 1, by simp, by omega, _, _, _, _, _, _, J, hL⟩, by omega⟩
  have hq' : q = i := by simp at hq; omega
  subst hq'
  -- each part is looked at, and opened anew
  refine ⟨fun x hh => ∃ k : Nat, x = .int .i64 (k : Int) ∧ k ≤ 3 ∧ ∃ s, JS h hh col b g c15 c16 c17 c18 F M s 3 jb vj wv j L, fun x hh => match x with | .int _ k => 3 - k.toNat | _ => 0, ⟨0, rfl, by omega, _, J⟩, ?_⟩
  clear J s
  rintro js3 x h8 ⟨k, rfl, hk3, s, J⟩
  simp (disch := first | assumption | (with_reducible exact Ext.refl _) | (with_reducible exact Keep.refl _ _) | (with_reducible exact Eq.refl _) | (intro _ he; cases he; assumption) | (intro _ he; with_reducible apply keep_cell' he; assumption; simp; done) | (intro _ he; with_reducible apply ext_cell' he; assumption; done) | (with_reducible first | exact pl_int _ _ | exact pl_byte _ | exact pl_u32 _ | exact pl_bool _ | exact pl_ptr _ | exact pl_slice _ _ _ | exact pl_map _ | exact pl_str _ | exact pl_func _ _ _) | ((rw [okW_setH]; repeat rw [okW_setH]); assumption) | ((with_reducible refine cellH_setH_same ?_ _); (repeat rw [okW_setH]); assumption) | ((rw [cellH_setH_off]; rotate_left; focus decide); (repeat (rw [cellH_setH_off]; rotate_left; focus decide)); first | assumption | ((with_reducible refine cellH_setH_same ?_ _); (repeat rw [okW_setH]); assumption)) | omega) only [↓hpR, ↓nilC_ptr, ↓nilC_func, ↓condP_true, ↓condP_false, ↓condP_bool, ↓guardP_true, ↓guardP_false, ↓guardP_bool_t, ↓guardP_bool_f, ↓skipP_undef, ↓pickP_bool, ↓b_add, ↓b_sub, ↓b_mul, ↓b_quo, ↓b_rem, ↓b_lss, ↓b_leq, ↓b_gtr, ↓b_geq, ↓b_eql, ↓b_neq, ↓u_not, ↓s_add, ↓s_eql, ↓s_neq, ↓i_max2, ↓i_min2, ↓x20, ↓x21, ↓x30, ↓x31, ↓x32, ↓q_b_add, ↓q_b_sub, ↓q_b_mul, ↓q_b_quo, ↓q_b_rem, ↓q_b_lss, ↓q_b_leq, ↓q_b_gtr, ↓q_b_geq, ↓q_b_eql, ↓q_b_neq, ↓q_u_not, ↓q_s_add, ↓q_s_eql, ↓q_s_neq, ↓q_i_max2, ↓q_i_min2, ↓q_x20, ↓q_x21, ↓q_x30, ↓q_x31, ↓q_x32, ↓m_box, decide_true, decide_false, tt_and, ff_and, Nat.zero_add, Int.toNat_natCast, cells_agg, cells_bool, cells_int, cells_str, cells_ptr, cells_slice, ↓qend_eq, ↓jump_none, ↓jump_ret, ↓jump_exit, ↓marks_one, cond_true, cond_false, Bool.not_true, Bool.not_false]
  refine ⟨fun hk' => ?_, fun hk' => ?_⟩
  · have hk3' : k < 3 := by simp at hk'; omega
    obtain ⟨p0, p1, p2⟩ := J.pi k hk3'
    have k15 := arr3_cell J.o15 hk3'
    have k16 := arr3_cell J.o16 hk3'
    have k18 := arr3_cell J.o18 hk3'
    refine Quiet_keep [c15, c16, c18] ?_
    simp (disch := first | assumption | (with_reducible exact Ext.refl _) | (with_reducible exact Keep.refl _ _) | (with_reducible exact Eq.refl _) | (intro _ he; cases he; assumption) | (intro _ he; with_reducible apply keep_cell' he; assumption; simp; done) | (intro _ he; with_reducible apply ext_cell' he; assumption; done) | (with_reducible first | exact pl_int _ _ | exact pl_byte _ | exact pl_u32 _ | exact pl_bool _ | exact pl_ptr _ | exact pl_slice _ _ _ | exact pl_map _ | exact pl_str _ | exact pl_func _ _ _) | ((rw [okW_setH]; repeat rw [okW_setH]); assumption) | ((with_reducible refine cellH_setH_same ?_ _); (repeat rw [okW_setH]); assumption) | ((rw [cellH_setH_off]; rotate_left; focus decide); (repeat (rw [cellH_setH_off]; rotate_left; focus decide)); first | assumption | ((with_reducible refine cellH_setH_same ?_ _); (repeat rw [okW_setH]); assumption)) | omega) only [↓hpR, ↓nilC_ptr, ↓nilC_func, ↓condP_true, ↓condP_false, ↓condP_bool, ↓guardP_true, ↓guardP_false, ↓guardP_bool_t, ↓guardP_bool_f, ↓skipP_undef, ↓pickP_bool, ↓b_add, ↓b_sub, ↓b_mul, ↓b_quo, ↓b_rem, ↓b_lss, ↓b_leq, ↓b_gtr, ↓b_geq, ↓b_eql, ↓b_neq, ↓u_not, ↓s_add, ↓s_eql, ↓s_neq, ↓i_max2, ↓i_min2, ↓x20, ↓x21, ↓x30, ↓x31, ↓x32, ↓q_b_add, ↓q_b_sub, ↓q_b_mul, ↓q_b_quo, ↓q_b_rem, ↓q_b_lss, ↓q_b_leq, ↓q_b_gtr, ↓q_b_geq, ↓q_b_eql, ↓q_b_neq, ↓q_u_not, ↓q_s_add, ↓q_s_eql, ↓q_s_neq, ↓q_i_max2, ↓q_i_min2, ↓q_x20, ↓q_x21, ↓q_x30, ↓q_x31, ↓q_x32, ↓m_box, decide_true, decide_false, tt_and, ff_and, Nat.zero_add, Int.toNat_natCast, cells_agg, cells_bool, cells_int, cells_str, cells_ptr, cells_slice, ↓qend_eq, ↓jump_none, ↓jump_ret, ↓jump_exit, ↓marks_one, cond_true, cond_false, Bool.not_true, Bool.not_false]
    have hlt := J.lt
    have hc18 := J.lt.2.2.2.1
    have hcc := J.lt.2.1
    have hb3 : ∀ x ∈ [c15, c16, c18], x < h8.size := by
      simp at hcc ⊢
      omega
    rw [← p1, ← p2]
    have hTm := T.f k hk3'
    refine look_at J.hs p0 (by rw [p2]; omega) fun h9 m9 x9 own9 => ⟨keep_ext x9 hb3, ?_⟩
    refine same_spec own9 ((J.ws k hk3').ext x9) ?_
    rw [decide_eq_true (hL k hk3').symm]
    refine ⟨keep_ext x9 hb3, ?_⟩
    have J9 := J.ext' x9
    simp (disch := first | assumption | (with_reducible exact Ext.refl _) | (with_reducible exact Keep.refl _ _) | (with_reducible exact Eq.refl _) | (intro _ he; cases he; assumption) | (intro _ he; with_reducible apply keep_cell' he; assumption; simp; done) | (intro _ he; with_reducible apply ext_cell' he; assumption; done) | (with_reducible first | exact pl_int _ _ | exact pl_byte _ | exact pl_u32 _ | exact pl_bool _ | exact pl_ptr _ | exact pl_slice _ _ _ | exact pl_map _ | exact pl_str _ | exact pl_func _ _ _) | ((rw [okW_setH]; repeat rw [okW_setH]); assumption) | ((with_reducible refine cellH_setH_same ?_ _); (repeat rw [okW_setH]); assumption) | ((rw [cellH_setH_off]; rotate_left; focus decide); (repeat (rw [cellH_setH_off]; rotate_left; focus decide)); first | assumption | ((with_reducible refine cellH_setH_same ?_ _); (repeat rw [okW_setH]); assumption)) | omega) only [↓hpR, ↓nilC_ptr, ↓nilC_func, ↓condP_true, ↓condP_false, ↓condP_bool, ↓guardP_true, ↓guardP_false, ↓guardP_bool_t, ↓guardP_bool_f, ↓skipP_undef, ↓pickP_bool, ↓b_add, ↓b_sub, ↓b_mul, ↓b_quo, ↓b_rem, ↓b_lss, ↓b_leq, ↓b_gtr, ↓b_geq, ↓b_eql, ↓b_neq, ↓u_not, ↓s_add, ↓s_eql, ↓s_neq, ↓i_max2, ↓i_min2, ↓x20, ↓x21, ↓x30, ↓x31, ↓x32, ↓q_b_add, ↓q_b_sub, ↓q_b_mul, ↓q_b_quo, ↓q_b_rem, ↓q_b_lss, ↓q_b_leq, ↓q_b_gtr, ↓q_b_geq, ↓q_b_eql, ↓q_b_neq, ↓q_u_not, ↓q_s_add, ↓q_s_eql, ↓q_s_neq, ↓q_i_max2, ↓q_i_min2, ↓q_x20, ↓q_x21, ↓q_x30, ↓q_x31, ↓q_x32, ↓m_box, decide_true, decide_false, tt_and, ff_and, Nat.zero_add, Int.toNat_natCast, cells_agg, cells_bool, cells_int, cells_str, cells_ptr, cells_slice, ↓qend_eq, ↓jump_none, ↓jump_ret, ↓jump_exit, ↓marks_one, cond_true, cond_false, Bool.not_true, Bool.not_false]
    have k15 := arr3_cell J9.o15 hk3'
    have k16 := arr3_cell J9.o16 hk3'
    refine Quiet_keep [c15, c16] ?_
    simp (disch := first | assumption | (with_reducible exact Ext.refl _) | (with_reducible exact Keep.refl _ _) | (with_reducible exact Eq.refl _) | (intro _ he; cases he; assumption) | (intro _ he; with_reducible apply keep_cell' he; assumption; simp; done) | (intro _ he; with_reducible apply ext_cell' he; assumption; done) | (with_reducible first | exact pl_int _ _ | exact pl_byte _ | exact pl_u32 _ | exact pl_bool _ | exact pl_ptr _ | exact pl_slice _ _ _ | exact pl_map _ | exact pl_str _ | exact pl_func _ _ _) | ((rw [okW_setH]; repeat rw [okW_setH]); assumption) | ((with_reducible refine cellH_setH_same ?_ _); (repeat rw [okW_setH]); assumption) | ((rw [cellH_setH_off]; rotate_left; focus decide); (repeat (rw [cellH_setH_off]; rotate_left; focus decide)); first | assumption | ((with_reducible refine cellH_setH_same ?_ _); (repeat rw [okW_setH]); assumption)) | omega) only [↓hpR, ↓nilC_ptr, ↓nilC_func, ↓condP_true, ↓condP_false, ↓condP_bool, ↓guardP_true, ↓guardP_false, ↓guardP_bool_t, ↓guardP_bool_f, ↓skipP_undef, ↓pickP_bool, ↓b_add, ↓b_sub, ↓b_mul, ↓b_quo, ↓b_rem, ↓b_lss, ↓b_leq, ↓b_gtr, ↓b_geq, ↓b_eql, ↓b_neq, ↓u_not, ↓s_add, ↓s_eql, ↓s_neq, ↓i_max2, ↓i_min2, ↓x20, ↓x21, ↓x30, ↓x31, ↓x32, ↓q_b_add, ↓q_b_sub, ↓q_b_mul, ↓q_b_quo, ↓q_b_rem, ↓q_b_lss, ↓q_b_leq, ↓q_b_gtr, ↓q_b_geq, ↓q_b_eql, ↓q_b_neq, ↓q_u_not, ↓q_s_add, ↓q_s_eql, ↓q_s_neq, ↓q_i_max2, ↓q_i_min2, ↓q_x20, ↓q_x21, ↓q_x30, ↓q_x31, ↓q_x32, ↓m_box, decide_true, decide_false, tt_and, ff_and, Nat.zero_add, Int.toNat_natCast, cells_agg, cells_bool, cells_int, cells_str, cells_ptr, cells_slice, ↓qend_eq, ↓jump_none, ↓jump_ret, ↓jump_exit, ↓marks_one, cond_true, cond_false, Bool.not_true, Bool.not_false]
    rw [← p1, ← p2]
    have hz9 := x9.size
    refine part_at J9.hs J9.calm p0 (by rw [p2]; omega) fun h10 jn vn v2 s' hs10 hc10 hn10 hp10 o10 _ _ own10 _ => ?_
    have hK10 : Keep [c15, c16] h9 h10 := keep_of o10 J9.lt.2.1 fun x hx hm => by
      have e1 := J9.cc x hx
      have e2 := J9.cb x hm
      omega
    have J10 := J9.store o10 hs10 hc10 hn10 hp10
    refine ⟨hK10, ?_⟩
    simp (disch := first | assumption | (with_reducible exact Ext.refl _) | (with_reducible exact Keep.refl _ _) | (with_reducible exact Eq.refl _) | (intro _ he; cases he; assumption) | (intro _ he; with_reducible apply keep_cell' he; assumption; simp; done) | (intro _ he; with_reducible apply ext_cell' he; assumption; done) | (with_reducible first | exact pl_int _ _ | exact pl_byte _ | exact pl_u32 _ | exact pl_bool _ | exact pl_ptr _ | exact pl_slice _ _ _ | exact pl_map _ | exact pl_str _ | exact pl_func _ _ _) | ((rw [okW_setH]; repeat rw [okW_setH]); assumption) | ((with_reducible refine cellH_setH_same ?_ _); (repeat rw [okW_setH]); assumption) | ((rw [cellH_setH_off]; rotate_left; focus decide); (repeat (rw [cellH_setH_off]; rotate_left; focus decide)); first | assumption | ((with_reducible refine cellH_setH_same ?_ _); (repeat rw [okW_setH]); assumption)) | omega) only [↓hpR, ↓nilC_ptr, ↓nilC_func, ↓condP_true, ↓condP_false, ↓condP_bool, ↓guardP_true, ↓guardP_false, ↓guardP_bool_t, ↓guardP_bool_f, ↓skipP_undef, ↓pickP_bool, ↓b_add, ↓b_sub, ↓b_mul, ↓b_quo, ↓b_rem, ↓b_lss, ↓b_leq, ↓b_gtr, ↓b_geq, ↓b_eql, ↓b_neq, ↓u_not, ↓s_add, ↓s_eql, ↓s_neq, ↓i_max2, ↓i_min2, ↓x20, ↓x21, ↓x30, ↓x31, ↓x32, ↓q_b_add, ↓q_b_sub, ↓q_b_mul, ↓q_b_quo, ↓q_b_rem, ↓q_b_lss, ↓q_b_leq, ↓q_b_gtr, ↓q_b_geq, ↓q_b_eql, ↓q_b_neq, ↓q_u_not, ↓q_s_add, ↓q_s_eql, ↓q_s_neq, ↓q_i_max2, ↓q_i_min2, ↓q_x20, ↓q_x21, ↓q_x30, ↓q_x31, ↓q_x32, ↓m_box, decide_true, decide_false, tt_and, ff_and, Nat.zero_add, Int.toNat_natCast, cells_agg, cells_bool, cells_int, cells_str, cells_ptr, cells_slice, ↓qend_eq, ↓jump_none, ↓jump_ret, ↓jump_exit, ↓marks_one, cond_true, cond_false, Bool.not_true, Bool.not_false]
    refine Join1.intro (fun x hh => x = .bool false ∧ ∃ s, JS h hh col b g c15 c16 c17 c18 F M s 3 jb vj wv j L) (fun J1 hJ1 => ?_) (fun x h11 hM => ?_)
    · have k17 := arr3_cell J10.o17 hk3'
      have k18 := arr3_cell J10.o18 hk3'
      unfold ptrs at k17
      rw [if_pos hk3'] at k17
      have hb2 : ∀ x ∈ [c17, c18], x < h10.size := by
        have := J10.lt
        simp
        omega
      refine Quiet_keep [c17, c18] ?_
      simp (disch := first | assumption | (with_reducible exact Ext.refl _) | (with_reducible exact Keep.refl _ _) | (with_reducible exact Eq.refl _) | (intro _ he; cases he; assumption) | (intro _ he; with_reducible apply keep_cell' he; assumption; simp; done) | (intro _ he; with_reducible apply ext_cell' he; assumption; done) | (with_reducible first | exact pl_int _ _ | exact pl_byte _ | exact pl_u32 _ | exact pl_bool _ | exact pl_ptr _ | exact pl_slice _ _ _ | exact pl_map _ | exact pl_str _ | exact pl_func _ _ _) | ((rw [okW_setH]; repeat rw [okW_setH]); assumption) | ((with_reducible refine cellH_setH_same ?_ _); (repeat rw [okW_setH]); assumption) | ((rw [cellH_setH_off]; rotate_left; focus decide); (repeat (rw [cellH_setH_off]; rotate_left; focus decide)); first | assumption | ((with_reducible refine cellH_setH_same ?_ _); (repeat rw [okW_setH]); assumption)) | omega) only [↓hpR, ↓nilC_ptr, ↓nilC_func, ↓condP_true, ↓condP_false, ↓condP_bool, ↓guardP_true, ↓guardP_false, ↓guardP_bool_t, ↓guardP_bool_f, ↓skipP_undef, ↓pickP_bool, ↓b_add, ↓b_sub, ↓b_mul, ↓b_quo, ↓b_rem, ↓b_lss, ↓b_leq, ↓b_gtr, ↓b_geq, ↓b_eql, ↓b_neq, ↓u_not, ↓s_add, ↓s_eql, ↓s_neq, ↓i_max2, ↓i_min2, ↓x20, ↓x21, ↓x30, ↓x31, ↓x32, ↓q_b_add, ↓q_b_sub, ↓q_b_mul, ↓q_b_quo, ↓q_b_rem, ↓q_b_lss, ↓q_b_leq, ↓q_b_gtr, ↓q_b_geq, ↓q_b_eql, ↓q_b_neq, ↓q_u_not, ↓q_s_add, ↓q_s_eql, ↓q_s_neq, ↓q_i_max2, ↓q_i_min2, ↓q_x20, ↓q_x21, ↓q_x30, ↓q_x31, ↓q_x32, ↓m_box, decide_true, decide_false, tt_and, ff_and, Nat.zero_add, Int.toNat_natCast, cells_agg, cells_bool, cells_int, cells_str, cells_ptr, cells_slice, ↓qend_eq, ↓jump_none, ↓jump_ret, ↓jump_exit, ↓marks_one, cond_true, cond_false, Bool.not_true, Bool.not_false]
      refine same_spec own10 (J10.ws k hk3') ?_
      rw [decide_eq_true (hL k hk3').symm]
      refine ⟨Keep.refl _ _, ?_⟩
      simp (disch := first | assumption | (with_reducible exact Ext.refl _) | (with_reducible exact Keep.refl _ _) | (with_reducible exact Eq.refl _) | (intro _ he; cases he; assumption) | (intro _ he; with_reducible apply keep_cell' he; assumption; simp; done) | (intro _ he; with_reducible apply ext_cell' he; assumption; done) | (with_reducible first | exact pl_int _ _ | exact pl_byte _ | exact pl_u32 _ | exact pl_bool _ | exact pl_ptr _ | exact pl_slice _ _ _ | exact pl_map _ | exact pl_str _ | exact pl_func _ _ _) | ((rw [okW_setH]; repeat rw [okW_setH]); assumption) | ((with_reducible refine cellH_setH_same ?_ _); (repeat rw [okW_setH]); assumption) | ((rw [cellH_setH_off]; rotate_left; focus decide); (repeat (rw [cellH_setH_off]; rotate_left; focus decide)); first | assumption | ((with_reducible refine cellH_setH_same ?_ _); (repeat rw [okW_setH]); assumption)) | omega) only [↓hpR, ↓nilC_ptr, ↓nilC_func, ↓condP_true, ↓condP_false, ↓condP_bool, ↓guardP_true, ↓guardP_false, ↓guardP_bool_t, ↓guardP_bool_f, ↓skipP_undef, ↓pickP_bool, ↓b_add, ↓b_sub, ↓b_mul, ↓b_quo, ↓b_rem, ↓b_lss, ↓b_leq, ↓b_gtr, ↓b_geq, ↓b_eql, ↓b_neq, ↓u_not, ↓s_add, ↓s_eql, ↓s_neq, ↓i_max2, ↓i_min2, ↓x20, ↓x21, ↓x30, ↓x31, ↓x32, ↓q_b_add, ↓q_b_sub, ↓q_b_mul, ↓q_b_quo, ↓q_b_rem, ↓q_b_lss, ↓q_b_leq, ↓q_b_gtr, ↓q_b_geq, ↓q_b_eql, ↓q_b_neq, ↓q_u_not, ↓q_s_add, ↓q_s_eql, ↓q_s_neq, ↓q_i_max2, ↓q_i_min2, ↓q_x20, ↓q_x21, ↓q_x30, ↓q_x31, ↓q_x32, ↓m_box, decide_true, decide_false, tt_and, ff_and, Nat.zero_add, Int.toNat_natCast, cells_agg, cells_bool, cells_int, cells_str, cells_ptr, cells_slice, ↓qend_eq, ↓jump_none, ↓jump_ret, ↓jump_exit, ↓marks_one, cond_true, cond_false, Bool.not_true, Bool.not_false]
      refine jrecs_spec (J10.js k hk3') (by rw [p2]; omega) fun h11 v11 x11 own11 => ⟨keep_ext x11 hb2, ?_⟩
      refine same_spec own11 ((J10.ws k hk3').ext x11) ?_
      rw [decide_eq_true (hL k hk3').symm]
      refine ⟨keep_ext x11 hb2, ?_⟩
      simp (disch := first | assumption | (with_reducible exact Ext.refl _) | (with_reducible exact Keep.refl _ _) | (with_reducible exact Eq.refl _) | (intro _ he; cases he; assumption) | (intro _ he; with_reducible apply keep_cell' he; assumption; simp; done) | (intro _ he; with_reducible apply ext_cell' he; assumption; done) | (with_reducible first | exact pl_int _ _ | exact pl_byte _ | exact pl_u32 _ | exact pl_bool _ | exact pl_ptr _ | exact pl_slice _ _ _ | exact pl_map _ | exact pl_str _ | exact pl_func _ _ _) | ((rw [okW_setH]; repeat rw [okW_setH]); assumption) | ((with_reducible refine cellH_setH_same ?_ _); (repeat rw [okW_setH]); assumption) | ((rw [cellH_setH_off]; rotate_left; focus decide); (repeat (rw [cellH_setH_off]; rotate_left; focus decide)); first | assumption | ((with_reducible refine cellH_setH_same ?_ _); (repeat rw [okW_setH]); assumption)) | omega) only [↓hpR, ↓nilC_ptr, ↓nilC_func, ↓condP_true, ↓condP_false, ↓condP_bool, ↓guardP_true, ↓guardP_false, ↓guardP_bool_t, ↓guardP_bool_f, ↓skipP_undef, ↓pickP_bool, ↓b_add, ↓b_sub, ↓b_mul, ↓b_quo, ↓b_rem, ↓b_lss, ↓b_leq, ↓b_gtr, ↓b_geq, ↓b_eql, ↓b_neq, ↓u_not, ↓s_add, ↓s_eql, ↓s_neq, ↓i_max2, ↓i_min2, ↓x20, ↓x21, ↓x30, ↓x31, ↓x32, ↓q_b_add, ↓q_b_sub, ↓q_b_mul, ↓q_b_quo, ↓q_b_rem, ↓q_b_lss, ↓q_b_leq, ↓q_b_gtr, ↓q_b_geq, ↓q_b_eql, ↓q_b_neq, ↓q_u_not, ↓q_s_add, ↓q_s_eql, ↓q_s_neq, ↓q_i_max2, ↓q_i_min2, ↓q_x20, ↓q_x21, ↓q_x30, ↓q_x31, ↓q_x32, ↓m_box, decide_true, decide_false, tt_and, ff_and, Nat.zero_add, Int.toNat_natCast, cells_agg, cells_bool, cells_int, cells_str, cells_ptr, cells_slice, ↓qend_eq, ↓jump_none, ↓jump_ret, ↓jump_exit, ↓marks_one, cond_true, cond_false, Bool.not_true, Bool.not_false]
      exact hJ1 _ _ ⟨rfl, _, J10.ext' x11⟩
    · obtain ⟨rfl, s, J⟩ := hM
      exact ⟨⟨k + 1, by simp, by omega, s, J⟩, by omega⟩
  have hk4 : k = 3 := by simp at hk'; omega
  subst hk4
  -- what is no part
  have x9 := (Ext.refl h8).push (Obj.cells #[Value.int IntKind.i64 (-1), Value.int IntKind.i64 3, Value.int IntKind.i64 60, Value.int IntKind.i64 1, Value.int IntKind.i64 0, Value.int IntKind.i64 61, Value.int IntKind.i64 59, Value.int IntKind.i64 2,
          Value.int IntKind.i64 5, Value.int IntKind.i64 0, Value.int IntKind.i64 1, Value.int IntKind.i64 9223372036854775807] 60 (0, 0))
  have p9 := push_new h8 (Obj.cells #[Value.int IntKind.i64 (-1), Value.int IntKind.i64 3, Value.int IntKind.i64 60, Value.int IntKind.i64 1, Value.int IntKind.i64 0, Value.int IntKind.i64 61, Value.int IntKind.i64 59, Value.int IntKind.i64 2,
          Value.int IntKind.i64 5, Value.int IntKind.i64 0, Value.int IntKind.i64 1, Value.int IntKind.i64 9223372036854775807] 60 (0, 0))
  have hpr : ∀ i, i < 6 → ∀ j u, ([.int .i64 (badPr i).1, .int .i64 (badPr i).2] : List Value)[j]? = some u → cellH (h8.push (Obj.cells #[Value.int IntKind.i64 (-1), Value.int IntKind.i64 3, Value.int IntKind.i64 60, Value.int IntKind.i64 1, Value.int IntKind.i64 0, Value.int IntKind.i64 61, Value.int IntKind.i64 59, Value.int IntKind.i64 2,
          Value.int IntKind.i64 5, Value.int IntKind.i64 0, Value.int IntKind.i64 1, Value.int IntKind.i64 9223372036854775807] 60 (0, 0))) h8.size (i * 2 + j) = some u := by
    intro i hi j u hu
    have hj : j < 2 := by
      have := (List.getElem?_eq_some_iff.1 hu).1
      simpa using this
    rw [cellH_of p9, ← hu]
    match i, j, hi, hj with
    | 0, 0, _, _ => rfl
    | 0, 1, _, _ => rfl
    | 1, 0, _, _ => rfl
    | 1, 1, _, _ => rfl
    | 2, 0, _, _ => rfl
    | 2, 1, _, _ => rfl
    | 3, 0, _, _ => rfl
    | 3, 1, _, _ => rfl
    | 4, 0, _, _ => rfl
    | 4, 1, _, _ => rfl
    | 5, 0, _, _ => rfl
    | 5, 1, _, _ => rfl
  generalize h8.push (Obj.cells #[Value.int IntKind.i64 (-1), Value.int IntKind.i64 3, Value.int IntKind.i64 60, Value.int IntKind.i64 1, Value.int IntKind.i64 0, Value.int IntKind.i64 61, Value.int IntKind.i64 59, Value.int IntKind.i64 2,
          Value.int IntKind.i64 5, Value.int IntKind.i64 0, Value.int IntKind.i64 1, Value.int IntKind.i64 9223372036854775807] 60 (0, 0)) = h9 at x9 p9 hpr ⊢
  have J9 := J.ext' x9
  refine ⟨fun x hh => ∃ k : Nat, x = .int .i64 (k : Int) ∧ k ≤ 6 ∧ Ext h9 hh, fun x hh => match x with | .int _ k => 6 - k.toNat | _ => 0, ⟨0, rfl, by omega, Ext.refl _⟩, ?_⟩
  rintro js4 x h10 ⟨k, rfl, hk6, x10⟩
  simp (disch := first | assumption | (with_reducible exact Ext.refl _) | (with_reducible exact Keep.refl _ _) | (with_reducible exact Eq.refl _) | (intro _ he; cases he; assumption) | (intro _ he; with_reducible apply keep_cell' he; assumption; simp; done) | (intro _ he; with_reducible apply ext_cell' he; assumption; done) | (with_reducible first | exact pl_int _ _ | exact pl_byte _ | exact pl_u32 _ | exact pl_bool _ | exact pl_ptr _ | exact pl_slice _ _ _ | exact pl_map _ | exact pl_str _ | exact pl_func _ _ _) | ((rw [okW_setH]; repeat rw [okW_setH]); assumption) | ((with_reducible refine cellH_setH_same ?_ _); (repeat rw [okW_setH]); assumption) | ((rw [cellH_setH_off]; rotate_left; focus decide); (repeat (rw [cellH_setH_off]; rotate_left; focus decide)); first | assumption | ((with_reducible refine cellH_setH_same ?_ _); (repeat rw [okW_setH]); assumption)) | omega) only [↓hpR, ↓nilC_ptr, ↓nilC_func, ↓condP_true, ↓condP_false, ↓condP_bool, ↓guardP_true, ↓guardP_false, ↓guardP_bool_t, ↓guardP_bool_f, ↓skipP_undef, ↓pickP_bool, ↓b_add, ↓b_sub, ↓b_mul, ↓b_quo, ↓b_rem, ↓b_lss, ↓b_leq, ↓b_gtr, ↓b_geq, ↓b_eql, ↓b_neq, ↓u_not, ↓s_add, ↓s_eql, ↓s_neq, ↓i_max2, ↓i_min2, ↓x20, ↓x21, ↓x30, ↓x31, ↓x32, ↓q_b_add, ↓q_b_sub, ↓q_b_mul, ↓q_b_quo, ↓q_b_rem, ↓q_b_lss, ↓q_b_leq, ↓q_b_gtr, ↓q_b_geq, ↓q_b_eql, ↓q_b_neq, ↓q_u_not, ↓q_s_add, ↓q_s_eql, ↓q_s_neq, ↓q_i_max2, ↓q_i_min2, ↓q_x20, ↓q_x21, ↓q_x30, ↓q_x31, ↓q_x32, ↓m_box, decide_true, decide_false, tt_and, ff_and, Nat.zero_add, Int.toNat_natCast, cells_agg, cells_bool, cells_int, cells_str, cells_ptr, cells_slice, ↓qend_eq, ↓jump_none, ↓jump_ret, ↓jump_exit, ↓marks_one, cond_true, cond_false, Bool.not_true, Bool.not_false]
  refine ⟨fun hk' => ?_, fun hk' => hk _ (J9.ext.trans x10)⟩
  have hk6' : k < 6 := by simp at hk'; omega
  simp (disch := first | assumption | (with_reducible exact Ext.refl _) | (with_reducible exact Keep.refl _ _) | (with_reducible exact Eq.refl _) | (intro _ he; cases he; assumption) | (intro _ he; with_reducible apply keep_cell' he; assumption; simp; done) | (intro _ he; with_reducible apply ext_cell' he; assumption; done) | (with_reducible first | exact pl_int _ _ | exact pl_byte _ | exact pl_u32 _ | exact pl_bool _ | exact pl_ptr _ | exact pl_slice _ _ _ | exact pl_map _ | exact pl_str _ | exact pl_func _ _ _) | ((rw [okW_setH]; repeat rw [okW_setH]); assumption) | ((with_reducible refine cellH_setH_same ?_ _); (repeat rw [okW_setH]); assumption) | ((rw [cellH_setH_off]; rotate_left; focus decide); (repeat (rw [cellH_setH_off]; rotate_left; focus decide)); first | assumption | ((with_reducible refine cellH_setH_same ?_ _); (repeat rw [okW_setH]); assumption)) | omega) only [↓hpR, ↓nilC_ptr, ↓nilC_func, ↓condP_true, ↓condP_false, ↓condP_bool, ↓guardP_true, ↓guardP_false, ↓guardP_bool_t, ↓guardP_bool_f, ↓skipP_undef, ↓pickP_bool, ↓b_add, ↓b_sub, ↓b_mul, ↓b_quo, ↓b_rem, ↓b_lss, ↓b_leq, ↓b_gtr, ↓b_geq, ↓b_eql, ↓b_neq, ↓u_not, ↓s_add, ↓s_eql, ↓s_neq, ↓i_max2, ↓i_min2, ↓x20, ↓x21, ↓x30, ↓x31, ↓x32, ↓q_b_add, ↓q_b_sub, ↓q_b_mul, ↓q_b_quo, ↓q_b_rem, ↓q_b_lss, ↓q_b_leq, ↓q_b_gtr, ↓q_b_geq, ↓q_b_eql, ↓q_b_neq, ↓q_u_not, ↓q_s_add, ↓q_s_eql, ↓q_s_neq, ↓q_i_max2, ↓q_i_min2, ↓q_x20, ↓q_x21, ↓q_x30, ↓q_x31, ↓q_x32, ↓m_box, decide_true, decide_false, tt_and, ff_and, Nat.zero_add, Int.toNat_natCast, cells_agg, cells_bool, cells_int, cells_str, cells_ptr, cells_slice, ↓qend_eq, ↓jump_none, ↓jump_ret, ↓jump_exit, ↓marks_one, cond_true, cond_false, Bool.not_true, Bool.not_false]
  rw [m_loadRow Try.underlying60 rfl size60 (xs := [.int .i64 (badPr k).1, .int .i64 (badPr k).2]) rfl (fun j u hu => cellH_ext x10 (hpr k hk6' j u hu))]
  refine pair_store rfl rfl fun h11 x11 z11 p11 => ?_
  have J11 := (J9.ext' x10).ext' x11
  have c0 : cellH h11 h10.size (Int.toNat 0) = some (.int .i64 (badPr k).1) := by rw [cellH_of p11]; rfl
  have c1 : cellH h11 h10.size (Int.toNat 1) = some (.int .i64 (badPr k).2) := by rw [cellH_of p11]; rfl
  have hbp := badPr_part J11.sn k hk6'
  simp (disch := first | assumption | (with_reducible exact Ext.refl _) | (with_reducible exact Keep.refl _ _) | (with_reducible exact Eq.refl _) | (intro _ he; cases he; assumption) | (intro _ he; with_reducible apply keep_cell' he; assumption; simp; done) | (intro _ he; with_reducible apply ext_cell' he; assumption; done) | (with_reducible first | exact pl_int _ _ | exact pl_byte _ | exact pl_u32 _ | exact pl_bool _ | exact pl_ptr _ | exact pl_slice _ _ _ | exact pl_map _ | exact pl_str _ | exact pl_func _ _ _) | ((rw [okW_setH]; repeat rw [okW_setH]); assumption) | ((with_reducible refine cellH_setH_same ?_ _); (repeat rw [okW_setH]); assumption) | ((rw [cellH_setH_off]; rotate_left; focus decide); (repeat (rw [cellH_setH_off]; rotate_left; focus decide)); first | assumption | ((with_reducible refine cellH_setH_same ?_ _); (repeat rw [okW_setH]); assumption)) | omega) only [↓hpR, ↓nilC_ptr, ↓nilC_func, ↓condP_true, ↓condP_false, ↓condP_bool, ↓guardP_true, ↓guardP_false, ↓guardP_bool_t, ↓guardP_bool_f, ↓skipP_undef, ↓pickP_bool, ↓b_add, ↓b_sub, ↓b_mul, ↓b_quo, ↓b_rem, ↓b_lss, ↓b_leq, ↓b_gtr, ↓b_geq, ↓b_eql, ↓b_neq, ↓u_not, ↓s_add, ↓s_eql, ↓s_neq, ↓i_max2, ↓i_min2, ↓x20, ↓x21, ↓x30, ↓x31, ↓x32, ↓q_b_add, ↓q_b_sub, ↓q_b_mul, ↓q_b_quo, ↓q_b_rem, ↓q_b_lss, ↓q_b_leq, ↓q_b_gtr, ↓q_b_geq, ↓q_b_eql, ↓q_b_neq, ↓q_u_not, ↓q_s_add, ↓q_s_eql, ↓q_s_neq, ↓q_i_max2, ↓q_i_min2, ↓q_x20, ↓q_x21, ↓q_x30, ↓q_x31, ↓q_x32, ↓m_box, decide_true, decide_false, tt_and, ff_and, Nat.zero_add, Int.toNat_natCast, cells_agg, cells_bool, cells_int, cells_str, cells_ptr, cells_slice, ↓qend_eq, ↓jump_none, ↓jump_ret, ↓jump_exit, ↓marks_one, cond_true, cond_false, Bool.not_true, Bool.not_false]
  refine part_spec J11.hs _ _ (fun _ h12 x12 => ?_) (fun hb => by rw [hbp] at hb; cases hb) (fun hb => by rw [hbp] at hb; cases hb)
  have c0 : cellH h12 h10.size (Int.toNat 0) = some (.int .i64 (badPr k).1) := cellH_ext x12 c0
  have c1 : cellH h12 h10.size (Int.toNat 1) = some (.int .i64 (badPr k).2) := cellH_ext x12 c1
  simp (disch := first | assumption | (with_reducible exact Ext.refl _) | (with_reducible exact Keep.refl _ _) | (with_reducible exact Eq.refl _) | (intro _ he; cases he; assumption) | (intro _ he; with_reducible apply keep_cell' he; assumption; simp; done) | (intro _ he; with_reducible apply ext_cell' he; assumption; done) | (with_reducible first | exact pl_int _ _ | exact pl_byte _ | exact pl_u32 _ | exact pl_bool _ | exact pl_ptr _ | exact pl_slice _ _ _ | exact pl_map _ | exact pl_str _ | exact pl_func _ _ _) | ((rw [okW_setH]; repeat rw [okW_setH]); assumption) | ((with_reducible refine cellH_setH_same ?_ _); (repeat rw [okW_setH]); assumption) | ((rw [cellH_setH_off]; rotate_left; focus decide); (repeat (rw [cellH_setH_off]; rotate_left; focus decide)); first | assumption | ((with_reducible refine cellH_setH_same ?_ _); (repeat rw [okW_setH]); assumption)) | omega) only [↓hpR, ↓nilC_ptr, ↓nilC_func, ↓condP_true, ↓condP_false, ↓condP_bool, ↓guardP_true, ↓guardP_false, ↓guardP_bool_t, ↓guardP_bool_f, ↓skipP_undef, ↓pickP_bool, ↓b_add, ↓b_sub, ↓b_mul, ↓b_quo, ↓b_rem, ↓b_lss, ↓b_leq, ↓b_gtr, ↓b_geq, ↓b_eql, ↓b_neq, ↓u_not, ↓s_add, ↓s_eql, ↓s_neq, ↓i_max2, ↓i_min2, ↓x20, ↓x21, ↓x30, ↓x31, ↓x32, ↓q_b_add, ↓q_b_sub, ↓q_b_mul, ↓q_b_quo, ↓q_b_rem, ↓q_b_lss, ↓q_b_leq, ↓q_b_gtr, ↓q_b_geq, ↓q_b_eql, ↓q_b_neq, ↓q_u_not, ↓q_s_add, ↓q_s_eql, ↓q_s_neq, ↓q_i_max2, ↓q_i_min2, ↓q_x20, ↓q_x21, ↓q_x30, ↓q_x31, ↓q_x32, ↓m_box, decide_true, decide_false, tt_and, ff_and, Nat.zero_add, Int.toNat_natCast, cells_agg, cells_bool, cells_int, cells_str, cells_ptr, cells_slice, ↓qend_eq, ↓jump_none, ↓jump_ret, ↓jump_exit, ↓marks_one, cond_true, cond_false, Bool.not_true, Bool.not_false, Option.isNone_none]
  refine Join1.intro (fun x hh => x = .bool false ∧ Ext h9 hh) (fun J1 hJ1 => ?_) (fun x h13 hM => ?_)
  · refine look_spec (J11.hs.ext x12) _ _ (fun _ h13 x13 => ?_) (fun hb => by rw [hbp] at hb; cases hb)
    simp (disch := first | assumption | (with_reducible exact Ext.refl _) | (with_reducible exact Keep.refl _ _) | (with_reducible exact Eq.refl _) | (intro _ he; cases he; assumption) | (intro _ he; with_reducible apply keep_cell' he; assumption; simp; done) | (intro _ he; with_reducible apply ext_cell' he; assumption; done) | (with_reducible first | exact pl_int _ _ | exact pl_byte _ | exact pl_u32 _ | exact pl_bool _ | exact pl_ptr _ | exact pl_slice _ _ _ | exact pl_map _ | exact pl_str _ | exact pl_func _ _ _) | ((rw [okW_setH]; repeat rw [okW_setH]); assumption) | ((with_reducible refine cellH_setH_same ?_ _); (repeat rw [okW_setH]); assumption) | ((rw [cellH_setH_off]; rotate_left; focus decide); (repeat (rw [cellH_setH_off]; rotate_left; focus decide)); first | assumption | ((with_reducible refine cellH_setH_same ?_ _); (repeat rw [okW_setH]); assumption)) | omega) only [↓hpR, ↓nilC_ptr, ↓nilC_func, ↓condP_true, ↓condP_false, ↓condP_bool, ↓guardP_true, ↓guardP_false, ↓guardP_bool_t, ↓guardP_bool_f, ↓skipP_undef, ↓pickP_bool, ↓b_add, ↓b_sub, ↓b_mul, ↓b_quo, ↓b_rem, ↓b_lss, ↓b_leq, ↓b_gtr, ↓b_geq, ↓b_eql, ↓b_neq, ↓u_not, ↓s_add, ↓s_eql, ↓s_neq, ↓i_max2, ↓i_min2, ↓x20, ↓x21, ↓x30, ↓x31, ↓x32, ↓q_b_add, ↓q_b_sub, ↓q_b_mul, ↓q_b_quo, ↓q_b_rem, ↓q_b_lss, ↓q_b_leq, ↓q_b_gtr, ↓q_b_geq, ↓q_b_eql, ↓q_b_neq, ↓q_u_not, ↓q_s_add, ↓q_s_eql, ↓q_s_neq, ↓q_i_max2, ↓q_i_min2, ↓q_x20, ↓q_x21, ↓q_x30, ↓q_x31, ↓q_x32, ↓m_box, decide_true, decide_false, tt_and, ff_and, Nat.zero_add, Int.toNat_natCast, cells_agg, cells_bool, cells_int, cells_str, cells_ptr, cells_slice, ↓qend_eq, ↓jump_none, ↓jump_ret, ↓jump_exit, ↓marks_one, cond_true, cond_false, Bool.not_true, Bool.not_false, Int.natCast_zero]
    exact hJ1 _ _ ⟨rfl, ((x10.trans x11).trans x12).trans x13⟩
  · obtain ⟨rfl, x13⟩ := hM
    simp (disch := first | assumption | (with_reducible exact Ext.refl _) | (with_reducible exact Keep.refl _ _) | (with_reducible exact Eq.refl _) | (intro _ he; cases he; assumption) | (intro _ he; with_reducible apply keep_cell' he; assumption; simp; done) | (intro _ he; with_reducible apply ext_cell' he; assumption; done) | (with_reducible first | exact pl_int _ _ | exact pl_byte _ | exact pl_u32 _ | exact pl_bool _ | exact pl_ptr _ | exact pl_slice _ _ _ | exact pl_map _ | exact pl_str _ | exact pl_func _ _ _) | ((rw [okW_setH]; repeat rw [okW_setH]); assumption) | ((with_reducible refine cellH_setH_same ?_ _); (repeat rw [okW_setH]); assumption) | ((rw [cellH_setH_off]; rotate_left; focus decide); (repeat (rw [cellH_setH_off]; rotate_left; focus decide)); first | assumption | ((with_reducible refine cellH_setH_same ?_ _); (repeat rw [okW_setH]); assumption)) | omega) only [↓hpR, ↓nilC_ptr, ↓nilC_func, ↓condP_true, ↓condP_false, ↓condP_bool, ↓guardP_true, ↓guardP_false, ↓guardP_bool_t, ↓guardP_bool_f, ↓skipP_undef, ↓pickP_bool, ↓b_add, ↓b_sub, ↓b_mul, ↓b_quo, ↓b_rem, ↓b_lss, ↓b_leq, ↓b_gtr, ↓b_geq, ↓b_eql, ↓b_neq, ↓u_not, ↓s_add, ↓s_eql, ↓s_neq, ↓i_max2, ↓i_min2, ↓x20, ↓x21, ↓x30, ↓x31, ↓x32, ↓q_b_add, ↓q_b_sub, ↓q_b_mul, ↓q_b_quo, ↓q_b_rem, ↓q_b_lss, ↓q_b_leq, ↓q_b_gtr, ↓q_b_geq, ↓q_b_eql, ↓q_b_neq, ↓q_u_not, ↓q_s_add, ↓q_s_eql, ↓q_s_neq, ↓q_i_max2, ↓q_i_min2, ↓q_x20, ↓q_x21, ↓q_x30, ↓q_x31, ↓q_x32, ↓m_box, decide_true, decide_false, tt_and, ff_and, Nat.zero_add, Int.toNat_natCast, cells_agg, cells_bool, cells_int, cells_str, cells_ptr, cells_slice, ↓qend_eq, ↓jump_none, ↓jump_ret, ↓jump_exit, ↓marks_one, cond_true, cond_false, Bool.not_true, Bool.not_false]
    exact ⟨⟨k + 1, by simp, by omega, x13⟩, by omega⟩
end Go.Proofs.Ytoefeflmcggbkaa
