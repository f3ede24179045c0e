/- JournalDoes: the walk. -/
import Derived.Test.YtoefeflmcggbkaaJ17
set_option linter.unusedVariables false
set_option linter.unusedSimpArgs false
namespace Go.Proofs.Ytoefeflmcggbkaa
open Go.Hp Go.RowKit

/-- An argument that is a slice of rows of c cells. -/
def ArgS (h : Heap) (v : Value) (n c : Nat) (V : Nat → Nat → Value) : Prop :=
  ∃ A cap, v = .slice A n cap ∧ n ≤ 140737488355328 ∧ (0 < n → ∃ b o, A = some ⟨b, o, none⟩ ∧ ∀ i, i < n → ∀ j, j < c → cellH h b (o + i * c + j) = some (V i j))
theorem cellH_ext {h h' : Heap} (x : Ext h h') {b o : Nat} {v : Value} (hc : cellH h b o = some v) : cellH h' b o = some v := by
  unfold cellH at hc ⊢
  split at hc
  · rename_i c e f hb
    rw [x.at hb]
    exact hc
  · cases hc
theorem ArgS.ext {h h' : Heap} {v : Value} {n c : Nat} {V : Nat → Nat → Value} (a : ArgS h v n c V) (x : Ext h h') : ArgS h' v n c V := by
  obtain ⟨A, cap, rfl, hn, ha⟩ := a
  refine ⟨A, cap, rfl, hn, fun h0 => ?_⟩
  obtain ⟨b, o, rfl, hc⟩ := ha h0
  exact ⟨b, o, rfl, fun i hi j hj => cellH_ext x (hc i hi j hj)⟩

structure ActT where
  k : Int
  n : Int
  m : Int
  t : List UInt8
def ActT.ok (a : ActT) : Prop := -9223372036854775808 ≤ a.k ∧ a.k ≤ 9223372036854775807 ∧ -9223372036854775808 ≤ a.n ∧ a.n ≤ 9223372036854775807 ∧ -9223372036854775808 ≤ a.m ∧ a.m ≤ 9223372036854775807 ∧ a.t.length ≤ 140737488355328
def ActT.V (f : Nat → ActT) (i j : Nat) : Value := match j with
  | 0 => .int .i64 (f i).k
  | 1 => .int .i64 (f i).n
  | 2 => .int .i64 (f i).m
  | _ => str (f i).t

def actObj (a : ActT) : Obj := .cells #[.int .i64 a.k, .int .i64 a.n, .int .i64 a.m, str a.t] 39 (0, 0)
/-- A row of cells is loaded. -/
theorem m_loadRow {P : Program} {h : Heap} {t : TypeId} {d : TypeDesc} (hu : P.underlying t = some d) (hd : aggD d = true) {n : Nat} (hs : (P.info? t).map (·.size) = some (n + 1)) {b o : Nat} {xs : List Value} (hl : xs.length = n + 1)
    (hc : ∀ j u, xs[j]? = some u → cellH h b (o + j) = some u) (K : Value → Heap → Prop) : RunV P (Instr.loadAt t (.pointer (some ⟨b, o, none⟩))) h K = K (.agg xs.toArray) h := by
  have h0 := hc 0 (xs[0]'(by omega)) (List.getElem?_eq_getElem (by omega))
  unfold cellH at h0
  split at h0
  · rename_i c e f hb
    have hcs : ∀ j, j < n + 1 → c[o + j]? = some (xs[j]?.getD undef) := fun j hj => by
      have := hc j (xs[j]'(by omega)) (List.getElem?_eq_getElem (by omega))
      rw [cellH_of hb] at this
      rw [this, List.getElem?_eq_getElem (by omega)]
      rfl
    have hsz : o + (n + 1) ≤ c.size := by
      have := hcs n (by omega)
      have := (Array.getElem?_eq_some_iff.1 this).1
      omega
    rw [m_loadAgg hu hd hs hb hsz]
    have e : c.extract o (o + (n + 1)) = xs.toArray := by
      apply Array.ext_getElem?
      intro j
      by_cases hj : j < n + 1
      · rw [Array.getElem?_extract, if_pos (by omega), hcs j hj]
        simp [List.getElem?_eq_getElem (show j < xs.length by omega)]
      · rw [Array.getElem?_eq_none (by simp; omega), Array.getElem?_eq_none (by simp; omega)]
    rw [e]
  · cases h0
theorem act_store {h : Heap} {a : ActT} {K : Heap → Prop} (hk : ∀ h', Ext h h' → h'.size = h.size + 1 → h'[h.size]? = some (actObj a) → K h') :
    RunU Try.prog (Instr.storeAt 39 (.pointer (some ⟨h.size, 0, none⟩)) (.agg #[.int .i64 a.k, .int .i64 a.n, .int .i64 a.m, str a.t])) (h.push (.cells #[.int .i64 0, .int .i64 0, .int .i64 0, str []] 39 (0, 0))) K := by
  rw [m_storeAgg size39 (push_new _ _) rfl (by simp) (by simp [plainV, str])]
  have e : writeAt #[Value.int .i64 0, .int .i64 0, .int .i64 0, str []] 0 (#[Value.int .i64 a.k, .int .i64 a.n, .int .i64 a.m, str a.t] : Array Value).toList = #[.int .i64 a.k, .int .i64 a.n, .int .i64 a.m, str a.t] := by
    apply Array.ext'
    rw [writeAt_toList _ _ _ (by simp)]
    simp
  rw [e, set_push_new]
  exact hk _ ((Ext.refl h).push _) (by simp) (push_new _ _)

/-- Both journals: none, or of one state, in blocks of their own. -/
structure JQ (h0 h : Heap) (b g rb : Nat) (vs : Value) (s : Sto) (jb rj : Nat) (j : Jr) (v w : Value) : Prop where
  hj : JAt h jb b j v
  hr : RJ h rj rb j w
  fn : j.f + j.n ≤ s.n
  j0 : ∀ k ∈ jb :: blk v, h0.size ≤ k
  r0 : ∀ k ∈ rj :: blk w, h0.size ≤ k
  d1 : ∀ k ∈ jb :: blk v, k ∉ [b, g]
  d2 : ∀ k ∈ jb :: blk v, k ∉ rb :: blk vs
  d3 : ∀ k ∈ rj :: blk w, k ∉ [b, g]
  d4 : ∀ k ∈ rj :: blk w, k ∉ rb :: blk vs
  d5 : ∀ k ∈ jb :: blk v, k ∉ rj :: blk w
def JP (h0 h : Heap) (b g rb : Nat) (vs : Value) (s : Sto) (x y : Value) : Prop :=
  (x = .pointer none ∧ y = .pointer none) ∨
  ∃ jb rj j v w, x = .pointer (some ⟨jb, 0, none⟩) ∧ y = .pointer (some ⟨rj, 0, none⟩) ∧ JQ h0 h b g rb vs s jb rj j v w
structure RS (h0 h : Heap) (b g rb : Nat) (vs : Value) (s : Sto) : Prop where
  ext : Ext h0 h
  hs : StoreAt h b g s
  hr : RAt h rb s vs
  b0 : ∀ k ∈ [b, g], h0.size ≤ k
  r0 : ∀ k ∈ rb :: blk vs, h0.size ≤ k
  d : ∀ k ∈ [b, g], k ∉ rb :: blk vs
structure RI (h0 h : Heap) (b g rb : Nat) (vs : Value) (s : Sto) (x y : Value) : Prop extends RS h0 h b g rb vs s where
  jp : JP h0 h b g rb vs s x y
theorem RS.lt {h0 h : Heap} {b g rb : Nat} {vs : Value} {s : Sto} (r : RS h0 h b g rb vs s) : (∀ k ∈ [b, g], k < h.size) ∧ ∀ k ∈ rb :: blk vs, k < h.size := by
  constructor
  · simp only [List.mem_cons, List.not_mem_nil, or_false]
    rintro k (rfl | rfl)
    · exact r.hs.hd.elim fun _ hw => lt_of_at hw
    · exact lt_of_at r.hs.row
  · intro k hk
    simp only [List.mem_cons] at hk
    rcases hk with rfl | hk
    · exact r.hr.hd.elim fun _ hw => lt_of_at hw
    · exact (r.hr.own.ge k hk).2
theorem JQ.lt {h0 h : Heap} {b g rb : Nat} {vs : Value} {s : Sto} {jb rj : Nat} {j : Jr} {v w : Value} (q : JQ h0 h b g rb vs s jb rj j v w) : (∀ k ∈ jb :: blk v, k < h.size) ∧ ∀ k ∈ rj :: blk w, k < h.size := by
  constructor
  · intro k hk
    simp only [List.mem_cons] at hk
    rcases hk with rfl | hk
    · exact lt_of_at q.hj.hd
    · exact (q.hj.own.ge k hk).2
  · intro k hk
    simp only [List.mem_cons] at hk
    rcases hk with rfl | hk
    · exact lt_of_at q.hr.hd
    · exact (q.hr.own.ge k hk).2
theorem StoreAt.dis {h h' : Heap} {b g : Nat} {s : Sto} {S : List Nat} (hs : StoreAt h b g s) (ho : Only S h h') (hd : ∀ k ∈ [b, g], k ∉ S) : StoreAt h' b g s :=
  hs.only ho (hd _ (by simp)) (hd _ (by simp))
theorem RAt.dis {h h' : Heap} {rb : Nat} {s : Sto} {v : Value} (hr : RAt h rb s v) {S : List Nat} (ho : Only S h h') (hd : ∀ k ∈ rb :: blk v, k ∉ S) : RAt h' rb s v :=
  hr.only ho (hd _ (by simp)) (fun k hk => hd _ (by simp [hk]))
theorem JAt.dis {h h' : Heap} {jb b : Nat} {j : Jr} {v : Value} (hj : JAt h jb b j v) {S : List Nat} (ho : Only S h h') (hd : ∀ k ∈ jb :: blk v, k ∉ S) : JAt h' jb b j v :=
  hj.only ho (hd _ (by simp)) (fun k hk => hd _ (by simp [hk]))
theorem RJ.dis {h h' : Heap} {jb b : Nat} {j : Jr} {v : Value} (hj : RJ h jb b j v) {S : List Nat} (ho : Only S h h') (hd : ∀ k ∈ jb :: blk v, k ∉ S) : RJ h' jb b j v :=
  hj.only ho (hd _ (by simp)) (fun k hk => hd _ (by simp [hk]))
theorem RI.ext' {h0 h h' : Heap} {b g rb : Nat} {vs : Value} {s : Sto} {x y : Value} (r : RI h0 h b g rb vs s x y) (e : Ext h h') : RI h0 h' b g rb vs s x y :=
  ⟨⟨r.ext.trans e, r.hs.ext e, r.hr.ext e, r.b0, r.r0, r.d⟩, r.jp.imp id fun ⟨jb, rj, j, v, w, e1, e2, q⟩ => ⟨jb, rj, j, v, w, e1, e2, ⟨q.hj.ext e, q.hr.ext e, q.fn, q.j0, q.r0, q.d1, q.d2, q.d3, q.d4, q.d5⟩⟩⟩
/-- The stores turn, the journals stand. -/
theorem RI.turn {h0 h h' : Heap} {b g rb : Nat} {vs : Value} {s s' : Sto} {x y : Value} (r : RI h0 h b g rb vs s x y) (o : Only (b :: g :: rb :: blk vs) h h') (hs : StoreAt h' b g s') (hr : RAt h' rb s' vs) (hn : s'.n = s.n) : RI h0 h' b g rb vs s' x y := by
  refine ⟨⟨ext_only_new r.ext o ?_, hs, hr, r.b0, r.r0, r.d⟩, ?_⟩
  · intro k hk
    simp only [List.mem_cons] at hk
    rcases hk with rfl | rfl | hk
    · exact r.b0 _ (by simp)
    · exact r.b0 _ (by simp)
    · exact r.r0 _ (by simpa using hk)
  · refine r.jp.imp id fun ⟨jb, rj, j, v, w, e1, e2, q⟩ => ⟨jb, rj, j, v, w, e1, e2, ⟨q.hj.dis o fun k hk => ?_, q.hr.dis o fun k hk => ?_, by have := q.fn; omega, q.j0, q.r0, q.d1, q.d2, q.d3, q.d4, q.d5⟩⟩
    · have h1 := q.d1 k hk
      have h2 := q.d2 k hk
      simp only [List.mem_cons, List.not_mem_nil, or_false, not_or] at h1 h2 ⊢
      exact ⟨h1.1, h1.2, h2⟩
    · have h1 := q.d3 k hk
      have h2 := q.d4 k hk
      simp only [List.mem_cons, List.not_mem_nil, or_false, not_or] at h1 h2 ⊢
      exact ⟨h1.1, h1.2, h2⟩
theorem putN_n (pf : Nat) (was all : List UInt8) (must : Bool) : ∀ (n i : Nat) (s : Sto), (putN pf was all must n i s).2.n = s.n := by
  intro n
  induction n with
  | zero => intro i s; rfl
  | succ n ih =>
    intro i s
    simp only [putN]
    split
    · exact ih _ _
    · split
      · rw [ih]
        exact writeS_n _ _ _
      · exact writeS_n _ _ _
theorem openP_n (s : Sto) (f n : Nat) : (openP s f n).2.n = s.n := putN_n _ _ _ _ _ _ _
theorem appendP_n (s : Sto) (j : Jr) (r : List UInt8) : (appendP s j r).2.1.n = s.n := by
  unfold appendP
  repeat' split
  all_goals first | rfl | exact putN_n _ _ _ _ _ _ _
theorem appendP_f (s : Sto) (j : Jr) (r : List UInt8) : (appendP s j r).2.2.f = j.f ∧ (appendP s j r).2.2.n = j.n := by
  unfold appendP
  repeat' split
  all_goals exact ⟨rfl, rfl⟩

theorem both_open {h0 h : Heap} {b g rb : Nat} {vs : Value} {s : Sto} (r : RS h0 h b g rb vs s) {N : Value → Value → Value → Value → Value → Value → Heap → Prop}
    (hk : ∀ x y e m m' h' l B B', RI h0 h' b g rb vs (openP s 0 s.n).2 x y → Own h' B 9 1 m l.length (strs l) → Own h' B' 9 1 m' l.length (strs l) → N x m (.int .i64 e) y m' (.int .i64 e) h') :
    CallF Try.prog 8 #[.pointer (some ⟨b, 0, none⟩)] h fun t51 h_13 =>
      RunV Try.prog (Instr.extract t51 0) h_13 fun t52 h_14 =>
      RunV Try.prog (Instr.extract t51 1) h_14 fun t53 h_15 =>
      RunV Try.prog (Instr.extract t51 2) h_15 fun t54 h_16 =>
      CallF Try.prog 9 #[.pointer (some ⟨rb, 0, none⟩)] h_16 fun t57 h_17 =>
      RunV Try.prog (Instr.extract t57 0) h_17 fun t58 h_18 =>
      RunV Try.prog (Instr.extract t57 1) h_18 fun t59 h_19 =>
      RunV Try.prog (Instr.extract t57 2) h_19 fun t60 h_20 => N t52 t53 t54 t58 t59 t60 h_20 := by
  have hlt := r.lt
  have hz := r.ext.size
  refine open_spec r.hs (fun he h1 hs1 o1 => ?_) (fun he h1 jb v m hs1 o1 hj1 jge vge dis own1 => ?_)
  · simp (disch := first | assumption | (with_reducible exact Ext.refl _) | (with_reducible exact Keep.refl _ _) | (with_reducible exact Eq.refl _) | (intro _ he; cases he; assumption) | (intro _ he; with_reducible apply keep_cell' he; assumption; simp; done) | (intro _ he; with_reducible apply ext_cell' he; assumption; done) | (with_reducible first | exact pl_int _ _ | exact pl_byte _ | exact pl_u32 _ | exact pl_bool _ | exact pl_ptr _ | exact pl_slice _ _ _ | exact pl_map _ | exact pl_str _ | exact pl_func _ _ _) | ((rw [okW_setH]; repeat rw [okW_setH]); assumption) | ((with_reducible refine cellH_setH_same ?_ _); (repeat rw [okW_setH]); assumption) | ((rw [cellH_setH_off]; rotate_left; focus decide); (repeat (rw [cellH_setH_off]; rotate_left; focus decide)); first | assumption | ((with_reducible refine cellH_setH_same ?_ _); (repeat rw [okW_setH]); assumption)) | omega) only [↓hpR, ↓nilC_ptr, ↓nilC_func, ↓condP_true, ↓condP_false, ↓condP_bool, ↓guardP_true, ↓guardP_false, ↓guardP_bool_t, ↓guardP_bool_f, ↓skipP_undef, ↓pickP_bool, ↓b_add, ↓b_sub, ↓b_mul, ↓b_quo, ↓b_rem, ↓b_lss, ↓b_leq, ↓b_gtr, ↓b_geq, ↓b_eql, ↓b_neq, ↓u_not, ↓s_add, ↓s_eql, ↓s_neq, ↓i_max2, ↓i_min2, ↓x20, ↓x21, ↓x30, ↓x31, ↓x32, ↓q_b_add, ↓q_b_sub, ↓q_b_mul, ↓q_b_quo, ↓q_b_rem, ↓q_b_lss, ↓q_b_leq, ↓q_b_gtr, ↓q_b_geq, ↓q_b_eql, ↓q_b_neq, ↓q_u_not, ↓q_s_add, ↓q_s_eql, ↓q_s_neq, ↓q_i_max2, ↓q_i_min2, ↓q_x20, ↓q_x21, ↓q_x30, ↓q_x31, ↓q_x32, ↓m_box, decide_true, decide_false, tt_and, ff_and, Nat.zero_add, Int.toNat_natCast, cells_agg, cells_bool, cells_int, cells_str, cells_ptr, cells_slice, ↓qend_eq, ↓jump_none, ↓jump_ret, ↓jump_exit, ↓marks_one, cond_true, cond_false, Bool.not_true, Bool.not_false]
    have hr1 := r.hr.dis o1 (fun k hk hm => r.d k hm hk)
    refine ropen_spec hr1 (fun _ h2 hr2 o2 => ?_) (fun hc => absurd hc he)
    simp (disch := first | assumption | (with_reducible exact Ext.refl _) | (with_reducible exact Keep.refl _ _) | (with_reducible exact Eq.refl _) | (intro _ he; cases he; assumption) | (intro _ he; with_reducible apply keep_cell' he; assumption; simp; done) | (intro _ he; with_reducible apply ext_cell' he; assumption; done) | (with_reducible first | exact pl_int _ _ | exact pl_byte _ | exact pl_u32 _ | exact pl_bool _ | exact pl_ptr _ | exact pl_slice _ _ _ | exact pl_map _ | exact pl_str _ | exact pl_func _ _ _) | ((rw [okW_setH]; repeat rw [okW_setH]); assumption) | ((with_reducible refine cellH_setH_same ?_ _); (repeat rw [okW_setH]); assumption) | ((rw [cellH_setH_off]; rotate_left; focus decide); (repeat (rw [cellH_setH_off]; rotate_left; focus decide)); first | assumption | ((with_reducible refine cellH_setH_same ?_ _); (repeat rw [okW_setH]); assumption)) | omega) only [↓hpR, ↓nilC_ptr, ↓nilC_func, ↓condP_true, ↓condP_false, ↓condP_bool, ↓guardP_true, ↓guardP_false, ↓guardP_bool_t, ↓guardP_bool_f, ↓skipP_undef, ↓pickP_bool, ↓b_add, ↓b_sub, ↓b_mul, ↓b_quo, ↓b_rem, ↓b_lss, ↓b_leq, ↓b_gtr, ↓b_geq, ↓b_eql, ↓b_neq, ↓u_not, ↓s_add, ↓s_eql, ↓s_neq, ↓i_max2, ↓i_min2, ↓x20, ↓x21, ↓x30, ↓x31, ↓x32, ↓q_b_add, ↓q_b_sub, ↓q_b_mul, ↓q_b_quo, ↓q_b_rem, ↓q_b_lss, ↓q_b_leq, ↓q_b_gtr, ↓q_b_geq, ↓q_b_eql, ↓q_b_neq, ↓q_u_not, ↓q_s_add, ↓q_s_eql, ↓q_s_neq, ↓q_i_max2, ↓q_i_min2, ↓q_x20, ↓q_x21, ↓q_x30, ↓q_x31, ↓q_x32, ↓m_box, decide_true, decide_false, tt_and, ff_and, Nat.zero_add, Int.toNat_natCast, cells_agg, cells_bool, cells_int, cells_str, cells_ptr, cells_slice, ↓qend_eq, ↓jump_none, ↓jump_ret, ↓jump_exit, ↓marks_one, cond_true, cond_false, Bool.not_true, Bool.not_false]
    have o1' := o1.mono (T := b :: g :: rb :: blk vs) (by simp)
    have o2' := o2.mono (T := b :: g :: rb :: blk vs) (by intro k hk; simp only [List.mem_cons] at hk ⊢; exact .inr (.inr hk))
    refine hk _ _ _ _ _ _ [] 0 0 ⟨⟨ext_only_new r.ext (o1'.trans o2') ?_, hs1.dis o2 r.d, hr2, r.b0, r.r0, r.d⟩, .inl ⟨rfl, rfl⟩⟩ (Own.nil _ _ _ _) (Own.nil _ _ _ _)
    intro k hk
    simp only [List.mem_cons] at hk
    rcases hk with rfl | rfl | hk
    · exact r.b0 _ (by simp)
    · exact r.b0 _ (by simp)
    · exact r.r0 _ (by simpa using hk)
  · simp (disch := first | assumption | (with_reducible exact Ext.refl _) | (with_reducible exact Keep.refl _ _) | (with_reducible exact Eq.refl _) | (intro _ he; cases he; assumption) | (intro _ he; with_reducible apply keep_cell' he; assumption; simp; done) | (intro _ he; with_reducible apply ext_cell' he; assumption; done) | (with_reducible first | exact pl_int _ _ | exact pl_byte _ | exact pl_u32 _ | exact pl_bool _ | exact pl_ptr _ | exact pl_slice _ _ _ | exact pl_map _ | exact pl_str _ | exact pl_func _ _ _) | ((rw [okW_setH]; repeat rw [okW_setH]); assumption) | ((with_reducible refine cellH_setH_same ?_ _); (repeat rw [okW_setH]); assumption) | ((rw [cellH_setH_off]; rotate_left; focus decide); (repeat (rw [cellH_setH_off]; rotate_left; focus decide)); first | assumption | ((with_reducible refine cellH_setH_same ?_ _); (repeat rw [okW_setH]); assumption)) | omega) only [↓hpR, ↓nilC_ptr, ↓nilC_func, ↓condP_true, ↓condP_false, ↓condP_bool, ↓guardP_true, ↓guardP_false, ↓guardP_bool_t, ↓guardP_bool_f, ↓skipP_undef, ↓pickP_bool, ↓b_add, ↓b_sub, ↓b_mul, ↓b_quo, ↓b_rem, ↓b_lss, ↓b_leq, ↓b_gtr, ↓b_geq, ↓b_eql, ↓b_neq, ↓u_not, ↓s_add, ↓s_eql, ↓s_neq, ↓i_max2, ↓i_min2, ↓x20, ↓x21, ↓x30, ↓x31, ↓x32, ↓q_b_add, ↓q_b_sub, ↓q_b_mul, ↓q_b_quo, ↓q_b_rem, ↓q_b_lss, ↓q_b_leq, ↓q_b_gtr, ↓q_b_geq, ↓q_b_eql, ↓q_b_neq, ↓q_u_not, ↓q_s_add, ↓q_s_eql, ↓q_s_neq, ↓q_i_max2, ↓q_i_min2, ↓q_x20, ↓q_x21, ↓q_x30, ↓q_x31, ↓q_x32, ↓m_box, decide_true, decide_false, tt_and, ff_and, Nat.zero_add, Int.toNat_natCast, cells_agg, cells_bool, cells_int, cells_str, cells_ptr, cells_slice, ↓qend_eq, ↓jump_none, ↓jump_ret, ↓jump_exit, ↓marks_one, cond_true, cond_false, Bool.not_true, Bool.not_false]
    have hr1 := r.hr.dis o1 (fun k hk hm => r.d k hm hk)
    have hz1 := o1.size
    refine ropen_spec hr1 (fun hc => absurd he hc) (fun _ h2 rj w hr2 o2 hj2 rge wge => ?_)
    simp (disch := first | assumption | (with_reducible exact Ext.refl _) | (with_reducible exact Keep.refl _ _) | (with_reducible exact Eq.refl _) | (intro _ he; cases he; assumption) | (intro _ he; with_reducible apply keep_cell' he; assumption; simp; done) | (intro _ he; with_reducible apply ext_cell' he; assumption; done) | (with_reducible first | exact pl_int _ _ | exact pl_byte _ | exact pl_u32 _ | exact pl_bool _ | exact pl_ptr _ | exact pl_slice _ _ _ | exact pl_map _ | exact pl_str _ | exact pl_func _ _ _) | ((rw [okW_setH]; repeat rw [okW_setH]); assumption) | ((with_reducible refine cellH_setH_same ?_ _); (repeat rw [okW_setH]); assumption) | ((rw [cellH_setH_off]; rotate_left; focus decide); (repeat (rw [cellH_setH_off]; rotate_left; focus decide)); first | assumption | ((with_reducible refine cellH_setH_same ?_ _); (repeat rw [okW_setH]); assumption)) | omega) only [↓hpR, ↓nilC_ptr, ↓nilC_func, ↓condP_true, ↓condP_false, ↓condP_bool, ↓guardP_true, ↓guardP_false, ↓guardP_bool_t, ↓guardP_bool_f, ↓skipP_undef, ↓pickP_bool, ↓b_add, ↓b_sub, ↓b_mul, ↓b_quo, ↓b_rem, ↓b_lss, ↓b_leq, ↓b_gtr, ↓b_geq, ↓b_eql, ↓b_neq, ↓u_not, ↓s_add, ↓s_eql, ↓s_neq, ↓i_max2, ↓i_min2, ↓x20, ↓x21, ↓x30, ↓x31, ↓x32, ↓q_b_add, ↓q_b_sub, ↓q_b_mul, ↓q_b_quo, ↓q_b_rem, ↓q_b_lss, ↓q_b_leq, ↓q_b_gtr, ↓q_b_geq, ↓q_b_eql, ↓q_b_neq, ↓q_u_not, ↓q_s_add, ↓q_s_eql, ↓q_s_neq, ↓q_i_max2, ↓q_i_min2, ↓q_x20, ↓q_x21, ↓q_x30, ↓q_x31, ↓q_x32, ↓m_box, decide_true, decide_false, tt_and, ff_and, Nat.zero_add, Int.toNat_natCast, cells_agg, cells_bool, cells_int, cells_str, cells_ptr, cells_slice, ↓qend_eq, ↓jump_none, ↓jump_ret, ↓jump_exit, ↓marks_one, cond_true, cond_false, Bool.not_true, Bool.not_false]
    have o1' := o1.mono (T := b :: g :: rb :: blk vs) (by simp)
    have o2' := o2.mono (T := b :: g :: rb :: blk vs) (by intro k hk; simp only [List.mem_cons] at hk ⊢; exact .inr (.inr hk))
    have hjl : ∀ k ∈ jb :: blk v, h.size ≤ k ∧ k < h1.size := by
      intro k hk
      simp only [List.mem_cons] at hk
      rcases hk with rfl | hk
      · exact ⟨jge, lt_of_at hj1.hd⟩
      · exact ⟨vge k hk, (hj1.own.ge k hk).2⟩
    have hrl : ∀ k ∈ rj :: blk w, h1.size ≤ k := by
      intro k hk
      simp only [List.mem_cons] at hk
      rcases hk with rfl | hk
      · exact rge
      · exact wge k hk
    refine hk _ _ _ _ _ _ (jr0 s 0 s.n).l h.size 0 ⟨⟨ext_only_new r.ext (o1'.trans o2') ?_, hs1.dis o2 r.d, hr2, r.b0, r.r0, r.d⟩, .inr ⟨jb, rj, jr0 s 0 s.n, v, w, rfl, rfl, ⟨hj1.dis o2 ?_, hj2, ?_, ?_, ?_, ?_, ?_, ?_, ?_, ?_⟩⟩⟩ (own1.only o2 ?_) hj2.own
    · intro k hk
      simp only [List.mem_cons] at hk
      rcases hk with rfl | rfl | hk
      · exact r.b0 _ (by simp)
      · exact r.b0 _ (by simp)
      · exact r.r0 _ (by simpa using hk)
    · intro k hk hm
      have := (hjl k hk).1
      have := hlt.2 k hm
      omega
    · rw [openP_n]
      show 0 + s.n ≤ s.n
      omega
    · intro k hk
      have := (hjl k hk).1
      omega
    · intro k hk
      have := hrl k hk
      omega
    · intro k hk hm
      have := (hjl k hk).1
      have := hlt.1 k hm
      omega
    · intro k hk hm
      have := (hjl k hk).1
      have := hlt.2 k hm
      omega
    · intro k hk hm
      have := hrl k hk
      have := hlt.1 k hm
      omega
    · intro k hk hm
      have := hrl k hk
      have := hlt.2 k hm
      omega
    · intro k hk hm
      have := (hjl k hk).2
      have := hrl k hm
      omega
    · intro k hk hm
      have := (own1.ge k hk).1
      have := hlt.2 k hm
      omega
theorem JQ.ext' {h0 h h' : Heap} {b g rb : Nat} {vs : Value} {s : Sto} {jb rj : Nat} {j : Jr} {v w : Value} (q : JQ h0 h b g rb vs s jb rj j v w) (e : Ext h h') : JQ h0 h' b g rb vs s jb rj j v w :=
  ⟨q.hj.ext e, q.hr.ext e, q.fn, q.j0, q.r0, q.d1, q.d2, q.d3, q.d4, q.d5⟩
theorem notin {l : List Nat} {p : Nat} (h : ∀ k ∈ l, k < p) : p ∉ l := fun hm => absurd (h p hm) (Nat.lt_irrefl _)
theorem keep_only {S : List Nat} {h h' : Heap} (o : Only S h h') {p : Nat} (hp : p < h.size) (hS : p ∉ S) : Keep [p] h h' := fun k hk => by
  simp only [List.mem_singleton] at hk
  subst hk
  exact o.block _ hp hS
theorem both_append {h0 h : Heap} {b g rb jb rj : Nat} {vs : Value} {s : Sto} {j : Jr} {v w : Value} (r : RS h0 h b g rb vs s) (q : JQ h0 h b g rb vs s jb rj j v w) (t : List UInt8) (ht : t.length ≤ 500)
    {p : Nat} (hp : p < h.size) (hp1 : p ∉ [b, g]) (hp2 : p ∉ rb :: blk vs) (hp3 : p ∉ jb :: blk v) (hp4 : p ∉ rj :: blk w) {N : Value → Value → Heap → Prop}
    (hk : ∀ e h2 s', RI h0 h2 b g rb vs s' (.pointer (some ⟨jb, 0, none⟩)) (.pointer (some ⟨rj, 0, none⟩)) → N (.int .i64 e) (.int .i64 e) h2) :
    CallF Try.prog 10 #[.pointer (some ⟨jb, 0, none⟩), str t] h fun u h1 => Keep [p] h h1 ∧ CallF Try.prog 11 #[.pointer (some ⟨rj, 0, none⟩), str t] h1 fun u' h2 => Keep [p] h h2 ∧ N u u' h2 := by
  obtain ⟨hj, hr, fn, j0, r0, d1, d2, d3, d4, d5⟩ := q
  have hlt := r.lt
  have e1 := d1 jb (by simp)
  have e2 := d2 jb (by simp)
  have e3 := d3 rj (by simp)
  have e4 := d4 rj (by simp)
  simp only [List.mem_cons, List.not_mem_nil, or_false, not_or] at hp1 hp2 hp3 hp4 e1 e2 e3 e4
  refine append_spec r.hs hj fn e1.1 e1.2 (fun hm => (d1 b (by simp [hm])) (by simp)) (fun hm => (d1 g (by simp [hm])) (by simp)) t (by omega) fun h1 v' hs1 hj1 o1 b1 => ?_
  have k1 : Keep [p] h h1 := keep_only o1 hp (by simp only [List.mem_cons, not_or]; exact ⟨hp1.1, hp1.2, hp3.1, hp3.2⟩)
  have hr1 : RAt h1 rb s vs := r.hr.dis o1 fun k hi hm => by
    simp only [List.mem_cons] at hm
    rcases hm with e | e | hm
    · exact r.d k (by simp [e]) hi
    · exact r.d k (by simp [e]) hi
    · exact d2 k (by simpa using hm) hi
  have hq1 : RJ h1 rj rb j w := hr.dis o1 fun k hi hm => by
    simp only [List.mem_cons] at hm
    rcases hm with e | e | hm
    · exact d3 k hi (by simp [e])
    · exact d3 k hi (by simp [e])
    · exact d5 k (by simpa using hm) hi
  refine ⟨k1, rappend_spec hr1 hq1 fn e4.1 e4.2 (fun hm => (d4 rb (by simp [hm])) (by simp)) (fun k hk hm => d4 k (by simp [hk]) (by simp [hm])) t (by omega) fun h2 w' hr2 hq2 o2 b2 => ?_⟩
  have hsz := o1.size
  have S2 : ∀ k, k < h.size → k ∉ rb :: blk vs → k ≠ rj → k ∉ rb :: rj :: blk vs := fun k _ hk h' hm => by
    simp only [List.mem_cons, not_or] at hk hm
    rcases hm with rfl | rfl | hm
    · exact hk.1 rfl
    · exact h' rfl
    · exact hk.2 hm
  have k2 : Keep [p] h1 h2 := keep_only o2 (by omega) (by simp only [List.mem_cons, not_or]; exact ⟨hp2.1, hp4.1, hp2.2⟩)
  have hjv : ∀ k ∈ jb :: blk v', k ∈ jb :: blk v ∨ h.size ≤ k := fun k hk => by
    simp only [List.mem_cons] at hk ⊢
    rcases hk with rfl | hk
    · exact .inl (.inl rfl)
    · rcases b1 k hk with h' | h'
      · exact .inl (.inr h')
      · exact .inr h'
  have hjv1 : ∀ k ∈ jb :: blk v', k < h1.size := fun k hk => by
    simp only [List.mem_cons] at hk
    rcases hk with rfl | hk
    · exact lt_of_at hj1.hd
    · exact (hj1.own.ge k hk).2
  have hrw : ∀ k ∈ rj :: blk w', k ∈ rj :: blk w ∨ h1.size ≤ k := fun k hk => by
    simp only [List.mem_cons] at hk ⊢
    rcases hk with rfl | hk
    · exact .inl (.inl rfl)
    · rcases b2 k hk with h' | h'
      · exact .inl (.inr h')
      · exact .inr h'
  have hwl : ∀ k ∈ rj :: blk w, k < h.size := fun k hk => by
    simp only [List.mem_cons] at hk
    rcases hk with rfl | hk
    · exact lt_of_at hr.hd
    · exact (hr.own.ge k hk).2
  have ext2 : Ext h0 h2 := by
    refine ext_only_new (ext_only_new r.ext o1 ?_) o2 ?_
    · intro k hk
      simp only [List.mem_cons] at hk
      rcases hk with rfl | rfl | hk
      · exact r.b0 _ (by simp)
      · exact r.b0 _ (by simp)
      · exact j0 k (by simpa using hk)
    · intro k hk
      simp only [List.mem_cons] at hk
      rcases hk with rfl | rfl | hk
      · exact r.r0 _ (by simp)
      · exact r0 _ (by simp)
      · exact r.r0 k (by simp [hk])
  have z0 := r.ext.size
  refine ⟨fun k hk => (k2 k hk).trans (k1 k hk), hk _ h2 _ ⟨⟨ext2, ?_, hr2, r.b0, r.r0, r.d⟩, .inr ⟨jb, rj, _, v', w', rfl, rfl, ⟨?_, hq2, ?_, ?_, ?_, ?_, ?_, ?_, ?_, ?_⟩⟩⟩⟩
  · refine hs1.dis o2 fun k hi => S2 k (hlt.1 k hi) (r.d k hi) ?_
    rintro rfl
    exact d3 _ (by simp) hi
  · refine hj1.dis o2 fun k hk hm => ?_
    have hm' : k ∈ rj :: blk w ∨ k ∈ rb :: blk vs := by
      simp only [List.mem_cons] at hm ⊢
      rcases hm with h' | h' | h' <;> simp [h']
    rcases hjv k hk with h' | h'
    · rcases hm' with h3 | h3
      · exact d5 k h' h3
      · exact d2 k h' h3
    · rcases hm' with h3 | h3
      · have := hwl k h3; omega
      · have := hlt.2 k h3; omega
  · rw [(appendP_f s j t).1, (appendP_f s j t).2, appendP_n]; exact fn
  · intro k hk
    rcases hjv k hk with h' | h'
    · exact j0 k h'
    · omega
  · intro k hk
    rcases hrw k hk with h' | h'
    · exact r0 k h'
    · omega
  · intro k hk hm
    rcases hjv k hk with h' | h'
    · exact d1 k h' hm
    · have := hlt.1 k hm; omega
  · intro k hk hm
    rcases hjv k hk with h' | h'
    · exact d2 k h' hm
    · have := hlt.2 k hm; omega
  · intro k hk hm
    rcases hrw k hk with h' | h'
    · exact d3 k h' hm
    · have := hlt.1 k hm; omega
  · intro k hk hm
    rcases hrw k hk with h' | h'
    · exact d4 k h' hm
    · have := hlt.2 k hm; omega
  · intro k hk hm
    rcases hjv k hk with h' | h'
    · rcases hrw k hm with h3 | h3
      · exact d5 k h' h3
      · have := hjv1 k hk; omega
    · rcases hrw k hm with h3 | h3
      · have := hwl k h3; omega
      · have := hjv1 k hk; omega
end Go.Proofs.Ytoefeflmcggbkaa
