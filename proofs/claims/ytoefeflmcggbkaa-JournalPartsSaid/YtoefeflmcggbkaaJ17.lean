/- The statements' first calls. -/
import Derived.Test.YtoefeflmcggbkaaJ16
set_option linter.unusedVariables false
set_option linter.unusedSimpArgs false
namespace Go.Proofs.Ytoefeflmcggbkaa
open Go.Hp Go.RowKit

def awS0 : Sto := (openP (newS 4) 0 4).2
def awJ0 : Jr := jr0 (newS 4) 0 4
def awP1 := appendP awS0 awJ0 [97]
def awP2 := appendP awP1.2.1 awP1.2.2 [98, 98]
def awP3 := appendP awP2.2.1 awP2.2.2 []
def awP4 := appendP awP3.2.1 awP3.2.2 (List.replicate 110 0)
def awO1 := openP awP4.2.1 0 4
def awJ1 : Jr := jr0 awP4.2.1 0 4
def awF : Sto := { awO1.2 with fuse := max 0 (-1), pre := (max (30 : Int) 0).toNat % 33 }
def awP5 := appendP awF awJ1 [99, 99, 99]
def awP6 := appendP awP5.2.1 awP5.2.2 [100]
def awU : Sto := { awP6.2.1 with fuse := -1, down := false }
def awO2 := openP awU 0 4
def awOk : Bool :=
  decide ((openP (newS 4) 0 4).1 = 0) && decide (awJ0.l = []) && decide (awP1.1 = 0) && decide (awP2.1 = 0) && decide (awP3.1 = 3) && decide (32 * (awP3.2.2.n : Int) - awP3.2.2.e = 109) && decide (awP4.1 = 14) &&
  decide (awO1.1 = 0) && decide (awJ1.l = [[97], [98, 98]]) && decide (awP5.1 = 16) && decide (awP6.1 = 16) && decide (awO2.1 = 0) && decide ((jr0 awU 0 4).l = (scanL awP6.2.1.bs).1) &&
  (decide ((jr0 awU 0 4).l.length = 2) || decide ((jr0 awU 0 4).l.length = 3)) && decide (awP4.2.2.l = [[97], [98, 98]]) && decide (awS0.n = 4) && decide (awP4.2.1.n = 4) && decide (awU.n = 4) && decide (awO1.2.n = 4) &&
  decide (awP1.2.1.n = 4) && decide (awP2.2.1.n = 4) && decide (awP3.2.1.n = 4) && decide (awF.n = 4) && decide (awP5.2.1.n = 4) && decide (awP6.2.1.n = 4) &&
  decide (awJ0.f + awJ0.n = 4) && decide (awP1.2.2.f + awP1.2.2.n = 4) && decide (awP2.2.2.f + awP2.2.2.n = 4) && decide (awP3.2.2.f + awP3.2.2.n = 4) && decide (awP4.2.2.f + awP4.2.2.n = 4) && decide (awJ1.f + awJ1.n = 4) && decide (awP5.2.2.f + awP5.2.2.n = 4) && decide (awP6.2.2.f + awP6.2.2.n = 4)
theorem awE1 : appendP awS0 awJ0 [97] = awP1 := rfl
theorem awE2 : appendP awP1.2.1 awP1.2.2 [98, 98] = awP2 := rfl
theorem awE3 : appendP awP2.2.1 awP2.2.2 [] = awP3 := rfl
theorem awE4 : appendP awP3.2.1 awP3.2.2 (List.replicate 110 0) = awP4 := rfl
theorem awE5 : appendP awF awJ1 [99, 99, 99] = awP5 := rfl
theorem awE6 : appendP awP5.2.1 awP5.2.2 [100] = awP6 := rfl
theorem awOk_true : awOk = true := by decide +kernel

/-- A store, and a journal over it, in blocks made since h0. -/
structure AW (h0 h : Heap) (b g jb : Nat) (s : Sto) (j : Jr) (v : Value) : Prop where
  ext : Ext h0 h
  hs : StoreAt h b g s
  hj : JAt h jb b j v
  b0 : h0.size ≤ b
  g0 : h0.size ≤ g
  j0 : h0.size ≤ jb
  v0 : ∀ k ∈ blk v, h0.size ≤ k
  jb' : jb ≠ b
  jg : jb ≠ g
  bv : b ∉ blk v
  gv : g ∉ blk v
theorem AW.sz {h0 h : Heap} {b g jb : Nat} {s : Sto} {j : Jr} {v : Value} (a : AW h0 h b g jb s j v) : b < h.size ∧ g < h.size ∧ jb < h.size ∧ ∀ k ∈ blk v, k < h.size :=
  ⟨a.hs.hd.elim fun _ hw => lt_of_at hw, lt_of_at a.hs.row, lt_of_at a.hj.hd, fun k hk => (a.hj.own.ge k hk).2⟩
theorem AW.new {h0 h : Heap} {b g jb : Nat} {s s' : Sto} {j : Jr} {v : Value} (a : AW h0 h b g jb s j v) {h' : Heap} (o : Only [b, g] h h') (hs : StoreAt h' b g s') : AW h0 h' b g jb s' j v :=
  ⟨ext_only_new a.ext o (by simp; exact ⟨a.b0, a.g0⟩), hs, a.hj.only o (by simp; exact ⟨a.jb', a.jg⟩) (fun k hk => by simp; exact ⟨fun e => a.bv (e ▸ hk), fun e => a.gv (e ▸ hk)⟩), a.b0, a.g0, a.j0, a.v0, a.jb', a.jg, a.bv, a.gv⟩
theorem AW.append {h0 h : Heap} {b g jb : Nat} {s : Sto} {j : Jr} {v : Value} (a : AW h0 h b g jb s j v) (hfn : j.f + j.n ≤ s.n) (r : List UInt8) (hr : r.length ≤ 1099511627776) {K : Value → Heap → Prop}
    (hk : ∀ h' v', AW h0 h' b g jb (appendP s j r).2.1 (appendP s j r).2.2 v' → Only (b :: g :: jb :: blk v) h h' → (∀ k ∈ blk v', k ∈ blk v ∨ h.size ≤ k) → K (.int .i64 (appendP s j r).1) h') :
    CallF Try.prog 10 #[.pointer (some ⟨jb, 0, none⟩), str r] h K := by
  refine append_spec a.hs a.hj hfn a.jb' a.jg a.bv a.gv r hr fun h' v' hs' hj' ho hb => hk h' v' ⟨ext_only_new a.ext ho ?_, hs', hj', a.b0, a.g0, a.j0, ?_, a.jb', a.jg, ?_, ?_⟩ ho hb
  · intro k hk
    simp only [List.mem_cons] at hk
    rcases hk with rfl | rfl | rfl | hk
    · exact a.b0
    · exact a.g0
    · exact a.j0
    · exact a.v0 k hk
  · intro k hk
    rcases hb k hk with h' | h'
    · exact a.v0 k h'
    · have := a.ext.size; omega
  · intro hm
    rcases hb _ hm with h' | h'
    · exact a.bv h'
    · have := a.sz.1; omega
  · intro hm
    rcases hb _ hm with h' | h'
    · exact a.gv h'
    · have := a.sz.2.1; omega
theorem JAt.far {h h' : Heap} {jb b0 : Nat} {j : Jr} {v : Value} (hj : JAt h jb b0 j v) {b g jb2 : Nat} {v2 : Value} (ho : Only (b :: g :: jb2 :: blk v2) h h') (h1 : jb ≠ b) (h2 : jb ≠ g) (h3 : b ∉ blk v) (h4 : g ∉ blk v) {n : Nat} (hn : n ≤ jb2) (hv2 : ∀ k ∈ blk v2, n ≤ k) (hjn : jb < n) (hvn : ∀ k ∈ blk v, k < n) : JAt h' jb b0 j v := by
  refine hj.only ho ?_ ?_
  · simp only [List.mem_cons, not_or]
    exact ⟨h1, h2, by omega, fun hm => by have := hv2 _ hm; omega⟩
  · intro k hk
    simp only [List.mem_cons, not_or]
    exact ⟨fun e => h3 (e ▸ hk), fun e => h4 (e ▸ hk), by have := hvn k hk; omega, fun hm => by have := hv2 _ hm; have := hvn k hk; omega⟩
theorem AW.ext' {h0 h : Heap} {b g jb : Nat} {s : Sto} {j : Jr} {v : Value} (a : AW h0 h b g jb s j v) {h' : Heap} (x : Ext h h') : AW h0 h' b g jb s j v :=
  ⟨a.ext.trans x, a.hs.ext x, a.hj.ext x, a.b0, a.g0, a.j0, a.v0, a.jb', a.jg, a.bv, a.gv⟩
theorem open_at {h : Heap} {b g : Nat} {s : Sto} (hs : StoreAt h b g s) {n : Nat} (hn : s.n = n) (f : (openP s 0 n).1 = 0) {K : Value → Heap → Prop}
    (hk : ∀ h' jb v v2, StoreAt h' b g (openP s 0 n).2 → Only [b, g] h h' → JAt h' jb b (jr0 s 0 n) v → h.size ≤ jb → (∀ k ∈ blk v, h.size ≤ k) → (∀ k ∈ blk v2, k ∉ blk v) →
      Own h' h.size 9 1 v2 (jr0 s 0 n).l.length (strs (jr0 s 0 n).l) → K (.tuple #[.pointer (some ⟨jb, 0, none⟩), v2, .int .i64 0]) h') :
    CallF Try.prog 8 #[.pointer (some ⟨b, 0, none⟩)] h K := by
  subst hn
  exact open_spec hs (fun hc => absurd f hc) fun _ => hk
theorem jat_not {h : Heap} {jb b : Nat} {j : Jr} {v m : Value} (hj : JAt h jb b j v) {B n : Nat} {xs : List Value} (ho : Own h B 9 1 m n xs) : jb ∉ blk m := by
  intro hm
  rcases ho.2 with ⟨rfl, _⟩ | ⟨g, cap, cur, rfl, hb, hg, _⟩
  · simp [blk, Value.ownBlock] at hm
  · simp [blk, Value.ownBlock] at hm
    subst hm
    rw [hj.hd] at hg
    simp at hg
structure AX (h0 h : Heap) (b g jb : Nat) (s : Sto) (j : Jr) (v : Value) (n0 ja : Nat) (jj : Jr) (w m : Value) (l : List (List UInt8)) : Prop where
  a : AW h0 h b g jb s j v
  hj : JAt h ja b jj w
  om : Own h n0 9 1 m l.length (strs l)
  nb : n0 ≤ jb
  nv : ∀ k ∈ blk v, n0 ≤ k
  bn : b < n0
  gn : g < n0
  ja0 : ja < n0
  w0 : ∀ k ∈ blk w, k < n0
  jb' : ja ≠ b
  jg : ja ≠ g
  bw : b ∉ blk w
  gw : g ∉ blk w
  mv : ∀ k ∈ blk m, k ∉ blk v
theorem AX.step {h0 h : Heap} {b g jb : Nat} {s : Sto} {j : Jr} {v : Value} {n0 ja : Nat} {jj : Jr} {w m : Value} {l : List (List UInt8)} (x : AX h0 h b g jb s j v n0 ja jj w m l)
    {h' : Heap} {s' : Sto} {j' : Jr} {v' : Value} (a : AW h0 h' b g jb s' j' v') (o : Only (b :: g :: jb :: blk v) h h') (hb : ∀ k ∈ blk v', k ∈ blk v ∨ h.size ≤ k) : AX h0 h' b g jb s' j' v' n0 ja jj w m l := by
  have hz := lt_of_at x.hj.hd
  have hzb := x.a.sz.1
  refine ⟨a, x.hj.far o x.jb' x.jg x.bw x.gw x.nb x.nv x.ja0 x.w0, x.om.only o ?_, x.nb, ?_, x.bn, x.gn, x.ja0, x.w0, x.jb', x.jg, x.bw, x.gw, ?_⟩
  · intro k hk
    have h1 := (x.om.ge k hk).1
    have h2 := x.bn
    have h3 := x.gn
    simp only [List.mem_cons, not_or]
    exact ⟨by omega, by omega, fun e => jat_not x.a.hj x.om (e ▸ hk), x.mv k hk⟩
  · intro k hk
    rcases hb k hk with h1 | h1
    · exact x.nv k h1
    · have := x.bn
      have := x.a.sz.2.2.1
      have := x.nb
      omega
  · intro k hk h1
    rcases hb k h1 with h2 | h2
    · exact x.mv k hk h2
    · have := (x.om.ge k hk).2
      omega
theorem own2_str (h : Heap) (a b : List UInt8) : Own (h.push (.cells #[str a, str b] 9 (0, 0))) 0 9 1 (.slice (some ⟨h.size, 0, none⟩) 2 2) [a, b].length (strs [a, b]) :=
  ⟨rfl, .inr ⟨h.size, 2, _, rfl, by omega, push_new _ _, by simp, by simp [maxLen], rfl, rfl⟩⟩

theorem awake_spec {h : Heap} {K : Value → Heap → Prop} (hk : ∀ h', Ext h h' → K (.bool true) h') : CallF Try.prog 5 #[] h K := by
  apply S5
  unfold F5
  have F := awOk_true
  simp only [awOk, Bool.and_eq_true, Bool.or_eq_true, decide_eq_true_eq] at F
  obtain ⟨⟨⟨⟨⟨⟨⟨⟨⟨⟨⟨⟨⟨⟨⟨⟨⟨⟨⟨⟨⟨⟨⟨⟨⟨⟨⟨⟨⟨⟨⟨⟨f1, f2⟩, f3⟩, f4⟩, f5⟩, f6⟩, f7⟩, f8⟩, f9⟩, f10⟩, f11⟩, f12⟩, f13⟩, f14⟩, f15⟩, f16⟩, f17⟩, f18⟩, f19⟩, f20⟩, f21⟩, f22⟩, f23⟩, f24⟩, f25⟩, f26⟩, f27⟩, f28⟩, f29⟩, f30⟩, f31⟩, f32⟩, f33⟩ := F
  have es1 : (Value.string { data := #[97] }) = str [97] := rfl
  have es2 : (Value.string { data := #[98, 98] }) = str [98, 98] := rfl
  have es3 : (Value.string { data := #[] }) = str [] := rfl
  have es4 : (Value.string { data := #[99, 99, 99] }) = str [99, 99, 99] := rfl
  have es5 : (Value.string { data := #[100] }) = str [100] := rfl
  simp only [es1, es2, es3, es4, es5]
  refine new_spec 4 (by omega) (fun h => by omega) fun _ _ h1 hs1' x1 => ?_
  have hs1 : StoreAt h1 (h.size + 1) h.size (newS 4) := hs1'
  obtain ⟨b, hb⟩ : ∃ b, b = h.size + 1 := ⟨_, rfl⟩
  obtain ⟨g, hg⟩ : ∃ g, g = h.size := ⟨_, rfl⟩
  rw [← hb, ← hg] at hs1
  rw [← hb]
  simp (disch := first | assumption | (with_reducible exact Ext.refl _) | (with_reducible exact Keep.refl _ _) | (with_reducible exact Eq.refl _) | (intro _ he; cases he; assumption) | (intro _ he; with_reducible apply keep_cell' he; assumption; simp; done) | (intro _ he; with_reducible apply ext_cell' he; assumption; done) | (with_reducible first | exact pl_int _ _ | exact pl_byte _ | exact pl_u32 _ | exact pl_bool _ | exact pl_ptr _ | exact pl_slice _ _ _ | exact pl_map _ | exact pl_str _ | exact pl_func _ _ _) | ((rw [okW_setH]; repeat rw [okW_setH]); assumption) | ((with_reducible refine cellH_setH_same ?_ _); (repeat rw [okW_setH]); assumption) | ((rw [cellH_setH_off]; rotate_left; focus decide); (repeat (rw [cellH_setH_off]; rotate_left; focus decide)); first | assumption | ((with_reducible refine cellH_setH_same ?_ _); (repeat rw [okW_setH]); assumption)) | omega) only [↓hpR, ↓nilC_ptr, ↓nilC_func, ↓condP_true, ↓condP_false, ↓condP_bool, ↓guardP_true, ↓guardP_false, ↓guardP_bool_t, ↓guardP_bool_f, ↓skipP_undef, ↓pickP_bool, ↓b_add, ↓b_sub, ↓b_mul, ↓b_quo, ↓b_rem, ↓b_lss, ↓b_leq, ↓b_gtr, ↓b_geq, ↓b_eql, ↓b_neq, ↓u_not, ↓s_add, ↓s_eql, ↓s_neq, ↓i_max2, ↓i_min2, ↓x20, ↓x21, ↓x30, ↓x31, ↓x32, ↓q_b_add, ↓q_b_sub, ↓q_b_mul, ↓q_b_quo, ↓q_b_rem, ↓q_b_lss, ↓q_b_leq, ↓q_b_gtr, ↓q_b_geq, ↓q_b_eql, ↓q_b_neq, ↓q_u_not, ↓q_s_add, ↓q_s_eql, ↓q_s_neq, ↓q_i_max2, ↓q_i_min2, ↓q_x20, ↓q_x21, ↓q_x30, ↓q_x31, ↓q_x32, ↓m_box, decide_true, decide_false, tt_and, ff_and, Nat.zero_add, Int.toNat_natCast, cells_agg, cells_bool, cells_int, cells_str, cells_ptr, cells_slice, ↓qend_eq, ↓jump_none, ↓jump_ret, ↓jump_exit, ↓marks_one, cond_true, cond_false, Bool.not_true, Bool.not_false, Option.isNone_some]
  refine open_nil ?_
  simp (disch := first | assumption | (with_reducible exact Ext.refl _) | (with_reducible exact Keep.refl _ _) | (with_reducible exact Eq.refl _) | (intro _ he; cases he; assumption) | (intro _ he; with_reducible apply keep_cell' he; assumption; simp; done) | (intro _ he; with_reducible apply ext_cell' he; assumption; done) | (with_reducible first | exact pl_int _ _ | exact pl_byte _ | exact pl_u32 _ | exact pl_bool _ | exact pl_ptr _ | exact pl_slice _ _ _ | exact pl_map _ | exact pl_str _ | exact pl_func _ _ _) | ((rw [okW_setH]; repeat rw [okW_setH]); assumption) | ((with_reducible refine cellH_setH_same ?_ _); (repeat rw [okW_setH]); assumption) | ((rw [cellH_setH_off]; rotate_left; focus decide); (repeat (rw [cellH_setH_off]; rotate_left; focus decide)); first | assumption | ((with_reducible refine cellH_setH_same ?_ _); (repeat rw [okW_setH]); assumption)) | omega) only [↓hpR, ↓nilC_ptr, ↓nilC_func, ↓condP_true, ↓condP_false, ↓condP_bool, ↓guardP_true, ↓guardP_false, ↓guardP_bool_t, ↓guardP_bool_f, ↓skipP_undef, ↓pickP_bool, ↓b_add, ↓b_sub, ↓b_mul, ↓b_quo, ↓b_rem, ↓b_lss, ↓b_leq, ↓b_gtr, ↓b_geq, ↓b_eql, ↓b_neq, ↓u_not, ↓s_add, ↓s_eql, ↓s_neq, ↓i_max2, ↓i_min2, ↓x20, ↓x21, ↓x30, ↓x31, ↓x32, ↓q_b_add, ↓q_b_sub, ↓q_b_mul, ↓q_b_quo, ↓q_b_rem, ↓q_b_lss, ↓q_b_leq, ↓q_b_gtr, ↓q_b_geq, ↓q_b_eql, ↓q_b_neq, ↓q_u_not, ↓q_s_add, ↓q_s_eql, ↓q_s_neq, ↓q_i_max2, ↓q_i_min2, ↓q_x20, ↓q_x21, ↓q_x30, ↓q_x31, ↓q_x32, ↓m_box, decide_true, decide_false, tt_and, ff_and, Nat.zero_add, Int.toNat_natCast, cells_agg, cells_bool, cells_int, cells_str, cells_ptr, cells_slice, ↓qend_eq, ↓jump_none, ↓jump_ret, ↓jump_exit, ↓marks_one, cond_true, cond_false, Bool.not_true, Bool.not_false]
  refine open_spec hs1 (fun hc => absurd f1 hc) fun _ h2 jb v v2 hs2 o2 hj2 jge vge dis own2 => ?_
  have z1 : b < h1.size ∧ g < h1.size := ⟨hs1.hd.elim fun _ hw => lt_of_at hw, lt_of_at hs1.row⟩
  have zx := x1.size
  have a2 : AW h h2 b g jb awS0 awJ0 v := ⟨ext_only_new x1 o2 (by simp; omega), hs2, hj2, by omega, by omega, by omega, fun k hk => by have := vge k hk; omega, by omega, by omega, fun hm => by have := vge _ hm; omega, fun hm => by have := vge _ hm; omega⟩
  have l0 : (jr0 (newS 4) 0 (newS 4).n).l = [] := f2
  rw [l0] at own2
  obtain ⟨A2, c2, rfl⟩ := own2.len
  simp (disch := first | assumption | (with_reducible exact Ext.refl _) | (with_reducible exact Keep.refl _ _) | (with_reducible exact Eq.refl _) | (intro _ he; cases he; assumption) | (intro _ he; with_reducible apply keep_cell' he; assumption; simp; done) | (intro _ he; with_reducible apply ext_cell' he; assumption; done) | (with_reducible first | exact pl_int _ _ | exact pl_byte _ | exact pl_u32 _ | exact pl_bool _ | exact pl_ptr _ | exact pl_slice _ _ _ | exact pl_map _ | exact pl_str _ | exact pl_func _ _ _) | ((rw [okW_setH]; repeat rw [okW_setH]); assumption) | ((with_reducible refine cellH_setH_same ?_ _); (repeat rw [okW_setH]); assumption) | ((rw [cellH_setH_off]; rotate_left; focus decide); (repeat (rw [cellH_setH_off]; rotate_left; focus decide)); first | assumption | ((with_reducible refine cellH_setH_same ?_ _); (repeat rw [okW_setH]); assumption)) | omega) only [↓hpR, ↓nilC_ptr, ↓nilC_func, ↓condP_true, ↓condP_false, ↓condP_bool, ↓guardP_true, ↓guardP_false, ↓guardP_bool_t, ↓guardP_bool_f, ↓skipP_undef, ↓pickP_bool, ↓b_add, ↓b_sub, ↓b_mul, ↓b_quo, ↓b_rem, ↓b_lss, ↓b_leq, ↓b_gtr, ↓b_geq, ↓b_eql, ↓b_neq, ↓u_not, ↓s_add, ↓s_eql, ↓s_neq, ↓i_max2, ↓i_min2, ↓x20, ↓x21, ↓x30, ↓x31, ↓x32, ↓q_b_add, ↓q_b_sub, ↓q_b_mul, ↓q_b_quo, ↓q_b_rem, ↓q_b_lss, ↓q_b_leq, ↓q_b_gtr, ↓q_b_geq, ↓q_b_eql, ↓q_b_neq, ↓q_u_not, ↓q_s_add, ↓q_s_eql, ↓q_s_neq, ↓q_i_max2, ↓q_i_min2, ↓q_x20, ↓q_x21, ↓q_x30, ↓q_x31, ↓q_x32, ↓m_box, decide_true, decide_false, tt_and, ff_and, Nat.zero_add, Int.toNat_natCast, cells_agg, cells_bool, cells_int, cells_str, cells_ptr, cells_slice, ↓qend_eq, ↓jump_none, ↓jump_ret, ↓jump_exit, ↓marks_one, cond_true, cond_false, Bool.not_true, Bool.not_false, Option.isNone_some]
  refine a2.append (by omega) _ (by simp only [List.length_cons, List.length_nil]; omega) fun h3 v3 a3 _ _ => ?_
  rw [awE1] at a3 ⊢
  refine a3.append (by omega) _ (by simp only [List.length_cons, List.length_nil]; omega) fun h4 v4 a4 _ _ => ?_
  rw [awE2] at a4 ⊢
  refine a4.append (by omega) _ (by simp only [List.length_cons, List.length_nil]; omega) fun h5 v5 a5 _ _ => ?_
  rw [awE3] at a5 ⊢
  refine room_spec a5.hj (by omega) ?_
  simp (disch := first | assumption | (with_reducible exact Ext.refl _) | (with_reducible exact Keep.refl _ _) | (with_reducible exact Eq.refl _) | (intro _ he; cases he; assumption) | (intro _ he; with_reducible apply keep_cell' he; assumption; simp; done) | (intro _ he; with_reducible apply ext_cell' he; assumption; done) | (with_reducible first | exact pl_int _ _ | exact pl_byte _ | exact pl_u32 _ | exact pl_bool _ | exact pl_ptr _ | exact pl_slice _ _ _ | exact pl_map _ | exact pl_str _ | exact pl_func _ _ _) | ((rw [okW_setH]; repeat rw [okW_setH]); assumption) | ((with_reducible refine cellH_setH_same ?_ _); (repeat rw [okW_setH]); assumption) | ((rw [cellH_setH_off]; rotate_left; focus decide); (repeat (rw [cellH_setH_off]; rotate_left; focus decide)); first | assumption | ((with_reducible refine cellH_setH_same ?_ _); (repeat rw [okW_setH]); assumption)) | omega) only [↓hpR, ↓nilC_ptr, ↓nilC_func, ↓condP_true, ↓condP_false, ↓condP_bool, ↓guardP_true, ↓guardP_false, ↓guardP_bool_t, ↓guardP_bool_f, ↓skipP_undef, ↓pickP_bool, ↓b_add, ↓b_sub, ↓b_mul, ↓b_quo, ↓b_rem, ↓b_lss, ↓b_leq, ↓b_gtr, ↓b_geq, ↓b_eql, ↓b_neq, ↓u_not, ↓s_add, ↓s_eql, ↓s_neq, ↓i_max2, ↓i_min2, ↓x20, ↓x21, ↓x30, ↓x31, ↓x32, ↓q_b_add, ↓q_b_sub, ↓q_b_mul, ↓q_b_quo, ↓q_b_rem, ↓q_b_lss, ↓q_b_leq, ↓q_b_gtr, ↓q_b_geq, ↓q_b_eql, ↓q_b_neq, ↓q_u_not, ↓q_s_add, ↓q_s_eql, ↓q_s_neq, ↓q_i_max2, ↓q_i_min2, ↓q_x20, ↓q_x21, ↓q_x30, ↓q_x31, ↓q_x32, ↓m_box, decide_true, decide_false, tt_and, ff_and, Nat.zero_add, Int.toNat_natCast, cells_agg, cells_bool, cells_int, cells_str, cells_ptr, cells_slice, ↓qend_eq, ↓jump_none, ↓jump_ret, ↓jump_exit, ↓marks_one, cond_true, cond_false, Bool.not_true, Bool.not_false]
  rw [m_string (len := Int.toNat 110) Try.underlying54 under9 under5 (List.replicate 110 0) (by rfl) _ (fun i c hc => by
    have hi : i < 110 := by
      rw [List.getElem?_replicate] at hc
      split at hc
      · assumption
      · cases hc
    rw [Nat.zero_add, cellH_push_new, rowOf_one, Array.getElem?_replicate, if_pos (by omega)]
    rw [List.getElem?_replicate, if_pos hi] at hc
    cases hc
    rfl)]
  have a6 := a5.ext' ((Ext.refl h5).push (Obj.cells (rowOf #[Value.int IntKind.u8 0] (Int.toNat 110 * 1)) 5))
  generalize Array.push h5 (Obj.cells (rowOf #[Value.int IntKind.u8 0] (Int.toNat 110 * 1)) 5) = h6 at a6 ⊢
  refine a6.append (by omega) _ (by rw [List.length_replicate]; omega) fun h7 v7 a7 _ _ => ?_
  rw [awE4] at a7 ⊢
  obtain ⟨z7b, z7g, z7j, z7v⟩ := a7.sz
  refine open_at a7.hs f17 f8 fun h8 jb2 vk m hs8 o8 hj8 jge8 vge8 dis8 own8 => ?_
  have l8 : (jr0 awP4.2.1 0 4).l = [[97], [98, 98]] := f9
  rw [l8] at own8
  have x8 : AX h h8 b g jb2 awO1.2 awJ1 vk h7.size jb awP4.2.2 v7 m [[97], [98, 98]] :=
    ⟨⟨ext_only_new a7.ext o8 (by simp; exact ⟨a7.b0, a7.g0⟩), hs8, hj8, a7.b0, a7.g0, by have := a7.j0; omega, fun k hk => by have := vge8 k hk; have := a7.ext.size; omega, by omega, by omega, fun hm => by have := vge8 _ hm; omega, fun hm => by have := vge8 _ hm; omega⟩,
      (a7.new o8 hs8).hj, own8, jge8, vge8, z7b, z7g, z7j, z7v, a7.jb', a7.jg, a7.bv, a7.gv, dis8⟩
  clear own8 l8 dis8
  simp (disch := first | assumption | (with_reducible exact Ext.refl _) | (with_reducible exact Keep.refl _ _) | (with_reducible exact Eq.refl _) | (intro _ he; cases he; assumption) | (intro _ he; with_reducible apply keep_cell' he; assumption; simp; done) | (intro _ he; with_reducible apply ext_cell' he; assumption; done) | (with_reducible first | exact pl_int _ _ | exact pl_byte _ | exact pl_u32 _ | exact pl_bool _ | exact pl_ptr _ | exact pl_slice _ _ _ | exact pl_map _ | exact pl_str _ | exact pl_func _ _ _) | ((rw [okW_setH]; repeat rw [okW_setH]); assumption) | ((with_reducible refine cellH_setH_same ?_ _); (repeat rw [okW_setH]); assumption) | ((rw [cellH_setH_off]; rotate_left; focus decide); (repeat (rw [cellH_setH_off]; rotate_left; focus decide)); first | assumption | ((with_reducible refine cellH_setH_same ?_ _); (repeat rw [okW_setH]); assumption)) | omega) only [↓hpR, ↓nilC_ptr, ↓nilC_func, ↓condP_true, ↓condP_false, ↓condP_bool, ↓guardP_true, ↓guardP_false, ↓guardP_bool_t, ↓guardP_bool_f, ↓skipP_undef, ↓pickP_bool, ↓b_add, ↓b_sub, ↓b_mul, ↓b_quo, ↓b_rem, ↓b_lss, ↓b_leq, ↓b_gtr, ↓b_geq, ↓b_eql, ↓b_neq, ↓u_not, ↓s_add, ↓s_eql, ↓s_neq, ↓i_max2, ↓i_min2, ↓x20, ↓x21, ↓x30, ↓x31, ↓x32, ↓q_b_add, ↓q_b_sub, ↓q_b_mul, ↓q_b_quo, ↓q_b_rem, ↓q_b_lss, ↓q_b_leq, ↓q_b_gtr, ↓q_b_geq, ↓q_b_eql, ↓q_b_neq, ↓q_u_not, ↓q_s_add, ↓q_s_eql, ↓q_s_neq, ↓q_i_max2, ↓q_i_min2, ↓q_x20, ↓q_x21, ↓q_x30, ↓q_x31, ↓q_x32, ↓m_box, decide_true, decide_false, tt_and, ff_and, Nat.zero_add, Int.toNat_natCast, cells_agg, cells_bool, cells_int, cells_str, cells_ptr, cells_slice, ↓qend_eq, ↓jump_none, ↓jump_ret, ↓jump_exit, ↓marks_one, cond_true, cond_false, Bool.not_true, Bool.not_false, Option.isNone_some]
  refine fuse_spec x8.a.hs 0 30 (by omega) fun h9 hs9 o9 => ?_
  have x9 : AX h h9 b g jb2 awF awJ1 vk h7.size jb awP4.2.2 v7 m [[97], [98, 98]] := x8.step (x8.a.new (o9.mono (by simp)) hs9) (o9.mono (by simp)) (fun k hk => .inl hk)
  refine x9.a.append (by omega) _ (by simp only [List.length_cons, List.length_nil]; omega) fun h10 v10 a10 o10 b10 => ?_
  rw [awE5] at a10 ⊢
  have x10 := x9.step a10 o10 b10
  refine a10.append (by omega) _ (by simp only [List.length_cons, List.length_nil]; omega) fun h11 v11 a11 o11 b11 => ?_
  rw [awE6] at a11 ⊢
  have x11 := x10.step a11 o11 b11
  refine records_spec a11.hs fun h12 xr e12 own12 => ?_
  have x12 := x11.step (a11.ext' e12) (e12.only _) (fun k hk => .inl hk)
  refine up_spec x12.a.hs fun h13 hs13 o13 => ?_
  have x13 : AX h h13 b g jb2 awU awP6.2.2 v11 h7.size jb awP4.2.2 v7 m [[97], [98, 98]] := x12.step (x12.a.new (o13.mono (by simp)) hs13) (o13.mono (by simp)) (fun k hk => .inl hk)
  have z11 := a11.sz
  have own13 : Own h13 h11.size 9 1 xr (scanL awP6.2.1.bs).1.length (strs (scanL awP6.2.1.bs).1) := own12.only o13 (fun k hk => by have := (own12.ge k hk).1; simp; omega)
  refine open_at x13.a.hs f18 f12 fun h14 jb3 v14 n hs14 o14 hj14 jge14 vge14 dis14 own14 => ?_
  have own14x : Own h14 h11.size 9 1 xr (scanL awP6.2.1.bs).1.length (strs (scanL awP6.2.1.bs).1) := own13.only o14 (fun k hk => by have := (own13.ge k hk).1; simp; omega)
  have x14 : AX h h14 b g jb2 awO2.2 awP6.2.2 v11 h7.size jb awP4.2.2 v7 m [[97], [98, 98]] := x13.step (x13.a.new o14 hs14) (o14.mono (by intro k hk; simp at hk ⊢; omega)) (fun k hk => .inl hk)
  clear x8 x9 x10 x11 x12 x13
  obtain ⟨A14, c14, rfl⟩ := own14.len
  rw [f3, f4, f5, f6, f7, f10, f11]
  simp (disch := first | assumption | (with_reducible exact Ext.refl _) | (with_reducible exact Keep.refl _ _) | (with_reducible exact Eq.refl _) | (intro _ he; cases he; assumption) | (intro _ he; with_reducible apply keep_cell' he; assumption; simp; done) | (intro _ he; with_reducible apply ext_cell' he; assumption; done) | (with_reducible first | exact pl_int _ _ | exact pl_byte _ | exact pl_u32 _ | exact pl_bool _ | exact pl_ptr _ | exact pl_slice _ _ _ | exact pl_map _ | exact pl_str _ | exact pl_func _ _ _) | ((rw [okW_setH]; repeat rw [okW_setH]); assumption) | ((with_reducible refine cellH_setH_same ?_ _); (repeat rw [okW_setH]); assumption) | ((rw [cellH_setH_off]; rotate_left; focus decide); (repeat (rw [cellH_setH_off]; rotate_left; focus decide)); first | assumption | ((with_reducible refine cellH_setH_same ?_ _); (repeat rw [okW_setH]); assumption)) | omega) only [↓hpR, ↓nilC_ptr, ↓nilC_func, ↓condP_true, ↓condP_false, ↓condP_bool, ↓guardP_true, ↓guardP_false, ↓guardP_bool_t, ↓guardP_bool_f, ↓skipP_undef, ↓pickP_bool, ↓b_add, ↓b_sub, ↓b_mul, ↓b_quo, ↓b_rem, ↓b_lss, ↓b_leq, ↓b_gtr, ↓b_geq, ↓b_eql, ↓b_neq, ↓u_not, ↓s_add, ↓s_eql, ↓s_neq, ↓i_max2, ↓i_min2, ↓x20, ↓x21, ↓x30, ↓x31, ↓x32, ↓q_b_add, ↓q_b_sub, ↓q_b_mul, ↓q_b_quo, ↓q_b_rem, ↓q_b_lss, ↓q_b_leq, ↓q_b_gtr, ↓q_b_geq, ↓q_b_eql, ↓q_b_neq, ↓q_u_not, ↓q_s_add, ↓q_s_eql, ↓q_s_neq, ↓q_i_max2, ↓q_i_min2, ↓q_x20, ↓q_x21, ↓q_x30, ↓q_x31, ↓q_x32, ↓m_box, decide_true, decide_false, tt_and, ff_and, Nat.zero_add, Int.toNat_natCast, cells_agg, cells_bool, cells_int, cells_str, cells_ptr, cells_slice, ↓qend_eq, ↓jump_none, ↓jump_ret, ↓jump_exit, ↓marks_one, cond_true, cond_false, Bool.not_true, Bool.not_false, decide_true, List.length_nil, Int.natCast_zero]
  have p15 := push_new h14 (Obj.cells #[str [97], str [98, 98]] 9)
  have q15 := own2_str h14 [97] [98, 98]
  have e15 := (Ext.refl h14).push (Obj.cells #[str [97], str [98, 98]] 9)
  have x15 := x14.step (x14.a.ext' e15) (e15.only _) (fun k hk => .inl hk)
  have own15 := own14.ext e15
  have own15x := own14x.ext e15
  generalize Array.push h14 (Obj.cells #[str [97], str [98, 98]] 9) = h15 at x15 own15 own15x q15 p15 e15 ⊢
  refine same_spec x15.om q15 ?_
  simp (disch := first | assumption | (with_reducible exact Ext.refl _) | (with_reducible exact Keep.refl _ _) | (with_reducible exact Eq.refl _) | (intro _ he; cases he; assumption) | (intro _ he; with_reducible apply keep_cell' he; assumption; simp; done) | (intro _ he; with_reducible apply ext_cell' he; assumption; done) | (with_reducible first | exact pl_int _ _ | exact pl_byte _ | exact pl_u32 _ | exact pl_bool _ | exact pl_ptr _ | exact pl_slice _ _ _ | exact pl_map _ | exact pl_str _ | exact pl_func _ _ _) | ((rw [okW_setH]; repeat rw [okW_setH]); assumption) | ((with_reducible refine cellH_setH_same ?_ _); (repeat rw [okW_setH]); assumption) | ((rw [cellH_setH_off]; rotate_left; focus decide); (repeat (rw [cellH_setH_off]; rotate_left; focus decide)); first | assumption | ((with_reducible refine cellH_setH_same ?_ _); (repeat rw [okW_setH]); assumption)) | omega) only [↓hpR, ↓nilC_ptr, ↓nilC_func, ↓condP_true, ↓condP_false, ↓condP_bool, ↓guardP_true, ↓guardP_false, ↓guardP_bool_t, ↓guardP_bool_f, ↓skipP_undef, ↓pickP_bool, ↓b_add, ↓b_sub, ↓b_mul, ↓b_quo, ↓b_rem, ↓b_lss, ↓b_leq, ↓b_gtr, ↓b_geq, ↓b_eql, ↓b_neq, ↓u_not, ↓s_add, ↓s_eql, ↓s_neq, ↓i_max2, ↓i_min2, ↓x20, ↓x21, ↓x30, ↓x31, ↓x32, ↓q_b_add, ↓q_b_sub, ↓q_b_mul, ↓q_b_quo, ↓q_b_rem, ↓q_b_lss, ↓q_b_leq, ↓q_b_gtr, ↓q_b_geq, ↓q_b_eql, ↓q_b_neq, ↓q_u_not, ↓q_s_add, ↓q_s_eql, ↓q_s_neq, ↓q_i_max2, ↓q_i_min2, ↓q_x20, ↓q_x21, ↓q_x30, ↓q_x31, ↓q_x32, ↓m_box, decide_true, decide_false, tt_and, ff_and, Nat.zero_add, Int.toNat_natCast, cells_agg, cells_bool, cells_int, cells_str, cells_ptr, cells_slice, ↓qend_eq, ↓jump_none, ↓jump_ret, ↓jump_exit, ↓marks_one, cond_true, cond_false, Bool.not_true, Bool.not_false, decide_true]
  refine same_spec own15 own15x ?_
  rw [decide_eq_true f13]
  simp (disch := first | assumption | (with_reducible exact Ext.refl _) | (with_reducible exact Keep.refl _ _) | (with_reducible exact Eq.refl _) | (intro _ he; cases he; assumption) | (intro _ he; with_reducible apply keep_cell' he; assumption; simp; done) | (intro _ he; with_reducible apply ext_cell' he; assumption; done) | (with_reducible first | exact pl_int _ _ | exact pl_byte _ | exact pl_u32 _ | exact pl_bool _ | exact pl_ptr _ | exact pl_slice _ _ _ | exact pl_map _ | exact pl_str _ | exact pl_func _ _ _) | ((rw [okW_setH]; repeat rw [okW_setH]); assumption) | ((with_reducible refine cellH_setH_same ?_ _); (repeat rw [okW_setH]); assumption) | ((rw [cellH_setH_off]; rotate_left; focus decide); (repeat (rw [cellH_setH_off]; rotate_left; focus decide)); first | assumption | ((with_reducible refine cellH_setH_same ?_ _); (repeat rw [okW_setH]); assumption)) | omega) only [↓hpR, ↓nilC_ptr, ↓nilC_func, ↓condP_true, ↓condP_false, ↓condP_bool, ↓guardP_true, ↓guardP_false, ↓guardP_bool_t, ↓guardP_bool_f, ↓skipP_undef, ↓pickP_bool, ↓b_add, ↓b_sub, ↓b_mul, ↓b_quo, ↓b_rem, ↓b_lss, ↓b_leq, ↓b_gtr, ↓b_geq, ↓b_eql, ↓b_neq, ↓u_not, ↓s_add, ↓s_eql, ↓s_neq, ↓i_max2, ↓i_min2, ↓x20, ↓x21, ↓x30, ↓x31, ↓x32, ↓q_b_add, ↓q_b_sub, ↓q_b_mul, ↓q_b_quo, ↓q_b_rem, ↓q_b_lss, ↓q_b_leq, ↓q_b_gtr, ↓q_b_geq, ↓q_b_eql, ↓q_b_neq, ↓q_u_not, ↓q_s_add, ↓q_s_eql, ↓q_s_neq, ↓q_i_max2, ↓q_i_min2, ↓q_x20, ↓q_x21, ↓q_x30, ↓q_x31, ↓q_x32, ↓m_box, decide_true, decide_false, tt_and, ff_and, Nat.zero_add, Int.toNat_natCast, cells_agg, cells_bool, cells_int, cells_str, cells_ptr, cells_slice, ↓qend_eq, ↓jump_none, ↓jump_ret, ↓jump_exit, ↓marks_one, cond_true, cond_false, Bool.not_true, Bool.not_false]
  have fin : CallF Try.prog 24 #[Value.pointer (some { block := jb, off := 0 })] h15 fun t147 h_56 =>
                    CallF Try.prog 19 #[t147, Value.slice (some { block := Array.size h_56, off := 0 }) 2 2]
                      (Array.push h_56 (Obj.cells #[str [97], str [98, 98]] 9)) fun t149 h_58 => K t149 h_58 := by
    have hjn : awP4.2.2.n ≤ 256 := by omega
    refine jrecs_spec x15.hj hjn fun h16 v16 e16 own16 => ?_
    rw [f15] at own16
    refine same_spec (own16.ext ((Ext.refl h16).push _)) (own2_str h16 [97] [98, 98]) ?_
    rw [decide_eq_true rfl]
    exact hk _ ((x15.a.ext.trans e16).push _)
  refine ⟨fun _ => fin, fun c2 => ⟨fun _ => fin, fun c3 => ?_⟩⟩
  rw [decide_eq_false_iff_not] at c2 c3
  omega
end Go.Proofs.Ytoefeflmcggbkaa
