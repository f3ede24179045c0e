/- Rules for the shallow form: what each kind of operation comes to. -/
import Derived.Test.YtopflbjjbindkaaHpS
import Derived.WalkKit
import Derived.Lib.Strings
import Derived.Laws.BytesArg
import Derived.Maps.AppendAt
import Derived.Laws.MakeOwn
set_option linter.unusedVariables false
set_option linter.unusedSimpArgs false
namespace Go.Hp
variable {P : Program} {h : Heap}

theorem RunV_of {s : Sem Value} {v : Value} {h' : Heap} {K : Value → Heap → Prop} (hr : ∀ w : World, w.heap = h → s.run P w = .ok v { w with heap := h' }) : RunV P s h K = K v h' := by
  apply propext
  constructor
  · intro H
    obtain ⟨u, w', h1, _, h3⟩ := H { (default : World) with heap := h } rfl
    rw [hr _ rfl] at h1
    injection h1 with e1 e2
    subst e1 e2
    exact h3
  · intro H w hw
    exact ⟨v, _, hr w hw, ⟨rfl, rfl, rfl⟩, H⟩
theorem RunV_pure {s : Sem Value} {v : Value} {K : Value → Heap → Prop} (hr : ∀ w : World, w.heap = h → s.run P w = .ok v w) : RunV P s h K = K v h :=
  RunV_of fun w hw => by rw [hr w hw, ← hw]
theorem RunU_of {s : Sem Unit} {h' : Heap} {K : Heap → Prop} (hr : ∀ w : World, w.heap = h → s.run P w = .ok () { w with heap := h' }) : RunU P s h K = K h' := by
  apply propext
  constructor
  · intro H
    obtain ⟨w', h1, _, h3⟩ := H { (default : World) with heap := h } rfl
    rw [hr _ rfl] at h1
    injection h1 with e1 e2
    subst e2
    exact h3
  · intro H w hw
    exact ⟨_, hr w hw, ⟨rfl, rfl, rfl⟩, H⟩
theorem OpN_of {s : Sem Next} {v : Value} {h' : Heap} {K : Value → Heap → Prop} (hr : ∀ w : World, w.heap = h → s.run P w = .ok (.value v) { w with heap := h' }) : OpN P s h K = K v h' := by
  apply propext
  constructor
  · intro H
    obtain ⟨n, w', h1, _, h3⟩ := H { (default : World) with heap := h } rfl
    rw [hr _ rfl] at h1
    injection h1 with e1 e2
    subst e1 e2
    exact h3
  · intro H w hw
    exact ⟨.value v, _, hr w hw, ⟨rfl, rfl, rfl⟩, H⟩
theorem OpN_pure {s : Sem Next} {v : Value} {K : Value → Heap → Prop} (hr : ∀ w : World, w.heap = h → s.run P w = .ok (.value v) w) : OpN P s h K = K v h :=
  OpN_of fun w hw => by rw [hr w hw, ← hw]

theorem RunV.mono {s : Sem Value} {K K' : Value → Heap → Prop} (H : RunV P s h K) (hk : ∀ v h', K v h' → K' v h') : RunV P s h K' :=
  fun w hw => let ⟨v, w', h1, h2, h3⟩ := H w hw; ⟨v, w', h1, h2, hk _ _ h3⟩
theorem RunU.mono {s : Sem Unit} {K K' : Heap → Prop} (H : RunU P s h K) (hk : ∀ h', K h' → K' h') : RunU P s h K' :=
  fun w hw => let ⟨w', h1, h2, h3⟩ := H w hw; ⟨w', h1, h2, hk _ h3⟩
theorem OpN.mono {s : Sem Next} {K K' : Value → Heap → Prop} (H : OpN P s h K) (hk : ∀ v h', K v h' → K' v h') : OpN P s h K' := by
  intro w hw
  obtain ⟨n, w', h1, h2, h3⟩ := H w hw
  refine ⟨n, w', h1, h2, ?_⟩
  cases n <;> simp only [NextK] at h3 ⊢ <;> first | exact hk _ _ h3 | skip
  exact h3.mono fun e w'' ⟨v, he, hs, hv⟩ => ⟨v, he, hs, hk _ _ hv⟩
theorem CallF.mono {f : FuncId} {args : Array Value} {K K' : Value → Heap → Prop} (H : CallF P f args h K) (hk : ∀ v h', K v h' → K' v h') : CallF P f args h K' := OpN.mono H hk
theorem CallV.mono {fv : Value} {args : Array Value} {K K' : Value → Heap → Prop} (H : CallV P fv args h K) (hk : ∀ v h', K v h' → K' v h') : CallV P fv args h K' := by
  intro w hw
  obtain ⟨n, w', h1, h2, h3⟩ := H w hw
  refine ⟨n, w', h1, h2, ?_⟩
  cases n <;> simp only [NextR] at h3 ⊢ <;> first | exact hk _ _ h3 | skip
  · exact h3.mono fun e w'' ⟨v, he, hs, hv⟩ => ⟨v, he, hs, hk _ _ hv⟩
  · exact RoundIn.mono h3 fun e w'' ⟨v, he, hs, hv⟩ => ⟨v, he, hs, hk _ _ hv⟩
theorem CallV_of {fv : Value} {args : Array Value} {K : Value → Heap → Prop} (H : CallV0 P fv args h K) : CallV P fv args h K := by
  intro w hw
  obtain ⟨n, w', h1, h2, h3⟩ := H w hw
  refine ⟨n, w', h1, h2, ?_⟩
  cases n <;> simp only [NextK] at h3 <;> exact h3
theorem CallV0_func {f : FuncId} {args cap first : Array Value} {K : Value → Heap → Prop} (H : CallF P f (first ++ args ++ cap) h K) : CallV0 P (.func (.func f) first cap) args h K := by
  intro w hw
  have := H w hw
  simpa [Deferred.ofValue, invoke] using this

theorem CallV_func {f : FuncId} {args cap first : Array Value} {K : Value → Heap → Prop} (H : CallF P f (first ++ args ++ cap) h K) : CallV P (.func (.func f) first cap) args h K := CallV_of (CallV0_func H)
/-! ### Heaps that extend a heap -/
structure Ext (h h' : Heap) : Prop where
  size : h.size ≤ h'.size
  block : ∀ k, k < h.size → h'[k]? = h[k]?
theorem Ext.refl (h : Heap) : Ext h h := ⟨Nat.le_refl _, fun _ _ => rfl⟩
theorem Ext.trans {a b c : Heap} (h : Ext a b) (k : Ext b c) : Ext a c := ⟨Nat.le_trans h.size k.size, fun i hi => (k.block i (Nat.lt_of_lt_of_le hi h.size)).trans (h.block i hi)⟩
theorem Ext.push {a b : Heap} (h : Ext a b) (o : Obj) : Ext a (b.push o) := h.trans ⟨by simp, fun k hk => by rw [Array.getElem?_push, if_neg (by omega)]⟩
theorem Ext.at {h h' : Heap} (e : Ext h h') {b : Nat} {o : Obj} (hb : h[b]? = some o) : h'[b]? = some o := (e.block b (Array.getElem?_eq_some_iff.1 hb).1).trans hb
theorem lt_of_at {h : Heap} {b : Nat} {o : Obj} (hb : h[b]? = some o) : b < h.size := (Array.getElem?_eq_some_iff.1 hb).1
theorem QV_cls {C : Heap → Prop} {h0 : Heap} (hC : C h0) {s : Sem Value} {v : Value} {K : Value → Prop} (hr : ∀ h', C h' → ∀ w : World, w.heap = h' → s.run P w = .ok v w) : QV P C s K = K v := by
  apply propext
  constructor
  · rintro ⟨u, hu, hk⟩
    have h1 := hu { (default : World) with heap := h0 } hC
    rw [hr h0 hC _ rfl] at h1
    injection h1 with e1 e2
    subst e1
    exact hk
  · intro hk
    exact ⟨v, fun w hw => hr _ hw w rfl, hk⟩
theorem QB_cls {C : Heap → Prop} {h0 : Heap} (hC : C h0) {s : Sem Next} {v : Value} {K : Value → Prop} (hr : ∀ h', C h' → ∀ w : World, w.heap = h' → s.run P w = .ok (.value v) w) : QB P C s K = K v := by
  apply propext
  constructor
  · rintro ⟨u, hu, hk⟩
    have h1 := hu { (default : World) with heap := h0 } hC
    rw [hr h0 hC _ rfl] at h1
    injection h1 with e1 e2
    injection e1 with e1
    subst e1
    exact hk
  · intro hk
    exact ⟨v, fun w hw => hr _ hw w rfl, hk⟩
theorem Quiet_ext {h : Heap} {B : (Heap → Prop) → Prop} (hb : B (Ext h)) : Quiet h B := ⟨Ext h, Ext.refl h, hb⟩

theorem Quiet_eq {h : Heap} {B : (Heap → Prop) → Prop} (hb : B (Eq h)) : Quiet h B := ⟨Eq h, rfl, hb⟩
theorem jump_none (A R : Prop) (X : Nat → Prop) : JumpM none A R X = A := rfl
theorem jump_ret (A R : Prop) (X : Nat → Prop) : JumpM (some .ret) A R X = R := rfl
theorem jump_exit (i : Nat) (A R : Prop) (X : Nat → Prop) : JumpM (some (.exit i)) A R X = X i := rfl
theorem qend_eq (h : Heap) (K : Heap → Prop) : QEnd (Eq h) K = K h := propext ⟨fun H => H h rfl, fun H h' e => e ▸ H⟩
theorem marks_one (D : Nat) (h : Heap) (K : Heap → Prop) : MarksP (addMark D undef) h K = (h[D]? = some (.deferred (some [])) ∧ K (h.setIfInBounds D (.deferred none))) := rfl

/-! ### Control -/
theorem nilC_ptr (a : Addr) (K : Value → Prop) : NilC (.pointer (some a)) K = K (.pointer (some a)) := rfl
theorem nilC_func (f : FuncId) (x y : Array Value) (K : Value → Prop) : NilC (.func (.func f) x y) K = K (.func (.func f) x y) := rfl
theorem condP_true (A B : Prop) : CondP (.bool true) A B = A := rfl
theorem condP_false (A B : Prop) : CondP (.bool false) A B = B := rfl
theorem condP_bool (b : Bool) (A B : Prop) : CondP (.bool b) A B = ((b = true → A) ∧ (b = false → B)) := by cases b <;> simp [CondP]
theorem tt_and (A B : Prop) : ((True → A) ∧ (true = false → B)) = A := propext ⟨fun h => h.1 trivial, fun h => ⟨fun _ => h, fun e => by cases e⟩⟩
theorem ff_and (A B : Prop) : ((false = true → A) ∧ (True → B)) = B := propext ⟨fun h => h.2 trivial, fun h => ⟨(fun e => by cases e), fun _ => h⟩⟩
theorem guardP_true (w : Bool) (A B : Prop) : GuardP (.bool true) w A B = (bif w then A else B) := rfl
theorem guardP_false (w : Bool) (A B : Prop) : GuardP (.bool false) w A B = (bif w then B else A) := rfl
theorem guardP_bool_t (b : Bool) (A B : Prop) : GuardP (.bool b) true A B = ((b = true → A) ∧ (b = false → B)) := by cases b <;> simp [GuardP]
theorem guardP_bool_f (b : Bool) (A B : Prop) : GuardP (.bool b) false A B = ((b = true → B) ∧ (b = false → A)) := by cases b <;> simp [GuardP]
theorem skipP_undef (B : Prop) : SkipP undef B = B := by simp [SkipP]
theorem pickP_bool (c : Bool) (a b : Value) (K : Value → Prop) : PickP (.bool c) a b K = K (bif c then a else b) := rfl
theorem Join0.intro {K : Heap → Prop} {B : (Heap → Prop) → Prop} (M : Heap → Prop) (hb : ∀ J : Heap → Prop, (∀ h, M h → J h) → B J) (hk : ∀ h, M h → K h) : Join0 K B := hb K hk
theorem Join1.intro {K : Value → Heap → Prop} {B : (Value → Heap → Prop) → Prop} (M : Value → Heap → Prop) (hb : ∀ J : Value → Heap → Prop, (∀ x h, M x h → J x h) → B J) (hk : ∀ x h, M x h → K x h) : Join1 K B := hb K hk
theorem Join2.intro {K : Value → Value → Heap → Prop} {B : (Value → Value → Heap → Prop) → Prop} (M : Value → Value → Heap → Prop) (hb : ∀ J : Value → Value → Heap → Prop, (∀ x y h, M x y h → J x y h) → B J) (hk : ∀ x y h, M x y h → K x y h) : Join2 K B := hb K hk
theorem Join3.intro {K : Value → Value → Value → Heap → Prop} {B : (Value → Value → Value → Heap → Prop) → Prop} (M : Value → Value → Value → Heap → Prop) (hb : ∀ J : Value → Value → Value → Heap → Prop, (∀ x y z h, M x y z h → J x y z h) → B J) (hk : ∀ x y z h, M x y z h → K x y z h) : Join3 K B := hb K hk

/-! ### Numbers -/
theorem guard_int (op : BinOp) (t : TypeId) (x y : Operand) (k l : IntKind) (a b : Int) : eqGuard op t x y (.int k a) (.int l b) = pure () := by
  unfold eqGuard
  split <;> rfl
theorem binS_int (op : BinOp) (t : TypeId) (x y : Operand) (k l : IntKind) (a b : Int) : binS op t x y (.int k a) (.int l b) = binOp op t (.int k a) (.int l b) := by
  unfold binS
  rw [guard_int]
  rfl
theorem b_add (t : TypeId) (x y : Operand) (a b : Int) (K : Value → Heap → Prop) (h1 : -9223372036854775808 ≤ a + b) (h2 : a + b ≤ 9223372036854775807) :
    RunV P (binS .add t x y (.int .i64 a) (.int .i64 b)) h K = K (.int .i64 (a + b)) h :=
  RunV_pure fun w hw => by rw [binS_int]; simp only [binOp, Op.intArith, ne_eq, not_true, if_false, Sem.run_pure]; rw [IntKind.wrap_i64]; congr 2; omega
theorem q_b_add {C : Heap → Prop} {h0 : Heap} (hC : C h0) (t : TypeId) (x y : Operand) (a b : Int) (K : Value → Prop) (h1 : -9223372036854775808 ≤ a + b) (h2 : a + b ≤ 9223372036854775807) : QV P C (binS .add t x y (.int .i64 a) (.int .i64 b)) K = K (.int .i64 (a + b)) :=
  QV_cls hC fun h' he => fun w hw => by rw [binS_int]; simp only [binOp, Op.intArith, ne_eq, not_true, if_false, Sem.run_pure]; rw [IntKind.wrap_i64]; congr 2; omega
theorem b_sub (t : TypeId) (x y : Operand) (a b : Int) (K : Value → Heap → Prop) (h1 : -9223372036854775808 ≤ a - b) (h2 : a - b ≤ 9223372036854775807) :
    RunV P (binS .sub t x y (.int .i64 a) (.int .i64 b)) h K = K (.int .i64 (a - b)) h :=
  RunV_pure fun w hw => by rw [binS_int]; simp only [binOp, Op.intArith, ne_eq, not_true, if_false, Sem.run_pure]; rw [IntKind.wrap_i64]; congr 2; omega
theorem q_b_sub {C : Heap → Prop} {h0 : Heap} (hC : C h0) (t : TypeId) (x y : Operand) (a b : Int) (K : Value → Prop) (h1 : -9223372036854775808 ≤ a - b) (h2 : a - b ≤ 9223372036854775807) : QV P C (binS .sub t x y (.int .i64 a) (.int .i64 b)) K = K (.int .i64 (a - b)) :=
  QV_cls hC fun h' he => fun w hw => by rw [binS_int]; simp only [binOp, Op.intArith, ne_eq, not_true, if_false, Sem.run_pure]; rw [IntKind.wrap_i64]; congr 2; omega
theorem b_mul (t : TypeId) (x y : Operand) (a b : Int) (K : Value → Heap → Prop) (h1 : -9223372036854775808 ≤ a * b) (h2 : a * b ≤ 9223372036854775807) :
    RunV P (binS .mul t x y (.int .i64 a) (.int .i64 b)) h K = K (.int .i64 (a * b)) h :=
  RunV_pure fun w hw => by rw [binS_int]; simp only [binOp, Op.intArith, ne_eq, not_true, if_false, Sem.run_pure]; rw [IntKind.wrap_i64]; congr 2; omega
theorem q_b_mul {C : Heap → Prop} {h0 : Heap} (hC : C h0) (t : TypeId) (x y : Operand) (a b : Int) (K : Value → Prop) (h1 : -9223372036854775808 ≤ a * b) (h2 : a * b ≤ 9223372036854775807) : QV P C (binS .mul t x y (.int .i64 a) (.int .i64 b)) K = K (.int .i64 (a * b)) :=
  QV_cls hC fun h' he => fun w hw => by rw [binS_int]; simp only [binOp, Op.intArith, ne_eq, not_true, if_false, Sem.run_pure]; rw [IntKind.wrap_i64]; congr 2; omega
theorem b_quo (t : TypeId) (x y : Operand) (a b : Int) (K : Value → Heap → Prop) (h1 : 0 ≤ a) (h2 : a ≤ 9223372036854775807) (h3 : 0 < b) :
    RunV P (binS .quo t x y (.int .i64 a) (.int .i64 b)) h K = K (.int .i64 (a / b)) h :=
  RunV_pure fun w hw => by
    rw [binS_int]; simp only [binOp, Op.intDiv, ne_eq, not_true, if_false, if_neg (show ¬ b = 0 by omega), Sem.run_pure]
    rw [IntKind.wrap_i64, Int.tdiv_eq_ediv_of_nonneg h1]
    have h4 : 0 ≤ a / b := Int.ediv_nonneg h1 (by omega)
    have h5 : a / b ≤ a := Int.ediv_le_self _ h1
    congr 2; omega
theorem q_b_quo {C : Heap → Prop} {h0 : Heap} (hC : C h0) (t : TypeId) (x y : Operand) (a b : Int) (K : Value → Prop) (h1 : 0 ≤ a) (h2 : a ≤ 9223372036854775807) (h3 : 0 < b) : QV P C (binS .quo t x y (.int .i64 a) (.int .i64 b)) K = K (.int .i64 (a / b)) :=
  QV_cls hC fun h' he => fun w hw => by
    rw [binS_int]; simp only [binOp, Op.intDiv, ne_eq, not_true, if_false, if_neg (show ¬ b = 0 by omega), Sem.run_pure]
    rw [IntKind.wrap_i64, Int.tdiv_eq_ediv_of_nonneg h1]
    have h4 : 0 ≤ a / b := Int.ediv_nonneg h1 (by omega)
    have h5 : a / b ≤ a := Int.ediv_le_self _ h1
    congr 2; omega
theorem b_rem (t : TypeId) (x y : Operand) (a b : Int) (K : Value → Heap → Prop) (h1 : 0 ≤ a) (h3 : 0 < b) :
    RunV P (binS .rem t x y (.int .i64 a) (.int .i64 b)) h K = K (.int .i64 (a % b)) h :=
  RunV_pure fun w hw => by
    rw [binS_int]; simp only [binOp, Op.intDiv, ne_eq, not_true, if_false, if_neg (show ¬ b = 0 by omega), Sem.run_pure]
    rw [Int.tmod_eq_emod_of_nonneg h1]
theorem q_b_rem {C : Heap → Prop} {h0 : Heap} (hC : C h0) (t : TypeId) (x y : Operand) (a b : Int) (K : Value → Prop) (h1 : 0 ≤ a) (h3 : 0 < b) : QV P C (binS .rem t x y (.int .i64 a) (.int .i64 b)) K = K (.int .i64 (a % b)) :=
  QV_cls hC fun h' he => fun w hw => by
    rw [binS_int]; simp only [binOp, Op.intDiv, ne_eq, not_true, if_false, if_neg (show ¬ b = 0 by omega), Sem.run_pure]
    rw [Int.tmod_eq_emod_of_nonneg h1]
theorem b_remk (t : TypeId) (x y : Operand) (k : IntKind) (a b : Int) (K : Value → Heap → Prop) (h1 : 0 ≤ a) (h3 : 0 < b) :
    RunV P (binS .rem t x y (.int k a) (.int k b)) h K = K (.int k (a % b)) h :=
  RunV_pure fun w hw => by
    rw [binS_int]; simp only [binOp, Op.intDiv, ne_eq, not_true, if_false, if_neg (show ¬ b = 0 by omega), Sem.run_pure]
    rw [Int.tmod_eq_emod_of_nonneg h1]
theorem b_lss (t : TypeId) (x y : Operand) (k : IntKind) (a b : Int) (K : Value → Heap → Prop) : RunV P (binS .lss t x y (.int k a) (.int k b)) h K = K (.bool (decide (a < b))) h :=
  RunV_pure fun w hw => by rw [binS_int]; simp [binOp, Op.intCmp]
theorem q_b_lss {C : Heap → Prop} {h0 : Heap} (hC : C h0) (t : TypeId) (x y : Operand) (k : IntKind) (a b : Int) (K : Value → Prop) : QV P C (binS .lss t x y (.int k a) (.int k b)) K = K (.bool (decide (a < b))) :=
  QV_cls hC fun h' he => fun w hw => by rw [binS_int]; simp [binOp, Op.intCmp]
theorem b_leq (t : TypeId) (x y : Operand) (k : IntKind) (a b : Int) (K : Value → Heap → Prop) : RunV P (binS .leq t x y (.int k a) (.int k b)) h K = K (.bool (decide (a ≤ b))) h :=
  RunV_pure fun w hw => by rw [binS_int]; simp [binOp, Op.intCmp]
theorem q_b_leq {C : Heap → Prop} {h0 : Heap} (hC : C h0) (t : TypeId) (x y : Operand) (k : IntKind) (a b : Int) (K : Value → Prop) : QV P C (binS .leq t x y (.int k a) (.int k b)) K = K (.bool (decide (a ≤ b))) :=
  QV_cls hC fun h' he => fun w hw => by rw [binS_int]; simp [binOp, Op.intCmp]
theorem b_gtr (t : TypeId) (x y : Operand) (k : IntKind) (a b : Int) (K : Value → Heap → Prop) : RunV P (binS .gtr t x y (.int k a) (.int k b)) h K = K (.bool (decide (b < a))) h :=
  RunV_pure fun w hw => by rw [binS_int]; simp [binOp, Op.intCmp]
theorem q_b_gtr {C : Heap → Prop} {h0 : Heap} (hC : C h0) (t : TypeId) (x y : Operand) (k : IntKind) (a b : Int) (K : Value → Prop) : QV P C (binS .gtr t x y (.int k a) (.int k b)) K = K (.bool (decide (b < a))) :=
  QV_cls hC fun h' he => fun w hw => by rw [binS_int]; simp [binOp, Op.intCmp]
theorem b_geq (t : TypeId) (x y : Operand) (k : IntKind) (a b : Int) (K : Value → Heap → Prop) : RunV P (binS .geq t x y (.int k a) (.int k b)) h K = K (.bool (decide (b ≤ a))) h :=
  RunV_pure fun w hw => by rw [binS_int]; simp [binOp, Op.intCmp]
theorem q_b_geq {C : Heap → Prop} {h0 : Heap} (hC : C h0) (t : TypeId) (x y : Operand) (k : IntKind) (a b : Int) (K : Value → Prop) : QV P C (binS .geq t x y (.int k a) (.int k b)) K = K (.bool (decide (b ≤ a))) :=
  QV_cls hC fun h' he => fun w hw => by rw [binS_int]; simp [binOp, Op.intCmp]
theorem b_eql (t : TypeId) (x y : Operand) (k : IntKind) (a b : Int) (K : Value → Heap → Prop) : RunV P (binS .eql t x y (.int k a) (.int k b)) h K = K (.bool (decide (a = b))) h :=
  RunV_pure fun w hw => by rw [binS_int]; simp [binOp, Op.intCmp]; rfl
theorem q_b_eql {C : Heap → Prop} {h0 : Heap} (hC : C h0) (t : TypeId) (x y : Operand) (k : IntKind) (a b : Int) (K : Value → Prop) : QV P C (binS .eql t x y (.int k a) (.int k b)) K = K (.bool (decide (a = b))) :=
  QV_cls hC fun h' he => fun w hw => by rw [binS_int]; simp [binOp, Op.intCmp]; rfl
theorem b_neq (t : TypeId) (x y : Operand) (k : IntKind) (a b : Int) (K : Value → Heap → Prop) : RunV P (binS .neq t x y (.int k a) (.int k b)) h K = K (.bool (!decide (a = b))) h :=
  RunV_pure fun w hw => by rw [binS_int]; simp [binOp, Op.intCmp]; rfl
theorem q_b_neq {C : Heap → Prop} {h0 : Heap} (hC : C h0) (t : TypeId) (x y : Operand) (k : IntKind) (a b : Int) (K : Value → Prop) : QV P C (binS .neq t x y (.int k a) (.int k b)) K = K (.bool (!decide (a = b))) :=
  QV_cls hC fun h' he => fun w hw => by rw [binS_int]; simp [binOp, Op.intCmp]; rfl
theorem u_not (b : Bool) (K : Value → Heap → Prop) : RunV P (Op.unary .not (.bool b)) h K = K (.bool (!b)) h := RunV_pure fun w hw => rfl
theorem q_u_not {C : Heap → Prop} {h0 : Heap} (hC : C h0) (b : Bool) (K : Value → Prop) : QV P C (Op.unary .not (.bool b)) K = K (.bool (!b)) :=
  QV_cls hC fun h' he => fun w hw => rfl
theorem r_extract (vs : Array Value) (i : Nat) (v : Value) (hv : vs[i]? = some v) (K : Value → Heap → Prop) : RunV P (Instr.extract (.tuple vs) i) h K = K v h :=
  RunV_pure fun w hw => by simp [Instr.extract, hv]

/-! ### Strings, as lists of bytes -/
def str (l : List UInt8) : Value := .string ⟨l.toArray⟩
theorem q_r_extract {C : Heap → Prop} {h0 : Heap} (hC : C h0) (vs : Array Value) (i : Nat) (v : Value) (hv : vs[i]? = some v) (K : Value → Prop) : QV P C (Instr.extract (.tuple vs) i) K = K v :=
  QV_cls hC fun h' he => fun w hw => by simp [Instr.extract, hv]

theorem str_eq (s : ByteArray) : Value.string s = str s.data.toList := by unfold str; rw [Lib.mk_data]
theorem str_inj {a b : List UInt8} : str a = str b ↔ a = b := by
  unfold str
  constructor
  · intro h; injection h with h; injection h with h; simpa using h
  · intro h; rw [h]
theorem guard_str (op : BinOp) (t : TypeId) (x y : Operand) (a b : ByteArray) : eqGuard op t x y (.string a) (.string b) = pure () := by
  unfold eqGuard
  split <;> rfl
theorem binS_str (op : BinOp) (t : TypeId) (x y : Operand) (a b : ByteArray) : binS op t x y (.string a) (.string b) = binOp op t (.string a) (.string b) := by
  unfold binS
  rw [guard_str]
  rfl
theorem size_mk (l : List UInt8) : (ByteArray.mk l.toArray).size = l.length := by simp [ByteArray.size]
theorem append_mk (a b : List UInt8) : (ByteArray.mk a.toArray) ++ (ByteArray.mk b.toArray) = ⟨(a ++ b).toArray⟩ := by
  apply ByteArray.ext
  rw [ByteArray.data_append]
  simp
theorem s_add (t : TypeId) (x y : Operand) (a b : List UInt8) (K : Value → Heap → Prop) (hb : a.length + b.length ≤ 9223372036854775807) :
    RunV P (binS .add t x y (str a) (str b)) h K = K (str (a ++ b)) h :=
  RunV_pure fun w hw => by
    unfold str
    rw [binS_str]
    have : ¬ ((((ByteArray.mk a.toArray).size + (ByteArray.mk b.toArray).size : Nat) : Int) > IntKind.i64.max) := by
      rw [size_mk, size_mk]; simp only [IntKind.max]; show ¬ (_ > (9223372036854775807 : Int)); omega
    simp only [binOp, Op.stringOp, if_neg this, Sem.run_pure, append_mk]
theorem q_s_add {C : Heap → Prop} {h0 : Heap} (hC : C h0) (t : TypeId) (x y : Operand) (a b : List UInt8) (K : Value → Prop) (hb : a.length + b.length ≤ 9223372036854775807) : QV P C (binS .add t x y (str a) (str b)) K = K (str (a ++ b)) :=
  QV_cls hC fun h' he => fun w hw => by
    unfold str
    rw [binS_str]
    have : ¬ ((((ByteArray.mk a.toArray).size + (ByteArray.mk b.toArray).size : Nat) : Int) > IntKind.i64.max) := by
      rw [size_mk, size_mk]; simp only [IntKind.max]; show ¬ (_ > (9223372036854775807 : Int)); omega
    simp only [binOp, Op.stringOp, if_neg this, Sem.run_pure, append_mk]
theorem s_eql (t : TypeId) (x y : Operand) (a b : List UInt8) (K : Value → Heap → Prop) : RunV P (binS .eql t x y (str a) (str b)) h K = K (.bool (decide (a = b))) h :=
  RunV_pure fun w hw => by
    unfold str
    rw [binS_str]
    simp only [binOp, Op.stringOp, Sem.run_pure, ByteArray.toList_mk]
    congr 2
    rw [Bool.eq_iff_iff]; simp
theorem q_s_eql {C : Heap → Prop} {h0 : Heap} (hC : C h0) (t : TypeId) (x y : Operand) (a b : List UInt8) (K : Value → Prop) : QV P C (binS .eql t x y (str a) (str b)) K = K (.bool (decide (a = b))) :=
  QV_cls hC fun h' he => fun w hw => by
    unfold str
    rw [binS_str]
    simp only [binOp, Op.stringOp, Sem.run_pure, ByteArray.toList_mk]
    congr 2
    rw [Bool.eq_iff_iff]; simp
theorem s_neq (t : TypeId) (x y : Operand) (a b : List UInt8) (K : Value → Heap → Prop) : RunV P (binS .neq t x y (str a) (str b)) h K = K (.bool (!decide (a = b))) h :=
  RunV_pure fun w hw => by
    unfold str
    rw [binS_str]
    simp only [binOp, Op.stringOp, Sem.run_pure, ByteArray.toList_mk]
    congr 3
    rw [Bool.eq_iff_iff]; simp
theorem q_s_neq {C : Heap → Prop} {h0 : Heap} (hC : C h0) (t : TypeId) (x y : Operand) (a b : List UInt8) (K : Value → Prop) : QV P C (binS .neq t x y (str a) (str b)) K = K (.bool (!decide (a = b))) :=
  QV_cls hC fun h' he => fun w hw => by
    unfold str
    rw [binS_str]
    simp only [binOp, Op.stringOp, Sem.run_pure, ByteArray.toList_mk]
    congr 3
    rw [Bool.eq_iff_iff]; simp
theorem s_len {t : TypeId} (hu : P.underlying t = some .string) (ty : TypeId) (c : Array Bool) (a : List UInt8) (K : Value → Heap → Prop) :
    OpN P (Go.builtin .len #[t] ty c #[str a]) h K = K (.int .i64 a.length) h :=
  OpN_pure fun w hw => by
    simp only [Go.builtin, Builtin.len_, str, Sem.run_bind]
    simp [run_underlying hu, goInt, size_mk]
theorem q_s_len {C : Heap → Prop} {h0 : Heap} (hC : C h0) {t : TypeId} (hu : P.underlying t = some .string) (ty : TypeId) (c : Array Bool) (a : List UInt8) (K : Value → Prop) : QB P C (Go.builtin .len #[t] ty c #[str a]) K = K (.int .i64 a.length) :=
  QB_cls hC fun h' he => fun w hw => by
    simp only [Go.builtin, Builtin.len_, str, Sem.run_bind]
    simp [run_underlying hu, goInt, size_mk]
theorem l_len {t e : TypeId} (hu : P.underlying t = some (.slice e)) (ty : TypeId) (c : Array Bool) (a : Option Addr) (n k : Nat) (K : Value → Heap → Prop) :
    OpN P (Go.builtin .len #[t] ty c #[.slice a n k]) h K = K (.int .i64 n) h :=
  OpN_pure fun w hw => by
    simp only [Go.builtin, Builtin.len_, Sem.run_bind]
    simp [run_underlying hu, goInt]
theorem q_l_len {C : Heap → Prop} {h0 : Heap} (hC : C h0) {t e : TypeId} (hu : P.underlying t = some (.slice e)) (ty : TypeId) (c : Array Bool) (a : Option Addr) (n k : Nat) (K : Value → Prop) : QB P C (Go.builtin .len #[t] ty c #[.slice a n k]) K = K (.int .i64 n) :=
  QB_cls hC fun h' he => fun w hw => by
    simp only [Go.builtin, Builtin.len_, Sem.run_bind]
    simp [run_underlying hu, goInt]
theorem i_max2 (ts : Array TypeId) (ty : TypeId) (c : Array Bool) (k : IntKind) (a b : Int) (K : Value → Heap → Prop) :
    OpN P (Go.builtin .max ts ty c #[.int k a, .int k b]) h K = K (.int k (max a b)) h :=
  OpN_pure fun w hw => by
    simp [Go.builtin, Builtin.max_, Builtin.max2]
    omega
theorem q_i_max2 {C : Heap → Prop} {h0 : Heap} (hC : C h0) (ts : Array TypeId) (ty : TypeId) (c : Array Bool) (k : IntKind) (a b : Int) (K : Value → Prop) : QB P C (Go.builtin .max ts ty c #[.int k a, .int k b]) K = K (.int k (max a b)) :=
  QB_cls hC fun h' he => fun w hw => by
    simp [Go.builtin, Builtin.max_, Builtin.max2]
    omega
theorem i_min2 (ts : Array TypeId) (ty : TypeId) (c : Array Bool) (k : IntKind) (a b : Int) (K : Value → Heap → Prop) :
    OpN P (Go.builtin .min ts ty c #[.int k a, .int k b]) h K = K (.int k (min a b)) h :=
  OpN_pure fun w hw => by
    simp [Go.builtin, Builtin.min_, Builtin.min2]
    omega
theorem q_i_min2 {C : Heap → Prop} {h0 : Heap} (hC : C h0) (ts : Array TypeId) (ty : TypeId) (c : Array Bool) (k : IntKind) (a b : Int) (K : Value → Prop) : QB P C (Go.builtin .min ts ty c #[.int k a, .int k b]) K = K (.int k (min a b)) :=
  QB_cls hC fun h' he => fun w hw => by
    simp [Go.builtin, Builtin.min_, Builtin.min2]
    omega
theorem sl_run {t : TypeId} (hu : P.underlying t = some .string) (l : List UInt8) (lo hi : Option Value) (i j : Nat) (hlo : (lo = none ∧ i = 0) ∨ lo = some (.int .i64 i)) (hhi : (hi = none ∧ j = l.length) ∨ hi = some (.int .i64 j)) (h1 : i ≤ j) (h2 : j ≤ l.length) (w : World) :
    (Instr.sliceAt t (str l) lo hi none).run P w = .ok (str ((l.drop i).take (j - i))) w := by
  have e : (ByteArray.mk l.toArray).extract i j = ⟨((l.drop i).take (j - i)).toArray⟩ := by rw [Lib.extract_eq]
  have h2' : (j : Int) ≤ ((ByteArray.mk l.toArray).size : Int) := by rw [size_mk]; omega
  have h1' : (i : Int) ≤ (j : Int) := by omega
  unfold str
  rw [← e]
  unfold Instr.sliceAt
  simp only [Sem.run_bind, run_underlying hu, Result.andThen_ok, Instr.slice]
  rcases hlo with ⟨rfl, rfl⟩ | rfl <;> rcases hhi with ⟨rfl, rfl⟩ | rfl <;>
    simp [Instr.sliceBounds, Instr.sliceBound, asIntOf, h1', h2', run_underlying hu, size_mk, h2, h1]
theorem sl_both {t : TypeId} (hu : P.underlying t = some .string) (l : List UInt8) (i j : Int) (h0 : 0 ≤ i) (h1 : i ≤ j) (h2 : j ≤ l.length) (K : Value → Heap → Prop) :
    RunV P (Instr.sliceAt t (str l) (some (.int .i64 i)) (some (.int .i64 j)) none) h K = K (str ((l.drop i.toNat).take (j.toNat - i.toNat))) h :=
  RunV_pure fun w hw => sl_run hu l _ _ i.toNat j.toNat (.inr (by rw [Int.toNat_of_nonneg h0])) (.inr (by rw [Int.toNat_of_nonneg (by omega)])) (by omega) (by omega) w
theorem q_sl_both {C : Heap → Prop} {h0 : Heap} (hC : C h0) {t : TypeId} (hu : P.underlying t = some .string) (l : List UInt8) (i j : Int) (h0 : 0 ≤ i) (h1 : i ≤ j) (h2 : j ≤ l.length) (K : Value → Prop) : QV P C (Instr.sliceAt t (str l) (some (.int .i64 i)) (some (.int .i64 j)) none) K = K (str ((l.drop i.toNat).take (j.toNat - i.toNat))) :=
  QV_cls hC fun h' he => fun w hw => sl_run hu l _ _ i.toNat j.toNat (.inr (by rw [Int.toNat_of_nonneg h0])) (.inr (by rw [Int.toNat_of_nonneg (by omega)])) (by omega) (by omega) w
theorem sl_lo {t : TypeId} (hu : P.underlying t = some .string) (l : List UInt8) (i : Int) (h0 : 0 ≤ i) (h2 : i ≤ l.length) (K : Value → Heap → Prop) :
    RunV P (Instr.sliceAt t (str l) (some (.int .i64 i)) none none) h K = K (str (l.drop i.toNat)) h :=
  RunV_pure fun w hw => by
    have := sl_run (P := P) hu l (some (.int .i64 i)) none i.toNat l.length (.inr (by rw [Int.toNat_of_nonneg h0])) (.inl ⟨rfl, rfl⟩) (by omega) (by omega) w
    rw [this, List.take_of_length_le (by simp)]
theorem q_sl_lo {C : Heap → Prop} {h0 : Heap} (hC : C h0) {t : TypeId} (hu : P.underlying t = some .string) (l : List UInt8) (i : Int) (h0 : 0 ≤ i) (h2 : i ≤ l.length) (K : Value → Prop) : QV P C (Instr.sliceAt t (str l) (some (.int .i64 i)) none none) K = K (str (l.drop i.toNat)) :=
  QV_cls hC fun h' he => fun w hw => by
    have := sl_run (P := P) hu l (some (.int .i64 i)) none i.toNat l.length (.inr (by rw [Int.toNat_of_nonneg h0])) (.inl ⟨rfl, rfl⟩) (by omega) (by omega) w
    rw [this, List.take_of_length_le (by simp)]
theorem sl_hi {t : TypeId} (hu : P.underlying t = some .string) (l : List UInt8) (j : Int) (h0 : 0 ≤ j) (h2 : j ≤ l.length) (K : Value → Heap → Prop) :
    RunV P (Instr.sliceAt t (str l) none (some (.int .i64 j)) none) h K = K (str (l.take j.toNat)) h :=
  RunV_pure fun w hw => by
    have := sl_run (P := P) hu l none (some (.int .i64 j)) 0 j.toNat (.inl ⟨rfl, rfl⟩) (.inr (by rw [Int.toNat_of_nonneg h0])) (by omega) (by omega) w
    rw [this]; simp
theorem q_sl_hi {C : Heap → Prop} {h0 : Heap} (hC : C h0) {t : TypeId} (hu : P.underlying t = some .string) (l : List UInt8) (j : Int) (h0 : 0 ≤ j) (h2 : j ≤ l.length) (K : Value → Prop) : QV P C (Instr.sliceAt t (str l) none (some (.int .i64 j)) none) K = K (str (l.take j.toNat)) :=
  QV_cls hC fun h' he => fun w hw => by
    have := sl_run (P := P) hu l none (some (.int .i64 j)) 0 j.toNat (.inl ⟨rfl, rfl⟩) (.inr (by rw [Int.toNat_of_nonneg h0])) (by omega) (by omega) w
    rw [this]; simp
theorem s_index {t : TypeId} (hu : P.underlying t = some .string) (l : List UInt8) (i : Int) (h0 : 0 ≤ i) (h2 : i < l.length) (K : Value → Heap → Prop) :
    RunV P (Instr.index t (str l) (.int .i64 i)) h K = K (.int .u8 ((l.getD i.toNat 0).toNat : Int)) h :=
  RunV_pure fun w hw => by
    have hlt : i.toNat < l.length := by omega
    have hg : (ByteArray.mk l.toArray)[i.toNat]? = some (l.getD i.toNat 0) := by
      rw [getElem?_pos (ByteArray.mk l.toArray) i.toNat (by rw [size_mk]; exact hlt)]
      simp [ByteArray.getElem_eq_getElem_data, List.getD_eq_getElem?_getD, List.getElem?_eq_getElem hlt]
    unfold Instr.index str
    simp [asIntOf, run_underlying hu, h0, hg]

/-! ### Memory -/
def cellH (h : Heap) (b o : Nat) : Option Value := match h[b]? with
  | some (.cells c _ _) => c[o]?
  | _ => none
def okW (h : Heap) (b o : Nat) : Bool := match h[b]? with
  | some (.cells c _ (lo, hi)) => decide (o < c.size) && !(decide (lo ≤ o) && decide (o < hi))
  | _ => false
def setH (h : Heap) (b o : Nat) (v : Value) : Heap := h.modify b fun
  | .cells c e f => .cells (c.setIfInBounds o v) e f
  | x => x
theorem q_s_index {C : Heap → Prop} {h0 : Heap} (hC : C h0) {t : TypeId} (hu : P.underlying t = some .string) (l : List UInt8) (i : Int) (h0 : 0 ≤ i) (h2 : i < l.length) (K : Value → Prop) : QV P C (Instr.index t (str l) (.int .i64 i)) K = K (.int .u8 ((l.getD i.toNat 0).toNat : Int)) :=
  QV_cls hC fun h' he => fun w hw => by
    have hlt : i.toNat < l.length := by omega
    have hg : (ByteArray.mk l.toArray)[i.toNat]? = some (l.getD i.toNat 0) := by
      rw [getElem?_pos (ByteArray.mk l.toArray) i.toNat (by rw [size_mk]; exact hlt)]
      simp [ByteArray.getElem_eq_getElem_data, List.getD_eq_getElem?_getD, List.getElem?_eq_getElem hlt]
    unfold Instr.index str
    simp [asIntOf, run_underlying hu, h0, hg]

theorem cell_world (w : World) (b o : Nat) : w.cell? ⟨b, o, none⟩ = cellH w.heap b o := by
  unfold World.cell? cellH
  simp only
  split <;> rename_i hx <;> simp [hx]
theorem setCell_world (w : World) (b o : Nat) (v : Value) : w.setCell ⟨b, o, none⟩ v = { w with heap := setH w.heap b o v } := by
  unfold World.setCell setH
  simp only
  congr 2
theorem cellH_of {c : Array Value} {e : TypeId} {f : Nat × Nat} {b : Nat} (hb : h[b]? = some (.cells c e f)) (o : Nat) : cellH h b o = c[o]? := by simp [cellH, hb]
theorem setH_of {c : Array Value} {e : TypeId} {f : Nat × Nat} {b : Nat} (hb : h[b]? = some (.cells c e f)) (o : Nat) (v : Value) : setH h b o v = h.setIfInBounds b (.cells (c.setIfInBounds o v) e f) := by
  have hlt : b < h.size := (Array.getElem?_eq_some_iff.1 hb).1
  apply Array.ext_getElem?
  intro i
  rw [setH, Array.getElem?_modify, Array.getElem?_setIfInBounds]
  by_cases hi : b = i
  · subst hi; have hg := (Array.getElem?_eq_some_iff.1 hb).2; simp [hlt, hg]
  · simp [hi]
theorem okW_of {c : Array Value} {e : TypeId} {b : Nat} (hb : h[b]? = some (.cells c e (0, 0))) {o : Nat} (ho : o < c.size) : okW h b o = true := by simp [okW, hb, ho]
def aggD : TypeDesc → Bool
  | .struct _ | .array _ _ => true
  | _ => false
theorem run_isAgg {t : TypeId} {d : TypeDesc} (hu : P.underlying t = some d) (w : World) : (isAgg t).run P w = .ok (aggD d) w := by
  unfold isAgg
  simp only [Sem.run_bind, run_underlying hu, Result.andThen_ok]
  cases d <;> rfl
theorem m_load {t : TypeId} {d : TypeDesc} (hu : P.underlying t = some d) (hd : aggD d = false) {b o : Nat} {v : Value} (hc : cellH h b o = some v) (K : Value → Heap → Prop) :
    RunV P (Instr.loadAt t (.pointer (some ⟨b, o, none⟩))) h K = K v h :=
  RunV_pure fun w hw => by
    unfold Instr.loadAt loadVar
    simp only [Instr.sureAddr, pure_bind, Sem.run_bind, run_isAgg hu, hd, Result.andThen_ok, Bool.false_eq_true, if_false]
    have : w.cell? ⟨b, o, none⟩ = some v := by rw [cell_world, hw, hc]
    simp [load, Sem.run, this]
theorem sizeOf_run {t : TypeId} {n : Nat} (hs : (P.info? t).map (·.size) = some n) (w : World) : (sizeOf t).run P w = .ok n w := by
  cases hi : P.info? t with
  | none => rw [hi] at hs; cases hs
  | some i =>
    rw [hi] at hs
    injection hs with hs
    subst hs
    unfold sizeOf typeInfo
    simp only [program]
    show ((do let __do_lift ← (do let p ← (Sem.program Sem.pure : Sem Program); match p.info? t with | some i => pure i | none => stuck "no such type"); pure __do_lift.size) : Sem Nat).run P w = _
    simp [Sem.run, hi]
def plainV : Value → Bool
  | .agg _ | .tuple _ => false
  | _ => true
theorem plain_cells {v : Value} (hv : plainV v = true) : v.cells = #[v] := by cases v <;> first | rfl | cases hv
theorem run_store1 {a : Addr} {v : Value} (hv : plainV v = true) (w : World) (hc : (w.cell? a).isSome = true) (hf : w.frozen? a = false) : (store a v).run P w = .ok () (w.setCell a v) := by
  unfold store
  obtain ⟨u, hu⟩ := Option.isSome_iff_exists.1 hc
  cases v <;> first | (cases hv; done) | simp [Sem.run, hu, hf]
theorem okW_world {w : World} {b o : Nat} (h : okW w.heap b o = true) : (w.cell? ⟨b, o, none⟩).isSome = true ∧ w.frozen? ⟨b, o, none⟩ = false := by
  unfold okW at h
  unfold World.cell? World.frozen?
  simp only
  split at h
  · rename_i c e lo hi hb
    simp only [Bool.and_eq_true, decide_eq_true_eq, Bool.not_eq_true'] at h
    simp only [hb]
    refine ⟨by simp [h.1], h.2⟩
  · cases h
theorem m_store {t : TypeId} (hs : (P.info? t).map (·.size) = some 1) {b o : Nat} {v : Value} (hv : plainV v = true) (hc : okW h b o = true) (K : Heap → Prop) :
    RunU P (Instr.storeAt t (.pointer (some ⟨b, o, none⟩)) v) h K = K (setH h b o v) :=
  RunU_of fun w hw => by
    subst hw
    obtain ⟨h1, h2⟩ := okW_world hc
    unfold Instr.storeAt storeVar
    simp only [Instr.sureAddr, pure_bind, Sem.run_bind, sizeOf_run hs, Result.andThen_ok, plain_cells hv]
    have h3 : (Addr.mk b o none).add 0 = ⟨b, o, none⟩ := rfl
    simp [storeCells, h3, run_store1 hv w h1 h2, setCell_world]
theorem m_alloc {t : TypeId} {z : Value} (hz : (P.info? t).bind (·.zero) = some z) (x : Value) (K : Value → Heap → Prop) :
    RunV P (Instr.alloc t true x) h K = K (.pointer (some ⟨h.size, 0, none⟩)) (h.push (.cells z.cells t (0, 0))) :=
  RunV_of fun w hw => by
    subst hw
    cases hi : P.info? t with
    | none => rw [hi] at hz; cases hz
    | some i =>
      rw [hi] at hz
      simp only [Option.bind_some] at hz
      have hzv : (zeroValue t).run P w = .ok z w := by
        unfold zeroValue typeInfo
        simp only [program]
        show ((do let __do_lift ← (do let p ← (Sem.program Sem.pure : Sem Program); match p.info? t with | some i => pure i | none => stuck "no such type"); match __do_lift.zero with | some v => pure v | none => unsupported (.resourceLimit "a value of more than 2^22 cells")) : Sem Value).run P w = _
        simp [Sem.run, hi, hz]
      unfold Instr.alloc
      simp only [Sem.run_bind, hzv, Result.andThen_ok]
      simp [newVar, newRow, newObj, Sem.run]
theorem m_box (t : TypeId) (v : Value) (K : Value → Heap → Prop) :
    RunV P (Instr.box t v) h K = K (.pointer (some ⟨h.size, 0, none⟩)) (h.push (.cells v.cells t (0, 0))) :=
  RunV_of fun w hw => by
    subst hw
    unfold Instr.box
    simp [newVar, newRow, newObj, Sem.run]
theorem addr_add (b o n : Nat) : (Addr.mk b o none).add n = ⟨b, o + n, none⟩ := by
  unfold Addr.add
  split
  · rename_i e; subst e; rfl
  · rfl
theorem m_field {t : TypeId} {fs : Array Field} (hu : P.underlying t = some (.struct fs)) (i ft off : Nat) (hf : (fs[i]?).map (fun f => (f.type, f.offset)) = some (ft, off)) {n : Nat} (hs : (P.info? ft).map (·.size) = some (n + 1)) (b o : Nat) (K : Value → Heap → Prop) :
    RunV P (Instr.fieldAt t (.pointer (some ⟨b, o, none⟩)) i) h K = K (.pointer (some ⟨b, o + off, none⟩)) h :=
  RunV_pure fun w hw => by
    cases hi : fs[i]? with
    | none => rw [hi] at hf; cases hf
    | some f =>
      rw [hi] at hf
      simp only [Option.map_some, Option.some.injEq, Prod.mk.injEq] at hf
      obtain ⟨rfl, rfl⟩ := hf
      unfold Instr.fieldAt fieldPlace
      simp only [Sem.run_bind, run_underlying hu, Result.andThen_ok, hi, Instr.sureAddr, pure_bind, sizeOf_run hs]
      simp [addr_add]
theorem q_m_field {C : Heap → Prop} {h0 : Heap} (hC : C h0) {t : TypeId} {fs : Array Field} (hu : P.underlying t = some (.struct fs)) (i ft off : Nat) (hf : (fs[i]?).map (fun f => (f.type, f.offset)) = some (ft, off)) {n : Nat} (hs : (P.info? ft).map (·.size) = some (n + 1)) (b o : Nat) (K : Value → Prop) : QV P C (Instr.fieldAt t (.pointer (some ⟨b, o, none⟩)) i) K = K (.pointer (some ⟨b, o + off, none⟩)) :=
  QV_cls hC fun h' he => fun w hw => by
    cases hi : fs[i]? with
    | none => rw [hi] at hf; cases hf
    | some f =>
      rw [hi] at hf
      simp only [Option.map_some, Option.some.injEq, Prod.mk.injEq] at hf
      obtain ⟨rfl, rfl⟩ := hf
      unfold Instr.fieldAt fieldPlace
      simp only [Sem.run_bind, run_underlying hu, Result.andThen_ok, hi, Instr.sureAddr, pure_bind, sizeOf_run hs]
      simp [addr_add]
theorem m_index {t e : TypeId} (hu : P.underlying t = some (.slice e)) {n : Nat} (hs : (P.info? e).map (·.size) = some n) (b o len cap : Nat) (i : Int) (h0 : 0 ≤ i) (h1 : i < len) (K : Value → Heap → Prop) :
    RunV P (Instr.indexAt t (.slice (some ⟨b, o, none⟩) len cap) (.int .i64 i)) h K = K (.pointer (some ⟨b, o + i.toNat * n, none⟩)) h :=
  RunV_pure fun w hw => by
    unfold Instr.indexAt
    simp only [asIntOf, pure_bind, Sem.run_bind, run_underlying hu, Result.andThen_ok, Sem.run_pure, sizeOf_run hs]
    have hlen : (0 ≤ i ∧ i < (len : Int)) := ⟨h0, h1⟩
    simp [hlen, run_underlying hu, sizeOf_run hs, addr_add]
theorem q_m_index {C : Heap → Prop} {h0 : Heap} (hC : C h0) {t e : TypeId} (hu : P.underlying t = some (.slice e)) {n : Nat} (hs : (P.info? e).map (·.size) = some n) (b o len cap : Nat) (i : Int) (h0 : 0 ≤ i) (h1 : i < len) (K : Value → Prop) : QV P C (Instr.indexAt t (.slice (some ⟨b, o, none⟩) len cap) (.int .i64 i)) K = K (.pointer (some ⟨b, o + i.toNat * n, none⟩)) :=
  QV_cls hC fun h' he => fun w hw => by
    unfold Instr.indexAt
    simp only [asIntOf, pure_bind, Sem.run_bind, run_underlying hu, Result.andThen_ok, Sem.run_pure, sizeOf_run hs]
    have hlen : (0 ≤ i ∧ i < (len : Int)) := ⟨h0, h1⟩
    simp [hlen, run_underlying hu, sizeOf_run hs, addr_add]

theorem m_indexArr {t e n : Nat} (hu : P.underlying t = some (.array n e)) {sz : Nat} (hs : (P.info? e).map (·.size) = some sz) (b o : Nat) (i : Int) (h0 : 0 ≤ i) (h1 : i < n) (K : Value → Heap → Prop) :
    RunV P (Instr.indexAt t (.pointer (some ⟨b, o, none⟩)) (.int .i64 i)) h K = K (.pointer (some ⟨b, o + i.toNat * sz, none⟩)) h :=
  RunV_pure fun w hw => by
    unfold Instr.indexAt
    have hlen : (0 ≤ i ∧ i < (n : Int)) := ⟨h0, h1⟩
    simp [asIntOf, run_underlying hu, Instr.sureAddr, hlen, sizeOf_run hs, addr_add]
theorem q_m_indexArr {C : Heap → Prop} {h0 : Heap} (hC : C h0) {t e n : Nat} (hu : P.underlying t = some (.array n e)) {sz : Nat} (hs : (P.info? e).map (·.size) = some sz) (b o : Nat) (i : Int) (h0 : 0 ≤ i) (h1 : i < n) (K : Value → Prop) :
    QV P C (Instr.indexAt t (.pointer (some ⟨b, o, none⟩)) (.int .i64 i)) K = K (.pointer (some ⟨b, o + i.toNat * sz, none⟩)) :=
  QV_cls hC fun h' he => fun w hw => by
    unfold Instr.indexAt
    have hlen : (0 ≤ i ∧ i < (n : Int)) := ⟨h0, h1⟩
    simp [asIntOf, run_underlying hu, Instr.sureAddr, hlen, sizeOf_run hs, addr_add]

theorem ext_cell {h : Heap} {b o : Nat} {v : Value} (hc : cellH h b o = some v) : ∀ h', Ext h h' → cellH h' b o = some v := by
  intro h' he
  have hlt : b < h.size := by
    unfold cellH at hc
    cases hb : h[b]? with
    | none => rw [hb] at hc; cases hc
    | some x => exact lt_of_at hb
  unfold cellH at hc ⊢; rw [he.block b hlt]; exact hc
theorem q_m_load {C : Heap → Prop} {h0 : Heap} (hC : C h0) {t : TypeId} {d : TypeDesc} (hu : P.underlying t = some d) (hd : aggD d = false) {b o : Nat} {v : Value} (hc : ∀ h', C h' → cellH h' b o = some v) (K : Value → Prop) :
    QV P C (Instr.loadAt t (.pointer (some ⟨b, o, none⟩))) K = K v :=
  QV_cls hC fun h' he w hw => by
    unfold Instr.loadAt loadVar
    simp only [Instr.sureAddr, pure_bind, Sem.run_bind, run_isAgg hu, hd, Result.andThen_ok, Bool.false_eq_true, if_false]
    have : w.cell? ⟨b, o, none⟩ = some v := by rw [cell_world, hw, hc h' he]
    simp [load, Sem.run, this]
theorem QCallF_ext {f : FuncId} {args : Array Value} {v : Value} {K : Value → Prop} (hr : ∀ w : World, (callFunc f args).run P w = .ok (.enter f args) w)
    (hc : ∀ h', Ext h h' → CallF P f args h' (fun u h'' => u = v ∧ Ext h' h'')) (hk : K v) : QCallF P (Ext h) f args K :=
  ⟨v, fun h' he => ⟨(hc h' he).mono fun u h'' ⟨hu, hx⟩ => ⟨hu, he.trans hx⟩, fun w hw => ⟨_, hr w⟩⟩, hk⟩
theorem QCallF_eq {f : FuncId} {args : Array Value} {v : Value} {h : Heap} {K : Value → Prop} (hr : ∀ w : World, (callFunc f args).run P w = .ok (.enter f args) w)
    (hc : CallF P f args h (fun u h'' => u = v ∧ h = h'')) (hk : K v) : QCallF P (Eq h) f args K :=
  ⟨v, fun h' he => ⟨by cases he; exact hc, fun w hw => ⟨_, hr w⟩⟩, hk⟩
/-! ### nil and pointers, extraction -/
theorem p_eq_nil {t e : TypeId} (hu : P.underlying t = some (.pointer e)) (a : Option Addr) (x y : Operand) (w : World) : (binS .eql t x y (.pointer a) (.pointer none)).run P w = .ok (.bool a.isNone) w := by
  unfold binS
  have hg : eqGuard .eql t x y (.pointer a) (.pointer none) = pure () := by unfold eqGuard; split <;> rfl
  rw [hg]
  have h : ∀ d : Nat, (Op.equalIn (d + 1) t (.pointer a) (.pointer none)).run P w = .ok a.isNone w := fun d => by
    cases a <;> simp [Op.equalIn, run_underlying hu]
  rw [pure_bind]
  simp only [binOp]
  simp [Op.equal, Op.maxDepth, h 9999]
theorem p_ne_nil {t e : TypeId} (hu : P.underlying t = some (.pointer e)) (a : Option Addr) (x y : Operand) (w : World) : (binS .neq t x y (.pointer a) (.pointer none)).run P w = .ok (.bool (!a.isNone)) w := by
  unfold binS
  have hg : eqGuard .neq t x y (.pointer a) (.pointer none) = pure () := by unfold eqGuard; split <;> rfl
  rw [hg]
  have h : ∀ d : Nat, (Op.equalIn (d + 1) t (.pointer a) (.pointer none)).run P w = .ok a.isNone w := fun d => by
    cases a <;> simp [Op.equalIn, run_underlying hu]
  rw [pure_bind]
  simp only [binOp]
  simp [Op.equal, Op.maxDepth, h 9999]
theorem r_pnil {t e : TypeId} (hu : P.underlying t = some (.pointer e)) (a : Option Addr) (x y : Operand) (K : Value → Heap → Prop) : RunV P (binS .eql t x y (.pointer a) (.pointer none)) h K = K (.bool a.isNone) h := RunV_pure fun w _ => p_eq_nil hu a x y w
theorem r_pnnil {t e : TypeId} (hu : P.underlying t = some (.pointer e)) (a : Option Addr) (x y : Operand) (K : Value → Heap → Prop) : RunV P (binS .neq t x y (.pointer a) (.pointer none)) h K = K (.bool (!a.isNone)) h := RunV_pure fun w _ => p_ne_nil hu a x y w
theorem q_r_pnil {C : Heap → Prop} {h0 : Heap} (hC : C h0) {t e : TypeId} (hu : P.underlying t = some (.pointer e)) (a : Option Addr) (x y : Operand) (K : Value → Prop) : QV P C (binS .eql t x y (.pointer a) (.pointer none)) K = K (.bool a.isNone) := QV_cls hC fun _ _ w _ => p_eq_nil hu a x y w
theorem q_r_pnnil {C : Heap → Prop} {h0 : Heap} (hC : C h0) {t e : TypeId} (hu : P.underlying t = some (.pointer e)) (a : Option Addr) (x y : Operand) (K : Value → Prop) : QV P C (binS .neq t x y (.pointer a) (.pointer none)) K = K (.bool (!a.isNone)) := QV_cls hC fun _ _ w _ => p_ne_nil hu a x y w
theorem bl_eq {t : TypeId} (hu : P.underlying t = some .bool) (a b : Bool) (x y : Operand) (w : World) : (binS .eql t x y (.bool a) (.bool b)).run P w = .ok (.bool (a == b)) w := by
  unfold binS
  have hg : eqGuard .eql t x y (.bool a) (.bool b) = pure () := by unfold eqGuard; split <;> rfl
  rw [hg]
  have h : ∀ d : Nat, (Op.equalIn (d + 1) t (.bool a) (.bool b)).run P w = .ok (a == b) w := fun d => by simp [Op.equalIn, run_underlying hu]
  rw [pure_bind]
  simp only [binOp]
  simp [Op.equal, Op.maxDepth, h 9999]
theorem bl_ne {t : TypeId} (hu : P.underlying t = some .bool) (a b : Bool) (x y : Operand) (w : World) : (binS .neq t x y (.bool a) (.bool b)).run P w = .ok (.bool (!(a == b))) w := by
  unfold binS
  have hg : eqGuard .neq t x y (.bool a) (.bool b) = pure () := by unfold eqGuard; split <;> rfl
  rw [hg]
  have h : ∀ d : Nat, (Op.equalIn (d + 1) t (.bool a) (.bool b)).run P w = .ok (a == b) w := fun d => by simp [Op.equalIn, run_underlying hu]
  rw [pure_bind]
  simp only [binOp]
  simp [Op.equal, Op.maxDepth, h 9999]
theorem r_bleq {t : TypeId} (hu : P.underlying t = some .bool) (a b : Bool) (x y : Operand) (K : Value → Heap → Prop) : RunV P (binS .eql t x y (.bool a) (.bool b)) h K = K (.bool (a == b)) h := RunV_pure fun w _ => bl_eq hu a b x y w
theorem r_blne {t : TypeId} (hu : P.underlying t = some .bool) (a b : Bool) (x y : Operand) (K : Value → Heap → Prop) : RunV P (binS .neq t x y (.bool a) (.bool b)) h K = K (.bool (!(a == b))) h := RunV_pure fun w _ => bl_ne hu a b x y w
theorem q_r_bleq {C : Heap → Prop} {h0 : Heap} (hC : C h0) {t : TypeId} (hu : P.underlying t = some .bool) (a b : Bool) (x y : Operand) (K : Value → Prop) : QV P C (binS .eql t x y (.bool a) (.bool b)) K = K (.bool (a == b)) := QV_cls hC fun _ _ w _ => bl_eq hu a b x y w
theorem q_r_blne {C : Heap → Prop} {h0 : Heap} (hC : C h0) {t : TypeId} (hu : P.underlying t = some .bool) (a b : Bool) (x y : Operand) (K : Value → Prop) : QV P C (binS .neq t x y (.bool a) (.bool b)) K = K (.bool (!(a == b))) := QV_cls hC fun _ _ w _ => bl_ne hu a b x y w
theorem x20 (a b : Value) (K : Value → Heap → Prop) : RunV P (Instr.extract (.tuple #[a, b]) 0) h K = K a h := RunV_pure fun w hw => rfl
theorem x21 (a b : Value) (K : Value → Heap → Prop) : RunV P (Instr.extract (.tuple #[a, b]) 1) h K = K b h := RunV_pure fun w hw => rfl
theorem x30 (a b c : Value) (K : Value → Heap → Prop) : RunV P (Instr.extract (.tuple #[a, b, c]) 0) h K = K a h := RunV_pure fun w hw => rfl
theorem x31 (a b c : Value) (K : Value → Heap → Prop) : RunV P (Instr.extract (.tuple #[a, b, c]) 1) h K = K b h := RunV_pure fun w hw => rfl
theorem x32 (a b c : Value) (K : Value → Heap → Prop) : RunV P (Instr.extract (.tuple #[a, b, c]) 2) h K = K c h := RunV_pure fun w hw => rfl
theorem q_x20 {C : Heap → Prop} {h0 : Heap} (hC : C h0) (a b : Value) (K : Value → Prop) : QV P C (Instr.extract (.tuple #[a, b]) 0) K = K a := QV_cls hC fun _ _ w hw => rfl
theorem q_x21 {C : Heap → Prop} {h0 : Heap} (hC : C h0) (a b : Value) (K : Value → Prop) : QV P C (Instr.extract (.tuple #[a, b]) 1) K = K b := QV_cls hC fun _ _ w hw => rfl
theorem q_x30 {C : Heap → Prop} {h0 : Heap} (hC : C h0) (a b c : Value) (K : Value → Prop) : QV P C (Instr.extract (.tuple #[a, b, c]) 0) K = K a := QV_cls hC fun _ _ w hw => rfl
theorem q_x31 {C : Heap → Prop} {h0 : Heap} (hC : C h0) (a b c : Value) (K : Value → Prop) : QV P C (Instr.extract (.tuple #[a, b, c]) 1) K = K b := QV_cls hC fun _ _ w hw => rfl
theorem q_x32 {C : Heap → Prop} {h0 : Heap} (hC : C h0) (a b c : Value) (K : Value → Prop) : QV P C (Instr.extract (.tuple #[a, b, c]) 2) K = K c := QV_cls hC fun _ _ w hw => rfl
/-! ### Heaps known block by block -/
theorem push_new (h : Heap) (o : Obj) : (h.push o)[h.size]? = some o := by simp
theorem push_old {h : Heap} {b : Nat} {o : Obj} (hb : h[b]? = some o) (o' : Obj) : (h.push o')[b]? = some o := by
  rw [Array.getElem?_push, if_neg (by have := lt_of_at hb; omega)]; exact hb
theorem set_same {h : Heap} {b : Nat} {o : Obj} (hb : h[b]? = some o) (o' : Obj) : (h.setIfInBounds b o')[b]? = some o' := by
  have := lt_of_at hb
  simp [Array.getElem?_setIfInBounds, this]
theorem set_other {h : Heap} {b c : Nat} {o : Obj} (hb : h[b]? = some o) (hne : c ≠ b) (o' : Obj) : (h.setIfInBounds c o')[b]? = some o := by
  rw [Array.getElem?_setIfInBounds, if_neg hne]; exact hb
theorem set_push_new (h : Heap) (o o' : Obj) : (h.push o).setIfInBounds h.size o' = h.push o' := by
  apply Array.ext_getElem?
  intro i
  rw [Array.getElem?_setIfInBounds, Array.getElem?_push, Array.getElem?_push]
  by_cases hi : h.size = i
  · subst hi; simp
  · simp only [hi, if_false]; rw [if_neg (fun e => hi e.symm), if_neg (fun e => hi e.symm)]
/-- Only these blocks have turned. -/
structure Only (S : List Nat) (h h' : Heap) : Prop where
  size : h.size ≤ h'.size
  block : ∀ k, k < h.size → k ∉ S → h'[k]? = h[k]?
theorem Only.refl (S : List Nat) (h : Heap) : Only S h h := ⟨Nat.le_refl _, fun _ _ _ => rfl⟩
theorem Only.trans {S : List Nat} {a b c : Heap} (h : Only S a b) (k : Only S b c) : Only S a c := ⟨Nat.le_trans h.size k.size, fun i hi hS => (k.block i (Nat.lt_of_lt_of_le hi h.size) hS).trans (h.block i hi hS)⟩
theorem Only.then {S : List Nat} {a b c : Heap} (h : Only S a b) (hs : b.size ≤ c.size) (hb : ∀ k, k < a.size → k ∉ S → c[k]? = b[k]?) : Only S a c :=
  ⟨Nat.le_trans h.size hs, fun i hi hS => (hb i hi hS).trans (h.block i hi hS)⟩
theorem Only.set {S : List Nat} {a b : Heap} (h : Only S a b) {i : Nat} (hi : i ∈ S ∨ a.size ≤ i) (o : Obj) : Only S a (b.setIfInBounds i o) :=
  h.then (by simp) fun k hk hS => by
    rw [Array.getElem?_setIfInBounds, if_neg]
    rintro rfl
    rcases hi with hi | hi
    · exact hS hi
    · omega
theorem Ext.only {a b : Heap} (h : Ext a b) (S : List Nat) : Only S a b := ⟨h.size, fun k hk _ => h.block k hk⟩
theorem Only.at {S : List Nat} {h h' : Heap} (e : Only S h h') {b : Nat} {o : Obj} (hb : h[b]? = some o) (hS : b ∉ S) : h'[b]? = some o := (e.block b (lt_of_at hb) hS).trans hb
theorem Only.push {S : List Nat} {a b : Heap} (h : Only S a b) (o : Obj) : Only S a (b.push o) := h.trans ((Ext.refl b).push o |>.only S)
theorem Only.mono {S T : List Nat} {a b : Heap} (h : Only S a b) (hST : ∀ k, k ∈ S → k ∈ T) : Only T a b := ⟨h.size, fun k hk hT => h.block k hk fun hS => hT (hST k hS)⟩
/-- Turned blocks that were not there before don't count. -/
theorem Only.old {S T : List Nat} {a b : Heap} (h : Only S a b) (hST : ∀ k, k ∈ S → k ∈ T ∨ a.size ≤ k) : Only T a b :=
  ⟨h.size, fun k hk hT => h.block k hk fun hS => (hST k hS).elim hT (fun h => absurd hk (by omega))⟩
theorem Only.ext {a b : Heap} (h : Only [] a b) : Ext a b := ⟨h.size, fun k hk => h.block k hk (by simp)⟩

theorem okW_setH (h : Heap) (b o : Nat) (v : Value) (c p : Nat) : okW (setH h b o v) c p = okW h c p := by
  unfold okW setH
  rw [Array.getElem?_modify]
  by_cases hb : b = c
  · subst hb
    simp only [if_true]
    cases hx : h[b]? with
    | none => rfl
    | some x => cases x <;> simp
  · rw [if_neg hb]
theorem cellH_setH_off {h : Heap} {b o p : Nat} (hne : o ≠ p) (v : Value) : cellH (setH h b o v) b p = cellH h b p := by
  unfold cellH setH
  rw [Array.getElem?_modify]
  simp only [if_true]
  cases hx : h[b]? with
  | none => rfl
  | some x => cases x <;> simp [Array.getElem?_setIfInBounds_ne hne]
theorem cellH_setH_blk {h : Heap} {b c : Nat} (hne : b ≠ c) (o p : Nat) (v : Value) : cellH (setH h b o v) c p = cellH h c p := by
  unfold cellH setH
  rw [Array.getElem?_modify, if_neg hne]
theorem cellH_setH_same {h : Heap} {b o : Nat} (hok : okW h b o = true) (v : Value) : cellH (setH h b o v) b o = some v := by
  unfold okW at hok
  unfold cellH setH
  rw [Array.getElem?_modify]
  simp only [if_true]
  cases hx : h[b]? with
  | none => rw [hx] at hok; cases hok
  | some x =>
    rw [hx] at hok
    cases x <;> simp_all
theorem cellH_push_old {h : Heap} {b o : Nat} {v : Value} (hc : cellH h b o = some v) (x : Obj) : cellH (h.push x) b o = some v := by
  unfold cellH at hc ⊢
  cases hb : h[b]? with
  | none => rw [hb] at hc; cases hc
  | some y => rw [push_old hb]; rw [hb] at hc; exact hc
theorem cellH_push_new (h : Heap) (c : Array Value) (e : TypeId) (f : Nat × Nat) (o : Nat) : cellH (h.push (.cells c e f)) h.size o = c[o]? := by
  unfold cellH; rw [push_new]
theorem okW_push_old {h : Heap} {b o : Nat} (hc : okW h b o = true) (x : Obj) : okW (h.push x) b o = true := by
  unfold okW at hc ⊢
  cases hb : h[b]? with
  | none => rw [hb] at hc; cases hc
  | some y => rw [push_old hb]; rw [hb] at hc; exact hc
theorem setH_push_new (h : Heap) (c : Array Value) (e : TypeId) (f : Nat × Nat) (o : Nat) (v : Value) : setH (h.push (.cells c e f)) h.size o v = h.push (.cells (c.setIfInBounds o v) e f) := by
  rw [setH_of (push_new h _), set_push_new]
theorem madeL (z : Value) (n : Nat) : (Array.range n).map (fun i => (#[z] : Array Value)[i % (#[z] : Array Value).size]!) = Array.replicate n z := by
  apply Array.ext_getElem?
  intro i
  simp only [Array.getElem?_map, Array.getElem?_replicate]
  by_cases hi : i < n
  · simp [hi, Nat.mod_one]
  · simp [hi]
/-- 'make' of a slice: the cells are the zero value's, again and again. -/
def rowOf (z : Array Value) (n : Nat) : Array Value := (Array.range n).map fun i => z[i % z.size]!
theorem run_zero {t : TypeId} {z : Value} (hz : (P.info? t).bind (·.zero) = some z) (w : World) : (zeroValue t).run P w = .ok z w := by
  cases hi : P.info? t with
  | none => rw [hi] at hz; cases hz
  | some i =>
    rw [hi] at hz
    simp only [Option.bind_some] at hz
    unfold zeroValue typeInfo
    simp only [program]
    show ((do let __do_lift ← (do let p ← (Sem.program Sem.pure : Sem Program); match p.info? t with | some i => pure i | none => stuck "no such type"); match __do_lift.zero with | some v => pure v | none => unsupported (.resourceLimit "a value of more than 2^22 cells")) : Sem Value).run P w = _
    simp [Sem.run, hi, hz]
theorem run_info {t : TypeId} {i : TypeInfo} (hi : P.info? t = some i) (w : World) : (typeInfo t).run P w = .ok i w := by
  unfold typeInfo
  simp only [program]
  show ((do let p ← (Sem.program Sem.pure : Sem Program); match p.info? t with | some i => pure i | none => stuck "no such type") : Sem TypeInfo).run P w = _
  simp [Sem.run, hi]
theorem m_make {t e : TypeId} (hu : P.underlying t = some (.slice e)) {sz by' : Nat} {z : Value} (hi : (P.info? e).map (fun i => (i.zero, i.size, i.bytes)) = some (some z, sz, by')) (n : Int) (h0 : 0 ≤ n) (h1 : n * by' ≤ 140737488355328) (h2 : n ≤ 9223372036854775807) (K : Value → Heap → Prop) :
    RunV P (Instr.makeSlice t (.int .i64 n) (.int .i64 n)) h K = K (.slice (some ⟨h.size, 0, none⟩) n.toNat n.toNat) (h.push (.cells (rowOf z.cells (n.toNat * sz)) e (0, 0))) :=
  RunV_of fun w hw => by
    subst hw
    obtain ⟨i, hie, hz, hs, hb⟩ : ∃ i, P.info? e = some i ∧ i.zero = some z ∧ i.size = sz ∧ i.bytes = by' := by
      cases hx : P.info? e with
      | none => rw [hx] at hi; cases hi
      | some i => rw [hx] at hi; simp only [Option.map_some, Option.some.injEq, Prod.mk.injEq] at hi; exact ⟨i, rfl, hi.1, hi.2.1, hi.2.2⟩
    have hsz : (P.info? e).map (·.size) = some sz := by rw [hie]; simp [hs]
    have hze : (P.info? e).bind (·.zero) = some z := by rw [hie]; simp [hz]
    have hwr : IntKind.i64.wrap n = n := by rw [IntKind.wrap_i64]; omega
    unfold Instr.makeSlice
    simp only [Sem.run_bind, run_underlying hu, Result.andThen_ok, asInt, asIntOf, pure_bind, Sem.run_pure, run_info hie, hwr, hb]
    have c1 : ¬ ((n < 0 || decide ((by' : Int) * n > 2 ^ 48)) = true) := by
      simp only [Bool.or_eq_true, decide_eq_true_eq, not_or]
      rw [Int.mul_comm]
      exact ⟨by omega, by have : (2 : Int) ^ 48 = 281474976710656 := by decide
                          omega⟩
    have c2 : ¬ ((n < 0 || decide ((by' : Int) * n > 2 ^ 48)) || decide (n < 0) || decide (n > n)) = true := by
      simp only [Bool.or_eq_true, decide_eq_true_eq, not_or] at c1 ⊢
      exact ⟨⟨c1, by omega⟩, by omega⟩
    rw [if_neg c2]
    have c3 : (askRoom (n.toNat * by')).run P w = .ok () w := by
      have : ¬ n.toNat * by' > roomBytes := by
        have h4 : ((n.toNat * by' : Nat) : Int) = n * by' := by rw [Int.natCast_mul, Int.toNat_of_nonneg h0]
        show ¬ _ > 2 ^ 47
        have : (2 : Nat) ^ 47 = 140737488355328 := by decide
        omega
      unfold askRoom
      rw [if_neg this]
      rfl
    simp only [Sem.run_bind, c3, Result.andThen_ok, sizeOf_run hsz]
    by_cases hn : n.toNat * sz = 0
    · simp [hn, newRow, newObj, Sem.run, rowOf, show Array.range 0 = #[] from rfl]
    · simp [hn, run_zero hze, newRow, newObj, Sem.run, rowOf]

theorem cells_bool (b : Bool) : (Value.bool b).cells = #[.bool b] := rfl
theorem cells_int (k : IntKind) (b : Int) : (Value.int k b).cells = #[.int k b] := rfl
theorem cells_str (b : List UInt8) : (str b).cells = #[str b] := rfl
theorem cells_ptr (a : Option Addr) : (Value.pointer a).cells = #[.pointer a] := rfl
theorem cells_slice (a : Option Addr) (n c : Nat) : (Value.slice a n c).cells = #[.slice a n c] := rfl
theorem cells_agg (cs : Array Value) : (Value.agg cs).cells = cs := rfl
def byteV (c : UInt8) : Value := .int .u8 (c.toNat : Int)
def u32 (x : BitVec 32) : Value := .int .u32 (x.toNat : Int)
theorem pl_byte (c : UInt8) : plainV (byteV c) = true := rfl
theorem pl_u32 (c : BitVec 32) : plainV (u32 c) = true := rfl
theorem pl_int (k : IntKind) (n : Int) : plainV (.int k n) = true := rfl
theorem pl_bool (b : Bool) : plainV (.bool b) = true := rfl
theorem pl_ptr (a : Option Addr) : plainV (.pointer a) = true := rfl
theorem pl_slice (a : Option Addr) (n c : Nat) : plainV (.slice a n c) = true := rfl
theorem pl_map (r : Option Nat) : plainV (.map r) = true := rfl
theorem pl_str (l : List UInt8) : plainV (str l) = true := rfl
theorem pl_string (l : ByteArray) : plainV (.string l) = true := rfl
theorem pl_func (f : Fn) (x y : Array Value) : plainV (.func f x y) = true := rfl

/-! ### Several cells -/
def writeAt (cs : Array Value) (o : Nat) : List Value → Array Value
  | [] => cs
  | v :: r => writeAt (cs.setIfInBounds o v) (o + 1) r
theorem writeAt_size (vs : List Value) : ∀ (cs : Array Value) (o : Nat), (writeAt cs o vs).size = cs.size := by
  induction vs with
  | nil => intro cs o; rfl
  | cons v r ih => intro cs o; simp [writeAt, ih]
theorem writeAt_toList (vs : List Value) : ∀ (cs : Array Value) (o : Nat), o + vs.length ≤ cs.size → (writeAt cs o vs).toList = cs.toList.take o ++ vs ++ cs.toList.drop (o + vs.length) := by
  induction vs with
  | nil => intro cs o h; simp [writeAt]
  | cons v r ih =>
    intro cs o h
    simp only [List.length_cons] at h
    rw [writeAt, ih _ _ (by simp; omega), Array.toList_setIfInBounds]
    have h1 : (cs.toList.set o v).take (o + 1) = cs.toList.take o ++ [v] := by
      rw [List.take_set, List.take_succ_eq_append_getElem (by simp; omega)]
      rw [List.set_append_right _ _ (by simp; omega)]
      have : o - (List.take o cs.toList).length = 0 := by simp; omega
      rw [this]; rfl
    have h2 : (cs.toList.set o v).drop (o + 1 + r.length) = cs.toList.drop (o + 1 + r.length) := by
      rw [List.drop_set, if_pos (by omega)]
    rw [h1, h2]
    simp only [List.append_assoc, List.singleton_append, List.cons_append, List.length_cons, List.nil_append]
    rw [show o + 1 + r.length = o + (r.length + 1) by omega]
theorem run_store_at {b : Nat} {cs : Array Value} {e : TypeId} (v : Value) (hv : plainV v = true) (o : Nat) (ho : o < cs.size) (w : World) (hb : w.heap[b]? = some (.cells cs e (0, 0))) :
    (store ⟨b, o, none⟩ v).run P w = .ok () { w with heap := w.heap.setIfInBounds b (.cells (cs.setIfInBounds o v) e (0, 0)) } := by
  obtain ⟨h1, h2⟩ := okW_world (w := w) (b := b) (o := o) (okW_of hb ho)
  rw [run_store1 hv w h1 h2, setCell_world, setH_of hb]
theorem storeCells_run {b : Nat} {e : TypeId} (vs : List Value) (hv : ∀ v ∈ vs, plainV v = true) (o : Nat) : ∀ (i : Nat) (cs : Array Value) (w : World), w.heap[b]? = some (.cells cs e (0, 0)) → o + i + vs.length ≤ cs.size →
    (storeCells ⟨b, o, none⟩ vs i).run P w = .ok () { w with heap := w.heap.setIfInBounds b (.cells (writeAt cs (o + i) vs) e (0, 0)) } := by
  induction vs with
  | nil =>
    intro i cs w hb hl
    simp only [storeCells, writeAt, Sem.run_pure]
    congr 1
    have : w.heap.setIfInBounds b (.cells cs e (0, 0)) = w.heap := by
      apply Array.ext_getElem?
      intro k
      rw [Array.getElem?_setIfInBounds]
      split
      · rename_i hk; subst hk; rw [hb]; simp [lt_of_at hb]
      · rfl
    rw [this]
  | cons v r ih =>
    intro i cs w hb hl
    simp only [List.length_cons] at hl
    simp only [storeCells, Sem.run_bind, addr_add]
    rw [run_store_at v (hv v (by simp)) (o + i) (by omega) w hb]
    simp only [Result.andThen_ok]
    rw [ih (fun u hu => hv u (by simp [hu])) (i + 1) (cs.setIfInBounds (o + i) v) _ (set_same hb _) (by simp; omega)]
    simp only [writeAt]
    congr 1
    rw [show o + (i + 1) = o + i + 1 by omega]
    congr 1
    apply Array.ext_getElem?
    intro k
    simp only [Array.getElem?_setIfInBounds, Array.size_setIfInBounds]
    split <;> rfl
theorem loadCellsFrom_run {b : Nat} {e : TypeId} {f : Nat × Nat} {cs : Array Value} (o : Nat) (w : World) (hb : w.heap[b]? = some (.cells cs e f)) : ∀ (n i : Nat) (acc : Array Value), o + i + n ≤ cs.size →
    (loadCellsFrom ⟨b, o, none⟩ i n acc).run P w = .ok (acc ++ cs.extract (o + i) (o + i + n)) w := by
  intro n
  induction n with
  | zero => intro i acc h; simp [loadCellsFrom]; omega
  | succ n ih =>
    intro i acc h
    have hc : w.cell? ⟨b, o + i, none⟩ = some (cs[o + i]'(by omega)) := by rw [cell_world, cellH_of hb]; simp
    simp only [loadCellsFrom, Sem.run_bind, addr_add]
    have hl : (load ⟨b, o + i, none⟩).run P w = .ok (cs[o + i]'(by omega)) w := by simp [load, Sem.run, hc]
    rw [hl]
    simp only [Result.andThen_ok]
    rw [ih (i + 1) _ (by omega)]
    congr 1
    apply Array.ext'
    simp only [Array.toList_append, Array.toList_push, Array.toList_extract, List.append_assoc, List.singleton_append]
    congr 1
    simp only [List.extract_eq_take_drop]
    rw [show o + (i + 1) = o + i + 1 by omega, show o + i + (n + 1) - (o + i) = n + 1 by omega, show o + i + 1 + n - (o + i + 1) = n by omega]
    rw [← List.getElem_cons_drop (show o + i < cs.toList.length by simpa using (by omega))]
    simp [List.take_succ_cons]
theorem loadCells_run {b : Nat} {e : TypeId} {f : Nat × Nat} {cs : Array Value} (o n : Nat) (w : World) (hb : w.heap[b]? = some (.cells cs e f)) (h : o + n ≤ cs.size) :
    (loadCells ⟨b, o, none⟩ n).run P w = .ok (cs.extract o (o + n)) w := by
  unfold loadCells
  rw [loadCellsFrom_run o w hb n 0 #[] (by omega)]
  simp
theorem m_loadAgg {t : TypeId} {d : TypeDesc} (hu : P.underlying t = some d) (hd : aggD d = true) {n : Nat} (hs : (P.info? t).map (·.size) = some n) {b o : Nat} {cs : Array Value} {e : TypeId} {f : Nat × Nat} (hb : h[b]? = some (.cells cs e f)) (hl : o + n ≤ cs.size) (K : Value → Heap → Prop) :
    RunV P (Instr.loadAt t (.pointer (some ⟨b, o, none⟩))) h K = K (.agg (cs.extract o (o + n))) h :=
  RunV_pure fun w hw => by
    subst hw
    unfold Instr.loadAt loadVar
    simp only [Instr.sureAddr, pure_bind, Sem.run_bind, run_isAgg hu, hd, Result.andThen_ok, if_true, sizeOf_run hs, loadCells_run o n w hb hl, Sem.run_pure]
theorem q_m_loadAgg {C : Heap → Prop} {h0 : Heap} (hC : C h0) {t : TypeId} {d : TypeDesc} (hu : P.underlying t = some d) (hd : aggD d = true) {n : Nat} (hs : (P.info? t).map (·.size) = some n) {b o : Nat} {cs : Array Value} {e : TypeId} {f : Nat × Nat} (hb : ∀ h', C h' → h'[b]? = some (.cells cs e f)) (hl : o + n ≤ cs.size) (K : Value → Prop) :
    QV P C (Instr.loadAt t (.pointer (some ⟨b, o, none⟩))) K = K (.agg (cs.extract o (o + n))) :=
  QV_cls hC fun h' he w hw => by
    have hb' : w.heap[b]? = some (.cells cs e f) := by rw [hw]; exact hb h' he
    unfold Instr.loadAt loadVar
    simp only [Instr.sureAddr, pure_bind, Sem.run_bind, run_isAgg hu, hd, Result.andThen_ok, if_true, sizeOf_run hs, loadCells_run o n w hb' hl, Sem.run_pure]
theorem m_storeAgg {t : TypeId} {n : Nat} (hs : (P.info? t).map (·.size) = some n) {b o : Nat} {cs xs : Array Value} {e : TypeId} (hb : h[b]? = some (.cells cs e (0, 0))) (hx : xs.size = n) (hl : o + n ≤ cs.size) (hp : ∀ v ∈ xs.toList, plainV v = true) (K : Heap → Prop) :
    RunU P (Instr.storeAt t (.pointer (some ⟨b, o, none⟩)) (.agg xs)) h K = K (h.setIfInBounds b (.cells (writeAt cs o xs.toList) e (0, 0))) :=
  RunU_of fun w hw => by
    subst hw
    unfold Instr.storeAt storeVar
    simp only [Instr.sureAddr, pure_bind, Sem.run_bind, sizeOf_run hs, Result.andThen_ok, cells_agg, hx, ne_eq, not_true, if_false]
    have := storeCells_run (P := P) xs.toList hp o 0 cs w hb (by simp; omega)
    simpa using this
/-- 'copy' of a string's bytes into cells. -/
theorem m_copyStr {t e : TypeId} (hu : P.underlying t = some (.slice e)) {n : Nat} (hs : (P.info? e).map (·.size) = some n) (u ty : TypeId) (c : Array Bool) {b o : Nat} {len cap : Nat} {cs : Array Value} {e' : TypeId} (hb : h[b]? = some (.cells cs e' (0, 0))) (l : List UInt8) (hl : o + min l.length len ≤ cs.size) (K : Value → Heap → Prop) :
    OpN P (Go.builtin .copy #[t, u] ty c #[.slice (some ⟨b, o, none⟩) len cap, str l]) h K = K (.int .i64 ((min l.length len : Nat) : Int)) (h.setIfInBounds b (.cells (writeAt cs o ((l.take (min l.length len)).map fun c => .int .u8 (c.toNat : Int))) e' (0, 0))) :=
  OpN_of fun w hw => by
    subst hw
    simp only [Go.builtin, Builtin.copy_, Sem.run_bind, str]
    have hlen : min (l.take (min l.length len)).length (min l.length len) = min l.length len := by simp
    have hf : ∀ k, ((ByteArray.mk l.toArray).extract 0 k).data.map (fun b => Value.int .u8 (b.toNat : Int)) = ((l.take k).map fun c => Value.int .u8 (c.toNat : Int)).toArray := by
      intro k
      rw [Lib.extract_eq]
      simp
    have hst := storeCells_run (P := P) ((l.take (min l.length len)).map fun c => Value.int .u8 (c.toNat : Int)) (by intro v hv; simp only [List.mem_map] at hv; obtain ⟨x, _, rfl⟩ := hv; rfl) o 0 cs w hb (by simp; omega)
    simp [run_underlying hu, sizeOf_run hs, Builtin.lenOf, Builtin.firstCells, size_mk, goInt]
    simp only [Nat.add_zero, List.map_take] at hst
    rw [hst]
    rfl

theorem sa_run {t e : TypeId} {n : Nat} (hu : P.underlying t = some (.array n e)) {sz : Nat} (hs : (P.info? e).map (·.size) = some sz) (a : Addr) (w : World) : (Instr.sliceAt t (.pointer (some a)) none none none).run P w = .ok (.slice (some a) n n) w := by
  unfold Instr.sliceAt
  simp [run_underlying hu, Instr.sureAddr, Instr.sliceBounds, sizeOf_run hs]
  unfold Addr.add
  simp
theorem m_sliceArr {t e : TypeId} {n : Nat} (hu : P.underlying t = some (.array n e)) {sz : Nat} (hs : (P.info? e).map (·.size) = some sz) (a : Addr) (K : Value → Heap → Prop) : RunV P (Instr.sliceAt t (.pointer (some a)) none none none) h K = K (.slice (some a) n n) h := RunV_pure fun w _ => sa_run hu hs a w
theorem q_m_sliceArr {C : Heap → Prop} {h0 : Heap} (hC : C h0) {t e : TypeId} {n : Nat} (hu : P.underlying t = some (.array n e)) {sz : Nat} (hs : (P.info? e).map (·.size) = some sz) (a : Addr) (K : Value → Prop) : QV P C (Instr.sliceAt t (.pointer (some a)) none none none) K = K (.slice (some a) n n) := QV_cls hC fun _ _ w _ => sa_run hu hs a w

/-- These blocks are as they were. -/
def Keep (T : List Nat) (h h' : Heap) : Prop := ∀ k, k ∈ T → h'[k]? = h[k]?
theorem Keep.refl (T : List Nat) (h : Heap) : Keep T h h := fun _ _ => rfl
theorem Quiet_keep {h : Heap} (T : List Nat) {B : (Heap → Prop) → Prop} (hb : B (Keep T h)) : Quiet h B := ⟨Keep T h, fun _ _ => rfl, hb⟩
theorem keep_at {T : List Nat} {h h' : Heap} (hk : Keep T h h') {k : Nat} {o : Obj} (ho : h[k]? = some o) (hT : k ∈ T) : h'[k]? = some o := (hk k hT).trans ho
theorem keep_one {h h' : Heap} {k : Nat} {o : Obj} (h1 : h[k]? = some o) (h2 : h'[k]? = some o) : Keep [k] h h' := fun i hi => by simp only [List.mem_singleton] at hi; subst hi; rw [h1, h2]
theorem keep_cell {T : List Nat} {h : Heap} {b o : Nat} {v : Value} (hT : b ∈ T) (hc : cellH h b o = some v) : ∀ h', Keep T h h' → cellH h' b o = some v := by
  intro h' he
  unfold cellH at hc ⊢
  rw [he b hT]
  exact hc

theorem ext_cell' {h h' : Heap} (he : Ext h h') {b o : Nat} {v : Value} (hc : cellH h b o = some v) : cellH h' b o = some v := ext_cell hc h' he
theorem keep_cell' {T : List Nat} {h h' : Heap} (he : Keep T h h') {b o : Nat} {v : Value} (hc : cellH h b o = some v) (hT : b ∈ T) : cellH h' b o = some v := keep_cell hT hc h' he

/-! ### Slices of one's own: append -/
def Own (h : Heap) (base : Nat) (e : TypeId) (size : Nat) (v : Value) (n : Nat) (xs : List Value) : Prop :=
  xs.length = n * size ∧
  ((v = .slice none 0 0 ∧ n = 0) ∨
   ∃ g cap cur, v = .slice (some ⟨g, 0, none⟩) n cap ∧ base ≤ g ∧ h[g]? = some (.cells cur e (0, 0)) ∧ n ≤ cap ∧ cap ≤ maxLen ∧ cur.size = cap * size ∧ cur.toList.take (n * size) = xs)
theorem own_world (w : World) (base : Nat) (e : TypeId) (size : Nat) (v : Value) (n : Nat) (xs : List Value) : w.ownsRow base e size v n xs = Own w.heap base e size v n xs := rfl
theorem Own.nil (h : Heap) (base : Nat) (e : TypeId) (size : Nat) : Own h base e size (.slice none 0 0) 0 [] := ⟨by simp, .inl ⟨rfl, rfl⟩⟩
def blk (v : Value) : List Nat := v.ownBlock.toList
theorem Own.ge {h : Heap} {base : Nat} {e : TypeId} {size : Nat} {v : Value} {n : Nat} {xs : List Value} (ho : Own h base e size v n xs) : ∀ k ∈ blk v, base ≤ k ∧ k < h.size := by
  intro k hk
  rcases ho.2 with ⟨rfl, _⟩ | ⟨g, cap, cur, rfl, hb, hg, _⟩
  · simp [blk, Value.ownBlock] at hk
  · simp [blk, Value.ownBlock] at hk
    subst hk
    exact ⟨hb, lt_of_at hg⟩
theorem Own.only {h h' : Heap} {base : Nat} {e : TypeId} {size : Nat} {v : Value} {n : Nat} {xs : List Value} (ho : Own h base e size v n xs) {S : List Nat} (hS : Only S h h') (hd : ∀ k ∈ blk v, k ∉ S) : Own h' base e size v n xs := by
  refine ⟨ho.1, ?_⟩
  rcases ho.2 with hn | ⟨g, cap, cur, rfl, hb, hg, r⟩
  · exact .inl hn
  · exact .inr ⟨g, cap, cur, rfl, hb, hS.at hg (hd g (by simp [blk, Value.ownBlock])), r⟩
theorem Own.ext {h h' : Heap} {base : Nat} {e : TypeId} {size : Nat} {v : Value} {n : Nat} {xs : List Value} (ho : Own h base e size v n xs) (hS : Ext h h') : Own h' base e size v n xs :=
  ho.only (hS.only []) (by simp)
theorem Own.cell {h : Heap} {base : Nat} {e : TypeId} {v : Value} {n : Nat} {xs : List Value} (ho : Own h base e 1 v n xs) {A : Option Addr} {m c : Nat} (hv : v = .slice A m c) {i : Nat} {x : Value} (hx : xs[i]? = some x) :
    ∃ g, A = some ⟨g, 0, none⟩ ∧ cellH h g i = some x := by
  rcases ho.2 with ⟨rfl, rfl⟩ | ⟨g, cap, cur, rfl, hb, hg, h1, h2, h3, h4⟩
  · have := ho.1
    simp at this
    rw [this] at hx
    cases hx
  · injection hv with e1 e2 e3
    refine ⟨g, e1.symm, ?_⟩
    rw [cellH_of hg]
    rw [← h4] at hx
    rw [List.getElem?_take] at hx
    split at hx
    · simpa using hx
    · cases hx
theorem Own.len {h : Heap} {base : Nat} {e : TypeId} {v : Value} {size n : Nat} {xs : List Value} (ho : Own h base e size v n xs) : ∃ A c, v = .slice A n c := by
  rcases ho.2 with ⟨rfl, rfl⟩ | ⟨g, cap, cur, rfl, _⟩
  · exact ⟨_, _, rfl⟩
  · exact ⟨_, _, rfl⟩
theorem Own.le {h : Heap} {base : Nat} {e : TypeId} {v : Value} {size n : Nat} {xs : List Value} (ho : Own h base e size v n xs) : n ≤ 9223372036854775807 := by
  rcases ho.2 with ⟨rfl, rfl⟩ | ⟨g, cap, cur, rfl, _, _, h1, h2, _⟩
  · omega
  · simp only [maxLen] at h2; omega
theorem Own.low {h : Heap} {base base' : Nat} {e : TypeId} {size : Nat} {v : Value} {n : Nat} {xs : List Value} (ho : Own h base e size v n xs) (hb : base' ≤ base) : Own h base' e size v n xs :=
  ⟨ho.1, ho.2.imp id fun ⟨g, cap, cur, e, h1, r⟩ => ⟨g, cap, cur, e, Nat.le_trans hb h1, r⟩⟩
theorem Own.plain {h : Heap} {base : Nat} {e : TypeId} {size : Nat} {v : Value} {n : Nat} {xs : List Value} (ho : Own h base e size v n xs) : plainV v = true := by
  obtain ⟨A, c, rfl⟩ := ho.len
  rfl
theorem o_append {t e : TypeId} (hu : P.underlying t = some (.slice e)) {z : Value} {size bytes : Nat} (hi : (P.info? e).map (fun i => (i.zero, i.size, i.bytes)) = some (some z, size, bytes)) (hzs : z.cells.size = size) (hsz : 0 < size) (ty : TypeId) (cs : Array Bool)
    {base : Nat} {v : Value} {n : Nat} {xs : List Value} (ho : Own h base e size v n xs) {b o : Nat} {m c : Nat} {news : List Value} (hl : news.length = m * size) (hnews : ∀ j u, news[j]? = some u → cellH h b (o + j) = some u)
    (h1 : ∀ u ∈ news, plainV u = true) (hbytes : (n + m) * bytes ≤ 140737488355328) (h63 : n + m ≤ 9223372036854775807) (hbase : base ≤ h.size) {K : Value → Heap → Prop}
    (hk : ∀ v' h', Own h' base e size v' (n + m) (xs ++ news) → Only (blk v) h h' → (v' = .slice none 0 0 ↔ v = .slice none 0 0 ∧ m = 0) → (∀ k ∈ blk v', k ∈ blk v ∨ k = h.size) → K v' h') :
    OpN P (Go.builtin .append #[t, t] ty cs #[v, .slice (some ⟨b, o, none⟩) m c]) h K := by
  intro w hw
  subst hw
  obtain ⟨i, hie, hz, hs, hb⟩ : ∃ i, P.info? e = some i ∧ i.zero = some z ∧ i.size = size ∧ i.bytes = bytes := by
    cases hx : P.info? e with
    | none => rw [hx] at hi; cases hi
    | some i => rw [hx] at hi; simp only [Option.map_some, Option.some.injEq, Prod.mk.injEq] at hi; exact ⟨i, rfl, hi.1, hi.2.1, hi.2.2⟩
  obtain ⟨v', w', hr, hown, hg, hnil, hblk⟩ := run_append_own_at (P := P) (w := w) base t ty e i z size bytes hu hie hz hs hb hzs hsz v n xs ho ⟨b, o, none⟩ m c news hl
    (fun j u hj => by rw [addr_add, cell_world]; exact hnews j u hj) (fun u hu => by have := h1 u hu; cases u <;> first | rfl | (simp [plainV] at this; done)) (by simpa [maxLen] using h63) hbytes hbase
  refine ⟨.value v', w', ?_, ⟨hg.os, hg.tape, hg.output⟩, ?_⟩
  · simp only [Go.builtin, Sem.run_bind, hr, Result.andThen_ok, Sem.run_pure]
  · refine hk v' w'.heap hown ⟨hg.size, fun k hk hkS => hg.block k hk (fun e => hkS (by unfold blk; rw [← e]; simp))⟩ hnil (fun k hk => ?_)
    unfold blk at hk
    rcases hblk with e | e
    · rw [e] at hk; exact .inl hk
    · rw [e] at hk; simp at hk; exact .inr hk
theorem m_buildSlice {t e : TypeId} (hu : P.underlying t = some (.slice e)) {sz : Nat} {z : Value} (hs : (P.info? e).map (·.size) = some sz) (hz : (P.info? e).bind (·.zero) = some z) (n : Nat) (parts : Array (Nat × Value)) (cells : Array Value)
    (hf : Instr.fill (fun i => some (i * sz, sz)) (rowOf z.cells (n * sz)) parts.toList = some cells) (hn : n * sz ≤ 16777216) (K : Value → Heap → Prop) :
    RunV P (Instr.buildSlice t n parts) h K = K (.slice (some ⟨h.size, 0, none⟩) n n) (h.push (.cells cells e (0, 0))) :=
  RunV_of fun w hw => by
    subst hw
    unfold Instr.buildSlice
    have hn' : ¬ n * sz > 2 ^ 24 := by have : (2 : Nat) ^ 24 = 16777216 := by decide
                                       omega
    simp only [Sem.run_bind, run_underlying hu, Result.andThen_ok, sizeOf_run hs, if_neg hn']
    unfold rowOf at hf
    by_cases h0 : n * sz = 0
    · simp only [h0] at hf ⊢
      simp only [show Array.range 0 = #[] from rfl, Array.map_empty, if_true, Sem.run_pure, Result.andThen_ok] at hf ⊢
      simp [hf, newRow, newObj, Sem.run]
    · simp only [if_neg h0, Sem.run_bind, run_zero hz, Result.andThen_ok, Sem.run_pure]
      simp [hf, newRow, newObj, Sem.run]
theorem rowOf_one (z : Value) : ∀ n, rowOf #[z] n = Array.replicate n z := fun n => madeL z n
/-- A new block, by what holds of it. -/
theorem box_step {h : Heap} {t : TypeId} {v : Value} {K : Value → Heap → Prop}
    (hk : ∀ h', Ext h h' → h'.size = h.size + 1 → h'[h.size]? = some (.cells v.cells t (0, 0)) → K (.pointer (some ⟨h.size, 0, none⟩)) h') : RunV P (Instr.box t v) h K := by
  rw [m_box]
  exact hk _ ((Ext.refl h).push _) (by simp) (push_new _ _)
theorem push_step {h : Heap} {o : Obj} {Q : Heap → Prop} (hk : ∀ h', Ext h h' → h'.size = h.size + 1 → h'[h.size]? = some o → Q h') : Q (h.push o) := hk _ ((Ext.refl h).push _) (by simp) (push_new _ _)
end Go.Hp
