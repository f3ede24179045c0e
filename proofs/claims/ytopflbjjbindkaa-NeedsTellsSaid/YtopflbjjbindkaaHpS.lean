/- Soundness: what 'W' says of a function's code, its calls do. -/
import Derived.Test.YtopflbjjbindkaaHp
set_option linter.unusedVariables false
set_option linter.unusedSimpArgs false
namespace Go.Hp

def markV (ds : List Deferred) : Value := match ds with
  | [] => undef
  | d :: ds => .agg ((d :: ds).map fun d => match d.target with | .collected D => Value.pointer (some ⟨D, 0, none⟩) | _ => undef).toArray
theorem markV_nil {ds : List Deferred} (h : markV ds = undef) : ds = [] := by
  cases ds with
  | nil => rfl
  | cons d ds => simp [markV, undef] at h
theorem markV_cons (D : Nat) (ds : List Deferred) : markV ({ target := .collected D, args := #[] } :: ds) = addMark D (markV ds) := by
  cases ds <;> simp [markV, addMark, undef]

structure Agrees (n : Nat) (a : Act) (E : Env) : Prop where
  le : n ≤ ghost
  marks : ∀ d ∈ a.defers, ∃ D, d = { target := .collected D, args := #[] }
  mark : E ghost = markV a.defers
  size : a.tmps.size = n
  tmp : ∀ t, t ≠ ghost → a.tmps.getD t undef = E t

theorem beq_ne {t d : Nat} (h : t ≠ d) : Nat.beq t d = false := by
  cases hb : Nat.beq t d with
  | false => rfl
  | true => exact absurd (Nat.eq_of_beq_eq_true hb) h
theorem Agrees.out {n : Nat} {a : Act} {E : Env} (h : Agrees n a E) : a.tmps[ghost]? = none := by
  have := h.le
  rw [← h.size] at this
  simp [this]
theorem Agrees.evt {n : Nat} {a : Act} {E : Env} (h : Agrees n a E) (t : Tmp) : a.tmps.getD t undef = evalE E (.tmp t) := by
  simp only [evalE]
  by_cases e : t = ghost
  · subst e
    rw [show Nat.beq ghost ghost = true from Nat.beq_refl _, Array.getD_eq_getD_getElem?, h.out]
    rfl
  · rw [beq_ne e]
    exact h.tmp t e
theorem Agrees.eval {n : Nat} {a : Act} {E : Env} (h : Agrees n a E) : a.eval = evalE E := by
  funext x
  cases x
  case tmp t => exact h.evt t
  all_goals rfl

theorem upd_some (E : Env) (d : Tmp) (v : Value) (t : Tmp) : upd E (some d) v t = if t = d then v else E t := by
  simp only [upd]
  by_cases h : t = d
  · subst h; simp
  · have : Nat.beq t d = false := by
      cases hb : Nat.beq t d with
      | false => rfl
      | true => exact absurd (Nat.eq_of_beq_eq_true hb) h
    simp [this, h]

theorem Agrees.put {n : Nat} {a : Act} {E : Env} (h : Agrees n a E) {d : Option Tmp} (hd : ∀ t, d = some t → t < n) (v : Value) : Agrees n (a.put d v) (upd E d v) := by
  cases d with
  | none => exact h
  | some d =>
    have hlt := hd d rfl
    refine ⟨h.le, h.marks, by rw [upd_some, if_neg (fun e : ghost = d => Nat.lt_irrefl _ (Nat.lt_of_lt_of_le (e ▸ hlt : ghost < n) h.le))]; exact h.mark, by simp [Act.put, h.size], fun t hg => ?_⟩
    rw [upd_some]
    have ht := h.tmp t hg
    simp only [Act.put]
    by_cases e : t = d
    · subst e
      simp [h.size, hlt]
    · rw [if_neg e, ← ht]
      simp only [Array.getD_eq_getD_getElem?]
      rw [Array.getElem?_setIfInBounds_ne (Ne.symm e)]

theorem upd_self {E : Env} {t : Tmp} {v : Value} (h : E t = v) : upd E (some t) v = E := by
  funext u
  rw [upd_some]
  split
  · rename_i e; rw [e, h]
  · rfl

theorem mapL_eq {α β : Type} (f : α → β) (l : Array α) : mapL f l = l.map f := by
  rw [mapL, ← Array.toList_map]

theorem GuardP_iff {c : Value} {want : Bool} {A B : Prop} (h : GuardP c want A B) : ∃ b, c = .bool b ∧ ((b = want ∧ A) ∨ (b = !want ∧ B)) := by
  unfold GuardP at h
  split at h
  · cases want
    · exact ⟨true, rfl, .inr ⟨rfl, h⟩⟩
    · exact ⟨true, rfl, .inl ⟨rfl, h⟩⟩
  · cases want
    · exact ⟨false, rfl, .inl ⟨rfl, h⟩⟩
    · exact ⟨false, rfl, .inr ⟨rfl, h⟩⟩
  · exact h.elim

/-- What one operation leaves. -/
def Left (P : Program) (a : Act) (o : Oper) (E : Env) (w : World) (next : Env → Heap → Prop) (a' : Act) (w' : World) : Prop :=
  ∃ v, a' = a.put o.dst v ∧ Same w w' ∧ next (upd E o.dst v) w'.heap

theorem upon_V {P : Program} {o : Oper} {a : Act} {E : Env} {w : World} {next : Env → Heap → Prop} {Q : Exit → Act → World → Prop} {s : Sem Value}
    (h : RunV P s w.heap fun v h => next (upd E o.dst v) h) : o.upon P a (Left P a o E w next) Q ((do let v ← s; pure (Next.value v) : Sem Next).run P w) := by
  obtain ⟨v, w', hr, hs, hk⟩ := h w rfl
  simp only [Sem.run_bind, hr, Result.andThen_ok, Sem.run_pure, Oper.upon]
  exact ⟨v, rfl, hs, hk⟩
theorem upon_U {P : Program} {o : Oper} {a : Act} {E : Env} {w : World} {next : Env → Heap → Prop} {Q : Exit → Act → World → Prop} {s : Sem Unit}
    (h : RunU P s w.heap fun h => next (upd E o.dst undef) h) : o.upon P a (Left P a o E w next) Q ((do s; pure Next.skip : Sem Next).run P w) := by
  obtain ⟨w', hr, hs, hk⟩ := h w rfl
  simp only [Sem.run_bind, hr, Result.andThen_ok, Sem.run_pure, Oper.upon]
  exact ⟨undef, rfl, hs, hk⟩
theorem upon_N {P : Program} {o : Oper} {a : Act} {E : Env} {w : World} {next : Env → Heap → Prop} {Q : Exit → Act → World → Prop} {s : Sem Next}
    (h : OpN P s w.heap fun v h => next (upd E o.dst v) h) : o.upon P a (Left P a o E w next) Q (s.run P w) := by
  obtain ⟨n, w', hr, hs, hk⟩ := h w rfl
  rw [hr]
  cases n <;> simp only [NextK] at hk <;> simp only [Oper.upon]
  case value v => exact ⟨v, rfl, hs, hk⟩
  case skip => exact ⟨undef, rfl, hs, hk⟩
  case enter f args =>
    exact hk.mono fun e w'' ⟨v, he, hs', hk'⟩ => by subst he; exact ⟨v, rfl, hs.trans hs', hk'⟩
theorem upon_P {P : Program} {o : Oper} {a : Act} {E : Env} {w : World} {next : Env → Heap → Prop} {Q : Exit → Act → World → Prop} {v : Value}
    (h : next (upd E o.dst v) w.heap) : o.upon P a (Left P a o E w next) Q ((pure (Next.value v) : Sem Next).run P w) := by
  simp only [Sem.run_pure, Oper.upon]
  exact ⟨v, rfl, Same.refl w, h⟩

theorem step_sound {P : Program} {n : Nat} {o : Oper} {E : Env} {a : Act} {w : World} {next : Env → Heap → Prop} (Q : Exit → Act → World → Prop) (hA : Agrees n a E)
    (h : hstepW P o E w.heap next) : o.wp P a w (Left P a o E w next) Q := by
  have hev := hA.eval
  unfold Oper.wp
  rw [hev]
  obtain ⟨dst, op, type, pos, after, guard⟩ := o
  cases op <;> simp only [hstepW] at h <;> simp only [execOp]
  case move x => exact upon_P h
  case assign x => exact upon_P h
  case pick c x y =>
    unfold PickP at h
    split at h
    · rename_i t ht
      simp only [ht, asBool, pure_bind]
      refine upon_P ?_
      cases t <;> exact h
    · exact h.elim
  case alloc t => exact upon_V h
  case box t x => exact upon_V h
  case build t ps => rw [mapL_eq] at h; exact upon_V h
  case buildSlice t k ps => rw [mapL_eq] at h; exact upon_V h
  case insert t m k x => exact upon_U h
  case load t x => exact upon_V h
  case store t x y => exact upon_U h
  case nilCheck x =>
    generalize evalE E x = v at h ⊢
    cases v with
    | func fn f c => cases fn <;> first | exact h.elim | exact upon_P h
    | pointer p => cases p <;> first | exact h.elim | exact upon_P h
    | nilFunc => exact h.elim
    | nilIface => exact h.elim
    | _ => exact upon_P h
  case binOp op t x y yt => exact upon_V h
  case unOp op t x => exact upon_V h
  case convert s d x => exact upon_V h
  case makeInterface t x => exact upon_V h
  case makeFunc fn f c =>
    rw [mapL_eq, mapL_eq] at h
    simp only [Instr.makeFunc, pure_bind]
    exact upon_P h
  case makeMap t r => exact upon_V h
  case makeSlice t l c => exact upon_V h
  case slice t x l hh m => exact upon_V h
  case fieldAddr t x f => exact upon_V h
  case field t x f => exact upon_V h
  case indexAddr t x i => exact upon_V h
  case index t x i => exact upon_V h
  case lookup t x i ok => exact upon_V h
  case mapUpdate t m k x => exact upon_U h
  case mapEntry t m k => exact upon_V h
  case entryStore t m s x => exact upon_U h
  case range t x => exact upon_V h
  case next it s => exact upon_V h
  case entry it => exact upon_V h
  case typeAssert x t u ok => exact upon_V h
  case extract t i => exact upon_V h
  case call c =>
    obtain ⟨callee, args, argTypes⟩ := c
    cases callee with
    | value f =>
      have key : CallV0 P (evalE E f) (mapL (evalE E) args) w.heap (fun v h => next (upd E dst v) h) := by
        cases f <;> first | exact h | skip
        intro w hw
        have := h w hw
        simpa [evalE, Deferred.ofValue, invoke] using this
      rw [mapL_eq] at key
      simp only [resolve]
      exact upon_N key
    | builtin b =>
      simp only [mapL_eq] at h
      simp only [resolve, pure_bind, invoke]
      exact upon_N h
    | invoke r m => exact h.elim
  all_goals exact h.elim

theorem wp_mono_n {P : Program} {o : Oper} {a : Act} {w : World} {K K' : Act → World → Prop} {Q : Exit → Act → World → Prop} (hh : o.wp P a w K Q) (h : ∀ a w, K a w → K' a w) : o.wp P a w K' Q :=
  Oper.wp_mono h hh

theorem nth_eq {α : Type} : ∀ (l : List α) (i : Nat), nth l i = l[i]?
  | [], _ => by simp [nth]
  | x :: l, 0 => by simp [nth]
  | x :: l, i + 1 => by simp [nth, nth_eq l i]

theorem yielded_bool {n : Nat} {a : Act} {E : Env} (hA : Agrees n a E) {ops : Array Oper} {j : Nat} {t : Tmp} {b : Bool} (hj : (nth ops.toList j).bind (·.dst) = some t) (hE : evalE E (.tmp t) = .bool b) :
    yielded ops a.tmps j = some b := by
  have hj' : (ops[j]?).bind (·.dst) = some t := by rw [nth_eq] at hj; simpa using hj
  have ht := hA.evt t
  rw [hE] at ht
  have : a.tmps[t]? = some (.bool b) := by
    rw [Array.getD_eq_getD_getElem?] at ht
    cases hx : a.tmps[t]? with
    | none => rw [hx] at ht; simp [undef] at ht
    | some v => rw [hx] at ht; simpa using ht
  unfold yielded
  simp [hj', this]
theorem yielded_undef {n : Nat} {a : Act} {E : Env} (hA : Agrees n a E) {ops : Array Oper} {j : Nat} {t : Tmp} (hj : (nth ops.toList j).bind (·.dst) = some t) (hE : evalE E (.tmp t) = undef) :
    yielded ops a.tmps j = none := by
  have hj' : (ops[j]?).bind (·.dst) = some t := by rw [nth_eq] at hj; simpa using hj
  have ht := hA.evt t
  rw [hE] at ht
  unfold yielded
  simp only [hj', Option.bind_some]
  rw [Array.getD_eq_getD_getElem?] at ht
  cases hx : a.tmps[t]? with
  | none => rfl
  | some v => rw [hx] at ht; simp at ht; subst ht; rfl
theorem ev_bool {E : Env} {t : Tmp} {b : Bool} (h : evalE E (.tmp t) = .bool b) : E t = .bool b := by
  simp only [evalE] at h
  cases hb : Nat.beq t ghost with
  | true => rw [hb] at h; cases h
  | false => rw [hb] at h; exact h

/-- Which way an operation goes that has a guard. -/
theorem guard_cases {n : Nat} {a : Act} {E : Env} (hA : Agrees n a E) {ops : Array Oper} {o : Oper} {j : Nat} {want : Bool} (hg : o.guard = some (j, want)) {t : Tmp}
    (hj : (nth ops.toList j).bind (·.dst) = some t) {sk : List Nat} {A B : Env → Prop}
    (h : bif memN sk j then SkipP (evalE E (.tmp t)) (B E) else GuardP (evalE E (.tmp t)) want (A (upd E (some t) (.bool want))) (B (upd E (some t) (.bool (!want))))) :
    (Region.wanted o (yielded ops a.tmps) = true ∧ A E) ∨ (Region.wanted o (yielded ops a.tmps) = false ∧ B E) := by
  cases hm : memN sk j with
  | true =>
    rw [hm] at h
    obtain ⟨hu, hB⟩ := h
    right
    refine ⟨?_, hB⟩
    simp [Region.wanted, hg, yielded_undef hA hj hu]
  | false =>
    rw [hm] at h
    obtain ⟨b, hb, h⟩ := GuardP_iff h
    rcases h with ⟨rfl, h⟩ | ⟨rfl, h⟩
    · left
      rw [upd_self (ev_bool hb)] at h
      exact ⟨by simp [Region.wanted, hg, yielded_bool hA hj hb], h⟩
    · right
      rw [upd_self (ev_bool hb)] at h
      refine ⟨?_, h⟩
      simp only [Region.wanted, hg, yielded_bool hA hj hb]
      cases want <;> rfl

theorem dstOk_cons {n : Nat} {o : Oper} {l : List Oper} (h : dstOk n (o :: l) = true) : (∀ t, o.dst = some t → t < n) ∧ dstOk n l = true := by
  simp only [dstOk, Bool.and_eq_true] at h
  refine ⟨fun t ht => ?_, h.2⟩
  have := h.1.1
  rw [ht] at this
  exact Nat.blt_eq.mp this
theorem dstOk_nd {n : Nat} {l : List Oper} (h : dstOk n l = true) : ∀ o ∈ l, ∀ c, o.op ≠ .defer c := by
  induction l with
  | nil => intro o ho; cases ho
  | cons x l ih =>
    simp only [dstOk, Bool.and_eq_true, Bool.not_eq_true'] at h
    intro o ho c hc
    rcases List.mem_cons.1 ho with rfl | ho
    · have := h.1.2
      rw [hc] at this
      cases this
    · exact ih h.2 o ho c hc

/-! ### In whatever frame: an activation's ('none'), or a round's -/
def rf (r : Option Nat) : Fence := { Fence.wide with round := r }
def badE : Exit → Prop
  | .panic _ => True
  | .outgrown => True
  | _ => False
theorem uponIn_of_upon {P : Program} {o : Oper} {a : Act} {next : Act → World → Prop} {Q : Exit → Act → World → Prop} {res : Result Next} (r : Option Nat) (h : o.upon P a next Q res) : o.uponIn (rf r) 0 P a next Q res := by
  cases res with
  | ok x w' =>
    cases x <;> simp only [Oper.upon] at h <;> simp only [Oper.uponIn] <;> (try exact h.elim) <;> (try exact h)
    case enter f args =>
      refine ⟨fun hd => by simp [rf, Fence.wide] at hd, CallsIn.mono (callsIn_wide.2 h) fun e w'' he => ?_⟩
      cases e <;> exact he
    case row row args =>
      refine ⟨fun hd => by simp [rf, Fence.wide] at hd, fun c cs _ => ?_⟩
      obtain ⟨v, w'', hR, hs⟩ := h c cs
      exact ⟨v, w'', hR, stepsIn_wide.2 hs⟩
  | halt x w' => cases x <;> simp only [Oper.upon] at h <;> simp only [Oper.uponIn] <;> first | exact h.elim | exact h
theorem wpIn_of_wp {P : Program} {o : Oper} {a : Act} {w : World} {next : Act → World → Prop} {Q : Exit → Act → World → Prop} (r : Option Nat) (hnd : ∀ c, o.op ≠ .defer c) (h : o.wp P a w next Q) : o.wpIn (rf r) 0 P a w next Q := by
  refine ⟨fun _ _ => trivial, ?_⟩
  rw [Oper.semAt_eq _ _ _ hnd]
  exact uponIn_of_upon r h
theorem opIn {P : Program} {ops : Array Oper} {Q : Exit → Act → World → Prop} {K : Act → World → Prop} {i : Nat} {a : Act} {w : World} (r : Option Nat) (hnd : ∀ o ∈ ops.toList, ∀ c, o.op ≠ .defer c) (hO : ∀ a w, ¬ Q .outgrown a w)
    (h : wpOp P ops Q i K a w) : wpOpIn (rf r) 0 P ops Q i K a w := by
  unfold wpOp at h
  unfold wpOpIn
  cases ho : ops[i]? with
  | none => rw [ho] at h; exact h
  | some o =>
    rw [ho] at h
    simp only at h ⊢
    split
    · rename_i hw
      rw [if_pos hw] at h
      rcases h with h | ⟨_, a', w', h⟩
      · exact wpIn_of_wp r (hnd o (Array.mem_toList_iff.2 (Array.mem_of_getElem? ho))) h
      · exact absurd h (hO _ _)
    · rename_i hw
      rw [if_neg hw] at h
      exact ⟨fun _ _ => trivial, h⟩
theorem anyIn {P : Program} {ops : Array Oper} {md : Region.Mode} {Q : Exit → Act → World → Prop} (r : Option Nat) (hnd : ∀ o ∈ ops.toList, ∀ c, o.op ≠ .defer c) (hO : ∀ a w, ¬ Q .outgrown a w) :
    ∀ (fuel : Nat) (listed : Array Bool) (a : Act) (w : World), wpAny P md ops Q fuel listed a w → wpAnyIn (rf r) 0 P md ops Q fuel listed a w
  | 0, _, _, _, h => h
  | fuel + 1, listed, a, w, h => ⟨h.1, fun i hi => wpOpIn_mono (fun a' w' h' => anyIn r hnd hO fuel _ a' w' h') (opIn r hnd hO (h.2 i hi))⟩

theorem uponIn_R {P : Program} {o : Oper} {a : Act} {E : Env} {w : World} {next : Env → Heap → Prop} {Q : Exit → Act → World → Prop} {fv : Value} {args : Array Value} (r : Option Nat)
    (h : CallV P fv args w.heap fun v h => next (upd E o.dst v) h) : o.uponIn (rf r) 0 P a (Left P a o E w next) Q ((do let d ← Deferred.ofValue fv args; invoke d.target d.args : Sem Next).run P w) := by
  obtain ⟨n, w', hr, hs, hk⟩ := h w rfl
  rw [hr]
  cases n <;> simp only [NextR] at hk <;> simp only [Oper.uponIn]
  case value v => exact ⟨v, rfl, hs, hk⟩
  case skip => exact ⟨undef, rfl, hs, hk⟩
  case enter f args =>
    exact ⟨fun hd => by simp [rf, Fence.wide] at hd, CallsIn.mono (callsIn_wide.2 hk) fun e w'' ⟨v, he, hs', hk'⟩ => by subst he; exact ⟨v, rfl, hs.trans hs', hk'⟩⟩
  case round l f tmps assign body =>
    exact ⟨fun hd => by simp [rf, Fence.wide] at hd, RoundIn.mono hk fun e w'' ⟨v, he, hs', hk'⟩ => by subst he; exact ⟨v, rfl, hs.trans hs', hk'⟩⟩
theorem step_soundIn {P : Program} {n : Nat} {o : Oper} {E : Env} {a : Act} {w : World} {next : Env → Heap → Prop} (r : Option Nat) (Q : Exit → Act → World → Prop) (hA : Agrees n a E) (hnd : ∀ c, o.op ≠ .defer c)
    (h : stepW P o E w.heap next) : o.wpIn (rf r) 0 P a w (Left P a o E w next) Q := by
  have hev := hA.eval
  by_cases hc : ∃ (f : Operand) (args : Array Operand) (ats : Array TypeId), o.op = .call { callee := .value f, args := args, argTypes := ats } ∧ ∀ g, f ≠ .func g
  · obtain ⟨f, args, ats, hop, hf⟩ := hc
    refine ⟨fun _ _ => trivial, ?_⟩
    rw [Oper.semAt_eq _ _ _ hnd, hev]
    have key : CallV P (evalE E f) (mapL (evalE E) args) w.heap (fun v h => next (upd E o.dst v) h) := by
      unfold stepW at h
      rw [hop] at h
      cases f <;> first | exact h | exact absurd rfl (hf _)
    rw [mapL_eq] at key
    have hex : execOp (evalE E) o = (do let d ← Deferred.ofValue (evalE E f) (args.map (evalE E)); invoke d.target d.args) := by
      unfold execOp
      rw [hop]
      rfl
    rw [hex]
    exact uponIn_R r key
  · refine wpIn_of_wp r hnd (step_sound Q hA ?_)
    unfold stepW at h
    split at h
    · rename_i c hop
      split at h
      · exact h
      · rename_i f hf hcal
        refine absurd ⟨f, c.args, c.argTypes, ?_, fun g hg => hf g hg⟩ hc
        rw [hop]
        cases c
        simp only at hcal
        subst hcal
        rfl
      · exact h
    · exact h

theorem memN_iff (l : List Nat) (n : Nat) : memN l n = true ↔ n ∈ l := by
  induction l with
  | nil => simp [memN]
  | cons x l ih =>
    simp only [memN, Bool.or_eq_true, ih, List.mem_cons]
    constructor
    · rintro (h | h)
      · exact .inl (Nat.eq_of_beq_eq_true h).symm
      · exact .inr h
    · rintro (h | h)
      · exact .inl (by rw [h]; exact Nat.beq_refl x)
      · exact .inr h
theorem memN_false (l : List Nat) (n : Nat) : memN l n = false ↔ n ∉ l := by
  rw [← Bool.not_eq_true, memN_iff]

theorem upd_keeps {E : Env} {d : Option Tmp} {v : Value} {t : Tmp} (h : ∀ u, d = some u → t ≠ u) : upd E d v t = E t := by
  cases d with
  | none => rfl
  | some u => rw [upd_some, if_neg (h u rfl)]

theorem opsWrites_cons {o : Oper} {l : List Oper} {t : Tmp} (h : t ∉ opsWrites (o :: l)) : (∀ u, o.dst = some u → t ≠ u) ∧ t ∉ opsWrites l := by
  simp only [opsWrites] at h
  cases hd : o.dst with
  | none => rw [hd] at h; exact ⟨(fun u hu => by cases hu), h⟩
  | some d =>
    rw [hd] at h
    simp only [List.mem_cons, not_or] at h
    exact ⟨(fun u hu => by cases hu; exact h.1), h.2⟩

theorem ops_sound {P : Program} {n : Nat} {ops : Array Oper} {Qn : Env → Heap → Prop} {Q : Exit → Act → World → Prop} {w0 : World} (r : Option Nat) :
    ∀ (rest : List Oper) (i : Nat) (sk : List Nat) (E : Env) (a : Act) (w : World), opsW P ops.toList Qn rest i sk E w.heap → Agrees n a E → dstOk n rest = true → Same w0 w →
      (∀ a' w' E', Agrees n a' E' → Same w0 w' → (∀ t, t ∉ opsWrites rest → E' t = E t) → Qn E' w'.heap → Q .normal a' w') → wpListIn (rf r) 0 P ops Q rest a w := by
  intro rest
  induction rest with
  | nil => intro i sk E a w h hA hd hs hQ; exact hQ a w E hA hs (fun _ _ => rfl) h
  | cons o rest ih =>
    intro i sk E a w h hA hd hs hQ
    obtain ⟨hd1, hd2⟩ := dstOk_cons hd
    have go : ∀ i' sk', stepW P o E w.heap (opsW P ops.toList Qn rest i' sk') → o.wpIn (rf r) 0 P a w (wpListIn (rf r) 0 P ops Q rest) Q := by
      intro i' sk' h
      refine Oper.wpIn_mono ?_ (step_soundIn r Q hA (dstOk_nd hd o (by simp)) h)
      rintro a' w' ⟨v, rfl, hs', hk⟩
      refine ih _ _ _ _ _ hk (hA.put hd1 v) hd2 (hs.trans hs') fun a'' w'' E'' hA'' hs'' hw'' hq => hQ a'' w'' E'' hA'' hs'' (fun t ht => ?_) hq
      obtain ⟨h1, h2⟩ := opsWrites_cons ht
      rw [hw'' t h2, upd_keeps h1]
    have skip : ∀ i' sk', opsW P ops.toList Qn rest i' sk' (upd E o.dst undef) w.heap → wpListIn (rf r) 0 P ops Q rest (a.put o.dst undef) w := by
      intro i' sk' h
      refine ih _ _ _ _ _ h (hA.put hd1 undef) hd2 hs fun a'' w'' E'' hA'' hs'' hw'' hq => hQ a'' w'' E'' hA'' hs'' (fun t ht => ?_) hq
      obtain ⟨h1, h2⟩ := opsWrites_cons ht
      rw [hw'' t h2, upd_keeps h1]
    simp only [opsW] at h
    unfold wpListIn
    cases hg : o.guard with
    | none =>
      rw [hg] at h
      rw [if_pos (by simp [Region.wanted, hg])]
      exact go _ _ h
    | some g =>
      obtain ⟨j, want⟩ := g
      rw [hg] at h
      simp only at h
      cases hj : (nth ops.toList j).bind (·.dst) with
      | none => rw [hj] at h; exact h.elim
      | some t =>
        rw [hj] at h
        simp only at h
        rcases guard_cases hA hg hj (A := fun E => stepW P o E w.heap (opsW P ops.toList Qn rest (i + 1) sk)) (B := fun E => opsW P ops.toList Qn rest (i + 1) (i :: sk) (upd E o.dst undef) w.heap) (sk := sk) h with ⟨hw, h⟩ | ⟨hw, h⟩
        · rw [if_pos hw]; exact go _ _ h
        · rw [if_neg (by simp [hw])]; exact ⟨fun _ _ => trivial, skip _ _ h⟩

/-! ### Quiet regions -/
def Cls (w0 : World) (C : Heap → Prop) (w : World) : Prop := Same w0 w ∧ C w.heap

theorem quiet_V {P : Program} {C : Heap → Prop} {w0 : World} {o : Oper} {a : Act} {E : Env} {next : Env → Prop} {s : Sem Value} (hex : execOp a.eval o = (do let v ← s; pure (Next.value v)))
    (h : QV P C s fun v => next (upd E o.dst v)) : o.quiet P a (Cls w0 C) (fun a' => ∃ v, a' = a.put o.dst v ∧ next (upd E o.dst v)) := by
  obtain ⟨v, hv, hk⟩ := h
  refine ⟨v, fun w hw => ?_, v, rfl, hk⟩
  unfold Oper.quietAt
  rw [hex]
  simp only [Sem.run_bind, hv w hw.2, Result.andThen_ok, Sem.run_pure, Oper.quietUpon]
  exact ⟨trivial, trivial⟩
theorem quiet_P {P : Program} {C : Heap → Prop} {w0 : World} {o : Oper} {a : Act} {E : Env} {next : Env → Prop} {v : Value} (hex : execOp a.eval o = pure (Next.value v))
    (h : next (upd E o.dst v)) : o.quiet P a (Cls w0 C) (fun a' => ∃ v, a' = a.put o.dst v ∧ next (upd E o.dst v)) := by
  refine ⟨v, fun w hw => ?_, v, rfl, h⟩
  unfold Oper.quietAt
  rw [hex]
  simp only [Sem.run_pure, Oper.quietUpon]
  exact ⟨trivial, trivial⟩
theorem quiet_B {P : Program} {C : Heap → Prop} {w0 : World} {o : Oper} {a : Act} {E : Env} {next : Env → Prop} {s : Sem Next} (hex : execOp a.eval o = s)
    (h : QB P C s fun v => next (upd E o.dst v)) : o.quiet P a (Cls w0 C) (fun a' => ∃ v, a' = a.put o.dst v ∧ next (upd E o.dst v)) := by
  obtain ⟨v, hv, hk⟩ := h
  refine ⟨v, fun w hw => ?_, v, rfl, hk⟩
  unfold Oper.quietAt
  rw [hex, hv w hw.2]
  exact ⟨rfl, rfl⟩
theorem quiet_N {P : Program} {C : Heap → Prop} {w0 : World} {o : Oper} {a : Act} {E : Env} {next : Env → Prop} {s : Sem Next} (hex : execOp a.eval o = s)
    (h : QN P C s fun v => next (upd E o.dst v)) : o.quiet P a (Cls w0 C) (fun a' => ∃ v, a' = a.put o.dst v ∧ next (upd E o.dst v)) := by
  obtain ⟨v, hv, hk⟩ := h
  refine ⟨v, fun w hw => ?_, v, rfl, hk⟩
  unfold Oper.quietAt
  rw [hex]
  obtain ⟨h1, h2⟩ := hv w.heap hw.2
  obtain ⟨m, hm⟩ := h2 w rfl
  obtain ⟨m', w', hr, hs, hn⟩ := h1 w rfl
  rw [hm] at hr
  injection hr with e1 e2
  subst e1 e2
  rw [hm]
  cases m <;> simp only [NextK] at hn <;> simp only [Oper.quietUpon]
  case value u => exact ⟨trivial, hn.1⟩
  case skip => exact ⟨trivial, hn.1.symm⟩
  case enter f args =>
    refine ⟨trivial, hn.mono fun e w'' ⟨u, he, hs', hu, hC⟩ => ?_⟩
    subst hu
    exact ⟨he, hw.1.trans hs', hC⟩

theorem qstep_sound {P : Program} {C : Heap → Prop} {w0 : World} {n : Nat} {o : Oper} {E : Env} {a : Act} {next : Env → Prop} (hA : Agrees n a E)
    (h : qstepW P C o E next) : o.quiet P a (Cls w0 C) (fun a' => ∃ v, a' = a.put o.dst v ∧ next (upd E o.dst v)) := by
  have hev := hA.eval
  obtain ⟨dst, op, type, pos, after, guard⟩ := o
  cases op <;> simp only [qstepW] at h <;> (try exact h.elim)
  case move x => exact quiet_P (by simp only [execOp, hev]) h
  case assign x => exact quiet_P (by simp only [execOp, hev]) h
  case pick c x y =>
    unfold PickP at h
    split at h
    · rename_i t ht
      exact quiet_P (v := bif t then evalE E x else evalE E y) (by simp only [execOp, hev, ht, asBool, pure_bind]; cases t <;> rfl) h
    · exact h.elim
  case build t ps => rw [mapL_eq] at h; exact quiet_V (by simp only [execOp, hev]) h
  case load t x => exact quiet_V (by simp only [execOp, hev]) h
  case nilCheck x =>
    generalize hx : evalE E x = v at h
    cases v with
    | func fn f c => cases fn <;> first | exact h.elim | exact quiet_P (by simp only [execOp, hev, hx]) h
    | pointer p => cases p <;> first | exact h.elim | exact quiet_P (by simp only [execOp, hev, hx]) h
    | nilFunc => exact h.elim
    | nilIface => exact h.elim
    | _ => exact quiet_P (by simp only [execOp, hev, hx]) h
  case binOp op t x y yt => exact quiet_V (by simp only [execOp, hev]; rfl) h
  case unOp op t x => exact quiet_V (by simp only [execOp, hev]) h
  case convert s d x => exact quiet_V (by simp only [execOp, hev]) h
  case makeFunc fn f c =>
    rw [mapL_eq, mapL_eq] at h
    exact quiet_P (by simp only [execOp, hev, Instr.makeFunc, pure_bind]) h
  case slice t x l hh m => exact quiet_V (by simp only [execOp, hev]) h
  case fieldAddr t x f => exact quiet_V (by simp only [execOp, hev]) h
  case field t x f => exact quiet_V (by simp only [execOp, hev]) h
  case indexAddr t x i => exact quiet_V (by simp only [execOp, hev]) h
  case index t x i => exact quiet_V (by simp only [execOp, hev]) h
  case lookup t x i ok => exact quiet_V (by simp only [execOp, hev]) h
  case extract t i => exact quiet_V (by simp only [execOp, hev]) h
  case call c =>
    obtain ⟨callee, args, argTypes⟩ := c
    cases callee with
    | value f =>
      have key : QCallV P C (evalE E f) (mapL (evalE E) args) (fun v => next (upd E dst v)) := by
        cases f <;> first | exact h | skip
        simpa [QCallF, QCallV, evalE, Deferred.ofValue, invoke] using h
      rw [mapL_eq] at key
      exact quiet_N (by simp only [execOp, hev, resolve]) key
    | builtin b =>
      simp only [mapL_eq] at h
      exact quiet_B (by simp only [execOp, hev, resolve, pure_bind, invoke]; rfl) h
    | invoke r m => exact h.elim

theorem qops_sound {P : Program} {C : Heap → Prop} {w0 : World} {n : Nat} {ops : Array Oper} {Qn : Env → Prop} {Q : Act → Prop} :
    ∀ (rest : List Oper) (i : Nat) (sk : List Nat) (E : Env) (a : Act), qopsW P C ops.toList Qn rest i sk E → Agrees n a E → dstOk n rest = true →
      (∀ a' E', Agrees n a' E' → (∀ t, t ∉ opsWrites rest → E' t = E t) → Qn E' → Q a') → wpQuiet P ops (Cls w0 C) Q rest a := by
  intro rest
  induction rest with
  | nil => intro i sk E a h hA hd hQ; exact hQ a E hA (fun _ _ => rfl) h
  | cons o rest ih =>
    intro i sk E a h hA hd hQ
    obtain ⟨hd1, hd2⟩ := dstOk_cons hd
    have go : ∀ i' sk', qstepW P C o E (qopsW P C ops.toList Qn rest i' sk') → o.quiet P a (Cls w0 C) (wpQuiet P ops (Cls w0 C) Q rest) := by
      intro i' sk' h
      refine Oper.quiet_mono ?_ (qstep_sound (w0 := w0) hA h)
      rintro a' ⟨v, rfl, hk⟩
      refine ih _ _ _ _ hk (hA.put hd1 v) hd2 fun a'' E'' hA'' hw'' hq => hQ a'' E'' hA'' (fun t ht => ?_) hq
      obtain ⟨h1, h2⟩ := opsWrites_cons ht
      rw [hw'' t h2, upd_keeps h1]
    have skip : ∀ i' sk', qopsW P C ops.toList Qn rest i' sk' (upd E o.dst undef) → wpQuiet P ops (Cls w0 C) Q rest (a.put o.dst undef) := by
      intro i' sk' h
      refine ih _ _ _ _ h (hA.put hd1 undef) hd2 fun a'' E'' hA'' hw'' hq => hQ a'' E'' hA'' (fun t ht => ?_) hq
      obtain ⟨h1, h2⟩ := opsWrites_cons ht
      rw [hw'' t h2, upd_keeps h1]
    simp only [qopsW] at h
    unfold wpQuiet
    cases hg : o.guard with
    | none =>
      rw [hg] at h
      rw [if_pos (by simp [Region.wanted, hg])]
      exact go _ _ h
    | some g =>
      obtain ⟨j, want⟩ := g
      rw [hg] at h
      simp only at h
      cases hj : (nth ops.toList j).bind (·.dst) with
      | none => rw [hj] at h; exact h.elim
      | some t =>
        rw [hj] at h
        simp only at h
        rcases guard_cases hA hg hj (A := fun E => qstepW P C o E (qopsW P C ops.toList Qn rest (i + 1) sk)) (B := fun E => qopsW P C ops.toList Qn rest (i + 1) (i :: sk) (upd E o.dst undef)) (sk := sk) h with ⟨hw, h⟩ | ⟨hw, h⟩
        · rw [if_pos hw]; exact go _ _ h
        · rw [if_neg (by simp [hw])]; exact skip _ _ h

/-! ### Held regions -/
theorem held_yields {P : Program} {S : Heap → Prop} {w0 : World} {n : Nat} {o : Oper} {E : Env} {a : Act} {next : Env → Prop} {ops : Array Oper} (hA : Agrees n a E) (hw : Region.wanted o (yielded ops a.tmps) = true)
    (hc : isCall o.op = false) (h : qstepW P S o E next) : ∃ v, YieldsIf P ops (Cls w0 S) o v a ∧ next (upd E o.dst v) := by
  have hev := hA.eval
  have mkV : ∀ (s : Sem Value), execOp a.eval o = (do let v ← s; pure (Next.value v)) → QV P S s (fun v => next (upd E o.dst v)) → ∃ v, YieldsIf P ops (Cls w0 S) o v a ∧ next (upd E o.dst v) := by
    rintro s hex ⟨v, hv, hk⟩
    exact ⟨v, .inl ⟨hw, fun w hS => by rw [hex]; simp only [Sem.run_bind, hv w hS.2, Result.andThen_ok, Sem.run_pure]⟩, hk⟩
  have mkP : ∀ (v : Value), execOp a.eval o = pure (Next.value v) → next (upd E o.dst v) → ∃ v, YieldsIf P ops (Cls w0 S) o v a ∧ next (upd E o.dst v) := by
    intro v hex hk
    exact ⟨v, .inl ⟨hw, fun w hS => by rw [hex]; rfl⟩, hk⟩
  obtain ⟨dst, op, type, pos, after, guard⟩ := o
  cases op <;> simp only [qstepW] at h <;> (try exact h.elim)
  case move x => exact mkP _ (by simp only [execOp, hev]) h
  case assign x => exact mkP _ (by simp only [execOp, hev]) h
  case pick c x y =>
    unfold PickP at h
    split at h
    · rename_i t ht
      exact mkP (bif t then evalE E x else evalE E y) (by simp only [execOp, hev, ht, asBool, pure_bind]; cases t <;> rfl) h
    · exact h.elim
  case build t ps => rw [mapL_eq] at h; exact mkV _ (by simp only [execOp, hev]) h
  case load t x => exact mkV _ (by simp only [execOp, hev]) h
  case nilCheck x =>
    generalize hx : evalE E x = v at h
    cases v with
    | func fn f c => cases fn <;> first | exact h.elim | exact mkP _ (by simp only [execOp, hev, hx]) h
    | pointer p => cases p <;> first | exact h.elim | exact mkP _ (by simp only [execOp, hev, hx]) h
    | nilFunc => exact h.elim
    | nilIface => exact h.elim
    | _ => exact mkP _ (by simp only [execOp, hev, hx]) h
  case binOp op t x y yt => exact mkV _ (by simp only [execOp, hev]; rfl) h
  case unOp op t x => exact mkV _ (by simp only [execOp, hev]) h
  case convert s d x => exact mkV _ (by simp only [execOp, hev]) h
  case makeFunc fn f c =>
    rw [mapL_eq, mapL_eq] at h
    exact mkP _ (by simp only [execOp, hev, Instr.makeFunc, pure_bind]) h
  case slice t x l hh m => exact mkV _ (by simp only [execOp, hev]) h
  case fieldAddr t x f => exact mkV _ (by simp only [execOp, hev]) h
  case field t x f => exact mkV _ (by simp only [execOp, hev]) h
  case indexAddr t x i => exact mkV _ (by simp only [execOp, hev]) h
  case index t x i => exact mkV _ (by simp only [execOp, hev]) h
  case lookup t x i ok => exact mkV _ (by simp only [execOp, hev]) h
  case extract t i => exact mkV _ (by simp only [execOp, hev]) h
  case call c =>
    obtain ⟨callee, args, argTypes⟩ := c
    cases callee with
    | value f => cases hc
    | builtin b =>
      simp only [mapL_eq] at h
      obtain ⟨v, hv, hk⟩ := h
      exact ⟨v, .inl ⟨hw, fun w hS => by simp only [execOp, hev, resolve, pure_bind, invoke]; exact hv w hS.2⟩, hk⟩
    | invoke r m => exact h.elim

theorem hops_sound {P : Program} {S : Heap → Prop} {w0 : World} {n : Nat} {ops : Array Oper} {Qn : Env → Heap → Prop} {Q : Exit → Act → World → Prop} (hns : Region.noSelect ops = true)
    (hd : dstOk n ops.toList = true) (hP : ∀ c a w, ¬ Q (.panic c) a w) (ws : List Tmp) (hws : ∀ t, t ∉ ws → t ∉ opsWrites ops.toList) (E0 : Env)
    (hQ : ∀ a' w' E', Agrees n a' E' → Same w0 w' → (∀ t, t ∉ ws → E' t = E0 t) → Qn E' w'.heap → Q .normal a' w') :
    ∀ (fuel : Nat) (listed : Array Bool) (sched : Sched) (sk : List Nat) (E : Env) (a : Act) (w : World), schedOk ops fuel listed sched = true → hopsW P S ops.toList Qn sched sk E w.heap →
      Agrees n a E → Cls w0 S w → (∀ t, t ∉ ws → E t = E0 t) → wpAnyH P .any ops Q (Cls w0 S) fuel listed a w := by
  have dst_lt : ∀ (i : Nat) (o : Oper), ops[i]? = some o → (∀ t, o.dst = some t → t < n ∧ t ∈ opsWrites ops.toList) := by
    intro i o hi
    have hm : o ∈ ops.toList := Array.mem_toList_iff.2 (Array.mem_of_getElem? hi)
    generalize ops.toList = l at hm hd
    induction l with
    | nil => cases hm
    | cons x l ih =>
      obtain ⟨h1, h2⟩ := dstOk_cons hd
      intro t ht
      rcases List.mem_cons.1 hm with rfl | hm
      · exact ⟨h1 t ht, by simp [opsWrites, ht]⟩
      · obtain ⟨h3, h4⟩ := ih hm h2 t ht
        refine ⟨h3, ?_⟩
        simp only [opsWrites]
        cases x.dst <;> simp [h4]
  intro fuel
  induction fuel with
  | zero =>
    intro listed sched sk E a w hs h hA hC hE
    cases sched with
    | nil =>
      simp only [schedOk, List.isEmpty_iff] at hs
      exact ⟨hs, hQ a w E hA hC.1 hE h⟩
    | _ => simp [schedOk] at hs
  | succ fuel ih =>
    intro listed sched sk E a w hs h hA hC hE
    -- the two ways of an operation: carried out, or passed over
    have key : ∀ (i : Nat) (go : Oper → List Nat → Env → Prop) (skip : List Nat → Env → Prop), hguard ops.toList i sk E go skip →
        ∃ o, ops[i]? = some o ∧ ((∃ sk', Region.wanted o (yielded ops a.tmps) = true ∧ go o sk' E) ∨ (∃ sk', Region.wanted o (yielded ops a.tmps) = false ∧ skip sk' (upd E o.dst undef))) := by
      intro i go skip h
      simp only [hguard, nth_eq] at h
      cases ho : ops[i]? with
      | none => rw [show ops.toList[i]? = none by simpa using ho] at h; exact h.elim
      | some o =>
        rw [show ops.toList[i]? = some o by simpa using ho] at h
        simp only at h
        refine ⟨o, rfl, ?_⟩
        cases hg : o.guard with
        | none =>
          rw [hg] at h
          exact .inl ⟨sk, by simp [Region.wanted, hg], h⟩
        | some g =>
          obtain ⟨j, want⟩ := g
          rw [hg] at h
          simp only at h
          have hjj : (nth ops.toList j).bind (·.dst) = (ops.toList[j]?).bind (·.dst) := by rw [nth_eq]
          cases hj : (ops.toList[j]?).bind (·.dst) with
          | none => rw [hj] at h; exact h.elim
          | some t =>
            rw [hj] at h
            simp only at h
            rcases guard_cases hA hg (hjj.trans hj) (A := fun E => go o sk E) (B := fun E => skip (i :: sk) (upd E o.dst undef)) (sk := sk) h with ⟨hw, h⟩ | ⟨hw, h⟩
            · exact .inl ⟨sk, hw, h⟩
            · exact .inr ⟨_, hw, h⟩
    have hEput : ∀ (i : Nat) (o : Oper), ops[i]? = some o → ∀ v t, t ∉ ws → upd E o.dst v t = E0 t := fun i o ho v t ht => by
      rw [upd_keeps (fun u hu e => hws t ht (by rw [e]; exact (dst_lt i o ho u hu).2))]
      exact hE t ht
    have one : ∀ (i : Nat) (s : Sched), schedOk ops fuel (listed.setIfInBounds i true) s = true →
        hguard ops.toList i sk E (fun o sk E => hstepW P o E w.heap (fun E h => S h ∧ hopsW P S ops.toList Qn s sk E h)) (fun sk E => hopsW P S ops.toList Qn s sk E w.heap) →
        wpOp P ops Q i (fun a' w' => Cls w0 S w' ∧ wpAnyH P .any ops Q (Cls w0 S) fuel (listed.setIfInBounds i true) a' w') a w := by
      intro i s hs h
      obtain ⟨o, ho, h⟩ := key i _ _ h
      unfold wpOp
      simp only [ho]
      rcases h with ⟨sk', hw, h⟩ | ⟨sk', hw, h⟩
      · rw [if_pos hw]
        refine .inl (wp_mono_n (step_sound Q hA h) ?_)
        rintro a' w' ⟨v, rfl, hs', hS, hk⟩
        have hC' : Cls w0 S w' := ⟨hC.1.trans hs', hS⟩
        exact ⟨hC', ih _ _ _ _ _ _ hs hk (hA.put (fun t ht => (dst_lt i o ho t ht).1) v) hC' (hEput i o ho v)⟩
      · rw [if_neg (by simp [hw])]
        exact ⟨hC, ih _ _ _ _ _ _ hs h (hA.put (fun t ht => (dst_lt i o ho t ht).1) undef) hC (hEput i o ho undef)⟩
    cases sched with
    | nil => simp [schedOk] at hs
    | take i s =>
      simp only [schedOk, Bool.and_eq_true, Bool.not_eq_true'] at hs
      obtain ⟨⟨⟨hf, hr⟩, hc⟩, hs2⟩ := hs
      simp only [hopsW] at h
      obtain ⟨o, ho, h⟩ := key i _ _ h
      rw [ho] at hc
      simp only [Option.map_some, Option.getD_some] at hc
      rcases h with ⟨sk', hw, h⟩ | ⟨sk', hw, h⟩
      · obtain ⟨v, hy, hk⟩ := held_yields (w0 := w0) (ops := ops) hA hw hc h
        exact wpAnyH_take ho hns hf hr (fun c a w hp => absurd hp (hP _ _ _)) hy hC (ih _ _ _ _ _ _ hs2 hk (hA.put (fun t ht => (dst_lt i o ho t ht).1) v) hC (hEput i o ho v))
      · exact wpAnyH_take ho hns hf hr (fun c a w hp => absurd hp (hP _ _ _)) (v := undef) (.inr ⟨hw, rfl⟩) hC (ih _ _ _ _ _ _ hs2 h (hA.put (fun t ht => (dst_lt i o ho t ht).1) undef) hC (hEput i o ho undef))
    | one i s =>
      simp only [schedOk, Bool.and_eq_true, beq_iff_eq] at hs
      refine wpAnyH_all hs.1 (by simp) fun k hk => ?_
      simp only [List.mem_singleton] at hk
      subst hk
      exact one k s hs.2 h
    | two i s j t =>
      simp only [schedOk, Bool.and_eq_true, beq_iff_eq] at hs
      refine wpAnyH_all hs.1.1 (by simp) fun k hk => ?_
      simp only [List.mem_cons, List.not_mem_nil, or_false] at hk
      rcases hk with rfl | rfl
      · exact one k s hs.1.2 h.1
      · exact one k t hs.2 h.2
    | three i s j t l u =>
      simp only [schedOk, Bool.and_eq_true, beq_iff_eq] at hs
      refine wpAnyH_all hs.1.1.1 (by simp) fun k hk => ?_
      simp only [List.mem_cons, List.not_mem_nil, or_false] at hk
      rcases hk with rfl | rfl | rfl
      · exact one k s hs.1.1.2 h.1
      · exact one k t hs.1.2 h.2.1
      · exact one k u hs.2 h.2.2

/-! ### Code -/
def Post (n : Nat) (w0 : World) (ws : List Tmp) (E0 : Env) (Q : Exit → Env → Heap → Prop) (e : Exit) (a' : Act) (w' : World) : Prop :=
  ∃ E', Agrees n a' E' ∧ Same w0 w' ∧ (∀ t, t ∉ ws → E' t = E0 t) ∧ Q e E' w'.heap

theorem havoc_self {ws : List Tmp} {E E' : Env} (h : ∀ t, t ∉ ws → E' t = E t) : havoc ws E' E = E' := by
  funext t
  unfold havoc
  cases hm : memN ws t with
  | true => rfl
  | false => exact (h t ((memN_false ws t).1 hm)).symm
def envOf (a : Act) : Env := fun t => if t = ghost then markV a.defers else a.tmps.getD t undef
theorem Agrees.env {n : Nat} {a : Act} {E : Env} (h : Agrees n a E) : envOf a = E := by
  funext t
  unfold envOf
  split
  · rename_i e; rw [e, h.mark]
  · rename_i e; exact h.tmp t e
theorem bad_ExitT {next : Env → Heap → Prop} {Q : Exit → Env → Heap → Prop} (hP : ∀ e E h, badE e → ¬ Q e E h) : ∀ e E h, badE e → ¬ ExitT next Q e E h := by
  intro e E h hb
  cases e <;> first | exact hb.elim | exact hP _ _ _ hb
theorem bad_ExitB {id : Nat} {Q : Exit → Env → Heap → Prop} (hP : ∀ e E h, badE e → ¬ Q e E h) : ∀ e E h, badE e → ¬ ExitB id Q e E h := by
  intro e E h hb
  cases e <;> first | exact hb.elim | exact hP _ _ _ hb
theorem bad_ExitN {next : Env → Heap → Prop} : ∀ e E h, badE e → ¬ ExitN next e E h := by
  intro e E h hb
  cases e <;> first | exact hb.elim | exact id
theorem bad_EndE {mk : LoopState → Option Code → Obj} {l : Nat} {K : Value → Heap → Prop} : ∀ (e : Exit) (E : Env) (h : Heap), badE e → ¬ EndE mk l K e h := by
  intro e E h hb
  cases e <;> first | exact hb.elim | exact id

theorem regionIn_quiet {P : Program} {ops : Array Oper} {C : World → Prop} (r : Option Nat) {id : Nat} {Q : Exit → Act → World → Prop} {a : Act} {w : World} (hm : P.follows .mixedOrders = true) (hB : Region.lexB .any ops = true)
    (hC : C { w with drawn := w.drawn + 1 }) (hnd : ∀ o ∈ ops.toList, ∀ c, o.op ≠ .defer c) (hO : ∀ a w, ¬ Q .outgrown a w)
    (h : wpQuiet P ops C (fun a' => ∀ w', C w' → Q .normal a' w') ops.toList a) : (Code.region id ops true).wpIn (rf r) 0 P Q a w := by
  simp only [Region.lexB, Bool.and_eq_true] at hB
  have h2 := wpAnyQ_lex (C := C) (md := .any) hB.1 ops.toList 0 (Array.replicate ops.size false) a (by simp) (by simpa using hB.2) h
  exact wpIn_region_any hm (anyIn r hnd hO _ _ _ _ (wpAny_of_quiet (Q := fun a' => ∀ w', C w' → Q .normal a' w') (fun _ w' hw' h => h w' hw') _ _ _ _ hC (by simpa using h2)))

theorem Agrees.range {n : Nat} {a : Act} {E : Env} (hA : Agrees n a E) : Agrees n { tmps := a.tmps, defers := [] } (upd E (some ghost) undef) :=
  ⟨hA.le, (fun d hd => by cases hd), by rw [upd_some, if_pos rfl]; rfl, hA.size, fun t ht => by rw [upd_some, if_neg ht]; exact hA.tmp t ht⟩
theorem Agrees.set {n : Nat} {ts : Array Value} {ds : List Deferred} {E : Env} (hA : Agrees n { tmps := ts, defers := ds } E) {p : Tmp} (hp : p < n) (x : Value) : Agrees n { tmps := ts.setIfInBounds p x, defers := ds } (upd E (some p) x) :=
  hA.put (d := some p) (fun t e => by cases e; exact hp) x
theorem Agrees.marked {n : Nat} {a : Act} {E : Env} (hA : Agrees n a E) (D : Nat) : Agrees n { tmps := a.tmps, defers := { target := .collected D, args := #[] } :: a.defers } (upd E (some ghost) (addMark D (E ghost))) :=
  ⟨hA.le, (fun d hd => by rcases List.mem_cons.1 hd with rfl | hd; (exact ⟨D, rfl⟩); exact hA.marks d hd), by rw [upd_some, if_pos rfl, markV_cons, hA.mark], hA.size, fun t ht => by rw [upd_some, if_neg ht]; exact hA.tmp t ht⟩

/-- One round, out of what the assignment and the body do. -/
theorem round_sound {P : Program} {n : Nat} {ann : Ann} {assign body : Code} {E0 : Env} {rec : LoopState → Option Code → Loop} {l fn : Nat} {K : Value → Heap → Prop} {w1 : World} {ts : Array Value}
    (hs : ∀ s e, (rec s e).state = s) (hb : ∀ s e s', { rec s e with state := s' } = rec s' e) (hj : ∀ s e s' e', { rec s e with state := s', pending := e' } = rec s' e')
    (ihA : ∀ (Q : Exit → Env → Heap → Prop) (E : Env) (a : Act) (w : World), W P ann assign Q E w.heap → Agrees n a E → (∀ e E h, badE e → ¬ Q e E h) → assign.wpIn (rf (some l)) 0 P (Post n w (writes assign) E Q) a w)
    (ihB : ∀ (Q : Exit → Env → Heap → Prop) (E : Env) (a : Act) (w : World), W P ann body Q E w.heap → Agrees n a E → (∀ e E h, badE e → ¬ Q e E h) → body.wpIn (rf (some l)) 0 P (Post n w (writes body) E Q) a w)
    (hA : Agrees n { tmps := ts, defers := [] } E0)
    (hB : W P ann assign (ExitN fun E1 h2 => BeginR (fun s e => .loop (rec s e)) l h2 fun h3 => W P ann body (fun e _ h4 => EndE (fun s e => .loop (rec s e)) l K e h4) E1 h3) E0 w1.heap) :
    RoundIn Fence.wide 0 P l fn ts assign body w1 (fun e w' => ∃ v, e = .returned v ∧ Same w1 w' ∧ K v w'.heap) := by
  refine roundIn_of_wpIn (F := Fence.wide) trivial (wpIn_mono (ihA _ E0 _ w1 hB hA bad_ExitN) ?_)
  rintro e a' w' ⟨E', hA', hs', _, hq⟩
  cases e with
  | normal =>
    obtain ⟨hl, hbody⟩ := hq
    refine ⟨_, run_beginRound hl (hs _ _), ?_⟩
    have hw2 : (w'.putObj l (.loop { rec .ready none with state := .busy })).heap = w'.heap.setIfInBounds l (.loop (rec .busy none)) := by rw [hb]; rfl
    refine wpIn_mono (ihB _ E' a' _ (by rw [hw2]; exact hbody) hA' bad_EndE) ?_
    have hs2 : Same w1 (w'.putObj l (.loop { rec .ready none with state := .busy })) := hs'.trans ⟨rfl, rfl, rfl⟩
    rintro e a'' w'' ⟨E'', _, hs'', _, hq⟩
    cases e with
    | normal =>
      obtain ⟨hl2, hk⟩ := hq
      exact ⟨_, _, run_endRound none hl2, _, rfl, (hs2.trans hs'').trans ⟨rfl, rfl, rfl⟩, by rw [hj]; exact hk⟩
    | ret =>
      obtain ⟨hl2, hk⟩ := hq
      exact ⟨_, _, run_endRound (some .ret) hl2, _, rfl, (hs2.trans hs'').trans ⟨rfl, rfl, rfl⟩, by rw [hj]; exact hk⟩
    | exit id =>
      obtain ⟨hl2, hk⟩ := hq
      exact ⟨_, _, run_endRound (some (.exit id)) hl2, _, rfl, (hs2.trans hs'').trans ⟨rfl, rfl, rfl⟩, by rw [hj]; exact hk⟩
    | _ => exact hq.elim
  | _ => exact hq.elim

/-- The statement. -/
theorem range_sound {P : Program} {n : Nat} {g : Operand} {ps : Array Tmp} {assign body : Code} {E : Env} {a : Act} {w : World} {ws : List Tmp} {Q : Exit → Env → Heap → Prop} (hA : Agrees n a E) (hws : ghost ∈ ws)
    {gf : FuncId} {caps : Array Value} (hfv : evalE E g = .func (.func gf) #[] caps) (hent : ∀ args w, (callFunc gf args).run P w = .ok (.enter gf args) w)
    (hcall : ∀ (fn : FuncId), CallF P gf (#[.func (.yield (w.heap.size + 1)) #[] #[]] ++ caps)
      ((w.heap.push (.deferred (some []))).push (.loop { state := .ready, pending := none, fn, tmps := a.tmps, params := ps, assign, body, defers := w.heap.size }))
      (fun _ h' => ∃ s e, s ≠ .busy ∧ h'[w.heap.size + 1]? = some (.loop { state := s, pending := e, fn, tmps := a.tmps, params := ps, assign, body, defers := w.heap.size }) ∧
        JumpM e (Q .normal (upd E (some ghost) (addMark w.heap.size (E ghost))) (h'.setIfInBounds (w.heap.size + 1) (.loop { state := .exhausted, pending := e, fn, tmps := a.tmps, params := ps, assign, body, defers := w.heap.size }))) (Q .ret (upd E (some ghost) (addMark w.heap.size (E ghost))) (h'.setIfInBounds (w.heap.size + 1) (.loop { state := .exhausted, pending := e, fn, tmps := a.tmps, params := ps, assign, body, defers := w.heap.size }))) fun id => Q (.exit id) (upd E (some ghost) (addMark w.heap.size (E ghost))) (h'.setIfInBounds (w.heap.size + 1) (.loop { state := .exhausted, pending := e, fn, tmps := a.tmps, params := ps, assign, body, defers := w.heap.size })))) :
    (Code.rangeFunc g ps assign body).wpIn (rf none) 0 P (Post n w ws E Q) a w := by
  refine wpIn_rangeFunc (F := rf none) fun fn _ => ?_
  obtain ⟨w1, hw1⟩ : ∃ w1, w1 = (w.alloc (.deferred (some []))).alloc (.loop { state := .ready, pending := none, fn, tmps := a.tmps, params := ps, assign, body, defers := w.heap.size }) := ⟨_, rfl⟩
  refine ⟨w.heap.size + 1, [{ target := .collected w.heap.size, args := #[] }], w1, { target := .fn (.func gf) caps, args := #[.func (.yield (w.heap.size + 1)) #[] #[]] }, w1, gf,
    #[.func (.yield (w.heap.size + 1)) #[] #[]] ++ caps, w1, hw1 ▸ run_enterLoop_outer fn a.tmps ps assign body, ?_, fun _ _ => trivial, ?_, (fun hd => by simp [rf, Fence.wide] at hd), ?_⟩
  · simp only [resolve, hA.eval, hfv]
    simp [go_sem, evalE]
  · simp [invoke, hent]
  · obtain ⟨m, w', hr, hs, hN⟩ := hcall fn w1 (by rw [hw1]; rfl)
    rw [hent] at hr
    injection hr with e1 e2
    subst e1 e2
    refine CallsIn.mono (callsIn_wide.2 hN) ?_
    rintro e w' ⟨v, rfl, hs', s, j, hne, hat, hQ⟩
    refine ⟨j, _, run_endLoop hat hne, ?_⟩
    have hAm := hA.marked w.heap.size
    have hsm : Same w (w'.putObj (w.heap.size + 1) (.loop { state := .exhausted, pending := j, fn, tmps := a.tmps, params := ps, assign, body, defers := w.heap.size })) := ⟨by rw [show w.os = _ from (congrArg World.os hw1).symm]; exact hs'.os, by rw [show w.tape = _ from (congrArg World.tape hw1).symm]; exact hs'.tape, by rw [show w.output = _ from (congrArg World.output hw1).symm]; exact hs'.output⟩
    have hwr : ∀ t, t ∉ ws → upd E (some ghost) (addMark w.heap.size (E ghost)) t = E t := fun t ht => by rw [upd_some, if_neg (fun e => ht (by rw [e]; exact hws))]
    cases j with
    | none => exact ⟨_, hAm, hsm, hwr, hQ⟩
    | some c =>
      cases c <;> first | exact hQ.elim | skip
      case exit id => exact wpIn_exit ⟨_, hAm, hsm, hwr, hQ⟩
      case ret => exact wpIn_ret ⟨_, hAm, hsm, hwr, hQ⟩

theorem W_sound {P : Program} (hmo : P.follows .mixedOrders = true) {n : Nat} {ann : Ann} : ∀ (c : Code) (r : Option Nat) (Q : Exit → Env → Heap → Prop) (E : Env) (a : Act) (w : World), W P ann c Q E w.heap → wf n ann c = true → (r = none ∨ noRange c = true) → Agrees n a E →
    (∀ e E h, badE e → ¬ Q e E h) → c.wpIn (rf r) 0 P (Post n w (writes c) E Q) a w := by
  intro c
  induction c with
  | skip => intro r Q E a w h hwf hr hA hP; exact wpIn_skip ⟨E, hA, Same.refl w, fun _ _ => rfl, h⟩
  | label l => intro r Q E a w h hwf hr hA hP; exact wpIn_label ⟨E, hA, Same.refl w, fun _ _ => rfl, h⟩
  | exit id => intro r Q E a w h hwf hr hA hP; exact wpIn_exit ⟨E, hA, Same.refl w, fun _ _ => rfl, h⟩
  | ret => intro r Q E a w h hwf hr hA hP; exact wpIn_ret ⟨E, hA, Same.refl w, fun _ _ => rfl, h⟩
  | region id ops draw =>
    intro r Q E a w h hwf hr hA hP
    have hPP : ∀ e a' w', badE e → ¬ Post n w (writes (.region id ops draw)) E Q e a' w' := by
      rintro e a' w' hb ⟨E', _, _, _, hq⟩
      exact hP _ _ _ hb hq
    cases draw with
    | false =>
      simp only [wf, Bool.and_eq_true] at hwf
      simp only [W] at h
      exact wpIn_region_list (ops_sound r (w0 := w) ops.toList 0 [] E a w h hA hwf.1 (Same.refl w) fun a' w' E' hA' hs' hw' hq => ⟨E', hA', hs', hw', hq⟩)
    | true =>
      simp only [wf, Bool.and_eq_true, Bool.not_true, Bool.false_or] at hwf
      simp only [W] at h
      obtain ⟨hd, hk⟩ := hwf
      have hnd := dstOk_nd hd
      cases ha : assoc ann.held id with
      | none =>
        rw [ha] at h hk
        simp only at h hk
        obtain ⟨C, hC, h⟩ := h
        refine regionIn_quiet r (C := Cls w C) hmo hk ⟨⟨rfl, rfl, rfl⟩, hC⟩ hnd (fun a' w' => hPP _ a' w' trivial) ?_
        exact qops_sound ops.toList 0 [] E a h hA hd fun a' E' hA' hw' hq w' hC' => ⟨E', hA', hC'.1, hw', hq _ hC'.2⟩
      | some sched =>
        rw [ha] at h hk
        simp only [Bool.and_eq_true] at h hk
        obtain ⟨S, hS, h⟩ := h
        refine wpIn_region_any hmo (anyIn r hnd (fun a' w' => hPP _ a' w' trivial) _ _ _ _ (wpAny_of_held (S := Cls w S) _ _ _ _ ?_))
        exact hops_sound (w0 := w) hk.1 hd (fun ch a' w' => hPP _ a' w' trivial) (opsWrites ops.toList) (fun t ht => ht) E (fun a' w' E' hA' hs' hw' hq => ⟨E', hA', hs', hw', hq⟩) _ _ _ _ _ _ _ hk.2 h hA ⟨⟨rfl, rfl, rfl⟩, hS⟩ (fun _ _ => rfl)
  | seq x y ihx ihy =>
    intro r Q E a w h hwf hr hA hP
    simp only [wf, Bool.and_eq_true] at hwf
    simp only [noRange, Bool.and_eq_true] at hr
    simp only [W] at h
    refine wpIn_seq (wpIn_mono (ihx r _ E a w h hwf.1 (hr.imp id (·.1)) hA (bad_ExitT hP)) ?_)
    rintro e a' w' ⟨E', hA', hs', hw', hq⟩
    cases e with
    | normal =>
      simp only [ExitT] at hq
      simp only [Exit.then]
      refine wpIn_mono (ihy r _ E' a' w' hq hwf.2 (hr.imp id (·.2)) hA' hP) ?_
      rintro e a'' w'' ⟨E'', hA'', hs'', hw'', hq'⟩
      exact ⟨E'', hA'', hs'.trans hs'', fun t ht => by simp only [writes, List.mem_append, not_or] at ht; rw [hw'' t ht.2, hw' t ht.1], hq'⟩
    | _ => exact ⟨E', hA', hs', fun t ht => by simp only [writes, List.mem_append, not_or] at ht; exact hw' t ht.1, hq⟩
  | cond c x y ihx ihy =>
    intro r Q E a w h hwf hr hA hP
    simp only [wf, Bool.and_eq_true] at hwf
    simp only [noRange, Bool.and_eq_true] at hr
    simp only [W] at h
    unfold CondP at h
    split at h
    · rename_i hc
      refine wpIn_cond_true (by rw [hA.eval]; exact hc) (wpIn_mono (ihx r _ E a w h hwf.1 (hr.imp id (·.1)) hA hP) ?_)
      rintro e a' w' ⟨E', hA', hs', hw', hq⟩
      exact ⟨E', hA', hs', fun t ht => by simp only [writes, List.mem_append, not_or] at ht; exact hw' t ht.1, hq⟩
    · rename_i hc
      refine wpIn_cond_false (by rw [hA.eval]; exact hc) (wpIn_mono (ihy r _ E a w h hwf.2 (hr.imp id (·.2)) hA hP) ?_)
      rintro e a' w' ⟨E', hA', hs', hw', hq⟩
      exact ⟨E', hA', hs', fun t ht => by simp only [writes, List.mem_append, not_or] at ht; exact hw' t ht.2, hq⟩
    · exact h.elim
  | block id c ih =>
    intro r Q E a w h hwf hr hA hP
    simp only [wf] at hwf
    simp only [noRange] at hr
    simp only [W] at h
    refine wpIn_block (wpIn_mono (ih r _ E a w h hwf hr hA (bad_ExitB hP)) ?_)
    rintro e a' w' ⟨E', hA', hs', hw', hq⟩
    cases e with
    | exit j =>
      simp only [ExitB] at hq
      simp only [Exit.inBlock]
      by_cases hj : j = id
      · subst hj
        rw [show Nat.beq j j = true from Nat.beq_refl j] at hq
        rw [if_pos rfl]
        exact ⟨E', hA', hs', hw', hq⟩
      · rw [beq_ne hj] at hq
        rw [if_neg hj]
        exact ⟨E', hA', hs', hw', hq⟩
    | _ => exact ⟨E', hA', hs', hw', hq⟩
  | loop c ih =>
    intro r Q E a w h hwf hr hA hP
    simp only [wf] at hwf
    simp only [noRange] at hr
    simp only [W] at h
    have main : ∀ (J : Env → Heap → Prop) (ν : Env → Heap → Nat), J E w.heap →
        (∀ E' h', J E' h' → (∀ t, t ∉ writes c → E' t = E t) → W P ann c (ExitT (fun E'' h'' => J E'' h'' ∧ ν E'' h'' < ν E' h') Q) E' h') → (Code.loop c).wpIn (rf r) 0 P (Post n w (writes c) E Q) a w := by
      intro J ν h0 round
      refine wpIn_loop (fun a' w' => ∃ E', Agrees n a' E' ∧ Same w w' ∧ (∀ t, t ∉ writes c → E' t = E t) ∧ J E' w'.heap) (fun a' w' => ν (envOf a') w'.heap) ⟨E, hA, Same.refl w, fun _ _ => rfl, h0⟩ ?_
      rintro a' w' ⟨E', hA', hs', hw', hJ⟩
      refine wpIn_mono (ih r _ E' a' w' (round E' w'.heap hJ hw') hwf hr hA' (bad_ExitT hP)) ?_
      rintro e a'' w'' ⟨E'', hA'', hs'', hw'', hq⟩
      cases e with
      | normal =>
        simp only [ExitT] at hq
        simp only [Exit.then]
        refine ⟨⟨E'', hA'', hs'.trans hs'', fun t ht => (hw'' t ht).trans (hw' t ht), hq.1⟩, ?_⟩
        rw [hA''.env, hA'.env]
        exact hq.2
      | _ => exact ⟨E'', hA'', hs'.trans hs'', fun t ht => (hw'' t ht).trans (hw' t ht), hq⟩
    split at h
    · obtain ⟨I, μ, h0, hr⟩ := h
      refine main (fun _ h => I h) (fun _ h => μ h) h0 fun E' h' hI hw' => ?_
      have := hr E' h' hI
      dsimp only at this
      rw [havoc_self hw'] at this
      exact this
    · rename_i t hl
      obtain ⟨I, μ, h0, hr⟩ := h
      refine main (fun E h => I (E t) h) (fun E h => μ (E t) h) h0 fun E' h' hI hw' => ?_
      have := hr E' (E' t) h' hI
      dsimp only at this
      rw [havoc_self hw', upd_self rfl] at this
      exact this
    · rename_i t u hl
      obtain ⟨I, μ, h0, hr⟩ := h
      refine main (fun E h => I (E t) (E u) h) (fun E h => μ (E t) (E u) h) h0 fun E' h' hI hw' => ?_
      have := hr E' (E' t) (E' u) h' hI
      dsimp only at this
      rw [havoc_self hw', upd_self rfl, upd_self rfl] at this
      exact this
    · rename_i t u v hl
      obtain ⟨I, μ, h0, hr⟩ := h
      refine main (fun E h => I (E t) (E u) (E v) h) (fun E h => μ (E t) (E u) (E v) h) h0 fun E' h' hI hw' => ?_
      have := hr E' (E' t) (E' u) (E' v) h' hI
      dsimp only at this
      rw [havoc_self hw', upd_self rfl, upd_self rfl, upd_self rfl] at this
      exact this
    · rename_i t u v s hl
      obtain ⟨I, μ, h0, hr⟩ := h
      refine main (fun E h => I (E t) (E u) (E v) (E s) h) (fun E h => μ (E t) (E u) (E v) (E s) h) h0 fun E' h' hI hw' => ?_
      have := hr E' (E' t) (E' u) (E' v) (E' s) h' hI
      dsimp only at this
      rw [havoc_self hw', upd_self rfl, upd_self rfl, upd_self rfl, upd_self rfl] at this
      exact this
    · rename_i t u v s r hl
      obtain ⟨I, μ, h0, hr⟩ := h
      refine main (fun E h => I (E t) (E u) (E v) (E s) (E r) h) (fun E h => μ (E t) (E u) (E v) (E s) (E r) h) h0 fun E' h' hI hw' => ?_
      have := hr E' (E' t) (E' u) (E' v) (E' s) (E' r) h' hI
      dsimp only at this
      rw [havoc_self hw', upd_self rfl, upd_self rfl, upd_self rfl, upd_self rfl, upd_self rfl] at this
      exact this
    · exact h.elim
  | rangeFunc g ps assign body iha ihb =>
    intro r Q E a w h hwf hr hA hP
    have hr0 : r = none := by
      rcases hr with hr | hr
      · exact hr
      · simp [noRange] at hr
    subst hr0
    simp only [wf, Bool.and_eq_true] at hwf
    obtain ⟨⟨⟨⟨hwa, hwb⟩, hna⟩, hnb⟩, hps⟩ := hwf
    simp only [W] at h
    split at h
    · rename_i p hp
      obtain ⟨gf, caps, hfv, hent, hk⟩ := h
      refine range_sound (ws := writes (.rangeFunc g ps assign body)) hA (by simp [writes]) hfv hent fun fn => ?_
      obtain ⟨rec, hrec⟩ : ∃ rec : LoopState → Option Code → Loop, rec = fun s e => { state := s, pending := e, fn, tmps := a.tmps, params := ps, assign, body, defers := w.heap.size } := ⟨_, rfl⟩
      have key := hk (fun s e => .loop (rec s e)) fun x h1 K hat hB w1 hw1 => by
        subst hw1
        have hp' : ps = #[p] := Array.toList_inj.1 (by rw [hp])
        have hpn : p < n := by rw [hp] at hps; simpa using hps
        have hy := run_yield (P := P) (args := #[x]) hat (by rw [hrec, hp']; rfl)
        refine ⟨_, w1, by simp only [Deferred.ofValue, pure_bind, invoke, Array.empty_append, Array.append_empty]; exact hy, Same.refl _, ?_⟩
        have hfold : ∀ f : Array Value → Nat × Value → Array Value, Array.foldl f (rec .ready none).tmps ((rec .ready none).params.zip #[x]) = f a.tmps (p, x) := fun f => by rw [hrec]; simp [hp']
        have : (rec .ready none).assign = assign := by rw [hrec]
        have hbo : (rec .ready none).body = body := by rw [hrec]
        simp only [NextR]
        rw [this, hbo]
        refine round_sound (rec := rec) (n := n) (ann := ann) (by intro s e; rw [hrec]) (by intro s e s'; rw [hrec]) (by intro s e s' e'; rw [hrec]) (fun Q E a w h hA hP => iha (some _) Q E a w h hwa (.inr hna) hA hP) (fun Q E a w h hA hP => ihb (some _) Q E a w h hwb (.inr hnb) hA hP) ?_ hB
        have := hA.range.set hpn x
        rw [hfold]
        exact this
      rw [hrec] at key
      exact key
    · rename_i p q hp
      obtain ⟨gf, caps, hfv, hent, hk⟩ := h
      refine range_sound (ws := writes (.rangeFunc g ps assign body)) hA (by simp [writes]) hfv hent fun fn => ?_
      obtain ⟨rec, hrec⟩ : ∃ rec : LoopState → Option Code → Loop, rec = fun s e => { state := s, pending := e, fn, tmps := a.tmps, params := ps, assign, body, defers := w.heap.size } := ⟨_, rfl⟩
      have key := hk (fun s e => .loop (rec s e)) fun x y h1 K hat hB w1 hw1 => by
        subst hw1
        have hp' : ps = #[p, q] := Array.toList_inj.1 (by rw [hp])
        have hpn : p < n ∧ q < n := by rw [hp] at hps; simpa using hps
        have hy := run_yield (P := P) (args := #[x, y]) hat (by rw [hrec, hp']; rfl)
        refine ⟨_, w1, by simp only [Deferred.ofValue, pure_bind, invoke, Array.empty_append, Array.append_empty]; exact hy, Same.refl _, ?_⟩
        have hfold : ∀ f : Array Value → Nat × Value → Array Value, Array.foldl f (rec .ready none).tmps ((rec .ready none).params.zip #[x, y]) = f (f a.tmps (p, x)) (q, y) := fun f => by rw [hrec]; simp [hp']
        have : (rec .ready none).assign = assign := by rw [hrec]
        have hbo : (rec .ready none).body = body := by rw [hrec]
        simp only [NextR]
        rw [this, hbo]
        refine round_sound (rec := rec) (n := n) (ann := ann) (by intro s e; rw [hrec]) (by intro s e s'; rw [hrec]) (by intro s e s' e'; rw [hrec]) (fun Q E a w h hA hP => iha (some _) Q E a w h hwa (.inr hna) hA hP) (fun Q E a w h hA hP => ihb (some _) Q E a w h hwb (.inr hnb) hA hP) ?_ hB
        have := (hA.range.set hpn.1 x).set hpn.2 y
        rw [hfold]
        exact this
      rw [hrec] at key
      exact key
    · exact h.elim
  | _ => intro r Q E a w h; exact h.elim

/-! ### Functions -/
theorem load_of {P : Program} {n : Nat} {a : Act} {E : Env} (hA : Agrees n a E) {t : TypeId} {x : Tmp} {w : World} {v : Value} (h : (Instr.loadAt t (evalE E (.tmp x))).run P w = .ok v w) :
    ((do loadVar t (← asAddr (a.tmps.getD x undef))) : Sem Value).run P w = .ok v w := by
  rw [hA.evt x]
  unfold Instr.loadAt at h
  generalize evalE E (.tmp x) = p at h ⊢
  cases p with
  | pointer p => cases p <;> first | exact h | (simp [Instr.sureAddr, stuck] at h; done)
  | _ => simp [Instr.sureAddr, stuck] at h

theorem res_sound {P : Program} {fn : Func} {n : Nat} {a : Act} {E : Env} {h : Heap} {K : Value → Heap → Prop} (hA : Agrees n a E) (hh : ResP P fn.results.toList E h K) :
    ∃ v, (∀ w : World, w.heap = h → (results fn a.tmps).run P w = .ok v w) ∧ K v h := by
  obtain ⟨f, hf, hf1, hf2⟩ : ∃ f : ResultVar → Sem Value, results fn a.tmps = (do let vs ← fn.results.mapM f; pure (if h : vs.size = 1 then vs[0] else .tuple vs)) ∧
      (∀ t, f (.tmp t) = pure (a.tmps.getD t undef)) ∧ ∀ x t, f (.cell x t) = (do loadVar t (← asAddr (a.tmps.getD x undef))) := ⟨_, rfl, fun _ => rfl, fun _ _ => rfl⟩
  have one : ∀ (r : ResultVar) (K : Value → Prop), ResVal P E h r K → ∃ v, (∀ w : World, w.heap = h → (f r).run P w = .ok v w) ∧ K v := by
    intro r K hk
    cases r with
    | tmp t => exact ⟨_, fun w _ => by rw [hf1, Sem.run_pure, hA.evt t], hk⟩
    | cell x t =>
      obtain ⟨v, hv, hk⟩ := hk
      exact ⟨v, fun w hw => by rw [hf2]; exact load_of hA (hv w hw), hk⟩
  rw [hf]
  obtain ⟨rs⟩ : ∃ rs, fn.results.toList = rs := ⟨_, rfl⟩
  rename_i hrs
  have hrs' : fn.results = rs.toArray := by rw [← hrs]
  rw [hrs] at hh
  match rs, hh with
  | [], hh => exact ⟨_, fun w _ => by rw [hrs']; simp, hh⟩
  | [r], hh =>
    obtain ⟨v, hv, hk⟩ := one r (fun v => K v h) hh
    refine ⟨v, fun w hw => ?_, hk⟩
    rw [hrs']
    simp [hv w hw]
  | [r, s], hh =>
    obtain ⟨v, hv, hk⟩ := one r (fun v => ResVal P E h s fun u => K (.tuple #[v, u]) h) hh
    obtain ⟨u, hu, hk⟩ := one s _ hk
    refine ⟨_, fun w hw => ?_, hk⟩
    rw [hrs']
    simp [hv w hw, hu w hw]
  | [r, s, t], hh =>
    obtain ⟨v, hv, hk⟩ := one r (fun v => ResVal P E h s fun u => ResVal P E h t fun x => K (.tuple #[v, u, x]) h) hh
    obtain ⟨u, hu, hk⟩ := one s _ hk
    obtain ⟨x, hx, hk⟩ := one t _ hk
    refine ⟨_, fun w hw => ?_, hk⟩
    rw [hrs']
    simp [hv w hw, hu w hw, hx w hw]

theorem argsE_get : ∀ (l : List Value) (t : Nat), argsE l t = l.getD t undef
  | [], _ => by simp [argsE]
  | v :: l, 0 => by simp [argsE]
  | v :: l, t + 1 => by simp [argsE, argsE_get l t]

theorem callFunc_run {P : Program} {f : FuncId} {fn : Func} (hf : P.funcs[f]? = some fn) (hb : fn.body.isSome = true) (hn : (fn.name == "runtime.NumGoroutine") = false) (args : Array Value) (w : World) :
    (callFunc f args).run P w = .ok (.enter f args) w := by
  have h1 : ¬ fn.name = "runtime.NumGoroutine" := by simpa using hn
  have h2 : ¬ fn.body = none := by intro e; rw [e] at hb; cases hb
  unfold callFunc
  simp only [program]
  show ((Sem.program Sem.pure >>= fun p => _) : Sem Next).run P w = _
  rw [Sem.run_bind]
  simp [Sem.run, hf, h1, h2]
theorem callF_of {P : Program} {f : FuncId} {fn : Func} (hf : P.funcs[f]? = some fn) (hb : fn.body.isSome = true) (hn : (fn.name == "runtime.NumGoroutine") = false) {args : Array Value} {h : Heap} {K : Value → Heap → Prop}
    (H : CallH P f args h K) : CallF P f args h K :=
  fun w hw => ⟨.enter f args, w, callFunc_run hf hb hn args w, Same.refl w, H w hw⟩

theorem leaves_marks {P : Program} {fn : Func} {n : Nat} {a : Act} {E : Env} (hA : Agrees n a E) {K : Value → Heap → Prop} {w0 : World} :
    ∀ (ds : List Deferred) (w : World), (∀ d ∈ ds, ∃ D, d = { target := .collected D, args := #[] }) →
      marksGo (ds.map fun d => match d.target with | .collected D => Value.pointer (some ⟨D, 0, none⟩) | _ => undef) w.heap (fun h => ResP P fn.results.toList E h K) → Same w0 w →
      LeavesInM Fence.wide 0 P fn a.tmps (fun e w' => ∃ v, e = .returned v ∧ Same w0 w' ∧ K v w'.heap) ds .returning w := by
  intro ds
  induction ds with
  | nil =>
    intro w _ h hs
    obtain ⟨v, hv, hk⟩ := res_sound hA h
    exact ⟨v, hv w rfl, v, rfl, hs, hk⟩
  | cons d ds ih =>
    intro w hd h hs
    obtain ⟨D, rfl⟩ := hd d (by simp)
    simp only [List.map_cons, marksGo] at h
    exact ⟨by simp, .inl ⟨D, _, rfl, run_takeDeferred h.1, ih _ (fun d hd' => hd d (by simp [hd'])) h.2 (hs.trans ⟨rfl, rfl, rfl⟩)⟩⟩

theorem agrees_start {n : Nat} (hle : n ≤ ghost) {args : List Value} (hargs : args.length ≤ n) : Agrees n { tmps := args.toArray ++ Array.replicate (n - args.toArray.size) undef, defers := [] } (argsE args) := by
  refine ⟨hle, (fun d hd => by cases hd), ?_, by simp; omega, fun t _ => ?_⟩
  · rw [argsE_get, List.getD_eq_getElem?_getD]
    have : args[ghost]? = none := by simp; omega
    rw [this]
    rfl
  · rw [argsE_get]
    simp only [Array.getD_eq_getD_getElem?, Array.getElem?_append, List.size_toArray, List.getElem?_toArray, Array.getElem?_replicate, List.getD_eq_getElem?_getD]
    by_cases ht : t < args.length
    · simp [ht]
    · have : args[t]? = none := by simp; omega
      simp only [ht, if_false, this, Option.getD_none]
      split <;> rfl

theorem callF_of_WM {P : Program} (hmo : P.follows .mixedOrders = true) {f : FuncId} {fn : Func} {ann : Ann} (hf : P.funcs[f]? = some fn) (hb : fn.body.isSome = true) (hn : (fn.name == "runtime.NumGoroutine") = false)
    (hwf : wf fn.ntmps ann (bodyOf fn) = true) (hle : Nat.ble fn.ntmps ghost = true) {args : List Value} (hargs : Nat.ble args.length fn.ntmps = true) {h : Heap} {K : Value → Heap → Prop}
    (H : W P ann (bodyOf fn) (bodyQM P fn.results.toList K) (argsE args) h) : CallF P f args.toArray h K := by
  refine callF_of hf hb hn ?_
  intro w hw
  subst hw
  have hA := agrees_start (Nat.ble_eq.mp hle) (Nat.ble_eq.mp hargs)
  obtain ⟨c, hc⟩ : ∃ c, fn.body = some c := by cases hx : fn.body with | none => simp [hx] at hb | some c => exact ⟨c, rfl⟩
  have hbo : bodyOf fn = c := by simp [bodyOf, hc]
  rw [hbo] at H hwf
  refine (callsIn_wide (n := 0)).1 (callsIn_of_wp_marks hf hc trivial (wpIn_mono (W_sound hmo c none _ _ _ w H hwf (.inl rfl) hA ?_) ?_))
  · intro e E h hb
    cases e <;> first | exact hb.elim | exact id
  · rintro e a' w' ⟨E', hA', hs', _, hq⟩
    have fin : MarksP (E' ghost) w'.heap (fun h => ResP P fn.results.toList E' h K) → LeavesInM Fence.wide 0 P fn a'.tmps (fun e w' => ∃ v, e = .returned v ∧ Same w w' ∧ K v w'.heap) a'.defers .returning w' := by
      intro hm
      refine leaves_marks hA' a'.defers w' hA'.marks ?_ hs'
      rw [hA'.mark] at hm
      cases hx : a'.defers with
      | nil => rw [hx] at hm; exact hm
      | cons d ds => rw [hx] at hm; simpa [markV, MarksP] using hm
    cases e with
    | normal => exact fin hq
    | ret => exact fin hq
    | _ => exact hq.elim

theorem callF_of_W {P : Program} (hmo : P.follows .mixedOrders = true) {f : FuncId} {fn : Func} {ann : Ann} (hf : P.funcs[f]? = some fn) (hb : fn.body.isSome = true) (hn : (fn.name == "runtime.NumGoroutine") = false)
    (hwf : (wf fn.ntmps ann (bodyOf fn) && Nat.ble fn.ntmps ghost && !memN (writes (bodyOf fn)) ghost) = true) {args : List Value} (hargs : Nat.ble args.length fn.ntmps = true) {h : Heap} {K : Value → Heap → Prop}
    (H : W P ann (bodyOf fn) (bodyQ P fn.results.toList K) (argsE args) h) : CallF P f args.toArray h K := by
  refine callF_of hf hb hn ?_
  intro w hw
  subst hw
  simp only [Bool.and_eq_true, Bool.not_eq_true'] at hwf
  obtain ⟨⟨hwf, hle⟩, hgh⟩ := hwf
  have hA := agrees_start (Nat.ble_eq.mp hle) (Nat.ble_eq.mp hargs)
  obtain ⟨c, hc⟩ : ∃ c, fn.body = some c := by cases hx : fn.body with | none => simp [hx] at hb | some c => exact ⟨c, rfl⟩
  have hbo : bodyOf fn = c := by simp [bodyOf, hc]
  rw [hbo] at H hwf hgh
  refine calls_of_wp hf hc (Code.wp_mono ?_ ((wpIn_wide (n := 0)).1 (W_sound hmo c none _ _ _ w H hwf (.inl rfl) hA ?_)))
  · rintro e a' w' ⟨E', hA', hs', hw', hq⟩
    have hde : a'.defers = [] := markV_nil (by rw [← hA'.mark, hw' ghost ((memN_false _ _).1 hgh), hA.mark]; rfl)
    cases e with
    | normal =>
      obtain ⟨v, hv, hk⟩ := res_sound hA' hq
      exact ⟨hde, v, hv w' rfl, v, rfl, hs', hk⟩
    | ret =>
      obtain ⟨v, hv, hk⟩ := res_sound hA' hq
      exact ⟨hde, v, hv w' rfl, v, rfl, hs', hk⟩
    | _ => exact hq.elim
  · intro e E h hb
    cases e <;> first | exact hb.elim | exact id
end Go.Hp
