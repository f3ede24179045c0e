/- A shallow reading of a loaded function's code: what a piece of code does to the heap, in continuation-passing form, computed from the code by the kernel; and its soundness over the kit's walk (Code.wp, Calls). -/
import Derived.Calls
import Derived.Tactics
import Derived.Laws.Sem
import Derived.Orders
import Derived.OrdersHeld
import Derived.Deep.Quiet
import Derived.KernelRfl
import Derived.RangeFuncLeaves
import Derived.OrdersIn
import Derived.RangeFuncRecord
import Derived.TacticsIn
set_option linter.unusedVariables false
set_option linter.unusedSimpArgs false
namespace Go.Hp

abbrev Heap := Array Obj
abbrev Env := Tmp → Value

structure Same (w w' : World) : Prop where
  os : w'.os = w.os
  tape : w'.tape = w.tape
  output : w'.output = w.output
theorem Same.refl (w : World) : Same w w := ⟨rfl, rfl, rfl⟩
theorem Same.trans {a b c : World} (h : Same a b) (k : Same b c) : Same a c := ⟨k.os.trans h.os, k.tape.trans h.tape, k.output.trans h.output⟩

def RunV (P : Program) (s : Sem Value) (h : Heap) (K : Value → Heap → Prop) : Prop :=
  ∀ w : World, w.heap = h → ∃ v w', s.run P w = .ok v w' ∧ Same w w' ∧ K v w'.heap
def RunU (P : Program) (s : Sem Unit) (h : Heap) (K : Heap → Prop) : Prop :=
  ∀ w : World, w.heap = h → ∃ w', s.run P w = .ok () w' ∧ Same w w' ∧ K w'.heap
def CallH (P : Program) (f : FuncId) (args : Array Value) (h : Heap) (K : Value → Heap → Prop) : Prop :=
  ∀ w : World, w.heap = h → Calls P f args w (fun e w' => ∃ v, e = .returned v ∧ Same w w' ∧ K v w'.heap)
def NextK (P : Program) (K : Value → Heap → Prop) : Next → World → Prop
  | .value v, w => K v w.heap
  | .skip, w => K undef w.heap
  | .enter f args, w => Calls P f args w (fun e w' => ∃ v, e = .returned v ∧ Same w w' ∧ K v w'.heap)
  | _, _ => False
def OpN (P : Program) (s : Sem Next) (h : Heap) (K : Value → Heap → Prop) : Prop :=
  ∀ w : World, w.heap = h → ∃ n w', s.run P w = .ok n w' ∧ Same w w' ∧ NextK P K n w'
def CallF (P : Program) (f : FuncId) (args : Array Value) (h : Heap) (K : Value → Heap → Prop) : Prop := OpN P (callFunc f args) h K
def CallV0 (P : Program) (fv : Value) (args : Array Value) (h : Heap) (K : Value → Heap → Prop) : Prop :=
  OpN P (do let d ← Deferred.ofValue fv args; invoke d.target d.args) h K
/-- A call that may be a round of a range over a function. -/
def NextR (P : Program) (K : Value → Heap → Prop) : Next → World → Prop
  | .value v, w => K v w.heap
  | .skip, w => K undef w.heap
  | .enter f args, w => Calls P f args w (fun e w' => ∃ v, e = .returned v ∧ Same w w' ∧ K v w'.heap)
  | .round l f tmps assign body, w => RoundIn Fence.wide 0 P l f tmps assign body w (fun e w' => ∃ v, e = .returned v ∧ Same w w' ∧ K v w'.heap)
  | _, _ => False
def CallV (P : Program) (fv : Value) (args : Array Value) (h : Heap) (K : Value → Heap → Prop) : Prop :=
  ∀ w : World, w.heap = h → ∃ n w', ((do let d ← Deferred.ofValue fv args; invoke d.target d.args : Sem Next)).run P w = .ok n w' ∧ Same w w' ∧ NextR P K n w'

def PickP (c a b : Value) (K : Value → Prop) : Prop := match c with
  | .bool t => K (bif t then a else b)
  | _ => False
def CondP (c : Value) (A B : Prop) : Prop := match c with
  | .bool true => A
  | .bool false => B
  | _ => False
def GuardP (c : Value) (want : Bool) (A B : Prop) : Prop := match c with
  | .bool true => bif want then A else B
  | .bool false => bif want then B else A
  | _ => False
def SkipP (v : Value) (B : Prop) : Prop := v = undef ∧ B
def NilC (v : Value) (K : Value → Prop) : Prop := match v with
  | .pointer none | .nilIface | .nilFunc => False
  | .func (.method _) _ _ => False
  | v => K v

/-- The place in an environment where the marks of the loops that ranged over a function stand. -/
def ghost : Nat := 1000000
def evalE (E : Env) : Operand → Value
  | .tmp t => bif Nat.beq t ghost then undef else E t
  | .const v => v
  | .global g => .pointer (some ⟨g, 0, none⟩)
  | .func f => .func (.func f) #[] #[]
def upd (E : Env) (d : Option Tmp) (v : Value) : Env := match d with
  | some d => fun t => bif Nat.beq t d then v else E t
  | none => E
def binS (op : BinOp) (t : TypeId) (x y : Operand) (a b : Value) : Sem Value := do eqGuard op t x y a b; binOp op t a b
def mapL {α β : Type} (f : α → β) (l : Array α) : Array β := ((Array.toList l).map f).toArray

def hstepW (P : Program) (o : Oper) (E : Env) (h : Heap) (next : Env → Heap → Prop) : Prop :=
  match o.op with
  | .move x | .assign x => next (upd E o.dst (evalE E x)) h
  | .pick c a b => PickP (evalE E c) (evalE E a) (evalE E b) fun v => next (upd E o.dst v) h
  | .alloc elem => RunV P (Instr.alloc elem true (.tuple #[])) h fun v h => next (upd E o.dst v) h
  | .box elem x => RunV P (Instr.box elem (evalE E x)) h fun v h => next (upd E o.dst v) h
  | .build t parts => RunV P (Instr.build t (mapL (fun p => (p.1, evalE E p.2)) parts)) h fun v h => next (upd E o.dst v) h
  | .buildSlice t len parts => RunV P (Instr.buildSlice t len (mapL (fun p => (p.1, evalE E p.2)) parts)) h fun v h => next (upd E o.dst v) h
  | .load t a => RunV P (Instr.loadAt t (evalE E a)) h fun v h => next (upd E o.dst v) h
  | .store t a x => RunU P (Instr.storeAt t (evalE E a) (evalE E x)) h fun h => next (upd E o.dst undef) h
  | .nilCheck x => NilC (evalE E x) fun v => next (upd E o.dst v) h
  | .binOp op t x y _ => RunV P (binS op t x y (evalE E x) (evalE E y)) h fun v h => next (upd E o.dst v) h
  | .unOp op _ x => RunV P (Op.unary op (evalE E x)) h fun v h => next (upd E o.dst v) h
  | .convert src dst x => RunV P (convert src dst (evalE E x)) h fun v h => next (upd E o.dst v) h
  | .makeInterface t x => RunV P (Instr.makeInterface t (evalE E x)) h fun v h => next (upd E o.dst v) h
  | .makeFunc fn first captured => next (upd E o.dst (.func fn (mapL (evalE E) first) (mapL (evalE E) captured))) h
  | .makeMap t r => RunV P (Instr.makeMap t (r.map (evalE E))) h fun v h => next (upd E o.dst v) h
  | .makeSlice t l c => RunV P (Instr.makeSlice t (evalE E l) (evalE E c)) h fun v h => next (upd E o.dst v) h
  | .slice t x lo hi mx => RunV P (Instr.sliceAt t (evalE E x) (lo.map (evalE E)) (hi.map (evalE E)) (mx.map (evalE E))) h fun v h => next (upd E o.dst v) h
  | .fieldAddr s x f => RunV P (Instr.fieldAt s (evalE E x) f) h fun v h => next (upd E o.dst v) h
  | .field t x f => RunV P (Instr.field t (evalE E x) f) h fun v h => next (upd E o.dst v) h
  | .indexAddr t x i => RunV P (Instr.indexAt t (evalE E x) (evalE E i)) h fun v h => next (upd E o.dst v) h
  | .index t x i => RunV P (Instr.index t (evalE E x) (evalE E i)) h fun v h => next (upd E o.dst v) h
  | .lookup t x i ok => RunV P (Instr.lookup t (evalE E x) (evalE E i) ok) h fun v h => next (upd E o.dst v) h
  | .mapUpdate t m k x | .insert t m k x => RunU P (Instr.mapUpdate t (evalE E m) (evalE E k) (evalE E x)) h fun h => next (upd E o.dst undef) h
  | .mapEntry t m k => RunV P (Instr.mapEntry t (evalE E m) (evalE E k)) h fun v h => next (upd E o.dst v) h
  | .entryStore t m s x => RunU P (Instr.entryStore t (evalE E m) (evalE E s) (evalE E x)) h fun h => next (upd E o.dst undef) h
  | .range t x => RunV P (Instr.range t (evalE E x)) h fun v h => next (upd E o.dst v) h
  | .next it str => RunV P (Instr.next (evalE E it) str o.type) h fun v h => next (upd E o.dst v) h
  | .entry it => RunV P (Instr.entry (evalE E it)) h fun v h => next (upd E o.dst v) h
  | .typeAssert x t u ok => RunV P (Instr.typeAssert (evalE E x) t u ok) h fun v h => next (upd E o.dst v) h
  | .extract t i => RunV P (Instr.extract (evalE E t) i) h fun v h => next (upd E o.dst v) h
  | .call c => match c.callee with
    | .value (.func f) => CallF P f (mapL (evalE E) c.args) h fun v h => next (upd E o.dst v) h
    | .value f => CallV0 P (evalE E f) (mapL (evalE E) c.args) h fun v h => next (upd E o.dst v) h
    | .builtin b => OpN P (builtin b c.argTypes o.type (mapL (fun x => match x with | .const _ => true | _ => false) c.args) (mapL (evalE E) c.args)) h fun v h => next (upd E o.dst v) h
    | .invoke _ _ => False
  | _ => False

def stepW (P : Program) (o : Oper) (E : Env) (h : Heap) (next : Env → Heap → Prop) : Prop :=
  match o.op with
  | .call c => match c.callee with
    | .value (.func _) => hstepW P o E h next
    | .value f => CallV P (evalE E f) (mapL (evalE E) c.args) h fun v h => next (upd E o.dst v) h
    | _ => hstepW P o E h next
  | _ => hstepW P o E h next

/-! Quiet: one value in every world of a class of heaps; the world stays in the class. -/
def QV (P : Program) (C : Heap → Prop) (s : Sem Value) (K : Value → Prop) : Prop :=
  ∃ v, (∀ w : World, C w.heap → s.run P w = .ok v w) ∧ K v
def QN (P : Program) (C : Heap → Prop) (s : Sem Next) (K : Value → Prop) : Prop :=
  ∃ v, (∀ h, C h → OpN P s h (fun u h' => u = v ∧ C h') ∧ ∀ w : World, w.heap = h → ∃ n, s.run P w = .ok n w) ∧ K v
def QB (P : Program) (C : Heap → Prop) (s : Sem Next) (K : Value → Prop) : Prop :=
  ∃ v, (∀ w : World, C w.heap → s.run P w = .ok (.value v) w) ∧ K v
def QCallF (P : Program) (C : Heap → Prop) (f : FuncId) (args : Array Value) (K : Value → Prop) : Prop := QN P C (callFunc f args) K
def QCallV (P : Program) (C : Heap → Prop) (fv : Value) (args : Array Value) (K : Value → Prop) : Prop :=
  QN P C (do let d ← Deferred.ofValue fv args; invoke d.target d.args) K

def qstepW (P : Program) (C : Heap → Prop) (o : Oper) (E : Env) (next : Env → Prop) : Prop :=
  match o.op with
  | .move x | .assign x => next (upd E o.dst (evalE E x))
  | .pick c a b => PickP (evalE E c) (evalE E a) (evalE E b) fun v => next (upd E o.dst v)
  | .build t parts => QV P C (Instr.build t (mapL (fun p => (p.1, evalE E p.2)) parts)) fun v => next (upd E o.dst v)
  | .load t a => QV P C (Instr.loadAt t (evalE E a)) fun v => next (upd E o.dst v)
  | .nilCheck x => NilC (evalE E x) fun v => next (upd E o.dst v)
  | .binOp op t x y _ => QV P C (binS op t x y (evalE E x) (evalE E y)) fun v => next (upd E o.dst v)
  | .unOp op _ x => QV P C (Op.unary op (evalE E x)) fun v => next (upd E o.dst v)
  | .convert src dst x => QV P C (convert src dst (evalE E x)) fun v => next (upd E o.dst v)
  | .makeFunc fn first captured => next (upd E o.dst (.func fn (mapL (evalE E) first) (mapL (evalE E) captured)))
  | .slice t x lo hi mx => QV P C (Instr.sliceAt t (evalE E x) (lo.map (evalE E)) (hi.map (evalE E)) (mx.map (evalE E))) fun v => next (upd E o.dst v)
  | .fieldAddr s x f => QV P C (Instr.fieldAt s (evalE E x) f) fun v => next (upd E o.dst v)
  | .field t x f => QV P C (Instr.field t (evalE E x) f) fun v => next (upd E o.dst v)
  | .indexAddr t x i => QV P C (Instr.indexAt t (evalE E x) (evalE E i)) fun v => next (upd E o.dst v)
  | .index t x i => QV P C (Instr.index t (evalE E x) (evalE E i)) fun v => next (upd E o.dst v)
  | .lookup t x i ok => QV P C (Instr.lookup t (evalE E x) (evalE E i) ok) fun v => next (upd E o.dst v)
  | .extract t i => QV P C (Instr.extract (evalE E t) i) fun v => next (upd E o.dst v)
  | .call c => match c.callee with
    | .value (.func f) => QCallF P C f (mapL (evalE E) c.args) fun v => next (upd E o.dst v)
    | .value f => QCallV P C (evalE E f) (mapL (evalE E) c.args) fun v => next (upd E o.dst v)
    | .builtin b => QB P C (builtin b c.argTypes o.type (mapL (fun x => match x with | .const _ => true | _ => false) c.args) (mapL (evalE E) c.args)) fun v => next (upd E o.dst v)
    | .invoke _ _ => False
  | _ => False

def nth {α : Type} : List α → Nat → Option α
  | [], _ => none
  | x :: _, 0 => some x
  | _ :: l, n + 1 => nth l n
def memN : List Nat → Nat → Bool
  | [], _ => false
  | x :: l, n => Nat.beq x n || memN l n

/-- The operations of a region, in the text's order. 'i': the next one's number; 'sk': those passed over. -/
def opsW (P : Program) (all : List Oper) (Q : Env → Heap → Prop) : List Oper → Nat → List Nat → Env → Heap → Prop
  | [], _, _, E, h => Q E h
  | o :: rest, i, sk, E, h => match o.guard with
    | none => stepW P o E h (opsW P all Q rest (i + 1) sk)
    | some (j, want) => match (nth all j).bind (·.dst) with
      | none => False
      | some t => bif memN sk j then SkipP (evalE E (.tmp t)) (opsW P all Q rest (i + 1) (i :: sk) (upd E o.dst undef) h) else
        GuardP (evalE E (.tmp t)) want (stepW P o (upd E (some t) (.bool want)) h (opsW P all Q rest (i + 1) sk))
          (opsW P all Q rest (i + 1) (i :: sk) (upd (upd E (some t) (.bool (!want))) o.dst undef) h)
def qopsW (P : Program) (C : Heap → Prop) (all : List Oper) (Q : Env → Prop) : List Oper → Nat → List Nat → Env → Prop
  | [], _, _, E => Q E
  | o :: rest, i, sk, E => match o.guard with
    | none => qstepW P C o E (qopsW P C all Q rest (i + 1) sk)
    | some (j, want) => match (nth all j).bind (·.dst) with
      | none => False
      | some t => bif memN sk j then SkipP (evalE E (.tmp t)) (qopsW P C all Q rest (i + 1) (i :: sk) (upd E o.dst undef)) else
        GuardP (evalE E (.tmp t)) want (qstepW P C o (upd E (some t) (.bool want)) (qopsW P C all Q rest (i + 1) sk))
          (qopsW P C all Q rest (i + 1) (i :: sk) (upd (upd E (some t) (.bool (!want))) o.dst undef))
/-- The operations of a region that draws, in an order that serves: 'take i': i yields one value in every heap of the class S; 'one i': i alone may come up; 'two i j': either may. -/
inductive Sched where
  | nil
  | take (i : Nat) (s : Sched)
  | one (i : Nat) (s : Sched)
  | two (i : Nat) (s : Sched) (j : Nat) (t : Sched)
  | three (i : Nat) (s : Sched) (j : Nat) (t : Sched) (k : Nat) (u : Sched)
def hguard (all : List Oper) (i : Nat) (sk : List Nat) (E : Env) (go : Oper → List Nat → Env → Prop) (skip : List Nat → Env → Prop) : Prop :=
  match nth all i with
  | none => False
  | some o => match o.guard with
    | none => go o sk E
    | some (j, want) => match (nth all j).bind (·.dst) with
      | none => False
      | some t => bif memN sk j then SkipP (evalE E (.tmp t)) (skip (i :: sk) (upd E o.dst undef)) else
        GuardP (evalE E (.tmp t)) want (go o sk (upd E (some t) (.bool want))) (skip (i :: sk) (upd (upd E (some t) (.bool (!want))) o.dst undef))
def hopsW (P : Program) (S : Heap → Prop) (all : List Oper) (Q : Env → Heap → Prop) : Sched → List Nat → Env → Heap → Prop
  | .nil, _, E, h => Q E h
  | .take i s, sk, E, h => hguard all i sk E (fun o sk E => qstepW P S o E (fun E => hopsW P S all Q s sk E h)) (fun sk E => hopsW P S all Q s sk E h)
  | .one i s, sk, E, h => hguard all i sk E (fun o sk E => hstepW P o E h (fun E h => S h ∧ hopsW P S all Q s sk E h)) (fun sk E => hopsW P S all Q s sk E h)
  | .two i s j t, sk, E, h =>
    hguard all i sk E (fun o sk E => hstepW P o E h (fun E h => S h ∧ hopsW P S all Q s sk E h)) (fun sk E => hopsW P S all Q s sk E h) ∧
    hguard all j sk E (fun o sk E => hstepW P o E h (fun E h => S h ∧ hopsW P S all Q t sk E h)) (fun sk E => hopsW P S all Q t sk E h)
  | .three i s j t k u, sk, E, h =>
    hguard all i sk E (fun o sk E => hstepW P o E h (fun E h => S h ∧ hopsW P S all Q s sk E h)) (fun sk E => hopsW P S all Q s sk E h) ∧
    hguard all j sk E (fun o sk E => hstepW P o E h (fun E h => S h ∧ hopsW P S all Q t sk E h)) (fun sk E => hopsW P S all Q t sk E h) ∧
    hguard all k sk E (fun o sk E => hstepW P o E h (fun E h => S h ∧ hopsW P S all Q u sk E h)) (fun sk E => hopsW P S all Q u sk E h)

def Quiet (h : Heap) (B : (Heap → Prop) → Prop) : Prop := ∃ C : Heap → Prop, C h ∧ B C
def QEnd (C : Heap → Prop) (K : Heap → Prop) : Prop := ∀ h', C h' → K h'
def Join0 (K : Heap → Prop) (B : (Heap → Prop) → Prop) : Prop := B K
def Join1 (K : Value → Heap → Prop) (B : (Value → Heap → Prop) → Prop) : Prop := B K
def Join2 (K : Value → Value → Heap → Prop) (B : (Value → Value → Heap → Prop) → Prop) : Prop := B K
def Join3 (K : Value → Value → Value → Heap → Prop) (B : (Value → Value → Value → Heap → Prop) → Prop) : Prop := B K
def Join4 (K : Value → Value → Value → Value → Heap → Prop) (B : (Value → Value → Value → Value → Heap → Prop) → Prop) : Prop := B K
def Join5 (K : Value → Value → Value → Value → Value → Heap → Prop) (B : (Value → Value → Value → Value → Value → Heap → Prop) → Prop) : Prop := B K
def Join6 (K : Value → Value → Value → Value → Value → Value → Heap → Prop) (B : (Value → Value → Value → Value → Value → Value → Heap → Prop) → Prop) : Prop := B K

structure Ann where
  loops : List (Nat × List Tmp) := []
  held : List (Nat × Sched) := []
def assoc {α : Type} : List (Nat × α) → Nat → Option α
  | [], _ => none
  | (k, v) :: l, n => bif Nat.beq k n then some v else assoc l n

def firstRegion : Code → Nat
  | .region id _ _ => id
  | .seq a _ => firstRegion a
  | .block _ c => firstRegion c
  | .loop c => firstRegion c
  | .scope c => firstRegion c
  | .cond _ a _ => firstRegion a
  | _ => 0
def leadLoops : Code → Nat
  | .seq a _ => leadLoops a
  | .block _ c => leadLoops c
  | .loop c => leadLoops c + 1
  | .scope c => leadLoops c
  | .cond _ a _ => leadLoops a
  | _ => 0
def loopKey (c : Code) : Nat := firstRegion c + 1000 * leadLoops c
def opsWrites : List Oper → List Tmp
  | [] => []
  | o :: l => match o.dst with | some d => d :: opsWrites l | none => opsWrites l
def writes : Code → List Tmp
  | .region _ ops _ => opsWrites ops.toList
  | .seq a b => writes a ++ writes b
  | .cond _ a b => writes a ++ writes b
  | .block _ c => writes c
  | .loop c => writes c
  | .scope c => writes c
  | .rangeFunc _ _ a b => ghost :: (writes a ++ writes b)
  | _ => []
def noRange : Code → Bool
  | .seq a b => noRange a && noRange b
  | .cond _ a b => noRange a && noRange b
  | .block _ c => noRange c
  | .loop c => noRange c
  | .rangeFunc _ _ _ _ => false
  | _ => true
def havoc (ws : List Tmp) (js E : Env) : Env := fun t => bif memN ws t then js t else E t

def ExitT (next : Env → Heap → Prop) (Q : Exit → Env → Heap → Prop) : Exit → Env → Heap → Prop
  | .normal, E, h => next E h
  | e, E, h => Q e E h
def ExitB (id : Nat) (Q : Exit → Env → Heap → Prop) : Exit → Env → Heap → Prop
  | .exit j, E, h => bif Nat.beq j id then Q .normal E h else Q (.exit j) E h
  | e, E, h => Q e E h

def Loop0 (h0 : Heap) (B : Env → Heap → (Heap → Prop) → Prop) : Prop :=
  ∃ (I : Heap → Prop) (μ : Heap → Nat), I h0 ∧ ∀ js h, I h → B js h (fun h' => I h' ∧ μ h' < μ h)
def Loop1 (x0 : Value) (h0 : Heap) (B : Env → Value → Heap → (Value → Heap → Prop) → Prop) : Prop :=
  ∃ (I : Value → Heap → Prop) (μ : Value → Heap → Nat), I x0 h0 ∧ ∀ js x h, I x h → B js x h (fun x' h' => I x' h' ∧ μ x' h' < μ x h)
def Loop2 (x0 y0 : Value) (h0 : Heap) (B : Env → Value → Value → Heap → (Value → Value → Heap → Prop) → Prop) : Prop :=
  ∃ (I : Value → Value → Heap → Prop) (μ : Value → Value → Heap → Nat), I x0 y0 h0 ∧ ∀ js x y h, I x y h → B js x y h (fun x' y' h' => I x' y' h' ∧ μ x' y' h' < μ x y h)
def Loop3 (x0 y0 z0 : Value) (h0 : Heap) (B : Env → Value → Value → Value → Heap → (Value → Value → Value → Heap → Prop) → Prop) : Prop :=
  ∃ (I : Value → Value → Value → Heap → Prop) (μ : Value → Value → Value → Heap → Nat), I x0 y0 z0 h0 ∧ ∀ js x y z h, I x y z h → B js x y z h (fun x' y' z' h' => I x' y' z' h' ∧ μ x' y' z' h' < μ x y z h)
def Loop4 (x0 y0 z0 u0 : Value) (h0 : Heap) (B : Env → Value → Value → Value → Value → Heap → (Value → Value → Value → Value → Heap → Prop) → Prop) : Prop :=
  ∃ (I : Value → Value → Value → Value → Heap → Prop) (μ : Value → Value → Value → Value → Heap → Nat), I x0 y0 z0 u0 h0 ∧ ∀ js x y z u h, I x y z u h → B js x y z u h (fun x' y' z' u' h' => I x' y' z' u' h' ∧ μ x' y' z' u' h' < μ x y z u h)
def Loop5 (x0 y0 z0 u0 v0 : Value) (h0 : Heap) (B : Env → Value → Value → Value → Value → Value → Heap → (Value → Value → Value → Value → Value → Heap → Prop) → Prop) : Prop :=
  ∃ (I : Value → Value → Value → Value → Value → Heap → Prop) (μ : Value → Value → Value → Value → Value → Heap → Nat), I x0 y0 z0 u0 v0 h0 ∧ ∀ js x y z u v h, I x y z u v h → B js x y z u v h (fun x' y' z' u' v' h' => I x' y' z' u' v' h' ∧ μ x' y' z' u' v' h' < μ x y z u v h)

/-- A loop over a function: 'mk': its record, by its state and pending jump. -/
def RangeP1 (P : Program) (fv : Value) (h : Heap) (B : (LoopState → Option Code → Obj) → Value → Heap → (Value → Heap → Prop) → Prop) (Qe : Option Code → Heap → Prop) : Prop :=
  ∃ (gf : FuncId) (caps : Array Value), fv = .func (.func gf) #[] caps ∧ (∀ args w, (callFunc gf args).run P w = .ok (.enter gf args) w) ∧ ∀ mk : LoopState → Option Code → Obj,
    (∀ (x : Value) (h1 : Heap) (K : Value → Heap → Prop), h1[h.size + 1]? = some (mk .ready none) → B mk x h1 K → CallV P (.func (.yield (h.size + 1)) #[] #[]) #[x] h1 K) →
    CallF P gf (#[.func (.yield (h.size + 1)) #[] #[]] ++ caps) ((h.push (.deferred (some []))).push (mk .ready none))
      (fun _ h' => ∃ s e, s ≠ .busy ∧ h'[h.size + 1]? = some (mk s e) ∧ Qe e (h'.setIfInBounds (h.size + 1) (mk .exhausted e)))
def RangeP2 (P : Program) (fv : Value) (h : Heap) (B : (LoopState → Option Code → Obj) → Value → Value → Heap → (Value → Heap → Prop) → Prop) (Qe : Option Code → Heap → Prop) : Prop :=
  ∃ (gf : FuncId) (caps : Array Value), fv = .func (.func gf) #[] caps ∧ (∀ args w, (callFunc gf args).run P w = .ok (.enter gf args) w) ∧ ∀ mk : LoopState → Option Code → Obj,
    (∀ (x y : Value) (h1 : Heap) (K : Value → Heap → Prop), h1[h.size + 1]? = some (mk .ready none) → B mk x y h1 K → CallV P (.func (.yield (h.size + 1)) #[] #[]) #[x, y] h1 K) →
    CallF P gf (#[.func (.yield (h.size + 1)) #[] #[]] ++ caps) ((h.push (.deferred (some []))).push (mk .ready none))
      (fun _ h' => ∃ s e, s ≠ .busy ∧ h'[h.size + 1]? = some (mk s e) ∧ Qe e (h'.setIfInBounds (h.size + 1) (mk .exhausted e)))
def BeginR (mk : LoopState → Option Code → Obj) (l : Nat) (h : Heap) (N : Heap → Prop) : Prop := h[l]? = some (mk .ready none) ∧ N (h.setIfInBounds l (mk .busy none))
def EndR (mk : LoopState → Option Code → Obj) (l : Nat) (K : Value → Heap → Prop) (jump : Option Code) (h : Heap) : Prop :=
  h[l]? = some (mk .busy none) ∧ K (.bool jump.isNone) (h.setIfInBounds l (mk (bif jump.isNone then .ready else .done) jump))
def EndE (mk : LoopState → Option Code → Obj) (l : Nat) (K : Value → Heap → Prop) : Exit → Heap → Prop
  | .normal, h => EndR mk l K none h
  | .ret, h => EndR mk l K (some .ret) h
  | .exit id, h => EndR mk l K (some (.exit id)) h
  | _, _ => False
def ExitN (next : Env → Heap → Prop) : Exit → Env → Heap → Prop
  | .normal, E, h => next E h
  | _, _, _ => False
/-- The jump that is pending when a loop over a function has ended. -/
def JumpM (e : Option Code) (A R : Prop) (X : Nat → Prop) : Prop := match e with
  | none => A
  | some .ret => R
  | some (.exit id) => X id
  | _ => False
def addMark (D : Nat) (v : Value) : Value := match v with
  | .agg xs => .agg (Value.pointer (some ⟨D, 0, none⟩) :: xs.toList).toArray
  | _ => .agg #[.pointer (some ⟨D, 0, none⟩)]
def marksGo : List Value → Heap → (Heap → Prop) → Prop
  | [], h, K => K h
  | .pointer (some a) :: r, h, K => h[a.block]? = some (.deferred (some [])) ∧ marksGo r (h.setIfInBounds a.block (.deferred none)) K
  | _ :: _, _, _ => False
/-- A function's end: the marks' blocks are shut. -/
def MarksP (v : Value) (h : Heap) (K : Heap → Prop) : Prop := match v with
  | .agg xs => marksGo xs.toList h K
  | _ => K h

def W (P : Program) (ann : Ann) : Code → (Exit → Env → Heap → Prop) → Env → Heap → Prop
  | .skip, Q, E, h => Q .normal E h
  | .label _, Q, E, h => Q .normal E h
  | .region id ops false, Q, E, h => opsW P ops.toList (Q .normal) ops.toList 0 [] E h
  | .region id ops true, Q, E, h => match assoc ann.held id with
    | none => ∃ C : Heap → Prop, C h ∧ qopsW P C ops.toList (fun E => ∀ h', C h' → Q .normal E h') ops.toList 0 [] E
    | some sched => ∃ S : Heap → Prop, S h ∧ hopsW P S ops.toList (Q .normal) sched [] E h
  | .seq x y, Q, E, h => W P ann x (ExitT (fun E h => W P ann y Q E h) Q) E h
  | .cond c x y, Q, E, h => CondP (evalE E c) (W P ann x Q E h) (W P ann y Q E h)
  | .block id c, Q, E, h => W P ann c (ExitB id Q) E h
  | .exit id, Q, E, h => Q (.exit id) E h
  | .ret, Q, E, h => Q .ret E h
  | .loop c, Q, E, h => match assoc ann.loops (loopKey c) with
    | some [] => Loop0 h fun js h next => W P ann c (ExitT (fun E h => next h) Q) (havoc (writes c) js E) h
    | some [t] => Loop1 (E t) h fun js x h next => W P ann c (ExitT (fun E h => next (E t) h) Q) (upd (havoc (writes c) js E) (some t) x) h
    | some [t, u] => Loop2 (E t) (E u) h fun js x y h next => W P ann c (ExitT (fun E h => next (E t) (E u) h) Q) (upd (upd (havoc (writes c) js E) (some t) x) (some u) y) h
    | some [t, u, v] => Loop3 (E t) (E u) (E v) h fun js x y z h next => W P ann c (ExitT (fun E h => next (E t) (E u) (E v) h) Q) (upd (upd (upd (havoc (writes c) js E) (some t) x) (some u) y) (some v) z) h
    | some [t, u, v, s] => Loop4 (E t) (E u) (E v) (E s) h fun js x y z k h next => W P ann c (ExitT (fun E h => next (E t) (E u) (E v) (E s) h) Q) (upd (upd (upd (upd (havoc (writes c) js E) (some t) x) (some u) y) (some v) z) (some s) k) h
    | some [t, u, v, s, r] => Loop5 (E t) (E u) (E v) (E s) (E r) h fun js x y z k l h next => W P ann c (ExitT (fun E h => next (E t) (E u) (E v) (E s) (E r) h) Q) (upd (upd (upd (upd (upd (havoc (writes c) js E) (some t) x) (some u) y) (some v) z) (some s) k) (some r) l) h
    | _ => False
  | .rangeFunc g ps assign body, Q, E, h => match ps.toList with
    | [p] => RangeP1 P (evalE E g) h
        (fun mk x h1 K => W P ann assign (ExitN fun E1 h2 => BeginR mk (h.size + 1) h2 fun h3 => W P ann body (fun e _ h4 => EndE mk (h.size + 1) K e h4) E1 h3) (upd (upd E (some ghost) undef) (some p) x) h1)
        (fun e h' => JumpM e (Q .normal (upd E (some ghost) (addMark h.size (E ghost))) h') (Q .ret (upd E (some ghost) (addMark h.size (E ghost))) h') fun id => Q (.exit id) (upd E (some ghost) (addMark h.size (E ghost))) h')
    | [p, q] => RangeP2 P (evalE E g) h
        (fun mk x y h1 K => W P ann assign (ExitN fun E1 h2 => BeginR mk (h.size + 1) h2 fun h3 => W P ann body (fun e _ h4 => EndE mk (h.size + 1) K e h4) E1 h3) (upd (upd (upd E (some ghost) undef) (some p) x) (some q) y) h1)
        (fun e h' => JumpM e (Q .normal (upd E (some ghost) (addMark h.size (E ghost))) h') (Q .ret (upd E (some ghost) (addMark h.size (E ghost))) h') fun id => Q (.exit id) (upd E (some ghost) (addMark h.size (E ghost))) h')
    | _ => False
  | _, _, _, _ => False

def ResVal (P : Program) (E : Env) (h : Heap) (r : ResultVar) (K : Value → Prop) : Prop := match r with
  | .tmp t => K (evalE E (.tmp t))
  | .cell a t => QV P (fun h' => h' = h) (Instr.loadAt t (evalE E (.tmp a))) K
def ResP (P : Program) (rs : List ResultVar) (E : Env) (h : Heap) (K : Value → Heap → Prop) : Prop := match rs with
  | [] => K (.tuple #[]) h
  | [r] => ResVal P E h r fun v => K v h
  | [r, s] => ResVal P E h r fun v => ResVal P E h s fun u => K (.tuple #[v, u]) h
  | [r, s, t] => ResVal P E h r fun v => ResVal P E h s fun u => ResVal P E h t fun x => K (.tuple #[v, u, x]) h
  | _ => False
def bodyQ (P : Program) (rs : List ResultVar) (K : Value → Heap → Prop) : Exit → Env → Heap → Prop
  | .normal, E, h => ResP P rs E h K
  | .ret, E, h => ResP P rs E h K
  | _, _, _ => False
/-- Where the body holds loops over functions. -/
def bodyQM (P : Program) (rs : List ResultVar) (K : Value → Heap → Prop) : Exit → Env → Heap → Prop
  | .normal, E, h => MarksP (E ghost) h fun h => ResP P rs E h K
  | .ret, E, h => MarksP (E ghost) h fun h => ResP P rs E h K
  | _, _, _ => False
def argsE : List Value → Env
  | [], _ => undef
  | v :: _, 0 => v
  | _ :: l, t + 1 => argsE l t
def bodyOf (fn : Func) : Code := fn.body.getD .skip

/-! What is left to the checker: every destination lies in the frame; the orders of the regions that draw. -/
def isDefer : Op → Bool
  | .defer _ => true
  | _ => false
def dstOk (n : Nat) : List Oper → Bool
  | [] => true
  | o :: l => (match o.dst with | some d => Nat.blt d n | none => true) && !isDefer o.op && dstOk n l
def isCall : Op → Bool
  | .call c => match c.callee with | .builtin _ => false | _ => true
  | _ => false
def schedOk (ops : Array Oper) : Nat → Array Bool → Sched → Bool
  | 0, listed, .nil => (Region.ready .any ops listed).isEmpty
  | f + 1, listed, .take i s => Region.free .any ops listed i && (Region.ready .any ops listed).contains i && !((ops[i]?).map (fun o => isCall o.op)).getD true && schedOk ops f (listed.setIfInBounds i true) s
  | f + 1, listed, .one i s => Region.ready .any ops listed == [i] && schedOk ops f (listed.setIfInBounds i true) s
  | f + 1, listed, .two i s j t => Region.ready .any ops listed == [i, j] && schedOk ops f (listed.setIfInBounds i true) s && schedOk ops f (listed.setIfInBounds j true) t
  | f + 1, listed, .three i s j t k u => Region.ready .any ops listed == [i, j, k] && schedOk ops f (listed.setIfInBounds i true) s && schedOk ops f (listed.setIfInBounds j true) t && schedOk ops f (listed.setIfInBounds k true) u
  | _, _, _ => false
def wf (n : Nat) (ann : Ann) : Code → Bool
  | .region id ops draw => dstOk n ops.toList && (!draw || match assoc ann.held id with
    | none => Region.lexB .any ops
    | some sched => Region.noSelect ops && schedOk ops ops.size (Array.replicate ops.size false) sched)
  | .seq a b => wf n ann a && wf n ann b
  | .cond _ a b => wf n ann a && wf n ann b
  | .block _ c => wf n ann c
  | .loop c => wf n ann c
  | .rangeFunc _ ps a b => wf n ann a && wf n ann b && noRange a && noRange b && ps.toList.all (fun p => Nat.blt p n)
  | _ => true
end Go.Hp
