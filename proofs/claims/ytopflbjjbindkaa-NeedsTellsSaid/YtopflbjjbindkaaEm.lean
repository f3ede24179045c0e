import Derived.Test.YtopflbjjbindkaaHpS
import Derived.Test.YtopflbjjbindkaaProg
set_option linter.unusedVariables false
set_option maxRecDepth 100000
namespace Go.Proofs.Ytopflbjjbindkaa
open Go.Hp

theorem mo : Try.prog.follows .mixedOrders = true := by kernel_rfl

/- replevin/replevinlaw07.NeedsTells -/
def F3 (a0 a1 : Value) (h : Heap) (K : Value → Heap → Prop) : Prop :=
  RunV Try.prog (Instr.box 25 a0) h fun t2 h_1 =>
  CallF Try.prog 7 #[] h_1 fun t6 h_2 =>
  RunV Try.prog (Op.unary UnOp.not t6) h_2 fun t7 h_3 =>
  CondP t7 (
  K (Value.bool false) h_3) (
  RunV Try.prog (Instr.loadAt 25 t2) h_3 fun t8 h_4 =>
  CallF Try.prog 8 #[t8] h_4 fun t9 h_5 =>
  CondP t9 (
  K (Value.bool true) h_5) (
  RunV Try.prog (Instr.loadAt 25 t2) h_5 fun t10 h_6 =>
  CallF Try.prog 9 #[t10] h_6 fun t11 h_7 =>
  RunV Try.prog (Instr.alloc 30 true (.tuple #[])) h_7 fun t5 h_8 =>
  RunU Try.prog (Instr.storeAt 30 t5 t11) h_8 fun h_9 =>
  Quiet h_9 fun S =>
  QV Try.prog S (Instr.loadAt 25 t2) fun t12 =>
  QV Try.prog S (Instr.loadAt 30 t5) fun t15 =>
  CallF Try.prog 11 #[t12, a1] h_9 fun t14 h_11 =>
  And (S h_11) (
  CallF Try.prog 12 #[t15, a1] h_11 fun t17 h_12 =>
  And (S h_12) (
  CallF Try.prog 10 #[t14, t17] h_12 fun t18 h_13 =>
  And (S h_13) (
  GuardP t18 true (
  QV Try.prog S (Instr.loadAt 25 t2) fun t20 =>
  QV Try.prog S (Instr.loadAt 30 t5) fun t23 =>
  CallF Try.prog 13 #[t20, a1] h_13 fun t22 h_14 =>
  And (S h_14) (
  CallF Try.prog 14 #[t23, a1] h_14 fun t25 h_15 =>
  And (S h_15) (
  CallF Try.prog 10 #[t22, t25] h_15 fun t26 h_16 =>
  And (S h_16) (
  GuardP t26 true (
  QV Try.prog S (Instr.loadAt 25 t2) fun t29 =>
  QV Try.prog S (Instr.loadAt 30 t5) fun t31 =>
  CallF Try.prog 16 #[t29] h_16 fun t30 h_17 =>
  And (S h_17) (
  CallF Try.prog 17 #[t31] h_17 fun t32 h_18 =>
  And (S h_18) (
  CallF Try.prog 15 #[t30, t32] h_18 fun t33 h_19 =>
  And (S h_19) (
  GuardP t33 true (
  QV Try.prog S (Instr.loadAt 25 t2) fun t36 =>
  QV Try.prog S (Instr.loadAt 30 t5) fun t38 =>
  CallF Try.prog 18 #[t36] h_19 fun t37 h_20 =>
  And (S h_20) (
  CallF Try.prog 19 #[t38] h_20 fun t39 h_21 =>
  And (S h_21) (
  CallF Try.prog 10 #[t37, t39] h_21 fun t40 h_22 =>
  And (S h_22) (
  GuardP t40 true (
  QV Try.prog S (Instr.loadAt 25 t2) fun t43 =>
  QV Try.prog S (Instr.loadAt 30 t5) fun t45 =>
  CallF Try.prog 20 #[t43] h_22 fun t44 h_23 =>
  And (S h_23) (
  CallF Try.prog 21 #[t45] h_23 fun t46 h_24 =>
  And (S h_24) (
  CallF Try.prog 10 #[t44, t46] h_24 fun t47 h_25 =>
  And (S h_25) (
  GuardP t47 true (
  QV Try.prog S (Instr.loadAt 25 t2) fun t50 =>
  QV Try.prog S (Instr.loadAt 30 t5) fun t52 =>
  CallF Try.prog 22 #[t50] h_25 fun t51 h_26 =>
  And (S h_26) (
  CallF Try.prog 23 #[t52] h_26 fun t53 h_27 =>
  And (S h_27) (
  CallF Try.prog 10 #[t51, t53] h_27 fun t54 h_28 =>
  And (S h_28) (
  GuardP t54 true (
  QV Try.prog S (Instr.loadAt 25 t2) fun t57 =>
  QV Try.prog S (Instr.loadAt 30 t5) fun t60 =>
  CallF Try.prog 24 #[t57, a1] h_28 fun t59 h_29 =>
  And (S h_29) (
  CallF Try.prog 25 #[t60, a1] h_29 fun t62 h_30 =>
  And (S h_30) (
  QV Try.prog S (binS BinOp.eql 3 (Operand.tmp 59) (Operand.tmp 62) t59 t62) fun t63 =>
  K t63 h_30))) (
  K (Value.bool false) h_28))))) (
  K (Value.bool false) h_25))))) (
  K (Value.bool false) h_22))))) (
  K (Value.bool false) h_19))))) (
  K (Value.bool false) h_16))))) (
  K (Value.bool false) h_13))))))
def ann3 : Ann := { loops := [], held := [(6, (.take 0 (.take 1 (.take 3 (.take 4 (.one 2 (.one 5 (.one 6 (.take 7 (.take 8 (.take 9 (.take 11 (.take 12 (.one 10 (.one 13 (.one 14 (.take 15 (.take 16 (.take 17 (.take 19 (.one 18 (.one 20 (.one 21 (.take 22 (.take 23 (.take 24 (.take 26 (.one 25 (.one 27 (.one 28 (.take 29 (.take 30 (.take 31 (.take 33 (.one 32 (.one 34 (.one 35 (.take 36 (.take 37 (.take 38 (.take 40 (.one 39 (.one 41 (.one 42 (.take 43 (.take 44 (.take 45 (.take 46 (.take 48 (.take 49 (.one 47 (.one 50 (.take 51 (.take 52 (.take 53 .nil)))))))))))))))))))))))))))))))))))))))))))))))))))))))] }
theorem F3_eq (a0 a1 : Value) (h : Heap) (K : Value → Heap → Prop) : F3 a0 a1 h K = W Try.prog ann3 (bodyOf Try.f3) (bodyQ Try.prog Try.f3.results.toList K) (argsE [a0, a1]) h := by kernel_rfl
theorem F3_wf : (wf Try.f3.ntmps ann3 (bodyOf Try.f3) && Nat.ble Try.f3.ntmps ghost && !memN (writes (bodyOf Try.f3)) ghost) = true := by kernel_rfl
theorem F3_b : Try.f3.body.isSome = true := by kernel_rfl
theorem F3_n : (Try.f3.name == "runtime.NumGoroutine") = false := by kernel_rfl
theorem R3 (args : Array Value) (w : World) : (callFunc 3 args).run Try.prog w = .ok (.enter 3 args) w := callFunc_run Try.func3 F3_b F3_n args w
theorem S3 {a0 a1 : Value} {h : Heap} {K : Value → Heap → Prop} (H : F3 a0 a1 h K) : CallF Try.prog 3 #[a0, a1] h K :=
  callF_of_W mo Try.func3 F3_b F3_n F3_wf (args := [a0, a1]) rfl (F3_eq a0 a1 h K ▸ H)

/- replevin/replevinlaw07.NeedsHold -/
def F4 (a0 : Value) (h : Heap) (K : Value → Heap → Prop) : Prop :=
  RunV Try.prog (Instr.box 25 a0) h fun t1 h_1 =>
  CallF Try.prog 7 #[] h_1 fun t13 h_2 =>
  RunV Try.prog (Op.unary UnOp.not t13) h_2 fun t14 h_3 =>
  CondP t14 (
  K (Value.bool false) h_3) (
  RunV Try.prog (Instr.loadAt 25 t1) h_3 fun t15 h_4 =>
  CallF Try.prog 8 #[t15] h_4 fun t16 h_5 =>
  CondP t16 (
  K (Value.bool true) h_5) (
  RunV Try.prog (Instr.makeMap 46 none) h_5 fun t17 h_6 =>
  RunV Try.prog (Instr.loadAt 25 t1) h_6 fun t18 h_7 =>
  CallF Try.prog 20 #[t18] h_7 fun t19 h_8 =>
  OpN Try.prog (Go.builtin Builtin.len #[33] 3 #[false] #[t19]) h_8 fun t21 h_9 =>
  Loop1 (Value.int IntKind.i64 0) h_9 fun Ljs Lx22 h_10 Ln =>
  RunV Try.prog (binS BinOp.lss 3 (Operand.tmp 22) (Operand.tmp 21) Lx22 t21) h_10 fun t23 h_11 =>
  CondP t23 (
  RunV Try.prog (Instr.indexAt 33 t19 Lx22) h_11 fun t24 h_12 =>
  RunV Try.prog (Instr.loadAt 3 t24) h_12 fun t25 h_13 =>
  RunU Try.prog (Instr.mapUpdate 46 t17 t25 (Value.bool true)) h_13 fun h_14 =>
  RunV Try.prog (binS BinOp.add 3 (Operand.tmp 22) (Operand.const (Value.int IntKind.i64 1)) Lx22 (Value.int IntKind.i64 1)) h_14 fun t28 h_15 =>
  Ln t28 h_15) (
  RunV Try.prog (Instr.loadAt 25 t1) h_11 fun t29 h_16 =>
  CallF Try.prog 18 #[t29] h_16 fun t30 h_17 =>
  OpN Try.prog (Go.builtin Builtin.len #[33] 3 #[false] #[t30]) h_17 fun t31 h_18 =>
  Loop1 (Value.int IntKind.i64 0) h_18 fun L_1js L_1x32 h_19 L_1n =>
  RunV Try.prog (binS BinOp.lss 3 (Operand.tmp 32) (Operand.tmp 31) L_1x32 t31) h_19 fun t33 h_20 =>
  CondP t33 (
  RunV Try.prog (Instr.indexAt 33 t30 L_1x32) h_20 fun t34 h_21 =>
  RunV Try.prog (Instr.loadAt 3 t34) h_21 fun t35 h_22 =>
  RunV Try.prog (Instr.lookup 46 t17 t35 false) h_22 fun t38 h_23 =>
  RunV Try.prog (Op.unary UnOp.not t38) h_23 fun t39 h_24 =>
  CondP t39 (
  K (Value.bool false) h_24) (
  RunV Try.prog (binS BinOp.add 3 (Operand.tmp 32) (Operand.const (Value.int IntKind.i64 1)) L_1x32 (Value.int IntKind.i64 1)) h_24 fun t40 h_25 =>
  L_1n t40 h_25)) (
  OpN Try.prog (Go.builtin Builtin.len #[33] 3 #[false] #[t19]) h_20 fun t42 h_26 =>
  Loop1 (Value.int IntKind.i64 0) h_26 fun L_2js L_2x43 h_27 L_2n =>
  RunV Try.prog (binS BinOp.lss 3 (Operand.tmp 43) (Operand.tmp 42) L_2x43 t42) h_27 fun t44 h_28 =>
  CondP t44 (
  RunV Try.prog (Instr.indexAt 33 t19 L_2x43) h_28 fun t45 h_29 =>
  RunV Try.prog (Instr.loadAt 3 t45) h_29 fun t46 h_30 =>
  Quiet h_30 fun S =>
  QV Try.prog S (Instr.loadAt 25 t1) fun t47 =>
  QV Try.prog S (Instr.loadAt 25 t1) fun t50 =>
  CallF Try.prog 11 #[t47, t46] h_30 fun t49 h_31 =>
  And (S h_31) (
  CallF Try.prog 13 #[t50, t46] h_31 fun t52 h_32 =>
  And (S h_32) (
  OpN Try.prog (Go.builtin Builtin.append #[33, 33] 33 #[false, false] #[t49, t52]) h_32 fun t53 h_33 =>
  And (S h_33) (
  QB Try.prog S (Go.builtin Builtin.len #[33] 3 #[false] #[t53]) fun t54 =>
  Loop1 (Value.int IntKind.i64 0) h_33 fun L_3js L_3x55 h_34 L_3n =>
  RunV Try.prog (binS BinOp.lss 3 (Operand.tmp 55) (Operand.tmp 54) L_3x55 t54) h_34 fun t56 h_35 =>
  CondP t56 (
  RunV Try.prog (Instr.indexAt 33 t53 L_3x55) h_35 fun t57 h_36 =>
  RunV Try.prog (Instr.loadAt 3 t57) h_36 fun t58 h_37 =>
  RunV Try.prog (Instr.lookup 46 t17 t58 false) h_37 fun t61 h_38 =>
  RunV Try.prog (Op.unary UnOp.not t61) h_38 fun t62 h_39 =>
  CondP t62 (
  K (Value.bool false) h_39) (
  RunV Try.prog (binS BinOp.add 3 (Operand.tmp 55) (Operand.const (Value.int IntKind.i64 1)) L_3x55 (Value.int IntKind.i64 1)) h_39 fun t63 h_40 =>
  L_3n t63 h_40)) (
  RunV Try.prog (binS BinOp.add 3 (Operand.tmp 43) (Operand.const (Value.int IntKind.i64 1)) L_2x43 (Value.int IntKind.i64 1)) h_35 fun t64 h_41 =>
  L_2n t64 h_41))))) (
  OpN Try.prog (Go.builtin Builtin.len #[46] 3 #[false] #[t17]) h_28 fun t66 h_42 =>
  OpN Try.prog (Go.builtin Builtin.len #[33] 3 #[false] #[t19]) h_42 fun t68 h_43 =>
  RunV Try.prog (binS BinOp.eql 3 (Operand.tmp 66) (Operand.tmp 68) t66 t68) h_43 fun t69 h_44 =>
  K t69 h_44)))))
def ann4 : Ann := { loops := [(22, [55]), (19, [43]), (13, [32]), (8, [22])], held := [(21, (.take 0 (.take 1 (.take 3 (.take 4 (.take 8 (.one 2 (.one 5 (.one 6 (.take 7 .nil))))))))))] }
theorem F4_eq (a0 : Value) (h : Heap) (K : Value → Heap → Prop) : F4 a0 h K = W Try.prog ann4 (bodyOf Try.f4) (bodyQ Try.prog Try.f4.results.toList K) (argsE [a0]) h := by kernel_rfl
theorem F4_wf : (wf Try.f4.ntmps ann4 (bodyOf Try.f4) && Nat.ble Try.f4.ntmps ghost && !memN (writes (bodyOf Try.f4)) ghost) = true := by kernel_rfl
theorem F4_b : Try.f4.body.isSome = true := by kernel_rfl
theorem F4_n : (Try.f4.name == "runtime.NumGoroutine") = false := by kernel_rfl
theorem R4 (args : Array Value) (w : World) : (callFunc 4 args).run Try.prog w = .ok (.enter 4 args) w := callFunc_run Try.func4 F4_b F4_n args w
theorem S4 {a0 : Value} {h : Heap} {K : Value → Heap → Prop} (H : F4 a0 h K) : CallF Try.prog 4 #[a0] h K :=
  callF_of_W mo Try.func4 F4_b F4_n F4_wf (args := [a0]) rfl (F4_eq a0 h K ▸ H)

/- replevin/replevinlaw07.NeedsFew -/
def F5 (a0 a1 : Value) (h : Heap) (K : Value → Heap → Prop) : Prop :=
  RunV Try.prog (Instr.box 25 a0) h fun t2 h_1 =>
  RunV Try.prog (Instr.box 48 a1) h_1 fun t3 h_2 =>
  CallF Try.prog 7 #[] h_2 fun t11 h_3 =>
  RunV Try.prog (Op.unary UnOp.not t11) h_3 fun t12 h_4 =>
  CondP t12 (
  K (Value.bool false) h_4) (
  RunV Try.prog (Instr.loadAt 25 t2) h_4 fun t13 h_5 =>
  CallF Try.prog 8 #[t13] h_5 fun t14 h_6 =>
  CondP t14 (
  K (Value.bool true) h_6) (
  Join1 (fun Jx5 h_7 =>
  RunV Try.prog (Instr.loadAt 25 t2) h_7 fun t25 h_8 =>
  CallF Try.prog 20 #[t25] h_8 fun t26 h_9 =>
  OpN Try.prog (Go.builtin Builtin.len #[33] 3 #[false] #[t26]) h_9 fun t27 h_10 =>
  Loop1 (Value.int IntKind.i64 0) h_10 fun Ljs Lx28 h_11 Ln =>
  RunV Try.prog (binS BinOp.lss 3 (Operand.tmp 28) (Operand.tmp 27) Lx28 t27) h_11 fun t29 h_12 =>
  CondP t29 (
  RunV Try.prog (Instr.indexAt 33 t26 Lx28) h_12 fun t30 h_13 =>
  RunV Try.prog (Instr.loadAt 3 t30) h_13 fun t31 h_14 =>
  RunV Try.prog (Instr.loadAt 25 Jx5) h_14 fun t33 h_15 =>
  CallF Try.prog 20 #[t33] h_15 fun t34 h_16 =>
  CallV Try.prog (Value.func (Fn.func 26) #[] #[]) #[t34, t31] h_16 fun t36 h_17 =>
  RunV Try.prog (Op.unary UnOp.not t36) h_17 fun t37 h_18 =>
  CondP t37 (
  K (Value.bool false) h_18) (
  RunV Try.prog (binS BinOp.add 3 (Operand.tmp 28) (Operand.const (Value.int IntKind.i64 1)) Lx28 (Value.int IntKind.i64 1)) h_18 fun t38 h_19 =>
  Ln t38 h_19)) (
  RunV Try.prog (Instr.loadAt 25 t2) h_12 fun t39 h_20 =>
  CallF Try.prog 18 #[t39] h_20 fun t40 h_21 =>
  OpN Try.prog (Go.builtin Builtin.len #[33] 3 #[false] #[t40]) h_21 fun t41 h_22 =>
  Loop1 (Value.int IntKind.i64 0) h_22 fun L_1js L_1x42 h_23 L_1n =>
  RunV Try.prog (binS BinOp.lss 3 (Operand.tmp 42) (Operand.tmp 41) L_1x42 t41) h_23 fun t43 h_24 =>
  CondP t43 (
  RunV Try.prog (Instr.indexAt 33 t40 L_1x42) h_24 fun t44 h_25 =>
  RunV Try.prog (Instr.loadAt 3 t44) h_25 fun t45 h_26 =>
  RunV Try.prog (Instr.loadAt 25 Jx5) h_26 fun t47 h_27 =>
  CallF Try.prog 18 #[t47] h_27 fun t48 h_28 =>
  CallV Try.prog (Value.func (Fn.func 26) #[] #[]) #[t48, t45] h_28 fun t50 h_29 =>
  RunV Try.prog (Op.unary UnOp.not t50) h_29 fun t51 h_30 =>
  CondP t51 (
  K (Value.bool false) h_30) (
  RunV Try.prog (binS BinOp.add 3 (Operand.tmp 42) (Operand.const (Value.int IntKind.i64 1)) L_1x42 (Value.int IntKind.i64 1)) h_30 fun t52 h_31 =>
  L_1n t52 h_31)) (
  Quiet h_24 fun S_1 =>
  QV Try.prog S_1 (Instr.loadAt 25 Jx5) fun t53 =>
  QV Try.prog S_1 (Instr.loadAt 25 t2) fun t56 =>
  CallF Try.prog 22 #[t53] h_24 fun t54 h_32 =>
  And (S_1 h_32) (
  QB Try.prog S_1 (Go.builtin Builtin.len #[33] 3 #[false] #[t54]) fun t55 =>
  CallF Try.prog 22 #[t56] h_32 fun t57 h_33 =>
  And (S_1 h_33) (
  QB Try.prog S_1 (Go.builtin Builtin.len #[33] 3 #[false] #[t57]) fun t58 =>
  QV Try.prog S_1 (binS BinOp.geq 3 (Operand.tmp 55) (Operand.tmp 58) t55 t58) fun t59 =>
  K t59 h_33))))) fun J =>
  Quiet h_6 fun S =>
  QV Try.prog S (Instr.fieldAt 25 t2 0) fun t15 =>
  QV Try.prog S (Instr.loadAt 22 t15) fun t16 =>
  QV Try.prog S (Instr.fieldAt 25 t2 1) fun t18 =>
  QV Try.prog S (Instr.loadAt 23 t18) fun t19 =>
  QV Try.prog S (Instr.loadAt 48 t3) fun t21 =>
  And (
  RunV Try.prog (Instr.buildSlice 23 0 #[]) h_6 fun t17 h_34 =>
  And (S h_34) (
  And (
  OpN Try.prog (Go.builtin Builtin.append #[23, 23] 23 #[false, false] #[t17, t19]) h_34 fun t20 h_35 =>
  And (S h_35) (
  And (
  RunV Try.prog (Instr.buildSlice 23 1 #[(0, t21)]) h_35 fun t22 h_36 =>
  And (S h_36) (
  And (
  OpN Try.prog (Go.builtin Builtin.append #[23, 23] 23 #[false, false] #[t20, t22]) h_36 fun t23 h_37 =>
  And (S h_37) (
  QV Try.prog S (Instr.build 25 #[(0, t16), (1, t23)]) fun t24 =>
  RunV Try.prog (Instr.alloc 25 true (.tuple #[])) h_37 fun t5 h_38 =>
  And (S h_38) (
  RunU Try.prog (Instr.storeAt 25 t5 t24) h_38 fun h_39 =>
  And (S h_39) (
  J t5 h_39)))) (
  RunV Try.prog (Instr.alloc 25 true (.tuple #[])) h_36 fun t5_1 h_40 =>
  And (S h_40) (
  OpN Try.prog (Go.builtin Builtin.append #[23, 23] 23 #[false, false] #[t20, t22]) h_40 fun t23_1 h_41 =>
  And (S h_41) (
  QV Try.prog S (Instr.build 25 #[(0, t16), (1, t23_1)]) fun t24_1 =>
  RunU Try.prog (Instr.storeAt 25 t5_1 t24_1) h_41 fun h_42 =>
  And (S h_42) (
  J t5_1 h_42)))))) (
  RunV Try.prog (Instr.alloc 25 true (.tuple #[])) h_35 fun t5_2 h_43 =>
  And (S h_43) (
  RunV Try.prog (Instr.buildSlice 23 1 #[(0, t21)]) h_43 fun t22_1 h_44 =>
  And (S h_44) (
  OpN Try.prog (Go.builtin Builtin.append #[23, 23] 23 #[false, false] #[t20, t22_1]) h_44 fun t23_2 h_45 =>
  And (S h_45) (
  QV Try.prog S (Instr.build 25 #[(0, t16), (1, t23_2)]) fun t24_2 =>
  RunU Try.prog (Instr.storeAt 25 t5_2 t24_2) h_45 fun h_46 =>
  And (S h_46) (
  J t5_2 h_46))))))) (And (
  RunV Try.prog (Instr.buildSlice 23 1 #[(0, t21)]) h_34 fun t22_2 h_47 =>
  And (S h_47) (
  And (
  OpN Try.prog (Go.builtin Builtin.append #[23, 23] 23 #[false, false] #[t17, t19]) h_47 fun t20_1 h_48 =>
  And (S h_48) (
  And (
  OpN Try.prog (Go.builtin Builtin.append #[23, 23] 23 #[false, false] #[t20_1, t22_2]) h_48 fun t23_3 h_49 =>
  And (S h_49) (
  QV Try.prog S (Instr.build 25 #[(0, t16), (1, t23_3)]) fun t24_3 =>
  RunV Try.prog (Instr.alloc 25 true (.tuple #[])) h_49 fun t5_3 h_50 =>
  And (S h_50) (
  RunU Try.prog (Instr.storeAt 25 t5_3 t24_3) h_50 fun h_51 =>
  And (S h_51) (
  J t5_3 h_51)))) (
  RunV Try.prog (Instr.alloc 25 true (.tuple #[])) h_48 fun t5_4 h_52 =>
  And (S h_52) (
  OpN Try.prog (Go.builtin Builtin.append #[23, 23] 23 #[false, false] #[t20_1, t22_2]) h_52 fun t23_4 h_53 =>
  And (S h_53) (
  QV Try.prog S (Instr.build 25 #[(0, t16), (1, t23_4)]) fun t24_4 =>
  RunU Try.prog (Instr.storeAt 25 t5_4 t24_4) h_53 fun h_54 =>
  And (S h_54) (
  J t5_4 h_54)))))) (
  RunV Try.prog (Instr.alloc 25 true (.tuple #[])) h_47 fun t5_5 h_55 =>
  And (S h_55) (
  OpN Try.prog (Go.builtin Builtin.append #[23, 23] 23 #[false, false] #[t17, t19]) h_55 fun t20_2 h_56 =>
  And (S h_56) (
  OpN Try.prog (Go.builtin Builtin.append #[23, 23] 23 #[false, false] #[t20_2, t22_2]) h_56 fun t23_5 h_57 =>
  And (S h_57) (
  QV Try.prog S (Instr.build 25 #[(0, t16), (1, t23_5)]) fun t24_5 =>
  RunU Try.prog (Instr.storeAt 25 t5_5 t24_5) h_57 fun h_58 =>
  And (S h_58) (
  J t5_5 h_58))))))) (
  RunV Try.prog (Instr.alloc 25 true (.tuple #[])) h_34 fun t5_6 h_59 =>
  And (S h_59) (
  And (
  OpN Try.prog (Go.builtin Builtin.append #[23, 23] 23 #[false, false] #[t17, t19]) h_59 fun t20_3 h_60 =>
  And (S h_60) (
  RunV Try.prog (Instr.buildSlice 23 1 #[(0, t21)]) h_60 fun t22_3 h_61 =>
  And (S h_61) (
  OpN Try.prog (Go.builtin Builtin.append #[23, 23] 23 #[false, false] #[t20_3, t22_3]) h_61 fun t23_6 h_62 =>
  And (S h_62) (
  QV Try.prog S (Instr.build 25 #[(0, t16), (1, t23_6)]) fun t24_6 =>
  RunU Try.prog (Instr.storeAt 25 t5_6 t24_6) h_62 fun h_63 =>
  And (S h_63) (
  J t5_6 h_63))))) (
  RunV Try.prog (Instr.buildSlice 23 1 #[(0, t21)]) h_59 fun t22_4 h_64 =>
  And (S h_64) (
  OpN Try.prog (Go.builtin Builtin.append #[23, 23] 23 #[false, false] #[t17, t19]) h_64 fun t20_4 h_65 =>
  And (S h_65) (
  OpN Try.prog (Go.builtin Builtin.append #[23, 23] 23 #[false, false] #[t20_4, t22_4]) h_65 fun t23_7 h_66 =>
  And (S h_66) (
  QV Try.prog S (Instr.build 25 #[(0, t16), (1, t23_7)]) fun t24_7 =>
  RunU Try.prog (Instr.storeAt 25 t5_6 t24_7) h_66 fun h_67 =>
  And (S h_67) (
  J t5_6 h_67)))))))))) (And (
  RunV Try.prog (Instr.buildSlice 23 1 #[(0, t21)]) h_6 fun t22_5 h_68 =>
  And (S h_68) (
  And (
  RunV Try.prog (Instr.buildSlice 23 0 #[]) h_68 fun t17_1 h_69 =>
  And (S h_69) (
  And (
  OpN Try.prog (Go.builtin Builtin.append #[23, 23] 23 #[false, false] #[t17_1, t19]) h_69 fun t20_5 h_70 =>
  And (S h_70) (
  And (
  OpN Try.prog (Go.builtin Builtin.append #[23, 23] 23 #[false, false] #[t20_5, t22_5]) h_70 fun t23_8 h_71 =>
  And (S h_71) (
  QV Try.prog S (Instr.build 25 #[(0, t16), (1, t23_8)]) fun t24_8 =>
  RunV Try.prog (Instr.alloc 25 true (.tuple #[])) h_71 fun t5_7 h_72 =>
  And (S h_72) (
  RunU Try.prog (Instr.storeAt 25 t5_7 t24_8) h_72 fun h_73 =>
  And (S h_73) (
  J t5_7 h_73)))) (
  RunV Try.prog (Instr.alloc 25 true (.tuple #[])) h_70 fun t5_8 h_74 =>
  And (S h_74) (
  OpN Try.prog (Go.builtin Builtin.append #[23, 23] 23 #[false, false] #[t20_5, t22_5]) h_74 fun t23_9 h_75 =>
  And (S h_75) (
  QV Try.prog S (Instr.build 25 #[(0, t16), (1, t23_9)]) fun t24_9 =>
  RunU Try.prog (Instr.storeAt 25 t5_8 t24_9) h_75 fun h_76 =>
  And (S h_76) (
  J t5_8 h_76)))))) (
  RunV Try.prog (Instr.alloc 25 true (.tuple #[])) h_69 fun t5_9 h_77 =>
  And (S h_77) (
  OpN Try.prog (Go.builtin Builtin.append #[23, 23] 23 #[false, false] #[t17_1, t19]) h_77 fun t20_6 h_78 =>
  And (S h_78) (
  OpN Try.prog (Go.builtin Builtin.append #[23, 23] 23 #[false, false] #[t20_6, t22_5]) h_78 fun t23_10 h_79 =>
  And (S h_79) (
  QV Try.prog S (Instr.build 25 #[(0, t16), (1, t23_10)]) fun t24_10 =>
  RunU Try.prog (Instr.storeAt 25 t5_9 t24_10) h_79 fun h_80 =>
  And (S h_80) (
  J t5_9 h_80))))))) (
  RunV Try.prog (Instr.alloc 25 true (.tuple #[])) h_68 fun t5_10 h_81 =>
  And (S h_81) (
  RunV Try.prog (Instr.buildSlice 23 0 #[]) h_81 fun t17_2 h_82 =>
  And (S h_82) (
  OpN Try.prog (Go.builtin Builtin.append #[23, 23] 23 #[false, false] #[t17_2, t19]) h_82 fun t20_7 h_83 =>
  And (S h_83) (
  OpN Try.prog (Go.builtin Builtin.append #[23, 23] 23 #[false, false] #[t20_7, t22_5]) h_83 fun t23_11 h_84 =>
  And (S h_84) (
  QV Try.prog S (Instr.build 25 #[(0, t16), (1, t23_11)]) fun t24_11 =>
  RunU Try.prog (Instr.storeAt 25 t5_10 t24_11) h_84 fun h_85 =>
  And (S h_85) (
  J t5_10 h_85)))))))) (
  RunV Try.prog (Instr.alloc 25 true (.tuple #[])) h_6 fun t5_11 h_86 =>
  And (S h_86) (
  And (
  RunV Try.prog (Instr.buildSlice 23 0 #[]) h_86 fun t17_3 h_87 =>
  And (S h_87) (
  And (
  OpN Try.prog (Go.builtin Builtin.append #[23, 23] 23 #[false, false] #[t17_3, t19]) h_87 fun t20_8 h_88 =>
  And (S h_88) (
  RunV Try.prog (Instr.buildSlice 23 1 #[(0, t21)]) h_88 fun t22_6 h_89 =>
  And (S h_89) (
  OpN Try.prog (Go.builtin Builtin.append #[23, 23] 23 #[false, false] #[t20_8, t22_6]) h_89 fun t23_12 h_90 =>
  And (S h_90) (
  QV Try.prog S (Instr.build 25 #[(0, t16), (1, t23_12)]) fun t24_12 =>
  RunU Try.prog (Instr.storeAt 25 t5_11 t24_12) h_90 fun h_91 =>
  And (S h_91) (
  J t5_11 h_91))))) (
  RunV Try.prog (Instr.buildSlice 23 1 #[(0, t21)]) h_87 fun t22_7 h_92 =>
  And (S h_92) (
  OpN Try.prog (Go.builtin Builtin.append #[23, 23] 23 #[false, false] #[t17_3, t19]) h_92 fun t20_9 h_93 =>
  And (S h_93) (
  OpN Try.prog (Go.builtin Builtin.append #[23, 23] 23 #[false, false] #[t20_9, t22_7]) h_93 fun t23_13 h_94 =>
  And (S h_94) (
  QV Try.prog S (Instr.build 25 #[(0, t16), (1, t23_13)]) fun t24_13 =>
  RunU Try.prog (Instr.storeAt 25 t5_11 t24_13) h_94 fun h_95 =>
  And (S h_95) (
  J t5_11 h_95))))))) (
  RunV Try.prog (Instr.buildSlice 23 1 #[(0, t21)]) h_86 fun t22_8 h_96 =>
  And (S h_96) (
  RunV Try.prog (Instr.buildSlice 23 0 #[]) h_96 fun t17_4 h_97 =>
  And (S h_97) (
  OpN Try.prog (Go.builtin Builtin.append #[23, 23] 23 #[false, false] #[t17_4, t19]) h_97 fun t20_10 h_98 =>
  And (S h_98) (
  OpN Try.prog (Go.builtin Builtin.append #[23, 23] 23 #[false, false] #[t20_10, t22_8]) h_98 fun t23_14 h_99 =>
  And (S h_99) (
  QV Try.prog S (Instr.build 25 #[(0, t16), (1, t23_14)]) fun t24_14 =>
  RunU Try.prog (Instr.storeAt 25 t5_11 t24_14) h_99 fun h_100 =>
  And (S h_100) (
  J t5_11 h_100)))))))))))
def ann5 : Ann := { loops := [(14, [42]), (8, [28])], held := [(5, (.take 0 (.take 1 (.take 3 (.take 4 (.take 6 (.three 2 (.three 5 (.two 7 (.two 8 (.take 9 (.one 10 (.one 11 .nil))) 10 (.one 8 (.take 9 (.one 11 .nil)))) 10 (.one 7 (.one 8 (.take 9 (.one 11 .nil))))) 7 (.two 5 (.two 8 (.take 9 (.one 10 (.one 11 .nil))) 10 (.one 8 (.take 9 (.one 11 .nil)))) 10 (.one 5 (.one 8 (.take 9 (.one 11 .nil))))) 10 (.two 5 (.one 7 (.one 8 (.take 9 (.one 11 .nil)))) 7 (.one 5 (.one 8 (.take 9 (.one 11 .nil)))))) 7 (.two 2 (.two 5 (.two 8 (.take 9 (.one 10 (.one 11 .nil))) 10 (.one 8 (.take 9 (.one 11 .nil)))) 10 (.one 5 (.one 8 (.take 9 (.one 11 .nil))))) 10 (.one 2 (.one 5 (.one 8 (.take 9 (.one 11 .nil)))))) 10 (.two 2 (.two 5 (.one 7 (.one 8 (.take 9 (.one 11 .nil)))) 7 (.one 5 (.one 8 (.take 9 (.one 11 .nil))))) 7 (.one 2 (.one 5 (.one 8 (.take 9 (.one 11 .nil))))))))))))), (19, (.take 0 (.take 3 (.one 1 (.take 2 (.one 4 (.take 5 (.take 6 (.take 7 .nil)))))))))] }
theorem F5_eq (a0 a1 : Value) (h : Heap) (K : Value → Heap → Prop) : F5 a0 a1 h K = W Try.prog ann5 (bodyOf Try.f5) (bodyQ Try.prog Try.f5.results.toList K) (argsE [a0, a1]) h := by kernel_rfl
theorem F5_wf : (wf Try.f5.ntmps ann5 (bodyOf Try.f5) && Nat.ble Try.f5.ntmps ghost && !memN (writes (bodyOf Try.f5)) ghost) = true := by kernel_rfl
theorem F5_b : Try.f5.body.isSome = true := by kernel_rfl
theorem F5_n : (Try.f5.name == "runtime.NumGoroutine") = false := by kernel_rfl
theorem R5 (args : Array Value) (w : World) : (callFunc 5 args).run Try.prog w = .ok (.enter 5 args) w := callFunc_run Try.func5 F5_b F5_n args w
theorem S5 {a0 a1 : Value} {h : Heap} {K : Value → Heap → Prop} (H : F5 a0 a1 h K) : CallF Try.prog 5 #[a0, a1] h K :=
  callF_of_W mo Try.func5 F5_b F5_n F5_wf (args := [a0, a1]) rfl (F5_eq a0 a1 h K ▸ H)

/- replevin/replevinlaw07.awake -/
def F7 (h : Heap) (K : Value → Heap → Prop) : Prop :=
  RunV Try.prog (Instr.build 66 #[(3, (Value.bool true)), (5, (Value.int IntKind.i64 (-1)))]) h fun t3 h_1 =>
  RunV Try.prog (Instr.build 66 #[(3, (Value.bool true)), (5, (Value.int IntKind.i64 3))]) h_1 fun t4 h_2 =>
  RunV Try.prog (Instr.build 66 #[(5, (Value.int IntKind.i64 (-1)))]) h_2 fun t5 h_3 =>
  RunV Try.prog (Instr.buildSlice 22 3 #[(0, t3), (1, t4), (2, t5)]) h_3 fun t6 h_4 =>
  RunV Try.prog (Instr.build 48 #[(0, (Value.int IntKind.i64 1)), (1, (Value.int IntKind.i64 0)), (2, (Value.int IntKind.i64 1)), (3, (Value.int IntKind.i64 4))]) h_4 fun t7 h_5 =>
  RunV Try.prog (Instr.build 48 #[(0, (Value.int IntKind.i64 2)), (1, (Value.int IntKind.i64 1)), (2, (Value.int IntKind.i64 2))]) h_5 fun t8 h_6 =>
  RunV Try.prog (Instr.build 48 #[(0, (Value.int IntKind.i64 4)), (1, (Value.int IntKind.i64 2)), (2, (Value.int IntKind.i64 0))]) h_6 fun t9 h_7 =>
  RunV Try.prog (Instr.buildSlice 23 3 #[(0, t7), (1, t8), (2, t9)]) h_7 fun t10 h_8 =>
  RunV Try.prog (Instr.build 25 #[(0, t6), (1, t10)]) h_8 fun t11 h_9 =>
  RunV Try.prog (Instr.alloc 25 true (.tuple #[])) h_9 fun t1 h_10 =>
  RunU Try.prog (Instr.storeAt 25 t1 t11) h_10 fun h_11 =>
  RunV Try.prog (Instr.loadAt 25 t1) h_11 fun t12 h_12 =>
  CallF Try.prog 16 #[t12] h_12 fun t13 h_13 =>
  OpN Try.prog (Go.builtin Builtin.len #[38] 3 #[false] #[t13]) h_13 fun t15 h_15 =>
  RunV Try.prog (binS BinOp.eql 3 (Operand.tmp 15) (Operand.const (Value.int IntKind.i64 3)) t15 (Value.int IntKind.i64 3)) h_15 fun t16 h_16 =>
  GuardP t16 true (
  RunV Try.prog (Instr.indexAt 38 t13 (Value.int IntKind.i64 1)) h_16 fun t19 h_17 =>
  RunV Try.prog (Instr.loadAt 33 t19) h_17 fun t20 h_18 =>
  RunV Try.prog (Instr.buildSlice 33 2 #[(0, (Value.int IntKind.i64 0)), (1, (Value.int IntKind.i64 2))]) h_18 fun t21 h_19 =>
  CallF Try.prog 10 #[t20, t21] h_19 fun t22 h_20 =>
  GuardP t22 true (
  RunV Try.prog (Instr.loadAt 25 t1) h_20 fun t25 h_21 =>
  CallF Try.prog 11 #[t25, (Value.int IntKind.i64 1)] h_21 fun t26 h_22 =>
  RunV Try.prog (Instr.buildSlice 33 1 #[(0, (Value.int IntKind.i64 0))]) h_22 fun t27 h_23 =>
  CallF Try.prog 10 #[t26, t27] h_23 fun t28 h_24 =>
  GuardP t28 true (
  RunV Try.prog (Instr.loadAt 25 t1) h_24 fun t31 h_25 =>
  CallF Try.prog 13 #[t31, (Value.int IntKind.i64 1)] h_25 fun t32 h_26 =>
  RunV Try.prog (Instr.buildSlice 33 1 #[(0, (Value.int IntKind.i64 2))]) h_26 fun t33 h_27 =>
  CallF Try.prog 10 #[t32, t33] h_27 fun t34 h_28 =>
  GuardP t34 true (
  RunV Try.prog (Instr.loadAt 25 t1) h_28 fun t37 h_29 =>
  CallF Try.prog 18 #[t37] h_29 fun t38 h_30 =>
  RunV Try.prog (Instr.buildSlice 33 2 #[(0, (Value.int IntKind.i64 1)), (1, (Value.int IntKind.i64 2))]) h_30 fun t39 h_31 =>
  CallF Try.prog 10 #[t38, t39] h_31 fun t40 h_32 =>
  GuardP t40 true (
  RunV Try.prog (Instr.loadAt 25 t1) h_32 fun t43 h_33 =>
  CallF Try.prog 20 #[t43] h_33 fun t44 h_34 =>
  RunV Try.prog (Instr.buildSlice 33 3 #[(0, (Value.int IntKind.i64 0)), (1, (Value.int IntKind.i64 1)), (2, (Value.int IntKind.i64 2))]) h_34 fun t45 h_35 =>
  CallF Try.prog 10 #[t44, t45] h_35 fun t46 h_36 =>
  GuardP t46 true (
  RunV Try.prog (Instr.loadAt 25 t1) h_36 fun t49 h_37 =>
  CallF Try.prog 22 #[t49] h_37 fun t50 h_38 =>
  RunV Try.prog (Instr.buildSlice 33 2 #[(0, (Value.int IntKind.i64 0)), (1, (Value.int IntKind.i64 2))]) h_38 fun t51 h_39 =>
  CallF Try.prog 10 #[t50, t51] h_39 fun t52 h_40 =>
  GuardP t52 true (
  RunV Try.prog (Instr.loadAt 25 t1) h_40 fun t55 h_41 =>
  CallF Try.prog 24 #[t55, (Value.int IntKind.i64 1)] h_41 fun t56 h_42 =>
  RunV Try.prog (binS BinOp.eql 3 (Operand.tmp 56) (Operand.const (Value.int IntKind.i64 4)) t56 (Value.int IntKind.i64 4)) h_42 fun t57 h_43 =>
  GuardP t57 true (
  RunV Try.prog (Instr.loadAt 25 t1) h_43 fun t60 h_44 =>
  CallF Try.prog 24 #[t60, (Value.int IntKind.i64 0)] h_44 fun t61 h_45 =>
  RunV Try.prog (binS BinOp.eql 3 (Operand.tmp 61) (Operand.const (Value.int IntKind.i64 0)) t61 (Value.int IntKind.i64 0)) h_45 fun t62 h_46 =>
  K t62 h_46) (
  K (Value.bool false) h_43)) (
  K (Value.bool false) h_40)) (
  K (Value.bool false) h_36)) (
  K (Value.bool false) h_32)) (
  K (Value.bool false) h_28)) (
  K (Value.bool false) h_24)) (
  K (Value.bool false) h_20)) (
  K (Value.bool false) h_16)
def ann7 : Ann := { loops := [], held := [] }
theorem F7_eq (h : Heap) (K : Value → Heap → Prop) : F7  h K = W Try.prog ann7 (bodyOf Try.f7) (bodyQ Try.prog Try.f7.results.toList K) (argsE []) h := by kernel_rfl
theorem F7_wf : (wf Try.f7.ntmps ann7 (bodyOf Try.f7) && Nat.ble Try.f7.ntmps ghost && !memN (writes (bodyOf Try.f7)) ghost) = true := by kernel_rfl
theorem F7_b : Try.f7.body.isSome = true := by kernel_rfl
theorem F7_n : (Try.f7.name == "runtime.NumGoroutine") = false := by kernel_rfl
theorem R7 (args : Array Value) (w : World) : (callFunc 7 args).run Try.prog w = .ok (.enter 7 args) w := callFunc_run Try.func7 F7_b F7_n args w
theorem S7 {h : Heap} {K : Value → Heap → Prop} (H : F7 h K) : CallF Try.prog 7 #[] h K :=
  callF_of_W mo Try.func7 F7_b F7_n F7_wf (args := []) rfl (F7_eq h K ▸ H)

/- replevin/replevinlaw07.large -/
def F8 (a0 : Value) (h : Heap) (K : Value → Heap → Prop) : Prop :=
  RunV Try.prog (Instr.box 25 a0) h fun t1 h_1 =>
  RunV Try.prog (Instr.fieldAt 25 t1 0) h_1 fun t3 h_3 =>
  RunV Try.prog (Instr.loadAt 22 t3) h_3 fun t4 h_4 =>
  OpN Try.prog (Go.builtin Builtin.len #[22] 3 #[false] #[t4]) h_4 fun t5 h_5 =>
  RunV Try.prog (binS BinOp.gtr 3 (Operand.tmp 5) (Operand.const (Value.int IntKind.i64 20)) t5 (Value.int IntKind.i64 20)) h_5 fun t6 h_6 =>
  GuardP t6 false (
  RunV Try.prog (Instr.fieldAt 25 t1 1) h_6 fun t8 h_7 =>
  RunV Try.prog (Instr.loadAt 23 t8) h_7 fun t9 h_8 =>
  OpN Try.prog (Go.builtin Builtin.len #[23] 3 #[false] #[t9]) h_8 fun t10 h_9 =>
  RunV Try.prog (binS BinOp.gtr 3 (Operand.tmp 10) (Operand.const (Value.int IntKind.i64 150)) t10 (Value.int IntKind.i64 150)) h_9 fun t11 h_10 =>
  K t11 h_10) (
  K (Value.bool true) h_6)
def ann8 : Ann := { loops := [], held := [] }
theorem F8_eq (a0 : Value) (h : Heap) (K : Value → Heap → Prop) : F8 a0 h K = W Try.prog ann8 (bodyOf Try.f8) (bodyQ Try.prog Try.f8.results.toList K) (argsE [a0]) h := by kernel_rfl
theorem F8_wf : (wf Try.f8.ntmps ann8 (bodyOf Try.f8) && Nat.ble Try.f8.ntmps ghost && !memN (writes (bodyOf Try.f8)) ghost) = true := by kernel_rfl
theorem F8_b : Try.f8.body.isSome = true := by kernel_rfl
theorem F8_n : (Try.f8.name == "runtime.NumGoroutine") = false := by kernel_rfl
theorem R8 (args : Array Value) (w : World) : (callFunc 8 args).run Try.prog w = .ok (.enter 8 args) w := callFunc_run Try.func8 F8_b F8_n args w
theorem S8 {a0 : Value} {h : Heap} {K : Value → Heap → Prop} (H : F8 a0 h K) : CallF Try.prog 8 #[a0] h K :=
  callF_of_W mo Try.func8 F8_b F8_n F8_wf (args := [a0]) rfl (F8_eq a0 h K ▸ H)

/- replevin/replevinlaw05.Own -/
def F9 (a0 : Value) (h : Heap) (K : Value → Heap → Prop) : Prop :=
  RunV Try.prog (Instr.box 25 a0) h fun t1 h_1 =>
  RunV Try.prog (Instr.alloc 30 true (.tuple #[])) h_1 fun t2 h_2 =>
  RunV Try.prog (Instr.fieldAt 25 t1 0) h_2 fun t5 h_3 =>
  RunV Try.prog (Instr.loadAt 22 t5) h_3 fun t6 h_4 =>
  RunV Try.prog (Instr.build 30 #[(0, t6)]) h_4 fun t7 h_5 =>
  RunV Try.prog (Instr.alloc 30 true (.tuple #[])) h_5 fun t3 h_6 =>
  RunU Try.prog (Instr.storeAt 30 t3 t7) h_6 fun h_7 =>
  RunV Try.prog (Instr.fieldAt 25 t1 1) h_7 fun t8 h_8 =>
  RunV Try.prog (Instr.loadAt 23 t8) h_8 fun t9 h_9 =>
  OpN Try.prog (Go.builtin Builtin.len #[23] 3 #[false] #[t9]) h_9 fun t10 h_10 =>
  Loop1 (Value.int IntKind.i64 0) h_10 fun Ljs Lx11 h_11 Ln =>
  RunV Try.prog (binS BinOp.lss 3 (Operand.tmp 11) (Operand.tmp 10) Lx11 t10) h_11 fun t12 h_12 =>
  CondP t12 (
  Join0 (fun  h_13 =>
  RunV Try.prog (binS BinOp.add 3 (Operand.tmp 11) (Operand.const (Value.int IntKind.i64 1)) Lx11 (Value.int IntKind.i64 1)) h_13 fun t24 h_14 =>
  Ln t24 h_14) fun J =>
  Quiet h_12 fun S =>
  QV Try.prog S (Instr.fieldAt 30 t3 1) fun t14 =>
  QV Try.prog S (Instr.fieldAt 25 t1 1) fun t16 =>
  QV Try.prog S (Instr.loadAt 23 t16) fun t17 =>
  QV Try.prog S (Instr.indexAt 23 t17 Lx11) fun t19 =>
  QV Try.prog S (Instr.loadAt 48 t19) fun t20 =>
  And (
  RunV Try.prog (Instr.loadAt 28 t14) h_12 fun t15 h_15 =>
  And (S h_15) (
  RunV Try.prog (Instr.buildSlice 28 1 #[(0, t20)]) h_15 fun t21 h_16 =>
  And (S h_16) (
  OpN Try.prog (Go.builtin Builtin.append #[28, 28] 28 #[false, false] #[t15, t21]) h_16 fun t22 h_17 =>
  And (S h_17) (
  QV Try.prog S (Instr.fieldAt 30 t3 1) fun t23 =>
  RunU Try.prog (Instr.storeAt 28 t23 t22) h_17 fun h_18 =>
  And (S h_18) (
  J h_18))))) (
  RunV Try.prog (Instr.buildSlice 28 1 #[(0, t20)]) h_12 fun t21_1 h_19 =>
  And (S h_19) (
  RunV Try.prog (Instr.loadAt 28 t14) h_19 fun t15_1 h_20 =>
  And (S h_20) (
  OpN Try.prog (Go.builtin Builtin.append #[28, 28] 28 #[false, false] #[t15_1, t21_1]) h_20 fun t22_1 h_21 =>
  And (S h_21) (
  QV Try.prog S (Instr.fieldAt 30 t3 1) fun t23_1 =>
  RunU Try.prog (Instr.storeAt 28 t23_1 t22_1) h_21 fun h_22 =>
  And (S h_22) (
  J h_22)))))) (
  RunV Try.prog (Instr.loadAt 30 t3) h_12 fun t25 h_23 =>
  RunU Try.prog (Instr.storeAt 30 t2 t25) h_23 fun h_24 =>
  QV Try.prog (fun hr => hr = h_24) (Instr.loadAt 30 t2) fun r =>
  K r h_24)
def ann9 : Ann := { loops := [(3, [11])], held := [(5, (.take 0 (.take 2 (.take 3 (.take 4 (.take 5 (.take 6 (.two 1 (.one 7 (.one 8 (.take 9 (.one 10 .nil)))) 7 (.one 1 (.one 8 (.take 9 (.one 10 .nil))))))))))))] }
theorem F9_eq (a0 : Value) (h : Heap) (K : Value → Heap → Prop) : F9 a0 h K = W Try.prog ann9 (bodyOf Try.f9) (bodyQ Try.prog Try.f9.results.toList K) (argsE [a0]) h := by kernel_rfl
theorem F9_wf : (wf Try.f9.ntmps ann9 (bodyOf Try.f9) && Nat.ble Try.f9.ntmps ghost && !memN (writes (bodyOf Try.f9)) ghost) = true := by kernel_rfl
theorem F9_b : Try.f9.body.isSome = true := by kernel_rfl
theorem F9_n : (Try.f9.name == "runtime.NumGoroutine") = false := by kernel_rfl
theorem R9 (args : Array Value) (w : World) : (callFunc 9 args).run Try.prog w = .ok (.enter 9 args) w := callFunc_run Try.func9 F9_b F9_n args w
theorem S9 {a0 : Value} {h : Heap} {K : Value → Heap → Prop} (H : F9 a0 h K) : CallF Try.prog 9 #[a0] h K :=
  callF_of_W mo Try.func9 F9_b F9_n F9_wf (args := [a0]) rfl (F9_eq a0 h K ▸ H)

/- replevin/replevinref06.Same -/
def F10 (a0 a1 : Value) (h : Heap) (K : Value → Heap → Prop) : Prop :=
  OpN Try.prog (Go.builtin Builtin.len #[33] 3 #[false] #[a0]) h fun t7 h_1 =>
  OpN Try.prog (Go.builtin Builtin.len #[33] 3 #[false] #[a1]) h_1 fun t9 h_2 =>
  RunV Try.prog (binS BinOp.neq 3 (Operand.tmp 7) (Operand.tmp 9) t7 t9) h_2 fun t10 h_3 =>
  CondP t10 (
  K (Value.bool false) h_3) (
  Loop1 (Value.int IntKind.i64 0) h_3 fun Ljs Lx5 h_4 Ln =>
  OpN Try.prog (Go.builtin Builtin.len #[33] 3 #[false] #[a0]) h_4 fun t13 h_5 =>
  RunV Try.prog (binS BinOp.lss 3 (Operand.tmp 11) (Operand.tmp 13) Lx5 t13) h_5 fun t14 h_6 =>
  CondP t14 (
  Quiet h_6 fun C =>
  QV Try.prog C (Instr.indexAt 33 a0 Lx5) fun t19 =>
  QV Try.prog C (Instr.loadAt 3 t19) fun t20 =>
  QV Try.prog C (Instr.indexAt 33 a1 Lx5) fun t23 =>
  QV Try.prog C (Instr.loadAt 3 t23) fun t24 =>
  QV Try.prog C (binS BinOp.neq 3 (Operand.tmp 20) (Operand.tmp 24) t20 t24) fun t25 =>
  QEnd C fun h_7 =>
  CondP t25 (
  K (Value.bool false) h_7) (
  RunV Try.prog (binS BinOp.add 3 (Operand.tmp 15) (Operand.const (Value.int IntKind.i64 1)) Lx5 (Value.int IntKind.i64 1)) h_7 fun t16 h_8 =>
  Ln t16 h_8)) (
  K (Value.bool true) h_6))
def ann10 : Ann := { loops := [(4, [5])], held := [] }
theorem F10_eq (a0 a1 : Value) (h : Heap) (K : Value → Heap → Prop) : F10 a0 a1 h K = W Try.prog ann10 (bodyOf Try.f10) (bodyQ Try.prog Try.f10.results.toList K) (argsE [a0, a1]) h := by kernel_rfl
theorem F10_wf : (wf Try.f10.ntmps ann10 (bodyOf Try.f10) && Nat.ble Try.f10.ntmps ghost && !memN (writes (bodyOf Try.f10)) ghost) = true := by kernel_rfl
theorem F10_b : Try.f10.body.isSome = true := by kernel_rfl
theorem F10_n : (Try.f10.name == "runtime.NumGoroutine") = false := by kernel_rfl
theorem R10 (args : Array Value) (w : World) : (callFunc 10 args).run Try.prog w = .ok (.enter 10 args) w := callFunc_run Try.func10 F10_b F10_n args w
theorem S10 {a0 a1 : Value} {h : Heap} {K : Value → Heap → Prop} (H : F10 a0 a1 h K) : CallF Try.prog 10 #[a0, a1] h K :=
  callF_of_W mo Try.func10 F10_b F10_n F10_wf (args := [a0, a1]) rfl (F10_eq a0 a1 h K ▸ H)

/- replevin/needs.Blocks -/
def F11 (a0 a1 : Value) (h : Heap) (K : Value → Heap → Prop) : Prop :=
  RunV Try.prog (Instr.box 25 a0) h fun t2 h_1 =>
  RunV Try.prog (Instr.box 3 a1) h_1 fun t3 h_2 =>
  RunV Try.prog (Instr.loadAt 25 t2) h_2 fun t5 h_3 =>
  CallF Try.prog 40 #[t5, (Value.func (Fn.func 41) #[] #[t3])] h_3 fun t7 h_4 =>
  K t7 h_4
def ann11 : Ann := { loops := [], held := [] }
theorem F11_eq (a0 a1 : Value) (h : Heap) (K : Value → Heap → Prop) : F11 a0 a1 h K = W Try.prog ann11 (bodyOf Try.f11) (bodyQ Try.prog Try.f11.results.toList K) (argsE [a0, a1]) h := by kernel_rfl
theorem F11_wf : (wf Try.f11.ntmps ann11 (bodyOf Try.f11) && Nat.ble Try.f11.ntmps ghost && !memN (writes (bodyOf Try.f11)) ghost) = true := by kernel_rfl
theorem F11_b : Try.f11.body.isSome = true := by kernel_rfl
theorem F11_n : (Try.f11.name == "runtime.NumGoroutine") = false := by kernel_rfl
theorem R11 (args : Array Value) (w : World) : (callFunc 11 args).run Try.prog w = .ok (.enter 11 args) w := callFunc_run Try.func11 F11_b F11_n args w
theorem S11 {a0 a1 : Value} {h : Heap} {K : Value → Heap → Prop} (H : F11 a0 a1 h K) : CallF Try.prog 11 #[a0, a1] h K :=
  callF_of_W mo Try.func11 F11_b F11_n F11_wf (args := [a0, a1]) rfl (F11_eq a0 a1 h K ▸ H)

/- replevin/replevinref07.Blocks -/
def F12 (a0 a1 : Value) (h : Heap) (K : Value → Heap → Prop) : Prop :=
  RunV Try.prog (Instr.box 30 a0) h fun t2 h_1 =>
  RunV Try.prog (Instr.buildSlice 33 0 #[]) h_1 fun t7 h_2 =>
  Loop2 t7 (Value.int IntKind.i64 0) h_2 fun Ljs Lx5 Lx6 h_3 Ln =>
  Join1 (fun Jx23 h_4 =>
  CondP Jx23 (
  Join1 (fun J_1x5 h_5 =>
  RunV Try.prog (binS BinOp.add 3 (Operand.tmp 24) (Operand.const (Value.int IntKind.i64 1)) Lx6 (Value.int IntKind.i64 1)) h_5 fun t25 h_6 =>
  Ln J_1x5 t25 h_6) fun J_1 =>
  Join1 (fun J_3x35 h_8 =>
  CondP J_3x35 (
  RunV Try.prog (Instr.buildSlice 33 1 #[(0, Lx6)]) h_8 fun t38 h_10 =>
  OpN Try.prog (Go.builtin Builtin.append #[33, 33] 33 #[false, false] #[Lx5, t38]) h_10 fun t39 h_11 =>
  J_1 t39 h_11) (
  J_1 Lx5 h_8)) fun J_3 =>
  RunV Try.prog (Instr.loadAt 30 t2) h_4 fun t26 h_12 =>
  CallF Try.prog 42 #[t26, (Value.int IntKind.i64 1), Lx6, a1] h_12 fun t29 h_13 =>
  GuardP t29 false (
  RunV Try.prog (Instr.loadAt 30 t2) h_13 fun t31 h_14 =>
  CallF Try.prog 42 #[t31, (Value.int IntKind.i64 5), Lx6, a1] h_14 fun t34 h_15 =>
  J_3 t34 h_15) (
  J_3 (Value.bool true) h_13)) (
  K Lx5 h_4)) fun J =>
  RunV Try.prog (Instr.fieldAt 30 t2 0) h_3 fun t9 h_16 =>
  RunV Try.prog (Instr.loadAt 22 t9) h_16 fun t10 h_17 =>
  OpN Try.prog (Go.builtin Builtin.len #[22] 3 #[false] #[t10]) h_17 fun t11 h_18 =>
  RunV Try.prog (binS BinOp.lss 3 (Operand.tmp 8) (Operand.tmp 11) Lx6 t11) h_18 fun t12 h_19 =>
  GuardP t12 true (
  RunV Try.prog (binS BinOp.geq 3 (Operand.tmp 14) (Operand.const (Value.int IntKind.i64 0)) a1 (Value.int IntKind.i64 0)) h_19 fun t15 h_20 =>
  GuardP t15 true (
  RunV Try.prog (Instr.fieldAt 30 t2 0) h_20 fun t19 h_21 =>
  RunV Try.prog (Instr.loadAt 22 t19) h_21 fun t20 h_22 =>
  OpN Try.prog (Go.builtin Builtin.len #[22] 3 #[false] #[t20]) h_22 fun t21 h_23 =>
  RunV Try.prog (binS BinOp.lss 3 (Operand.tmp 18) (Operand.tmp 21) a1 t21) h_23 fun t22 h_24 =>
  J t22 h_24) (
  J (Value.bool false) h_20)) (
  J (Value.bool false) h_19)
def ann12 : Ann := { loops := [(3, [5, 6])], held := [] }
theorem F12_eq (a0 a1 : Value) (h : Heap) (K : Value → Heap → Prop) : F12 a0 a1 h K = W Try.prog ann12 (bodyOf Try.f12) (bodyQ Try.prog Try.f12.results.toList K) (argsE [a0, a1]) h := by kernel_rfl
theorem F12_wf : (wf Try.f12.ntmps ann12 (bodyOf Try.f12) && Nat.ble Try.f12.ntmps ghost && !memN (writes (bodyOf Try.f12)) ghost) = true := by kernel_rfl
theorem F12_b : Try.f12.body.isSome = true := by kernel_rfl
theorem F12_n : (Try.f12.name == "runtime.NumGoroutine") = false := by kernel_rfl
theorem R12 (args : Array Value) (w : World) : (callFunc 12 args).run Try.prog w = .ok (.enter 12 args) w := callFunc_run Try.func12 F12_b F12_n args w
theorem S12 {a0 a1 : Value} {h : Heap} {K : Value → Heap → Prop} (H : F12 a0 a1 h K) : CallF Try.prog 12 #[a0, a1] h K :=
  callF_of_W mo Try.func12 F12_b F12_n F12_wf (args := [a0, a1]) rfl (F12_eq a0 a1 h K ▸ H)

/- replevin/needs.Calls -/
def F13 (a0 a1 : Value) (h : Heap) (K : Value → Heap → Prop) : Prop :=
  RunV Try.prog (Instr.box 25 a0) h fun t2 h_1 =>
  RunV Try.prog (Instr.box 3 a1) h_1 fun t3 h_2 =>
  RunV Try.prog (Instr.loadAt 25 t2) h_2 fun t5 h_3 =>
  CallF Try.prog 40 #[t5, (Value.func (Fn.func 43) #[] #[t3])] h_3 fun t7 h_4 =>
  K t7 h_4
def ann13 : Ann := { loops := [], held := [] }
theorem F13_eq (a0 a1 : Value) (h : Heap) (K : Value → Heap → Prop) : F13 a0 a1 h K = W Try.prog ann13 (bodyOf Try.f13) (bodyQ Try.prog Try.f13.results.toList K) (argsE [a0, a1]) h := by kernel_rfl
theorem F13_wf : (wf Try.f13.ntmps ann13 (bodyOf Try.f13) && Nat.ble Try.f13.ntmps ghost && !memN (writes (bodyOf Try.f13)) ghost) = true := by kernel_rfl
theorem F13_b : Try.f13.body.isSome = true := by kernel_rfl
theorem F13_n : (Try.f13.name == "runtime.NumGoroutine") = false := by kernel_rfl
theorem R13 (args : Array Value) (w : World) : (callFunc 13 args).run Try.prog w = .ok (.enter 13 args) w := callFunc_run Try.func13 F13_b F13_n args w
theorem S13 {a0 a1 : Value} {h : Heap} {K : Value → Heap → Prop} (H : F13 a0 a1 h K) : CallF Try.prog 13 #[a0, a1] h K :=
  callF_of_W mo Try.func13 F13_b F13_n F13_wf (args := [a0, a1]) rfl (F13_eq a0 a1 h K ▸ H)

/- replevin/replevinref07.Calls -/
def F14 (a0 a1 : Value) (h : Heap) (K : Value → Heap → Prop) : Prop :=
  RunV Try.prog (Instr.box 30 a0) h fun t2 h_1 =>
  RunV Try.prog (Instr.buildSlice 33 0 #[]) h_1 fun t7 h_2 =>
  Loop2 t7 (Value.int IntKind.i64 0) h_2 fun Ljs Lx5 Lx6 h_3 Ln =>
  Join1 (fun Jx23 h_4 =>
  CondP Jx23 (
  Join1 (fun J_1x5 h_5 =>
  RunV Try.prog (binS BinOp.add 3 (Operand.tmp 24) (Operand.const (Value.int IntKind.i64 1)) Lx6 (Value.int IntKind.i64 1)) h_5 fun t25 h_6 =>
  Ln J_1x5 t25 h_6) fun J_1 =>
  RunV Try.prog (Instr.loadAt 30 t2) h_4 fun t26 h_8 =>
  CallF Try.prog 42 #[t26, (Value.int IntKind.i64 2), a1, Lx6] h_8 fun t29 h_9 =>
  CondP t29 (
  RunV Try.prog (Instr.buildSlice 33 1 #[(0, Lx6)]) h_9 fun t32 h_11 =>
  OpN Try.prog (Go.builtin Builtin.append #[33, 33] 33 #[false, false] #[Lx5, t32]) h_11 fun t33 h_12 =>
  J_1 t33 h_12) (
  J_1 Lx5 h_9)) (
  K Lx5 h_4)) fun J =>
  RunV Try.prog (Instr.fieldAt 30 t2 0) h_3 fun t9 h_13 =>
  RunV Try.prog (Instr.loadAt 22 t9) h_13 fun t10 h_14 =>
  OpN Try.prog (Go.builtin Builtin.len #[22] 3 #[false] #[t10]) h_14 fun t11 h_15 =>
  RunV Try.prog (binS BinOp.lss 3 (Operand.tmp 8) (Operand.tmp 11) Lx6 t11) h_15 fun t12 h_16 =>
  GuardP t12 true (
  RunV Try.prog (binS BinOp.geq 3 (Operand.tmp 14) (Operand.const (Value.int IntKind.i64 0)) a1 (Value.int IntKind.i64 0)) h_16 fun t15 h_17 =>
  GuardP t15 true (
  RunV Try.prog (Instr.fieldAt 30 t2 0) h_17 fun t19 h_18 =>
  RunV Try.prog (Instr.loadAt 22 t19) h_18 fun t20 h_19 =>
  OpN Try.prog (Go.builtin Builtin.len #[22] 3 #[false] #[t20]) h_19 fun t21 h_20 =>
  RunV Try.prog (binS BinOp.lss 3 (Operand.tmp 18) (Operand.tmp 21) a1 t21) h_20 fun t22 h_21 =>
  J t22 h_21) (
  J (Value.bool false) h_17)) (
  J (Value.bool false) h_16)
def ann14 : Ann := { loops := [(3, [5, 6])], held := [] }
theorem F14_eq (a0 a1 : Value) (h : Heap) (K : Value → Heap → Prop) : F14 a0 a1 h K = W Try.prog ann14 (bodyOf Try.f14) (bodyQ Try.prog Try.f14.results.toList K) (argsE [a0, a1]) h := by kernel_rfl
theorem F14_wf : (wf Try.f14.ntmps ann14 (bodyOf Try.f14) && Nat.ble Try.f14.ntmps ghost && !memN (writes (bodyOf Try.f14)) ghost) = true := by kernel_rfl
theorem F14_b : Try.f14.body.isSome = true := by kernel_rfl
theorem F14_n : (Try.f14.name == "runtime.NumGoroutine") = false := by kernel_rfl
theorem R14 (args : Array Value) (w : World) : (callFunc 14 args).run Try.prog w = .ok (.enter 14 args) w := callFunc_run Try.func14 F14_b F14_n args w
theorem S14 {a0 a1 : Value} {h : Heap} {K : Value → Heap → Prop} (H : F14 a0 a1 h K) : CallF Try.prog 14 #[a0, a1] h K :=
  callF_of_W mo Try.func14 F14_b F14_n F14_wf (args := [a0, a1]) rfl (F14_eq a0 a1 h K ▸ H)

/- replevin/replevinref06.All -/
def F15 (a0 a1 : Value) (h : Heap) (K : Value → Heap → Prop) : Prop :=
  OpN Try.prog (Go.builtin Builtin.len #[37] 3 #[false] #[a0]) h fun t7 h_1 =>
  OpN Try.prog (Go.builtin Builtin.len #[37] 3 #[false] #[a1]) h_1 fun t9 h_2 =>
  RunV Try.prog (binS BinOp.neq 3 (Operand.tmp 7) (Operand.tmp 9) t7 t9) h_2 fun t10 h_3 =>
  CondP t10 (
  K (Value.bool false) h_3) (
  Loop1 (Value.int IntKind.i64 0) h_3 fun Ljs Lx5 h_4 Ln =>
  OpN Try.prog (Go.builtin Builtin.len #[37] 3 #[false] #[a0]) h_4 fun t13 h_5 =>
  RunV Try.prog (binS BinOp.lss 3 (Operand.tmp 11) (Operand.tmp 13) Lx5 t13) h_5 fun t14 h_6 =>
  CondP t14 (
  Quiet h_6 fun C =>
  QV Try.prog C (Instr.indexAt 37 a0 Lx5) fun t19 =>
  QV Try.prog C (Instr.loadAt 33 t19) fun t20 =>
  QV Try.prog C (Instr.indexAt 37 a1 Lx5) fun t23 =>
  QV Try.prog C (Instr.loadAt 33 t23) fun t24 =>
  QCallF Try.prog C 10 #[t20, t24] fun t25 =>
  QV Try.prog C (Op.unary UnOp.not t25) fun t26 =>
  QEnd C fun h_7 =>
  CondP t26 (
  K (Value.bool false) h_7) (
  RunV Try.prog (binS BinOp.add 3 (Operand.tmp 15) (Operand.const (Value.int IntKind.i64 1)) Lx5 (Value.int IntKind.i64 1)) h_7 fun t16 h_8 =>
  Ln t16 h_8)) (
  K (Value.bool true) h_6))
def ann15 : Ann := { loops := [(4, [5])], held := [] }
theorem F15_eq (a0 a1 : Value) (h : Heap) (K : Value → Heap → Prop) : F15 a0 a1 h K = W Try.prog ann15 (bodyOf Try.f15) (bodyQ Try.prog Try.f15.results.toList K) (argsE [a0, a1]) h := by kernel_rfl
theorem F15_wf : (wf Try.f15.ntmps ann15 (bodyOf Try.f15) && Nat.ble Try.f15.ntmps ghost && !memN (writes (bodyOf Try.f15)) ghost) = true := by kernel_rfl
theorem F15_b : Try.f15.body.isSome = true := by kernel_rfl
theorem F15_n : (Try.f15.name == "runtime.NumGoroutine") = false := by kernel_rfl
theorem R15 (args : Array Value) (w : World) : (callFunc 15 args).run Try.prog w = .ok (.enter 15 args) w := callFunc_run Try.func15 F15_b F15_n args w
theorem S15 {a0 a1 : Value} {h : Heap} {K : Value → Heap → Prop} (H : F15 a0 a1 h K) : CallF Try.prog 15 #[a0, a1] h K :=
  callF_of_W mo Try.func15 F15_b F15_n F15_wf (args := [a0, a1]) rfl (F15_eq a0 a1 h K ▸ H)

/- replevin/needs.Net -/
def F16 (a0 : Value) (h : Heap) (K : Value → Heap → Prop) : Prop :=
  RunV Try.prog (Instr.box 25 a0) h fun t1 h_1 =>
  RunV Try.prog (Instr.fieldAt 25 t1 0) h_1 fun t5 h_2 =>
  RunV Try.prog (Instr.loadAt 22 t5) h_2 fun t6 h_3 =>
  OpN Try.prog (Go.builtin Builtin.len #[22] 3 #[false] #[t6]) h_3 fun t7 h_4 =>
  RunV Try.prog (Instr.makeSlice 38 t7 t7) h_4 fun t8 h_5 =>
  OpN Try.prog (Go.builtin Builtin.len #[38] 3 #[false] #[t8]) h_5 fun t10 h_6 =>
  Loop1 (Value.int IntKind.i64 0) h_6 fun Ljs Lx11 h_7 Ln =>
  RunV Try.prog (binS BinOp.lss 3 (Operand.tmp 11) (Operand.tmp 10) Lx11 t10) h_7 fun t12 h_8 =>
  CondP t12 (
  Quiet h_8 fun S =>
  QV Try.prog S (Instr.loadAt 25 t1) fun t16 =>
  QV Try.prog S (Instr.loadAt 25 t1) fun t19 =>
  CallF Try.prog 11 #[t16, Lx11] h_8 fun t18 h_9 =>
  And (S h_9) (
  CallF Try.prog 13 #[t19, Lx11] h_9 fun t21 h_10 =>
  And (S h_10) (
  CallF Try.prog 44 #[t18, t21] h_10 fun t22 h_11 =>
  And (S h_11) (
  QV Try.prog S (Instr.indexAt 38 t8 Lx11) fun t23 =>
  RunU Try.prog (Instr.storeAt 33 t23 t22) h_11 fun h_12 =>
  And (S h_12) (
  RunV Try.prog (binS BinOp.add 3 (Operand.tmp 11) (Operand.const (Value.int IntKind.i64 1)) Lx11 (Value.int IntKind.i64 1)) h_12 fun t24 h_13 =>
  Ln t24 h_13))))) (
  K t8 h_8)
def ann16 : Ann := { loops := [(3, [11])], held := [(5, (.take 0 (.take 1 (.take 2 (.take 3 (.take 5 (.take 6 (.one 4 (.one 7 (.one 8 (.take 9 (.one 10 .nil))))))))))))] }
theorem F16_eq (a0 : Value) (h : Heap) (K : Value → Heap → Prop) : F16 a0 h K = W Try.prog ann16 (bodyOf Try.f16) (bodyQ Try.prog Try.f16.results.toList K) (argsE [a0]) h := by kernel_rfl
theorem F16_wf : (wf Try.f16.ntmps ann16 (bodyOf Try.f16) && Nat.ble Try.f16.ntmps ghost && !memN (writes (bodyOf Try.f16)) ghost) = true := by kernel_rfl
theorem F16_b : Try.f16.body.isSome = true := by kernel_rfl
theorem F16_n : (Try.f16.name == "runtime.NumGoroutine") = false := by kernel_rfl
theorem R16 (args : Array Value) (w : World) : (callFunc 16 args).run Try.prog w = .ok (.enter 16 args) w := callFunc_run Try.func16 F16_b F16_n args w
theorem S16 {a0 : Value} {h : Heap} {K : Value → Heap → Prop} (H : F16 a0 h K) : CallF Try.prog 16 #[a0] h K :=
  callF_of_W mo Try.func16 F16_b F16_n F16_wf (args := [a0]) rfl (F16_eq a0 h K ▸ H)

/- replevin/replevinref07.Net -/
def F17 (a0 : Value) (h : Heap) (K : Value → Heap → Prop) : Prop :=
  RunV Try.prog (Instr.box 30 a0) h fun t1 h_1 =>
  RunV Try.prog (Instr.buildSlice 37 0 #[]) h_1 fun t7 h_2 =>
  Loop2 t7 (Value.int IntKind.i64 0) h_2 fun Ljs Lx3 Lx4 h_3 Ln =>
  RunV Try.prog (Instr.fieldAt 30 t1 0) h_3 fun t9 h_4 =>
  RunV Try.prog (Instr.loadAt 22 t9) h_4 fun t10 h_5 =>
  OpN Try.prog (Go.builtin Builtin.len #[22] 3 #[false] #[t10]) h_5 fun t11 h_6 =>
  RunV Try.prog (binS BinOp.lss 3 (Operand.tmp 8) (Operand.tmp 11) Lx4 t11) h_6 fun t12 h_7 =>
  CondP t12 (
  RunV Try.prog (Instr.buildSlice 33 0 #[]) h_7 fun t15 h_8 =>
  Loop2 t15 (Value.int IntKind.i64 0) h_8 fun L_1js L_1x5 L_1x6 h_9 L_1n =>
  RunV Try.prog (Instr.fieldAt 30 t1 0) h_9 fun t17 h_10 =>
  RunV Try.prog (Instr.loadAt 22 t17) h_10 fun t18 h_11 =>
  OpN Try.prog (Go.builtin Builtin.len #[22] 3 #[false] #[t18]) h_11 fun t19 h_12 =>
  RunV Try.prog (binS BinOp.lss 3 (Operand.tmp 16) (Operand.tmp 19) L_1x6 t19) h_12 fun t20 h_13 =>
  CondP t20 (
  Join1 (fun Jx5 h_14 =>
  RunV Try.prog (binS BinOp.add 3 (Operand.tmp 21) (Operand.const (Value.int IntKind.i64 1)) L_1x6 (Value.int IntKind.i64 1)) h_14 fun t22 h_15 =>
  L_1n Jx5 t22 h_15) fun J =>
  Join1 (fun J_2x38 h_17 =>
  CondP J_2x38 (
  RunV Try.prog (Instr.buildSlice 33 1 #[(0, L_1x6)]) h_17 fun t41 h_19 =>
  OpN Try.prog (Go.builtin Builtin.append #[33, 33] 33 #[false, false] #[L_1x5, t41]) h_19 fun t42 h_20 =>
  J t42 h_20) (
  J L_1x5 h_17)) fun J_2 =>
  RunV Try.prog (Instr.loadAt 30 t1) h_13 fun t23 h_21 =>
  CallF Try.prog 42 #[t23, (Value.int IntKind.i64 1), L_1x6, Lx4] h_21 fun t26 h_22 =>
  GuardP t26 false (
  RunV Try.prog (Instr.loadAt 30 t1) h_22 fun t28 h_23 =>
  CallF Try.prog 42 #[t28, (Value.int IntKind.i64 5), L_1x6, Lx4] h_23 fun t31 h_24 =>
  GuardP t31 false (
  RunV Try.prog (Instr.loadAt 30 t1) h_24 fun t34 h_25 =>
  CallF Try.prog 42 #[t34, (Value.int IntKind.i64 2), Lx4, L_1x6] h_25 fun t37 h_26 =>
  J_2 t37 h_26) (
  J_2 (Value.bool true) h_24)) (
  J_2 (Value.bool true) h_22)) (
  RunV Try.prog (Instr.buildSlice 37 1 #[(0, L_1x5)]) h_13 fun t45 h_27 =>
  OpN Try.prog (Go.builtin Builtin.append #[37, 37] 37 #[false, false] #[Lx3, t45]) h_27 fun t46 h_28 =>
  RunV Try.prog (binS BinOp.add 3 (Operand.tmp 13) (Operand.const (Value.int IntKind.i64 1)) Lx4 (Value.int IntKind.i64 1)) h_28 fun t14 h_29 =>
  Ln t46 t14 h_29)) (
  K Lx3 h_7)
def ann17 : Ann := { loops := [(7, [5, 6]), (3, [3, 4])], held := [] }
theorem F17_eq (a0 : Value) (h : Heap) (K : Value → Heap → Prop) : F17 a0 h K = W Try.prog ann17 (bodyOf Try.f17) (bodyQ Try.prog Try.f17.results.toList K) (argsE [a0]) h := by kernel_rfl
theorem F17_wf : (wf Try.f17.ntmps ann17 (bodyOf Try.f17) && Nat.ble Try.f17.ntmps ghost && !memN (writes (bodyOf Try.f17)) ghost) = true := by kernel_rfl
theorem F17_b : Try.f17.body.isSome = true := by kernel_rfl
theorem F17_n : (Try.f17.name == "runtime.NumGoroutine") = false := by kernel_rfl
theorem R17 (args : Array Value) (w : World) : (callFunc 17 args).run Try.prog w = .ok (.enter 17 args) w := callFunc_run Try.func17 F17_b F17_n args w
theorem S17 {a0 : Value} {h : Heap} {K : Value → Heap → Prop} (H : F17 a0 h K) : CallF Try.prog 17 #[a0] h K :=
  callF_of_W mo Try.func17 F17_b F17_n F17_wf (args := [a0]) rfl (F17_eq a0 h K ▸ H)

/- replevin/needs.Called -/
def F18 (a0 : Value) (h : Heap) (K : Value → Heap → Prop) : Prop :=
  RunV Try.prog (Instr.box 25 a0) h fun t1 h_1 =>
  RunV Try.prog (Instr.loadAt 25 t1) h_1 fun t4 h_2 =>
  CallF Try.prog 45 #[t4, (Value.func (Fn.func 46) #[] #[])] h_2 fun t5 h_3 =>
  RunV Try.prog (Instr.loadAt 25 t1) h_3 fun t7 h_4 =>
  CallF Try.prog 40 #[t7, (Value.func (Fn.func 47) #[] #[])] h_4 fun t8 h_5 =>
  CallF Try.prog 44 #[t5, t8] h_5 fun t9 h_6 =>
  K t9 h_6
def ann18 : Ann := { loops := [], held := [] }
theorem F18_eq (a0 : Value) (h : Heap) (K : Value → Heap → Prop) : F18 a0 h K = W Try.prog ann18 (bodyOf Try.f18) (bodyQ Try.prog Try.f18.results.toList K) (argsE [a0]) h := by kernel_rfl
theorem F18_wf : (wf Try.f18.ntmps ann18 (bodyOf Try.f18) && Nat.ble Try.f18.ntmps ghost && !memN (writes (bodyOf Try.f18)) ghost) = true := by kernel_rfl
theorem F18_b : Try.f18.body.isSome = true := by kernel_rfl
theorem F18_n : (Try.f18.name == "runtime.NumGoroutine") = false := by kernel_rfl
theorem R18 (args : Array Value) (w : World) : (callFunc 18 args).run Try.prog w = .ok (.enter 18 args) w := callFunc_run Try.func18 F18_b F18_n args w
theorem S18 {a0 : Value} {h : Heap} {K : Value → Heap → Prop} (H : F18 a0 h K) : CallF Try.prog 18 #[a0] h K :=
  callF_of_W mo Try.func18 F18_b F18_n F18_wf (args := [a0]) rfl (F18_eq a0 h K ▸ H)

/- replevin/replevinref07.Called -/
def F19 (a0 : Value) (h : Heap) (K : Value → Heap → Prop) : Prop :=
  RunV Try.prog (Instr.box 30 a0) h fun t1 h_1 =>
  RunV Try.prog (Instr.buildSlice 33 0 #[]) h_1 fun t7 h_2 =>
  Loop2 t7 (Value.int IntKind.i64 0) h_2 fun Ljs Lx3 Lx4 h_3 Ln =>
  RunV Try.prog (Instr.fieldAt 30 t1 0) h_3 fun t9 h_4 =>
  RunV Try.prog (Instr.loadAt 22 t9) h_4 fun t10 h_5 =>
  OpN Try.prog (Go.builtin Builtin.len #[22] 3 #[false] #[t10]) h_5 fun t11 h_6 =>
  RunV Try.prog (binS BinOp.lss 3 (Operand.tmp 8) (Operand.tmp 11) Lx4 t11) h_6 fun t12 h_7 =>
  CondP t12 (
  Join1 (fun Jx3 h_8 =>
  RunV Try.prog (binS BinOp.add 3 (Operand.tmp 13) (Operand.const (Value.int IntKind.i64 1)) Lx4 (Value.int IntKind.i64 1)) h_8 fun t14 h_9 =>
  Ln Jx3 t14 h_9) fun J =>
  RunV Try.prog (Instr.fieldAt 30 t1 0) h_7 fun t15 h_11 =>
  RunV Try.prog (Instr.loadAt 22 t15) h_11 fun t16 h_12 =>
  RunV Try.prog (Instr.indexAt 22 t16 Lx4) h_12 fun t18 h_13 =>
  RunV Try.prog (Instr.fieldAt 66 t18 5) h_13 fun t19 h_14 =>
  RunV Try.prog (Instr.loadAt 3 t19) h_14 fun t20 h_15 =>
  RunV Try.prog (binS BinOp.geq 3 (Operand.tmp 20) (Operand.const (Value.int IntKind.i64 0)) t20 (Value.int IntKind.i64 0)) h_15 fun t21 h_16 =>
  Loop2 t21 (Value.int IntKind.i64 0) h_16 fun L_1js L_1x5 L_1x6 h_17 L_1n =>
  RunV Try.prog (Instr.fieldAt 30 t1 0) h_17 fun t23 h_18 =>
  RunV Try.prog (Instr.loadAt 22 t23) h_18 fun t24 h_19 =>
  OpN Try.prog (Go.builtin Builtin.len #[22] 3 #[false] #[t24]) h_19 fun t25 h_20 =>
  RunV Try.prog (binS BinOp.lss 3 (Operand.tmp 22) (Operand.tmp 25) L_1x6 t25) h_20 fun t26 h_21 =>
  CondP t26 (
  Join1 (fun J_2x5 h_22 =>
  RunV Try.prog (binS BinOp.add 3 (Operand.tmp 27) (Operand.const (Value.int IntKind.i64 1)) L_1x6 (Value.int IntKind.i64 1)) h_22 fun t28 h_23 =>
  L_1n J_2x5 t28 h_23) fun J_2 =>
  GuardP L_1x5 false (
  RunV Try.prog (Instr.loadAt 30 t1) h_21 fun t31 h_24 =>
  CallF Try.prog 42 #[t31, (Value.int IntKind.i64 2), L_1x6, Lx4] h_24 fun t34 h_25 =>
  J_2 t34 h_25) (
  J_2 (Value.bool true) h_21)) (
  CondP L_1x5 (
  RunV Try.prog (Instr.buildSlice 33 1 #[(0, Lx4)]) h_21 fun t39 h_27 =>
  OpN Try.prog (Go.builtin Builtin.append #[33, 33] 33 #[false, false] #[Lx3, t39]) h_27 fun t40 h_28 =>
  J t40 h_28) (
  J Lx3 h_21))) (
  K Lx3 h_7)
def ann19 : Ann := { loops := [(7, [5, 6]), (3, [3, 4])], held := [] }
theorem F19_eq (a0 : Value) (h : Heap) (K : Value → Heap → Prop) : F19 a0 h K = W Try.prog ann19 (bodyOf Try.f19) (bodyQ Try.prog Try.f19.results.toList K) (argsE [a0]) h := by kernel_rfl
theorem F19_wf : (wf Try.f19.ntmps ann19 (bodyOf Try.f19) && Nat.ble Try.f19.ntmps ghost && !memN (writes (bodyOf Try.f19)) ghost) = true := by kernel_rfl
theorem F19_b : Try.f19.body.isSome = true := by kernel_rfl
theorem F19_n : (Try.f19.name == "runtime.NumGoroutine") = false := by kernel_rfl
theorem R19 (args : Array Value) (w : World) : (callFunc 19 args).run Try.prog w = .ok (.enter 19 args) w := callFunc_run Try.func19 F19_b F19_n args w
theorem S19 {a0 : Value} {h : Heap} {K : Value → Heap → Prop} (H : F19 a0 h K) : CallF Try.prog 19 #[a0] h K :=
  callF_of_W mo Try.func19 F19_b F19_n F19_wf (args := [a0]) rfl (F19_eq a0 h K ▸ H)

/- replevin/needs.Matters -/
def F20 (a0 : Value) (h : Heap) (K : Value → Heap → Prop) : Prop :=
  RunV Try.prog (Instr.box 25 a0) h fun t1 h_1 =>
  RunV Try.prog (Instr.loadAt 25 t1) h_1 fun t7 h_2 =>
  CallF Try.prog 16 #[t7] h_2 fun t8 h_3 =>
  RunV Try.prog (Instr.loadAt 25 t1) h_3 fun t9 h_4 =>
  CallF Try.prog 18 #[t9] h_4 fun t10 h_5 =>
  OpN Try.prog (Go.builtin Builtin.len #[33] 3 #[false] #[t10]) h_5 fun t12 h_6 =>
  Loop2 t10 (Value.int IntKind.i64 0) h_6 fun Ljs Lx4 Lx13 h_7 Ln =>
  RunV Try.prog (binS BinOp.lss 3 (Operand.tmp 13) (Operand.tmp 12) Lx13 t12) h_7 fun t14 h_8 =>
  CondP t14 (
  RunV Try.prog (Instr.indexAt 33 t10 Lx13) h_8 fun t15 h_9 =>
  RunV Try.prog (Instr.loadAt 3 t15) h_9 fun t16 h_10 =>
  CallF Try.prog 36 #[t8, t16] h_10 fun t20 h_11 =>
  CallF Try.prog 44 #[Lx4, t20] h_11 fun t21 h_12 =>
  RunV Try.prog (binS BinOp.add 3 (Operand.tmp 13) (Operand.const (Value.int IntKind.i64 1)) Lx13 (Value.int IntKind.i64 1)) h_12 fun t22 h_13 =>
  Ln t21 t22 h_13) (
  K Lx4 h_8)
def ann20 : Ann := { loops := [(4, [4, 13])], held := [] }
theorem F20_eq (a0 : Value) (h : Heap) (K : Value → Heap → Prop) : F20 a0 h K = W Try.prog ann20 (bodyOf Try.f20) (bodyQ Try.prog Try.f20.results.toList K) (argsE [a0]) h := by kernel_rfl
theorem F20_wf : (wf Try.f20.ntmps ann20 (bodyOf Try.f20) && Nat.ble Try.f20.ntmps ghost && !memN (writes (bodyOf Try.f20)) ghost) = true := by kernel_rfl
theorem F20_b : Try.f20.body.isSome = true := by kernel_rfl
theorem F20_n : (Try.f20.name == "runtime.NumGoroutine") = false := by kernel_rfl
theorem R20 (args : Array Value) (w : World) : (callFunc 20 args).run Try.prog w = .ok (.enter 20 args) w := callFunc_run Try.func20 F20_b F20_n args w
theorem S20 {a0 : Value} {h : Heap} {K : Value → Heap → Prop} (H : F20 a0 h K) : CallF Try.prog 20 #[a0] h K :=
  callF_of_W mo Try.func20 F20_b F20_n F20_wf (args := [a0]) rfl (F20_eq a0 h K ▸ H)

/- replevin/replevinref07.Matters -/
def F21 (a0 : Value) (h : Heap) (K : Value → Heap → Prop) : Prop :=
  RunV Try.prog (Instr.box 30 a0) h fun t1 h_1 =>
  RunV Try.prog (Instr.loadAt 30 t1) h_1 fun t9 h_2 =>
  CallF Try.prog 17 #[t9] h_2 fun t10 h_3 =>
  CallF Try.prog 48 #[t10] h_3 fun t11 h_4 =>
  RunV Try.prog (Instr.loadAt 30 t1) h_4 fun t12 h_5 =>
  CallF Try.prog 19 #[t12] h_5 fun t13 h_6 =>
  RunV Try.prog (Instr.buildSlice 33 0 #[]) h_6 fun t14 h_7 =>
  Loop2 t14 (Value.int IntKind.i64 0) h_7 fun Ljs Lx5 Lx6 h_8 Ln =>
  RunV Try.prog (Instr.fieldAt 30 t1 0) h_8 fun t16 h_9 =>
  RunV Try.prog (Instr.loadAt 22 t16) h_9 fun t17 h_10 =>
  OpN Try.prog (Go.builtin Builtin.len #[22] 3 #[false] #[t17]) h_10 fun t18 h_11 =>
  RunV Try.prog (binS BinOp.lss 3 (Operand.tmp 15) (Operand.tmp 18) Lx6 t18) h_11 fun t19 h_12 =>
  CondP t19 (
  Join1 (fun Jx5 h_13 =>
  RunV Try.prog (binS BinOp.add 3 (Operand.tmp 20) (Operand.const (Value.int IntKind.i64 1)) Lx6 (Value.int IntKind.i64 1)) h_13 fun t21 h_14 =>
  Ln Jx5 t21 h_14) fun J =>
  Loop2 (Value.bool false) (Value.int IntKind.i64 0) h_12 fun L_1js L_1x7 L_1x8 h_16 L_1n =>
  OpN Try.prog (Go.builtin Builtin.len #[33] 3 #[false] #[t13]) h_16 fun t24 h_17 =>
  RunV Try.prog (binS BinOp.lss 3 (Operand.tmp 22) (Operand.tmp 24) L_1x8 t24) h_17 fun t25 h_18 =>
  CondP t25 (
  Join1 (fun J_2x7 h_19 =>
  RunV Try.prog (binS BinOp.add 3 (Operand.tmp 26) (Operand.const (Value.int IntKind.i64 1)) L_1x8 (Value.int IntKind.i64 1)) h_19 fun t27 h_20 =>
  L_1n J_2x7 t27 h_20) fun J_2 =>
  GuardP L_1x7 false (
  RunV Try.prog (Instr.indexAt 33 t13 L_1x8) h_18 fun t32 h_21 =>
  RunV Try.prog (Instr.loadAt 3 t32) h_21 fun t33 h_22 =>
  RunV Try.prog (binS BinOp.eql 3 (Operand.tmp 33) (Operand.tmp 34) t33 Lx6) h_22 fun t35 h_23 =>
  GuardP t35 false (
  RunV Try.prog (Instr.indexAt 33 t13 L_1x8) h_23 fun t41 h_24 =>
  RunV Try.prog (Instr.loadAt 3 t41) h_24 fun t42 h_25 =>
  RunV Try.prog (Instr.indexAt 74 t11 t42) h_25 fun t43 h_26 =>
  RunV Try.prog (Instr.loadAt 76 t43) h_26 fun t44 h_27 =>
  RunV Try.prog (Instr.indexAt 76 t44 Lx6) h_27 fun t46 h_28 =>
  RunV Try.prog (Instr.loadAt 4 t46) h_28 fun t47 h_29 =>
  J_2 t47 h_29) (
  J_2 (Value.bool true) h_23)) (
  J_2 (Value.bool true) h_18)) (
  CondP L_1x7 (
  RunV Try.prog (Instr.buildSlice 33 1 #[(0, Lx6)]) h_18 fun t52 h_31 =>
  OpN Try.prog (Go.builtin Builtin.append #[33, 33] 33 #[false, false] #[Lx5, t52]) h_31 fun t53 h_32 =>
  J t53 h_32) (
  J Lx5 h_18))) (
  K Lx5 h_12)
def ann21 : Ann := { loops := [(9, [7, 8]), (5, [5, 6])], held := [] }
theorem F21_eq (a0 : Value) (h : Heap) (K : Value → Heap → Prop) : F21 a0 h K = W Try.prog ann21 (bodyOf Try.f21) (bodyQ Try.prog Try.f21.results.toList K) (argsE [a0]) h := by kernel_rfl
theorem F21_wf : (wf Try.f21.ntmps ann21 (bodyOf Try.f21) && Nat.ble Try.f21.ntmps ghost && !memN (writes (bodyOf Try.f21)) ghost) = true := by kernel_rfl
theorem F21_b : Try.f21.body.isSome = true := by kernel_rfl
theorem F21_n : (Try.f21.name == "runtime.NumGoroutine") = false := by kernel_rfl
theorem R21 (args : Array Value) (w : World) : (callFunc 21 args).run Try.prog w = .ok (.enter 21 args) w := callFunc_run Try.func21 F21_b F21_n args w
theorem S21 {a0 : Value} {h : Heap} {K : Value → Heap → Prop} (H : F21 a0 h K) : CallF Try.prog 21 #[a0] h K :=
  callF_of_W mo Try.func21 F21_b F21_n F21_wf (args := [a0]) rfl (F21_eq a0 h K ▸ H)

/- replevin/needs.Excluded -/
def F22 (a0 : Value) (h : Heap) (K : Value → Heap → Prop) : Prop :=
  RunV Try.prog (Instr.box 25 a0) h fun t1 h_1 =>
  RunV Try.prog (Instr.loadAt 25 t1) h_1 fun t4 h_2 =>
  CallF Try.prog 45 #[t4, (Value.func (Fn.func 49) #[] #[])] h_2 fun t5 h_3 =>
  RunV Try.prog (Instr.loadAt 25 t1) h_3 fun t7 h_4 =>
  CallF Try.prog 40 #[t7, (Value.func (Fn.func 50) #[] #[])] h_4 fun t8 h_5 =>
  CallF Try.prog 44 #[t5, t8] h_5 fun t9 h_6 =>
  K t9 h_6
def ann22 : Ann := { loops := [], held := [] }
theorem F22_eq (a0 : Value) (h : Heap) (K : Value → Heap → Prop) : F22 a0 h K = W Try.prog ann22 (bodyOf Try.f22) (bodyQ Try.prog Try.f22.results.toList K) (argsE [a0]) h := by kernel_rfl
theorem F22_wf : (wf Try.f22.ntmps ann22 (bodyOf Try.f22) && Nat.ble Try.f22.ntmps ghost && !memN (writes (bodyOf Try.f22)) ghost) = true := by kernel_rfl
theorem F22_b : Try.f22.body.isSome = true := by kernel_rfl
theorem F22_n : (Try.f22.name == "runtime.NumGoroutine") = false := by kernel_rfl
theorem R22 (args : Array Value) (w : World) : (callFunc 22 args).run Try.prog w = .ok (.enter 22 args) w := callFunc_run Try.func22 F22_b F22_n args w
theorem S22 {a0 : Value} {h : Heap} {K : Value → Heap → Prop} (H : F22 a0 h K) : CallF Try.prog 22 #[a0] h K :=
  callF_of_W mo Try.func22 F22_b F22_n F22_wf (args := [a0]) rfl (F22_eq a0 h K ▸ H)

/- replevin/replevinref07.Excluded -/
def F23 (a0 : Value) (h : Heap) (K : Value → Heap → Prop) : Prop :=
  RunV Try.prog (Instr.box 30 a0) h fun t1 h_1 =>
  RunV Try.prog (Instr.buildSlice 33 0 #[]) h_1 fun t7 h_2 =>
  Loop2 t7 (Value.int IntKind.i64 0) h_2 fun Ljs Lx3 Lx4 h_3 Ln =>
  RunV Try.prog (Instr.fieldAt 30 t1 0) h_3 fun t9 h_4 =>
  RunV Try.prog (Instr.loadAt 22 t9) h_4 fun t10 h_5 =>
  OpN Try.prog (Go.builtin Builtin.len #[22] 3 #[false] #[t10]) h_5 fun t11 h_6 =>
  RunV Try.prog (binS BinOp.lss 3 (Operand.tmp 8) (Operand.tmp 11) Lx4 t11) h_6 fun t12 h_7 =>
  CondP t12 (
  Join1 (fun Jx3 h_8 =>
  RunV Try.prog (binS BinOp.add 3 (Operand.tmp 13) (Operand.const (Value.int IntKind.i64 1)) Lx4 (Value.int IntKind.i64 1)) h_8 fun t14 h_9 =>
  Ln Jx3 t14 h_9) fun J =>
  RunV Try.prog (Instr.fieldAt 30 t1 0) h_7 fun t15 h_11 =>
  RunV Try.prog (Instr.loadAt 22 t15) h_11 fun t16 h_12 =>
  RunV Try.prog (Instr.indexAt 22 t16 Lx4) h_12 fun t18 h_13 =>
  RunV Try.prog (Instr.fieldAt 66 t18 3) h_13 fun t19 h_14 =>
  RunV Try.prog (Instr.loadAt 4 t19) h_14 fun t20 h_15 =>
  RunV Try.prog (Op.unary UnOp.not t20) h_15 fun t21 h_16 =>
  Loop2 t21 (Value.int IntKind.i64 0) h_16 fun L_1js L_1x5 L_1x6 h_17 L_1n =>
  RunV Try.prog (Instr.fieldAt 30 t1 0) h_17 fun t23 h_18 =>
  RunV Try.prog (Instr.loadAt 22 t23) h_18 fun t24 h_19 =>
  OpN Try.prog (Go.builtin Builtin.len #[22] 3 #[false] #[t24]) h_19 fun t25 h_20 =>
  RunV Try.prog (binS BinOp.lss 3 (Operand.tmp 22) (Operand.tmp 25) L_1x6 t25) h_20 fun t26 h_21 =>
  CondP t26 (
  Join1 (fun J_2x5 h_22 =>
  RunV Try.prog (binS BinOp.add 3 (Operand.tmp 27) (Operand.const (Value.int IntKind.i64 1)) L_1x6 (Value.int IntKind.i64 1)) h_22 fun t28 h_23 =>
  L_1n J_2x5 t28 h_23) fun J_2 =>
  GuardP L_1x5 false (
  RunV Try.prog (Instr.loadAt 30 t1) h_21 fun t31 h_24 =>
  CallF Try.prog 42 #[t31, (Value.int IntKind.i64 4), L_1x6, Lx4] h_24 fun t34 h_25 =>
  J_2 t34 h_25) (
  J_2 (Value.bool true) h_21)) (
  CondP L_1x5 (
  RunV Try.prog (Instr.buildSlice 33 1 #[(0, Lx4)]) h_21 fun t39 h_27 =>
  OpN Try.prog (Go.builtin Builtin.append #[33, 33] 33 #[false, false] #[Lx3, t39]) h_27 fun t40 h_28 =>
  J t40 h_28) (
  J Lx3 h_21))) (
  K Lx3 h_7)
def ann23 : Ann := { loops := [(7, [5, 6]), (3, [3, 4])], held := [] }
theorem F23_eq (a0 : Value) (h : Heap) (K : Value → Heap → Prop) : F23 a0 h K = W Try.prog ann23 (bodyOf Try.f23) (bodyQ Try.prog Try.f23.results.toList K) (argsE [a0]) h := by kernel_rfl
theorem F23_wf : (wf Try.f23.ntmps ann23 (bodyOf Try.f23) && Nat.ble Try.f23.ntmps ghost && !memN (writes (bodyOf Try.f23)) ghost) = true := by kernel_rfl
theorem F23_b : Try.f23.body.isSome = true := by kernel_rfl
theorem F23_n : (Try.f23.name == "runtime.NumGoroutine") = false := by kernel_rfl
theorem R23 (args : Array Value) (w : World) : (callFunc 23 args).run Try.prog w = .ok (.enter 23 args) w := callFunc_run Try.func23 F23_b F23_n args w
theorem S23 {a0 : Value} {h : Heap} {K : Value → Heap → Prop} (H : F23 a0 h K) : CallF Try.prog 23 #[a0] h K :=
  callF_of_W mo Try.func23 F23_b F23_n F23_wf (args := [a0]) rfl (F23_eq a0 h K ▸ H)

/- replevin/needs.Delay -/
def F24 (a0 a1 : Value) (h : Heap) (K : Value → Heap → Prop) : Prop :=
  RunV Try.prog (Instr.box 25 a0) h fun t2 h_1 =>
  RunV Try.prog (Instr.fieldAt 25 t2 1) h_1 fun t8 h_2 =>
  RunV Try.prog (Instr.loadAt 23 t8) h_2 fun t9 h_3 =>
  OpN Try.prog (Go.builtin Builtin.len #[23] 3 #[false] #[t9]) h_3 fun t10 h_4 =>
  Loop2 (Value.int IntKind.i64 0) (Value.int IntKind.i64 0) h_4 fun Ljs Lx5 Lx11 h_5 Ln =>
  RunV Try.prog (binS BinOp.lss 3 (Operand.tmp 11) (Operand.tmp 10) Lx11 t10) h_5 fun t12 h_6 =>
  CondP t12 (
  Join1 (fun Jx5 h_7 =>
  RunV Try.prog (binS BinOp.add 3 (Operand.tmp 11) (Operand.const (Value.int IntKind.i64 1)) Lx11 (Value.int IntKind.i64 1)) h_7 fun t33 h_8 =>
  Ln Jx5 t33 h_8) fun J =>
  RunV Try.prog (Instr.indexAt 23 t9 Lx11) h_6 fun t13 h_10 =>
  RunV Try.prog (Instr.loadAt 48 t13) h_10 fun t14 h_11 =>
  RunV Try.prog (Instr.alloc 48 true (.tuple #[])) h_11 fun t7 h_12 =>
  RunU Try.prog (Instr.storeAt 48 t7 t14) h_12 fun h_13 =>
  Join1 (fun J_2x28 h_14 =>
  CondP J_2x28 (
  RunV Try.prog (Instr.fieldAt 48 t7 3) h_14 fun t30 h_16 =>
  RunV Try.prog (Instr.loadAt 3 t30) h_16 fun t31 h_17 =>
  OpN Try.prog (Go.builtin Builtin.max #[3, 3] 3 #[false, false] #[Lx5, t31]) h_17 fun t32 h_18 =>
  J t32 h_18) (
  J Lx5 h_14)) fun J_2 =>
  RunV Try.prog (Instr.fieldAt 48 t7 0) h_13 fun t15 h_19 =>
  RunV Try.prog (Instr.loadAt 3 t15) h_19 fun t16 h_20 =>
  RunV Try.prog (binS BinOp.eql 3 (Operand.tmp 16) (Operand.const (Value.int IntKind.i64 1)) t16 (Value.int IntKind.i64 1)) h_20 fun t17 h_21 =>
  GuardP t17 true (
  RunV Try.prog (Instr.fieldAt 48 t7 2) h_21 fun t19 h_22 =>
  RunV Try.prog (Instr.loadAt 3 t19) h_22 fun t20 h_23 =>
  RunV Try.prog (binS BinOp.eql 3 (Operand.tmp 20) (Operand.tmp 21) t20 a1) h_23 fun t22 h_24 =>
  GuardP t22 true (
  RunV Try.prog (Instr.loadAt 25 t2) h_24 fun t25 h_25 =>
  RunV Try.prog (Instr.loadAt 48 t7) h_25 fun t26 h_26 =>
  CallF Try.prog 51 #[t25, t26] h_26 fun t27 h_27 =>
  J_2 t27 h_27) (
  J_2 (Value.bool false) h_24)) (
  J_2 (Value.bool false) h_21)) (
  K Lx5 h_6)
def ann24 : Ann := { loops := [(3, [5, 11])], held := [] }
theorem F24_eq (a0 a1 : Value) (h : Heap) (K : Value → Heap → Prop) : F24 a0 a1 h K = W Try.prog ann24 (bodyOf Try.f24) (bodyQ Try.prog Try.f24.results.toList K) (argsE [a0, a1]) h := by kernel_rfl
theorem F24_wf : (wf Try.f24.ntmps ann24 (bodyOf Try.f24) && Nat.ble Try.f24.ntmps ghost && !memN (writes (bodyOf Try.f24)) ghost) = true := by kernel_rfl
theorem F24_b : Try.f24.body.isSome = true := by kernel_rfl
theorem F24_n : (Try.f24.name == "runtime.NumGoroutine") = false := by kernel_rfl
theorem R24 (args : Array Value) (w : World) : (callFunc 24 args).run Try.prog w = .ok (.enter 24 args) w := callFunc_run Try.func24 F24_b F24_n args w
theorem S24 {a0 a1 : Value} {h : Heap} {K : Value → Heap → Prop} (H : F24 a0 a1 h K) : CallF Try.prog 24 #[a0, a1] h K :=
  callF_of_W mo Try.func24 F24_b F24_n F24_wf (args := [a0, a1]) rfl (F24_eq a0 a1 h K ▸ H)

/- replevin/replevinref07.Delay -/
def F25 (a0 a1 : Value) (h : Heap) (K : Value → Heap → Prop) : Prop :=
  RunV Try.prog (Instr.box 30 a0) h fun t2 h_1 =>
  Loop2 (Value.int IntKind.i64 0) (Value.int IntKind.i64 0) h_1 fun Ljs Lx5 Lx6 h_2 Ln =>
  RunV Try.prog (Instr.fieldAt 30 t2 1) h_2 fun t9 h_3 =>
  RunV Try.prog (Instr.loadAt 28 t9) h_3 fun t10 h_4 =>
  OpN Try.prog (Go.builtin Builtin.len #[28] 3 #[false] #[t10]) h_4 fun t11 h_5 =>
  RunV Try.prog (binS BinOp.lss 3 (Operand.tmp 8) (Operand.tmp 11) Lx6 t11) h_5 fun t12 h_6 =>
  CondP t12 (
  Join1 (fun Jx5 h_7 =>
  RunV Try.prog (binS BinOp.add 3 (Operand.tmp 13) (Operand.const (Value.int IntKind.i64 1)) Lx6 (Value.int IntKind.i64 1)) h_7 fun t14 h_8 =>
  Ln Jx5 t14 h_8) fun J =>
  RunV Try.prog (Instr.fieldAt 30 t2 1) h_6 fun t15 h_10 =>
  RunV Try.prog (Instr.loadAt 28 t15) h_10 fun t16 h_11 =>
  RunV Try.prog (Instr.indexAt 28 t16 Lx6) h_11 fun t18 h_12 =>
  RunV Try.prog (Instr.loadAt 67 t18) h_12 fun t19 h_13 =>
  RunV Try.prog (Instr.alloc 67 true (.tuple #[])) h_13 fun t7 h_14 =>
  RunU Try.prog (Instr.storeAt 67 t7 t19) h_14 fun h_15 =>
  Join1 (fun J_2x58 h_16 =>
  CondP J_2x58 (
  RunV Try.prog (Instr.fieldAt 67 t7 3) h_16 fun t59 h_18 =>
  RunV Try.prog (Instr.loadAt 3 t59) h_18 fun t60 h_19 =>
  J t60 h_19) (
  J Lx5 h_16)) fun J_2 =>
  RunV Try.prog (Instr.fieldAt 67 t7 0) h_15 fun t20 h_20 =>
  RunV Try.prog (Instr.loadAt 3 t20) h_20 fun t21 h_21 =>
  RunV Try.prog (binS BinOp.eql 3 (Operand.tmp 21) (Operand.const (Value.int IntKind.i64 1)) t21 (Value.int IntKind.i64 1)) h_21 fun t22 h_22 =>
  GuardP t22 true (
  RunV Try.prog (Instr.fieldAt 67 t7 2) h_22 fun t24 h_23 =>
  RunV Try.prog (Instr.loadAt 3 t24) h_23 fun t25 h_24 =>
  RunV Try.prog (binS BinOp.eql 3 (Operand.tmp 25) (Operand.tmp 26) t25 a1) h_24 fun t27 h_25 =>
  GuardP t27 true (
  RunV Try.prog (binS BinOp.geq 3 (Operand.tmp 30) (Operand.const (Value.int IntKind.i64 0)) a1 (Value.int IntKind.i64 0)) h_25 fun t31 h_26 =>
  GuardP t31 true (
  RunV Try.prog (Instr.fieldAt 30 t2 0) h_26 fun t35 h_27 =>
  RunV Try.prog (Instr.loadAt 22 t35) h_27 fun t36 h_28 =>
  OpN Try.prog (Go.builtin Builtin.len #[22] 3 #[false] #[t36]) h_28 fun t37 h_29 =>
  RunV Try.prog (binS BinOp.lss 3 (Operand.tmp 34) (Operand.tmp 37) a1 t37) h_29 fun t38 h_30 =>
  GuardP t38 true (
  RunV Try.prog (Instr.fieldAt 67 t7 1) h_30 fun t41 h_31 =>
  RunV Try.prog (Instr.loadAt 3 t41) h_31 fun t42 h_32 =>
  RunV Try.prog (binS BinOp.geq 3 (Operand.tmp 42) (Operand.const (Value.int IntKind.i64 0)) t42 (Value.int IntKind.i64 0)) h_32 fun t43 h_33 =>
  GuardP t43 true (
  RunV Try.prog (Instr.fieldAt 67 t7 1) h_33 fun t46 h_34 =>
  RunV Try.prog (Instr.loadAt 3 t46) h_34 fun t47 h_35 =>
  RunV Try.prog (Instr.fieldAt 30 t2 0) h_35 fun t48 h_36 =>
  RunV Try.prog (Instr.loadAt 22 t48) h_36 fun t49 h_37 =>
  OpN Try.prog (Go.builtin Builtin.len #[22] 3 #[false] #[t49]) h_37 fun t50 h_38 =>
  RunV Try.prog (binS BinOp.lss 3 (Operand.tmp 47) (Operand.tmp 50) t47 t50) h_38 fun t51 h_39 =>
  GuardP t51 true (
  RunV Try.prog (Instr.fieldAt 67 t7 3) h_39 fun t54 h_40 =>
  RunV Try.prog (Instr.loadAt 3 t54) h_40 fun t55 h_41 =>
  RunV Try.prog (binS BinOp.gtr 3 (Operand.tmp 55) (Operand.tmp 56) t55 Lx5) h_41 fun t57 h_42 =>
  J_2 t57 h_42) (
  J_2 (Value.bool false) h_39)) (
  J_2 (Value.bool false) h_33)) (
  J_2 (Value.bool false) h_30)) (
  J_2 (Value.bool false) h_26)) (
  J_2 (Value.bool false) h_25)) (
  J_2 (Value.bool false) h_22)) (
  K Lx5 h_6)
def ann25 : Ann := { loops := [(3, [5, 6])], held := [] }
theorem F25_eq (a0 a1 : Value) (h : Heap) (K : Value → Heap → Prop) : F25 a0 a1 h K = W Try.prog ann25 (bodyOf Try.f25) (bodyQ Try.prog Try.f25.results.toList K) (argsE [a0, a1]) h := by kernel_rfl
theorem F25_wf : (wf Try.f25.ntmps ann25 (bodyOf Try.f25) && Nat.ble Try.f25.ntmps ghost && !memN (writes (bodyOf Try.f25)) ghost) = true := by kernel_rfl
theorem F25_b : Try.f25.body.isSome = true := by kernel_rfl
theorem F25_n : (Try.f25.name == "runtime.NumGoroutine") = false := by kernel_rfl
theorem R25 (args : Array Value) (w : World) : (callFunc 25 args).run Try.prog w = .ok (.enter 25 args) w := callFunc_run Try.func25 F25_b F25_n args w
theorem S25 {a0 a1 : Value} {h : Heap} {K : Value → Heap → Prop} (H : F25 a0 a1 h K) : CallF Try.prog 25 #[a0, a1] h K :=
  callF_of_W mo Try.func25 F25_b F25_n F25_wf (args := [a0, a1]) rfl (F25_eq a0 a1 h K ▸ H)

/- replevin/replevinlaw07.NeedsFew$1 -/
def F26 (a0 a1 : Value) (h : Heap) (K : Value → Heap → Prop) : Prop :=
  OpN Try.prog (Go.builtin Builtin.len #[33] 3 #[false] #[a0]) h fun t8 h_1 =>
  Loop1 (Value.int IntKind.i64 0) h_1 fun Ljs Lx9 h_2 Ln =>
  RunV Try.prog (binS BinOp.lss 3 (Operand.tmp 9) (Operand.tmp 8) Lx9 t8) h_2 fun t10 h_3 =>
  CondP t10 (
  RunV Try.prog (Instr.indexAt 33 a0 Lx9) h_3 fun t11 h_4 =>
  RunV Try.prog (Instr.loadAt 3 t11) h_4 fun t12 h_5 =>
  RunV Try.prog (binS BinOp.eql 3 (Operand.tmp 13) (Operand.tmp 14) t12 a1) h_5 fun t15 h_6 =>
  CondP t15 (
  K (Value.bool true) h_6) (
  RunV Try.prog (binS BinOp.add 3 (Operand.tmp 9) (Operand.const (Value.int IntKind.i64 1)) Lx9 (Value.int IntKind.i64 1)) h_6 fun t16 h_7 =>
  Ln t16 h_7)) (
  K (Value.bool false) h_3)
def ann26 : Ann := { loops := [(2, [9])], held := [] }
theorem F26_eq (a0 a1 : Value) (h : Heap) (K : Value → Heap → Prop) : F26 a0 a1 h K = W Try.prog ann26 (bodyOf Try.f26) (bodyQ Try.prog Try.f26.results.toList K) (argsE [a0, a1]) h := by kernel_rfl
theorem F26_wf : (wf Try.f26.ntmps ann26 (bodyOf Try.f26) && Nat.ble Try.f26.ntmps ghost && !memN (writes (bodyOf Try.f26)) ghost) = true := by kernel_rfl
theorem F26_b : Try.f26.body.isSome = true := by kernel_rfl
theorem F26_n : (Try.f26.name == "runtime.NumGoroutine") = false := by kernel_rfl
theorem R26 (args : Array Value) (w : World) : (callFunc 26 args).run Try.prog w = .ok (.enter 26 args) w := callFunc_run Try.func26 F26_b F26_n args w
theorem S26 {a0 a1 : Value} {h : Heap} {K : Value → Heap → Prop} (H : F26 a0 a1 h K) : CallF Try.prog 26 #[a0, a1] h K :=
  callF_of_W mo Try.func26 F26_b F26_n F26_wf (args := [a0, a1]) rfl (F26_eq a0 a1 h K ▸ H)

/- replevin/replevinref06.Reach -/
def F33 (a0 a1 : Value) (h : Heap) (K : Value → Heap → Prop) : Prop :=
  RunV Try.prog (Instr.buildSlice 33 0 #[]) h fun t8 h_1 =>
  Join1 (fun Jx16 h_2 =>
  CondP Jx16 (
  K t8 h_2) (
  CallF Try.prog 48 #[a0] h_2 fun t19 h_3 =>
  Loop2 t8 (Value.int IntKind.i64 0) h_3 fun Ljs Lx5 Lx7 h_4 Ln =>
  OpN Try.prog (Go.builtin Builtin.len #[37] 3 #[false] #[a0]) h_4 fun t22 h_5 =>
  RunV Try.prog (binS BinOp.lss 3 (Operand.tmp 20) (Operand.tmp 22) Lx7 t22) h_5 fun t23 h_6 =>
  CondP t23 (
  Join1 (fun J_1x5 h_7 =>
  RunV Try.prog (binS BinOp.add 3 (Operand.tmp 24) (Operand.const (Value.int IntKind.i64 1)) Lx7 (Value.int IntKind.i64 1)) h_7 fun t25 h_8 =>
  Ln J_1x5 t25 h_8) fun J_1 =>
  RunV Try.prog (Instr.indexAt 74 t19 a1) h_6 fun t28 h_10 =>
  RunV Try.prog (Instr.loadAt 76 t28) h_10 fun t29 h_11 =>
  RunV Try.prog (Instr.indexAt 76 t29 Lx7) h_11 fun t31 h_12 =>
  RunV Try.prog (Instr.loadAt 4 t31) h_12 fun t32 h_13 =>
  CondP t32 (
  RunV Try.prog (Instr.buildSlice 33 1 #[(0, Lx7)]) h_13 fun t35 h_15 =>
  OpN Try.prog (Go.builtin Builtin.append #[33, 33] 33 #[false, false] #[Lx5, t35]) h_15 fun t36 h_16 =>
  J_1 t36 h_16) (
  J_1 Lx5 h_13)) (
  K Lx5 h_6))) fun J =>
  RunV Try.prog (binS BinOp.lss 3 (Operand.tmp 9) (Operand.const (Value.int IntKind.i64 0)) a1 (Value.int IntKind.i64 0)) h_1 fun t10 h_17 =>
  GuardP t10 false (
  OpN Try.prog (Go.builtin Builtin.len #[37] 3 #[false] #[a0]) h_17 fun t14 h_18 =>
  RunV Try.prog (binS BinOp.geq 3 (Operand.tmp 12) (Operand.tmp 14) a1 t14) h_18 fun t15 h_19 =>
  J t15 h_19) (
  J (Value.bool true) h_17)
def ann33 : Ann := { loops := [(6, [5, 7])], held := [] }
theorem F33_eq (a0 a1 : Value) (h : Heap) (K : Value → Heap → Prop) : F33 a0 a1 h K = W Try.prog ann33 (bodyOf Try.f33) (bodyQ Try.prog Try.f33.results.toList K) (argsE [a0, a1]) h := by kernel_rfl
theorem F33_wf : (wf Try.f33.ntmps ann33 (bodyOf Try.f33) && Nat.ble Try.f33.ntmps ghost && !memN (writes (bodyOf Try.f33)) ghost) = true := by kernel_rfl
theorem F33_b : Try.f33.body.isSome = true := by kernel_rfl
theorem F33_n : (Try.f33.name == "runtime.NumGoroutine") = false := by kernel_rfl
theorem R33 (args : Array Value) (w : World) : (callFunc 33 args).run Try.prog w = .ok (.enter 33 args) w := callFunc_run Try.func33 F33_b F33_n args w
theorem S33 {a0 a1 : Value} {h : Heap} {K : Value → Heap → Prop} (H : F33 a0 a1 h K) : CallF Try.prog 33 #[a0, a1] h K :=
  callF_of_W mo Try.func33 F33_b F33_n F33_wf (args := [a0, a1]) rfl (F33_eq a0 a1 h K ▸ H)

/- replevin/ring.Reach -/
def F36 (a0 a1 : Value) (h : Heap) (K : Value → Heap → Prop) : Prop :=
  CallF Try.prog 61 #[a0, a1] h fun t13 h_1 =>
  RunV Try.prog (Op.unary UnOp.not t13) h_1 fun t14 h_2 =>
  CondP t14 (
  K (Value.slice none 0 0) h_2) (
  OpN Try.prog (Go.builtin Builtin.len #[38] 3 #[false] #[a0]) h_2 fun t16 h_3 =>
  RunV Try.prog (Instr.makeSlice 76 t16 t16) h_3 fun t17 h_4 =>
  CallF Try.prog 54 #[a0, a1] h_4 fun t20 h_5 =>
  Loop1 t20 h_5 fun Ljs Lx6 h_6 Ln =>
  OpN Try.prog (Go.builtin Builtin.len #[33] 3 #[false] #[Lx6]) h_6 fun t22 h_7 =>
  RunV Try.prog (binS BinOp.gtr 3 (Operand.tmp 22) (Operand.const (Value.int IntKind.i64 0)) t22 (Value.int IntKind.i64 0)) h_7 fun t23 h_8 =>
  CondP t23 (
  OpN Try.prog (Go.builtin Builtin.len #[33] 3 #[false] #[Lx6]) h_8 fun t26 h_10 =>
  RunV Try.prog (binS BinOp.sub 3 (Operand.tmp 26) (Operand.const (Value.int IntKind.i64 1)) t26 (Value.int IntKind.i64 1)) h_10 fun t27 h_11 =>
  RunV Try.prog (Instr.indexAt 33 Lx6 t27) h_11 fun t28 h_12 =>
  RunV Try.prog (Instr.loadAt 3 t28) h_12 fun t29 h_13 =>
  OpN Try.prog (Go.builtin Builtin.len #[33] 3 #[false] #[Lx6]) h_13 fun t32 h_14 =>
  RunV Try.prog (binS BinOp.sub 3 (Operand.tmp 32) (Operand.const (Value.int IntKind.i64 1)) t32 (Value.int IntKind.i64 1)) h_14 fun t33 h_15 =>
  RunV Try.prog (Instr.sliceAt 33 Lx6 none (some t33) none) h_15 fun t34 h_16 =>
  RunV Try.prog (Instr.indexAt 76 t17 t29) h_16 fun t37 h_17 =>
  RunV Try.prog (Instr.loadAt 4 t37) h_17 fun t38 h_18 =>
  RunV Try.prog (Op.unary UnOp.not t38) h_18 fun t39 h_19 =>
  CondP t39 (
  RunV Try.prog (Instr.indexAt 76 t17 t29) h_19 fun t42 h_21 =>
  RunU Try.prog (Instr.storeAt 4 t42 (Value.bool true)) h_21 fun h_22 =>
  CallF Try.prog 54 #[a0, t29] h_22 fun t46 h_23 =>
  OpN Try.prog (Go.builtin Builtin.append #[33, 33] 33 #[false, false] #[t34, t46]) h_23 fun t47 h_24 =>
  Ln t47 h_24) (
  Ln t34 h_19)) (
  OpN Try.prog (Go.builtin Builtin.len #[76] 3 #[false] #[t17]) h_8 fun t49 h_25 =>
  Loop2 (Value.slice none 0 0) (Value.int IntKind.i64 0) h_25 fun L_1js L_1x8 L_1x50 h_26 L_1n =>
  RunV Try.prog (binS BinOp.lss 3 (Operand.tmp 50) (Operand.tmp 49) L_1x50 t49) h_26 fun t51 h_27 =>
  CondP t51 (
  Join1 (fun J_2x8 h_28 =>
  RunV Try.prog (binS BinOp.add 3 (Operand.tmp 50) (Operand.const (Value.int IntKind.i64 1)) L_1x50 (Value.int IntKind.i64 1)) h_28 fun t60 h_29 =>
  L_1n J_2x8 t60 h_29) fun J_2 =>
  RunV Try.prog (Instr.indexAt 76 t17 L_1x50) h_27 fun t53 h_31 =>
  RunV Try.prog (Instr.loadAt 4 t53) h_31 fun t54 h_32 =>
  CondP t54 (
  RunV Try.prog (Instr.buildSlice 33 1 #[(0, L_1x50)]) h_32 fun t58 h_34 =>
  OpN Try.prog (Go.builtin Builtin.append #[33, 33] 33 #[false, false] #[L_1x8, t58]) h_34 fun t59 h_35 =>
  J_2 t59 h_35) (
  J_2 L_1x8 h_32)) (
  K L_1x8 h_27)))
def ann36 : Ann := { loops := [(13, [8, 50]), (5, [6])], held := [] }
theorem F36_eq (a0 a1 : Value) (h : Heap) (K : Value → Heap → Prop) : F36 a0 a1 h K = W Try.prog ann36 (bodyOf Try.f36) (bodyQ Try.prog Try.f36.results.toList K) (argsE [a0, a1]) h := by kernel_rfl
theorem F36_wf : (wf Try.f36.ntmps ann36 (bodyOf Try.f36) && Nat.ble Try.f36.ntmps ghost && !memN (writes (bodyOf Try.f36)) ghost) = true := by kernel_rfl
theorem F36_b : Try.f36.body.isSome = true := by kernel_rfl
theorem F36_n : (Try.f36.name == "runtime.NumGoroutine") = false := by kernel_rfl
theorem R36 (args : Array Value) (w : World) : (callFunc 36 args).run Try.prog w = .ok (.enter 36 args) w := callFunc_run Try.func36 F36_b F36_n args w
theorem S36 {a0 a1 : Value} {h : Heap} {K : Value → Heap → Prop} (H : F36 a0 a1 h K) : CallF Try.prog 36 #[a0, a1] h K :=
  callF_of_W mo Try.func36 F36_b F36_n F36_wf (args := [a0, a1]) rfl (F36_eq a0 a1 h K ▸ H)

/- replevin/needs.places -/
def F40 (a0 a1 : Value) (h : Heap) (K : Value → Heap → Prop) : Prop :=
  RunV Try.prog (Instr.box 25 a0) h fun t2 h_1 =>
  RunV Try.prog (Instr.makeMap 46 none) h_1 fun t10 h_2 =>
  RunV Try.prog (Instr.fieldAt 25 t2 1) h_2 fun t11 h_3 =>
  RunV Try.prog (Instr.loadAt 23 t11) h_3 fun t12 h_4 =>
  OpN Try.prog (Go.builtin Builtin.len #[23] 3 #[false] #[t12]) h_4 fun t13 h_5 =>
  Loop1 (Value.int IntKind.i64 0) h_5 fun Ljs Lx14 h_6 Ln =>
  RunV Try.prog (binS BinOp.lss 3 (Operand.tmp 14) (Operand.tmp 13) Lx14 t13) h_6 fun t15 h_7 =>
  CondP t15 (
  Join0 (fun  h_8 =>
  RunV Try.prog (binS BinOp.add 3 (Operand.tmp 14) (Operand.const (Value.int IntKind.i64 1)) Lx14 (Value.int IntKind.i64 1)) h_8 fun t32 h_9 =>
  Ln t32 h_9) fun J =>
  RunV Try.prog (Instr.indexAt 23 t12 Lx14) h_7 fun t16 h_11 =>
  RunV Try.prog (Instr.loadAt 48 t16) h_11 fun t17 h_12 =>
  RunV Try.prog (Instr.alloc 48 true (.tuple #[])) h_12 fun t7 h_13 =>
  RunU Try.prog (Instr.storeAt 48 t7 t17) h_13 fun h_14 =>
  RunV Try.prog (Instr.loadAt 48 t7) h_14 fun t20 h_15 =>
  CallV Try.prog a1 #[t20] h_15 fun t21 h_16 =>
  RunV Try.prog (Instr.extract t21 0) h_16 fun t22 h_17 =>
  RunV Try.prog (Instr.extract t21 1) h_17 fun t23 h_18 =>
  Join1 (fun J_2x29 h_19 =>
  CondP J_2x29 (
  RunU Try.prog (Instr.mapUpdate 46 t10 t22 (Value.bool true)) h_19 fun h_21 =>
  J h_21) (
  J h_19)) fun J_2 =>
  GuardP t23 true (
  RunV Try.prog (Instr.loadAt 25 t2) h_18 fun t26 h_22 =>
  RunV Try.prog (Instr.loadAt 48 t7) h_22 fun t27 h_23 =>
  CallF Try.prog 51 #[t26, t27] h_23 fun t28 h_24 =>
  J_2 t28 h_24) (
  J_2 (Value.bool false) h_18)) (
  CallF Try.prog 64 #[t10] h_7 fun t34 h_25 =>
  CallF Try.prog 63 #[t34] h_25 fun t35 h_26 =>
  K t35 h_26)
def ann40 : Ann := { loops := [(3, [14])], held := [] }
theorem F40_eq (a0 a1 : Value) (h : Heap) (K : Value → Heap → Prop) : F40 a0 a1 h K = W Try.prog ann40 (bodyOf Try.f40) (bodyQ Try.prog Try.f40.results.toList K) (argsE [a0, a1]) h := by kernel_rfl
theorem F40_wf : (wf Try.f40.ntmps ann40 (bodyOf Try.f40) && Nat.ble Try.f40.ntmps ghost && !memN (writes (bodyOf Try.f40)) ghost) = true := by kernel_rfl
theorem F40_b : Try.f40.body.isSome = true := by kernel_rfl
theorem F40_n : (Try.f40.name == "runtime.NumGoroutine") = false := by kernel_rfl
theorem R40 (args : Array Value) (w : World) : (callFunc 40 args).run Try.prog w = .ok (.enter 40 args) w := callFunc_run Try.func40 F40_b F40_n args w
theorem S40 {a0 a1 : Value} {h : Heap} {K : Value → Heap → Prop} (H : F40 a0 a1 h K) : CallF Try.prog 40 #[a0, a1] h K :=
  callF_of_W mo Try.func40 F40_b F40_n F40_wf (args := [a0, a1]) rfl (F40_eq a0 a1 h K ▸ H)

/- replevin/needs.Blocks$1 -/
def F41 (a0 a1 : Value) (h : Heap) (K : Value → Heap → Prop) : Prop :=
  RunV Try.prog (Instr.box 48 a0) h fun t2 h_1 =>
  Quiet h_1 fun C =>
  QV Try.prog C (Instr.fieldAt 48 t2 1) fun t5 =>
  QV Try.prog C (Instr.loadAt 3 t5) fun t6 =>
  QV Try.prog C (Instr.fieldAt 48 t2 2) fun t7 =>
  QV Try.prog C (Instr.loadAt 3 t7) fun t8 =>
  QV Try.prog C (Instr.loadAt 3 a1) fun t9 =>
  QV Try.prog C (binS BinOp.eql 3 (Operand.tmp 8) (Operand.tmp 9) t8 t9) fun t10 =>
  GuardP t10 true (
  QV Try.prog C (Instr.fieldAt 48 t2 0) fun t12 =>
  QV Try.prog C (Instr.loadAt 3 t12) fun t13 =>
  QV Try.prog C (binS BinOp.eql 3 (Operand.tmp 13) (Operand.const (Value.int IntKind.i64 1)) t13 (Value.int IntKind.i64 1)) fun t14 =>
  GuardP t14 false (
  QV Try.prog C (Instr.fieldAt 48 t2 0) fun t16 =>
  QV Try.prog C (Instr.loadAt 3 t16) fun t17 =>
  QV Try.prog C (binS BinOp.eql 3 (Operand.tmp 17) (Operand.const (Value.int IntKind.i64 5)) t17 (Value.int IntKind.i64 5)) fun t18 =>
  QEnd C fun h_3 =>
  K (.tuple #[t6, t18]) h_3) (
  QEnd C fun h_4 =>
  K (.tuple #[t6, (Value.bool true)]) h_4)) (
  SkipP undef (
  SkipP undef (
  SkipP undef (
  QEnd C fun h_5 =>
  K (.tuple #[t6, (Value.bool false)]) h_5))))
def ann41 : Ann := { loops := [], held := [] }
theorem F41_eq (a0 a1 : Value) (h : Heap) (K : Value → Heap → Prop) : F41 a0 a1 h K = W Try.prog ann41 (bodyOf Try.f41) (bodyQ Try.prog Try.f41.results.toList K) (argsE [a0, a1]) h := by kernel_rfl
theorem F41_wf : (wf Try.f41.ntmps ann41 (bodyOf Try.f41) && Nat.ble Try.f41.ntmps ghost && !memN (writes (bodyOf Try.f41)) ghost) = true := by kernel_rfl
theorem F41_b : Try.f41.body.isSome = true := by kernel_rfl
theorem F41_n : (Try.f41.name == "runtime.NumGoroutine") = false := by kernel_rfl
theorem R41 (args : Array Value) (w : World) : (callFunc 41 args).run Try.prog w = .ok (.enter 41 args) w := callFunc_run Try.func41 F41_b F41_n args w
theorem S41 {a0 a1 : Value} {h : Heap} {K : Value → Heap → Prop} (H : F41 a0 a1 h K) : CallF Try.prog 41 #[a0, a1] h K :=
  callF_of_W mo Try.func41 F41_b F41_n F41_wf (args := [a0, a1]) rfl (F41_eq a0 a1 h K ▸ H)

/- replevin/replevinref07.tied -/
def F42 (a0 a1 a2 a3 : Value) (h : Heap) (K : Value → Heap → Prop) : Prop :=
  RunV Try.prog (Instr.box 30 a0) h fun t4 h_1 =>
  Loop1 (Value.int IntKind.i64 0) h_1 fun Ljs Lx9 h_2 Ln =>
  RunV Try.prog (Instr.fieldAt 30 t4 1) h_2 fun t12 h_3 =>
  RunV Try.prog (Instr.loadAt 28 t12) h_3 fun t13 h_4 =>
  OpN Try.prog (Go.builtin Builtin.len #[28] 3 #[false] #[t13]) h_4 fun t14 h_5 =>
  RunV Try.prog (binS BinOp.lss 3 (Operand.tmp 11) (Operand.tmp 14) Lx9 t14) h_5 fun t15 h_6 =>
  CondP t15 (
  RunV Try.prog (Instr.fieldAt 30 t4 1) h_6 fun t18 h_7 =>
  RunV Try.prog (Instr.loadAt 28 t18) h_7 fun t19 h_8 =>
  RunV Try.prog (Instr.indexAt 28 t19 Lx9) h_8 fun t21 h_9 =>
  RunV Try.prog (Instr.loadAt 67 t21) h_9 fun t22 h_10 =>
  RunV Try.prog (Instr.alloc 67 true (.tuple #[])) h_10 fun t10 h_11 =>
  RunU Try.prog (Instr.storeAt 67 t10 t22) h_11 fun h_12 =>
  Join1 (fun Jx38 h_13 =>
  CondP Jx38 (
  K (Value.bool true) h_13) (
  RunV Try.prog (binS BinOp.add 3 (Operand.tmp 16) (Operand.const (Value.int IntKind.i64 1)) Lx9 (Value.int IntKind.i64 1)) h_13 fun t17 h_14 =>
  Ln t17 h_14)) fun J =>
  RunV Try.prog (Instr.fieldAt 67 t10 0) h_12 fun t23 h_15 =>
  RunV Try.prog (Instr.loadAt 3 t23) h_15 fun t24 h_16 =>
  RunV Try.prog (binS BinOp.eql 3 (Operand.tmp 24) (Operand.tmp 25) t24 a1) h_16 fun t26 h_17 =>
  GuardP t26 true (
  RunV Try.prog (Instr.fieldAt 67 t10 1) h_17 fun t28 h_18 =>
  RunV Try.prog (Instr.loadAt 3 t28) h_18 fun t29 h_19 =>
  RunV Try.prog (binS BinOp.eql 3 (Operand.tmp 29) (Operand.tmp 30) t29 a2) h_19 fun t31 h_20 =>
  GuardP t31 true (
  RunV Try.prog (Instr.fieldAt 67 t10 2) h_20 fun t34 h_21 =>
  RunV Try.prog (Instr.loadAt 3 t34) h_21 fun t35 h_22 =>
  RunV Try.prog (binS BinOp.eql 3 (Operand.tmp 35) (Operand.tmp 36) t35 a3) h_22 fun t37 h_23 =>
  J t37 h_23) (
  J (Value.bool false) h_20)) (
  J (Value.bool false) h_17)) (
  K (Value.bool false) h_6)
def ann42 : Ann := { loops := [(2, [9])], held := [] }
theorem F42_eq (a0 a1 a2 a3 : Value) (h : Heap) (K : Value → Heap → Prop) : F42 a0 a1 a2 a3 h K = W Try.prog ann42 (bodyOf Try.f42) (bodyQ Try.prog Try.f42.results.toList K) (argsE [a0, a1, a2, a3]) h := by kernel_rfl
theorem F42_wf : (wf Try.f42.ntmps ann42 (bodyOf Try.f42) && Nat.ble Try.f42.ntmps ghost && !memN (writes (bodyOf Try.f42)) ghost) = true := by kernel_rfl
theorem F42_b : Try.f42.body.isSome = true := by kernel_rfl
theorem F42_n : (Try.f42.name == "runtime.NumGoroutine") = false := by kernel_rfl
theorem R42 (args : Array Value) (w : World) : (callFunc 42 args).run Try.prog w = .ok (.enter 42 args) w := callFunc_run Try.func42 F42_b F42_n args w
theorem S42 {a0 a1 a2 a3 : Value} {h : Heap} {K : Value → Heap → Prop} (H : F42 a0 a1 a2 a3 h K) : CallF Try.prog 42 #[a0, a1, a2, a3] h K :=
  callF_of_W mo Try.func42 F42_b F42_n F42_wf (args := [a0, a1, a2, a3]) rfl (F42_eq a0 a1 a2 a3 h K ▸ H)

/- replevin/needs.Calls$1 -/
def F43 (a0 a1 : Value) (h : Heap) (K : Value → Heap → Prop) : Prop :=
  RunV Try.prog (Instr.box 48 a0) h fun t2 h_1 =>
  Quiet h_1 fun C =>
  QV Try.prog C (Instr.fieldAt 48 t2 2) fun t5 =>
  QV Try.prog C (Instr.loadAt 3 t5) fun t6 =>
  QV Try.prog C (Instr.fieldAt 48 t2 1) fun t7 =>
  QV Try.prog C (Instr.loadAt 3 t7) fun t8 =>
  QV Try.prog C (Instr.loadAt 3 a1) fun t9 =>
  QV Try.prog C (binS BinOp.eql 3 (Operand.tmp 8) (Operand.tmp 9) t8 t9) fun t10 =>
  GuardP t10 true (
  QV Try.prog C (Instr.fieldAt 48 t2 0) fun t12 =>
  QV Try.prog C (Instr.loadAt 3 t12) fun t13 =>
  QV Try.prog C (binS BinOp.eql 3 (Operand.tmp 13) (Operand.const (Value.int IntKind.i64 2)) t13 (Value.int IntKind.i64 2)) fun t14 =>
  QEnd C fun h_3 =>
  K (.tuple #[t6, t14]) h_3) (
  QEnd C fun h_4 =>
  K (.tuple #[t6, (Value.bool false)]) h_4)
def ann43 : Ann := { loops := [], held := [] }
theorem F43_eq (a0 a1 : Value) (h : Heap) (K : Value → Heap → Prop) : F43 a0 a1 h K = W Try.prog ann43 (bodyOf Try.f43) (bodyQ Try.prog Try.f43.results.toList K) (argsE [a0, a1]) h := by kernel_rfl
theorem F43_wf : (wf Try.f43.ntmps ann43 (bodyOf Try.f43) && Nat.ble Try.f43.ntmps ghost && !memN (writes (bodyOf Try.f43)) ghost) = true := by kernel_rfl
theorem F43_b : Try.f43.body.isSome = true := by kernel_rfl
theorem F43_n : (Try.f43.name == "runtime.NumGoroutine") = false := by kernel_rfl
theorem R43 (args : Array Value) (w : World) : (callFunc 43 args).run Try.prog w = .ok (.enter 43 args) w := callFunc_run Try.func43 F43_b F43_n args w
theorem S43 {a0 a1 : Value} {h : Heap} {K : Value → Heap → Prop} (H : F43 a0 a1 h K) : CallF Try.prog 43 #[a0, a1] h K :=
  callF_of_W mo Try.func43 F43_b F43_n F43_wf (args := [a0, a1]) rfl (F43_eq a0 a1 h K ▸ H)

/- replevin/needs.joined[int] -/
def F44 (a0 a1 : Value) (h : Heap) (K : Value → Heap → Prop) : Prop :=
  RunV Try.prog (Instr.buildSlice 37 2 #[(0, a0), (1, a1)]) h fun t8 h_1 =>
  CallF Try.prog 65 #[t8] h_1 fun t9 h_2 =>
  CallF Try.prog 57 #[t9] h_2 fun t11 h_3 =>
  CallF Try.prog 66 #[t9] h_3 fun t13 h_4 =>
  K t13 h_4
def ann44 : Ann := { loops := [], held := [] }
theorem F44_eq (a0 a1 : Value) (h : Heap) (K : Value → Heap → Prop) : F44 a0 a1 h K = W Try.prog ann44 (bodyOf Try.f44) (bodyQ Try.prog Try.f44.results.toList K) (argsE [a0, a1]) h := by kernel_rfl
theorem F44_wf : (wf Try.f44.ntmps ann44 (bodyOf Try.f44) && Nat.ble Try.f44.ntmps ghost && !memN (writes (bodyOf Try.f44)) ghost) = true := by kernel_rfl
theorem F44_b : Try.f44.body.isSome = true := by kernel_rfl
theorem F44_n : (Try.f44.name == "runtime.NumGoroutine") = false := by kernel_rfl
theorem R44 (args : Array Value) (w : World) : (callFunc 44 args).run Try.prog w = .ok (.enter 44 args) w := callFunc_run Try.func44 F44_b F44_n args w
theorem S44 {a0 a1 : Value} {h : Heap} {K : Value → Heap → Prop} (H : F44 a0 a1 h K) : CallF Try.prog 44 #[a0, a1] h K :=
  callF_of_W mo Try.func44 F44_b F44_n F44_wf (args := [a0, a1]) rfl (F44_eq a0 a1 h K ▸ H)

/- replevin/needs.at -/
def F45 (a0 a1 : Value) (h : Heap) (K : Value → Heap → Prop) : Prop :=
  RunV Try.prog (Instr.box 25 a0) h fun t2 h_1 =>
  RunV Try.prog (Instr.fieldAt 25 t2 0) h_1 fun t8 h_2 =>
  RunV Try.prog (Instr.loadAt 22 t8) h_2 fun t9 h_3 =>
  OpN Try.prog (Go.builtin Builtin.len #[22] 3 #[false] #[t9]) h_3 fun t10 h_4 =>
  Loop2 (Value.slice none 0 0) (Value.int IntKind.i64 0) h_4 fun Ljs Lx5 Lx11 h_5 Ln =>
  RunV Try.prog (binS BinOp.lss 3 (Operand.tmp 11) (Operand.tmp 10) Lx11 t10) h_5 fun t12 h_6 =>
  CondP t12 (
  Join1 (fun Jx5 h_7 =>
  RunV Try.prog (binS BinOp.add 3 (Operand.tmp 11) (Operand.const (Value.int IntKind.i64 1)) Lx11 (Value.int IntKind.i64 1)) h_7 fun t23 h_8 =>
  Ln Jx5 t23 h_8) fun J =>
  RunV Try.prog (Instr.indexAt 22 t9 Lx11) h_6 fun t14 h_10 =>
  RunV Try.prog (Instr.loadAt 66 t14) h_10 fun t15 h_11 =>
  RunV Try.prog (Instr.alloc 66 true (.tuple #[])) h_11 fun t7 h_12 =>
  RunU Try.prog (Instr.storeAt 66 t7 t15) h_12 fun h_13 =>
  RunV Try.prog (Instr.loadAt 66 t7) h_13 fun t17 h_14 =>
  CallV Try.prog a1 #[t17] h_14 fun t18 h_15 =>
  CondP t18 (
  RunV Try.prog (Instr.buildSlice 33 1 #[(0, Lx11)]) h_15 fun t21 h_17 =>
  OpN Try.prog (Go.builtin Builtin.append #[33, 33] 33 #[false, false] #[Lx5, t21]) h_17 fun t22 h_18 =>
  J t22 h_18) (
  J Lx5 h_15)) (
  K Lx5 h_6)
def ann45 : Ann := { loops := [(3, [5, 11])], held := [] }
theorem F45_eq (a0 a1 : Value) (h : Heap) (K : Value → Heap → Prop) : F45 a0 a1 h K = W Try.prog ann45 (bodyOf Try.f45) (bodyQ Try.prog Try.f45.results.toList K) (argsE [a0, a1]) h := by kernel_rfl
theorem F45_wf : (wf Try.f45.ntmps ann45 (bodyOf Try.f45) && Nat.ble Try.f45.ntmps ghost && !memN (writes (bodyOf Try.f45)) ghost) = true := by kernel_rfl
theorem F45_b : Try.f45.body.isSome = true := by kernel_rfl
theorem F45_n : (Try.f45.name == "runtime.NumGoroutine") = false := by kernel_rfl
theorem R45 (args : Array Value) (w : World) : (callFunc 45 args).run Try.prog w = .ok (.enter 45 args) w := callFunc_run Try.func45 F45_b F45_n args w
theorem S45 {a0 a1 : Value} {h : Heap} {K : Value → Heap → Prop} (H : F45 a0 a1 h K) : CallF Try.prog 45 #[a0, a1] h K :=
  callF_of_W mo Try.func45 F45_b F45_n F45_wf (args := [a0, a1]) rfl (F45_eq a0 a1 h K ▸ H)

/- replevin/needs.Called$1 -/
def F46 (a0 : Value) (h : Heap) (K : Value → Heap → Prop) : Prop :=
  RunV Try.prog (Instr.box 66 a0) h fun t1 h_1 =>
  RunV Try.prog (Instr.fieldAt 66 t1 5) h_1 fun t3 h_2 =>
  RunV Try.prog (Instr.loadAt 3 t3) h_2 fun t4 h_3 =>
  RunV Try.prog (binS BinOp.geq 3 (Operand.tmp 4) (Operand.const (Value.int IntKind.i64 0)) t4 (Value.int IntKind.i64 0)) h_3 fun t5 h_4 =>
  K t5 h_4
def ann46 : Ann := { loops := [], held := [] }
theorem F46_eq (a0 : Value) (h : Heap) (K : Value → Heap → Prop) : F46 a0 h K = W Try.prog ann46 (bodyOf Try.f46) (bodyQ Try.prog Try.f46.results.toList K) (argsE [a0]) h := by kernel_rfl
theorem F46_wf : (wf Try.f46.ntmps ann46 (bodyOf Try.f46) && Nat.ble Try.f46.ntmps ghost && !memN (writes (bodyOf Try.f46)) ghost) = true := by kernel_rfl
theorem F46_b : Try.f46.body.isSome = true := by kernel_rfl
theorem F46_n : (Try.f46.name == "runtime.NumGoroutine") = false := by kernel_rfl
theorem R46 (args : Array Value) (w : World) : (callFunc 46 args).run Try.prog w = .ok (.enter 46 args) w := callFunc_run Try.func46 F46_b F46_n args w
theorem S46 {a0 : Value} {h : Heap} {K : Value → Heap → Prop} (H : F46 a0 h K) : CallF Try.prog 46 #[a0] h K :=
  callF_of_W mo Try.func46 F46_b F46_n F46_wf (args := [a0]) rfl (F46_eq a0 h K ▸ H)

/- replevin/needs.Called$2 -/
def F47 (a0 : Value) (h : Heap) (K : Value → Heap → Prop) : Prop :=
  RunV Try.prog (Instr.box 48 a0) h fun t1 h_1 =>
  Quiet h_1 fun C =>
  QV Try.prog C (Instr.fieldAt 48 t1 2) fun t4 =>
  QV Try.prog C (Instr.loadAt 3 t4) fun t5 =>
  QV Try.prog C (Instr.fieldAt 48 t1 0) fun t6 =>
  QV Try.prog C (Instr.loadAt 3 t6) fun t7 =>
  QV Try.prog C (binS BinOp.eql 3 (Operand.tmp 7) (Operand.const (Value.int IntKind.i64 2)) t7 (Value.int IntKind.i64 2)) fun t8 =>
  QEnd C fun h_2 =>
  K (.tuple #[t5, t8]) h_2
def ann47 : Ann := { loops := [], held := [] }
theorem F47_eq (a0 : Value) (h : Heap) (K : Value → Heap → Prop) : F47 a0 h K = W Try.prog ann47 (bodyOf Try.f47) (bodyQ Try.prog Try.f47.results.toList K) (argsE [a0]) h := by kernel_rfl
theorem F47_wf : (wf Try.f47.ntmps ann47 (bodyOf Try.f47) && Nat.ble Try.f47.ntmps ghost && !memN (writes (bodyOf Try.f47)) ghost) = true := by kernel_rfl
theorem F47_b : Try.f47.body.isSome = true := by kernel_rfl
theorem F47_n : (Try.f47.name == "runtime.NumGoroutine") = false := by kernel_rfl
theorem R47 (args : Array Value) (w : World) : (callFunc 47 args).run Try.prog w = .ok (.enter 47 args) w := callFunc_run Try.func47 F47_b F47_n args w
theorem S47 {a0 : Value} {h : Heap} {K : Value → Heap → Prop} (H : F47 a0 h K) : CallF Try.prog 47 #[a0] h K :=
  callF_of_W mo Try.func47 F47_b F47_n F47_wf (args := [a0]) rfl (F47_eq a0 h K ▸ H)

/- replevin/replevinref06.Table -/
def F48 (a0 : Value) (h : Heap) (K : Value → Heap → Prop) : Prop :=
  RunV Try.prog (Instr.buildSlice 74 0 #[]) h fun t10 h_1 =>
  Loop2 t10 (Value.int IntKind.i64 0) h_1 fun Ljs Lx3 Lx4 h_2 Ln =>
  OpN Try.prog (Go.builtin Builtin.len #[37] 3 #[false] #[a0]) h_2 fun t13 h_3 =>
  RunV Try.prog (binS BinOp.lss 3 (Operand.tmp 11) (Operand.tmp 13) Lx4 t13) h_3 fun t14 h_4 =>
  CondP t14 (
  OpN Try.prog (Go.builtin Builtin.len #[37] 3 #[false] #[a0]) h_4 fun t19 h_5 =>
  RunV Try.prog (Instr.makeSlice 76 t19 t19) h_5 fun t20 h_6 =>
  RunV Try.prog (Instr.buildSlice 74 1 #[(0, t20)]) h_6 fun t21 h_7 =>
  OpN Try.prog (Go.builtin Builtin.append #[74, 74] 74 #[false, false] #[Lx3, t21]) h_7 fun t22 h_8 =>
  Loop1 (Value.int IntKind.i64 0) h_8 fun L_1js L_1x5 h_9 L_1n =>
  RunV Try.prog (Instr.indexAt 37 a0 Lx4) h_9 fun t26 h_10 =>
  RunV Try.prog (Instr.loadAt 33 t26) h_10 fun t27 h_11 =>
  OpN Try.prog (Go.builtin Builtin.len #[33] 3 #[false] #[t27]) h_11 fun t28 h_12 =>
  RunV Try.prog (binS BinOp.lss 3 (Operand.tmp 23) (Operand.tmp 28) L_1x5 t28) h_12 fun t29 h_13 =>
  CondP t29 (
  Join0 (fun  h_14 =>
  RunV Try.prog (binS BinOp.add 3 (Operand.tmp 30) (Operand.const (Value.int IntKind.i64 1)) L_1x5 (Value.int IntKind.i64 1)) h_14 fun t31 h_15 =>
  L_1n t31 h_15) fun J =>
  RunV Try.prog (Instr.indexAt 37 a0 Lx4) h_13 fun t34 h_17 =>
  RunV Try.prog (Instr.loadAt 33 t34) h_17 fun t35 h_18 =>
  RunV Try.prog (Instr.indexAt 33 t35 L_1x5) h_18 fun t37 h_19 =>
  RunV Try.prog (Instr.loadAt 3 t37) h_19 fun t38 h_20 =>
  Join1 (fun J_2x46 h_21 =>
  CondP J_2x46 (
  RunV Try.prog (Instr.indexAt 74 t22 Lx4) h_21 fun t49 h_23 =>
  RunV Try.prog (Instr.loadAt 76 t49) h_23 fun t50 h_24 =>
  RunV Try.prog (Instr.indexAt 76 t50 t38) h_24 fun t52 h_25 =>
  RunU Try.prog (Instr.storeAt 4 t52 (Value.bool true)) h_25 fun h_26 =>
  J h_26) (
  J h_21)) fun J_2 =>
  RunV Try.prog (binS BinOp.geq 3 (Operand.tmp 39) (Operand.const (Value.int IntKind.i64 0)) t38 (Value.int IntKind.i64 0)) h_20 fun t40 h_27 =>
  GuardP t40 true (
  OpN Try.prog (Go.builtin Builtin.len #[37] 3 #[false] #[a0]) h_27 fun t44 h_28 =>
  RunV Try.prog (binS BinOp.lss 3 (Operand.tmp 42) (Operand.tmp 44) t38 t44) h_28 fun t45 h_29 =>
  J_2 t45 h_29) (
  J_2 (Value.bool false) h_27)) (
  RunV Try.prog (binS BinOp.add 3 (Operand.tmp 15) (Operand.const (Value.int IntKind.i64 1)) Lx4 (Value.int IntKind.i64 1)) h_13 fun t16 h_30 =>
  Ln t22 t16 h_30)) (
  Loop1 (Value.int IntKind.i64 0) h_4 fun L_2js L_2x7 h_31 L_2n =>
  OpN Try.prog (Go.builtin Builtin.len #[37] 3 #[false] #[a0]) h_31 fun t55 h_32 =>
  RunV Try.prog (binS BinOp.lss 3 (Operand.tmp 53) (Operand.tmp 55) L_2x7 t55) h_32 fun t56 h_33 =>
  CondP t56 (
  Loop1 (Value.int IntKind.i64 0) h_33 fun L_3js L_3x8 h_34 L_3n =>
  OpN Try.prog (Go.builtin Builtin.len #[37] 3 #[false] #[a0]) h_34 fun t61 h_35 =>
  RunV Try.prog (binS BinOp.lss 3 (Operand.tmp 59) (Operand.tmp 61) L_3x8 t61) h_35 fun t62 h_36 =>
  CondP t62 (
  Loop1 (Value.int IntKind.i64 0) h_36 fun L_4js L_4x9 h_37 L_4n =>
  Join1 (fun J_4x77 h_38 =>
  CondP J_4x77 (
  Join0 (fun  h_39 =>
  RunV Try.prog (binS BinOp.add 3 (Operand.tmp 78) (Operand.const (Value.int IntKind.i64 1)) L_4x9 (Value.int IntKind.i64 1)) h_39 fun t79 h_40 =>
  L_4n t79 h_40) fun J_5 =>
  Quiet h_38 fun S =>
  QV Try.prog S (Instr.indexAt 74 Lx3 L_3x8) fun t82 =>
  QV Try.prog S (Instr.loadAt 76 t82) fun t83 =>
  QV Try.prog S (Instr.indexAt 74 Lx3 L_3x8) fun t87 =>
  QV Try.prog S (Instr.loadAt 76 t87) fun t88 =>
  QV Try.prog S (Instr.indexAt 76 t88 L_4x9) fun t90 =>
  RunV Try.prog (Instr.loadAt 4 t90) h_38 fun t91 h_41 =>
  And (S h_41) (
  GuardP t91 false (
  QV Try.prog S (Instr.indexAt 74 Lx3 L_2x7) fun t95 =>
  QV Try.prog S (Instr.loadAt 76 t95) fun t96 =>
  QV Try.prog S (Instr.indexAt 76 t96 L_4x9) fun t98 =>
  QV Try.prog S (Instr.loadAt 4 t98) fun t99 =>
  QV Try.prog S (Instr.indexAt 76 t83 L_4x9) fun t101 =>
  RunU Try.prog (Instr.storeAt 4 t101 t99) h_41 fun h_42 =>
  And (S h_42) (
  J_5 h_42)) (
  QV Try.prog S (Instr.indexAt 76 t83 L_4x9) fun t101_1 =>
  RunU Try.prog (Instr.storeAt 4 t101_1 (Value.bool true)) h_41 fun h_43 =>
  And (S h_43) (
  J_5 h_43)))) (
  RunV Try.prog (binS BinOp.add 3 (Operand.tmp 63) (Operand.const (Value.int IntKind.i64 1)) L_3x8 (Value.int IntKind.i64 1)) h_38 fun t64 h_44 =>
  L_3n t64 h_44)) fun J_4 =>
  OpN Try.prog (Go.builtin Builtin.len #[37] 3 #[false] #[a0]) h_37 fun t67 h_45 =>
  RunV Try.prog (binS BinOp.lss 3 (Operand.tmp 65) (Operand.tmp 67) L_4x9 t67) h_45 fun t68 h_46 =>
  GuardP t68 true (
  RunV Try.prog (Instr.indexAt 74 Lx3 L_3x8) h_46 fun t72 h_47 =>
  RunV Try.prog (Instr.loadAt 76 t72) h_47 fun t73 h_48 =>
  RunV Try.prog (Instr.indexAt 76 t73 L_2x7) h_48 fun t75 h_49 =>
  RunV Try.prog (Instr.loadAt 4 t75) h_49 fun t76 h_50 =>
  J_4 t76 h_50) (
  J_4 (Value.bool false) h_46)) (
  RunV Try.prog (binS BinOp.add 3 (Operand.tmp 57) (Operand.const (Value.int IntKind.i64 1)) L_2x7 (Value.int IntKind.i64 1)) h_36 fun t58 h_51 =>
  L_2n t58 h_51)) (
  K Lx3 h_33))
def ann48 : Ann := { loops := [(7, [5]), (19, [9]), (16, [8]), (13, [7]), (3, [3, 4])], held := [(21, (.take 0 (.take 1 (.take 2 (.take 3 (.take 4 (.take 5 (.take 6 (.take 7 (.take 8 (.take 9 (.take 10 (.one 11 (.take 12 (.take 13 (.take 14 (.take 15 (.take 16 (.take 17 (.take 18 (.take 19 (.take 20 (.take 21 (.one 22 .nil))))))))))))))))))))))))] }
theorem F48_eq (a0 : Value) (h : Heap) (K : Value → Heap → Prop) : F48 a0 h K = W Try.prog ann48 (bodyOf Try.f48) (bodyQ Try.prog Try.f48.results.toList K) (argsE [a0]) h := by kernel_rfl
theorem F48_wf : (wf Try.f48.ntmps ann48 (bodyOf Try.f48) && Nat.ble Try.f48.ntmps ghost && !memN (writes (bodyOf Try.f48)) ghost) = true := by kernel_rfl
theorem F48_b : Try.f48.body.isSome = true := by kernel_rfl
theorem F48_n : (Try.f48.name == "runtime.NumGoroutine") = false := by kernel_rfl
theorem R48 (args : Array Value) (w : World) : (callFunc 48 args).run Try.prog w = .ok (.enter 48 args) w := callFunc_run Try.func48 F48_b F48_n args w
theorem S48 {a0 : Value} {h : Heap} {K : Value → Heap → Prop} (H : F48 a0 h K) : CallF Try.prog 48 #[a0] h K :=
  callF_of_W mo Try.func48 F48_b F48_n F48_wf (args := [a0]) rfl (F48_eq a0 h K ▸ H)

/- replevin/needs.Excluded$1 -/
def F49 (a0 : Value) (h : Heap) (K : Value → Heap → Prop) : Prop :=
  RunV Try.prog (Instr.box 66 a0) h fun t1 h_1 =>
  RunV Try.prog (Instr.fieldAt 66 t1 3) h_1 fun t3 h_2 =>
  RunV Try.prog (Instr.loadAt 4 t3) h_2 fun t4 h_3 =>
  RunV Try.prog (Op.unary UnOp.not t4) h_3 fun t5 h_4 =>
  K t5 h_4
def ann49 : Ann := { loops := [], held := [] }
theorem F49_eq (a0 : Value) (h : Heap) (K : Value → Heap → Prop) : F49 a0 h K = W Try.prog ann49 (bodyOf Try.f49) (bodyQ Try.prog Try.f49.results.toList K) (argsE [a0]) h := by kernel_rfl
theorem F49_wf : (wf Try.f49.ntmps ann49 (bodyOf Try.f49) && Nat.ble Try.f49.ntmps ghost && !memN (writes (bodyOf Try.f49)) ghost) = true := by kernel_rfl
theorem F49_b : Try.f49.body.isSome = true := by kernel_rfl
theorem F49_n : (Try.f49.name == "runtime.NumGoroutine") = false := by kernel_rfl
theorem R49 (args : Array Value) (w : World) : (callFunc 49 args).run Try.prog w = .ok (.enter 49 args) w := callFunc_run Try.func49 F49_b F49_n args w
theorem S49 {a0 : Value} {h : Heap} {K : Value → Heap → Prop} (H : F49 a0 h K) : CallF Try.prog 49 #[a0] h K :=
  callF_of_W mo Try.func49 F49_b F49_n F49_wf (args := [a0]) rfl (F49_eq a0 h K ▸ H)

/- replevin/needs.Excluded$2 -/
def F50 (a0 : Value) (h : Heap) (K : Value → Heap → Prop) : Prop :=
  RunV Try.prog (Instr.box 48 a0) h fun t1 h_1 =>
  Quiet h_1 fun C =>
  QV Try.prog C (Instr.fieldAt 48 t1 2) fun t4 =>
  QV Try.prog C (Instr.loadAt 3 t4) fun t5 =>
  QV Try.prog C (Instr.fieldAt 48 t1 0) fun t6 =>
  QV Try.prog C (Instr.loadAt 3 t6) fun t7 =>
  QV Try.prog C (binS BinOp.eql 3 (Operand.tmp 7) (Operand.const (Value.int IntKind.i64 4)) t7 (Value.int IntKind.i64 4)) fun t8 =>
  QEnd C fun h_2 =>
  K (.tuple #[t5, t8]) h_2
def ann50 : Ann := { loops := [], held := [] }
theorem F50_eq (a0 : Value) (h : Heap) (K : Value → Heap → Prop) : F50 a0 h K = W Try.prog ann50 (bodyOf Try.f50) (bodyQ Try.prog Try.f50.results.toList K) (argsE [a0]) h := by kernel_rfl
theorem F50_wf : (wf Try.f50.ntmps ann50 (bodyOf Try.f50) && Nat.ble Try.f50.ntmps ghost && !memN (writes (bodyOf Try.f50)) ghost) = true := by kernel_rfl
theorem F50_b : Try.f50.body.isSome = true := by kernel_rfl
theorem F50_n : (Try.f50.name == "runtime.NumGoroutine") = false := by kernel_rfl
theorem R50 (args : Array Value) (w : World) : (callFunc 50 args).run Try.prog w = .ok (.enter 50 args) w := callFunc_run Try.func50 F50_b F50_n args w
theorem S50 {a0 : Value} {h : Heap} {K : Value → Heap → Prop} (H : F50 a0 h K) : CallF Try.prog 50 #[a0] h K :=
  callF_of_W mo Try.func50 F50_b F50_n F50_wf (args := [a0]) rfl (F50_eq a0 h K ▸ H)

/- replevin/needs.two -/
def F51 (a0 a1 : Value) (h : Heap) (K : Value → Heap → Prop) : Prop :=
  RunV Try.prog (Instr.box 25 a0) h fun t2 h_1 =>
  RunV Try.prog (Instr.box 48 a1) h_1 fun t3 h_2 =>
  RunV Try.prog (Instr.fieldAt 48 t3 1) h_2 fun t5 h_4 =>
  RunV Try.prog (Instr.loadAt 3 t5) h_4 fun t6 h_5 =>
  RunV Try.prog (Instr.fieldAt 48 t3 2) h_5 fun t7 h_6 =>
  RunV Try.prog (Instr.loadAt 3 t7) h_6 fun t8 h_7 =>
  OpN Try.prog (Go.builtin Builtin.min #[3, 3] 3 #[false, false] #[t6, t8]) h_7 fun t9 h_8 =>
  RunV Try.prog (binS BinOp.geq 3 (Operand.tmp 9) (Operand.const (Value.int IntKind.i64 0)) t9 (Value.int IntKind.i64 0)) h_8 fun t10 h_9 =>
  GuardP t10 true (
  RunV Try.prog (Instr.fieldAt 48 t3 1) h_9 fun t12 h_10 =>
  RunV Try.prog (Instr.loadAt 3 t12) h_10 fun t13 h_11 =>
  RunV Try.prog (Instr.fieldAt 48 t3 2) h_11 fun t14 h_12 =>
  RunV Try.prog (Instr.loadAt 3 t14) h_12 fun t15 h_13 =>
  OpN Try.prog (Go.builtin Builtin.max #[3, 3] 3 #[false, false] #[t13, t15]) h_13 fun t16 h_14 =>
  RunV Try.prog (Instr.fieldAt 25 t2 0) h_14 fun t17 h_15 =>
  RunV Try.prog (Instr.loadAt 22 t17) h_15 fun t18 h_16 =>
  OpN Try.prog (Go.builtin Builtin.len #[22] 3 #[false] #[t18]) h_16 fun t19 h_17 =>
  RunV Try.prog (binS BinOp.lss 3 (Operand.tmp 16) (Operand.tmp 19) t16 t19) h_17 fun t20 h_18 =>
  K t20 h_18) (
  K (Value.bool false) h_9)
def ann51 : Ann := { loops := [], held := [] }
theorem F51_eq (a0 a1 : Value) (h : Heap) (K : Value → Heap → Prop) : F51 a0 a1 h K = W Try.prog ann51 (bodyOf Try.f51) (bodyQ Try.prog Try.f51.results.toList K) (argsE [a0, a1]) h := by kernel_rfl
theorem F51_wf : (wf Try.f51.ntmps ann51 (bodyOf Try.f51) && Nat.ble Try.f51.ntmps ghost && !memN (writes (bodyOf Try.f51)) ghost) = true := by kernel_rfl
theorem F51_b : Try.f51.body.isSome = true := by kernel_rfl
theorem F51_n : (Try.f51.name == "runtime.NumGoroutine") = false := by kernel_rfl
theorem R51 (args : Array Value) (w : World) : (callFunc 51 args).run Try.prog w = .ok (.enter 51 args) w := callFunc_run Try.func51 F51_b F51_n args w
theorem S51 {a0 a1 : Value} {h : Heap} {K : Value → Heap → Prop} (H : F51 a0 a1 h K) : CallF Try.prog 51 #[a0, a1] h K :=
  callF_of_W mo Try.func51 F51_b F51_n F51_wf (args := [a0, a1]) rfl (F51_eq a0 a1 h K ▸ H)

/- slices.Index[[]int,int] -/
def F52 (a0 a1 : Value) (h : Heap) (K : Value → Heap → Prop) : Prop :=
  OpN Try.prog (Go.builtin Builtin.len #[33] 3 #[false] #[a0]) h fun t7 h_1 =>
  Loop1 (Value.int IntKind.i64 0) h_1 fun Ljs Lx8 h_2 Ln =>
  RunV Try.prog (binS BinOp.lss 3 (Operand.tmp 8) (Operand.tmp 7) Lx8 t7) h_2 fun t9 h_3 =>
  CondP t9 (
  RunV Try.prog (Instr.indexAt 33 a0 Lx8) h_3 fun t14 h_4 =>
  RunV Try.prog (Instr.loadAt 3 t14) h_4 fun t15 h_5 =>
  RunV Try.prog (binS BinOp.eql 3 (Operand.tmp 11) (Operand.tmp 15) a1 t15) h_5 fun t16 h_6 =>
  CondP t16 (
  K Lx8 h_6) (
  RunV Try.prog (binS BinOp.add 3 (Operand.tmp 8) (Operand.const (Value.int IntKind.i64 1)) Lx8 (Value.int IntKind.i64 1)) h_6 fun t18 h_7 =>
  Ln t18 h_7)) (
  K (Value.int IntKind.i64 (-1)) h_3)
def ann52 : Ann := { loops := [(2, [8])], held := [] }
theorem F52_eq (a0 a1 : Value) (h : Heap) (K : Value → Heap → Prop) : F52 a0 a1 h K = W Try.prog ann52 (bodyOf Try.f52) (bodyQ Try.prog Try.f52.results.toList K) (argsE [a0, a1]) h := by kernel_rfl
theorem F52_wf : (wf Try.f52.ntmps ann52 (bodyOf Try.f52) && Nat.ble Try.f52.ntmps ghost && !memN (writes (bodyOf Try.f52)) ghost) = true := by kernel_rfl
theorem F52_b : Try.f52.body.isSome = true := by kernel_rfl
theorem F52_n : (Try.f52.name == "runtime.NumGoroutine") = false := by kernel_rfl
theorem R52 (args : Array Value) (w : World) : (callFunc 52 args).run Try.prog w = .ok (.enter 52 args) w := callFunc_run Try.func52 F52_b F52_n args w
theorem S52 {a0 a1 : Value} {h : Heap} {K : Value → Heap → Prop} (H : F52 a0 a1 h K) : CallF Try.prog 52 #[a0, a1] h K :=
  callF_of_W mo Try.func52 F52_b F52_n F52_wf (args := [a0, a1]) rfl (F52_eq a0 a1 h K ▸ H)

/- (replevin/ring.Net).ways -/
def F54 (a0 a1 : Value) (h : Heap) (K : Value → Heap → Prop) : Prop :=
  RunV Try.prog (Instr.box 38 a0) h fun t2 h_1 =>
  RunV Try.prog (Instr.loadAt 38 t2) h_1 fun t5 h_2 =>
  RunV Try.prog (Instr.indexAt 38 t5 a1) h_2 fun t7 h_3 =>
  RunV Try.prog (Instr.loadAt 33 t7) h_3 fun t8 h_4 =>
  CallF Try.prog 56 #[t8] h_4 fun t9 h_5 =>
  CallF Try.prog 67 #[t9, (Value.func (Fn.func 68) #[] #[t2])] h_5 fun t11 h_6 =>
  K t11 h_6
def ann54 : Ann := { loops := [], held := [] }
theorem F54_eq (a0 a1 : Value) (h : Heap) (K : Value → Heap → Prop) : F54 a0 a1 h K = W Try.prog ann54 (bodyOf Try.f54) (bodyQ Try.prog Try.f54.results.toList K) (argsE [a0, a1]) h := by kernel_rfl
theorem F54_wf : (wf Try.f54.ntmps ann54 (bodyOf Try.f54) && Nat.ble Try.f54.ntmps ghost && !memN (writes (bodyOf Try.f54)) ghost) = true := by kernel_rfl
theorem F54_b : Try.f54.body.isSome = true := by kernel_rfl
theorem F54_n : (Try.f54.name == "runtime.NumGoroutine") = false := by kernel_rfl
theorem R54 (args : Array Value) (w : World) : (callFunc 54 args).run Try.prog w = .ok (.enter 54 args) w := callFunc_run Try.func54 F54_b F54_n args w
theorem S54 {a0 a1 : Value} {h : Heap} {K : Value → Heap → Prop} (H : F54 a0 a1 h K) : CallF Try.prog 54 #[a0, a1] h K :=
  callF_of_W mo Try.func54 F54_b F54_n F54_wf (args := [a0, a1]) rfl (F54_eq a0 a1 h K ▸ H)

/- slices.Clone[[]int,int] -/
def F56 (a0 : Value) (h : Heap) (K : Value → Heap → Prop) : Prop :=
  RunV Try.prog (binS BinOp.eql 33 (Operand.tmp 3) (Operand.const (Value.slice none 0 0)) a0 (Value.slice none 0 0)) h fun t4 h_1 =>
  CondP t4 (
  K (Value.slice none 0 0) h_1) (
  RunV Try.prog (Instr.buildSlice 33 0 #[]) h_1 fun t5 h_2 =>
  OpN Try.prog (Go.builtin Builtin.append #[33, 33] 33 #[false, false] #[t5, a0]) h_2 fun t7 h_3 =>
  K t7 h_3)
def ann56 : Ann := { loops := [], held := [] }
theorem F56_eq (a0 : Value) (h : Heap) (K : Value → Heap → Prop) : F56 a0 h K = W Try.prog ann56 (bodyOf Try.f56) (bodyQ Try.prog Try.f56.results.toList K) (argsE [a0]) h := by kernel_rfl
theorem F56_wf : (wf Try.f56.ntmps ann56 (bodyOf Try.f56) && Nat.ble Try.f56.ntmps ghost && !memN (writes (bodyOf Try.f56)) ghost) = true := by kernel_rfl
theorem F56_b : Try.f56.body.isSome = true := by kernel_rfl
theorem F56_n : (Try.f56.name == "runtime.NumGoroutine") = false := by kernel_rfl
theorem R56 (args : Array Value) (w : World) : (callFunc 56 args).run Try.prog w = .ok (.enter 56 args) w := callFunc_run Try.func56 F56_b F56_n args w
theorem S56 {a0 : Value} {h : Heap} {K : Value → Heap → Prop} (H : F56 a0 h K) : CallF Try.prog 56 #[a0] h K :=
  callF_of_W mo Try.func56 F56_b F56_n F56_wf (args := [a0]) rfl (F56_eq a0 h K ▸ H)

/- slices.Sort[[]int,int] -/
def F57 (a0 : Value) (h : Heap) (K : Value → Heap → Prop) : Prop :=
  OpN Try.prog (Go.builtin Builtin.len #[33] 3 #[false] #[a0]) h fun t4 h_1 =>
  RunV Try.prog (convert 3 96 t4) h_1 fun t8 h_2 =>
  CallF Try.prog 70 #[t8] h_2 fun t9 h_3 =>
  CallF Try.prog 69 #[a0, (Value.int IntKind.i64 0), t4, t9] h_3 fun t10 h_4 =>
  K (.tuple #[]) h_4
def ann57 : Ann := { loops := [], held := [] }
theorem F57_eq (a0 : Value) (h : Heap) (K : Value → Heap → Prop) : F57 a0 h K = W Try.prog ann57 (bodyOf Try.f57) (bodyQ Try.prog Try.f57.results.toList K) (argsE [a0]) h := by kernel_rfl
theorem F57_wf : (wf Try.f57.ntmps ann57 (bodyOf Try.f57) && Nat.ble Try.f57.ntmps ghost && !memN (writes (bodyOf Try.f57)) ghost) = true := by kernel_rfl
theorem F57_b : Try.f57.body.isSome = true := by kernel_rfl
theorem F57_n : (Try.f57.name == "runtime.NumGoroutine") = false := by kernel_rfl
theorem R57 (args : Array Value) (w : World) : (callFunc 57 args).run Try.prog w = .ok (.enter 57 args) w := callFunc_run Try.func57 F57_b F57_n args w
theorem S57 {a0 : Value} {h : Heap} {K : Value → Heap → Prop} (H : F57 a0 h K) : CallF Try.prog 57 #[a0] h K :=
  callF_of_W mo Try.func57 F57_b F57_n F57_wf (args := [a0]) rfl (F57_eq a0 h K ▸ H)

/- (replevin/ring.Net).has -/
def F61 (a0 a1 : Value) (h : Heap) (K : Value → Heap → Prop) : Prop :=
  RunV Try.prog (binS BinOp.geq 3 (Operand.tmp 5) (Operand.const (Value.int IntKind.i64 0)) a1 (Value.int IntKind.i64 0)) h fun t6 h_2 =>
  GuardP t6 true (
  OpN Try.prog (Go.builtin Builtin.len #[38] 3 #[false] #[a0]) h_2 fun t10 h_3 =>
  RunV Try.prog (binS BinOp.lss 3 (Operand.tmp 8) (Operand.tmp 10) a1 t10) h_3 fun t11 h_4 =>
  K t11 h_4) (
  K (Value.bool false) h_2)
def ann61 : Ann := { loops := [], held := [] }
theorem F61_eq (a0 a1 : Value) (h : Heap) (K : Value → Heap → Prop) : F61 a0 a1 h K = W Try.prog ann61 (bodyOf Try.f61) (bodyQ Try.prog Try.f61.results.toList K) (argsE [a0, a1]) h := by kernel_rfl
theorem F61_wf : (wf Try.f61.ntmps ann61 (bodyOf Try.f61) && Nat.ble Try.f61.ntmps ghost && !memN (writes (bodyOf Try.f61)) ghost) = true := by kernel_rfl
theorem F61_b : Try.f61.body.isSome = true := by kernel_rfl
theorem F61_n : (Try.f61.name == "runtime.NumGoroutine") = false := by kernel_rfl
theorem R61 (args : Array Value) (w : World) : (callFunc 61 args).run Try.prog w = .ok (.enter 61 args) w := callFunc_run Try.func61 F61_b F61_n args w
theorem S61 {a0 a1 : Value} {h : Heap} {K : Value → Heap → Prop} (H : F61 a0 a1 h K) : CallF Try.prog 61 #[a0, a1] h K :=
  callF_of_W mo Try.func61 F61_b F61_n F61_wf (args := [a0, a1]) rfl (F61_eq a0 a1 h K ▸ H)

/- slices.Contains[[]int,int] -/
def F62 (a0 a1 : Value) (h : Heap) (K : Value → Heap → Prop) : Prop :=
  CallF Try.prog 52 #[a0, a1] h fun t7 h_1 =>
  RunV Try.prog (binS BinOp.geq 3 (Operand.tmp 7) (Operand.const (Value.int IntKind.i64 0)) t7 (Value.int IntKind.i64 0)) h_1 fun t8 h_2 =>
  K t8 h_2
def ann62 : Ann := { loops := [], held := [] }
theorem F62_eq (a0 a1 : Value) (h : Heap) (K : Value → Heap → Prop) : F62 a0 a1 h K = W Try.prog ann62 (bodyOf Try.f62) (bodyQ Try.prog Try.f62.results.toList K) (argsE [a0, a1]) h := by kernel_rfl
theorem F62_wf : (wf Try.f62.ntmps ann62 (bodyOf Try.f62) && Nat.ble Try.f62.ntmps ghost && !memN (writes (bodyOf Try.f62)) ghost) = true := by kernel_rfl
theorem F62_b : Try.f62.body.isSome = true := by kernel_rfl
theorem F62_n : (Try.f62.name == "runtime.NumGoroutine") = false := by kernel_rfl
theorem R62 (args : Array Value) (w : World) : (callFunc 62 args).run Try.prog w = .ok (.enter 62 args) w := callFunc_run Try.func62 F62_b F62_n args w
theorem S62 {a0 a1 : Value} {h : Heap} {K : Value → Heap → Prop} (H : F62 a0 a1 h K) : CallF Try.prog 62 #[a0, a1] h K :=
  callF_of_W mo Try.func62 F62_b F62_n F62_wf (args := [a0, a1]) rfl (F62_eq a0 a1 h K ▸ H)

/- slices.Sorted[int] -/
def F63 (a0 : Value) (h : Heap) (K : Value → Heap → Prop) : Prop :=
  CallF Try.prog 73 #[a0] h fun t5 h_1 =>
  CallF Try.prog 57 #[t5] h_1 fun t7 h_2 =>
  K t5 h_2
def ann63 : Ann := { loops := [], held := [] }
theorem F63_eq (a0 : Value) (h : Heap) (K : Value → Heap → Prop) : F63 a0 h K = W Try.prog ann63 (bodyOf Try.f63) (bodyQ Try.prog Try.f63.results.toList K) (argsE [a0]) h := by kernel_rfl
theorem F63_wf : (wf Try.f63.ntmps ann63 (bodyOf Try.f63) && Nat.ble Try.f63.ntmps ghost && !memN (writes (bodyOf Try.f63)) ghost) = true := by kernel_rfl
theorem F63_b : Try.f63.body.isSome = true := by kernel_rfl
theorem F63_n : (Try.f63.name == "runtime.NumGoroutine") = false := by kernel_rfl
theorem R63 (args : Array Value) (w : World) : (callFunc 63 args).run Try.prog w = .ok (.enter 63 args) w := callFunc_run Try.func63 F63_b F63_n args w
theorem S63 {a0 : Value} {h : Heap} {K : Value → Heap → Prop} (H : F63 a0 h K) : CallF Try.prog 63 #[a0] h K :=
  callF_of_W mo Try.func63 F63_b F63_n F63_wf (args := [a0]) rfl (F63_eq a0 h K ▸ H)

/- maps.Keys[map[int]bool,int,bool] -/
def F64 (a0 : Value) (h : Heap) (K : Value → Heap → Prop) : Prop :=
  RunV Try.prog (Instr.box 46 a0) h fun t1 h_1 =>
  K (Value.func (Fn.func 74) #[] #[t1]) h_1
def ann64 : Ann := { loops := [], held := [] }
theorem F64_eq (a0 : Value) (h : Heap) (K : Value → Heap → Prop) : F64 a0 h K = W Try.prog ann64 (bodyOf Try.f64) (bodyQ Try.prog Try.f64.results.toList K) (argsE [a0]) h := by kernel_rfl
theorem F64_wf : (wf Try.f64.ntmps ann64 (bodyOf Try.f64) && Nat.ble Try.f64.ntmps ghost && !memN (writes (bodyOf Try.f64)) ghost) = true := by kernel_rfl
theorem F64_b : Try.f64.body.isSome = true := by kernel_rfl
theorem F64_n : (Try.f64.name == "runtime.NumGoroutine") = false := by kernel_rfl
theorem R64 (args : Array Value) (w : World) : (callFunc 64 args).run Try.prog w = .ok (.enter 64 args) w := callFunc_run Try.func64 F64_b F64_n args w
theorem S64 {a0 : Value} {h : Heap} {K : Value → Heap → Prop} (H : F64 a0 h K) : CallF Try.prog 64 #[a0] h K :=
  callF_of_W mo Try.func64 F64_b F64_n F64_wf (args := [a0]) rfl (F64_eq a0 h K ▸ H)

/- slices.Concat[[]int,int] -/
def F65 (a0 : Value) (h : Heap) (K : Value → Heap → Prop) : Prop :=
  OpN Try.prog (Go.builtin Builtin.len #[37] 3 #[false] #[a0]) h fun t10 h_1 =>
  Loop2 (Value.int IntKind.i64 0) (Value.int IntKind.i64 0) h_1 fun Ljs Lx3 Lx11 h_2 Ln =>
  RunV Try.prog (binS BinOp.lss 3 (Operand.tmp 11) (Operand.tmp 10) Lx11 t10) h_2 fun t12 h_3 =>
  CondP t12 (
  Join1 (fun Jx3 h_4 =>
  RunV Try.prog (binS BinOp.add 3 (Operand.tmp 11) (Operand.const (Value.int IntKind.i64 1)) Lx11 (Value.int IntKind.i64 1)) h_4 fun t22 h_5 =>
  Ln Jx3 t22 h_5) fun J =>
  RunV Try.prog (Instr.indexAt 37 a0 Lx11) h_3 fun t13 h_7 =>
  RunV Try.prog (Instr.loadAt 33 t13) h_7 fun t14 h_8 =>
  OpN Try.prog (Go.builtin Builtin.len #[33] 3 #[false] #[t14]) h_8 fun t17 h_9 =>
  RunV Try.prog (binS BinOp.add 3 (Operand.tmp 15) (Operand.tmp 17) Lx3 t17) h_9 fun t18 h_10 =>
  RunV Try.prog (binS BinOp.lss 3 (Operand.tmp 19) (Operand.const (Value.int IntKind.i64 0)) t18 (Value.int IntKind.i64 0)) h_10 fun t20 h_11 =>
  CondP t20 (
  RunV Try.prog (Instr.makeInterface 9 (Value.string { data := #[108, 101, 110, 32, 111, 117, 116, 32, 111, 102, 32, 114, 97, 110, 103, 101] })) h_11 fun t21 h_13 =>
  False) (
  J t18 h_11)) (
  CallF Try.prog 75 #[(Value.slice none 0 0), Lx3] h_3 fun t24 h_15 =>
  OpN Try.prog (Go.builtin Builtin.len #[37] 3 #[false] #[a0]) h_15 fun t26 h_16 =>
  Loop2 t24 (Value.int IntKind.i64 0) h_16 fun L_1js L_1x6 L_1x27 h_17 L_1n =>
  RunV Try.prog (binS BinOp.lss 3 (Operand.tmp 27) (Operand.tmp 26) L_1x27 t26) h_17 fun t28 h_18 =>
  CondP t28 (
  RunV Try.prog (Instr.indexAt 37 a0 L_1x27) h_18 fun t29 h_19 =>
  RunV Try.prog (Instr.loadAt 33 t29) h_19 fun t30 h_20 =>
  OpN Try.prog (Go.builtin Builtin.append #[33, 33] 33 #[false, false] #[L_1x6, t30]) h_20 fun t33 h_21 =>
  RunV Try.prog (binS BinOp.add 3 (Operand.tmp 27) (Operand.const (Value.int IntKind.i64 1)) L_1x27 (Value.int IntKind.i64 1)) h_21 fun t34 h_22 =>
  L_1n t33 t34 h_22) (
  K L_1x6 h_18))
def ann65 : Ann := { loops := [(11, [6, 27]), (3, [3, 11])], held := [] }
theorem F65_eq (a0 : Value) (h : Heap) (K : Value → Heap → Prop) : F65 a0 h K = W Try.prog ann65 (bodyOf Try.f65) (bodyQ Try.prog Try.f65.results.toList K) (argsE [a0]) h := by kernel_rfl
theorem F65_wf : (wf Try.f65.ntmps ann65 (bodyOf Try.f65) && Nat.ble Try.f65.ntmps ghost && !memN (writes (bodyOf Try.f65)) ghost) = true := by kernel_rfl
theorem F65_b : Try.f65.body.isSome = true := by kernel_rfl
theorem F65_n : (Try.f65.name == "runtime.NumGoroutine") = false := by kernel_rfl
theorem R65 (args : Array Value) (w : World) : (callFunc 65 args).run Try.prog w = .ok (.enter 65 args) w := callFunc_run Try.func65 F65_b F65_n args w
theorem S65 {a0 : Value} {h : Heap} {K : Value → Heap → Prop} (H : F65 a0 h K) : CallF Try.prog 65 #[a0] h K :=
  callF_of_W mo Try.func65 F65_b F65_n F65_wf (args := [a0]) rfl (F65_eq a0 h K ▸ H)

/- slices.Compact[[]int,int] -/
def F66 (a0 : Value) (h : Heap) (K : Value → Heap → Prop) : Prop :=
  OpN Try.prog (Go.builtin Builtin.len #[33] 3 #[false] #[a0]) h fun t7 h_1 =>
  RunV Try.prog (binS BinOp.lss 3 (Operand.tmp 7) (Operand.const (Value.int IntKind.i64 2)) t7 (Value.int IntKind.i64 2)) h_1 fun t8 h_2 =>
  CondP t8 (
  K a0 h_2) (
  Loop1 (Value.int IntKind.i64 1) h_2 fun Ljs Lx3 h_3 Ln =>
  OpN Try.prog (Go.builtin Builtin.len #[33] 3 #[false] #[a0]) h_3 fun t12 h_4 =>
  RunV Try.prog (binS BinOp.lss 3 (Operand.tmp 10) (Operand.tmp 12) Lx3 t12) h_4 fun t13 h_5 =>
  CondP t13 (
  Quiet h_5 fun C =>
  QV Try.prog C (Instr.indexAt 33 a0 Lx3) fun t18 =>
  QV Try.prog C (Instr.loadAt 3 t18) fun t19 =>
  QV Try.prog C (binS BinOp.sub 3 (Operand.tmp 21) (Operand.const (Value.int IntKind.i64 1)) Lx3 (Value.int IntKind.i64 1)) fun t22 =>
  QV Try.prog C (Instr.indexAt 33 a0 t22) fun t23 =>
  QV Try.prog C (Instr.loadAt 3 t23) fun t24 =>
  QV Try.prog C (binS BinOp.eql 3 (Operand.tmp 19) (Operand.tmp 24) t19 t24) fun t25 =>
  QEnd C fun h_6 =>
  CondP t25 (
  RunV Try.prog (Instr.sliceAt 33 a0 (some Lx3) none none) h_6 fun t28 h_7 =>
  Loop2 Lx3 (Value.int IntKind.i64 1) h_7 fun L_1js L_1x3 L_1x5 h_8 L_1n =>
  OpN Try.prog (Go.builtin Builtin.len #[33] 3 #[false] #[t28]) h_8 fun t31 h_9 =>
  RunV Try.prog (binS BinOp.lss 3 (Operand.tmp 29) (Operand.tmp 31) L_1x5 t31) h_9 fun t32 h_10 =>
  CondP t32 (
  Join1 (fun Jx3 h_11 =>
  RunV Try.prog (binS BinOp.add 3 (Operand.tmp 33) (Operand.const (Value.int IntKind.i64 1)) L_1x5 (Value.int IntKind.i64 1)) h_11 fun t34 h_12 =>
  L_1n Jx3 t34 h_12) fun J =>
  Quiet h_10 fun C_1 =>
  QV Try.prog C_1 (Instr.indexAt 33 t28 L_1x5) fun t37 =>
  QV Try.prog C_1 (Instr.loadAt 3 t37) fun t38 =>
  QV Try.prog C_1 (binS BinOp.sub 3 (Operand.tmp 40) (Operand.const (Value.int IntKind.i64 1)) L_1x5 (Value.int IntKind.i64 1)) fun t41 =>
  QV Try.prog C_1 (Instr.indexAt 33 t28 t41) fun t42 =>
  QV Try.prog C_1 (Instr.loadAt 3 t42) fun t43 =>
  QV Try.prog C_1 (binS BinOp.neq 3 (Operand.tmp 38) (Operand.tmp 43) t38 t43) fun t44 =>
  QEnd C_1 fun h_14 =>
  CondP t44 (
  RunV Try.prog (Instr.indexAt 33 t28 L_1x5) h_14 fun t49 h_16 =>
  RunV Try.prog (Instr.loadAt 3 t49) h_16 fun t50 h_17 =>
  RunV Try.prog (Instr.indexAt 33 a0 L_1x3) h_17 fun t51 h_18 =>
  RunU Try.prog (Instr.storeAt 3 t51 t50) h_18 fun h_19 =>
  RunV Try.prog (binS BinOp.add 3 (Operand.tmp 52) (Operand.const (Value.int IntKind.i64 1)) L_1x3 (Value.int IntKind.i64 1)) h_19 fun t53 h_20 =>
  J t53 h_20) (
  J L_1x3 h_14)) (
  RunV Try.prog (Instr.sliceAt 33 a0 (some L_1x3) none none) h_10 fun t56 h_21 =>
  OpN Try.prog (Go.builtin Builtin.clear #[33] 0 #[false] #[t56]) h_21 fun _ h_22 =>
  RunV Try.prog (Instr.sliceAt 33 a0 none (some L_1x3) none) h_22 fun t59 h_23 =>
  K t59 h_23)) (
  RunV Try.prog (binS BinOp.add 3 (Operand.tmp 14) (Operand.const (Value.int IntKind.i64 1)) Lx3 (Value.int IntKind.i64 1)) h_6 fun t15 h_24 =>
  Ln t15 h_24)) (
  K a0 h_5))
def ann66 : Ann := { loops := [(9, [3, 5]), (4, [3])], held := [] }
theorem F66_eq (a0 : Value) (h : Heap) (K : Value → Heap → Prop) : F66 a0 h K = W Try.prog ann66 (bodyOf Try.f66) (bodyQ Try.prog Try.f66.results.toList K) (argsE [a0]) h := by kernel_rfl
theorem F66_wf : (wf Try.f66.ntmps ann66 (bodyOf Try.f66) && Nat.ble Try.f66.ntmps ghost && !memN (writes (bodyOf Try.f66)) ghost) = true := by kernel_rfl
theorem F66_b : Try.f66.body.isSome = true := by kernel_rfl
theorem F66_n : (Try.f66.name == "runtime.NumGoroutine") = false := by kernel_rfl
theorem R66 (args : Array Value) (w : World) : (callFunc 66 args).run Try.prog w = .ok (.enter 66 args) w := callFunc_run Try.func66 F66_b F66_n args w
theorem S66 {a0 : Value} {h : Heap} {K : Value → Heap → Prop} (H : F66 a0 h K) : CallF Try.prog 66 #[a0] h K :=
  callF_of_W mo Try.func66 F66_b F66_n F66_wf (args := [a0]) rfl (F66_eq a0 h K ▸ H)

/- slices.DeleteFunc[[]int,int] -/
def F67 (a0 a1 : Value) (h : Heap) (K : Value → Heap → Prop) : Prop :=
  CallF Try.prog 76 #[a0, a1] h fun t10 h_1 =>
  RunV Try.prog (binS BinOp.eql 3 (Operand.tmp 11) (Operand.const (Value.int IntKind.i64 (-1))) t10 (Value.int IntKind.i64 (-1))) h_1 fun t12 h_2 =>
  CondP t12 (
  K a0 h_2) (
  RunV Try.prog (binS BinOp.add 3 (Operand.tmp 14) (Operand.const (Value.int IntKind.i64 1)) t10 (Value.int IntKind.i64 1)) h_2 fun t15 h_3 =>
  Loop2 t10 t15 h_3 fun Ljs Lx5 Lx6 h_4 Ln =>
  OpN Try.prog (Go.builtin Builtin.len #[33] 3 #[false] #[a0]) h_4 fun t18 h_5 =>
  RunV Try.prog (binS BinOp.lss 3 (Operand.tmp 16) (Operand.tmp 18) Lx6 t18) h_5 fun t19 h_6 =>
  CondP t19 (
  Join1 (fun Jx5 h_7 =>
  RunV Try.prog (binS BinOp.add 3 (Operand.tmp 20) (Operand.const (Value.int IntKind.i64 1)) Lx6 (Value.int IntKind.i64 1)) h_7 fun t21 h_8 =>
  Ln Jx5 t21 h_8) fun J =>
  RunV Try.prog (Instr.indexAt 33 a0 Lx6) h_6 fun t24 h_10 =>
  RunV Try.prog (Instr.loadAt 3 t24) h_10 fun t25 h_11 =>
  CallV Try.prog a1 #[t25] h_11 fun t28 h_12 =>
  RunV Try.prog (Op.unary UnOp.not t28) h_12 fun t29 h_13 =>
  CondP t29 (
  RunV Try.prog (Instr.indexAt 33 a0 Lx5) h_13 fun t33 h_15 =>
  RunU Try.prog (Instr.storeAt 3 t33 t25) h_15 fun h_16 =>
  RunV Try.prog (binS BinOp.add 3 (Operand.tmp 34) (Operand.const (Value.int IntKind.i64 1)) Lx5 (Value.int IntKind.i64 1)) h_16 fun t35 h_17 =>
  J t35 h_17) (
  J Lx5 h_13)) (
  RunV Try.prog (Instr.sliceAt 33 a0 (some Lx5) none none) h_6 fun t38 h_18 =>
  OpN Try.prog (Go.builtin Builtin.clear #[33] 0 #[false] #[t38]) h_18 fun _ h_19 =>
  RunV Try.prog (Instr.sliceAt 33 a0 none (some Lx5) none) h_19 fun t41 h_20 =>
  K t41 h_20))
def ann67 : Ann := { loops := [(5, [5, 6])], held := [] }
theorem F67_eq (a0 a1 : Value) (h : Heap) (K : Value → Heap → Prop) : F67 a0 a1 h K = W Try.prog ann67 (bodyOf Try.f67) (bodyQ Try.prog Try.f67.results.toList K) (argsE [a0, a1]) h := by kernel_rfl
theorem F67_wf : (wf Try.f67.ntmps ann67 (bodyOf Try.f67) && Nat.ble Try.f67.ntmps ghost && !memN (writes (bodyOf Try.f67)) ghost) = true := by kernel_rfl
theorem F67_b : Try.f67.body.isSome = true := by kernel_rfl
theorem F67_n : (Try.f67.name == "runtime.NumGoroutine") = false := by kernel_rfl
theorem R67 (args : Array Value) (w : World) : (callFunc 67 args).run Try.prog w = .ok (.enter 67 args) w := callFunc_run Try.func67 F67_b F67_n args w
theorem S67 {a0 a1 : Value} {h : Heap} {K : Value → Heap → Prop} (H : F67 a0 a1 h K) : CallF Try.prog 67 #[a0, a1] h K :=
  callF_of_W mo Try.func67 F67_b F67_n F67_wf (args := [a0, a1]) rfl (F67_eq a0 a1 h K ▸ H)

/- (replevin/ring.Net).ways$1 -/
def F68 (a0 a1 : Value) (h : Heap) (K : Value → Heap → Prop) : Prop :=
  RunV Try.prog (Instr.loadAt 38 a1) h fun t4 h_1 =>
  CallF Try.prog 61 #[t4, a0] h_1 fun t6 h_2 =>
  RunV Try.prog (Op.unary UnOp.not t6) h_2 fun t7 h_3 =>
  K t7 h_3
def ann68 : Ann := { loops := [], held := [] }
theorem F68_eq (a0 a1 : Value) (h : Heap) (K : Value → Heap → Prop) : F68 a0 a1 h K = W Try.prog ann68 (bodyOf Try.f68) (bodyQ Try.prog Try.f68.results.toList K) (argsE [a0, a1]) h := by kernel_rfl
theorem F68_wf : (wf Try.f68.ntmps ann68 (bodyOf Try.f68) && Nat.ble Try.f68.ntmps ghost && !memN (writes (bodyOf Try.f68)) ghost) = true := by kernel_rfl
theorem F68_b : Try.f68.body.isSome = true := by kernel_rfl
theorem F68_n : (Try.f68.name == "runtime.NumGoroutine") = false := by kernel_rfl
theorem R68 (args : Array Value) (w : World) : (callFunc 68 args).run Try.prog w = .ok (.enter 68 args) w := callFunc_run Try.func68 F68_b F68_n args w
theorem S68 {a0 a1 : Value} {h : Heap} {K : Value → Heap → Prop} (H : F68 a0 a1 h K) : CallF Try.prog 68 #[a0, a1] h K :=
  callF_of_W mo Try.func68 F68_b F68_n F68_wf (args := [a0, a1]) rfl (F68_eq a0 a1 h K ▸ H)

/- slices.Collect[int] -/
def F73 (a0 : Value) (h : Heap) (K : Value → Heap → Prop) : Prop :=
  CallF Try.prog 96 #[(Value.slice none 0 0), a0] h fun t4 h_1 =>
  K t4 h_1
def ann73 : Ann := { loops := [], held := [] }
theorem F73_eq (a0 : Value) (h : Heap) (K : Value → Heap → Prop) : F73 a0 h K = W Try.prog ann73 (bodyOf Try.f73) (bodyQ Try.prog Try.f73.results.toList K) (argsE [a0]) h := by kernel_rfl
theorem F73_wf : (wf Try.f73.ntmps ann73 (bodyOf Try.f73) && Nat.ble Try.f73.ntmps ghost && !memN (writes (bodyOf Try.f73)) ghost) = true := by kernel_rfl
theorem F73_b : Try.f73.body.isSome = true := by kernel_rfl
theorem F73_n : (Try.f73.name == "runtime.NumGoroutine") = false := by kernel_rfl
theorem R73 (args : Array Value) (w : World) : (callFunc 73 args).run Try.prog w = .ok (.enter 73 args) w := callFunc_run Try.func73 F73_b F73_n args w
theorem S73 {a0 : Value} {h : Heap} {K : Value → Heap → Prop} (H : F73 a0 h K) : CallF Try.prog 73 #[a0] h K :=
  callF_of_W mo Try.func73 F73_b F73_n F73_wf (args := [a0]) rfl (F73_eq a0 h K ▸ H)

/- maps.Keys[map[int]bool,int,bool]$1 -/
def F74 (a0 a1 : Value) (h : Heap) (K : Value → Heap → Prop) : Prop :=
  RunV Try.prog (Instr.loadAt 46 a1) h fun t4 h_1 =>
  RunV Try.prog (Instr.range 46 t4) h_1 fun t5 h_2 =>
  Loop0 h_2 fun Ljs h_3 Ln =>
  RunV Try.prog (Instr.next t5 false 0) h_3 fun t6 h_4 =>
  RunV Try.prog (Instr.extract t6 0) h_4 fun t7 h_5 =>
  CondP t7 (
  RunV Try.prog (Instr.entry t5) h_5 fun t8 h_6 =>
  RunV Try.prog (Instr.extract t8 0) h_6 fun t9 h_7 =>
  CallV Try.prog a0 #[t9] h_7 fun t12 h_8 =>
  RunV Try.prog (Op.unary UnOp.not t12) h_8 fun t13 h_9 =>
  CondP t13 (
  K (.tuple #[]) h_9) (
  Ln h_9)) (
  K (.tuple #[]) h_5)
def ann74 : Ann := { loops := [(1, [])], held := [] }
theorem F74_eq (a0 a1 : Value) (h : Heap) (K : Value → Heap → Prop) : F74 a0 a1 h K = W Try.prog ann74 (bodyOf Try.f74) (bodyQ Try.prog Try.f74.results.toList K) (argsE [a0, a1]) h := by kernel_rfl
theorem F74_wf : (wf Try.f74.ntmps ann74 (bodyOf Try.f74) && Nat.ble Try.f74.ntmps ghost && !memN (writes (bodyOf Try.f74)) ghost) = true := by kernel_rfl
theorem F74_b : Try.f74.body.isSome = true := by kernel_rfl
theorem F74_n : (Try.f74.name == "runtime.NumGoroutine") = false := by kernel_rfl
theorem R74 (args : Array Value) (w : World) : (callFunc 74 args).run Try.prog w = .ok (.enter 74 args) w := callFunc_run Try.func74 F74_b F74_n args w
theorem S74 {a0 a1 : Value} {h : Heap} {K : Value → Heap → Prop} (H : F74 a0 a1 h K) : CallF Try.prog 74 #[a0, a1] h K :=
  callF_of_W mo Try.func74 F74_b F74_n F74_wf (args := [a0, a1]) rfl (F74_eq a0 a1 h K ▸ H)

/- slices.Grow[[]int,int] -/
def F75 (a0 a1 : Value) (h : Heap) (K : Value → Heap → Prop) : Prop :=
  Join0 (fun  h_1 =>
  OpN Try.prog (Go.builtin Builtin.cap #[33] 3 #[false] #[a0]) h_1 fun t10 h_3 =>
  OpN Try.prog (Go.builtin Builtin.len #[33] 3 #[false] #[a0]) h_3 fun t12 h_4 =>
  RunV Try.prog (binS BinOp.sub 3 (Operand.tmp 10) (Operand.tmp 12) t10 t12) h_4 fun t13 h_5 =>
  RunV Try.prog (binS BinOp.sub 3 (Operand.tmp 8) (Operand.tmp 13) a1 t13) h_5 fun t14 h_6 =>
  RunV Try.prog (binS BinOp.gtr 3 (Operand.tmp 15) (Operand.const (Value.int IntKind.i64 0)) t14 (Value.int IntKind.i64 0)) h_6 fun t16 h_7 =>
  CondP t16 (
  OpN Try.prog (Go.builtin Builtin.cap #[33] 3 #[false] #[a0]) h_7 fun t19 h_9 =>
  RunV Try.prog (Instr.sliceAt 33 a0 none (some t19) none) h_9 fun t20 h_10 =>
  OpN Try.prog (Go.builtin Builtin.append #[33, 3] 33 #[false, false] #[t20, t14]) h_10 fun t22 h_11 =>
  OpN Try.prog (Go.builtin Builtin.len #[33] 3 #[false] #[a0]) h_11 fun t24 h_12 =>
  RunV Try.prog (Instr.sliceAt 33 t22 none (some t24) none) h_12 fun t25 h_13 =>
  K t25 h_13) (
  K a0 h_7)) fun J =>
  RunV Try.prog (binS BinOp.lss 3 (Operand.tmp 5) (Operand.const (Value.int IntKind.i64 0)) a1 (Value.int IntKind.i64 0)) h fun t6 h_14 =>
  CondP t6 (
  RunV Try.prog (Instr.makeInterface 9 (Value.string { data := #[99, 97, 110, 110, 111, 116, 32, 98, 101, 32, 110, 101, 103, 97, 116, 105, 118, 101] })) h_14 fun t7 h_16 =>
  False) (
  J h_14)
def ann75 : Ann := { loops := [], held := [] }
theorem F75_eq (a0 a1 : Value) (h : Heap) (K : Value → Heap → Prop) : F75 a0 a1 h K = W Try.prog ann75 (bodyOf Try.f75) (bodyQ Try.prog Try.f75.results.toList K) (argsE [a0, a1]) h := by kernel_rfl
theorem F75_wf : (wf Try.f75.ntmps ann75 (bodyOf Try.f75) && Nat.ble Try.f75.ntmps ghost && !memN (writes (bodyOf Try.f75)) ghost) = true := by kernel_rfl
theorem F75_b : Try.f75.body.isSome = true := by kernel_rfl
theorem F75_n : (Try.f75.name == "runtime.NumGoroutine") = false := by kernel_rfl
theorem R75 (args : Array Value) (w : World) : (callFunc 75 args).run Try.prog w = .ok (.enter 75 args) w := callFunc_run Try.func75 F75_b F75_n args w
theorem S75 {a0 a1 : Value} {h : Heap} {K : Value → Heap → Prop} (H : F75 a0 a1 h K) : CallF Try.prog 75 #[a0, a1] h K :=
  callF_of_W mo Try.func75 F75_b F75_n F75_wf (args := [a0, a1]) rfl (F75_eq a0 a1 h K ▸ H)

/- slices.IndexFunc[[]int,int] -/
def F76 (a0 a1 : Value) (h : Heap) (K : Value → Heap → Prop) : Prop :=
  OpN Try.prog (Go.builtin Builtin.len #[33] 3 #[false] #[a0]) h fun t7 h_1 =>
  Loop1 (Value.int IntKind.i64 0) h_1 fun Ljs Lx8 h_2 Ln =>
  RunV Try.prog (binS BinOp.lss 3 (Operand.tmp 8) (Operand.tmp 7) Lx8 t7) h_2 fun t9 h_3 =>
  CondP t9 (
  RunV Try.prog (Instr.indexAt 33 a0 Lx8) h_3 fun t14 h_4 =>
  RunV Try.prog (Instr.loadAt 3 t14) h_4 fun t15 h_5 =>
  CallV Try.prog a1 #[t15] h_5 fun t16 h_6 =>
  CondP t16 (
  K Lx8 h_6) (
  RunV Try.prog (binS BinOp.add 3 (Operand.tmp 8) (Operand.const (Value.int IntKind.i64 1)) Lx8 (Value.int IntKind.i64 1)) h_6 fun t18 h_7 =>
  Ln t18 h_7)) (
  K (Value.int IntKind.i64 (-1)) h_3)
def ann76 : Ann := { loops := [(2, [8])], held := [] }
theorem F76_eq (a0 a1 : Value) (h : Heap) (K : Value → Heap → Prop) : F76 a0 a1 h K = W Try.prog ann76 (bodyOf Try.f76) (bodyQ Try.prog Try.f76.results.toList K) (argsE [a0, a1]) h := by kernel_rfl
theorem F76_wf : (wf Try.f76.ntmps ann76 (bodyOf Try.f76) && Nat.ble Try.f76.ntmps ghost && !memN (writes (bodyOf Try.f76)) ghost) = true := by kernel_rfl
theorem F76_b : Try.f76.body.isSome = true := by kernel_rfl
theorem F76_n : (Try.f76.name == "runtime.NumGoroutine") = false := by kernel_rfl
theorem R76 (args : Array Value) (w : World) : (callFunc 76 args).run Try.prog w = .ok (.enter 76 args) w := callFunc_run Try.func76 F76_b F76_n args w
theorem S76 {a0 a1 : Value} {h : Heap} {K : Value → Heap → Prop} (H : F76 a0 a1 h K) : CallF Try.prog 76 #[a0, a1] h K :=
  callF_of_W mo Try.func76 F76_b F76_n F76_wf (args := [a0, a1]) rfl (F76_eq a0 a1 h K ▸ H)

/- slices.AppendSeq[[]int,int] -/
def F96 (a0 a1 : Value) (h : Heap) (K : Value → Heap → Prop) : Prop :=
  RunV Try.prog (Instr.box 33 a0) h fun t2 h_1 =>
  RangeP1 Try.prog a1 h_1 (fun Rmk Rx0 h_2 RK =>
  BeginR Rmk (h_1.size + 1) h_2 fun h_3 =>
  RunV Try.prog (Instr.loadAt 33 t2) h_3 fun t8 h_4 =>
  RunV Try.prog (Instr.buildSlice 33 1 #[(0, Rx0)]) h_4 fun t10 h_5 =>
  OpN Try.prog (Go.builtin Builtin.append #[33, 33] 33 #[false, false] #[t8, t10]) h_5 fun t11 h_6 =>
  RunU Try.prog (Instr.storeAt 33 t2 t11) h_6 fun h_7 =>
  EndR Rmk (h_1.size + 1) RK none h_7) fun Rj h_8 =>
  JumpM Rj (
  RunV Try.prog (Instr.loadAt 33 t2) h_8 fun t12 h_9 =>
  MarksP (addMark h_1.size undef) h_9 fun h_10 =>
  K t12 h_10) (
  MarksP (addMark h_1.size undef) h_8 fun h_11 =>
  K (Value.slice none 0 0) h_11) fun Ri =>
  cond (Nat.beq Ri 0) (
  RunV Try.prog (Instr.loadAt 33 t2) h_8 fun t12_1 h_12 =>
  MarksP (addMark h_1.size undef) h_12 fun h_13 =>
  K t12_1 h_13) (
  False)
def ann96 : Ann := { loops := [], held := [] }
theorem F96_eq (a0 a1 : Value) (h : Heap) (K : Value → Heap → Prop) : F96 a0 a1 h K = W Try.prog ann96 (bodyOf Try.f96) (bodyQM Try.prog Try.f96.results.toList K) (argsE [a0, a1]) h := by kernel_rfl
theorem F96_wf : wf Try.f96.ntmps ann96 (bodyOf Try.f96) = true := by kernel_rfl
theorem F96_b : Try.f96.body.isSome = true := by kernel_rfl
theorem F96_n : (Try.f96.name == "runtime.NumGoroutine") = false := by kernel_rfl
theorem R96 (args : Array Value) (w : World) : (callFunc 96 args).run Try.prog w = .ok (.enter 96 args) w := callFunc_run Try.func96 F96_b F96_n args w
theorem S96 {a0 a1 : Value} {h : Heap} {K : Value → Heap → Prop} (H : F96 a0 a1 h K) : CallF Try.prog 96 #[a0, a1] h K :=
  callF_of_WM mo Try.func96 F96_b F96_n F96_wf (by kernel_rfl) (args := [a0, a1]) rfl (F96_eq a0 a1 h K ▸ H)

end Go.Proofs.Ytopflbjjbindkaa
