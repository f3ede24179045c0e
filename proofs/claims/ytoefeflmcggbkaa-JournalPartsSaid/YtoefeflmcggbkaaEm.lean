import Derived.Test.YtoefeflmcggbkaaHpS
import Derived.Test.YtoefeflmcggbkaaProg
set_option linter.unusedVariables false
set_option maxRecDepth 100000
namespace Go.Proofs.Ytoefeflmcggbkaa
open Go.Hp

theorem mo : Try.prog.follows .mixedOrders = true := by kernel_rfl

/- replevin/replevinlaw14.JournalDoes -/
def F3 (a0 a1 : Value) (h : Heap) (K : Value → Heap → Prop) : Prop :=
  CallF Try.prog 5 #[] h fun t25 h_1 =>
  RunV Try.prog (Op.unary UnOp.not t25) h_1 fun t26 h_2 =>
  CondP t26 (
  K (Value.bool false) h_2) (
  CallF Try.prog 6 #[a0] h_2 fun t29 h_3 =>
  RunV Try.prog (Instr.extract t29 0) h_3 fun t30 h_4 =>
  RunV Try.prog (Instr.extract t29 1) h_4 fun t31 h_5 =>
  CallF Try.prog 7 #[a0] h_5 fun t34 h_6 =>
  RunV Try.prog (Instr.extract t34 0) h_6 fun t35 h_7 =>
  RunV Try.prog (Instr.extract t34 1) h_7 fun t36 h_8 =>
  Join1 (fun Jx42 h_9 =>
  CondP Jx42 (
  RunV Try.prog (binS BinOp.eql 24 (Operand.tmp 43) (Operand.const (Value.pointer none)) t30 (Value.pointer none)) h_9 fun t44 h_11 =>
  GuardP t44 true (
  RunV Try.prog (binS BinOp.eql 28 (Operand.tmp 46) (Operand.const (Value.pointer none)) t35 (Value.pointer none)) h_11 fun t47 h_12 =>
  K t47 h_12) (
  K (Value.bool false) h_11)) (
  CallF Try.prog 8 #[t30] h_9 fun t51 h_13 =>
  RunV Try.prog (Instr.extract t51 0) h_13 fun t52 h_14 =>
  RunV Try.prog (Instr.extract t51 1) h_14 fun t53 h_15 =>
  RunV Try.prog (Instr.extract t51 2) h_15 fun t54 h_16 =>
  CallF Try.prog 9 #[t35] h_16 fun t57 h_17 =>
  RunV Try.prog (Instr.extract t57 0) h_17 fun t58 h_18 =>
  RunV Try.prog (Instr.extract t57 1) h_18 fun t59 h_19 =>
  RunV Try.prog (Instr.extract t57 2) h_19 fun t60 h_20 =>
  Loop3 t52 t58 (Value.int IntKind.i64 0) h_20 fun Ljs Lx9 Lx12 Lx15 h_21 Ln =>
  Join1 (fun J_2x68 h_22 =>
  CondP J_2x68 (
  RunV Try.prog (Instr.indexAt 22 a1 Lx15) h_22 fun t73 h_23 =>
  RunV Try.prog (Instr.loadAt 39 t73) h_23 fun t74 h_24 =>
  RunV Try.prog (Instr.alloc 39 true (.tuple #[])) h_24 fun t16 h_25 =>
  RunU Try.prog (Instr.storeAt 39 t16 t74) h_25 fun h_26 =>
  RunV Try.prog (Instr.fieldAt 39 t16 3) h_26 fun t75 h_27 =>
  RunV Try.prog (Instr.loadAt 9 t75) h_27 fun t76 h_28 =>
  OpN Try.prog (Go.builtin Builtin.len #[9] 3 #[false] #[t76]) h_28 fun t77 h_29 =>
  RunV Try.prog (binS BinOp.gtr 3 (Operand.tmp 77) (Operand.const (Value.int IntKind.i64 500)) t77 (Value.int IntKind.i64 500)) h_29 fun t78 h_30 =>
  CondP t78 (
  K (Value.bool true) h_30) (
  Join2 (fun J_3x9 J_3x12 h_31 =>
  Join1 (fun J_4x176 h_32 =>
  CondP J_4x176 (
  K (Value.bool false) h_32) (
  CallF Try.prog 21 #[t35] h_32 fun t179 h_33 =>
  CallF Try.prog 22 #[t179] h_33 fun t180 h_34 =>
  RunV Try.prog (Instr.extract t180 0) h_34 fun t181 h_35 =>
  RunV Try.prog (Instr.extract t180 1) h_35 fun t182 h_36 =>
  Join1 (fun J_5x208 h_37 =>
  CondP J_5x208 (
  K (Value.bool false) h_37) (
  RunV Try.prog (binS BinOp.add 3 (Operand.tmp 69) (Operand.const (Value.int IntKind.i64 1)) Lx15 (Value.int IntKind.i64 1)) h_37 fun t70 h_38 =>
  Ln J_3x9 J_3x12 t70 h_38)) fun J_5 =>
  Quiet h_36 fun S =>
  CallF Try.prog 23 #[t30] h_36 fun t184 h_39 =>
  And (S h_39) (
  CallF Try.prog 19 #[t184, t181] h_39 fun t186 h_40 =>
  And (S h_40) (
  QV Try.prog S (Op.unary UnOp.not t186) fun t187 =>
  GuardP t187 false (
  QV Try.prog S (binS BinOp.neq 31 (Operand.tmp 189) (Operand.const (Value.pointer none)) J_3x9 (Value.pointer none)) fun t190 =>
  GuardP t190 true (
  NilC J_3x12 fun t195 =>
  QV Try.prog S (Instr.fieldAt 51 t195 3) fun t196 =>
  QV Try.prog S (Instr.loadAt 32 t196) fun t197 =>
  CallF Try.prog 24 #[J_3x9] h_40 fun t193 h_41 =>
  And (S h_41) (
  CallF Try.prog 19 #[t193, t197] h_41 fun t198 h_42 =>
  And (S h_42) (
  QV Try.prog S (Op.unary UnOp.not t198) fun t199 =>
  GuardP t199 false (
  CallF Try.prog 25 #[J_3x9] h_42 fun t202 h_43 =>
  And (S h_43) (
  CallF Try.prog 26 #[J_3x12] h_43 fun t204 h_44 =>
  And (S h_44) (
  QV Try.prog S (binS BinOp.neq 3 (Operand.tmp 202) (Operand.tmp 204) t202 t204) fun t205 =>
  J_5 t205 h_44))) (
  J_5 (Value.bool true) h_42)))) (
  SkipP undef (
  SkipP undef (
  SkipP undef (
  SkipP undef (
  SkipP undef (
  J_5 (Value.bool false) h_40))))))) (
  SkipP undef (
  SkipP undef (
  SkipP undef (
  SkipP undef (
  SkipP undef (
  SkipP undef (
  SkipP undef (
  SkipP undef (
  SkipP undef (
  SkipP undef (
  SkipP undef (
  SkipP undef (
  SkipP undef (
  SkipP undef (
  SkipP undef (
  J_5 (Value.bool true) h_40)))))))))))))))))))) fun J_4 =>
  CallF Try.prog 20 #[t30] h_31 fun t166 h_45 =>
  CallF Try.prog 21 #[t35] h_45 fun t168 h_46 =>
  RunV Try.prog (binS BinOp.neq 9 (Operand.tmp 166) (Operand.tmp 168) t166 t168) h_46 fun t169 h_47 =>
  GuardP t169 false (
  RunV Try.prog (binS BinOp.eql 31 (Operand.tmp 171) (Operand.const (Value.pointer none)) J_3x9 (Value.pointer none)) h_47 fun t172 h_48 =>
  RunV Try.prog (binS BinOp.eql 35 (Operand.tmp 173) (Operand.const (Value.pointer none)) J_3x12 (Value.pointer none)) h_48 fun t174 h_49 =>
  RunV Try.prog (binS BinOp.neq 4 (Operand.tmp 172) (Operand.tmp 174) t172 t174) h_49 fun t175 h_50 =>
  J_4 t175 h_50) (
  J_4 (Value.bool true) h_47)) fun J_3 =>
  RunV Try.prog (Instr.fieldAt 39 t16 0) h_30 fun t79 h_51 =>
  RunV Try.prog (Instr.loadAt 3 t79) h_51 fun t80 h_52 =>
  Join1 (fun J_7x81 h_54 =>
  CondP J_7x81 (
  Join1 (fun J_9x103 h_56 =>
  CondP J_9x103 (
  K (Value.bool false) h_56) (
  J_3 Lx9 Lx12 h_56)) fun J_9 =>
  Quiet h_54 fun S_1 =>
  QV Try.prog S_1 (binS BinOp.eql 31 (Operand.tmp 84) (Operand.const (Value.pointer none)) Lx9 (Value.pointer none)) fun t85 =>
  QV Try.prog S_1 (binS BinOp.eql 35 (Operand.tmp 86) (Operand.const (Value.pointer none)) Lx12 (Value.pointer none)) fun t87 =>
  QV Try.prog S_1 (binS BinOp.neq 4 (Operand.tmp 85) (Operand.tmp 87) t85 t87) fun t88 =>
  GuardP t88 false (
  QV Try.prog S_1 (binS BinOp.neq 31 (Operand.tmp 90) (Operand.const (Value.pointer none)) Lx9 (Value.pointer none)) fun t91 =>
  GuardP t91 true (
  QV Try.prog S_1 (Instr.fieldAt 39 t16 3) fun t94 =>
  QV Try.prog S_1 (Instr.loadAt 9 t94) fun t95 =>
  QV Try.prog S_1 (Instr.fieldAt 39 t16 3) fun t98 =>
  QV Try.prog S_1 (Instr.loadAt 9 t98) fun t99 =>
  CallF Try.prog 10 #[Lx9, t95] h_54 fun t96 h_57 =>
  And (S_1 h_57) (
  CallF Try.prog 11 #[Lx12, t99] h_57 fun t100 h_58 =>
  And (S_1 h_58) (
  QV Try.prog S_1 (binS BinOp.neq 25 (Operand.tmp 96) (Operand.tmp 100) t96 t100) fun t101 =>
  J_9 t101 h_58))) (
  J_9 (Value.bool false) h_54)) (
  SkipP undef (
  SkipP undef (
  SkipP undef (
  SkipP undef (
  SkipP undef (
  SkipP undef (
  SkipP undef (
  SkipP undef (
  SkipP undef (
  J_9 (Value.bool true) h_54))))))))))) (
  RunV Try.prog (binS BinOp.eql 3 (Operand.tmp 80) (Operand.const (Value.int IntKind.i64 2)) t80 (Value.int IntKind.i64 2)) h_54 fun t105 h_59 =>
  CondP t105 (
  RunV Try.prog (Instr.fieldAt 39 t16 1) h_59 fun t107 h_61 =>
  RunV Try.prog (Instr.loadAt 3 t107) h_61 fun t108 h_62 =>
  RunV Try.prog (Instr.fieldAt 39 t16 2) h_62 fun t109 h_63 =>
  RunV Try.prog (Instr.loadAt 3 t109) h_63 fun t110 h_64 =>
  CallF Try.prog 12 #[t30, t108, t110] h_64 fun t111 h_65 =>
  RunV Try.prog (Instr.fieldAt 39 t16 1) h_65 fun t113 h_66 =>
  RunV Try.prog (Instr.loadAt 3 t113) h_66 fun t114 h_67 =>
  RunV Try.prog (Instr.fieldAt 39 t16 2) h_67 fun t115 h_68 =>
  RunV Try.prog (Instr.loadAt 3 t115) h_68 fun t116 h_69 =>
  CallF Try.prog 13 #[t35, t114, t116] h_69 fun t117 h_70 =>
  J_3 Lx9 Lx12 h_70) (
  Join1 (fun J_11x118 h_71 =>
  CondP J_11x118 (
  CallF Try.prog 14 #[t30] h_71 fun t122 h_73 =>
  CallF Try.prog 15 #[t35] h_73 fun t124 h_74 =>
  Join0 (fun  h_75 =>
  CallF Try.prog 8 #[t30] h_75 fun t144 h_76 =>
  RunV Try.prog (Instr.extract t144 0) h_76 fun t145 h_77 =>
  RunV Try.prog (Instr.extract t144 1) h_77 fun t146 h_78 =>
  RunV Try.prog (Instr.extract t144 2) h_78 fun t147 h_79 =>
  CallF Try.prog 9 #[t35] h_79 fun t150 h_80 =>
  RunV Try.prog (Instr.extract t150 0) h_80 fun t151 h_81 =>
  RunV Try.prog (Instr.extract t150 1) h_81 fun t152 h_82 =>
  RunV Try.prog (Instr.extract t150 2) h_82 fun t153 h_83 =>
  Join1 (fun J_14x162 h_84 =>
  CondP J_14x162 (
  K (Value.bool false) h_84) (
  J_3 t145 t151 h_84)) fun J_14 =>
  RunV Try.prog (binS BinOp.neq 25 (Operand.tmp 154) (Operand.tmp 155) t147 t153) h_83 fun t156 h_85 =>
  GuardP t156 false (
  CallF Try.prog 19 #[t146, t152] h_85 fun t160 h_86 =>
  RunV Try.prog (Op.unary UnOp.not t160) h_86 fun t161 h_87 =>
  J_14 t161 h_87) (
  J_14 (Value.bool true) h_85)) fun J_13 =>
  RunV Try.prog (Instr.fieldAt 39 t16 0) h_74 fun t125 h_88 =>
  RunV Try.prog (Instr.loadAt 3 t125) h_88 fun t126 h_89 =>
  RunV Try.prog (binS BinOp.eql 3 (Operand.tmp 126) (Operand.const (Value.int IntKind.i64 4)) t126 (Value.int IntKind.i64 4)) h_89 fun t127 h_90 =>
  CondP t127 (
  Quiet h_90 fun S_2 =>
  QV Try.prog S_2 (Instr.fieldAt 39 t16 1) fun t129 =>
  QV Try.prog S_2 (Instr.loadAt 3 t129) fun t130 =>
  QV Try.prog S_2 (Instr.fieldAt 39 t16 3) fun t131 =>
  QV Try.prog S_2 (Instr.loadAt 9 t131) fun t132 =>
  CallF Try.prog 17 #[t132] h_90 fun t133 h_92 =>
  And (S_2 h_92) (
  CallF Try.prog 16 #[t30, t130, t133] h_92 fun t134 h_93 =>
  And (S_2 h_93) (
  Quiet h_93 fun S_3 =>
  QV Try.prog S_3 (Instr.fieldAt 39 t16 1) fun t136 =>
  QV Try.prog S_3 (Instr.loadAt 3 t136) fun t137 =>
  QV Try.prog S_3 (Instr.fieldAt 39 t16 3) fun t138 =>
  QV Try.prog S_3 (Instr.loadAt 9 t138) fun t139 =>
  CallF Try.prog 17 #[t139] h_93 fun t140 h_94 =>
  And (S_3 h_94) (
  CallF Try.prog 18 #[t35, t137, t140] h_94 fun t141 h_95 =>
  And (S_3 h_95) (
  J_13 h_95))))) (
  J_13 h_90)) (
  J_3 Lx9 Lx12 h_71)) fun J_11 =>
  RunV Try.prog (binS BinOp.eql 3 (Operand.tmp 80) (Operand.const (Value.int IntKind.i64 3)) t80 (Value.int IntKind.i64 3)) h_59 fun t119 h_96 =>
  CondP t119 (
  J_11 t119 h_96) (
  RunV Try.prog (binS BinOp.eql 3 (Operand.tmp 80) (Operand.const (Value.int IntKind.i64 4)) t80 (Value.int IntKind.i64 4)) h_96 fun t120 h_98 =>
  J_11 t120 h_98)))) fun J_7 =>
  RunV Try.prog (binS BinOp.eql 3 (Operand.tmp 80) (Operand.const (Value.int IntKind.i64 0)) t80 (Value.int IntKind.i64 0)) h_52 fun t82 h_99 =>
  CondP t82 (
  J_7 t82 h_99) (
  RunV Try.prog (binS BinOp.eql 3 (Operand.tmp 80) (Operand.const (Value.int IntKind.i64 1)) t80 (Value.int IntKind.i64 1)) h_99 fun t83 h_101 =>
  J_7 t83 h_101))) (
  K (Value.bool true) h_22)) fun J_2 =>
  OpN Try.prog (Go.builtin Builtin.len #[22] 3 #[false] #[a1]) h_21 fun t63 h_102 =>
  RunV Try.prog (binS BinOp.lss 3 (Operand.tmp 61) (Operand.tmp 63) Lx15 t63) h_102 fun t64 h_103 =>
  GuardP t64 true (
  RunV Try.prog (binS BinOp.lss 3 (Operand.tmp 66) (Operand.const (Value.int IntKind.i64 40)) Lx15 (Value.int IntKind.i64 40)) h_103 fun t67 h_104 =>
  J_2 t67 h_104) (
  J_2 (Value.bool false) h_103))) fun J =>
  RunV Try.prog (binS BinOp.eql 24 (Operand.tmp 37) (Operand.const (Value.pointer none)) t30 (Value.pointer none)) h_8 fun t38 h_105 =>
  GuardP t38 false (
  RunV Try.prog (binS BinOp.eql 28 (Operand.tmp 40) (Operand.const (Value.pointer none)) t35 (Value.pointer none)) h_105 fun t41 h_106 =>
  J t41 h_106) (
  J (Value.bool true) h_105))
def ann3 : Ann := { loops := [(10, [9, 12, 15])], held := [(38, (.take 0 (.take 2 (.one 1 (.one 3 (.take 4 (.take 5 (.take 6 (.take 7 (.take 8 (.take 9 (.take 11 (.take 12 (.take 13 (.take 14 (.one 10 (.one 15 (.take 16 (.take 17 (.take 18 (.take 20 (.one 19 (.one 21 (.take 22 (.take 23 (.take 24 (.take 25 .nil))))))))))))))))))))))))))), (18, (.take 0 (.take 1 (.take 2 (.take 3 (.take 4 (.take 5 (.take 6 (.take 7 (.take 8 (.take 9 (.take 10 (.take 11 (.take 13 (.take 14 (.take 15 (.one 12 (.one 16 (.take 17 (.take 18 (.take 19 .nil))))))))))))))))))))), (28, (.take 0 (.take 1 (.take 2 (.take 3 (.take 4 (.one 5 (.one 6 .nil)))))))), (29, (.take 0 (.take 1 (.take 2 (.take 3 (.take 4 (.one 5 (.one 6 .nil))))))))] }
theorem F3_eq (a0 a1 : Value) (h : Heap) (K : Value → Heap → Prop) : F3 a0 a1 h K = W Try.prog ann3 (bodyOf Try.f3) (bodyQ Try.prog Try.f3.results.toList K) (argsE [a0, a1]) h := by kernel_rfl
theorem F3_wf : (wf Try.f3.ntmps ann3 (bodyOf Try.f3) && Nat.ble Try.f3.ntmps ghost && !memN (writes (bodyOf Try.f3)) ghost) = true := by kernel_rfl
theorem F3_b : Try.f3.body.isSome = true := by kernel_rfl
theorem F3_n : (Try.f3.name == "runtime.NumGoroutine") = false := by kernel_rfl
theorem R3 (args : Array Value) (w : World) : (callFunc 3 args).run Try.prog w = .ok (.enter 3 args) w := callFunc_run Try.func3 F3_b F3_n args w
theorem S3 {a0 a1 : Value} {h : Heap} {K : Value → Heap → Prop} (H : F3 a0 a1 h K) : CallF Try.prog 3 #[a0, a1] h K :=
  callF_of_W mo Try.func3 F3_b F3_n F3_wf (args := [a0, a1]) rfl (F3_eq a0 a1 h K ▸ H)

/- replevin/replevinlaw14.JournalParts -/
def F4 (a0 a1 a2 a3 : Value) (h : Heap) (K : Value → Heap → Prop) : Prop :=
  CallF Try.prog 5 #[] h fun t32 h_1 =>
  RunV Try.prog (Op.unary UnOp.not t32) h_1 fun t33 h_2 =>
  CondP t33 (
  K (Value.bool false) h_2) (
  OpN Try.prog (Go.builtin Builtin.len #[32] 3 #[false] #[a2]) h_2 fun t35 h_3 =>
  Loop2 (Value.int IntKind.i64 0) (Value.int IntKind.i64 0) h_3 fun Ljs Lx9 Lx36 h_4 Ln =>
  RunV Try.prog (binS BinOp.lss 3 (Operand.tmp 36) (Operand.tmp 35) Lx36 t35) h_4 fun t37 h_5 =>
  CondP t37 (
  RunV Try.prog (Instr.indexAt 32 a2 Lx36) h_5 fun t42 h_6 =>
  RunV Try.prog (Instr.loadAt 9 t42) h_6 fun t43 h_7 =>
  OpN Try.prog (Go.builtin Builtin.len #[9] 3 #[false] #[t43]) h_7 fun t44 h_8 =>
  RunV Try.prog (binS BinOp.add 3 (Operand.tmp 39) (Operand.tmp 44) Lx9 t44) h_8 fun t45 h_9 =>
  RunV Try.prog (binS BinOp.add 3 (Operand.tmp 36) (Operand.const (Value.int IntKind.i64 1)) Lx36 (Value.int IntKind.i64 1)) h_9 fun t46 h_10 =>
  Ln t45 t46 h_10) (
  CallF Try.prog 6 #[(Value.int IntKind.i64 60)] h_5 fun t48 h_11 =>
  RunV Try.prog (Instr.extract t48 0) h_11 fun t49 h_12 =>
  RunV Try.prog (Instr.extract t48 1) h_12 fun t50 h_13 =>
  Join1 (fun Jx61 h_14 =>
  CondP Jx61 (
  RunV Try.prog (binS BinOp.neq 24 (Operand.tmp 62) (Operand.const (Value.pointer none)) t49 (Value.pointer none)) h_14 fun t63 h_15 =>
  K t63 h_15) (
  RunV Try.prog (binS BinOp.rem 5 (Operand.tmp 64) (Operand.const (Value.int IntKind.u8 20)) a0 (Value.int IntKind.u8 20)) h_14 fun t65 h_16 =>
  RunV Try.prog (convert 5 3 t65) h_16 fun t66 h_17 =>
  RunV Try.prog (binS BinOp.add 3 (Operand.const (Value.int IntKind.i64 1)) (Operand.tmp 66) (Value.int IntKind.i64 1) t66) h_17 fun t67 h_18 =>
  RunV Try.prog (binS BinOp.rem 5 (Operand.tmp 68) (Operand.const (Value.int IntKind.u8 20)) a1 (Value.int IntKind.u8 20)) h_18 fun t69 h_19 =>
  RunV Try.prog (convert 5 3 t69) h_19 fun t70 h_20 =>
  RunV Try.prog (binS BinOp.add 3 (Operand.const (Value.int IntKind.i64 1)) (Operand.tmp 70) (Value.int IntKind.i64 1) t70) h_20 fun t71 h_21 =>
  RunV Try.prog (binS BinOp.add 3 (Operand.tmp 73) (Operand.tmp 74) t67 t71) h_21 fun t75 h_22 =>
  RunV Try.prog (Instr.build 55 #[(0, (Value.int IntKind.i64 0)), (1, t67), (2, t75)]) h_22 fun t76 h_23 =>
  RunV Try.prog (binS BinOp.sub 3 (Operand.const (Value.int IntKind.i64 60)) (Operand.tmp 79) (Value.int IntKind.i64 60) t67) h_23 fun t80 h_24 =>
  RunV Try.prog (binS BinOp.sub 3 (Operand.tmp 80) (Operand.tmp 81) t80 t71) h_24 fun t82 h_25 =>
  RunV Try.prog (Instr.build 55 #[(0, t67), (1, t71), (2, t82)]) h_25 fun t83 h_26 =>
  RunV Try.prog (Instr.alloc 55 true (.tuple #[])) h_26 fun t15 h_27 =>
  RunV Try.prog (Instr.alloc 55 true (.tuple #[])) h_27 fun t16 h_28 =>
  RunU Try.prog (Instr.storeAt 55 t15 t76) h_28 fun h_29 =>
  RunU Try.prog (Instr.storeAt 55 t16 t83) h_29 fun h_30 =>
  RunV Try.prog (Instr.build 56 #[]) h_30 fun t84 h_31 =>
  RunV Try.prog (Instr.build 57 #[]) h_31 fun t85 h_32 =>
  RunV Try.prog (Instr.alloc 56 true (.tuple #[])) h_32 fun t17 h_33 =>
  RunV Try.prog (Instr.alloc 57 true (.tuple #[])) h_33 fun t18 h_34 =>
  RunU Try.prog (Instr.storeAt 56 t17 t84) h_34 fun h_35 =>
  RunU Try.prog (Instr.storeAt 57 t18 t85) h_35 fun h_36 =>
  Loop1 (Value.int IntKind.i64 0) h_36 fun L_1js L_1x86 h_37 L_1n =>
  RunV Try.prog (binS BinOp.lss 3 (Operand.tmp 86) (Operand.const (Value.int IntKind.i64 3)) L_1x86 (Value.int IntKind.i64 3)) h_37 fun t87 h_38 =>
  CondP t87 (
  Quiet h_38 fun S =>
  QV Try.prog S (Instr.indexAt 55 t15 L_1x86) fun t93 =>
  QV Try.prog S (Instr.loadAt 3 t93) fun t94 =>
  QV Try.prog S (Instr.indexAt 55 t16 L_1x86) fun t96 =>
  QV Try.prog S (Instr.loadAt 3 t96) fun t97 =>
  CallF Try.prog 27 #[t49, t94, t97] h_38 fun t98 h_39 =>
  And (S h_39) (
  QV Try.prog S (Instr.extract t98 0) fun t99 =>
  QV Try.prog S (Instr.extract t98 1) fun t100 =>
  QV Try.prog S (Instr.extract t98 2) fun t101 =>
  QV Try.prog S (Instr.indexAt 56 t17 L_1x86) fun t102 =>
  RunU Try.prog (Instr.storeAt 31 t102 t99) h_39 fun h_40 =>
  And (S h_40) (
  Join1 (fun J_1x117 h_41 =>
  CondP J_1x117 (
  K (Value.bool false) h_41) (
  RunV Try.prog (binS BinOp.add 3 (Operand.tmp 86) (Operand.const (Value.int IntKind.i64 1)) L_1x86 (Value.int IntKind.i64 1)) h_41 fun t118 h_42 =>
  L_1n t118 h_42)) fun J_1 =>
  Quiet h_40 fun C =>
  QV Try.prog C (Instr.indexAt 56 t17 L_1x86) fun t104 =>
  QV Try.prog C (Instr.loadAt 31 t104) fun t105 =>
  QV Try.prog C (binS BinOp.eql 31 (Operand.tmp 105) (Operand.const (Value.pointer none)) t105 (Value.pointer none)) fun t106 =>
  GuardP t106 false (
  QV Try.prog C (Instr.indexAt 56 t17 L_1x86) fun t109 =>
  QV Try.prog C (Instr.loadAt 31 t109) fun t110 =>
  QCallF Try.prog C 25 #[t110] fun t111 =>
  QV Try.prog C (Instr.indexAt 55 t16 L_1x86) fun t113 =>
  QV Try.prog C (Instr.loadAt 3 t113) fun t114 =>
  QV Try.prog C (binS BinOp.mul 3 (Operand.const (Value.int IntKind.i64 32)) (Operand.tmp 114) (Value.int IntKind.i64 32) t114) fun t115 =>
  QV Try.prog C (binS BinOp.neq 3 (Operand.tmp 111) (Operand.tmp 115) t111 t115) fun t116 =>
  QEnd C fun h_43 =>
  J_1 t116 h_43) (
  QEnd C fun h_44 =>
  J_1 (Value.bool true) h_44)))) (
  OpN Try.prog (Go.builtin Builtin.len #[32] 3 #[false] #[a2]) h_38 fun t120 h_45 =>
  Loop1 (Value.int IntKind.i64 0) h_45 fun L_2js L_2x121 h_46 L_2n =>
  RunV Try.prog (binS BinOp.lss 3 (Operand.tmp 121) (Operand.tmp 120) L_2x121 t120) h_46 fun t122 h_47 =>
  CondP t122 (
  Join0 (fun  h_48 =>
  RunV Try.prog (binS BinOp.add 3 (Operand.tmp 121) (Operand.const (Value.int IntKind.i64 1)) L_2x121 (Value.int IntKind.i64 1)) h_48 fun t161 h_49 =>
  L_2n t161 h_49) fun J_2 =>
  Join1 (fun J_4x21 h_51 =>
  Quiet h_51 fun S_1 =>
  QV Try.prog S_1 (Instr.indexAt 56 t17 J_4x21) fun t135 =>
  QV Try.prog S_1 (Instr.loadAt 31 t135) fun t136 =>
  QV Try.prog S_1 (Instr.indexAt 32 a2 L_2x121) fun t139 =>
  QV Try.prog S_1 (Instr.loadAt 9 t139) fun t140 =>
  CallF Try.prog 10 #[t136, t140] h_51 fun t141 h_52 =>
  And (S_1 h_52) (
  RunV Try.prog (binS BinOp.eql 25 (Operand.tmp 142) (Operand.const (Value.int IntKind.i64 0)) t141 (Value.int IntKind.i64 0)) h_52 fun t143 h_53 =>
  CondP t143 (
  Quiet h_53 fun S_2 =>
  QV Try.prog S_2 (Instr.indexAt 57 t18 J_4x21) fun t146 =>
  QV Try.prog S_2 (Instr.indexAt 32 a2 L_2x121) fun t150 =>
  QV Try.prog S_2 (Instr.loadAt 9 t150) fun t151 =>
  And (
  RunV Try.prog (Instr.loadAt 32 t146) h_53 fun t147 h_56 =>
  And (S_2 h_56) (
  RunV Try.prog (Instr.buildSlice 32 1 #[(0, t151)]) h_56 fun t152 h_57 =>
  And (S_2 h_57) (
  OpN Try.prog (Go.builtin Builtin.append #[32, 32] 32 #[false, false] #[t147, t152]) h_57 fun t153 h_58 =>
  And (S_2 h_58) (
  QV Try.prog S_2 (Instr.indexAt 57 t18 J_4x21) fun t154 =>
  RunU Try.prog (Instr.storeAt 32 t154 t153) h_58 fun h_59 =>
  And (S_2 h_59) (
  J_2 h_59))))) (
  RunV Try.prog (Instr.buildSlice 32 1 #[(0, t151)]) h_53 fun t152_1 h_60 =>
  And (S_2 h_60) (
  RunV Try.prog (Instr.loadAt 32 t146) h_60 fun t147_1 h_61 =>
  And (S_2 h_61) (
  OpN Try.prog (Go.builtin Builtin.append #[32, 32] 32 #[false, false] #[t147_1, t152_1]) h_61 fun t153_1 h_62 =>
  And (S_2 h_62) (
  QV Try.prog S_2 (Instr.indexAt 57 t18 J_4x21) fun t154_1 =>
  RunU Try.prog (Instr.storeAt 32 t154_1 t153_1) h_62 fun h_63 =>
  And (S_2 h_63) (
  J_2 h_63)))))) (
  Join1 (fun J_7x160 h_64 =>
  CondP J_7x160 (
  K (Value.bool false) h_64) (
  J_2 h_64)) fun J_7 =>
  RunV Try.prog (binS BinOp.neq 25 (Operand.tmp 155) (Operand.const (Value.int IntKind.i64 3)) t141 (Value.int IntKind.i64 3)) h_53 fun t156 h_65 =>
  GuardP t156 true (
  RunV Try.prog (binS BinOp.neq 25 (Operand.tmp 158) (Operand.const (Value.int IntKind.i64 14)) t141 (Value.int IntKind.i64 14)) h_65 fun t159 h_66 =>
  J_7 t159 h_66) (
  J_7 (Value.bool false) h_65)))) fun J_4 =>
  OpN Try.prog (Go.builtin Builtin.len #[54] 3 #[false] #[a3]) h_47 fun t126 h_67 =>
  RunV Try.prog (binS BinOp.lss 3 (Operand.tmp 124) (Operand.tmp 126) L_2x121 t126) h_67 fun t127 h_68 =>
  CondP t127 (
  RunV Try.prog (Instr.indexAt 54 a3 L_2x121) h_68 fun t130 h_70 =>
  RunV Try.prog (Instr.loadAt 5 t130) h_70 fun t131 h_71 =>
  RunV Try.prog (binS BinOp.rem 5 (Operand.tmp 131) (Operand.const (Value.int IntKind.u8 3)) t131 (Value.int IntKind.u8 3)) h_71 fun t132 h_72 =>
  RunV Try.prog (convert 5 3 t132) h_72 fun t133 h_73 =>
  J_4 t133 h_73) (
  J_4 (Value.int IntKind.i64 0) h_68)) (
  Loop1 (Value.int IntKind.i64 0) h_47 fun L_3js L_3x162 h_74 L_3n =>
  RunV Try.prog (binS BinOp.lss 3 (Operand.tmp 162) (Operand.const (Value.int IntKind.i64 3)) L_3x162 (Value.int IntKind.i64 3)) h_74 fun t163 h_75 =>
  CondP t163 (
  Quiet h_75 fun S_3 =>
  QV Try.prog S_3 (Instr.indexAt 55 t15 L_3x162) fun t167 =>
  QV Try.prog S_3 (Instr.loadAt 3 t167) fun t168 =>
  QV Try.prog S_3 (Instr.indexAt 55 t16 L_3x162) fun t170 =>
  QV Try.prog S_3 (Instr.loadAt 3 t170) fun t171 =>
  QV Try.prog S_3 (Instr.indexAt 57 t18 L_3x162) fun t174 =>
  QV Try.prog S_3 (Instr.loadAt 32 t174) fun t175 =>
  CallF Try.prog 28 #[t49, t168, t171] h_75 fun t172 h_76 =>
  And (S_3 h_76) (
  CallF Try.prog 19 #[t172, t175] h_76 fun t176 h_77 =>
  And (S_3 h_77) (
  QV Try.prog S_3 (Op.unary UnOp.not t176) fun t177 =>
  CondP t177 (
  K (Value.bool false) h_77) (
  Quiet h_77 fun S_4 =>
  QV Try.prog S_4 (Instr.indexAt 55 t15 L_3x162) fun t181 =>
  QV Try.prog S_4 (Instr.loadAt 3 t181) fun t182 =>
  QV Try.prog S_4 (Instr.indexAt 55 t16 L_3x162) fun t184 =>
  QV Try.prog S_4 (Instr.loadAt 3 t184) fun t185 =>
  CallF Try.prog 27 #[t49, t182, t185] h_77 fun t186 h_78 =>
  And (S_4 h_78) (
  QV Try.prog S_4 (Instr.extract t186 0) fun t187 =>
  QV Try.prog S_4 (Instr.extract t186 1) fun t188 =>
  QV Try.prog S_4 (Instr.extract t186 2) fun t189 =>
  Join1 (fun J_9x210 h_79 =>
  CondP J_9x210 (
  K (Value.bool false) h_79) (
  RunV Try.prog (binS BinOp.add 3 (Operand.tmp 162) (Operand.const (Value.int IntKind.i64 1)) L_3x162 (Value.int IntKind.i64 1)) h_79 fun t211 h_80 =>
  L_3n t211 h_80)) fun J_9 =>
  Quiet h_78 fun S_5 =>
  QV Try.prog S_5 (binS BinOp.neq 25 (Operand.tmp 190) (Operand.const (Value.int IntKind.i64 0)) t189 (Value.int IntKind.i64 0)) fun t191 =>
  GuardP t191 false (
  QV Try.prog S_5 (Instr.indexAt 57 t18 L_3x162) fun t195 =>
  QV Try.prog S_5 (Instr.loadAt 32 t195) fun t196 =>
  CallF Try.prog 19 #[t188, t196] h_78 fun t197 h_81 =>
  And (S_5 h_81) (
  QV Try.prog S_5 (Op.unary UnOp.not t197) fun t198 =>
  GuardP t198 false (
  QV Try.prog S_5 (Instr.indexAt 56 t17 L_3x162) fun t202 =>
  QV Try.prog S_5 (Instr.loadAt 31 t202) fun t203 =>
  QV Try.prog S_5 (Instr.indexAt 57 t18 L_3x162) fun t206 =>
  QV Try.prog S_5 (Instr.loadAt 32 t206) fun t207 =>
  CallF Try.prog 24 #[t203] h_81 fun t204 h_82 =>
  And (S_5 h_82) (
  CallF Try.prog 19 #[t204, t207] h_82 fun t208 h_83 =>
  And (S_5 h_83) (
  QV Try.prog S_5 (Op.unary UnOp.not t208) fun t209 =>
  J_9 t209 h_83))) (
  J_9 (Value.bool true) h_81))) (
  J_9 (Value.bool true) h_78)))))) (
  RunV Try.prog (Instr.build 60 #[(0, (Value.int IntKind.i64 (-1))), (1, (Value.int IntKind.i64 3))]) h_75 fun t212 h_84 =>
  RunV Try.prog (Instr.build 60 #[(0, (Value.int IntKind.i64 60)), (1, (Value.int IntKind.i64 1))]) h_84 fun t213 h_85 =>
  RunV Try.prog (Instr.build 60 #[(0, (Value.int IntKind.i64 0)), (1, (Value.int IntKind.i64 61))]) h_85 fun t214 h_86 =>
  RunV Try.prog (Instr.build 60 #[(0, (Value.int IntKind.i64 59)), (1, (Value.int IntKind.i64 2))]) h_86 fun t215 h_87 =>
  RunV Try.prog (Instr.build 60 #[(0, (Value.int IntKind.i64 5)), (1, (Value.int IntKind.i64 0))]) h_87 fun t216 h_88 =>
  RunV Try.prog (Instr.build 60 #[(0, (Value.int IntKind.i64 1)), (1, (Value.int IntKind.i64 9223372036854775807))]) h_88 fun t217 h_89 =>
  RunV Try.prog (Instr.buildSlice 61 6 #[(0, t212), (1, t213), (2, t214), (3, t215), (4, t216), (5, t217)]) h_89 fun t218 h_90 =>
  OpN Try.prog (Go.builtin Builtin.len #[61] 3 #[false] #[t218]) h_90 fun t219 h_91 =>
  Loop1 (Value.int IntKind.i64 0) h_91 fun L_4js L_4x220 h_92 L_4n =>
  RunV Try.prog (binS BinOp.lss 3 (Operand.tmp 220) (Operand.tmp 219) L_4x220 t219) h_92 fun t221 h_93 =>
  CondP t221 (
  RunV Try.prog (Instr.indexAt 61 t218 L_4x220) h_93 fun t222 h_94 =>
  RunV Try.prog (Instr.loadAt 60 t222) h_94 fun t223 h_95 =>
  RunV Try.prog (Instr.alloc 60 true (.tuple #[])) h_95 fun t28 h_96 =>
  RunU Try.prog (Instr.storeAt 60 t28 t223) h_96 fun h_97 =>
  RunV Try.prog (Instr.indexAt 60 t28 (Value.int IntKind.i64 0)) h_97 fun t226 h_98 =>
  RunV Try.prog (Instr.loadAt 3 t226) h_98 fun t227 h_99 =>
  RunV Try.prog (Instr.indexAt 60 t28 (Value.int IntKind.i64 1)) h_99 fun t228 h_100 =>
  RunV Try.prog (Instr.loadAt 3 t228) h_100 fun t229 h_101 =>
  CallF Try.prog 27 #[t49, t227, t229] h_101 fun t230 h_102 =>
  RunV Try.prog (Instr.extract t230 0) h_102 fun t231 h_103 =>
  RunV Try.prog (Instr.extract t230 1) h_103 fun t232 h_104 =>
  RunV Try.prog (Instr.extract t230 2) h_104 fun t233 h_105 =>
  Join1 (fun J_10x249 h_106 =>
  CondP J_10x249 (
  K (Value.bool false) h_106) (
  RunV Try.prog (binS BinOp.add 3 (Operand.tmp 220) (Operand.const (Value.int IntKind.i64 1)) L_4x220 (Value.int IntKind.i64 1)) h_106 fun t250 h_107 =>
  L_4n t250 h_107)) fun J_10 =>
  RunV Try.prog (binS BinOp.neq 31 (Operand.tmp 234) (Operand.const (Value.pointer none)) t231 (Value.pointer none)) h_105 fun t235 h_108 =>
  GuardP t235 false (
  RunV Try.prog (binS BinOp.neq 25 (Operand.tmp 237) (Operand.const (Value.int IntKind.i64 1)) t233 (Value.int IntKind.i64 1)) h_108 fun t238 h_109 =>
  GuardP t238 false (
  RunV Try.prog (Instr.indexAt 60 t28 (Value.int IntKind.i64 0)) h_109 fun t242 h_110 =>
  RunV Try.prog (Instr.loadAt 3 t242) h_110 fun t243 h_111 =>
  RunV Try.prog (Instr.indexAt 60 t28 (Value.int IntKind.i64 1)) h_111 fun t244 h_112 =>
  RunV Try.prog (Instr.loadAt 3 t244) h_112 fun t245 h_113 =>
  CallF Try.prog 28 #[t49, t243, t245] h_113 fun t246 h_114 =>
  OpN Try.prog (Go.builtin Builtin.len #[32] 3 #[false] #[t246]) h_114 fun t247 h_115 =>
  RunV Try.prog (binS BinOp.neq 3 (Operand.tmp 247) (Operand.const (Value.int IntKind.i64 0)) t247 (Value.int IntKind.i64 0)) h_115 fun t248 h_116 =>
  J_10 t248 h_116) (
  J_10 (Value.bool true) h_109)) (
  J_10 (Value.bool true) h_108)) (
  K (Value.bool true) h_93)))))) fun J =>
  RunV Try.prog (binS BinOp.eql 24 (Operand.tmp 51) (Operand.const (Value.pointer none)) t49 (Value.pointer none)) h_13 fun t52 h_117 =>
  GuardP t52 false (
  RunV Try.prog (binS BinOp.gtr 3 (Operand.tmp 54) (Operand.const (Value.int IntKind.i64 1500)) Lx9 (Value.int IntKind.i64 1500)) h_117 fun t55 h_118 =>
  GuardP t55 false (
  OpN Try.prog (Go.builtin Builtin.len #[32] 3 #[false] #[a2]) h_118 fun t59 h_119 =>
  RunV Try.prog (binS BinOp.gtr 3 (Operand.tmp 59) (Operand.const (Value.int IntKind.i64 30)) t59 (Value.int IntKind.i64 30)) h_119 fun t60 h_120 =>
  J t60 h_120) (
  J (Value.bool true) h_118)) (
  J (Value.bool true) h_117)))
def ann4 : Ann := { loops := [(44, [220]), (35, [162]), (23, [121]), (16, [86]), (5, [9, 36])], held := [(18, (.take 0 (.take 1 (.take 2 (.take 3 (.take 4 (.take 5 (.take 6 (.take 7 (.one 8 (.take 9 (.take 10 (.take 11 (.take 12 (.take 13 (.one 14 .nil)))))))))))))))), (28, (.take 0 (.take 1 (.take 2 (.take 3 (.take 4 (.take 5 (.take 6 (.one 7 (.take 8 .nil)))))))))), (30, (.take 0 (.take 1 (.take 2 (.take 4 (.take 5 (.take 6 (.take 7 (.two 3 (.one 8 (.one 9 (.take 10 (.one 11 .nil)))) 8 (.one 3 (.one 9 (.take 10 (.one 11 .nil))))))))))))), (37, (.take 0 (.take 1 (.take 2 (.take 3 (.take 4 (.take 5 (.take 6 (.take 8 (.take 9 (.take 10 (.one 7 (.one 11 (.take 12 .nil)))))))))))))), (39, (.take 0 (.take 1 (.take 2 (.take 3 (.take 4 (.take 5 (.take 6 (.one 7 (.take 8 (.take 9 (.take 10 (.take 11 (.take 12 (.take 13 (.take 14 .nil)))))))))))))))), (40, (.take 0 (.take 1 (.take 2 (.take 3 (.take 4 (.take 5 (.take 6 (.one 7 (.take 8 (.take 9 (.take 10 (.take 11 (.take 12 (.take 13 (.take 15 (.take 16 (.take 17 (.one 14 (.one 18 (.take 19 (.take 20 .nil))))))))))))))))))))))] }
theorem F4_eq (a0 a1 a2 a3 : Value) (h : Heap) (K : Value → Heap → Prop) : F4 a0 a1 a2 a3 h K = W Try.prog ann4 (bodyOf Try.f4) (bodyQ Try.prog Try.f4.results.toList K) (argsE [a0, a1, a2, a3]) h := by kernel_rfl
theorem F4_wf : (wf Try.f4.ntmps ann4 (bodyOf Try.f4) && Nat.ble Try.f4.ntmps ghost && !memN (writes (bodyOf Try.f4)) ghost) = true := by kernel_rfl
theorem F4_b : Try.f4.body.isSome = true := by kernel_rfl
theorem F4_n : (Try.f4.name == "runtime.NumGoroutine") = false := by kernel_rfl
theorem R4 (args : Array Value) (w : World) : (callFunc 4 args).run Try.prog w = .ok (.enter 4 args) w := callFunc_run Try.func4 F4_b F4_n args w
theorem S4 {a0 a1 a2 a3 : Value} {h : Heap} {K : Value → Heap → Prop} (H : F4 a0 a1 a2 a3 h K) : CallF Try.prog 4 #[a0, a1, a2, a3] h K :=
  callF_of_W mo Try.func4 F4_b F4_n F4_wf (args := [a0, a1, a2, a3]) rfl (F4_eq a0 a1 a2 a3 h K ▸ H)

/- replevin/replevinlaw14.awake -/
def F5 (h : Heap) (K : Value → Heap → Prop) : Prop :=
  CallF Try.prog 6 #[(Value.int IntKind.i64 4)] h fun t24 h_1 =>
  RunV Try.prog (Instr.extract t24 0) h_1 fun t25 h_2 =>
  RunV Try.prog (Instr.extract t24 1) h_2 fun t26 h_3 =>
  RunV Try.prog (binS BinOp.eql 24 (Operand.tmp 27) (Operand.const (Value.pointer none)) t25 (Value.pointer none)) h_3 fun t28 h_4 =>
  CondP t28 (
  K (Value.bool false) h_4) (
  CallF Try.prog 8 #[(Value.pointer none)] h_4 fun t30 h_5 =>
  RunV Try.prog (Instr.extract t30 0) h_5 fun t31 h_6 =>
  RunV Try.prog (Instr.extract t30 1) h_6 fun t32 h_7 =>
  RunV Try.prog (Instr.extract t30 2) h_7 fun t33 h_8 =>
  CallF Try.prog 8 #[t25] h_8 fun t36 h_9 =>
  RunV Try.prog (Instr.extract t36 0) h_9 fun t37 h_10 =>
  RunV Try.prog (Instr.extract t36 1) h_10 fun t38 h_11 =>
  RunV Try.prog (Instr.extract t36 2) h_11 fun t39 h_12 =>
  RunV Try.prog (binS BinOp.eql 31 (Operand.tmp 40) (Operand.const (Value.pointer none)) t37 (Value.pointer none)) h_12 fun t41 h_13 =>
  CondP t41 (
  K (Value.bool false) h_13) (
  CallF Try.prog 10 #[t37, (Value.string { data := #[97] })] h_13 fun t43 h_14 =>
  CallF Try.prog 10 #[t37, (Value.string { data := #[98, 98] })] h_14 fun t45 h_15 =>
  CallF Try.prog 10 #[t37, (Value.string { data := #[] })] h_15 fun t47 h_16 =>
  CallF Try.prog 25 #[t37] h_16 fun t49 h_17 =>
  RunV Try.prog (Instr.makeSlice 54 (Value.int IntKind.i64 110) (Value.int IntKind.i64 110)) h_17 fun t51 h_18 =>
  RunV Try.prog (convert 54 9 t51) h_18 fun t52 h_19 =>
  CallF Try.prog 10 #[t37, t52] h_19 fun t53 h_20 =>
  CallF Try.prog 8 #[t25] h_20 fun t56 h_21 =>
  RunV Try.prog (Instr.extract t56 0) h_21 fun t57 h_22 =>
  RunV Try.prog (Instr.extract t56 1) h_22 fun t58 h_23 =>
  RunV Try.prog (Instr.extract t56 2) h_23 fun t59 h_24 =>
  RunV Try.prog (binS BinOp.eql 31 (Operand.tmp 60) (Operand.const (Value.pointer none)) t57 (Value.pointer none)) h_24 fun t61 h_25 =>
  CondP t61 (
  K (Value.bool false) h_25) (
  CallF Try.prog 12 #[t25, (Value.int IntKind.i64 0), (Value.int IntKind.i64 30)] h_25 fun t63 h_26 =>
  CallF Try.prog 10 #[t57, (Value.string { data := #[99, 99, 99] })] h_26 fun t65 h_27 =>
  CallF Try.prog 10 #[t57, (Value.string { data := #[100] })] h_27 fun t67 h_28 =>
  CallF Try.prog 23 #[t25] h_28 fun t69 h_29 =>
  CallF Try.prog 14 #[t25] h_29 fun t71 h_30 =>
  CallF Try.prog 8 #[t25] h_30 fun t74 h_31 =>
  RunV Try.prog (Instr.extract t74 0) h_31 fun t75 h_32 =>
  RunV Try.prog (Instr.extract t74 1) h_32 fun t76 h_33 =>
  RunV Try.prog (Instr.extract t74 2) h_33 fun t77 h_34 =>
  RunV Try.prog (binS BinOp.eql 25 (Operand.tmp 78) (Operand.const (Value.int IntKind.i64 1)) t33 (Value.int IntKind.i64 1)) h_34 fun t79 h_36 =>
  GuardP t79 true (
  RunV Try.prog (binS BinOp.eql 25 (Operand.tmp 81) (Operand.const (Value.int IntKind.i64 0)) t39 (Value.int IntKind.i64 0)) h_36 fun t82 h_37 =>
  GuardP t82 true (
  OpN Try.prog (Go.builtin Builtin.len #[32] 3 #[false] #[t38]) h_37 fun t86 h_38 =>
  RunV Try.prog (binS BinOp.eql 3 (Operand.tmp 86) (Operand.const (Value.int IntKind.i64 0)) t86 (Value.int IntKind.i64 0)) h_38 fun t87 h_39 =>
  GuardP t87 true (
  RunV Try.prog (binS BinOp.eql 25 (Operand.tmp 90) (Operand.const (Value.int IntKind.i64 0)) t43 (Value.int IntKind.i64 0)) h_39 fun t91 h_40 =>
  GuardP t91 true (
  RunV Try.prog (binS BinOp.eql 25 (Operand.tmp 94) (Operand.const (Value.int IntKind.i64 0)) t45 (Value.int IntKind.i64 0)) h_40 fun t95 h_41 =>
  GuardP t95 true (
  RunV Try.prog (binS BinOp.eql 25 (Operand.tmp 98) (Operand.const (Value.int IntKind.i64 3)) t47 (Value.int IntKind.i64 3)) h_41 fun t99 h_42 =>
  GuardP t99 true (
  RunV Try.prog (binS BinOp.eql 3 (Operand.tmp 102) (Operand.const (Value.int IntKind.i64 109)) t49 (Value.int IntKind.i64 109)) h_42 fun t103 h_43 =>
  GuardP t103 true (
  RunV Try.prog (binS BinOp.eql 25 (Operand.tmp 106) (Operand.const (Value.int IntKind.i64 14)) t53 (Value.int IntKind.i64 14)) h_43 fun t107 h_44 =>
  GuardP t107 true (
  RunV Try.prog (binS BinOp.eql 25 (Operand.tmp 110) (Operand.const (Value.int IntKind.i64 0)) t59 (Value.int IntKind.i64 0)) h_44 fun t111 h_45 =>
  GuardP t111 true (
  RunV Try.prog (Instr.buildSlice 32 2 #[(0, (Value.string { data := #[97] })), (1, (Value.string { data := #[98, 98] }))]) h_45 fun t115 h_46 =>
  CallF Try.prog 19 #[t58, t115] h_46 fun t116 h_47 =>
  GuardP t116 true (
  RunV Try.prog (binS BinOp.eql 25 (Operand.tmp 119) (Operand.const (Value.int IntKind.i64 16)) t65 (Value.int IntKind.i64 16)) h_47 fun t120 h_48 =>
  GuardP t120 true (
  RunV Try.prog (binS BinOp.eql 25 (Operand.tmp 123) (Operand.const (Value.int IntKind.i64 16)) t67 (Value.int IntKind.i64 16)) h_48 fun t124 h_49 =>
  GuardP t124 true (
  RunV Try.prog (binS BinOp.eql 25 (Operand.tmp 127) (Operand.const (Value.int IntKind.i64 0)) t77 (Value.int IntKind.i64 0)) h_49 fun t128 h_50 =>
  GuardP t128 true (
  CallF Try.prog 19 #[t76, t69] h_50 fun t133 h_51 =>
  GuardP t133 true (
  OpN Try.prog (Go.builtin Builtin.len #[32] 3 #[false] #[t76]) h_51 fun t137 h_52 =>
  RunV Try.prog (binS BinOp.eql 3 (Operand.tmp 137) (Operand.const (Value.int IntKind.i64 2)) t137 (Value.int IntKind.i64 2)) h_52 fun t138 h_53 =>
  GuardP t138 false (
  OpN Try.prog (Go.builtin Builtin.len #[32] 3 #[false] #[t76]) h_53 fun t141 h_54 =>
  RunV Try.prog (binS BinOp.eql 3 (Operand.tmp 141) (Operand.const (Value.int IntKind.i64 3)) t141 (Value.int IntKind.i64 3)) h_54 fun t142 h_55 =>
  GuardP t142 true (
  CallF Try.prog 24 #[t37] h_55 fun t147 h_56 =>
  RunV Try.prog (Instr.buildSlice 32 2 #[(0, (Value.string { data := #[97] })), (1, (Value.string { data := #[98, 98] }))]) h_56 fun t148 h_57 =>
  CallF Try.prog 19 #[t147, t148] h_57 fun t149 h_58 =>
  K t149 h_58) (
  K (Value.bool false) h_55)) (
  CallF Try.prog 24 #[t37] h_53 fun t147_1 h_59 =>
  RunV Try.prog (Instr.buildSlice 32 2 #[(0, (Value.string { data := #[97] })), (1, (Value.string { data := #[98, 98] }))]) h_59 fun t148_1 h_60 =>
  CallF Try.prog 19 #[t147_1, t148_1] h_60 fun t149_1 h_61 =>
  K t149_1 h_61)) (
  SkipP undef (
  SkipP undef (
  SkipP undef (
  K (Value.bool false) h_51))))) (
  SkipP undef (
  SkipP undef (
  SkipP undef (
  K (Value.bool false) h_50))))) (
  SkipP undef (
  SkipP undef (
  SkipP undef (
  K (Value.bool false) h_49))))) (
  SkipP undef (
  SkipP undef (
  SkipP undef (
  K (Value.bool false) h_48))))) (
  SkipP undef (
  SkipP undef (
  SkipP undef (
  K (Value.bool false) h_47))))) (
  SkipP undef (
  SkipP undef (
  SkipP undef (
  K (Value.bool false) h_45))))) (
  SkipP undef (
  SkipP undef (
  SkipP undef (
  K (Value.bool false) h_44))))) (
  SkipP undef (
  SkipP undef (
  SkipP undef (
  K (Value.bool false) h_43))))) (
  SkipP undef (
  SkipP undef (
  SkipP undef (
  K (Value.bool false) h_42))))) (
  SkipP undef (
  SkipP undef (
  SkipP undef (
  K (Value.bool false) h_41))))) (
  SkipP undef (
  SkipP undef (
  SkipP undef (
  K (Value.bool false) h_40))))) (
  SkipP undef (
  SkipP undef (
  SkipP undef (
  K (Value.bool false) h_39))))) (
  SkipP undef (
  SkipP undef (
  SkipP undef (
  K (Value.bool false) h_37))))) (
  SkipP undef (
  SkipP undef (
  SkipP undef (
  K (Value.bool false) h_36)))))))
def ann5 : Ann := { loops := [], held := [] }
theorem F5_eq (h : Heap) (K : Value → Heap → Prop) : F5  h K = W Try.prog ann5 (bodyOf Try.f5) (bodyQ Try.prog Try.f5.results.toList K) (argsE []) h := by kernel_rfl
theorem F5_wf : (wf Try.f5.ntmps ann5 (bodyOf Try.f5) && Nat.ble Try.f5.ntmps ghost && !memN (writes (bodyOf Try.f5)) ghost) = true := by kernel_rfl
theorem F5_b : Try.f5.body.isSome = true := by kernel_rfl
theorem F5_n : (Try.f5.name == "runtime.NumGoroutine") = false := by kernel_rfl
theorem R5 (args : Array Value) (w : World) : (callFunc 5 args).run Try.prog w = .ok (.enter 5 args) w := callFunc_run Try.func5 F5_b F5_n args w
theorem S5 {h : Heap} {K : Value → Heap → Prop} (H : F5 h K) : CallF Try.prog 5 #[] h K :=
  callF_of_W mo Try.func5 F5_b F5_n F5_wf (args := []) rfl (F5_eq h K ▸ H)

/- replevin/store.New -/
def F6 (a0 : Value) (h : Heap) (K : Value → Heap → Prop) : Prop :=
  Join1 (fun Jx9 h_1 =>
  CondP Jx9 (
  K (.tuple #[(Value.pointer none), (Value.int IntKind.i64 1)]) h_1) (
  RunV Try.prog (Instr.makeSlice 63 a0 a0) h_1 fun t11 h_2 =>
  RunV Try.prog (Instr.build 65 #[(0, t11), (1, (Value.int IntKind.i64 (-1)))]) h_2 fun t12 h_3 =>
  RunV Try.prog (Instr.box 65 t12) h_3 fun t13 h_4 =>
  K (.tuple #[t13, (Value.int IntKind.i64 0)]) h_4)) fun J =>
  RunV Try.prog (binS BinOp.lss 3 (Operand.tmp 4) (Operand.const (Value.int IntKind.i64 1)) a0 (Value.int IntKind.i64 1)) h fun t5 h_5 =>
  GuardP t5 false (
  RunV Try.prog (binS BinOp.gtr 3 (Operand.tmp 7) (Operand.const (Value.int IntKind.i64 256)) a0 (Value.int IntKind.i64 256)) h_5 fun t8 h_6 =>
  J t8 h_6) (
  J (Value.bool true) h_5)
def ann6 : Ann := { loops := [], held := [] }
theorem F6_eq (a0 : Value) (h : Heap) (K : Value → Heap → Prop) : F6 a0 h K = W Try.prog ann6 (bodyOf Try.f6) (bodyQ Try.prog Try.f6.results.toList K) (argsE [a0]) h := by kernel_rfl
theorem F6_wf : (wf Try.f6.ntmps ann6 (bodyOf Try.f6) && Nat.ble Try.f6.ntmps ghost && !memN (writes (bodyOf Try.f6)) ghost) = true := by kernel_rfl
theorem F6_b : Try.f6.body.isSome = true := by kernel_rfl
theorem F6_n : (Try.f6.name == "runtime.NumGoroutine") = false := by kernel_rfl
theorem R6 (args : Array Value) (w : World) : (callFunc 6 args).run Try.prog w = .ok (.enter 6 args) w := callFunc_run Try.func6 F6_b F6_n args w
theorem S6 {a0 : Value} {h : Heap} {K : Value → Heap → Prop} (H : F6 a0 h K) : CallF Try.prog 6 #[a0] h K :=
  callF_of_W mo Try.func6 F6_b F6_n F6_wf (args := [a0]) rfl (F6_eq a0 h K ▸ H)

/- replevin/replevinref12.New -/
def F7 (a0 : Value) (h : Heap) (K : Value → Heap → Prop) : Prop :=
  Join1 (fun Jx13 h_1 =>
  CondP Jx13 (
  K (.tuple #[(Value.pointer none), (Value.int IntKind.i64 1)]) h_1) (
  Loop2 (Value.string { data := #[] }) (Value.int IntKind.i64 0) h_1 fun Ljs Lx4 Lx5 h_2 Ln =>
  RunV Try.prog (binS BinOp.lss 3 (Operand.tmp 14) (Operand.const (Value.int IntKind.i64 32)) Lx5 (Value.int IntKind.i64 32)) h_2 fun t15 h_3 =>
  CondP t15 (
  RunV Try.prog (binS BinOp.add 9 (Operand.tmp 18) (Operand.const (Value.string { data := #[0] })) Lx4 (Value.string { data := #[0] })) h_3 fun t19 h_4 =>
  RunV Try.prog (binS BinOp.add 3 (Operand.tmp 16) (Operand.const (Value.int IntKind.i64 1)) Lx5 (Value.int IntKind.i64 1)) h_4 fun t17 h_5 =>
  Ln t19 t17 h_5) (
  RunV Try.prog (Instr.build 67 #[(1, (Value.int IntKind.i64 (-1)))]) h_3 fun t20 h_6 =>
  RunV Try.prog (Instr.box 67 t20) h_6 fun t21 h_7 =>
  Loop1 (Value.int IntKind.i64 0) h_7 fun L_1js L_1x7 h_8 L_1n =>
  RunV Try.prog (binS BinOp.lss 3 (Operand.tmp 22) (Operand.tmp 23) L_1x7 a0) h_8 fun t24 h_9 =>
  CondP t24 (
  NilC t21 fun t29 =>
  RunV Try.prog (Instr.fieldAt 67 t29 0) h_9 fun t30 h_10 =>
  RunV Try.prog (Instr.loadAt 32 t30) h_10 fun t31 h_11 =>
  RunV Try.prog (Instr.buildSlice 32 1 #[(0, Lx4)]) h_11 fun t33 h_12 =>
  OpN Try.prog (Go.builtin Builtin.append #[32, 32] 32 #[false, false] #[t31, t33]) h_12 fun t34 h_13 =>
  NilC t21 fun t35 =>
  RunV Try.prog (Instr.fieldAt 67 t35 0) h_13 fun t36 h_14 =>
  RunU Try.prog (Instr.storeAt 32 t36 t34) h_14 fun h_15 =>
  RunV Try.prog (binS BinOp.add 3 (Operand.tmp 25) (Operand.const (Value.int IntKind.i64 1)) L_1x7 (Value.int IntKind.i64 1)) h_15 fun t26 h_16 =>
  L_1n t26 h_16) (
  K (.tuple #[t21, (Value.int IntKind.i64 0)]) h_9)))) fun J =>
  RunV Try.prog (binS BinOp.lss 3 (Operand.tmp 8) (Operand.const (Value.int IntKind.i64 1)) a0 (Value.int IntKind.i64 1)) h fun t9 h_17 =>
  GuardP t9 false (
  RunV Try.prog (binS BinOp.gtr 3 (Operand.tmp 11) (Operand.const (Value.int IntKind.i64 256)) a0 (Value.int IntKind.i64 256)) h_17 fun t12 h_18 =>
  J t12 h_18) (
  J (Value.bool true) h_17)
def ann7 : Ann := { loops := [(10, [7]), (5, [4, 5])], held := [] }
theorem F7_eq (a0 : Value) (h : Heap) (K : Value → Heap → Prop) : F7 a0 h K = W Try.prog ann7 (bodyOf Try.f7) (bodyQ Try.prog Try.f7.results.toList K) (argsE [a0]) h := by kernel_rfl
theorem F7_wf : (wf Try.f7.ntmps ann7 (bodyOf Try.f7) && Nat.ble Try.f7.ntmps ghost && !memN (writes (bodyOf Try.f7)) ghost) = true := by kernel_rfl
theorem F7_b : Try.f7.body.isSome = true := by kernel_rfl
theorem F7_n : (Try.f7.name == "runtime.NumGoroutine") = false := by kernel_rfl
theorem R7 (args : Array Value) (w : World) : (callFunc 7 args).run Try.prog w = .ok (.enter 7 args) w := callFunc_run Try.func7 F7_b F7_n args w
theorem S7 {a0 : Value} {h : Heap} {K : Value → Heap → Prop} (H : F7 a0 h K) : CallF Try.prog 7 #[a0] h K :=
  callF_of_W mo Try.func7 F7_b F7_n F7_wf (args := [a0]) rfl (F7_eq a0 h K ▸ H)

/- replevin/journal.Open -/
def F8 (a0 : Value) (h : Heap) (K : Value → Heap → Prop) : Prop :=
  RunV Try.prog (binS BinOp.eql 24 (Operand.tmp 5) (Operand.const (Value.pointer none)) a0 (Value.pointer none)) h fun t6 h_1 =>
  CondP t6 (
  K (.tuple #[(Value.pointer none), (Value.slice none 0 0), (Value.int IntKind.i64 1)]) h_1) (
  CallF Try.prog 29 #[a0] h_1 fun t9 h_2 =>
  CallF Try.prog 27 #[a0, (Value.int IntKind.i64 0), t9] h_2 fun t10 h_3 =>
  RunV Try.prog (Instr.extract t10 0) h_3 fun t11 h_4 =>
  RunV Try.prog (Instr.extract t10 1) h_4 fun t12 h_5 =>
  RunV Try.prog (Instr.extract t10 2) h_5 fun t13 h_6 =>
  K (.tuple #[t11, t12, t13]) h_6)
def ann8 : Ann := { loops := [], held := [] }
theorem F8_eq (a0 : Value) (h : Heap) (K : Value → Heap → Prop) : F8 a0 h K = W Try.prog ann8 (bodyOf Try.f8) (bodyQ Try.prog Try.f8.results.toList K) (argsE [a0]) h := by kernel_rfl
theorem F8_wf : (wf Try.f8.ntmps ann8 (bodyOf Try.f8) && Nat.ble Try.f8.ntmps ghost && !memN (writes (bodyOf Try.f8)) ghost) = true := by kernel_rfl
theorem F8_b : Try.f8.body.isSome = true := by kernel_rfl
theorem F8_n : (Try.f8.name == "runtime.NumGoroutine") = false := by kernel_rfl
theorem R8 (args : Array Value) (w : World) : (callFunc 8 args).run Try.prog w = .ok (.enter 8 args) w := callFunc_run Try.func8 F8_b F8_n args w
theorem S8 {a0 : Value} {h : Heap} {K : Value → Heap → Prop} (H : F8 a0 h K) : CallF Try.prog 8 #[a0] h K :=
  callF_of_W mo Try.func8 F8_b F8_n F8_wf (args := [a0]) rfl (F8_eq a0 h K ▸ H)

/- replevin/replevinref14.Open -/
def F9 (a0 : Value) (h : Heap) (K : Value → Heap → Prop) : Prop :=
  NilC a0 fun t7 =>
  RunV Try.prog (Instr.fieldAt 67 t7 0) h fun t8 h_1 =>
  RunV Try.prog (Instr.loadAt 32 t8) h_1 fun t9 h_2 =>
  OpN Try.prog (Go.builtin Builtin.len #[32] 3 #[false] #[t9]) h_2 fun t10 h_3 =>
  CallF Try.prog 30 #[a0, (Value.int IntKind.i64 0), t10] h_3 fun t11 h_4 =>
  RunV Try.prog (Instr.extract t11 0) h_4 fun t12 h_5 =>
  RunV Try.prog (Instr.extract t11 1) h_5 fun t13 h_6 =>
  RunV Try.prog (Instr.extract t11 2) h_6 fun t14 h_7 =>
  K (.tuple #[t12, t13, t14]) h_7
def ann9 : Ann := { loops := [], held := [] }
theorem F9_eq (a0 : Value) (h : Heap) (K : Value → Heap → Prop) : F9 a0 h K = W Try.prog ann9 (bodyOf Try.f9) (bodyQ Try.prog Try.f9.results.toList K) (argsE [a0]) h := by kernel_rfl
theorem F9_wf : (wf Try.f9.ntmps ann9 (bodyOf Try.f9) && Nat.ble Try.f9.ntmps ghost && !memN (writes (bodyOf Try.f9)) ghost) = true := by kernel_rfl
theorem F9_b : Try.f9.body.isSome = true := by kernel_rfl
theorem F9_n : (Try.f9.name == "runtime.NumGoroutine") = false := by kernel_rfl
theorem R9 (args : Array Value) (w : World) : (callFunc 9 args).run Try.prog w = .ok (.enter 9 args) w := callFunc_run Try.func9 F9_b F9_n args w
theorem S9 {a0 : Value} {h : Heap} {K : Value → Heap → Prop} (H : F9 a0 h K) : CallF Try.prog 9 #[a0] h K :=
  callF_of_W mo Try.func9 F9_b F9_n F9_wf (args := [a0]) rfl (F9_eq a0 h K ▸ H)

/- (*replevin/journal.Journal).Append -/
def F10 (a0 a1 : Value) (h : Heap) (K : Value → Heap → Prop) : Prop :=
  CallF Try.prog 31 #[a1] h fun t12 h_1 =>
  RunV Try.prog (Instr.extract t12 0) h_1 fun t13 h_2 =>
  RunV Try.prog (Instr.extract t12 1) h_2 fun t14 h_3 =>
  RunV Try.prog (binS BinOp.neq 25 (Operand.tmp 16) (Operand.const (Value.int IntKind.i64 0)) t14 (Value.int IntKind.i64 0)) h_3 fun t17 h_4 =>
  CondP t17 (
  K t14 h_4) (
  OpN Try.prog (Go.builtin Builtin.len #[9] 3 #[false] #[t13]) h_4 fun t21 h_5 =>
  CallF Try.prog 25 #[a0] h_5 fun t23 h_6 =>
  RunV Try.prog (binS BinOp.gtr 3 (Operand.tmp 21) (Operand.tmp 23) t21 t23) h_6 fun t24 h_7 =>
  CondP t24 (
  K (Value.int IntKind.i64 14) h_7) (
  NilC a0 fun t27 =>
  RunV Try.prog (Instr.fieldAt 74 t27 3) h_7 fun t28 h_8 =>
  RunV Try.prog (Instr.loadAt 4 t28) h_8 fun t29 h_9 =>
  CondP t29 (
  K (Value.int IntKind.i64 16) h_9) (
  NilC a0 fun t31 =>
  RunV Try.prog (Instr.fieldAt 74 t31 0) h_9 fun t32 h_10 =>
  RunV Try.prog (Instr.loadAt 72 t32) h_10 fun t33 h_11 =>
  CallF Try.prog 32 #[t33] h_11 fun t34 h_12 =>
  NilC a0 fun t36 =>
  RunV Try.prog (Instr.fieldAt 74 t36 2) h_12 fun t37 h_13 =>
  RunV Try.prog (Instr.loadAt 3 t37) h_13 fun t38 h_14 =>
  OpN Try.prog (Go.builtin Builtin.len #[9] 3 #[false] #[t13]) h_14 fun t40 h_15 =>
  RunV Try.prog (binS BinOp.add 3 (Operand.tmp 38) (Operand.tmp 40) t38 t40) h_15 fun t41 h_16 =>
  Quiet h_16 fun S =>
  NilC a0 fun t43 =>
  QV Try.prog S (Instr.fieldAt 74 t43 0) fun t44 =>
  QV Try.prog S (Instr.loadAt 72 t44) fun t45 =>
  NilC a0 fun t48 =>
  QV Try.prog S (Instr.fieldAt 74 t48 2) fun t49 =>
  QV Try.prog S (Instr.loadAt 3 t49) fun t50 =>
  QV Try.prog S (Instr.sliceAt 9 t34 none (some t50) none) fun t51 =>
  QV Try.prog S (binS BinOp.add 9 (Operand.tmp 51) (Operand.tmp 52) t51 t13) fun t53 =>
  QV Try.prog S (Instr.sliceAt 9 t34 (some t41) none none) fun t56 =>
  QV Try.prog S (binS BinOp.add 9 (Operand.tmp 53) (Operand.tmp 56) t53 t56) fun t57 =>
  NilC a0 fun t61 =>
  QV Try.prog S (Instr.fieldAt 74 t61 2) fun t62 =>
  QV Try.prog S (Instr.loadAt 3 t62) fun t63 =>
  CallF Try.prog 34 #[t57, t41] h_16 fun t59 h_17 =>
  And (S h_17) (
  CallF Try.prog 33 #[t45, t59, t63, t41, (Value.bool true)] h_17 fun t65 h_18 =>
  And (S h_18) (
  RunV Try.prog (binS BinOp.neq 25 (Operand.tmp 66) (Operand.const (Value.int IntKind.i64 0)) t65 (Value.int IntKind.i64 0)) h_18 fun t67 h_19 =>
  CondP t67 (
  NilC a0 fun t69 =>
  RunV Try.prog (Instr.fieldAt 74 t69 3) h_19 fun t70 h_20 =>
  RunU Try.prog (Instr.storeAt 4 t70 (Value.bool true)) h_20 fun h_21 =>
  K t65 h_21) (
  NilC a0 fun t75 =>
  RunV Try.prog (Instr.fieldAt 74 t75 1) h_19 fun t76 h_22 =>
  RunV Try.prog (Instr.loadAt 32 t76) h_22 fun t77 h_23 =>
  RunV Try.prog (Instr.buildSlice 32 1 #[(0, a1)]) h_23 fun t79 h_24 =>
  OpN Try.prog (Go.builtin Builtin.append #[32, 32] 32 #[false, false] #[t77, t79]) h_24 fun t80 h_25 =>
  NilC a0 fun t82 =>
  RunV Try.prog (Instr.fieldAt 74 t82 1) h_25 fun t83 h_26 =>
  RunU Try.prog (Instr.storeAt 32 t83 t80) h_26 fun h_27 =>
  NilC a0 fun t84 =>
  RunV Try.prog (Instr.fieldAt 74 t84 2) h_27 fun t85 h_28 =>
  RunU Try.prog (Instr.storeAt 3 t85 t41) h_28 fun h_29 =>
  K (Value.int IntKind.i64 0) h_29))))))
def ann10 : Ann := { loops := [], held := [(10, (.take 0 (.take 1 (.take 2 (.take 3 (.take 4 (.take 5 (.take 6 (.take 7 (.take 8 (.take 9 (.take 10 (.take 11 (.take 12 (.take 13 (.take 14 (.take 15 (.take 16 (.take 18 (.take 19 (.take 20 (.take 21 (.take 22 (.one 17 (.one 23 (.take 24 .nil))))))))))))))))))))))))))] }
theorem F10_eq (a0 a1 : Value) (h : Heap) (K : Value → Heap → Prop) : F10 a0 a1 h K = W Try.prog ann10 (bodyOf Try.f10) (bodyQ Try.prog Try.f10.results.toList K) (argsE [a0, a1]) h := by kernel_rfl
theorem F10_wf : (wf Try.f10.ntmps ann10 (bodyOf Try.f10) && Nat.ble Try.f10.ntmps ghost && !memN (writes (bodyOf Try.f10)) ghost) = true := by kernel_rfl
theorem F10_b : Try.f10.body.isSome = true := by kernel_rfl
theorem F10_n : (Try.f10.name == "runtime.NumGoroutine") = false := by kernel_rfl
theorem R10 (args : Array Value) (w : World) : (callFunc 10 args).run Try.prog w = .ok (.enter 10 args) w := callFunc_run Try.func10 F10_b F10_n args w
theorem S10 {a0 a1 : Value} {h : Heap} {K : Value → Heap → Prop} (H : F10 a0 a1 h K) : CallF Try.prog 10 #[a0, a1] h K :=
  callF_of_W mo Try.func10 F10_b F10_n F10_wf (args := [a0, a1]) rfl (F10_eq a0 a1 h K ▸ H)

/- (*replevin/replevinref14.Journal).Append -/
def F11 (a0 a1 : Value) (h : Heap) (K : Value → Heap → Prop) : Prop :=
  CallF Try.prog 35 #[a1] h fun t14 h_1 =>
  RunV Try.prog (Instr.extract t14 0) h_1 fun t15 h_2 =>
  RunV Try.prog (Instr.extract t14 1) h_2 fun t16 h_3 =>
  RunV Try.prog (binS BinOp.neq 25 (Operand.tmp 17) (Operand.const (Value.int IntKind.i64 0)) t16 (Value.int IntKind.i64 0)) h_3 fun t18 h_4 =>
  CondP t18 (
  K t16 h_4) (
  OpN Try.prog (Go.builtin Builtin.len #[9] 3 #[false] #[t15]) h_4 fun t21 h_5 =>
  CallF Try.prog 26 #[a0] h_5 fun t23 h_6 =>
  RunV Try.prog (binS BinOp.gtr 3 (Operand.tmp 21) (Operand.tmp 23) t21 t23) h_6 fun t24 h_7 =>
  CondP t24 (
  K (Value.int IntKind.i64 14) h_7) (
  NilC a0 fun t26 =>
  RunV Try.prog (Instr.fieldAt 51 t26 5) h_7 fun t27 h_8 =>
  RunV Try.prog (Instr.loadAt 4 t27) h_8 fun t28 h_9 =>
  CondP t28 (
  K (Value.int IntKind.i64 16) h_9) (
  NilC a0 fun t30 =>
  RunV Try.prog (Instr.fieldAt 51 t30 4) h_9 fun t31 h_10 =>
  RunV Try.prog (Instr.loadAt 3 t31) h_10 fun t32 h_11 =>
  RunV Try.prog (binS BinOp.quo 3 (Operand.tmp 32) (Operand.const (Value.int IntKind.i64 32)) t32 (Value.int IntKind.i64 32)) h_11 fun t33 h_12 =>
  Loop1 t33 h_12 fun Ljs Lx7 h_13 Ln =>
  RunV Try.prog (binS BinOp.mul 3 (Operand.const (Value.int IntKind.i64 32)) (Operand.tmp 34) (Value.int IntKind.i64 32) Lx7) h_13 fun t35 h_14 =>
  NilC a0 fun t37 =>
  RunV Try.prog (Instr.fieldAt 51 t37 4) h_14 fun t38 h_15 =>
  RunV Try.prog (Instr.loadAt 3 t38) h_15 fun t39 h_16 =>
  OpN Try.prog (Go.builtin Builtin.len #[9] 3 #[false] #[t15]) h_16 fun t41 h_17 =>
  RunV Try.prog (binS BinOp.add 3 (Operand.tmp 39) (Operand.tmp 41) t39 t41) h_17 fun t42 h_18 =>
  RunV Try.prog (binS BinOp.lss 3 (Operand.tmp 35) (Operand.tmp 42) t35 t42) h_18 fun t43 h_19 =>
  CondP t43 (
  Loop2 (Value.string { data := #[] }) (Value.int IntKind.i64 0) h_19 fun L_1js L_1x8 L_1x9 h_20 L_1n =>
  RunV Try.prog (binS BinOp.lss 3 (Operand.tmp 46) (Operand.const (Value.int IntKind.i64 32)) L_1x9 (Value.int IntKind.i64 32)) h_20 fun t47 h_21 =>
  CondP t47 (
  Join1 (fun Jx8 h_22 =>
  RunV Try.prog (binS BinOp.add 3 (Operand.tmp 48) (Operand.const (Value.int IntKind.i64 1)) L_1x9 (Value.int IntKind.i64 1)) h_22 fun t49 h_23 =>
  L_1n Jx8 t49 h_23) fun J =>
  RunV Try.prog (binS BinOp.mul 3 (Operand.const (Value.int IntKind.i64 32)) (Operand.tmp 50) (Value.int IntKind.i64 32) Lx7) h_21 fun t51 h_25 =>
  RunV Try.prog (binS BinOp.add 3 (Operand.tmp 51) (Operand.tmp 52) t51 L_1x9) h_25 fun t53 h_26 =>
  NilC a0 fun t56 =>
  RunV Try.prog (Instr.fieldAt 51 t56 4) h_26 fun t57 h_27 =>
  RunV Try.prog (Instr.loadAt 3 t57) h_27 fun t58 h_28 =>
  RunV Try.prog (binS BinOp.lss 3 (Operand.tmp 54) (Operand.tmp 58) t53 t58) h_28 fun t59 h_29 =>
  CondP t59 (
  Quiet h_29 fun C =>
  NilC a0 fun t62 =>
  QV Try.prog C (Instr.fieldAt 51 t62 0) fun t63 =>
  QV Try.prog C (Instr.loadAt 28 t63) fun t64 =>
  NilC t64 fun t65 =>
  QV Try.prog C (Instr.fieldAt 67 t65 0) fun t66 =>
  QV Try.prog C (Instr.loadAt 32 t66) fun t67 =>
  NilC a0 fun t69 =>
  QV Try.prog C (Instr.fieldAt 51 t69 1) fun t70 =>
  QV Try.prog C (Instr.loadAt 3 t70) fun t71 =>
  QV Try.prog C (binS BinOp.add 3 (Operand.tmp 71) (Operand.tmp 72) t71 Lx7) fun t73 =>
  QV Try.prog C (Instr.indexAt 32 t67 t73) fun t74 =>
  QV Try.prog C (Instr.loadAt 9 t74) fun t75 =>
  QV Try.prog C (binS BinOp.add 3 (Operand.tmp 77) (Operand.const (Value.int IntKind.i64 1)) L_1x9 (Value.int IntKind.i64 1)) fun t78 =>
  QV Try.prog C (Instr.sliceAt 9 t75 (some L_1x9) (some t78) none) fun t79 =>
  QV Try.prog C (binS BinOp.add 9 (Operand.tmp 60) (Operand.tmp 79) L_1x8 t79) fun t80 =>
  QEnd C fun h_31 =>
  J t80 h_31) (
  NilC a0 fun t83 =>
  RunV Try.prog (Instr.fieldAt 51 t83 4) h_29 fun t84 h_32 =>
  RunV Try.prog (Instr.loadAt 3 t84) h_32 fun t85 h_33 =>
  OpN Try.prog (Go.builtin Builtin.len #[9] 3 #[false] #[t15]) h_33 fun t87 h_34 =>
  RunV Try.prog (binS BinOp.add 3 (Operand.tmp 85) (Operand.tmp 87) t85 t87) h_34 fun t88 h_35 =>
  RunV Try.prog (binS BinOp.lss 3 (Operand.tmp 81) (Operand.tmp 88) t53 t88) h_35 fun t89 h_36 =>
  CondP t89 (
  Quiet h_36 fun C_1 =>
  NilC a0 fun t94 =>
  QV Try.prog C_1 (Instr.fieldAt 51 t94 4) fun t95 =>
  QV Try.prog C_1 (Instr.loadAt 3 t95) fun t96 =>
  QV Try.prog C_1 (binS BinOp.sub 3 (Operand.tmp 92) (Operand.tmp 96) t53 t96) fun t97 =>
  NilC a0 fun t100 =>
  QV Try.prog C_1 (Instr.fieldAt 51 t100 4) fun t101 =>
  QV Try.prog C_1 (Instr.loadAt 3 t101) fun t102 =>
  QV Try.prog C_1 (binS BinOp.sub 3 (Operand.tmp 98) (Operand.tmp 102) t53 t102) fun t103 =>
  QV Try.prog C_1 (binS BinOp.add 3 (Operand.tmp 103) (Operand.const (Value.int IntKind.i64 1)) t103 (Value.int IntKind.i64 1)) fun t104 =>
  QV Try.prog C_1 (Instr.sliceAt 9 t15 (some t97) (some t104) none) fun t105 =>
  QV Try.prog C_1 (binS BinOp.add 9 (Operand.tmp 90) (Operand.tmp 105) L_1x8 t105) fun t106 =>
  QEnd C_1 fun h_38 =>
  J t106 h_38) (
  RunV Try.prog (binS BinOp.add 9 (Operand.tmp 107) (Operand.const (Value.string { data := #[0] })) L_1x8 (Value.string { data := #[0] })) h_36 fun t108 h_39 =>
  J t108 h_39))) (
  Quiet h_21 fun S =>
  NilC a0 fun t110 =>
  QV Try.prog S (Instr.fieldAt 51 t110 0) fun t111 =>
  QV Try.prog S (Instr.loadAt 28 t111) fun t112 =>
  NilC a0 fun t114 =>
  QV Try.prog S (Instr.fieldAt 51 t114 1) fun t115 =>
  QV Try.prog S (Instr.loadAt 3 t115) fun t116 =>
  QV Try.prog S (binS BinOp.add 3 (Operand.tmp 116) (Operand.tmp 117) t116 Lx7) fun t118 =>
  CallF Try.prog 18 #[t112, t118, L_1x8] h_21 fun t120 h_40 =>
  And (S h_40) (
  RunV Try.prog (binS BinOp.neq 25 (Operand.tmp 121) (Operand.const (Value.int IntKind.i64 0)) t120 (Value.int IntKind.i64 0)) h_40 fun t122 h_41 =>
  CondP t122 (
  NilC a0 fun t124 =>
  RunV Try.prog (Instr.fieldAt 51 t124 5) h_41 fun t125 h_42 =>
  RunU Try.prog (Instr.storeAt 4 t125 (Value.bool true)) h_42 fun h_43 =>
  K t120 h_43) (
  RunV Try.prog (binS BinOp.add 3 (Operand.tmp 44) (Operand.const (Value.int IntKind.i64 1)) Lx7 (Value.int IntKind.i64 1)) h_41 fun t45 h_44 =>
  Ln t45 h_44)))) (
  RunV Try.prog (Instr.buildSlice 32 0 #[]) h_19 fun t128 h_45 =>
  NilC a0 fun t130 =>
  RunV Try.prog (Instr.fieldAt 51 t130 3) h_45 fun t131 h_46 =>
  RunV Try.prog (Instr.loadAt 32 t131) h_46 fun t132 h_47 =>
  OpN Try.prog (Go.builtin Builtin.append #[32, 32] 32 #[false, false] #[t128, t132]) h_47 fun t133 h_48 =>
  RunV Try.prog (Instr.buildSlice 32 1 #[(0, a1)]) h_48 fun t135 h_49 =>
  OpN Try.prog (Go.builtin Builtin.append #[32, 32] 32 #[false, false] #[t133, t135]) h_49 fun t136 h_50 =>
  NilC a0 fun t137 =>
  RunV Try.prog (Instr.fieldAt 51 t137 3) h_50 fun t138 h_51 =>
  RunU Try.prog (Instr.storeAt 32 t138 t136) h_51 fun h_52 =>
  NilC a0 fun t140 =>
  RunV Try.prog (Instr.fieldAt 51 t140 4) h_52 fun t141 h_53 =>
  RunV Try.prog (Instr.loadAt 3 t141) h_53 fun t142 h_54 =>
  OpN Try.prog (Go.builtin Builtin.len #[9] 3 #[false] #[t15]) h_54 fun t144 h_55 =>
  RunV Try.prog (binS BinOp.add 3 (Operand.tmp 142) (Operand.tmp 144) t142 t144) h_55 fun t145 h_56 =>
  NilC a0 fun t146 =>
  RunV Try.prog (Instr.fieldAt 51 t146 4) h_56 fun t147 h_57 =>
  RunU Try.prog (Instr.storeAt 3 t147 t145) h_57 fun h_58 =>
  K (Value.int IntKind.i64 0) h_58))))
def ann11 : Ann := { loops := [(13, [8, 9]), (9, [7])], held := [(21, (.take 0 (.take 1 (.take 2 (.take 3 (.take 4 (.take 5 (.take 6 (.take 7 (.take 8 (.take 9 (.take 10 (.one 11 (.take 12 .nil))))))))))))))] }
theorem F11_eq (a0 a1 : Value) (h : Heap) (K : Value → Heap → Prop) : F11 a0 a1 h K = W Try.prog ann11 (bodyOf Try.f11) (bodyQ Try.prog Try.f11.results.toList K) (argsE [a0, a1]) h := by kernel_rfl
theorem F11_wf : (wf Try.f11.ntmps ann11 (bodyOf Try.f11) && Nat.ble Try.f11.ntmps ghost && !memN (writes (bodyOf Try.f11)) ghost) = true := by kernel_rfl
theorem F11_b : Try.f11.body.isSome = true := by kernel_rfl
theorem F11_n : (Try.f11.name == "runtime.NumGoroutine") = false := by kernel_rfl
theorem R11 (args : Array Value) (w : World) : (callFunc 11 args).run Try.prog w = .ok (.enter 11 args) w := callFunc_run Try.func11 F11_b F11_n args w
theorem S11 {a0 a1 : Value} {h : Heap} {K : Value → Heap → Prop} (H : F11 a0 a1 h K) : CallF Try.prog 11 #[a0, a1] h K :=
  callF_of_W mo Try.func11 F11_b F11_n F11_wf (args := [a0, a1]) rfl (F11_eq a0 a1 h K ▸ H)

/- (*replevin/store.Store).Fuse -/
def F12 (a0 a1 a2 : Value) (h : Heap) (K : Value → Heap → Prop) : Prop :=
  OpN Try.prog (Go.builtin Builtin.max #[3, 3] 3 #[false, true] #[a1, (Value.int IntKind.i64 (-1))]) h fun t9 h_1 =>
  OpN Try.prog (Go.builtin Builtin.max #[3, 3] 3 #[false, true] #[a2, (Value.int IntKind.i64 0)]) h_1 fun t11 h_2 =>
  RunV Try.prog (binS BinOp.rem 3 (Operand.tmp 11) (Operand.const (Value.int IntKind.i64 33)) t11 (Value.int IntKind.i64 33)) h_2 fun t12 h_3 =>
  NilC a0 fun t13 =>
  RunV Try.prog (Instr.fieldAt 65 t13 1) h_3 fun t14 h_4 =>
  RunU Try.prog (Instr.storeAt 3 t14 t9) h_4 fun h_5 =>
  NilC a0 fun t15 =>
  RunV Try.prog (Instr.fieldAt 65 t15 2) h_5 fun t16 h_6 =>
  RunU Try.prog (Instr.storeAt 3 t16 t12) h_6 fun h_7 =>
  K (.tuple #[]) h_7
def ann12 : Ann := { loops := [], held := [] }
theorem F12_eq (a0 a1 a2 : Value) (h : Heap) (K : Value → Heap → Prop) : F12 a0 a1 a2 h K = W Try.prog ann12 (bodyOf Try.f12) (bodyQ Try.prog Try.f12.results.toList K) (argsE [a0, a1, a2]) h := by kernel_rfl
theorem F12_wf : (wf Try.f12.ntmps ann12 (bodyOf Try.f12) && Nat.ble Try.f12.ntmps ghost && !memN (writes (bodyOf Try.f12)) ghost) = true := by kernel_rfl
theorem F12_b : Try.f12.body.isSome = true := by kernel_rfl
theorem F12_n : (Try.f12.name == "runtime.NumGoroutine") = false := by kernel_rfl
theorem R12 (args : Array Value) (w : World) : (callFunc 12 args).run Try.prog w = .ok (.enter 12 args) w := callFunc_run Try.func12 F12_b F12_n args w
theorem S12 {a0 a1 a2 : Value} {h : Heap} {K : Value → Heap → Prop} (H : F12 a0 a1 a2 h K) : CallF Try.prog 12 #[a0, a1, a2] h K :=
  callF_of_W mo Try.func12 F12_b F12_n F12_wf (args := [a0, a1, a2]) rfl (F12_eq a0 a1 a2 h K ▸ H)

/- (*replevin/replevinref12.Store).Fuse -/
def F13 (a0 a1 a2 : Value) (h : Heap) (K : Value → Heap → Prop) : Prop :=
  OpN Try.prog (Go.builtin Builtin.max #[3, 3] 3 #[false, true] #[a1, (Value.int IntKind.i64 (-1))]) h fun t8 h_1 =>
  NilC a0 fun t9 =>
  RunV Try.prog (Instr.fieldAt 67 t9 1) h_1 fun t10 h_2 =>
  RunU Try.prog (Instr.storeAt 3 t10 t8) h_2 fun h_3 =>
  OpN Try.prog (Go.builtin Builtin.max #[3, 3] 3 #[false, true] #[a2, (Value.int IntKind.i64 0)]) h_3 fun t13 h_4 =>
  RunV Try.prog (binS BinOp.rem 3 (Operand.tmp 13) (Operand.const (Value.int IntKind.i64 33)) t13 (Value.int IntKind.i64 33)) h_4 fun t14 h_5 =>
  NilC a0 fun t15 =>
  RunV Try.prog (Instr.fieldAt 67 t15 2) h_5 fun t16 h_6 =>
  RunU Try.prog (Instr.storeAt 3 t16 t14) h_6 fun h_7 =>
  K (.tuple #[]) h_7
def ann13 : Ann := { loops := [], held := [] }
theorem F13_eq (a0 a1 a2 : Value) (h : Heap) (K : Value → Heap → Prop) : F13 a0 a1 a2 h K = W Try.prog ann13 (bodyOf Try.f13) (bodyQ Try.prog Try.f13.results.toList K) (argsE [a0, a1, a2]) h := by kernel_rfl
theorem F13_wf : (wf Try.f13.ntmps ann13 (bodyOf Try.f13) && Nat.ble Try.f13.ntmps ghost && !memN (writes (bodyOf Try.f13)) ghost) = true := by kernel_rfl
theorem F13_b : Try.f13.body.isSome = true := by kernel_rfl
theorem F13_n : (Try.f13.name == "runtime.NumGoroutine") = false := by kernel_rfl
theorem R13 (args : Array Value) (w : World) : (callFunc 13 args).run Try.prog w = .ok (.enter 13 args) w := callFunc_run Try.func13 F13_b F13_n args w
theorem S13 {a0 a1 a2 : Value} {h : Heap} {K : Value → Heap → Prop} (H : F13 a0 a1 a2 h K) : CallF Try.prog 13 #[a0, a1, a2] h K :=
  callF_of_W mo Try.func13 F13_b F13_n F13_wf (args := [a0, a1, a2]) rfl (F13_eq a0 a1 a2 h K ▸ H)

/- (*replevin/store.Store).Up -/
def F14 (a0 : Value) (h : Heap) (K : Value → Heap → Prop) : Prop :=
  NilC a0 fun t4 =>
  RunV Try.prog (Instr.fieldAt 65 t4 3) h fun t5 h_1 =>
  RunU Try.prog (Instr.storeAt 4 t5 (Value.bool false)) h_1 fun h_2 =>
  NilC a0 fun t6 =>
  RunV Try.prog (Instr.fieldAt 65 t6 1) h_2 fun t7 h_3 =>
  RunU Try.prog (Instr.storeAt 3 t7 (Value.int IntKind.i64 (-1))) h_3 fun h_4 =>
  K (.tuple #[]) h_4
def ann14 : Ann := { loops := [], held := [] }
theorem F14_eq (a0 : Value) (h : Heap) (K : Value → Heap → Prop) : F14 a0 h K = W Try.prog ann14 (bodyOf Try.f14) (bodyQ Try.prog Try.f14.results.toList K) (argsE [a0]) h := by kernel_rfl
theorem F14_wf : (wf Try.f14.ntmps ann14 (bodyOf Try.f14) && Nat.ble Try.f14.ntmps ghost && !memN (writes (bodyOf Try.f14)) ghost) = true := by kernel_rfl
theorem F14_b : Try.f14.body.isSome = true := by kernel_rfl
theorem F14_n : (Try.f14.name == "runtime.NumGoroutine") = false := by kernel_rfl
theorem R14 (args : Array Value) (w : World) : (callFunc 14 args).run Try.prog w = .ok (.enter 14 args) w := callFunc_run Try.func14 F14_b F14_n args w
theorem S14 {a0 : Value} {h : Heap} {K : Value → Heap → Prop} (H : F14 a0 h K) : CallF Try.prog 14 #[a0] h K :=
  callF_of_W mo Try.func14 F14_b F14_n F14_wf (args := [a0]) rfl (F14_eq a0 h K ▸ H)

/- (*replevin/replevinref12.Store).Up -/
def F15 (a0 : Value) (h : Heap) (K : Value → Heap → Prop) : Prop :=
  NilC a0 fun t3 =>
  RunV Try.prog (Instr.fieldAt 67 t3 3) h fun t4 h_1 =>
  RunU Try.prog (Instr.storeAt 4 t4 (Value.bool false)) h_1 fun h_2 =>
  NilC a0 fun t6 =>
  RunV Try.prog (Instr.fieldAt 67 t6 1) h_2 fun t7 h_3 =>
  RunU Try.prog (Instr.storeAt 3 t7 (Value.int IntKind.i64 (-1))) h_3 fun h_4 =>
  K (.tuple #[]) h_4
def ann15 : Ann := { loops := [], held := [] }
theorem F15_eq (a0 : Value) (h : Heap) (K : Value → Heap → Prop) : F15 a0 h K = W Try.prog ann15 (bodyOf Try.f15) (bodyQ Try.prog Try.f15.results.toList K) (argsE [a0]) h := by kernel_rfl
theorem F15_wf : (wf Try.f15.ntmps ann15 (bodyOf Try.f15) && Nat.ble Try.f15.ntmps ghost && !memN (writes (bodyOf Try.f15)) ghost) = true := by kernel_rfl
theorem F15_b : Try.f15.body.isSome = true := by kernel_rfl
theorem F15_n : (Try.f15.name == "runtime.NumGoroutine") = false := by kernel_rfl
theorem R15 (args : Array Value) (w : World) : (callFunc 15 args).run Try.prog w = .ok (.enter 15 args) w := callFunc_run Try.func15 F15_b F15_n args w
theorem S15 {a0 : Value} {h : Heap} {K : Value → Heap → Prop} (H : F15 a0 h K) : CallF Try.prog 15 #[a0] h K :=
  callF_of_W mo Try.func15 F15_b F15_n F15_wf (args := [a0]) rfl (F15_eq a0 h K ▸ H)

/- (*replevin/store.Store).Write -/
def F16 (a0 a1 a2 : Value) (h : Heap) (K : Value → Heap → Prop) : Prop :=
  CallF Try.prog 36 #[a0, a1] h fun t10 h_1 =>
  RunV Try.prog (binS BinOp.neq 25 (Operand.tmp 12) (Operand.const (Value.int IntKind.i64 0)) t10 (Value.int IntKind.i64 0)) h_1 fun t13 h_2 =>
  CondP t13 (
  K t10 h_2) (
  OpN Try.prog (Go.builtin Builtin.len #[9] 3 #[false] #[a2]) h_2 fun t17 h_3 =>
  RunV Try.prog (binS BinOp.neq 3 (Operand.tmp 17) (Operand.const (Value.int IntKind.i64 32)) t17 (Value.int IntKind.i64 32)) h_3 fun t18 h_4 =>
  CondP t18 (
  K (Value.int IntKind.i64 1) h_4) (
  NilC a0 fun t21 =>
  RunV Try.prog (Instr.fieldAt 65 t21 1) h_4 fun t22 h_5 =>
  RunV Try.prog (Instr.loadAt 3 t22) h_5 fun t23 h_6 =>
  RunV Try.prog (binS BinOp.eql 3 (Operand.tmp 23) (Operand.const (Value.int IntKind.i64 0)) t23 (Value.int IntKind.i64 0)) h_6 fun t24 h_7 =>
  CondP t24 (
  Quiet h_7 fun S =>
  NilC a0 fun t26 =>
  QV Try.prog S (Instr.fieldAt 65 t26 0) fun t27 =>
  QV Try.prog S (Instr.loadAt 63 t27) fun t28 =>
  QV Try.prog S (Instr.indexAt 63 t28 a1) fun t30 =>
  QV Try.prog S (Instr.sliceAt 79 t30 none none none) fun t31 =>
  NilC a0 fun t34 =>
  QV Try.prog S (Instr.fieldAt 65 t34 2) fun t35 =>
  QV Try.prog S (Instr.loadAt 3 t35) fun t36 =>
  QV Try.prog S (Instr.sliceAt 9 a2 none (some t36) none) fun t37 =>
  OpN Try.prog (Go.builtin Builtin.copy #[54, 9] 3 #[false, false] #[t31, t37]) h_7 fun t38 h_8 =>
  And (S h_8) (
  NilC a0 fun t41 =>
  RunV Try.prog (Instr.fieldAt 65 t41 3) h_8 fun t42 h_9 =>
  RunU Try.prog (Instr.storeAt 4 t42 (Value.bool true)) h_9 fun h_10 =>
  NilC a0 fun t43 =>
  RunV Try.prog (Instr.fieldAt 65 t43 1) h_10 fun t44 h_11 =>
  RunU Try.prog (Instr.storeAt 3 t44 (Value.int IntKind.i64 (-1))) h_11 fun h_12 =>
  K (Value.int IntKind.i64 16) h_12)) (
  NilC a0 fun t47 =>
  RunV Try.prog (Instr.fieldAt 65 t47 1) h_7 fun t48 h_13 =>
  RunV Try.prog (Instr.loadAt 3 t48) h_13 fun t49 h_14 =>
  RunV Try.prog (binS BinOp.sub 3 (Operand.tmp 49) (Operand.const (Value.int IntKind.i64 1)) t49 (Value.int IntKind.i64 1)) h_14 fun t50 h_15 =>
  OpN Try.prog (Go.builtin Builtin.max #[3, 3] 3 #[false, true] #[t50, (Value.int IntKind.i64 (-1))]) h_15 fun t51 h_16 =>
  NilC a0 fun t52 =>
  RunV Try.prog (Instr.fieldAt 65 t52 1) h_16 fun t53 h_17 =>
  RunU Try.prog (Instr.storeAt 3 t53 t51) h_17 fun h_18 =>
  NilC a0 fun t55 =>
  RunV Try.prog (Instr.fieldAt 65 t55 0) h_18 fun t56 h_19 =>
  RunV Try.prog (Instr.loadAt 63 t56) h_19 fun t57 h_20 =>
  RunV Try.prog (Instr.indexAt 63 t57 a1) h_20 fun t59 h_21 =>
  RunV Try.prog (Instr.sliceAt 79 t59 none none none) h_21 fun t60 h_22 =>
  OpN Try.prog (Go.builtin Builtin.copy #[54, 9] 3 #[false, false] #[t60, a2]) h_22 fun t62 h_23 =>
  NilC a0 fun t64 =>
  RunV Try.prog (Instr.fieldAt 65 t64 4) h_23 fun t65 h_24 =>
  RunV Try.prog (Instr.loadAt 3 t65) h_24 fun t66 h_25 =>
  RunV Try.prog (binS BinOp.add 3 (Operand.tmp 66) (Operand.const (Value.int IntKind.i64 1)) t66 (Value.int IntKind.i64 1)) h_25 fun t67 h_26 =>
  NilC a0 fun t68 =>
  RunV Try.prog (Instr.fieldAt 65 t68 4) h_26 fun t69 h_27 =>
  RunU Try.prog (Instr.storeAt 3 t69 t67) h_27 fun h_28 =>
  K (Value.int IntKind.i64 0) h_28)))
def ann16 : Ann := { loops := [], held := [(7, (.take 0 (.take 1 (.take 2 (.take 3 (.take 4 (.take 5 (.take 6 (.take 7 (.take 8 (.take 9 (.take 10 (.take 11 (.take 12 (.one 13 .nil)))))))))))))))] }
theorem F16_eq (a0 a1 a2 : Value) (h : Heap) (K : Value → Heap → Prop) : F16 a0 a1 a2 h K = W Try.prog ann16 (bodyOf Try.f16) (bodyQ Try.prog Try.f16.results.toList K) (argsE [a0, a1, a2]) h := by kernel_rfl
theorem F16_wf : (wf Try.f16.ntmps ann16 (bodyOf Try.f16) && Nat.ble Try.f16.ntmps ghost && !memN (writes (bodyOf Try.f16)) ghost) = true := by kernel_rfl
theorem F16_b : Try.f16.body.isSome = true := by kernel_rfl
theorem F16_n : (Try.f16.name == "runtime.NumGoroutine") = false := by kernel_rfl
theorem R16 (args : Array Value) (w : World) : (callFunc 16 args).run Try.prog w = .ok (.enter 16 args) w := callFunc_run Try.func16 F16_b F16_n args w
theorem S16 {a0 a1 a2 : Value} {h : Heap} {K : Value → Heap → Prop} (H : F16 a0 a1 a2 h K) : CallF Try.prog 16 #[a0, a1, a2] h K :=
  callF_of_W mo Try.func16 F16_b F16_n F16_wf (args := [a0, a1, a2]) rfl (F16_eq a0 a1 a2 h K ▸ H)

/- replevin/replevinlaw14.block -/
def F17 (a0 : Value) (h : Heap) (K : Value → Heap → Prop) : Prop :=
  Loop1 a0 h fun Ljs Lx0 h_1 Ln =>
  OpN Try.prog (Go.builtin Builtin.len #[9] 3 #[false] #[Lx0]) h_1 fun t4 h_2 =>
  RunV Try.prog (binS BinOp.lss 3 (Operand.tmp 4) (Operand.const (Value.int IntKind.i64 32)) t4 (Value.int IntKind.i64 32)) h_2 fun t5 h_3 =>
  CondP t5 (
  RunV Try.prog (binS BinOp.add 9 (Operand.tmp 6) (Operand.const (Value.string { data := #[0] })) Lx0 (Value.string { data := #[0] })) h_3 fun t7 h_4 =>
  Ln t7 h_4) (
  RunV Try.prog (Instr.sliceAt 9 Lx0 none (some (Value.int IntKind.i64 32)) none) h_3 fun t9 h_5 =>
  K t9 h_5)
def ann17 : Ann := { loops := [(1, [0])], held := [] }
theorem F17_eq (a0 : Value) (h : Heap) (K : Value → Heap → Prop) : F17 a0 h K = W Try.prog ann17 (bodyOf Try.f17) (bodyQ Try.prog Try.f17.results.toList K) (argsE [a0]) h := by kernel_rfl
theorem F17_wf : (wf Try.f17.ntmps ann17 (bodyOf Try.f17) && Nat.ble Try.f17.ntmps ghost && !memN (writes (bodyOf Try.f17)) ghost) = true := by kernel_rfl
theorem F17_b : Try.f17.body.isSome = true := by kernel_rfl
theorem F17_n : (Try.f17.name == "runtime.NumGoroutine") = false := by kernel_rfl
theorem R17 (args : Array Value) (w : World) : (callFunc 17 args).run Try.prog w = .ok (.enter 17 args) w := callFunc_run Try.func17 F17_b F17_n args w
theorem S17 {a0 : Value} {h : Heap} {K : Value → Heap → Prop} (H : F17 a0 h K) : CallF Try.prog 17 #[a0] h K :=
  callF_of_W mo Try.func17 F17_b F17_n F17_wf (args := [a0]) rfl (F17_eq a0 h K ▸ H)

/- (*replevin/replevinref12.Store).Write -/
def F18 (a0 a1 a2 : Value) (h : Heap) (K : Value → Heap → Prop) : Prop :=
  CallF Try.prog 37 #[a0, a1] h fun t12 h_1 =>
  RunV Try.prog (Instr.extract t12 0) h_1 fun t13 h_2 =>
  RunV Try.prog (Instr.extract t12 1) h_2 fun t14 h_3 =>
  RunV Try.prog (binS BinOp.neq 25 (Operand.tmp 15) (Operand.const (Value.int IntKind.i64 0)) t14 (Value.int IntKind.i64 0)) h_3 fun t16 h_4 =>
  CondP t16 (
  K t14 h_4) (
  OpN Try.prog (Go.builtin Builtin.len #[9] 3 #[false] #[a2]) h_4 fun t19 h_5 =>
  RunV Try.prog (binS BinOp.neq 3 (Operand.tmp 19) (Operand.const (Value.int IntKind.i64 32)) t19 (Value.int IntKind.i64 32)) h_5 fun t20 h_6 =>
  CondP t20 (
  K (Value.int IntKind.i64 1) h_6) (
  NilC a0 fun t22 =>
  RunV Try.prog (Instr.fieldAt 67 t22 1) h_6 fun t23 h_7 =>
  RunV Try.prog (Instr.loadAt 3 t23) h_7 fun t24 h_8 =>
  RunV Try.prog (binS BinOp.eql 3 (Operand.tmp 24) (Operand.const (Value.int IntKind.i64 0)) t24 (Value.int IntKind.i64 0)) h_8 fun t25 h_9 =>
  CondP t25 (
  Quiet h_9 fun S =>
  NilC a0 fun t27 =>
  QV Try.prog S (Instr.fieldAt 67 t27 0) fun t28 =>
  QV Try.prog S (Instr.loadAt 32 t28) fun t29 =>
  NilC a0 fun t33 =>
  QV Try.prog S (Instr.fieldAt 67 t33 2) fun t34 =>
  QV Try.prog S (Instr.loadAt 3 t34) fun t35 =>
  QV Try.prog S (Instr.sliceAt 9 a2 none (some t35) none) fun t36 =>
  NilC a0 fun t38 =>
  QV Try.prog S (Instr.fieldAt 67 t38 0) fun t39 =>
  QV Try.prog S (Instr.loadAt 32 t39) fun t40 =>
  QV Try.prog S (Instr.indexAt 32 t40 a1) fun t42 =>
  NilC a0 fun t45 =>
  QV Try.prog S (Instr.fieldAt 67 t45 2) fun t46 =>
  QV Try.prog S (Instr.loadAt 3 t46) fun t47 =>
  RunV Try.prog (Instr.loadAt 9 t42) h_9 fun t43 h_10 =>
  And (S h_10) (
  QV Try.prog S (Instr.sliceAt 9 t43 (some t47) none none) fun t48 =>
  QV Try.prog S (binS BinOp.add 9 (Operand.tmp 36) (Operand.tmp 48) t36 t48) fun t49 =>
  QV Try.prog S (Instr.indexAt 32 t29 a1) fun t50 =>
  RunU Try.prog (Instr.storeAt 9 t50 t49) h_10 fun h_11 =>
  And (S h_11) (
  NilC a0 fun t52 =>
  RunV Try.prog (Instr.fieldAt 67 t52 3) h_11 fun t53 h_12 =>
  RunU Try.prog (Instr.storeAt 4 t53 (Value.bool true)) h_12 fun h_13 =>
  NilC a0 fun t55 =>
  RunV Try.prog (Instr.fieldAt 67 t55 1) h_13 fun t56 h_14 =>
  RunU Try.prog (Instr.storeAt 3 t56 (Value.int IntKind.i64 (-1))) h_14 fun h_15 =>
  K (Value.int IntKind.i64 16) h_15))) (
  Join0 (fun  h_16 =>
  NilC a0 fun t70 =>
  RunV Try.prog (Instr.fieldAt 67 t70 0) h_16 fun t71 h_17 =>
  RunV Try.prog (Instr.loadAt 32 t71) h_17 fun t72 h_18 =>
  RunV Try.prog (Instr.indexAt 32 t72 a1) h_18 fun t75 h_19 =>
  RunU Try.prog (Instr.storeAt 9 t75 a2) h_19 fun h_20 =>
  NilC a0 fun t77 =>
  RunV Try.prog (Instr.fieldAt 67 t77 4) h_20 fun t78 h_21 =>
  RunV Try.prog (Instr.loadAt 3 t78) h_21 fun t79 h_22 =>
  RunV Try.prog (binS BinOp.add 3 (Operand.tmp 79) (Operand.const (Value.int IntKind.i64 1)) t79 (Value.int IntKind.i64 1)) h_22 fun t80 h_23 =>
  NilC a0 fun t81 =>
  RunV Try.prog (Instr.fieldAt 67 t81 4) h_23 fun t82 h_24 =>
  RunU Try.prog (Instr.storeAt 3 t82 t80) h_24 fun h_25 =>
  K (Value.int IntKind.i64 0) h_25) fun J =>
  NilC a0 fun t58 =>
  RunV Try.prog (Instr.fieldAt 67 t58 1) h_9 fun t59 h_26 =>
  RunV Try.prog (Instr.loadAt 3 t59) h_26 fun t60 h_27 =>
  RunV Try.prog (binS BinOp.gtr 3 (Operand.tmp 60) (Operand.const (Value.int IntKind.i64 0)) t60 (Value.int IntKind.i64 0)) h_27 fun t61 h_28 =>
  CondP t61 (
  NilC a0 fun t63 =>
  RunV Try.prog (Instr.fieldAt 67 t63 1) h_28 fun t64 h_30 =>
  RunV Try.prog (Instr.loadAt 3 t64) h_30 fun t65 h_31 =>
  RunV Try.prog (binS BinOp.sub 3 (Operand.tmp 65) (Operand.const (Value.int IntKind.i64 1)) t65 (Value.int IntKind.i64 1)) h_31 fun t66 h_32 =>
  NilC a0 fun t67 =>
  RunV Try.prog (Instr.fieldAt 67 t67 1) h_32 fun t68 h_33 =>
  RunU Try.prog (Instr.storeAt 3 t68 t66) h_33 fun h_34 =>
  J h_34) (
  J h_28))))
def ann18 : Ann := { loops := [], held := [(7, (.take 0 (.take 1 (.take 2 (.take 3 (.take 4 (.take 5 (.take 6 (.take 7 (.take 8 (.take 9 (.take 10 (.take 11 (.take 12 (.take 13 (.take 14 (.take 15 (.take 16 (.take 18 (.take 19 (.take 20 (.take 21 (.one 17 (.take 22 (.take 23 (.take 24 (.one 25 .nil)))))))))))))))))))))))))))] }
theorem F18_eq (a0 a1 a2 : Value) (h : Heap) (K : Value → Heap → Prop) : F18 a0 a1 a2 h K = W Try.prog ann18 (bodyOf Try.f18) (bodyQ Try.prog Try.f18.results.toList K) (argsE [a0, a1, a2]) h := by kernel_rfl
theorem F18_wf : (wf Try.f18.ntmps ann18 (bodyOf Try.f18) && Nat.ble Try.f18.ntmps ghost && !memN (writes (bodyOf Try.f18)) ghost) = true := by kernel_rfl
theorem F18_b : Try.f18.body.isSome = true := by kernel_rfl
theorem F18_n : (Try.f18.name == "runtime.NumGoroutine") = false := by kernel_rfl
theorem R18 (args : Array Value) (w : World) : (callFunc 18 args).run Try.prog w = .ok (.enter 18 args) w := callFunc_run Try.func18 F18_b F18_n args w
theorem S18 {a0 a1 a2 : Value} {h : Heap} {K : Value → Heap → Prop} (H : F18 a0 a1 a2 h K) : CallF Try.prog 18 #[a0, a1, a2] h K :=
  callF_of_W mo Try.func18 F18_b F18_n F18_wf (args := [a0, a1, a2]) rfl (F18_eq a0 a1 a2 h K ▸ H)

/- replevin/replevinref13.Same -/
def F19 (a0 a1 : Value) (h : Heap) (K : Value → Heap → Prop) : Prop :=
  OpN Try.prog (Go.builtin Builtin.len #[32] 3 #[false] #[a0]) h fun t7 h_1 =>
  OpN Try.prog (Go.builtin Builtin.len #[32] 3 #[false] #[a1]) h_1 fun t9 h_2 =>
  RunV Try.prog (binS BinOp.neq 3 (Operand.tmp 7) (Operand.tmp 9) t7 t9) h_2 fun t10 h_3 =>
  CondP t10 (
  K (Value.bool false) h_3) (
  Loop1 (Value.int IntKind.i64 0) h_3 fun Ljs Lx5 h_4 Ln =>
  OpN Try.prog (Go.builtin Builtin.len #[32] 3 #[false] #[a0]) h_4 fun t13 h_5 =>
  RunV Try.prog (binS BinOp.lss 3 (Operand.tmp 11) (Operand.tmp 13) Lx5 t13) h_5 fun t14 h_6 =>
  CondP t14 (
  Quiet h_6 fun C =>
  QV Try.prog C (Instr.indexAt 32 a0 Lx5) fun t19 =>
  QV Try.prog C (Instr.loadAt 9 t19) fun t20 =>
  QV Try.prog C (Instr.indexAt 32 a1 Lx5) fun t23 =>
  QV Try.prog C (Instr.loadAt 9 t23) fun t24 =>
  QV Try.prog C (binS BinOp.neq 9 (Operand.tmp 20) (Operand.tmp 24) t20 t24) fun t25 =>
  QEnd C fun h_7 =>
  CondP t25 (
  K (Value.bool false) h_7) (
  RunV Try.prog (binS BinOp.add 3 (Operand.tmp 15) (Operand.const (Value.int IntKind.i64 1)) Lx5 (Value.int IntKind.i64 1)) h_7 fun t16 h_8 =>
  Ln t16 h_8)) (
  K (Value.bool true) h_6))
def ann19 : Ann := { loops := [(4, [5])], held := [] }
theorem F19_eq (a0 a1 : Value) (h : Heap) (K : Value → Heap → Prop) : F19 a0 a1 h K = W Try.prog ann19 (bodyOf Try.f19) (bodyQ Try.prog Try.f19.results.toList K) (argsE [a0, a1]) h := by kernel_rfl
theorem F19_wf : (wf Try.f19.ntmps ann19 (bodyOf Try.f19) && Nat.ble Try.f19.ntmps ghost && !memN (writes (bodyOf Try.f19)) ghost) = true := by kernel_rfl
theorem F19_b : Try.f19.body.isSome = true := by kernel_rfl
theorem F19_n : (Try.f19.name == "runtime.NumGoroutine") = false := by kernel_rfl
theorem R19 (args : Array Value) (w : World) : (callFunc 19 args).run Try.prog w = .ok (.enter 19 args) w := callFunc_run Try.func19 F19_b F19_n args w
theorem S19 {a0 a1 : Value} {h : Heap} {K : Value → Heap → Prop} (H : F19 a0 a1 h K) : CallF Try.prog 19 #[a0, a1] h K :=
  callF_of_W mo Try.func19 F19_b F19_n F19_wf (args := [a0, a1]) rfl (F19_eq a0 a1 h K ▸ H)

/- (*replevin/store.Store).Bytes -/
def F20 (a0 : Value) (h : Heap) (K : Value → Heap → Prop) : Prop :=
  RunV Try.prog (Instr.alloc 83 true (.tuple #[])) h fun t3 h_1 =>
  NilC a0 fun t7 =>
  RunV Try.prog (Instr.fieldAt 65 t7 0) h_1 fun t8 h_2 =>
  RunV Try.prog (Instr.loadAt 63 t8) h_2 fun t9 h_3 =>
  OpN Try.prog (Go.builtin Builtin.len #[63] 3 #[false] #[t9]) h_3 fun t10 h_4 =>
  Loop1 (Value.int IntKind.i64 0) h_4 fun Ljs Lx11 h_5 Ln =>
  RunV Try.prog (binS BinOp.lss 3 (Operand.tmp 11) (Operand.tmp 10) Lx11 t10) h_5 fun t12 h_6 =>
  CondP t12 (
  RunV Try.prog (Instr.indexAt 63 t9 Lx11) h_6 fun t13 h_7 =>
  RunV Try.prog (Instr.loadAt 79 t13) h_7 fun t14 h_8 =>
  RunV Try.prog (Instr.alloc 79 true (.tuple #[])) h_8 fun t5 h_9 =>
  RunU Try.prog (Instr.storeAt 79 t5 t14) h_9 fun h_10 =>
  RunV Try.prog (Instr.sliceAt 79 t5 none none none) h_10 fun t15 h_11 =>
  CallF Try.prog 38 #[t3, t15] h_11 fun t16 h_12 =>
  RunV Try.prog (binS BinOp.add 3 (Operand.tmp 11) (Operand.const (Value.int IntKind.i64 1)) Lx11 (Value.int IntKind.i64 1)) h_12 fun t17 h_13 =>
  Ln t17 h_13) (
  CallF Try.prog 39 #[t3] h_6 fun t18 h_14 =>
  K t18 h_14)
def ann20 : Ann := { loops := [(3, [11])], held := [] }
theorem F20_eq (a0 : Value) (h : Heap) (K : Value → Heap → Prop) : F20 a0 h K = W Try.prog ann20 (bodyOf Try.f20) (bodyQ Try.prog Try.f20.results.toList K) (argsE [a0]) h := by kernel_rfl
theorem F20_wf : (wf Try.f20.ntmps ann20 (bodyOf Try.f20) && Nat.ble Try.f20.ntmps ghost && !memN (writes (bodyOf Try.f20)) ghost) = true := by kernel_rfl
theorem F20_b : Try.f20.body.isSome = true := by kernel_rfl
theorem F20_n : (Try.f20.name == "runtime.NumGoroutine") = false := by kernel_rfl
theorem R20 (args : Array Value) (w : World) : (callFunc 20 args).run Try.prog w = .ok (.enter 20 args) w := callFunc_run Try.func20 F20_b F20_n args w
theorem S20 {a0 : Value} {h : Heap} {K : Value → Heap → Prop} (H : F20 a0 h K) : CallF Try.prog 20 #[a0] h K :=
  callF_of_W mo Try.func20 F20_b F20_n F20_wf (args := [a0]) rfl (F20_eq a0 h K ▸ H)

/- (*replevin/replevinref12.Store).Bytes -/
def F21 (a0 : Value) (h : Heap) (K : Value → Heap → Prop) : Prop :=
  Loop2 (Value.string { data := #[] }) (Value.int IntKind.i64 0) h fun Ljs Lx3 Lx4 h_1 Ln =>
  NilC a0 fun t7 =>
  RunV Try.prog (Instr.fieldAt 67 t7 0) h_1 fun t8 h_2 =>
  RunV Try.prog (Instr.loadAt 32 t8) h_2 fun t9 h_3 =>
  OpN Try.prog (Go.builtin Builtin.len #[32] 3 #[false] #[t9]) h_3 fun t10 h_4 =>
  RunV Try.prog (binS BinOp.lss 3 (Operand.tmp 5) (Operand.tmp 10) Lx4 t10) h_4 fun t11 h_5 =>
  CondP t11 (
  NilC a0 fun t16 =>
  RunV Try.prog (Instr.fieldAt 67 t16 0) h_5 fun t17 h_6 =>
  RunV Try.prog (Instr.loadAt 32 t17) h_6 fun t18 h_7 =>
  RunV Try.prog (Instr.indexAt 32 t18 Lx4) h_7 fun t20 h_8 =>
  RunV Try.prog (Instr.loadAt 9 t20) h_8 fun t21 h_9 =>
  RunV Try.prog (binS BinOp.add 9 (Operand.tmp 14) (Operand.tmp 21) Lx3 t21) h_9 fun t22 h_10 =>
  RunV Try.prog (binS BinOp.add 3 (Operand.tmp 12) (Operand.const (Value.int IntKind.i64 1)) Lx4 (Value.int IntKind.i64 1)) h_10 fun t13 h_11 =>
  Ln t22 t13 h_11) (
  K Lx3 h_5)
def ann21 : Ann := { loops := [(3, [3, 4])], held := [] }
theorem F21_eq (a0 : Value) (h : Heap) (K : Value → Heap → Prop) : F21 a0 h K = W Try.prog ann21 (bodyOf Try.f21) (bodyQ Try.prog Try.f21.results.toList K) (argsE [a0]) h := by kernel_rfl
theorem F21_wf : (wf Try.f21.ntmps ann21 (bodyOf Try.f21) && Nat.ble Try.f21.ntmps ghost && !memN (writes (bodyOf Try.f21)) ghost) = true := by kernel_rfl
theorem F21_b : Try.f21.body.isSome = true := by kernel_rfl
theorem F21_n : (Try.f21.name == "runtime.NumGoroutine") = false := by kernel_rfl
theorem R21 (args : Array Value) (w : World) : (callFunc 21 args).run Try.prog w = .ok (.enter 21 args) w := callFunc_run Try.func21 F21_b F21_n args w
theorem S21 {a0 : Value} {h : Heap} {K : Value → Heap → Prop} (H : F21 a0 h K) : CallF Try.prog 21 #[a0] h K :=
  callF_of_W mo Try.func21 F21_b F21_n F21_wf (args := [a0]) rfl (F21_eq a0 h K ▸ H)

/- replevin/replevinref13.Scan -/
def F22 (a0 : Value) (h : Heap) (K : Value → Heap → Prop) : Prop :=
  RunV Try.prog (Instr.buildSlice 32 0 #[]) h fun t10 h_1 =>
  Loop2 t10 (Value.int IntKind.i64 0) h_1 fun Ljs Lx4 Lx5 h_2 Ln =>
  RunV Try.prog (binS BinOp.add 3 (Operand.tmp 11) (Operand.const (Value.int IntKind.i64 8)) Lx5 (Value.int IntKind.i64 8)) h_2 fun t12 h_3 =>
  OpN Try.prog (Go.builtin Builtin.len #[9] 3 #[false] #[a0]) h_3 fun t14 h_4 =>
  RunV Try.prog (binS BinOp.lss 3 (Operand.tmp 12) (Operand.tmp 14) t12 t14) h_4 fun t15 h_5 =>
  CondP t15 (
  Quiet h_5 fun C =>
  QV Try.prog C (binS BinOp.add 3 (Operand.tmp 17) (Operand.const (Value.int IntKind.i64 1)) Lx5 (Value.int IntKind.i64 1)) fun t18 =>
  QV Try.prog C (Instr.index 9 a0 t18) fun t19 =>
  QV Try.prog C (convert 5 3 t19) fun t20 =>
  QV Try.prog C (binS BinOp.mul 3 (Operand.const (Value.int IntKind.i64 256)) (Operand.tmp 20) (Value.int IntKind.i64 256) t20) fun t21 =>
  QV Try.prog C (binS BinOp.add 3 (Operand.tmp 23) (Operand.const (Value.int IntKind.i64 2)) Lx5 (Value.int IntKind.i64 2)) fun t24 =>
  QV Try.prog C (Instr.index 9 a0 t24) fun t25 =>
  QV Try.prog C (convert 5 3 t25) fun t26 =>
  QV Try.prog C (binS BinOp.add 3 (Operand.tmp 21) (Operand.tmp 26) t21 t26) fun t27 =>
  QEnd C fun h_6 =>
  Join1 (fun Jx42 h_7 =>
  CondP Jx42 (
  K (.tuple #[Lx4, Lx5]) h_7) (
  RunV Try.prog (binS BinOp.add 3 (Operand.tmp 46) (Operand.const (Value.int IntKind.i64 7)) Lx5 (Value.int IntKind.i64 7)) h_7 fun t47 h_8 =>
  RunV Try.prog (binS BinOp.add 3 (Operand.tmp 48) (Operand.const (Value.int IntKind.i64 7)) Lx5 (Value.int IntKind.i64 7)) h_8 fun t49 h_9 =>
  RunV Try.prog (binS BinOp.add 3 (Operand.tmp 49) (Operand.tmp 50) t49 t27) h_9 fun t51 h_10 =>
  RunV Try.prog (Instr.sliceAt 9 a0 (some t47) (some t51) none) h_10 fun t52 h_11 =>
  CallF Try.prog 35 #[t52] h_11 fun t55 h_12 =>
  RunV Try.prog (Instr.extract t55 0) h_12 fun t56 h_13 =>
  RunV Try.prog (Instr.extract t55 1) h_13 fun t57 h_14 =>
  RunV Try.prog (binS BinOp.add 3 (Operand.tmp 60) (Operand.const (Value.int IntKind.i64 8)) Lx5 (Value.int IntKind.i64 8)) h_14 fun t61 h_15 =>
  RunV Try.prog (binS BinOp.add 3 (Operand.tmp 61) (Operand.tmp 62) t61 t27) h_15 fun t63 h_16 =>
  RunV Try.prog (Instr.sliceAt 9 a0 (some Lx5) (some t63) none) h_16 fun t64 h_17 =>
  RunV Try.prog (binS BinOp.neq 9 (Operand.tmp 64) (Operand.tmp 65) t64 t56) h_17 fun t66 h_18 =>
  CondP t66 (
  K (.tuple #[Lx4, Lx5]) h_18) (
  RunV Try.prog (Instr.buildSlice 32 1 #[(0, t52)]) h_18 fun t71 h_19 =>
  OpN Try.prog (Go.builtin Builtin.append #[32, 32] 32 #[false, false] #[Lx4, t71]) h_19 fun t72 h_20 =>
  RunV Try.prog (binS BinOp.add 3 (Operand.const (Value.int IntKind.i64 8)) (Operand.tmp 74) (Value.int IntKind.i64 8) t27) h_20 fun t75 h_21 =>
  RunV Try.prog (binS BinOp.add 3 (Operand.tmp 73) (Operand.tmp 75) Lx5 t75) h_21 fun t76 h_22 =>
  Ln t72 t76 h_22))) fun J =>
  RunV Try.prog (binS BinOp.lss 3 (Operand.tmp 28) (Operand.const (Value.int IntKind.i64 1)) t27 (Value.int IntKind.i64 1)) h_6 fun t29 h_23 =>
  GuardP t29 false (
  RunV Try.prog (binS BinOp.gtr 3 (Operand.tmp 31) (Operand.const (Value.int IntKind.i64 400)) t27 (Value.int IntKind.i64 400)) h_23 fun t32 h_24 =>
  GuardP t32 false (
  RunV Try.prog (binS BinOp.add 3 (Operand.tmp 35) (Operand.const (Value.int IntKind.i64 8)) Lx5 (Value.int IntKind.i64 8)) h_24 fun t36 h_25 =>
  RunV Try.prog (binS BinOp.add 3 (Operand.tmp 36) (Operand.tmp 37) t36 t27) h_25 fun t38 h_26 =>
  OpN Try.prog (Go.builtin Builtin.len #[9] 3 #[false] #[a0]) h_26 fun t40 h_27 =>
  RunV Try.prog (binS BinOp.gtr 3 (Operand.tmp 38) (Operand.tmp 40) t38 t40) h_27 fun t41 h_28 =>
  J t41 h_28) (
  J (Value.bool true) h_24)) (
  J (Value.bool true) h_23)) (
  K (.tuple #[Lx4, Lx5]) h_5)
def ann22 : Ann := { loops := [(3, [4, 5])], held := [] }
theorem F22_eq (a0 : Value) (h : Heap) (K : Value → Heap → Prop) : F22 a0 h K = W Try.prog ann22 (bodyOf Try.f22) (bodyQ Try.prog Try.f22.results.toList K) (argsE [a0]) h := by kernel_rfl
theorem F22_wf : (wf Try.f22.ntmps ann22 (bodyOf Try.f22) && Nat.ble Try.f22.ntmps ghost && !memN (writes (bodyOf Try.f22)) ghost) = true := by kernel_rfl
theorem F22_b : Try.f22.body.isSome = true := by kernel_rfl
theorem F22_n : (Try.f22.name == "runtime.NumGoroutine") = false := by kernel_rfl
theorem R22 (args : Array Value) (w : World) : (callFunc 22 args).run Try.prog w = .ok (.enter 22 args) w := callFunc_run Try.func22 F22_b F22_n args w
theorem S22 {a0 : Value} {h : Heap} {K : Value → Heap → Prop} (H : F22 a0 h K) : CallF Try.prog 22 #[a0] h K :=
  callF_of_W mo Try.func22 F22_b F22_n F22_wf (args := [a0]) rfl (F22_eq a0 h K ▸ H)

/- replevin/journal.Records -/
def F23 (a0 : Value) (h : Heap) (K : Value → Heap → Prop) : Prop :=
  RunV Try.prog (binS BinOp.eql 24 (Operand.tmp 3) (Operand.const (Value.pointer none)) a0 (Value.pointer none)) h fun t4 h_1 =>
  CondP t4 (
  K (Value.slice none 0 0) h_1) (
  CallF Try.prog 29 #[a0] h_1 fun t7 h_2 =>
  CallF Try.prog 28 #[a0, (Value.int IntKind.i64 0), t7] h_2 fun t8 h_3 =>
  K t8 h_3)
def ann23 : Ann := { loops := [], held := [] }
theorem F23_eq (a0 : Value) (h : Heap) (K : Value → Heap → Prop) : F23 a0 h K = W Try.prog ann23 (bodyOf Try.f23) (bodyQ Try.prog Try.f23.results.toList K) (argsE [a0]) h := by kernel_rfl
theorem F23_wf : (wf Try.f23.ntmps ann23 (bodyOf Try.f23) && Nat.ble Try.f23.ntmps ghost && !memN (writes (bodyOf Try.f23)) ghost) = true := by kernel_rfl
theorem F23_b : Try.f23.body.isSome = true := by kernel_rfl
theorem F23_n : (Try.f23.name == "runtime.NumGoroutine") = false := by kernel_rfl
theorem R23 (args : Array Value) (w : World) : (callFunc 23 args).run Try.prog w = .ok (.enter 23 args) w := callFunc_run Try.func23 F23_b F23_n args w
theorem S23 {a0 : Value} {h : Heap} {K : Value → Heap → Prop} (H : F23 a0 h K) : CallF Try.prog 23 #[a0] h K :=
  callF_of_W mo Try.func23 F23_b F23_n F23_wf (args := [a0]) rfl (F23_eq a0 h K ▸ H)

/- (*replevin/journal.Journal).Records -/
def F24 (a0 : Value) (h : Heap) (K : Value → Heap → Prop) : Prop :=
  NilC a0 fun t4 =>
  RunV Try.prog (Instr.fieldAt 74 t4 1) h fun t5 h_1 =>
  RunV Try.prog (Instr.loadAt 32 t5) h_1 fun t6 h_2 =>
  CallF Try.prog 40 #[t6] h_2 fun t7 h_3 =>
  K t7 h_3
def ann24 : Ann := { loops := [], held := [] }
theorem F24_eq (a0 : Value) (h : Heap) (K : Value → Heap → Prop) : F24 a0 h K = W Try.prog ann24 (bodyOf Try.f24) (bodyQ Try.prog Try.f24.results.toList K) (argsE [a0]) h := by kernel_rfl
theorem F24_wf : (wf Try.f24.ntmps ann24 (bodyOf Try.f24) && Nat.ble Try.f24.ntmps ghost && !memN (writes (bodyOf Try.f24)) ghost) = true := by kernel_rfl
theorem F24_b : Try.f24.body.isSome = true := by kernel_rfl
theorem F24_n : (Try.f24.name == "runtime.NumGoroutine") = false := by kernel_rfl
theorem R24 (args : Array Value) (w : World) : (callFunc 24 args).run Try.prog w = .ok (.enter 24 args) w := callFunc_run Try.func24 F24_b F24_n args w
theorem S24 {a0 : Value} {h : Heap} {K : Value → Heap → Prop} (H : F24 a0 h K) : CallF Try.prog 24 #[a0] h K :=
  callF_of_W mo Try.func24 F24_b F24_n F24_wf (args := [a0]) rfl (F24_eq a0 h K ▸ H)

/- (*replevin/journal.Journal).Room -/
def F25 (a0 : Value) (h : Heap) (K : Value → Heap → Prop) : Prop :=
  Quiet h fun C =>
  NilC a0 fun t4 =>
  QV Try.prog C (Instr.fieldAt 74 t4 0) fun t5 =>
  QV Try.prog C (Instr.fieldAt 72 t5 2) fun t6 =>
  QV Try.prog C (Instr.loadAt 3 t6) fun t7 =>
  QV Try.prog C (binS BinOp.mul 3 (Operand.tmp 7) (Operand.const (Value.int IntKind.i64 32)) t7 (Value.int IntKind.i64 32)) fun t8 =>
  NilC a0 fun t10 =>
  QV Try.prog C (Instr.fieldAt 74 t10 2) fun t11 =>
  QV Try.prog C (Instr.loadAt 3 t11) fun t12 =>
  QV Try.prog C (binS BinOp.sub 3 (Operand.tmp 8) (Operand.tmp 12) t8 t12) fun t13 =>
  QEnd C fun h_1 =>
  K t13 h_1
def ann25 : Ann := { loops := [], held := [] }
theorem F25_eq (a0 : Value) (h : Heap) (K : Value → Heap → Prop) : F25 a0 h K = W Try.prog ann25 (bodyOf Try.f25) (bodyQ Try.prog Try.f25.results.toList K) (argsE [a0]) h := by kernel_rfl
theorem F25_wf : (wf Try.f25.ntmps ann25 (bodyOf Try.f25) && Nat.ble Try.f25.ntmps ghost && !memN (writes (bodyOf Try.f25)) ghost) = true := by kernel_rfl
theorem F25_b : Try.f25.body.isSome = true := by kernel_rfl
theorem F25_n : (Try.f25.name == "runtime.NumGoroutine") = false := by kernel_rfl
theorem R25 (args : Array Value) (w : World) : (callFunc 25 args).run Try.prog w = .ok (.enter 25 args) w := callFunc_run Try.func25 F25_b F25_n args w
theorem S25 {a0 : Value} {h : Heap} {K : Value → Heap → Prop} (H : F25 a0 h K) : CallF Try.prog 25 #[a0] h K :=
  callF_of_W mo Try.func25 F25_b F25_n F25_wf (args := [a0]) rfl (F25_eq a0 h K ▸ H)

/- (*replevin/replevinref14.Journal).Room -/
def F26 (a0 : Value) (h : Heap) (K : Value → Heap → Prop) : Prop :=
  Quiet h fun C =>
  NilC a0 fun t4 =>
  QV Try.prog C (Instr.fieldAt 51 t4 2) fun t5 =>
  QV Try.prog C (Instr.loadAt 3 t5) fun t6 =>
  QV Try.prog C (binS BinOp.mul 3 (Operand.const (Value.int IntKind.i64 32)) (Operand.tmp 6) (Value.int IntKind.i64 32) t6) fun t7 =>
  NilC a0 fun t9 =>
  QV Try.prog C (Instr.fieldAt 51 t9 4) fun t10 =>
  QV Try.prog C (Instr.loadAt 3 t10) fun t11 =>
  QV Try.prog C (binS BinOp.sub 3 (Operand.tmp 7) (Operand.tmp 11) t7 t11) fun t12 =>
  QEnd C fun h_1 =>
  K t12 h_1
def ann26 : Ann := { loops := [], held := [] }
theorem F26_eq (a0 : Value) (h : Heap) (K : Value → Heap → Prop) : F26 a0 h K = W Try.prog ann26 (bodyOf Try.f26) (bodyQ Try.prog Try.f26.results.toList K) (argsE [a0]) h := by kernel_rfl
theorem F26_wf : (wf Try.f26.ntmps ann26 (bodyOf Try.f26) && Nat.ble Try.f26.ntmps ghost && !memN (writes (bodyOf Try.f26)) ghost) = true := by kernel_rfl
theorem F26_b : Try.f26.body.isSome = true := by kernel_rfl
theorem F26_n : (Try.f26.name == "runtime.NumGoroutine") = false := by kernel_rfl
theorem R26 (args : Array Value) (w : World) : (callFunc 26 args).run Try.prog w = .ok (.enter 26 args) w := callFunc_run Try.func26 F26_b F26_n args w
theorem S26 {a0 : Value} {h : Heap} {K : Value → Heap → Prop} (H : F26 a0 h K) : CallF Try.prog 26 #[a0] h K :=
  callF_of_W mo Try.func26 F26_b F26_n F26_wf (args := [a0]) rfl (F26_eq a0 h K ▸ H)

/- replevin/journal.Part -/
def F27 (a0 a1 a2 : Value) (h : Heap) (K : Value → Heap → Prop) : Prop :=
  RunV Try.prog (Instr.build 72 #[(0, a0), (1, a1), (2, a2)]) h fun t17 h_1 =>
  RunV Try.prog (Instr.alloc 72 true (.tuple #[])) h_1 fun t9 h_2 =>
  RunU Try.prog (Instr.storeAt 72 t9 t17) h_2 fun h_3 =>
  RunV Try.prog (Instr.loadAt 72 t9) h_3 fun t18 h_4 =>
  CallF Try.prog 41 #[t18] h_4 fun t19 h_5 =>
  RunV Try.prog (Op.unary UnOp.not t19) h_5 fun t20 h_6 =>
  CondP t20 (
  K (.tuple #[(Value.pointer none), (Value.slice none 0 0), (Value.int IntKind.i64 1)]) h_6) (
  RunV Try.prog (Instr.loadAt 72 t9) h_6 fun t21 h_7 =>
  CallF Try.prog 32 #[t21] h_7 fun t22 h_8 =>
  CallF Try.prog 42 #[t22] h_8 fun t25 h_9 =>
  RunV Try.prog (Instr.extract t25 0) h_9 fun t26 h_10 =>
  RunV Try.prog (Instr.extract t25 1) h_10 fun t27 h_11 =>
  Quiet h_11 fun S =>
  QV Try.prog S (Instr.loadAt 72 t9) fun t28 =>
  QB Try.prog S (Go.builtin Builtin.len #[9] 3 #[false] #[t22]) fun t34 =>
  CallF Try.prog 34 #[t22, t27] h_11 fun t31 h_12 =>
  And (S h_12) (
  CallF Try.prog 33 #[t28, t31, t27, t34, (Value.bool false)] h_12 fun t35 h_13 =>
  And (S h_13) (
  RunV Try.prog (binS BinOp.neq 25 (Operand.tmp 36) (Operand.const (Value.int IntKind.i64 0)) t35 (Value.int IntKind.i64 0)) h_13 fun t37 h_14 =>
  CondP t37 (
  K (.tuple #[(Value.pointer none), (Value.slice none 0 0), t35]) h_14) (
  Quiet h_14 fun S_1 =>
  QV Try.prog S_1 (Instr.loadAt 72 t9) fun t39 =>
  QV Try.prog S_1 (Instr.build 74 #[(0, t39), (1, t26), (2, t27)]) fun t42 =>
  And (
  RunV Try.prog (Instr.box 74 t42) h_14 fun t43 h_16 =>
  And (S_1 h_16) (
  CallF Try.prog 40 #[t26] h_16 fun t45 h_17 =>
  And (S_1 h_17) (
  K (.tuple #[t43, t45, (Value.int IntKind.i64 0)]) h_17))) (
  CallF Try.prog 40 #[t26] h_14 fun t45_1 h_18 =>
  And (S_1 h_18) (
  RunV Try.prog (Instr.box 74 t42) h_18 fun t43_1 h_19 =>
  And (S_1 h_19) (
  K (.tuple #[t43_1, t45_1, (Value.int IntKind.i64 0)]) h_19)))))))
def ann27 : Ann := { loops := [], held := [(6, (.take 0 (.take 1 (.take 2 (.take 4 (.take 5 (.take 6 (.one 3 (.one 7 (.take 8 .nil)))))))))), (9, (.take 0 (.take 1 (.take 2 (.take 3 (.take 5 (.two 4 (.one 6 (.take 7 (.take 8 (.take 9 .nil)))) 6 (.one 4 (.take 7 (.take 8 (.take 9 .nil)))))))))))] }
theorem F27_eq (a0 a1 a2 : Value) (h : Heap) (K : Value → Heap → Prop) : F27 a0 a1 a2 h K = W Try.prog ann27 (bodyOf Try.f27) (bodyQ Try.prog Try.f27.results.toList K) (argsE [a0, a1, a2]) h := by kernel_rfl
theorem F27_wf : (wf Try.f27.ntmps ann27 (bodyOf Try.f27) && Nat.ble Try.f27.ntmps ghost && !memN (writes (bodyOf Try.f27)) ghost) = true := by kernel_rfl
theorem F27_b : Try.f27.body.isSome = true := by kernel_rfl
theorem F27_n : (Try.f27.name == "runtime.NumGoroutine") = false := by kernel_rfl
theorem R27 (args : Array Value) (w : World) : (callFunc 27 args).run Try.prog w = .ok (.enter 27 args) w := callFunc_run Try.func27 F27_b F27_n args w
theorem S27 {a0 a1 a2 : Value} {h : Heap} {K : Value → Heap → Prop} (H : F27 a0 a1 a2 h K) : CallF Try.prog 27 #[a0, a1, a2] h K :=
  callF_of_W mo Try.func27 F27_b F27_n F27_wf (args := [a0, a1, a2]) rfl (F27_eq a0 a1 a2 h K ▸ H)

/- replevin/journal.Look -/
def F28 (a0 a1 a2 : Value) (h : Heap) (K : Value → Heap → Prop) : Prop :=
  RunV Try.prog (Instr.build 72 #[(0, a0), (1, a1), (2, a2)]) h fun t13 h_1 =>
  RunV Try.prog (Instr.alloc 72 true (.tuple #[])) h_1 fun t7 h_2 =>
  RunU Try.prog (Instr.storeAt 72 t7 t13) h_2 fun h_3 =>
  RunV Try.prog (Instr.loadAt 72 t7) h_3 fun t14 h_4 =>
  CallF Try.prog 41 #[t14] h_4 fun t15 h_5 =>
  RunV Try.prog (Op.unary UnOp.not t15) h_5 fun t16 h_6 =>
  CondP t16 (
  K (Value.slice none 0 0) h_6) (
  RunV Try.prog (Instr.loadAt 72 t7) h_6 fun t18 h_7 =>
  CallF Try.prog 32 #[t18] h_7 fun t19 h_8 =>
  CallF Try.prog 42 #[t19] h_8 fun t20 h_9 =>
  RunV Try.prog (Instr.extract t20 0) h_9 fun t21 h_10 =>
  RunV Try.prog (Instr.extract t20 1) h_10 fun t22 h_11 =>
  K t21 h_11)
def ann28 : Ann := { loops := [], held := [] }
theorem F28_eq (a0 a1 a2 : Value) (h : Heap) (K : Value → Heap → Prop) : F28 a0 a1 a2 h K = W Try.prog ann28 (bodyOf Try.f28) (bodyQ Try.prog Try.f28.results.toList K) (argsE [a0, a1, a2]) h := by kernel_rfl
theorem F28_wf : (wf Try.f28.ntmps ann28 (bodyOf Try.f28) && Nat.ble Try.f28.ntmps ghost && !memN (writes (bodyOf Try.f28)) ghost) = true := by kernel_rfl
theorem F28_b : Try.f28.body.isSome = true := by kernel_rfl
theorem F28_n : (Try.f28.name == "runtime.NumGoroutine") = false := by kernel_rfl
theorem R28 (args : Array Value) (w : World) : (callFunc 28 args).run Try.prog w = .ok (.enter 28 args) w := callFunc_run Try.func28 F28_b F28_n args w
theorem S28 {a0 a1 a2 : Value} {h : Heap} {K : Value → Heap → Prop} (H : F28 a0 a1 a2 h K) : CallF Try.prog 28 #[a0, a1, a2] h K :=
  callF_of_W mo Try.func28 F28_b F28_n F28_wf (args := [a0, a1, a2]) rfl (F28_eq a0 a1 a2 h K ▸ H)

/- (*replevin/store.Store).Blocks -/
def F29 (a0 : Value) (h : Heap) (K : Value → Heap → Prop) : Prop :=
  NilC a0 fun t4 =>
  RunV Try.prog (Instr.fieldAt 65 t4 0) h fun t5 h_1 =>
  RunV Try.prog (Instr.loadAt 63 t5) h_1 fun t6 h_2 =>
  OpN Try.prog (Go.builtin Builtin.len #[63] 3 #[false] #[t6]) h_2 fun t7 h_3 =>
  K t7 h_3
def ann29 : Ann := { loops := [], held := [] }
theorem F29_eq (a0 : Value) (h : Heap) (K : Value → Heap → Prop) : F29 a0 h K = W Try.prog ann29 (bodyOf Try.f29) (bodyQ Try.prog Try.f29.results.toList K) (argsE [a0]) h := by kernel_rfl
theorem F29_wf : (wf Try.f29.ntmps ann29 (bodyOf Try.f29) && Nat.ble Try.f29.ntmps ghost && !memN (writes (bodyOf Try.f29)) ghost) = true := by kernel_rfl
theorem F29_b : Try.f29.body.isSome = true := by kernel_rfl
theorem F29_n : (Try.f29.name == "runtime.NumGoroutine") = false := by kernel_rfl
theorem R29 (args : Array Value) (w : World) : (callFunc 29 args).run Try.prog w = .ok (.enter 29 args) w := callFunc_run Try.func29 F29_b F29_n args w
theorem S29 {a0 : Value} {h : Heap} {K : Value → Heap → Prop} (H : F29 a0 h K) : CallF Try.prog 29 #[a0] h K :=
  callF_of_W mo Try.func29 F29_b F29_n F29_wf (args := [a0]) rfl (F29_eq a0 h K ▸ H)

/- replevin/replevinref14.Part -/
def F30 (a0 a1 a2 : Value) (h : Heap) (K : Value → Heap → Prop) : Prop :=
  CallF Try.prog 43 #[a0, a1, a2] h fun t18 h_1 =>
  RunV Try.prog (Op.unary UnOp.not t18) h_1 fun t19 h_2 =>
  CondP t19 (
  K (.tuple #[(Value.pointer none), (Value.slice none 0 0), (Value.int IntKind.i64 1)]) h_2) (
  CallF Try.prog 44 #[a0, a1, a2] h_2 fun t24 h_3 =>
  RunV Try.prog (Instr.extract t24 0) h_3 fun t25 h_4 =>
  RunV Try.prog (Instr.extract t24 1) h_4 fun t26 h_5 =>
  RunV Try.prog (binS BinOp.quo 3 (Operand.tmp 27) (Operand.const (Value.int IntKind.i64 32)) t26 (Value.int IntKind.i64 32)) h_5 fun t28 h_6 =>
  Loop1 t28 h_6 fun Ljs Lx11 h_7 Ln =>
  RunV Try.prog (binS BinOp.lss 3 (Operand.tmp 29) (Operand.tmp 30) Lx11 a2) h_7 fun t31 h_8 =>
  CondP t31 (
  Join0 (fun  h_9 =>
  RunV Try.prog (binS BinOp.add 3 (Operand.tmp 32) (Operand.const (Value.int IntKind.i64 1)) Lx11 (Value.int IntKind.i64 1)) h_9 fun t33 h_10 =>
  Ln t33 h_10) fun J =>
  RunV Try.prog (binS BinOp.mul 3 (Operand.const (Value.int IntKind.i64 32)) (Operand.tmp 35) (Value.int IntKind.i64 32) Lx11) h_8 fun t36 h_12 =>
  RunV Try.prog (binS BinOp.sub 3 (Operand.tmp 34) (Operand.tmp 36) t26 t36) h_12 fun t37 h_13 =>
  OpN Try.prog (Go.builtin Builtin.max #[3, 3] 3 #[false, true] #[t37, (Value.int IntKind.i64 0)]) h_13 fun t38 h_14 =>
  Quiet h_14 fun C =>
  NilC a0 fun t40 =>
  QV Try.prog C (Instr.fieldAt 67 t40 0) fun t41 =>
  QV Try.prog C (Instr.loadAt 32 t41) fun t42 =>
  QV Try.prog C (binS BinOp.add 3 (Operand.tmp 43) (Operand.tmp 44) a1 Lx11) fun t45 =>
  QV Try.prog C (Instr.indexAt 32 t42 t45) fun t46 =>
  QV Try.prog C (Instr.loadAt 9 t46) fun t47 =>
  QV Try.prog C (Instr.sliceAt 9 t47 none (some t38) none) fun t49 =>
  QV Try.prog C (binS BinOp.sub 3 (Operand.const (Value.int IntKind.i64 32)) (Operand.tmp 50) (Value.int IntKind.i64 32) t38) fun t51 =>
  QCallF Try.prog C 45 #[t51] fun t52 =>
  QV Try.prog C (binS BinOp.add 9 (Operand.tmp 49) (Operand.tmp 52) t49 t52) fun t53 =>
  QEnd C fun h_15 =>
  NilC a0 fun t56 =>
  RunV Try.prog (Instr.fieldAt 67 t56 0) h_15 fun t57 h_16 =>
  RunV Try.prog (Instr.loadAt 32 t57) h_16 fun t58 h_17 =>
  RunV Try.prog (binS BinOp.add 3 (Operand.tmp 59) (Operand.tmp 60) a1 Lx11) h_17 fun t61 h_18 =>
  RunV Try.prog (Instr.indexAt 32 t58 t61) h_18 fun t62 h_19 =>
  RunV Try.prog (Instr.loadAt 9 t62) h_19 fun t63 h_20 =>
  RunV Try.prog (binS BinOp.neq 9 (Operand.tmp 54) (Operand.tmp 63) t53 t63) h_20 fun t64 h_21 =>
  CondP t64 (
  RunV Try.prog (binS BinOp.add 3 (Operand.tmp 66) (Operand.tmp 67) a1 Lx11) h_21 fun t68 h_23 =>
  CallF Try.prog 18 #[a0, t68, t53] h_23 fun t70 h_24 =>
  RunV Try.prog (binS BinOp.neq 25 (Operand.tmp 71) (Operand.const (Value.int IntKind.i64 0)) t70 (Value.int IntKind.i64 0)) h_24 fun t72 h_25 =>
  CondP t72 (
  K (.tuple #[(Value.pointer none), (Value.slice none 0 0), t70]) h_25) (
  J h_25)) (
  J h_21)) (
  RunV Try.prog (Instr.build 51 #[(0, a0), (1, a1), (2, a2), (3, t25), (4, t26)]) h_8 fun t79 h_26 =>
  RunV Try.prog (Instr.box 51 t79) h_26 fun t80 h_27 =>
  K (.tuple #[t80, t25, (Value.int IntKind.i64 0)]) h_27))
def ann30 : Ann := { loops := [(5, [11])], held := [] }
theorem F30_eq (a0 a1 a2 : Value) (h : Heap) (K : Value → Heap → Prop) : F30 a0 a1 a2 h K = W Try.prog ann30 (bodyOf Try.f30) (bodyQ Try.prog Try.f30.results.toList K) (argsE [a0, a1, a2]) h := by kernel_rfl
theorem F30_wf : (wf Try.f30.ntmps ann30 (bodyOf Try.f30) && Nat.ble Try.f30.ntmps ghost && !memN (writes (bodyOf Try.f30)) ghost) = true := by kernel_rfl
theorem F30_b : Try.f30.body.isSome = true := by kernel_rfl
theorem F30_n : (Try.f30.name == "runtime.NumGoroutine") = false := by kernel_rfl
theorem R30 (args : Array Value) (w : World) : (callFunc 30 args).run Try.prog w = .ok (.enter 30 args) w := callFunc_run Try.func30 F30_b F30_n args w
theorem S30 {a0 a1 a2 : Value} {h : Heap} {K : Value → Heap → Prop} (H : F30 a0 a1 a2 h K) : CallF Try.prog 30 #[a0, a1, a2] h K :=
  callF_of_W mo Try.func30 F30_b F30_n F30_wf (args := [a0, a1, a2]) rfl (F30_eq a0 a1 a2 h K ▸ H)

/- replevin/log.Frame -/
def F31 (a0 : Value) (h : Heap) (K : Value → Heap → Prop) : Prop :=
  Join1 (fun Jx11 h_1 =>
  CondP Jx11 (
  K (.tuple #[(Value.string { data := #[] }), (Value.int IntKind.i64 3)]) h_1) (
  RunV Try.prog (Instr.buildSlice 54 1 #[(0, (Value.int IntKind.u8 1))]) h_1 fun t12 h_2 =>
  RunV Try.prog (convert 54 9 t12) h_2 fun t13 h_3 =>
  OpN Try.prog (Go.builtin Builtin.len #[9] 3 #[false] #[a0]) h_3 fun t16 h_4 =>
  RunV Try.prog (convert 3 93 t16) h_4 fun t17 h_5 =>
  CallF Try.prog 46 #[t17, (Value.int IntKind.i64 2)] h_5 fun t18 h_6 =>
  RunV Try.prog (binS BinOp.add 9 (Operand.tmp 14) (Operand.tmp 18) t13 t18) h_6 fun t19 h_7 =>
  CallF Try.prog 47 #[a0] h_7 fun t21 h_8 =>
  CallF Try.prog 46 #[t21, (Value.int IntKind.i64 4)] h_8 fun t22 h_9 =>
  RunV Try.prog (binS BinOp.add 9 (Operand.tmp 19) (Operand.tmp 22) t19 t22) h_9 fun t23 h_10 =>
  RunV Try.prog (binS BinOp.add 9 (Operand.tmp 23) (Operand.tmp 24) t23 a0) h_10 fun t25 h_11 =>
  RunV Try.prog (binS BinOp.add 9 (Operand.tmp 25) (Operand.tmp 26) t25 t13) h_11 fun t27 h_12 =>
  K (.tuple #[t27, (Value.int IntKind.i64 0)]) h_12)) fun J =>
  RunV Try.prog (binS BinOp.eql 9 (Operand.tmp 5) (Operand.const (Value.string { data := #[] })) a0 (Value.string { data := #[] })) h fun t6 h_13 =>
  GuardP t6 false (
  OpN Try.prog (Go.builtin Builtin.len #[9] 3 #[false] #[a0]) h_13 fun t9 h_14 =>
  RunV Try.prog (binS BinOp.gtr 3 (Operand.tmp 9) (Operand.const (Value.int IntKind.i64 400)) t9 (Value.int IntKind.i64 400)) h_14 fun t10 h_15 =>
  J t10 h_15) (
  J (Value.bool true) h_13)
def ann31 : Ann := { loops := [], held := [] }
theorem F31_eq (a0 : Value) (h : Heap) (K : Value → Heap → Prop) : F31 a0 h K = W Try.prog ann31 (bodyOf Try.f31) (bodyQ Try.prog Try.f31.results.toList K) (argsE [a0]) h := by kernel_rfl
theorem F31_wf : (wf Try.f31.ntmps ann31 (bodyOf Try.f31) && Nat.ble Try.f31.ntmps ghost && !memN (writes (bodyOf Try.f31)) ghost) = true := by kernel_rfl
theorem F31_b : Try.f31.body.isSome = true := by kernel_rfl
theorem F31_n : (Try.f31.name == "runtime.NumGoroutine") = false := by kernel_rfl
theorem R31 (args : Array Value) (w : World) : (callFunc 31 args).run Try.prog w = .ok (.enter 31 args) w := callFunc_run Try.func31 F31_b F31_n args w
theorem S31 {a0 : Value} {h : Heap} {K : Value → Heap → Prop} (H : F31 a0 h K) : CallF Try.prog 31 #[a0] h K :=
  callF_of_W mo Try.func31 F31_b F31_n F31_wf (args := [a0]) rfl (F31_eq a0 h K ▸ H)

/- (replevin/journal.part).bytes -/
def F32 (a0 : Value) (h : Heap) (K : Value → Heap → Prop) : Prop :=
  RunV Try.prog (Instr.box 72 a0) h fun t1 h_1 =>
  Quiet h_1 fun C =>
  QV Try.prog C (Instr.fieldAt 72 t1 0) fun t3 =>
  QV Try.prog C (Instr.loadAt 24 t3) fun t4 =>
  QCallF Try.prog C 20 #[t4] fun t5 =>
  QV Try.prog C (Instr.fieldAt 72 t1 1) fun t6 =>
  QV Try.prog C (Instr.loadAt 3 t6) fun t7 =>
  QV Try.prog C (binS BinOp.mul 3 (Operand.tmp 7) (Operand.const (Value.int IntKind.i64 32)) t7 (Value.int IntKind.i64 32)) fun t8 =>
  QV Try.prog C (Instr.fieldAt 72 t1 1) fun t9 =>
  QV Try.prog C (Instr.loadAt 3 t9) fun t10 =>
  QV Try.prog C (Instr.fieldAt 72 t1 2) fun t11 =>
  QV Try.prog C (Instr.loadAt 3 t11) fun t12 =>
  QV Try.prog C (binS BinOp.add 3 (Operand.tmp 10) (Operand.tmp 12) t10 t12) fun t13 =>
  QV Try.prog C (binS BinOp.mul 3 (Operand.tmp 13) (Operand.const (Value.int IntKind.i64 32)) t13 (Value.int IntKind.i64 32)) fun t14 =>
  QV Try.prog C (Instr.sliceAt 9 t5 (some t8) (some t14) none) fun t15 =>
  QEnd C fun h_2 =>
  K t15 h_2
def ann32 : Ann := { loops := [], held := [] }
theorem F32_eq (a0 : Value) (h : Heap) (K : Value → Heap → Prop) : F32 a0 h K = W Try.prog ann32 (bodyOf Try.f32) (bodyQ Try.prog Try.f32.results.toList K) (argsE [a0]) h := by kernel_rfl
theorem F32_wf : (wf Try.f32.ntmps ann32 (bodyOf Try.f32) && Nat.ble Try.f32.ntmps ghost && !memN (writes (bodyOf Try.f32)) ghost) = true := by kernel_rfl
theorem F32_b : Try.f32.body.isSome = true := by kernel_rfl
theorem F32_n : (Try.f32.name == "runtime.NumGoroutine") = false := by kernel_rfl
theorem R32 (args : Array Value) (w : World) : (callFunc 32 args).run Try.prog w = .ok (.enter 32 args) w := callFunc_run Try.func32 F32_b F32_n args w
theorem S32 {a0 : Value} {h : Heap} {K : Value → Heap → Prop} (H : F32 a0 h K) : CallF Try.prog 32 #[a0] h K :=
  callF_of_W mo Try.func32 F32_b F32_n F32_wf (args := [a0]) rfl (F32_eq a0 h K ▸ H)

/- (replevin/journal.part).put -/
def F33 (a0 a1 a2 a3 a4 : Value) (h : Heap) (K : Value → Heap → Prop) : Prop :=
  RunV Try.prog (Instr.box 72 a0) h fun t5 h_1 =>
  RunV Try.prog (Instr.box 9 a1) h_1 fun t6 h_2 =>
  RunV Try.prog (Instr.box 4 a4) h_2 fun t9 h_3 =>
  RunV Try.prog (Instr.alloc 25 true (.tuple #[])) h_3 fun t10 h_4 =>
  RunV Try.prog (Instr.loadAt 72 t5) h_4 fun t16 h_5 =>
  CallF Try.prog 32 #[t16] h_5 fun t17 h_6 =>
  RunV Try.prog (Instr.alloc 9 true (.tuple #[])) h_6 fun t11 h_7 =>
  RunU Try.prog (Instr.storeAt 9 t11 t17) h_7 fun h_8 =>
  CallF Try.prog 48 #[a2, a3] h_8 fun t20 h_9 =>
  RangeP1 Try.prog t20 h_9 (fun Rmk Rx0 h_10 RK =>
  BeginR Rmk (h_9.size + 1) h_10 fun h_11 =>
  RunV Try.prog (binS BinOp.mul 3 (Operand.tmp 22) (Operand.const (Value.int IntKind.i64 32)) Rx0 (Value.int IntKind.i64 32)) h_11 fun t23 h_13 =>
  RunV Try.prog (binS BinOp.add 3 (Operand.tmp 24) (Operand.const (Value.int IntKind.i64 1)) Rx0 (Value.int IntKind.i64 1)) h_13 fun t25 h_14 =>
  RunV Try.prog (binS BinOp.mul 3 (Operand.tmp 25) (Operand.const (Value.int IntKind.i64 32)) t25 (Value.int IntKind.i64 32)) h_14 fun t26 h_15 =>
  Join1 (fun J_1x39 h_16 =>
  CondP J_1x39 (
  EndR Rmk (h_9.size + 1) RK none h_16) (
  Quiet h_16 fun S =>
  QV Try.prog S (Instr.fieldAt 72 t5 0) fun t40 =>
  QV Try.prog S (Instr.loadAt 24 t40) fun t41 =>
  QV Try.prog S (Instr.fieldAt 72 t5 1) fun t42 =>
  QV Try.prog S (Instr.loadAt 3 t42) fun t43 =>
  QV Try.prog S (binS BinOp.add 3 (Operand.tmp 43) (Operand.tmp 44) t43 Rx0) fun t45 =>
  QV Try.prog S (Instr.loadAt 9 t6) fun t46 =>
  QV Try.prog S (Instr.sliceAt 9 t46 (some t23) (some t26) none) fun t49 =>
  CallF Try.prog 16 #[t41, t45, t49] h_16 fun t50 h_17 =>
  And (S h_17) (
  RunV Try.prog (binS BinOp.neq 25 (Operand.tmp 51) (Operand.const (Value.int IntKind.i64 0)) t50 (Value.int IntKind.i64 0)) h_17 fun t52 h_18 =>
  CondP t52 (
  RunU Try.prog (Instr.storeAt 25 t10 t50) h_18 fun h_19 =>
  EndR Rmk (h_9.size + 1) RK (some .ret) h_19) (
  EndR Rmk (h_9.size + 1) RK none h_18)))) fun J_1 =>
  Quiet h_15 fun C =>
  QV Try.prog C (Instr.loadAt 4 t9) fun t27 =>
  QV Try.prog C (Op.unary UnOp.not t27) fun t28 =>
  GuardP t28 true (
  QV Try.prog C (Instr.loadAt 9 t6) fun t30 =>
  QV Try.prog C (Instr.sliceAt 9 t30 (some t23) (some t26) none) fun t33 =>
  QV Try.prog C (Instr.loadAt 9 t11) fun t34 =>
  QV Try.prog C (Instr.sliceAt 9 t34 (some t23) (some t26) none) fun t37 =>
  QV Try.prog C (binS BinOp.eql 9 (Operand.tmp 33) (Operand.tmp 37) t33 t37) fun t38 =>
  QEnd C fun h_20 =>
  J_1 t38 h_20) (
  QEnd C fun h_21 =>
  J_1 (Value.bool false) h_21)) fun Rj h_22 =>
  JumpM Rj (
  RunU Try.prog (Instr.storeAt 25 t10 (Value.int IntKind.i64 0)) h_22 fun h_23 =>
  MarksP (addMark h_9.size undef) h_23 fun h_24 =>
  QV Try.prog (fun hr => hr = h_24) (Instr.loadAt 25 t10) fun r =>
  K r h_24) (
  MarksP (addMark h_9.size undef) h_22 fun h_25 =>
  QV Try.prog (fun hr => hr = h_25) (Instr.loadAt 25 t10) fun r_1 =>
  K r_1 h_25) fun Ri =>
  cond (Nat.beq Ri 0) (
  RunU Try.prog (Instr.storeAt 25 t10 (Value.int IntKind.i64 0)) h_22 fun h_26 =>
  MarksP (addMark h_9.size undef) h_26 fun h_27 =>
  QV Try.prog (fun hr => hr = h_27) (Instr.loadAt 25 t10) fun r_2 =>
  K r_2 h_27) (
  False)
def ann33 : Ann := { loops := [], held := [(6, (.take 0 (.take 1 (.take 2 (.take 3 (.take 4 (.take 5 (.take 6 (.take 7 (.take 8 (.take 9 (.one 10 (.take 11 .nil)))))))))))))] }
theorem F33_eq (a0 a1 a2 a3 a4 : Value) (h : Heap) (K : Value → Heap → Prop) : F33 a0 a1 a2 a3 a4 h K = W Try.prog ann33 (bodyOf Try.f33) (bodyQM Try.prog Try.f33.results.toList K) (argsE [a0, a1, a2, a3, a4]) h := by kernel_rfl
theorem F33_wf : wf Try.f33.ntmps ann33 (bodyOf Try.f33) = true := by kernel_rfl
theorem F33_b : Try.f33.body.isSome = true := by kernel_rfl
theorem F33_n : (Try.f33.name == "runtime.NumGoroutine") = false := by kernel_rfl
theorem R33 (args : Array Value) (w : World) : (callFunc 33 args).run Try.prog w = .ok (.enter 33 args) w := callFunc_run Try.func33 F33_b F33_n args w
theorem S33 {a0 a1 a2 a3 a4 : Value} {h : Heap} {K : Value → Heap → Prop} (H : F33 a0 a1 a2 a3 a4 h K) : CallF Try.prog 33 #[a0, a1, a2, a3, a4] h K :=
  callF_of_WM mo Try.func33 F33_b F33_n F33_wf (by kernel_rfl) (args := [a0, a1, a2, a3, a4]) rfl (F33_eq a0 a1 a2 a3 a4 h K ▸ H)

/- replevin/journal.cleared -/
def F34 (a0 a1 : Value) (h : Heap) (K : Value → Heap → Prop) : Prop :=
  Quiet h fun C =>
  QV Try.prog C (Instr.sliceAt 9 a0 none (some a1) none) fun t7 =>
  QB Try.prog C (Go.builtin Builtin.len #[9] 3 #[false] #[a0]) fun t9 =>
  QV Try.prog C (binS BinOp.sub 3 (Operand.tmp 9) (Operand.tmp 10) t9 a1) fun t11 =>
  QCallF Try.prog C 49 #[(Value.string { data := #[0] }), t11] fun t12 =>
  QV Try.prog C (binS BinOp.add 9 (Operand.tmp 7) (Operand.tmp 12) t7 t12) fun t13 =>
  QEnd C fun h_1 =>
  K t13 h_1
def ann34 : Ann := { loops := [], held := [] }
theorem F34_eq (a0 a1 : Value) (h : Heap) (K : Value → Heap → Prop) : F34 a0 a1 h K = W Try.prog ann34 (bodyOf Try.f34) (bodyQ Try.prog Try.f34.results.toList K) (argsE [a0, a1]) h := by kernel_rfl
theorem F34_wf : (wf Try.f34.ntmps ann34 (bodyOf Try.f34) && Nat.ble Try.f34.ntmps ghost && !memN (writes (bodyOf Try.f34)) ghost) = true := by kernel_rfl
theorem F34_b : Try.f34.body.isSome = true := by kernel_rfl
theorem F34_n : (Try.f34.name == "runtime.NumGoroutine") = false := by kernel_rfl
theorem R34 (args : Array Value) (w : World) : (callFunc 34 args).run Try.prog w = .ok (.enter 34 args) w := callFunc_run Try.func34 F34_b F34_n args w
theorem S34 {a0 a1 : Value} {h : Heap} {K : Value → Heap → Prop} (H : F34 a0 a1 h K) : CallF Try.prog 34 #[a0, a1] h K :=
  callF_of_W mo Try.func34 F34_b F34_n F34_wf (args := [a0, a1]) rfl (F34_eq a0 a1 h K ▸ H)

/- replevin/replevinref13.Frame -/
def F35 (a0 : Value) (h : Heap) (K : Value → Heap → Prop) : Prop :=
  OpN Try.prog (Go.builtin Builtin.len #[9] 3 #[false] #[a0]) h fun t8 h_1 =>
  Join1 (fun Jx14 h_2 =>
  CondP Jx14 (
  K (.tuple #[(Value.string { data := #[] }), (Value.int IntKind.i64 3)]) h_2) (
  CallF Try.prog 50 #[a0] h_2 fun t16 h_3 =>
  RunV Try.prog (binS BinOp.quo 3 (Operand.tmp 17) (Operand.const (Value.int IntKind.i64 256)) t8 (Value.int IntKind.i64 256)) h_3 fun t18 h_4 =>
  RunV Try.prog (convert 3 5 t18) h_4 fun t19 h_5 =>
  RunV Try.prog (binS BinOp.rem 3 (Operand.tmp 20) (Operand.const (Value.int IntKind.i64 256)) t8 (Value.int IntKind.i64 256)) h_5 fun t21 h_6 =>
  RunV Try.prog (convert 3 5 t21) h_6 fun t22 h_7 =>
  RunV Try.prog (binS BinOp.shr 93 (Operand.tmp 23) (Operand.const (Value.int IntKind.u64 24)) t16 (Value.int IntKind.u64 24)) h_7 fun t24 h_8 =>
  RunV Try.prog (convert 93 5 t24) h_8 fun t25 h_9 =>
  RunV Try.prog (binS BinOp.shr 93 (Operand.tmp 26) (Operand.const (Value.int IntKind.u64 16)) t16 (Value.int IntKind.u64 16)) h_9 fun t27 h_10 =>
  RunV Try.prog (convert 93 5 t27) h_10 fun t28 h_11 =>
  RunV Try.prog (binS BinOp.shr 93 (Operand.tmp 29) (Operand.const (Value.int IntKind.u64 8)) t16 (Value.int IntKind.u64 8)) h_11 fun t30 h_12 =>
  RunV Try.prog (convert 93 5 t30) h_12 fun t31 h_13 =>
  RunV Try.prog (convert 93 5 t16) h_13 fun t33 h_14 =>
  RunV Try.prog (Instr.buildSlice 54 7 #[(0, (Value.int IntKind.u8 1)), (1, t19), (2, t22), (3, t25), (4, t28), (5, t31), (6, t33)]) h_14 fun t34 h_15 =>
  RunV Try.prog (convert 54 9 t34) h_15 fun t36 h_16 =>
  RunV Try.prog (binS BinOp.add 9 (Operand.tmp 36) (Operand.tmp 37) t36 a0) h_16 fun t38 h_17 =>
  RunV Try.prog (binS BinOp.add 9 (Operand.tmp 38) (Operand.const (Value.string { data := #[1] })) t38 (Value.string { data := #[1] })) h_17 fun t39 h_18 =>
  K (.tuple #[t39, (Value.int IntKind.i64 0)]) h_18)) fun J =>
  RunV Try.prog (binS BinOp.lss 3 (Operand.tmp 9) (Operand.const (Value.int IntKind.i64 1)) t8 (Value.int IntKind.i64 1)) h_1 fun t10 h_19 =>
  GuardP t10 false (
  RunV Try.prog (binS BinOp.gtr 3 (Operand.tmp 12) (Operand.const (Value.int IntKind.i64 400)) t8 (Value.int IntKind.i64 400)) h_19 fun t13 h_20 =>
  J t13 h_20) (
  J (Value.bool true) h_19)
def ann35 : Ann := { loops := [], held := [] }
theorem F35_eq (a0 : Value) (h : Heap) (K : Value → Heap → Prop) : F35 a0 h K = W Try.prog ann35 (bodyOf Try.f35) (bodyQ Try.prog Try.f35.results.toList K) (argsE [a0]) h := by kernel_rfl
theorem F35_wf : (wf Try.f35.ntmps ann35 (bodyOf Try.f35) && Nat.ble Try.f35.ntmps ghost && !memN (writes (bodyOf Try.f35)) ghost) = true := by kernel_rfl
theorem F35_b : Try.f35.body.isSome = true := by kernel_rfl
theorem F35_n : (Try.f35.name == "runtime.NumGoroutine") = false := by kernel_rfl
theorem R35 (args : Array Value) (w : World) : (callFunc 35 args).run Try.prog w = .ok (.enter 35 args) w := callFunc_run Try.func35 F35_b F35_n args w
theorem S35 {a0 : Value} {h : Heap} {K : Value → Heap → Prop} (H : F35 a0 h K) : CallF Try.prog 35 #[a0] h K :=
  callF_of_W mo Try.func35 F35_b F35_n F35_wf (args := [a0]) rfl (F35_eq a0 h K ▸ H)

/- (*replevin/store.Store).may -/
def F36 (a0 a1 : Value) (h : Heap) (K : Value → Heap → Prop) : Prop :=
  NilC a0 fun t7 =>
  RunV Try.prog (Instr.fieldAt 65 t7 3) h fun t8 h_1 =>
  RunV Try.prog (Instr.loadAt 4 t8) h_1 fun t9 h_2 =>
  CondP t9 (
  K (Value.int IntKind.i64 16) h_2) (
  Join1 (fun Jx10 h_3 =>
  CondP Jx10 (
  K (Value.int IntKind.i64 3) h_3) (
  K (Value.int IntKind.i64 0) h_3)) fun J =>
  RunV Try.prog (binS BinOp.lss 3 (Operand.tmp 11) (Operand.const (Value.int IntKind.i64 0)) a1 (Value.int IntKind.i64 0)) h_2 fun t12 h_4 =>
  GuardP t12 false (
  NilC a0 fun t16 =>
  RunV Try.prog (Instr.fieldAt 65 t16 0) h_4 fun t17 h_5 =>
  RunV Try.prog (Instr.loadAt 63 t17) h_5 fun t18 h_6 =>
  OpN Try.prog (Go.builtin Builtin.len #[63] 3 #[false] #[t18]) h_6 fun t19 h_7 =>
  RunV Try.prog (binS BinOp.geq 3 (Operand.tmp 14) (Operand.tmp 19) a1 t19) h_7 fun t20 h_8 =>
  J t20 h_8) (
  J (Value.bool true) h_4))
def ann36 : Ann := { loops := [], held := [] }
theorem F36_eq (a0 a1 : Value) (h : Heap) (K : Value → Heap → Prop) : F36 a0 a1 h K = W Try.prog ann36 (bodyOf Try.f36) (bodyQ Try.prog Try.f36.results.toList K) (argsE [a0, a1]) h := by kernel_rfl
theorem F36_wf : (wf Try.f36.ntmps ann36 (bodyOf Try.f36) && Nat.ble Try.f36.ntmps ghost && !memN (writes (bodyOf Try.f36)) ghost) = true := by kernel_rfl
theorem F36_b : Try.f36.body.isSome = true := by kernel_rfl
theorem F36_n : (Try.f36.name == "runtime.NumGoroutine") = false := by kernel_rfl
theorem R36 (args : Array Value) (w : World) : (callFunc 36 args).run Try.prog w = .ok (.enter 36 args) w := callFunc_run Try.func36 F36_b F36_n args w
theorem S36 {a0 a1 : Value} {h : Heap} {K : Value → Heap → Prop} (H : F36 a0 a1 h K) : CallF Try.prog 36 #[a0, a1] h K :=
  callF_of_W mo Try.func36 F36_b F36_n F36_wf (args := [a0, a1]) rfl (F36_eq a0 a1 h K ▸ H)

/- (*replevin/replevinref12.Store).Read -/
def F37 (a0 a1 : Value) (h : Heap) (K : Value → Heap → Prop) : Prop :=
  NilC a0 fun t7 =>
  RunV Try.prog (Instr.fieldAt 67 t7 3) h fun t8 h_1 =>
  RunV Try.prog (Instr.loadAt 4 t8) h_1 fun t9 h_2 =>
  CondP t9 (
  K (.tuple #[(Value.string { data := #[] }), (Value.int IntKind.i64 16)]) h_2) (
  Join1 (fun Jx20 h_3 =>
  CondP Jx20 (
  K (.tuple #[(Value.string { data := #[] }), (Value.int IntKind.i64 3)]) h_3) (
  NilC a0 fun t22 =>
  RunV Try.prog (Instr.fieldAt 67 t22 0) h_3 fun t23 h_4 =>
  RunV Try.prog (Instr.loadAt 32 t23) h_4 fun t24 h_5 =>
  RunV Try.prog (Instr.indexAt 32 t24 a1) h_5 fun t26 h_6 =>
  RunV Try.prog (Instr.loadAt 9 t26) h_6 fun t27 h_7 =>
  K (.tuple #[t27, (Value.int IntKind.i64 0)]) h_7)) fun J =>
  RunV Try.prog (binS BinOp.lss 3 (Operand.tmp 10) (Operand.const (Value.int IntKind.i64 0)) a1 (Value.int IntKind.i64 0)) h_2 fun t11 h_8 =>
  GuardP t11 false (
  NilC a0 fun t15 =>
  RunV Try.prog (Instr.fieldAt 67 t15 0) h_8 fun t16 h_9 =>
  RunV Try.prog (Instr.loadAt 32 t16) h_9 fun t17 h_10 =>
  OpN Try.prog (Go.builtin Builtin.len #[32] 3 #[false] #[t17]) h_10 fun t18 h_11 =>
  RunV Try.prog (binS BinOp.geq 3 (Operand.tmp 13) (Operand.tmp 18) a1 t18) h_11 fun t19 h_12 =>
  J t19 h_12) (
  J (Value.bool true) h_8))
def ann37 : Ann := { loops := [], held := [] }
theorem F37_eq (a0 a1 : Value) (h : Heap) (K : Value → Heap → Prop) : F37 a0 a1 h K = W Try.prog ann37 (bodyOf Try.f37) (bodyQ Try.prog Try.f37.results.toList K) (argsE [a0, a1]) h := by kernel_rfl
theorem F37_wf : (wf Try.f37.ntmps ann37 (bodyOf Try.f37) && Nat.ble Try.f37.ntmps ghost && !memN (writes (bodyOf Try.f37)) ghost) = true := by kernel_rfl
theorem F37_b : Try.f37.body.isSome = true := by kernel_rfl
theorem F37_n : (Try.f37.name == "runtime.NumGoroutine") = false := by kernel_rfl
theorem R37 (args : Array Value) (w : World) : (callFunc 37 args).run Try.prog w = .ok (.enter 37 args) w := callFunc_run Try.func37 F37_b F37_n args w
theorem S37 {a0 a1 : Value} {h : Heap} {K : Value → Heap → Prop} (H : F37 a0 a1 h K) : CallF Try.prog 37 #[a0, a1] h K :=
  callF_of_W mo Try.func37 F37_b F37_n F37_wf (args := [a0, a1]) rfl (F37_eq a0 a1 h K ▸ H)

/- (*strings.Builder).Write -/
def F38 (a0 a1 : Value) (h : Heap) (K : Value → Heap → Prop) : Prop :=
  CallF Try.prog 51 #[a0] h fun t7 h_1 =>
  NilC a0 fun t10 =>
  RunV Try.prog (Instr.fieldAt 83 t10 1) h_1 fun t11 h_2 =>
  RunV Try.prog (Instr.loadAt 54 t11) h_2 fun t12 h_3 =>
  OpN Try.prog (Go.builtin Builtin.append #[54, 54] 54 #[false, false] #[t12, a1]) h_3 fun t14 h_4 =>
  NilC a0 fun t15 =>
  RunV Try.prog (Instr.fieldAt 83 t15 1) h_4 fun t16 h_5 =>
  RunU Try.prog (Instr.storeAt 54 t16 t14) h_5 fun h_6 =>
  OpN Try.prog (Go.builtin Builtin.len #[54] 3 #[false] #[a1]) h_6 fun t18 h_7 =>
  K (.tuple #[t18, Value.nilIface]) h_7
def ann38 : Ann := { loops := [], held := [] }
theorem F38_eq (a0 a1 : Value) (h : Heap) (K : Value → Heap → Prop) : F38 a0 a1 h K = W Try.prog ann38 (bodyOf Try.f38) (bodyQ Try.prog Try.f38.results.toList K) (argsE [a0, a1]) h := by kernel_rfl
theorem F38_wf : (wf Try.f38.ntmps ann38 (bodyOf Try.f38) && Nat.ble Try.f38.ntmps ghost && !memN (writes (bodyOf Try.f38)) ghost) = true := by kernel_rfl
theorem F38_b : Try.f38.body.isSome = true := by kernel_rfl
theorem F38_n : (Try.f38.name == "runtime.NumGoroutine") = false := by kernel_rfl
theorem R38 (args : Array Value) (w : World) : (callFunc 38 args).run Try.prog w = .ok (.enter 38 args) w := callFunc_run Try.func38 F38_b F38_n args w
theorem S38 {a0 a1 : Value} {h : Heap} {K : Value → Heap → Prop} (H : F38 a0 a1 h K) : CallF Try.prog 38 #[a0, a1] h K :=
  callF_of_W mo Try.func38 F38_b F38_n F38_wf (args := [a0, a1]) rfl (F38_eq a0 a1 h K ▸ H)

/- (*strings.Builder).String -/
def F39 (a0 : Value) (h : Heap) (K : Value → Heap → Prop) : Prop :=
  Quiet h fun S =>
  NilC a0 fun t4 =>
  QV Try.prog S (Instr.fieldAt 83 t4 1) fun t5 =>
  QV Try.prog S (Instr.loadAt 54 t5) fun t6 =>
  NilC a0 fun t9 =>
  QV Try.prog S (Instr.fieldAt 83 t9 1) fun t10 =>
  QV Try.prog S (Instr.loadAt 54 t10) fun t11 =>
  QB Try.prog S (Go.builtin Builtin.len #[54] 3 #[false] #[t11]) fun t12 =>
  OpN Try.prog (Go.builtin Builtin.unsafeSliceData #[54] 99 #[false] #[t6]) h fun t7 h_1 =>
  And (S h_1) (
  OpN Try.prog (Go.builtin Builtin.unsafeString #[99, 3] 9 #[false, false] #[t7, t12]) h_1 fun t13 h_2 =>
  And (S h_2) (
  K t13 h_2))
def ann39 : Ann := { loops := [], held := [(1, (.take 0 (.take 1 (.take 2 (.take 3 (.take 5 (.take 6 (.take 7 (.take 8 (.take 9 (.one 4 (.one 10 (.take 11 .nil)))))))))))))] }
theorem F39_eq (a0 : Value) (h : Heap) (K : Value → Heap → Prop) : F39 a0 h K = W Try.prog ann39 (bodyOf Try.f39) (bodyQ Try.prog Try.f39.results.toList K) (argsE [a0]) h := by kernel_rfl
theorem F39_wf : (wf Try.f39.ntmps ann39 (bodyOf Try.f39) && Nat.ble Try.f39.ntmps ghost && !memN (writes (bodyOf Try.f39)) ghost) = true := by kernel_rfl
theorem F39_b : Try.f39.body.isSome = true := by kernel_rfl
theorem F39_n : (Try.f39.name == "runtime.NumGoroutine") = false := by kernel_rfl
theorem R39 (args : Array Value) (w : World) : (callFunc 39 args).run Try.prog w = .ok (.enter 39 args) w := callFunc_run Try.func39 F39_b F39_n args w
theorem S39 {a0 : Value} {h : Heap} {K : Value → Heap → Prop} (H : F39 a0 h K) : CallF Try.prog 39 #[a0] h K :=
  callF_of_W mo Try.func39 F39_b F39_n F39_wf (args := [a0]) rfl (F39_eq a0 h K ▸ H)

/- slices.Clone[[]string,string] -/
def F40 (a0 : Value) (h : Heap) (K : Value → Heap → Prop) : Prop :=
  RunV Try.prog (binS BinOp.eql 32 (Operand.tmp 3) (Operand.const (Value.slice none 0 0)) a0 (Value.slice none 0 0)) h fun t4 h_1 =>
  CondP t4 (
  K (Value.slice none 0 0) h_1) (
  RunV Try.prog (Instr.buildSlice 32 0 #[]) h_1 fun t5 h_2 =>
  OpN Try.prog (Go.builtin Builtin.append #[32, 32] 32 #[false, false] #[t5, a0]) h_2 fun t7 h_3 =>
  K t7 h_3)
def ann40 : Ann := { loops := [], held := [] }
theorem F40_eq (a0 : Value) (h : Heap) (K : Value → Heap → Prop) : F40 a0 h K = W Try.prog ann40 (bodyOf Try.f40) (bodyQ Try.prog Try.f40.results.toList K) (argsE [a0]) h := by kernel_rfl
theorem F40_wf : (wf Try.f40.ntmps ann40 (bodyOf Try.f40) && Nat.ble Try.f40.ntmps ghost && !memN (writes (bodyOf Try.f40)) ghost) = true := by kernel_rfl
theorem F40_b : Try.f40.body.isSome = true := by kernel_rfl
theorem F40_n : (Try.f40.name == "runtime.NumGoroutine") = false := by kernel_rfl
theorem R40 (args : Array Value) (w : World) : (callFunc 40 args).run Try.prog w = .ok (.enter 40 args) w := callFunc_run Try.func40 F40_b F40_n args w
theorem S40 {a0 : Value} {h : Heap} {K : Value → Heap → Prop} (H : F40 a0 h K) : CallF Try.prog 40 #[a0] h K :=
  callF_of_W mo Try.func40 F40_b F40_n F40_wf (args := [a0]) rfl (F40_eq a0 h K ▸ H)

/- (replevin/journal.part).is -/
def F41 (a0 : Value) (h : Heap) (K : Value → Heap → Prop) : Prop :=
  RunV Try.prog (Instr.box 72 a0) h fun t1 h_1 =>
  Quiet h_1 fun C =>
  QV Try.prog C (Instr.fieldAt 72 t1 0) fun t3 =>
  QV Try.prog C (Instr.loadAt 24 t3) fun t4 =>
  QV Try.prog C (binS BinOp.neq 24 (Operand.tmp 4) (Operand.const (Value.pointer none)) t4 (Value.pointer none)) fun t5 =>
  GuardP t5 true (
  QV Try.prog C (Instr.fieldAt 72 t1 1) fun t7 =>
  QV Try.prog C (Instr.loadAt 3 t7) fun t8 =>
  QV Try.prog C (binS BinOp.geq 3 (Operand.tmp 8) (Operand.const (Value.int IntKind.i64 0)) t8 (Value.int IntKind.i64 0)) fun t9 =>
  GuardP t9 true (
  QV Try.prog C (Instr.fieldAt 72 t1 2) fun t12 =>
  QV Try.prog C (Instr.loadAt 3 t12) fun t13 =>
  QV Try.prog C (binS BinOp.geq 3 (Operand.tmp 13) (Operand.const (Value.int IntKind.i64 1)) t13 (Value.int IntKind.i64 1)) fun t14 =>
  GuardP t14 true (
  QV Try.prog C (Instr.fieldAt 72 t1 1) fun t17 =>
  QV Try.prog C (Instr.loadAt 3 t17) fun t18 =>
  QV Try.prog C (Instr.fieldAt 72 t1 0) fun t19 =>
  QV Try.prog C (Instr.loadAt 24 t19) fun t20 =>
  QCallF Try.prog C 29 #[t20] fun t21 =>
  QV Try.prog C (binS BinOp.lss 3 (Operand.tmp 18) (Operand.tmp 21) t18 t21) fun t22 =>
  GuardP t22 true (
  QV Try.prog C (Instr.fieldAt 72 t1 2) fun t25 =>
  QV Try.prog C (Instr.loadAt 3 t25) fun t26 =>
  QV Try.prog C (Instr.fieldAt 72 t1 0) fun t27 =>
  QV Try.prog C (Instr.loadAt 24 t27) fun t28 =>
  QCallF Try.prog C 29 #[t28] fun t29 =>
  QV Try.prog C (Instr.fieldAt 72 t1 1) fun t30 =>
  QV Try.prog C (Instr.loadAt 3 t30) fun t31 =>
  QV Try.prog C (binS BinOp.sub 3 (Operand.tmp 29) (Operand.tmp 31) t29 t31) fun t32 =>
  QV Try.prog C (binS BinOp.leq 3 (Operand.tmp 26) (Operand.tmp 32) t26 t32) fun t33 =>
  QEnd C fun h_3 =>
  K t33 h_3) (
  QEnd C fun h_4 =>
  K (Value.bool false) h_4)) (
  QEnd C fun h_5 =>
  K (Value.bool false) h_5)) (
  QEnd C fun h_6 =>
  K (Value.bool false) h_6)) (
  QEnd C fun h_7 =>
  K (Value.bool false) h_7)
def ann41 : Ann := { loops := [], held := [] }
theorem F41_eq (a0 : Value) (h : Heap) (K : Value → Heap → Prop) : F41 a0 h K = W Try.prog ann41 (bodyOf Try.f41) (bodyQ Try.prog Try.f41.results.toList K) (argsE [a0]) h := by kernel_rfl
theorem F41_wf : (wf Try.f41.ntmps ann41 (bodyOf Try.f41) && Nat.ble Try.f41.ntmps ghost && !memN (writes (bodyOf Try.f41)) ghost) = true := by kernel_rfl
theorem F41_b : Try.f41.body.isSome = true := by kernel_rfl
theorem F41_n : (Try.f41.name == "runtime.NumGoroutine") = false := by kernel_rfl
theorem R41 (args : Array Value) (w : World) : (callFunc 41 args).run Try.prog w = .ok (.enter 41 args) w := callFunc_run Try.func41 F41_b F41_n args w
theorem S41 {a0 : Value} {h : Heap} {K : Value → Heap → Prop} (H : F41 a0 h K) : CallF Try.prog 41 #[a0] h K :=
  callF_of_W mo Try.func41 F41_b F41_n F41_wf (args := [a0]) rfl (F41_eq a0 h K ▸ H)

/- replevin/log.Scan -/
def F42 (a0 : Value) (h : Heap) (K : Value → Heap → Prop) : Prop :=
  Loop2 (Value.slice none 0 0) (Value.int IntKind.i64 0) h fun Ljs Lx4 Lx5 h_1 Ln =>
  RunV Try.prog (Instr.sliceAt 9 a0 (some Lx5) none none) h_1 fun t11 h_2 =>
  CallF Try.prog 52 #[t11] h_2 fun t12 h_3 =>
  RunV Try.prog (Instr.extract t12 0) h_3 fun t13 h_4 =>
  RunV Try.prog (Instr.extract t12 1) h_4 fun t14 h_5 =>
  RunV Try.prog (Op.unary UnOp.not t14) h_5 fun t16 h_6 =>
  CondP t16 (
  K (.tuple #[Lx4, Lx5]) h_6) (
  RunV Try.prog (Instr.buildSlice 32 1 #[(0, t13)]) h_6 fun t21 h_7 =>
  OpN Try.prog (Go.builtin Builtin.append #[32, 32] 32 #[false, false] #[Lx4, t21]) h_7 fun t22 h_8 =>
  OpN Try.prog (Go.builtin Builtin.len #[9] 3 #[false] #[t13]) h_8 fun t25 h_9 =>
  RunV Try.prog (binS BinOp.add 3 (Operand.tmp 25) (Operand.const (Value.int IntKind.i64 8)) t25 (Value.int IntKind.i64 8)) h_9 fun t26 h_10 =>
  RunV Try.prog (binS BinOp.add 3 (Operand.tmp 23) (Operand.tmp 26) Lx5 t26) h_10 fun t27 h_11 =>
  Ln t22 t27 h_11)
def ann42 : Ann := { loops := [(3, [4, 5])], held := [] }
theorem F42_eq (a0 : Value) (h : Heap) (K : Value → Heap → Prop) : F42 a0 h K = W Try.prog ann42 (bodyOf Try.f42) (bodyQ Try.prog Try.f42.results.toList K) (argsE [a0]) h := by kernel_rfl
theorem F42_wf : (wf Try.f42.ntmps ann42 (bodyOf Try.f42) && Nat.ble Try.f42.ntmps ghost && !memN (writes (bodyOf Try.f42)) ghost) = true := by kernel_rfl
theorem F42_b : Try.f42.body.isSome = true := by kernel_rfl
theorem F42_n : (Try.f42.name == "runtime.NumGoroutine") = false := by kernel_rfl
theorem R42 (args : Array Value) (w : World) : (callFunc 42 args).run Try.prog w = .ok (.enter 42 args) w := callFunc_run Try.func42 F42_b F42_n args w
theorem S42 {a0 : Value} {h : Heap} {K : Value → Heap → Prop} (H : F42 a0 h K) : CallF Try.prog 42 #[a0] h K :=
  callF_of_W mo Try.func42 F42_b F42_n F42_wf (args := [a0]) rfl (F42_eq a0 h K ▸ H)

/- replevin/replevinref14.is -/
def F43 (a0 a1 a2 : Value) (h : Heap) (K : Value → Heap → Prop) : Prop :=
  RunV Try.prog (binS BinOp.geq 3 (Operand.tmp 7) (Operand.const (Value.int IntKind.i64 0)) a1 (Value.int IntKind.i64 0)) h fun t8 h_2 =>
  GuardP t8 true (
  RunV Try.prog (binS BinOp.geq 3 (Operand.tmp 10) (Operand.const (Value.int IntKind.i64 1)) a2 (Value.int IntKind.i64 1)) h_2 fun t11 h_3 =>
  GuardP t11 true (
  NilC a0 fun t16 =>
  RunV Try.prog (Instr.fieldAt 67 t16 0) h_3 fun t17 h_4 =>
  RunV Try.prog (Instr.loadAt 32 t17) h_4 fun t18 h_5 =>
  OpN Try.prog (Go.builtin Builtin.len #[32] 3 #[false] #[t18]) h_5 fun t19 h_6 =>
  RunV Try.prog (binS BinOp.lss 3 (Operand.tmp 14) (Operand.tmp 19) a1 t19) h_6 fun t20 h_7 =>
  GuardP t20 true (
  NilC a0 fun t25 =>
  RunV Try.prog (Instr.fieldAt 67 t25 0) h_7 fun t26 h_8 =>
  RunV Try.prog (Instr.loadAt 32 t26) h_8 fun t27 h_9 =>
  OpN Try.prog (Go.builtin Builtin.len #[32] 3 #[false] #[t27]) h_9 fun t28 h_10 =>
  RunV Try.prog (binS BinOp.sub 3 (Operand.tmp 28) (Operand.tmp 29) t28 a1) h_10 fun t30 h_11 =>
  RunV Try.prog (binS BinOp.leq 3 (Operand.tmp 23) (Operand.tmp 30) a2 t30) h_11 fun t31 h_12 =>
  K t31 h_12) (
  K (Value.bool false) h_7)) (
  K (Value.bool false) h_3)) (
  K (Value.bool false) h_2)
def ann43 : Ann := { loops := [], held := [] }
theorem F43_eq (a0 a1 a2 : Value) (h : Heap) (K : Value → Heap → Prop) : F43 a0 a1 a2 h K = W Try.prog ann43 (bodyOf Try.f43) (bodyQ Try.prog Try.f43.results.toList K) (argsE [a0, a1, a2]) h := by kernel_rfl
theorem F43_wf : (wf Try.f43.ntmps ann43 (bodyOf Try.f43) && Nat.ble Try.f43.ntmps ghost && !memN (writes (bodyOf Try.f43)) ghost) = true := by kernel_rfl
theorem F43_b : Try.f43.body.isSome = true := by kernel_rfl
theorem F43_n : (Try.f43.name == "runtime.NumGoroutine") = false := by kernel_rfl
theorem R43 (args : Array Value) (w : World) : (callFunc 43 args).run Try.prog w = .ok (.enter 43 args) w := callFunc_run Try.func43 F43_b F43_n args w
theorem S43 {a0 a1 a2 : Value} {h : Heap} {K : Value → Heap → Prop} (H : F43 a0 a1 a2 h K) : CallF Try.prog 43 #[a0, a1, a2] h K :=
  callF_of_W mo Try.func43 F43_b F43_n F43_wf (args := [a0, a1, a2]) rfl (F43_eq a0 a1 a2 h K ▸ H)

/- replevin/replevinref14.scan -/
def F44 (a0 a1 a2 : Value) (h : Heap) (K : Value → Heap → Prop) : Prop :=
  Loop2 (Value.string { data := #[] }) (Value.int IntKind.i64 0) h fun Ljs Lx8 Lx9 h_1 Ln =>
  RunV Try.prog (binS BinOp.lss 3 (Operand.tmp 10) (Operand.tmp 11) Lx9 a2) h_1 fun t12 h_2 =>
  CondP t12 (
  NilC a0 fun t17 =>
  RunV Try.prog (Instr.fieldAt 67 t17 0) h_2 fun t18 h_3 =>
  RunV Try.prog (Instr.loadAt 32 t18) h_3 fun t19 h_4 =>
  RunV Try.prog (binS BinOp.add 3 (Operand.tmp 20) (Operand.tmp 21) a1 Lx9) h_4 fun t22 h_5 =>
  RunV Try.prog (Instr.indexAt 32 t19 t22) h_5 fun t23 h_6 =>
  RunV Try.prog (Instr.loadAt 9 t23) h_6 fun t24 h_7 =>
  RunV Try.prog (binS BinOp.add 9 (Operand.tmp 15) (Operand.tmp 24) Lx8 t24) h_7 fun t25 h_8 =>
  RunV Try.prog (binS BinOp.add 3 (Operand.tmp 13) (Operand.const (Value.int IntKind.i64 1)) Lx9 (Value.int IntKind.i64 1)) h_8 fun t14 h_9 =>
  Ln t25 t14 h_9) (
  CallF Try.prog 22 #[Lx8] h_2 fun t27 h_10 =>
  RunV Try.prog (Instr.extract t27 0) h_10 fun t28 h_11 =>
  RunV Try.prog (Instr.extract t27 1) h_11 fun t29 h_12 =>
  K (.tuple #[t28, t29]) h_12)
def ann44 : Ann := { loops := [(3, [8, 9])], held := [] }
theorem F44_eq (a0 a1 a2 : Value) (h : Heap) (K : Value → Heap → Prop) : F44 a0 a1 a2 h K = W Try.prog ann44 (bodyOf Try.f44) (bodyQ Try.prog Try.f44.results.toList K) (argsE [a0, a1, a2]) h := by kernel_rfl
theorem F44_wf : (wf Try.f44.ntmps ann44 (bodyOf Try.f44) && Nat.ble Try.f44.ntmps ghost && !memN (writes (bodyOf Try.f44)) ghost) = true := by kernel_rfl
theorem F44_b : Try.f44.body.isSome = true := by kernel_rfl
theorem F44_n : (Try.f44.name == "runtime.NumGoroutine") = false := by kernel_rfl
theorem R44 (args : Array Value) (w : World) : (callFunc 44 args).run Try.prog w = .ok (.enter 44 args) w := callFunc_run Try.func44 F44_b F44_n args w
theorem S44 {a0 a1 a2 : Value} {h : Heap} {K : Value → Heap → Prop} (H : F44 a0 a1 a2 h K) : CallF Try.prog 44 #[a0, a1, a2] h K :=
  callF_of_W mo Try.func44 F44_b F44_n F44_wf (args := [a0, a1, a2]) rfl (F44_eq a0 a1 a2 h K ▸ H)

/- replevin/replevinref14.zeros -/
def F45 (a0 : Value) (h : Heap) (K : Value → Heap → Prop) : Prop :=
  Loop2 (Value.string { data := #[] }) (Value.int IntKind.i64 0) h fun Ljs Lx3 Lx4 h_1 Ln =>
  RunV Try.prog (binS BinOp.lss 3 (Operand.tmp 5) (Operand.tmp 6) Lx4 a0) h_1 fun t7 h_2 =>
  CondP t7 (
  RunV Try.prog (binS BinOp.add 9 (Operand.tmp 10) (Operand.const (Value.string { data := #[0] })) Lx3 (Value.string { data := #[0] })) h_2 fun t11 h_3 =>
  RunV Try.prog (binS BinOp.add 3 (Operand.tmp 8) (Operand.const (Value.int IntKind.i64 1)) Lx4 (Value.int IntKind.i64 1)) h_3 fun t9 h_4 =>
  Ln t11 t9 h_4) (
  K Lx3 h_2)
def ann45 : Ann := { loops := [(3, [3, 4])], held := [] }
theorem F45_eq (a0 : Value) (h : Heap) (K : Value → Heap → Prop) : F45 a0 h K = W Try.prog ann45 (bodyOf Try.f45) (bodyQ Try.prog Try.f45.results.toList K) (argsE [a0]) h := by kernel_rfl
theorem F45_wf : (wf Try.f45.ntmps ann45 (bodyOf Try.f45) && Nat.ble Try.f45.ntmps ghost && !memN (writes (bodyOf Try.f45)) ghost) = true := by kernel_rfl
theorem F45_b : Try.f45.body.isSome = true := by kernel_rfl
theorem F45_n : (Try.f45.name == "runtime.NumGoroutine") = false := by kernel_rfl
theorem R45 (args : Array Value) (w : World) : (callFunc 45 args).run Try.prog w = .ok (.enter 45 args) w := callFunc_run Try.func45 F45_b F45_n args w
theorem S45 {a0 : Value} {h : Heap} {K : Value → Heap → Prop} (H : F45 a0 h K) : CallF Try.prog 45 #[a0] h K :=
  callF_of_W mo Try.func45 F45_b F45_n F45_wf (args := [a0]) rfl (F45_eq a0 h K ▸ H)

/- replevin/log.laid -/
def F46 (a0 a1 : Value) (h : Heap) (K : Value → Heap → Prop) : Prop :=
  RunV Try.prog (Instr.makeSlice 54 a1 a1) h fun t8 h_1 =>
  OpN Try.prog (Go.builtin Builtin.len #[54] 3 #[false] #[t8]) h_1 fun t10 h_2 =>
  Loop1 (Value.int IntKind.i64 0) h_2 fun Ljs Lx11 h_3 Ln =>
  RunV Try.prog (binS BinOp.lss 3 (Operand.tmp 11) (Operand.tmp 10) Lx11 t10) h_3 fun t12 h_4 =>
  CondP t12 (
  RunV Try.prog (binS BinOp.sub 3 (Operand.tmp 17) (Operand.const (Value.int IntKind.i64 1)) a1 (Value.int IntKind.i64 1)) h_4 fun t18 h_5 =>
  RunV Try.prog (binS BinOp.sub 3 (Operand.tmp 18) (Operand.tmp 19) t18 Lx11) h_5 fun t20 h_6 =>
  RunV Try.prog (binS BinOp.mul 3 (Operand.const (Value.int IntKind.i64 8)) (Operand.tmp 20) (Value.int IntKind.i64 8) t20) h_6 fun t21 h_7 =>
  RunV Try.prog (binS BinOp.shr 93 (Operand.tmp 16) (Operand.tmp 21) a0 t21) h_7 fun t22 h_8 =>
  RunV Try.prog (convert 93 5 t22) h_8 fun t23 h_9 =>
  RunV Try.prog (Instr.indexAt 54 t8 Lx11) h_9 fun t24 h_10 =>
  RunU Try.prog (Instr.storeAt 5 t24 t23) h_10 fun h_11 =>
  RunV Try.prog (binS BinOp.add 3 (Operand.tmp 11) (Operand.const (Value.int IntKind.i64 1)) Lx11 (Value.int IntKind.i64 1)) h_11 fun t25 h_12 =>
  Ln t25 h_12) (
  RunV Try.prog (convert 54 9 t8) h_4 fun t27 h_13 =>
  K t27 h_13)
def ann46 : Ann := { loops := [(3, [11])], held := [] }
theorem F46_eq (a0 a1 : Value) (h : Heap) (K : Value → Heap → Prop) : F46 a0 a1 h K = W Try.prog ann46 (bodyOf Try.f46) (bodyQ Try.prog Try.f46.results.toList K) (argsE [a0, a1]) h := by kernel_rfl
theorem F46_wf : (wf Try.f46.ntmps ann46 (bodyOf Try.f46) && Nat.ble Try.f46.ntmps ghost && !memN (writes (bodyOf Try.f46)) ghost) = true := by kernel_rfl
theorem F46_b : Try.f46.body.isSome = true := by kernel_rfl
theorem F46_n : (Try.f46.name == "runtime.NumGoroutine") = false := by kernel_rfl
theorem R46 (args : Array Value) (w : World) : (callFunc 46 args).run Try.prog w = .ok (.enter 46 args) w := callFunc_run Try.func46 F46_b F46_n args w
theorem S46 {a0 a1 : Value} {h : Heap} {K : Value → Heap → Prop} (H : F46 a0 a1 h K) : CallF Try.prog 46 #[a0, a1] h K :=
  callF_of_W mo Try.func46 F46_b F46_n F46_wf (args := [a0, a1]) rfl (F46_eq a0 a1 h K ▸ H)

/- replevin/log.Sum -/
def F47 (a0 : Value) (h : Heap) (K : Value → Heap → Prop) : Prop :=
  RunV Try.prog (Instr.alloc 93 true (.tuple #[])) h fun t3 h_1 =>
  RunU Try.prog (Instr.storeAt 93 t3 (Value.int IntKind.u32 4294967295)) h_1 fun h_2 =>
  RunV Try.prog (convert 9 54 a0) h_2 fun t9 h_3 =>
  OpN Try.prog (Go.builtin Builtin.len #[54] 3 #[false] #[t9]) h_3 fun t10 h_4 =>
  Loop1 (Value.int IntKind.i64 0) h_4 fun Ljs Lx11 h_5 Ln =>
  RunV Try.prog (binS BinOp.lss 3 (Operand.tmp 11) (Operand.tmp 10) Lx11 t10) h_5 fun t12 h_6 =>
  CondP t12 (
  RunV Try.prog (Instr.indexAt 54 t9 Lx11) h_6 fun t13 h_7 =>
  RunV Try.prog (Instr.loadAt 5 t13) h_7 fun t14 h_8 =>
  CallV Try.prog (Value.func (Fn.func 53) #[] #[t3]) #[t14] h_8 fun t17 h_9 =>
  RunV Try.prog (binS BinOp.add 3 (Operand.tmp 11) (Operand.const (Value.int IntKind.i64 1)) Lx11 (Value.int IntKind.i64 1)) h_9 fun t18 h_10 =>
  Ln t18 h_10) (
  RunV Try.prog (Instr.loadAt 93 t3) h_6 fun t19 h_11 =>
  RunV Try.prog (Op.unary UnOp.xor t19) h_11 fun t20 h_12 =>
  K t20 h_12)
def ann47 : Ann := { loops := [(4, [11])], held := [] }
theorem F47_eq (a0 : Value) (h : Heap) (K : Value → Heap → Prop) : F47 a0 h K = W Try.prog ann47 (bodyOf Try.f47) (bodyQ Try.prog Try.f47.results.toList K) (argsE [a0]) h := by kernel_rfl
theorem F47_wf : (wf Try.f47.ntmps ann47 (bodyOf Try.f47) && Nat.ble Try.f47.ntmps ghost && !memN (writes (bodyOf Try.f47)) ghost) = true := by kernel_rfl
theorem F47_b : Try.f47.body.isSome = true := by kernel_rfl
theorem F47_n : (Try.f47.name == "runtime.NumGoroutine") = false := by kernel_rfl
theorem R47 (args : Array Value) (w : World) : (callFunc 47 args).run Try.prog w = .ok (.enter 47 args) w := callFunc_run Try.func47 F47_b F47_n args w
theorem S47 {a0 : Value} {h : Heap} {K : Value → Heap → Prop} (H : F47 a0 h K) : CallF Try.prog 47 #[a0] h K :=
  callF_of_W mo Try.func47 F47_b F47_n F47_wf (args := [a0]) rfl (F47_eq a0 h K ▸ H)

/- replevin/journal.blocks -/
def F48 (a0 a1 : Value) (h : Heap) (K : Value → Heap → Prop) : Prop :=
  RunV Try.prog (Instr.box 3 a0) h fun t2 h_1 =>
  RunV Try.prog (Instr.box 3 a1) h_1 fun t3 h_2 =>
  K (Value.func (Fn.func 54) #[] #[t2, t3]) h_2
def ann48 : Ann := { loops := [], held := [] }
theorem F48_eq (a0 a1 : Value) (h : Heap) (K : Value → Heap → Prop) : F48 a0 a1 h K = W Try.prog ann48 (bodyOf Try.f48) (bodyQ Try.prog Try.f48.results.toList K) (argsE [a0, a1]) h := by kernel_rfl
theorem F48_wf : (wf Try.f48.ntmps ann48 (bodyOf Try.f48) && Nat.ble Try.f48.ntmps ghost && !memN (writes (bodyOf Try.f48)) ghost) = true := by kernel_rfl
theorem F48_b : Try.f48.body.isSome = true := by kernel_rfl
theorem F48_n : (Try.f48.name == "runtime.NumGoroutine") = false := by kernel_rfl
theorem R48 (args : Array Value) (w : World) : (callFunc 48 args).run Try.prog w = .ok (.enter 48 args) w := callFunc_run Try.func48 F48_b F48_n args w
theorem S48 {a0 a1 : Value} {h : Heap} {K : Value → Heap → Prop} (H : F48 a0 a1 h K) : CallF Try.prog 48 #[a0, a1] h K :=
  callF_of_W mo Try.func48 F48_b F48_n F48_wf (args := [a0, a1]) rfl (F48_eq a0 a1 h K ▸ H)

/- strings.Repeat -/
def F49 (a0 a1 : Value) (h : Heap) (K : Value → Heap → Prop) : Prop :=
  RunV Try.prog (binS BinOp.eql 3 (Operand.tmp 11) (Operand.const (Value.int IntKind.i64 0)) a1 (Value.int IntKind.i64 0)) h fun t13 h_1 =>
  CondP t13 (
  K (Value.string { data := #[] }) h_1) (
  RunV Try.prog (binS BinOp.eql 3 (Operand.tmp 11) (Operand.const (Value.int IntKind.i64 1)) a1 (Value.int IntKind.i64 1)) h_1 fun t15 h_2 =>
  CondP t15 (
  K a0 h_2) (
  Join0 (fun  h_3 =>
  OpN Try.prog (Go.builtin Builtin.len #[9] 3 #[false] #[a0]) h_3 fun t22 h_4 =>
  RunV Try.prog (convert 3 98 t22) h_4 fun t23 h_5 =>
  RunV Try.prog (convert 3 98 a1) h_5 fun t25 h_6 =>
  CallF Try.prog 55 #[t23, t25] h_6 fun t26 h_7 =>
  RunV Try.prog (Instr.extract t26 0) h_7 fun t27 h_8 =>
  RunV Try.prog (Instr.extract t26 1) h_8 fun t28 h_9 =>
  Join0 (fun  h_10 =>
  RunV Try.prog (convert 98 3 t28) h_10 fun t37 h_11 =>
  OpN Try.prog (Go.builtin Builtin.len #[9] 3 #[false] #[a0]) h_11 fun t39 h_12 =>
  RunV Try.prog (binS BinOp.eql 3 (Operand.tmp 39) (Operand.const (Value.int IntKind.i64 0)) t39 (Value.int IntKind.i64 0)) h_12 fun t40 h_13 =>
  CondP t40 (
  K (Value.string { data := #[] }) h_13) (
  Join0 (fun  h_14 =>
  Join1 (fun J_3x8 h_15 =>
  RunV Try.prog (Instr.alloc 83 true (.tuple #[])) h_15 fun t9 h_16 =>
  CallF Try.prog 57 #[t9, t37] h_16 fun t108 h_17 =>
  CallF Try.prog 58 #[t9, a0] h_17 fun t110 h_18 =>
  Loop0 h_18 fun Ljs h_19 Ln =>
  CallF Try.prog 59 #[t9] h_19 fun t111 h_20 =>
  RunV Try.prog (binS BinOp.lss 3 (Operand.tmp 111) (Operand.tmp 112) t111 t37) h_20 fun t113 h_21 =>
  CondP t113 (
  CallF Try.prog 59 #[t9] h_21 fun t115 h_22 =>
  RunV Try.prog (binS BinOp.sub 3 (Operand.tmp 114) (Operand.tmp 115) t37 t115) h_22 fun t116 h_23 =>
  CallF Try.prog 59 #[t9] h_23 fun t117 h_24 =>
  OpN Try.prog (Go.builtin Builtin.min #[3, 3, 3] 3 #[false, false, false] #[t116, t117, J_3x8]) h_24 fun t119 h_25 =>
  CallF Try.prog 39 #[t9] h_25 fun t120 h_26 =>
  RunV Try.prog (Instr.sliceAt 9 t120 none (some t119) none) h_26 fun t122 h_27 =>
  CallF Try.prog 58 #[t9, t122] h_27 fun t123 h_28 =>
  Ln h_28) (
  CallF Try.prog 39 #[t9] h_21 fun t124 h_29 =>
  K t124 h_29)) fun J_3 =>
  RunV Try.prog (binS BinOp.gtr 3 (Operand.tmp 95) (Operand.const (Value.int IntKind.i64 8192)) t37 (Value.int IntKind.i64 8192)) h_14 fun t96 h_30 =>
  CondP t96 (
  OpN Try.prog (Go.builtin Builtin.len #[9] 3 #[false] #[a0]) h_30 fun t98 h_32 =>
  RunV Try.prog (binS BinOp.quo 3 (Operand.const (Value.int IntKind.i64 8192)) (Operand.tmp 98) (Value.int IntKind.i64 8192) t98) h_32 fun t99 h_33 =>
  OpN Try.prog (Go.builtin Builtin.len #[9] 3 #[false] #[a0]) h_33 fun t101 h_34 =>
  RunV Try.prog (binS BinOp.mul 3 (Operand.tmp 99) (Operand.tmp 101) t99 t101) h_34 fun t102 h_35 =>
  RunV Try.prog (binS BinOp.eql 3 (Operand.tmp 103) (Operand.const (Value.int IntKind.i64 0)) t102 (Value.int IntKind.i64 0)) h_35 fun t104 h_36 =>
  CondP t104 (
  OpN Try.prog (Go.builtin Builtin.len #[9] 3 #[false] #[a0]) h_36 fun t106 h_38 =>
  J_3 t106 h_38) (
  J_3 t102 h_36)) (
  J_3 t37 h_30)) fun J_2 =>
  RunV Try.prog (Instr.index 9 a0 (Value.int IntKind.i64 0)) h_13 fun t42 h_39 =>
  Join1 (fun J_7x43 h_41 =>
  CondP J_7x43 (
  Join1 (fun J_9x49 h_43 =>
  CondP J_9x49 (
  RunV Try.prog (Instr.sliceAt 9 (Value.string { data := #[32, 32, 32, 32, 32, 32, 32, 32, 32, 32, 32, 32, 32, 32, 32, 32, 32, 32, 32, 32, 32, 32, 32, 32, 32, 32, 32, 32, 32, 32, 32, 32, 32, 32, 32, 32, 32, 32, 32, 32, 32, 32, 32, 32, 32, 32, 32, 32, 32, 32, 32, 32, 32, 32, 32, 32, 32, 32, 32, 32, 32, 32, 32, 32, 32, 32, 32, 32, 32, 32, 32, 32, 32, 32, 32, 32, 32, 32, 32, 32, 32, 32, 32, 32, 32, 32, 32, 32, 32, 32, 32, 32, 32, 32, 32, 32, 32, 32, 32, 32, 32, 32, 32, 32, 32, 32, 32, 32, 32, 32, 32, 32, 32, 32, 32, 32, 32, 32, 32, 32, 32, 32, 32, 32, 32, 32, 32, 32] }) none (some t37) none) h_43 fun t57 h_44 =>
  K t57 h_44) (
  Join1 (fun J_10x58 h_45 =>
  CondP J_10x58 (
  RunV Try.prog (Instr.sliceAt 9 (Value.string { data := #[45, 45, 45, 45, 45, 45, 45, 45, 45, 45, 45, 45, 45, 45, 45, 45, 45, 45, 45, 45, 45, 45, 45, 45, 45, 45, 45, 45, 45, 45, 45, 45, 45, 45, 45, 45, 45, 45, 45, 45, 45, 45, 45, 45, 45, 45, 45, 45, 45, 45, 45, 45, 45, 45, 45, 45, 45, 45, 45, 45, 45, 45, 45, 45, 45, 45, 45, 45, 45, 45, 45, 45, 45, 45, 45, 45, 45, 45, 45, 45, 45, 45, 45, 45, 45, 45, 45, 45, 45, 45, 45, 45, 45, 45, 45, 45, 45, 45, 45, 45, 45, 45, 45, 45, 45, 45, 45, 45, 45, 45, 45, 45, 45, 45, 45, 45, 45, 45, 45, 45, 45, 45, 45, 45, 45, 45, 45, 45] }) none (some t37) none) h_45 fun t66 h_46 =>
  K t66 h_46) (
  Join1 (fun J_11x67 h_47 =>
  CondP J_11x67 (
  RunV Try.prog (Instr.sliceAt 9 (Value.string { data := #[48, 48, 48, 48, 48, 48, 48, 48, 48, 48, 48, 48, 48, 48, 48, 48, 48, 48, 48, 48, 48, 48, 48, 48, 48, 48, 48, 48, 48, 48, 48, 48, 48, 48, 48, 48, 48, 48, 48, 48, 48, 48, 48, 48, 48, 48, 48, 48, 48, 48, 48, 48, 48, 48, 48, 48, 48, 48, 48, 48, 48, 48, 48, 48] }) none (some t37) none) h_47 fun t75 h_48 =>
  K t75 h_48) (
  Join1 (fun J_12x76 h_49 =>
  CondP J_12x76 (
  RunV Try.prog (Instr.sliceAt 9 (Value.string { data := #[61, 61, 61, 61, 61, 61, 61, 61, 61, 61, 61, 61, 61, 61, 61, 61, 61, 61, 61, 61, 61, 61, 61, 61, 61, 61, 61, 61, 61, 61, 61, 61, 61, 61, 61, 61, 61, 61, 61, 61, 61, 61, 61, 61, 61, 61, 61, 61, 61, 61, 61, 61, 61, 61, 61, 61, 61, 61, 61, 61, 61, 61, 61, 61, 61, 61, 61, 61, 61, 61, 61, 61, 61, 61, 61, 61, 61, 61, 61, 61, 61, 61, 61, 61, 61, 61, 61, 61, 61, 61, 61, 61, 61, 61, 61, 61, 61, 61, 61, 61, 61, 61, 61, 61, 61, 61, 61, 61, 61, 61, 61, 61, 61, 61, 61, 61, 61, 61, 61, 61, 61, 61, 61, 61, 61, 61, 61, 61] }) none (some t37) none) h_49 fun t84 h_50 =>
  K t84 h_50) (
  Join1 (fun J_13x85 h_51 =>
  CondP J_13x85 (
  RunV Try.prog (Instr.sliceAt 9 (Value.string { data := #[9, 9, 9, 9, 9, 9, 9, 9, 9, 9, 9, 9, 9, 9, 9, 9, 9, 9, 9, 9, 9, 9, 9, 9, 9, 9, 9, 9, 9, 9, 9, 9, 9, 9, 9, 9, 9, 9, 9, 9, 9, 9, 9, 9, 9, 9, 9, 9, 9, 9, 9, 9, 9, 9, 9, 9, 9, 9, 9, 9, 9, 9, 9, 9] }) none (some t37) none) h_51 fun t93 h_52 =>
  K t93 h_52) (
  J_2 h_51)) fun J_13 =>
  RunV Try.prog (binS BinOp.leq 3 (Operand.tmp 86) (Operand.const (Value.int IntKind.i64 64)) t37 (Value.int IntKind.i64 64)) h_49 fun t87 h_53 =>
  GuardP t87 true (
  CallF Try.prog 56 #[(Value.string { data := #[9, 9, 9, 9, 9, 9, 9, 9, 9, 9, 9, 9, 9, 9, 9, 9, 9, 9, 9, 9, 9, 9, 9, 9, 9, 9, 9, 9, 9, 9, 9, 9, 9, 9, 9, 9, 9, 9, 9, 9, 9, 9, 9, 9, 9, 9, 9, 9, 9, 9, 9, 9, 9, 9, 9, 9, 9, 9, 9, 9, 9, 9, 9, 9] }), a0] h_53 fun t90 h_54 =>
  J_13 t90 h_54) (
  J_13 (Value.bool false) h_53))) fun J_12 =>
  RunV Try.prog (binS BinOp.leq 3 (Operand.tmp 77) (Operand.const (Value.int IntKind.i64 128)) t37 (Value.int IntKind.i64 128)) h_47 fun t78 h_55 =>
  GuardP t78 true (
  CallF Try.prog 56 #[(Value.string { data := #[61, 61, 61, 61, 61, 61, 61, 61, 61, 61, 61, 61, 61, 61, 61, 61, 61, 61, 61, 61, 61, 61, 61, 61, 61, 61, 61, 61, 61, 61, 61, 61, 61, 61, 61, 61, 61, 61, 61, 61, 61, 61, 61, 61, 61, 61, 61, 61, 61, 61, 61, 61, 61, 61, 61, 61, 61, 61, 61, 61, 61, 61, 61, 61, 61, 61, 61, 61, 61, 61, 61, 61, 61, 61, 61, 61, 61, 61, 61, 61, 61, 61, 61, 61, 61, 61, 61, 61, 61, 61, 61, 61, 61, 61, 61, 61, 61, 61, 61, 61, 61, 61, 61, 61, 61, 61, 61, 61, 61, 61, 61, 61, 61, 61, 61, 61, 61, 61, 61, 61, 61, 61, 61, 61, 61, 61, 61, 61] }), a0] h_55 fun t81 h_56 =>
  J_12 t81 h_56) (
  J_12 (Value.bool false) h_55))) fun J_11 =>
  RunV Try.prog (binS BinOp.leq 3 (Operand.tmp 68) (Operand.const (Value.int IntKind.i64 64)) t37 (Value.int IntKind.i64 64)) h_45 fun t69 h_57 =>
  GuardP t69 true (
  CallF Try.prog 56 #[(Value.string { data := #[48, 48, 48, 48, 48, 48, 48, 48, 48, 48, 48, 48, 48, 48, 48, 48, 48, 48, 48, 48, 48, 48, 48, 48, 48, 48, 48, 48, 48, 48, 48, 48, 48, 48, 48, 48, 48, 48, 48, 48, 48, 48, 48, 48, 48, 48, 48, 48, 48, 48, 48, 48, 48, 48, 48, 48, 48, 48, 48, 48, 48, 48, 48, 48] }), a0] h_57 fun t72 h_58 =>
  J_11 t72 h_58) (
  J_11 (Value.bool false) h_57))) fun J_10 =>
  RunV Try.prog (binS BinOp.leq 3 (Operand.tmp 59) (Operand.const (Value.int IntKind.i64 128)) t37 (Value.int IntKind.i64 128)) h_43 fun t60 h_59 =>
  GuardP t60 true (
  CallF Try.prog 56 #[(Value.string { data := #[45, 45, 45, 45, 45, 45, 45, 45, 45, 45, 45, 45, 45, 45, 45, 45, 45, 45, 45, 45, 45, 45, 45, 45, 45, 45, 45, 45, 45, 45, 45, 45, 45, 45, 45, 45, 45, 45, 45, 45, 45, 45, 45, 45, 45, 45, 45, 45, 45, 45, 45, 45, 45, 45, 45, 45, 45, 45, 45, 45, 45, 45, 45, 45, 45, 45, 45, 45, 45, 45, 45, 45, 45, 45, 45, 45, 45, 45, 45, 45, 45, 45, 45, 45, 45, 45, 45, 45, 45, 45, 45, 45, 45, 45, 45, 45, 45, 45, 45, 45, 45, 45, 45, 45, 45, 45, 45, 45, 45, 45, 45, 45, 45, 45, 45, 45, 45, 45, 45, 45, 45, 45, 45, 45, 45, 45, 45, 45] }), a0] h_59 fun t63 h_60 =>
  J_10 t63 h_60) (
  J_10 (Value.bool false) h_59))) fun J_9 =>
  RunV Try.prog (binS BinOp.leq 3 (Operand.tmp 50) (Operand.const (Value.int IntKind.i64 128)) t37 (Value.int IntKind.i64 128)) h_41 fun t51 h_61 =>
  GuardP t51 true (
  CallF Try.prog 56 #[(Value.string { data := #[32, 32, 32, 32, 32, 32, 32, 32, 32, 32, 32, 32, 32, 32, 32, 32, 32, 32, 32, 32, 32, 32, 32, 32, 32, 32, 32, 32, 32, 32, 32, 32, 32, 32, 32, 32, 32, 32, 32, 32, 32, 32, 32, 32, 32, 32, 32, 32, 32, 32, 32, 32, 32, 32, 32, 32, 32, 32, 32, 32, 32, 32, 32, 32, 32, 32, 32, 32, 32, 32, 32, 32, 32, 32, 32, 32, 32, 32, 32, 32, 32, 32, 32, 32, 32, 32, 32, 32, 32, 32, 32, 32, 32, 32, 32, 32, 32, 32, 32, 32, 32, 32, 32, 32, 32, 32, 32, 32, 32, 32, 32, 32, 32, 32, 32, 32, 32, 32, 32, 32, 32, 32, 32, 32, 32, 32, 32, 32] }), a0] h_61 fun t54 h_62 =>
  J_9 t54 h_62) (
  J_9 (Value.bool false) h_61)) (
  J_2 h_41)) fun J_7 =>
  RunV Try.prog (binS BinOp.eql 5 (Operand.tmp 42) (Operand.const (Value.int IntKind.u8 32)) t42 (Value.int IntKind.u8 32)) h_39 fun t44 h_63 =>
  CondP t44 (
  J_7 t44 h_63) (
  RunV Try.prog (binS BinOp.eql 5 (Operand.tmp 42) (Operand.const (Value.int IntKind.u8 45)) t42 (Value.int IntKind.u8 45)) h_63 fun t45 h_65 =>
  CondP t45 (
  J_7 t45 h_65) (
  RunV Try.prog (binS BinOp.eql 5 (Operand.tmp 42) (Operand.const (Value.int IntKind.u8 48)) t42 (Value.int IntKind.u8 48)) h_65 fun t46 h_67 =>
  CondP t46 (
  J_7 t46 h_67) (
  RunV Try.prog (binS BinOp.eql 5 (Operand.tmp 42) (Operand.const (Value.int IntKind.u8 61)) t42 (Value.int IntKind.u8 61)) h_67 fun t47 h_69 =>
  CondP t47 (
  J_7 t47 h_69) (
  RunV Try.prog (binS BinOp.eql 5 (Operand.tmp 42) (Operand.const (Value.int IntKind.u8 9)) t42 (Value.int IntKind.u8 9)) h_69 fun t48 h_71 =>
  J_7 t48 h_71)))))) fun J_1 =>
  Join1 (fun J_18x34 h_72 =>
  CondP J_18x34 (
  RunV Try.prog (Instr.makeInterface 9 (Value.string { data := #[115, 116, 114, 105, 110, 103, 115, 58, 32, 82, 101, 112, 101, 97, 116, 32, 111, 117, 116, 112, 117, 116, 32, 108, 101, 110, 103, 116, 104, 32, 111, 118, 101, 114, 102, 108, 111, 119] })) h_72 fun t35 h_74 =>
  False) (
  J_1 h_72)) fun J_18 =>
  RunV Try.prog (binS BinOp.gtr 98 (Operand.tmp 29) (Operand.const (Value.int IntKind.u64 0)) t27 (Value.int IntKind.u64 0)) h_9 fun t30 h_76 =>
  GuardP t30 false (
  RunV Try.prog (binS BinOp.gtr 98 (Operand.tmp 32) (Operand.const (Value.int IntKind.u64 9223372036854775807)) t28 (Value.int IntKind.u64 9223372036854775807)) h_76 fun t33 h_77 =>
  J_18 t33 h_77) (
  J_18 (Value.bool true) h_76)) fun J =>
  RunV Try.prog (binS BinOp.lss 3 (Operand.tmp 17) (Operand.const (Value.int IntKind.i64 0)) a1 (Value.int IntKind.i64 0)) h_2 fun t18 h_78 =>
  CondP t18 (
  RunV Try.prog (Instr.makeInterface 9 (Value.string { data := #[115, 116, 114, 105, 110, 103, 115, 58, 32, 110, 101, 103, 97, 116, 105, 118, 101, 32, 82, 101, 112, 101, 97, 116, 32, 99, 111, 117, 110, 116] })) h_78 fun t19 h_80 =>
  False) (
  J h_78)))
def ann49 : Ann := { loops := [(38, [])], held := [] }
theorem F49_eq (a0 a1 : Value) (h : Heap) (K : Value → Heap → Prop) : F49 a0 a1 h K = W Try.prog ann49 (bodyOf Try.f49) (bodyQ Try.prog Try.f49.results.toList K) (argsE [a0, a1]) h := by kernel_rfl
theorem F49_wf : (wf Try.f49.ntmps ann49 (bodyOf Try.f49) && Nat.ble Try.f49.ntmps ghost && !memN (writes (bodyOf Try.f49)) ghost) = true := by kernel_rfl
theorem F49_b : Try.f49.body.isSome = true := by kernel_rfl
theorem F49_n : (Try.f49.name == "runtime.NumGoroutine") = false := by kernel_rfl
theorem R49 (args : Array Value) (w : World) : (callFunc 49 args).run Try.prog w = .ok (.enter 49 args) w := callFunc_run Try.func49 F49_b F49_n args w
theorem S49 {a0 a1 : Value} {h : Heap} {K : Value → Heap → Prop} (H : F49 a0 a1 h K) : CallF Try.prog 49 #[a0, a1] h K :=
  callF_of_W mo Try.func49 F49_b F49_n F49_wf (args := [a0, a1]) rfl (F49_eq a0 a1 h K ▸ H)

/- replevin/replevinref13.Sum -/
def F50 (a0 : Value) (h : Heap) (K : Value → Heap → Prop) : Prop :=
  Loop2 (Value.int IntKind.u32 4294967295) (Value.int IntKind.i64 0) h fun Ljs Lx3 Lx4 h_1 Ln =>
  OpN Try.prog (Go.builtin Builtin.len #[9] 3 #[false] #[a0]) h_1 fun t9 h_2 =>
  RunV Try.prog (binS BinOp.lss 3 (Operand.tmp 7) (Operand.tmp 9) Lx4 t9) h_2 fun t10 h_3 =>
  CondP t10 (
  RunV Try.prog (Instr.index 9 a0 Lx4) h_3 fun t16 h_4 =>
  RunV Try.prog (convert 5 93 t16) h_4 fun t17 h_5 =>
  RunV Try.prog (binS BinOp.xor 93 (Operand.tmp 13) (Operand.tmp 17) Lx3 t17) h_5 fun t18 h_6 =>
  Loop2 t18 (Value.int IntKind.i64 0) h_6 fun L_1js L_1x3 L_1x5 h_7 L_1n =>
  RunV Try.prog (binS BinOp.lss 3 (Operand.tmp 19) (Operand.const (Value.int IntKind.i64 8)) L_1x5 (Value.int IntKind.i64 8)) h_7 fun t20 h_8 =>
  CondP t20 (
  Join1 (fun Jx3 h_9 =>
  RunV Try.prog (binS BinOp.add 3 (Operand.tmp 21) (Operand.const (Value.int IntKind.i64 1)) L_1x5 (Value.int IntKind.i64 1)) h_9 fun t22 h_10 =>
  L_1n Jx3 t22 h_10) fun J =>
  RunV Try.prog (binS BinOp.rem 93 (Operand.tmp 23) (Operand.const (Value.int IntKind.u32 2)) L_1x3 (Value.int IntKind.u32 2)) h_8 fun t24 h_12 =>
  RunV Try.prog (binS BinOp.quo 93 (Operand.tmp 25) (Operand.const (Value.int IntKind.u32 2)) L_1x3 (Value.int IntKind.u32 2)) h_12 fun t26 h_13 =>
  RunV Try.prog (binS BinOp.eql 93 (Operand.tmp 27) (Operand.const (Value.int IntKind.u32 1)) t24 (Value.int IntKind.u32 1)) h_13 fun t28 h_14 =>
  CondP t28 (
  RunV Try.prog (binS BinOp.xor 93 (Operand.tmp 29) (Operand.const (Value.int IntKind.u32 3988292384)) t26 (Value.int IntKind.u32 3988292384)) h_14 fun t30 h_16 =>
  J t30 h_16) (
  J t26 h_14)) (
  RunV Try.prog (binS BinOp.add 3 (Operand.tmp 11) (Operand.const (Value.int IntKind.i64 1)) Lx4 (Value.int IntKind.i64 1)) h_8 fun t12 h_17 =>
  Ln L_1x3 t12 h_17)) (
  RunV Try.prog (binS BinOp.sub 93 (Operand.const (Value.int IntKind.u32 4294967295)) (Operand.tmp 31) (Value.int IntKind.u32 4294967295) Lx3) h_3 fun t32 h_18 =>
  K t32 h_18)
def ann50 : Ann := { loops := [(7, [3, 5]), (3, [3, 4])], held := [] }
theorem F50_eq (a0 : Value) (h : Heap) (K : Value → Heap → Prop) : F50 a0 h K = W Try.prog ann50 (bodyOf Try.f50) (bodyQ Try.prog Try.f50.results.toList K) (argsE [a0]) h := by kernel_rfl
theorem F50_wf : (wf Try.f50.ntmps ann50 (bodyOf Try.f50) && Nat.ble Try.f50.ntmps ghost && !memN (writes (bodyOf Try.f50)) ghost) = true := by kernel_rfl
theorem F50_b : Try.f50.body.isSome = true := by kernel_rfl
theorem F50_n : (Try.f50.name == "runtime.NumGoroutine") = false := by kernel_rfl
theorem R50 (args : Array Value) (w : World) : (callFunc 50 args).run Try.prog w = .ok (.enter 50 args) w := callFunc_run Try.func50 F50_b F50_n args w
theorem S50 {a0 : Value} {h : Heap} {K : Value → Heap → Prop} (H : F50 a0 h K) : CallF Try.prog 50 #[a0] h K :=
  callF_of_W mo Try.func50 F50_b F50_n F50_wf (args := [a0]) rfl (F50_eq a0 h K ▸ H)

/- (*strings.Builder).copyCheck -/
def F51 (a0 : Value) (h : Heap) (K : Value → Heap → Prop) : Prop :=
  NilC a0 fun t3 =>
  RunV Try.prog (Instr.fieldAt 83 t3 0) h fun t4 h_1 =>
  RunV Try.prog (Instr.loadAt 81 t4) h_1 fun t5 h_2 =>
  RunV Try.prog (binS BinOp.eql 81 (Operand.tmp 5) (Operand.const (Value.pointer none)) t5 (Value.pointer none)) h_2 fun t6 h_3 =>
  CondP t6 (
  RunV Try.prog (convert 81 109 a0) h_3 fun t9 h_5 =>
  CallF Try.prog 60 #[t9] h_5 fun t10 h_6 =>
  RunV Try.prog (convert 109 81 t10) h_6 fun t11 h_7 =>
  NilC a0 fun t12 =>
  RunV Try.prog (Instr.fieldAt 83 t12 0) h_7 fun t13 h_8 =>
  RunU Try.prog (Instr.storeAt 81 t13 t11) h_8 fun h_9 =>
  K (.tuple #[]) h_9) (
  NilC a0 fun t15 =>
  RunV Try.prog (Instr.fieldAt 83 t15 0) h_3 fun t16 h_10 =>
  RunV Try.prog (Instr.loadAt 81 t16) h_10 fun t17 h_11 =>
  RunV Try.prog (binS BinOp.neq 81 (Operand.tmp 17) (Operand.tmp 18) t17 a0) h_11 fun t19 h_12 =>
  CondP t19 (
  False) (
  K (.tuple #[]) h_12))
def ann51 : Ann := { loops := [], held := [] }
theorem F51_eq (a0 : Value) (h : Heap) (K : Value → Heap → Prop) : F51 a0 h K = W Try.prog ann51 (bodyOf Try.f51) (bodyQ Try.prog Try.f51.results.toList K) (argsE [a0]) h := by kernel_rfl
theorem F51_wf : (wf Try.f51.ntmps ann51 (bodyOf Try.f51) && Nat.ble Try.f51.ntmps ghost && !memN (writes (bodyOf Try.f51)) ghost) = true := by kernel_rfl
theorem F51_b : Try.f51.body.isSome = true := by kernel_rfl
theorem F51_n : (Try.f51.name == "runtime.NumGoroutine") = false := by kernel_rfl
theorem R51 (args : Array Value) (w : World) : (callFunc 51 args).run Try.prog w = .ok (.enter 51 args) w := callFunc_run Try.func51 F51_b F51_n args w
theorem S51 {a0 : Value} {h : Heap} {K : Value → Heap → Prop} (H : F51 a0 h K) : CallF Try.prog 51 #[a0] h K :=
  callF_of_W mo Try.func51 F51_b F51_n F51_wf (args := [a0]) rfl (F51_eq a0 h K ▸ H)

/- replevin/log.one -/
def F52 (a0 : Value) (h : Heap) (K : Value → Heap → Prop) : Prop :=
  Join1 (fun Jx15 h_1 =>
  CondP Jx15 (
  K (.tuple #[(Value.string { data := #[] }), (Value.bool false)]) h_1) (
  Quiet h_1 fun C =>
  QV Try.prog C (Instr.index 9 a0 (Value.int IntKind.i64 1)) fun t17 =>
  QV Try.prog C (convert 5 3 t17) fun t18 =>
  QV Try.prog C (binS BinOp.shl 3 (Operand.tmp 18) (Operand.const (Value.int IntKind.u64 8)) t18 (Value.int IntKind.u64 8)) fun t19 =>
  QV Try.prog C (Instr.index 9 a0 (Value.int IntKind.i64 2)) fun t21 =>
  QV Try.prog C (convert 5 3 t21) fun t22 =>
  QV Try.prog C (binS BinOp.or 3 (Operand.tmp 19) (Operand.tmp 22) t19 t22) fun t23 =>
  QEnd C fun h_2 =>
  Join1 (fun J_1x32 h_3 =>
  CondP J_1x32 (
  K (.tuple #[(Value.string { data := #[] }), (Value.bool false)]) h_3) (
  RunV Try.prog (binS BinOp.add 3 (Operand.const (Value.int IntKind.i64 7)) (Operand.tmp 34) (Value.int IntKind.i64 7) t23) h_3 fun t35 h_4 =>
  RunV Try.prog (Instr.sliceAt 9 a0 (some (Value.int IntKind.i64 7)) (some t35) none) h_4 fun t36 h_5 =>
  CallF Try.prog 31 #[t36] h_5 fun t39 h_6 =>
  RunV Try.prog (Instr.extract t39 0) h_6 fun t40 h_7 =>
  RunV Try.prog (Instr.extract t39 1) h_7 fun t41 h_8 =>
  RunV Try.prog (binS BinOp.eql 25 (Operand.tmp 43) (Operand.const (Value.int IntKind.i64 0)) t41 (Value.int IntKind.i64 0)) h_8 fun t44 h_10 =>
  GuardP t44 true (
  CallF Try.prog 56 #[a0, t40] h_10 fun t48 h_11 =>
  K (.tuple #[t36, t48]) h_11) (
  K (.tuple #[t36, (Value.bool false)]) h_10))) fun J_1 =>
  RunV Try.prog (binS BinOp.gtr 3 (Operand.tmp 24) (Operand.const (Value.int IntKind.i64 400)) t23 (Value.int IntKind.i64 400)) h_2 fun t25 h_12 =>
  GuardP t25 false (
  OpN Try.prog (Go.builtin Builtin.len #[9] 3 #[false] #[a0]) h_12 fun t28 h_13 =>
  RunV Try.prog (binS BinOp.add 3 (Operand.tmp 29) (Operand.const (Value.int IntKind.i64 8)) t23 (Value.int IntKind.i64 8)) h_13 fun t30 h_14 =>
  RunV Try.prog (binS BinOp.lss 3 (Operand.tmp 28) (Operand.tmp 30) t28 t30) h_14 fun t31 h_15 =>
  J_1 t31 h_15) (
  J_1 (Value.bool true) h_12))) fun J =>
  OpN Try.prog (Go.builtin Builtin.len #[9] 3 #[false] #[a0]) h fun t9 h_16 =>
  RunV Try.prog (binS BinOp.lss 3 (Operand.tmp 9) (Operand.const (Value.int IntKind.i64 9)) t9 (Value.int IntKind.i64 9)) h_16 fun t10 h_17 =>
  GuardP t10 false (
  RunV Try.prog (Instr.index 9 a0 (Value.int IntKind.i64 0)) h_17 fun t13 h_18 =>
  RunV Try.prog (binS BinOp.neq 5 (Operand.tmp 13) (Operand.const (Value.int IntKind.u8 1)) t13 (Value.int IntKind.u8 1)) h_18 fun t14 h_19 =>
  J t14 h_19) (
  J (Value.bool true) h_17)
def ann52 : Ann := { loops := [], held := [] }
theorem F52_eq (a0 : Value) (h : Heap) (K : Value → Heap → Prop) : F52 a0 h K = W Try.prog ann52 (bodyOf Try.f52) (bodyQ Try.prog Try.f52.results.toList K) (argsE [a0]) h := by kernel_rfl
theorem F52_wf : (wf Try.f52.ntmps ann52 (bodyOf Try.f52) && Nat.ble Try.f52.ntmps ghost && !memN (writes (bodyOf Try.f52)) ghost) = true := by kernel_rfl
theorem F52_b : Try.f52.body.isSome = true := by kernel_rfl
theorem F52_n : (Try.f52.name == "runtime.NumGoroutine") = false := by kernel_rfl
theorem R52 (args : Array Value) (w : World) : (callFunc 52 args).run Try.prog w = .ok (.enter 52 args) w := callFunc_run Try.func52 F52_b F52_n args w
theorem S52 {a0 : Value} {h : Heap} {K : Value → Heap → Prop} (H : F52 a0 h K) : CallF Try.prog 52 #[a0] h K :=
  callF_of_W mo Try.func52 F52_b F52_n F52_wf (args := [a0]) rfl (F52_eq a0 h K ▸ H)

/- replevin/log.Sum$1 -/
def F53 (a0 a1 : Value) (h : Heap) (K : Value → Heap → Prop) : Prop :=
  RunV Try.prog (Instr.loadAt 93 a1) h fun t4 h_1 =>
  RunV Try.prog (convert 5 93 a0) h_1 fun t6 h_2 =>
  RunV Try.prog (binS BinOp.xor 93 (Operand.tmp 4) (Operand.tmp 6) t4 t6) h_2 fun t7 h_3 =>
  RunU Try.prog (Instr.storeAt 93 a1 t7) h_3 fun h_4 =>
  Loop1 (Value.int IntKind.i64 0) h_4 fun Ljs Lx8 h_5 Ln =>
  RunV Try.prog (binS BinOp.lss 3 (Operand.tmp 8) (Operand.const (Value.int IntKind.i64 8)) Lx8 (Value.int IntKind.i64 8)) h_5 fun t9 h_6 =>
  CondP t9 (
  RunV Try.prog (Instr.loadAt 93 a1) h_6 fun t10 h_7 =>
  RunV Try.prog (binS BinOp.and 93 (Operand.tmp 10) (Operand.const (Value.int IntKind.u32 1)) t10 (Value.int IntKind.u32 1)) h_7 fun t11 h_8 =>
  RunV Try.prog (Instr.loadAt 93 a1) h_8 fun t12 h_9 =>
  RunV Try.prog (binS BinOp.shr 93 (Operand.tmp 12) (Operand.const (Value.int IntKind.u64 1)) t12 (Value.int IntKind.u64 1)) h_9 fun t13 h_10 =>
  RunV Try.prog (binS BinOp.mul 93 (Operand.const (Value.int IntKind.u32 3988292384)) (Operand.tmp 14) (Value.int IntKind.u32 3988292384) t11) h_10 fun t15 h_11 =>
  RunV Try.prog (binS BinOp.xor 93 (Operand.tmp 13) (Operand.tmp 15) t13 t15) h_11 fun t16 h_12 =>
  RunU Try.prog (Instr.storeAt 93 a1 t16) h_12 fun h_13 =>
  RunV Try.prog (binS BinOp.add 3 (Operand.tmp 8) (Operand.const (Value.int IntKind.i64 1)) Lx8 (Value.int IntKind.i64 1)) h_13 fun t17 h_14 =>
  Ln t17 h_14) (
  K (.tuple #[]) h_6)
def ann53 : Ann := { loops := [(2, [8])], held := [] }
theorem F53_eq (a0 a1 : Value) (h : Heap) (K : Value → Heap → Prop) : F53 a0 a1 h K = W Try.prog ann53 (bodyOf Try.f53) (bodyQ Try.prog Try.f53.results.toList K) (argsE [a0, a1]) h := by kernel_rfl
theorem F53_wf : (wf Try.f53.ntmps ann53 (bodyOf Try.f53) && Nat.ble Try.f53.ntmps ghost && !memN (writes (bodyOf Try.f53)) ghost) = true := by kernel_rfl
theorem F53_b : Try.f53.body.isSome = true := by kernel_rfl
theorem F53_n : (Try.f53.name == "runtime.NumGoroutine") = false := by kernel_rfl
theorem R53 (args : Array Value) (w : World) : (callFunc 53 args).run Try.prog w = .ok (.enter 53 args) w := callFunc_run Try.func53 F53_b F53_n args w
theorem S53 {a0 a1 : Value} {h : Heap} {K : Value → Heap → Prop} (H : F53 a0 a1 h K) : CallF Try.prog 53 #[a0, a1] h K :=
  callF_of_W mo Try.func53 F53_b F53_n F53_wf (args := [a0, a1]) rfl (F53_eq a0 a1 h K ▸ H)

/- replevin/journal.blocks$1 -/
def F54 (a0 a1 a2 : Value) (h : Heap) (K : Value → Heap → Prop) : Prop :=
  RunV Try.prog (Instr.loadAt 3 a1) h fun t5 h_1 =>
  RunV Try.prog (binS BinOp.quo 3 (Operand.tmp 5) (Operand.const (Value.int IntKind.i64 32)) t5 (Value.int IntKind.i64 32)) h_1 fun t6 h_2 =>
  Loop1 t6 h_2 fun Ljs Lx4 h_3 Ln =>
  RunV Try.prog (binS BinOp.mul 3 (Operand.tmp 7) (Operand.const (Value.int IntKind.i64 32)) Lx4 (Value.int IntKind.i64 32)) h_3 fun t8 h_4 =>
  RunV Try.prog (Instr.loadAt 3 a2) h_4 fun t9 h_5 =>
  RunV Try.prog (binS BinOp.lss 3 (Operand.tmp 8) (Operand.tmp 9) t8 t9) h_5 fun t10 h_6 =>
  CondP t10 (
  CallV Try.prog a0 #[Lx4] h_6 fun t15 h_7 =>
  RunV Try.prog (Op.unary UnOp.not t15) h_7 fun t16 h_8 =>
  CondP t16 (
  K (.tuple #[]) h_8) (
  RunV Try.prog (binS BinOp.add 3 (Operand.tmp 11) (Operand.const (Value.int IntKind.i64 1)) Lx4 (Value.int IntKind.i64 1)) h_8 fun t12 h_9 =>
  Ln t12 h_9)) (
  K (.tuple #[]) h_6)
def ann54 : Ann := { loops := [(1, [4])], held := [] }
theorem F54_eq (a0 a1 a2 : Value) (h : Heap) (K : Value → Heap → Prop) : F54 a0 a1 a2 h K = W Try.prog ann54 (bodyOf Try.f54) (bodyQ Try.prog Try.f54.results.toList K) (argsE [a0, a1, a2]) h := by kernel_rfl
theorem F54_wf : (wf Try.f54.ntmps ann54 (bodyOf Try.f54) && Nat.ble Try.f54.ntmps ghost && !memN (writes (bodyOf Try.f54)) ghost) = true := by kernel_rfl
theorem F54_b : Try.f54.body.isSome = true := by kernel_rfl
theorem F54_n : (Try.f54.name == "runtime.NumGoroutine") = false := by kernel_rfl
theorem R54 (args : Array Value) (w : World) : (callFunc 54 args).run Try.prog w = .ok (.enter 54 args) w := callFunc_run Try.func54 F54_b F54_n args w
theorem S54 {a0 a1 a2 : Value} {h : Heap} {K : Value → Heap → Prop} (H : F54 a0 a1 a2 h K) : CallF Try.prog 54 #[a0, a1, a2] h K :=
  callF_of_W mo Try.func54 F54_b F54_n F54_wf (args := [a0, a1, a2]) rfl (F54_eq a0 a1 a2 h K ▸ H)

/- math/bits.Mul -/
def F55 (a0 a1 : Value) (h : Heap) (K : Value → Heap → Prop) : Prop :=
  CallF Try.prog 62 #[a0, a1] h fun t25 h_1 =>
  RunV Try.prog (Instr.extract t25 0) h_1 fun t26 h_2 =>
  RunV Try.prog (Instr.extract t25 1) h_2 fun t27 h_3 =>
  K (.tuple #[t26, t27]) h_3
def ann55 : Ann := { loops := [], held := [] }
theorem F55_eq (a0 a1 : Value) (h : Heap) (K : Value → Heap → Prop) : F55 a0 a1 h K = W Try.prog ann55 (bodyOf Try.f55) (bodyQ Try.prog Try.f55.results.toList K) (argsE [a0, a1]) h := by kernel_rfl
theorem F55_wf : (wf Try.f55.ntmps ann55 (bodyOf Try.f55) && Nat.ble Try.f55.ntmps ghost && !memN (writes (bodyOf Try.f55)) ghost) = true := by kernel_rfl
theorem F55_b : Try.f55.body.isSome = true := by kernel_rfl
theorem F55_n : (Try.f55.name == "runtime.NumGoroutine") = false := by kernel_rfl
theorem R55 (args : Array Value) (w : World) : (callFunc 55 args).run Try.prog w = .ok (.enter 55 args) w := callFunc_run Try.func55 F55_b F55_n args w
theorem S55 {a0 a1 : Value} {h : Heap} {K : Value → Heap → Prop} (H : F55 a0 a1 h K) : CallF Try.prog 55 #[a0, a1] h K :=
  callF_of_W mo Try.func55 F55_b F55_n F55_wf (args := [a0, a1]) rfl (F55_eq a0 a1 h K ▸ H)

/- strings.HasPrefix -/
def F56 (a0 a1 : Value) (h : Heap) (K : Value → Heap → Prop) : Prop :=
  CallF Try.prog 63 #[a0, a1] h fun t7 h_1 =>
  K t7 h_1
def ann56 : Ann := { loops := [], held := [] }
theorem F56_eq (a0 a1 : Value) (h : Heap) (K : Value → Heap → Prop) : F56 a0 a1 h K = W Try.prog ann56 (bodyOf Try.f56) (bodyQ Try.prog Try.f56.results.toList K) (argsE [a0, a1]) h := by kernel_rfl
theorem F56_wf : (wf Try.f56.ntmps ann56 (bodyOf Try.f56) && Nat.ble Try.f56.ntmps ghost && !memN (writes (bodyOf Try.f56)) ghost) = true := by kernel_rfl
theorem F56_b : Try.f56.body.isSome = true := by kernel_rfl
theorem F56_n : (Try.f56.name == "runtime.NumGoroutine") = false := by kernel_rfl
theorem R56 (args : Array Value) (w : World) : (callFunc 56 args).run Try.prog w = .ok (.enter 56 args) w := callFunc_run Try.func56 F56_b F56_n args w
theorem S56 {a0 a1 : Value} {h : Heap} {K : Value → Heap → Prop} (H : F56 a0 a1 h K) : CallF Try.prog 56 #[a0, a1] h K :=
  callF_of_W mo Try.func56 F56_b F56_n F56_wf (args := [a0, a1]) rfl (F56_eq a0 a1 h K ▸ H)

/- (*strings.Builder).Grow -/
def F57 (a0 a1 : Value) (h : Heap) (K : Value → Heap → Prop) : Prop :=
  CallF Try.prog 51 #[a0] h fun t5 h_1 =>
  Join0 (fun  h_2 =>
  Quiet h_2 fun C =>
  NilC a0 fun t10 =>
  QV Try.prog C (Instr.fieldAt 83 t10 1) fun t11 =>
  QV Try.prog C (Instr.loadAt 54 t11) fun t12 =>
  QB Try.prog C (Go.builtin Builtin.cap #[54] 3 #[false] #[t12]) fun t13 =>
  NilC a0 fun t15 =>
  QV Try.prog C (Instr.fieldAt 83 t15 1) fun t16 =>
  QV Try.prog C (Instr.loadAt 54 t16) fun t17 =>
  QB Try.prog C (Go.builtin Builtin.len #[54] 3 #[false] #[t17]) fun t18 =>
  QV Try.prog C (binS BinOp.sub 3 (Operand.tmp 13) (Operand.tmp 18) t13 t18) fun t19 =>
  QV Try.prog C (binS BinOp.lss 3 (Operand.tmp 19) (Operand.tmp 20) t19 a1) fun t21 =>
  QEnd C fun h_3 =>
  CondP t21 (
  CallF Try.prog 64 #[a0, a1] h_3 fun t24 h_5 =>
  K (.tuple #[]) h_5) (
  K (.tuple #[]) h_3)) fun J =>
  RunV Try.prog (binS BinOp.lss 3 (Operand.tmp 6) (Operand.const (Value.int IntKind.i64 0)) a1 (Value.int IntKind.i64 0)) h_1 fun t7 h_6 =>
  CondP t7 (
  RunV Try.prog (Instr.makeInterface 9 (Value.string { data := #[115, 116, 114, 105, 110, 103, 115, 46, 66, 117, 105, 108, 100, 101, 114, 46, 71, 114, 111, 119, 58, 32, 110, 101, 103, 97, 116, 105, 118, 101, 32, 99, 111, 117, 110, 116] })) h_6 fun t8 h_8 =>
  False) (
  J h_6)
def ann57 : Ann := { loops := [], held := [] }
theorem F57_eq (a0 a1 : Value) (h : Heap) (K : Value → Heap → Prop) : F57 a0 a1 h K = W Try.prog ann57 (bodyOf Try.f57) (bodyQ Try.prog Try.f57.results.toList K) (argsE [a0, a1]) h := by kernel_rfl
theorem F57_wf : (wf Try.f57.ntmps ann57 (bodyOf Try.f57) && Nat.ble Try.f57.ntmps ghost && !memN (writes (bodyOf Try.f57)) ghost) = true := by kernel_rfl
theorem F57_b : Try.f57.body.isSome = true := by kernel_rfl
theorem F57_n : (Try.f57.name == "runtime.NumGoroutine") = false := by kernel_rfl
theorem R57 (args : Array Value) (w : World) : (callFunc 57 args).run Try.prog w = .ok (.enter 57 args) w := callFunc_run Try.func57 F57_b F57_n args w
theorem S57 {a0 a1 : Value} {h : Heap} {K : Value → Heap → Prop} (H : F57 a0 a1 h K) : CallF Try.prog 57 #[a0, a1] h K :=
  callF_of_W mo Try.func57 F57_b F57_n F57_wf (args := [a0, a1]) rfl (F57_eq a0 a1 h K ▸ H)

/- (*strings.Builder).WriteString -/
def F58 (a0 a1 : Value) (h : Heap) (K : Value → Heap → Prop) : Prop :=
  CallF Try.prog 51 #[a0] h fun t7 h_1 =>
  NilC a0 fun t10 =>
  RunV Try.prog (Instr.fieldAt 83 t10 1) h_1 fun t11 h_2 =>
  RunV Try.prog (Instr.loadAt 54 t11) h_2 fun t12 h_3 =>
  OpN Try.prog (Go.builtin Builtin.append #[54, 9] 54 #[false, false] #[t12, a1]) h_3 fun t14 h_4 =>
  NilC a0 fun t15 =>
  RunV Try.prog (Instr.fieldAt 83 t15 1) h_4 fun t16 h_5 =>
  RunU Try.prog (Instr.storeAt 54 t16 t14) h_5 fun h_6 =>
  OpN Try.prog (Go.builtin Builtin.len #[9] 3 #[false] #[a1]) h_6 fun t18 h_7 =>
  K (.tuple #[t18, Value.nilIface]) h_7
def ann58 : Ann := { loops := [], held := [] }
theorem F58_eq (a0 a1 : Value) (h : Heap) (K : Value → Heap → Prop) : F58 a0 a1 h K = W Try.prog ann58 (bodyOf Try.f58) (bodyQ Try.prog Try.f58.results.toList K) (argsE [a0, a1]) h := by kernel_rfl
theorem F58_wf : (wf Try.f58.ntmps ann58 (bodyOf Try.f58) && Nat.ble Try.f58.ntmps ghost && !memN (writes (bodyOf Try.f58)) ghost) = true := by kernel_rfl
theorem F58_b : Try.f58.body.isSome = true := by kernel_rfl
theorem F58_n : (Try.f58.name == "runtime.NumGoroutine") = false := by kernel_rfl
theorem R58 (args : Array Value) (w : World) : (callFunc 58 args).run Try.prog w = .ok (.enter 58 args) w := callFunc_run Try.func58 F58_b F58_n args w
theorem S58 {a0 a1 : Value} {h : Heap} {K : Value → Heap → Prop} (H : F58 a0 a1 h K) : CallF Try.prog 58 #[a0, a1] h K :=
  callF_of_W mo Try.func58 F58_b F58_n F58_wf (args := [a0, a1]) rfl (F58_eq a0 a1 h K ▸ H)

/- (*strings.Builder).Len -/
def F59 (a0 : Value) (h : Heap) (K : Value → Heap → Prop) : Prop :=
  NilC a0 fun t4 =>
  RunV Try.prog (Instr.fieldAt 83 t4 1) h fun t5 h_1 =>
  RunV Try.prog (Instr.loadAt 54 t5) h_1 fun t6 h_2 =>
  OpN Try.prog (Go.builtin Builtin.len #[54] 3 #[false] #[t6]) h_2 fun t7 h_3 =>
  K t7 h_3
def ann59 : Ann := { loops := [], held := [] }
theorem F59_eq (a0 : Value) (h : Heap) (K : Value → Heap → Prop) : F59 a0 h K = W Try.prog ann59 (bodyOf Try.f59) (bodyQ Try.prog Try.f59.results.toList K) (argsE [a0]) h := by kernel_rfl
theorem F59_wf : (wf Try.f59.ntmps ann59 (bodyOf Try.f59) && Nat.ble Try.f59.ntmps ghost && !memN (writes (bodyOf Try.f59)) ghost) = true := by kernel_rfl
theorem F59_b : Try.f59.body.isSome = true := by kernel_rfl
theorem F59_n : (Try.f59.name == "runtime.NumGoroutine") = false := by kernel_rfl
theorem R59 (args : Array Value) (w : World) : (callFunc 59 args).run Try.prog w = .ok (.enter 59 args) w := callFunc_run Try.func59 F59_b F59_n args w
theorem S59 {a0 : Value} {h : Heap} {K : Value → Heap → Prop} (H : F59 a0 h K) : CallF Try.prog 59 #[a0] h K :=
  callF_of_W mo Try.func59 F59_b F59_n F59_wf (args := [a0]) rfl (F59_eq a0 h K ▸ H)

/- math/bits.Mul32 -/
def F61 (a0 a1 : Value) (h : Heap) (K : Value → Heap → Prop) : Prop :=
  RunV Try.prog (convert 93 113 a0) h fun t8 h_1 =>
  RunV Try.prog (convert 93 113 a1) h_1 fun t10 h_2 =>
  RunV Try.prog (binS BinOp.mul 113 (Operand.tmp 8) (Operand.tmp 10) t8 t10) h_2 fun t11 h_3 =>
  RunV Try.prog (binS BinOp.shr 113 (Operand.tmp 12) (Operand.const (Value.int IntKind.u64 32)) t11 (Value.int IntKind.u64 32)) h_3 fun t13 h_4 =>
  RunV Try.prog (convert 113 93 t13) h_4 fun t14 h_5 =>
  RunV Try.prog (convert 113 93 t11) h_5 fun t16 h_6 =>
  K (.tuple #[t14, t16]) h_6
def ann61 : Ann := { loops := [], held := [] }
theorem F61_eq (a0 a1 : Value) (h : Heap) (K : Value → Heap → Prop) : F61 a0 a1 h K = W Try.prog ann61 (bodyOf Try.f61) (bodyQ Try.prog Try.f61.results.toList K) (argsE [a0, a1]) h := by kernel_rfl
theorem F61_wf : (wf Try.f61.ntmps ann61 (bodyOf Try.f61) && Nat.ble Try.f61.ntmps ghost && !memN (writes (bodyOf Try.f61)) ghost) = true := by kernel_rfl
theorem F61_b : Try.f61.body.isSome = true := by kernel_rfl
theorem F61_n : (Try.f61.name == "runtime.NumGoroutine") = false := by kernel_rfl
theorem R61 (args : Array Value) (w : World) : (callFunc 61 args).run Try.prog w = .ok (.enter 61 args) w := callFunc_run Try.func61 F61_b F61_n args w
theorem S61 {a0 a1 : Value} {h : Heap} {K : Value → Heap → Prop} (H : F61 a0 a1 h K) : CallF Try.prog 61 #[a0, a1] h K :=
  callF_of_W mo Try.func61 F61_b F61_n F61_wf (args := [a0, a1]) rfl (F61_eq a0 a1 h K ▸ H)

/- math/bits.Mul64 -/
def F62 (a0 a1 : Value) (h : Heap) (K : Value → Heap → Prop) : Prop :=
  RunV Try.prog (binS BinOp.and 113 (Operand.tmp 14) (Operand.const (Value.int IntKind.u64 4294967295)) a0 (Value.int IntKind.u64 4294967295)) h fun t15 h_1 =>
  RunV Try.prog (binS BinOp.shr 113 (Operand.tmp 16) (Operand.const (Value.int IntKind.u64 32)) a0 (Value.int IntKind.u64 32)) h_1 fun t17 h_2 =>
  RunV Try.prog (binS BinOp.and 113 (Operand.tmp 18) (Operand.const (Value.int IntKind.u64 4294967295)) a1 (Value.int IntKind.u64 4294967295)) h_2 fun t19 h_3 =>
  RunV Try.prog (binS BinOp.shr 113 (Operand.tmp 20) (Operand.const (Value.int IntKind.u64 32)) a1 (Value.int IntKind.u64 32)) h_3 fun t21 h_4 =>
  RunV Try.prog (binS BinOp.mul 113 (Operand.tmp 22) (Operand.tmp 23) t15 t19) h_4 fun t24 h_5 =>
  RunV Try.prog (binS BinOp.mul 113 (Operand.tmp 25) (Operand.tmp 26) t17 t19) h_5 fun t27 h_6 =>
  RunV Try.prog (binS BinOp.shr 113 (Operand.tmp 28) (Operand.const (Value.int IntKind.u64 32)) t24 (Value.int IntKind.u64 32)) h_6 fun t29 h_7 =>
  RunV Try.prog (binS BinOp.add 113 (Operand.tmp 27) (Operand.tmp 29) t27 t29) h_7 fun t30 h_8 =>
  RunV Try.prog (binS BinOp.and 113 (Operand.tmp 31) (Operand.const (Value.int IntKind.u64 4294967295)) t30 (Value.int IntKind.u64 4294967295)) h_8 fun t32 h_9 =>
  RunV Try.prog (binS BinOp.shr 113 (Operand.tmp 33) (Operand.const (Value.int IntKind.u64 32)) t30 (Value.int IntKind.u64 32)) h_9 fun t34 h_10 =>
  RunV Try.prog (binS BinOp.mul 113 (Operand.tmp 36) (Operand.tmp 37) t15 t21) h_10 fun t38 h_11 =>
  RunV Try.prog (binS BinOp.add 113 (Operand.tmp 35) (Operand.tmp 38) t32 t38) h_11 fun t39 h_12 =>
  RunV Try.prog (binS BinOp.mul 113 (Operand.tmp 40) (Operand.tmp 41) t17 t21) h_12 fun t42 h_13 =>
  RunV Try.prog (binS BinOp.add 113 (Operand.tmp 42) (Operand.tmp 43) t42 t34) h_13 fun t44 h_14 =>
  RunV Try.prog (binS BinOp.shr 113 (Operand.tmp 45) (Operand.const (Value.int IntKind.u64 32)) t39 (Value.int IntKind.u64 32)) h_14 fun t46 h_15 =>
  RunV Try.prog (binS BinOp.add 113 (Operand.tmp 44) (Operand.tmp 46) t44 t46) h_15 fun t47 h_16 =>
  RunV Try.prog (binS BinOp.mul 113 (Operand.tmp 48) (Operand.tmp 49) a0 a1) h_16 fun t50 h_17 =>
  K (.tuple #[t47, t50]) h_17
def ann62 : Ann := { loops := [], held := [] }
theorem F62_eq (a0 a1 : Value) (h : Heap) (K : Value → Heap → Prop) : F62 a0 a1 h K = W Try.prog ann62 (bodyOf Try.f62) (bodyQ Try.prog Try.f62.results.toList K) (argsE [a0, a1]) h := by kernel_rfl
theorem F62_wf : (wf Try.f62.ntmps ann62 (bodyOf Try.f62) && Nat.ble Try.f62.ntmps ghost && !memN (writes (bodyOf Try.f62)) ghost) = true := by kernel_rfl
theorem F62_b : Try.f62.body.isSome = true := by kernel_rfl
theorem F62_n : (Try.f62.name == "runtime.NumGoroutine") = false := by kernel_rfl
theorem R62 (args : Array Value) (w : World) : (callFunc 62 args).run Try.prog w = .ok (.enter 62 args) w := callFunc_run Try.func62 F62_b F62_n args w
theorem S62 {a0 a1 : Value} {h : Heap} {K : Value → Heap → Prop} (H : F62 a0 a1 h K) : CallF Try.prog 62 #[a0, a1] h K :=
  callF_of_W mo Try.func62 F62_b F62_n F62_wf (args := [a0, a1]) rfl (F62_eq a0 a1 h K ▸ H)

/- internal/stringslite.HasPrefix -/
def F63 (a0 a1 : Value) (h : Heap) (K : Value → Heap → Prop) : Prop :=
  OpN Try.prog (Go.builtin Builtin.len #[9] 3 #[false] #[a0]) h fun t6 h_2 =>
  OpN Try.prog (Go.builtin Builtin.len #[9] 3 #[false] #[a1]) h_2 fun t8 h_3 =>
  RunV Try.prog (binS BinOp.geq 3 (Operand.tmp 6) (Operand.tmp 8) t6 t8) h_3 fun t9 h_4 =>
  GuardP t9 true (
  OpN Try.prog (Go.builtin Builtin.len #[9] 3 #[false] #[a1]) h_4 fun t13 h_5 =>
  RunV Try.prog (Instr.sliceAt 9 a0 none (some t13) none) h_5 fun t14 h_6 =>
  RunV Try.prog (binS BinOp.eql 9 (Operand.tmp 14) (Operand.tmp 15) t14 a1) h_6 fun t16 h_7 =>
  K t16 h_7) (
  K (Value.bool false) h_4)
def ann63 : Ann := { loops := [], held := [] }
theorem F63_eq (a0 a1 : Value) (h : Heap) (K : Value → Heap → Prop) : F63 a0 a1 h K = W Try.prog ann63 (bodyOf Try.f63) (bodyQ Try.prog Try.f63.results.toList K) (argsE [a0, a1]) h := by kernel_rfl
theorem F63_wf : (wf Try.f63.ntmps ann63 (bodyOf Try.f63) && Nat.ble Try.f63.ntmps ghost && !memN (writes (bodyOf Try.f63)) ghost) = true := by kernel_rfl
theorem F63_b : Try.f63.body.isSome = true := by kernel_rfl
theorem F63_n : (Try.f63.name == "runtime.NumGoroutine") = false := by kernel_rfl
theorem R63 (args : Array Value) (w : World) : (callFunc 63 args).run Try.prog w = .ok (.enter 63 args) w := callFunc_run Try.func63 F63_b F63_n args w
theorem S63 {a0 a1 : Value} {h : Heap} {K : Value → Heap → Prop} (H : F63 a0 a1 h K) : CallF Try.prog 63 #[a0, a1] h K :=
  callF_of_W mo Try.func63 F63_b F63_n F63_wf (args := [a0, a1]) rfl (F63_eq a0 a1 h K ▸ H)

/- (*strings.Builder).grow -/
def F64 (a0 a1 : Value) (h : Heap) (K : Value → Heap → Prop) : Prop :=
  Quiet h fun C =>
  NilC a0 fun t6 =>
  QV Try.prog C (Instr.fieldAt 83 t6 1) fun t7 =>
  QV Try.prog C (Instr.loadAt 54 t7) fun t8 =>
  QB Try.prog C (Go.builtin Builtin.cap #[54] 3 #[false] #[t8]) fun t9 =>
  QV Try.prog C (binS BinOp.mul 3 (Operand.const (Value.int IntKind.i64 2)) (Operand.tmp 9) (Value.int IntKind.i64 2) t9) fun t10 =>
  QV Try.prog C (binS BinOp.add 3 (Operand.tmp 10) (Operand.tmp 11) t10 a1) fun t12 =>
  QCallF Try.prog C 65 #[t12] fun t13 =>
  NilC a0 fun t15 =>
  QV Try.prog C (Instr.fieldAt 83 t15 1) fun t16 =>
  QV Try.prog C (Instr.loadAt 54 t16) fun t17 =>
  QB Try.prog C (Go.builtin Builtin.len #[54] 3 #[false] #[t17]) fun t18 =>
  QV Try.prog C (Instr.sliceAt 54 t13 none (some t18) none) fun t19 =>
  QEnd C fun h_1 =>
  NilC a0 fun t22 =>
  RunV Try.prog (Instr.fieldAt 83 t22 1) h_1 fun t23 h_2 =>
  RunV Try.prog (Instr.loadAt 54 t23) h_2 fun t24 h_3 =>
  OpN Try.prog (Go.builtin Builtin.copy #[54, 54] 3 #[false, false] #[t19, t24]) h_3 fun t25 h_4 =>
  NilC a0 fun t28 =>
  RunV Try.prog (Instr.fieldAt 83 t28 1) h_4 fun t29 h_5 =>
  RunU Try.prog (Instr.storeAt 54 t29 t19) h_5 fun h_6 =>
  K (.tuple #[]) h_6
def ann64 : Ann := { loops := [], held := [] }
theorem F64_eq (a0 a1 : Value) (h : Heap) (K : Value → Heap → Prop) : F64 a0 a1 h K = W Try.prog ann64 (bodyOf Try.f64) (bodyQ Try.prog Try.f64.results.toList K) (argsE [a0, a1]) h := by kernel_rfl
theorem F64_wf : (wf Try.f64.ntmps ann64 (bodyOf Try.f64) && Nat.ble Try.f64.ntmps ghost && !memN (writes (bodyOf Try.f64)) ghost) = true := by kernel_rfl
theorem F64_b : Try.f64.body.isSome = true := by kernel_rfl
theorem F64_n : (Try.f64.name == "runtime.NumGoroutine") = false := by kernel_rfl
theorem R64 (args : Array Value) (w : World) : (callFunc 64 args).run Try.prog w = .ok (.enter 64 args) w := callFunc_run Try.func64 F64_b F64_n args w
theorem S64 {a0 a1 : Value} {h : Heap} {K : Value → Heap → Prop} (H : F64 a0 a1 h K) : CallF Try.prog 64 #[a0, a1] h K :=
  callF_of_W mo Try.func64 F64_b F64_n F64_wf (args := [a0, a1]) rfl (F64_eq a0 a1 h K ▸ H)

end Go.Proofs.Ytoefeflmcggbkaa
