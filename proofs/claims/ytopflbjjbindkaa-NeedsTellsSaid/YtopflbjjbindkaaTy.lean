import Derived.Test.YtopflbjjbindkaaHpL
import Derived.Test.YtopflbjjbindkaaProg
set_option linter.unusedVariables false
set_option linter.unusedSimpArgs false
namespace Go.Proofs.Ytopflbjjbindkaa
open Go.Hp

theorem size3 : (Try.prog.info? 3).map (·.size) = some 1 := by kernel_rfl
theorem size4 : (Try.prog.info? 4).map (·.size) = some 1 := by kernel_rfl
theorem size9 : (Try.prog.info? 9).map (·.size) = some 1 := by kernel_rfl
theorem size22 : (Try.prog.info? 22).map (·.size) = some 1 := by kernel_rfl
theorem size23 : (Try.prog.info? 23).map (·.size) = some 1 := by kernel_rfl
theorem size28 : (Try.prog.info? 28).map (·.size) = some 1 := by kernel_rfl
theorem size33 : (Try.prog.info? 33).map (·.size) = some 1 := by kernel_rfl
theorem size48 : (Try.prog.info? 48).map (·.size) = some 4 := by kernel_rfl
theorem size66 : (Try.prog.info? 66).map (·.size) = some 6 := by kernel_rfl
theorem size67 : (Try.prog.info? 67).map (·.size) = some 4 := by kernel_rfl
theorem size76 : (Try.prog.info? 76).map (·.size) = some 1 := by kernel_rfl
theorem zq3 : (Try.prog.info? 3).bind (·.zero) = some (.int .i64 0) := by kernel_rfl
theorem zq33 : (Try.prog.info? 33).bind (·.zero) = some (.slice none 0 0) := by kernel_rfl
theorem zq48 : (Try.prog.info? 48).bind (·.zero) = some (.agg #[.int .i64 0, .int .i64 0, .int .i64 0, .int .i64 0]) := by kernel_rfl
theorem zq66 : (Try.prog.info? 66).bind (·.zero) = some (.agg #[str [], str [], str [], .bool false, .bool false, .int .i64 0]) := by kernel_rfl
theorem zq67 : (Try.prog.info? 67).bind (·.zero) = some (.agg #[.int .i64 0, .int .i64 0, .int .i64 0, .int .i64 0]) := by kernel_rfl
theorem zq76 : (Try.prog.info? 76).bind (·.zero) = some (.slice none 0 0) := by kernel_rfl
theorem ld3 : ∀ {h : Heap} {b o : Nat} {v : Value} (hc : cellH h b o = some v) (K : Value → Heap → Prop), RunV Try.prog (Instr.loadAt 3 (.pointer (some ⟨b, o, none⟩))) h K = K v h :=
  fun hc K => m_load Try.underlying3 rfl hc K
theorem qld3 : ∀ {C : Heap → Prop} {h0 : Heap} {b o : Nat} {v : Value} (hC : C h0) (hc : ∀ h', C h' → cellH h' b o = some v) (K : Value → Prop), QV Try.prog C (Instr.loadAt 3 (.pointer (some ⟨b, o, none⟩))) K = K v :=
  fun hC hc K => q_m_load hC Try.underlying3 rfl hc K
theorem ld4 : ∀ {h : Heap} {b o : Nat} {v : Value} (hc : cellH h b o = some v) (K : Value → Heap → Prop), RunV Try.prog (Instr.loadAt 4 (.pointer (some ⟨b, o, none⟩))) h K = K v h :=
  fun hc K => m_load Try.underlying4 rfl hc K
theorem qld4 : ∀ {C : Heap → Prop} {h0 : Heap} {b o : Nat} {v : Value} (hC : C h0) (hc : ∀ h', C h' → cellH h' b o = some v) (K : Value → Prop), QV Try.prog C (Instr.loadAt 4 (.pointer (some ⟨b, o, none⟩))) K = K v :=
  fun hC hc K => q_m_load hC Try.underlying4 rfl hc K
theorem ld22 : ∀ {h : Heap} {b o : Nat} {v : Value} (hc : cellH h b o = some v) (K : Value → Heap → Prop), RunV Try.prog (Instr.loadAt 22 (.pointer (some ⟨b, o, none⟩))) h K = K v h :=
  fun hc K => m_load Try.underlying22 rfl hc K
theorem qld22 : ∀ {C : Heap → Prop} {h0 : Heap} {b o : Nat} {v : Value} (hC : C h0) (hc : ∀ h', C h' → cellH h' b o = some v) (K : Value → Prop), QV Try.prog C (Instr.loadAt 22 (.pointer (some ⟨b, o, none⟩))) K = K v :=
  fun hC hc K => q_m_load hC Try.underlying22 rfl hc K
theorem ld23 : ∀ {h : Heap} {b o : Nat} {v : Value} (hc : cellH h b o = some v) (K : Value → Heap → Prop), RunV Try.prog (Instr.loadAt 23 (.pointer (some ⟨b, o, none⟩))) h K = K v h :=
  fun hc K => m_load Try.underlying23 rfl hc K
theorem qld23 : ∀ {C : Heap → Prop} {h0 : Heap} {b o : Nat} {v : Value} (hC : C h0) (hc : ∀ h', C h' → cellH h' b o = some v) (K : Value → Prop), QV Try.prog C (Instr.loadAt 23 (.pointer (some ⟨b, o, none⟩))) K = K v :=
  fun hC hc K => q_m_load hC Try.underlying23 rfl hc K
theorem ld28 : ∀ {h : Heap} {b o : Nat} {v : Value} (hc : cellH h b o = some v) (K : Value → Heap → Prop), RunV Try.prog (Instr.loadAt 28 (.pointer (some ⟨b, o, none⟩))) h K = K v h :=
  fun hc K => m_load Try.underlying28 rfl hc K
theorem qld28 : ∀ {C : Heap → Prop} {h0 : Heap} {b o : Nat} {v : Value} (hC : C h0) (hc : ∀ h', C h' → cellH h' b o = some v) (K : Value → Prop), QV Try.prog C (Instr.loadAt 28 (.pointer (some ⟨b, o, none⟩))) K = K v :=
  fun hC hc K => q_m_load hC Try.underlying28 rfl hc K
theorem ld33 : ∀ {h : Heap} {b o : Nat} {v : Value} (hc : cellH h b o = some v) (K : Value → Heap → Prop), RunV Try.prog (Instr.loadAt 33 (.pointer (some ⟨b, o, none⟩))) h K = K v h :=
  fun hc K => m_load Try.underlying33 rfl hc K
theorem qld33 : ∀ {C : Heap → Prop} {h0 : Heap} {b o : Nat} {v : Value} (hC : C h0) (hc : ∀ h', C h' → cellH h' b o = some v) (K : Value → Prop), QV Try.prog C (Instr.loadAt 33 (.pointer (some ⟨b, o, none⟩))) K = K v :=
  fun hC hc K => q_m_load hC Try.underlying33 rfl hc K
theorem ld38 : ∀ {h : Heap} {b o : Nat} {v : Value} (hc : cellH h b o = some v) (K : Value → Heap → Prop), RunV Try.prog (Instr.loadAt 38 (.pointer (some ⟨b, o, none⟩))) h K = K v h :=
  fun hc K => m_load Try.underlying38 rfl hc K
theorem qld38 : ∀ {C : Heap → Prop} {h0 : Heap} {b o : Nat} {v : Value} (hC : C h0) (hc : ∀ h', C h' → cellH h' b o = some v) (K : Value → Prop), QV Try.prog C (Instr.loadAt 38 (.pointer (some ⟨b, o, none⟩))) K = K v :=
  fun hC hc K => q_m_load hC Try.underlying38 rfl hc K
theorem ld46 : ∀ {h : Heap} {b o : Nat} {v : Value} (hc : cellH h b o = some v) (K : Value → Heap → Prop), RunV Try.prog (Instr.loadAt 46 (.pointer (some ⟨b, o, none⟩))) h K = K v h :=
  fun hc K => m_load Try.underlying46 rfl hc K
theorem qld46 : ∀ {C : Heap → Prop} {h0 : Heap} {b o : Nat} {v : Value} (hC : C h0) (hc : ∀ h', C h' → cellH h' b o = some v) (K : Value → Prop), QV Try.prog C (Instr.loadAt 46 (.pointer (some ⟨b, o, none⟩))) K = K v :=
  fun hC hc K => q_m_load hC Try.underlying46 rfl hc K
theorem ld76 : ∀ {h : Heap} {b o : Nat} {v : Value} (hc : cellH h b o = some v) (K : Value → Heap → Prop), RunV Try.prog (Instr.loadAt 76 (.pointer (some ⟨b, o, none⟩))) h K = K v h :=
  fun hc K => m_load Try.underlying76 rfl hc K
theorem qld76 : ∀ {C : Heap → Prop} {h0 : Heap} {b o : Nat} {v : Value} (hC : C h0) (hc : ∀ h', C h' → cellH h' b o = some v) (K : Value → Prop), QV Try.prog C (Instr.loadAt 76 (.pointer (some ⟨b, o, none⟩))) K = K v :=
  fun hC hc K => q_m_load hC Try.underlying76 rfl hc K
theorem st3 : ∀ {h : Heap} {b o : Nat} {v : Value} (hv : plainV v = true) (hc : okW h b o = true) (K : Heap → Prop), RunU Try.prog (Instr.storeAt 3 (.pointer (some ⟨b, o, none⟩)) v) h K = K (setH h b o v) :=
  fun hv hc K => m_store size3 hv hc K
theorem st4 : ∀ {h : Heap} {b o : Nat} {v : Value} (hv : plainV v = true) (hc : okW h b o = true) (K : Heap → Prop), RunU Try.prog (Instr.storeAt 4 (.pointer (some ⟨b, o, none⟩)) v) h K = K (setH h b o v) :=
  fun hv hc K => m_store size4 hv hc K
theorem st28 : ∀ {h : Heap} {b o : Nat} {v : Value} (hv : plainV v = true) (hc : okW h b o = true) (K : Heap → Prop), RunU Try.prog (Instr.storeAt 28 (.pointer (some ⟨b, o, none⟩)) v) h K = K (setH h b o v) :=
  fun hv hc K => m_store size28 hv hc K
theorem st33 : ∀ {h : Heap} {b o : Nat} {v : Value} (hv : plainV v = true) (hc : okW h b o = true) (K : Heap → Prop), RunU Try.prog (Instr.storeAt 33 (.pointer (some ⟨b, o, none⟩)) v) h K = K (setH h b o v) :=
  fun hv hc K => m_store size33 hv hc K
theorem fa25_0 : ∀ {h : Heap} (b o : Nat) (K : Value → Heap → Prop), RunV Try.prog (Instr.fieldAt 25 (.pointer (some ⟨b, o, none⟩)) 0) h K = K (.pointer (some ⟨b, o, none⟩)) h :=
  fun b o K => m_field Try.underlying25 0 22 0 rfl size22 b o K
theorem qfa25_0 : ∀ {C : Heap → Prop} {h0 : Heap} (hC : C h0) (b o : Nat) (K : Value → Prop), QV Try.prog C (Instr.fieldAt 25 (.pointer (some ⟨b, o, none⟩)) 0) K = K (.pointer (some ⟨b, o, none⟩)) :=
  fun hC b o K => q_m_field hC Try.underlying25 0 22 0 rfl size22 b o K
theorem fa25_1 : ∀ {h : Heap} (b o : Nat) (K : Value → Heap → Prop), RunV Try.prog (Instr.fieldAt 25 (.pointer (some ⟨b, o, none⟩)) 1) h K = K (.pointer (some ⟨b, o + 1, none⟩)) h :=
  fun b o K => m_field Try.underlying25 1 23 1 rfl size23 b o K
theorem qfa25_1 : ∀ {C : Heap → Prop} {h0 : Heap} (hC : C h0) (b o : Nat) (K : Value → Prop), QV Try.prog C (Instr.fieldAt 25 (.pointer (some ⟨b, o, none⟩)) 1) K = K (.pointer (some ⟨b, o + 1, none⟩)) :=
  fun hC b o K => q_m_field hC Try.underlying25 1 23 1 rfl size23 b o K
theorem fa30_0 : ∀ {h : Heap} (b o : Nat) (K : Value → Heap → Prop), RunV Try.prog (Instr.fieldAt 30 (.pointer (some ⟨b, o, none⟩)) 0) h K = K (.pointer (some ⟨b, o, none⟩)) h :=
  fun b o K => m_field Try.underlying30 0 22 0 rfl size22 b o K
theorem qfa30_0 : ∀ {C : Heap → Prop} {h0 : Heap} (hC : C h0) (b o : Nat) (K : Value → Prop), QV Try.prog C (Instr.fieldAt 30 (.pointer (some ⟨b, o, none⟩)) 0) K = K (.pointer (some ⟨b, o, none⟩)) :=
  fun hC b o K => q_m_field hC Try.underlying30 0 22 0 rfl size22 b o K
theorem fa30_1 : ∀ {h : Heap} (b o : Nat) (K : Value → Heap → Prop), RunV Try.prog (Instr.fieldAt 30 (.pointer (some ⟨b, o, none⟩)) 1) h K = K (.pointer (some ⟨b, o + 1, none⟩)) h :=
  fun b o K => m_field Try.underlying30 1 28 1 rfl size28 b o K
theorem qfa30_1 : ∀ {C : Heap → Prop} {h0 : Heap} (hC : C h0) (b o : Nat) (K : Value → Prop), QV Try.prog C (Instr.fieldAt 30 (.pointer (some ⟨b, o, none⟩)) 1) K = K (.pointer (some ⟨b, o + 1, none⟩)) :=
  fun hC b o K => q_m_field hC Try.underlying30 1 28 1 rfl size28 b o K
theorem fa48_0 : ∀ {h : Heap} (b o : Nat) (K : Value → Heap → Prop), RunV Try.prog (Instr.fieldAt 48 (.pointer (some ⟨b, o, none⟩)) 0) h K = K (.pointer (some ⟨b, o, none⟩)) h :=
  fun b o K => m_field Try.underlying48 0 3 0 rfl size3 b o K
theorem qfa48_0 : ∀ {C : Heap → Prop} {h0 : Heap} (hC : C h0) (b o : Nat) (K : Value → Prop), QV Try.prog C (Instr.fieldAt 48 (.pointer (some ⟨b, o, none⟩)) 0) K = K (.pointer (some ⟨b, o, none⟩)) :=
  fun hC b o K => q_m_field hC Try.underlying48 0 3 0 rfl size3 b o K
theorem fa48_1 : ∀ {h : Heap} (b o : Nat) (K : Value → Heap → Prop), RunV Try.prog (Instr.fieldAt 48 (.pointer (some ⟨b, o, none⟩)) 1) h K = K (.pointer (some ⟨b, o + 1, none⟩)) h :=
  fun b o K => m_field Try.underlying48 1 3 1 rfl size3 b o K
theorem qfa48_1 : ∀ {C : Heap → Prop} {h0 : Heap} (hC : C h0) (b o : Nat) (K : Value → Prop), QV Try.prog C (Instr.fieldAt 48 (.pointer (some ⟨b, o, none⟩)) 1) K = K (.pointer (some ⟨b, o + 1, none⟩)) :=
  fun hC b o K => q_m_field hC Try.underlying48 1 3 1 rfl size3 b o K
theorem fa48_2 : ∀ {h : Heap} (b o : Nat) (K : Value → Heap → Prop), RunV Try.prog (Instr.fieldAt 48 (.pointer (some ⟨b, o, none⟩)) 2) h K = K (.pointer (some ⟨b, o + 2, none⟩)) h :=
  fun b o K => m_field Try.underlying48 2 3 2 rfl size3 b o K
theorem qfa48_2 : ∀ {C : Heap → Prop} {h0 : Heap} (hC : C h0) (b o : Nat) (K : Value → Prop), QV Try.prog C (Instr.fieldAt 48 (.pointer (some ⟨b, o, none⟩)) 2) K = K (.pointer (some ⟨b, o + 2, none⟩)) :=
  fun hC b o K => q_m_field hC Try.underlying48 2 3 2 rfl size3 b o K
theorem fa48_3 : ∀ {h : Heap} (b o : Nat) (K : Value → Heap → Prop), RunV Try.prog (Instr.fieldAt 48 (.pointer (some ⟨b, o, none⟩)) 3) h K = K (.pointer (some ⟨b, o + 3, none⟩)) h :=
  fun b o K => m_field Try.underlying48 3 3 3 rfl size3 b o K
theorem qfa48_3 : ∀ {C : Heap → Prop} {h0 : Heap} (hC : C h0) (b o : Nat) (K : Value → Prop), QV Try.prog C (Instr.fieldAt 48 (.pointer (some ⟨b, o, none⟩)) 3) K = K (.pointer (some ⟨b, o + 3, none⟩)) :=
  fun hC b o K => q_m_field hC Try.underlying48 3 3 3 rfl size3 b o K
theorem fa66_3 : ∀ {h : Heap} (b o : Nat) (K : Value → Heap → Prop), RunV Try.prog (Instr.fieldAt 66 (.pointer (some ⟨b, o, none⟩)) 3) h K = K (.pointer (some ⟨b, o + 3, none⟩)) h :=
  fun b o K => m_field Try.underlying66 3 4 3 rfl size4 b o K
theorem qfa66_3 : ∀ {C : Heap → Prop} {h0 : Heap} (hC : C h0) (b o : Nat) (K : Value → Prop), QV Try.prog C (Instr.fieldAt 66 (.pointer (some ⟨b, o, none⟩)) 3) K = K (.pointer (some ⟨b, o + 3, none⟩)) :=
  fun hC b o K => q_m_field hC Try.underlying66 3 4 3 rfl size4 b o K
theorem fa66_5 : ∀ {h : Heap} (b o : Nat) (K : Value → Heap → Prop), RunV Try.prog (Instr.fieldAt 66 (.pointer (some ⟨b, o, none⟩)) 5) h K = K (.pointer (some ⟨b, o + 5, none⟩)) h :=
  fun b o K => m_field Try.underlying66 5 3 5 rfl size3 b o K
theorem qfa66_5 : ∀ {C : Heap → Prop} {h0 : Heap} (hC : C h0) (b o : Nat) (K : Value → Prop), QV Try.prog C (Instr.fieldAt 66 (.pointer (some ⟨b, o, none⟩)) 5) K = K (.pointer (some ⟨b, o + 5, none⟩)) :=
  fun hC b o K => q_m_field hC Try.underlying66 5 3 5 rfl size3 b o K
theorem fa67_0 : ∀ {h : Heap} (b o : Nat) (K : Value → Heap → Prop), RunV Try.prog (Instr.fieldAt 67 (.pointer (some ⟨b, o, none⟩)) 0) h K = K (.pointer (some ⟨b, o, none⟩)) h :=
  fun b o K => m_field Try.underlying67 0 3 0 rfl size3 b o K
theorem qfa67_0 : ∀ {C : Heap → Prop} {h0 : Heap} (hC : C h0) (b o : Nat) (K : Value → Prop), QV Try.prog C (Instr.fieldAt 67 (.pointer (some ⟨b, o, none⟩)) 0) K = K (.pointer (some ⟨b, o, none⟩)) :=
  fun hC b o K => q_m_field hC Try.underlying67 0 3 0 rfl size3 b o K
theorem fa67_1 : ∀ {h : Heap} (b o : Nat) (K : Value → Heap → Prop), RunV Try.prog (Instr.fieldAt 67 (.pointer (some ⟨b, o, none⟩)) 1) h K = K (.pointer (some ⟨b, o + 1, none⟩)) h :=
  fun b o K => m_field Try.underlying67 1 3 1 rfl size3 b o K
theorem qfa67_1 : ∀ {C : Heap → Prop} {h0 : Heap} (hC : C h0) (b o : Nat) (K : Value → Prop), QV Try.prog C (Instr.fieldAt 67 (.pointer (some ⟨b, o, none⟩)) 1) K = K (.pointer (some ⟨b, o + 1, none⟩)) :=
  fun hC b o K => q_m_field hC Try.underlying67 1 3 1 rfl size3 b o K
theorem fa67_2 : ∀ {h : Heap} (b o : Nat) (K : Value → Heap → Prop), RunV Try.prog (Instr.fieldAt 67 (.pointer (some ⟨b, o, none⟩)) 2) h K = K (.pointer (some ⟨b, o + 2, none⟩)) h :=
  fun b o K => m_field Try.underlying67 2 3 2 rfl size3 b o K
theorem qfa67_2 : ∀ {C : Heap → Prop} {h0 : Heap} (hC : C h0) (b o : Nat) (K : Value → Prop), QV Try.prog C (Instr.fieldAt 67 (.pointer (some ⟨b, o, none⟩)) 2) K = K (.pointer (some ⟨b, o + 2, none⟩)) :=
  fun hC b o K => q_m_field hC Try.underlying67 2 3 2 rfl size3 b o K
theorem fa67_3 : ∀ {h : Heap} (b o : Nat) (K : Value → Heap → Prop), RunV Try.prog (Instr.fieldAt 67 (.pointer (some ⟨b, o, none⟩)) 3) h K = K (.pointer (some ⟨b, o + 3, none⟩)) h :=
  fun b o K => m_field Try.underlying67 3 3 3 rfl size3 b o K
theorem qfa67_3 : ∀ {C : Heap → Prop} {h0 : Heap} (hC : C h0) (b o : Nat) (K : Value → Prop), QV Try.prog C (Instr.fieldAt 67 (.pointer (some ⟨b, o, none⟩)) 3) K = K (.pointer (some ⟨b, o + 3, none⟩)) :=
  fun hC b o K => q_m_field hC Try.underlying67 3 3 3 rfl size3 b o K
theorem ix22 : ∀ {h : Heap} (b o len cap : Nat) (i : Int) (h0 : 0 ≤ i) (h1 : i < (len : Int)) (K : Value → Heap → Prop), RunV Try.prog (Instr.indexAt 22 (.slice (some ⟨b, o, none⟩) len cap) (.int .i64 i)) h K = K (.pointer (some ⟨b, o + i.toNat * 6, none⟩)) h :=
  fun b o len cap i h0 h1 K => m_index Try.underlying22 size66 b o len cap i h0 h1 K
theorem qix22 : ∀ {C : Heap → Prop} {h0 : Heap} (hC : C h0) (b o len cap : Nat) (i : Int) (h0 : 0 ≤ i) (h1 : i < (len : Int)) (K : Value → Prop), QV Try.prog C (Instr.indexAt 22 (.slice (some ⟨b, o, none⟩) len cap) (.int .i64 i)) K = K (.pointer (some ⟨b, o + i.toNat * 6, none⟩)) :=
  fun hC b o len cap i h0 h1 K => q_m_index hC Try.underlying22 size66 b o len cap i h0 h1 K
theorem ix23 : ∀ {h : Heap} (b o len cap : Nat) (i : Int) (h0 : 0 ≤ i) (h1 : i < (len : Int)) (K : Value → Heap → Prop), RunV Try.prog (Instr.indexAt 23 (.slice (some ⟨b, o, none⟩) len cap) (.int .i64 i)) h K = K (.pointer (some ⟨b, o + i.toNat * 4, none⟩)) h :=
  fun b o len cap i h0 h1 K => m_index Try.underlying23 size48 b o len cap i h0 h1 K
theorem qix23 : ∀ {C : Heap → Prop} {h0 : Heap} (hC : C h0) (b o len cap : Nat) (i : Int) (h0 : 0 ≤ i) (h1 : i < (len : Int)) (K : Value → Prop), QV Try.prog C (Instr.indexAt 23 (.slice (some ⟨b, o, none⟩) len cap) (.int .i64 i)) K = K (.pointer (some ⟨b, o + i.toNat * 4, none⟩)) :=
  fun hC b o len cap i h0 h1 K => q_m_index hC Try.underlying23 size48 b o len cap i h0 h1 K
theorem ix28 : ∀ {h : Heap} (b o len cap : Nat) (i : Int) (h0 : 0 ≤ i) (h1 : i < (len : Int)) (K : Value → Heap → Prop), RunV Try.prog (Instr.indexAt 28 (.slice (some ⟨b, o, none⟩) len cap) (.int .i64 i)) h K = K (.pointer (some ⟨b, o + i.toNat * 4, none⟩)) h :=
  fun b o len cap i h0 h1 K => m_index Try.underlying28 size67 b o len cap i h0 h1 K
theorem qix28 : ∀ {C : Heap → Prop} {h0 : Heap} (hC : C h0) (b o len cap : Nat) (i : Int) (h0 : 0 ≤ i) (h1 : i < (len : Int)) (K : Value → Prop), QV Try.prog C (Instr.indexAt 28 (.slice (some ⟨b, o, none⟩) len cap) (.int .i64 i)) K = K (.pointer (some ⟨b, o + i.toNat * 4, none⟩)) :=
  fun hC b o len cap i h0 h1 K => q_m_index hC Try.underlying28 size67 b o len cap i h0 h1 K
theorem ix33 : ∀ {h : Heap} (b o len cap : Nat) (i : Int) (h0 : 0 ≤ i) (h1 : i < (len : Int)) (K : Value → Heap → Prop), RunV Try.prog (Instr.indexAt 33 (.slice (some ⟨b, o, none⟩) len cap) (.int .i64 i)) h K = K (.pointer (some ⟨b, o + i.toNat, none⟩)) h :=
  fun b o len cap i h0 h1 K => (m_index Try.underlying33 size3 b o len cap i h0 h1 K).trans (by rw [Nat.mul_one])
theorem qix33 : ∀ {C : Heap → Prop} {h0 : Heap} (hC : C h0) (b o len cap : Nat) (i : Int) (h0 : 0 ≤ i) (h1 : i < (len : Int)) (K : Value → Prop), QV Try.prog C (Instr.indexAt 33 (.slice (some ⟨b, o, none⟩) len cap) (.int .i64 i)) K = K (.pointer (some ⟨b, o + i.toNat, none⟩)) :=
  fun hC b o len cap i h0 h1 K => (q_m_index hC Try.underlying33 size3 b o len cap i h0 h1 K).trans (by rw [Nat.mul_one])
theorem ix37 : ∀ {h : Heap} (b o len cap : Nat) (i : Int) (h0 : 0 ≤ i) (h1 : i < (len : Int)) (K : Value → Heap → Prop), RunV Try.prog (Instr.indexAt 37 (.slice (some ⟨b, o, none⟩) len cap) (.int .i64 i)) h K = K (.pointer (some ⟨b, o + i.toNat, none⟩)) h :=
  fun b o len cap i h0 h1 K => (m_index Try.underlying37 size33 b o len cap i h0 h1 K).trans (by rw [Nat.mul_one])
theorem qix37 : ∀ {C : Heap → Prop} {h0 : Heap} (hC : C h0) (b o len cap : Nat) (i : Int) (h0 : 0 ≤ i) (h1 : i < (len : Int)) (K : Value → Prop), QV Try.prog C (Instr.indexAt 37 (.slice (some ⟨b, o, none⟩) len cap) (.int .i64 i)) K = K (.pointer (some ⟨b, o + i.toNat, none⟩)) :=
  fun hC b o len cap i h0 h1 K => (q_m_index hC Try.underlying37 size33 b o len cap i h0 h1 K).trans (by rw [Nat.mul_one])
theorem ix38 : ∀ {h : Heap} (b o len cap : Nat) (i : Int) (h0 : 0 ≤ i) (h1 : i < (len : Int)) (K : Value → Heap → Prop), RunV Try.prog (Instr.indexAt 38 (.slice (some ⟨b, o, none⟩) len cap) (.int .i64 i)) h K = K (.pointer (some ⟨b, o + i.toNat, none⟩)) h :=
  fun b o len cap i h0 h1 K => (m_index Try.underlying38 size33 b o len cap i h0 h1 K).trans (by rw [Nat.mul_one])
theorem qix38 : ∀ {C : Heap → Prop} {h0 : Heap} (hC : C h0) (b o len cap : Nat) (i : Int) (h0 : 0 ≤ i) (h1 : i < (len : Int)) (K : Value → Prop), QV Try.prog C (Instr.indexAt 38 (.slice (some ⟨b, o, none⟩) len cap) (.int .i64 i)) K = K (.pointer (some ⟨b, o + i.toNat, none⟩)) :=
  fun hC b o len cap i h0 h1 K => (q_m_index hC Try.underlying38 size33 b o len cap i h0 h1 K).trans (by rw [Nat.mul_one])
theorem ix74 : ∀ {h : Heap} (b o len cap : Nat) (i : Int) (h0 : 0 ≤ i) (h1 : i < (len : Int)) (K : Value → Heap → Prop), RunV Try.prog (Instr.indexAt 74 (.slice (some ⟨b, o, none⟩) len cap) (.int .i64 i)) h K = K (.pointer (some ⟨b, o + i.toNat, none⟩)) h :=
  fun b o len cap i h0 h1 K => (m_index Try.underlying74 size76 b o len cap i h0 h1 K).trans (by rw [Nat.mul_one])
theorem qix74 : ∀ {C : Heap → Prop} {h0 : Heap} (hC : C h0) (b o len cap : Nat) (i : Int) (h0 : 0 ≤ i) (h1 : i < (len : Int)) (K : Value → Prop), QV Try.prog C (Instr.indexAt 74 (.slice (some ⟨b, o, none⟩) len cap) (.int .i64 i)) K = K (.pointer (some ⟨b, o + i.toNat, none⟩)) :=
  fun hC b o len cap i h0 h1 K => (q_m_index hC Try.underlying74 size76 b o len cap i h0 h1 K).trans (by rw [Nat.mul_one])
theorem ix76 : ∀ {h : Heap} (b o len cap : Nat) (i : Int) (h0 : 0 ≤ i) (h1 : i < (len : Int)) (K : Value → Heap → Prop), RunV Try.prog (Instr.indexAt 76 (.slice (some ⟨b, o, none⟩) len cap) (.int .i64 i)) h K = K (.pointer (some ⟨b, o + i.toNat, none⟩)) h :=
  fun b o len cap i h0 h1 K => (m_index Try.underlying76 size4 b o len cap i h0 h1 K).trans (by rw [Nat.mul_one])
theorem qix76 : ∀ {C : Heap → Prop} {h0 : Heap} (hC : C h0) (b o len cap : Nat) (i : Int) (h0 : 0 ≤ i) (h1 : i < (len : Int)) (K : Value → Prop), QV Try.prog C (Instr.indexAt 76 (.slice (some ⟨b, o, none⟩) len cap) (.int .i64 i)) K = K (.pointer (some ⟨b, o + i.toNat, none⟩)) :=
  fun hC b o len cap i h0 h1 K => (q_m_index hC Try.underlying76 size4 b o len cap i h0 h1 K).trans (by rw [Nat.mul_one])
theorem ln22 : ∀ {h : Heap} (ty : TypeId) (c : Array Bool) (a : Option Addr) (n k : Nat) (K : Value → Heap → Prop), OpN Try.prog (Go.builtin .len #[22] ty c #[.slice a n k]) h K = K (.int .i64 n) h :=
  fun ty c a n k K => l_len Try.underlying22 ty c a n k K
theorem qln22 : ∀ {C : Heap → Prop} {h0 : Heap} (hC : C h0) (ty : TypeId) (c : Array Bool) (a : Option Addr) (n k : Nat) (K : Value → Prop), QB Try.prog C (Go.builtin .len #[22] ty c #[.slice a n k]) K = K (.int .i64 n) :=
  fun hC ty c a n k K => q_l_len hC Try.underlying22 ty c a n k K
theorem ln23 : ∀ {h : Heap} (ty : TypeId) (c : Array Bool) (a : Option Addr) (n k : Nat) (K : Value → Heap → Prop), OpN Try.prog (Go.builtin .len #[23] ty c #[.slice a n k]) h K = K (.int .i64 n) h :=
  fun ty c a n k K => l_len Try.underlying23 ty c a n k K
theorem qln23 : ∀ {C : Heap → Prop} {h0 : Heap} (hC : C h0) (ty : TypeId) (c : Array Bool) (a : Option Addr) (n k : Nat) (K : Value → Prop), QB Try.prog C (Go.builtin .len #[23] ty c #[.slice a n k]) K = K (.int .i64 n) :=
  fun hC ty c a n k K => q_l_len hC Try.underlying23 ty c a n k K
theorem ln28 : ∀ {h : Heap} (ty : TypeId) (c : Array Bool) (a : Option Addr) (n k : Nat) (K : Value → Heap → Prop), OpN Try.prog (Go.builtin .len #[28] ty c #[.slice a n k]) h K = K (.int .i64 n) h :=
  fun ty c a n k K => l_len Try.underlying28 ty c a n k K
theorem qln28 : ∀ {C : Heap → Prop} {h0 : Heap} (hC : C h0) (ty : TypeId) (c : Array Bool) (a : Option Addr) (n k : Nat) (K : Value → Prop), QB Try.prog C (Go.builtin .len #[28] ty c #[.slice a n k]) K = K (.int .i64 n) :=
  fun hC ty c a n k K => q_l_len hC Try.underlying28 ty c a n k K
theorem ln33 : ∀ {h : Heap} (ty : TypeId) (c : Array Bool) (a : Option Addr) (n k : Nat) (K : Value → Heap → Prop), OpN Try.prog (Go.builtin .len #[33] ty c #[.slice a n k]) h K = K (.int .i64 n) h :=
  fun ty c a n k K => l_len Try.underlying33 ty c a n k K
theorem qln33 : ∀ {C : Heap → Prop} {h0 : Heap} (hC : C h0) (ty : TypeId) (c : Array Bool) (a : Option Addr) (n k : Nat) (K : Value → Prop), QB Try.prog C (Go.builtin .len #[33] ty c #[.slice a n k]) K = K (.int .i64 n) :=
  fun hC ty c a n k K => q_l_len hC Try.underlying33 ty c a n k K
theorem ln37 : ∀ {h : Heap} (ty : TypeId) (c : Array Bool) (a : Option Addr) (n k : Nat) (K : Value → Heap → Prop), OpN Try.prog (Go.builtin .len #[37] ty c #[.slice a n k]) h K = K (.int .i64 n) h :=
  fun ty c a n k K => l_len Try.underlying37 ty c a n k K
theorem qln37 : ∀ {C : Heap → Prop} {h0 : Heap} (hC : C h0) (ty : TypeId) (c : Array Bool) (a : Option Addr) (n k : Nat) (K : Value → Prop), QB Try.prog C (Go.builtin .len #[37] ty c #[.slice a n k]) K = K (.int .i64 n) :=
  fun hC ty c a n k K => q_l_len hC Try.underlying37 ty c a n k K
theorem ln38 : ∀ {h : Heap} (ty : TypeId) (c : Array Bool) (a : Option Addr) (n k : Nat) (K : Value → Heap → Prop), OpN Try.prog (Go.builtin .len #[38] ty c #[.slice a n k]) h K = K (.int .i64 n) h :=
  fun ty c a n k K => l_len Try.underlying38 ty c a n k K
theorem qln38 : ∀ {C : Heap → Prop} {h0 : Heap} (hC : C h0) (ty : TypeId) (c : Array Bool) (a : Option Addr) (n k : Nat) (K : Value → Prop), QB Try.prog C (Go.builtin .len #[38] ty c #[.slice a n k]) K = K (.int .i64 n) :=
  fun hC ty c a n k K => q_l_len hC Try.underlying38 ty c a n k K
theorem ln76 : ∀ {h : Heap} (ty : TypeId) (c : Array Bool) (a : Option Addr) (n k : Nat) (K : Value → Heap → Prop), OpN Try.prog (Go.builtin .len #[76] ty c #[.slice a n k]) h K = K (.int .i64 n) h :=
  fun ty c a n k K => l_len Try.underlying76 ty c a n k K
theorem qln76 : ∀ {C : Heap → Prop} {h0 : Heap} (hC : C h0) (ty : TypeId) (c : Array Bool) (a : Option Addr) (n k : Nat) (K : Value → Prop), QB Try.prog C (Go.builtin .len #[76] ty c #[.slice a n k]) K = K (.int .i64 n) :=
  fun hC ty c a n k K => q_l_len hC Try.underlying76 ty c a n k K
theorem bd25_0_1 : ∀ {h : Heap} {v0 v1 : Value} (h0 : plainV v0 = true) (h1 : plainV v1 = true) (K : Value → Heap → Prop), RunV Try.prog (Instr.build 25 #[(0, v0), (1, v1)]) h K = K (.agg #[v0, v1]) h := by
    intro h v0 v1 h0 h1 K
    refine RunV_pure fun w hw => ?_
    unfold Instr.build; simp only [Sem.run_bind, Try.zeroValue25, run_underlying Try.underlying25, Result.andThen_ok]; simp [sizeOf_run size22, sizeOf_run size23, Instr.fill, cells_agg, plain_cells h0, plain_cells h1]; try rfl
theorem qbd25_0_1 : ∀ {C : Heap → Prop} {h0 : Heap} (hC : C h0) {v0 v1 : Value} (h0 : plainV v0 = true) (h1 : plainV v1 = true) (K : Value → Prop), QV Try.prog C (Instr.build 25 #[(0, v0), (1, v1)]) K = K (.agg #[v0, v1]) := by
    intro C h0 hC v0 v1 h0 h1 K
    refine QV_cls hC fun h' he w hw => ?_
    unfold Instr.build; simp only [Sem.run_bind, Try.zeroValue25, run_underlying Try.underlying25, Result.andThen_ok]; simp [sizeOf_run size22, sizeOf_run size23, Instr.fill, cells_agg, plain_cells h0, plain_cells h1]; try rfl
theorem bd30_0 : ∀ {h : Heap} {v0 : Value} (h0 : plainV v0 = true) (K : Value → Heap → Prop), RunV Try.prog (Instr.build 30 #[(0, v0)]) h K = K (.agg #[v0, .slice none 0 0]) h := by
    intro h v0 h0 K
    refine RunV_pure fun w hw => ?_
    unfold Instr.build; simp only [Sem.run_bind, Try.zeroValue30, run_underlying Try.underlying30, Result.andThen_ok]; simp [sizeOf_run size22, sizeOf_run size28, Instr.fill, cells_agg, plain_cells h0]; try rfl
theorem qbd30_0 : ∀ {C : Heap → Prop} {h0 : Heap} (hC : C h0) {v0 : Value} (h0 : plainV v0 = true) (K : Value → Prop), QV Try.prog C (Instr.build 30 #[(0, v0)]) K = K (.agg #[v0, .slice none 0 0]) := by
    intro C h0 hC v0 h0 K
    refine QV_cls hC fun h' he w hw => ?_
    unfold Instr.build; simp only [Sem.run_bind, Try.zeroValue30, run_underlying Try.underlying30, Result.andThen_ok]; simp [sizeOf_run size22, sizeOf_run size28, Instr.fill, cells_agg, plain_cells h0]; try rfl
theorem bd48_0_1_2 : ∀ {h : Heap} {v0 v1 v2 : Value} (h0 : plainV v0 = true) (h1 : plainV v1 = true) (h2 : plainV v2 = true) (K : Value → Heap → Prop), RunV Try.prog (Instr.build 48 #[(0, v0), (1, v1), (2, v2)]) h K = K (.agg #[v0, v1, v2, .int .i64 0]) h := by
    intro h v0 v1 v2 h0 h1 h2 K
    refine RunV_pure fun w hw => ?_
    unfold Instr.build; simp only [Sem.run_bind, Try.zeroValue48, run_underlying Try.underlying48, Result.andThen_ok]; simp [sizeOf_run size3, Instr.fill, cells_agg, plain_cells h0, plain_cells h1, plain_cells h2]; try rfl
theorem qbd48_0_1_2 : ∀ {C : Heap → Prop} {h0 : Heap} (hC : C h0) {v0 v1 v2 : Value} (h0 : plainV v0 = true) (h1 : plainV v1 = true) (h2 : plainV v2 = true) (K : Value → Prop), QV Try.prog C (Instr.build 48 #[(0, v0), (1, v1), (2, v2)]) K = K (.agg #[v0, v1, v2, .int .i64 0]) := by
    intro C h0 hC v0 v1 v2 h0 h1 h2 K
    refine QV_cls hC fun h' he w hw => ?_
    unfold Instr.build; simp only [Sem.run_bind, Try.zeroValue48, run_underlying Try.underlying48, Result.andThen_ok]; simp [sizeOf_run size3, Instr.fill, cells_agg, plain_cells h0, plain_cells h1, plain_cells h2]; try rfl
theorem bd48_0_1_2_3 : ∀ {h : Heap} {v0 v1 v2 v3 : Value} (h0 : plainV v0 = true) (h1 : plainV v1 = true) (h2 : plainV v2 = true) (h3 : plainV v3 = true) (K : Value → Heap → Prop), RunV Try.prog (Instr.build 48 #[(0, v0), (1, v1), (2, v2), (3, v3)]) h K = K (.agg #[v0, v1, v2, v3]) h := by
    intro h v0 v1 v2 v3 h0 h1 h2 h3 K
    refine RunV_pure fun w hw => ?_
    unfold Instr.build; simp only [Sem.run_bind, Try.zeroValue48, run_underlying Try.underlying48, Result.andThen_ok]; simp [sizeOf_run size3, Instr.fill, cells_agg, plain_cells h0, plain_cells h1, plain_cells h2, plain_cells h3]; try rfl
theorem qbd48_0_1_2_3 : ∀ {C : Heap → Prop} {h0 : Heap} (hC : C h0) {v0 v1 v2 v3 : Value} (h0 : plainV v0 = true) (h1 : plainV v1 = true) (h2 : plainV v2 = true) (h3 : plainV v3 = true) (K : Value → Prop), QV Try.prog C (Instr.build 48 #[(0, v0), (1, v1), (2, v2), (3, v3)]) K = K (.agg #[v0, v1, v2, v3]) := by
    intro C h0 hC v0 v1 v2 v3 h0 h1 h2 h3 K
    refine QV_cls hC fun h' he w hw => ?_
    unfold Instr.build; simp only [Sem.run_bind, Try.zeroValue48, run_underlying Try.underlying48, Result.andThen_ok]; simp [sizeOf_run size3, Instr.fill, cells_agg, plain_cells h0, plain_cells h1, plain_cells h2, plain_cells h3]; try rfl
theorem bd66_3_5 : ∀ {h : Heap} {v3 v5 : Value} (h3 : plainV v3 = true) (h5 : plainV v5 = true) (K : Value → Heap → Prop), RunV Try.prog (Instr.build 66 #[(3, v3), (5, v5)]) h K = K (.agg #[str [], str [], str [], v3, .bool false, v5]) h := by
    intro h v3 v5 h3 h5 K
    refine RunV_pure fun w hw => ?_
    unfold Instr.build; simp only [Sem.run_bind, Try.zeroValue66, run_underlying Try.underlying66, Result.andThen_ok]; simp [sizeOf_run size3, sizeOf_run size4, sizeOf_run size9, Instr.fill, cells_agg, plain_cells h3, plain_cells h5]; try rfl
theorem qbd66_3_5 : ∀ {C : Heap → Prop} {h0 : Heap} (hC : C h0) {v3 v5 : Value} (h3 : plainV v3 = true) (h5 : plainV v5 = true) (K : Value → Prop), QV Try.prog C (Instr.build 66 #[(3, v3), (5, v5)]) K = K (.agg #[str [], str [], str [], v3, .bool false, v5]) := by
    intro C h0 hC v3 v5 h3 h5 K
    refine QV_cls hC fun h' he w hw => ?_
    unfold Instr.build; simp only [Sem.run_bind, Try.zeroValue66, run_underlying Try.underlying66, Result.andThen_ok]; simp [sizeOf_run size3, sizeOf_run size4, sizeOf_run size9, Instr.fill, cells_agg, plain_cells h3, plain_cells h5]; try rfl
theorem bd66_5 : ∀ {h : Heap} {v5 : Value} (h5 : plainV v5 = true) (K : Value → Heap → Prop), RunV Try.prog (Instr.build 66 #[(5, v5)]) h K = K (.agg #[str [], str [], str [], .bool false, .bool false, v5]) h := by
    intro h v5 h5 K
    refine RunV_pure fun w hw => ?_
    unfold Instr.build; simp only [Sem.run_bind, Try.zeroValue66, run_underlying Try.underlying66, Result.andThen_ok]; simp [sizeOf_run size3, sizeOf_run size4, sizeOf_run size9, Instr.fill, cells_agg, plain_cells h5]; try rfl
theorem qbd66_5 : ∀ {C : Heap → Prop} {h0 : Heap} (hC : C h0) {v5 : Value} (h5 : plainV v5 = true) (K : Value → Prop), QV Try.prog C (Instr.build 66 #[(5, v5)]) K = K (.agg #[str [], str [], str [], .bool false, .bool false, v5]) := by
    intro C h0 hC v5 h5 K
    refine QV_cls hC fun h' he w hw => ?_
    unfold Instr.build; simp only [Sem.run_bind, Try.zeroValue66, run_underlying Try.underlying66, Result.andThen_ok]; simp [sizeOf_run size3, sizeOf_run size4, sizeOf_run size9, Instr.fill, cells_agg, plain_cells h5]; try rfl
theorem zr25 : (Try.prog.info? 25).bind (·.zero) = some (.agg #[.slice none 0 0, .slice none 0 0]) := by kernel_rfl
theorem al25 : ∀ {h : Heap} (x : Value) (K : Value → Heap → Prop), RunV Try.prog (Instr.alloc 25 true x) h K = K (.pointer (some ⟨h.size, 0, none⟩)) (h.push (.cells #[.slice none 0 0, .slice none 0 0] 25 (0, 0))) :=
  fun x K => m_alloc zr25 x K
theorem zr30 : (Try.prog.info? 30).bind (·.zero) = some (.agg #[.slice none 0 0, .slice none 0 0]) := by kernel_rfl
theorem al30 : ∀ {h : Heap} (x : Value) (K : Value → Heap → Prop), RunV Try.prog (Instr.alloc 30 true x) h K = K (.pointer (some ⟨h.size, 0, none⟩)) (h.push (.cells #[.slice none 0 0, .slice none 0 0] 30 (0, 0))) :=
  fun x K => m_alloc zr30 x K
theorem zr48 : (Try.prog.info? 48).bind (·.zero) = some (.agg #[.int .i64 0, .int .i64 0, .int .i64 0, .int .i64 0]) := by kernel_rfl
theorem al48 : ∀ {h : Heap} (x : Value) (K : Value → Heap → Prop), RunV Try.prog (Instr.alloc 48 true x) h K = K (.pointer (some ⟨h.size, 0, none⟩)) (h.push (.cells #[.int .i64 0, .int .i64 0, .int .i64 0, .int .i64 0] 48 (0, 0))) :=
  fun x K => m_alloc zr48 x K
theorem zr66 : (Try.prog.info? 66).bind (·.zero) = some (.agg #[str [], str [], str [], .bool false, .bool false, .int .i64 0]) := by kernel_rfl
theorem al66 : ∀ {h : Heap} (x : Value) (K : Value → Heap → Prop), RunV Try.prog (Instr.alloc 66 true x) h K = K (.pointer (some ⟨h.size, 0, none⟩)) (h.push (.cells #[str [], str [], str [], .bool false, .bool false, .int .i64 0] 66 (0, 0))) :=
  fun x K => m_alloc zr66 x K
theorem zr67 : (Try.prog.info? 67).bind (·.zero) = some (.agg #[.int .i64 0, .int .i64 0, .int .i64 0, .int .i64 0]) := by kernel_rfl
theorem al67 : ∀ {h : Heap} (x : Value) (K : Value → Heap → Prop), RunV Try.prog (Instr.alloc 67 true x) h K = K (.pointer (some ⟨h.size, 0, none⟩)) (h.push (.cells #[.int .i64 0, .int .i64 0, .int .i64 0, .int .i64 0] 67 (0, 0))) :=
  fun x K => m_alloc zr67 x K
theorem bs22_3 : ∀ {h : Heap} {v0_0 v0_1 v0_2 v0_3 v0_4 v0_5 v1_0 v1_1 v1_2 v1_3 v1_4 v1_5 v2_0 v2_1 v2_2 v2_3 v2_4 v2_5 : Value}  (K : Value → Heap → Prop), RunV Try.prog (Instr.buildSlice 22 3 #[(0, .agg #[v0_0, v0_1, v0_2, v0_3, v0_4, v0_5]), (1, .agg #[v1_0, v1_1, v1_2, v1_3, v1_4, v1_5]), (2, .agg #[v2_0, v2_1, v2_2, v2_3, v2_4, v2_5])]) h K = K (.slice (some ⟨h.size, 0, none⟩) 3 3) (h.push (.cells #[v0_0, v0_1, v0_2, v0_3, v0_4, v0_5, v1_0, v1_1, v1_2, v1_3, v1_4, v1_5, v2_0, v2_1, v2_2, v2_3, v2_4, v2_5] 66 (0, 0))) := by
    intro h v0_0 v0_1 v0_2 v0_3 v0_4 v0_5 v1_0 v1_1 v1_2 v1_3 v1_4 v1_5 v2_0 v2_1 v2_2 v2_3 v2_4 v2_5  K
    refine m_buildSlice Try.underlying22 size66 zq66 3 _ _ ?_ (by omega) K
    have hrow : rowOf (.agg #[str [], str [], str [], .bool false, .bool false, .int .i64 0] : Value).cells (3 * 6) = #[str [], str [], str [], .bool false, .bool false, .int .i64 0, str [], str [], str [], .bool false, .bool false, .int .i64 0, str [], str [], str [], .bool false, .bool false, .int .i64 0] := by kernel_rfl
    rw [hrow]
    simp [Instr.fill, cells_agg, cells_agg]
theorem bs23_0 : ∀ {h : Heap}  (K : Value → Heap → Prop), RunV Try.prog (Instr.buildSlice 23 0 #[]) h K = K (.slice (some ⟨h.size, 0, none⟩) 0 0) (h.push (.cells #[] 48 (0, 0))) := by
    intro h   K
    refine m_buildSlice Try.underlying23 size48 zq48 0 _ _ ?_ (by omega) K
    have hrow : rowOf (.agg #[.int .i64 0, .int .i64 0, .int .i64 0, .int .i64 0] : Value).cells (0 * 4) = #[] := by kernel_rfl
    rw [hrow]
    simp [Instr.fill, cells_agg, cells_agg]
theorem bs23_1 : ∀ {h : Heap} {v0_0 v0_1 v0_2 v0_3 : Value}  (K : Value → Heap → Prop), RunV Try.prog (Instr.buildSlice 23 1 #[(0, .agg #[v0_0, v0_1, v0_2, v0_3])]) h K = K (.slice (some ⟨h.size, 0, none⟩) 1 1) (h.push (.cells #[v0_0, v0_1, v0_2, v0_3] 48 (0, 0))) := by
    intro h v0_0 v0_1 v0_2 v0_3  K
    refine m_buildSlice Try.underlying23 size48 zq48 1 _ _ ?_ (by omega) K
    have hrow : rowOf (.agg #[.int .i64 0, .int .i64 0, .int .i64 0, .int .i64 0] : Value).cells (1 * 4) = #[.int .i64 0, .int .i64 0, .int .i64 0, .int .i64 0] := by kernel_rfl
    rw [hrow]
    simp [Instr.fill, cells_agg, cells_agg]
theorem bs23_3 : ∀ {h : Heap} {v0_0 v0_1 v0_2 v0_3 v1_0 v1_1 v1_2 v1_3 v2_0 v2_1 v2_2 v2_3 : Value}  (K : Value → Heap → Prop), RunV Try.prog (Instr.buildSlice 23 3 #[(0, .agg #[v0_0, v0_1, v0_2, v0_3]), (1, .agg #[v1_0, v1_1, v1_2, v1_3]), (2, .agg #[v2_0, v2_1, v2_2, v2_3])]) h K = K (.slice (some ⟨h.size, 0, none⟩) 3 3) (h.push (.cells #[v0_0, v0_1, v0_2, v0_3, v1_0, v1_1, v1_2, v1_3, v2_0, v2_1, v2_2, v2_3] 48 (0, 0))) := by
    intro h v0_0 v0_1 v0_2 v0_3 v1_0 v1_1 v1_2 v1_3 v2_0 v2_1 v2_2 v2_3  K
    refine m_buildSlice Try.underlying23 size48 zq48 3 _ _ ?_ (by omega) K
    have hrow : rowOf (.agg #[.int .i64 0, .int .i64 0, .int .i64 0, .int .i64 0] : Value).cells (3 * 4) = #[.int .i64 0, .int .i64 0, .int .i64 0, .int .i64 0, .int .i64 0, .int .i64 0, .int .i64 0, .int .i64 0, .int .i64 0, .int .i64 0, .int .i64 0, .int .i64 0] := by kernel_rfl
    rw [hrow]
    simp [Instr.fill, cells_agg, cells_agg]
theorem bs28_1 : ∀ {h : Heap} {v0_0 v0_1 v0_2 v0_3 : Value}  (K : Value → Heap → Prop), RunV Try.prog (Instr.buildSlice 28 1 #[(0, .agg #[v0_0, v0_1, v0_2, v0_3])]) h K = K (.slice (some ⟨h.size, 0, none⟩) 1 1) (h.push (.cells #[v0_0, v0_1, v0_2, v0_3] 67 (0, 0))) := by
    intro h v0_0 v0_1 v0_2 v0_3  K
    refine m_buildSlice Try.underlying28 size67 zq67 1 _ _ ?_ (by omega) K
    have hrow : rowOf (.agg #[.int .i64 0, .int .i64 0, .int .i64 0, .int .i64 0] : Value).cells (1 * 4) = #[.int .i64 0, .int .i64 0, .int .i64 0, .int .i64 0] := by kernel_rfl
    rw [hrow]
    simp [Instr.fill, cells_agg, cells_agg]
theorem bs33_0 : ∀ {h : Heap}  (K : Value → Heap → Prop), RunV Try.prog (Instr.buildSlice 33 0 #[]) h K = K (.slice (some ⟨h.size, 0, none⟩) 0 0) (h.push (.cells #[] 3 (0, 0))) := by
    intro h   K
    refine m_buildSlice Try.underlying33 size3 zq3 0 _ _ ?_ (by omega) K
    have hrow : rowOf (.int .i64 0 : Value).cells (0 * 1) = #[] := by kernel_rfl
    rw [hrow]
    simp [Instr.fill, cells_agg, cells_agg]
theorem bs33_1 : ∀ {h : Heap} {v0 : Value} (h0 : plainV v0 = true) (K : Value → Heap → Prop), RunV Try.prog (Instr.buildSlice 33 1 #[(0, v0)]) h K = K (.slice (some ⟨h.size, 0, none⟩) 1 1) (h.push (.cells #[v0] 3 (0, 0))) := by
    intro h v0 h0 K
    refine m_buildSlice Try.underlying33 size3 zq3 1 _ _ ?_ (by omega) K
    have hrow : rowOf (.int .i64 0 : Value).cells (1 * 1) = #[.int .i64 0] := by kernel_rfl
    rw [hrow]
    simp [Instr.fill, cells_agg, plain_cells h0]
theorem bs33_2 : ∀ {h : Heap} {v0 v1 : Value} (h0 : plainV v0 = true) (h1 : plainV v1 = true) (K : Value → Heap → Prop), RunV Try.prog (Instr.buildSlice 33 2 #[(0, v0), (1, v1)]) h K = K (.slice (some ⟨h.size, 0, none⟩) 2 2) (h.push (.cells #[v0, v1] 3 (0, 0))) := by
    intro h v0 v1 h0 h1 K
    refine m_buildSlice Try.underlying33 size3 zq3 2 _ _ ?_ (by omega) K
    have hrow : rowOf (.int .i64 0 : Value).cells (2 * 1) = #[.int .i64 0, .int .i64 0] := by kernel_rfl
    rw [hrow]
    simp [Instr.fill, cells_agg, plain_cells h0, plain_cells h1]
theorem bs33_3 : ∀ {h : Heap} {v0 v1 v2 : Value} (h0 : plainV v0 = true) (h1 : plainV v1 = true) (h2 : plainV v2 = true) (K : Value → Heap → Prop), RunV Try.prog (Instr.buildSlice 33 3 #[(0, v0), (1, v1), (2, v2)]) h K = K (.slice (some ⟨h.size, 0, none⟩) 3 3) (h.push (.cells #[v0, v1, v2] 3 (0, 0))) := by
    intro h v0 v1 v2 h0 h1 h2 K
    refine m_buildSlice Try.underlying33 size3 zq3 3 _ _ ?_ (by omega) K
    have hrow : rowOf (.int .i64 0 : Value).cells (3 * 1) = #[.int .i64 0, .int .i64 0, .int .i64 0] := by kernel_rfl
    rw [hrow]
    simp [Instr.fill, cells_agg, plain_cells h0, plain_cells h1, plain_cells h2]
theorem bs37_0 : ∀ {h : Heap}  (K : Value → Heap → Prop), RunV Try.prog (Instr.buildSlice 37 0 #[]) h K = K (.slice (some ⟨h.size, 0, none⟩) 0 0) (h.push (.cells #[] 33 (0, 0))) := by
    intro h   K
    refine m_buildSlice Try.underlying37 size33 zq33 0 _ _ ?_ (by omega) K
    have hrow : rowOf (.slice none 0 0 : Value).cells (0 * 1) = #[] := by kernel_rfl
    rw [hrow]
    simp [Instr.fill, cells_agg, cells_agg]
theorem bs37_1 : ∀ {h : Heap} {v0 : Value} (h0 : plainV v0 = true) (K : Value → Heap → Prop), RunV Try.prog (Instr.buildSlice 37 1 #[(0, v0)]) h K = K (.slice (some ⟨h.size, 0, none⟩) 1 1) (h.push (.cells #[v0] 33 (0, 0))) := by
    intro h v0 h0 K
    refine m_buildSlice Try.underlying37 size33 zq33 1 _ _ ?_ (by omega) K
    have hrow : rowOf (.slice none 0 0 : Value).cells (1 * 1) = #[.slice none 0 0] := by kernel_rfl
    rw [hrow]
    simp [Instr.fill, cells_agg, plain_cells h0]
theorem bs37_2 : ∀ {h : Heap} {v0 v1 : Value} (h0 : plainV v0 = true) (h1 : plainV v1 = true) (K : Value → Heap → Prop), RunV Try.prog (Instr.buildSlice 37 2 #[(0, v0), (1, v1)]) h K = K (.slice (some ⟨h.size, 0, none⟩) 2 2) (h.push (.cells #[v0, v1] 33 (0, 0))) := by
    intro h v0 v1 h0 h1 K
    refine m_buildSlice Try.underlying37 size33 zq33 2 _ _ ?_ (by omega) K
    have hrow : rowOf (.slice none 0 0 : Value).cells (2 * 1) = #[.slice none 0 0, .slice none 0 0] := by kernel_rfl
    rw [hrow]
    simp [Instr.fill, cells_agg, plain_cells h0, plain_cells h1]
theorem bs74_0 : ∀ {h : Heap}  (K : Value → Heap → Prop), RunV Try.prog (Instr.buildSlice 74 0 #[]) h K = K (.slice (some ⟨h.size, 0, none⟩) 0 0) (h.push (.cells #[] 76 (0, 0))) := by
    intro h   K
    refine m_buildSlice Try.underlying74 size76 zq76 0 _ _ ?_ (by omega) K
    have hrow : rowOf (.slice none 0 0 : Value).cells (0 * 1) = #[] := by kernel_rfl
    rw [hrow]
    simp [Instr.fill, cells_agg, cells_agg]
theorem bs74_1 : ∀ {h : Heap} {v0 : Value} (h0 : plainV v0 = true) (K : Value → Heap → Prop), RunV Try.prog (Instr.buildSlice 74 1 #[(0, v0)]) h K = K (.slice (some ⟨h.size, 0, none⟩) 1 1) (h.push (.cells #[v0] 76 (0, 0))) := by
    intro h v0 h0 K
    refine m_buildSlice Try.underlying74 size76 zq76 1 _ _ ?_ (by omega) K
    have hrow : rowOf (.slice none 0 0 : Value).cells (1 * 1) = #[.slice none 0 0] := by kernel_rfl
    rw [hrow]
    simp [Instr.fill, cells_agg, plain_cells h0]
theorem mi38 : (Try.prog.info? 33).map (fun i => (i.zero, i.size, i.bytes)) = some (some (.slice none 0 0), 1, 24) := by kernel_rfl
theorem mk38 : ∀ {h : Heap} (n : Int) (h0 : 0 ≤ n) (h1 : n * 24 ≤ 140737488355328) (h2 : n ≤ 9223372036854775807) (K : Value → Heap → Prop), RunV Try.prog (Instr.makeSlice 38 (.int .i64 n) (.int .i64 n)) h K = K (.slice (some ⟨h.size, 0, none⟩) n.toNat n.toNat) (h.push (.cells (rowOf #[.slice none 0 0] (n.toNat * 1)) 33 (0, 0))) :=
  fun n h0 h1 h2 K => m_make Try.underlying38 mi38 n h0 h1 h2 K
theorem mi76 : (Try.prog.info? 4).map (fun i => (i.zero, i.size, i.bytes)) = some (some (.bool false), 1, 1) := by kernel_rfl
theorem mk76 : ∀ {h : Heap} (n : Int) (h0 : 0 ≤ n) (h1 : n * 1 ≤ 140737488355328) (h2 : n ≤ 9223372036854775807) (K : Value → Heap → Prop), RunV Try.prog (Instr.makeSlice 76 (.int .i64 n) (.int .i64 n)) h K = K (.slice (some ⟨h.size, 0, none⟩) n.toNat n.toNat) (h.push (.cells (rowOf #[.bool false] (n.toNat * 1)) 4 (0, 0))) :=
  fun n h0 h1 h2 K => m_make Try.underlying76 mi76 n h0 h1 h2 K
theorem hpR : (∀ {h : Heap} {b o : Nat} {v : Value} (hc : cellH h b o = some v) (K : Value → Heap → Prop), RunV Try.prog (Instr.loadAt 3 (.pointer (some ⟨b, o, none⟩))) h K = K v h) ∧
  (∀ {C : Heap → Prop} {h0 : Heap} {b o : Nat} {v : Value} (hC : C h0) (hc : ∀ h', C h' → cellH h' b o = some v) (K : Value → Prop), QV Try.prog C (Instr.loadAt 3 (.pointer (some ⟨b, o, none⟩))) K = K v) ∧
  (∀ {h : Heap} {b o : Nat} {v : Value} (hc : cellH h b o = some v) (K : Value → Heap → Prop), RunV Try.prog (Instr.loadAt 4 (.pointer (some ⟨b, o, none⟩))) h K = K v h) ∧
  (∀ {C : Heap → Prop} {h0 : Heap} {b o : Nat} {v : Value} (hC : C h0) (hc : ∀ h', C h' → cellH h' b o = some v) (K : Value → Prop), QV Try.prog C (Instr.loadAt 4 (.pointer (some ⟨b, o, none⟩))) K = K v) ∧
  (∀ {h : Heap} {b o : Nat} {v : Value} (hc : cellH h b o = some v) (K : Value → Heap → Prop), RunV Try.prog (Instr.loadAt 22 (.pointer (some ⟨b, o, none⟩))) h K = K v h) ∧
  (∀ {C : Heap → Prop} {h0 : Heap} {b o : Nat} {v : Value} (hC : C h0) (hc : ∀ h', C h' → cellH h' b o = some v) (K : Value → Prop), QV Try.prog C (Instr.loadAt 22 (.pointer (some ⟨b, o, none⟩))) K = K v) ∧
  (∀ {h : Heap} {b o : Nat} {v : Value} (hc : cellH h b o = some v) (K : Value → Heap → Prop), RunV Try.prog (Instr.loadAt 23 (.pointer (some ⟨b, o, none⟩))) h K = K v h) ∧
  (∀ {C : Heap → Prop} {h0 : Heap} {b o : Nat} {v : Value} (hC : C h0) (hc : ∀ h', C h' → cellH h' b o = some v) (K : Value → Prop), QV Try.prog C (Instr.loadAt 23 (.pointer (some ⟨b, o, none⟩))) K = K v) ∧
  (∀ {h : Heap} {b o : Nat} {v : Value} (hc : cellH h b o = some v) (K : Value → Heap → Prop), RunV Try.prog (Instr.loadAt 28 (.pointer (some ⟨b, o, none⟩))) h K = K v h) ∧
  (∀ {C : Heap → Prop} {h0 : Heap} {b o : Nat} {v : Value} (hC : C h0) (hc : ∀ h', C h' → cellH h' b o = some v) (K : Value → Prop), QV Try.prog C (Instr.loadAt 28 (.pointer (some ⟨b, o, none⟩))) K = K v) ∧
  (∀ {h : Heap} {b o : Nat} {v : Value} (hc : cellH h b o = some v) (K : Value → Heap → Prop), RunV Try.prog (Instr.loadAt 33 (.pointer (some ⟨b, o, none⟩))) h K = K v h) ∧
  (∀ {C : Heap → Prop} {h0 : Heap} {b o : Nat} {v : Value} (hC : C h0) (hc : ∀ h', C h' → cellH h' b o = some v) (K : Value → Prop), QV Try.prog C (Instr.loadAt 33 (.pointer (some ⟨b, o, none⟩))) K = K v) ∧
  (∀ {h : Heap} {b o : Nat} {v : Value} (hc : cellH h b o = some v) (K : Value → Heap → Prop), RunV Try.prog (Instr.loadAt 38 (.pointer (some ⟨b, o, none⟩))) h K = K v h) ∧
  (∀ {C : Heap → Prop} {h0 : Heap} {b o : Nat} {v : Value} (hC : C h0) (hc : ∀ h', C h' → cellH h' b o = some v) (K : Value → Prop), QV Try.prog C (Instr.loadAt 38 (.pointer (some ⟨b, o, none⟩))) K = K v) ∧
  (∀ {h : Heap} {b o : Nat} {v : Value} (hc : cellH h b o = some v) (K : Value → Heap → Prop), RunV Try.prog (Instr.loadAt 46 (.pointer (some ⟨b, o, none⟩))) h K = K v h) ∧
  (∀ {C : Heap → Prop} {h0 : Heap} {b o : Nat} {v : Value} (hC : C h0) (hc : ∀ h', C h' → cellH h' b o = some v) (K : Value → Prop), QV Try.prog C (Instr.loadAt 46 (.pointer (some ⟨b, o, none⟩))) K = K v) ∧
  (∀ {h : Heap} {b o : Nat} {v : Value} (hc : cellH h b o = some v) (K : Value → Heap → Prop), RunV Try.prog (Instr.loadAt 76 (.pointer (some ⟨b, o, none⟩))) h K = K v h) ∧
  (∀ {C : Heap → Prop} {h0 : Heap} {b o : Nat} {v : Value} (hC : C h0) (hc : ∀ h', C h' → cellH h' b o = some v) (K : Value → Prop), QV Try.prog C (Instr.loadAt 76 (.pointer (some ⟨b, o, none⟩))) K = K v) ∧
  (∀ {h : Heap} {b o : Nat} {v : Value} (hv : plainV v = true) (hc : okW h b o = true) (K : Heap → Prop), RunU Try.prog (Instr.storeAt 3 (.pointer (some ⟨b, o, none⟩)) v) h K = K (setH h b o v)) ∧
  (∀ {h : Heap} {b o : Nat} {v : Value} (hv : plainV v = true) (hc : okW h b o = true) (K : Heap → Prop), RunU Try.prog (Instr.storeAt 4 (.pointer (some ⟨b, o, none⟩)) v) h K = K (setH h b o v)) ∧
  (∀ {h : Heap} {b o : Nat} {v : Value} (hv : plainV v = true) (hc : okW h b o = true) (K : Heap → Prop), RunU Try.prog (Instr.storeAt 28 (.pointer (some ⟨b, o, none⟩)) v) h K = K (setH h b o v)) ∧
  (∀ {h : Heap} {b o : Nat} {v : Value} (hv : plainV v = true) (hc : okW h b o = true) (K : Heap → Prop), RunU Try.prog (Instr.storeAt 33 (.pointer (some ⟨b, o, none⟩)) v) h K = K (setH h b o v)) ∧
  (∀ {h : Heap} (b o : Nat) (K : Value → Heap → Prop), RunV Try.prog (Instr.fieldAt 25 (.pointer (some ⟨b, o, none⟩)) 0) h K = K (.pointer (some ⟨b, o, none⟩)) h) ∧
  (∀ {C : Heap → Prop} {h0 : Heap} (hC : C h0) (b o : Nat) (K : Value → Prop), QV Try.prog C (Instr.fieldAt 25 (.pointer (some ⟨b, o, none⟩)) 0) K = K (.pointer (some ⟨b, o, none⟩))) ∧
  (∀ {h : Heap} (b o : Nat) (K : Value → Heap → Prop), RunV Try.prog (Instr.fieldAt 25 (.pointer (some ⟨b, o, none⟩)) 1) h K = K (.pointer (some ⟨b, o + 1, none⟩)) h) ∧
  (∀ {C : Heap → Prop} {h0 : Heap} (hC : C h0) (b o : Nat) (K : Value → Prop), QV Try.prog C (Instr.fieldAt 25 (.pointer (some ⟨b, o, none⟩)) 1) K = K (.pointer (some ⟨b, o + 1, none⟩))) ∧
  (∀ {h : Heap} (b o : Nat) (K : Value → Heap → Prop), RunV Try.prog (Instr.fieldAt 30 (.pointer (some ⟨b, o, none⟩)) 0) h K = K (.pointer (some ⟨b, o, none⟩)) h) ∧
  (∀ {C : Heap → Prop} {h0 : Heap} (hC : C h0) (b o : Nat) (K : Value → Prop), QV Try.prog C (Instr.fieldAt 30 (.pointer (some ⟨b, o, none⟩)) 0) K = K (.pointer (some ⟨b, o, none⟩))) ∧
  (∀ {h : Heap} (b o : Nat) (K : Value → Heap → Prop), RunV Try.prog (Instr.fieldAt 30 (.pointer (some ⟨b, o, none⟩)) 1) h K = K (.pointer (some ⟨b, o + 1, none⟩)) h) ∧
  (∀ {C : Heap → Prop} {h0 : Heap} (hC : C h0) (b o : Nat) (K : Value → Prop), QV Try.prog C (Instr.fieldAt 30 (.pointer (some ⟨b, o, none⟩)) 1) K = K (.pointer (some ⟨b, o + 1, none⟩))) ∧
  (∀ {h : Heap} (b o : Nat) (K : Value → Heap → Prop), RunV Try.prog (Instr.fieldAt 48 (.pointer (some ⟨b, o, none⟩)) 0) h K = K (.pointer (some ⟨b, o, none⟩)) h) ∧
  (∀ {C : Heap → Prop} {h0 : Heap} (hC : C h0) (b o : Nat) (K : Value → Prop), QV Try.prog C (Instr.fieldAt 48 (.pointer (some ⟨b, o, none⟩)) 0) K = K (.pointer (some ⟨b, o, none⟩))) ∧
  (∀ {h : Heap} (b o : Nat) (K : Value → Heap → Prop), RunV Try.prog (Instr.fieldAt 48 (.pointer (some ⟨b, o, none⟩)) 1) h K = K (.pointer (some ⟨b, o + 1, none⟩)) h) ∧
  (∀ {C : Heap → Prop} {h0 : Heap} (hC : C h0) (b o : Nat) (K : Value → Prop), QV Try.prog C (Instr.fieldAt 48 (.pointer (some ⟨b, o, none⟩)) 1) K = K (.pointer (some ⟨b, o + 1, none⟩))) ∧
  (∀ {h : Heap} (b o : Nat) (K : Value → Heap → Prop), RunV Try.prog (Instr.fieldAt 48 (.pointer (some ⟨b, o, none⟩)) 2) h K = K (.pointer (some ⟨b, o + 2, none⟩)) h) ∧
  (∀ {C : Heap → Prop} {h0 : Heap} (hC : C h0) (b o : Nat) (K : Value → Prop), QV Try.prog C (Instr.fieldAt 48 (.pointer (some ⟨b, o, none⟩)) 2) K = K (.pointer (some ⟨b, o + 2, none⟩))) ∧
  (∀ {h : Heap} (b o : Nat) (K : Value → Heap → Prop), RunV Try.prog (Instr.fieldAt 48 (.pointer (some ⟨b, o, none⟩)) 3) h K = K (.pointer (some ⟨b, o + 3, none⟩)) h) ∧
  (∀ {C : Heap → Prop} {h0 : Heap} (hC : C h0) (b o : Nat) (K : Value → Prop), QV Try.prog C (Instr.fieldAt 48 (.pointer (some ⟨b, o, none⟩)) 3) K = K (.pointer (some ⟨b, o + 3, none⟩))) ∧
  (∀ {h : Heap} (b o : Nat) (K : Value → Heap → Prop), RunV Try.prog (Instr.fieldAt 66 (.pointer (some ⟨b, o, none⟩)) 3) h K = K (.pointer (some ⟨b, o + 3, none⟩)) h) ∧
  (∀ {C : Heap → Prop} {h0 : Heap} (hC : C h0) (b o : Nat) (K : Value → Prop), QV Try.prog C (Instr.fieldAt 66 (.pointer (some ⟨b, o, none⟩)) 3) K = K (.pointer (some ⟨b, o + 3, none⟩))) ∧
  (∀ {h : Heap} (b o : Nat) (K : Value → Heap → Prop), RunV Try.prog (Instr.fieldAt 66 (.pointer (some ⟨b, o, none⟩)) 5) h K = K (.pointer (some ⟨b, o + 5, none⟩)) h) ∧
  (∀ {C : Heap → Prop} {h0 : Heap} (hC : C h0) (b o : Nat) (K : Value → Prop), QV Try.prog C (Instr.fieldAt 66 (.pointer (some ⟨b, o, none⟩)) 5) K = K (.pointer (some ⟨b, o + 5, none⟩))) ∧
  (∀ {h : Heap} (b o : Nat) (K : Value → Heap → Prop), RunV Try.prog (Instr.fieldAt 67 (.pointer (some ⟨b, o, none⟩)) 0) h K = K (.pointer (some ⟨b, o, none⟩)) h) ∧
  (∀ {C : Heap → Prop} {h0 : Heap} (hC : C h0) (b o : Nat) (K : Value → Prop), QV Try.prog C (Instr.fieldAt 67 (.pointer (some ⟨b, o, none⟩)) 0) K = K (.pointer (some ⟨b, o, none⟩))) ∧
  (∀ {h : Heap} (b o : Nat) (K : Value → Heap → Prop), RunV Try.prog (Instr.fieldAt 67 (.pointer (some ⟨b, o, none⟩)) 1) h K = K (.pointer (some ⟨b, o + 1, none⟩)) h) ∧
  (∀ {C : Heap → Prop} {h0 : Heap} (hC : C h0) (b o : Nat) (K : Value → Prop), QV Try.prog C (Instr.fieldAt 67 (.pointer (some ⟨b, o, none⟩)) 1) K = K (.pointer (some ⟨b, o + 1, none⟩))) ∧
  (∀ {h : Heap} (b o : Nat) (K : Value → Heap → Prop), RunV Try.prog (Instr.fieldAt 67 (.pointer (some ⟨b, o, none⟩)) 2) h K = K (.pointer (some ⟨b, o + 2, none⟩)) h) ∧
  (∀ {C : Heap → Prop} {h0 : Heap} (hC : C h0) (b o : Nat) (K : Value → Prop), QV Try.prog C (Instr.fieldAt 67 (.pointer (some ⟨b, o, none⟩)) 2) K = K (.pointer (some ⟨b, o + 2, none⟩))) ∧
  (∀ {h : Heap} (b o : Nat) (K : Value → Heap → Prop), RunV Try.prog (Instr.fieldAt 67 (.pointer (some ⟨b, o, none⟩)) 3) h K = K (.pointer (some ⟨b, o + 3, none⟩)) h) ∧
  (∀ {C : Heap → Prop} {h0 : Heap} (hC : C h0) (b o : Nat) (K : Value → Prop), QV Try.prog C (Instr.fieldAt 67 (.pointer (some ⟨b, o, none⟩)) 3) K = K (.pointer (some ⟨b, o + 3, none⟩))) ∧
  (∀ {h : Heap} (b o len cap : Nat) (i : Int) (h0 : 0 ≤ i) (h1 : i < (len : Int)) (K : Value → Heap → Prop), RunV Try.prog (Instr.indexAt 22 (.slice (some ⟨b, o, none⟩) len cap) (.int .i64 i)) h K = K (.pointer (some ⟨b, o + i.toNat * 6, none⟩)) h) ∧
  (∀ {C : Heap → Prop} {h0 : Heap} (hC : C h0) (b o len cap : Nat) (i : Int) (h0 : 0 ≤ i) (h1 : i < (len : Int)) (K : Value → Prop), QV Try.prog C (Instr.indexAt 22 (.slice (some ⟨b, o, none⟩) len cap) (.int .i64 i)) K = K (.pointer (some ⟨b, o + i.toNat * 6, none⟩))) ∧
  (∀ {h : Heap} (b o len cap : Nat) (i : Int) (h0 : 0 ≤ i) (h1 : i < (len : Int)) (K : Value → Heap → Prop), RunV Try.prog (Instr.indexAt 23 (.slice (some ⟨b, o, none⟩) len cap) (.int .i64 i)) h K = K (.pointer (some ⟨b, o + i.toNat * 4, none⟩)) h) ∧
  (∀ {C : Heap → Prop} {h0 : Heap} (hC : C h0) (b o len cap : Nat) (i : Int) (h0 : 0 ≤ i) (h1 : i < (len : Int)) (K : Value → Prop), QV Try.prog C (Instr.indexAt 23 (.slice (some ⟨b, o, none⟩) len cap) (.int .i64 i)) K = K (.pointer (some ⟨b, o + i.toNat * 4, none⟩))) ∧
  (∀ {h : Heap} (b o len cap : Nat) (i : Int) (h0 : 0 ≤ i) (h1 : i < (len : Int)) (K : Value → Heap → Prop), RunV Try.prog (Instr.indexAt 28 (.slice (some ⟨b, o, none⟩) len cap) (.int .i64 i)) h K = K (.pointer (some ⟨b, o + i.toNat * 4, none⟩)) h) ∧
  (∀ {C : Heap → Prop} {h0 : Heap} (hC : C h0) (b o len cap : Nat) (i : Int) (h0 : 0 ≤ i) (h1 : i < (len : Int)) (K : Value → Prop), QV Try.prog C (Instr.indexAt 28 (.slice (some ⟨b, o, none⟩) len cap) (.int .i64 i)) K = K (.pointer (some ⟨b, o + i.toNat * 4, none⟩))) ∧
  (∀ {h : Heap} (b o len cap : Nat) (i : Int) (h0 : 0 ≤ i) (h1 : i < (len : Int)) (K : Value → Heap → Prop), RunV Try.prog (Instr.indexAt 33 (.slice (some ⟨b, o, none⟩) len cap) (.int .i64 i)) h K = K (.pointer (some ⟨b, o + i.toNat, none⟩)) h) ∧
  (∀ {C : Heap → Prop} {h0 : Heap} (hC : C h0) (b o len cap : Nat) (i : Int) (h0 : 0 ≤ i) (h1 : i < (len : Int)) (K : Value → Prop), QV Try.prog C (Instr.indexAt 33 (.slice (some ⟨b, o, none⟩) len cap) (.int .i64 i)) K = K (.pointer (some ⟨b, o + i.toNat, none⟩))) ∧
  (∀ {h : Heap} (b o len cap : Nat) (i : Int) (h0 : 0 ≤ i) (h1 : i < (len : Int)) (K : Value → Heap → Prop), RunV Try.prog (Instr.indexAt 37 (.slice (some ⟨b, o, none⟩) len cap) (.int .i64 i)) h K = K (.pointer (some ⟨b, o + i.toNat, none⟩)) h) ∧
  (∀ {C : Heap → Prop} {h0 : Heap} (hC : C h0) (b o len cap : Nat) (i : Int) (h0 : 0 ≤ i) (h1 : i < (len : Int)) (K : Value → Prop), QV Try.prog C (Instr.indexAt 37 (.slice (some ⟨b, o, none⟩) len cap) (.int .i64 i)) K = K (.pointer (some ⟨b, o + i.toNat, none⟩))) ∧
  (∀ {h : Heap} (b o len cap : Nat) (i : Int) (h0 : 0 ≤ i) (h1 : i < (len : Int)) (K : Value → Heap → Prop), RunV Try.prog (Instr.indexAt 38 (.slice (some ⟨b, o, none⟩) len cap) (.int .i64 i)) h K = K (.pointer (some ⟨b, o + i.toNat, none⟩)) h) ∧
  (∀ {C : Heap → Prop} {h0 : Heap} (hC : C h0) (b o len cap : Nat) (i : Int) (h0 : 0 ≤ i) (h1 : i < (len : Int)) (K : Value → Prop), QV Try.prog C (Instr.indexAt 38 (.slice (some ⟨b, o, none⟩) len cap) (.int .i64 i)) K = K (.pointer (some ⟨b, o + i.toNat, none⟩))) ∧
  (∀ {h : Heap} (b o len cap : Nat) (i : Int) (h0 : 0 ≤ i) (h1 : i < (len : Int)) (K : Value → Heap → Prop), RunV Try.prog (Instr.indexAt 74 (.slice (some ⟨b, o, none⟩) len cap) (.int .i64 i)) h K = K (.pointer (some ⟨b, o + i.toNat, none⟩)) h) ∧
  (∀ {C : Heap → Prop} {h0 : Heap} (hC : C h0) (b o len cap : Nat) (i : Int) (h0 : 0 ≤ i) (h1 : i < (len : Int)) (K : Value → Prop), QV Try.prog C (Instr.indexAt 74 (.slice (some ⟨b, o, none⟩) len cap) (.int .i64 i)) K = K (.pointer (some ⟨b, o + i.toNat, none⟩))) ∧
  (∀ {h : Heap} (b o len cap : Nat) (i : Int) (h0 : 0 ≤ i) (h1 : i < (len : Int)) (K : Value → Heap → Prop), RunV Try.prog (Instr.indexAt 76 (.slice (some ⟨b, o, none⟩) len cap) (.int .i64 i)) h K = K (.pointer (some ⟨b, o + i.toNat, none⟩)) h) ∧
  (∀ {C : Heap → Prop} {h0 : Heap} (hC : C h0) (b o len cap : Nat) (i : Int) (h0 : 0 ≤ i) (h1 : i < (len : Int)) (K : Value → Prop), QV Try.prog C (Instr.indexAt 76 (.slice (some ⟨b, o, none⟩) len cap) (.int .i64 i)) K = K (.pointer (some ⟨b, o + i.toNat, none⟩))) ∧
  (∀ {h : Heap} (ty : TypeId) (c : Array Bool) (a : Option Addr) (n k : Nat) (K : Value → Heap → Prop), OpN Try.prog (Go.builtin .len #[22] ty c #[.slice a n k]) h K = K (.int .i64 n) h) ∧
  (∀ {C : Heap → Prop} {h0 : Heap} (hC : C h0) (ty : TypeId) (c : Array Bool) (a : Option Addr) (n k : Nat) (K : Value → Prop), QB Try.prog C (Go.builtin .len #[22] ty c #[.slice a n k]) K = K (.int .i64 n)) ∧
  (∀ {h : Heap} (ty : TypeId) (c : Array Bool) (a : Option Addr) (n k : Nat) (K : Value → Heap → Prop), OpN Try.prog (Go.builtin .len #[23] ty c #[.slice a n k]) h K = K (.int .i64 n) h) ∧
  (∀ {C : Heap → Prop} {h0 : Heap} (hC : C h0) (ty : TypeId) (c : Array Bool) (a : Option Addr) (n k : Nat) (K : Value → Prop), QB Try.prog C (Go.builtin .len #[23] ty c #[.slice a n k]) K = K (.int .i64 n)) ∧
  (∀ {h : Heap} (ty : TypeId) (c : Array Bool) (a : Option Addr) (n k : Nat) (K : Value → Heap → Prop), OpN Try.prog (Go.builtin .len #[28] ty c #[.slice a n k]) h K = K (.int .i64 n) h) ∧
  (∀ {C : Heap → Prop} {h0 : Heap} (hC : C h0) (ty : TypeId) (c : Array Bool) (a : Option Addr) (n k : Nat) (K : Value → Prop), QB Try.prog C (Go.builtin .len #[28] ty c #[.slice a n k]) K = K (.int .i64 n)) ∧
  (∀ {h : Heap} (ty : TypeId) (c : Array Bool) (a : Option Addr) (n k : Nat) (K : Value → Heap → Prop), OpN Try.prog (Go.builtin .len #[33] ty c #[.slice a n k]) h K = K (.int .i64 n) h) ∧
  (∀ {C : Heap → Prop} {h0 : Heap} (hC : C h0) (ty : TypeId) (c : Array Bool) (a : Option Addr) (n k : Nat) (K : Value → Prop), QB Try.prog C (Go.builtin .len #[33] ty c #[.slice a n k]) K = K (.int .i64 n)) ∧
  (∀ {h : Heap} (ty : TypeId) (c : Array Bool) (a : Option Addr) (n k : Nat) (K : Value → Heap → Prop), OpN Try.prog (Go.builtin .len #[37] ty c #[.slice a n k]) h K = K (.int .i64 n) h) ∧
  (∀ {C : Heap → Prop} {h0 : Heap} (hC : C h0) (ty : TypeId) (c : Array Bool) (a : Option Addr) (n k : Nat) (K : Value → Prop), QB Try.prog C (Go.builtin .len #[37] ty c #[.slice a n k]) K = K (.int .i64 n)) ∧
  (∀ {h : Heap} (ty : TypeId) (c : Array Bool) (a : Option Addr) (n k : Nat) (K : Value → Heap → Prop), OpN Try.prog (Go.builtin .len #[38] ty c #[.slice a n k]) h K = K (.int .i64 n) h) ∧
  (∀ {C : Heap → Prop} {h0 : Heap} (hC : C h0) (ty : TypeId) (c : Array Bool) (a : Option Addr) (n k : Nat) (K : Value → Prop), QB Try.prog C (Go.builtin .len #[38] ty c #[.slice a n k]) K = K (.int .i64 n)) ∧
  (∀ {h : Heap} (ty : TypeId) (c : Array Bool) (a : Option Addr) (n k : Nat) (K : Value → Heap → Prop), OpN Try.prog (Go.builtin .len #[76] ty c #[.slice a n k]) h K = K (.int .i64 n) h) ∧
  (∀ {C : Heap → Prop} {h0 : Heap} (hC : C h0) (ty : TypeId) (c : Array Bool) (a : Option Addr) (n k : Nat) (K : Value → Prop), QB Try.prog C (Go.builtin .len #[76] ty c #[.slice a n k]) K = K (.int .i64 n)) ∧
  (∀ {h : Heap} {v0 v1 : Value} (h0 : plainV v0 = true) (h1 : plainV v1 = true) (K : Value → Heap → Prop), RunV Try.prog (Instr.build 25 #[(0, v0), (1, v1)]) h K = K (.agg #[v0, v1]) h) ∧
  (∀ {C : Heap → Prop} {h0 : Heap} (hC : C h0) {v0 v1 : Value} (h0 : plainV v0 = true) (h1 : plainV v1 = true) (K : Value → Prop), QV Try.prog C (Instr.build 25 #[(0, v0), (1, v1)]) K = K (.agg #[v0, v1])) ∧
  (∀ {h : Heap} {v0 : Value} (h0 : plainV v0 = true) (K : Value → Heap → Prop), RunV Try.prog (Instr.build 30 #[(0, v0)]) h K = K (.agg #[v0, .slice none 0 0]) h) ∧
  (∀ {C : Heap → Prop} {h0 : Heap} (hC : C h0) {v0 : Value} (h0 : plainV v0 = true) (K : Value → Prop), QV Try.prog C (Instr.build 30 #[(0, v0)]) K = K (.agg #[v0, .slice none 0 0])) ∧
  (∀ {h : Heap} {v0 v1 v2 : Value} (h0 : plainV v0 = true) (h1 : plainV v1 = true) (h2 : plainV v2 = true) (K : Value → Heap → Prop), RunV Try.prog (Instr.build 48 #[(0, v0), (1, v1), (2, v2)]) h K = K (.agg #[v0, v1, v2, .int .i64 0]) h) ∧
  (∀ {C : Heap → Prop} {h0 : Heap} (hC : C h0) {v0 v1 v2 : Value} (h0 : plainV v0 = true) (h1 : plainV v1 = true) (h2 : plainV v2 = true) (K : Value → Prop), QV Try.prog C (Instr.build 48 #[(0, v0), (1, v1), (2, v2)]) K = K (.agg #[v0, v1, v2, .int .i64 0])) ∧
  (∀ {h : Heap} {v0 v1 v2 v3 : Value} (h0 : plainV v0 = true) (h1 : plainV v1 = true) (h2 : plainV v2 = true) (h3 : plainV v3 = true) (K : Value → Heap → Prop), RunV Try.prog (Instr.build 48 #[(0, v0), (1, v1), (2, v2), (3, v3)]) h K = K (.agg #[v0, v1, v2, v3]) h) ∧
  (∀ {C : Heap → Prop} {h0 : Heap} (hC : C h0) {v0 v1 v2 v3 : Value} (h0 : plainV v0 = true) (h1 : plainV v1 = true) (h2 : plainV v2 = true) (h3 : plainV v3 = true) (K : Value → Prop), QV Try.prog C (Instr.build 48 #[(0, v0), (1, v1), (2, v2), (3, v3)]) K = K (.agg #[v0, v1, v2, v3])) ∧
  (∀ {h : Heap} {v3 v5 : Value} (h3 : plainV v3 = true) (h5 : plainV v5 = true) (K : Value → Heap → Prop), RunV Try.prog (Instr.build 66 #[(3, v3), (5, v5)]) h K = K (.agg #[str [], str [], str [], v3, .bool false, v5]) h) ∧
  (∀ {C : Heap → Prop} {h0 : Heap} (hC : C h0) {v3 v5 : Value} (h3 : plainV v3 = true) (h5 : plainV v5 = true) (K : Value → Prop), QV Try.prog C (Instr.build 66 #[(3, v3), (5, v5)]) K = K (.agg #[str [], str [], str [], v3, .bool false, v5])) ∧
  (∀ {h : Heap} {v5 : Value} (h5 : plainV v5 = true) (K : Value → Heap → Prop), RunV Try.prog (Instr.build 66 #[(5, v5)]) h K = K (.agg #[str [], str [], str [], .bool false, .bool false, v5]) h) ∧
  (∀ {C : Heap → Prop} {h0 : Heap} (hC : C h0) {v5 : Value} (h5 : plainV v5 = true) (K : Value → Prop), QV Try.prog C (Instr.build 66 #[(5, v5)]) K = K (.agg #[str [], str [], str [], .bool false, .bool false, v5])) ∧
  (∀ {h : Heap} (x : Value) (K : Value → Heap → Prop), RunV Try.prog (Instr.alloc 25 true x) h K = K (.pointer (some ⟨h.size, 0, none⟩)) (h.push (.cells #[.slice none 0 0, .slice none 0 0] 25 (0, 0)))) ∧
  (∀ {h : Heap} (x : Value) (K : Value → Heap → Prop), RunV Try.prog (Instr.alloc 30 true x) h K = K (.pointer (some ⟨h.size, 0, none⟩)) (h.push (.cells #[.slice none 0 0, .slice none 0 0] 30 (0, 0)))) ∧
  (∀ {h : Heap} (x : Value) (K : Value → Heap → Prop), RunV Try.prog (Instr.alloc 48 true x) h K = K (.pointer (some ⟨h.size, 0, none⟩)) (h.push (.cells #[.int .i64 0, .int .i64 0, .int .i64 0, .int .i64 0] 48 (0, 0)))) ∧
  (∀ {h : Heap} (x : Value) (K : Value → Heap → Prop), RunV Try.prog (Instr.alloc 66 true x) h K = K (.pointer (some ⟨h.size, 0, none⟩)) (h.push (.cells #[str [], str [], str [], .bool false, .bool false, .int .i64 0] 66 (0, 0)))) ∧
  (∀ {h : Heap} (x : Value) (K : Value → Heap → Prop), RunV Try.prog (Instr.alloc 67 true x) h K = K (.pointer (some ⟨h.size, 0, none⟩)) (h.push (.cells #[.int .i64 0, .int .i64 0, .int .i64 0, .int .i64 0] 67 (0, 0)))) ∧
  (∀ {h : Heap} {v0_0 v0_1 v0_2 v0_3 v0_4 v0_5 v1_0 v1_1 v1_2 v1_3 v1_4 v1_5 v2_0 v2_1 v2_2 v2_3 v2_4 v2_5 : Value}  (K : Value → Heap → Prop), RunV Try.prog (Instr.buildSlice 22 3 #[(0, .agg #[v0_0, v0_1, v0_2, v0_3, v0_4, v0_5]), (1, .agg #[v1_0, v1_1, v1_2, v1_3, v1_4, v1_5]), (2, .agg #[v2_0, v2_1, v2_2, v2_3, v2_4, v2_5])]) h K = K (.slice (some ⟨h.size, 0, none⟩) 3 3) (h.push (.cells #[v0_0, v0_1, v0_2, v0_3, v0_4, v0_5, v1_0, v1_1, v1_2, v1_3, v1_4, v1_5, v2_0, v2_1, v2_2, v2_3, v2_4, v2_5] 66 (0, 0)))) ∧
  (∀ {h : Heap}  (K : Value → Heap → Prop), RunV Try.prog (Instr.buildSlice 23 0 #[]) h K = K (.slice (some ⟨h.size, 0, none⟩) 0 0) (h.push (.cells #[] 48 (0, 0)))) ∧
  (∀ {h : Heap} {v0_0 v0_1 v0_2 v0_3 : Value}  (K : Value → Heap → Prop), RunV Try.prog (Instr.buildSlice 23 1 #[(0, .agg #[v0_0, v0_1, v0_2, v0_3])]) h K = K (.slice (some ⟨h.size, 0, none⟩) 1 1) (h.push (.cells #[v0_0, v0_1, v0_2, v0_3] 48 (0, 0)))) ∧
  (∀ {h : Heap} {v0_0 v0_1 v0_2 v0_3 v1_0 v1_1 v1_2 v1_3 v2_0 v2_1 v2_2 v2_3 : Value}  (K : Value → Heap → Prop), RunV Try.prog (Instr.buildSlice 23 3 #[(0, .agg #[v0_0, v0_1, v0_2, v0_3]), (1, .agg #[v1_0, v1_1, v1_2, v1_3]), (2, .agg #[v2_0, v2_1, v2_2, v2_3])]) h K = K (.slice (some ⟨h.size, 0, none⟩) 3 3) (h.push (.cells #[v0_0, v0_1, v0_2, v0_3, v1_0, v1_1, v1_2, v1_3, v2_0, v2_1, v2_2, v2_3] 48 (0, 0)))) ∧
  (∀ {h : Heap} {v0_0 v0_1 v0_2 v0_3 : Value}  (K : Value → Heap → Prop), RunV Try.prog (Instr.buildSlice 28 1 #[(0, .agg #[v0_0, v0_1, v0_2, v0_3])]) h K = K (.slice (some ⟨h.size, 0, none⟩) 1 1) (h.push (.cells #[v0_0, v0_1, v0_2, v0_3] 67 (0, 0)))) ∧
  (∀ {h : Heap}  (K : Value → Heap → Prop), RunV Try.prog (Instr.buildSlice 33 0 #[]) h K = K (.slice (some ⟨h.size, 0, none⟩) 0 0) (h.push (.cells #[] 3 (0, 0)))) ∧
  (∀ {h : Heap} {v0 : Value} (h0 : plainV v0 = true) (K : Value → Heap → Prop), RunV Try.prog (Instr.buildSlice 33 1 #[(0, v0)]) h K = K (.slice (some ⟨h.size, 0, none⟩) 1 1) (h.push (.cells #[v0] 3 (0, 0)))) ∧
  (∀ {h : Heap} {v0 v1 : Value} (h0 : plainV v0 = true) (h1 : plainV v1 = true) (K : Value → Heap → Prop), RunV Try.prog (Instr.buildSlice 33 2 #[(0, v0), (1, v1)]) h K = K (.slice (some ⟨h.size, 0, none⟩) 2 2) (h.push (.cells #[v0, v1] 3 (0, 0)))) ∧
  (∀ {h : Heap} {v0 v1 v2 : Value} (h0 : plainV v0 = true) (h1 : plainV v1 = true) (h2 : plainV v2 = true) (K : Value → Heap → Prop), RunV Try.prog (Instr.buildSlice 33 3 #[(0, v0), (1, v1), (2, v2)]) h K = K (.slice (some ⟨h.size, 0, none⟩) 3 3) (h.push (.cells #[v0, v1, v2] 3 (0, 0)))) ∧
  (∀ {h : Heap}  (K : Value → Heap → Prop), RunV Try.prog (Instr.buildSlice 37 0 #[]) h K = K (.slice (some ⟨h.size, 0, none⟩) 0 0) (h.push (.cells #[] 33 (0, 0)))) ∧
  (∀ {h : Heap} {v0 : Value} (h0 : plainV v0 = true) (K : Value → Heap → Prop), RunV Try.prog (Instr.buildSlice 37 1 #[(0, v0)]) h K = K (.slice (some ⟨h.size, 0, none⟩) 1 1) (h.push (.cells #[v0] 33 (0, 0)))) ∧
  (∀ {h : Heap} {v0 v1 : Value} (h0 : plainV v0 = true) (h1 : plainV v1 = true) (K : Value → Heap → Prop), RunV Try.prog (Instr.buildSlice 37 2 #[(0, v0), (1, v1)]) h K = K (.slice (some ⟨h.size, 0, none⟩) 2 2) (h.push (.cells #[v0, v1] 33 (0, 0)))) ∧
  (∀ {h : Heap}  (K : Value → Heap → Prop), RunV Try.prog (Instr.buildSlice 74 0 #[]) h K = K (.slice (some ⟨h.size, 0, none⟩) 0 0) (h.push (.cells #[] 76 (0, 0)))) ∧
  (∀ {h : Heap} {v0 : Value} (h0 : plainV v0 = true) (K : Value → Heap → Prop), RunV Try.prog (Instr.buildSlice 74 1 #[(0, v0)]) h K = K (.slice (some ⟨h.size, 0, none⟩) 1 1) (h.push (.cells #[v0] 76 (0, 0)))) ∧
  (∀ {h : Heap} (n : Int) (h0 : 0 ≤ n) (h1 : n * 24 ≤ 140737488355328) (h2 : n ≤ 9223372036854775807) (K : Value → Heap → Prop), RunV Try.prog (Instr.makeSlice 38 (.int .i64 n) (.int .i64 n)) h K = K (.slice (some ⟨h.size, 0, none⟩) n.toNat n.toNat) (h.push (.cells (rowOf #[.slice none 0 0] (n.toNat * 1)) 33 (0, 0)))) ∧
  (∀ {h : Heap} (n : Int) (h0 : 0 ≤ n) (h1 : n * 1 ≤ 140737488355328) (h2 : n ≤ 9223372036854775807) (K : Value → Heap → Prop), RunV Try.prog (Instr.makeSlice 76 (.int .i64 n) (.int .i64 n)) h K = K (.slice (some ⟨h.size, 0, none⟩) n.toNat n.toNat) (h.push (.cells (rowOf #[.bool false] (n.toNat * 1)) 4 (0, 0)))) :=
  ⟨ld3, qld3, ld4, qld4, ld22, qld22, ld23, qld23, ld28, qld28, ld33, qld33, ld38, qld38, ld46, qld46, ld76, qld76, st3, st4, st28, st33, fa25_0, qfa25_0, fa25_1, qfa25_1, fa30_0, qfa30_0, fa30_1, qfa30_1, fa48_0, qfa48_0, fa48_1, qfa48_1, fa48_2, qfa48_2, fa48_3, qfa48_3, fa66_3, qfa66_3, fa66_5, qfa66_5, fa67_0, qfa67_0, fa67_1, qfa67_1, fa67_2, qfa67_2, fa67_3, qfa67_3, ix22, qix22, ix23, qix23, ix28, qix28, ix33, qix33, ix37, qix37, ix38, qix38, ix74, qix74, ix76, qix76, ln22, qln22, ln23, qln23, ln28, qln28, ln33, qln33, ln37, qln37, ln38, qln38, ln76, qln76, bd25_0_1, qbd25_0_1, bd30_0, qbd30_0, bd48_0_1_2, qbd48_0_1_2, bd48_0_1_2_3, qbd48_0_1_2_3, bd66_3_5, qbd66_3_5, bd66_5, qbd66_5, al25, al30, al48, al66, al67, bs22_3, bs23_0, bs23_1, bs23_3, bs28_1, bs33_0, bs33_1, bs33_2, bs33_3, bs37_0, bs37_1, bs37_2, bs74_0, bs74_1, mk38, mk76⟩

end Go.Proofs.Ytopflbjjbindkaa
