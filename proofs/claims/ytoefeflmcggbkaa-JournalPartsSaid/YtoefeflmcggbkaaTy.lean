import Derived.Test.YtoefeflmcggbkaaHpL
import Derived.Test.YtoefeflmcggbkaaProg
set_option linter.unusedVariables false
set_option linter.unusedSimpArgs false
namespace Go.Proofs.Ytoefeflmcggbkaa
open Go.Hp

theorem size3 : (Try.prog.info? 3).map (·.size) = some 1 := by kernel_rfl
theorem size4 : (Try.prog.info? 4).map (·.size) = some 1 := by kernel_rfl
theorem size5 : (Try.prog.info? 5).map (·.size) = some 1 := by kernel_rfl
theorem size9 : (Try.prog.info? 9).map (·.size) = some 1 := by kernel_rfl
theorem size24 : (Try.prog.info? 24).map (·.size) = some 1 := by kernel_rfl
theorem size25 : (Try.prog.info? 25).map (·.size) = some 1 := by kernel_rfl
theorem size28 : (Try.prog.info? 28).map (·.size) = some 1 := by kernel_rfl
theorem size31 : (Try.prog.info? 31).map (·.size) = some 1 := by kernel_rfl
theorem size32 : (Try.prog.info? 32).map (·.size) = some 1 := by kernel_rfl
theorem size39 : (Try.prog.info? 39).map (·.size) = some 4 := by kernel_rfl
theorem size54 : (Try.prog.info? 54).map (·.size) = some 1 := by kernel_rfl
theorem size60 : (Try.prog.info? 60).map (·.size) = some 2 := by kernel_rfl
theorem size63 : (Try.prog.info? 63).map (·.size) = some 1 := by kernel_rfl
theorem size72 : (Try.prog.info? 72).map (·.size) = some 3 := by kernel_rfl
theorem size79 : (Try.prog.info? 79).map (·.size) = some 32 := by kernel_rfl
theorem size81 : (Try.prog.info? 81).map (·.size) = some 1 := by kernel_rfl
theorem size93 : (Try.prog.info? 93).map (·.size) = some 1 := by kernel_rfl
theorem zq5 : (Try.prog.info? 5).bind (·.zero) = some (.int .u8 0) := by kernel_rfl
theorem zq9 : (Try.prog.info? 9).bind (·.zero) = some (str []) := by kernel_rfl
theorem zq60 : (Try.prog.info? 60).bind (·.zero) = some (.agg #[.int .i64 0, .int .i64 0]) := by kernel_rfl
theorem ld3 : ∀ {h : Heap} {b o : Nat} {v : Value} (hc : cellH h b o = some v) (K : Value → Heap → Prop), RunV Try.prog (Instr.loadAt 3 (.pointer (some ⟨b, o, none⟩))) h K = K v h :=
  fun hc K => m_load Try.underlying3 rfl hc K
theorem qld3 : ∀ {C : Heap → Prop} {h0 : Heap} {b o : Nat} {v : Value} (hC : C h0) (hc : ∀ h', C h' → cellH h' b o = some v) (K : Value → Prop), QV Try.prog C (Instr.loadAt 3 (.pointer (some ⟨b, o, none⟩))) K = K v :=
  fun hC hc K => q_m_load hC Try.underlying3 rfl hc K
theorem ld4 : ∀ {h : Heap} {b o : Nat} {v : Value} (hc : cellH h b o = some v) (K : Value → Heap → Prop), RunV Try.prog (Instr.loadAt 4 (.pointer (some ⟨b, o, none⟩))) h K = K v h :=
  fun hc K => m_load Try.underlying4 rfl hc K
theorem qld4 : ∀ {C : Heap → Prop} {h0 : Heap} {b o : Nat} {v : Value} (hC : C h0) (hc : ∀ h', C h' → cellH h' b o = some v) (K : Value → Prop), QV Try.prog C (Instr.loadAt 4 (.pointer (some ⟨b, o, none⟩))) K = K v :=
  fun hC hc K => q_m_load hC Try.underlying4 rfl hc K
theorem ld5 : ∀ {h : Heap} {b o : Nat} {v : Value} (hc : cellH h b o = some v) (K : Value → Heap → Prop), RunV Try.prog (Instr.loadAt 5 (.pointer (some ⟨b, o, none⟩))) h K = K v h :=
  fun hc K => m_load Try.underlying5 rfl hc K
theorem qld5 : ∀ {C : Heap → Prop} {h0 : Heap} {b o : Nat} {v : Value} (hC : C h0) (hc : ∀ h', C h' → cellH h' b o = some v) (K : Value → Prop), QV Try.prog C (Instr.loadAt 5 (.pointer (some ⟨b, o, none⟩))) K = K v :=
  fun hC hc K => q_m_load hC Try.underlying5 rfl hc K
theorem ld9 : ∀ {h : Heap} {b o : Nat} {v : Value} (hc : cellH h b o = some v) (K : Value → Heap → Prop), RunV Try.prog (Instr.loadAt 9 (.pointer (some ⟨b, o, none⟩))) h K = K v h :=
  fun hc K => m_load Try.underlying9 rfl hc K
theorem qld9 : ∀ {C : Heap → Prop} {h0 : Heap} {b o : Nat} {v : Value} (hC : C h0) (hc : ∀ h', C h' → cellH h' b o = some v) (K : Value → Prop), QV Try.prog C (Instr.loadAt 9 (.pointer (some ⟨b, o, none⟩))) K = K v :=
  fun hC hc K => q_m_load hC Try.underlying9 rfl hc K
theorem ld24 : ∀ {h : Heap} {b o : Nat} {v : Value} (hc : cellH h b o = some v) (K : Value → Heap → Prop), RunV Try.prog (Instr.loadAt 24 (.pointer (some ⟨b, o, none⟩))) h K = K v h :=
  fun hc K => m_load Try.underlying24 rfl hc K
theorem qld24 : ∀ {C : Heap → Prop} {h0 : Heap} {b o : Nat} {v : Value} (hC : C h0) (hc : ∀ h', C h' → cellH h' b o = some v) (K : Value → Prop), QV Try.prog C (Instr.loadAt 24 (.pointer (some ⟨b, o, none⟩))) K = K v :=
  fun hC hc K => q_m_load hC Try.underlying24 rfl hc K
theorem ld25 : ∀ {h : Heap} {b o : Nat} {v : Value} (hc : cellH h b o = some v) (K : Value → Heap → Prop), RunV Try.prog (Instr.loadAt 25 (.pointer (some ⟨b, o, none⟩))) h K = K v h :=
  fun hc K => m_load Try.underlying25 rfl hc K
theorem qld25 : ∀ {C : Heap → Prop} {h0 : Heap} {b o : Nat} {v : Value} (hC : C h0) (hc : ∀ h', C h' → cellH h' b o = some v) (K : Value → Prop), QV Try.prog C (Instr.loadAt 25 (.pointer (some ⟨b, o, none⟩))) K = K v :=
  fun hC hc K => q_m_load hC Try.underlying25 rfl hc K
theorem ld28 : ∀ {h : Heap} {b o : Nat} {v : Value} (hc : cellH h b o = some v) (K : Value → Heap → Prop), RunV Try.prog (Instr.loadAt 28 (.pointer (some ⟨b, o, none⟩))) h K = K v h :=
  fun hc K => m_load Try.underlying28 rfl hc K
theorem qld28 : ∀ {C : Heap → Prop} {h0 : Heap} {b o : Nat} {v : Value} (hC : C h0) (hc : ∀ h', C h' → cellH h' b o = some v) (K : Value → Prop), QV Try.prog C (Instr.loadAt 28 (.pointer (some ⟨b, o, none⟩))) K = K v :=
  fun hC hc K => q_m_load hC Try.underlying28 rfl hc K
theorem ld31 : ∀ {h : Heap} {b o : Nat} {v : Value} (hc : cellH h b o = some v) (K : Value → Heap → Prop), RunV Try.prog (Instr.loadAt 31 (.pointer (some ⟨b, o, none⟩))) h K = K v h :=
  fun hc K => m_load Try.underlying31 rfl hc K
theorem qld31 : ∀ {C : Heap → Prop} {h0 : Heap} {b o : Nat} {v : Value} (hC : C h0) (hc : ∀ h', C h' → cellH h' b o = some v) (K : Value → Prop), QV Try.prog C (Instr.loadAt 31 (.pointer (some ⟨b, o, none⟩))) K = K v :=
  fun hC hc K => q_m_load hC Try.underlying31 rfl hc K
theorem ld32 : ∀ {h : Heap} {b o : Nat} {v : Value} (hc : cellH h b o = some v) (K : Value → Heap → Prop), RunV Try.prog (Instr.loadAt 32 (.pointer (some ⟨b, o, none⟩))) h K = K v h :=
  fun hc K => m_load Try.underlying32 rfl hc K
theorem qld32 : ∀ {C : Heap → Prop} {h0 : Heap} {b o : Nat} {v : Value} (hC : C h0) (hc : ∀ h', C h' → cellH h' b o = some v) (K : Value → Prop), QV Try.prog C (Instr.loadAt 32 (.pointer (some ⟨b, o, none⟩))) K = K v :=
  fun hC hc K => q_m_load hC Try.underlying32 rfl hc K
theorem ld54 : ∀ {h : Heap} {b o : Nat} {v : Value} (hc : cellH h b o = some v) (K : Value → Heap → Prop), RunV Try.prog (Instr.loadAt 54 (.pointer (some ⟨b, o, none⟩))) h K = K v h :=
  fun hc K => m_load Try.underlying54 rfl hc K
theorem qld54 : ∀ {C : Heap → Prop} {h0 : Heap} {b o : Nat} {v : Value} (hC : C h0) (hc : ∀ h', C h' → cellH h' b o = some v) (K : Value → Prop), QV Try.prog C (Instr.loadAt 54 (.pointer (some ⟨b, o, none⟩))) K = K v :=
  fun hC hc K => q_m_load hC Try.underlying54 rfl hc K
theorem ld63 : ∀ {h : Heap} {b o : Nat} {v : Value} (hc : cellH h b o = some v) (K : Value → Heap → Prop), RunV Try.prog (Instr.loadAt 63 (.pointer (some ⟨b, o, none⟩))) h K = K v h :=
  fun hc K => m_load Try.underlying63 rfl hc K
theorem qld63 : ∀ {C : Heap → Prop} {h0 : Heap} {b o : Nat} {v : Value} (hC : C h0) (hc : ∀ h', C h' → cellH h' b o = some v) (K : Value → Prop), QV Try.prog C (Instr.loadAt 63 (.pointer (some ⟨b, o, none⟩))) K = K v :=
  fun hC hc K => q_m_load hC Try.underlying63 rfl hc K
theorem ld81 : ∀ {h : Heap} {b o : Nat} {v : Value} (hc : cellH h b o = some v) (K : Value → Heap → Prop), RunV Try.prog (Instr.loadAt 81 (.pointer (some ⟨b, o, none⟩))) h K = K v h :=
  fun hc K => m_load Try.underlying81 rfl hc K
theorem qld81 : ∀ {C : Heap → Prop} {h0 : Heap} {b o : Nat} {v : Value} (hC : C h0) (hc : ∀ h', C h' → cellH h' b o = some v) (K : Value → Prop), QV Try.prog C (Instr.loadAt 81 (.pointer (some ⟨b, o, none⟩))) K = K v :=
  fun hC hc K => q_m_load hC Try.underlying81 rfl hc K
theorem ld93 : ∀ {h : Heap} {b o : Nat} {v : Value} (hc : cellH h b o = some v) (K : Value → Heap → Prop), RunV Try.prog (Instr.loadAt 93 (.pointer (some ⟨b, o, none⟩))) h K = K v h :=
  fun hc K => m_load Try.underlying93 rfl hc K
theorem qld93 : ∀ {C : Heap → Prop} {h0 : Heap} {b o : Nat} {v : Value} (hC : C h0) (hc : ∀ h', C h' → cellH h' b o = some v) (K : Value → Prop), QV Try.prog C (Instr.loadAt 93 (.pointer (some ⟨b, o, none⟩))) K = K v :=
  fun hC hc K => q_m_load hC Try.underlying93 rfl hc K
theorem st3 : ∀ {h : Heap} {b o : Nat} {v : Value} (hv : plainV v = true) (hc : okW h b o = true) (K : Heap → Prop), RunU Try.prog (Instr.storeAt 3 (.pointer (some ⟨b, o, none⟩)) v) h K = K (setH h b o v) :=
  fun hv hc K => m_store size3 hv hc K
theorem st4 : ∀ {h : Heap} {b o : Nat} {v : Value} (hv : plainV v = true) (hc : okW h b o = true) (K : Heap → Prop), RunU Try.prog (Instr.storeAt 4 (.pointer (some ⟨b, o, none⟩)) v) h K = K (setH h b o v) :=
  fun hv hc K => m_store size4 hv hc K
theorem st5 : ∀ {h : Heap} {b o : Nat} {v : Value} (hv : plainV v = true) (hc : okW h b o = true) (K : Heap → Prop), RunU Try.prog (Instr.storeAt 5 (.pointer (some ⟨b, o, none⟩)) v) h K = K (setH h b o v) :=
  fun hv hc K => m_store size5 hv hc K
theorem st9 : ∀ {h : Heap} {b o : Nat} {v : Value} (hv : plainV v = true) (hc : okW h b o = true) (K : Heap → Prop), RunU Try.prog (Instr.storeAt 9 (.pointer (some ⟨b, o, none⟩)) v) h K = K (setH h b o v) :=
  fun hv hc K => m_store size9 hv hc K
theorem st25 : ∀ {h : Heap} {b o : Nat} {v : Value} (hv : plainV v = true) (hc : okW h b o = true) (K : Heap → Prop), RunU Try.prog (Instr.storeAt 25 (.pointer (some ⟨b, o, none⟩)) v) h K = K (setH h b o v) :=
  fun hv hc K => m_store size25 hv hc K
theorem st31 : ∀ {h : Heap} {b o : Nat} {v : Value} (hv : plainV v = true) (hc : okW h b o = true) (K : Heap → Prop), RunU Try.prog (Instr.storeAt 31 (.pointer (some ⟨b, o, none⟩)) v) h K = K (setH h b o v) :=
  fun hv hc K => m_store size31 hv hc K
theorem st32 : ∀ {h : Heap} {b o : Nat} {v : Value} (hv : plainV v = true) (hc : okW h b o = true) (K : Heap → Prop), RunU Try.prog (Instr.storeAt 32 (.pointer (some ⟨b, o, none⟩)) v) h K = K (setH h b o v) :=
  fun hv hc K => m_store size32 hv hc K
theorem st54 : ∀ {h : Heap} {b o : Nat} {v : Value} (hv : plainV v = true) (hc : okW h b o = true) (K : Heap → Prop), RunU Try.prog (Instr.storeAt 54 (.pointer (some ⟨b, o, none⟩)) v) h K = K (setH h b o v) :=
  fun hv hc K => m_store size54 hv hc K
theorem st81 : ∀ {h : Heap} {b o : Nat} {v : Value} (hv : plainV v = true) (hc : okW h b o = true) (K : Heap → Prop), RunU Try.prog (Instr.storeAt 81 (.pointer (some ⟨b, o, none⟩)) v) h K = K (setH h b o v) :=
  fun hv hc K => m_store size81 hv hc K
theorem st93 : ∀ {h : Heap} {b o : Nat} {v : Value} (hv : plainV v = true) (hc : okW h b o = true) (K : Heap → Prop), RunU Try.prog (Instr.storeAt 93 (.pointer (some ⟨b, o, none⟩)) v) h K = K (setH h b o v) :=
  fun hv hc K => m_store size93 hv hc K
theorem fa39_0 : ∀ {h : Heap} (b o : Nat) (K : Value → Heap → Prop), RunV Try.prog (Instr.fieldAt 39 (.pointer (some ⟨b, o, none⟩)) 0) h K = K (.pointer (some ⟨b, o, none⟩)) h :=
  fun b o K => m_field Try.underlying39 0 3 0 rfl size3 b o K
theorem qfa39_0 : ∀ {C : Heap → Prop} {h0 : Heap} (hC : C h0) (b o : Nat) (K : Value → Prop), QV Try.prog C (Instr.fieldAt 39 (.pointer (some ⟨b, o, none⟩)) 0) K = K (.pointer (some ⟨b, o, none⟩)) :=
  fun hC b o K => q_m_field hC Try.underlying39 0 3 0 rfl size3 b o K
theorem fa39_1 : ∀ {h : Heap} (b o : Nat) (K : Value → Heap → Prop), RunV Try.prog (Instr.fieldAt 39 (.pointer (some ⟨b, o, none⟩)) 1) h K = K (.pointer (some ⟨b, o + 1, none⟩)) h :=
  fun b o K => m_field Try.underlying39 1 3 1 rfl size3 b o K
theorem qfa39_1 : ∀ {C : Heap → Prop} {h0 : Heap} (hC : C h0) (b o : Nat) (K : Value → Prop), QV Try.prog C (Instr.fieldAt 39 (.pointer (some ⟨b, o, none⟩)) 1) K = K (.pointer (some ⟨b, o + 1, none⟩)) :=
  fun hC b o K => q_m_field hC Try.underlying39 1 3 1 rfl size3 b o K
theorem fa39_2 : ∀ {h : Heap} (b o : Nat) (K : Value → Heap → Prop), RunV Try.prog (Instr.fieldAt 39 (.pointer (some ⟨b, o, none⟩)) 2) h K = K (.pointer (some ⟨b, o + 2, none⟩)) h :=
  fun b o K => m_field Try.underlying39 2 3 2 rfl size3 b o K
theorem qfa39_2 : ∀ {C : Heap → Prop} {h0 : Heap} (hC : C h0) (b o : Nat) (K : Value → Prop), QV Try.prog C (Instr.fieldAt 39 (.pointer (some ⟨b, o, none⟩)) 2) K = K (.pointer (some ⟨b, o + 2, none⟩)) :=
  fun hC b o K => q_m_field hC Try.underlying39 2 3 2 rfl size3 b o K
theorem fa39_3 : ∀ {h : Heap} (b o : Nat) (K : Value → Heap → Prop), RunV Try.prog (Instr.fieldAt 39 (.pointer (some ⟨b, o, none⟩)) 3) h K = K (.pointer (some ⟨b, o + 3, none⟩)) h :=
  fun b o K => m_field Try.underlying39 3 9 3 rfl size9 b o K
theorem qfa39_3 : ∀ {C : Heap → Prop} {h0 : Heap} (hC : C h0) (b o : Nat) (K : Value → Prop), QV Try.prog C (Instr.fieldAt 39 (.pointer (some ⟨b, o, none⟩)) 3) K = K (.pointer (some ⟨b, o + 3, none⟩)) :=
  fun hC b o K => q_m_field hC Try.underlying39 3 9 3 rfl size9 b o K
theorem fa51_0 : ∀ {h : Heap} (b o : Nat) (K : Value → Heap → Prop), RunV Try.prog (Instr.fieldAt 51 (.pointer (some ⟨b, o, none⟩)) 0) h K = K (.pointer (some ⟨b, o, none⟩)) h :=
  fun b o K => m_field Try.underlying51 0 28 0 rfl size28 b o K
theorem qfa51_0 : ∀ {C : Heap → Prop} {h0 : Heap} (hC : C h0) (b o : Nat) (K : Value → Prop), QV Try.prog C (Instr.fieldAt 51 (.pointer (some ⟨b, o, none⟩)) 0) K = K (.pointer (some ⟨b, o, none⟩)) :=
  fun hC b o K => q_m_field hC Try.underlying51 0 28 0 rfl size28 b o K
theorem fa51_1 : ∀ {h : Heap} (b o : Nat) (K : Value → Heap → Prop), RunV Try.prog (Instr.fieldAt 51 (.pointer (some ⟨b, o, none⟩)) 1) h K = K (.pointer (some ⟨b, o + 1, none⟩)) h :=
  fun b o K => m_field Try.underlying51 1 3 1 rfl size3 b o K
theorem qfa51_1 : ∀ {C : Heap → Prop} {h0 : Heap} (hC : C h0) (b o : Nat) (K : Value → Prop), QV Try.prog C (Instr.fieldAt 51 (.pointer (some ⟨b, o, none⟩)) 1) K = K (.pointer (some ⟨b, o + 1, none⟩)) :=
  fun hC b o K => q_m_field hC Try.underlying51 1 3 1 rfl size3 b o K
theorem fa51_2 : ∀ {h : Heap} (b o : Nat) (K : Value → Heap → Prop), RunV Try.prog (Instr.fieldAt 51 (.pointer (some ⟨b, o, none⟩)) 2) h K = K (.pointer (some ⟨b, o + 2, none⟩)) h :=
  fun b o K => m_field Try.underlying51 2 3 2 rfl size3 b o K
theorem qfa51_2 : ∀ {C : Heap → Prop} {h0 : Heap} (hC : C h0) (b o : Nat) (K : Value → Prop), QV Try.prog C (Instr.fieldAt 51 (.pointer (some ⟨b, o, none⟩)) 2) K = K (.pointer (some ⟨b, o + 2, none⟩)) :=
  fun hC b o K => q_m_field hC Try.underlying51 2 3 2 rfl size3 b o K
theorem fa51_3 : ∀ {h : Heap} (b o : Nat) (K : Value → Heap → Prop), RunV Try.prog (Instr.fieldAt 51 (.pointer (some ⟨b, o, none⟩)) 3) h K = K (.pointer (some ⟨b, o + 3, none⟩)) h :=
  fun b o K => m_field Try.underlying51 3 32 3 rfl size32 b o K
theorem qfa51_3 : ∀ {C : Heap → Prop} {h0 : Heap} (hC : C h0) (b o : Nat) (K : Value → Prop), QV Try.prog C (Instr.fieldAt 51 (.pointer (some ⟨b, o, none⟩)) 3) K = K (.pointer (some ⟨b, o + 3, none⟩)) :=
  fun hC b o K => q_m_field hC Try.underlying51 3 32 3 rfl size32 b o K
theorem fa51_4 : ∀ {h : Heap} (b o : Nat) (K : Value → Heap → Prop), RunV Try.prog (Instr.fieldAt 51 (.pointer (some ⟨b, o, none⟩)) 4) h K = K (.pointer (some ⟨b, o + 4, none⟩)) h :=
  fun b o K => m_field Try.underlying51 4 3 4 rfl size3 b o K
theorem qfa51_4 : ∀ {C : Heap → Prop} {h0 : Heap} (hC : C h0) (b o : Nat) (K : Value → Prop), QV Try.prog C (Instr.fieldAt 51 (.pointer (some ⟨b, o, none⟩)) 4) K = K (.pointer (some ⟨b, o + 4, none⟩)) :=
  fun hC b o K => q_m_field hC Try.underlying51 4 3 4 rfl size3 b o K
theorem fa51_5 : ∀ {h : Heap} (b o : Nat) (K : Value → Heap → Prop), RunV Try.prog (Instr.fieldAt 51 (.pointer (some ⟨b, o, none⟩)) 5) h K = K (.pointer (some ⟨b, o + 5, none⟩)) h :=
  fun b o K => m_field Try.underlying51 5 4 5 rfl size4 b o K
theorem qfa51_5 : ∀ {C : Heap → Prop} {h0 : Heap} (hC : C h0) (b o : Nat) (K : Value → Prop), QV Try.prog C (Instr.fieldAt 51 (.pointer (some ⟨b, o, none⟩)) 5) K = K (.pointer (some ⟨b, o + 5, none⟩)) :=
  fun hC b o K => q_m_field hC Try.underlying51 5 4 5 rfl size4 b o K
theorem fa65_0 : ∀ {h : Heap} (b o : Nat) (K : Value → Heap → Prop), RunV Try.prog (Instr.fieldAt 65 (.pointer (some ⟨b, o, none⟩)) 0) h K = K (.pointer (some ⟨b, o, none⟩)) h :=
  fun b o K => m_field Try.underlying65 0 63 0 rfl size63 b o K
theorem qfa65_0 : ∀ {C : Heap → Prop} {h0 : Heap} (hC : C h0) (b o : Nat) (K : Value → Prop), QV Try.prog C (Instr.fieldAt 65 (.pointer (some ⟨b, o, none⟩)) 0) K = K (.pointer (some ⟨b, o, none⟩)) :=
  fun hC b o K => q_m_field hC Try.underlying65 0 63 0 rfl size63 b o K
theorem fa65_1 : ∀ {h : Heap} (b o : Nat) (K : Value → Heap → Prop), RunV Try.prog (Instr.fieldAt 65 (.pointer (some ⟨b, o, none⟩)) 1) h K = K (.pointer (some ⟨b, o + 1, none⟩)) h :=
  fun b o K => m_field Try.underlying65 1 3 1 rfl size3 b o K
theorem qfa65_1 : ∀ {C : Heap → Prop} {h0 : Heap} (hC : C h0) (b o : Nat) (K : Value → Prop), QV Try.prog C (Instr.fieldAt 65 (.pointer (some ⟨b, o, none⟩)) 1) K = K (.pointer (some ⟨b, o + 1, none⟩)) :=
  fun hC b o K => q_m_field hC Try.underlying65 1 3 1 rfl size3 b o K
theorem fa65_2 : ∀ {h : Heap} (b o : Nat) (K : Value → Heap → Prop), RunV Try.prog (Instr.fieldAt 65 (.pointer (some ⟨b, o, none⟩)) 2) h K = K (.pointer (some ⟨b, o + 2, none⟩)) h :=
  fun b o K => m_field Try.underlying65 2 3 2 rfl size3 b o K
theorem qfa65_2 : ∀ {C : Heap → Prop} {h0 : Heap} (hC : C h0) (b o : Nat) (K : Value → Prop), QV Try.prog C (Instr.fieldAt 65 (.pointer (some ⟨b, o, none⟩)) 2) K = K (.pointer (some ⟨b, o + 2, none⟩)) :=
  fun hC b o K => q_m_field hC Try.underlying65 2 3 2 rfl size3 b o K
theorem fa65_3 : ∀ {h : Heap} (b o : Nat) (K : Value → Heap → Prop), RunV Try.prog (Instr.fieldAt 65 (.pointer (some ⟨b, o, none⟩)) 3) h K = K (.pointer (some ⟨b, o + 3, none⟩)) h :=
  fun b o K => m_field Try.underlying65 3 4 3 rfl size4 b o K
theorem qfa65_3 : ∀ {C : Heap → Prop} {h0 : Heap} (hC : C h0) (b o : Nat) (K : Value → Prop), QV Try.prog C (Instr.fieldAt 65 (.pointer (some ⟨b, o, none⟩)) 3) K = K (.pointer (some ⟨b, o + 3, none⟩)) :=
  fun hC b o K => q_m_field hC Try.underlying65 3 4 3 rfl size4 b o K
theorem fa65_4 : ∀ {h : Heap} (b o : Nat) (K : Value → Heap → Prop), RunV Try.prog (Instr.fieldAt 65 (.pointer (some ⟨b, o, none⟩)) 4) h K = K (.pointer (some ⟨b, o + 4, none⟩)) h :=
  fun b o K => m_field Try.underlying65 4 3 4 rfl size3 b o K
theorem qfa65_4 : ∀ {C : Heap → Prop} {h0 : Heap} (hC : C h0) (b o : Nat) (K : Value → Prop), QV Try.prog C (Instr.fieldAt 65 (.pointer (some ⟨b, o, none⟩)) 4) K = K (.pointer (some ⟨b, o + 4, none⟩)) :=
  fun hC b o K => q_m_field hC Try.underlying65 4 3 4 rfl size3 b o K
theorem fa67_0 : ∀ {h : Heap} (b o : Nat) (K : Value → Heap → Prop), RunV Try.prog (Instr.fieldAt 67 (.pointer (some ⟨b, o, none⟩)) 0) h K = K (.pointer (some ⟨b, o, none⟩)) h :=
  fun b o K => m_field Try.underlying67 0 32 0 rfl size32 b o K
theorem qfa67_0 : ∀ {C : Heap → Prop} {h0 : Heap} (hC : C h0) (b o : Nat) (K : Value → Prop), QV Try.prog C (Instr.fieldAt 67 (.pointer (some ⟨b, o, none⟩)) 0) K = K (.pointer (some ⟨b, o, none⟩)) :=
  fun hC b o K => q_m_field hC Try.underlying67 0 32 0 rfl size32 b o K
theorem fa67_1 : ∀ {h : Heap} (b o : Nat) (K : Value → Heap → Prop), RunV Try.prog (Instr.fieldAt 67 (.pointer (some ⟨b, o, none⟩)) 1) h K = K (.pointer (some ⟨b, o + 1, none⟩)) h :=
  fun b o K => m_field Try.underlying67 1 3 1 rfl size3 b o K
theorem qfa67_1 : ∀ {C : Heap → Prop} {h0 : Heap} (hC : C h0) (b o : Nat) (K : Value → Prop), QV Try.prog C (Instr.fieldAt 67 (.pointer (some ⟨b, o, none⟩)) 1) K = K (.pointer (some ⟨b, o + 1, none⟩)) :=
  fun hC b o K => q_m_field hC Try.underlying67 1 3 1 rfl size3 b o K
theorem fa67_2 : ∀ {h : Heap} (b o : Nat) (K : Value → Heap → Prop), RunV Try.prog (Instr.fieldAt 67 (.pointer (some ⟨b, o, none⟩)) 2) h K = K (.pointer (some ⟨b, o + 2, none⟩)) h :=
  fun b o K => m_field Try.underlying67 2 3 2 rfl size3 b o K
theorem qfa67_2 : ∀ {C : Heap → Prop} {h0 : Heap} (hC : C h0) (b o : Nat) (K : Value → Prop), QV Try.prog C (Instr.fieldAt 67 (.pointer (some ⟨b, o, none⟩)) 2) K = K (.pointer (some ⟨b, o + 2, none⟩)) :=
  fun hC b o K => q_m_field hC Try.underlying67 2 3 2 rfl size3 b o K
theorem fa67_3 : ∀ {h : Heap} (b o : Nat) (K : Value → Heap → Prop), RunV Try.prog (Instr.fieldAt 67 (.pointer (some ⟨b, o, none⟩)) 3) h K = K (.pointer (some ⟨b, o + 3, none⟩)) h :=
  fun b o K => m_field Try.underlying67 3 4 3 rfl size4 b o K
theorem qfa67_3 : ∀ {C : Heap → Prop} {h0 : Heap} (hC : C h0) (b o : Nat) (K : Value → Prop), QV Try.prog C (Instr.fieldAt 67 (.pointer (some ⟨b, o, none⟩)) 3) K = K (.pointer (some ⟨b, o + 3, none⟩)) :=
  fun hC b o K => q_m_field hC Try.underlying67 3 4 3 rfl size4 b o K
theorem fa67_4 : ∀ {h : Heap} (b o : Nat) (K : Value → Heap → Prop), RunV Try.prog (Instr.fieldAt 67 (.pointer (some ⟨b, o, none⟩)) 4) h K = K (.pointer (some ⟨b, o + 4, none⟩)) h :=
  fun b o K => m_field Try.underlying67 4 3 4 rfl size3 b o K
theorem qfa67_4 : ∀ {C : Heap → Prop} {h0 : Heap} (hC : C h0) (b o : Nat) (K : Value → Prop), QV Try.prog C (Instr.fieldAt 67 (.pointer (some ⟨b, o, none⟩)) 4) K = K (.pointer (some ⟨b, o + 4, none⟩)) :=
  fun hC b o K => q_m_field hC Try.underlying67 4 3 4 rfl size3 b o K
theorem fa72_0 : ∀ {h : Heap} (b o : Nat) (K : Value → Heap → Prop), RunV Try.prog (Instr.fieldAt 72 (.pointer (some ⟨b, o, none⟩)) 0) h K = K (.pointer (some ⟨b, o, none⟩)) h :=
  fun b o K => m_field Try.underlying72 0 24 0 rfl size24 b o K
theorem qfa72_0 : ∀ {C : Heap → Prop} {h0 : Heap} (hC : C h0) (b o : Nat) (K : Value → Prop), QV Try.prog C (Instr.fieldAt 72 (.pointer (some ⟨b, o, none⟩)) 0) K = K (.pointer (some ⟨b, o, none⟩)) :=
  fun hC b o K => q_m_field hC Try.underlying72 0 24 0 rfl size24 b o K
theorem fa72_1 : ∀ {h : Heap} (b o : Nat) (K : Value → Heap → Prop), RunV Try.prog (Instr.fieldAt 72 (.pointer (some ⟨b, o, none⟩)) 1) h K = K (.pointer (some ⟨b, o + 1, none⟩)) h :=
  fun b o K => m_field Try.underlying72 1 3 1 rfl size3 b o K
theorem qfa72_1 : ∀ {C : Heap → Prop} {h0 : Heap} (hC : C h0) (b o : Nat) (K : Value → Prop), QV Try.prog C (Instr.fieldAt 72 (.pointer (some ⟨b, o, none⟩)) 1) K = K (.pointer (some ⟨b, o + 1, none⟩)) :=
  fun hC b o K => q_m_field hC Try.underlying72 1 3 1 rfl size3 b o K
theorem fa72_2 : ∀ {h : Heap} (b o : Nat) (K : Value → Heap → Prop), RunV Try.prog (Instr.fieldAt 72 (.pointer (some ⟨b, o, none⟩)) 2) h K = K (.pointer (some ⟨b, o + 2, none⟩)) h :=
  fun b o K => m_field Try.underlying72 2 3 2 rfl size3 b o K
theorem qfa72_2 : ∀ {C : Heap → Prop} {h0 : Heap} (hC : C h0) (b o : Nat) (K : Value → Prop), QV Try.prog C (Instr.fieldAt 72 (.pointer (some ⟨b, o, none⟩)) 2) K = K (.pointer (some ⟨b, o + 2, none⟩)) :=
  fun hC b o K => q_m_field hC Try.underlying72 2 3 2 rfl size3 b o K
theorem fa74_0 : ∀ {h : Heap} (b o : Nat) (K : Value → Heap → Prop), RunV Try.prog (Instr.fieldAt 74 (.pointer (some ⟨b, o, none⟩)) 0) h K = K (.pointer (some ⟨b, o, none⟩)) h :=
  fun b o K => m_field Try.underlying74 0 72 0 rfl size72 b o K
theorem qfa74_0 : ∀ {C : Heap → Prop} {h0 : Heap} (hC : C h0) (b o : Nat) (K : Value → Prop), QV Try.prog C (Instr.fieldAt 74 (.pointer (some ⟨b, o, none⟩)) 0) K = K (.pointer (some ⟨b, o, none⟩)) :=
  fun hC b o K => q_m_field hC Try.underlying74 0 72 0 rfl size72 b o K
theorem fa74_1 : ∀ {h : Heap} (b o : Nat) (K : Value → Heap → Prop), RunV Try.prog (Instr.fieldAt 74 (.pointer (some ⟨b, o, none⟩)) 1) h K = K (.pointer (some ⟨b, o + 3, none⟩)) h :=
  fun b o K => m_field Try.underlying74 1 32 3 rfl size32 b o K
theorem qfa74_1 : ∀ {C : Heap → Prop} {h0 : Heap} (hC : C h0) (b o : Nat) (K : Value → Prop), QV Try.prog C (Instr.fieldAt 74 (.pointer (some ⟨b, o, none⟩)) 1) K = K (.pointer (some ⟨b, o + 3, none⟩)) :=
  fun hC b o K => q_m_field hC Try.underlying74 1 32 3 rfl size32 b o K
theorem fa74_2 : ∀ {h : Heap} (b o : Nat) (K : Value → Heap → Prop), RunV Try.prog (Instr.fieldAt 74 (.pointer (some ⟨b, o, none⟩)) 2) h K = K (.pointer (some ⟨b, o + 4, none⟩)) h :=
  fun b o K => m_field Try.underlying74 2 3 4 rfl size3 b o K
theorem qfa74_2 : ∀ {C : Heap → Prop} {h0 : Heap} (hC : C h0) (b o : Nat) (K : Value → Prop), QV Try.prog C (Instr.fieldAt 74 (.pointer (some ⟨b, o, none⟩)) 2) K = K (.pointer (some ⟨b, o + 4, none⟩)) :=
  fun hC b o K => q_m_field hC Try.underlying74 2 3 4 rfl size3 b o K
theorem fa74_3 : ∀ {h : Heap} (b o : Nat) (K : Value → Heap → Prop), RunV Try.prog (Instr.fieldAt 74 (.pointer (some ⟨b, o, none⟩)) 3) h K = K (.pointer (some ⟨b, o + 5, none⟩)) h :=
  fun b o K => m_field Try.underlying74 3 4 5 rfl size4 b o K
theorem qfa74_3 : ∀ {C : Heap → Prop} {h0 : Heap} (hC : C h0) (b o : Nat) (K : Value → Prop), QV Try.prog C (Instr.fieldAt 74 (.pointer (some ⟨b, o, none⟩)) 3) K = K (.pointer (some ⟨b, o + 5, none⟩)) :=
  fun hC b o K => q_m_field hC Try.underlying74 3 4 5 rfl size4 b o K
theorem fa83_0 : ∀ {h : Heap} (b o : Nat) (K : Value → Heap → Prop), RunV Try.prog (Instr.fieldAt 83 (.pointer (some ⟨b, o, none⟩)) 0) h K = K (.pointer (some ⟨b, o, none⟩)) h :=
  fun b o K => m_field Try.underlying83 0 81 0 rfl size81 b o K
theorem qfa83_0 : ∀ {C : Heap → Prop} {h0 : Heap} (hC : C h0) (b o : Nat) (K : Value → Prop), QV Try.prog C (Instr.fieldAt 83 (.pointer (some ⟨b, o, none⟩)) 0) K = K (.pointer (some ⟨b, o, none⟩)) :=
  fun hC b o K => q_m_field hC Try.underlying83 0 81 0 rfl size81 b o K
theorem fa83_1 : ∀ {h : Heap} (b o : Nat) (K : Value → Heap → Prop), RunV Try.prog (Instr.fieldAt 83 (.pointer (some ⟨b, o, none⟩)) 1) h K = K (.pointer (some ⟨b, o + 1, none⟩)) h :=
  fun b o K => m_field Try.underlying83 1 54 1 rfl size54 b o K
theorem qfa83_1 : ∀ {C : Heap → Prop} {h0 : Heap} (hC : C h0) (b o : Nat) (K : Value → Prop), QV Try.prog C (Instr.fieldAt 83 (.pointer (some ⟨b, o, none⟩)) 1) K = K (.pointer (some ⟨b, o + 1, none⟩)) :=
  fun hC b o K => q_m_field hC Try.underlying83 1 54 1 rfl size54 b o K
theorem ix22 : ∀ {h : Heap} (b o len cap : Nat) (i : Int) (h0 : 0 ≤ i) (h1 : i < (len : Int)) (K : Value → Heap → Prop), RunV Try.prog (Instr.indexAt 22 (.slice (some ⟨b, o, none⟩) len cap) (.int .i64 i)) h K = K (.pointer (some ⟨b, o + i.toNat * 4, none⟩)) h :=
  fun b o len cap i h0 h1 K => m_index Try.underlying22 size39 b o len cap i h0 h1 K
theorem qix22 : ∀ {C : Heap → Prop} {h0 : Heap} (hC : C h0) (b o len cap : Nat) (i : Int) (h0 : 0 ≤ i) (h1 : i < (len : Int)) (K : Value → Prop), QV Try.prog C (Instr.indexAt 22 (.slice (some ⟨b, o, none⟩) len cap) (.int .i64 i)) K = K (.pointer (some ⟨b, o + i.toNat * 4, none⟩)) :=
  fun hC b o len cap i h0 h1 K => q_m_index hC Try.underlying22 size39 b o len cap i h0 h1 K
theorem ix32 : ∀ {h : Heap} (b o len cap : Nat) (i : Int) (h0 : 0 ≤ i) (h1 : i < (len : Int)) (K : Value → Heap → Prop), RunV Try.prog (Instr.indexAt 32 (.slice (some ⟨b, o, none⟩) len cap) (.int .i64 i)) h K = K (.pointer (some ⟨b, o + i.toNat, none⟩)) h :=
  fun b o len cap i h0 h1 K => (m_index Try.underlying32 size9 b o len cap i h0 h1 K).trans (by rw [Nat.mul_one])
theorem qix32 : ∀ {C : Heap → Prop} {h0 : Heap} (hC : C h0) (b o len cap : Nat) (i : Int) (h0 : 0 ≤ i) (h1 : i < (len : Int)) (K : Value → Prop), QV Try.prog C (Instr.indexAt 32 (.slice (some ⟨b, o, none⟩) len cap) (.int .i64 i)) K = K (.pointer (some ⟨b, o + i.toNat, none⟩)) :=
  fun hC b o len cap i h0 h1 K => (q_m_index hC Try.underlying32 size9 b o len cap i h0 h1 K).trans (by rw [Nat.mul_one])
theorem ix54 : ∀ {h : Heap} (b o len cap : Nat) (i : Int) (h0 : 0 ≤ i) (h1 : i < (len : Int)) (K : Value → Heap → Prop), RunV Try.prog (Instr.indexAt 54 (.slice (some ⟨b, o, none⟩) len cap) (.int .i64 i)) h K = K (.pointer (some ⟨b, o + i.toNat, none⟩)) h :=
  fun b o len cap i h0 h1 K => (m_index Try.underlying54 size5 b o len cap i h0 h1 K).trans (by rw [Nat.mul_one])
theorem qix54 : ∀ {C : Heap → Prop} {h0 : Heap} (hC : C h0) (b o len cap : Nat) (i : Int) (h0 : 0 ≤ i) (h1 : i < (len : Int)) (K : Value → Prop), QV Try.prog C (Instr.indexAt 54 (.slice (some ⟨b, o, none⟩) len cap) (.int .i64 i)) K = K (.pointer (some ⟨b, o + i.toNat, none⟩)) :=
  fun hC b o len cap i h0 h1 K => (q_m_index hC Try.underlying54 size5 b o len cap i h0 h1 K).trans (by rw [Nat.mul_one])
theorem ix55 : ∀ {h : Heap} (b o : Nat) (i : Int) (h0 : 0 ≤ i) (h1 : i < ((3 : Nat) : Int)) (K : Value → Heap → Prop), RunV Try.prog (Instr.indexAt 55 (.pointer (some ⟨b, o, none⟩)) (.int .i64 i)) h K = K (.pointer (some ⟨b, o + i.toNat, none⟩)) h :=
  fun b o i h0 h1 K => (m_indexArr Try.underlying55 size3 b o i h0 h1 K).trans (by rw [Nat.mul_one])
theorem qix55 : ∀ {C : Heap → Prop} {h0 : Heap} (hC : C h0) (b o : Nat) (i : Int) (h0 : 0 ≤ i) (h1 : i < ((3 : Nat) : Int)) (K : Value → Prop), QV Try.prog C (Instr.indexAt 55 (.pointer (some ⟨b, o, none⟩)) (.int .i64 i)) K = K (.pointer (some ⟨b, o + i.toNat, none⟩)) :=
  fun hC b o i h0 h1 K => (q_m_indexArr hC Try.underlying55 size3 b o i h0 h1 K).trans (by rw [Nat.mul_one])
theorem ix56 : ∀ {h : Heap} (b o : Nat) (i : Int) (h0 : 0 ≤ i) (h1 : i < ((3 : Nat) : Int)) (K : Value → Heap → Prop), RunV Try.prog (Instr.indexAt 56 (.pointer (some ⟨b, o, none⟩)) (.int .i64 i)) h K = K (.pointer (some ⟨b, o + i.toNat, none⟩)) h :=
  fun b o i h0 h1 K => (m_indexArr Try.underlying56 size31 b o i h0 h1 K).trans (by rw [Nat.mul_one])
theorem qix56 : ∀ {C : Heap → Prop} {h0 : Heap} (hC : C h0) (b o : Nat) (i : Int) (h0 : 0 ≤ i) (h1 : i < ((3 : Nat) : Int)) (K : Value → Prop), QV Try.prog C (Instr.indexAt 56 (.pointer (some ⟨b, o, none⟩)) (.int .i64 i)) K = K (.pointer (some ⟨b, o + i.toNat, none⟩)) :=
  fun hC b o i h0 h1 K => (q_m_indexArr hC Try.underlying56 size31 b o i h0 h1 K).trans (by rw [Nat.mul_one])
theorem ix57 : ∀ {h : Heap} (b o : Nat) (i : Int) (h0 : 0 ≤ i) (h1 : i < ((3 : Nat) : Int)) (K : Value → Heap → Prop), RunV Try.prog (Instr.indexAt 57 (.pointer (some ⟨b, o, none⟩)) (.int .i64 i)) h K = K (.pointer (some ⟨b, o + i.toNat, none⟩)) h :=
  fun b o i h0 h1 K => (m_indexArr Try.underlying57 size32 b o i h0 h1 K).trans (by rw [Nat.mul_one])
theorem qix57 : ∀ {C : Heap → Prop} {h0 : Heap} (hC : C h0) (b o : Nat) (i : Int) (h0 : 0 ≤ i) (h1 : i < ((3 : Nat) : Int)) (K : Value → Prop), QV Try.prog C (Instr.indexAt 57 (.pointer (some ⟨b, o, none⟩)) (.int .i64 i)) K = K (.pointer (some ⟨b, o + i.toNat, none⟩)) :=
  fun hC b o i h0 h1 K => (q_m_indexArr hC Try.underlying57 size32 b o i h0 h1 K).trans (by rw [Nat.mul_one])
theorem ix60 : ∀ {h : Heap} (b o : Nat) (i : Int) (h0 : 0 ≤ i) (h1 : i < ((2 : Nat) : Int)) (K : Value → Heap → Prop), RunV Try.prog (Instr.indexAt 60 (.pointer (some ⟨b, o, none⟩)) (.int .i64 i)) h K = K (.pointer (some ⟨b, o + i.toNat, none⟩)) h :=
  fun b o i h0 h1 K => (m_indexArr Try.underlying60 size3 b o i h0 h1 K).trans (by rw [Nat.mul_one])
theorem qix60 : ∀ {C : Heap → Prop} {h0 : Heap} (hC : C h0) (b o : Nat) (i : Int) (h0 : 0 ≤ i) (h1 : i < ((2 : Nat) : Int)) (K : Value → Prop), QV Try.prog C (Instr.indexAt 60 (.pointer (some ⟨b, o, none⟩)) (.int .i64 i)) K = K (.pointer (some ⟨b, o + i.toNat, none⟩)) :=
  fun hC b o i h0 h1 K => (q_m_indexArr hC Try.underlying60 size3 b o i h0 h1 K).trans (by rw [Nat.mul_one])
theorem ix61 : ∀ {h : Heap} (b o len cap : Nat) (i : Int) (h0 : 0 ≤ i) (h1 : i < (len : Int)) (K : Value → Heap → Prop), RunV Try.prog (Instr.indexAt 61 (.slice (some ⟨b, o, none⟩) len cap) (.int .i64 i)) h K = K (.pointer (some ⟨b, o + i.toNat * 2, none⟩)) h :=
  fun b o len cap i h0 h1 K => m_index Try.underlying61 size60 b o len cap i h0 h1 K
theorem qix61 : ∀ {C : Heap → Prop} {h0 : Heap} (hC : C h0) (b o len cap : Nat) (i : Int) (h0 : 0 ≤ i) (h1 : i < (len : Int)) (K : Value → Prop), QV Try.prog C (Instr.indexAt 61 (.slice (some ⟨b, o, none⟩) len cap) (.int .i64 i)) K = K (.pointer (some ⟨b, o + i.toNat * 2, none⟩)) :=
  fun hC b o len cap i h0 h1 K => q_m_index hC Try.underlying61 size60 b o len cap i h0 h1 K
theorem ix63 : ∀ {h : Heap} (b o len cap : Nat) (i : Int) (h0 : 0 ≤ i) (h1 : i < (len : Int)) (K : Value → Heap → Prop), RunV Try.prog (Instr.indexAt 63 (.slice (some ⟨b, o, none⟩) len cap) (.int .i64 i)) h K = K (.pointer (some ⟨b, o + i.toNat * 32, none⟩)) h :=
  fun b o len cap i h0 h1 K => m_index Try.underlying63 size79 b o len cap i h0 h1 K
theorem qix63 : ∀ {C : Heap → Prop} {h0 : Heap} (hC : C h0) (b o len cap : Nat) (i : Int) (h0 : 0 ≤ i) (h1 : i < (len : Int)) (K : Value → Prop), QV Try.prog C (Instr.indexAt 63 (.slice (some ⟨b, o, none⟩) len cap) (.int .i64 i)) K = K (.pointer (some ⟨b, o + i.toNat * 32, none⟩)) :=
  fun hC b o len cap i h0 h1 K => q_m_index hC Try.underlying63 size79 b o len cap i h0 h1 K
theorem ln9 : ∀ {h : Heap} (ty : TypeId) (c : Array Bool) (a : List UInt8) (K : Value → Heap → Prop), OpN Try.prog (Go.builtin .len #[9] ty c #[str a]) h K = K (.int .i64 a.length) h :=
  fun ty c a K => s_len Try.underlying9 ty c a K
theorem qln9 : ∀ {C : Heap → Prop} {h0 : Heap} (hC : C h0) (ty : TypeId) (c : Array Bool) (a : List UInt8) (K : Value → Prop), QB Try.prog C (Go.builtin .len #[9] ty c #[str a]) K = K (.int .i64 a.length) :=
  fun hC ty c a K => q_s_len hC Try.underlying9 ty c a K
theorem ln22 : ∀ {h : Heap} (ty : TypeId) (c : Array Bool) (a : Option Addr) (n k : Nat) (K : Value → Heap → Prop), OpN Try.prog (Go.builtin .len #[22] ty c #[.slice a n k]) h K = K (.int .i64 n) h :=
  fun ty c a n k K => l_len Try.underlying22 ty c a n k K
theorem qln22 : ∀ {C : Heap → Prop} {h0 : Heap} (hC : C h0) (ty : TypeId) (c : Array Bool) (a : Option Addr) (n k : Nat) (K : Value → Prop), QB Try.prog C (Go.builtin .len #[22] ty c #[.slice a n k]) K = K (.int .i64 n) :=
  fun hC ty c a n k K => q_l_len hC Try.underlying22 ty c a n k K
theorem ln32 : ∀ {h : Heap} (ty : TypeId) (c : Array Bool) (a : Option Addr) (n k : Nat) (K : Value → Heap → Prop), OpN Try.prog (Go.builtin .len #[32] ty c #[.slice a n k]) h K = K (.int .i64 n) h :=
  fun ty c a n k K => l_len Try.underlying32 ty c a n k K
theorem qln32 : ∀ {C : Heap → Prop} {h0 : Heap} (hC : C h0) (ty : TypeId) (c : Array Bool) (a : Option Addr) (n k : Nat) (K : Value → Prop), QB Try.prog C (Go.builtin .len #[32] ty c #[.slice a n k]) K = K (.int .i64 n) :=
  fun hC ty c a n k K => q_l_len hC Try.underlying32 ty c a n k K
theorem ln54 : ∀ {h : Heap} (ty : TypeId) (c : Array Bool) (a : Option Addr) (n k : Nat) (K : Value → Heap → Prop), OpN Try.prog (Go.builtin .len #[54] ty c #[.slice a n k]) h K = K (.int .i64 n) h :=
  fun ty c a n k K => l_len Try.underlying54 ty c a n k K
theorem qln54 : ∀ {C : Heap → Prop} {h0 : Heap} (hC : C h0) (ty : TypeId) (c : Array Bool) (a : Option Addr) (n k : Nat) (K : Value → Prop), QB Try.prog C (Go.builtin .len #[54] ty c #[.slice a n k]) K = K (.int .i64 n) :=
  fun hC ty c a n k K => q_l_len hC Try.underlying54 ty c a n k K
theorem ln61 : ∀ {h : Heap} (ty : TypeId) (c : Array Bool) (a : Option Addr) (n k : Nat) (K : Value → Heap → Prop), OpN Try.prog (Go.builtin .len #[61] ty c #[.slice a n k]) h K = K (.int .i64 n) h :=
  fun ty c a n k K => l_len Try.underlying61 ty c a n k K
theorem qln61 : ∀ {C : Heap → Prop} {h0 : Heap} (hC : C h0) (ty : TypeId) (c : Array Bool) (a : Option Addr) (n k : Nat) (K : Value → Prop), QB Try.prog C (Go.builtin .len #[61] ty c #[.slice a n k]) K = K (.int .i64 n) :=
  fun hC ty c a n k K => q_l_len hC Try.underlying61 ty c a n k K
theorem ln63 : ∀ {h : Heap} (ty : TypeId) (c : Array Bool) (a : Option Addr) (n k : Nat) (K : Value → Heap → Prop), OpN Try.prog (Go.builtin .len #[63] ty c #[.slice a n k]) h K = K (.int .i64 n) h :=
  fun ty c a n k K => l_len Try.underlying63 ty c a n k K
theorem qln63 : ∀ {C : Heap → Prop} {h0 : Heap} (hC : C h0) (ty : TypeId) (c : Array Bool) (a : Option Addr) (n k : Nat) (K : Value → Prop), QB Try.prog C (Go.builtin .len #[63] ty c #[.slice a n k]) K = K (.int .i64 n) :=
  fun hC ty c a n k K => q_l_len hC Try.underlying63 ty c a n k K
theorem sb9 : ∀ {h : Heap} (l : List UInt8) (i j : Int) (h0 : 0 ≤ i) (h1 : i ≤ j) (h2 : j ≤ (l.length : Int)) (K : Value → Heap → Prop), RunV Try.prog (Instr.sliceAt 9 (str l) (some (.int .i64 i)) (some (.int .i64 j)) none) h K = K (str ((l.drop i.toNat).take (j.toNat - i.toNat))) h :=
  fun l i j h0 h1 h2 K => sl_both Try.underlying9 l i j h0 h1 h2 K
theorem qsb9 : ∀ {C : Heap → Prop} {h0 : Heap} (hC : C h0) (l : List UInt8) (i j : Int) (h0 : 0 ≤ i) (h1 : i ≤ j) (h2 : j ≤ (l.length : Int)) (K : Value → Prop), QV Try.prog C (Instr.sliceAt 9 (str l) (some (.int .i64 i)) (some (.int .i64 j)) none) K = K (str ((l.drop i.toNat).take (j.toNat - i.toNat))) :=
  fun hC l i j h0 h1 h2 K => q_sl_both hC Try.underlying9 l i j h0 h1 h2 K
theorem slo9 : ∀ {h : Heap} (l : List UInt8) (i : Int) (h0 : 0 ≤ i) (h2 : i ≤ (l.length : Int)) (K : Value → Heap → Prop), RunV Try.prog (Instr.sliceAt 9 (str l) (some (.int .i64 i)) none none) h K = K (str (l.drop i.toNat)) h :=
  fun l i h0 h2 K => sl_lo Try.underlying9 l i h0 h2 K
theorem qslo9 : ∀ {C : Heap → Prop} {h0 : Heap} (hC : C h0) (l : List UInt8) (i : Int) (h0 : 0 ≤ i) (h2 : i ≤ (l.length : Int)) (K : Value → Prop), QV Try.prog C (Instr.sliceAt 9 (str l) (some (.int .i64 i)) none none) K = K (str (l.drop i.toNat)) :=
  fun hC l i h0 h2 K => q_sl_lo hC Try.underlying9 l i h0 h2 K
theorem shi9 : ∀ {h : Heap} (l : List UInt8) (j : Int) (h0 : 0 ≤ j) (h2 : j ≤ (l.length : Int)) (K : Value → Heap → Prop), RunV Try.prog (Instr.sliceAt 9 (str l) none (some (.int .i64 j)) none) h K = K (str (l.take j.toNat)) h :=
  fun l j h0 h2 K => sl_hi Try.underlying9 l j h0 h2 K
theorem qshi9 : ∀ {C : Heap → Prop} {h0 : Heap} (hC : C h0) (l : List UInt8) (j : Int) (h0 : 0 ≤ j) (h2 : j ≤ (l.length : Int)) (K : Value → Prop), QV Try.prog C (Instr.sliceAt 9 (str l) none (some (.int .i64 j)) none) K = K (str (l.take j.toNat)) :=
  fun hC l j h0 h2 K => q_sl_hi hC Try.underlying9 l j h0 h2 K
theorem sa79 : ∀ {h : Heap} (a : Addr) (K : Value → Heap → Prop), RunV Try.prog (Instr.sliceAt 79 (.pointer (some a)) none none none) h K = K (.slice (some a) 32 32) h :=
  fun a K => m_sliceArr Try.underlying79 size5 a K
theorem qsa79 : ∀ {C : Heap → Prop} {h0 : Heap} (hC : C h0) (a : Addr) (K : Value → Prop), QV Try.prog C (Instr.sliceAt 79 (.pointer (some a)) none none none) K = K (.slice (some a) 32 32) :=
  fun hC a K => q_m_sliceArr hC Try.underlying79 size5 a K
theorem si9 : ∀ {h : Heap} (l : List UInt8) (i : Int) (h0 : 0 ≤ i) (h2 : i < (l.length : Int)) (K : Value → Heap → Prop), RunV Try.prog (Instr.index 9 (str l) (.int .i64 i)) h K = K (.int .u8 ((l.getD i.toNat 0).toNat : Int)) h :=
  fun l i h0 h2 K => s_index Try.underlying9 l i h0 h2 K
theorem qsi9 : ∀ {C : Heap → Prop} {h0 : Heap} (hC : C h0) (l : List UInt8) (i : Int) (h0 : 0 ≤ i) (h2 : i < (l.length : Int)) (K : Value → Prop), QV Try.prog C (Instr.index 9 (str l) (.int .i64 i)) K = K (.int .u8 ((l.getD i.toNat 0).toNat : Int)) :=
  fun hC l i h0 h2 K => q_s_index hC Try.underlying9 l i h0 h2 K
theorem bd51_0_1_2_3_4 : ∀ {h : Heap} {v0 v1 v2 v3 v4 : Value} (h0 : plainV v0 = true) (h1 : plainV v1 = true) (h2 : plainV v2 = true) (h3 : plainV v3 = true) (h4 : plainV v4 = true) (K : Value → Heap → Prop), RunV Try.prog (Instr.build 51 #[(0, v0), (1, v1), (2, v2), (3, v3), (4, v4)]) h K = K (.agg #[v0, v1, v2, v3, v4, .bool false]) h := by
    intro h v0 v1 v2 v3 v4 h0 h1 h2 h3 h4 K
    refine RunV_pure fun w hw => ?_
    unfold Instr.build; simp only [Sem.run_bind, Try.zeroValue51, run_underlying Try.underlying51, Result.andThen_ok]; simp [sizeOf_run size3, sizeOf_run size4, sizeOf_run size28, sizeOf_run size32, Instr.fill, cells_agg, plain_cells h0, plain_cells h1, plain_cells h2, plain_cells h3, plain_cells h4]
theorem qbd51_0_1_2_3_4 : ∀ {C : Heap → Prop} {h0 : Heap} (hC : C h0) {v0 v1 v2 v3 v4 : Value} (h0 : plainV v0 = true) (h1 : plainV v1 = true) (h2 : plainV v2 = true) (h3 : plainV v3 = true) (h4 : plainV v4 = true) (K : Value → Prop), QV Try.prog C (Instr.build 51 #[(0, v0), (1, v1), (2, v2), (3, v3), (4, v4)]) K = K (.agg #[v0, v1, v2, v3, v4, .bool false]) := by
    intro C h0 hC v0 v1 v2 v3 v4 h0 h1 h2 h3 h4 K
    refine QV_cls hC fun h' he w hw => ?_
    unfold Instr.build; simp only [Sem.run_bind, Try.zeroValue51, run_underlying Try.underlying51, Result.andThen_ok]; simp [sizeOf_run size3, sizeOf_run size4, sizeOf_run size28, sizeOf_run size32, Instr.fill, cells_agg, plain_cells h0, plain_cells h1, plain_cells h2, plain_cells h3, plain_cells h4]
theorem bd55_0_1_2 : ∀ {h : Heap} {v0 v1 v2 : Value} (h0 : plainV v0 = true) (h1 : plainV v1 = true) (h2 : plainV v2 = true) (K : Value → Heap → Prop), RunV Try.prog (Instr.build 55 #[(0, v0), (1, v1), (2, v2)]) h K = K (.agg #[v0, v1, v2]) h := by
    intro h v0 v1 v2 h0 h1 h2 K
    refine RunV_pure fun w hw => ?_
    unfold Instr.build; simp only [Sem.run_bind, Try.zeroValue55, run_underlying Try.underlying55, Result.andThen_ok]; simp [sizeOf_run size3, Instr.fill, cells_agg, plain_cells h0, plain_cells h1, plain_cells h2]
theorem qbd55_0_1_2 : ∀ {C : Heap → Prop} {h0 : Heap} (hC : C h0) {v0 v1 v2 : Value} (h0 : plainV v0 = true) (h1 : plainV v1 = true) (h2 : plainV v2 = true) (K : Value → Prop), QV Try.prog C (Instr.build 55 #[(0, v0), (1, v1), (2, v2)]) K = K (.agg #[v0, v1, v2]) := by
    intro C h0 hC v0 v1 v2 h0 h1 h2 K
    refine QV_cls hC fun h' he w hw => ?_
    unfold Instr.build; simp only [Sem.run_bind, Try.zeroValue55, run_underlying Try.underlying55, Result.andThen_ok]; simp [sizeOf_run size3, Instr.fill, cells_agg, plain_cells h0, plain_cells h1, plain_cells h2]
theorem bd56_z : ∀ {h : Heap} (K : Value → Heap → Prop), RunV Try.prog (Instr.build 56 #[]) h K = K (.agg #[.pointer none, .pointer none, .pointer none]) h := by
    intro h K
    refine RunV_pure fun w hw => ?_
    unfold Instr.build; simp only [Sem.run_bind, Try.zeroValue56, run_underlying Try.underlying56, Result.andThen_ok]; simp [Instr.fill, cells_agg]
theorem bd57_z : ∀ {h : Heap} (K : Value → Heap → Prop), RunV Try.prog (Instr.build 57 #[]) h K = K (.agg #[.slice none 0 0, .slice none 0 0, .slice none 0 0]) h := by
    intro h K
    refine RunV_pure fun w hw => ?_
    unfold Instr.build; simp only [Sem.run_bind, Try.zeroValue57, run_underlying Try.underlying57, Result.andThen_ok]; simp [Instr.fill, cells_agg]
theorem bd60_0_1 : ∀ {h : Heap} {v0 v1 : Value} (h0 : plainV v0 = true) (h1 : plainV v1 = true) (K : Value → Heap → Prop), RunV Try.prog (Instr.build 60 #[(0, v0), (1, v1)]) h K = K (.agg #[v0, v1]) h := by
    intro h v0 v1 h0 h1 K
    refine RunV_pure fun w hw => ?_
    unfold Instr.build; simp only [Sem.run_bind, Try.zeroValue60, run_underlying Try.underlying60, Result.andThen_ok]; simp [sizeOf_run size3, Instr.fill, cells_agg, plain_cells h0, plain_cells h1]
theorem qbd60_0_1 : ∀ {C : Heap → Prop} {h0 : Heap} (hC : C h0) {v0 v1 : Value} (h0 : plainV v0 = true) (h1 : plainV v1 = true) (K : Value → Prop), QV Try.prog C (Instr.build 60 #[(0, v0), (1, v1)]) K = K (.agg #[v0, v1]) := by
    intro C h0 hC v0 v1 h0 h1 K
    refine QV_cls hC fun h' he w hw => ?_
    unfold Instr.build; simp only [Sem.run_bind, Try.zeroValue60, run_underlying Try.underlying60, Result.andThen_ok]; simp [sizeOf_run size3, Instr.fill, cells_agg, plain_cells h0, plain_cells h1]
theorem bd65_0_1 : ∀ {h : Heap} {v0 v1 : Value} (h0 : plainV v0 = true) (h1 : plainV v1 = true) (K : Value → Heap → Prop), RunV Try.prog (Instr.build 65 #[(0, v0), (1, v1)]) h K = K (.agg #[v0, v1, .int .i64 0, .bool false, .int .i64 0]) h := by
    intro h v0 v1 h0 h1 K
    refine RunV_pure fun w hw => ?_
    unfold Instr.build; simp only [Sem.run_bind, Try.zeroValue65, run_underlying Try.underlying65, Result.andThen_ok]; simp [sizeOf_run size3, sizeOf_run size4, sizeOf_run size63, Instr.fill, cells_agg, plain_cells h0, plain_cells h1]
theorem qbd65_0_1 : ∀ {C : Heap → Prop} {h0 : Heap} (hC : C h0) {v0 v1 : Value} (h0 : plainV v0 = true) (h1 : plainV v1 = true) (K : Value → Prop), QV Try.prog C (Instr.build 65 #[(0, v0), (1, v1)]) K = K (.agg #[v0, v1, .int .i64 0, .bool false, .int .i64 0]) := by
    intro C h0 hC v0 v1 h0 h1 K
    refine QV_cls hC fun h' he w hw => ?_
    unfold Instr.build; simp only [Sem.run_bind, Try.zeroValue65, run_underlying Try.underlying65, Result.andThen_ok]; simp [sizeOf_run size3, sizeOf_run size4, sizeOf_run size63, Instr.fill, cells_agg, plain_cells h0, plain_cells h1]
theorem bd67_1 : ∀ {h : Heap} {v1 : Value} (h1 : plainV v1 = true) (K : Value → Heap → Prop), RunV Try.prog (Instr.build 67 #[(1, v1)]) h K = K (.agg #[.slice none 0 0, v1, .int .i64 0, .bool false, .int .i64 0]) h := by
    intro h v1 h1 K
    refine RunV_pure fun w hw => ?_
    unfold Instr.build; simp only [Sem.run_bind, Try.zeroValue67, run_underlying Try.underlying67, Result.andThen_ok]; simp [sizeOf_run size3, sizeOf_run size4, sizeOf_run size32, Instr.fill, cells_agg, plain_cells h1]
theorem qbd67_1 : ∀ {C : Heap → Prop} {h0 : Heap} (hC : C h0) {v1 : Value} (h1 : plainV v1 = true) (K : Value → Prop), QV Try.prog C (Instr.build 67 #[(1, v1)]) K = K (.agg #[.slice none 0 0, v1, .int .i64 0, .bool false, .int .i64 0]) := by
    intro C h0 hC v1 h1 K
    refine QV_cls hC fun h' he w hw => ?_
    unfold Instr.build; simp only [Sem.run_bind, Try.zeroValue67, run_underlying Try.underlying67, Result.andThen_ok]; simp [sizeOf_run size3, sizeOf_run size4, sizeOf_run size32, Instr.fill, cells_agg, plain_cells h1]
theorem bd72_0_1_2 : ∀ {h : Heap} {v0 v1 v2 : Value} (h0 : plainV v0 = true) (h1 : plainV v1 = true) (h2 : plainV v2 = true) (K : Value → Heap → Prop), RunV Try.prog (Instr.build 72 #[(0, v0), (1, v1), (2, v2)]) h K = K (.agg #[v0, v1, v2]) h := by
    intro h v0 v1 v2 h0 h1 h2 K
    refine RunV_pure fun w hw => ?_
    unfold Instr.build; simp only [Sem.run_bind, Try.zeroValue72, run_underlying Try.underlying72, Result.andThen_ok]; simp [sizeOf_run size3, sizeOf_run size24, Instr.fill, cells_agg, plain_cells h0, plain_cells h1, plain_cells h2]
theorem qbd72_0_1_2 : ∀ {C : Heap → Prop} {h0 : Heap} (hC : C h0) {v0 v1 v2 : Value} (h0 : plainV v0 = true) (h1 : plainV v1 = true) (h2 : plainV v2 = true) (K : Value → Prop), QV Try.prog C (Instr.build 72 #[(0, v0), (1, v1), (2, v2)]) K = K (.agg #[v0, v1, v2]) := by
    intro C h0 hC v0 v1 v2 h0 h1 h2 K
    refine QV_cls hC fun h' he w hw => ?_
    unfold Instr.build; simp only [Sem.run_bind, Try.zeroValue72, run_underlying Try.underlying72, Result.andThen_ok]; simp [sizeOf_run size3, sizeOf_run size24, Instr.fill, cells_agg, plain_cells h0, plain_cells h1, plain_cells h2]
theorem bd74_0_1_2 : ∀ {h : Heap} {v0_0 v0_1 v0_2 v1 v2 : Value} (h1 : plainV v1 = true) (h2 : plainV v2 = true) (K : Value → Heap → Prop), RunV Try.prog (Instr.build 74 #[(0, .agg #[v0_0, v0_1, v0_2]), (1, v1), (2, v2)]) h K = K (.agg #[v0_0, v0_1, v0_2, v1, v2, .bool false]) h := by
    intro h v0_0 v0_1 v0_2 v1 v2 h1 h2 K
    refine RunV_pure fun w hw => ?_
    unfold Instr.build; simp only [Sem.run_bind, Try.zeroValue74, run_underlying Try.underlying74, Result.andThen_ok]; simp [sizeOf_run size3, sizeOf_run size4, sizeOf_run size32, sizeOf_run size72, Instr.fill, cells_agg, plain_cells h1, plain_cells h2]
theorem qbd74_0_1_2 : ∀ {C : Heap → Prop} {h0 : Heap} (hC : C h0) {v0_0 v0_1 v0_2 v1 v2 : Value} (h1 : plainV v1 = true) (h2 : plainV v2 = true) (K : Value → Prop), QV Try.prog C (Instr.build 74 #[(0, .agg #[v0_0, v0_1, v0_2]), (1, v1), (2, v2)]) K = K (.agg #[v0_0, v0_1, v0_2, v1, v2, .bool false]) := by
    intro C h0 hC v0_0 v0_1 v0_2 v1 v2 h1 h2 K
    refine QV_cls hC fun h' he w hw => ?_
    unfold Instr.build; simp only [Sem.run_bind, Try.zeroValue74, run_underlying Try.underlying74, Result.andThen_ok]; simp [sizeOf_run size3, sizeOf_run size4, sizeOf_run size32, sizeOf_run size72, Instr.fill, cells_agg, plain_cells h1, plain_cells h2]
theorem zr9 : (Try.prog.info? 9).bind (·.zero) = some (str []) := by kernel_rfl
theorem al9 : ∀ {h : Heap} (x : Value) (K : Value → Heap → Prop), RunV Try.prog (Instr.alloc 9 true x) h K = K (.pointer (some ⟨h.size, 0, none⟩)) (h.push (.cells #[str []] 9 (0, 0))) :=
  fun x K => m_alloc zr9 x K
theorem zr25 : (Try.prog.info? 25).bind (·.zero) = some (.int .i64 0) := by kernel_rfl
theorem al25 : ∀ {h : Heap} (x : Value) (K : Value → Heap → Prop), RunV Try.prog (Instr.alloc 25 true x) h K = K (.pointer (some ⟨h.size, 0, none⟩)) (h.push (.cells #[.int .i64 0] 25 (0, 0))) :=
  fun x K => m_alloc zr25 x K
theorem zr39 : (Try.prog.info? 39).bind (·.zero) = some (.agg #[.int .i64 0, .int .i64 0, .int .i64 0, str []]) := by kernel_rfl
theorem al39 : ∀ {h : Heap} (x : Value) (K : Value → Heap → Prop), RunV Try.prog (Instr.alloc 39 true x) h K = K (.pointer (some ⟨h.size, 0, none⟩)) (h.push (.cells #[.int .i64 0, .int .i64 0, .int .i64 0, str []] 39 (0, 0))) :=
  fun x K => m_alloc zr39 x K
theorem zr55 : (Try.prog.info? 55).bind (·.zero) = some (.agg #[.int .i64 0, .int .i64 0, .int .i64 0]) := by kernel_rfl
theorem al55 : ∀ {h : Heap} (x : Value) (K : Value → Heap → Prop), RunV Try.prog (Instr.alloc 55 true x) h K = K (.pointer (some ⟨h.size, 0, none⟩)) (h.push (.cells #[.int .i64 0, .int .i64 0, .int .i64 0] 55 (0, 0))) :=
  fun x K => m_alloc zr55 x K
theorem zr56 : (Try.prog.info? 56).bind (·.zero) = some (.agg #[.pointer none, .pointer none, .pointer none]) := by kernel_rfl
theorem al56 : ∀ {h : Heap} (x : Value) (K : Value → Heap → Prop), RunV Try.prog (Instr.alloc 56 true x) h K = K (.pointer (some ⟨h.size, 0, none⟩)) (h.push (.cells #[.pointer none, .pointer none, .pointer none] 56 (0, 0))) :=
  fun x K => m_alloc zr56 x K
theorem zr57 : (Try.prog.info? 57).bind (·.zero) = some (.agg #[.slice none 0 0, .slice none 0 0, .slice none 0 0]) := by kernel_rfl
theorem al57 : ∀ {h : Heap} (x : Value) (K : Value → Heap → Prop), RunV Try.prog (Instr.alloc 57 true x) h K = K (.pointer (some ⟨h.size, 0, none⟩)) (h.push (.cells #[.slice none 0 0, .slice none 0 0, .slice none 0 0] 57 (0, 0))) :=
  fun x K => m_alloc zr57 x K
theorem zr60 : (Try.prog.info? 60).bind (·.zero) = some (.agg #[.int .i64 0, .int .i64 0]) := by kernel_rfl
theorem al60 : ∀ {h : Heap} (x : Value) (K : Value → Heap → Prop), RunV Try.prog (Instr.alloc 60 true x) h K = K (.pointer (some ⟨h.size, 0, none⟩)) (h.push (.cells #[.int .i64 0, .int .i64 0] 60 (0, 0))) :=
  fun x K => m_alloc zr60 x K
theorem zr72 : (Try.prog.info? 72).bind (·.zero) = some (.agg #[.pointer none, .int .i64 0, .int .i64 0]) := by kernel_rfl
theorem al72 : ∀ {h : Heap} (x : Value) (K : Value → Heap → Prop), RunV Try.prog (Instr.alloc 72 true x) h K = K (.pointer (some ⟨h.size, 0, none⟩)) (h.push (.cells #[.pointer none, .int .i64 0, .int .i64 0] 72 (0, 0))) :=
  fun x K => m_alloc zr72 x K
theorem zr79 : (Try.prog.info? 79).bind (·.zero) = some (.agg #[.int .u8 0, .int .u8 0, .int .u8 0, .int .u8 0, .int .u8 0, .int .u8 0, .int .u8 0, .int .u8 0, .int .u8 0, .int .u8 0, .int .u8 0, .int .u8 0, .int .u8 0, .int .u8 0, .int .u8 0, .int .u8 0, .int .u8 0, .int .u8 0, .int .u8 0, .int .u8 0, .int .u8 0, .int .u8 0, .int .u8 0, .int .u8 0, .int .u8 0, .int .u8 0, .int .u8 0, .int .u8 0, .int .u8 0, .int .u8 0, .int .u8 0, .int .u8 0]) := by kernel_rfl
theorem al79 : ∀ {h : Heap} (x : Value) (K : Value → Heap → Prop), RunV Try.prog (Instr.alloc 79 true x) h K = K (.pointer (some ⟨h.size, 0, none⟩)) (h.push (.cells #[.int .u8 0, .int .u8 0, .int .u8 0, .int .u8 0, .int .u8 0, .int .u8 0, .int .u8 0, .int .u8 0, .int .u8 0, .int .u8 0, .int .u8 0, .int .u8 0, .int .u8 0, .int .u8 0, .int .u8 0, .int .u8 0, .int .u8 0, .int .u8 0, .int .u8 0, .int .u8 0, .int .u8 0, .int .u8 0, .int .u8 0, .int .u8 0, .int .u8 0, .int .u8 0, .int .u8 0, .int .u8 0, .int .u8 0, .int .u8 0, .int .u8 0, .int .u8 0] 79 (0, 0))) :=
  fun x K => m_alloc zr79 x K
theorem zr83 : (Try.prog.info? 83).bind (·.zero) = some (.agg #[.pointer none, .slice none 0 0]) := by kernel_rfl
theorem al83 : ∀ {h : Heap} (x : Value) (K : Value → Heap → Prop), RunV Try.prog (Instr.alloc 83 true x) h K = K (.pointer (some ⟨h.size, 0, none⟩)) (h.push (.cells #[.pointer none, .slice none 0 0] 83 (0, 0))) :=
  fun x K => m_alloc zr83 x K
theorem zr93 : (Try.prog.info? 93).bind (·.zero) = some (.int .u32 0) := by kernel_rfl
theorem al93 : ∀ {h : Heap} (x : Value) (K : Value → Heap → Prop), RunV Try.prog (Instr.alloc 93 true x) h K = K (.pointer (some ⟨h.size, 0, none⟩)) (h.push (.cells #[.int .u32 0] 93 (0, 0))) :=
  fun x K => m_alloc zr93 x K
theorem bs32_0 : ∀ {h : Heap}  (K : Value → Heap → Prop), RunV Try.prog (Instr.buildSlice 32 0 #[]) h K = K (.slice (some ⟨h.size, 0, none⟩) 0 0) (h.push (.cells #[] 9 (0, 0))) := by
    intro h   K
    refine m_buildSlice Try.underlying32 size9 zq9 0 _ _ ?_ (by omega) K
    have hrow : rowOf (str [] : Value).cells (0 * 1) = #[] := by kernel_rfl
    rw [hrow]
    simp [Instr.fill, cells_agg, cells_agg]
theorem bs32_1 : ∀ {h : Heap} {v0 : Value} (h0 : plainV v0 = true) (K : Value → Heap → Prop), RunV Try.prog (Instr.buildSlice 32 1 #[(0, v0)]) h K = K (.slice (some ⟨h.size, 0, none⟩) 1 1) (h.push (.cells #[v0] 9 (0, 0))) := by
    intro h v0 h0 K
    refine m_buildSlice Try.underlying32 size9 zq9 1 _ _ ?_ (by omega) K
    have hrow : rowOf (str [] : Value).cells (1 * 1) = #[str []] := by kernel_rfl
    rw [hrow]
    simp [Instr.fill, cells_agg, plain_cells h0]
theorem bs32_2 : ∀ {h : Heap} {v0 v1 : Value} (h0 : plainV v0 = true) (h1 : plainV v1 = true) (K : Value → Heap → Prop), RunV Try.prog (Instr.buildSlice 32 2 #[(0, v0), (1, v1)]) h K = K (.slice (some ⟨h.size, 0, none⟩) 2 2) (h.push (.cells #[v0, v1] 9 (0, 0))) := by
    intro h v0 v1 h0 h1 K
    refine m_buildSlice Try.underlying32 size9 zq9 2 _ _ ?_ (by omega) K
    have hrow : rowOf (str [] : Value).cells (2 * 1) = #[str [], str []] := by kernel_rfl
    rw [hrow]
    simp [Instr.fill, cells_agg, plain_cells h0, plain_cells h1]
theorem bs54_1 : ∀ {h : Heap} {v0 : Value} (h0 : plainV v0 = true) (K : Value → Heap → Prop), RunV Try.prog (Instr.buildSlice 54 1 #[(0, v0)]) h K = K (.slice (some ⟨h.size, 0, none⟩) 1 1) (h.push (.cells #[v0] 5 (0, 0))) := by
    intro h v0 h0 K
    refine m_buildSlice Try.underlying54 size5 zq5 1 _ _ ?_ (by omega) K
    have hrow : rowOf (.int .u8 0 : Value).cells (1 * 1) = #[.int .u8 0] := by kernel_rfl
    rw [hrow]
    simp [Instr.fill, cells_agg, plain_cells h0]
theorem bs54_7 : ∀ {h : Heap} {v0 v1 v2 v3 v4 v5 v6 : Value} (h0 : plainV v0 = true) (h1 : plainV v1 = true) (h2 : plainV v2 = true) (h3 : plainV v3 = true) (h4 : plainV v4 = true) (h5 : plainV v5 = true) (h6 : plainV v6 = true) (K : Value → Heap → Prop), RunV Try.prog (Instr.buildSlice 54 7 #[(0, v0), (1, v1), (2, v2), (3, v3), (4, v4), (5, v5), (6, v6)]) h K = K (.slice (some ⟨h.size, 0, none⟩) 7 7) (h.push (.cells #[v0, v1, v2, v3, v4, v5, v6] 5 (0, 0))) := by
    intro h v0 v1 v2 v3 v4 v5 v6 h0 h1 h2 h3 h4 h5 h6 K
    refine m_buildSlice Try.underlying54 size5 zq5 7 _ _ ?_ (by omega) K
    have hrow : rowOf (.int .u8 0 : Value).cells (7 * 1) = #[.int .u8 0, .int .u8 0, .int .u8 0, .int .u8 0, .int .u8 0, .int .u8 0, .int .u8 0] := by kernel_rfl
    rw [hrow]
    simp [Instr.fill, cells_agg, plain_cells h0, plain_cells h1, plain_cells h2, plain_cells h3, plain_cells h4, plain_cells h5, plain_cells h6]
theorem bs61_6 : ∀ {h : Heap} {v0_0 v0_1 v1_0 v1_1 v2_0 v2_1 v3_0 v3_1 v4_0 v4_1 v5_0 v5_1 : Value}  (K : Value → Heap → Prop), RunV Try.prog (Instr.buildSlice 61 6 #[(0, .agg #[v0_0, v0_1]), (1, .agg #[v1_0, v1_1]), (2, .agg #[v2_0, v2_1]), (3, .agg #[v3_0, v3_1]), (4, .agg #[v4_0, v4_1]), (5, .agg #[v5_0, v5_1])]) h K = K (.slice (some ⟨h.size, 0, none⟩) 6 6) (h.push (.cells #[v0_0, v0_1, v1_0, v1_1, v2_0, v2_1, v3_0, v3_1, v4_0, v4_1, v5_0, v5_1] 60 (0, 0))) := by
    intro h v0_0 v0_1 v1_0 v1_1 v2_0 v2_1 v3_0 v3_1 v4_0 v4_1 v5_0 v5_1  K
    refine m_buildSlice Try.underlying61 size60 zq60 6 _ _ ?_ (by omega) K
    have hrow : rowOf (.agg #[.int .i64 0, .int .i64 0] : Value).cells (6 * 2) = #[.int .i64 0, .int .i64 0, .int .i64 0, .int .i64 0, .int .i64 0, .int .i64 0, .int .i64 0, .int .i64 0, .int .i64 0, .int .i64 0, .int .i64 0, .int .i64 0] := by kernel_rfl
    rw [hrow]
    simp [Instr.fill, cells_agg, cells_agg]
theorem mi54 : (Try.prog.info? 5).map (fun i => (i.zero, i.size, i.bytes)) = some (some (.int .u8 0), 1, 1) := by kernel_rfl
theorem mk54 : ∀ {h : Heap} (n : Int) (h0 : 0 ≤ n) (h1 : n * 1 ≤ 140737488355328) (h2 : n ≤ 9223372036854775807) (K : Value → Heap → Prop), RunV Try.prog (Instr.makeSlice 54 (.int .i64 n) (.int .i64 n)) h K = K (.slice (some ⟨h.size, 0, none⟩) n.toNat n.toNat) (h.push (.cells (rowOf #[.int .u8 0] (n.toNat * 1)) 5 (0, 0))) :=
  fun n h0 h1 h2 K => m_make Try.underlying54 mi54 n h0 h1 h2 K
theorem mi63 : (Try.prog.info? 79).map (fun i => (i.zero, i.size, i.bytes)) = some (some (.agg #[.int .u8 0, .int .u8 0, .int .u8 0, .int .u8 0, .int .u8 0, .int .u8 0, .int .u8 0, .int .u8 0, .int .u8 0, .int .u8 0, .int .u8 0, .int .u8 0, .int .u8 0, .int .u8 0, .int .u8 0, .int .u8 0, .int .u8 0, .int .u8 0, .int .u8 0, .int .u8 0, .int .u8 0, .int .u8 0, .int .u8 0, .int .u8 0, .int .u8 0, .int .u8 0, .int .u8 0, .int .u8 0, .int .u8 0, .int .u8 0, .int .u8 0, .int .u8 0]), 32, 32) := by kernel_rfl
theorem mk63 : ∀ {h : Heap} (n : Int) (h0 : 0 ≤ n) (h1 : n * 32 ≤ 140737488355328) (h2 : n ≤ 9223372036854775807) (K : Value → Heap → Prop), RunV Try.prog (Instr.makeSlice 63 (.int .i64 n) (.int .i64 n)) h K = K (.slice (some ⟨h.size, 0, none⟩) n.toNat n.toNat) (h.push (.cells (rowOf #[.int .u8 0, .int .u8 0, .int .u8 0, .int .u8 0, .int .u8 0, .int .u8 0, .int .u8 0, .int .u8 0, .int .u8 0, .int .u8 0, .int .u8 0, .int .u8 0, .int .u8 0, .int .u8 0, .int .u8 0, .int .u8 0, .int .u8 0, .int .u8 0, .int .u8 0, .int .u8 0, .int .u8 0, .int .u8 0, .int .u8 0, .int .u8 0, .int .u8 0, .int .u8 0, .int .u8 0, .int .u8 0, .int .u8 0, .int .u8 0, .int .u8 0, .int .u8 0] (n.toNat * 32)) 79 (0, 0))) :=
  fun n h0 h1 h2 K => m_make Try.underlying63 mi63 n h0 h1 h2 K
theorem bleq4 : ∀ {h : Heap} (a b : Bool) (x y : Operand) (K : Value → Heap → Prop), RunV Try.prog (binS .eql 4 x y (.bool a) (.bool b)) h K = K (.bool (a == b)) h := fun a b x y K => r_bleq Try.underlying4 a b x y K
theorem qbleq4 : ∀ {C : Heap → Prop} {h0 : Heap} (hC : C h0) (a b : Bool) (x y : Operand) (K : Value → Prop), QV Try.prog C (binS .eql 4 x y (.bool a) (.bool b)) K = K (.bool (a == b)) := fun hC a b x y K => q_r_bleq hC Try.underlying4 a b x y K
theorem blne4 : ∀ {h : Heap} (a b : Bool) (x y : Operand) (K : Value → Heap → Prop), RunV Try.prog (binS .neq 4 x y (.bool a) (.bool b)) h K = K (.bool (!(a == b))) h := fun a b x y K => r_blne Try.underlying4 a b x y K
theorem qblne4 : ∀ {C : Heap → Prop} {h0 : Heap} (hC : C h0) (a b : Bool) (x y : Operand) (K : Value → Prop), QV Try.prog C (binS .neq 4 x y (.bool a) (.bool b)) K = K (.bool (!(a == b))) := fun hC a b x y K => q_r_blne hC Try.underlying4 a b x y K
theorem pnil24 : ∀ {h : Heap} (a : Option Addr) (x y : Operand) (K : Value → Heap → Prop), RunV Try.prog (binS .eql 24 x y (.pointer a) (.pointer none)) h K = K (.bool a.isNone) h := fun a x y K => r_pnil Try.underlying24 a x y K
theorem qpnil24 : ∀ {C : Heap → Prop} {h0 : Heap} (hC : C h0) (a : Option Addr) (x y : Operand) (K : Value → Prop), QV Try.prog C (binS .eql 24 x y (.pointer a) (.pointer none)) K = K (.bool a.isNone) := fun hC a x y K => q_r_pnil hC Try.underlying24 a x y K
theorem pnnil24 : ∀ {h : Heap} (a : Option Addr) (x y : Operand) (K : Value → Heap → Prop), RunV Try.prog (binS .neq 24 x y (.pointer a) (.pointer none)) h K = K (.bool (!a.isNone)) h := fun a x y K => r_pnnil Try.underlying24 a x y K
theorem qpnnil24 : ∀ {C : Heap → Prop} {h0 : Heap} (hC : C h0) (a : Option Addr) (x y : Operand) (K : Value → Prop), QV Try.prog C (binS .neq 24 x y (.pointer a) (.pointer none)) K = K (.bool (!a.isNone)) := fun hC a x y K => q_r_pnnil hC Try.underlying24 a x y K
theorem pnil28 : ∀ {h : Heap} (a : Option Addr) (x y : Operand) (K : Value → Heap → Prop), RunV Try.prog (binS .eql 28 x y (.pointer a) (.pointer none)) h K = K (.bool a.isNone) h := fun a x y K => r_pnil Try.underlying28 a x y K
theorem qpnil28 : ∀ {C : Heap → Prop} {h0 : Heap} (hC : C h0) (a : Option Addr) (x y : Operand) (K : Value → Prop), QV Try.prog C (binS .eql 28 x y (.pointer a) (.pointer none)) K = K (.bool a.isNone) := fun hC a x y K => q_r_pnil hC Try.underlying28 a x y K
theorem pnnil28 : ∀ {h : Heap} (a : Option Addr) (x y : Operand) (K : Value → Heap → Prop), RunV Try.prog (binS .neq 28 x y (.pointer a) (.pointer none)) h K = K (.bool (!a.isNone)) h := fun a x y K => r_pnnil Try.underlying28 a x y K
theorem qpnnil28 : ∀ {C : Heap → Prop} {h0 : Heap} (hC : C h0) (a : Option Addr) (x y : Operand) (K : Value → Prop), QV Try.prog C (binS .neq 28 x y (.pointer a) (.pointer none)) K = K (.bool (!a.isNone)) := fun hC a x y K => q_r_pnnil hC Try.underlying28 a x y K
theorem pnil31 : ∀ {h : Heap} (a : Option Addr) (x y : Operand) (K : Value → Heap → Prop), RunV Try.prog (binS .eql 31 x y (.pointer a) (.pointer none)) h K = K (.bool a.isNone) h := fun a x y K => r_pnil Try.underlying31 a x y K
theorem qpnil31 : ∀ {C : Heap → Prop} {h0 : Heap} (hC : C h0) (a : Option Addr) (x y : Operand) (K : Value → Prop), QV Try.prog C (binS .eql 31 x y (.pointer a) (.pointer none)) K = K (.bool a.isNone) := fun hC a x y K => q_r_pnil hC Try.underlying31 a x y K
theorem pnnil31 : ∀ {h : Heap} (a : Option Addr) (x y : Operand) (K : Value → Heap → Prop), RunV Try.prog (binS .neq 31 x y (.pointer a) (.pointer none)) h K = K (.bool (!a.isNone)) h := fun a x y K => r_pnnil Try.underlying31 a x y K
theorem qpnnil31 : ∀ {C : Heap → Prop} {h0 : Heap} (hC : C h0) (a : Option Addr) (x y : Operand) (K : Value → Prop), QV Try.prog C (binS .neq 31 x y (.pointer a) (.pointer none)) K = K (.bool (!a.isNone)) := fun hC a x y K => q_r_pnnil hC Try.underlying31 a x y K
theorem pnil35 : ∀ {h : Heap} (a : Option Addr) (x y : Operand) (K : Value → Heap → Prop), RunV Try.prog (binS .eql 35 x y (.pointer a) (.pointer none)) h K = K (.bool a.isNone) h := fun a x y K => r_pnil Try.underlying35 a x y K
theorem qpnil35 : ∀ {C : Heap → Prop} {h0 : Heap} (hC : C h0) (a : Option Addr) (x y : Operand) (K : Value → Prop), QV Try.prog C (binS .eql 35 x y (.pointer a) (.pointer none)) K = K (.bool a.isNone) := fun hC a x y K => q_r_pnil hC Try.underlying35 a x y K
theorem pnnil35 : ∀ {h : Heap} (a : Option Addr) (x y : Operand) (K : Value → Heap → Prop), RunV Try.prog (binS .neq 35 x y (.pointer a) (.pointer none)) h K = K (.bool (!a.isNone)) h := fun a x y K => r_pnnil Try.underlying35 a x y K
theorem qpnnil35 : ∀ {C : Heap → Prop} {h0 : Heap} (hC : C h0) (a : Option Addr) (x y : Operand) (K : Value → Prop), QV Try.prog C (binS .neq 35 x y (.pointer a) (.pointer none)) K = K (.bool (!a.isNone)) := fun hC a x y K => q_r_pnnil hC Try.underlying35 a x y K
theorem pnil81 : ∀ {h : Heap} (a : Option Addr) (x y : Operand) (K : Value → Heap → Prop), RunV Try.prog (binS .eql 81 x y (.pointer a) (.pointer none)) h K = K (.bool a.isNone) h := fun a x y K => r_pnil Try.underlying81 a x y K
theorem qpnil81 : ∀ {C : Heap → Prop} {h0 : Heap} (hC : C h0) (a : Option Addr) (x y : Operand) (K : Value → Prop), QV Try.prog C (binS .eql 81 x y (.pointer a) (.pointer none)) K = K (.bool a.isNone) := fun hC a x y K => q_r_pnil hC Try.underlying81 a x y K
theorem pnnil81 : ∀ {h : Heap} (a : Option Addr) (x y : Operand) (K : Value → Heap → Prop), RunV Try.prog (binS .neq 81 x y (.pointer a) (.pointer none)) h K = K (.bool (!a.isNone)) h := fun a x y K => r_pnnil Try.underlying81 a x y K
theorem qpnnil81 : ∀ {C : Heap → Prop} {h0 : Heap} (hC : C h0) (a : Option Addr) (x y : Operand) (K : Value → Prop), QV Try.prog C (binS .neq 81 x y (.pointer a) (.pointer none)) K = K (.bool (!a.isNone)) := fun hC a x y K => q_r_pnnil hC Try.underlying81 a x y K
theorem hpR : (∀ {h : Heap} {b o : Nat} {v : Value} (hc : cellH h b o = some v) (K : Value → Heap → Prop), RunV Try.prog (Instr.loadAt 3 (.pointer (some ⟨b, o, none⟩))) h K = K v h) ∧
  (∀ {C : Heap → Prop} {h0 : Heap} {b o : Nat} {v : Value} (hC : C h0) (hc : ∀ h', C h' → cellH h' b o = some v) (K : Value → Prop), QV Try.prog C (Instr.loadAt 3 (.pointer (some ⟨b, o, none⟩))) K = K v) ∧
  (∀ {h : Heap} {b o : Nat} {v : Value} (hc : cellH h b o = some v) (K : Value → Heap → Prop), RunV Try.prog (Instr.loadAt 4 (.pointer (some ⟨b, o, none⟩))) h K = K v h) ∧
  (∀ {C : Heap → Prop} {h0 : Heap} {b o : Nat} {v : Value} (hC : C h0) (hc : ∀ h', C h' → cellH h' b o = some v) (K : Value → Prop), QV Try.prog C (Instr.loadAt 4 (.pointer (some ⟨b, o, none⟩))) K = K v) ∧
  (∀ {h : Heap} {b o : Nat} {v : Value} (hc : cellH h b o = some v) (K : Value → Heap → Prop), RunV Try.prog (Instr.loadAt 5 (.pointer (some ⟨b, o, none⟩))) h K = K v h) ∧
  (∀ {C : Heap → Prop} {h0 : Heap} {b o : Nat} {v : Value} (hC : C h0) (hc : ∀ h', C h' → cellH h' b o = some v) (K : Value → Prop), QV Try.prog C (Instr.loadAt 5 (.pointer (some ⟨b, o, none⟩))) K = K v) ∧
  (∀ {h : Heap} {b o : Nat} {v : Value} (hc : cellH h b o = some v) (K : Value → Heap → Prop), RunV Try.prog (Instr.loadAt 9 (.pointer (some ⟨b, o, none⟩))) h K = K v h) ∧
  (∀ {C : Heap → Prop} {h0 : Heap} {b o : Nat} {v : Value} (hC : C h0) (hc : ∀ h', C h' → cellH h' b o = some v) (K : Value → Prop), QV Try.prog C (Instr.loadAt 9 (.pointer (some ⟨b, o, none⟩))) K = K v) ∧
  (∀ {h : Heap} {b o : Nat} {v : Value} (hc : cellH h b o = some v) (K : Value → Heap → Prop), RunV Try.prog (Instr.loadAt 24 (.pointer (some ⟨b, o, none⟩))) h K = K v h) ∧
  (∀ {C : Heap → Prop} {h0 : Heap} {b o : Nat} {v : Value} (hC : C h0) (hc : ∀ h', C h' → cellH h' b o = some v) (K : Value → Prop), QV Try.prog C (Instr.loadAt 24 (.pointer (some ⟨b, o, none⟩))) K = K v) ∧
  (∀ {h : Heap} {b o : Nat} {v : Value} (hc : cellH h b o = some v) (K : Value → Heap → Prop), RunV Try.prog (Instr.loadAt 25 (.pointer (some ⟨b, o, none⟩))) h K = K v h) ∧
  (∀ {C : Heap → Prop} {h0 : Heap} {b o : Nat} {v : Value} (hC : C h0) (hc : ∀ h', C h' → cellH h' b o = some v) (K : Value → Prop), QV Try.prog C (Instr.loadAt 25 (.pointer (some ⟨b, o, none⟩))) K = K v) ∧
  (∀ {h : Heap} {b o : Nat} {v : Value} (hc : cellH h b o = some v) (K : Value → Heap → Prop), RunV Try.prog (Instr.loadAt 28 (.pointer (some ⟨b, o, none⟩))) h K = K v h) ∧
  (∀ {C : Heap → Prop} {h0 : Heap} {b o : Nat} {v : Value} (hC : C h0) (hc : ∀ h', C h' → cellH h' b o = some v) (K : Value → Prop), QV Try.prog C (Instr.loadAt 28 (.pointer (some ⟨b, o, none⟩))) K = K v) ∧
  (∀ {h : Heap} {b o : Nat} {v : Value} (hc : cellH h b o = some v) (K : Value → Heap → Prop), RunV Try.prog (Instr.loadAt 31 (.pointer (some ⟨b, o, none⟩))) h K = K v h) ∧
  (∀ {C : Heap → Prop} {h0 : Heap} {b o : Nat} {v : Value} (hC : C h0) (hc : ∀ h', C h' → cellH h' b o = some v) (K : Value → Prop), QV Try.prog C (Instr.loadAt 31 (.pointer (some ⟨b, o, none⟩))) K = K v) ∧
  (∀ {h : Heap} {b o : Nat} {v : Value} (hc : cellH h b o = some v) (K : Value → Heap → Prop), RunV Try.prog (Instr.loadAt 32 (.pointer (some ⟨b, o, none⟩))) h K = K v h) ∧
  (∀ {C : Heap → Prop} {h0 : Heap} {b o : Nat} {v : Value} (hC : C h0) (hc : ∀ h', C h' → cellH h' b o = some v) (K : Value → Prop), QV Try.prog C (Instr.loadAt 32 (.pointer (some ⟨b, o, none⟩))) K = K v) ∧
  (∀ {h : Heap} {b o : Nat} {v : Value} (hc : cellH h b o = some v) (K : Value → Heap → Prop), RunV Try.prog (Instr.loadAt 54 (.pointer (some ⟨b, o, none⟩))) h K = K v h) ∧
  (∀ {C : Heap → Prop} {h0 : Heap} {b o : Nat} {v : Value} (hC : C h0) (hc : ∀ h', C h' → cellH h' b o = some v) (K : Value → Prop), QV Try.prog C (Instr.loadAt 54 (.pointer (some ⟨b, o, none⟩))) K = K v) ∧
  (∀ {h : Heap} {b o : Nat} {v : Value} (hc : cellH h b o = some v) (K : Value → Heap → Prop), RunV Try.prog (Instr.loadAt 63 (.pointer (some ⟨b, o, none⟩))) h K = K v h) ∧
  (∀ {C : Heap → Prop} {h0 : Heap} {b o : Nat} {v : Value} (hC : C h0) (hc : ∀ h', C h' → cellH h' b o = some v) (K : Value → Prop), QV Try.prog C (Instr.loadAt 63 (.pointer (some ⟨b, o, none⟩))) K = K v) ∧
  (∀ {h : Heap} {b o : Nat} {v : Value} (hc : cellH h b o = some v) (K : Value → Heap → Prop), RunV Try.prog (Instr.loadAt 81 (.pointer (some ⟨b, o, none⟩))) h K = K v h) ∧
  (∀ {C : Heap → Prop} {h0 : Heap} {b o : Nat} {v : Value} (hC : C h0) (hc : ∀ h', C h' → cellH h' b o = some v) (K : Value → Prop), QV Try.prog C (Instr.loadAt 81 (.pointer (some ⟨b, o, none⟩))) K = K v) ∧
  (∀ {h : Heap} {b o : Nat} {v : Value} (hc : cellH h b o = some v) (K : Value → Heap → Prop), RunV Try.prog (Instr.loadAt 93 (.pointer (some ⟨b, o, none⟩))) h K = K v h) ∧
  (∀ {C : Heap → Prop} {h0 : Heap} {b o : Nat} {v : Value} (hC : C h0) (hc : ∀ h', C h' → cellH h' b o = some v) (K : Value → Prop), QV Try.prog C (Instr.loadAt 93 (.pointer (some ⟨b, o, none⟩))) K = K v) ∧
  (∀ {h : Heap} {b o : Nat} {v : Value} (hv : plainV v = true) (hc : okW h b o = true) (K : Heap → Prop), RunU Try.prog (Instr.storeAt 3 (.pointer (some ⟨b, o, none⟩)) v) h K = K (setH h b o v)) ∧
  (∀ {h : Heap} {b o : Nat} {v : Value} (hv : plainV v = true) (hc : okW h b o = true) (K : Heap → Prop), RunU Try.prog (Instr.storeAt 4 (.pointer (some ⟨b, o, none⟩)) v) h K = K (setH h b o v)) ∧
  (∀ {h : Heap} {b o : Nat} {v : Value} (hv : plainV v = true) (hc : okW h b o = true) (K : Heap → Prop), RunU Try.prog (Instr.storeAt 5 (.pointer (some ⟨b, o, none⟩)) v) h K = K (setH h b o v)) ∧
  (∀ {h : Heap} {b o : Nat} {v : Value} (hv : plainV v = true) (hc : okW h b o = true) (K : Heap → Prop), RunU Try.prog (Instr.storeAt 9 (.pointer (some ⟨b, o, none⟩)) v) h K = K (setH h b o v)) ∧
  (∀ {h : Heap} {b o : Nat} {v : Value} (hv : plainV v = true) (hc : okW h b o = true) (K : Heap → Prop), RunU Try.prog (Instr.storeAt 25 (.pointer (some ⟨b, o, none⟩)) v) h K = K (setH h b o v)) ∧
  (∀ {h : Heap} {b o : Nat} {v : Value} (hv : plainV v = true) (hc : okW h b o = true) (K : Heap → Prop), RunU Try.prog (Instr.storeAt 31 (.pointer (some ⟨b, o, none⟩)) v) h K = K (setH h b o v)) ∧
  (∀ {h : Heap} {b o : Nat} {v : Value} (hv : plainV v = true) (hc : okW h b o = true) (K : Heap → Prop), RunU Try.prog (Instr.storeAt 32 (.pointer (some ⟨b, o, none⟩)) v) h K = K (setH h b o v)) ∧
  (∀ {h : Heap} {b o : Nat} {v : Value} (hv : plainV v = true) (hc : okW h b o = true) (K : Heap → Prop), RunU Try.prog (Instr.storeAt 54 (.pointer (some ⟨b, o, none⟩)) v) h K = K (setH h b o v)) ∧
  (∀ {h : Heap} {b o : Nat} {v : Value} (hv : plainV v = true) (hc : okW h b o = true) (K : Heap → Prop), RunU Try.prog (Instr.storeAt 81 (.pointer (some ⟨b, o, none⟩)) v) h K = K (setH h b o v)) ∧
  (∀ {h : Heap} {b o : Nat} {v : Value} (hv : plainV v = true) (hc : okW h b o = true) (K : Heap → Prop), RunU Try.prog (Instr.storeAt 93 (.pointer (some ⟨b, o, none⟩)) v) h K = K (setH h b o v)) ∧
  (∀ {h : Heap} (b o : Nat) (K : Value → Heap → Prop), RunV Try.prog (Instr.fieldAt 39 (.pointer (some ⟨b, o, none⟩)) 0) h K = K (.pointer (some ⟨b, o, none⟩)) h) ∧
  (∀ {C : Heap → Prop} {h0 : Heap} (hC : C h0) (b o : Nat) (K : Value → Prop), QV Try.prog C (Instr.fieldAt 39 (.pointer (some ⟨b, o, none⟩)) 0) K = K (.pointer (some ⟨b, o, none⟩))) ∧
  (∀ {h : Heap} (b o : Nat) (K : Value → Heap → Prop), RunV Try.prog (Instr.fieldAt 39 (.pointer (some ⟨b, o, none⟩)) 1) h K = K (.pointer (some ⟨b, o + 1, none⟩)) h) ∧
  (∀ {C : Heap → Prop} {h0 : Heap} (hC : C h0) (b o : Nat) (K : Value → Prop), QV Try.prog C (Instr.fieldAt 39 (.pointer (some ⟨b, o, none⟩)) 1) K = K (.pointer (some ⟨b, o + 1, none⟩))) ∧
  (∀ {h : Heap} (b o : Nat) (K : Value → Heap → Prop), RunV Try.prog (Instr.fieldAt 39 (.pointer (some ⟨b, o, none⟩)) 2) h K = K (.pointer (some ⟨b, o + 2, none⟩)) h) ∧
  (∀ {C : Heap → Prop} {h0 : Heap} (hC : C h0) (b o : Nat) (K : Value → Prop), QV Try.prog C (Instr.fieldAt 39 (.pointer (some ⟨b, o, none⟩)) 2) K = K (.pointer (some ⟨b, o + 2, none⟩))) ∧
  (∀ {h : Heap} (b o : Nat) (K : Value → Heap → Prop), RunV Try.prog (Instr.fieldAt 39 (.pointer (some ⟨b, o, none⟩)) 3) h K = K (.pointer (some ⟨b, o + 3, none⟩)) h) ∧
  (∀ {C : Heap → Prop} {h0 : Heap} (hC : C h0) (b o : Nat) (K : Value → Prop), QV Try.prog C (Instr.fieldAt 39 (.pointer (some ⟨b, o, none⟩)) 3) K = K (.pointer (some ⟨b, o + 3, none⟩))) ∧
  (∀ {h : Heap} (b o : Nat) (K : Value → Heap → Prop), RunV Try.prog (Instr.fieldAt 51 (.pointer (some ⟨b, o, none⟩)) 0) h K = K (.pointer (some ⟨b, o, none⟩)) h) ∧
  (∀ {C : Heap → Prop} {h0 : Heap} (hC : C h0) (b o : Nat) (K : Value → Prop), QV Try.prog C (Instr.fieldAt 51 (.pointer (some ⟨b, o, none⟩)) 0) K = K (.pointer (some ⟨b, o, none⟩))) ∧
  (∀ {h : Heap} (b o : Nat) (K : Value → Heap → Prop), RunV Try.prog (Instr.fieldAt 51 (.pointer (some ⟨b, o, none⟩)) 1) h K = K (.pointer (some ⟨b, o + 1, none⟩)) h) ∧
  (∀ {C : Heap → Prop} {h0 : Heap} (hC : C h0) (b o : Nat) (K : Value → Prop), QV Try.prog C (Instr.fieldAt 51 (.pointer (some ⟨b, o, none⟩)) 1) K = K (.pointer (some ⟨b, o + 1, none⟩))) ∧
  (∀ {h : Heap} (b o : Nat) (K : Value → Heap → Prop), RunV Try.prog (Instr.fieldAt 51 (.pointer (some ⟨b, o, none⟩)) 2) h K = K (.pointer (some ⟨b, o + 2, none⟩)) h) ∧
  (∀ {C : Heap → Prop} {h0 : Heap} (hC : C h0) (b o : Nat) (K : Value → Prop), QV Try.prog C (Instr.fieldAt 51 (.pointer (some ⟨b, o, none⟩)) 2) K = K (.pointer (some ⟨b, o + 2, none⟩))) ∧
  (∀ {h : Heap} (b o : Nat) (K : Value → Heap → Prop), RunV Try.prog (Instr.fieldAt 51 (.pointer (some ⟨b, o, none⟩)) 3) h K = K (.pointer (some ⟨b, o + 3, none⟩)) h) ∧
  (∀ {C : Heap → Prop} {h0 : Heap} (hC : C h0) (b o : Nat) (K : Value → Prop), QV Try.prog C (Instr.fieldAt 51 (.pointer (some ⟨b, o, none⟩)) 3) K = K (.pointer (some ⟨b, o + 3, none⟩))) ∧
  (∀ {h : Heap} (b o : Nat) (K : Value → Heap → Prop), RunV Try.prog (Instr.fieldAt 51 (.pointer (some ⟨b, o, none⟩)) 4) h K = K (.pointer (some ⟨b, o + 4, none⟩)) h) ∧
  (∀ {C : Heap → Prop} {h0 : Heap} (hC : C h0) (b o : Nat) (K : Value → Prop), QV Try.prog C (Instr.fieldAt 51 (.pointer (some ⟨b, o, none⟩)) 4) K = K (.pointer (some ⟨b, o + 4, none⟩))) ∧
  (∀ {h : Heap} (b o : Nat) (K : Value → Heap → Prop), RunV Try.prog (Instr.fieldAt 51 (.pointer (some ⟨b, o, none⟩)) 5) h K = K (.pointer (some ⟨b, o + 5, none⟩)) h) ∧
  (∀ {C : Heap → Prop} {h0 : Heap} (hC : C h0) (b o : Nat) (K : Value → Prop), QV Try.prog C (Instr.fieldAt 51 (.pointer (some ⟨b, o, none⟩)) 5) K = K (.pointer (some ⟨b, o + 5, none⟩))) ∧
  (∀ {h : Heap} (b o : Nat) (K : Value → Heap → Prop), RunV Try.prog (Instr.fieldAt 65 (.pointer (some ⟨b, o, none⟩)) 0) h K = K (.pointer (some ⟨b, o, none⟩)) h) ∧
  (∀ {C : Heap → Prop} {h0 : Heap} (hC : C h0) (b o : Nat) (K : Value → Prop), QV Try.prog C (Instr.fieldAt 65 (.pointer (some ⟨b, o, none⟩)) 0) K = K (.pointer (some ⟨b, o, none⟩))) ∧
  (∀ {h : Heap} (b o : Nat) (K : Value → Heap → Prop), RunV Try.prog (Instr.fieldAt 65 (.pointer (some ⟨b, o, none⟩)) 1) h K = K (.pointer (some ⟨b, o + 1, none⟩)) h) ∧
  (∀ {C : Heap → Prop} {h0 : Heap} (hC : C h0) (b o : Nat) (K : Value → Prop), QV Try.prog C (Instr.fieldAt 65 (.pointer (some ⟨b, o, none⟩)) 1) K = K (.pointer (some ⟨b, o + 1, none⟩))) ∧
  (∀ {h : Heap} (b o : Nat) (K : Value → Heap → Prop), RunV Try.prog (Instr.fieldAt 65 (.pointer (some ⟨b, o, none⟩)) 2) h K = K (.pointer (some ⟨b, o + 2, none⟩)) h) ∧
  (∀ {C : Heap → Prop} {h0 : Heap} (hC : C h0) (b o : Nat) (K : Value → Prop), QV Try.prog C (Instr.fieldAt 65 (.pointer (some ⟨b, o, none⟩)) 2) K = K (.pointer (some ⟨b, o + 2, none⟩))) ∧
  (∀ {h : Heap} (b o : Nat) (K : Value → Heap → Prop), RunV Try.prog (Instr.fieldAt 65 (.pointer (some ⟨b, o, none⟩)) 3) h K = K (.pointer (some ⟨b, o + 3, none⟩)) h) ∧
  (∀ {C : Heap → Prop} {h0 : Heap} (hC : C h0) (b o : Nat) (K : Value → Prop), QV Try.prog C (Instr.fieldAt 65 (.pointer (some ⟨b, o, none⟩)) 3) K = K (.pointer (some ⟨b, o + 3, none⟩))) ∧
  (∀ {h : Heap} (b o : Nat) (K : Value → Heap → Prop), RunV Try.prog (Instr.fieldAt 65 (.pointer (some ⟨b, o, none⟩)) 4) h K = K (.pointer (some ⟨b, o + 4, none⟩)) h) ∧
  (∀ {C : Heap → Prop} {h0 : Heap} (hC : C h0) (b o : Nat) (K : Value → Prop), QV Try.prog C (Instr.fieldAt 65 (.pointer (some ⟨b, o, none⟩)) 4) K = K (.pointer (some ⟨b, o + 4, none⟩))) ∧
  (∀ {h : Heap} (b o : Nat) (K : Value → Heap → Prop), RunV Try.prog (Instr.fieldAt 67 (.pointer (some ⟨b, o, none⟩)) 0) h K = K (.pointer (some ⟨b, o, none⟩)) h) ∧
  (∀ {C : Heap → Prop} {h0 : Heap} (hC : C h0) (b o : Nat) (K : Value → Prop), QV Try.prog C (Instr.fieldAt 67 (.pointer (some ⟨b, o, none⟩)) 0) K = K (.pointer (some ⟨b, o, none⟩))) ∧
  (∀ {h : Heap} (b o : Nat) (K : Value → Heap → Prop), RunV Try.prog (Instr.fieldAt 67 (.pointer (some ⟨b, o, none⟩)) 1) h K = K (.pointer (some ⟨b, o + 1, none⟩)) h) ∧
  (∀ {C : Heap → Prop} {h0 : Heap} (hC : C h0) (b o : Nat) (K : Value → Prop), QV Try.prog C (Instr.fieldAt 67 (.pointer (some ⟨b, o, none⟩)) 1) K = K (.pointer (some ⟨b, o + 1, none⟩))) ∧
  (∀ {h : Heap} (b o : Nat) (K : Value → Heap → Prop), RunV Try.prog (Instr.fieldAt 67 (.pointer (some ⟨b, o, none⟩)) 2) h K = K (.pointer (some ⟨b, o + 2, none⟩)) h) ∧
  (∀ {C : Heap → Prop} {h0 : Heap} (hC : C h0) (b o : Nat) (K : Value → Prop), QV Try.prog C (Instr.fieldAt 67 (.pointer (some ⟨b, o, none⟩)) 2) K = K (.pointer (some ⟨b, o + 2, none⟩))) ∧
  (∀ {h : Heap} (b o : Nat) (K : Value → Heap → Prop), RunV Try.prog (Instr.fieldAt 67 (.pointer (some ⟨b, o, none⟩)) 3) h K = K (.pointer (some ⟨b, o + 3, none⟩)) h) ∧
  (∀ {C : Heap → Prop} {h0 : Heap} (hC : C h0) (b o : Nat) (K : Value → Prop), QV Try.prog C (Instr.fieldAt 67 (.pointer (some ⟨b, o, none⟩)) 3) K = K (.pointer (some ⟨b, o + 3, none⟩))) ∧
  (∀ {h : Heap} (b o : Nat) (K : Value → Heap → Prop), RunV Try.prog (Instr.fieldAt 67 (.pointer (some ⟨b, o, none⟩)) 4) h K = K (.pointer (some ⟨b, o + 4, none⟩)) h) ∧
  (∀ {C : Heap → Prop} {h0 : Heap} (hC : C h0) (b o : Nat) (K : Value → Prop), QV Try.prog C (Instr.fieldAt 67 (.pointer (some ⟨b, o, none⟩)) 4) K = K (.pointer (some ⟨b, o + 4, none⟩))) ∧
  (∀ {h : Heap} (b o : Nat) (K : Value → Heap → Prop), RunV Try.prog (Instr.fieldAt 72 (.pointer (some ⟨b, o, none⟩)) 0) h K = K (.pointer (some ⟨b, o, none⟩)) h) ∧
  (∀ {C : Heap → Prop} {h0 : Heap} (hC : C h0) (b o : Nat) (K : Value → Prop), QV Try.prog C (Instr.fieldAt 72 (.pointer (some ⟨b, o, none⟩)) 0) K = K (.pointer (some ⟨b, o, none⟩))) ∧
  (∀ {h : Heap} (b o : Nat) (K : Value → Heap → Prop), RunV Try.prog (Instr.fieldAt 72 (.pointer (some ⟨b, o, none⟩)) 1) h K = K (.pointer (some ⟨b, o + 1, none⟩)) h) ∧
  (∀ {C : Heap → Prop} {h0 : Heap} (hC : C h0) (b o : Nat) (K : Value → Prop), QV Try.prog C (Instr.fieldAt 72 (.pointer (some ⟨b, o, none⟩)) 1) K = K (.pointer (some ⟨b, o + 1, none⟩))) ∧
  (∀ {h : Heap} (b o : Nat) (K : Value → Heap → Prop), RunV Try.prog (Instr.fieldAt 72 (.pointer (some ⟨b, o, none⟩)) 2) h K = K (.pointer (some ⟨b, o + 2, none⟩)) h) ∧
  (∀ {C : Heap → Prop} {h0 : Heap} (hC : C h0) (b o : Nat) (K : Value → Prop), QV Try.prog C (Instr.fieldAt 72 (.pointer (some ⟨b, o, none⟩)) 2) K = K (.pointer (some ⟨b, o + 2, none⟩))) ∧
  (∀ {h : Heap} (b o : Nat) (K : Value → Heap → Prop), RunV Try.prog (Instr.fieldAt 74 (.pointer (some ⟨b, o, none⟩)) 0) h K = K (.pointer (some ⟨b, o, none⟩)) h) ∧
  (∀ {C : Heap → Prop} {h0 : Heap} (hC : C h0) (b o : Nat) (K : Value → Prop), QV Try.prog C (Instr.fieldAt 74 (.pointer (some ⟨b, o, none⟩)) 0) K = K (.pointer (some ⟨b, o, none⟩))) ∧
  (∀ {h : Heap} (b o : Nat) (K : Value → Heap → Prop), RunV Try.prog (Instr.fieldAt 74 (.pointer (some ⟨b, o, none⟩)) 1) h K = K (.pointer (some ⟨b, o + 3, none⟩)) h) ∧
  (∀ {C : Heap → Prop} {h0 : Heap} (hC : C h0) (b o : Nat) (K : Value → Prop), QV Try.prog C (Instr.fieldAt 74 (.pointer (some ⟨b, o, none⟩)) 1) K = K (.pointer (some ⟨b, o + 3, none⟩))) ∧
  (∀ {h : Heap} (b o : Nat) (K : Value → Heap → Prop), RunV Try.prog (Instr.fieldAt 74 (.pointer (some ⟨b, o, none⟩)) 2) h K = K (.pointer (some ⟨b, o + 4, none⟩)) h) ∧
  (∀ {C : Heap → Prop} {h0 : Heap} (hC : C h0) (b o : Nat) (K : Value → Prop), QV Try.prog C (Instr.fieldAt 74 (.pointer (some ⟨b, o, none⟩)) 2) K = K (.pointer (some ⟨b, o + 4, none⟩))) ∧
  (∀ {h : Heap} (b o : Nat) (K : Value → Heap → Prop), RunV Try.prog (Instr.fieldAt 74 (.pointer (some ⟨b, o, none⟩)) 3) h K = K (.pointer (some ⟨b, o + 5, none⟩)) h) ∧
  (∀ {C : Heap → Prop} {h0 : Heap} (hC : C h0) (b o : Nat) (K : Value → Prop), QV Try.prog C (Instr.fieldAt 74 (.pointer (some ⟨b, o, none⟩)) 3) K = K (.pointer (some ⟨b, o + 5, none⟩))) ∧
  (∀ {h : Heap} (b o : Nat) (K : Value → Heap → Prop), RunV Try.prog (Instr.fieldAt 83 (.pointer (some ⟨b, o, none⟩)) 0) h K = K (.pointer (some ⟨b, o, none⟩)) h) ∧
  (∀ {C : Heap → Prop} {h0 : Heap} (hC : C h0) (b o : Nat) (K : Value → Prop), QV Try.prog C (Instr.fieldAt 83 (.pointer (some ⟨b, o, none⟩)) 0) K = K (.pointer (some ⟨b, o, none⟩))) ∧
  (∀ {h : Heap} (b o : Nat) (K : Value → Heap → Prop), RunV Try.prog (Instr.fieldAt 83 (.pointer (some ⟨b, o, none⟩)) 1) h K = K (.pointer (some ⟨b, o + 1, none⟩)) h) ∧
  (∀ {C : Heap → Prop} {h0 : Heap} (hC : C h0) (b o : Nat) (K : Value → Prop), QV Try.prog C (Instr.fieldAt 83 (.pointer (some ⟨b, o, none⟩)) 1) K = K (.pointer (some ⟨b, o + 1, none⟩))) ∧
  (∀ {h : Heap} (b o len cap : Nat) (i : Int) (h0 : 0 ≤ i) (h1 : i < (len : Int)) (K : Value → Heap → Prop), RunV Try.prog (Instr.indexAt 22 (.slice (some ⟨b, o, none⟩) len cap) (.int .i64 i)) h K = K (.pointer (some ⟨b, o + i.toNat * 4, none⟩)) h) ∧
  (∀ {C : Heap → Prop} {h0 : Heap} (hC : C h0) (b o len cap : Nat) (i : Int) (h0 : 0 ≤ i) (h1 : i < (len : Int)) (K : Value → Prop), QV Try.prog C (Instr.indexAt 22 (.slice (some ⟨b, o, none⟩) len cap) (.int .i64 i)) K = K (.pointer (some ⟨b, o + i.toNat * 4, none⟩))) ∧
  (∀ {h : Heap} (b o len cap : Nat) (i : Int) (h0 : 0 ≤ i) (h1 : i < (len : Int)) (K : Value → Heap → Prop), RunV Try.prog (Instr.indexAt 32 (.slice (some ⟨b, o, none⟩) len cap) (.int .i64 i)) h K = K (.pointer (some ⟨b, o + i.toNat, none⟩)) h) ∧
  (∀ {C : Heap → Prop} {h0 : Heap} (hC : C h0) (b o len cap : Nat) (i : Int) (h0 : 0 ≤ i) (h1 : i < (len : Int)) (K : Value → Prop), QV Try.prog C (Instr.indexAt 32 (.slice (some ⟨b, o, none⟩) len cap) (.int .i64 i)) K = K (.pointer (some ⟨b, o + i.toNat, none⟩))) ∧
  (∀ {h : Heap} (b o len cap : Nat) (i : Int) (h0 : 0 ≤ i) (h1 : i < (len : Int)) (K : Value → Heap → Prop), RunV Try.prog (Instr.indexAt 54 (.slice (some ⟨b, o, none⟩) len cap) (.int .i64 i)) h K = K (.pointer (some ⟨b, o + i.toNat, none⟩)) h) ∧
  (∀ {C : Heap → Prop} {h0 : Heap} (hC : C h0) (b o len cap : Nat) (i : Int) (h0 : 0 ≤ i) (h1 : i < (len : Int)) (K : Value → Prop), QV Try.prog C (Instr.indexAt 54 (.slice (some ⟨b, o, none⟩) len cap) (.int .i64 i)) K = K (.pointer (some ⟨b, o + i.toNat, none⟩))) ∧
  (∀ {h : Heap} (b o : Nat) (i : Int) (h0 : 0 ≤ i) (h1 : i < ((3 : Nat) : Int)) (K : Value → Heap → Prop), RunV Try.prog (Instr.indexAt 55 (.pointer (some ⟨b, o, none⟩)) (.int .i64 i)) h K = K (.pointer (some ⟨b, o + i.toNat, none⟩)) h) ∧
  (∀ {C : Heap → Prop} {h0 : Heap} (hC : C h0) (b o : Nat) (i : Int) (h0 : 0 ≤ i) (h1 : i < ((3 : Nat) : Int)) (K : Value → Prop), QV Try.prog C (Instr.indexAt 55 (.pointer (some ⟨b, o, none⟩)) (.int .i64 i)) K = K (.pointer (some ⟨b, o + i.toNat, none⟩))) ∧
  (∀ {h : Heap} (b o : Nat) (i : Int) (h0 : 0 ≤ i) (h1 : i < ((3 : Nat) : Int)) (K : Value → Heap → Prop), RunV Try.prog (Instr.indexAt 56 (.pointer (some ⟨b, o, none⟩)) (.int .i64 i)) h K = K (.pointer (some ⟨b, o + i.toNat, none⟩)) h) ∧
  (∀ {C : Heap → Prop} {h0 : Heap} (hC : C h0) (b o : Nat) (i : Int) (h0 : 0 ≤ i) (h1 : i < ((3 : Nat) : Int)) (K : Value → Prop), QV Try.prog C (Instr.indexAt 56 (.pointer (some ⟨b, o, none⟩)) (.int .i64 i)) K = K (.pointer (some ⟨b, o + i.toNat, none⟩))) ∧
  (∀ {h : Heap} (b o : Nat) (i : Int) (h0 : 0 ≤ i) (h1 : i < ((3 : Nat) : Int)) (K : Value → Heap → Prop), RunV Try.prog (Instr.indexAt 57 (.pointer (some ⟨b, o, none⟩)) (.int .i64 i)) h K = K (.pointer (some ⟨b, o + i.toNat, none⟩)) h) ∧
  (∀ {C : Heap → Prop} {h0 : Heap} (hC : C h0) (b o : Nat) (i : Int) (h0 : 0 ≤ i) (h1 : i < ((3 : Nat) : Int)) (K : Value → Prop), QV Try.prog C (Instr.indexAt 57 (.pointer (some ⟨b, o, none⟩)) (.int .i64 i)) K = K (.pointer (some ⟨b, o + i.toNat, none⟩))) ∧
  (∀ {h : Heap} (b o : Nat) (i : Int) (h0 : 0 ≤ i) (h1 : i < ((2 : Nat) : Int)) (K : Value → Heap → Prop), RunV Try.prog (Instr.indexAt 60 (.pointer (some ⟨b, o, none⟩)) (.int .i64 i)) h K = K (.pointer (some ⟨b, o + i.toNat, none⟩)) h) ∧
  (∀ {C : Heap → Prop} {h0 : Heap} (hC : C h0) (b o : Nat) (i : Int) (h0 : 0 ≤ i) (h1 : i < ((2 : Nat) : Int)) (K : Value → Prop), QV Try.prog C (Instr.indexAt 60 (.pointer (some ⟨b, o, none⟩)) (.int .i64 i)) K = K (.pointer (some ⟨b, o + i.toNat, none⟩))) ∧
  (∀ {h : Heap} (b o len cap : Nat) (i : Int) (h0 : 0 ≤ i) (h1 : i < (len : Int)) (K : Value → Heap → Prop), RunV Try.prog (Instr.indexAt 61 (.slice (some ⟨b, o, none⟩) len cap) (.int .i64 i)) h K = K (.pointer (some ⟨b, o + i.toNat * 2, none⟩)) h) ∧
  (∀ {C : Heap → Prop} {h0 : Heap} (hC : C h0) (b o len cap : Nat) (i : Int) (h0 : 0 ≤ i) (h1 : i < (len : Int)) (K : Value → Prop), QV Try.prog C (Instr.indexAt 61 (.slice (some ⟨b, o, none⟩) len cap) (.int .i64 i)) K = K (.pointer (some ⟨b, o + i.toNat * 2, none⟩))) ∧
  (∀ {h : Heap} (b o len cap : Nat) (i : Int) (h0 : 0 ≤ i) (h1 : i < (len : Int)) (K : Value → Heap → Prop), RunV Try.prog (Instr.indexAt 63 (.slice (some ⟨b, o, none⟩) len cap) (.int .i64 i)) h K = K (.pointer (some ⟨b, o + i.toNat * 32, none⟩)) h) ∧
  (∀ {C : Heap → Prop} {h0 : Heap} (hC : C h0) (b o len cap : Nat) (i : Int) (h0 : 0 ≤ i) (h1 : i < (len : Int)) (K : Value → Prop), QV Try.prog C (Instr.indexAt 63 (.slice (some ⟨b, o, none⟩) len cap) (.int .i64 i)) K = K (.pointer (some ⟨b, o + i.toNat * 32, none⟩))) ∧
  (∀ {h : Heap} (ty : TypeId) (c : Array Bool) (a : List UInt8) (K : Value → Heap → Prop), OpN Try.prog (Go.builtin .len #[9] ty c #[str a]) h K = K (.int .i64 a.length) h) ∧
  (∀ {C : Heap → Prop} {h0 : Heap} (hC : C h0) (ty : TypeId) (c : Array Bool) (a : List UInt8) (K : Value → Prop), QB Try.prog C (Go.builtin .len #[9] ty c #[str a]) K = K (.int .i64 a.length)) ∧
  (∀ {h : Heap} (ty : TypeId) (c : Array Bool) (a : Option Addr) (n k : Nat) (K : Value → Heap → Prop), OpN Try.prog (Go.builtin .len #[22] ty c #[.slice a n k]) h K = K (.int .i64 n) h) ∧
  (∀ {C : Heap → Prop} {h0 : Heap} (hC : C h0) (ty : TypeId) (c : Array Bool) (a : Option Addr) (n k : Nat) (K : Value → Prop), QB Try.prog C (Go.builtin .len #[22] ty c #[.slice a n k]) K = K (.int .i64 n)) ∧
  (∀ {h : Heap} (ty : TypeId) (c : Array Bool) (a : Option Addr) (n k : Nat) (K : Value → Heap → Prop), OpN Try.prog (Go.builtin .len #[32] ty c #[.slice a n k]) h K = K (.int .i64 n) h) ∧
  (∀ {C : Heap → Prop} {h0 : Heap} (hC : C h0) (ty : TypeId) (c : Array Bool) (a : Option Addr) (n k : Nat) (K : Value → Prop), QB Try.prog C (Go.builtin .len #[32] ty c #[.slice a n k]) K = K (.int .i64 n)) ∧
  (∀ {h : Heap} (ty : TypeId) (c : Array Bool) (a : Option Addr) (n k : Nat) (K : Value → Heap → Prop), OpN Try.prog (Go.builtin .len #[54] ty c #[.slice a n k]) h K = K (.int .i64 n) h) ∧
  (∀ {C : Heap → Prop} {h0 : Heap} (hC : C h0) (ty : TypeId) (c : Array Bool) (a : Option Addr) (n k : Nat) (K : Value → Prop), QB Try.prog C (Go.builtin .len #[54] ty c #[.slice a n k]) K = K (.int .i64 n)) ∧
  (∀ {h : Heap} (ty : TypeId) (c : Array Bool) (a : Option Addr) (n k : Nat) (K : Value → Heap → Prop), OpN Try.prog (Go.builtin .len #[61] ty c #[.slice a n k]) h K = K (.int .i64 n) h) ∧
  (∀ {C : Heap → Prop} {h0 : Heap} (hC : C h0) (ty : TypeId) (c : Array Bool) (a : Option Addr) (n k : Nat) (K : Value → Prop), QB Try.prog C (Go.builtin .len #[61] ty c #[.slice a n k]) K = K (.int .i64 n)) ∧
  (∀ {h : Heap} (ty : TypeId) (c : Array Bool) (a : Option Addr) (n k : Nat) (K : Value → Heap → Prop), OpN Try.prog (Go.builtin .len #[63] ty c #[.slice a n k]) h K = K (.int .i64 n) h) ∧
  (∀ {C : Heap → Prop} {h0 : Heap} (hC : C h0) (ty : TypeId) (c : Array Bool) (a : Option Addr) (n k : Nat) (K : Value → Prop), QB Try.prog C (Go.builtin .len #[63] ty c #[.slice a n k]) K = K (.int .i64 n)) ∧
  (∀ {h : Heap} (l : List UInt8) (i j : Int) (h0 : 0 ≤ i) (h1 : i ≤ j) (h2 : j ≤ (l.length : Int)) (K : Value → Heap → Prop), RunV Try.prog (Instr.sliceAt 9 (str l) (some (.int .i64 i)) (some (.int .i64 j)) none) h K = K (str ((l.drop i.toNat).take (j.toNat - i.toNat))) h) ∧
  (∀ {C : Heap → Prop} {h0 : Heap} (hC : C h0) (l : List UInt8) (i j : Int) (h0 : 0 ≤ i) (h1 : i ≤ j) (h2 : j ≤ (l.length : Int)) (K : Value → Prop), QV Try.prog C (Instr.sliceAt 9 (str l) (some (.int .i64 i)) (some (.int .i64 j)) none) K = K (str ((l.drop i.toNat).take (j.toNat - i.toNat)))) ∧
  (∀ {h : Heap} (l : List UInt8) (i : Int) (h0 : 0 ≤ i) (h2 : i ≤ (l.length : Int)) (K : Value → Heap → Prop), RunV Try.prog (Instr.sliceAt 9 (str l) (some (.int .i64 i)) none none) h K = K (str (l.drop i.toNat)) h) ∧
  (∀ {C : Heap → Prop} {h0 : Heap} (hC : C h0) (l : List UInt8) (i : Int) (h0 : 0 ≤ i) (h2 : i ≤ (l.length : Int)) (K : Value → Prop), QV Try.prog C (Instr.sliceAt 9 (str l) (some (.int .i64 i)) none none) K = K (str (l.drop i.toNat))) ∧
  (∀ {h : Heap} (l : List UInt8) (j : Int) (h0 : 0 ≤ j) (h2 : j ≤ (l.length : Int)) (K : Value → Heap → Prop), RunV Try.prog (Instr.sliceAt 9 (str l) none (some (.int .i64 j)) none) h K = K (str (l.take j.toNat)) h) ∧
  (∀ {C : Heap → Prop} {h0 : Heap} (hC : C h0) (l : List UInt8) (j : Int) (h0 : 0 ≤ j) (h2 : j ≤ (l.length : Int)) (K : Value → Prop), QV Try.prog C (Instr.sliceAt 9 (str l) none (some (.int .i64 j)) none) K = K (str (l.take j.toNat))) ∧
  (∀ {h : Heap} (a : Addr) (K : Value → Heap → Prop), RunV Try.prog (Instr.sliceAt 79 (.pointer (some a)) none none none) h K = K (.slice (some a) 32 32) h) ∧
  (∀ {C : Heap → Prop} {h0 : Heap} (hC : C h0) (a : Addr) (K : Value → Prop), QV Try.prog C (Instr.sliceAt 79 (.pointer (some a)) none none none) K = K (.slice (some a) 32 32)) ∧
  (∀ {h : Heap} (l : List UInt8) (i : Int) (h0 : 0 ≤ i) (h2 : i < (l.length : Int)) (K : Value → Heap → Prop), RunV Try.prog (Instr.index 9 (str l) (.int .i64 i)) h K = K (.int .u8 ((l.getD i.toNat 0).toNat : Int)) h) ∧
  (∀ {C : Heap → Prop} {h0 : Heap} (hC : C h0) (l : List UInt8) (i : Int) (h0 : 0 ≤ i) (h2 : i < (l.length : Int)) (K : Value → Prop), QV Try.prog C (Instr.index 9 (str l) (.int .i64 i)) K = K (.int .u8 ((l.getD i.toNat 0).toNat : Int))) ∧
  (∀ {h : Heap} {v0 v1 v2 v3 v4 : Value} (h0 : plainV v0 = true) (h1 : plainV v1 = true) (h2 : plainV v2 = true) (h3 : plainV v3 = true) (h4 : plainV v4 = true) (K : Value → Heap → Prop), RunV Try.prog (Instr.build 51 #[(0, v0), (1, v1), (2, v2), (3, v3), (4, v4)]) h K = K (.agg #[v0, v1, v2, v3, v4, .bool false]) h) ∧
  (∀ {C : Heap → Prop} {h0 : Heap} (hC : C h0) {v0 v1 v2 v3 v4 : Value} (h0 : plainV v0 = true) (h1 : plainV v1 = true) (h2 : plainV v2 = true) (h3 : plainV v3 = true) (h4 : plainV v4 = true) (K : Value → Prop), QV Try.prog C (Instr.build 51 #[(0, v0), (1, v1), (2, v2), (3, v3), (4, v4)]) K = K (.agg #[v0, v1, v2, v3, v4, .bool false])) ∧
  (∀ {h : Heap} {v0 v1 v2 : Value} (h0 : plainV v0 = true) (h1 : plainV v1 = true) (h2 : plainV v2 = true) (K : Value → Heap → Prop), RunV Try.prog (Instr.build 55 #[(0, v0), (1, v1), (2, v2)]) h K = K (.agg #[v0, v1, v2]) h) ∧
  (∀ {C : Heap → Prop} {h0 : Heap} (hC : C h0) {v0 v1 v2 : Value} (h0 : plainV v0 = true) (h1 : plainV v1 = true) (h2 : plainV v2 = true) (K : Value → Prop), QV Try.prog C (Instr.build 55 #[(0, v0), (1, v1), (2, v2)]) K = K (.agg #[v0, v1, v2])) ∧
  (∀ {h : Heap} (K : Value → Heap → Prop), RunV Try.prog (Instr.build 56 #[]) h K = K (.agg #[.pointer none, .pointer none, .pointer none]) h) ∧
  (∀ {h : Heap} (K : Value → Heap → Prop), RunV Try.prog (Instr.build 57 #[]) h K = K (.agg #[.slice none 0 0, .slice none 0 0, .slice none 0 0]) h) ∧
  (∀ {h : Heap} {v0 v1 : Value} (h0 : plainV v0 = true) (h1 : plainV v1 = true) (K : Value → Heap → Prop), RunV Try.prog (Instr.build 60 #[(0, v0), (1, v1)]) h K = K (.agg #[v0, v1]) h) ∧
  (∀ {C : Heap → Prop} {h0 : Heap} (hC : C h0) {v0 v1 : Value} (h0 : plainV v0 = true) (h1 : plainV v1 = true) (K : Value → Prop), QV Try.prog C (Instr.build 60 #[(0, v0), (1, v1)]) K = K (.agg #[v0, v1])) ∧
  (∀ {h : Heap} {v0 v1 : Value} (h0 : plainV v0 = true) (h1 : plainV v1 = true) (K : Value → Heap → Prop), RunV Try.prog (Instr.build 65 #[(0, v0), (1, v1)]) h K = K (.agg #[v0, v1, .int .i64 0, .bool false, .int .i64 0]) h) ∧
  (∀ {C : Heap → Prop} {h0 : Heap} (hC : C h0) {v0 v1 : Value} (h0 : plainV v0 = true) (h1 : plainV v1 = true) (K : Value → Prop), QV Try.prog C (Instr.build 65 #[(0, v0), (1, v1)]) K = K (.agg #[v0, v1, .int .i64 0, .bool false, .int .i64 0])) ∧
  (∀ {h : Heap} {v1 : Value} (h1 : plainV v1 = true) (K : Value → Heap → Prop), RunV Try.prog (Instr.build 67 #[(1, v1)]) h K = K (.agg #[.slice none 0 0, v1, .int .i64 0, .bool false, .int .i64 0]) h) ∧
  (∀ {C : Heap → Prop} {h0 : Heap} (hC : C h0) {v1 : Value} (h1 : plainV v1 = true) (K : Value → Prop), QV Try.prog C (Instr.build 67 #[(1, v1)]) K = K (.agg #[.slice none 0 0, v1, .int .i64 0, .bool false, .int .i64 0])) ∧
  (∀ {h : Heap} {v0 v1 v2 : Value} (h0 : plainV v0 = true) (h1 : plainV v1 = true) (h2 : plainV v2 = true) (K : Value → Heap → Prop), RunV Try.prog (Instr.build 72 #[(0, v0), (1, v1), (2, v2)]) h K = K (.agg #[v0, v1, v2]) h) ∧
  (∀ {C : Heap → Prop} {h0 : Heap} (hC : C h0) {v0 v1 v2 : Value} (h0 : plainV v0 = true) (h1 : plainV v1 = true) (h2 : plainV v2 = true) (K : Value → Prop), QV Try.prog C (Instr.build 72 #[(0, v0), (1, v1), (2, v2)]) K = K (.agg #[v0, v1, v2])) ∧
  (∀ {h : Heap} {v0_0 v0_1 v0_2 v1 v2 : Value} (h1 : plainV v1 = true) (h2 : plainV v2 = true) (K : Value → Heap → Prop), RunV Try.prog (Instr.build 74 #[(0, .agg #[v0_0, v0_1, v0_2]), (1, v1), (2, v2)]) h K = K (.agg #[v0_0, v0_1, v0_2, v1, v2, .bool false]) h) ∧
  (∀ {C : Heap → Prop} {h0 : Heap} (hC : C h0) {v0_0 v0_1 v0_2 v1 v2 : Value} (h1 : plainV v1 = true) (h2 : plainV v2 = true) (K : Value → Prop), QV Try.prog C (Instr.build 74 #[(0, .agg #[v0_0, v0_1, v0_2]), (1, v1), (2, v2)]) K = K (.agg #[v0_0, v0_1, v0_2, v1, v2, .bool false])) ∧
  (∀ {h : Heap} (x : Value) (K : Value → Heap → Prop), RunV Try.prog (Instr.alloc 9 true x) h K = K (.pointer (some ⟨h.size, 0, none⟩)) (h.push (.cells #[str []] 9 (0, 0)))) ∧
  (∀ {h : Heap} (x : Value) (K : Value → Heap → Prop), RunV Try.prog (Instr.alloc 25 true x) h K = K (.pointer (some ⟨h.size, 0, none⟩)) (h.push (.cells #[.int .i64 0] 25 (0, 0)))) ∧
  (∀ {h : Heap} (x : Value) (K : Value → Heap → Prop), RunV Try.prog (Instr.alloc 39 true x) h K = K (.pointer (some ⟨h.size, 0, none⟩)) (h.push (.cells #[.int .i64 0, .int .i64 0, .int .i64 0, str []] 39 (0, 0)))) ∧
  (∀ {h : Heap} (x : Value) (K : Value → Heap → Prop), RunV Try.prog (Instr.alloc 55 true x) h K = K (.pointer (some ⟨h.size, 0, none⟩)) (h.push (.cells #[.int .i64 0, .int .i64 0, .int .i64 0] 55 (0, 0)))) ∧
  (∀ {h : Heap} (x : Value) (K : Value → Heap → Prop), RunV Try.prog (Instr.alloc 56 true x) h K = K (.pointer (some ⟨h.size, 0, none⟩)) (h.push (.cells #[.pointer none, .pointer none, .pointer none] 56 (0, 0)))) ∧
  (∀ {h : Heap} (x : Value) (K : Value → Heap → Prop), RunV Try.prog (Instr.alloc 57 true x) h K = K (.pointer (some ⟨h.size, 0, none⟩)) (h.push (.cells #[.slice none 0 0, .slice none 0 0, .slice none 0 0] 57 (0, 0)))) ∧
  (∀ {h : Heap} (x : Value) (K : Value → Heap → Prop), RunV Try.prog (Instr.alloc 60 true x) h K = K (.pointer (some ⟨h.size, 0, none⟩)) (h.push (.cells #[.int .i64 0, .int .i64 0] 60 (0, 0)))) ∧
  (∀ {h : Heap} (x : Value) (K : Value → Heap → Prop), RunV Try.prog (Instr.alloc 72 true x) h K = K (.pointer (some ⟨h.size, 0, none⟩)) (h.push (.cells #[.pointer none, .int .i64 0, .int .i64 0] 72 (0, 0)))) ∧
  (∀ {h : Heap} (x : Value) (K : Value → Heap → Prop), RunV Try.prog (Instr.alloc 79 true x) h K = K (.pointer (some ⟨h.size, 0, none⟩)) (h.push (.cells #[.int .u8 0, .int .u8 0, .int .u8 0, .int .u8 0, .int .u8 0, .int .u8 0, .int .u8 0, .int .u8 0, .int .u8 0, .int .u8 0, .int .u8 0, .int .u8 0, .int .u8 0, .int .u8 0, .int .u8 0, .int .u8 0, .int .u8 0, .int .u8 0, .int .u8 0, .int .u8 0, .int .u8 0, .int .u8 0, .int .u8 0, .int .u8 0, .int .u8 0, .int .u8 0, .int .u8 0, .int .u8 0, .int .u8 0, .int .u8 0, .int .u8 0, .int .u8 0] 79 (0, 0)))) ∧
  (∀ {h : Heap} (x : Value) (K : Value → Heap → Prop), RunV Try.prog (Instr.alloc 83 true x) h K = K (.pointer (some ⟨h.size, 0, none⟩)) (h.push (.cells #[.pointer none, .slice none 0 0] 83 (0, 0)))) ∧
  (∀ {h : Heap} (x : Value) (K : Value → Heap → Prop), RunV Try.prog (Instr.alloc 93 true x) h K = K (.pointer (some ⟨h.size, 0, none⟩)) (h.push (.cells #[.int .u32 0] 93 (0, 0)))) ∧
  (∀ {h : Heap}  (K : Value → Heap → Prop), RunV Try.prog (Instr.buildSlice 32 0 #[]) h K = K (.slice (some ⟨h.size, 0, none⟩) 0 0) (h.push (.cells #[] 9 (0, 0)))) ∧
  (∀ {h : Heap} {v0 : Value} (h0 : plainV v0 = true) (K : Value → Heap → Prop), RunV Try.prog (Instr.buildSlice 32 1 #[(0, v0)]) h K = K (.slice (some ⟨h.size, 0, none⟩) 1 1) (h.push (.cells #[v0] 9 (0, 0)))) ∧
  (∀ {h : Heap} {v0 v1 : Value} (h0 : plainV v0 = true) (h1 : plainV v1 = true) (K : Value → Heap → Prop), RunV Try.prog (Instr.buildSlice 32 2 #[(0, v0), (1, v1)]) h K = K (.slice (some ⟨h.size, 0, none⟩) 2 2) (h.push (.cells #[v0, v1] 9 (0, 0)))) ∧
  (∀ {h : Heap} {v0 : Value} (h0 : plainV v0 = true) (K : Value → Heap → Prop), RunV Try.prog (Instr.buildSlice 54 1 #[(0, v0)]) h K = K (.slice (some ⟨h.size, 0, none⟩) 1 1) (h.push (.cells #[v0] 5 (0, 0)))) ∧
  (∀ {h : Heap} {v0 v1 v2 v3 v4 v5 v6 : Value} (h0 : plainV v0 = true) (h1 : plainV v1 = true) (h2 : plainV v2 = true) (h3 : plainV v3 = true) (h4 : plainV v4 = true) (h5 : plainV v5 = true) (h6 : plainV v6 = true) (K : Value → Heap → Prop), RunV Try.prog (Instr.buildSlice 54 7 #[(0, v0), (1, v1), (2, v2), (3, v3), (4, v4), (5, v5), (6, v6)]) h K = K (.slice (some ⟨h.size, 0, none⟩) 7 7) (h.push (.cells #[v0, v1, v2, v3, v4, v5, v6] 5 (0, 0)))) ∧
  (∀ {h : Heap} {v0_0 v0_1 v1_0 v1_1 v2_0 v2_1 v3_0 v3_1 v4_0 v4_1 v5_0 v5_1 : Value}  (K : Value → Heap → Prop), RunV Try.prog (Instr.buildSlice 61 6 #[(0, .agg #[v0_0, v0_1]), (1, .agg #[v1_0, v1_1]), (2, .agg #[v2_0, v2_1]), (3, .agg #[v3_0, v3_1]), (4, .agg #[v4_0, v4_1]), (5, .agg #[v5_0, v5_1])]) h K = K (.slice (some ⟨h.size, 0, none⟩) 6 6) (h.push (.cells #[v0_0, v0_1, v1_0, v1_1, v2_0, v2_1, v3_0, v3_1, v4_0, v4_1, v5_0, v5_1] 60 (0, 0)))) ∧
  (∀ {h : Heap} (n : Int) (h0 : 0 ≤ n) (h1 : n * 1 ≤ 140737488355328) (h2 : n ≤ 9223372036854775807) (K : Value → Heap → Prop), RunV Try.prog (Instr.makeSlice 54 (.int .i64 n) (.int .i64 n)) h K = K (.slice (some ⟨h.size, 0, none⟩) n.toNat n.toNat) (h.push (.cells (rowOf #[.int .u8 0] (n.toNat * 1)) 5 (0, 0)))) ∧
  (∀ {h : Heap} (n : Int) (h0 : 0 ≤ n) (h1 : n * 32 ≤ 140737488355328) (h2 : n ≤ 9223372036854775807) (K : Value → Heap → Prop), RunV Try.prog (Instr.makeSlice 63 (.int .i64 n) (.int .i64 n)) h K = K (.slice (some ⟨h.size, 0, none⟩) n.toNat n.toNat) (h.push (.cells (rowOf #[.int .u8 0, .int .u8 0, .int .u8 0, .int .u8 0, .int .u8 0, .int .u8 0, .int .u8 0, .int .u8 0, .int .u8 0, .int .u8 0, .int .u8 0, .int .u8 0, .int .u8 0, .int .u8 0, .int .u8 0, .int .u8 0, .int .u8 0, .int .u8 0, .int .u8 0, .int .u8 0, .int .u8 0, .int .u8 0, .int .u8 0, .int .u8 0, .int .u8 0, .int .u8 0, .int .u8 0, .int .u8 0, .int .u8 0, .int .u8 0, .int .u8 0, .int .u8 0] (n.toNat * 32)) 79 (0, 0)))) ∧
  (∀ {h : Heap} (a b : Bool) (x y : Operand) (K : Value → Heap → Prop), RunV Try.prog (binS .eql 4 x y (.bool a) (.bool b)) h K = K (.bool (a == b)) h) ∧
  (∀ {C : Heap → Prop} {h0 : Heap} (hC : C h0) (a b : Bool) (x y : Operand) (K : Value → Prop), QV Try.prog C (binS .eql 4 x y (.bool a) (.bool b)) K = K (.bool (a == b))) ∧
  (∀ {h : Heap} (a b : Bool) (x y : Operand) (K : Value → Heap → Prop), RunV Try.prog (binS .neq 4 x y (.bool a) (.bool b)) h K = K (.bool (!(a == b))) h) ∧
  (∀ {C : Heap → Prop} {h0 : Heap} (hC : C h0) (a b : Bool) (x y : Operand) (K : Value → Prop), QV Try.prog C (binS .neq 4 x y (.bool a) (.bool b)) K = K (.bool (!(a == b)))) ∧
  (∀ {h : Heap} (a : Option Addr) (x y : Operand) (K : Value → Heap → Prop), RunV Try.prog (binS .eql 24 x y (.pointer a) (.pointer none)) h K = K (.bool a.isNone) h) ∧
  (∀ {C : Heap → Prop} {h0 : Heap} (hC : C h0) (a : Option Addr) (x y : Operand) (K : Value → Prop), QV Try.prog C (binS .eql 24 x y (.pointer a) (.pointer none)) K = K (.bool a.isNone)) ∧
  (∀ {h : Heap} (a : Option Addr) (x y : Operand) (K : Value → Heap → Prop), RunV Try.prog (binS .neq 24 x y (.pointer a) (.pointer none)) h K = K (.bool (!a.isNone)) h) ∧
  (∀ {C : Heap → Prop} {h0 : Heap} (hC : C h0) (a : Option Addr) (x y : Operand) (K : Value → Prop), QV Try.prog C (binS .neq 24 x y (.pointer a) (.pointer none)) K = K (.bool (!a.isNone))) ∧
  (∀ {h : Heap} (a : Option Addr) (x y : Operand) (K : Value → Heap → Prop), RunV Try.prog (binS .eql 28 x y (.pointer a) (.pointer none)) h K = K (.bool a.isNone) h) ∧
  (∀ {C : Heap → Prop} {h0 : Heap} (hC : C h0) (a : Option Addr) (x y : Operand) (K : Value → Prop), QV Try.prog C (binS .eql 28 x y (.pointer a) (.pointer none)) K = K (.bool a.isNone)) ∧
  (∀ {h : Heap} (a : Option Addr) (x y : Operand) (K : Value → Heap → Prop), RunV Try.prog (binS .neq 28 x y (.pointer a) (.pointer none)) h K = K (.bool (!a.isNone)) h) ∧
  (∀ {C : Heap → Prop} {h0 : Heap} (hC : C h0) (a : Option Addr) (x y : Operand) (K : Value → Prop), QV Try.prog C (binS .neq 28 x y (.pointer a) (.pointer none)) K = K (.bool (!a.isNone))) ∧
  (∀ {h : Heap} (a : Option Addr) (x y : Operand) (K : Value → Heap → Prop), RunV Try.prog (binS .eql 31 x y (.pointer a) (.pointer none)) h K = K (.bool a.isNone) h) ∧
  (∀ {C : Heap → Prop} {h0 : Heap} (hC : C h0) (a : Option Addr) (x y : Operand) (K : Value → Prop), QV Try.prog C (binS .eql 31 x y (.pointer a) (.pointer none)) K = K (.bool a.isNone)) ∧
  (∀ {h : Heap} (a : Option Addr) (x y : Operand) (K : Value → Heap → Prop), RunV Try.prog (binS .neq 31 x y (.pointer a) (.pointer none)) h K = K (.bool (!a.isNone)) h) ∧
  (∀ {C : Heap → Prop} {h0 : Heap} (hC : C h0) (a : Option Addr) (x y : Operand) (K : Value → Prop), QV Try.prog C (binS .neq 31 x y (.pointer a) (.pointer none)) K = K (.bool (!a.isNone))) ∧
  (∀ {h : Heap} (a : Option Addr) (x y : Operand) (K : Value → Heap → Prop), RunV Try.prog (binS .eql 35 x y (.pointer a) (.pointer none)) h K = K (.bool a.isNone) h) ∧
  (∀ {C : Heap → Prop} {h0 : Heap} (hC : C h0) (a : Option Addr) (x y : Operand) (K : Value → Prop), QV Try.prog C (binS .eql 35 x y (.pointer a) (.pointer none)) K = K (.bool a.isNone)) ∧
  (∀ {h : Heap} (a : Option Addr) (x y : Operand) (K : Value → Heap → Prop), RunV Try.prog (binS .neq 35 x y (.pointer a) (.pointer none)) h K = K (.bool (!a.isNone)) h) ∧
  (∀ {C : Heap → Prop} {h0 : Heap} (hC : C h0) (a : Option Addr) (x y : Operand) (K : Value → Prop), QV Try.prog C (binS .neq 35 x y (.pointer a) (.pointer none)) K = K (.bool (!a.isNone))) ∧
  (∀ {h : Heap} (a : Option Addr) (x y : Operand) (K : Value → Heap → Prop), RunV Try.prog (binS .eql 81 x y (.pointer a) (.pointer none)) h K = K (.bool a.isNone) h) ∧
  (∀ {C : Heap → Prop} {h0 : Heap} (hC : C h0) (a : Option Addr) (x y : Operand) (K : Value → Prop), QV Try.prog C (binS .eql 81 x y (.pointer a) (.pointer none)) K = K (.bool a.isNone)) ∧
  (∀ {h : Heap} (a : Option Addr) (x y : Operand) (K : Value → Heap → Prop), RunV Try.prog (binS .neq 81 x y (.pointer a) (.pointer none)) h K = K (.bool (!a.isNone)) h) ∧
  (∀ {C : Heap → Prop} {h0 : Heap} (hC : C h0) (a : Option Addr) (x y : Operand) (K : Value → Prop), QV Try.prog C (binS .neq 81 x y (.pointer a) (.pointer none)) K = K (.bool (!a.isNone))) :=
  ⟨ld3, qld3, ld4, qld4, ld5, qld5, ld9, qld9, ld24, qld24, ld25, qld25, ld28, qld28, ld31, qld31, ld32, qld32, ld54, qld54, ld63, qld63, ld81, qld81, ld93, qld93, st3, st4, st5, st9, st25, st31, st32, st54, st81, st93, fa39_0, qfa39_0, fa39_1, qfa39_1, fa39_2, qfa39_2, fa39_3, qfa39_3, fa51_0, qfa51_0, fa51_1, qfa51_1, fa51_2, qfa51_2, fa51_3, qfa51_3, fa51_4, qfa51_4, fa51_5, qfa51_5, fa65_0, qfa65_0, fa65_1, qfa65_1, fa65_2, qfa65_2, fa65_3, qfa65_3, fa65_4, qfa65_4, fa67_0, qfa67_0, fa67_1, qfa67_1, fa67_2, qfa67_2, fa67_3, qfa67_3, fa67_4, qfa67_4, fa72_0, qfa72_0, fa72_1, qfa72_1, fa72_2, qfa72_2, fa74_0, qfa74_0, fa74_1, qfa74_1, fa74_2, qfa74_2, fa74_3, qfa74_3, fa83_0, qfa83_0, fa83_1, qfa83_1, ix22, qix22, ix32, qix32, ix54, qix54, ix55, qix55, ix56, qix56, ix57, qix57, ix60, qix60, ix61, qix61, ix63, qix63, ln9, qln9, ln22, qln22, ln32, qln32, ln54, qln54, ln61, qln61, ln63, qln63, sb9, qsb9, slo9, qslo9, shi9, qshi9, sa79, qsa79, si9, qsi9, bd51_0_1_2_3_4, qbd51_0_1_2_3_4, bd55_0_1_2, qbd55_0_1_2, bd56_z, bd57_z, bd60_0_1, qbd60_0_1, bd65_0_1, qbd65_0_1, bd67_1, qbd67_1, bd72_0_1_2, qbd72_0_1_2, bd74_0_1_2, qbd74_0_1_2, al9, al25, al39, al55, al56, al57, al60, al72, al79, al83, al93, bs32_0, bs32_1, bs32_2, bs54_1, bs54_7, bs61_6, mk54, mk63, bleq4, qbleq4, blne4, qblne4, pnil24, qpnil24, pnnil24, qpnnil24, pnil28, qpnil28, pnnil28, qpnnil28, pnil31, qpnil31, pnnil31, qpnnil31, pnil35, qpnil35, pnnil35, qpnnil35, pnil81, qpnil81, pnnil81, qpnnil81⟩

end Go.Proofs.Ytoefeflmcggbkaa
