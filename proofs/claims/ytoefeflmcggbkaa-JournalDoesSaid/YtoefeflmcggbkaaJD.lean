/- JournalDoes: for every number of blocks and every list of acts the law returns true, and its arguments read afterwards as before. No condition. -/
import Derived.Test.YtoefeflmcggbkaaRows
import Derived.Test.YtoefeflmcggbkaaJ19
import Derived.Test.YtoefeflmcggbkaaHpA
set_option linter.unusedVariables false
set_option linter.unusedSimpArgs false
namespace Go.Proofs.Ytoefeflmcggbkaa
open Go.Hp Go.ChangeShapes Go.WideShapes Go.ChangeAt Go.RowKit

theorem own : ownKnob Try.prog.godebug = none := by kernel_rfl
theorem laidOut : laidOutB Try.prog = true := by kernel_rfl
theorem act_of {H : Type} {enc : TypeId × Value → H} {W : World} {cs : List Value} (h : Rd enc Try.prog W 39 cs) : ∃ x : ActT, cs = [.int .i64 x.k, .int .i64 x.n, .int .i64 x.m, str x.t] ∧ x.ok := by
  have hs := h.size Try.underlying39
  have c39 : Try.prog.cellsOf 39 = 4 := by kernel_rfl
  have c3 : Try.prog.cellsOf 3 = 1 := by kernel_rfl
  have c9 : Try.prog.cellsOf 9 = 1 := by kernel_rfl
  have h0 := h.part Try.underlying39 0 3 0 rfl c3
  have h1 := h.part Try.underlying39 1 3 1 rfl c3
  have h2 := h.part Try.underlying39 2 3 2 rfl c3
  have h3 := h.part Try.underlying39 3 9 3 rfl c9
  rw [c39] at hs
  obtain ⟨v0, v1, v2, v3, rfl⟩ := list4 hs
  obtain ⟨a, e0, a1, a2⟩ := h0.i64 Try.underlying3
  obtain ⟨b, e1, b1, b2⟩ := h1.i64 Try.underlying3
  obtain ⟨c, e2, c1, c2⟩ := h2.i64 Try.underlying3
  obtain ⟨l, e3, l1⟩ := h3.string Try.underlying9
  simp only [List.drop_zero, List.take_succ_cons, List.take_zero, List.drop_succ_cons, List.cons.injEq, and_true] at e0 e1 e2 e3
  subst e0 e1 e2 e3
  exact ⟨⟨a, b, c, l⟩, rfl, a1, a2, b1, b2, c1, c2, by simp only [reachBytes] at l1; show l.length ≤ _; omega⟩
set_option maxRecDepth 100000 in
theorem does_lifted (os : Os) (started : os.Started) (H : Type) (enc : TypeId × Value → H) :
    ReturnsInHanded {} Try.checked os 3 .any (Rows.journalDoesSpec.pre6 enc Try.prog Try.f3 Rows.journalDoesRow.domain false) (Rows.journalDoesSpec.post enc Try.prog Try.f3 false true false false) := by
  refine returnsInHanded_of_change_sized (C := Try.checked) own started (by kernel_rfl) Try.func3
    (ChangeSpec.witness6 (enc := enc) (C := Try.checked) false ⟨#[], #[.int .i64 0, .slice none 0 0], []⟩ 8 (by kernel_rfl) (by kernel_rfl) (by kernel_rfl) (by kernel_rfl)) ?_
  intro W base args ds gs before hval0 hW hcnd hsz0 _
  have hsz : (DataW.weightsEach Try.prog (Try.f3.params.toList ++ Rows.journalDoesSpec.plain.varTypes Try.prog) (ds ++ gs)).all (· ≤ reachBytes) = true := hsz0
  have hval : ∀ (j : Nat) t v, Try.f3.params[j]? = some t → args[j]? = some v → Value.okWide Try.prog W .any base t v := hval0
  have hW' := hW
  obtain ⟨p, q, hA0, hV, rfl, hfz, hnd⟩ := hW
  have hA : DataW.TrodAll enc Try.prog W 0 (fun _ => true) true Try.f3.params.toList args.toList ds p := hA0
  have hA1 := hA
  rw [Try.params3] at hA hval hsz
  obtain ⟨v0, vs0, d0, ds0, p0, q0, hargs, rfl, rfl, h0, r0⟩ := trodAll_cons hA
  obtain ⟨v1, vs1, d1, ds1, p1, q1, rfl, rfl, rfl, h1, r1⟩ := trodAll_cons r0
  obtain ⟨rfl, rfl, rfl⟩ := trodAll_nil r1
  obtain rfl : args = #[v0, v1] := by cases args; simp_all
  obtain ⟨rfl, rfl⟩ := trodVars_none hV
  have k0 := Rd.of hsz (j := 0) rfl rfl h0
  have k1 := Rd.of hsz (j := 1) rfl rfl h1
  obtain ⟨n, hn⟩ : ∃ n, v0 = .int .i64 n := by
    obtain ⟨a, rfl, _⟩ := open_int Try.underlying3 (hval 0 3 v0 rfl rfl) h0
    exact ⟨a, rfl⟩
  subst hn
  obtain ⟨a1, len1, cap1, rfl⟩ := okWide_slice Try.underlying22 (hval 1 22 v1 rfl rfl)
  obtain ⟨n', hn', hb⟩ := k0.i64 Try.underlying3
  have hnn : n = n' := by simpa [Value.cells] using hn'
  subst hnn
  obtain ⟨l, hl, hlw⟩ := Rd.slR (α := ActT) Try.underlying22 (c := 4) (by kernel_rfl) (by omega) (fun cs h => act_of h) (show Rd enc Try.prog W 22 [_] from k1)
  have hlen : l.length ≤ 140737488355328 := by
    have hb39 : Try.prog.bytesOf 39 = 40 := by kernel_rfl
    rw [hb39] at hlw
    simp only [reachBytes] at hlw
    omega
  have hS : ArgS W.heap (.slice a1 len1 cap1) l.length 4 (ActT.V fun i => l.getD i ⟨0, 0, 0, []⟩) := by
    obtain ⟨A, cap, e, hlc, h⟩ := hl
    refine ⟨A, cap, e, hlen, fun h0 => ?_⟩
    rcases h with h | ⟨b, o, rfl, h⟩
    · omega
    · refine ⟨b, o, rfl, fun i hi j hj => ?_⟩
      obtain ⟨cs, _, ⟨rfl, _⟩, hr⟩ := h i l[i] (List.getElem?_eq_getElem hi)
      have hg : l.getD i ⟨0, 0, 0, []⟩ = l[i] := by simp [List.getD_eq_getElem?_getD, hi]
      match j, hj with
      | 0, _ => exact (hr 0 _ rfl).trans (by simp only [ActT.V, hg])
      | 1, _ => exact (hr 1 _ rfl).trans (by simp only [ActT.V, hg])
      | 2, _ => exact (hr 2 _ rfl).trans (by simp only [ActT.V, hg])
      | 3, _ => exact (hr 3 _ rfl).trans (by simp only [ActT.V, hg])
  have hok : ∀ i, i < l.length → (l.getD i ⟨0, 0, 0, []⟩).ok := by
    intro i hi
    obtain ⟨A, cap, e, hlc, h⟩ := hl
    rcases h with h | ⟨b, o, rfl, h⟩
    · omega
    · obtain ⟨cs, _, ⟨rfl, hx⟩, hr⟩ := h i l[i] (List.getElem?_eq_getElem hi)
      have hg : l.getD i ⟨0, 0, 0, []⟩ = l[i] := by simp [List.getD_eq_getElem?_getD, hi]
      rw [hg]
      exact hx
  have hc := does_spec n hb hS hok (K := fun v h' => v = .bool true ∧ Ext W.heap h') (fun h' x => ⟨rfl, x⟩)
  refine (calls_of (R3 _) hc rfl).mono ?_
  rintro e W' ⟨v, rfl, hs, rfl, hx⟩
  have bel := below_of hs hx
  exact ⟨_, rfl, _, _, _, [], _, [], hW', trodAll_mk1 (shut_bool Try.underlying4 _), law_args laidOut bel (of_decide_eq_true (by kernel_rfl)) hA1, rfl, bel.frame _, fun h => by cases h⟩
theorem JournalDoes_holds : Rows.JournalDoesSaid :=
  OpenClaim.holds_of_wide 3 Try.f3 rfl rfl rfl rfl rfl rfl rfl ⟨rfl, rfl, rfl, rfl, rfl⟩ rfl rfl rfl rfl rfl (by kernel_rfl) Try.func3 (by kernel_rfl)
    (of_decide_eq_true (by kernel_rfl)) (by unfold Func.isWrapper; first | (rw [if_pos (by decide +kernel)]; kernel_rfl) | (rw [if_neg (by decide +kernel)]; exact ⟨rfl, rfl⟩))
    (fun os started H enc _ => does_lifted os started H enc)
#print axioms JournalDoes_holds
end Go.Proofs.Ytoefeflmcggbkaa
