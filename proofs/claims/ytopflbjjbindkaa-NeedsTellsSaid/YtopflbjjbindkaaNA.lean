/- Arguments: an event, a tie, a flat graph. -/
import Derived.Test.YtopflbjjbindkaaRows
import Derived.Test.YtopflbjjbindkaaN6
import Derived.Test.YtopflbjjbindkaaHpA
set_option linter.unusedVariables false
set_option linter.unusedSimpArgs false
namespace Go.Proofs.Ytopflbjjbindkaa
open Go.Hp Go.ChangeShapes Go.WideShapes Go.ChangeAt Go.RowKit

theorem own : ownKnob Try.prog.godebug = none := by kernel_rfl
theorem laidOut : laidOutB Try.prog = true := by kernel_rfl
theorem c3 : Try.prog.cellsOf 3 = 1 := by kernel_rfl
theorem c4 : Try.prog.cellsOf 4 = 1 := by kernel_rfl
theorem c9 : Try.prog.cellsOf 9 = 1 := by kernel_rfl
theorem c48 : Try.prog.cellsOf 48 = 4 := by kernel_rfl
theorem c66 : Try.prog.cellsOf 66 = 6 := by kernel_rfl
theorem c25 : Try.prog.cellsOf 25 = 2 := by kernel_rfl
theorem c22 : Try.prog.cellsOf 22 = 1 := by kernel_rfl
theorem c23 : Try.prog.cellsOf 23 = 1 := by kernel_rfl
theorem tie_of {H : Type} {enc : TypeId × Value → H} {W : World} {cs : List Value} (h : Rd enc Try.prog W 48 cs) : ∃ x : TieT, cs = TieT.cs x := by
  have hs := h.size Try.underlying48
  have h0 := h.part Try.underlying48 0 3 0 rfl c3
  have h1 := h.part Try.underlying48 1 3 1 rfl c3
  have h2 := h.part Try.underlying48 2 3 2 rfl c3
  have h3 := h.part Try.underlying48 3 3 3 rfl c3
  rw [c48] at hs
  obtain ⟨v0, v1, v2, v3, rfl⟩ := list4 hs
  obtain ⟨a, e0, _⟩ := h0.i64 Try.underlying3
  obtain ⟨b, e1, _⟩ := h1.i64 Try.underlying3
  obtain ⟨c, e2, _⟩ := h2.i64 Try.underlying3
  obtain ⟨d, e3, _⟩ := h3.i64 Try.underlying3
  simp only [List.drop_zero, List.take_succ_cons, List.take_zero, List.drop_succ_cons, List.cons.injEq, and_true] at e0 e1 e2 e3
  subst e0 e1 e2 e3
  exact ⟨⟨a, b, c, d⟩, rfl⟩
theorem event_of {H : Type} {enc : TypeId × Value → H} {W : World} {cs : List Value} (h : Rd enc Try.prog W 66 cs) : ∃ x : EvT, cs = EvT.cs x := by
  have hs := h.size Try.underlying66
  have h0 := h.part Try.underlying66 0 9 0 rfl c9
  have h1 := h.part Try.underlying66 1 9 1 rfl c9
  have h2 := h.part Try.underlying66 2 9 2 rfl c9
  have h3 := h.part Try.underlying66 3 4 3 rfl c4
  have h4 := h.part Try.underlying66 4 4 4 rfl c4
  have h5 := h.part Try.underlying66 5 3 5 rfl c3
  rw [c66] at hs
  obtain ⟨v0, v1, v2, v3, v4, v5, rfl⟩ := list6 hs
  obtain ⟨a, e0, _⟩ := h0.string Try.underlying9
  obtain ⟨b, e1, _⟩ := h1.string Try.underlying9
  obtain ⟨c, e2, _⟩ := h2.string Try.underlying9
  obtain ⟨d, e3⟩ := h3.bool Try.underlying4
  obtain ⟨e, e4⟩ := h4.bool Try.underlying4
  obtain ⟨f, e5, _⟩ := h5.i64 Try.underlying3
  simp only [List.drop_zero, List.take_succ_cons, List.take_zero, List.drop_succ_cons, List.cons.injEq, and_true] at e0 e1 e2 e3 e4 e5
  subst e0 e1 e2 e3 e4 e5
  exact ⟨⟨a, b, c, d, e, f⟩, rfl⟩
set_option maxRecDepth 100000 in
theorem flat_of {H : Type} {enc : TypeId × Value → H} {W : World} {r : Reach} {base : Nat} {v : Value} (hv : Value.okWide Try.prog W r base 25 v) (h : Rd enc Try.prog W 25 v.cells.toList) :
    ∃ ve vt, ∃ f : FlatT, v = .agg #[ve, vt] ∧ SlR 6 (fun cs x => cs = EvT.cs x) W.heap ve f.ev ∧ SlR 4 (fun cs x => cs = TieT.cs x) W.heap vt f.ties := by
  obtain ⟨cs, rfl, hcs⟩ := okWide_struct Try.underlying25 hv
  have h0 := h.part Try.underlying25 0 22 0 rfl c22
  have h1 := h.part Try.underlying25 1 23 1 rfl c23
  rw [c25] at hcs
  have hl : cs.toList.length = 2 := by simpa using hcs
  obtain ⟨ve, vt, e⟩ := list2 hl
  have e' : cs = #[ve, vt] := by rw [← Array.toArray_toList (xs := cs), e]
  subst e'
  obtain ⟨l, hl, _⟩ := Rd.slR (α := EvT) Try.underlying22 (c := 6) c66 (by omega) (fun cs h => event_of h) (show Rd enc Try.prog W 22 [ve] from h0)
  obtain ⟨t, ht, _⟩ := Rd.slR (α := TieT) Try.underlying23 (c := 4) c48 (by omega) (fun cs h => tie_of h) (show Rd enc Try.prog W 23 [vt] from h1)
  exact ⟨ve, vt, ⟨l, t⟩, rfl, hl, ht⟩
end Go.Proofs.Ytopflbjjbindkaa
