/-
  No cell of these rows narrows 'for every input' (looked for: loops, veiled, ifaces, maps, wideKeys, modest, calm, conditions, laid).
  DERIVED. THE GIVEN ROWS OF THIS SEAT. 4 by the template 'for every input the law returns true; each argument reads behind the call as it read before'; 0 by the template 'total and deterministic' (their statements: YtopflbjjbindkaaTotals.lean).
  GIVEN WITH THE SEED: the statements are not yours to turn. If you find one false, say at which input.
  Laid BY PROGRAM, IN A SANDBOX (cutbox-rows.mjs): the forced cells as the released guide's own fill.sh prints them over the translation ef9e984737f5ea22… (all of the seat's roots in one cut). By AI agents, Wed Nov 11 2026. No macro, syntax, notation, axiom, sorry.
-/
import Derived.Test.YtopflbjjbindkaaChecked
import GoSem.Claim
import GoSem.ClaimJoined
import GoSem.ClaimMapViews
import Derived.JoinedTies
import Derived.KernelRfl
namespace Go.Proofs.Ytopflbjjbindkaa
/- THE CELL 'sum', in the pinned program and in every row, IS THE sha256 OF THE DUMP (.gsa) THAT YtopflbjjbindkaaProg.lean LOADS. Nothing in Lean hashes anything: it is a label: what it is worth is what the hold of that sum in a sandbox is worth. -/
noncomputable def Try.pinned : Pinned := { name := "ytopflbjjbindkaa", sum := "ef9e984737f5ea221e0993186a682e66fb0a09f60fb96924ec94138e90e3d85a", checked := Try.checked }
namespace Rows
def none {H : Type} : Left H := { results := [], args := [] }

/-- 'replevinlaw07.NeedsTells': WHATEVER THE INPUT: true; the input reads as it did. -/
def needsTellsSpec : ChangeSpec := { name := "needsTells", fn := fun _ => fun
  | [d1, d2] => { results := [.lit (.bool true)], args := [d1, d2] }
  | _ => none }
def needsTellsRow : OpenClaim := { program := "ytopflbjjbindkaa", sum := "ef9e984737f5ea221e0993186a682e66fb0a09f60fb96924ec94138e90e3d85a", func := "replevin/replevinlaw07.NeedsTells", spec := "needsTells", unfollowed := true, recurses := true, apart := false }
def NeedsTellsSaid : Prop := needsTellsRow.holds Try.pinned (OpenSpec.ofChange needsTellsSpec)

/-- ITS FALSE NEIGHBOUR: 'it returns false'. Refute it at one input. -/
def needsTellsWrong : ChangeSpec := { name := "needsTells", fn := fun _ => fun
  | [d1, d2] => { results := [.lit (.bool false)], args := [d1, d2] }
  | _ => none }
def NeedsTellsWrongFalsely : Prop := needsTellsRow.holds Try.pinned (OpenSpec.ofChange needsTellsWrong)

/-- 'replevinlaw07.NeedsHold': WHATEVER THE INPUT: true; the input reads as it did. -/
def needsHoldSpec : ChangeSpec := { name := "needsHold", fn := fun _ => fun
  | [d] => { results := [.lit (.bool true)], args := [d] }
  | _ => none }
def needsHoldRow : OpenClaim := { program := "ytopflbjjbindkaa", sum := "ef9e984737f5ea221e0993186a682e66fb0a09f60fb96924ec94138e90e3d85a", func := "replevin/replevinlaw07.NeedsHold", spec := "needsHold", unfollowed := true, recurses := true, apart := false }
def NeedsHoldSaid : Prop := needsHoldRow.holds Try.pinned (OpenSpec.ofChange needsHoldSpec)

/-- ITS FALSE NEIGHBOUR: 'it returns false'. Refute it at one input. -/
def needsHoldWrong : ChangeSpec := { name := "needsHold", fn := fun _ => fun
  | [d] => { results := [.lit (.bool false)], args := [d] }
  | _ => none }
def NeedsHoldWrongFalsely : Prop := needsHoldRow.holds Try.pinned (OpenSpec.ofChange needsHoldWrong)

/-- 'replevinlaw07.NeedsFew': WHATEVER THE INPUT: true; the input reads as it did. -/
def needsFewSpec : ChangeSpec := { name := "needsFew", fn := fun _ => fun
  | [d1, d2] => { results := [.lit (.bool true)], args := [d1, d2] }
  | _ => none }
def needsFewRow : OpenClaim := { program := "ytopflbjjbindkaa", sum := "ef9e984737f5ea221e0993186a682e66fb0a09f60fb96924ec94138e90e3d85a", func := "replevin/replevinlaw07.NeedsFew", spec := "needsFew", unfollowed := true, recurses := true, apart := false }
def NeedsFewSaid : Prop := needsFewRow.holds Try.pinned (OpenSpec.ofChange needsFewSpec)

/-- ITS FALSE NEIGHBOUR: 'it returns false'. Refute it at one input. -/
def needsFewWrong : ChangeSpec := { name := "needsFew", fn := fun _ => fun
  | [d1, d2] => { results := [.lit (.bool false)], args := [d1, d2] }
  | _ => none }
def NeedsFewWrongFalsely : Prop := needsFewRow.holds Try.pinned (OpenSpec.ofChange needsFewWrong)

/-- 'replevinlaw06.RingTells': WHATEVER THE INPUT: true; the input reads as it did. -/
def ringTellsSpec : ChangeSpec := { name := "ringTells", fn := fun _ => fun
  | [d1, d2] => { results := [.lit (.bool true)], args := [d1, d2] }
  | _ => none }
def ringTellsRow : OpenClaim := { program := "ytopflbjjbindkaa", sum := "ef9e984737f5ea221e0993186a682e66fb0a09f60fb96924ec94138e90e3d85a", func := "replevin/replevinlaw06.RingTells", spec := "ringTells", unfollowed := true, recurses := true, apart := false }
def RingTellsSaid : Prop := ringTellsRow.holds Try.pinned (OpenSpec.ofChange ringTellsSpec)

/-- ITS FALSE NEIGHBOUR: 'it returns false'. Refute it at one input. -/
def ringTellsWrong : ChangeSpec := { name := "ringTells", fn := fun _ => fun
  | [d1, d2] => { results := [.lit (.bool false)], args := [d1, d2] }
  | _ => none }
def RingTellsWrongFalsely : Prop := ringTellsRow.holds Try.pinned (OpenSpec.ofChange ringTellsWrong)

/- THE SECOND FORM. 'bulk': how many values and letters a reading holds, each counted each time it is reached (what is shared counts as often as it is met; a slice's spare places count too). A statement '..UptoSaid' is the law's where the arguments, and the package variables that the reading takes, are together of bulk at most 1048576: NARROWER than '..Said'. Prove '..Said' where nothing that the law and all that it calls make is longer than what came in: it says more and counts as full. Else prove '..UptoSaid'. A law counts once. -/
mutual
def uptoBulk {H : Type} : DataW H → Nat
  | .lit (.string bytes) => bytes.length + 1
  | .lit _ => 1
  | .nil => 1
  | .ptr d => uptoBulk d + 1
  | .slice elems spare => uptoBulkAll elems + uptoBulkAll spare + 1
  | .agg parts => uptoBulkAll parts + 1
  | .iface _ d => uptoBulk d + 1
  | .map entries => uptoBulkEntries entries + 1
  | .held _ => 1
def uptoBulkAll {H : Type} : List (DataW H) → Nat
  | [] => 0
  | d :: r => uptoBulk d + uptoBulkAll r
def uptoBulkEntries {H : Type} : List (Lit × DataW H) → Nat
  | [] => 0
  | x :: r => uptoBulkEntry x + uptoBulkEntries r
def uptoBulkEntry {H : Type} : Lit × DataW H → Nat
  | (.string bytes, d) => bytes.length + uptoBulk d + 1
  | (_, d) => uptoBulk d + 1
 end
def uptoSmall : (H : Type) → List (DataW H) → Bool := fun _ ds => decide (uptoBulkAll ds ≤ 1048576)
def OpenSpec.upto (s : _root_.Go.ChangeSpec) : _root_.Go.OpenSpec := { _root_.Go.OpenSpec.ofChange s with cond := some uptoSmall }

/-- 'replevinlaw07.NeedsTells', WHERE WHAT IT READS IS OF BULK AT MOST 1048576: true; the input reads as it did. -/
def needsTellsUptoRow : OpenClaim := { program := "ytopflbjjbindkaa", sum := "ef9e984737f5ea221e0993186a682e66fb0a09f60fb96924ec94138e90e3d85a", func := "replevin/replevinlaw07.NeedsTells", spec := "needsTells", unfollowed := true, recurses := true, apart := false, narrowed := true }
def NeedsTellsUptoSaid : Prop := needsTellsUptoRow.holds Try.pinned (OpenSpec.upto needsTellsSpec)

/-- 'replevinlaw07.NeedsHold', WHERE WHAT IT READS IS OF BULK AT MOST 1048576: true; the input reads as it did. -/
def needsHoldUptoRow : OpenClaim := { program := "ytopflbjjbindkaa", sum := "ef9e984737f5ea221e0993186a682e66fb0a09f60fb96924ec94138e90e3d85a", func := "replevin/replevinlaw07.NeedsHold", spec := "needsHold", unfollowed := true, recurses := true, apart := false, narrowed := true }
def NeedsHoldUptoSaid : Prop := needsHoldUptoRow.holds Try.pinned (OpenSpec.upto needsHoldSpec)

/-- 'replevinlaw07.NeedsFew', WHERE WHAT IT READS IS OF BULK AT MOST 1048576: true; the input reads as it did. -/
def needsFewUptoRow : OpenClaim := { program := "ytopflbjjbindkaa", sum := "ef9e984737f5ea221e0993186a682e66fb0a09f60fb96924ec94138e90e3d85a", func := "replevin/replevinlaw07.NeedsFew", spec := "needsFew", unfollowed := true, recurses := true, apart := false, narrowed := true }
def NeedsFewUptoSaid : Prop := needsFewUptoRow.holds Try.pinned (OpenSpec.upto needsFewSpec)

/-- 'replevinlaw06.RingTells', WHERE WHAT IT READS IS OF BULK AT MOST 1048576: true; the input reads as it did. -/
def ringTellsUptoRow : OpenClaim := { program := "ytopflbjjbindkaa", sum := "ef9e984737f5ea221e0993186a682e66fb0a09f60fb96924ec94138e90e3d85a", func := "replevin/replevinlaw06.RingTells", spec := "ringTells", unfollowed := true, recurses := true, apart := false, narrowed := true }
def RingTellsUptoSaid : Prop := ringTellsUptoRow.holds Try.pinned (OpenSpec.upto ringTellsSpec)

end Rows
end Go.Proofs.Ytopflbjjbindkaa
