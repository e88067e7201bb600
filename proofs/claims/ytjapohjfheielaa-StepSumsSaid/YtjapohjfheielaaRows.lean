/-
  No cell of these rows narrows 'for every input' (looked for: loops, veiled, ifaces, maps, wideKeys, modest, calm, conditions, laid).
  DERIVED. THE GIVEN ROWS OF THIS SEAT. 7 by the template 'for every input the law returns true; each argument reads behind the call as it read before'; 0 by the template 'total and deterministic' (their statements: YtjapohjfheielaaTotals.lean).
  GIVEN WITH THE SEED: the statements are not yours to turn. If you find one false, say at which input.
  Laid BY PROGRAM, IN A SANDBOX (cutbox-rows.mjs): the forced cells as the released guide's own fill.sh prints them over the translation 8e8edcd7fbc96909… (all of the seat's roots in one cut). By AI agents, Wed Nov 11 2026. No macro, syntax, notation, axiom, sorry.
-/
import Derived.Test.YtjapohjfheielaaChecked
import GoSem.Claim
import GoSem.ClaimJoined
import GoSem.ClaimMapViews
import Derived.JoinedTies
import Derived.KernelRfl
namespace Go.Proofs.Ytjapohjfheielaa
/- THE CELL 'sum', in the pinned program and in every row, IS THE sha256 OF THE DUMP (.gsa) THAT YtjapohjfheielaaProg.lean LOADS. Nothing in Lean hashes anything: it is a label: what it is worth is what the hold of that sum in a sandbox is worth. -/
noncomputable def Try.pinned : Pinned := { name := "ytjapohjfheielaa", sum := "8e8edcd7fbc9690957625c53ebe04d7926e1e8d48d42194998d67f4d108c0ddc", checked := Try.checked }
namespace Rows
def none {H : Type} : Left H := { results := [], args := [] }

/-- 'orrerylaw14.StepSums': WHATEVER THE INPUT: true; the input reads as it did. -/
def stepSumsSpec : ChangeSpec := { name := "stepSums", fn := fun _ => fun
  | [d1, d2] => { results := [.lit (.bool true)], args := [d1, d2] }
  | _ => none }
def stepSumsRow : OpenClaim := { program := "ytjapohjfheielaa", sum := "8e8edcd7fbc9690957625c53ebe04d7926e1e8d48d42194998d67f4d108c0ddc", func := "orrery/orrerylaw14.StepSums", spec := "stepSums", inPlace := ["math.archFloor", "math.Float64bits", "math.Float64frombits", "math.archTrunc", "math.sqrt"], apart := false }
def StepSumsSaid : Prop := stepSumsRow.holds Try.pinned (OpenSpec.ofChange stepSumsSpec)

/-- ITS FALSE NEIGHBOUR: 'it returns false'. Refute it at one input. -/
def stepSumsWrong : ChangeSpec := { name := "stepSums", fn := fun _ => fun
  | [d1, d2] => { results := [.lit (.bool false)], args := [d1, d2] }
  | _ => none }
def StepSumsWrongFalsely : Prop := stepSumsRow.holds Try.pinned (OpenSpec.ofChange stepSumsWrong)

/-- 'orrerylaw14.StepTells': WHATEVER THE INPUT: true; the input reads as it did. -/
def stepTellsSpec : ChangeSpec := { name := "stepTells", fn := fun _ => fun
  | [d1, d2, d3] => { results := [.lit (.bool true)], args := [d1, d2, d3] }
  | _ => none }
def stepTellsRow : OpenClaim := { program := "ytjapohjfheielaa", sum := "8e8edcd7fbc9690957625c53ebe04d7926e1e8d48d42194998d67f4d108c0ddc", func := "orrery/orrerylaw14.StepTells", spec := "stepTells", inPlace := ["math.archFloor", "math.Float64bits", "math.Float64frombits", "math.archTrunc", "math.sqrt"], apart := false }
def StepTellsSaid : Prop := stepTellsRow.holds Try.pinned (OpenSpec.ofChange stepTellsSpec)

/-- ITS FALSE NEIGHBOUR: 'it returns false'. Refute it at one input. -/
def stepTellsWrong : ChangeSpec := { name := "stepTells", fn := fun _ => fun
  | [d1, d2, d3] => { results := [.lit (.bool false)], args := [d1, d2, d3] }
  | _ => none }
def StepTellsWrongFalsely : Prop := stepTellsRow.holds Try.pinned (OpenSpec.ofChange stepTellsWrong)

/-- 'orrerylaw14.StepBack': WHATEVER THE INPUT: true; the input reads as it did. -/
def stepBackSpec : ChangeSpec := { name := "stepBack", fn := fun _ => fun
  | [d1, d2, d3] => { results := [.lit (.bool true)], args := [d1, d2, d3] }
  | _ => none }
def stepBackRow : OpenClaim := { program := "ytjapohjfheielaa", sum := "8e8edcd7fbc9690957625c53ebe04d7926e1e8d48d42194998d67f4d108c0ddc", func := "orrery/orrerylaw14.StepBack", spec := "stepBack", inPlace := ["math.archFloor", "math.Float64bits", "math.Float64frombits", "math.archTrunc", "math.sqrt"], apart := false }
def StepBackSaid : Prop := stepBackRow.holds Try.pinned (OpenSpec.ofChange stepBackSpec)

/-- ITS FALSE NEIGHBOUR: 'it returns false'. Refute it at one input. -/
def stepBackWrong : ChangeSpec := { name := "stepBack", fn := fun _ => fun
  | [d1, d2, d3] => { results := [.lit (.bool false)], args := [d1, d2, d3] }
  | _ => none }
def StepBackWrongFalsely : Prop := stepBackRow.holds Try.pinned (OpenSpec.ofChange stepBackWrong)

/-- 'orrerylaw14.StepKeeps': WHATEVER THE INPUT: true; the input reads as it did. -/
def stepKeepsSpec : ChangeSpec := { name := "stepKeeps", fn := fun _ => fun
  | [d1, d2, d3] => { results := [.lit (.bool true)], args := [d1, d2, d3] }
  | _ => none }
def stepKeepsRow : OpenClaim := { program := "ytjapohjfheielaa", sum := "8e8edcd7fbc9690957625c53ebe04d7926e1e8d48d42194998d67f4d108c0ddc", func := "orrery/orrerylaw14.StepKeeps", spec := "stepKeeps", inPlace := ["math.archFloor", "math.Float64bits", "math.Float64frombits", "math.archTrunc", "math.sqrt"], apart := false }
def StepKeepsSaid : Prop := stepKeepsRow.holds Try.pinned (OpenSpec.ofChange stepKeepsSpec)

/-- ITS FALSE NEIGHBOUR: 'it returns false'. Refute it at one input. -/
def stepKeepsWrong : ChangeSpec := { name := "stepKeeps", fn := fun _ => fun
  | [d1, d2, d3] => { results := [.lit (.bool false)], args := [d1, d2, d3] }
  | _ => none }
def StepKeepsWrongFalsely : Prop := stepKeepsRow.holds Try.pinned (OpenSpec.ofChange stepKeepsWrong)

/-- 'orrerylaw14.StepOrders': WHATEVER THE INPUT: true; the input reads as it did. -/
def stepOrdersSpec : ChangeSpec := { name := "stepOrders", fn := fun _ => fun
  | [d1, d2, d3, d4] => { results := [.lit (.bool true)], args := [d1, d2, d3, d4] }
  | _ => none }
def stepOrdersRow : OpenClaim := { program := "ytjapohjfheielaa", sum := "8e8edcd7fbc9690957625c53ebe04d7926e1e8d48d42194998d67f4d108c0ddc", func := "orrery/orrerylaw14.StepOrders", spec := "stepOrders", inPlace := ["math.archFloor", "math.Float64bits", "math.Float64frombits", "math.archTrunc", "math.sqrt"], apart := false }
def StepOrdersSaid : Prop := stepOrdersRow.holds Try.pinned (OpenSpec.ofChange stepOrdersSpec)

/-- ITS FALSE NEIGHBOUR: 'it returns false'. Refute it at one input. -/
def stepOrdersWrong : ChangeSpec := { name := "stepOrders", fn := fun _ => fun
  | [d1, d2, d3, d4] => { results := [.lit (.bool false)], args := [d1, d2, d3, d4] }
  | _ => none }
def StepOrdersWrongFalsely : Prop := stepOrdersRow.holds Try.pinned (OpenSpec.ofChange stepOrdersWrong)

/-- 'orrerylaw14.StepMoves': WHATEVER THE INPUT: true; the input reads as it did. -/
def stepMovesSpec : ChangeSpec := { name := "stepMoves", fn := fun _ => fun
  | [d1, d2, d3, d4, d5] => { results := [.lit (.bool true)], args := [d1, d2, d3, d4, d5] }
  | _ => none }
def stepMovesRow : OpenClaim := { program := "ytjapohjfheielaa", sum := "8e8edcd7fbc9690957625c53ebe04d7926e1e8d48d42194998d67f4d108c0ddc", func := "orrery/orrerylaw14.StepMoves", spec := "stepMoves", inPlace := ["math.archFloor", "math.Float64bits", "math.Float64frombits", "math.archTrunc", "math.sqrt"], apart := false }
def StepMovesSaid : Prop := stepMovesRow.holds Try.pinned (OpenSpec.ofChange stepMovesSpec)

/-- ITS FALSE NEIGHBOUR: 'it returns false'. Refute it at one input. -/
def stepMovesWrong : ChangeSpec := { name := "stepMoves", fn := fun _ => fun
  | [d1, d2, d3, d4, d5] => { results := [.lit (.bool false)], args := [d1, d2, d3, d4, d5] }
  | _ => none }
def StepMovesWrongFalsely : Prop := stepMovesRow.holds Try.pinned (OpenSpec.ofChange stepMovesWrong)

/-- 'orrerylaw14.StepOn': WHATEVER THE INPUT: true; the input reads as it did. -/
def stepOnSpec : ChangeSpec := { name := "stepOn", fn := fun _ => fun
  | [d1, d2, d3, d4] => { results := [.lit (.bool true)], args := [d1, d2, d3, d4] }
  | _ => none }
def stepOnRow : OpenClaim := { program := "ytjapohjfheielaa", sum := "8e8edcd7fbc9690957625c53ebe04d7926e1e8d48d42194998d67f4d108c0ddc", func := "orrery/orrerylaw14.StepOn", spec := "stepOn", inPlace := ["math.archFloor", "math.Float64bits", "math.Float64frombits", "math.archTrunc", "math.sqrt"], apart := false }
def StepOnSaid : Prop := stepOnRow.holds Try.pinned (OpenSpec.ofChange stepOnSpec)

/-- ITS FALSE NEIGHBOUR: 'it returns false'. Refute it at one input. -/
def stepOnWrong : ChangeSpec := { name := "stepOn", fn := fun _ => fun
  | [d1, d2, d3, d4] => { results := [.lit (.bool false)], args := [d1, d2, d3, d4] }
  | _ => none }
def StepOnWrongFalsely : Prop := stepOnRow.holds Try.pinned (OpenSpec.ofChange stepOnWrong)

/- THE SECOND FORM. 'bulk': how many values and letters a reading holds, each counted each time it is reached (what is shared counts as often as it is met; a slice's spare places count too). A statement '..UptoSaid' is the law's where the arguments, and the package variables that the reading takes, are together of bulk at most 1048576: NARROWER than '..Said'. Prove '..Said' where nothing that the law and all that it calls make is longer than what came in: it says more and counts as full. Else prove '..UptoSaid'. A law counts once. -/
mutual
def uptoBulk {H : Type} : DataW H → Nat
  | .lit (.string bytes) => bytes.length + 1
  | .lit _ => 1
  | .nil => 1
  | .ptr d => uptoBulk d + 1
  | .slice elems spare => uptoBulkAll elems + uptoBulkAll spare + 1
  | .agg parts => uptoBulkAll parts + 1
  | .iface _ d => uptoBulk d + 1
  | .map entries => uptoBulkEntries entries + 1
  | .held _ => 1
def uptoBulkAll {H : Type} : List (DataW H) → Nat
  | [] => 0
  | d :: r => uptoBulk d + uptoBulkAll r
def uptoBulkEntries {H : Type} : List (Lit × DataW H) → Nat
  | [] => 0
  | x :: r => uptoBulkEntry x + uptoBulkEntries r
def uptoBulkEntry {H : Type} : Lit × DataW H → Nat
  | (.string bytes, d) => bytes.length + uptoBulk d + 1
  | (_, d) => uptoBulk d + 1
 end
def uptoSmall : (H : Type) → List (DataW H) → Bool := fun _ ds => decide (uptoBulkAll ds ≤ 1048576)
def OpenSpec.upto (s : _root_.Go.ChangeSpec) : _root_.Go.OpenSpec := { _root_.Go.OpenSpec.ofChange s with cond := some uptoSmall }

/-- 'orrerylaw14.StepSums', WHERE WHAT IT READS IS OF BULK AT MOST 1048576: true; the input reads as it did. -/
def stepSumsUptoRow : OpenClaim := { program := "ytjapohjfheielaa", sum := "8e8edcd7fbc9690957625c53ebe04d7926e1e8d48d42194998d67f4d108c0ddc", func := "orrery/orrerylaw14.StepSums", spec := "stepSums", inPlace := ["math.archFloor", "math.Float64bits", "math.Float64frombits", "math.archTrunc", "math.sqrt"], apart := false, narrowed := true }
def StepSumsUptoSaid : Prop := stepSumsUptoRow.holds Try.pinned (OpenSpec.upto stepSumsSpec)

/-- 'orrerylaw14.StepTells', WHERE WHAT IT READS IS OF BULK AT MOST 1048576: true; the input reads as it did. -/
def stepTellsUptoRow : OpenClaim := { program := "ytjapohjfheielaa", sum := "8e8edcd7fbc9690957625c53ebe04d7926e1e8d48d42194998d67f4d108c0ddc", func := "orrery/orrerylaw14.StepTells", spec := "stepTells", inPlace := ["math.archFloor", "math.Float64bits", "math.Float64frombits", "math.archTrunc", "math.sqrt"], apart := false, narrowed := true }
def StepTellsUptoSaid : Prop := stepTellsUptoRow.holds Try.pinned (OpenSpec.upto stepTellsSpec)

/-- 'orrerylaw14.StepBack', WHERE WHAT IT READS IS OF BULK AT MOST 1048576: true; the input reads as it did. -/
def stepBackUptoRow : OpenClaim := { program := "ytjapohjfheielaa", sum := "8e8edcd7fbc9690957625c53ebe04d7926e1e8d48d42194998d67f4d108c0ddc", func := "orrery/orrerylaw14.StepBack", spec := "stepBack", inPlace := ["math.archFloor", "math.Float64bits", "math.Float64frombits", "math.archTrunc", "math.sqrt"], apart := false, narrowed := true }
def StepBackUptoSaid : Prop := stepBackUptoRow.holds Try.pinned (OpenSpec.upto stepBackSpec)

/-- 'orrerylaw14.StepKeeps', WHERE WHAT IT READS IS OF BULK AT MOST 1048576: true; the input reads as it did. -/
def stepKeepsUptoRow : OpenClaim := { program := "ytjapohjfheielaa", sum := "8e8edcd7fbc9690957625c53ebe04d7926e1e8d48d42194998d67f4d108c0ddc", func := "orrery/orrerylaw14.StepKeeps", spec := "stepKeeps", inPlace := ["math.archFloor", "math.Float64bits", "math.Float64frombits", "math.archTrunc", "math.sqrt"], apart := false, narrowed := true }
def StepKeepsUptoSaid : Prop := stepKeepsUptoRow.holds Try.pinned (OpenSpec.upto stepKeepsSpec)

/-- 'orrerylaw14.StepOrders', WHERE WHAT IT READS IS OF BULK AT MOST 1048576: true; the input reads as it did. -/
def stepOrdersUptoRow : OpenClaim := { program := "ytjapohjfheielaa", sum := "8e8edcd7fbc9690957625c53ebe04d7926e1e8d48d42194998d67f4d108c0ddc", func := "orrery/orrerylaw14.StepOrders", spec := "stepOrders", inPlace := ["math.archFloor", "math.Float64bits", "math.Float64frombits", "math.archTrunc", "math.sqrt"], apart := false, narrowed := true }
def StepOrdersUptoSaid : Prop := stepOrdersUptoRow.holds Try.pinned (OpenSpec.upto stepOrdersSpec)

/-- 'orrerylaw14.StepMoves', WHERE WHAT IT READS IS OF BULK AT MOST 1048576: true; the input reads as it did. -/
def stepMovesUptoRow : OpenClaim := { program := "ytjapohjfheielaa", sum := "8e8edcd7fbc9690957625c53ebe04d7926e1e8d48d42194998d67f4d108c0ddc", func := "orrery/orrerylaw14.StepMoves", spec := "stepMoves", inPlace := ["math.archFloor", "math.Float64bits", "math.Float64frombits", "math.archTrunc", "math.sqrt"], apart := false, narrowed := true }
def StepMovesUptoSaid : Prop := stepMovesUptoRow.holds Try.pinned (OpenSpec.upto stepMovesSpec)

/-- 'orrerylaw14.StepOn', WHERE WHAT IT READS IS OF BULK AT MOST 1048576: true; the input reads as it did. -/
def stepOnUptoRow : OpenClaim := { program := "ytjapohjfheielaa", sum := "8e8edcd7fbc9690957625c53ebe04d7926e1e8d48d42194998d67f4d108c0ddc", func := "orrery/orrerylaw14.StepOn", spec := "stepOn", inPlace := ["math.archFloor", "math.Float64bits", "math.Float64frombits", "math.archTrunc", "math.sqrt"], apart := false, narrowed := true }
def StepOnUptoSaid : Prop := stepOnUptoRow.holds Try.pinned (OpenSpec.upto stepOnSpec)

end Rows
end Go.Proofs.Ytjapohjfheielaa
