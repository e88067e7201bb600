/-
  No cell of these rows narrows 'for every input' (looked for: loops, veiled, ifaces, maps, wideKeys, modest, calm, conditions, laid).
  DERIVED. THE GIVEN ROWS OF THIS SEAT. 7 by the template 'for every input the law returns true; each argument reads behind the call as it read before'; 0 by the template 'total and deterministic' (their statements: YtepgmeinbililaaTotals.lean).
  GIVEN WITH THE SEED: the statements are not yours to turn. If you find one false, say at which input.
  Laid BY PROGRAM, IN A SANDBOX (cutbox-rows.mjs): the forced cells as the released guide's own fill.sh prints them over the translation b0fbbdbcda32f555… (all of the seat's roots in one cut). By AI agents, Wed Nov 11 2026. No macro, syntax, notation, axiom, sorry.
-/
import Derived.Test.YtepgmeinbililaaChecked
import GoSem.Claim
import GoSem.ClaimJoined
import GoSem.ClaimMapViews
import Derived.JoinedTies
import Derived.KernelRfl
namespace Go.Proofs.Ytepgmeinbililaa
/- THE CELL 'sum', in the pinned program and in every row, IS THE sha256 OF THE DUMP (.gsa) THAT YtepgmeinbililaaProg.lean LOADS. Nothing in Lean hashes anything: it is a label: what it is worth is what the hold of that sum in a sandbox is worth. -/
noncomputable def Try.pinned : Pinned := { name := "ytepgmeinbililaa", sum := "b0fbbdbcda32f55518311a2f25129069538aa8cbef381d02db41836dcc1ad350", checked := Try.checked }
namespace Rows
def none {H : Type} : Left H := { results := [], args := [] }

/-- 'orrerylaw01.GrainOrders': WHATEVER THE INPUT: true; the input reads as it did. -/
def grainOrdersSpec : ChangeSpec := { name := "grainOrders", fn := fun _ => fun
  | [d1, d2, d3] => { results := [.lit (.bool true)], args := [d1, d2, d3] }
  | _ => none }
def grainOrdersRow : OpenClaim := { program := "ytepgmeinbililaa", sum := "b0fbbdbcda32f55518311a2f25129069538aa8cbef381d02db41836dcc1ad350", func := "orrery/orrerylaw01.GrainOrders", spec := "grainOrders", inPlace := ["math.Float64bits", "math.Float64frombits", "math.Float32frombits", "math.Float32bits"], apart := false }
def GrainOrdersSaid : Prop := grainOrdersRow.holds Try.pinned (OpenSpec.ofChange grainOrdersSpec)

/-- ITS FALSE NEIGHBOUR: 'it returns false'. Refute it at one input. -/
def grainOrdersWrong : ChangeSpec := { name := "grainOrders", fn := fun _ => fun
  | [d1, d2, d3] => { results := [.lit (.bool false)], args := [d1, d2, d3] }
  | _ => none }
def GrainOrdersWrongFalsely : Prop := grainOrdersRow.holds Try.pinned (OpenSpec.ofChange grainOrdersWrong)

/-- 'orrerylaw01.GrainNearest': WHATEVER THE INPUT: true; the input reads as it did. -/
def grainNearestSpec : ChangeSpec := { name := "grainNearest", fn := fun _ => fun
  | [d1, d2] => { results := [.lit (.bool true)], args := [d1, d2] }
  | _ => none }
def grainNearestRow : OpenClaim := { program := "ytepgmeinbililaa", sum := "b0fbbdbcda32f55518311a2f25129069538aa8cbef381d02db41836dcc1ad350", func := "orrery/orrerylaw01.GrainNearest", spec := "grainNearest", inPlace := ["math.Float64bits", "math.Float64frombits", "math.Float32frombits", "math.Float32bits"], apart := false }
def GrainNearestSaid : Prop := grainNearestRow.holds Try.pinned (OpenSpec.ofChange grainNearestSpec)

/-- ITS FALSE NEIGHBOUR: 'it returns false'. Refute it at one input. -/
def grainNearestWrong : ChangeSpec := { name := "grainNearest", fn := fun _ => fun
  | [d1, d2] => { results := [.lit (.bool false)], args := [d1, d2] }
  | _ => none }
def GrainNearestWrongFalsely : Prop := grainNearestRow.holds Try.pinned (OpenSpec.ofChange grainNearestWrong)

/-- 'orrerylaw01.GrainBetween': WHATEVER THE INPUT: true; the input reads as it did. -/
def grainBetweenSpec : ChangeSpec := { name := "grainBetween", fn := fun _ => fun
  | [d1, d2] => { results := [.lit (.bool true)], args := [d1, d2] }
  | _ => none }
def grainBetweenRow : OpenClaim := { program := "ytepgmeinbililaa", sum := "b0fbbdbcda32f55518311a2f25129069538aa8cbef381d02db41836dcc1ad350", func := "orrery/orrerylaw01.GrainBetween", spec := "grainBetween", inPlace := ["math.Float64bits", "math.Float64frombits", "math.Float32frombits", "math.Float32bits"], apart := false }
def GrainBetweenSaid : Prop := grainBetweenRow.holds Try.pinned (OpenSpec.ofChange grainBetweenSpec)

/-- ITS FALSE NEIGHBOUR: 'it returns false'. Refute it at one input. -/
def grainBetweenWrong : ChangeSpec := { name := "grainBetween", fn := fun _ => fun
  | [d1, d2] => { results := [.lit (.bool false)], args := [d1, d2] }
  | _ => none }
def GrainBetweenWrongFalsely : Prop := grainBetweenRow.holds Try.pinned (OpenSpec.ofChange grainBetweenWrong)

/-- 'orrerylaw01.GrainNarrows': WHATEVER THE INPUT: true; the input reads as it did. -/
def grainNarrowsSpec : ChangeSpec := { name := "grainNarrows", fn := fun _ => fun
  | [d1, d2] => { results := [.lit (.bool true)], args := [d1, d2] }
  | _ => none }
def grainNarrowsRow : OpenClaim := { program := "ytepgmeinbililaa", sum := "b0fbbdbcda32f55518311a2f25129069538aa8cbef381d02db41836dcc1ad350", func := "orrery/orrerylaw01.GrainNarrows", spec := "grainNarrows", inPlace := ["math.Float64frombits", "math.Float32frombits", "math.Float64bits", "math.Float32bits"], apart := false }
def GrainNarrowsSaid : Prop := grainNarrowsRow.holds Try.pinned (OpenSpec.ofChange grainNarrowsSpec)

/-- ITS FALSE NEIGHBOUR: 'it returns false'. Refute it at one input. -/
def grainNarrowsWrong : ChangeSpec := { name := "grainNarrows", fn := fun _ => fun
  | [d1, d2] => { results := [.lit (.bool false)], args := [d1, d2] }
  | _ => none }
def GrainNarrowsWrongFalsely : Prop := grainNarrowsRow.holds Try.pinned (OpenSpec.ofChange grainNarrowsWrong)

/-- 'orrerylaw01.GrainBack': WHATEVER THE INPUT: true; the input reads as it did. -/
def grainBackSpec : ChangeSpec := { name := "grainBack", fn := fun _ => fun
  | [d1, d2] => { results := [.lit (.bool true)], args := [d1, d2] }
  | _ => none }
def grainBackRow : OpenClaim := { program := "ytepgmeinbililaa", sum := "b0fbbdbcda32f55518311a2f25129069538aa8cbef381d02db41836dcc1ad350", func := "orrery/orrerylaw01.GrainBack", spec := "grainBack", inPlace := ["math.Float64bits", "math.Float64frombits", "math.Float32frombits", "math.Float32bits"], apart := false }
def GrainBackSaid : Prop := grainBackRow.holds Try.pinned (OpenSpec.ofChange grainBackSpec)

/-- ITS FALSE NEIGHBOUR: 'it returns false'. Refute it at one input. -/
def grainBackWrong : ChangeSpec := { name := "grainBack", fn := fun _ => fun
  | [d1, d2] => { results := [.lit (.bool false)], args := [d1, d2] }
  | _ => none }
def GrainBackWrongFalsely : Prop := grainBackRow.holds Try.pinned (OpenSpec.ofChange grainBackWrong)

/-- 'orrerylaw01.GrainNeighbours': WHATEVER THE INPUT: true; the input reads as it did. -/
def grainNeighboursSpec : ChangeSpec := { name := "grainNeighbours", fn := fun _ => fun
  | [d] => { results := [.lit (.bool true)], args := [d] }
  | _ => none }
def grainNeighboursRow : OpenClaim := { program := "ytepgmeinbililaa", sum := "b0fbbdbcda32f55518311a2f25129069538aa8cbef381d02db41836dcc1ad350", func := "orrery/orrerylaw01.GrainNeighbours", spec := "grainNeighbours", inPlace := ["math.Float64frombits", "math.Float64bits", "math.Float32frombits", "math.Float32bits"], apart := false }
def GrainNeighboursSaid : Prop := grainNeighboursRow.holds Try.pinned (OpenSpec.ofChange grainNeighboursSpec)

/-- ITS FALSE NEIGHBOUR: 'it returns false'. Refute it at one input. -/
def grainNeighboursWrong : ChangeSpec := { name := "grainNeighbours", fn := fun _ => fun
  | [d] => { results := [.lit (.bool false)], args := [d] }
  | _ => none }
def GrainNeighboursWrongFalsely : Prop := grainNeighboursRow.holds Try.pinned (OpenSpec.ofChange grainNeighboursWrong)

/-- 'orrerylaw01.GrainKinds': WHATEVER THE INPUT: true; the input reads as it did. -/
def grainKindsSpec : ChangeSpec := { name := "grainKinds", fn := fun _ => fun
  | [d1, d2] => { results := [.lit (.bool true)], args := [d1, d2] }
  | _ => none }
def grainKindsRow : OpenClaim := { program := "ytepgmeinbililaa", sum := "b0fbbdbcda32f55518311a2f25129069538aa8cbef381d02db41836dcc1ad350", func := "orrery/orrerylaw01.GrainKinds", spec := "grainKinds", inPlace := ["math.Float64frombits", "math.Float32frombits", "math.Float64bits", "math.Float32bits"], apart := false }
def GrainKindsSaid : Prop := grainKindsRow.holds Try.pinned (OpenSpec.ofChange grainKindsSpec)

/-- ITS FALSE NEIGHBOUR: 'it returns false'. Refute it at one input. -/
def grainKindsWrong : ChangeSpec := { name := "grainKinds", fn := fun _ => fun
  | [d1, d2] => { results := [.lit (.bool false)], args := [d1, d2] }
  | _ => none }
def GrainKindsWrongFalsely : Prop := grainKindsRow.holds Try.pinned (OpenSpec.ofChange grainKindsWrong)

/- THE SECOND FORM. 'bulk': how many values and letters a reading holds, each counted each time it is reached (what is shared counts as often as it is met; a slice's spare places count too). A statement '..UptoSaid' is the law's where the arguments, and the package variables that the reading takes, are together of bulk at most 1048576: NARROWER than '..Said'. Prove '..Said' where nothing that the law and all that it calls make is longer than what came in: it says more and counts as full. Else prove '..UptoSaid'. A law counts once. -/
mutual
def uptoBulk {H : Type} : DataW H → Nat
  | .lit (.string bytes) => bytes.length + 1
  | .lit _ => 1
  | .nil => 1
  | .ptr d => uptoBulk d + 1
  | .slice elems spare => uptoBulkAll elems + uptoBulkAll spare + 1
  | .agg parts => uptoBulkAll parts + 1
  | .iface _ d => uptoBulk d + 1
  | .map entries => uptoBulkEntries entries + 1
  | .held _ => 1
def uptoBulkAll {H : Type} : List (DataW H) → Nat
  | [] => 0
  | d :: r => uptoBulk d + uptoBulkAll r
def uptoBulkEntries {H : Type} : List (Lit × DataW H) → Nat
  | [] => 0
  | x :: r => uptoBulkEntry x + uptoBulkEntries r
def uptoBulkEntry {H : Type} : Lit × DataW H → Nat
  | (.string bytes, d) => bytes.length + uptoBulk d + 1
  | (_, d) => uptoBulk d + 1
 end
def uptoSmall : (H : Type) → List (DataW H) → Bool := fun _ ds => decide (uptoBulkAll ds ≤ 1048576)
def OpenSpec.upto (s : _root_.Go.ChangeSpec) : _root_.Go.OpenSpec := { _root_.Go.OpenSpec.ofChange s with cond := some uptoSmall }

/-- 'orrerylaw01.GrainOrders', WHERE WHAT IT READS IS OF BULK AT MOST 1048576: true; the input reads as it did. -/
def grainOrdersUptoRow : OpenClaim := { program := "ytepgmeinbililaa", sum := "b0fbbdbcda32f55518311a2f25129069538aa8cbef381d02db41836dcc1ad350", func := "orrery/orrerylaw01.GrainOrders", spec := "grainOrders", inPlace := ["math.Float64bits", "math.Float64frombits", "math.Float32frombits", "math.Float32bits"], apart := false, narrowed := true }
def GrainOrdersUptoSaid : Prop := grainOrdersUptoRow.holds Try.pinned (OpenSpec.upto grainOrdersSpec)

/-- 'orrerylaw01.GrainNearest', WHERE WHAT IT READS IS OF BULK AT MOST 1048576: true; the input reads as it did. -/
def grainNearestUptoRow : OpenClaim := { program := "ytepgmeinbililaa", sum := "b0fbbdbcda32f55518311a2f25129069538aa8cbef381d02db41836dcc1ad350", func := "orrery/orrerylaw01.GrainNearest", spec := "grainNearest", inPlace := ["math.Float64bits", "math.Float64frombits", "math.Float32frombits", "math.Float32bits"], apart := false, narrowed := true }
def GrainNearestUptoSaid : Prop := grainNearestUptoRow.holds Try.pinned (OpenSpec.upto grainNearestSpec)

/-- 'orrerylaw01.GrainBetween', WHERE WHAT IT READS IS OF BULK AT MOST 1048576: true; the input reads as it did. -/
def grainBetweenUptoRow : OpenClaim := { program := "ytepgmeinbililaa", sum := "b0fbbdbcda32f55518311a2f25129069538aa8cbef381d02db41836dcc1ad350", func := "orrery/orrerylaw01.GrainBetween", spec := "grainBetween", inPlace := ["math.Float64bits", "math.Float64frombits", "math.Float32frombits", "math.Float32bits"], apart := false, narrowed := true }
def GrainBetweenUptoSaid : Prop := grainBetweenUptoRow.holds Try.pinned (OpenSpec.upto grainBetweenSpec)

/-- 'orrerylaw01.GrainNarrows', WHERE WHAT IT READS IS OF BULK AT MOST 1048576: true; the input reads as it did. -/
def grainNarrowsUptoRow : OpenClaim := { program := "ytepgmeinbililaa", sum := "b0fbbdbcda32f55518311a2f25129069538aa8cbef381d02db41836dcc1ad350", func := "orrery/orrerylaw01.GrainNarrows", spec := "grainNarrows", inPlace := ["math.Float64frombits", "math.Float32frombits", "math.Float64bits", "math.Float32bits"], apart := false, narrowed := true }
def GrainNarrowsUptoSaid : Prop := grainNarrowsUptoRow.holds Try.pinned (OpenSpec.upto grainNarrowsSpec)

/-- 'orrerylaw01.GrainBack', WHERE WHAT IT READS IS OF BULK AT MOST 1048576: true; the input reads as it did. -/
def grainBackUptoRow : OpenClaim := { program := "ytepgmeinbililaa", sum := "b0fbbdbcda32f55518311a2f25129069538aa8cbef381d02db41836dcc1ad350", func := "orrery/orrerylaw01.GrainBack", spec := "grainBack", inPlace := ["math.Float64bits", "math.Float64frombits", "math.Float32frombits", "math.Float32bits"], apart := false, narrowed := true }
def GrainBackUptoSaid : Prop := grainBackUptoRow.holds Try.pinned (OpenSpec.upto grainBackSpec)

/-- 'orrerylaw01.GrainNeighbours', WHERE WHAT IT READS IS OF BULK AT MOST 1048576: true; the input reads as it did. -/
def grainNeighboursUptoRow : OpenClaim := { program := "ytepgmeinbililaa", sum := "b0fbbdbcda32f55518311a2f25129069538aa8cbef381d02db41836dcc1ad350", func := "orrery/orrerylaw01.GrainNeighbours", spec := "grainNeighbours", inPlace := ["math.Float64frombits", "math.Float64bits", "math.Float32frombits", "math.Float32bits"], apart := false, narrowed := true }
def GrainNeighboursUptoSaid : Prop := grainNeighboursUptoRow.holds Try.pinned (OpenSpec.upto grainNeighboursSpec)

/-- 'orrerylaw01.GrainKinds', WHERE WHAT IT READS IS OF BULK AT MOST 1048576: true; the input reads as it did. -/
def grainKindsUptoRow : OpenClaim := { program := "ytepgmeinbililaa", sum := "b0fbbdbcda32f55518311a2f25129069538aa8cbef381d02db41836dcc1ad350", func := "orrery/orrerylaw01.GrainKinds", spec := "grainKinds", inPlace := ["math.Float64frombits", "math.Float32frombits", "math.Float64bits", "math.Float32bits"], apart := false, narrowed := true }
def GrainKindsUptoSaid : Prop := grainKindsUptoRow.holds Try.pinned (OpenSpec.upto grainKindsSpec)

end Rows
end Go.Proofs.Ytepgmeinbililaa
