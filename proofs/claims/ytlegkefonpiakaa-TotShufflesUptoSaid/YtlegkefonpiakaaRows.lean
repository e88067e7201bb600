/-
  No cell of these rows narrows 'for every input' (looked for: loops, veiled, ifaces, maps, wideKeys, modest, calm, conditions, laid).
  DERIVED. THE GIVEN ROWS OF THIS SEAT. 5 by the template 'for every input the law returns true; each argument reads behind the call as it read before'; 0 by the template 'total and deterministic' (their statements: YtlegkefonpiakaaTotals.lean).
  GIVEN WITH THE SEED: the statements are not yours to turn. If you find one false, say at which input.
  Laid BY PROGRAM, IN A SANDBOX (cutbox-rows.mjs): the forced cells as the released guide's own fill.sh prints them over the translation b6b847c7c56a5efc… (all of the seat's roots in one cut). By AI agents, Wed Nov 11 2026. No macro, syntax, notation, axiom, sorry.
-/
import Derived.Test.YtlegkefonpiakaaChecked
import GoSem.Claim
import GoSem.ClaimJoined
import GoSem.ClaimMapViews
import Derived.JoinedTies
import Derived.KernelRfl
namespace Go.Proofs.Ytlegkefonpiakaa
/- THE CELL 'sum', in the pinned program and in every row, IS THE sha256 OF THE DUMP (.gsa) THAT YtlegkefonpiakaaProg.lean LOADS. Nothing in Lean hashes anything: it is a label: what it is worth is what the hold of that sum in a sandbox is worth. -/
noncomputable def Try.pinned : Pinned := { name := "ytlegkefonpiakaa", sum := "b6b847c7c56a5efc94b04320fa32338474b7b6b45d01665c3484516dc5886748", checked := Try.checked }
namespace Rows
def none {H : Type} : Left H := { results := [], args := [] }

/-- 'orrerylaw03.TotParts': WHATEVER THE INPUT: true; the input reads as it did. -/
def totPartsSpec : ChangeSpec := { name := "totParts", fn := fun _ => fun
  | [d1, d2, d3] => { results := [.lit (.bool true)], args := [d1, d2, d3] }
  | _ => none }
def totPartsRow : OpenClaim := { program := "ytlegkefonpiakaa", sum := "b6b847c7c56a5efc94b04320fa32338474b7b6b45d01665c3484516dc5886748", func := "orrery/orrerylaw03.TotParts", spec := "totParts", inPlace := ["math.Float64bits", "math.Float64frombits"], apart := false }
def TotPartsSaid : Prop := totPartsRow.holds Try.pinned (OpenSpec.ofChange totPartsSpec)

/-- ITS FALSE NEIGHBOUR: 'it returns false'. Refute it at one input. -/
def totPartsWrong : ChangeSpec := { name := "totParts", fn := fun _ => fun
  | [d1, d2, d3] => { results := [.lit (.bool false)], args := [d1, d2, d3] }
  | _ => none }
def TotPartsWrongFalsely : Prop := totPartsRow.holds Try.pinned (OpenSpec.ofChange totPartsWrong)

/-- 'orrerylaw03.TotDots': WHATEVER THE INPUT: true; the input reads as it did. -/
def totDotsSpec : ChangeSpec := { name := "totDots", fn := fun _ => fun
  | [d1, d2] => { results := [.lit (.bool true)], args := [d1, d2] }
  | _ => none }
def totDotsRow : OpenClaim := { program := "ytlegkefonpiakaa", sum := "b6b847c7c56a5efc94b04320fa32338474b7b6b45d01665c3484516dc5886748", func := "orrery/orrerylaw03.TotDots", spec := "totDots", inPlace := ["math.Float64bits", "math.Float64frombits", "math/bits.Sub64", "math/bits.Add64"], apart := false }
def TotDotsSaid : Prop := totDotsRow.holds Try.pinned (OpenSpec.ofChange totDotsSpec)

/-- ITS FALSE NEIGHBOUR: 'it returns false'. Refute it at one input. -/
def totDotsWrong : ChangeSpec := { name := "totDots", fn := fun _ => fun
  | [d1, d2] => { results := [.lit (.bool false)], args := [d1, d2] }
  | _ => none }
def TotDotsWrongFalsely : Prop := totDotsRow.holds Try.pinned (OpenSpec.ofChange totDotsWrong)

/-- 'orrerylaw03.TotShuffles': WHATEVER THE INPUT: true; the input reads as it did. -/
def totShufflesSpec : ChangeSpec := { name := "totShuffles", fn := fun _ => fun
  | [d1, d2, d3] => { results := [.lit (.bool true)], args := [d1, d2, d3] }
  | _ => none }
def totShufflesRow : OpenClaim := { program := "ytlegkefonpiakaa", sum := "b6b847c7c56a5efc94b04320fa32338474b7b6b45d01665c3484516dc5886748", func := "orrery/orrerylaw03.TotShuffles", spec := "totShuffles", inPlace := ["math.Float64bits", "math.Float64frombits"], apart := false }
def TotShufflesSaid : Prop := totShufflesRow.holds Try.pinned (OpenSpec.ofChange totShufflesSpec)

/-- ITS FALSE NEIGHBOUR: 'it returns false'. Refute it at one input. -/
def totShufflesWrong : ChangeSpec := { name := "totShuffles", fn := fun _ => fun
  | [d1, d2, d3] => { results := [.lit (.bool false)], args := [d1, d2, d3] }
  | _ => none }
def TotShufflesWrongFalsely : Prop := totShufflesRow.holds Try.pinned (OpenSpec.ofChange totShufflesWrong)

/-- 'orrerylaw03.TotSigns': WHATEVER THE INPUT: true; the input reads as it did. -/
def totSignsSpec : ChangeSpec := { name := "totSigns", fn := fun _ => fun
  | [d1, d2] => { results := [.lit (.bool true)], args := [d1, d2] }
  | _ => none }
def totSignsRow : OpenClaim := { program := "ytlegkefonpiakaa", sum := "b6b847c7c56a5efc94b04320fa32338474b7b6b45d01665c3484516dc5886748", func := "orrery/orrerylaw03.TotSigns", spec := "totSigns", inPlace := ["math.Float64bits", "math.Float64frombits"], apart := false }
def TotSignsSaid : Prop := totSignsRow.holds Try.pinned (OpenSpec.ofChange totSignsSpec)

/-- ITS FALSE NEIGHBOUR: 'it returns false'. Refute it at one input. -/
def totSignsWrong : ChangeSpec := { name := "totSigns", fn := fun _ => fun
  | [d1, d2] => { results := [.lit (.bool false)], args := [d1, d2] }
  | _ => none }
def TotSignsWrongFalsely : Prop := totSignsRow.holds Try.pinned (OpenSpec.ofChange totSignsWrong)

/-- 'orrerylaw03.TotExact': WHATEVER THE INPUT: true; the input reads as it did. -/
def totExactSpec : ChangeSpec := { name := "totExact", fn := fun _ => fun
  | [d] => { results := [.lit (.bool true)], args := [d] }
  | _ => none }
def totExactRow : OpenClaim := { program := "ytlegkefonpiakaa", sum := "b6b847c7c56a5efc94b04320fa32338474b7b6b45d01665c3484516dc5886748", func := "orrery/orrerylaw03.TotExact", spec := "totExact", inPlace := ["math.Float64bits", "math.Float64frombits", "math/bits.Sub64", "math/bits.Add64"], apart := false }
def TotExactSaid : Prop := totExactRow.holds Try.pinned (OpenSpec.ofChange totExactSpec)

/-- ITS FALSE NEIGHBOUR: 'it returns false'. Refute it at one input. -/
def totExactWrong : ChangeSpec := { name := "totExact", fn := fun _ => fun
  | [d] => { results := [.lit (.bool false)], args := [d] }
  | _ => none }
def TotExactWrongFalsely : Prop := totExactRow.holds Try.pinned (OpenSpec.ofChange totExactWrong)

/- THE SECOND FORM. 'bulk': how many values and letters a reading holds, each counted each time it is reached (what is shared counts as often as it is met; a slice's spare places count too). A statement '..UptoSaid' is the law's where the arguments, and the package variables that the reading takes, are together of bulk at most 1048576: NARROWER than '..Said'. Prove '..Said' where nothing that the law and all that it calls make is longer than what came in: it says more and counts as full. Else prove '..UptoSaid'. A law counts once. -/
mutual
def uptoBulk {H : Type} : DataW H → Nat
  | .lit (.string bytes) => bytes.length + 1
  | .lit _ => 1
  | .nil => 1
  | .ptr d => uptoBulk d + 1
  | .slice elems spare => uptoBulkAll elems + uptoBulkAll spare + 1
  | .agg parts => uptoBulkAll parts + 1
  | .iface _ d => uptoBulk d + 1
  | .map entries => uptoBulkEntries entries + 1
  | .held _ => 1
def uptoBulkAll {H : Type} : List (DataW H) → Nat
  | [] => 0
  | d :: r => uptoBulk d + uptoBulkAll r
def uptoBulkEntries {H : Type} : List (Lit × DataW H) → Nat
  | [] => 0
  | x :: r => uptoBulkEntry x + uptoBulkEntries r
def uptoBulkEntry {H : Type} : Lit × DataW H → Nat
  | (.string bytes, d) => bytes.length + uptoBulk d + 1
  | (_, d) => uptoBulk d + 1
 end
def uptoSmall : (H : Type) → List (DataW H) → Bool := fun _ ds => decide (uptoBulkAll ds ≤ 1048576)
def OpenSpec.upto (s : _root_.Go.ChangeSpec) : _root_.Go.OpenSpec := { _root_.Go.OpenSpec.ofChange s with cond := some uptoSmall }

/-- 'orrerylaw03.TotParts', WHERE WHAT IT READS IS OF BULK AT MOST 1048576: true; the input reads as it did. -/
def totPartsUptoRow : OpenClaim := { program := "ytlegkefonpiakaa", sum := "b6b847c7c56a5efc94b04320fa32338474b7b6b45d01665c3484516dc5886748", func := "orrery/orrerylaw03.TotParts", spec := "totParts", inPlace := ["math.Float64bits", "math.Float64frombits"], apart := false, narrowed := true }
def TotPartsUptoSaid : Prop := totPartsUptoRow.holds Try.pinned (OpenSpec.upto totPartsSpec)

/-- 'orrerylaw03.TotDots', WHERE WHAT IT READS IS OF BULK AT MOST 1048576: true; the input reads as it did. -/
def totDotsUptoRow : OpenClaim := { program := "ytlegkefonpiakaa", sum := "b6b847c7c56a5efc94b04320fa32338474b7b6b45d01665c3484516dc5886748", func := "orrery/orrerylaw03.TotDots", spec := "totDots", inPlace := ["math.Float64bits", "math.Float64frombits", "math/bits.Sub64", "math/bits.Add64"], apart := false, narrowed := true }
def TotDotsUptoSaid : Prop := totDotsUptoRow.holds Try.pinned (OpenSpec.upto totDotsSpec)

/-- 'orrerylaw03.TotShuffles', WHERE WHAT IT READS IS OF BULK AT MOST 1048576: true; the input reads as it did. -/
def totShufflesUptoRow : OpenClaim := { program := "ytlegkefonpiakaa", sum := "b6b847c7c56a5efc94b04320fa32338474b7b6b45d01665c3484516dc5886748", func := "orrery/orrerylaw03.TotShuffles", spec := "totShuffles", inPlace := ["math.Float64bits", "math.Float64frombits"], apart := false, narrowed := true }
def TotShufflesUptoSaid : Prop := totShufflesUptoRow.holds Try.pinned (OpenSpec.upto totShufflesSpec)

/-- 'orrerylaw03.TotSigns', WHERE WHAT IT READS IS OF BULK AT MOST 1048576: true; the input reads as it did. -/
def totSignsUptoRow : OpenClaim := { program := "ytlegkefonpiakaa", sum := "b6b847c7c56a5efc94b04320fa32338474b7b6b45d01665c3484516dc5886748", func := "orrery/orrerylaw03.TotSigns", spec := "totSigns", inPlace := ["math.Float64bits", "math.Float64frombits"], apart := false, narrowed := true }
def TotSignsUptoSaid : Prop := totSignsUptoRow.holds Try.pinned (OpenSpec.upto totSignsSpec)

/-- 'orrerylaw03.TotExact', WHERE WHAT IT READS IS OF BULK AT MOST 1048576: true; the input reads as it did. -/
def totExactUptoRow : OpenClaim := { program := "ytlegkefonpiakaa", sum := "b6b847c7c56a5efc94b04320fa32338474b7b6b45d01665c3484516dc5886748", func := "orrery/orrerylaw03.TotExact", spec := "totExact", inPlace := ["math.Float64bits", "math.Float64frombits", "math/bits.Sub64", "math/bits.Add64"], apart := false, narrowed := true }
def TotExactUptoSaid : Prop := totExactUptoRow.holds Try.pinned (OpenSpec.upto totExactSpec)

end Rows
end Go.Proofs.Ytlegkefonpiakaa
