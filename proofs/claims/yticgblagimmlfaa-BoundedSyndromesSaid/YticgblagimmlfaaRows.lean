/-
  No cell of these rows narrows 'for every input' (looked for: loops, veiled, ifaces, maps, wideKeys, modest, calm, conditions, laid).
  DERIVED. THE GIVEN ROWS OF THIS SEAT. 8 by the template 'for every input the law returns true; each argument reads behind the call as it read before'; 0 by the template 'total and deterministic' (their statements: YticgblagimmlfaaTotals.lean).
  GIVEN WITH THE SEED: the statements are not yours to turn. If you find one false, say at which input.
  Laid BY PROGRAM, IN A SANDBOX (cutbox-rows.mjs): the forced cells as the released guide's own fill.sh prints them over the translation 5be02ac71b4d4971… (all of the seat's roots in one cut). By AI agents, Wed Nov 11 2026. No macro, syntax, notation, axiom, sorry.
-/
import Derived.Test.YticgblagimmlfaaChecked
import GoSem.Claim
import GoSem.ClaimJoined
import GoSem.ClaimMapViews
import Derived.JoinedTies
import Derived.KernelRfl
namespace Go.Proofs.Yticgblagimmlfaa
/- THE CELL 'sum', in the pinned program and in every row, IS THE sha256 OF THE DUMP (.gsa) THAT YticgblagimmlfaaProg.lean LOADS. Nothing in Lean hashes anything: it is a label: what it is worth is what the hold of that sum in a sandbox is worth. -/
noncomputable def Try.pinned : Pinned := { name := "yticgblagimmlfaa", sum := "5be02ac71b4d497155d407f9d3e57877f2386b9a636f045d2739fcba73b93b99", checked := Try.checked }
namespace Rows
def none {H : Type} : Left H := { results := [], args := [] }

/-- 'codewrightlaw39.BoundedRadius': WHATEVER THE INPUT: true; the input reads as it did. -/
def boundedRadiusSpec : ChangeSpec := { name := "boundedRadius", fn := fun _ => fun
  | [d1, d2] => { results := [.lit (.bool true)], args := [d1, d2] }
  | _ => none }
def boundedRadiusRow : OpenClaim := { program := "yticgblagimmlfaa", sum := "5be02ac71b4d497155d407f9d3e57877f2386b9a636f045d2739fcba73b93b99", func := "codewright/codewrightlaw39.BoundedRadius", spec := "boundedRadius", apart := false }
def BoundedRadiusSaid : Prop := boundedRadiusRow.holds Try.pinned (OpenSpec.ofChange boundedRadiusSpec)

/-- ITS FALSE NEIGHBOUR: 'it returns false'. Refute it at one input. -/
def boundedRadiusWrong : ChangeSpec := { name := "boundedRadius", fn := fun _ => fun
  | [d1, d2] => { results := [.lit (.bool false)], args := [d1, d2] }
  | _ => none }
def BoundedRadiusWrongFalsely : Prop := boundedRadiusRow.holds Try.pinned (OpenSpec.ofChange boundedRadiusWrong)

/-- 'codewrightlaw39.BoundedHonest': WHATEVER THE INPUT: true; the input reads as it did. -/
def boundedHonestSpec : ChangeSpec := { name := "boundedHonest", fn := fun _ => fun
  | [d1, d2] => { results := [.lit (.bool true)], args := [d1, d2] }
  | _ => none }
def boundedHonestRow : OpenClaim := { program := "yticgblagimmlfaa", sum := "5be02ac71b4d497155d407f9d3e57877f2386b9a636f045d2739fcba73b93b99", func := "codewright/codewrightlaw39.BoundedHonest", spec := "boundedHonest", apart := false }
def BoundedHonestSaid : Prop := boundedHonestRow.holds Try.pinned (OpenSpec.ofChange boundedHonestSpec)

/-- ITS FALSE NEIGHBOUR: 'it returns false'. Refute it at one input. -/
def boundedHonestWrong : ChangeSpec := { name := "boundedHonest", fn := fun _ => fun
  | [d1, d2] => { results := [.lit (.bool false)], args := [d1, d2] }
  | _ => none }
def BoundedHonestWrongFalsely : Prop := boundedHonestRow.holds Try.pinned (OpenSpec.ofChange boundedHonestWrong)

/-- 'codewrightlaw39.BoundedCorrects': WHATEVER THE INPUT: true; the input reads as it did. -/
def boundedCorrectsSpec : ChangeSpec := { name := "boundedCorrects", fn := fun _ => fun
  | [d1, d2, d3] => { results := [.lit (.bool true)], args := [d1, d2, d3] }
  | _ => none }
def boundedCorrectsRow : OpenClaim := { program := "yticgblagimmlfaa", sum := "5be02ac71b4d497155d407f9d3e57877f2386b9a636f045d2739fcba73b93b99", func := "codewright/codewrightlaw39.BoundedCorrects", spec := "boundedCorrects", apart := false }
def BoundedCorrectsSaid : Prop := boundedCorrectsRow.holds Try.pinned (OpenSpec.ofChange boundedCorrectsSpec)

/-- ITS FALSE NEIGHBOUR: 'it returns false'. Refute it at one input. -/
def boundedCorrectsWrong : ChangeSpec := { name := "boundedCorrects", fn := fun _ => fun
  | [d1, d2, d3] => { results := [.lit (.bool false)], args := [d1, d2, d3] }
  | _ => none }
def BoundedCorrectsWrongFalsely : Prop := boundedCorrectsRow.holds Try.pinned (OpenSpec.ofChange boundedCorrectsWrong)

/-- 'codewrightlaw39.BoundedShifts': WHATEVER THE INPUT: true; the input reads as it did. -/
def boundedShiftsSpec : ChangeSpec := { name := "boundedShifts", fn := fun _ => fun
  | [d1, d2, d3] => { results := [.lit (.bool true)], args := [d1, d2, d3] }
  | _ => none }
def boundedShiftsRow : OpenClaim := { program := "yticgblagimmlfaa", sum := "5be02ac71b4d497155d407f9d3e57877f2386b9a636f045d2739fcba73b93b99", func := "codewright/codewrightlaw39.BoundedShifts", spec := "boundedShifts", apart := false }
def BoundedShiftsSaid : Prop := boundedShiftsRow.holds Try.pinned (OpenSpec.ofChange boundedShiftsSpec)

/-- ITS FALSE NEIGHBOUR: 'it returns false'. Refute it at one input. -/
def boundedShiftsWrong : ChangeSpec := { name := "boundedShifts", fn := fun _ => fun
  | [d1, d2, d3] => { results := [.lit (.bool false)], args := [d1, d2, d3] }
  | _ => none }
def BoundedShiftsWrongFalsely : Prop := boundedShiftsRow.holds Try.pinned (OpenSpec.ofChange boundedShiftsWrong)

/-- 'codewrightlaw39.BoundedErased': WHATEVER THE INPUT: true; the input reads as it did. -/
def boundedErasedSpec : ChangeSpec := { name := "boundedErased", fn := fun _ => fun
  | [d1, d2, d3] => { results := [.lit (.bool true)], args := [d1, d2, d3] }
  | _ => none }
def boundedErasedRow : OpenClaim := { program := "yticgblagimmlfaa", sum := "5be02ac71b4d497155d407f9d3e57877f2386b9a636f045d2739fcba73b93b99", func := "codewright/codewrightlaw39.BoundedErased", spec := "boundedErased", apart := false }
def BoundedErasedSaid : Prop := boundedErasedRow.holds Try.pinned (OpenSpec.ofChange boundedErasedSpec)

/-- ITS FALSE NEIGHBOUR: 'it returns false'. Refute it at one input. -/
def boundedErasedWrong : ChangeSpec := { name := "boundedErased", fn := fun _ => fun
  | [d1, d2, d3] => { results := [.lit (.bool false)], args := [d1, d2, d3] }
  | _ => none }
def BoundedErasedWrongFalsely : Prop := boundedErasedRow.holds Try.pinned (OpenSpec.ofChange boundedErasedWrong)

/-- 'codewrightlaw39.BoundedSyndromes': WHATEVER THE INPUT: true; the input reads as it did. -/
def boundedSyndromesSpec : ChangeSpec := { name := "boundedSyndromes", fn := fun _ => fun
  | [d1, d2] => { results := [.lit (.bool true)], args := [d1, d2] }
  | _ => none }
def boundedSyndromesRow : OpenClaim := { program := "yticgblagimmlfaa", sum := "5be02ac71b4d497155d407f9d3e57877f2386b9a636f045d2739fcba73b93b99", func := "codewright/codewrightlaw39.BoundedSyndromes", spec := "boundedSyndromes", apart := false }
def BoundedSyndromesSaid : Prop := boundedSyndromesRow.holds Try.pinned (OpenSpec.ofChange boundedSyndromesSpec)

/-- ITS FALSE NEIGHBOUR: 'it returns false'. Refute it at one input. -/
def boundedSyndromesWrong : ChangeSpec := { name := "boundedSyndromes", fn := fun _ => fun
  | [d1, d2] => { results := [.lit (.bool false)], args := [d1, d2] }
  | _ => none }
def BoundedSyndromesWrongFalsely : Prop := boundedSyndromesRow.holds Try.pinned (OpenSpec.ofChange boundedSyndromesWrong)

/-- 'codewrightlaw19.AlternantGoppaChecks': WHATEVER THE INPUT: true; the input reads as it did. -/
def alternantGoppaChecksSpec : ChangeSpec := { name := "alternantGoppaChecks", fn := fun _ => fun
  | [d] => { results := [.lit (.bool true)], args := [d] }
  | _ => none }
def alternantGoppaChecksRow : OpenClaim := { program := "yticgblagimmlfaa", sum := "5be02ac71b4d497155d407f9d3e57877f2386b9a636f045d2739fcba73b93b99", func := "codewright/codewrightlaw19.AlternantGoppaChecks", spec := "alternantGoppaChecks", unfollowed := true, recurses := true, apart := false }
def AlternantGoppaChecksSaid : Prop := alternantGoppaChecksRow.holds Try.pinned (OpenSpec.ofChange alternantGoppaChecksSpec)

/-- ITS FALSE NEIGHBOUR: 'it returns false'. Refute it at one input. -/
def alternantGoppaChecksWrong : ChangeSpec := { name := "alternantGoppaChecks", fn := fun _ => fun
  | [d] => { results := [.lit (.bool false)], args := [d] }
  | _ => none }
def AlternantGoppaChecksWrongFalsely : Prop := alternantGoppaChecksRow.holds Try.pinned (OpenSpec.ofChange alternantGoppaChecksWrong)

/-- 'codewrightlaw19.AlternantDimension': WHATEVER THE INPUT: true; the input reads as it did. -/
def alternantDimensionSpec : ChangeSpec := { name := "alternantDimension", fn := fun _ => fun
  | [d1, d2] => { results := [.lit (.bool true)], args := [d1, d2] }
  | _ => none }
def alternantDimensionRow : OpenClaim := { program := "yticgblagimmlfaa", sum := "5be02ac71b4d497155d407f9d3e57877f2386b9a636f045d2739fcba73b93b99", func := "codewright/codewrightlaw19.AlternantDimension", spec := "alternantDimension", unfollowed := true, recurses := true, apart := false }
def AlternantDimensionSaid : Prop := alternantDimensionRow.holds Try.pinned (OpenSpec.ofChange alternantDimensionSpec)

/-- ITS FALSE NEIGHBOUR: 'it returns false'. Refute it at one input. -/
def alternantDimensionWrong : ChangeSpec := { name := "alternantDimension", fn := fun _ => fun
  | [d1, d2] => { results := [.lit (.bool false)], args := [d1, d2] }
  | _ => none }
def AlternantDimensionWrongFalsely : Prop := alternantDimensionRow.holds Try.pinned (OpenSpec.ofChange alternantDimensionWrong)

/- THE SECOND FORM. 'bulk': how many values and letters a reading holds, each counted each time it is reached (what is shared counts as often as it is met; a slice's spare places count too). A statement '..UptoSaid' is the law's where the arguments, and the package variables that the reading takes, are together of bulk at most 1048576: NARROWER than '..Said'. Prove '..Said' where nothing that the law and all that it calls make is longer than what came in: it says more and counts as full. Else prove '..UptoSaid'. A law counts once. -/
mutual
def uptoBulk {H : Type} : DataW H → Nat
  | .lit (.string bytes) => bytes.length + 1
  | .lit _ => 1
  | .nil => 1
  | .ptr d => uptoBulk d + 1
  | .slice elems spare => uptoBulkAll elems + uptoBulkAll spare + 1
  | .agg parts => uptoBulkAll parts + 1
  | .iface _ d => uptoBulk d + 1
  | .map entries => uptoBulkEntries entries + 1
  | .held _ => 1
def uptoBulkAll {H : Type} : List (DataW H) → Nat
  | [] => 0
  | d :: r => uptoBulk d + uptoBulkAll r
def uptoBulkEntries {H : Type} : List (Lit × DataW H) → Nat
  | [] => 0
  | x :: r => uptoBulkEntry x + uptoBulkEntries r
def uptoBulkEntry {H : Type} : Lit × DataW H → Nat
  | (.string bytes, d) => bytes.length + uptoBulk d + 1
  | (_, d) => uptoBulk d + 1
 end
def uptoSmall : (H : Type) → List (DataW H) → Bool := fun _ ds => decide (uptoBulkAll ds ≤ 1048576)
def OpenSpec.upto (s : _root_.Go.ChangeSpec) : _root_.Go.OpenSpec := { _root_.Go.OpenSpec.ofChange s with cond := some uptoSmall }

/-- 'codewrightlaw39.BoundedRadius', WHERE WHAT IT READS IS OF BULK AT MOST 1048576: true; the input reads as it did. -/
def boundedRadiusUptoRow : OpenClaim := { program := "yticgblagimmlfaa", sum := "5be02ac71b4d497155d407f9d3e57877f2386b9a636f045d2739fcba73b93b99", func := "codewright/codewrightlaw39.BoundedRadius", spec := "boundedRadius", apart := false, narrowed := true }
def BoundedRadiusUptoSaid : Prop := boundedRadiusUptoRow.holds Try.pinned (OpenSpec.upto boundedRadiusSpec)

/-- 'codewrightlaw39.BoundedHonest', WHERE WHAT IT READS IS OF BULK AT MOST 1048576: true; the input reads as it did. -/
def boundedHonestUptoRow : OpenClaim := { program := "yticgblagimmlfaa", sum := "5be02ac71b4d497155d407f9d3e57877f2386b9a636f045d2739fcba73b93b99", func := "codewright/codewrightlaw39.BoundedHonest", spec := "boundedHonest", apart := false, narrowed := true }
def BoundedHonestUptoSaid : Prop := boundedHonestUptoRow.holds Try.pinned (OpenSpec.upto boundedHonestSpec)

/-- 'codewrightlaw39.BoundedCorrects', WHERE WHAT IT READS IS OF BULK AT MOST 1048576: true; the input reads as it did. -/
def boundedCorrectsUptoRow : OpenClaim := { program := "yticgblagimmlfaa", sum := "5be02ac71b4d497155d407f9d3e57877f2386b9a636f045d2739fcba73b93b99", func := "codewright/codewrightlaw39.BoundedCorrects", spec := "boundedCorrects", apart := false, narrowed := true }
def BoundedCorrectsUptoSaid : Prop := boundedCorrectsUptoRow.holds Try.pinned (OpenSpec.upto boundedCorrectsSpec)

/-- 'codewrightlaw39.BoundedShifts', WHERE WHAT IT READS IS OF BULK AT MOST 1048576: true; the input reads as it did. -/
def boundedShiftsUptoRow : OpenClaim := { program := "yticgblagimmlfaa", sum := "5be02ac71b4d497155d407f9d3e57877f2386b9a636f045d2739fcba73b93b99", func := "codewright/codewrightlaw39.BoundedShifts", spec := "boundedShifts", apart := false, narrowed := true }
def BoundedShiftsUptoSaid : Prop := boundedShiftsUptoRow.holds Try.pinned (OpenSpec.upto boundedShiftsSpec)

/-- 'codewrightlaw39.BoundedErased', WHERE WHAT IT READS IS OF BULK AT MOST 1048576: true; the input reads as it did. -/
def boundedErasedUptoRow : OpenClaim := { program := "yticgblagimmlfaa", sum := "5be02ac71b4d497155d407f9d3e57877f2386b9a636f045d2739fcba73b93b99", func := "codewright/codewrightlaw39.BoundedErased", spec := "boundedErased", apart := false, narrowed := true }
def BoundedErasedUptoSaid : Prop := boundedErasedUptoRow.holds Try.pinned (OpenSpec.upto boundedErasedSpec)

/-- 'codewrightlaw39.BoundedSyndromes', WHERE WHAT IT READS IS OF BULK AT MOST 1048576: true; the input reads as it did. -/
def boundedSyndromesUptoRow : OpenClaim := { program := "yticgblagimmlfaa", sum := "5be02ac71b4d497155d407f9d3e57877f2386b9a636f045d2739fcba73b93b99", func := "codewright/codewrightlaw39.BoundedSyndromes", spec := "boundedSyndromes", apart := false, narrowed := true }
def BoundedSyndromesUptoSaid : Prop := boundedSyndromesUptoRow.holds Try.pinned (OpenSpec.upto boundedSyndromesSpec)

/-- 'codewrightlaw19.AlternantGoppaChecks', WHERE WHAT IT READS IS OF BULK AT MOST 1048576: true; the input reads as it did. -/
def alternantGoppaChecksUptoRow : OpenClaim := { program := "yticgblagimmlfaa", sum := "5be02ac71b4d497155d407f9d3e57877f2386b9a636f045d2739fcba73b93b99", func := "codewright/codewrightlaw19.AlternantGoppaChecks", spec := "alternantGoppaChecks", unfollowed := true, recurses := true, apart := false, narrowed := true }
def AlternantGoppaChecksUptoSaid : Prop := alternantGoppaChecksUptoRow.holds Try.pinned (OpenSpec.upto alternantGoppaChecksSpec)

/-- 'codewrightlaw19.AlternantDimension', WHERE WHAT IT READS IS OF BULK AT MOST 1048576: true; the input reads as it did. -/
def alternantDimensionUptoRow : OpenClaim := { program := "yticgblagimmlfaa", sum := "5be02ac71b4d497155d407f9d3e57877f2386b9a636f045d2739fcba73b93b99", func := "codewright/codewrightlaw19.AlternantDimension", spec := "alternantDimension", unfollowed := true, recurses := true, apart := false, narrowed := true }
def AlternantDimensionUptoSaid : Prop := alternantDimensionUptoRow.holds Try.pinned (OpenSpec.upto alternantDimensionSpec)

end Rows
end Go.Proofs.Yticgblagimmlfaa
