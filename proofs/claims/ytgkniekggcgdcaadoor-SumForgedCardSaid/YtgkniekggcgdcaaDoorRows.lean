/-
  NARROWER THAN 'FOR EVERY INPUT', by the rows' own cells (each row's printed sentence says how): SumOf: laid · SumParts: laid · SumTurned: laid · SumLike: laid · SumResidue: laid · SumForged: laid.
  DERIVED. THE GIVEN ROWS OF THIS SEAT. 6 by the template 'for every input the law returns true; each argument reads behind the call as it read before'; 0 by the template 'total and deterministic' (their statements: YtgkniekggcgdcaaDoorTotals.lean).
  GIVEN WITH THE SEED: the statements are not yours to turn. If you find one false, say at which input.
  Laid BY PROGRAM, IN A SANDBOX (cutbox-rows.mjs): the forced cells as the released guide's own fill.sh prints them over the translation e19ada2011c08b3b… (all of the seat's roots in one cut). By AI agents, Wed Nov 11 2026. No macro, syntax, notation, axiom, sorry.
-/
import Derived.Test.YtgkniekggcgdcaaDoorChecked
import GoSem.Claim
import GoSem.ClaimJoined
import GoSem.ClaimMapViews
import Derived.JoinedTies
import Derived.KernelRfl
namespace Go.Proofs.YtgkniekggcgdcaaDoor
/- THE CELL 'sum', in the pinned program and in every row, IS THE sha256 OF THE DUMP (.gsa) THAT YtgkniekggcgdcaaDoorProg.lean LOADS. Nothing in Lean hashes anything: it is a label: what it is worth is what the hold of that sum in a sandbox is worth. -/
noncomputable def Tryd.pinned : Pinned := { name := "ytgkniekggcgdcaadoor", sum := "e19ada2011c08b3b4610c2aec6c78e9ad2c26094f48560c7d86e0ebac9dd3faa", checked := Tryd.checked }
namespace Rows
def none {H : Type} : Left H := { results := [], args := [] }

/- WHAT THE LISTED PACKAGE-LEVEL VARIABLES READ AS WHEN THE CALL BEGINS. Each datum BY PROGRAM (the guide's laid-datum.mjs) off the statement by which the dump's own 'gosem.cut.vars' lays the variable. In a bare row this is a premise. The card (YtgkniekggcgdcaaDoorCards.lean) ties it to the program's text. -/
def laid_portmanteau_sum_nibbles {H : Type} : DataW H := .agg [.lit (.int .u32 0), .lit (.int .u32 274646895), .lit (.int .u32 549293790), .lit (.int .u32 820201905), .lit (.int .u32 1098587580), .lit (.int .u32 1361435347), .lit (.int .u32 1640403810), .lit (.int .u32 1905808397), .lit (.int .u32 2197175160), .lit (.int .u32 2460548119), .lit (.int .u32 2722870694), .lit (.int .u32 2987750089), .lit (.int .u32 3280807620), .lit (.int .u32 3553878443), .lit (.int .u32 3811616794), .lit (.int .u32 4084100981)]

/-- 'portmanteaulaw02.SumOf': WHATEVER THE INPUT: true; the input reads as it did. -/
def sumOfSpec : ChangeSpec := { name := "sumOf", fn := fun _ => fun
  | [d] => { results := [.lit (.bool true)], args := [d] }
  | _ => none }
def sumOfRow : OpenClaim := { program := "ytgkniekggcgdcaadoor", sum := "e19ada2011c08b3b4610c2aec6c78e9ad2c26094f48560c7d86e0ebac9dd3faa", func := "portmanteau/portmanteaulaw02.SumOf", spec := "sumOf", named := ["portmanteau/sum.nibbles"], apart := false, laid := [("portmanteau/sum.nibbles", laid_portmanteau_sum_nibbles)] }
def SumOfSaid : Prop := sumOfRow.holds Tryd.pinned (OpenSpec.ofChange sumOfSpec)

/-- ITS FALSE NEIGHBOUR: 'it returns false'. Refute it at one input. -/
def sumOfWrong : ChangeSpec := { name := "sumOf", fn := fun _ => fun
  | [d] => { results := [.lit (.bool false)], args := [d] }
  | _ => none }
def SumOfWrongFalsely : Prop := sumOfRow.holds Tryd.pinned (OpenSpec.ofChange sumOfWrong)

/-- 'portmanteaulaw02.SumParts': WHATEVER THE INPUT: true; the input reads as it did. -/
def sumPartsSpec : ChangeSpec := { name := "sumParts", fn := fun _ => fun
  | [d1, d2, d3] => { results := [.lit (.bool true)], args := [d1, d2, d3] }
  | _ => none }
def sumPartsRow : OpenClaim := { program := "ytgkniekggcgdcaadoor", sum := "e19ada2011c08b3b4610c2aec6c78e9ad2c26094f48560c7d86e0ebac9dd3faa", func := "portmanteau/portmanteaulaw02.SumParts", spec := "sumParts", named := ["portmanteau/sum.nibbles"], apart := false, laid := [("portmanteau/sum.nibbles", laid_portmanteau_sum_nibbles)] }
def SumPartsSaid : Prop := sumPartsRow.holds Tryd.pinned (OpenSpec.ofChange sumPartsSpec)

/-- ITS FALSE NEIGHBOUR: 'it returns false'. Refute it at one input. -/
def sumPartsWrong : ChangeSpec := { name := "sumParts", fn := fun _ => fun
  | [d1, d2, d3] => { results := [.lit (.bool false)], args := [d1, d2, d3] }
  | _ => none }
def SumPartsWrongFalsely : Prop := sumPartsRow.holds Tryd.pinned (OpenSpec.ofChange sumPartsWrong)

/-- 'portmanteaulaw02.SumTurned': WHATEVER THE INPUT: true; the input reads as it did. -/
def sumTurnedSpec : ChangeSpec := { name := "sumTurned", fn := fun _ => fun
  | [d1, d2, d3] => { results := [.lit (.bool true)], args := [d1, d2, d3] }
  | _ => none }
def sumTurnedRow : OpenClaim := { program := "ytgkniekggcgdcaadoor", sum := "e19ada2011c08b3b4610c2aec6c78e9ad2c26094f48560c7d86e0ebac9dd3faa", func := "portmanteau/portmanteaulaw02.SumTurned", spec := "sumTurned", named := ["portmanteau/sum.nibbles"], apart := false, laid := [("portmanteau/sum.nibbles", laid_portmanteau_sum_nibbles)] }
def SumTurnedSaid : Prop := sumTurnedRow.holds Tryd.pinned (OpenSpec.ofChange sumTurnedSpec)

/-- ITS FALSE NEIGHBOUR: 'it returns false'. Refute it at one input. -/
def sumTurnedWrong : ChangeSpec := { name := "sumTurned", fn := fun _ => fun
  | [d1, d2, d3] => { results := [.lit (.bool false)], args := [d1, d2, d3] }
  | _ => none }
def SumTurnedWrongFalsely : Prop := sumTurnedRow.holds Tryd.pinned (OpenSpec.ofChange sumTurnedWrong)

/-- 'portmanteaulaw02.SumLike': WHATEVER THE INPUT: true; the input reads as it did. -/
def sumLikeSpec : ChangeSpec := { name := "sumLike", fn := fun _ => fun
  | [d1, d2] => { results := [.lit (.bool true)], args := [d1, d2] }
  | _ => none }
def sumLikeRow : OpenClaim := { program := "ytgkniekggcgdcaadoor", sum := "e19ada2011c08b3b4610c2aec6c78e9ad2c26094f48560c7d86e0ebac9dd3faa", func := "portmanteau/portmanteaulaw02.SumLike", spec := "sumLike", named := ["portmanteau/sum.nibbles"], apart := false, laid := [("portmanteau/sum.nibbles", laid_portmanteau_sum_nibbles)] }
def SumLikeSaid : Prop := sumLikeRow.holds Tryd.pinned (OpenSpec.ofChange sumLikeSpec)

/-- ITS FALSE NEIGHBOUR: 'it returns false'. Refute it at one input. -/
def sumLikeWrong : ChangeSpec := { name := "sumLike", fn := fun _ => fun
  | [d1, d2] => { results := [.lit (.bool false)], args := [d1, d2] }
  | _ => none }
def SumLikeWrongFalsely : Prop := sumLikeRow.holds Tryd.pinned (OpenSpec.ofChange sumLikeWrong)

/-- 'portmanteaulaw02.SumResidue': WHATEVER THE INPUT: true; the input reads as it did. -/
def sumResidueSpec : ChangeSpec := { name := "sumResidue", fn := fun _ => fun
  | [d] => { results := [.lit (.bool true)], args := [d] }
  | _ => none }
def sumResidueRow : OpenClaim := { program := "ytgkniekggcgdcaadoor", sum := "e19ada2011c08b3b4610c2aec6c78e9ad2c26094f48560c7d86e0ebac9dd3faa", func := "portmanteau/portmanteaulaw02.SumResidue", spec := "sumResidue", named := ["portmanteau/sum.nibbles"], apart := false, laid := [("portmanteau/sum.nibbles", laid_portmanteau_sum_nibbles)] }
def SumResidueSaid : Prop := sumResidueRow.holds Tryd.pinned (OpenSpec.ofChange sumResidueSpec)

/-- ITS FALSE NEIGHBOUR: 'it returns false'. Refute it at one input. -/
def sumResidueWrong : ChangeSpec := { name := "sumResidue", fn := fun _ => fun
  | [d] => { results := [.lit (.bool false)], args := [d] }
  | _ => none }
def SumResidueWrongFalsely : Prop := sumResidueRow.holds Tryd.pinned (OpenSpec.ofChange sumResidueWrong)

/-- 'portmanteaulaw02.SumForged': WHATEVER THE INPUT: true; the input reads as it did. -/
def sumForgedSpec : ChangeSpec := { name := "sumForged", fn := fun _ => fun
  | [d] => { results := [.lit (.bool true)], args := [d] }
  | _ => none }
def sumForgedRow : OpenClaim := { program := "ytgkniekggcgdcaadoor", sum := "e19ada2011c08b3b4610c2aec6c78e9ad2c26094f48560c7d86e0ebac9dd3faa", func := "portmanteau/portmanteaulaw02.SumForged", spec := "sumForged", named := ["portmanteau/sum.nibbles"], apart := false, laid := [("portmanteau/sum.nibbles", laid_portmanteau_sum_nibbles)] }
def SumForgedSaid : Prop := sumForgedRow.holds Tryd.pinned (OpenSpec.ofChange sumForgedSpec)

/-- ITS FALSE NEIGHBOUR: 'it returns false'. Refute it at one input. -/
def sumForgedWrong : ChangeSpec := { name := "sumForged", fn := fun _ => fun
  | [d] => { results := [.lit (.bool false)], args := [d] }
  | _ => none }
def SumForgedWrongFalsely : Prop := sumForgedRow.holds Tryd.pinned (OpenSpec.ofChange sumForgedWrong)

/- THE SECOND FORM. 'bulk': how many values and letters a reading holds, each counted each time it is reached (what is shared counts as often as it is met; a slice's spare places count too). A statement '..UptoSaid' is the law's where the arguments, and the package variables that the reading takes, are together of bulk at most 1048576: NARROWER than '..Said'. Prove '..Said' where nothing that the law and all that it calls make is longer than what came in: it says more and counts as full. Else prove '..UptoSaid'. A law counts once. -/
mutual
def uptoBulk {H : Type} : DataW H → Nat
  | .lit (.string bytes) => bytes.length + 1
  | .lit _ => 1
  | .nil => 1
  | .ptr d => uptoBulk d + 1
  | .slice elems spare => uptoBulkAll elems + uptoBulkAll spare + 1
  | .agg parts => uptoBulkAll parts + 1
  | .iface _ d => uptoBulk d + 1
  | .map entries => uptoBulkEntries entries + 1
  | .held _ => 1
def uptoBulkAll {H : Type} : List (DataW H) → Nat
  | [] => 0
  | d :: r => uptoBulk d + uptoBulkAll r
def uptoBulkEntries {H : Type} : List (Lit × DataW H) → Nat
  | [] => 0
  | x :: r => uptoBulkEntry x + uptoBulkEntries r
def uptoBulkEntry {H : Type} : Lit × DataW H → Nat
  | (.string bytes, d) => bytes.length + uptoBulk d + 1
  | (_, d) => uptoBulk d + 1
 end
def uptoSmall : (H : Type) → List (DataW H) → Bool := fun _ ds => decide (uptoBulkAll ds ≤ 1048576)
def OpenSpec.upto (s : _root_.Go.ChangeSpec) : _root_.Go.OpenSpec := { _root_.Go.OpenSpec.ofChange s with cond := some uptoSmall }

/-- 'portmanteaulaw02.SumOf', WHERE WHAT IT READS IS OF BULK AT MOST 1048576: true; the input reads as it did. -/
def sumOfUptoRow : OpenClaim := { program := "ytgkniekggcgdcaadoor", sum := "e19ada2011c08b3b4610c2aec6c78e9ad2c26094f48560c7d86e0ebac9dd3faa", func := "portmanteau/portmanteaulaw02.SumOf", spec := "sumOf", named := ["portmanteau/sum.nibbles"], apart := false, laid := [("portmanteau/sum.nibbles", laid_portmanteau_sum_nibbles)], narrowed := true }
def SumOfUptoSaid : Prop := sumOfUptoRow.holds Tryd.pinned (OpenSpec.upto sumOfSpec)

/-- 'portmanteaulaw02.SumParts', WHERE WHAT IT READS IS OF BULK AT MOST 1048576: true; the input reads as it did. -/
def sumPartsUptoRow : OpenClaim := { program := "ytgkniekggcgdcaadoor", sum := "e19ada2011c08b3b4610c2aec6c78e9ad2c26094f48560c7d86e0ebac9dd3faa", func := "portmanteau/portmanteaulaw02.SumParts", spec := "sumParts", named := ["portmanteau/sum.nibbles"], apart := false, laid := [("portmanteau/sum.nibbles", laid_portmanteau_sum_nibbles)], narrowed := true }
def SumPartsUptoSaid : Prop := sumPartsUptoRow.holds Tryd.pinned (OpenSpec.upto sumPartsSpec)

/-- 'portmanteaulaw02.SumTurned', WHERE WHAT IT READS IS OF BULK AT MOST 1048576: true; the input reads as it did. -/
def sumTurnedUptoRow : OpenClaim := { program := "ytgkniekggcgdcaadoor", sum := "e19ada2011c08b3b4610c2aec6c78e9ad2c26094f48560c7d86e0ebac9dd3faa", func := "portmanteau/portmanteaulaw02.SumTurned", spec := "sumTurned", named := ["portmanteau/sum.nibbles"], apart := false, laid := [("portmanteau/sum.nibbles", laid_portmanteau_sum_nibbles)], narrowed := true }
def SumTurnedUptoSaid : Prop := sumTurnedUptoRow.holds Tryd.pinned (OpenSpec.upto sumTurnedSpec)

/-- 'portmanteaulaw02.SumLike', WHERE WHAT IT READS IS OF BULK AT MOST 1048576: true; the input reads as it did. -/
def sumLikeUptoRow : OpenClaim := { program := "ytgkniekggcgdcaadoor", sum := "e19ada2011c08b3b4610c2aec6c78e9ad2c26094f48560c7d86e0ebac9dd3faa", func := "portmanteau/portmanteaulaw02.SumLike", spec := "sumLike", named := ["portmanteau/sum.nibbles"], apart := false, laid := [("portmanteau/sum.nibbles", laid_portmanteau_sum_nibbles)], narrowed := true }
def SumLikeUptoSaid : Prop := sumLikeUptoRow.holds Tryd.pinned (OpenSpec.upto sumLikeSpec)

/-- 'portmanteaulaw02.SumResidue', WHERE WHAT IT READS IS OF BULK AT MOST 1048576: true; the input reads as it did. -/
def sumResidueUptoRow : OpenClaim := { program := "ytgkniekggcgdcaadoor", sum := "e19ada2011c08b3b4610c2aec6c78e9ad2c26094f48560c7d86e0ebac9dd3faa", func := "portmanteau/portmanteaulaw02.SumResidue", spec := "sumResidue", named := ["portmanteau/sum.nibbles"], apart := false, laid := [("portmanteau/sum.nibbles", laid_portmanteau_sum_nibbles)], narrowed := true }
def SumResidueUptoSaid : Prop := sumResidueUptoRow.holds Tryd.pinned (OpenSpec.upto sumResidueSpec)

/-- 'portmanteaulaw02.SumForged', WHERE WHAT IT READS IS OF BULK AT MOST 1048576: true; the input reads as it did. -/
def sumForgedUptoRow : OpenClaim := { program := "ytgkniekggcgdcaadoor", sum := "e19ada2011c08b3b4610c2aec6c78e9ad2c26094f48560c7d86e0ebac9dd3faa", func := "portmanteau/portmanteaulaw02.SumForged", spec := "sumForged", named := ["portmanteau/sum.nibbles"], apart := false, laid := [("portmanteau/sum.nibbles", laid_portmanteau_sum_nibbles)], narrowed := true }
def SumForgedUptoSaid : Prop := sumForgedUptoRow.holds Tryd.pinned (OpenSpec.upto sumForgedSpec)

end Rows
end Go.Proofs.YtgkniekggcgdcaaDoor
