/-
  No cell of these rows narrows 'for every input' (looked for: loops, veiled, ifaces, maps, wideKeys, modest, calm, conditions, laid).
  DERIVED. THE GIVEN ROWS OF THIS SEAT. 7 by the template 'for every input the law returns true; each argument reads behind the call as it read before'; 0 by the template 'total and deterministic' (their statements: YtlekhibddmbjnaaTotals.lean).
  GIVEN WITH THE SEED: the statements are not yours to turn. If you find one false, say at which input.
  Laid BY PROGRAM, IN A SANDBOX (cutbox-rows.mjs): the forced cells as the released guide's own fill.sh prints them over the translation 5cd1bf88c2c0c13e… (all of the seat's roots in one cut). By AI agents, Wed Nov 11 2026. No macro, syntax, notation, axiom, sorry.
-/
import Derived.Test.YtlekhibddmbjnaaChecked
import GoSem.Claim
import GoSem.ClaimJoined
import GoSem.ClaimMapViews
import Derived.JoinedTies
import Derived.KernelRfl
namespace Go.Proofs.Ytlekhibddmbjnaa
/- THE CELL 'sum', in the pinned program and in every row, IS THE sha256 OF THE DUMP (.gsa) THAT YtlekhibddmbjnaaProg.lean LOADS. Nothing in Lean hashes anything: it is a label: what it is worth is what the hold of that sum in a sandbox is worth. -/
noncomputable def Try.pinned : Pinned := { name := "ytlekhibddmbjnaa", sum := "5cd1bf88c2c0c13e443b7f186c670aad656a5e3ef7156012cf87368d99820399", checked := Try.checked }
namespace Rows
def none {H : Type} : Left H := { results := [], args := [] }

/-- 'portmanteaulaw08.RingPuts': WHATEVER THE INPUT: true; the input reads as it did. -/
def ringPutsSpec : ChangeSpec := { name := "ringPuts", fn := fun _ => fun
  | [d1, d2] => { results := [.lit (.bool true)], args := [d1, d2] }
  | _ => none }
def ringPutsRow : OpenClaim := { program := "ytlekhibddmbjnaa", sum := "5cd1bf88c2c0c13e443b7f186c670aad656a5e3ef7156012cf87368d99820399", func := "portmanteau/portmanteaulaw08.RingPuts", spec := "ringPuts", apart := false }
def RingPutsSaid : Prop := ringPutsRow.holds Try.pinned (OpenSpec.ofChange ringPutsSpec)

/-- ITS FALSE NEIGHBOUR: 'it returns false'. Refute it at one input. -/
def ringPutsWrong : ChangeSpec := { name := "ringPuts", fn := fun _ => fun
  | [d1, d2] => { results := [.lit (.bool false)], args := [d1, d2] }
  | _ => none }
def RingPutsWrongFalsely : Prop := ringPutsRow.holds Try.pinned (OpenSpec.ofChange ringPutsWrong)

/-- 'portmanteaulaw08.RingAges': WHATEVER THE INPUT: true; the input reads as it did. -/
def ringAgesSpec : ChangeSpec := { name := "ringAges", fn := fun _ => fun
  | [d1, d2, d3] => { results := [.lit (.bool true)], args := [d1, d2, d3] }
  | _ => none }
def ringAgesRow : OpenClaim := { program := "ytlekhibddmbjnaa", sum := "5cd1bf88c2c0c13e443b7f186c670aad656a5e3ef7156012cf87368d99820399", func := "portmanteau/portmanteaulaw08.RingAges", spec := "ringAges", apart := false }
def RingAgesSaid : Prop := ringAgesRow.holds Try.pinned (OpenSpec.ofChange ringAgesSpec)

/-- ITS FALSE NEIGHBOUR: 'it returns false'. Refute it at one input. -/
def ringAgesWrong : ChangeSpec := { name := "ringAges", fn := fun _ => fun
  | [d1, d2, d3] => { results := [.lit (.bool false)], args := [d1, d2, d3] }
  | _ => none }
def RingAgesWrongFalsely : Prop := ringAgesRow.holds Try.pinned (OpenSpec.ofChange ringAgesWrong)

/-- 'portmanteaulaw08.RingNewest': WHATEVER THE INPUT: true; the input reads as it did. -/
def ringNewestSpec : ChangeSpec := { name := "ringNewest", fn := fun _ => fun
  | [d1, d2, d3] => { results := [.lit (.bool true)], args := [d1, d2, d3] }
  | _ => none }
def ringNewestRow : OpenClaim := { program := "ytlekhibddmbjnaa", sum := "5cd1bf88c2c0c13e443b7f186c670aad656a5e3ef7156012cf87368d99820399", func := "portmanteau/portmanteaulaw08.RingNewest", spec := "ringNewest", apart := false }
def RingNewestSaid : Prop := ringNewestRow.holds Try.pinned (OpenSpec.ofChange ringNewestSpec)

/-- ITS FALSE NEIGHBOUR: 'it returns false'. Refute it at one input. -/
def ringNewestWrong : ChangeSpec := { name := "ringNewest", fn := fun _ => fun
  | [d1, d2, d3] => { results := [.lit (.bool false)], args := [d1, d2, d3] }
  | _ => none }
def RingNewestWrongFalsely : Prop := ringNewestRow.holds Try.pinned (OpenSpec.ofChange ringNewestWrong)

/-- 'portmanteaulaw08.RingWhole': WHATEVER THE INPUT: true; the input reads as it did. -/
def ringWholeSpec : ChangeSpec := { name := "ringWhole", fn := fun _ => fun
  | [d1, d2] => { results := [.lit (.bool true)], args := [d1, d2] }
  | _ => none }
def ringWholeRow : OpenClaim := { program := "ytlekhibddmbjnaa", sum := "5cd1bf88c2c0c13e443b7f186c670aad656a5e3ef7156012cf87368d99820399", func := "portmanteau/portmanteaulaw08.RingWhole", spec := "ringWhole", unfollowed := true, recurses := true, apart := false }
def RingWholeSaid : Prop := ringWholeRow.holds Try.pinned (OpenSpec.ofChange ringWholeSpec)

/-- ITS FALSE NEIGHBOUR: 'it returns false'. Refute it at one input. -/
def ringWholeWrong : ChangeSpec := { name := "ringWhole", fn := fun _ => fun
  | [d1, d2] => { results := [.lit (.bool false)], args := [d1, d2] }
  | _ => none }
def RingWholeWrongFalsely : Prop := ringWholeRow.holds Try.pinned (OpenSpec.ofChange ringWholeWrong)

/-- 'portmanteaulaw08.RingCopies': WHATEVER THE INPUT: true; the input reads as it did. -/
def ringCopiesSpec : ChangeSpec := { name := "ringCopies", fn := fun _ => fun
  | [d1, d2, d3] => { results := [.lit (.bool true)], args := [d1, d2, d3] }
  | _ => none }
def ringCopiesRow : OpenClaim := { program := "ytlekhibddmbjnaa", sum := "5cd1bf88c2c0c13e443b7f186c670aad656a5e3ef7156012cf87368d99820399", func := "portmanteau/portmanteaulaw08.RingCopies", spec := "ringCopies", apart := false }
def RingCopiesSaid : Prop := ringCopiesRow.holds Try.pinned (OpenSpec.ofChange ringCopiesSpec)

/-- ITS FALSE NEIGHBOUR: 'it returns false'. Refute it at one input. -/
def ringCopiesWrong : ChangeSpec := { name := "ringCopies", fn := fun _ => fun
  | [d1, d2, d3] => { results := [.lit (.bool false)], args := [d1, d2, d3] }
  | _ => none }
def RingCopiesWrongFalsely : Prop := ringCopiesRow.holds Try.pinned (OpenSpec.ofChange ringCopiesWrong)

/-- 'portmanteaulaw08.RingGoes': WHATEVER THE INPUT: true; the input reads as it did. -/
def ringGoesSpec : ChangeSpec := { name := "ringGoes", fn := fun _ => fun
  | [d1, d2, d3] => { results := [.lit (.bool true)], args := [d1, d2, d3] }
  | _ => none }
def ringGoesRow : OpenClaim := { program := "ytlekhibddmbjnaa", sum := "5cd1bf88c2c0c13e443b7f186c670aad656a5e3ef7156012cf87368d99820399", func := "portmanteau/portmanteaulaw08.RingGoes", spec := "ringGoes", unfollowed := true, recurses := true, apart := false }
def RingGoesSaid : Prop := ringGoesRow.holds Try.pinned (OpenSpec.ofChange ringGoesSpec)

/-- ITS FALSE NEIGHBOUR: 'it returns false'. Refute it at one input. -/
def ringGoesWrong : ChangeSpec := { name := "ringGoes", fn := fun _ => fun
  | [d1, d2, d3] => { results := [.lit (.bool false)], args := [d1, d2, d3] }
  | _ => none }
def RingGoesWrongFalsely : Prop := ringGoesRow.holds Try.pinned (OpenSpec.ofChange ringGoesWrong)

/-- 'portmanteaulaw08.RingNobody': WHATEVER THE INPUT: true; the input reads as it did. -/
def ringNobodySpec : ChangeSpec := { name := "ringNobody", fn := fun _ => fun
  | [d] => { results := [.lit (.bool true)], args := [d] }
  | _ => none }
def ringNobodyRow : OpenClaim := { program := "ytlekhibddmbjnaa", sum := "5cd1bf88c2c0c13e443b7f186c670aad656a5e3ef7156012cf87368d99820399", func := "portmanteau/portmanteaulaw08.RingNobody", spec := "ringNobody", unfollowed := true, recurses := true, apart := false }
def RingNobodySaid : Prop := ringNobodyRow.holds Try.pinned (OpenSpec.ofChange ringNobodySpec)

/-- ITS FALSE NEIGHBOUR: 'it returns false'. Refute it at one input. -/
def ringNobodyWrong : ChangeSpec := { name := "ringNobody", fn := fun _ => fun
  | [d] => { results := [.lit (.bool false)], args := [d] }
  | _ => none }
def RingNobodyWrongFalsely : Prop := ringNobodyRow.holds Try.pinned (OpenSpec.ofChange ringNobodyWrong)

/- THE SECOND FORM. 'bulk': how many values and letters a reading holds, each counted each time it is reached (what is shared counts as often as it is met; a slice's spare places count too). A statement '..UptoSaid' is the law's where the arguments, and the package variables that the reading takes, are together of bulk at most 1048576: NARROWER than '..Said'. Prove '..Said' where nothing that the law and all that it calls make is longer than what came in: it says more and counts as full. Else prove '..UptoSaid'. A law counts once. -/
mutual
def uptoBulk {H : Type} : DataW H → Nat
  | .lit (.string bytes) => bytes.length + 1
  | .lit _ => 1
  | .nil => 1
  | .ptr d => uptoBulk d + 1
  | .slice elems spare => uptoBulkAll elems + uptoBulkAll spare + 1
  | .agg parts => uptoBulkAll parts + 1
  | .iface _ d => uptoBulk d + 1
  | .map entries => uptoBulkEntries entries + 1
  | .held _ => 1
def uptoBulkAll {H : Type} : List (DataW H) → Nat
  | [] => 0
  | d :: r => uptoBulk d + uptoBulkAll r
def uptoBulkEntries {H : Type} : List (Lit × DataW H) → Nat
  | [] => 0
  | x :: r => uptoBulkEntry x + uptoBulkEntries r
def uptoBulkEntry {H : Type} : Lit × DataW H → Nat
  | (.string bytes, d) => bytes.length + uptoBulk d + 1
  | (_, d) => uptoBulk d + 1
 end
def uptoSmall : (H : Type) → List (DataW H) → Bool := fun _ ds => decide (uptoBulkAll ds ≤ 1048576)
def OpenSpec.upto (s : _root_.Go.ChangeSpec) : _root_.Go.OpenSpec := { _root_.Go.OpenSpec.ofChange s with cond := some uptoSmall }

/-- 'portmanteaulaw08.RingPuts', WHERE WHAT IT READS IS OF BULK AT MOST 1048576: true; the input reads as it did. -/
def ringPutsUptoRow : OpenClaim := { program := "ytlekhibddmbjnaa", sum := "5cd1bf88c2c0c13e443b7f186c670aad656a5e3ef7156012cf87368d99820399", func := "portmanteau/portmanteaulaw08.RingPuts", spec := "ringPuts", apart := false, narrowed := true }
def RingPutsUptoSaid : Prop := ringPutsUptoRow.holds Try.pinned (OpenSpec.upto ringPutsSpec)

/-- 'portmanteaulaw08.RingAges', WHERE WHAT IT READS IS OF BULK AT MOST 1048576: true; the input reads as it did. -/
def ringAgesUptoRow : OpenClaim := { program := "ytlekhibddmbjnaa", sum := "5cd1bf88c2c0c13e443b7f186c670aad656a5e3ef7156012cf87368d99820399", func := "portmanteau/portmanteaulaw08.RingAges", spec := "ringAges", apart := false, narrowed := true }
def RingAgesUptoSaid : Prop := ringAgesUptoRow.holds Try.pinned (OpenSpec.upto ringAgesSpec)

/-- 'portmanteaulaw08.RingNewest', WHERE WHAT IT READS IS OF BULK AT MOST 1048576: true; the input reads as it did. -/
def ringNewestUptoRow : OpenClaim := { program := "ytlekhibddmbjnaa", sum := "5cd1bf88c2c0c13e443b7f186c670aad656a5e3ef7156012cf87368d99820399", func := "portmanteau/portmanteaulaw08.RingNewest", spec := "ringNewest", apart := false, narrowed := true }
def RingNewestUptoSaid : Prop := ringNewestUptoRow.holds Try.pinned (OpenSpec.upto ringNewestSpec)

/-- 'portmanteaulaw08.RingWhole', WHERE WHAT IT READS IS OF BULK AT MOST 1048576: true; the input reads as it did. -/
def ringWholeUptoRow : OpenClaim := { program := "ytlekhibddmbjnaa", sum := "5cd1bf88c2c0c13e443b7f186c670aad656a5e3ef7156012cf87368d99820399", func := "portmanteau/portmanteaulaw08.RingWhole", spec := "ringWhole", unfollowed := true, recurses := true, apart := false, narrowed := true }
def RingWholeUptoSaid : Prop := ringWholeUptoRow.holds Try.pinned (OpenSpec.upto ringWholeSpec)

/-- 'portmanteaulaw08.RingCopies', WHERE WHAT IT READS IS OF BULK AT MOST 1048576: true; the input reads as it did. -/
def ringCopiesUptoRow : OpenClaim := { program := "ytlekhibddmbjnaa", sum := "5cd1bf88c2c0c13e443b7f186c670aad656a5e3ef7156012cf87368d99820399", func := "portmanteau/portmanteaulaw08.RingCopies", spec := "ringCopies", apart := false, narrowed := true }
def RingCopiesUptoSaid : Prop := ringCopiesUptoRow.holds Try.pinned (OpenSpec.upto ringCopiesSpec)

/-- 'portmanteaulaw08.RingGoes', WHERE WHAT IT READS IS OF BULK AT MOST 1048576: true; the input reads as it did. -/
def ringGoesUptoRow : OpenClaim := { program := "ytlekhibddmbjnaa", sum := "5cd1bf88c2c0c13e443b7f186c670aad656a5e3ef7156012cf87368d99820399", func := "portmanteau/portmanteaulaw08.RingGoes", spec := "ringGoes", unfollowed := true, recurses := true, apart := false, narrowed := true }
def RingGoesUptoSaid : Prop := ringGoesUptoRow.holds Try.pinned (OpenSpec.upto ringGoesSpec)

/-- 'portmanteaulaw08.RingNobody', WHERE WHAT IT READS IS OF BULK AT MOST 1048576: true; the input reads as it did. -/
def ringNobodyUptoRow : OpenClaim := { program := "ytlekhibddmbjnaa", sum := "5cd1bf88c2c0c13e443b7f186c670aad656a5e3ef7156012cf87368d99820399", func := "portmanteau/portmanteaulaw08.RingNobody", spec := "ringNobody", unfollowed := true, recurses := true, apart := false, narrowed := true }
def RingNobodyUptoSaid : Prop := ringNobodyUptoRow.holds Try.pinned (OpenSpec.upto ringNobodySpec)

end Rows
end Go.Proofs.Ytlekhibddmbjnaa
