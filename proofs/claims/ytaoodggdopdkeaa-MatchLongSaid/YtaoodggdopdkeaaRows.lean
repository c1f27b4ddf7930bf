/-
  No cell of these rows narrows 'for every input' (looked for: loops, veiled, ifaces, maps, wideKeys, modest, calm, conditions, laid).
  DERIVED. THE GIVEN ROWS OF THIS SEAT. 6 by the template 'for every input the law returns true; each argument reads behind the call as it read before'; 0 by the template 'total and deterministic' (their statements: YtaoodggdopdkeaaTotals.lean).
  GIVEN WITH THE SEED: the statements are not yours to turn. If you find one false, say at which input.
  Laid BY PROGRAM, IN A SANDBOX (cutbox-rows.mjs): the forced cells as the released guide's own fill.sh prints them over the translation 47921cb0c4c36bf4… (all of the seat's roots in one cut). By AI agents, Wed Nov 11 2026. No macro, syntax, notation, axiom, sorry.
-/
import Derived.Test.YtaoodggdopdkeaaChecked
import GoSem.Claim
import GoSem.ClaimJoined
import GoSem.ClaimMapViews
import Derived.JoinedTies
import Derived.KernelRfl
namespace Go.Proofs.Ytaoodggdopdkeaa
/- THE CELL 'sum', in the pinned program and in every row, IS THE sha256 OF THE DUMP (.gsa) THAT YtaoodggdopdkeaaProg.lean LOADS. Nothing in Lean hashes anything: it is a label: what it is worth is what the hold of that sum in a sandbox is worth. -/
noncomputable def Try.pinned : Pinned := { name := "ytaoodggdopdkeaa", sum := "47921cb0c4c36bf47b64164c393f76c547b0d89e25caeda7b3b6c31314cbc004", checked := Try.checked }
namespace Rows
def none {H : Type} : Left H := { results := [], args := [] }

/-- 'portmanteaulaw09.MatchParses': WHATEVER THE INPUT: true; the input reads as it did. -/
def matchParsesSpec : ChangeSpec := { name := "matchParses", fn := fun _ => fun
  | [d1, d2] => { results := [.lit (.bool true)], args := [d1, d2] }
  | _ => none }
def matchParsesRow : OpenClaim := { program := "ytaoodggdopdkeaa", sum := "47921cb0c4c36bf47b64164c393f76c547b0d89e25caeda7b3b6c31314cbc004", func := "portmanteau/portmanteaulaw09.MatchParses", spec := "matchParses", plainKeys := false, apart := false }
def MatchParsesSaid : Prop := matchParsesRow.holds Try.pinned (OpenSpec.ofChange matchParsesSpec)

/-- ITS FALSE NEIGHBOUR: 'it returns false'. Refute it at one input. -/
def matchParsesWrong : ChangeSpec := { name := "matchParses", fn := fun _ => fun
  | [d1, d2] => { results := [.lit (.bool false)], args := [d1, d2] }
  | _ => none }
def MatchParsesWrongFalsely : Prop := matchParsesRow.holds Try.pinned (OpenSpec.ofChange matchParsesWrong)

/-- 'portmanteaulaw09.MatchLong': WHATEVER THE INPUT: true; the input reads as it did. -/
def matchLongSpec : ChangeSpec := { name := "matchLong", fn := fun _ => fun
  | [d1, d2, d3] => { results := [.lit (.bool true)], args := [d1, d2, d3] }
  | _ => none }
def matchLongRow : OpenClaim := { program := "ytaoodggdopdkeaa", sum := "47921cb0c4c36bf47b64164c393f76c547b0d89e25caeda7b3b6c31314cbc004", func := "portmanteau/portmanteaulaw09.MatchLong", spec := "matchLong", plainKeys := false, apart := false }
def MatchLongSaid : Prop := matchLongRow.holds Try.pinned (OpenSpec.ofChange matchLongSpec)

/-- ITS FALSE NEIGHBOUR: 'it returns false'. Refute it at one input. -/
def matchLongWrong : ChangeSpec := { name := "matchLong", fn := fun _ => fun
  | [d1, d2, d3] => { results := [.lit (.bool false)], args := [d1, d2, d3] }
  | _ => none }
def MatchLongWrongFalsely : Prop := matchLongRow.holds Try.pinned (OpenSpec.ofChange matchLongWrong)

/-- 'portmanteaulaw09.MatchLits': WHATEVER THE INPUT: true; the input reads as it did. -/
def matchLitsSpec : ChangeSpec := { name := "matchLits", fn := fun _ => fun
  | [d1, d2] => { results := [.lit (.bool true)], args := [d1, d2] }
  | _ => none }
def matchLitsRow : OpenClaim := { program := "ytaoodggdopdkeaa", sum := "47921cb0c4c36bf47b64164c393f76c547b0d89e25caeda7b3b6c31314cbc004", func := "portmanteau/portmanteaulaw09.MatchLits", spec := "matchLits", plainKeys := false, apart := false }
def MatchLitsSaid : Prop := matchLitsRow.holds Try.pinned (OpenSpec.ofChange matchLitsSpec)

/-- ITS FALSE NEIGHBOUR: 'it returns false'. Refute it at one input. -/
def matchLitsWrong : ChangeSpec := { name := "matchLits", fn := fun _ => fun
  | [d1, d2] => { results := [.lit (.bool false)], args := [d1, d2] }
  | _ => none }
def MatchLitsWrongFalsely : Prop := matchLitsRow.holds Try.pinned (OpenSpec.ofChange matchLitsWrong)

/-- 'portmanteaulaw09.MatchExpands': WHATEVER THE INPUT: true; the input reads as it did. -/
def matchExpandsSpec : ChangeSpec := { name := "matchExpands", fn := fun _ => fun
  | [d] => { results := [.lit (.bool true)], args := [d] }
  | _ => none }
def matchExpandsRow : OpenClaim := { program := "ytaoodggdopdkeaa", sum := "47921cb0c4c36bf47b64164c393f76c547b0d89e25caeda7b3b6c31314cbc004", func := "portmanteau/portmanteaulaw09.MatchExpands", spec := "matchExpands", plainKeys := false, apart := false }
def MatchExpandsSaid : Prop := matchExpandsRow.holds Try.pinned (OpenSpec.ofChange matchExpandsSpec)

/-- ITS FALSE NEIGHBOUR: 'it returns false'. Refute it at one input. -/
def matchExpandsWrong : ChangeSpec := { name := "matchExpands", fn := fun _ => fun
  | [d] => { results := [.lit (.bool false)], args := [d] }
  | _ => none }
def MatchExpandsWrongFalsely : Prop := matchExpandsRow.holds Try.pinned (OpenSpec.ofChange matchExpandsWrong)

/-- 'portmanteaulaw09.MatchBack': WHATEVER THE INPUT: true; the input reads as it did. -/
def matchBackSpec : ChangeSpec := { name := "matchBack", fn := fun _ => fun
  | [d1, d2] => { results := [.lit (.bool true)], args := [d1, d2] }
  | _ => none }
def matchBackRow : OpenClaim := { program := "ytaoodggdopdkeaa", sum := "47921cb0c4c36bf47b64164c393f76c547b0d89e25caeda7b3b6c31314cbc004", func := "portmanteau/portmanteaulaw09.MatchBack", spec := "matchBack", plainKeys := false, apart := false }
def MatchBackSaid : Prop := matchBackRow.holds Try.pinned (OpenSpec.ofChange matchBackSpec)

/-- ITS FALSE NEIGHBOUR: 'it returns false'. Refute it at one input. -/
def matchBackWrong : ChangeSpec := { name := "matchBack", fn := fun _ => fun
  | [d1, d2] => { results := [.lit (.bool false)], args := [d1, d2] }
  | _ => none }
def MatchBackWrongFalsely : Prop := matchBackRow.holds Try.pinned (OpenSpec.ofChange matchBackWrong)

/-- 'portmanteaulaw09.MatchJoins': WHATEVER THE INPUT: true; the input reads as it did. -/
def matchJoinsSpec : ChangeSpec := { name := "matchJoins", fn := fun _ => fun
  | [d1, d2] => { results := [.lit (.bool true)], args := [d1, d2] }
  | _ => none }
def matchJoinsRow : OpenClaim := { program := "ytaoodggdopdkeaa", sum := "47921cb0c4c36bf47b64164c393f76c547b0d89e25caeda7b3b6c31314cbc004", func := "portmanteau/portmanteaulaw09.MatchJoins", spec := "matchJoins", plainKeys := false, apart := false }
def MatchJoinsSaid : Prop := matchJoinsRow.holds Try.pinned (OpenSpec.ofChange matchJoinsSpec)

/-- ITS FALSE NEIGHBOUR: 'it returns false'. Refute it at one input. -/
def matchJoinsWrong : ChangeSpec := { name := "matchJoins", fn := fun _ => fun
  | [d1, d2] => { results := [.lit (.bool false)], args := [d1, d2] }
  | _ => none }
def MatchJoinsWrongFalsely : Prop := matchJoinsRow.holds Try.pinned (OpenSpec.ofChange matchJoinsWrong)

/- THE SECOND FORM. 'bulk': how many values and letters a reading holds, each counted each time it is reached (what is shared counts as often as it is met; a slice's spare places count too). A statement '..UptoSaid' is the law's where the arguments, and the package variables that the reading takes, are together of bulk at most 1048576: NARROWER than '..Said'. Prove '..Said' where nothing that the law and all that it calls make is longer than what came in: it says more and counts as full. Else prove '..UptoSaid'. A law counts once. -/
mutual
def uptoBulk {H : Type} : DataW H → Nat
  | .lit (.string bytes) => bytes.length + 1
  | .lit _ => 1
  | .nil => 1
  | .ptr d => uptoBulk d + 1
  | .slice elems spare => uptoBulkAll elems + uptoBulkAll spare + 1
  | .agg parts => uptoBulkAll parts + 1
  | .iface _ d => uptoBulk d + 1
  | .map entries => uptoBulkEntries entries + 1
  | .held _ => 1
def uptoBulkAll {H : Type} : List (DataW H) → Nat
  | [] => 0
  | d :: r => uptoBulk d + uptoBulkAll r
def uptoBulkEntries {H : Type} : List (Lit × DataW H) → Nat
  | [] => 0
  | x :: r => uptoBulkEntry x + uptoBulkEntries r
def uptoBulkEntry {H : Type} : Lit × DataW H → Nat
  | (.string bytes, d) => bytes.length + uptoBulk d + 1
  | (_, d) => uptoBulk d + 1
 end
def uptoSmall : (H : Type) → List (DataW H) → Bool := fun _ ds => decide (uptoBulkAll ds ≤ 1048576)
def OpenSpec.upto (s : _root_.Go.ChangeSpec) : _root_.Go.OpenSpec := { _root_.Go.OpenSpec.ofChange s with cond := some uptoSmall }

/-- 'portmanteaulaw09.MatchParses', WHERE WHAT IT READS IS OF BULK AT MOST 1048576: true; the input reads as it did. -/
def matchParsesUptoRow : OpenClaim := { program := "ytaoodggdopdkeaa", sum := "47921cb0c4c36bf47b64164c393f76c547b0d89e25caeda7b3b6c31314cbc004", func := "portmanteau/portmanteaulaw09.MatchParses", spec := "matchParses", plainKeys := false, apart := false, narrowed := true }
def MatchParsesUptoSaid : Prop := matchParsesUptoRow.holds Try.pinned (OpenSpec.upto matchParsesSpec)

/-- 'portmanteaulaw09.MatchLong', WHERE WHAT IT READS IS OF BULK AT MOST 1048576: true; the input reads as it did. -/
def matchLongUptoRow : OpenClaim := { program := "ytaoodggdopdkeaa", sum := "47921cb0c4c36bf47b64164c393f76c547b0d89e25caeda7b3b6c31314cbc004", func := "portmanteau/portmanteaulaw09.MatchLong", spec := "matchLong", plainKeys := false, apart := false, narrowed := true }
def MatchLongUptoSaid : Prop := matchLongUptoRow.holds Try.pinned (OpenSpec.upto matchLongSpec)

/-- 'portmanteaulaw09.MatchLits', WHERE WHAT IT READS IS OF BULK AT MOST 1048576: true; the input reads as it did. -/
def matchLitsUptoRow : OpenClaim := { program := "ytaoodggdopdkeaa", sum := "47921cb0c4c36bf47b64164c393f76c547b0d89e25caeda7b3b6c31314cbc004", func := "portmanteau/portmanteaulaw09.MatchLits", spec := "matchLits", plainKeys := false, apart := false, narrowed := true }
def MatchLitsUptoSaid : Prop := matchLitsUptoRow.holds Try.pinned (OpenSpec.upto matchLitsSpec)

/-- 'portmanteaulaw09.MatchExpands', WHERE WHAT IT READS IS OF BULK AT MOST 1048576: true; the input reads as it did. -/
def matchExpandsUptoRow : OpenClaim := { program := "ytaoodggdopdkeaa", sum := "47921cb0c4c36bf47b64164c393f76c547b0d89e25caeda7b3b6c31314cbc004", func := "portmanteau/portmanteaulaw09.MatchExpands", spec := "matchExpands", plainKeys := false, apart := false, narrowed := true }
def MatchExpandsUptoSaid : Prop := matchExpandsUptoRow.holds Try.pinned (OpenSpec.upto matchExpandsSpec)

/-- 'portmanteaulaw09.MatchBack', WHERE WHAT IT READS IS OF BULK AT MOST 1048576: true; the input reads as it did. -/
def matchBackUptoRow : OpenClaim := { program := "ytaoodggdopdkeaa", sum := "47921cb0c4c36bf47b64164c393f76c547b0d89e25caeda7b3b6c31314cbc004", func := "portmanteau/portmanteaulaw09.MatchBack", spec := "matchBack", plainKeys := false, apart := false, narrowed := true }
def MatchBackUptoSaid : Prop := matchBackUptoRow.holds Try.pinned (OpenSpec.upto matchBackSpec)

/-- 'portmanteaulaw09.MatchJoins', WHERE WHAT IT READS IS OF BULK AT MOST 1048576: true; the input reads as it did. -/
def matchJoinsUptoRow : OpenClaim := { program := "ytaoodggdopdkeaa", sum := "47921cb0c4c36bf47b64164c393f76c547b0d89e25caeda7b3b6c31314cbc004", func := "portmanteau/portmanteaulaw09.MatchJoins", spec := "matchJoins", plainKeys := false, apart := false, narrowed := true }
def MatchJoinsUptoSaid : Prop := matchJoinsUptoRow.holds Try.pinned (OpenSpec.upto matchJoinsSpec)

end Rows
end Go.Proofs.Ytaoodggdopdkeaa
