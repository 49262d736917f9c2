/-
  No cell of these rows narrows 'for every input' (looked for: loops, veiled, ifaces, maps, wideKeys, modest, calm, conditions, laid).
  DERIVED. THE GIVEN ROWS OF THIS SEAT. 6 by the template 'for every input the law returns true; each argument reads behind the call as it read before'; 0 by the template 'total and deterministic' (their statements: YtflehenfikoniaaGreatTotals.lean).
  GIVEN WITH THE SEED: the statements are not yours to turn. If you find one false, say at which input.
  Laid BY PROGRAM, IN A SANDBOX (cutbox-rows.mjs): the forced cells as the released guide's own fill.sh prints them over the translation cb4852779fb36af0… (all of the seat's roots in one cut). By AI agents, Wed Nov 11 2026. No macro, syntax, notation, axiom, sorry.
-/
import Derived.Test.YtflehenfikoniaaGreatChecked
import GoSem.Claim
import GoSem.ClaimJoined
import GoSem.ClaimMapViews
import Derived.JoinedTies
import Derived.KernelRfl
namespace Go.Proofs.YtflehenfikoniaaGreat
/- THE CELL 'sum', in the pinned program and in every row, IS THE sha256 OF THE DUMP (.gsa) THAT YtflehenfikoniaaGreatProg.lean LOADS. Nothing in Lean hashes anything: it is a label: what it is worth is what the hold of that sum in a sandbox is worth. -/
noncomputable def Tryz.pinned : Pinned := { name := "ytflehenfikoniaagreat", sum := "cb4852779fb36af0fb536d39a31eb79bfb4469fdd2f621556dca48bb1811cd4a", checked := Tryz.checked }
namespace Rows
def none {H : Type} : Left H := { results := [], args := [] }

/-- 'tachographlaw12.SpaceMakes': WHATEVER THE INPUT: true; the input reads as it did. -/
def spaceMakesSpec : ChangeSpec := { name := "spaceMakes", fn := fun _ => fun
  | [d] => { results := [.lit (.bool true)], args := [d] }
  | _ => none }
def spaceMakesRow : OpenClaim := { program := "ytflehenfikoniaagreat", sum := "cb4852779fb36af0fb536d39a31eb79bfb4469fdd2f621556dca48bb1811cd4a", func := "tachograph/tachographlaw12.SpaceMakes", spec := "spaceMakes", unfollowed := true, recurses := true, plainKeys := false, apart := false }
def SpaceMakesSaid : Prop := spaceMakesRow.holds Tryz.pinned (OpenSpec.ofChange spaceMakesSpec)

/-- ITS FALSE NEIGHBOUR: 'it returns false'. Refute it at one input. -/
def spaceMakesWrong : ChangeSpec := { name := "spaceMakes", fn := fun _ => fun
  | [d] => { results := [.lit (.bool false)], args := [d] }
  | _ => none }
def SpaceMakesWrongFalsely : Prop := spaceMakesRow.holds Tryz.pinned (OpenSpec.ofChange spaceMakesWrong)

/-- 'tachographlaw12.SpaceIncr': WHATEVER THE INPUT: true; the input reads as it did. -/
def spaceIncrSpec : ChangeSpec := { name := "spaceIncr", fn := fun _ => fun
  | [d1, d2, d3] => { results := [.lit (.bool true)], args := [d1, d2, d3] }
  | _ => none }
def spaceIncrRow : OpenClaim := { program := "ytflehenfikoniaagreat", sum := "cb4852779fb36af0fb536d39a31eb79bfb4469fdd2f621556dca48bb1811cd4a", func := "tachograph/tachographlaw12.SpaceIncr", spec := "spaceIncr", unfollowed := true, recurses := true, plainKeys := false, apart := false }
def SpaceIncrSaid : Prop := spaceIncrRow.holds Tryz.pinned (OpenSpec.ofChange spaceIncrSpec)

/-- ITS FALSE NEIGHBOUR: 'it returns false'. Refute it at one input. -/
def spaceIncrWrong : ChangeSpec := { name := "spaceIncr", fn := fun _ => fun
  | [d1, d2, d3] => { results := [.lit (.bool false)], args := [d1, d2, d3] }
  | _ => none }
def SpaceIncrWrongFalsely : Prop := spaceIncrRow.holds Tryz.pinned (OpenSpec.ofChange spaceIncrWrong)

/-- 'tachographlaw12.SpaceKeys': WHATEVER THE INPUT: true; the input reads as it did. -/
def spaceKeysSpec : ChangeSpec := { name := "spaceKeys", fn := fun _ => fun
  | [d1, d2] => { results := [.lit (.bool true)], args := [d1, d2] }
  | _ => none }
def spaceKeysRow : OpenClaim := { program := "ytflehenfikoniaagreat", sum := "cb4852779fb36af0fb536d39a31eb79bfb4469fdd2f621556dca48bb1811cd4a", func := "tachograph/tachographlaw12.SpaceKeys", spec := "spaceKeys", unfollowed := true, recurses := true, plainKeys := false, apart := false }
def SpaceKeysSaid : Prop := spaceKeysRow.holds Tryz.pinned (OpenSpec.ofChange spaceKeysSpec)

/-- ITS FALSE NEIGHBOUR: 'it returns false'. Refute it at one input. -/
def spaceKeysWrong : ChangeSpec := { name := "spaceKeys", fn := fun _ => fun
  | [d1, d2] => { results := [.lit (.bool false)], args := [d1, d2] }
  | _ => none }
def SpaceKeysWrongFalsely : Prop := spaceKeysRow.holds Tryz.pinned (OpenSpec.ofChange spaceKeysWrong)

/-- 'tachographlaw12.SpaceWrites': WHATEVER THE INPUT: true; the input reads as it did. -/
def spaceWritesSpec : ChangeSpec := { name := "spaceWrites", fn := fun _ => fun
  | [d1, d2, d3] => { results := [.lit (.bool true)], args := [d1, d2, d3] }
  | _ => none }
def spaceWritesRow : OpenClaim := { program := "ytflehenfikoniaagreat", sum := "cb4852779fb36af0fb536d39a31eb79bfb4469fdd2f621556dca48bb1811cd4a", func := "tachograph/tachographlaw12.SpaceWrites", spec := "spaceWrites", unfollowed := true, recurses := true, plainKeys := false, apart := false }
def SpaceWritesSaid : Prop := spaceWritesRow.holds Tryz.pinned (OpenSpec.ofChange spaceWritesSpec)

/-- ITS FALSE NEIGHBOUR: 'it returns false'. Refute it at one input. -/
def spaceWritesWrong : ChangeSpec := { name := "spaceWrites", fn := fun _ => fun
  | [d1, d2, d3] => { results := [.lit (.bool false)], args := [d1, d2, d3] }
  | _ => none }
def SpaceWritesWrongFalsely : Prop := spaceWritesRow.holds Tryz.pinned (OpenSpec.ofChange spaceWritesWrong)

/-- 'tachographlaw12.SpaceRestores': WHATEVER THE INPUT: true; the input reads as it did. -/
def spaceRestoresSpec : ChangeSpec := { name := "spaceRestores", fn := fun _ => fun
  | [d1, d2, d3] => { results := [.lit (.bool true)], args := [d1, d2, d3] }
  | _ => none }
def spaceRestoresRow : OpenClaim := { program := "ytflehenfikoniaagreat", sum := "cb4852779fb36af0fb536d39a31eb79bfb4469fdd2f621556dca48bb1811cd4a", func := "tachograph/tachographlaw12.SpaceRestores", spec := "spaceRestores", unfollowed := true, recurses := true, plainKeys := false, apart := false }
def SpaceRestoresSaid : Prop := spaceRestoresRow.holds Tryz.pinned (OpenSpec.ofChange spaceRestoresSpec)

/-- ITS FALSE NEIGHBOUR: 'it returns false'. Refute it at one input. -/
def spaceRestoresWrong : ChangeSpec := { name := "spaceRestores", fn := fun _ => fun
  | [d1, d2, d3] => { results := [.lit (.bool false)], args := [d1, d2, d3] }
  | _ => none }
def SpaceRestoresWrongFalsely : Prop := spaceRestoresRow.holds Tryz.pinned (OpenSpec.ofChange spaceRestoresWrong)

/-- 'tachographlaw12.SpaceNil': WHATEVER THE INPUT: true; the input reads as it did. -/
def spaceNilSpec : ChangeSpec := { name := "spaceNil", fn := fun _ => fun
  | [d] => { results := [.lit (.bool true)], args := [d] }
  | _ => none }
def spaceNilRow : OpenClaim := { program := "ytflehenfikoniaagreat", sum := "cb4852779fb36af0fb536d39a31eb79bfb4469fdd2f621556dca48bb1811cd4a", func := "tachograph/tachographlaw12.SpaceNil", spec := "spaceNil", unfollowed := true, recurses := true, plainKeys := false, apart := false }
def SpaceNilSaid : Prop := spaceNilRow.holds Tryz.pinned (OpenSpec.ofChange spaceNilSpec)

/-- ITS FALSE NEIGHBOUR: 'it returns false'. Refute it at one input. -/
def spaceNilWrong : ChangeSpec := { name := "spaceNil", fn := fun _ => fun
  | [d] => { results := [.lit (.bool false)], args := [d] }
  | _ => none }
def SpaceNilWrongFalsely : Prop := spaceNilRow.holds Tryz.pinned (OpenSpec.ofChange spaceNilWrong)

/- THE SECOND FORM. 'bulk': how many values and letters a reading holds, each counted each time it is reached (what is shared counts as often as it is met; a slice's spare places count too). A statement '..UptoSaid' is the law's where the arguments, and the package variables that the reading takes, are together of bulk at most 1048576: NARROWER than '..Said'. Prove '..Said' where nothing that the law and all that it calls make is longer than what came in: it says more and counts as full. Else prove '..UptoSaid'. A law counts once. -/
mutual
def uptoBulk {H : Type} : DataW H → Nat
  | .lit (.string bytes) => bytes.length + 1
  | .lit _ => 1
  | .nil => 1
  | .ptr d => uptoBulk d + 1
  | .slice elems spare => uptoBulkAll elems + uptoBulkAll spare + 1
  | .agg parts => uptoBulkAll parts + 1
  | .iface _ d => uptoBulk d + 1
  | .map entries => uptoBulkEntries entries + 1
  | .held _ => 1
def uptoBulkAll {H : Type} : List (DataW H) → Nat
  | [] => 0
  | d :: r => uptoBulk d + uptoBulkAll r
def uptoBulkEntries {H : Type} : List (Lit × DataW H) → Nat
  | [] => 0
  | x :: r => uptoBulkEntry x + uptoBulkEntries r
def uptoBulkEntry {H : Type} : Lit × DataW H → Nat
  | (.string bytes, d) => bytes.length + uptoBulk d + 1
  | (_, d) => uptoBulk d + 1
 end
def uptoSmall : (H : Type) → List (DataW H) → Bool := fun _ ds => decide (uptoBulkAll ds ≤ 1048576)
def OpenSpec.upto (s : _root_.Go.ChangeSpec) : _root_.Go.OpenSpec := { _root_.Go.OpenSpec.ofChange s with cond := some uptoSmall }

/-- 'tachographlaw12.SpaceMakes', WHERE WHAT IT READS IS OF BULK AT MOST 1048576: true; the input reads as it did. -/
def spaceMakesUptoRow : OpenClaim := { program := "ytflehenfikoniaagreat", sum := "cb4852779fb36af0fb536d39a31eb79bfb4469fdd2f621556dca48bb1811cd4a", func := "tachograph/tachographlaw12.SpaceMakes", spec := "spaceMakes", unfollowed := true, recurses := true, plainKeys := false, apart := false, narrowed := true }
def SpaceMakesUptoSaid : Prop := spaceMakesUptoRow.holds Tryz.pinned (OpenSpec.upto spaceMakesSpec)

/-- 'tachographlaw12.SpaceIncr', WHERE WHAT IT READS IS OF BULK AT MOST 1048576: true; the input reads as it did. -/
def spaceIncrUptoRow : OpenClaim := { program := "ytflehenfikoniaagreat", sum := "cb4852779fb36af0fb536d39a31eb79bfb4469fdd2f621556dca48bb1811cd4a", func := "tachograph/tachographlaw12.SpaceIncr", spec := "spaceIncr", unfollowed := true, recurses := true, plainKeys := false, apart := false, narrowed := true }
def SpaceIncrUptoSaid : Prop := spaceIncrUptoRow.holds Tryz.pinned (OpenSpec.upto spaceIncrSpec)

/-- 'tachographlaw12.SpaceKeys', WHERE WHAT IT READS IS OF BULK AT MOST 1048576: true; the input reads as it did. -/
def spaceKeysUptoRow : OpenClaim := { program := "ytflehenfikoniaagreat", sum := "cb4852779fb36af0fb536d39a31eb79bfb4469fdd2f621556dca48bb1811cd4a", func := "tachograph/tachographlaw12.SpaceKeys", spec := "spaceKeys", unfollowed := true, recurses := true, plainKeys := false, apart := false, narrowed := true }
def SpaceKeysUptoSaid : Prop := spaceKeysUptoRow.holds Tryz.pinned (OpenSpec.upto spaceKeysSpec)

/-- 'tachographlaw12.SpaceWrites', WHERE WHAT IT READS IS OF BULK AT MOST 1048576: true; the input reads as it did. -/
def spaceWritesUptoRow : OpenClaim := { program := "ytflehenfikoniaagreat", sum := "cb4852779fb36af0fb536d39a31eb79bfb4469fdd2f621556dca48bb1811cd4a", func := "tachograph/tachographlaw12.SpaceWrites", spec := "spaceWrites", unfollowed := true, recurses := true, plainKeys := false, apart := false, narrowed := true }
def SpaceWritesUptoSaid : Prop := spaceWritesUptoRow.holds Tryz.pinned (OpenSpec.upto spaceWritesSpec)

/-- 'tachographlaw12.SpaceRestores', WHERE WHAT IT READS IS OF BULK AT MOST 1048576: true; the input reads as it did. -/
def spaceRestoresUptoRow : OpenClaim := { program := "ytflehenfikoniaagreat", sum := "cb4852779fb36af0fb536d39a31eb79bfb4469fdd2f621556dca48bb1811cd4a", func := "tachograph/tachographlaw12.SpaceRestores", spec := "spaceRestores", unfollowed := true, recurses := true, plainKeys := false, apart := false, narrowed := true }
def SpaceRestoresUptoSaid : Prop := spaceRestoresUptoRow.holds Tryz.pinned (OpenSpec.upto spaceRestoresSpec)

/-- 'tachographlaw12.SpaceNil', WHERE WHAT IT READS IS OF BULK AT MOST 1048576: true; the input reads as it did. -/
def spaceNilUptoRow : OpenClaim := { program := "ytflehenfikoniaagreat", sum := "cb4852779fb36af0fb536d39a31eb79bfb4469fdd2f621556dca48bb1811cd4a", func := "tachograph/tachographlaw12.SpaceNil", spec := "spaceNil", unfollowed := true, recurses := true, plainKeys := false, apart := false, narrowed := true }
def SpaceNilUptoSaid : Prop := spaceNilUptoRow.holds Tryz.pinned (OpenSpec.upto spaceNilSpec)

end Rows
end Go.Proofs.YtflehenfikoniaaGreat
