/-
  No cell of these rows narrows 'for every input' (looked for: loops, veiled, ifaces, maps, wideKeys, modest, calm, conditions, laid).
  DERIVED. THE GIVEN ROWS OF THIS SEAT. 8 by the template 'for every input the law returns true; each argument reads behind the call as it read before'; 0 by the template 'total and deterministic' (their statements: YtaejmcgcfopmkaaTotals.lean).
  GIVEN WITH THE SEED: the statements are not yours to turn. If you find one false, say at which input.
  Laid BY PROGRAM, IN A SANDBOX (cutbox-rows.mjs): the forced cells as the released guide's own fill.sh prints them over the translation 418186c97bdba8a1… (all of the seat's roots in one cut). By AI agents, Wed Nov 11 2026. No macro, syntax, notation, axiom, sorry.
-/
import Derived.Test.YtaejmcgcfopmkaaChecked
import GoSem.Claim
import GoSem.ClaimJoined
import GoSem.ClaimMapViews
import Derived.JoinedTies
import Derived.KernelRfl
namespace Go.Proofs.Ytaejmcgcfopmkaa
/- THE CELL 'sum', in the pinned program and in every row, IS THE sha256 OF THE DUMP (.gsa) THAT YtaejmcgcfopmkaaProg.lean LOADS. Nothing in Lean hashes anything: it is a label: what it is worth is what the hold of that sum in a sandbox is worth. -/
noncomputable def Try.pinned : Pinned := { name := "ytaejmcgcfopmkaa", sum := "418186c97bdba8a12123b74d8cb9bbd7455cc26f49989734aca54f397d112862", checked := Try.checked }
namespace Rows
def none {H : Type} : Left H := { results := [], args := [] }

/-- 'tachographlaw06.AggTells': WHATEVER THE INPUT: true; the input reads as it did. -/
def aggTellsSpec : ChangeSpec := { name := "aggTells", fn := fun _ => fun
  | [d1, d2, d3] => { results := [.lit (.bool true)], args := [d1, d2, d3] }
  | _ => none }
def aggTellsRow : OpenClaim := { program := "ytaejmcgcfopmkaa", sum := "418186c97bdba8a12123b74d8cb9bbd7455cc26f49989734aca54f397d112862", func := "tachograph/tachographlaw06.AggTells", spec := "aggTells", unfollowed := true, recurses := true, apart := false }
def AggTellsSaid : Prop := aggTellsRow.holds Try.pinned (OpenSpec.ofChange aggTellsSpec)

/-- ITS FALSE NEIGHBOUR: 'it returns false'. Refute it at one input. -/
def aggTellsWrong : ChangeSpec := { name := "aggTells", fn := fun _ => fun
  | [d1, d2, d3] => { results := [.lit (.bool false)], args := [d1, d2, d3] }
  | _ => none }
def AggTellsWrongFalsely : Prop := aggTellsRow.holds Try.pinned (OpenSpec.ofChange aggTellsWrong)

/-- 'tachographlaw06.AggFolds': WHATEVER THE INPUT: true; the input reads as it did. -/
def aggFoldsSpec : ChangeSpec := { name := "aggFolds", fn := fun _ => fun
  | [d1, d2] => { results := [.lit (.bool true)], args := [d1, d2] }
  | _ => none }
def aggFoldsRow : OpenClaim := { program := "ytaejmcgcfopmkaa", sum := "418186c97bdba8a12123b74d8cb9bbd7455cc26f49989734aca54f397d112862", func := "tachograph/tachographlaw06.AggFolds", spec := "aggFolds", unfollowed := true, recurses := true, apart := false }
def AggFoldsSaid : Prop := aggFoldsRow.holds Try.pinned (OpenSpec.ofChange aggFoldsSpec)

/-- ITS FALSE NEIGHBOUR: 'it returns false'. Refute it at one input. -/
def aggFoldsWrong : ChangeSpec := { name := "aggFolds", fn := fun _ => fun
  | [d1, d2] => { results := [.lit (.bool false)], args := [d1, d2] }
  | _ => none }
def AggFoldsWrongFalsely : Prop := aggFoldsRow.holds Try.pinned (OpenSpec.ofChange aggFoldsWrong)

/-- 'tachographlaw06.AggBuckets': WHATEVER THE INPUT: true; the input reads as it did. -/
def aggBucketsSpec : ChangeSpec := { name := "aggBuckets", fn := fun _ => fun
  | [d1, d2, d3] => { results := [.lit (.bool true)], args := [d1, d2, d3] }
  | _ => none }
def aggBucketsRow : OpenClaim := { program := "ytaejmcgcfopmkaa", sum := "418186c97bdba8a12123b74d8cb9bbd7455cc26f49989734aca54f397d112862", func := "tachograph/tachographlaw06.AggBuckets", spec := "aggBuckets", unfollowed := true, recurses := true, apart := false }
def AggBucketsSaid : Prop := aggBucketsRow.holds Try.pinned (OpenSpec.ofChange aggBucketsSpec)

/-- ITS FALSE NEIGHBOUR: 'it returns false'. Refute it at one input. -/
def aggBucketsWrong : ChangeSpec := { name := "aggBuckets", fn := fun _ => fun
  | [d1, d2, d3] => { results := [.lit (.bool false)], args := [d1, d2, d3] }
  | _ => none }
def AggBucketsWrongFalsely : Prop := aggBucketsRow.holds Try.pinned (OpenSpec.ofChange aggBucketsWrong)

/-- 'tachographlaw06.AggTimes': WHATEVER THE INPUT: true; the input reads as it did. -/
def aggTimesSpec : ChangeSpec := { name := "aggTimes", fn := fun _ => fun
  | [d1, d2, d3] => { results := [.lit (.bool true)], args := [d1, d2, d3] }
  | _ => none }
def aggTimesRow : OpenClaim := { program := "ytaejmcgcfopmkaa", sum := "418186c97bdba8a12123b74d8cb9bbd7455cc26f49989734aca54f397d112862", func := "tachograph/tachographlaw06.AggTimes", spec := "aggTimes", unfollowed := true, recurses := true, apart := false }
def AggTimesSaid : Prop := aggTimesRow.holds Try.pinned (OpenSpec.ofChange aggTimesSpec)

/-- ITS FALSE NEIGHBOUR: 'it returns false'. Refute it at one input. -/
def aggTimesWrong : ChangeSpec := { name := "aggTimes", fn := fun _ => fun
  | [d1, d2, d3] => { results := [.lit (.bool false)], args := [d1, d2, d3] }
  | _ => none }
def AggTimesWrongFalsely : Prop := aggTimesRow.holds Try.pinned (OpenSpec.ofChange aggTimesWrong)

/-- 'tachographlaw06.AggOne': WHATEVER THE INPUT: true; the input reads as it did. -/
def aggOneSpec : ChangeSpec := { name := "aggOne", fn := fun _ => fun
  | [d1, d2, d3] => { results := [.lit (.bool true)], args := [d1, d2, d3] }
  | _ => none }
def aggOneRow : OpenClaim := { program := "ytaejmcgcfopmkaa", sum := "418186c97bdba8a12123b74d8cb9bbd7455cc26f49989734aca54f397d112862", func := "tachograph/tachographlaw06.AggOne", spec := "aggOne", unfollowed := true, recurses := true, apart := false }
def AggOneSaid : Prop := aggOneRow.holds Try.pinned (OpenSpec.ofChange aggOneSpec)

/-- ITS FALSE NEIGHBOUR: 'it returns false'. Refute it at one input. -/
def aggOneWrong : ChangeSpec := { name := "aggOne", fn := fun _ => fun
  | [d1, d2, d3] => { results := [.lit (.bool false)], args := [d1, d2, d3] }
  | _ => none }
def AggOneWrongFalsely : Prop := aggOneRow.holds Try.pinned (OpenSpec.ofChange aggOneWrong)

/-- 'tachographlaw06.AggCounts': WHATEVER THE INPUT: true; the input reads as it did. -/
def aggCountsSpec : ChangeSpec := { name := "aggCounts", fn := fun _ => fun
  | [d1, d2] => { results := [.lit (.bool true)], args := [d1, d2] }
  | _ => none }
def aggCountsRow : OpenClaim := { program := "ytaejmcgcfopmkaa", sum := "418186c97bdba8a12123b74d8cb9bbd7455cc26f49989734aca54f397d112862", func := "tachograph/tachographlaw06.AggCounts", spec := "aggCounts", unfollowed := true, recurses := true, apart := false }
def AggCountsSaid : Prop := aggCountsRow.holds Try.pinned (OpenSpec.ofChange aggCountsSpec)

/-- ITS FALSE NEIGHBOUR: 'it returns false'. Refute it at one input. -/
def aggCountsWrong : ChangeSpec := { name := "aggCounts", fn := fun _ => fun
  | [d1, d2] => { results := [.lit (.bool false)], args := [d1, d2] }
  | _ => none }
def AggCountsWrongFalsely : Prop := aggCountsRow.holds Try.pinned (OpenSpec.ofChange aggCountsWrong)

/-- 'tachographlaw06.AggParts': WHATEVER THE INPUT: true; the input reads as it did. -/
def aggPartsSpec : ChangeSpec := { name := "aggParts", fn := fun _ => fun
  | [d1, d2, d3] => { results := [.lit (.bool true)], args := [d1, d2, d3] }
  | _ => none }
def aggPartsRow : OpenClaim := { program := "ytaejmcgcfopmkaa", sum := "418186c97bdba8a12123b74d8cb9bbd7455cc26f49989734aca54f397d112862", func := "tachograph/tachographlaw06.AggParts", spec := "aggParts", unfollowed := true, recurses := true, apart := false }
def AggPartsSaid : Prop := aggPartsRow.holds Try.pinned (OpenSpec.ofChange aggPartsSpec)

/-- ITS FALSE NEIGHBOUR: 'it returns false'. Refute it at one input. -/
def aggPartsWrong : ChangeSpec := { name := "aggParts", fn := fun _ => fun
  | [d1, d2, d3] => { results := [.lit (.bool false)], args := [d1, d2, d3] }
  | _ => none }
def AggPartsWrongFalsely : Prop := aggPartsRow.holds Try.pinned (OpenSpec.ofChange aggPartsWrong)

/-- 'tachographlaw06.AggNil': WHATEVER THE INPUT: true; the input reads as it did. -/
def aggNilSpec : ChangeSpec := { name := "aggNil", fn := fun _ => fun
  | [d] => { results := [.lit (.bool true)], args := [d] }
  | _ => none }
def aggNilRow : OpenClaim := { program := "ytaejmcgcfopmkaa", sum := "418186c97bdba8a12123b74d8cb9bbd7455cc26f49989734aca54f397d112862", func := "tachograph/tachographlaw06.AggNil", spec := "aggNil", unfollowed := true, recurses := true, apart := false }
def AggNilSaid : Prop := aggNilRow.holds Try.pinned (OpenSpec.ofChange aggNilSpec)

/-- ITS FALSE NEIGHBOUR: 'it returns false'. Refute it at one input. -/
def aggNilWrong : ChangeSpec := { name := "aggNil", fn := fun _ => fun
  | [d] => { results := [.lit (.bool false)], args := [d] }
  | _ => none }
def AggNilWrongFalsely : Prop := aggNilRow.holds Try.pinned (OpenSpec.ofChange aggNilWrong)

/- THE SECOND FORM. 'bulk': how many values and letters a reading holds, each counted each time it is reached (what is shared counts as often as it is met; a slice's spare places count too). A statement '..UptoSaid' is the law's where the arguments, and the package variables that the reading takes, are together of bulk at most 1048576: NARROWER than '..Said'. Prove '..Said' where nothing that the law and all that it calls make is longer than what came in: it says more and counts as full. Else prove '..UptoSaid'. A law counts once. -/
mutual
def uptoBulk {H : Type} : DataW H → Nat
  | .lit (.string bytes) => bytes.length + 1
  | .lit _ => 1
  | .nil => 1
  | .ptr d => uptoBulk d + 1
  | .slice elems spare => uptoBulkAll elems + uptoBulkAll spare + 1
  | .agg parts => uptoBulkAll parts + 1
  | .iface _ d => uptoBulk d + 1
  | .map entries => uptoBulkEntries entries + 1
  | .held _ => 1
def uptoBulkAll {H : Type} : List (DataW H) → Nat
  | [] => 0
  | d :: r => uptoBulk d + uptoBulkAll r
def uptoBulkEntries {H : Type} : List (Lit × DataW H) → Nat
  | [] => 0
  | x :: r => uptoBulkEntry x + uptoBulkEntries r
def uptoBulkEntry {H : Type} : Lit × DataW H → Nat
  | (.string bytes, d) => bytes.length + uptoBulk d + 1
  | (_, d) => uptoBulk d + 1
 end
def uptoSmall : (H : Type) → List (DataW H) → Bool := fun _ ds => decide (uptoBulkAll ds ≤ 1048576)
def OpenSpec.upto (s : _root_.Go.ChangeSpec) : _root_.Go.OpenSpec := { _root_.Go.OpenSpec.ofChange s with cond := some uptoSmall }

/-- 'tachographlaw06.AggTells', WHERE WHAT IT READS IS OF BULK AT MOST 1048576: true; the input reads as it did. -/
def aggTellsUptoRow : OpenClaim := { program := "ytaejmcgcfopmkaa", sum := "418186c97bdba8a12123b74d8cb9bbd7455cc26f49989734aca54f397d112862", func := "tachograph/tachographlaw06.AggTells", spec := "aggTells", unfollowed := true, recurses := true, apart := false, narrowed := true }
def AggTellsUptoSaid : Prop := aggTellsUptoRow.holds Try.pinned (OpenSpec.upto aggTellsSpec)

/-- 'tachographlaw06.AggFolds', WHERE WHAT IT READS IS OF BULK AT MOST 1048576: true; the input reads as it did. -/
def aggFoldsUptoRow : OpenClaim := { program := "ytaejmcgcfopmkaa", sum := "418186c97bdba8a12123b74d8cb9bbd7455cc26f49989734aca54f397d112862", func := "tachograph/tachographlaw06.AggFolds", spec := "aggFolds", unfollowed := true, recurses := true, apart := false, narrowed := true }
def AggFoldsUptoSaid : Prop := aggFoldsUptoRow.holds Try.pinned (OpenSpec.upto aggFoldsSpec)

/-- 'tachographlaw06.AggBuckets', WHERE WHAT IT READS IS OF BULK AT MOST 1048576: true; the input reads as it did. -/
def aggBucketsUptoRow : OpenClaim := { program := "ytaejmcgcfopmkaa", sum := "418186c97bdba8a12123b74d8cb9bbd7455cc26f49989734aca54f397d112862", func := "tachograph/tachographlaw06.AggBuckets", spec := "aggBuckets", unfollowed := true, recurses := true, apart := false, narrowed := true }
def AggBucketsUptoSaid : Prop := aggBucketsUptoRow.holds Try.pinned (OpenSpec.upto aggBucketsSpec)

/-- 'tachographlaw06.AggTimes', WHERE WHAT IT READS IS OF BULK AT MOST 1048576: true; the input reads as it did. -/
def aggTimesUptoRow : OpenClaim := { program := "ytaejmcgcfopmkaa", sum := "418186c97bdba8a12123b74d8cb9bbd7455cc26f49989734aca54f397d112862", func := "tachograph/tachographlaw06.AggTimes", spec := "aggTimes", unfollowed := true, recurses := true, apart := false, narrowed := true }
def AggTimesUptoSaid : Prop := aggTimesUptoRow.holds Try.pinned (OpenSpec.upto aggTimesSpec)

/-- 'tachographlaw06.AggOne', WHERE WHAT IT READS IS OF BULK AT MOST 1048576: true; the input reads as it did. -/
def aggOneUptoRow : OpenClaim := { program := "ytaejmcgcfopmkaa", sum := "418186c97bdba8a12123b74d8cb9bbd7455cc26f49989734aca54f397d112862", func := "tachograph/tachographlaw06.AggOne", spec := "aggOne", unfollowed := true, recurses := true, apart := false, narrowed := true }
def AggOneUptoSaid : Prop := aggOneUptoRow.holds Try.pinned (OpenSpec.upto aggOneSpec)

/-- 'tachographlaw06.AggCounts', WHERE WHAT IT READS IS OF BULK AT MOST 1048576: true; the input reads as it did. -/
def aggCountsUptoRow : OpenClaim := { program := "ytaejmcgcfopmkaa", sum := "418186c97bdba8a12123b74d8cb9bbd7455cc26f49989734aca54f397d112862", func := "tachograph/tachographlaw06.AggCounts", spec := "aggCounts", unfollowed := true, recurses := true, apart := false, narrowed := true }
def AggCountsUptoSaid : Prop := aggCountsUptoRow.holds Try.pinned (OpenSpec.upto aggCountsSpec)

/-- 'tachographlaw06.AggParts', WHERE WHAT IT READS IS OF BULK AT MOST 1048576: true; the input reads as it did. -/
def aggPartsUptoRow : OpenClaim := { program := "ytaejmcgcfopmkaa", sum := "418186c97bdba8a12123b74d8cb9bbd7455cc26f49989734aca54f397d112862", func := "tachograph/tachographlaw06.AggParts", spec := "aggParts", unfollowed := true, recurses := true, apart := false, narrowed := true }
def AggPartsUptoSaid : Prop := aggPartsUptoRow.holds Try.pinned (OpenSpec.upto aggPartsSpec)

/-- 'tachographlaw06.AggNil', WHERE WHAT IT READS IS OF BULK AT MOST 1048576: true; the input reads as it did. -/
def aggNilUptoRow : OpenClaim := { program := "ytaejmcgcfopmkaa", sum := "418186c97bdba8a12123b74d8cb9bbd7455cc26f49989734aca54f397d112862", func := "tachograph/tachographlaw06.AggNil", spec := "aggNil", unfollowed := true, recurses := true, apart := false, narrowed := true }
def AggNilUptoSaid : Prop := aggNilUptoRow.holds Try.pinned (OpenSpec.upto aggNilSpec)

end Rows
end Go.Proofs.Ytaejmcgcfopmkaa
