/-
  No cell of these rows narrows 'for every input' (looked for: loops, veiled, ifaces, maps, wideKeys, modest, calm, conditions, laid).
  DERIVED. THE GIVEN ROWS OF THIS SEAT. 12 by the template 'for every input the law returns true; each argument reads behind the call as it read before'; 0 by the template 'total and deterministic' (their statements: YtapjijhjnloimaaTotals.lean).
  GIVEN WITH THE SEED: the statements are not yours to turn. If you find one false, say at which input.
  Laid BY PROGRAM, IN A SANDBOX (cutbox-rows.mjs): the forced cells as the released guide's own fill.sh prints them over the translation 5589a975f589c79b… (all of the seat's roots in one cut). By AI agents, Wed Nov 11 2026. No macro, syntax, notation, axiom, sorry.
-/
import Derived.Test.YtapjijhjnloimaaChecked
import GoSem.Claim
import GoSem.ClaimJoined
import GoSem.ClaimMapViews
import Derived.JoinedTies
import Derived.KernelRfl
namespace Go.Proofs.Ytapjijhjnloimaa
/- THE CELL 'sum', in the pinned program and in every row, IS THE sha256 OF THE DUMP (.gsa) THAT YtapjijhjnloimaaProg.lean LOADS. Nothing in Lean hashes anything: it is a label: what it is worth is what the hold of that sum in a sandbox is worth. -/
noncomputable def Try.pinned : Pinned := { name := "ytapjijhjnloimaa", sum := "5589a975f589c79b663915f6391f3f23f191c63fbd7d6b072904ce1107d67d12", checked := Try.checked }
namespace Rows
def none {H : Type} : Left H := { results := [], args := [] }

/-- 'tachographlaw05.SeriesOrders': WHATEVER THE INPUT: true; the input reads as it did. -/
def seriesOrdersSpec : ChangeSpec := { name := "seriesOrders", fn := fun _ => fun
  | [d1, d2] => { results := [.lit (.bool true)], args := [d1, d2] }
  | _ => none }
def seriesOrdersRow : OpenClaim := { program := "ytapjijhjnloimaa", sum := "5589a975f589c79b663915f6391f3f23f191c63fbd7d6b072904ce1107d67d12", func := "tachograph/tachographlaw05.SeriesOrders", spec := "seriesOrders", unfollowed := true, recurses := true, apart := false }
def SeriesOrdersSaid : Prop := seriesOrdersRow.holds Try.pinned (OpenSpec.ofChange seriesOrdersSpec)

/-- ITS FALSE NEIGHBOUR: 'it returns false'. Refute it at one input. -/
def seriesOrdersWrong : ChangeSpec := { name := "seriesOrders", fn := fun _ => fun
  | [d1, d2] => { results := [.lit (.bool false)], args := [d1, d2] }
  | _ => none }
def SeriesOrdersWrongFalsely : Prop := seriesOrdersRow.holds Try.pinned (OpenSpec.ofChange seriesOrdersWrong)

/-- 'tachographlaw05.SeriesRanges': WHATEVER THE INPUT: true; the input reads as it did. -/
def seriesRangesSpec : ChangeSpec := { name := "seriesRanges", fn := fun _ => fun
  | [d1, d2] => { results := [.lit (.bool true)], args := [d1, d2] }
  | _ => none }
def seriesRangesRow : OpenClaim := { program := "ytapjijhjnloimaa", sum := "5589a975f589c79b663915f6391f3f23f191c63fbd7d6b072904ce1107d67d12", func := "tachograph/tachographlaw05.SeriesRanges", spec := "seriesRanges", unfollowed := true, recurses := true, apart := false }
def SeriesRangesSaid : Prop := seriesRangesRow.holds Try.pinned (OpenSpec.ofChange seriesRangesSpec)

/-- ITS FALSE NEIGHBOUR: 'it returns false'. Refute it at one input. -/
def seriesRangesWrong : ChangeSpec := { name := "seriesRanges", fn := fun _ => fun
  | [d1, d2] => { results := [.lit (.bool false)], args := [d1, d2] }
  | _ => none }
def SeriesRangesWrongFalsely : Prop := seriesRangesRow.holds Try.pinned (OpenSpec.ofChange seriesRangesWrong)

/-- 'tachographlaw05.SeriesMerges': WHATEVER THE INPUT: true; the input reads as it did. -/
def seriesMergesSpec : ChangeSpec := { name := "seriesMerges", fn := fun _ => fun
  | [d1, d2, d3] => { results := [.lit (.bool true)], args := [d1, d2, d3] }
  | _ => none }
def seriesMergesRow : OpenClaim := { program := "ytapjijhjnloimaa", sum := "5589a975f589c79b663915f6391f3f23f191c63fbd7d6b072904ce1107d67d12", func := "tachograph/tachographlaw05.SeriesMerges", spec := "seriesMerges", unfollowed := true, recurses := true, apart := false }
def SeriesMergesSaid : Prop := seriesMergesRow.holds Try.pinned (OpenSpec.ofChange seriesMergesSpec)

/-- ITS FALSE NEIGHBOUR: 'it returns false'. Refute it at one input. -/
def seriesMergesWrong : ChangeSpec := { name := "seriesMerges", fn := fun _ => fun
  | [d1, d2, d3] => { results := [.lit (.bool false)], args := [d1, d2, d3] }
  | _ => none }
def SeriesMergesWrongFalsely : Prop := seriesMergesRow.holds Try.pinned (OpenSpec.ofChange seriesMergesWrong)

/-- 'tachographlaw05.SeriesGone': WHATEVER THE INPUT: true; the input reads as it did. -/
def seriesGoneSpec : ChangeSpec := { name := "seriesGone", fn := fun _ => fun
  | [d1, d2, d3] => { results := [.lit (.bool true)], args := [d1, d2, d3] }
  | _ => none }
def seriesGoneRow : OpenClaim := { program := "ytapjijhjnloimaa", sum := "5589a975f589c79b663915f6391f3f23f191c63fbd7d6b072904ce1107d67d12", func := "tachograph/tachographlaw05.SeriesGone", spec := "seriesGone", unfollowed := true, recurses := true, apart := false }
def SeriesGoneSaid : Prop := seriesGoneRow.holds Try.pinned (OpenSpec.ofChange seriesGoneSpec)

/-- ITS FALSE NEIGHBOUR: 'it returns false'. Refute it at one input. -/
def seriesGoneWrong : ChangeSpec := { name := "seriesGone", fn := fun _ => fun
  | [d1, d2, d3] => { results := [.lit (.bool false)], args := [d1, d2, d3] }
  | _ => none }
def SeriesGoneWrongFalsely : Prop := seriesGoneRow.holds Try.pinned (OpenSpec.ofChange seriesGoneWrong)

/-- 'tachographlaw05.SeriesLine': WHATEVER THE INPUT: true; the input reads as it did. -/
def seriesLineSpec : ChangeSpec := { name := "seriesLine", fn := fun _ => fun
  | [d1, d2, d3] => { results := [.lit (.bool true)], args := [d1, d2, d3] }
  | _ => none }
def seriesLineRow : OpenClaim := { program := "ytapjijhjnloimaa", sum := "5589a975f589c79b663915f6391f3f23f191c63fbd7d6b072904ce1107d67d12", func := "tachograph/tachographlaw05.SeriesLine", spec := "seriesLine", unfollowed := true, recurses := true, apart := false }
def SeriesLineSaid : Prop := seriesLineRow.holds Try.pinned (OpenSpec.ofChange seriesLineSpec)

/-- ITS FALSE NEIGHBOUR: 'it returns false'. Refute it at one input. -/
def seriesLineWrong : ChangeSpec := { name := "seriesLine", fn := fun _ => fun
  | [d1, d2, d3] => { results := [.lit (.bool false)], args := [d1, d2, d3] }
  | _ => none }
def SeriesLineWrongFalsely : Prop := seriesLineRow.holds Try.pinned (OpenSpec.ofChange seriesLineWrong)

/-- 'tachographlaw05.SeriesNil': WHATEVER THE INPUT: true; the input reads as it did. -/
def seriesNilSpec : ChangeSpec := { name := "seriesNil", fn := fun _ => fun
  | [d] => { results := [.lit (.bool true)], args := [d] }
  | _ => none }
def seriesNilRow : OpenClaim := { program := "ytapjijhjnloimaa", sum := "5589a975f589c79b663915f6391f3f23f191c63fbd7d6b072904ce1107d67d12", func := "tachograph/tachographlaw05.SeriesNil", spec := "seriesNil", unfollowed := true, recurses := true, apart := false }
def SeriesNilSaid : Prop := seriesNilRow.holds Try.pinned (OpenSpec.ofChange seriesNilSpec)

/-- ITS FALSE NEIGHBOUR: 'it returns false'. Refute it at one input. -/
def seriesNilWrong : ChangeSpec := { name := "seriesNil", fn := fun _ => fun
  | [d] => { results := [.lit (.bool false)], args := [d] }
  | _ => none }
def SeriesNilWrongFalsely : Prop := seriesNilRow.holds Try.pinned (OpenSpec.ofChange seriesNilWrong)

/-- 'tachographlaw05.SeriesRestores': WHATEVER THE INPUT: true; the input reads as it did. -/
def seriesRestoresSpec : ChangeSpec := { name := "seriesRestores", fn := fun _ => fun
  | [d1, d2, d3] => { results := [.lit (.bool true)], args := [d1, d2, d3] }
  | _ => none }
def seriesRestoresRow : OpenClaim := { program := "ytapjijhjnloimaa", sum := "5589a975f589c79b663915f6391f3f23f191c63fbd7d6b072904ce1107d67d12", func := "tachograph/tachographlaw05.SeriesRestores", spec := "seriesRestores", unfollowed := true, recurses := true, apart := false }
def SeriesRestoresSaid : Prop := seriesRestoresRow.holds Try.pinned (OpenSpec.ofChange seriesRestoresSpec)

/-- ITS FALSE NEIGHBOUR: 'it returns false'. Refute it at one input. -/
def seriesRestoresWrong : ChangeSpec := { name := "seriesRestores", fn := fun _ => fun
  | [d1, d2, d3] => { results := [.lit (.bool false)], args := [d1, d2, d3] }
  | _ => none }
def SeriesRestoresWrongFalsely : Prop := seriesRestoresRow.holds Try.pinned (OpenSpec.ofChange seriesRestoresWrong)

/-- 'tachographlaw04.ChunkRises': WHATEVER THE INPUT: true; the input reads as it did. -/
def chunkRisesSpec : ChangeSpec := { name := "chunkRises", fn := fun _ => fun
  | [d1, d2] => { results := [.lit (.bool true)], args := [d1, d2] }
  | _ => none }
def chunkRisesRow : OpenClaim := { program := "ytapjijhjnloimaa", sum := "5589a975f589c79b663915f6391f3f23f191c63fbd7d6b072904ce1107d67d12", func := "tachograph/tachographlaw04.ChunkRises", spec := "chunkRises", unfollowed := true, recurses := true, apart := false }
def ChunkRisesSaid : Prop := chunkRisesRow.holds Try.pinned (OpenSpec.ofChange chunkRisesSpec)

/-- ITS FALSE NEIGHBOUR: 'it returns false'. Refute it at one input. -/
def chunkRisesWrong : ChangeSpec := { name := "chunkRises", fn := fun _ => fun
  | [d1, d2] => { results := [.lit (.bool false)], args := [d1, d2] }
  | _ => none }
def ChunkRisesWrongFalsely : Prop := chunkRisesRow.holds Try.pinned (OpenSpec.ofChange chunkRisesWrong)

/-- 'tachographlaw04.ChunkHolds': WHATEVER THE INPUT: true; the input reads as it did. -/
def chunkHoldsSpec : ChangeSpec := { name := "chunkHolds", fn := fun _ => fun
  | [d1, d2] => { results := [.lit (.bool true)], args := [d1, d2] }
  | _ => none }
def chunkHoldsRow : OpenClaim := { program := "ytapjijhjnloimaa", sum := "5589a975f589c79b663915f6391f3f23f191c63fbd7d6b072904ce1107d67d12", func := "tachograph/tachographlaw04.ChunkHolds", spec := "chunkHolds", unfollowed := true, recurses := true, apart := false }
def ChunkHoldsSaid : Prop := chunkHoldsRow.holds Try.pinned (OpenSpec.ofChange chunkHoldsSpec)

/-- ITS FALSE NEIGHBOUR: 'it returns false'. Refute it at one input. -/
def chunkHoldsWrong : ChangeSpec := { name := "chunkHolds", fn := fun _ => fun
  | [d1, d2] => { results := [.lit (.bool false)], args := [d1, d2] }
  | _ => none }
def ChunkHoldsWrongFalsely : Prop := chunkHoldsRow.holds Try.pinned (OpenSpec.ofChange chunkHoldsWrong)

/-- 'tachographlaw04.ChunkJoins': WHATEVER THE INPUT: true; the input reads as it did. -/
def chunkJoinsSpec : ChangeSpec := { name := "chunkJoins", fn := fun _ => fun
  | [d1, d2] => { results := [.lit (.bool true)], args := [d1, d2] }
  | _ => none }
def chunkJoinsRow : OpenClaim := { program := "ytapjijhjnloimaa", sum := "5589a975f589c79b663915f6391f3f23f191c63fbd7d6b072904ce1107d67d12", func := "tachograph/tachographlaw04.ChunkJoins", spec := "chunkJoins", unfollowed := true, recurses := true, apart := false }
def ChunkJoinsSaid : Prop := chunkJoinsRow.holds Try.pinned (OpenSpec.ofChange chunkJoinsSpec)

/-- ITS FALSE NEIGHBOUR: 'it returns false'. Refute it at one input. -/
def chunkJoinsWrong : ChangeSpec := { name := "chunkJoins", fn := fun _ => fun
  | [d1, d2] => { results := [.lit (.bool false)], args := [d1, d2] }
  | _ => none }
def ChunkJoinsWrongFalsely : Prop := chunkJoinsRow.holds Try.pinned (OpenSpec.ofChange chunkJoinsWrong)

/-- 'tachographlaw04.ChunkPlays': WHATEVER THE INPUT: true; the input reads as it did. -/
def chunkPlaysSpec : ChangeSpec := { name := "chunkPlays", fn := fun _ => fun
  | [d1, d2] => { results := [.lit (.bool true)], args := [d1, d2] }
  | _ => none }
def chunkPlaysRow : OpenClaim := { program := "ytapjijhjnloimaa", sum := "5589a975f589c79b663915f6391f3f23f191c63fbd7d6b072904ce1107d67d12", func := "tachograph/tachographlaw04.ChunkPlays", spec := "chunkPlays", unfollowed := true, recurses := true, apart := false }
def ChunkPlaysSaid : Prop := chunkPlaysRow.holds Try.pinned (OpenSpec.ofChange chunkPlaysSpec)

/-- ITS FALSE NEIGHBOUR: 'it returns false'. Refute it at one input. -/
def chunkPlaysWrong : ChangeSpec := { name := "chunkPlays", fn := fun _ => fun
  | [d1, d2] => { results := [.lit (.bool false)], args := [d1, d2] }
  | _ => none }
def ChunkPlaysWrongFalsely : Prop := chunkPlaysRow.holds Try.pinned (OpenSpec.ofChange chunkPlaysWrong)

/-- 'tachographlaw04.ChunkNil': WHATEVER THE INPUT: true; the input reads as it did. -/
def chunkNilSpec : ChangeSpec := { name := "chunkNil", fn := fun _ => fun
  | [d] => { results := [.lit (.bool true)], args := [d] }
  | _ => none }
def chunkNilRow : OpenClaim := { program := "ytapjijhjnloimaa", sum := "5589a975f589c79b663915f6391f3f23f191c63fbd7d6b072904ce1107d67d12", func := "tachograph/tachographlaw04.ChunkNil", spec := "chunkNil", unfollowed := true, recurses := true, apart := false }
def ChunkNilSaid : Prop := chunkNilRow.holds Try.pinned (OpenSpec.ofChange chunkNilSpec)

/-- ITS FALSE NEIGHBOUR: 'it returns false'. Refute it at one input. -/
def chunkNilWrong : ChangeSpec := { name := "chunkNil", fn := fun _ => fun
  | [d] => { results := [.lit (.bool false)], args := [d] }
  | _ => none }
def ChunkNilWrongFalsely : Prop := chunkNilRow.holds Try.pinned (OpenSpec.ofChange chunkNilWrong)

/- THE SECOND FORM. 'bulk': how many values and letters a reading holds, each counted each time it is reached (what is shared counts as often as it is met; a slice's spare places count too). A statement '..UptoSaid' is the law's where the arguments, and the package variables that the reading takes, are together of bulk at most 1048576: NARROWER than '..Said'. Prove '..Said' where nothing that the law and all that it calls make is longer than what came in: it says more and counts as full. Else prove '..UptoSaid'. A law counts once. -/
mutual
def uptoBulk {H : Type} : DataW H → Nat
  | .lit (.string bytes) => bytes.length + 1
  | .lit _ => 1
  | .nil => 1
  | .ptr d => uptoBulk d + 1
  | .slice elems spare => uptoBulkAll elems + uptoBulkAll spare + 1
  | .agg parts => uptoBulkAll parts + 1
  | .iface _ d => uptoBulk d + 1
  | .map entries => uptoBulkEntries entries + 1
  | .held _ => 1
def uptoBulkAll {H : Type} : List (DataW H) → Nat
  | [] => 0
  | d :: r => uptoBulk d + uptoBulkAll r
def uptoBulkEntries {H : Type} : List (Lit × DataW H) → Nat
  | [] => 0
  | x :: r => uptoBulkEntry x + uptoBulkEntries r
def uptoBulkEntry {H : Type} : Lit × DataW H → Nat
  | (.string bytes, d) => bytes.length + uptoBulk d + 1
  | (_, d) => uptoBulk d + 1
 end
def uptoSmall : (H : Type) → List (DataW H) → Bool := fun _ ds => decide (uptoBulkAll ds ≤ 1048576)
def OpenSpec.upto (s : _root_.Go.ChangeSpec) : _root_.Go.OpenSpec := { _root_.Go.OpenSpec.ofChange s with cond := some uptoSmall }

/-- 'tachographlaw05.SeriesOrders', WHERE WHAT IT READS IS OF BULK AT MOST 1048576: true; the input reads as it did. -/
def seriesOrdersUptoRow : OpenClaim := { program := "ytapjijhjnloimaa", sum := "5589a975f589c79b663915f6391f3f23f191c63fbd7d6b072904ce1107d67d12", func := "tachograph/tachographlaw05.SeriesOrders", spec := "seriesOrders", unfollowed := true, recurses := true, apart := false, narrowed := true }
def SeriesOrdersUptoSaid : Prop := seriesOrdersUptoRow.holds Try.pinned (OpenSpec.upto seriesOrdersSpec)

/-- 'tachographlaw05.SeriesRanges', WHERE WHAT IT READS IS OF BULK AT MOST 1048576: true; the input reads as it did. -/
def seriesRangesUptoRow : OpenClaim := { program := "ytapjijhjnloimaa", sum := "5589a975f589c79b663915f6391f3f23f191c63fbd7d6b072904ce1107d67d12", func := "tachograph/tachographlaw05.SeriesRanges", spec := "seriesRanges", unfollowed := true, recurses := true, apart := false, narrowed := true }
def SeriesRangesUptoSaid : Prop := seriesRangesUptoRow.holds Try.pinned (OpenSpec.upto seriesRangesSpec)

/-- 'tachographlaw05.SeriesMerges', WHERE WHAT IT READS IS OF BULK AT MOST 1048576: true; the input reads as it did. -/
def seriesMergesUptoRow : OpenClaim := { program := "ytapjijhjnloimaa", sum := "5589a975f589c79b663915f6391f3f23f191c63fbd7d6b072904ce1107d67d12", func := "tachograph/tachographlaw05.SeriesMerges", spec := "seriesMerges", unfollowed := true, recurses := true, apart := false, narrowed := true }
def SeriesMergesUptoSaid : Prop := seriesMergesUptoRow.holds Try.pinned (OpenSpec.upto seriesMergesSpec)

/-- 'tachographlaw05.SeriesGone', WHERE WHAT IT READS IS OF BULK AT MOST 1048576: true; the input reads as it did. -/
def seriesGoneUptoRow : OpenClaim := { program := "ytapjijhjnloimaa", sum := "5589a975f589c79b663915f6391f3f23f191c63fbd7d6b072904ce1107d67d12", func := "tachograph/tachographlaw05.SeriesGone", spec := "seriesGone", unfollowed := true, recurses := true, apart := false, narrowed := true }
def SeriesGoneUptoSaid : Prop := seriesGoneUptoRow.holds Try.pinned (OpenSpec.upto seriesGoneSpec)

/-- 'tachographlaw05.SeriesLine', WHERE WHAT IT READS IS OF BULK AT MOST 1048576: true; the input reads as it did. -/
def seriesLineUptoRow : OpenClaim := { program := "ytapjijhjnloimaa", sum := "5589a975f589c79b663915f6391f3f23f191c63fbd7d6b072904ce1107d67d12", func := "tachograph/tachographlaw05.SeriesLine", spec := "seriesLine", unfollowed := true, recurses := true, apart := false, narrowed := true }
def SeriesLineUptoSaid : Prop := seriesLineUptoRow.holds Try.pinned (OpenSpec.upto seriesLineSpec)

/-- 'tachographlaw05.SeriesNil', WHERE WHAT IT READS IS OF BULK AT MOST 1048576: true; the input reads as it did. -/
def seriesNilUptoRow : OpenClaim := { program := "ytapjijhjnloimaa", sum := "5589a975f589c79b663915f6391f3f23f191c63fbd7d6b072904ce1107d67d12", func := "tachograph/tachographlaw05.SeriesNil", spec := "seriesNil", unfollowed := true, recurses := true, apart := false, narrowed := true }
def SeriesNilUptoSaid : Prop := seriesNilUptoRow.holds Try.pinned (OpenSpec.upto seriesNilSpec)

/-- 'tachographlaw05.SeriesRestores', WHERE WHAT IT READS IS OF BULK AT MOST 1048576: true; the input reads as it did. -/
def seriesRestoresUptoRow : OpenClaim := { program := "ytapjijhjnloimaa", sum := "5589a975f589c79b663915f6391f3f23f191c63fbd7d6b072904ce1107d67d12", func := "tachograph/tachographlaw05.SeriesRestores", spec := "seriesRestores", unfollowed := true, recurses := true, apart := false, narrowed := true }
def SeriesRestoresUptoSaid : Prop := seriesRestoresUptoRow.holds Try.pinned (OpenSpec.upto seriesRestoresSpec)

/-- 'tachographlaw04.ChunkRises', WHERE WHAT IT READS IS OF BULK AT MOST 1048576: true; the input reads as it did. -/
def chunkRisesUptoRow : OpenClaim := { program := "ytapjijhjnloimaa", sum := "5589a975f589c79b663915f6391f3f23f191c63fbd7d6b072904ce1107d67d12", func := "tachograph/tachographlaw04.ChunkRises", spec := "chunkRises", unfollowed := true, recurses := true, apart := false, narrowed := true }
def ChunkRisesUptoSaid : Prop := chunkRisesUptoRow.holds Try.pinned (OpenSpec.upto chunkRisesSpec)

/-- 'tachographlaw04.ChunkHolds', WHERE WHAT IT READS IS OF BULK AT MOST 1048576: true; the input reads as it did. -/
def chunkHoldsUptoRow : OpenClaim := { program := "ytapjijhjnloimaa", sum := "5589a975f589c79b663915f6391f3f23f191c63fbd7d6b072904ce1107d67d12", func := "tachograph/tachographlaw04.ChunkHolds", spec := "chunkHolds", unfollowed := true, recurses := true, apart := false, narrowed := true }
def ChunkHoldsUptoSaid : Prop := chunkHoldsUptoRow.holds Try.pinned (OpenSpec.upto chunkHoldsSpec)

/-- 'tachographlaw04.ChunkJoins', WHERE WHAT IT READS IS OF BULK AT MOST 1048576: true; the input reads as it did. -/
def chunkJoinsUptoRow : OpenClaim := { program := "ytapjijhjnloimaa", sum := "5589a975f589c79b663915f6391f3f23f191c63fbd7d6b072904ce1107d67d12", func := "tachograph/tachographlaw04.ChunkJoins", spec := "chunkJoins", unfollowed := true, recurses := true, apart := false, narrowed := true }
def ChunkJoinsUptoSaid : Prop := chunkJoinsUptoRow.holds Try.pinned (OpenSpec.upto chunkJoinsSpec)

/-- 'tachographlaw04.ChunkPlays', WHERE WHAT IT READS IS OF BULK AT MOST 1048576: true; the input reads as it did. -/
def chunkPlaysUptoRow : OpenClaim := { program := "ytapjijhjnloimaa", sum := "5589a975f589c79b663915f6391f3f23f191c63fbd7d6b072904ce1107d67d12", func := "tachograph/tachographlaw04.ChunkPlays", spec := "chunkPlays", unfollowed := true, recurses := true, apart := false, narrowed := true }
def ChunkPlaysUptoSaid : Prop := chunkPlaysUptoRow.holds Try.pinned (OpenSpec.upto chunkPlaysSpec)

/-- 'tachographlaw04.ChunkNil', WHERE WHAT IT READS IS OF BULK AT MOST 1048576: true; the input reads as it did. -/
def chunkNilUptoRow : OpenClaim := { program := "ytapjijhjnloimaa", sum := "5589a975f589c79b663915f6391f3f23f191c63fbd7d6b072904ce1107d67d12", func := "tachograph/tachographlaw04.ChunkNil", spec := "chunkNil", unfollowed := true, recurses := true, apart := false, narrowed := true }
def ChunkNilUptoSaid : Prop := chunkNilUptoRow.holds Try.pinned (OpenSpec.upto chunkNilSpec)

end Rows
end Go.Proofs.Ytapjijhjnloimaa
