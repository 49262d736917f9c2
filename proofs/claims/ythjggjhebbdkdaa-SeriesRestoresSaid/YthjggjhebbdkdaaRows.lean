/-
  No cell of these rows narrows 'for every input' (looked for: loops, veiled, ifaces, maps, wideKeys, modest, calm, conditions, laid).
  DERIVED. THE GIVEN ROWS OF THIS SEAT. 6 by the template 'for every input the law returns true; each argument reads behind the call as it read before'; 0 by the template 'total and deterministic' (their statements: YthjggjhebbdkdaaTotals.lean).
  GIVEN WITH THE SEED: the statements are not yours to turn. If you find one false, say at which input.
  Laid BY PROGRAM, IN A SANDBOX (cutbox-rows.mjs): the forced cells as the released guide's own fill.sh prints them over the translation 5ea2aed9cdffa7ac… (all of the seat's roots in one cut). By AI agents, Wed Nov 11 2026. No macro, syntax, notation, axiom, sorry.
-/
import Derived.Test.YthjggjhebbdkdaaChecked
import GoSem.Claim
import GoSem.ClaimJoined
import GoSem.ClaimMapViews
import Derived.JoinedTies
import Derived.KernelRfl
namespace Go.Proofs.Ythjggjhebbdkdaa
/- THE CELL 'sum', in the pinned program and in every row, IS THE sha256 OF THE DUMP (.gsa) THAT YthjggjhebbdkdaaProg.lean LOADS. Nothing in Lean hashes anything: it is a label: what it is worth is what the hold of that sum in a sandbox is worth. -/
noncomputable def Try.pinned : Pinned := { name := "ythjggjhebbdkdaa", sum := "5ea2aed9cdffa7ac1fe89a0b2d8e174a4bcdef65c1e246d9a89d3402d0c97be8", checked := Try.checked }
namespace Rows
def none {H : Type} : Left H := { results := [], args := [] }

/-- 'tachographlaw05.SeriesRanges': WHATEVER THE INPUT: true; the input reads as it did. -/
def seriesRangesSpec : ChangeSpec := { name := "seriesRanges", fn := fun _ => fun
  | [d1, d2] => { results := [.lit (.bool true)], args := [d1, d2] }
  | _ => none }
def seriesRangesRow : OpenClaim := { program := "ythjggjhebbdkdaa", sum := "5ea2aed9cdffa7ac1fe89a0b2d8e174a4bcdef65c1e246d9a89d3402d0c97be8", func := "tachograph/tachographlaw05.SeriesRanges", spec := "seriesRanges", unfollowed := true, recurses := true, apart := false }
def SeriesRangesSaid : Prop := seriesRangesRow.holds Try.pinned (OpenSpec.ofChange seriesRangesSpec)

/-- ITS FALSE NEIGHBOUR: 'it returns false'. Refute it at one input. -/
def seriesRangesWrong : ChangeSpec := { name := "seriesRanges", fn := fun _ => fun
  | [d1, d2] => { results := [.lit (.bool false)], args := [d1, d2] }
  | _ => none }
def SeriesRangesWrongFalsely : Prop := seriesRangesRow.holds Try.pinned (OpenSpec.ofChange seriesRangesWrong)

/-- 'tachographlaw05.SeriesRestores': WHATEVER THE INPUT: true; the input reads as it did. -/
def seriesRestoresSpec : ChangeSpec := { name := "seriesRestores", fn := fun _ => fun
  | [d1, d2, d3] => { results := [.lit (.bool true)], args := [d1, d2, d3] }
  | _ => none }
def seriesRestoresRow : OpenClaim := { program := "ythjggjhebbdkdaa", sum := "5ea2aed9cdffa7ac1fe89a0b2d8e174a4bcdef65c1e246d9a89d3402d0c97be8", func := "tachograph/tachographlaw05.SeriesRestores", spec := "seriesRestores", unfollowed := true, recurses := true, apart := false }
def SeriesRestoresSaid : Prop := seriesRestoresRow.holds Try.pinned (OpenSpec.ofChange seriesRestoresSpec)

/-- ITS FALSE NEIGHBOUR: 'it returns false'. Refute it at one input. -/
def seriesRestoresWrong : ChangeSpec := { name := "seriesRestores", fn := fun _ => fun
  | [d1, d2, d3] => { results := [.lit (.bool false)], args := [d1, d2, d3] }
  | _ => none }
def SeriesRestoresWrongFalsely : Prop := seriesRestoresRow.holds Try.pinned (OpenSpec.ofChange seriesRestoresWrong)

/-- 'tachographlaw04.ChunkRises': WHATEVER THE INPUT: true; the input reads as it did. -/
def chunkRisesSpec : ChangeSpec := { name := "chunkRises", fn := fun _ => fun
  | [d1, d2] => { results := [.lit (.bool true)], args := [d1, d2] }
  | _ => none }
def chunkRisesRow : OpenClaim := { program := "ythjggjhebbdkdaa", sum := "5ea2aed9cdffa7ac1fe89a0b2d8e174a4bcdef65c1e246d9a89d3402d0c97be8", func := "tachograph/tachographlaw04.ChunkRises", spec := "chunkRises", unfollowed := true, recurses := true, apart := false }
def ChunkRisesSaid : Prop := chunkRisesRow.holds Try.pinned (OpenSpec.ofChange chunkRisesSpec)

/-- ITS FALSE NEIGHBOUR: 'it returns false'. Refute it at one input. -/
def chunkRisesWrong : ChangeSpec := { name := "chunkRises", fn := fun _ => fun
  | [d1, d2] => { results := [.lit (.bool false)], args := [d1, d2] }
  | _ => none }
def ChunkRisesWrongFalsely : Prop := chunkRisesRow.holds Try.pinned (OpenSpec.ofChange chunkRisesWrong)

/-- 'tachographlaw04.ChunkHolds': WHATEVER THE INPUT: true; the input reads as it did. -/
def chunkHoldsSpec : ChangeSpec := { name := "chunkHolds", fn := fun _ => fun
  | [d1, d2] => { results := [.lit (.bool true)], args := [d1, d2] }
  | _ => none }
def chunkHoldsRow : OpenClaim := { program := "ythjggjhebbdkdaa", sum := "5ea2aed9cdffa7ac1fe89a0b2d8e174a4bcdef65c1e246d9a89d3402d0c97be8", func := "tachograph/tachographlaw04.ChunkHolds", spec := "chunkHolds", unfollowed := true, recurses := true, apart := false }
def ChunkHoldsSaid : Prop := chunkHoldsRow.holds Try.pinned (OpenSpec.ofChange chunkHoldsSpec)

/-- ITS FALSE NEIGHBOUR: 'it returns false'. Refute it at one input. -/
def chunkHoldsWrong : ChangeSpec := { name := "chunkHolds", fn := fun _ => fun
  | [d1, d2] => { results := [.lit (.bool false)], args := [d1, d2] }
  | _ => none }
def ChunkHoldsWrongFalsely : Prop := chunkHoldsRow.holds Try.pinned (OpenSpec.ofChange chunkHoldsWrong)

/-- 'tachographlaw04.ChunkJoins': WHATEVER THE INPUT: true; the input reads as it did. -/
def chunkJoinsSpec : ChangeSpec := { name := "chunkJoins", fn := fun _ => fun
  | [d1, d2] => { results := [.lit (.bool true)], args := [d1, d2] }
  | _ => none }
def chunkJoinsRow : OpenClaim := { program := "ythjggjhebbdkdaa", sum := "5ea2aed9cdffa7ac1fe89a0b2d8e174a4bcdef65c1e246d9a89d3402d0c97be8", func := "tachograph/tachographlaw04.ChunkJoins", spec := "chunkJoins", unfollowed := true, recurses := true, apart := false }
def ChunkJoinsSaid : Prop := chunkJoinsRow.holds Try.pinned (OpenSpec.ofChange chunkJoinsSpec)

/-- ITS FALSE NEIGHBOUR: 'it returns false'. Refute it at one input. -/
def chunkJoinsWrong : ChangeSpec := { name := "chunkJoins", fn := fun _ => fun
  | [d1, d2] => { results := [.lit (.bool false)], args := [d1, d2] }
  | _ => none }
def ChunkJoinsWrongFalsely : Prop := chunkJoinsRow.holds Try.pinned (OpenSpec.ofChange chunkJoinsWrong)

/-- 'tachographlaw04.ChunkPlays': WHATEVER THE INPUT: true; the input reads as it did. -/
def chunkPlaysSpec : ChangeSpec := { name := "chunkPlays", fn := fun _ => fun
  | [d1, d2] => { results := [.lit (.bool true)], args := [d1, d2] }
  | _ => none }
def chunkPlaysRow : OpenClaim := { program := "ythjggjhebbdkdaa", sum := "5ea2aed9cdffa7ac1fe89a0b2d8e174a4bcdef65c1e246d9a89d3402d0c97be8", func := "tachograph/tachographlaw04.ChunkPlays", spec := "chunkPlays", unfollowed := true, recurses := true, apart := false }
def ChunkPlaysSaid : Prop := chunkPlaysRow.holds Try.pinned (OpenSpec.ofChange chunkPlaysSpec)

/-- ITS FALSE NEIGHBOUR: 'it returns false'. Refute it at one input. -/
def chunkPlaysWrong : ChangeSpec := { name := "chunkPlays", fn := fun _ => fun
  | [d1, d2] => { results := [.lit (.bool false)], args := [d1, d2] }
  | _ => none }
def ChunkPlaysWrongFalsely : Prop := chunkPlaysRow.holds Try.pinned (OpenSpec.ofChange chunkPlaysWrong)

/- THE SECOND FORM. 'bulk': how many values and letters a reading holds, each counted each time it is reached (what is shared counts as often as it is met; a slice's spare places count too). A statement '..UptoSaid' is the law's where the arguments, and the package variables that the reading takes, are together of bulk at most 1048576: NARROWER than '..Said'. Prove '..Said' where nothing that the law and all that it calls make is longer than what came in: it says more and counts as full. Else prove '..UptoSaid'. A law counts once. -/
mutual
def uptoBulk {H : Type} : DataW H → Nat
  | .lit (.string bytes) => bytes.length + 1
  | .lit _ => 1
  | .nil => 1
  | .ptr d => uptoBulk d + 1
  | .slice elems spare => uptoBulkAll elems + uptoBulkAll spare + 1
  | .agg parts => uptoBulkAll parts + 1
  | .iface _ d => uptoBulk d + 1
  | .map entries => uptoBulkEntries entries + 1
  | .held _ => 1
def uptoBulkAll {H : Type} : List (DataW H) → Nat
  | [] => 0
  | d :: r => uptoBulk d + uptoBulkAll r
def uptoBulkEntries {H : Type} : List (Lit × DataW H) → Nat
  | [] => 0
  | x :: r => uptoBulkEntry x + uptoBulkEntries r
def uptoBulkEntry {H : Type} : Lit × DataW H → Nat
  | (.string bytes, d) => bytes.length + uptoBulk d + 1
  | (_, d) => uptoBulk d + 1
 end
def uptoSmall : (H : Type) → List (DataW H) → Bool := fun _ ds => decide (uptoBulkAll ds ≤ 1048576)
def OpenSpec.upto (s : _root_.Go.ChangeSpec) : _root_.Go.OpenSpec := { _root_.Go.OpenSpec.ofChange s with cond := some uptoSmall }

/-- 'tachographlaw05.SeriesRanges', WHERE WHAT IT READS IS OF BULK AT MOST 1048576: true; the input reads as it did. -/
def seriesRangesUptoRow : OpenClaim := { program := "ythjggjhebbdkdaa", sum := "5ea2aed9cdffa7ac1fe89a0b2d8e174a4bcdef65c1e246d9a89d3402d0c97be8", func := "tachograph/tachographlaw05.SeriesRanges", spec := "seriesRanges", unfollowed := true, recurses := true, apart := false, narrowed := true }
def SeriesRangesUptoSaid : Prop := seriesRangesUptoRow.holds Try.pinned (OpenSpec.upto seriesRangesSpec)

/-- 'tachographlaw05.SeriesRestores', WHERE WHAT IT READS IS OF BULK AT MOST 1048576: true; the input reads as it did. -/
def seriesRestoresUptoRow : OpenClaim := { program := "ythjggjhebbdkdaa", sum := "5ea2aed9cdffa7ac1fe89a0b2d8e174a4bcdef65c1e246d9a89d3402d0c97be8", func := "tachograph/tachographlaw05.SeriesRestores", spec := "seriesRestores", unfollowed := true, recurses := true, apart := false, narrowed := true }
def SeriesRestoresUptoSaid : Prop := seriesRestoresUptoRow.holds Try.pinned (OpenSpec.upto seriesRestoresSpec)

/-- 'tachographlaw04.ChunkRises', WHERE WHAT IT READS IS OF BULK AT MOST 1048576: true; the input reads as it did. -/
def chunkRisesUptoRow : OpenClaim := { program := "ythjggjhebbdkdaa", sum := "5ea2aed9cdffa7ac1fe89a0b2d8e174a4bcdef65c1e246d9a89d3402d0c97be8", func := "tachograph/tachographlaw04.ChunkRises", spec := "chunkRises", unfollowed := true, recurses := true, apart := false, narrowed := true }
def ChunkRisesUptoSaid : Prop := chunkRisesUptoRow.holds Try.pinned (OpenSpec.upto chunkRisesSpec)

/-- 'tachographlaw04.ChunkHolds', WHERE WHAT IT READS IS OF BULK AT MOST 1048576: true; the input reads as it did. -/
def chunkHoldsUptoRow : OpenClaim := { program := "ythjggjhebbdkdaa", sum := "5ea2aed9cdffa7ac1fe89a0b2d8e174a4bcdef65c1e246d9a89d3402d0c97be8", func := "tachograph/tachographlaw04.ChunkHolds", spec := "chunkHolds", unfollowed := true, recurses := true, apart := false, narrowed := true }
def ChunkHoldsUptoSaid : Prop := chunkHoldsUptoRow.holds Try.pinned (OpenSpec.upto chunkHoldsSpec)

/-- 'tachographlaw04.ChunkJoins', WHERE WHAT IT READS IS OF BULK AT MOST 1048576: true; the input reads as it did. -/
def chunkJoinsUptoRow : OpenClaim := { program := "ythjggjhebbdkdaa", sum := "5ea2aed9cdffa7ac1fe89a0b2d8e174a4bcdef65c1e246d9a89d3402d0c97be8", func := "tachograph/tachographlaw04.ChunkJoins", spec := "chunkJoins", unfollowed := true, recurses := true, apart := false, narrowed := true }
def ChunkJoinsUptoSaid : Prop := chunkJoinsUptoRow.holds Try.pinned (OpenSpec.upto chunkJoinsSpec)

/-- 'tachographlaw04.ChunkPlays', WHERE WHAT IT READS IS OF BULK AT MOST 1048576: true; the input reads as it did. -/
def chunkPlaysUptoRow : OpenClaim := { program := "ythjggjhebbdkdaa", sum := "5ea2aed9cdffa7ac1fe89a0b2d8e174a4bcdef65c1e246d9a89d3402d0c97be8", func := "tachograph/tachographlaw04.ChunkPlays", spec := "chunkPlays", unfollowed := true, recurses := true, apart := false, narrowed := true }
def ChunkPlaysUptoSaid : Prop := chunkPlaysUptoRow.holds Try.pinned (OpenSpec.upto chunkPlaysSpec)

end Rows
end Go.Proofs.Ythjggjhebbdkdaa
