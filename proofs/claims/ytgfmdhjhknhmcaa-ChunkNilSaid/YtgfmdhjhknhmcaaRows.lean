/-
  No cell of these rows narrows 'for every input' (looked for: loops, veiled, ifaces, maps, wideKeys, modest, calm, conditions, laid).
  DERIVED. THE GIVEN ROWS OF THIS SEAT. 3 by the template 'for every input the law returns true; each argument reads behind the call as it read before'; 0 by the template 'total and deterministic' (their statements: YtgfmdhjhknhmcaaTotals.lean).
  GIVEN WITH THE SEED: the statements are not yours to turn. If you find one false, say at which input.
  Laid BY PROGRAM, IN A SANDBOX (cutbox-rows.mjs): the forced cells as the released guide's own fill.sh prints them over the translation 5ea5854a55a25a3d… (all of the seat's roots in one cut). By AI agents, Wed Nov 11 2026. No macro, syntax, notation, axiom, sorry.
-/
import Derived.Test.YtgfmdhjhknhmcaaChecked
import GoSem.Claim
import GoSem.ClaimJoined
import GoSem.ClaimMapViews
import Derived.JoinedTies
import Derived.KernelRfl
namespace Go.Proofs.Ytgfmdhjhknhmcaa
/- THE CELL 'sum', in the pinned program and in every row, IS THE sha256 OF THE DUMP (.gsa) THAT YtgfmdhjhknhmcaaProg.lean LOADS. Nothing in Lean hashes anything: it is a label: what it is worth is what the hold of that sum in a sandbox is worth. -/
noncomputable def Try.pinned : Pinned := { name := "ytgfmdhjhknhmcaa", sum := "5ea5854a55a25a3d4e2d3b5489df10bc5fc374ca9d1d89c4450bd6e7997c8194", checked := Try.checked }
namespace Rows
def none {H : Type} : Left H := { results := [], args := [] }

/-- 'tachographlaw06.AggNil': WHATEVER THE INPUT: true; the input reads as it did. -/
def aggNilSpec : ChangeSpec := { name := "aggNil", fn := fun _ => fun
  | [d] => { results := [.lit (.bool true)], args := [d] }
  | _ => none }
def aggNilRow : OpenClaim := { program := "ytgfmdhjhknhmcaa", sum := "5ea5854a55a25a3d4e2d3b5489df10bc5fc374ca9d1d89c4450bd6e7997c8194", func := "tachograph/tachographlaw06.AggNil", spec := "aggNil", unfollowed := true, recurses := true, apart := false }
def AggNilSaid : Prop := aggNilRow.holds Try.pinned (OpenSpec.ofChange aggNilSpec)

/-- ITS FALSE NEIGHBOUR: 'it returns false'. Refute it at one input. -/
def aggNilWrong : ChangeSpec := { name := "aggNil", fn := fun _ => fun
  | [d] => { results := [.lit (.bool false)], args := [d] }
  | _ => none }
def AggNilWrongFalsely : Prop := aggNilRow.holds Try.pinned (OpenSpec.ofChange aggNilWrong)

/-- 'tachographlaw04.ChunkNil': WHATEVER THE INPUT: true; the input reads as it did. -/
def chunkNilSpec : ChangeSpec := { name := "chunkNil", fn := fun _ => fun
  | [d] => { results := [.lit (.bool true)], args := [d] }
  | _ => none }
def chunkNilRow : OpenClaim := { program := "ytgfmdhjhknhmcaa", sum := "5ea5854a55a25a3d4e2d3b5489df10bc5fc374ca9d1d89c4450bd6e7997c8194", func := "tachograph/tachographlaw04.ChunkNil", spec := "chunkNil", unfollowed := true, recurses := true, apart := false }
def ChunkNilSaid : Prop := chunkNilRow.holds Try.pinned (OpenSpec.ofChange chunkNilSpec)

/-- ITS FALSE NEIGHBOUR: 'it returns false'. Refute it at one input. -/
def chunkNilWrong : ChangeSpec := { name := "chunkNil", fn := fun _ => fun
  | [d] => { results := [.lit (.bool false)], args := [d] }
  | _ => none }
def ChunkNilWrongFalsely : Prop := chunkNilRow.holds Try.pinned (OpenSpec.ofChange chunkNilWrong)

/-- 'tachographlaw05.SeriesNil': WHATEVER THE INPUT: true; the input reads as it did. -/
def seriesNilSpec : ChangeSpec := { name := "seriesNil", fn := fun _ => fun
  | [d] => { results := [.lit (.bool true)], args := [d] }
  | _ => none }
def seriesNilRow : OpenClaim := { program := "ytgfmdhjhknhmcaa", sum := "5ea5854a55a25a3d4e2d3b5489df10bc5fc374ca9d1d89c4450bd6e7997c8194", func := "tachograph/tachographlaw05.SeriesNil", spec := "seriesNil", unfollowed := true, recurses := true, apart := false }
def SeriesNilSaid : Prop := seriesNilRow.holds Try.pinned (OpenSpec.ofChange seriesNilSpec)

/-- ITS FALSE NEIGHBOUR: 'it returns false'. Refute it at one input. -/
def seriesNilWrong : ChangeSpec := { name := "seriesNil", fn := fun _ => fun
  | [d] => { results := [.lit (.bool false)], args := [d] }
  | _ => none }
def SeriesNilWrongFalsely : Prop := seriesNilRow.holds Try.pinned (OpenSpec.ofChange seriesNilWrong)

/- THE SECOND FORM. 'bulk': how many values and letters a reading holds, each counted each time it is reached (what is shared counts as often as it is met; a slice's spare places count too). A statement '..UptoSaid' is the law's where the arguments, and the package variables that the reading takes, are together of bulk at most 1048576: NARROWER than '..Said'. Prove '..Said' where nothing that the law and all that it calls make is longer than what came in: it says more and counts as full. Else prove '..UptoSaid'. A law counts once. -/
mutual
def uptoBulk {H : Type} : DataW H → Nat
  | .lit (.string bytes) => bytes.length + 1
  | .lit _ => 1
  | .nil => 1
  | .ptr d => uptoBulk d + 1
  | .slice elems spare => uptoBulkAll elems + uptoBulkAll spare + 1
  | .agg parts => uptoBulkAll parts + 1
  | .iface _ d => uptoBulk d + 1
  | .map entries => uptoBulkEntries entries + 1
  | .held _ => 1
def uptoBulkAll {H : Type} : List (DataW H) → Nat
  | [] => 0
  | d :: r => uptoBulk d + uptoBulkAll r
def uptoBulkEntries {H : Type} : List (Lit × DataW H) → Nat
  | [] => 0
  | x :: r => uptoBulkEntry x + uptoBulkEntries r
def uptoBulkEntry {H : Type} : Lit × DataW H → Nat
  | (.string bytes, d) => bytes.length + uptoBulk d + 1
  | (_, d) => uptoBulk d + 1
 end
def uptoSmall : (H : Type) → List (DataW H) → Bool := fun _ ds => decide (uptoBulkAll ds ≤ 1048576)
def OpenSpec.upto (s : _root_.Go.ChangeSpec) : _root_.Go.OpenSpec := { _root_.Go.OpenSpec.ofChange s with cond := some uptoSmall }

/-- 'tachographlaw06.AggNil', WHERE WHAT IT READS IS OF BULK AT MOST 1048576: true; the input reads as it did. -/
def aggNilUptoRow : OpenClaim := { program := "ytgfmdhjhknhmcaa", sum := "5ea5854a55a25a3d4e2d3b5489df10bc5fc374ca9d1d89c4450bd6e7997c8194", func := "tachograph/tachographlaw06.AggNil", spec := "aggNil", unfollowed := true, recurses := true, apart := false, narrowed := true }
def AggNilUptoSaid : Prop := aggNilUptoRow.holds Try.pinned (OpenSpec.upto aggNilSpec)

/-- 'tachographlaw04.ChunkNil', WHERE WHAT IT READS IS OF BULK AT MOST 1048576: true; the input reads as it did. -/
def chunkNilUptoRow : OpenClaim := { program := "ytgfmdhjhknhmcaa", sum := "5ea5854a55a25a3d4e2d3b5489df10bc5fc374ca9d1d89c4450bd6e7997c8194", func := "tachograph/tachographlaw04.ChunkNil", spec := "chunkNil", unfollowed := true, recurses := true, apart := false, narrowed := true }
def ChunkNilUptoSaid : Prop := chunkNilUptoRow.holds Try.pinned (OpenSpec.upto chunkNilSpec)

/-- 'tachographlaw05.SeriesNil', WHERE WHAT IT READS IS OF BULK AT MOST 1048576: true; the input reads as it did. -/
def seriesNilUptoRow : OpenClaim := { program := "ytgfmdhjhknhmcaa", sum := "5ea5854a55a25a3d4e2d3b5489df10bc5fc374ca9d1d89c4450bd6e7997c8194", func := "tachograph/tachographlaw05.SeriesNil", spec := "seriesNil", unfollowed := true, recurses := true, apart := false, narrowed := true }
def SeriesNilUptoSaid : Prop := seriesNilUptoRow.holds Try.pinned (OpenSpec.upto seriesNilSpec)

end Rows
end Go.Proofs.Ytgfmdhjhknhmcaa
