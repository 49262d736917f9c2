/-
  No cell of these rows narrows 'for every input' (looked for: loops, veiled, ifaces, maps, wideKeys, modest, calm, conditions, laid).
  DERIVED. THE GIVEN ROWS OF THIS SEAT. 5 by the template 'for every input the law returns true; each argument reads behind the call as it read before'; 0 by the template 'total and deterministic' (their statements: YtdfeigkooeeeaaaTotals.lean).
  GIVEN WITH THE SEED: the statements are not yours to turn. If you find one false, say at which input.
  Laid BY PROGRAM, IN A SANDBOX (cutbox-rows.mjs): the forced cells as the released guide's own fill.sh prints them over the translation 267c9bb3f0550a8e… (all of the seat's roots in one cut). By AI agents, Wed Nov 11 2026. No macro, syntax, notation, axiom, sorry.
-/
import Derived.Test.YtdfeigkooeeeaaaChecked
import GoSem.Claim
import GoSem.ClaimJoined
import GoSem.ClaimMapViews
import Derived.JoinedTies
import Derived.KernelRfl
namespace Go.Proofs.Ytdfeigkooeeeaaa
/- THE CELL 'sum', in the pinned program and in every row, IS THE sha256 OF THE DUMP (.gsa) THAT YtdfeigkooeeeaaaProg.lean LOADS. Nothing in Lean hashes anything: it is a label: what it is worth is what the hold of that sum in a sandbox is worth. -/
noncomputable def Try.pinned : Pinned := { name := "ytdfeigkooeeeaaa", sum := "267c9bb3f0550a8e64892ca71e079069af3c71b072ff02a9a94ebf43e85779de", checked := Try.checked }
namespace Rows
def none {H : Type} : Left H := { results := [], args := [] }

/-- 'tachographlaw14.CommandNumbers': WHATEVER THE INPUT: true; the input reads as it did. -/
def commandNumbersSpec : ChangeSpec := { name := "commandNumbers", fn := fun _ => fun
  | [d1, d2] => { results := [.lit (.bool true)], args := [d1, d2] }
  | _ => none }
def commandNumbersRow : OpenClaim := { program := "ytdfeigkooeeeaaa", sum := "267c9bb3f0550a8e64892ca71e079069af3c71b072ff02a9a94ebf43e85779de", func := "tachograph/tachographlaw14.CommandNumbers", spec := "commandNumbers", unfollowed := true, recurses := true, apart := false }
def CommandNumbersSaid : Prop := commandNumbersRow.holds Try.pinned (OpenSpec.ofChange commandNumbersSpec)

/-- ITS FALSE NEIGHBOUR: 'it returns false'. Refute it at one input. -/
def commandNumbersWrong : ChangeSpec := { name := "commandNumbers", fn := fun _ => fun
  | [d1, d2] => { results := [.lit (.bool false)], args := [d1, d2] }
  | _ => none }
def CommandNumbersWrongFalsely : Prop := commandNumbersRow.holds Try.pinned (OpenSpec.ofChange commandNumbersWrong)

/-- 'tachographlaw14.CommandBack': WHATEVER THE INPUT: true; the input reads as it did. -/
def commandBackSpec : ChangeSpec := { name := "commandBack", fn := fun _ => fun
  | [d] => { results := [.lit (.bool true)], args := [d] }
  | _ => none }
def commandBackRow : OpenClaim := { program := "ytdfeigkooeeeaaa", sum := "267c9bb3f0550a8e64892ca71e079069af3c71b072ff02a9a94ebf43e85779de", func := "tachograph/tachographlaw14.CommandBack", spec := "commandBack", unfollowed := true, recurses := true, apart := false }
def CommandBackSaid : Prop := commandBackRow.holds Try.pinned (OpenSpec.ofChange commandBackSpec)

/-- ITS FALSE NEIGHBOUR: 'it returns false'. Refute it at one input. -/
def commandBackWrong : ChangeSpec := { name := "commandBack", fn := fun _ => fun
  | [d] => { results := [.lit (.bool false)], args := [d] }
  | _ => none }
def CommandBackWrongFalsely : Prop := commandBackRow.holds Try.pinned (OpenSpec.ofChange commandBackWrong)

/-- 'tachographlaw14.CommandCases': WHATEVER THE INPUT: true; the input reads as it did. -/
def commandCasesSpec : ChangeSpec := { name := "commandCases", fn := fun _ => fun
  | [d1, d2] => { results := [.lit (.bool true)], args := [d1, d2] }
  | _ => none }
def commandCasesRow : OpenClaim := { program := "ytdfeigkooeeeaaa", sum := "267c9bb3f0550a8e64892ca71e079069af3c71b072ff02a9a94ebf43e85779de", func := "tachograph/tachographlaw14.CommandCases", spec := "commandCases", unfollowed := true, recurses := true, apart := false }
def CommandCasesSaid : Prop := commandCasesRow.holds Try.pinned (OpenSpec.ofChange commandCasesSpec)

/-- ITS FALSE NEIGHBOUR: 'it returns false'. Refute it at one input. -/
def commandCasesWrong : ChangeSpec := { name := "commandCases", fn := fun _ => fun
  | [d1, d2] => { results := [.lit (.bool false)], args := [d1, d2] }
  | _ => none }
def CommandCasesWrongFalsely : Prop := commandCasesRow.holds Try.pinned (OpenSpec.ofChange commandCasesWrong)

/-- 'tachographlaw14.CommandSame': WHATEVER THE INPUT: true; the input reads as it did. -/
def commandSameSpec : ChangeSpec := { name := "commandSame", fn := fun _ => fun
  | [d1, d2] => { results := [.lit (.bool true)], args := [d1, d2] }
  | _ => none }
def commandSameRow : OpenClaim := { program := "ytdfeigkooeeeaaa", sum := "267c9bb3f0550a8e64892ca71e079069af3c71b072ff02a9a94ebf43e85779de", func := "tachograph/tachographlaw14.CommandSame", spec := "commandSame", unfollowed := true, recurses := true, apart := false }
def CommandSameSaid : Prop := commandSameRow.holds Try.pinned (OpenSpec.ofChange commandSameSpec)

/-- ITS FALSE NEIGHBOUR: 'it returns false'. Refute it at one input. -/
def commandSameWrong : ChangeSpec := { name := "commandSame", fn := fun _ => fun
  | [d1, d2] => { results := [.lit (.bool false)], args := [d1, d2] }
  | _ => none }
def CommandSameWrongFalsely : Prop := commandSameRow.holds Try.pinned (OpenSpec.ofChange commandSameWrong)

/-- 'tachographlaw14.CommandTimes': WHATEVER THE INPUT: true; the input reads as it did. -/
def commandTimesSpec : ChangeSpec := { name := "commandTimes", fn := fun _ => fun
  | [d1, d2, d3] => { results := [.lit (.bool true)], args := [d1, d2, d3] }
  | _ => none }
def commandTimesRow : OpenClaim := { program := "ytdfeigkooeeeaaa", sum := "267c9bb3f0550a8e64892ca71e079069af3c71b072ff02a9a94ebf43e85779de", func := "tachograph/tachographlaw14.CommandTimes", spec := "commandTimes", unfollowed := true, recurses := true, apart := false }
def CommandTimesSaid : Prop := commandTimesRow.holds Try.pinned (OpenSpec.ofChange commandTimesSpec)

/-- ITS FALSE NEIGHBOUR: 'it returns false'. Refute it at one input. -/
def commandTimesWrong : ChangeSpec := { name := "commandTimes", fn := fun _ => fun
  | [d1, d2, d3] => { results := [.lit (.bool false)], args := [d1, d2, d3] }
  | _ => none }
def CommandTimesWrongFalsely : Prop := commandTimesRow.holds Try.pinned (OpenSpec.ofChange commandTimesWrong)

/- THE SECOND FORM. 'bulk': how many values and letters a reading holds, each counted each time it is reached (what is shared counts as often as it is met; a slice's spare places count too). A statement '..UptoSaid' is the law's where the arguments, and the package variables that the reading takes, are together of bulk at most 1048576: NARROWER than '..Said'. Prove '..Said' where nothing that the law and all that it calls make is longer than what came in: it says more and counts as full. Else prove '..UptoSaid'. A law counts once. -/
mutual
def uptoBulk {H : Type} : DataW H → Nat
  | .lit (.string bytes) => bytes.length + 1
  | .lit _ => 1
  | .nil => 1
  | .ptr d => uptoBulk d + 1
  | .slice elems spare => uptoBulkAll elems + uptoBulkAll spare + 1
  | .agg parts => uptoBulkAll parts + 1
  | .iface _ d => uptoBulk d + 1
  | .map entries => uptoBulkEntries entries + 1
  | .held _ => 1
def uptoBulkAll {H : Type} : List (DataW H) → Nat
  | [] => 0
  | d :: r => uptoBulk d + uptoBulkAll r
def uptoBulkEntries {H : Type} : List (Lit × DataW H) → Nat
  | [] => 0
  | x :: r => uptoBulkEntry x + uptoBulkEntries r
def uptoBulkEntry {H : Type} : Lit × DataW H → Nat
  | (.string bytes, d) => bytes.length + uptoBulk d + 1
  | (_, d) => uptoBulk d + 1
 end
def uptoSmall : (H : Type) → List (DataW H) → Bool := fun _ ds => decide (uptoBulkAll ds ≤ 1048576)
def OpenSpec.upto (s : _root_.Go.ChangeSpec) : _root_.Go.OpenSpec := { _root_.Go.OpenSpec.ofChange s with cond := some uptoSmall }

/-- 'tachographlaw14.CommandNumbers', WHERE WHAT IT READS IS OF BULK AT MOST 1048576: true; the input reads as it did. -/
def commandNumbersUptoRow : OpenClaim := { program := "ytdfeigkooeeeaaa", sum := "267c9bb3f0550a8e64892ca71e079069af3c71b072ff02a9a94ebf43e85779de", func := "tachograph/tachographlaw14.CommandNumbers", spec := "commandNumbers", unfollowed := true, recurses := true, apart := false, narrowed := true }
def CommandNumbersUptoSaid : Prop := commandNumbersUptoRow.holds Try.pinned (OpenSpec.upto commandNumbersSpec)

/-- 'tachographlaw14.CommandBack', WHERE WHAT IT READS IS OF BULK AT MOST 1048576: true; the input reads as it did. -/
def commandBackUptoRow : OpenClaim := { program := "ytdfeigkooeeeaaa", sum := "267c9bb3f0550a8e64892ca71e079069af3c71b072ff02a9a94ebf43e85779de", func := "tachograph/tachographlaw14.CommandBack", spec := "commandBack", unfollowed := true, recurses := true, apart := false, narrowed := true }
def CommandBackUptoSaid : Prop := commandBackUptoRow.holds Try.pinned (OpenSpec.upto commandBackSpec)

/-- 'tachographlaw14.CommandCases', WHERE WHAT IT READS IS OF BULK AT MOST 1048576: true; the input reads as it did. -/
def commandCasesUptoRow : OpenClaim := { program := "ytdfeigkooeeeaaa", sum := "267c9bb3f0550a8e64892ca71e079069af3c71b072ff02a9a94ebf43e85779de", func := "tachograph/tachographlaw14.CommandCases", spec := "commandCases", unfollowed := true, recurses := true, apart := false, narrowed := true }
def CommandCasesUptoSaid : Prop := commandCasesUptoRow.holds Try.pinned (OpenSpec.upto commandCasesSpec)

/-- 'tachographlaw14.CommandSame', WHERE WHAT IT READS IS OF BULK AT MOST 1048576: true; the input reads as it did. -/
def commandSameUptoRow : OpenClaim := { program := "ytdfeigkooeeeaaa", sum := "267c9bb3f0550a8e64892ca71e079069af3c71b072ff02a9a94ebf43e85779de", func := "tachograph/tachographlaw14.CommandSame", spec := "commandSame", unfollowed := true, recurses := true, apart := false, narrowed := true }
def CommandSameUptoSaid : Prop := commandSameUptoRow.holds Try.pinned (OpenSpec.upto commandSameSpec)

/-- 'tachographlaw14.CommandTimes', WHERE WHAT IT READS IS OF BULK AT MOST 1048576: true; the input reads as it did. -/
def commandTimesUptoRow : OpenClaim := { program := "ytdfeigkooeeeaaa", sum := "267c9bb3f0550a8e64892ca71e079069af3c71b072ff02a9a94ebf43e85779de", func := "tachograph/tachographlaw14.CommandTimes", spec := "commandTimes", unfollowed := true, recurses := true, apart := false, narrowed := true }
def CommandTimesUptoSaid : Prop := commandTimesUptoRow.holds Try.pinned (OpenSpec.upto commandTimesSpec)

end Rows
end Go.Proofs.Ytdfeigkooeeeaaa
