/-
  No cell of these rows narrows 'for every input' (looked for: loops, veiled, ifaces, maps, wideKeys, modest, calm, conditions, laid).
  DERIVED. THE GIVEN ROWS OF THIS SEAT. 8 by the template 'for every input the law returns true; each argument reads behind the call as it read before'; 0 by the template 'total and deterministic' (their statements: YtohjcoadgojikaaTotals.lean).
  GIVEN WITH THE SEED: the statements are not yours to turn. If you find one false, say at which input.
  Laid BY PROGRAM, IN A SANDBOX (cutbox-rows.mjs): the forced cells as the released guide's own fill.sh prints them over the translation 6d2efc4c2eaa4d27… (all of the seat's roots in one cut). By AI agents, Wed Nov 11 2026. No macro, syntax, notation, axiom, sorry.
-/
import Derived.Test.YtohjcoadgojikaaChecked
import GoSem.Claim
import GoSem.ClaimJoined
import GoSem.ClaimMapViews
import Derived.JoinedTies
import Derived.KernelRfl
namespace Go.Proofs.Ytohjcoadgojikaa
/- THE CELL 'sum', in the pinned program and in every row, IS THE sha256 OF THE DUMP (.gsa) THAT YtohjcoadgojikaaProg.lean LOADS. Nothing in Lean hashes anything: it is a label: what it is worth is what the hold of that sum in a sandbox is worth. -/
noncomputable def Try.pinned : Pinned := { name := "ytohjcoadgojikaa", sum := "6d2efc4c2eaa4d27609f5b532a11c711614d372ba073c8e1199d440b724300fd", checked := Try.checked }
namespace Rows
def none {H : Type} : Left H := { results := [], args := [] }

/-- 'paliolaw08.ScanNext': WHATEVER THE INPUT: true; the input reads as it did. -/
def scanNextSpec : ChangeSpec := { name := "scanNext", fn := fun _ => fun
  | [d1, d2] => { results := [.lit (.bool true)], args := [d1, d2] }
  | _ => none }
def scanNextRow : OpenClaim := { program := "ytohjcoadgojikaa", sum := "6d2efc4c2eaa4d27609f5b532a11c711614d372ba073c8e1199d440b724300fd", func := "palio/paliolaw08.ScanNext", spec := "scanNext", apart := false }
def ScanNextSaid : Prop := scanNextRow.holds Try.pinned (OpenSpec.ofChange scanNextSpec)

/-- ITS FALSE NEIGHBOUR: 'it returns false'. Refute it at one input. -/
def scanNextWrong : ChangeSpec := { name := "scanNext", fn := fun _ => fun
  | [d1, d2] => { results := [.lit (.bool false)], args := [d1, d2] }
  | _ => none }
def ScanNextWrongFalsely : Prop := scanNextRow.holds Try.pinned (OpenSpec.ofChange scanNextWrong)

/-- 'paliolaw08.ScanRounds': WHATEVER THE INPUT: true; the input reads as it did. -/
def scanRoundsSpec : ChangeSpec := { name := "scanRounds", fn := fun _ => fun
  | [d] => { results := [.lit (.bool true)], args := [d] }
  | _ => none }
def scanRoundsRow : OpenClaim := { program := "ytohjcoadgojikaa", sum := "6d2efc4c2eaa4d27609f5b532a11c711614d372ba073c8e1199d440b724300fd", func := "palio/paliolaw08.ScanRounds", spec := "scanRounds", apart := false }
def ScanRoundsSaid : Prop := scanRoundsRow.holds Try.pinned (OpenSpec.ofChange scanRoundsSpec)

/-- ITS FALSE NEIGHBOUR: 'it returns false'. Refute it at one input. -/
def scanRoundsWrong : ChangeSpec := { name := "scanRounds", fn := fun _ => fun
  | [d] => { results := [.lit (.bool false)], args := [d] }
  | _ => none }
def ScanRoundsWrongFalsely : Prop := scanRoundsRow.holds Try.pinned (OpenSpec.ofChange scanRoundsWrong)

/-- 'paliolaw06.HashSums': WHATEVER THE INPUT: true; the input reads as it did. -/
def hashSumsSpec : ChangeSpec := { name := "hashSums", fn := fun _ => fun
  | [d1, d2, d3, d4] => { results := [.lit (.bool true)], args := [d1, d2, d3, d4] }
  | _ => none }
def hashSumsRow : OpenClaim := { program := "ytohjcoadgojikaa", sum := "6d2efc4c2eaa4d27609f5b532a11c711614d372ba073c8e1199d440b724300fd", func := "palio/paliolaw06.HashSums", spec := "hashSums", unfollowed := true, recurses := true, apart := false }
def HashSumsSaid : Prop := hashSumsRow.holds Try.pinned (OpenSpec.ofChange hashSumsSpec)

/-- ITS FALSE NEIGHBOUR: 'it returns false'. Refute it at one input. -/
def hashSumsWrong : ChangeSpec := { name := "hashSums", fn := fun _ => fun
  | [d1, d2, d3, d4] => { results := [.lit (.bool false)], args := [d1, d2, d3, d4] }
  | _ => none }
def HashSumsWrongFalsely : Prop := hashSumsRow.holds Try.pinned (OpenSpec.ofChange hashSumsWrong)

/-- 'paliolaw06.HashTurns': WHATEVER THE INPUT: true; the input reads as it did. -/
def hashTurnsSpec : ChangeSpec := { name := "hashTurns", fn := fun _ => fun
  | [d1, d2] => { results := [.lit (.bool true)], args := [d1, d2] }
  | _ => none }
def hashTurnsRow : OpenClaim := { program := "ytohjcoadgojikaa", sum := "6d2efc4c2eaa4d27609f5b532a11c711614d372ba073c8e1199d440b724300fd", func := "palio/paliolaw06.HashTurns", spec := "hashTurns", unfollowed := true, recurses := true, apart := false }
def HashTurnsSaid : Prop := hashTurnsRow.holds Try.pinned (OpenSpec.ofChange hashTurnsSpec)

/-- ITS FALSE NEIGHBOUR: 'it returns false'. Refute it at one input. -/
def hashTurnsWrong : ChangeSpec := { name := "hashTurns", fn := fun _ => fun
  | [d1, d2] => { results := [.lit (.bool false)], args := [d1, d2] }
  | _ => none }
def HashTurnsWrongFalsely : Prop := hashTurnsRow.holds Try.pinned (OpenSpec.ofChange hashTurnsWrong)

/-- 'paliolaw06.HashSizes': WHATEVER THE INPUT: true; the input reads as it did. -/
def hashSizesSpec : ChangeSpec := { name := "hashSizes", fn := fun _ => fun
  | [d] => { results := [.lit (.bool true)], args := [d] }
  | _ => none }
def hashSizesRow : OpenClaim := { program := "ytohjcoadgojikaa", sum := "6d2efc4c2eaa4d27609f5b532a11c711614d372ba073c8e1199d440b724300fd", func := "palio/paliolaw06.HashSizes", spec := "hashSizes", unfollowed := true, recurses := true, apart := false }
def HashSizesSaid : Prop := hashSizesRow.holds Try.pinned (OpenSpec.ofChange hashSizesSpec)

/-- ITS FALSE NEIGHBOUR: 'it returns false'. Refute it at one input. -/
def hashSizesWrong : ChangeSpec := { name := "hashSizes", fn := fun _ => fun
  | [d] => { results := [.lit (.bool false)], args := [d] }
  | _ => none }
def HashSizesWrongFalsely : Prop := hashSizesRow.holds Try.pinned (OpenSpec.ofChange hashSizesWrong)

/-- 'paliolaw06.HashHalves': WHATEVER THE INPUT: true; the input reads as it did. -/
def hashHalvesSpec : ChangeSpec := { name := "hashHalves", fn := fun _ => fun
  | [d1, d2] => { results := [.lit (.bool true)], args := [d1, d2] }
  | _ => none }
def hashHalvesRow : OpenClaim := { program := "ytohjcoadgojikaa", sum := "6d2efc4c2eaa4d27609f5b532a11c711614d372ba073c8e1199d440b724300fd", func := "palio/paliolaw06.HashHalves", spec := "hashHalves", unfollowed := true, recurses := true, apart := false }
def HashHalvesSaid : Prop := hashHalvesRow.holds Try.pinned (OpenSpec.ofChange hashHalvesSpec)

/-- ITS FALSE NEIGHBOUR: 'it returns false'. Refute it at one input. -/
def hashHalvesWrong : ChangeSpec := { name := "hashHalves", fn := fun _ => fun
  | [d1, d2] => { results := [.lit (.bool false)], args := [d1, d2] }
  | _ => none }
def HashHalvesWrongFalsely : Prop := hashHalvesRow.holds Try.pinned (OpenSpec.ofChange hashHalvesWrong)

/-- 'paliolaw06.HashSeeds': WHATEVER THE INPUT: true; the input reads as it did. -/
def hashSeedsSpec : ChangeSpec := { name := "hashSeeds", fn := fun _ => fun
  | [d1, d2, d3] => { results := [.lit (.bool true)], args := [d1, d2, d3] }
  | _ => none }
def hashSeedsRow : OpenClaim := { program := "ytohjcoadgojikaa", sum := "6d2efc4c2eaa4d27609f5b532a11c711614d372ba073c8e1199d440b724300fd", func := "palio/paliolaw06.HashSeeds", spec := "hashSeeds", unfollowed := true, recurses := true, apart := false }
def HashSeedsSaid : Prop := hashSeedsRow.holds Try.pinned (OpenSpec.ofChange hashSeedsSpec)

/-- ITS FALSE NEIGHBOUR: 'it returns false'. Refute it at one input. -/
def hashSeedsWrong : ChangeSpec := { name := "hashSeeds", fn := fun _ => fun
  | [d1, d2, d3] => { results := [.lit (.bool false)], args := [d1, d2, d3] }
  | _ => none }
def HashSeedsWrongFalsely : Prop := hashSeedsRow.holds Try.pinned (OpenSpec.ofChange hashSeedsWrong)

/-- 'paliolaw06.HashFits': WHATEVER THE INPUT: true; the input reads as it did. -/
def hashFitsSpec : ChangeSpec := { name := "hashFits", fn := fun _ => fun
  | [d1, d2] => { results := [.lit (.bool true)], args := [d1, d2] }
  | _ => none }
def hashFitsRow : OpenClaim := { program := "ytohjcoadgojikaa", sum := "6d2efc4c2eaa4d27609f5b532a11c711614d372ba073c8e1199d440b724300fd", func := "palio/paliolaw06.HashFits", spec := "hashFits", unfollowed := true, recurses := true, apart := false }
def HashFitsSaid : Prop := hashFitsRow.holds Try.pinned (OpenSpec.ofChange hashFitsSpec)

/-- ITS FALSE NEIGHBOUR: 'it returns false'. Refute it at one input. -/
def hashFitsWrong : ChangeSpec := { name := "hashFits", fn := fun _ => fun
  | [d1, d2] => { results := [.lit (.bool false)], args := [d1, d2] }
  | _ => none }
def HashFitsWrongFalsely : Prop := hashFitsRow.holds Try.pinned (OpenSpec.ofChange hashFitsWrong)

/- THE SECOND FORM. 'bulk': how many values and letters a reading holds, each counted each time it is reached (what is shared counts as often as it is met; a slice's spare places count too). A statement '..UptoSaid' is the law's where the arguments, and the package variables that the reading takes, are together of bulk at most 1048576: NARROWER than '..Said'. Prove '..Said' where nothing that the law and all that it calls make is longer than what came in: it says more and counts as full. Else prove '..UptoSaid'. A law counts once. -/
mutual
def uptoBulk {H : Type} : DataW H → Nat
  | .lit (.string bytes) => bytes.length + 1
  | .lit _ => 1
  | .nil => 1
  | .ptr d => uptoBulk d + 1
  | .slice elems spare => uptoBulkAll elems + uptoBulkAll spare + 1
  | .agg parts => uptoBulkAll parts + 1
  | .iface _ d => uptoBulk d + 1
  | .map entries => uptoBulkEntries entries + 1
  | .held _ => 1
def uptoBulkAll {H : Type} : List (DataW H) → Nat
  | [] => 0
  | d :: r => uptoBulk d + uptoBulkAll r
def uptoBulkEntries {H : Type} : List (Lit × DataW H) → Nat
  | [] => 0
  | x :: r => uptoBulkEntry x + uptoBulkEntries r
def uptoBulkEntry {H : Type} : Lit × DataW H → Nat
  | (.string bytes, d) => bytes.length + uptoBulk d + 1
  | (_, d) => uptoBulk d + 1
 end
def uptoSmall : (H : Type) → List (DataW H) → Bool := fun _ ds => decide (uptoBulkAll ds ≤ 1048576)
def OpenSpec.upto (s : _root_.Go.ChangeSpec) : _root_.Go.OpenSpec := { _root_.Go.OpenSpec.ofChange s with cond := some uptoSmall }

/-- 'paliolaw08.ScanNext', WHERE WHAT IT READS IS OF BULK AT MOST 1048576: true; the input reads as it did. -/
def scanNextUptoRow : OpenClaim := { program := "ytohjcoadgojikaa", sum := "6d2efc4c2eaa4d27609f5b532a11c711614d372ba073c8e1199d440b724300fd", func := "palio/paliolaw08.ScanNext", spec := "scanNext", apart := false, narrowed := true }
def ScanNextUptoSaid : Prop := scanNextUptoRow.holds Try.pinned (OpenSpec.upto scanNextSpec)

/-- 'paliolaw08.ScanRounds', WHERE WHAT IT READS IS OF BULK AT MOST 1048576: true; the input reads as it did. -/
def scanRoundsUptoRow : OpenClaim := { program := "ytohjcoadgojikaa", sum := "6d2efc4c2eaa4d27609f5b532a11c711614d372ba073c8e1199d440b724300fd", func := "palio/paliolaw08.ScanRounds", spec := "scanRounds", apart := false, narrowed := true }
def ScanRoundsUptoSaid : Prop := scanRoundsUptoRow.holds Try.pinned (OpenSpec.upto scanRoundsSpec)

/-- 'paliolaw06.HashSums', WHERE WHAT IT READS IS OF BULK AT MOST 1048576: true; the input reads as it did. -/
def hashSumsUptoRow : OpenClaim := { program := "ytohjcoadgojikaa", sum := "6d2efc4c2eaa4d27609f5b532a11c711614d372ba073c8e1199d440b724300fd", func := "palio/paliolaw06.HashSums", spec := "hashSums", unfollowed := true, recurses := true, apart := false, narrowed := true }
def HashSumsUptoSaid : Prop := hashSumsUptoRow.holds Try.pinned (OpenSpec.upto hashSumsSpec)

/-- 'paliolaw06.HashTurns', WHERE WHAT IT READS IS OF BULK AT MOST 1048576: true; the input reads as it did. -/
def hashTurnsUptoRow : OpenClaim := { program := "ytohjcoadgojikaa", sum := "6d2efc4c2eaa4d27609f5b532a11c711614d372ba073c8e1199d440b724300fd", func := "palio/paliolaw06.HashTurns", spec := "hashTurns", unfollowed := true, recurses := true, apart := false, narrowed := true }
def HashTurnsUptoSaid : Prop := hashTurnsUptoRow.holds Try.pinned (OpenSpec.upto hashTurnsSpec)

/-- 'paliolaw06.HashSizes', WHERE WHAT IT READS IS OF BULK AT MOST 1048576: true; the input reads as it did. -/
def hashSizesUptoRow : OpenClaim := { program := "ytohjcoadgojikaa", sum := "6d2efc4c2eaa4d27609f5b532a11c711614d372ba073c8e1199d440b724300fd", func := "palio/paliolaw06.HashSizes", spec := "hashSizes", unfollowed := true, recurses := true, apart := false, narrowed := true }
def HashSizesUptoSaid : Prop := hashSizesUptoRow.holds Try.pinned (OpenSpec.upto hashSizesSpec)

/-- 'paliolaw06.HashHalves', WHERE WHAT IT READS IS OF BULK AT MOST 1048576: true; the input reads as it did. -/
def hashHalvesUptoRow : OpenClaim := { program := "ytohjcoadgojikaa", sum := "6d2efc4c2eaa4d27609f5b532a11c711614d372ba073c8e1199d440b724300fd", func := "palio/paliolaw06.HashHalves", spec := "hashHalves", unfollowed := true, recurses := true, apart := false, narrowed := true }
def HashHalvesUptoSaid : Prop := hashHalvesUptoRow.holds Try.pinned (OpenSpec.upto hashHalvesSpec)

/-- 'paliolaw06.HashSeeds', WHERE WHAT IT READS IS OF BULK AT MOST 1048576: true; the input reads as it did. -/
def hashSeedsUptoRow : OpenClaim := { program := "ytohjcoadgojikaa", sum := "6d2efc4c2eaa4d27609f5b532a11c711614d372ba073c8e1199d440b724300fd", func := "palio/paliolaw06.HashSeeds", spec := "hashSeeds", unfollowed := true, recurses := true, apart := false, narrowed := true }
def HashSeedsUptoSaid : Prop := hashSeedsUptoRow.holds Try.pinned (OpenSpec.upto hashSeedsSpec)

/-- 'paliolaw06.HashFits', WHERE WHAT IT READS IS OF BULK AT MOST 1048576: true; the input reads as it did. -/
def hashFitsUptoRow : OpenClaim := { program := "ytohjcoadgojikaa", sum := "6d2efc4c2eaa4d27609f5b532a11c711614d372ba073c8e1199d440b724300fd", func := "palio/paliolaw06.HashFits", spec := "hashFits", unfollowed := true, recurses := true, apart := false, narrowed := true }
def HashFitsUptoSaid : Prop := hashFitsUptoRow.holds Try.pinned (OpenSpec.upto hashFitsSpec)

end Rows
end Go.Proofs.Ytohjcoadgojikaa
