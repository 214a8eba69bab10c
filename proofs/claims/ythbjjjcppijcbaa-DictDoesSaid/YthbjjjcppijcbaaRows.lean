/-
  No cell of these rows narrows 'for every input' (looked for: loops, veiled, ifaces, maps, wideKeys, modest, calm, conditions, laid).
  DERIVED. THE GIVEN ROWS OF THIS SEAT. 11 by the template 'for every input the law returns true; each argument reads behind the call as it read before'; 0 by the template 'total and deterministic' (their statements: YthbjjjcppijcbaaTotals.lean).
  GIVEN WITH THE SEED: the statements are not yours to turn. If you find one false, say at which input.
  Laid BY PROGRAM, IN A SANDBOX (cutbox-rows.mjs): the forced cells as the released guide's own fill.sh prints them over the translation ecb73658bf0595e3… (all of the seat's roots in one cut). By AI agents, Wed Nov 11 2026. No macro, syntax, notation, axiom, sorry.
-/
import Derived.Test.YthbjjjcppijcbaaChecked
import GoSem.Claim
import GoSem.ClaimJoined
import GoSem.ClaimMapViews
import Derived.JoinedTies
import Derived.KernelRfl
namespace Go.Proofs.Ythbjjjcppijcbaa
/- THE CELL 'sum', in the pinned program and in every row, IS THE sha256 OF THE DUMP (.gsa) THAT YthbjjjcppijcbaaProg.lean LOADS. Nothing in Lean hashes anything: it is a label: what it is worth is what the hold of that sum in a sandbox is worth. -/
noncomputable def Try.pinned : Pinned := { name := "ythbjjjcppijcbaa", sum := "ecb73658bf0595e30c3cfdba3494da5e6eb73bb6c13bdf3f55649e79beb66367", checked := Try.checked }
namespace Rows
def none {H : Type} : Left H := { results := [], args := [] }

/-- 'paliolaw07.DictSeeds': WHATEVER THE INPUT: true; the input reads as it did. -/
def dictSeedsSpec : ChangeSpec := { name := "dictSeeds", fn := fun _ => fun
  | [d1, d2, d3] => { results := [.lit (.bool true)], args := [d1, d2, d3] }
  | _ => none }
def dictSeedsRow : OpenClaim := { program := "ythbjjjcppijcbaa", sum := "ecb73658bf0595e30c3cfdba3494da5e6eb73bb6c13bdf3f55649e79beb66367", func := "palio/paliolaw07.DictSeeds", spec := "dictSeeds", unfollowed := true, recurses := true, apart := false }
def DictSeedsSaid : Prop := dictSeedsRow.holds Try.pinned (OpenSpec.ofChange dictSeedsSpec)

/-- ITS FALSE NEIGHBOUR: 'it returns false'. Refute it at one input. -/
def dictSeedsWrong : ChangeSpec := { name := "dictSeeds", fn := fun _ => fun
  | [d1, d2, d3] => { results := [.lit (.bool false)], args := [d1, d2, d3] }
  | _ => none }
def DictSeedsWrongFalsely : Prop := dictSeedsRow.holds Try.pinned (OpenSpec.ofChange dictSeedsWrong)

/-- 'paliolaw07.DictTexts': WHATEVER THE INPUT: true; the input reads as it did. -/
def dictTextsSpec : ChangeSpec := { name := "dictTexts", fn := fun _ => fun
  | [d1, d2] => { results := [.lit (.bool true)], args := [d1, d2] }
  | _ => none }
def dictTextsRow : OpenClaim := { program := "ythbjjjcppijcbaa", sum := "ecb73658bf0595e30c3cfdba3494da5e6eb73bb6c13bdf3f55649e79beb66367", func := "palio/paliolaw07.DictTexts", spec := "dictTexts", unfollowed := true, recurses := true, apart := false }
def DictTextsSaid : Prop := dictTextsRow.holds Try.pinned (OpenSpec.ofChange dictTextsSpec)

/-- ITS FALSE NEIGHBOUR: 'it returns false'. Refute it at one input. -/
def dictTextsWrong : ChangeSpec := { name := "dictTexts", fn := fun _ => fun
  | [d1, d2] => { results := [.lit (.bool false)], args := [d1, d2] }
  | _ => none }
def DictTextsWrongFalsely : Prop := dictTextsRow.holds Try.pinned (OpenSpec.ofChange dictTextsWrong)

/-- 'paliolaw07.DictMoves': WHATEVER THE INPUT: true; the input reads as it did. -/
def dictMovesSpec : ChangeSpec := { name := "dictMoves", fn := fun _ => fun
  | [d1, d2, d3] => { results := [.lit (.bool true)], args := [d1, d2, d3] }
  | _ => none }
def dictMovesRow : OpenClaim := { program := "ythbjjjcppijcbaa", sum := "ecb73658bf0595e30c3cfdba3494da5e6eb73bb6c13bdf3f55649e79beb66367", func := "palio/paliolaw07.DictMoves", spec := "dictMoves", unfollowed := true, recurses := true, apart := false }
def DictMovesSaid : Prop := dictMovesRow.holds Try.pinned (OpenSpec.ofChange dictMovesSpec)

/-- ITS FALSE NEIGHBOUR: 'it returns false'. Refute it at one input. -/
def dictMovesWrong : ChangeSpec := { name := "dictMoves", fn := fun _ => fun
  | [d1, d2, d3] => { results := [.lit (.bool false)], args := [d1, d2, d3] }
  | _ => none }
def DictMovesWrongFalsely : Prop := dictMovesRow.holds Try.pinned (OpenSpec.ofChange dictMovesWrong)

/-- 'paliolaw07.DictTwice': WHATEVER THE INPUT: true; the input reads as it did. -/
def dictTwiceSpec : ChangeSpec := { name := "dictTwice", fn := fun _ => fun
  | [d1, d2, d3, d4, d5] => { results := [.lit (.bool true)], args := [d1, d2, d3, d4, d5] }
  | _ => none }
def dictTwiceRow : OpenClaim := { program := "ythbjjjcppijcbaa", sum := "ecb73658bf0595e30c3cfdba3494da5e6eb73bb6c13bdf3f55649e79beb66367", func := "palio/paliolaw07.DictTwice", spec := "dictTwice", unfollowed := true, recurses := true, apart := false }
def DictTwiceSaid : Prop := dictTwiceRow.holds Try.pinned (OpenSpec.ofChange dictTwiceSpec)

/-- ITS FALSE NEIGHBOUR: 'it returns false'. Refute it at one input. -/
def dictTwiceWrong : ChangeSpec := { name := "dictTwice", fn := fun _ => fun
  | [d1, d2, d3, d4, d5] => { results := [.lit (.bool false)], args := [d1, d2, d3, d4, d5] }
  | _ => none }
def DictTwiceWrongFalsely : Prop := dictTwiceRow.holds Try.pinned (OpenSpec.ofChange dictTwiceWrong)

/-- 'paliolaw07.DictDoes': WHATEVER THE INPUT: true; the input reads as it did. -/
def dictDoesSpec : ChangeSpec := { name := "dictDoes", fn := fun _ => fun
  | [d1, d2] => { results := [.lit (.bool true)], args := [d1, d2] }
  | _ => none }
def dictDoesRow : OpenClaim := { program := "ythbjjjcppijcbaa", sum := "ecb73658bf0595e30c3cfdba3494da5e6eb73bb6c13bdf3f55649e79beb66367", func := "palio/paliolaw07.DictDoes", spec := "dictDoes", unfollowed := true, recurses := true, apart := false }
def DictDoesSaid : Prop := dictDoesRow.holds Try.pinned (OpenSpec.ofChange dictDoesSpec)

/-- ITS FALSE NEIGHBOUR: 'it returns false'. Refute it at one input. -/
def dictDoesWrong : ChangeSpec := { name := "dictDoes", fn := fun _ => fun
  | [d1, d2] => { results := [.lit (.bool false)], args := [d1, d2] }
  | _ => none }
def DictDoesWrongFalsely : Prop := dictDoesRow.holds Try.pinned (OpenSpec.ofChange dictDoesWrong)

/-- 'paliolaw07.DictKeys': WHATEVER THE INPUT: true; the input reads as it did. -/
def dictKeysSpec : ChangeSpec := { name := "dictKeys", fn := fun _ => fun
  | [d1, d2] => { results := [.lit (.bool true)], args := [d1, d2] }
  | _ => none }
def dictKeysRow : OpenClaim := { program := "ythbjjjcppijcbaa", sum := "ecb73658bf0595e30c3cfdba3494da5e6eb73bb6c13bdf3f55649e79beb66367", func := "palio/paliolaw07.DictKeys", spec := "dictKeys", unfollowed := true, recurses := true, apart := false }
def DictKeysSaid : Prop := dictKeysRow.holds Try.pinned (OpenSpec.ofChange dictKeysSpec)

/-- ITS FALSE NEIGHBOUR: 'it returns false'. Refute it at one input. -/
def dictKeysWrong : ChangeSpec := { name := "dictKeys", fn := fun _ => fun
  | [d1, d2] => { results := [.lit (.bool false)], args := [d1, d2] }
  | _ => none }
def DictKeysWrongFalsely : Prop := dictKeysRow.holds Try.pinned (OpenSpec.ofChange dictKeysWrong)

/-- 'paliolaw08.ScanMoves': WHATEVER THE INPUT: true; the input reads as it did. -/
def scanMovesSpec : ChangeSpec := { name := "scanMoves", fn := fun _ => fun
  | [d1, d2, d3] => { results := [.lit (.bool true)], args := [d1, d2, d3] }
  | _ => none }
def scanMovesRow : OpenClaim := { program := "ythbjjjcppijcbaa", sum := "ecb73658bf0595e30c3cfdba3494da5e6eb73bb6c13bdf3f55649e79beb66367", func := "palio/paliolaw08.ScanMoves", spec := "scanMoves", unfollowed := true, recurses := true, apart := false }
def ScanMovesSaid : Prop := scanMovesRow.holds Try.pinned (OpenSpec.ofChange scanMovesSpec)

/-- ITS FALSE NEIGHBOUR: 'it returns false'. Refute it at one input. -/
def scanMovesWrong : ChangeSpec := { name := "scanMoves", fn := fun _ => fun
  | [d1, d2, d3] => { results := [.lit (.bool false)], args := [d1, d2, d3] }
  | _ => none }
def ScanMovesWrongFalsely : Prop := scanMovesRow.holds Try.pinned (OpenSpec.ofChange scanMovesWrong)

/-- 'paliolaw08.ScanTells': WHATEVER THE INPUT: true; the input reads as it did. -/
def scanTellsSpec : ChangeSpec := { name := "scanTells", fn := fun _ => fun
  | [d1, d2, d3] => { results := [.lit (.bool true)], args := [d1, d2, d3] }
  | _ => none }
def scanTellsRow : OpenClaim := { program := "ythbjjjcppijcbaa", sum := "ecb73658bf0595e30c3cfdba3494da5e6eb73bb6c13bdf3f55649e79beb66367", func := "palio/paliolaw08.ScanTells", spec := "scanTells", unfollowed := true, recurses := true, apart := false }
def ScanTellsSaid : Prop := scanTellsRow.holds Try.pinned (OpenSpec.ofChange scanTellsSpec)

/-- ITS FALSE NEIGHBOUR: 'it returns false'. Refute it at one input. -/
def scanTellsWrong : ChangeSpec := { name := "scanTells", fn := fun _ => fun
  | [d1, d2, d3] => { results := [.lit (.bool false)], args := [d1, d2, d3] }
  | _ => none }
def ScanTellsWrongFalsely : Prop := scanTellsRow.holds Try.pinned (OpenSpec.ofChange scanTellsWrong)

/-- 'paliolaw08.ScanDigits': WHATEVER THE INPUT: true; the input reads as it did. -/
def scanDigitsSpec : ChangeSpec := { name := "scanDigits", fn := fun _ => fun
  | [d1, d2, d3, d4] => { results := [.lit (.bool true)], args := [d1, d2, d3, d4] }
  | _ => none }
def scanDigitsRow : OpenClaim := { program := "ythbjjjcppijcbaa", sum := "ecb73658bf0595e30c3cfdba3494da5e6eb73bb6c13bdf3f55649e79beb66367", func := "palio/paliolaw08.ScanDigits", spec := "scanDigits", unfollowed := true, recurses := true, apart := false }
def ScanDigitsSaid : Prop := scanDigitsRow.holds Try.pinned (OpenSpec.ofChange scanDigitsSpec)

/-- ITS FALSE NEIGHBOUR: 'it returns false'. Refute it at one input. -/
def scanDigitsWrong : ChangeSpec := { name := "scanDigits", fn := fun _ => fun
  | [d1, d2, d3, d4] => { results := [.lit (.bool false)], args := [d1, d2, d3, d4] }
  | _ => none }
def ScanDigitsWrongFalsely : Prop := scanDigitsRow.holds Try.pinned (OpenSpec.ofChange scanDigitsWrong)

/-- 'paliolaw08.ScanKeeps': WHATEVER THE INPUT: true; the input reads as it did. -/
def scanKeepsSpec : ChangeSpec := { name := "scanKeeps", fn := fun _ => fun
  | [d1, d2, d3] => { results := [.lit (.bool true)], args := [d1, d2, d3] }
  | _ => none }
def scanKeepsRow : OpenClaim := { program := "ythbjjjcppijcbaa", sum := "ecb73658bf0595e30c3cfdba3494da5e6eb73bb6c13bdf3f55649e79beb66367", func := "palio/paliolaw08.ScanKeeps", spec := "scanKeeps", unfollowed := true, recurses := true, apart := false }
def ScanKeepsSaid : Prop := scanKeepsRow.holds Try.pinned (OpenSpec.ofChange scanKeepsSpec)

/-- ITS FALSE NEIGHBOUR: 'it returns false'. Refute it at one input. -/
def scanKeepsWrong : ChangeSpec := { name := "scanKeeps", fn := fun _ => fun
  | [d1, d2, d3] => { results := [.lit (.bool false)], args := [d1, d2, d3] }
  | _ => none }
def ScanKeepsWrongFalsely : Prop := scanKeepsRow.holds Try.pinned (OpenSpec.ofChange scanKeepsWrong)

/-- 'paliolaw08.ScanOnce': WHATEVER THE INPUT: true; the input reads as it did. -/
def scanOnceSpec : ChangeSpec := { name := "scanOnce", fn := fun _ => fun
  | [d1, d2] => { results := [.lit (.bool true)], args := [d1, d2] }
  | _ => none }
def scanOnceRow : OpenClaim := { program := "ythbjjjcppijcbaa", sum := "ecb73658bf0595e30c3cfdba3494da5e6eb73bb6c13bdf3f55649e79beb66367", func := "palio/paliolaw08.ScanOnce", spec := "scanOnce", unfollowed := true, recurses := true, apart := false }
def ScanOnceSaid : Prop := scanOnceRow.holds Try.pinned (OpenSpec.ofChange scanOnceSpec)

/-- ITS FALSE NEIGHBOUR: 'it returns false'. Refute it at one input. -/
def scanOnceWrong : ChangeSpec := { name := "scanOnce", fn := fun _ => fun
  | [d1, d2] => { results := [.lit (.bool false)], args := [d1, d2] }
  | _ => none }
def ScanOnceWrongFalsely : Prop := scanOnceRow.holds Try.pinned (OpenSpec.ofChange scanOnceWrong)

/- THE SECOND FORM. 'bulk': how many values and letters a reading holds, each counted each time it is reached (what is shared counts as often as it is met; a slice's spare places count too). A statement '..UptoSaid' is the law's where the arguments, and the package variables that the reading takes, are together of bulk at most 1048576: NARROWER than '..Said'. Prove '..Said' where nothing that the law and all that it calls make is longer than what came in: it says more and counts as full. Else prove '..UptoSaid'. A law counts once. -/
mutual
def uptoBulk {H : Type} : DataW H → Nat
  | .lit (.string bytes) => bytes.length + 1
  | .lit _ => 1
  | .nil => 1
  | .ptr d => uptoBulk d + 1
  | .slice elems spare => uptoBulkAll elems + uptoBulkAll spare + 1
  | .agg parts => uptoBulkAll parts + 1
  | .iface _ d => uptoBulk d + 1
  | .map entries => uptoBulkEntries entries + 1
  | .held _ => 1
def uptoBulkAll {H : Type} : List (DataW H) → Nat
  | [] => 0
  | d :: r => uptoBulk d + uptoBulkAll r
def uptoBulkEntries {H : Type} : List (Lit × DataW H) → Nat
  | [] => 0
  | x :: r => uptoBulkEntry x + uptoBulkEntries r
def uptoBulkEntry {H : Type} : Lit × DataW H → Nat
  | (.string bytes, d) => bytes.length + uptoBulk d + 1
  | (_, d) => uptoBulk d + 1
 end
def uptoSmall : (H : Type) → List (DataW H) → Bool := fun _ ds => decide (uptoBulkAll ds ≤ 1048576)
def OpenSpec.upto (s : _root_.Go.ChangeSpec) : _root_.Go.OpenSpec := { _root_.Go.OpenSpec.ofChange s with cond := some uptoSmall }

/-- 'paliolaw07.DictSeeds', WHERE WHAT IT READS IS OF BULK AT MOST 1048576: true; the input reads as it did. -/
def dictSeedsUptoRow : OpenClaim := { program := "ythbjjjcppijcbaa", sum := "ecb73658bf0595e30c3cfdba3494da5e6eb73bb6c13bdf3f55649e79beb66367", func := "palio/paliolaw07.DictSeeds", spec := "dictSeeds", unfollowed := true, recurses := true, apart := false, narrowed := true }
def DictSeedsUptoSaid : Prop := dictSeedsUptoRow.holds Try.pinned (OpenSpec.upto dictSeedsSpec)

/-- 'paliolaw07.DictTexts', WHERE WHAT IT READS IS OF BULK AT MOST 1048576: true; the input reads as it did. -/
def dictTextsUptoRow : OpenClaim := { program := "ythbjjjcppijcbaa", sum := "ecb73658bf0595e30c3cfdba3494da5e6eb73bb6c13bdf3f55649e79beb66367", func := "palio/paliolaw07.DictTexts", spec := "dictTexts", unfollowed := true, recurses := true, apart := false, narrowed := true }
def DictTextsUptoSaid : Prop := dictTextsUptoRow.holds Try.pinned (OpenSpec.upto dictTextsSpec)

/-- 'paliolaw07.DictMoves', WHERE WHAT IT READS IS OF BULK AT MOST 1048576: true; the input reads as it did. -/
def dictMovesUptoRow : OpenClaim := { program := "ythbjjjcppijcbaa", sum := "ecb73658bf0595e30c3cfdba3494da5e6eb73bb6c13bdf3f55649e79beb66367", func := "palio/paliolaw07.DictMoves", spec := "dictMoves", unfollowed := true, recurses := true, apart := false, narrowed := true }
def DictMovesUptoSaid : Prop := dictMovesUptoRow.holds Try.pinned (OpenSpec.upto dictMovesSpec)

/-- 'paliolaw07.DictTwice', WHERE WHAT IT READS IS OF BULK AT MOST 1048576: true; the input reads as it did. -/
def dictTwiceUptoRow : OpenClaim := { program := "ythbjjjcppijcbaa", sum := "ecb73658bf0595e30c3cfdba3494da5e6eb73bb6c13bdf3f55649e79beb66367", func := "palio/paliolaw07.DictTwice", spec := "dictTwice", unfollowed := true, recurses := true, apart := false, narrowed := true }
def DictTwiceUptoSaid : Prop := dictTwiceUptoRow.holds Try.pinned (OpenSpec.upto dictTwiceSpec)

/-- 'paliolaw07.DictDoes', WHERE WHAT IT READS IS OF BULK AT MOST 1048576: true; the input reads as it did. -/
def dictDoesUptoRow : OpenClaim := { program := "ythbjjjcppijcbaa", sum := "ecb73658bf0595e30c3cfdba3494da5e6eb73bb6c13bdf3f55649e79beb66367", func := "palio/paliolaw07.DictDoes", spec := "dictDoes", unfollowed := true, recurses := true, apart := false, narrowed := true }
def DictDoesUptoSaid : Prop := dictDoesUptoRow.holds Try.pinned (OpenSpec.upto dictDoesSpec)

/-- 'paliolaw07.DictKeys', WHERE WHAT IT READS IS OF BULK AT MOST 1048576: true; the input reads as it did. -/
def dictKeysUptoRow : OpenClaim := { program := "ythbjjjcppijcbaa", sum := "ecb73658bf0595e30c3cfdba3494da5e6eb73bb6c13bdf3f55649e79beb66367", func := "palio/paliolaw07.DictKeys", spec := "dictKeys", unfollowed := true, recurses := true, apart := false, narrowed := true }
def DictKeysUptoSaid : Prop := dictKeysUptoRow.holds Try.pinned (OpenSpec.upto dictKeysSpec)

/-- 'paliolaw08.ScanMoves', WHERE WHAT IT READS IS OF BULK AT MOST 1048576: true; the input reads as it did. -/
def scanMovesUptoRow : OpenClaim := { program := "ythbjjjcppijcbaa", sum := "ecb73658bf0595e30c3cfdba3494da5e6eb73bb6c13bdf3f55649e79beb66367", func := "palio/paliolaw08.ScanMoves", spec := "scanMoves", unfollowed := true, recurses := true, apart := false, narrowed := true }
def ScanMovesUptoSaid : Prop := scanMovesUptoRow.holds Try.pinned (OpenSpec.upto scanMovesSpec)

/-- 'paliolaw08.ScanTells', WHERE WHAT IT READS IS OF BULK AT MOST 1048576: true; the input reads as it did. -/
def scanTellsUptoRow : OpenClaim := { program := "ythbjjjcppijcbaa", sum := "ecb73658bf0595e30c3cfdba3494da5e6eb73bb6c13bdf3f55649e79beb66367", func := "palio/paliolaw08.ScanTells", spec := "scanTells", unfollowed := true, recurses := true, apart := false, narrowed := true }
def ScanTellsUptoSaid : Prop := scanTellsUptoRow.holds Try.pinned (OpenSpec.upto scanTellsSpec)

/-- 'paliolaw08.ScanDigits', WHERE WHAT IT READS IS OF BULK AT MOST 1048576: true; the input reads as it did. -/
def scanDigitsUptoRow : OpenClaim := { program := "ythbjjjcppijcbaa", sum := "ecb73658bf0595e30c3cfdba3494da5e6eb73bb6c13bdf3f55649e79beb66367", func := "palio/paliolaw08.ScanDigits", spec := "scanDigits", unfollowed := true, recurses := true, apart := false, narrowed := true }
def ScanDigitsUptoSaid : Prop := scanDigitsUptoRow.holds Try.pinned (OpenSpec.upto scanDigitsSpec)

/-- 'paliolaw08.ScanKeeps', WHERE WHAT IT READS IS OF BULK AT MOST 1048576: true; the input reads as it did. -/
def scanKeepsUptoRow : OpenClaim := { program := "ythbjjjcppijcbaa", sum := "ecb73658bf0595e30c3cfdba3494da5e6eb73bb6c13bdf3f55649e79beb66367", func := "palio/paliolaw08.ScanKeeps", spec := "scanKeeps", unfollowed := true, recurses := true, apart := false, narrowed := true }
def ScanKeepsUptoSaid : Prop := scanKeepsUptoRow.holds Try.pinned (OpenSpec.upto scanKeepsSpec)

/-- 'paliolaw08.ScanOnce', WHERE WHAT IT READS IS OF BULK AT MOST 1048576: true; the input reads as it did. -/
def scanOnceUptoRow : OpenClaim := { program := "ythbjjjcppijcbaa", sum := "ecb73658bf0595e30c3cfdba3494da5e6eb73bb6c13bdf3f55649e79beb66367", func := "palio/paliolaw08.ScanOnce", spec := "scanOnce", unfollowed := true, recurses := true, apart := false, narrowed := true }
def ScanOnceUptoSaid : Prop := scanOnceUptoRow.holds Try.pinned (OpenSpec.upto scanOnceSpec)

end Rows
end Go.Proofs.Ythbjjjcppijcbaa
