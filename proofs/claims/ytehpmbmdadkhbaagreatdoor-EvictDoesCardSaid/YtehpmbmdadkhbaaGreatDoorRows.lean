/-
  NARROWER THAN 'FOR EVERY INPUT', by the rows' own cells (each row's printed sentence says how): EvictSamples: laid · EvictDoes: laid · EvictLast: laid · EvictTimes: laid · EvictNone: laid · EvictWhole: laid.
  DERIVED. THE GIVEN ROWS OF THIS SEAT. 6 by the template 'for every input the law returns true; each argument reads behind the call as it read before'; 0 by the template 'total and deterministic' (their statements: YtehpmbmdadkhbaaGreatDoorTotals.lean).
  GIVEN WITH THE SEED: the statements are not yours to turn. If you find one false, say at which input.
  Laid BY PROGRAM, IN A SANDBOX (cutbox-rows.mjs): the forced cells as the released guide's own fill.sh prints them over the translation 52251e93af145608… (all of the seat's roots in one cut). By AI agents, Wed Nov 11 2026. No macro, syntax, notation, axiom, sorry.
-/
import Derived.Test.YtehpmbmdadkhbaaGreatDoorChecked
import GoSem.Claim
import GoSem.ClaimJoined
import GoSem.ClaimMapViews
import Derived.JoinedTies
import Derived.KernelRfl
namespace Go.Proofs.YtehpmbmdadkhbaaGreatDoor
/- THE CELL 'sum', in the pinned program and in every row, IS THE sha256 OF THE DUMP (.gsa) THAT YtehpmbmdadkhbaaGreatDoorProg.lean LOADS. Nothing in Lean hashes anything: it is a label: what it is worth is what the hold of that sum in a sandbox is worth. -/
noncomputable def Tryz.pinned : Pinned := { name := "ytehpmbmdadkhbaagreatdoor", sum := "52251e93af145608653ec2c2a262563fe2434aa6b3a15afb9415ac2c8d3e8258", checked := Tryz.checked }
namespace Rows
def none {H : Type} : Left H := { results := [], args := [] }

/- WHAT THE LISTED PACKAGE-LEVEL VARIABLES READ AS WHEN THE CALL BEGINS. Each datum BY PROGRAM (the guide's laid-datum.mjs) off the statement by which the dump's own 'gosem.cut.vars' lays the variable. In a bare row this is a premise. The card (YtehpmbmdadkhbaaGreatDoorCards.lean) ties it to the program's text. -/
def laid_errors_errorType {H : Type} : DataW H := .iface "internal/reflectlite.rtype" (.agg [.ptr (.lit (.string [101, 114, 114, 111, 114]))])

/-- 'paliolaw16.EvictSamples': WHATEVER THE INPUT: true; the input reads as it did. -/
def evictSamplesSpec : ChangeSpec := { name := "evictSamples", fn := fun _ => fun
  | [d1, d2, d3, d4] => { results := [.lit (.bool true)], args := [d1, d2, d3, d4] }
  | _ => none }
def evictSamplesRow : OpenClaim := { program := "ytehpmbmdadkhbaagreatdoor", sum := "52251e93af145608653ec2c2a262563fe2434aa6b3a15afb9415ac2c8d3e8258", func := "palio/paliolaw16.EvictSamples", spec := "evictSamples", inPlace := ["internal/reflectlite.ValueOf", "(internal/reflectlite.Value).Type", "(internal/reflectlite.Value).IsNil", "internal/reflectlite.TypeOf", "(internal/reflectlite.Value).Elem", "(internal/reflectlite.Value).Set"], unfollowed := true, recurses := true, named := ["errors.errorType"], apart := false, laid := [("errors.errorType", laid_errors_errorType)] }
def EvictSamplesSaid : Prop := evictSamplesRow.holds Tryz.pinned (OpenSpec.ofChange evictSamplesSpec)

/-- ITS FALSE NEIGHBOUR: 'it returns false'. Refute it at one input. -/
def evictSamplesWrong : ChangeSpec := { name := "evictSamples", fn := fun _ => fun
  | [d1, d2, d3, d4] => { results := [.lit (.bool false)], args := [d1, d2, d3, d4] }
  | _ => none }
def EvictSamplesWrongFalsely : Prop := evictSamplesRow.holds Tryz.pinned (OpenSpec.ofChange evictSamplesWrong)

/-- 'paliolaw16.EvictDoes': WHATEVER THE INPUT: true; the input reads as it did. -/
def evictDoesSpec : ChangeSpec := { name := "evictDoes", fn := fun _ => fun
  | [d1, d2, d3, d4, d5] => { results := [.lit (.bool true)], args := [d1, d2, d3, d4, d5] }
  | _ => none }
def evictDoesRow : OpenClaim := { program := "ytehpmbmdadkhbaagreatdoor", sum := "52251e93af145608653ec2c2a262563fe2434aa6b3a15afb9415ac2c8d3e8258", func := "palio/paliolaw16.EvictDoes", spec := "evictDoes", inPlace := ["internal/reflectlite.ValueOf", "(internal/reflectlite.Value).Type", "(internal/reflectlite.Value).IsNil", "internal/reflectlite.TypeOf", "(internal/reflectlite.Value).Elem", "(internal/reflectlite.Value).Set"], unfollowed := true, recurses := true, named := ["errors.errorType"], apart := false, laid := [("errors.errorType", laid_errors_errorType)] }
def EvictDoesSaid : Prop := evictDoesRow.holds Tryz.pinned (OpenSpec.ofChange evictDoesSpec)

/-- ITS FALSE NEIGHBOUR: 'it returns false'. Refute it at one input. -/
def evictDoesWrong : ChangeSpec := { name := "evictDoes", fn := fun _ => fun
  | [d1, d2, d3, d4, d5] => { results := [.lit (.bool false)], args := [d1, d2, d3, d4, d5] }
  | _ => none }
def EvictDoesWrongFalsely : Prop := evictDoesRow.holds Tryz.pinned (OpenSpec.ofChange evictDoesWrong)

/-- 'paliolaw16.EvictLast': WHATEVER THE INPUT: true; the input reads as it did. -/
def evictLastSpec : ChangeSpec := { name := "evictLast", fn := fun _ => fun
  | [d1, d2, d3, d4] => { results := [.lit (.bool true)], args := [d1, d2, d3, d4] }
  | _ => none }
def evictLastRow : OpenClaim := { program := "ytehpmbmdadkhbaagreatdoor", sum := "52251e93af145608653ec2c2a262563fe2434aa6b3a15afb9415ac2c8d3e8258", func := "palio/paliolaw16.EvictLast", spec := "evictLast", inPlace := ["internal/reflectlite.ValueOf", "(internal/reflectlite.Value).Type", "(internal/reflectlite.Value).IsNil", "internal/reflectlite.TypeOf", "(internal/reflectlite.Value).Elem", "(internal/reflectlite.Value).Set"], unfollowed := true, recurses := true, named := ["errors.errorType"], apart := false, laid := [("errors.errorType", laid_errors_errorType)] }
def EvictLastSaid : Prop := evictLastRow.holds Tryz.pinned (OpenSpec.ofChange evictLastSpec)

/-- ITS FALSE NEIGHBOUR: 'it returns false'. Refute it at one input. -/
def evictLastWrong : ChangeSpec := { name := "evictLast", fn := fun _ => fun
  | [d1, d2, d3, d4] => { results := [.lit (.bool false)], args := [d1, d2, d3, d4] }
  | _ => none }
def EvictLastWrongFalsely : Prop := evictLastRow.holds Tryz.pinned (OpenSpec.ofChange evictLastWrong)

/-- 'paliolaw16.EvictTimes': WHATEVER THE INPUT: true; the input reads as it did. -/
def evictTimesSpec : ChangeSpec := { name := "evictTimes", fn := fun _ => fun
  | [d1, d2, d3, d4] => { results := [.lit (.bool true)], args := [d1, d2, d3, d4] }
  | _ => none }
def evictTimesRow : OpenClaim := { program := "ytehpmbmdadkhbaagreatdoor", sum := "52251e93af145608653ec2c2a262563fe2434aa6b3a15afb9415ac2c8d3e8258", func := "palio/paliolaw16.EvictTimes", spec := "evictTimes", inPlace := ["internal/reflectlite.ValueOf", "(internal/reflectlite.Value).Type", "(internal/reflectlite.Value).IsNil", "internal/reflectlite.TypeOf", "(internal/reflectlite.Value).Elem", "(internal/reflectlite.Value).Set"], unfollowed := true, recurses := true, named := ["errors.errorType"], apart := false, laid := [("errors.errorType", laid_errors_errorType)] }
def EvictTimesSaid : Prop := evictTimesRow.holds Tryz.pinned (OpenSpec.ofChange evictTimesSpec)

/-- ITS FALSE NEIGHBOUR: 'it returns false'. Refute it at one input. -/
def evictTimesWrong : ChangeSpec := { name := "evictTimes", fn := fun _ => fun
  | [d1, d2, d3, d4] => { results := [.lit (.bool false)], args := [d1, d2, d3, d4] }
  | _ => none }
def EvictTimesWrongFalsely : Prop := evictTimesRow.holds Tryz.pinned (OpenSpec.ofChange evictTimesWrong)

/-- 'paliolaw16.EvictNone': WHATEVER THE INPUT: true; the input reads as it did. -/
def evictNoneSpec : ChangeSpec := { name := "evictNone", fn := fun _ => fun
  | [d1, d2, d3, d4, d5] => { results := [.lit (.bool true)], args := [d1, d2, d3, d4, d5] }
  | _ => none }
def evictNoneRow : OpenClaim := { program := "ytehpmbmdadkhbaagreatdoor", sum := "52251e93af145608653ec2c2a262563fe2434aa6b3a15afb9415ac2c8d3e8258", func := "palio/paliolaw16.EvictNone", spec := "evictNone", inPlace := ["internal/reflectlite.ValueOf", "(internal/reflectlite.Value).Type", "(internal/reflectlite.Value).IsNil", "internal/reflectlite.TypeOf", "(internal/reflectlite.Value).Elem", "(internal/reflectlite.Value).Set"], unfollowed := true, recurses := true, named := ["errors.errorType"], apart := false, laid := [("errors.errorType", laid_errors_errorType)] }
def EvictNoneSaid : Prop := evictNoneRow.holds Tryz.pinned (OpenSpec.ofChange evictNoneSpec)

/-- ITS FALSE NEIGHBOUR: 'it returns false'. Refute it at one input. -/
def evictNoneWrong : ChangeSpec := { name := "evictNone", fn := fun _ => fun
  | [d1, d2, d3, d4, d5] => { results := [.lit (.bool false)], args := [d1, d2, d3, d4, d5] }
  | _ => none }
def EvictNoneWrongFalsely : Prop := evictNoneRow.holds Tryz.pinned (OpenSpec.ofChange evictNoneWrong)

/-- 'paliolaw16.EvictWhole': WHATEVER THE INPUT: true; the input reads as it did. -/
def evictWholeSpec : ChangeSpec := { name := "evictWhole", fn := fun _ => fun
  | [d1, d2, d3, d4] => { results := [.lit (.bool true)], args := [d1, d2, d3, d4] }
  | _ => none }
def evictWholeRow : OpenClaim := { program := "ytehpmbmdadkhbaagreatdoor", sum := "52251e93af145608653ec2c2a262563fe2434aa6b3a15afb9415ac2c8d3e8258", func := "palio/paliolaw16.EvictWhole", spec := "evictWhole", inPlace := ["internal/reflectlite.ValueOf", "(internal/reflectlite.Value).Type", "(internal/reflectlite.Value).IsNil", "internal/reflectlite.TypeOf", "(internal/reflectlite.Value).Elem", "(internal/reflectlite.Value).Set"], unfollowed := true, recurses := true, named := ["errors.errorType"], apart := false, laid := [("errors.errorType", laid_errors_errorType)] }
def EvictWholeSaid : Prop := evictWholeRow.holds Tryz.pinned (OpenSpec.ofChange evictWholeSpec)

/-- ITS FALSE NEIGHBOUR: 'it returns false'. Refute it at one input. -/
def evictWholeWrong : ChangeSpec := { name := "evictWhole", fn := fun _ => fun
  | [d1, d2, d3, d4] => { results := [.lit (.bool false)], args := [d1, d2, d3, d4] }
  | _ => none }
def EvictWholeWrongFalsely : Prop := evictWholeRow.holds Tryz.pinned (OpenSpec.ofChange evictWholeWrong)

/- THE SECOND FORM. 'bulk': how many values and letters a reading holds, each counted each time it is reached (what is shared counts as often as it is met; a slice's spare places count too). A statement '..UptoSaid' is the law's where the arguments, and the package variables that the reading takes, are together of bulk at most 1048576: NARROWER than '..Said'. Prove '..Said' where nothing that the law and all that it calls make is longer than what came in: it says more and counts as full. Else prove '..UptoSaid'. A law counts once. -/
mutual
def uptoBulk {H : Type} : DataW H → Nat
  | .lit (.string bytes) => bytes.length + 1
  | .lit _ => 1
  | .nil => 1
  | .ptr d => uptoBulk d + 1
  | .slice elems spare => uptoBulkAll elems + uptoBulkAll spare + 1
  | .agg parts => uptoBulkAll parts + 1
  | .iface _ d => uptoBulk d + 1
  | .map entries => uptoBulkEntries entries + 1
  | .held _ => 1
def uptoBulkAll {H : Type} : List (DataW H) → Nat
  | [] => 0
  | d :: r => uptoBulk d + uptoBulkAll r
def uptoBulkEntries {H : Type} : List (Lit × DataW H) → Nat
  | [] => 0
  | x :: r => uptoBulkEntry x + uptoBulkEntries r
def uptoBulkEntry {H : Type} : Lit × DataW H → Nat
  | (.string bytes, d) => bytes.length + uptoBulk d + 1
  | (_, d) => uptoBulk d + 1
 end
def uptoSmall : (H : Type) → List (DataW H) → Bool := fun _ ds => decide (uptoBulkAll ds ≤ 1048576)
def OpenSpec.upto (s : _root_.Go.ChangeSpec) : _root_.Go.OpenSpec := { _root_.Go.OpenSpec.ofChange s with cond := some uptoSmall }

/-- 'paliolaw16.EvictSamples', WHERE WHAT IT READS IS OF BULK AT MOST 1048576: true; the input reads as it did. -/
def evictSamplesUptoRow : OpenClaim := { program := "ytehpmbmdadkhbaagreatdoor", sum := "52251e93af145608653ec2c2a262563fe2434aa6b3a15afb9415ac2c8d3e8258", func := "palio/paliolaw16.EvictSamples", spec := "evictSamples", inPlace := ["internal/reflectlite.ValueOf", "(internal/reflectlite.Value).Type", "(internal/reflectlite.Value).IsNil", "internal/reflectlite.TypeOf", "(internal/reflectlite.Value).Elem", "(internal/reflectlite.Value).Set"], unfollowed := true, recurses := true, named := ["errors.errorType"], apart := false, laid := [("errors.errorType", laid_errors_errorType)], narrowed := true }
def EvictSamplesUptoSaid : Prop := evictSamplesUptoRow.holds Tryz.pinned (OpenSpec.upto evictSamplesSpec)

/-- 'paliolaw16.EvictDoes', WHERE WHAT IT READS IS OF BULK AT MOST 1048576: true; the input reads as it did. -/
def evictDoesUptoRow : OpenClaim := { program := "ytehpmbmdadkhbaagreatdoor", sum := "52251e93af145608653ec2c2a262563fe2434aa6b3a15afb9415ac2c8d3e8258", func := "palio/paliolaw16.EvictDoes", spec := "evictDoes", inPlace := ["internal/reflectlite.ValueOf", "(internal/reflectlite.Value).Type", "(internal/reflectlite.Value).IsNil", "internal/reflectlite.TypeOf", "(internal/reflectlite.Value).Elem", "(internal/reflectlite.Value).Set"], unfollowed := true, recurses := true, named := ["errors.errorType"], apart := false, laid := [("errors.errorType", laid_errors_errorType)], narrowed := true }
def EvictDoesUptoSaid : Prop := evictDoesUptoRow.holds Tryz.pinned (OpenSpec.upto evictDoesSpec)

/-- 'paliolaw16.EvictLast', WHERE WHAT IT READS IS OF BULK AT MOST 1048576: true; the input reads as it did. -/
def evictLastUptoRow : OpenClaim := { program := "ytehpmbmdadkhbaagreatdoor", sum := "52251e93af145608653ec2c2a262563fe2434aa6b3a15afb9415ac2c8d3e8258", func := "palio/paliolaw16.EvictLast", spec := "evictLast", inPlace := ["internal/reflectlite.ValueOf", "(internal/reflectlite.Value).Type", "(internal/reflectlite.Value).IsNil", "internal/reflectlite.TypeOf", "(internal/reflectlite.Value).Elem", "(internal/reflectlite.Value).Set"], unfollowed := true, recurses := true, named := ["errors.errorType"], apart := false, laid := [("errors.errorType", laid_errors_errorType)], narrowed := true }
def EvictLastUptoSaid : Prop := evictLastUptoRow.holds Tryz.pinned (OpenSpec.upto evictLastSpec)

/-- 'paliolaw16.EvictTimes', WHERE WHAT IT READS IS OF BULK AT MOST 1048576: true; the input reads as it did. -/
def evictTimesUptoRow : OpenClaim := { program := "ytehpmbmdadkhbaagreatdoor", sum := "52251e93af145608653ec2c2a262563fe2434aa6b3a15afb9415ac2c8d3e8258", func := "palio/paliolaw16.EvictTimes", spec := "evictTimes", inPlace := ["internal/reflectlite.ValueOf", "(internal/reflectlite.Value).Type", "(internal/reflectlite.Value).IsNil", "internal/reflectlite.TypeOf", "(internal/reflectlite.Value).Elem", "(internal/reflectlite.Value).Set"], unfollowed := true, recurses := true, named := ["errors.errorType"], apart := false, laid := [("errors.errorType", laid_errors_errorType)], narrowed := true }
def EvictTimesUptoSaid : Prop := evictTimesUptoRow.holds Tryz.pinned (OpenSpec.upto evictTimesSpec)

/-- 'paliolaw16.EvictNone', WHERE WHAT IT READS IS OF BULK AT MOST 1048576: true; the input reads as it did. -/
def evictNoneUptoRow : OpenClaim := { program := "ytehpmbmdadkhbaagreatdoor", sum := "52251e93af145608653ec2c2a262563fe2434aa6b3a15afb9415ac2c8d3e8258", func := "palio/paliolaw16.EvictNone", spec := "evictNone", inPlace := ["internal/reflectlite.ValueOf", "(internal/reflectlite.Value).Type", "(internal/reflectlite.Value).IsNil", "internal/reflectlite.TypeOf", "(internal/reflectlite.Value).Elem", "(internal/reflectlite.Value).Set"], unfollowed := true, recurses := true, named := ["errors.errorType"], apart := false, laid := [("errors.errorType", laid_errors_errorType)], narrowed := true }
def EvictNoneUptoSaid : Prop := evictNoneUptoRow.holds Tryz.pinned (OpenSpec.upto evictNoneSpec)

/-- 'paliolaw16.EvictWhole', WHERE WHAT IT READS IS OF BULK AT MOST 1048576: true; the input reads as it did. -/
def evictWholeUptoRow : OpenClaim := { program := "ytehpmbmdadkhbaagreatdoor", sum := "52251e93af145608653ec2c2a262563fe2434aa6b3a15afb9415ac2c8d3e8258", func := "palio/paliolaw16.EvictWhole", spec := "evictWhole", inPlace := ["internal/reflectlite.ValueOf", "(internal/reflectlite.Value).Type", "(internal/reflectlite.Value).IsNil", "internal/reflectlite.TypeOf", "(internal/reflectlite.Value).Elem", "(internal/reflectlite.Value).Set"], unfollowed := true, recurses := true, named := ["errors.errorType"], apart := false, laid := [("errors.errorType", laid_errors_errorType)], narrowed := true }
def EvictWholeUptoSaid : Prop := evictWholeUptoRow.holds Tryz.pinned (OpenSpec.upto evictWholeSpec)

end Rows
end Go.Proofs.YtehpmbmdadkhbaaGreatDoor
