/-
  No cell of these rows narrows 'for every input' (looked for: loops, veiled, ifaces, maps, wideKeys, modest, calm, conditions, laid).
  DERIVED. THE GIVEN ROWS OF THIS SEAT. 7 by the template 'for every input the law returns true; each argument reads behind the call as it read before'; 0 by the template 'total and deterministic' (their statements: YtifcpippfiglkaaGreatTotals.lean).
  GIVEN WITH THE SEED: the statements are not yours to turn. If you find one false, say at which input.
  Laid BY PROGRAM, IN A SANDBOX (cutbox-rows.mjs): the forced cells as the released guide's own fill.sh prints them over the translation 646cc9cd777efa0e… (all of the seat's roots in one cut). By AI agents, Wed Nov 11 2026. No macro, syntax, notation, axiom, sorry.
-/
import Derived.Test.YtifcpippfiglkaaGreatChecked
import GoSem.Claim
import GoSem.ClaimJoined
import GoSem.ClaimMapViews
import Derived.JoinedTies
import Derived.KernelRfl
namespace Go.Proofs.YtifcpippfiglkaaGreat
/- THE CELL 'sum', in the pinned program and in every row, IS THE sha256 OF THE DUMP (.gsa) THAT YtifcpippfiglkaaGreatProg.lean LOADS. Nothing in Lean hashes anything: it is a label: what it is worth is what the hold of that sum in a sandbox is worth. -/
noncomputable def Tryz.pinned : Pinned := { name := "ytifcpippfiglkaagreat", sum := "646cc9cd777efa0e280e242ff18ade36d23c070d419d72cdfcbaec5d304c35bf", checked := Tryz.checked }
namespace Rows
def none {H : Type} : Left H := { results := [], args := [] }

/-- 'paliolaw11.ZsetWays': WHATEVER THE INPUT: true; the input reads as it did. -/
def zsetWaysSpec : ChangeSpec := { name := "zsetWays", fn := fun _ => fun
  | [d1, d2, d3] => { results := [.lit (.bool true)], args := [d1, d2, d3] }
  | _ => none }
def zsetWaysRow : OpenClaim := { program := "ytifcpippfiglkaagreat", sum := "646cc9cd777efa0e280e242ff18ade36d23c070d419d72cdfcbaec5d304c35bf", func := "palio/paliolaw11.ZsetWays", spec := "zsetWays", unfollowed := true, recurses := true, apart := false }
def ZsetWaysSaid : Prop := zsetWaysRow.holds Tryz.pinned (OpenSpec.ofChange zsetWaysSpec)

/-- ITS FALSE NEIGHBOUR: 'it returns false'. Refute it at one input. -/
def zsetWaysWrong : ChangeSpec := { name := "zsetWays", fn := fun _ => fun
  | [d1, d2, d3] => { results := [.lit (.bool false)], args := [d1, d2, d3] }
  | _ => none }
def ZsetWaysWrongFalsely : Prop := zsetWaysRow.holds Tryz.pinned (OpenSpec.ofChange zsetWaysWrong)

/-- 'paliolaw11.ZsetDoes': WHATEVER THE INPUT: true; the input reads as it did. -/
def zsetDoesSpec : ChangeSpec := { name := "zsetDoes", fn := fun _ => fun
  | [d1, d2, d3] => { results := [.lit (.bool true)], args := [d1, d2, d3] }
  | _ => none }
def zsetDoesRow : OpenClaim := { program := "ytifcpippfiglkaagreat", sum := "646cc9cd777efa0e280e242ff18ade36d23c070d419d72cdfcbaec5d304c35bf", func := "palio/paliolaw11.ZsetDoes", spec := "zsetDoes", unfollowed := true, recurses := true, apart := false }
def ZsetDoesSaid : Prop := zsetDoesRow.holds Tryz.pinned (OpenSpec.ofChange zsetDoesSpec)

/-- ITS FALSE NEIGHBOUR: 'it returns false'. Refute it at one input. -/
def zsetDoesWrong : ChangeSpec := { name := "zsetDoes", fn := fun _ => fun
  | [d1, d2, d3] => { results := [.lit (.bool false)], args := [d1, d2, d3] }
  | _ => none }
def ZsetDoesWrongFalsely : Prop := zsetDoesRow.holds Tryz.pinned (OpenSpec.ofChange zsetDoesWrong)

/-- 'paliolaw11.ZsetForms': WHATEVER THE INPUT: true; the input reads as it did. -/
def zsetFormsSpec : ChangeSpec := { name := "zsetForms", fn := fun _ => fun
  | [d1, d2, d3, d4, d5, d6] => { results := [.lit (.bool true)], args := [d1, d2, d3, d4, d5, d6] }
  | _ => none }
def zsetFormsRow : OpenClaim := { program := "ytifcpippfiglkaagreat", sum := "646cc9cd777efa0e280e242ff18ade36d23c070d419d72cdfcbaec5d304c35bf", func := "palio/paliolaw11.ZsetForms", spec := "zsetForms", unfollowed := true, recurses := true, apart := false }
def ZsetFormsSaid : Prop := zsetFormsRow.holds Tryz.pinned (OpenSpec.ofChange zsetFormsSpec)

/-- ITS FALSE NEIGHBOUR: 'it returns false'. Refute it at one input. -/
def zsetFormsWrong : ChangeSpec := { name := "zsetForms", fn := fun _ => fun
  | [d1, d2, d3, d4, d5, d6] => { results := [.lit (.bool false)], args := [d1, d2, d3, d4, d5, d6] }
  | _ => none }
def ZsetFormsWrongFalsely : Prop := zsetFormsRow.holds Tryz.pinned (OpenSpec.ofChange zsetFormsWrong)

/-- 'paliolaw11.ZsetTwice': WHATEVER THE INPUT: true; the input reads as it did. -/
def zsetTwiceSpec : ChangeSpec := { name := "zsetTwice", fn := fun _ => fun
  | [d1, d2, d3, d4, d5] => { results := [.lit (.bool true)], args := [d1, d2, d3, d4, d5] }
  | _ => none }
def zsetTwiceRow : OpenClaim := { program := "ytifcpippfiglkaagreat", sum := "646cc9cd777efa0e280e242ff18ade36d23c070d419d72cdfcbaec5d304c35bf", func := "palio/paliolaw11.ZsetTwice", spec := "zsetTwice", unfollowed := true, recurses := true, apart := false }
def ZsetTwiceSaid : Prop := zsetTwiceRow.holds Tryz.pinned (OpenSpec.ofChange zsetTwiceSpec)

/-- ITS FALSE NEIGHBOUR: 'it returns false'. Refute it at one input. -/
def zsetTwiceWrong : ChangeSpec := { name := "zsetTwice", fn := fun _ => fun
  | [d1, d2, d3, d4, d5] => { results := [.lit (.bool false)], args := [d1, d2, d3, d4, d5] }
  | _ => none }
def ZsetTwiceWrongFalsely : Prop := zsetTwiceRow.holds Tryz.pinned (OpenSpec.ofChange zsetTwiceWrong)

/-- 'paliolaw11.ZsetFull': WHATEVER THE INPUT: true; the input reads as it did. -/
def zsetFullSpec : ChangeSpec := { name := "zsetFull", fn := fun _ => fun
  | [d1, d2, d3] => { results := [.lit (.bool true)], args := [d1, d2, d3] }
  | _ => none }
def zsetFullRow : OpenClaim := { program := "ytifcpippfiglkaagreat", sum := "646cc9cd777efa0e280e242ff18ade36d23c070d419d72cdfcbaec5d304c35bf", func := "palio/paliolaw11.ZsetFull", spec := "zsetFull", unfollowed := true, recurses := true, apart := false }
def ZsetFullSaid : Prop := zsetFullRow.holds Tryz.pinned (OpenSpec.ofChange zsetFullSpec)

/-- ITS FALSE NEIGHBOUR: 'it returns false'. Refute it at one input. -/
def zsetFullWrong : ChangeSpec := { name := "zsetFull", fn := fun _ => fun
  | [d1, d2, d3] => { results := [.lit (.bool false)], args := [d1, d2, d3] }
  | _ => none }
def ZsetFullWrongFalsely : Prop := zsetFullRow.holds Tryz.pinned (OpenSpec.ofChange zsetFullWrong)

/-- 'paliolaw11.ZsetRanges': WHATEVER THE INPUT: true; the input reads as it did. -/
def zsetRangesSpec : ChangeSpec := { name := "zsetRanges", fn := fun _ => fun
  | [d1, d2, d3, d4, d5, d6, d7] => { results := [.lit (.bool true)], args := [d1, d2, d3, d4, d5, d6, d7] }
  | _ => none }
def zsetRangesRow : OpenClaim := { program := "ytifcpippfiglkaagreat", sum := "646cc9cd777efa0e280e242ff18ade36d23c070d419d72cdfcbaec5d304c35bf", func := "palio/paliolaw11.ZsetRanges", spec := "zsetRanges", unfollowed := true, recurses := true, apart := false }
def ZsetRangesSaid : Prop := zsetRangesRow.holds Tryz.pinned (OpenSpec.ofChange zsetRangesSpec)

/-- ITS FALSE NEIGHBOUR: 'it returns false'. Refute it at one input. -/
def zsetRangesWrong : ChangeSpec := { name := "zsetRanges", fn := fun _ => fun
  | [d1, d2, d3, d4, d5, d6, d7] => { results := [.lit (.bool false)], args := [d1, d2, d3, d4, d5, d6, d7] }
  | _ => none }
def ZsetRangesWrongFalsely : Prop := zsetRangesRow.holds Tryz.pinned (OpenSpec.ofChange zsetRangesWrong)

/-- 'paliolaw11.ZsetScans': WHATEVER THE INPUT: true; the input reads as it did. -/
def zsetScansSpec : ChangeSpec := { name := "zsetScans", fn := fun _ => fun
  | [d1, d2, d3] => { results := [.lit (.bool true)], args := [d1, d2, d3] }
  | _ => none }
def zsetScansRow : OpenClaim := { program := "ytifcpippfiglkaagreat", sum := "646cc9cd777efa0e280e242ff18ade36d23c070d419d72cdfcbaec5d304c35bf", func := "palio/paliolaw11.ZsetScans", spec := "zsetScans", unfollowed := true, recurses := true, apart := false }
def ZsetScansSaid : Prop := zsetScansRow.holds Tryz.pinned (OpenSpec.ofChange zsetScansSpec)

/-- ITS FALSE NEIGHBOUR: 'it returns false'. Refute it at one input. -/
def zsetScansWrong : ChangeSpec := { name := "zsetScans", fn := fun _ => fun
  | [d1, d2, d3] => { results := [.lit (.bool false)], args := [d1, d2, d3] }
  | _ => none }
def ZsetScansWrongFalsely : Prop := zsetScansRow.holds Tryz.pinned (OpenSpec.ofChange zsetScansWrong)

/- THE SECOND FORM. 'bulk': how many values and letters a reading holds, each counted each time it is reached (what is shared counts as often as it is met; a slice's spare places count too). A statement '..UptoSaid' is the law's where the arguments, and the package variables that the reading takes, are together of bulk at most 1048576: NARROWER than '..Said'. Prove '..Said' where nothing that the law and all that it calls make is longer than what came in: it says more and counts as full. Else prove '..UptoSaid'. A law counts once. -/
mutual
def uptoBulk {H : Type} : DataW H → Nat
  | .lit (.string bytes) => bytes.length + 1
  | .lit _ => 1
  | .nil => 1
  | .ptr d => uptoBulk d + 1
  | .slice elems spare => uptoBulkAll elems + uptoBulkAll spare + 1
  | .agg parts => uptoBulkAll parts + 1
  | .iface _ d => uptoBulk d + 1
  | .map entries => uptoBulkEntries entries + 1
  | .held _ => 1
def uptoBulkAll {H : Type} : List (DataW H) → Nat
  | [] => 0
  | d :: r => uptoBulk d + uptoBulkAll r
def uptoBulkEntries {H : Type} : List (Lit × DataW H) → Nat
  | [] => 0
  | x :: r => uptoBulkEntry x + uptoBulkEntries r
def uptoBulkEntry {H : Type} : Lit × DataW H → Nat
  | (.string bytes, d) => bytes.length + uptoBulk d + 1
  | (_, d) => uptoBulk d + 1
 end
def uptoSmall : (H : Type) → List (DataW H) → Bool := fun _ ds => decide (uptoBulkAll ds ≤ 1048576)
def OpenSpec.upto (s : _root_.Go.ChangeSpec) : _root_.Go.OpenSpec := { _root_.Go.OpenSpec.ofChange s with cond := some uptoSmall }

/-- 'paliolaw11.ZsetWays', WHERE WHAT IT READS IS OF BULK AT MOST 1048576: true; the input reads as it did. -/
def zsetWaysUptoRow : OpenClaim := { program := "ytifcpippfiglkaagreat", sum := "646cc9cd777efa0e280e242ff18ade36d23c070d419d72cdfcbaec5d304c35bf", func := "palio/paliolaw11.ZsetWays", spec := "zsetWays", unfollowed := true, recurses := true, apart := false, narrowed := true }
def ZsetWaysUptoSaid : Prop := zsetWaysUptoRow.holds Tryz.pinned (OpenSpec.upto zsetWaysSpec)

/-- 'paliolaw11.ZsetDoes', WHERE WHAT IT READS IS OF BULK AT MOST 1048576: true; the input reads as it did. -/
def zsetDoesUptoRow : OpenClaim := { program := "ytifcpippfiglkaagreat", sum := "646cc9cd777efa0e280e242ff18ade36d23c070d419d72cdfcbaec5d304c35bf", func := "palio/paliolaw11.ZsetDoes", spec := "zsetDoes", unfollowed := true, recurses := true, apart := false, narrowed := true }
def ZsetDoesUptoSaid : Prop := zsetDoesUptoRow.holds Tryz.pinned (OpenSpec.upto zsetDoesSpec)

/-- 'paliolaw11.ZsetForms', WHERE WHAT IT READS IS OF BULK AT MOST 1048576: true; the input reads as it did. -/
def zsetFormsUptoRow : OpenClaim := { program := "ytifcpippfiglkaagreat", sum := "646cc9cd777efa0e280e242ff18ade36d23c070d419d72cdfcbaec5d304c35bf", func := "palio/paliolaw11.ZsetForms", spec := "zsetForms", unfollowed := true, recurses := true, apart := false, narrowed := true }
def ZsetFormsUptoSaid : Prop := zsetFormsUptoRow.holds Tryz.pinned (OpenSpec.upto zsetFormsSpec)

/-- 'paliolaw11.ZsetTwice', WHERE WHAT IT READS IS OF BULK AT MOST 1048576: true; the input reads as it did. -/
def zsetTwiceUptoRow : OpenClaim := { program := "ytifcpippfiglkaagreat", sum := "646cc9cd777efa0e280e242ff18ade36d23c070d419d72cdfcbaec5d304c35bf", func := "palio/paliolaw11.ZsetTwice", spec := "zsetTwice", unfollowed := true, recurses := true, apart := false, narrowed := true }
def ZsetTwiceUptoSaid : Prop := zsetTwiceUptoRow.holds Tryz.pinned (OpenSpec.upto zsetTwiceSpec)

/-- 'paliolaw11.ZsetFull', WHERE WHAT IT READS IS OF BULK AT MOST 1048576: true; the input reads as it did. -/
def zsetFullUptoRow : OpenClaim := { program := "ytifcpippfiglkaagreat", sum := "646cc9cd777efa0e280e242ff18ade36d23c070d419d72cdfcbaec5d304c35bf", func := "palio/paliolaw11.ZsetFull", spec := "zsetFull", unfollowed := true, recurses := true, apart := false, narrowed := true }
def ZsetFullUptoSaid : Prop := zsetFullUptoRow.holds Tryz.pinned (OpenSpec.upto zsetFullSpec)

/-- 'paliolaw11.ZsetRanges', WHERE WHAT IT READS IS OF BULK AT MOST 1048576: true; the input reads as it did. -/
def zsetRangesUptoRow : OpenClaim := { program := "ytifcpippfiglkaagreat", sum := "646cc9cd777efa0e280e242ff18ade36d23c070d419d72cdfcbaec5d304c35bf", func := "palio/paliolaw11.ZsetRanges", spec := "zsetRanges", unfollowed := true, recurses := true, apart := false, narrowed := true }
def ZsetRangesUptoSaid : Prop := zsetRangesUptoRow.holds Tryz.pinned (OpenSpec.upto zsetRangesSpec)

/-- 'paliolaw11.ZsetScans', WHERE WHAT IT READS IS OF BULK AT MOST 1048576: true; the input reads as it did. -/
def zsetScansUptoRow : OpenClaim := { program := "ytifcpippfiglkaagreat", sum := "646cc9cd777efa0e280e242ff18ade36d23c070d419d72cdfcbaec5d304c35bf", func := "palio/paliolaw11.ZsetScans", spec := "zsetScans", unfollowed := true, recurses := true, apart := false, narrowed := true }
def ZsetScansUptoSaid : Prop := zsetScansUptoRow.holds Tryz.pinned (OpenSpec.upto zsetScansSpec)

end Rows
end Go.Proofs.YtifcpippfiglkaaGreat
