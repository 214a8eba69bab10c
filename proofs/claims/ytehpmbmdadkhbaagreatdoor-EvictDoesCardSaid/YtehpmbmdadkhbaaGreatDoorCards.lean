/-
  DERIVED. GIVEN WITH THE SEED: THE CARDS: each row of YtehpmbmdadkhbaaGreatDoorRows.lean that lists a variable, with what it lists TIED to the program's text (the seventh form; the later family's looks); each row that meets fmt, with fmt's text TOLD by the authors' own Lean function (tested against real Go, not proved from fmt's source: count such statements apart). THE CARD IS WHAT COUNTS. Prove the row's statement (the work); the ties are given (YtehpmbmdadkhbaaGreatDoorTie.lean); close each card by the builder's one call (the guide's Derived/Test/ToyasCard.lean, 'card_holds'). Laid BY PROGRAM, IN A SANDBOX (cutbox-door.mjs). By AI agents, Wed Nov 11 2026. No macro, syntax, notation, axiom, sorry.
-/
import Derived.Test.YtehpmbmdadkhbaaGreatDoorRows
import GoSem.ClaimSeven
namespace Go.Proofs.YtehpmbmdadkhbaaGreatDoor
namespace Rows

/-- THE TIED CARD OF 'paliolaw16.EvictSamples'. -/
def evictSamplesCard : Claim7 := { stood := { row := evictSamplesRow, standIns := [], harness := (true, "0ece054f503cdf700b08056e71d3206c6e98b01887da23ee6fcd8905f66b4e54"), looks := true }, kinds := [], alts := [], laidByText := true, laidKinds := [.handle], laidTests := true, laidLooks := .later }
def EvictSamplesCardSaid : Prop := Claim7.holds Tryz.pinned (.plain (OpenSpec.ofChange evictSamplesSpec)) evictSamplesCard

/-- THE TIED CARD OF 'paliolaw16.EvictDoes'. -/
def evictDoesCard : Claim7 := { stood := { row := evictDoesRow, standIns := [], harness := (true, "0ece054f503cdf700b08056e71d3206c6e98b01887da23ee6fcd8905f66b4e54"), looks := true }, kinds := [], alts := [], laidByText := true, laidKinds := [.handle], laidTests := true, laidLooks := .later }
def EvictDoesCardSaid : Prop := Claim7.holds Tryz.pinned (.plain (OpenSpec.ofChange evictDoesSpec)) evictDoesCard

/-- THE TIED CARD OF 'paliolaw16.EvictLast'. -/
def evictLastCard : Claim7 := { stood := { row := evictLastRow, standIns := [], harness := (true, "0ece054f503cdf700b08056e71d3206c6e98b01887da23ee6fcd8905f66b4e54"), looks := true }, kinds := [], alts := [], laidByText := true, laidKinds := [.handle], laidTests := true, laidLooks := .later }
def EvictLastCardSaid : Prop := Claim7.holds Tryz.pinned (.plain (OpenSpec.ofChange evictLastSpec)) evictLastCard

/-- THE TIED CARD OF 'paliolaw16.EvictTimes'. -/
def evictTimesCard : Claim7 := { stood := { row := evictTimesRow, standIns := [], harness := (true, "0ece054f503cdf700b08056e71d3206c6e98b01887da23ee6fcd8905f66b4e54"), looks := true }, kinds := [], alts := [], laidByText := true, laidKinds := [.handle], laidTests := true, laidLooks := .later }
def EvictTimesCardSaid : Prop := Claim7.holds Tryz.pinned (.plain (OpenSpec.ofChange evictTimesSpec)) evictTimesCard

/-- THE TIED CARD OF 'paliolaw16.EvictNone'. -/
def evictNoneCard : Claim7 := { stood := { row := evictNoneRow, standIns := [], harness := (true, "0ece054f503cdf700b08056e71d3206c6e98b01887da23ee6fcd8905f66b4e54"), looks := true }, kinds := [], alts := [], laidByText := true, laidKinds := [.handle], laidTests := true, laidLooks := .later }
def EvictNoneCardSaid : Prop := Claim7.holds Tryz.pinned (.plain (OpenSpec.ofChange evictNoneSpec)) evictNoneCard

/-- THE TIED CARD OF 'paliolaw16.EvictWhole'. -/
def evictWholeCard : Claim7 := { stood := { row := evictWholeRow, standIns := [], harness := (true, "0ece054f503cdf700b08056e71d3206c6e98b01887da23ee6fcd8905f66b4e54"), looks := true }, kinds := [], alts := [], laidByText := true, laidKinds := [.handle], laidTests := true, laidLooks := .later }
def EvictWholeCardSaid : Prop := Claim7.holds Tryz.pinned (.plain (OpenSpec.ofChange evictWholeSpec)) evictWholeCard

/-- THE SECOND FORM's CARD OF 'paliolaw16.EvictSamples'. -/
def evictSamplesUptoCard : Claim7 := { stood := { row := evictSamplesUptoRow, standIns := [], harness := (true, "0ece054f503cdf700b08056e71d3206c6e98b01887da23ee6fcd8905f66b4e54"), looks := true }, kinds := [], alts := [], laidByText := true, laidKinds := [.handle], laidTests := true, laidLooks := .later }
def EvictSamplesUptoCardSaid : Prop := Claim7.holds Tryz.pinned (.plain (OpenSpec.upto evictSamplesSpec)) evictSamplesUptoCard

/-- THE SECOND FORM's CARD OF 'paliolaw16.EvictDoes'. -/
def evictDoesUptoCard : Claim7 := { stood := { row := evictDoesUptoRow, standIns := [], harness := (true, "0ece054f503cdf700b08056e71d3206c6e98b01887da23ee6fcd8905f66b4e54"), looks := true }, kinds := [], alts := [], laidByText := true, laidKinds := [.handle], laidTests := true, laidLooks := .later }
def EvictDoesUptoCardSaid : Prop := Claim7.holds Tryz.pinned (.plain (OpenSpec.upto evictDoesSpec)) evictDoesUptoCard

/-- THE SECOND FORM's CARD OF 'paliolaw16.EvictLast'. -/
def evictLastUptoCard : Claim7 := { stood := { row := evictLastUptoRow, standIns := [], harness := (true, "0ece054f503cdf700b08056e71d3206c6e98b01887da23ee6fcd8905f66b4e54"), looks := true }, kinds := [], alts := [], laidByText := true, laidKinds := [.handle], laidTests := true, laidLooks := .later }
def EvictLastUptoCardSaid : Prop := Claim7.holds Tryz.pinned (.plain (OpenSpec.upto evictLastSpec)) evictLastUptoCard

/-- THE SECOND FORM's CARD OF 'paliolaw16.EvictTimes'. -/
def evictTimesUptoCard : Claim7 := { stood := { row := evictTimesUptoRow, standIns := [], harness := (true, "0ece054f503cdf700b08056e71d3206c6e98b01887da23ee6fcd8905f66b4e54"), looks := true }, kinds := [], alts := [], laidByText := true, laidKinds := [.handle], laidTests := true, laidLooks := .later }
def EvictTimesUptoCardSaid : Prop := Claim7.holds Tryz.pinned (.plain (OpenSpec.upto evictTimesSpec)) evictTimesUptoCard

/-- THE SECOND FORM's CARD OF 'paliolaw16.EvictNone'. -/
def evictNoneUptoCard : Claim7 := { stood := { row := evictNoneUptoRow, standIns := [], harness := (true, "0ece054f503cdf700b08056e71d3206c6e98b01887da23ee6fcd8905f66b4e54"), looks := true }, kinds := [], alts := [], laidByText := true, laidKinds := [.handle], laidTests := true, laidLooks := .later }
def EvictNoneUptoCardSaid : Prop := Claim7.holds Tryz.pinned (.plain (OpenSpec.upto evictNoneSpec)) evictNoneUptoCard

/-- THE SECOND FORM's CARD OF 'paliolaw16.EvictWhole'. -/
def evictWholeUptoCard : Claim7 := { stood := { row := evictWholeUptoRow, standIns := [], harness := (true, "0ece054f503cdf700b08056e71d3206c6e98b01887da23ee6fcd8905f66b4e54"), looks := true }, kinds := [], alts := [], laidByText := true, laidKinds := [.handle], laidTests := true, laidLooks := .later }
def EvictWholeUptoCardSaid : Prop := Claim7.holds Tryz.pinned (.plain (OpenSpec.upto evictWholeSpec)) evictWholeUptoCard
end Rows
end Go.Proofs.YtehpmbmdadkhbaaGreatDoor
