/- A dict of one's own: nobody else's blocks. -/
import Derived.Test.YthbjjjcppijcbaaDIint
namespace Go.Proofs.Ythbjjjcppijcbaa.Dint
open Go.RowKit Pal

/-- The dict lies in blocks that are newer than n. -/
structure Mine (n : Nat) (w : World) (d : Dm) : Prop where
  dm : DmAt w d
  ok : d.Ok
  new : ∀ g, d.foot g → n ≤ g

theorem Mine.nx {n : Nat} {w w' : World} {d d' : Dm} (h : Mine n w d) (hn : n ≤ w.heap.size) (x : Nx d d' w w') : Mine n w' d' :=
  ⟨x.dm, x.ok, fun g hg => (x.foot g hg).elim (h.new g) fun h' => Nat.le_trans hn h'⟩
theorem Mine.chg {n : Nat} {w w' : World} {d : Dm} {S : Nat → Prop} (h : Mine n w d) (hc : Chg S w w') (hs : ∀ g, d.foot g → ¬ S g) : Mine n w' d := ⟨h.dm.chg hc hs, h.ok, h.new⟩
theorem Mine.chg0 {n : Nat} {w w' : World} {d : Dm} (h : Mine n w d) (hc : Chg (fun _ => False) w w') : Mine n w' d := ⟨h.dm.chg0 hc, h.ok, h.new⟩
theorem Mine.lt {n : Nat} {w : World} {d : Dm} (h : Mine n w d) {g : Nat} (hg : d.foot g) : g < w.heap.size := h.dm.lt hg
/-- What lay before the dict stays. -/
theorem Mine.old {n : Nat} {w0 w w' : World} {d d' : Dm} (h : Mine n w d) (hn : w0.heap.size = n) (hc : Chg (fun _ => False) w0 w) (x : Nx d d' w w') : Chg (fun _ => False) w0 w' :=
  hc.trans' x.chg fun g hg h' => absurd (h.new g h') (by omega)

end Go.Proofs.Ythbjjjcppijcbaa.Dint
