/- Two dicts beside each other. -/
import Derived.Test.YthbjjjcppijcbaaOWint
namespace Go.Proofs.Ythbjjjcppijcbaa.Dint
open Go.RowKit Pal

structure One (w0 W : World) (bd : Nat) (d : Dm) : Prop where
  md : Mine w0.heap.size W d
  bd : d.blk = bd
  chg : Chg (fun _ => False) w0 W
section
variable {w0 W W' : World} {bd : Nat} {d d' : Dm}
theorem One.chg0 (h : One w0 W bd d) (hc : Chg (fun _ => False) W W') : One w0 W' bd d := ⟨h.md.chg0 hc, h.bd, h.chg.trans hc⟩
theorem One.nx (h : One w0 W bd d) (x : Nx d d' W W') : One w0 W' bd d' := ⟨h.md.nx h.chg.size x, x.blk.trans h.bd, h.md.old rfl h.chg x⟩
end
structure Two (n0 : Nat) (w0 W : World) (bd be : Nat) (d e : Dm) : Prop where
  md : Mine n0 W d
  me : Mine n0 W e
  apart : ∀ g, d.foot g → ¬ e.foot g
  bd : d.blk = bd
  be : e.blk = be
  chg : Chg (fun _ => False) w0 W
  n0 : w0.heap.size = n0
/-- .. and a block that is nobody's. -/
structure TwoB (n0 : Nat) (w0 W : World) (bd be : Nat) (d e : Dm) (B : Nat) (t : TypeId) (cs : Array Value) : Prop extends Two n0 w0 W bd be d e where
  blk : Blk W B t cs
  fd : ¬ d.foot B
  fe : ¬ e.foot B

section
variable {n0 : Nat} {w0 W W' : World} {bd be B : Nat} {d e d' e' : Dm} {t : TypeId} {cs : Array Value}
theorem Two.chg0 (h : Two n0 w0 W bd be d e) (hc : Chg (fun _ => False) W W') : Two n0 w0 W' bd be d e :=
  ⟨h.md.chg0 hc, h.me.chg0 hc, h.apart, h.bd, h.be, h.chg.trans hc, h.n0⟩
theorem Two.left (h : Two n0 w0 W bd be d e) (x : Nx d d' W W') : Two n0 w0 W' bd be d' e :=
  ⟨h.md.nx (by rw [← h.n0]; exact h.chg.size) x, h.me.chg x.chg fun g hg hd => h.apart g hd hg, fun g hg he => (x.foot g hg).elim (fun h1 => h.apart g h1 he) fun h2 => absurd (h.me.lt he) (by omega), x.blk.trans h.bd, h.be, h.md.old h.n0 h.chg x, h.n0⟩
theorem Two.right (h : Two n0 w0 W bd be d e) (x : Nx e e' W W') : Two n0 w0 W' bd be d e' :=
  ⟨h.md.chg x.chg fun g hg he => h.apart g hg he, h.me.nx (by rw [← h.n0]; exact h.chg.size) x, fun g hg he => (x.foot g he).elim (fun h1 => h.apart g hg h1) fun h2 => absurd (h.md.lt hg) (by omega), h.bd, x.blk.trans h.be, h.me.old h.n0 h.chg x, h.n0⟩
theorem Two.box (h : Two n0 w0 W bd be d e) (t : TypeId) (cs : Array Value) : TwoB n0 w0 (W.alloc (.cells cs t)) bd be d e W.heap.size t cs :=
  { h.chg0 ((Chg.refl _ W).alloc _) with blk := Blk.new W t cs, fd := fun hf => Nat.lt_irrefl _ (h.md.lt hf), fe := fun hf => Nat.lt_irrefl _ (h.me.lt hf) }
theorem TwoB.chgB (h : TwoB n0 w0 W bd be d e B t cs) (hc : Chg (fun _ => False) W W') : TwoB n0 w0 W' bd be d e B t cs :=
  { h.toTwo.chg0 hc with blk := h.blk.chg hc id, fd := h.fd, fe := h.fe }
theorem TwoB.leftB (h : TwoB n0 w0 W bd be d e B t cs) (x : Nx d d' W W') : TwoB n0 w0 W' bd be d' e B t cs :=
  { h.toTwo.left x with blk := h.blk.chg x.chg h.fd, fd := fun h' => (x.foot B h').elim h.fd fun h2 => absurd h.blk.lt (by omega), fe := h.fe }
theorem TwoB.rightB (h : TwoB n0 w0 W bd be d e B t cs) (x : Nx e e' W W') : TwoB n0 w0 W' bd be d e' B t cs :=
  { h.toTwo.right x with blk := h.blk.chg x.chg h.fe, fd := h.fd, fe := fun h' => (x.foot B h').elim h.fe fun h2 => absurd h.blk.lt (by omega) }
end

end Go.Proofs.Ythbjjjcppijcbaa.Dint
