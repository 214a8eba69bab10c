/- Bounds of a dict's sizes under acts. -/
import Derived.Test.YthbjjjcppijcbaaS9
import Derived.Test.YthbjjjcppijcbaaSAint
namespace Go.Proofs.Ythbjjjcppijcbaa
open Go.RowKit Pal Dint

def bndS (s : Nat × Option Nat × Nat) : Prop := s.1 ≤ 512 ∧ ∀ l, s.2.1 = some l → l ≤ 512
theorem sizeFor_512 {n : Int} (h : n ≤ 512) : sizeFor n ≤ 512 := by
  obtain ⟨k, h2, h16, e, hlt, _⟩ := sizeFor_spec n
  rw [e]
  rcases Nat.lt_or_ge k 10 with h' | h'
  · exact pow_mono (b := 9) (by omega)
  · have := hlt 9 (by omega) (by omega)
    have e9 : ((2 ^ 9 : Nat) : Int) = 512 := rfl
    omega
theorem bnd_step {s : Nat × Option Nat × Nat} (h : bndS s) (n : Int) : bndS (stepS s n) := by
  unfold stepS
  obtain ⟨s0, s1, s2⟩ := s
  cases s1 with
  | none => exact h
  | some l =>
    dsimp only
    split
    · exact ⟨h.1, fun l' e => h.2 l' e⟩
    · exact ⟨h.2 l rfl, fun l' e => (by cases e)⟩
theorem bnd_grow {s : Nat × Option Nat × Nat} (h : bndS s) {n : Nat} (hn : n ≤ 256) : bndS (growS s n) := by
  unfold growS
  split
  · exact ⟨h.1, fun l e => by injection e with e; rw [← e]; exact sizeFor_512 (by omega)⟩
  · exact h
theorem bnd_shrink {s : Nat × Option Nat × Nat} (h : bndS s) {n : Nat} (hn : n ≤ 256) : bndS (shrinkS s n) := by
  unfold shrinkS
  split
  · exact ⟨h.1, fun l e => by injection e with e; rw [← e]; exact sizeFor_512 (by omega)⟩
  · exact h
theorem acts_bnd {x : Act3} {d d' : Dm} (h : Acts x d d') (hb : bndS (Dint.shape d)) (hn : d.n ≤ 256) : bndS (Dint.shape d') := by
  rcases h with ⟨_, _, h⟩ | ⟨_, _, h⟩ | ⟨_, _, h⟩ | ⟨_, _, h⟩
  · rw [h]; split
    · exact bnd_grow (bnd_step hb 1) hn
    · exact bnd_step hb 1
  · rw [h]; exact bnd_step hb 1
  · rw [h]; split
    · exact bnd_shrink (bnd_step hb 1) (by omega)
    · exact bnd_step hb 1
  · rw [h]; exact bnd_step hb _
theorem bnd_A {d : Dm} (hok : d.Ok) (hb : bndS (Dint.shape d)) : 2 ^ scanA d ≤ 512 := by
  cases ht : d.t1 with
  | none => have h1 := (scan_none hok ht).1; have := hb.1; show 2 ^ scanA d ≤ 512; rw [← h1]; exact this
  | some t =>
    have h1 := (scan_some hok ht).2.2.2
    have e0 : d.t0.len ≤ 512 := hb.1
    have e1 : t.len ≤ 512 := hb.2 t.len (by unfold Dint.shape; rw [ht]; rfl)
    rcases h1 with ⟨_, h, _⟩ | ⟨_, h, _⟩ <;> omega
theorem _root_.Go.Proofs.Ythbjjjcppijcbaa.Dint.One.chgS {w0 W W' : World} {bd : Nat} {d : Dm} {S : Nat → Prop} (h : One w0 W bd d) (hc : Chg S W W') (hS : ∀ g, d.foot g → ¬ S g) (h0 : ∀ g, g < w0.heap.size → ¬ S g) : One w0 W' bd d :=
  ⟨h.md.chg hc hS, h.bd, h.chg.trans' hc fun g hg h' => absurd h' (h0 g hg)⟩
theorem all_1 {w0 W : World} {bd : Nat} {d : Dm} (h : One w0 W bd d) (hn : d.n ≤ 100000) :
    Calls Try.prog 38 #[.pointer (some ⟨bd, 0, none⟩)] W fun e W' => (∃ v, e = .returned v ∧ Strs W' W.heap.size v (allL d)) ∧ One w0 W' bd d ∧ Chg (fun _ => False) W W' := by
  have := All_any d W h.md.dm h.md.ok (by omega)
  rw [h.bd] at this
  exact this.mono fun r W' ⟨h1, h2⟩ => ⟨h1, h.chg0 h2, h2⟩

end Go.Proofs.Ythbjjjcppijcbaa
