/- A slice of whole numbers, read. -/
import Derived.Test.YthbjjjcppijcbaaACint
namespace Go.Proofs.Ythbjjjcppijcbaa
open Go.RowKit Pal Go.ChangeShapes Go.WideShapes Go.Deep

/-- The value is a slice of n whole numbers. -/
structure IntsAt (w : World) (v : Value) (n : Nat) (g : Nat → Int) : Prop where
  is : ∃ p cap, v = .slice p n cap
  le : n ≤ maxLen
  at_ : ∀ i, i < n → ∃ b o cap, v = .slice (some ⟨b, o, none⟩) n cap ∧ b < w.heap.size ∧ w.cell? ⟨b, o + i, none⟩ = some (.int .i64 (g i)) ∧ (Lit.int .i64 (g i)).wf = true
theorem IntsAt.chg {w w' : World} {v : Value} {n : Nat} {g : Nat → Int} (h : IntsAt w v n g) (hc : Chg (fun _ => False) w w') : IntsAt w' v n g where
  is := h.is
  le := h.le
  at_ := fun i hi => by
    obtain ⟨b, o, cap, h1, h2, h3, h4⟩ := h.at_ i hi
    exact ⟨b, o, cap, h1, Nat.lt_of_lt_of_le h2 hc.size, by rw [Chg.cell hc h2 id]; exact h3, h4⟩
theorem ints1 {w : World} {b o cap n : Nat} {g : Nat → Int} (h : IntsAt w (.slice (some ⟨b, o, none⟩) n cap) n g) {i : Nat} (hi : i < n) : b < w.heap.size ∧ w.cell? ⟨b, o + i, none⟩ = some (.int .i64 (g i)) := by
  obtain ⟨b', o', cap', heq, h1, h2, _⟩ := h.at_ i hi
  injection heq with heq
  injection heq with heq
  injection heq with e1 e2
  subst e1 e2
  exact ⟨h1, h2⟩
theorem pick_int {n : Nat} {p : Nat → Int → Prop} (h : ∀ i, i < n → ∃ x, p i x) : ∃ f : Nat → Int, ∀ i, i < n → p i (f i) := by
  classical
  refine ⟨fun i => if hi : i < n then Classical.choose (h i hi) else 0, fun i hi => ?_⟩
  simp only [dif_pos hi]
  exact Classical.choose_spec (h i hi)

set_option maxRecDepth 100000 in
theorem open_ints1 {H : Type} {enc : TypeId × Value → H} {w : World} {v : Value} {d : DataW H} {p : List MemPlace}
    (hv : Value.okWide Try.prog w .any 0 61 v) (h : DataW.Trod enc Try.prog w 0 (fun _ => true) true 61 v d p) :
    ∃ n g, IntsAt w v n g := by
  obtain ⟨a0, len0, cap0, rfl⟩ := okWide_slice Try.underlying61 hv
  obtain ⟨fuel, hf'⟩ := h
  rcases open_slice Try.underlying61 hf' with ⟨hc, hx⟩ | ⟨a, len, cap, m, n, D, Pl, hc, _, hl, hm, hmm, hx, hi⟩
  · simp only [Value.cells, List.cons.injEq, and_true] at hc
    exact ⟨0, fun _ => 0, ⟨_, _, hc⟩, Nat.zero_le _, fun i hi => absurd hi (Nat.not_lt_zero _)⟩
  · simp only [Value.cells, List.cons.injEq, and_true] at hc
    simp only [if_true] at hmm
    subst hmm
    rcases Nat.eq_zero_or_pos len with h0 | hpos
    · subst h0
      exact ⟨0, fun _ => 0, ⟨_, _, hc⟩, Nat.zero_le _, fun i hi => absurd hi (Nat.not_lt_zero _)⟩
    have hC : Try.prog.cellsOf 3 = 1 := by kernel_rfl
    have hcell : ∀ i, i < len → ∃ x : Int, w.cell? (a.add i) = some (.int .i64 x) ∧ (Lit.int .i64 x).wf = true := fun i hil => by
      obtain ⟨cs', hcs, ht⟩ := hi i (by omega)
      rw [hC] at hcs
      obtain ⟨_, hcl, hat⟩ := World.cells?_some hcs
      match cs', hcl with
      | [c0], _ =>
        have h1 := hat 0 (by omega)
        obtain ⟨k, rfl, wf⟩ := trod_i Try.underlying3 ht
        rw [Nat.mul_one, Go.Deep.add_add, Nat.add_zero] at h1
        exact ⟨k, by simpa using h1, wf⟩
    have hsp : a.spot = none := by
      obtain ⟨x, c0, _⟩ := hcell 0 hpos
      exact World.cell?_spot c0
    obtain ⟨b, o, sp⟩ := a
    have hsp : sp = none := hsp
    subst hsp
    obtain ⟨g, hg⟩ := pick_int hcell
    refine ⟨len, g, ⟨_, _, hc⟩, Nat.le_trans hl hm, fun i hi => ?_⟩
    obtain ⟨h1, h2⟩ := hg i hi
    rw [addr_add] at h1
    exact ⟨b, o, m, hc, block_lt' h1, h1, h2⟩
theorem mod21 (x : Int) : ∃ r : Int, (IntKind.u64.wrap x).tmod 21 = r ∧ 0 ≤ r ∧ r ≤ 20 := by
  refine ⟨_, rfl, ?_⟩
  have h : 0 ≤ IntKind.u64.wrap x := by
    have e : IntKind.u64.wrap x = x % 18446744073709551616 := by simp [IntKind.wrap, IntKind.bits, IntKind.signed]
    rw [e]; omega
  rw [Int.tmod_eq_emod_of_nonneg h]
  omega

end Go.Proofs.Ythbjjjcppijcbaa
