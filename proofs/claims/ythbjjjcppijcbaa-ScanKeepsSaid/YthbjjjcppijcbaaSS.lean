/- Slices of texts; slices.Sort of texts. -/
import Derived.Test.YthbjjjcppijcbaaProg
import Derived.Test.YthbjjjcppijcbaaST
import Derived.Test.YthbjjjcppijcbaaSh
import Derived.Sort.OwnSorted
import Derived.Lib.OwnBridge
namespace Go.Proofs.Ythbjjjcppijcbaa
open Go.RowKit Pal Go.Sort

theorem str_info : (Try.prog.info? 9).map (fun i => (i.zero, i.size, i.bytes)) = some (some (.string ⟨#[]⟩), 1, 16) := by kernel_rfl

/-- The value is a slice of the call's own that holds the texts l. -/
def Strs (w : World) (base : Nat) (v : Value) (l : List ByteArray) : Prop := w.ownsRow base 9 1 v l.length (l.map Value.string)

theorem Strs.nil (w : World) (base : Nat) : Strs w base (.slice none 0 0) [] := World.ownsRow_nil w base _ 1
theorem Strs.stay {w w' : World} {base : Nat} {v : Value} {l : List ByteArray} {F : Nat → Prop} (h : Strs w base v l) (hs : Stay F w w') (hn : ∀ g, v.ownBlock = some g → ¬ F g) : Strs w' base v l := own_stay h hs hn
theorem Strs.chg {w w' : World} {base : Nat} {v : Value} {l : List ByteArray} {F : Nat → Prop} (h : Strs w base v l) (hs : Chg F w w') (hn : ∀ g, v.ownBlock = some g → ¬ F g) : Strs w' base v l := own_stay h (.of_chg hs) hn
theorem Strs.lower {w : World} {base b : Nat} {v : Value} {l : List ByteArray} (h : Strs w base v l) (hb : b ≤ base) : Strs w b v l := by
  refine ⟨h.1, ?_⟩
  rcases h.2 with h0 | ⟨g, cap, cur, rfl, h1, rest⟩
  · exact .inl h0
  · exact .inr ⟨g, cap, cur, rfl, Nat.le_trans hb h1, rest⟩
theorem Strs.is {w : World} {base : Nat} {v : Value} {l : List ByteArray} (h : Strs w base v l) : ∃ p cap, v = .slice p l.length cap ∧ l.length ≤ cap ∧ cap ≤ maxLen ∧ (∀ g, p = some g → base ≤ g.block ∧ g.block < w.heap.size) := by
  rcases h.2 with ⟨rfl, h0⟩ | ⟨g, cap, cur, rfl, h1, h2, h3, h4, _⟩
  · exact ⟨none, 0, by rw [h0], by omega, by simp [maxLen], fun _ h => (by cases h)⟩
  · exact ⟨_, cap, rfl, h3, h4, fun g hg => by injection hg with hg; subst hg; exact ⟨h1, (Array.getElem?_eq_some_iff.1 h2).1⟩⟩
theorem Strs.reads {w : World} {base : Nat} {p : Option Addr} {n c : Nat} {l : List ByteArray} (h : Strs w base (.slice p n c) l) : Reads w w.heap.size 1 p l.length (l.map Value.string) := by
  have hn : n = l.length := by
    obtain ⟨_, _, e, _⟩ := h.is
    injection e
  subst hn
  exact Reads.of_own h

theorem Strs.own {w : World} {base : Nat} {v : Value} {l : List ByteArray} (h : Strs w base v l) : w.ownsRow base 9 1 v l.length (l.map Value.string) := h
theorem Strs.mk {w : World} {base n : Nat} {v : Value} {l : List ByteArray} {xs : List Value} (h : w.ownsRow base 9 1 v n xs) (hn : n = l.length) (hx : xs = l.map Value.string) : Strs w base v l := by
  subst hn; subst hx; exact h
theorem strs_one (l : List ByteArray) : ∀ u ∈ l.map Value.string, u.oneCell' = true := by
  intro u hu
  obtain ⟨x, _, rfl⟩ := List.mem_map.1 hu
  rfl

theorem Strs.at_ {w : World} {base k n c : Nat} {p : Option Addr} {l : List ByteArray} (h : Strs w base (.slice p n c) l) (hk : k < l.length) : ∃ g, p = some ⟨g, 0, none⟩ ∧ base ≤ g ∧ g < w.heap.size ∧ w.cell? ⟨g, k, none⟩ = some (.string l[k]) := by
  have h' := h
  rcases h'.2 with ⟨_, h0⟩ | ⟨g, cap, cur, he, hb, hg, _⟩
  · omega
  · injection he with he
    subst he
    have hc := World.ownsRow.cells h (g := g) rfl k (.string l[k]) (by simp [hk])
    refine ⟨g, rfl, hb, (Array.getElem?_eq_some_iff.1 hg).1, ?_⟩
    unfold Addr.add at hc
    split at hc
    · rename_i e; subst e; exact hc
    · simpa using hc
theorem toList_ne {a b : ByteArray} (h : ¬ a = b) : (a.toList == b.toList) = false := by
  rw [beq_eq_false_iff_ne]
  intro h'
  apply h
  rw [ByteArray.toList_eq, ByteArray.toList_eq] at h'
  cases a; cases b; simp_all
theorem toList_eq (a : ByteArray) : (a.toList == a.toList) = true := by simp
/-- Sorted, by their bytes. -/
def sortB (l : List ByteArray) : List ByteArray := ((l.map (·.data.toList)).mergeSort fun x y => decide (x ≤ y)).map fun x => ⟨x.toArray⟩
theorem sortB_perm (l : List ByteArray) : (sortB l).Perm l := by
  have h := (List.mergeSort_perm (l.map (·.data.toList)) fun x y => decide (x ≤ y)).map fun x => (⟨x.toArray⟩ : ByteArray)
  rw [List.map_map] at h
  have e : l.map ((fun x : List UInt8 => (⟨x.toArray⟩ : ByteArray)) ∘ (·.data.toList)) = l := by
    conv => rhs; rw [← List.map_id l]
    exact List.map_congr_left fun x _ => by simp
  rw [e] at h
  exact h
theorem sortB_length (l : List ByteArray) : (sortB l).length = l.length := (sortB_perm l).length_eq

theorem sort_any (v : Value) (l : List ByteArray) (base : Nat) (w : World) (h : Strs w base v l) (hl : l.length < 4611686018427387904) :
    Calls Try.prog 62 #[v] w fun e w' => e = .returned (.tuple #[]) ∧ Strs w' base v (sortB l) ∧ w.grownBy w' v.ownBlock := by
  rcases h.2 with ⟨rfl, h0⟩ | ⟨g, cap, cur, rfl, h1, h2, h3, h4, h5, h6⟩
  · have := List.eq_nil_of_length_eq_zero h0
    subst this
    refine (Try.slices_Sort_string_none none 0 w).mono ?_
    rintro e w' ⟨rfl, rfl⟩
    exact ⟨rfl, by simpa [sortB] using Strs.nil w' base, World.grownBy.refl _ _⟩
  · have ht : cur.toList.take (l.map (·.data.toList)).length = (l.map (·.data.toList)).map encStr := by
      rw [List.length_map, Lib.map_encStr, ← h6, Nat.mul_one]
    have hc := Try.slices_Sort_string g 0 cap (l.map (·.data.toList)) w (holds_of_block h2 ht) (Array.getElem?_eq_some_iff.1 h2).1 (by simpa using hl)
    rw [List.length_map] at hc
    refine hc.mono ?_
    rintro e w' ⟨rfl, n, os, rfl⟩
    refine ⟨rfl, ?_, grownBy_sorted _⟩
    have := ownsRow_sorted (w := w) (base := base) (g := g) (cap := cap) (n := n) (e := 9) (os := os) (cur := cur) (ss := l.map (·.data.toList)) (ts := (l.map (·.data.toList)).mergeSort fun x y => decide (x ≤ y)) (by simp) h1 h2 (by simpa using h3) h4 h5
    unfold Strs
    rw [sortB_length]
    have e : (sortB l).map Value.string = ((l.map (·.data.toList)).mergeSort fun x y => decide (x ≤ y)).map encStr := by
      unfold sortB
      rw [List.map_map]
      rfl
    rw [e]
    rw [List.length_map] at this
    exact this

end Go.Proofs.Ythbjjjcppijcbaa
