/- Cursors, as places in the order in which a table's slots are scanned. -/
import Derived.Test.YthbjjjcppijcbaaHM
namespace Pal


def pos (b c : Nat) : Nat := turn c / 2 ^ (32 - b)
theorem pow32 {b : Nat} (hb : b ≤ 32) : (4294967296 : Nat) = 2 ^ b * 2 ^ (32 - b) := by
  rw [← Nat.pow_add, show b + (32 - b) = 32 by omega]
theorem pos_lt {b : Nat} (hb : b ≤ 32) (c : Nat) : pos b c < 2 ^ b := by
  unfold pos
  rw [Nat.div_lt_iff_lt_mul Nat.one_le_two_pow, ← pow32 hb]
  exact turn_lt c
theorem pos_cur {b k : Nat} (hb : b ≤ 32) (hk : k < 2 ^ b) : pos b (cur b k) = k := by
  unfold pos cur; rw [turn_turn _ (mul_lt b k hb hk)]; exact Nat.mul_div_cancel _ Nat.one_le_two_pow
theorem mod_cur {b c : Nat} (hb : b ≤ 32) (hc : c < 4294967296) : c % 2 ^ b = cur b (pos b c) := by
  refine eq32 (Nat.lt_of_le_of_lt (Nat.mod_le _ _) hc) (cur_lt32 _ _) fun i hi => ?_
  unfold cur pos
  rw [Nat.testBit_mod_two_pow, turn_bit _ _ hi, Nat.testBit_mul_two_pow, ← Nat.shiftRight_eq_div_pow, Nat.testBit_shiftRight]
  by_cases h : i < b
  · have e : 32 - b + (31 - i - (32 - b)) = 31 - i := by omega
    rw [e, turn_bit _ _ (by omega), show 31 - (31 - i) = i by omega]
    simp [h]; omega
  · have : ¬ 32 - b ≤ 31 - i := by omega
    simp [h, this]
theorem pos_down {a b : Nat} (hab : a ≤ b) (hb : b ≤ 32) (c : Nat) : pos a c = pos b c / 2 ^ (b - a) := by
  unfold pos
  rw [Nat.div_div_eq_div_mul, ← Nat.pow_add, show 32 - b + (b - a) = 32 - a by omega]

def curW (b k : Nat) : Nat := if k = 2 ^ b then 0 else cur b k
theorem curW_lt32 (b k : Nat) : curW b k < 4294967296 := by
  unfold curW; split
  · omega
  · exact cur_lt32 _ _
theorem nextD_curW {b : Nat} (hb : b ≤ 32) (c : Nat) : nextD c b = curW b (pos b c + 1) := by
  have hp := pos_lt hb c
  unfold nextD curW
  show turn ((pos b c + 1) * 2 ^ (32 - b) % 4294967296) = _
  split
  · rename_i h
    rw [h, ← pow32 hb]; decide
  · rename_i h
    rw [Nat.mod_eq_of_lt (mul_lt b _ hb (by omega))]; rfl
theorem cur_up {a b : Nat} (hab : a ≤ b) (hb : b ≤ 32) (q : Nat) : cur b (q * 2 ^ (b - a)) = cur a q := by
  unfold cur
  rw [Nat.mul_assoc, ← Nat.pow_add, show b - a + (32 - b) = 32 - a by omega]
theorem pow_up {a b : Nat} (hab : a ≤ b) : (2 : Nat) ^ b = 2 ^ a * 2 ^ (b - a) := by
  rw [← Nat.pow_add, show a + (b - a) = b by omega]
theorem curW_up {a b : Nat} (hab : a ≤ b) (hb : b ≤ 32) (q : Nat) : curW b (q * 2 ^ (b - a)) = curW a q := by
  unfold curW
  rw [pow_up hab, cur_up hab hb]
  by_cases h : q = 2 ^ a
  · rw [if_pos (by rw [h]), if_pos h]
  · rw [if_neg (fun e => h (Nat.eq_of_mul_eq_mul_right Nat.one_le_two_pow e)), if_neg h]
theorem low_cur {a b k : Nat} (hab : a ≤ b) (hb : b ≤ 32) (hk : k < 2 ^ b) : cur b k < 2 ^ a ↔ k % 2 ^ (b - a) = 0 := by
  have h1 := mod_cur (b := a) (c := cur b k) (by omega) (cur_lt32 _ _)
  rw [pos_down hab hb, pos_cur hb hk] at h1
  have h2 : k / 2 ^ (b - a) < 2 ^ a := by rw [Nat.div_lt_iff_lt_mul Nat.one_le_two_pow, ← pow_up hab]; exact hk
  have hd := Nat.div_add_mod k (2 ^ (b - a))
  constructor
  · intro h
    rw [Nat.mod_eq_of_lt h, ← cur_up hab hb] at h1
    have := cur_inj b hb hk (by rw [pow_up hab]; exact Nat.mul_lt_mul_of_pos_right h2 Nat.one_le_two_pow) h1
    rw [Nat.mul_comm] at hd
    omega
  · intro h
    have e : k = k / 2 ^ (b - a) * 2 ^ (b - a) := by rw [Nat.mul_comm]; omega
    rw [e, cur_up hab hb]
    exact cur_lt a _ (by omega) h2
theorem low_curW {a b k : Nat} (hab : a ≤ b) (hb : b ≤ 32) (hk : k ≤ 2 ^ b) : curW b k < 2 ^ a ↔ k % 2 ^ (b - a) = 0 := by
  unfold curW
  split
  · rename_i h
    rw [h, pow_up hab]
    exact ⟨fun _ => Nat.mul_mod_left _ _, fun _ => Nat.one_le_two_pow⟩
  · rename_i h
    exact low_cur hab hb (by omega)
theorem curW_lt {b k : Nat} (hb : b ≤ 32) (hk : k ≤ 2 ^ b) : curW b k < 2 ^ b := by
  unfold curW; split
  · exact Nat.one_le_two_pow
  · rename_i h; exact cur_lt b k hb (by omega)
theorem pos_curW {b k : Nat} (hb : b ≤ 32) (hk : k < 2 ^ b) : pos b (curW b k) = k := by
  unfold curW; rw [if_neg (by omega)]; exact pos_cur hb hk

/-! ### the slots of a great table that a slot of a small one is parted into -/
def slotsM (b k m : Nat) : List (Nat × Nat) := (List.range m).map fun j => (cur b (k + j), curW b (k + j + 1))
def slotsP (a b k : Nat) : List (Nat × Nat) := slotsM b k (2 ^ (b - a) - k % 2 ^ (b - a))
theorem range_map_succ {α : Type} (f : Nat → α) (k m : Nat) : (List.range (m + 1)).map (fun j => f (k + j)) = f k :: (List.range m).map fun j => f (k + 1 + j) := by
  rw [List.range_succ_eq_map, List.map_cons, List.map_map, Nat.add_zero]
  congr 1
  apply List.map_congr_left
  intro j _
  show f (k + (j + 1)) = f (k + 1 + j)
  rw [show k + (j + 1) = k + 1 + j by omega]
theorem slotsM_succ (b k m : Nat) : slotsM b k (m + 1) = (cur b k, curW b (k + 1)) :: slotsM b (k + 1) m :=
  range_map_succ (fun i => (cur b i, curW b (i + 1))) k m
theorem slotsP_cons (a b k : Nat) : slotsP a b k = (cur b k, curW b (k + 1)) :: if (k + 1) % 2 ^ (b - a) = 0 then [] else slotsP a b (k + 1) := by
  have h1 : 0 < 2 ^ (b - a) := Nat.one_le_two_pow
  unfold slotsP
  generalize 2 ^ (b - a) = D at *
  have h2 := Nat.mod_lt k h1
  obtain ⟨m, hm⟩ : ∃ m, D - k % D = m + 1 := ⟨D - k % D - 1, by omega⟩
  rw [hm, slotsM_succ]
  congr 1
  by_cases hz : k % D + 1 = D
  · have hm0 : m = 0 := by omega
    have : (k + 1) % D = 0 := by rw [Nat.add_mod, show k % D + 1 % D = k % D + 1 % D from rfl]
                                 rcases Nat.lt_or_ge 1 D with h | h
                                 · rw [Nat.mod_eq_of_lt h, hz]; simp
                                 · have : D = 1 := by omega
                                   subst this; simp [Nat.mod_one]
    rw [if_pos this, hm0]; rfl
  · have hlt : 1 < D := by omega
    have : (k + 1) % D = k % D + 1 := by rw [Nat.add_mod, Nat.mod_eq_of_lt hlt, Nat.mod_eq_of_lt (by omega)]
    rw [if_neg (by omega), this]
    congr 1
    omega

theorem slotsM_last (b : Nat) : ∀ (m k u : Nat), (slotsM b k (m + 1)).foldl (fun _ x => x.2) u = curW b (k + m + 1)
  | 0, k, u => rfl
  | m + 1, k, u => by
    rw [slotsM_succ, List.foldl_cons, slotsM_last b m (k + 1) _, show k + 1 + m + 1 = k + (m + 1) + 1 by omega]
theorem slotsP_last {a b : Nat} (hab : a ≤ b) (hb : b ≤ 32) (c u : Nat) : (slotsP a b (pos b c)).foldl (fun _ x => x.2) u = curW a (pos a c + 1) := by
  have h1 : 0 < 2 ^ (b - a) := Nat.one_le_two_pow
  have hd := Nat.div_add_mod (pos b c) (2 ^ (b - a))
  have hm := Nat.mod_lt (pos b c) h1
  unfold slotsP
  obtain ⟨m, hm'⟩ : ∃ m, 2 ^ (b - a) - pos b c % 2 ^ (b - a) = m + 1 := ⟨2 ^ (b - a) - pos b c % 2 ^ (b - a) - 1, by omega⟩
  rw [hm', slotsM_last, pos_down hab hb, ← curW_up hab hb, Nat.add_mul, Nat.one_mul, Nat.mul_comm (pos b c / _)]
  congr 1
  omega
theorem slotsP_mem {a b k : Nat} (hab : a ≤ b) (hb : b ≤ 32) (hk : k < 2 ^ b) {x : Nat × Nat} (hx : x ∈ slotsP a b k) : x.1 < 2 ^ b ∧ x.2 < 4294967296 := by
  unfold slotsP slotsM at hx
  obtain ⟨j, hj, rfl⟩ := List.mem_map.1 hx
  rw [List.mem_range] at hj
  refine ⟨cur_lt b _ hb ?_, curW_lt32 _ _⟩
  have h1 : 0 < 2 ^ (b - a) := Nat.one_le_two_pow
  have hd := Nat.div_add_mod k (2 ^ (b - a))
  have h2 : k / 2 ^ (b - a) < 2 ^ a := by rw [Nat.div_lt_iff_lt_mul h1, ← pow_up hab]; exact hk
  have h3 : (k / 2 ^ (b - a) + 1) * 2 ^ (b - a) ≤ 2 ^ a * 2 ^ (b - a) := Nat.mul_le_mul_right _ h2
  rw [← pow_up hab, Nat.add_mul, Nat.one_mul, Nat.mul_comm] at h3
  omega
theorem slotsP_length (a b k : Nat) : (slotsP a b k).length ≤ 2 ^ b := by
  unfold slotsP slotsM
  rw [List.length_map, List.length_range]
  exact Nat.le_trans (Nat.sub_le _ _) (Nat.pow_le_pow_right (by omega) (Nat.sub_le _ _))
end Pal
