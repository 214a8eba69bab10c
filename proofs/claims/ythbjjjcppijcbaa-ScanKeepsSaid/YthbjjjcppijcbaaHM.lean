/- Plain mathematics of hashes: turned numbers, sizes, sums. -/
namespace Pal

/-! ### sizes -/
def isSz (n : Int) : Bool := [4, 8, 16, 32, 64, 128, 256, 512, 1024, 2048, 4096, 8192, 16384, 32768, 65536].contains n
def szs : List Nat := [4, 8, 16, 32, 64, 128, 256, 512, 1024, 2048, 4096, 8192, 16384, 32768, 65536]

/-! ### turned numbers -/
def turnStep (p : Nat × Nat) : Nat × Nat := ((2 * p.1 + p.2 % 2) % 4294967296, p.2 / 2)
def turnAt (n : Nat) : Nat → Nat × Nat
  | 0 => (0, n)
  | k + 1 => turnStep (turnAt n k)
def turn (n : Nat) : Nat := (turnAt n 32).1

theorem turnAt_snd (n : Nat) : ∀ k, (turnAt n k).2 = n / 2 ^ k
  | 0 => by simp [turnAt]
  | k + 1 => by simp [turnAt, turnStep, turnAt_snd n k, Nat.pow_succ, Nat.div_div_eq_div_mul]

theorem turnAt_lt (n : Nat) : ∀ k, k ≤ 32 → (turnAt n k).1 < 2 ^ k
  | 0, _ => by simp [turnAt]
  | k + 1, hk => by
    have ih := turnAt_lt n k (by omega)
    have h2 : (2 : Nat) ^ (k + 1) = 2 * 2 ^ k := by rw [Nat.pow_succ]; omega
    simp only [turnAt, turnStep]
    have := Nat.mod_le (2 * (turnAt n k).1 + (turnAt n k).2 % 2) 4294967296
    omega

theorem turnAt_bit (n : Nat) : ∀ k i, k ≤ 32 → (turnAt n k).1.testBit i = (decide (i < k) && n.testBit (k - 1 - i))
  | 0, i, _ => by simp [turnAt]
  | k + 1, i, hk => by
    have hl := turnAt_lt n k (by omega)
    have hp : (2 : Nat) ^ k ≤ 2 ^ 31 := Nat.pow_le_pow_right (by omega) (by omega)
    have e : (turnAt n (k + 1)).1 = 2 * (turnAt n k).1 + (turnAt n k).2 % 2 := by
      simp only [turnAt, turnStep]; exact Nat.mod_eq_of_lt (by omega)
    rw [e, turnAt_snd]
    cases i with
    | zero =>
      rw [Nat.testBit_zero]
      have : n.testBit (k + 1 - 1 - 0) = decide (n / 2 ^ k % 2 = 1) := by
        simp [Nat.testBit_eq_decide_div_mod_eq]
      rw [this]
      have : (2 * (turnAt n k).1 + n / 2 ^ k % 2) % 2 = n / 2 ^ k % 2 := by omega
      rw [this]; simp
    | succ i =>
      rw [Nat.testBit_succ]
      have : (2 * (turnAt n k).1 + n / 2 ^ k % 2) / 2 = (turnAt n k).1 := by omega
      rw [this, turnAt_bit n k i (by omega)]
      have : k + 1 - 1 - (i + 1) = k - 1 - i := by omega
      rw [this]; simp

theorem turn_lt (n : Nat) : turn n < 4294967296 := turnAt_lt n 32 (by omega)
theorem turn_bit (n i : Nat) (h : i < 32) : (turn n).testBit i = n.testBit (31 - i) := by
  unfold turn; rw [turnAt_bit n 32 i (by omega)]; simp [h]
theorem bit_ge (n i : Nat) (hn : n < 4294967296) (h : 32 ≤ i) : n.testBit i = false :=
  Nat.testBit_lt_two_pow (Nat.lt_of_lt_of_le hn (Nat.pow_le_pow_right (by omega) h : 2 ^ 32 ≤ 2 ^ i))
theorem eq32 {a b : Nat} (ha : a < 4294967296) (hb : b < 4294967296) (h : ∀ i, i < 32 → a.testBit i = b.testBit i) : a = b :=
  Nat.eq_of_testBit_eq fun i => by
    by_cases hi : i < 32
    · exact h i hi
    · rw [bit_ge a i ha (by omega), bit_ge b i hb (by omega)]
theorem turn_turn (n : Nat) (h : n < 4294967296) : turn (turn n) = n :=
  eq32 (turn_lt _) h fun i hi => by
    rw [turn_bit _ _ hi, turn_bit _ _ (by omega)]; congr 1; omega
theorem turn_inj {a b : Nat} (ha : a < 4294967296) (hb : b < 4294967296) (h : turn a = turn b) : a = b := by
  rw [← turn_turn a ha, h, turn_turn b hb]

/-! ### the next cursor -/
def nextC (c size : Nat) : Nat := turn ((turn (c ||| (4294967295 - (size - 1))) + 1) % 4294967296)
def nextD (c d : Nat) : Nat := turn ((turn c / 2 ^ (32 - d) + 1) * 2 ^ (32 - d) % 4294967296)

theorem bit_high (d i : Nat) (hd : d ≤ 32) (hi : i < 32) : (4294967295 - (2 ^ d - 1)).testBit i = decide (d ≤ i) := by
  have hp : (2 : Nat) ^ 32 = 2 ^ d * 2 ^ (32 - d) := by rw [← Nat.pow_add]; congr 1; omega
  have h1 : 1 ≤ 2 ^ d := Nat.one_le_two_pow
  have h2 : 1 ≤ 2 ^ (32 - d) := Nat.one_le_two_pow
  have h32 : (2 : Nat) ^ 32 = 4294967296 := rfl
  have e : 4294967295 - (2 ^ d - 1) = 2 ^ d * (2 ^ (32 - d) - 1) := by
    rw [Nat.mul_sub, ← hp]; omega
  rw [e, Nat.mul_comm, Nat.testBit_mul_two_pow, Nat.testBit_two_pow_sub_one]
  by_cases h : d ≤ i
  · simp [h]; omega
  · simp [h]

theorem turn_or_high (c d : Nat) (hd : d ≤ 32) (hc : c < 4294967296) :
    turn (c ||| (4294967295 - (2 ^ d - 1))) = turn c / 2 ^ (32 - d) * 2 ^ (32 - d) + (2 ^ (32 - d) - 1) := by
  have h2 : 1 ≤ 2 ^ (32 - d) := Nat.one_le_two_pow
  have hp : (2 : Nat) ^ 32 = 2 ^ d * 2 ^ (32 - d) := by rw [← Nat.pow_add]; congr 1; omega
  have ht := turn_lt c
  have hq : turn c / 2 ^ (32 - d) < 2 ^ d := by
    rw [Nat.div_lt_iff_lt_mul (by omega), ← hp]; exact ht
  have hR : turn c / 2 ^ (32 - d) * 2 ^ (32 - d) + (2 ^ (32 - d) - 1) < 4294967296 := by
    have : (turn c / 2 ^ (32 - d) + 1) * 2 ^ (32 - d) ≤ 2 ^ d * 2 ^ (32 - d) := Nat.mul_le_mul_right _ hq
    rw [← hp, Nat.add_mul] at this
    omega
  refine eq32 (turn_lt _) hR fun i hi => ?_
  rw [turn_bit _ _ hi, Nat.testBit_or, bit_high d _ hd (by omega), Nat.mul_comm, Nat.testBit_two_pow_mul_add _ (by omega)]
  by_cases h : i < 32 - d
  · rw [if_pos h, Nat.testBit_two_pow_sub_one]
    simp [h]; right; omega
  · rw [if_neg h, ← Nat.shiftRight_eq_div_pow, Nat.testBit_shiftRight]
    have : 32 - d + (i - (32 - d)) = i := by omega
    rw [this, turn_bit _ _ hi]
    have : ¬ d ≤ 31 - i := by omega
    simp [this]

theorem nextC_eq (c d : Nat) (hd : d ≤ 32) (hc : c < 4294967296) : nextC c (2 ^ d) = nextD c d := by
  unfold nextC nextD
  rw [turn_or_high c d hd hc]
  congr 2
  have h2 : 1 ≤ 2 ^ (32 - d) := Nat.one_le_two_pow
  rw [Nat.add_mul]; omega

/-- The k-th cursor of a table of 2^d slots. -/
def cur (d k : Nat) : Nat := turn (k * 2 ^ (32 - d))

theorem mul_lt (d k : Nat) (hd : d ≤ 32) (hk : k < 2 ^ d) : k * 2 ^ (32 - d) < 4294967296 := by
  have hp : (2 : Nat) ^ 32 = 2 ^ d * 2 ^ (32 - d) := by rw [← Nat.pow_add]; congr 1; omega
  have h2 : 1 ≤ 2 ^ (32 - d) := Nat.one_le_two_pow
  have : (k + 1) * 2 ^ (32 - d) ≤ 2 ^ d * 2 ^ (32 - d) := Nat.mul_le_mul_right _ hk
  rw [← hp, Nat.add_mul] at this
  omega
theorem cur_zero (d : Nat) : cur d 0 = 0 := by unfold cur; rw [Nat.zero_mul]; decide
theorem cur_lt32 (d k : Nat) : cur d k < 4294967296 := turn_lt _
theorem cur_lt (d k : Nat) (hd : d ≤ 32) (hk : k < 2 ^ d) : cur d k < 2 ^ d := by
  refine Nat.lt_pow_two_of_testBit _ fun i hi => ?_
  by_cases h : i < 32
  · unfold cur
    rw [turn_bit _ _ h, Nat.testBit_mul_two_pow]
    have : ¬ 32 - d ≤ 31 - i := by omega
    simp [this]
  · exact bit_ge _ _ (cur_lt32 d k) (by omega)
theorem cur_inj (d : Nat) {j k : Nat} (hd : d ≤ 32) (hj : j < 2 ^ d) (hk : k < 2 ^ d) (h : cur d j = cur d k) : j = k := by
  have := turn_inj (mul_lt d j hd hj) (mul_lt d k hd hk) h
  exact Nat.eq_of_mul_eq_mul_right (Nat.one_le_two_pow) this
theorem next_cur (d k : Nat) (hd : d ≤ 32) (hk : k < 2 ^ d) : nextD (cur d k) d = if k + 1 = 2 ^ d then 0 else cur d (k + 1) := by
  have hp : (2 : Nat) ^ 32 = 2 ^ d * 2 ^ (32 - d) := by rw [← Nat.pow_add]; congr 1; omega
  unfold nextD
  have e : turn (cur d k) / 2 ^ (32 - d) = k := by
    unfold cur; rw [turn_turn _ (mul_lt d k hd hk)]; exact Nat.mul_div_cancel _ Nat.one_le_two_pow
  rw [e]
  split
  · rename_i h
    rw [h, ← hp]; decide
  · rename_i h
    rw [Nat.mod_eq_of_lt (mul_lt d (k + 1) hd (by omega))]; rfl

/-! ### sizes, once more -/
theorem land_pred : ∀ n : Nat, 1 ≤ n → n &&& (n - 1) = 0 → ∃ d, n = 2 ^ d := by
  intro n
  induction n using Nat.strongRecOn with
  | ind n ih =>
    intro h1 h
    rcases Nat.mod_two_eq_zero_or_one n with he | ho
    · have hm : n = 2 * (n / 2) := by omega
      have h3 : 1 ≤ n / 2 := by omega
      have : (n / 2) &&& (n / 2 - 1) = 0 := by
        apply Nat.eq_of_testBit_eq
        intro i
        have hb : (n &&& (n - 1)).testBit (i + 1) = false := by rw [h]; simp
        rw [Nat.testBit_and, Nat.testBit_succ, Nat.testBit_succ] at hb
        have e : (n - 1) / 2 = n / 2 - 1 := by omega
        rw [e] at hb
        rw [Nat.testBit_and, hb]; simp
      obtain ⟨d, hd⟩ := ih (n / 2) (by omega) h3 this
      exact ⟨d + 1, by rw [Nat.pow_succ]; omega⟩
    · by_cases h1' : n = 1
      · exact ⟨0, by simp [h1']⟩
      · exfalso
        have h0 : n / 2 = 0 := by
          apply Nat.eq_of_testBit_eq
          intro i
          have hb : (n &&& (n - 1)).testBit (i + 1) = false := by rw [h]; simp
          rw [Nat.testBit_and, Nat.testBit_succ, Nat.testBit_succ] at hb
          have e : (n - 1) / 2 = n / 2 := by omega
          rw [e, Bool.and_self] at hb
          rw [hb]; simp
        omega

theorem isSz_pow (n : Int) : isSz n = true ↔ ∃ d, 2 ≤ d ∧ d ≤ 16 ∧ n = ((2 ^ d : Nat) : Int) := by
  constructor
  · intro h
    simp [isSz] at h
    rcases h with h | h | h | h | h | h | h | h | h | h | h | h | h | h | h
    · exact ⟨2, by omega, by omega, h⟩
    · exact ⟨3, by omega, by omega, h⟩
    · exact ⟨4, by omega, by omega, h⟩
    · exact ⟨5, by omega, by omega, h⟩
    · exact ⟨6, by omega, by omega, h⟩
    · exact ⟨7, by omega, by omega, h⟩
    · exact ⟨8, by omega, by omega, h⟩
    · exact ⟨9, by omega, by omega, h⟩
    · exact ⟨10, by omega, by omega, h⟩
    · exact ⟨11, by omega, by omega, h⟩
    · exact ⟨12, by omega, by omega, h⟩
    · exact ⟨13, by omega, by omega, h⟩
    · exact ⟨14, by omega, by omega, h⟩
    · exact ⟨15, by omega, by omega, h⟩
    · exact ⟨16, by omega, by omega, h⟩
  · rintro ⟨d, h1, h2, rfl⟩
    have : d = 2 ∨ d = 3 ∨ d = 4 ∨ d = 5 ∨ d = 6 ∨ d = 7 ∨ d = 8 ∨ d = 9 ∨ d = 10 ∨ d = 11 ∨ d = 12 ∨ d = 13 ∨ d = 14 ∨ d = 15 ∨ d = 16 := by omega
    rcases this with h | h | h | h | h | h | h | h | h | h | h | h | h | h | h <;> subst h <;> decide

theorem isSz_land (n : Nat) (h4 : 4 ≤ n) (h5 : n ≤ 65536) : isSz (n : Int) = decide (n &&& (n - 1) = 0) := by
  rw [Bool.eq_iff_iff, decide_eq_true_iff, isSz_pow]
  constructor
  · rintro ⟨d, _, _, h⟩
    have h : n = 2 ^ d := by exact_mod_cast h
    subst h
    apply Nat.eq_of_testBit_eq
    intro i
    rw [Nat.testBit_and, Nat.testBit_two_pow_sub_one, Nat.testBit_two_pow]
    simp
    omega
  · intro h
    obtain ⟨d, hd⟩ := land_pred n (by omega) h
    have h2 : ¬ d < 2 := fun hlt => by
      have : d = 0 ∨ d = 1 := by omega
      rcases this with rfl | rfl <;> simp at hd <;> omega
    have h16 : ¬ 16 < d := fun hlt => by
      have : (2 : Nat) ^ 17 ≤ 2 ^ d := Nat.pow_le_pow_right (by omega) hlt
      omega
    exact ⟨d, by omega, by omega, by rw [hd]⟩

/-! ### sums -/
def mixB (h : Nat) (b : UInt8) : Nat := (h ^^^ b.toNat) * 16777619 % 4294967296
def stirN (h : Nat) : Nat := h ^^^ h / 32768
def endN (h : Nat) : Nat := h ^^^ h / 8192
def sumN (seed : Nat) (l : List UInt8) : Nat := endN (stirN (l.foldl mixB (seed ^^^ 2166136261)) * 2246822519 % 4294967296)

theorem xor32 {a b : Nat} (ha : a < 4294967296) (hb : b < 4294967296) : a ^^^ b < 4294967296 := Nat.xor_lt_two_pow (n := 32) ha hb
theorem mixB_lt (h : Nat) (b : UInt8) : mixB h b < 4294967296 := Nat.mod_lt _ (by omega)
theorem fold_lt (l : List UInt8) : ∀ h, h < 4294967296 → l.foldl mixB h < 4294967296 := by
  induction l with
  | nil => intro h hh; exact hh
  | cons b l ih => intro h _; exact ih _ (mixB_lt _ _)
theorem stirN_lt {h : Nat} (hh : h < 4294967296) : stirN h < 4294967296 := xor32 hh (by omega)
theorem endN_lt {h : Nat} (hh : h < 4294967296) : endN h < 4294967296 := xor32 hh (by omega)
theorem sumN_lt (seed : Nat) (l : List UInt8) : sumN seed l < 4294967296 := endN_lt (Nat.mod_lt _ (by omega))

theorem mul_cancel {c i a b : Nat} (hc : c * i % 4294967296 = 1) (ha : a < 4294967296) (hb : b < 4294967296)
    (h : a * c % 4294967296 = b * c % 4294967296) : a = b := by
  have e : ∀ x, x < 4294967296 → x * c % 4294967296 * i % 4294967296 = x := fun x hx => by
    rw [Nat.mod_mul_mod, Nat.mul_assoc, ← Nat.mul_mod_mod, hc, Nat.mul_one, Nat.mod_eq_of_lt hx]
  rw [← e a ha, h, e b hb]
theorem xor_cancel {a b c : Nat} (h : a ^^^ c = b ^^^ c) : a = b := by
  have : (a ^^^ c) ^^^ c = (b ^^^ c) ^^^ c := by rw [h]
  simpa [Nat.xor_assoc] using this
theorem mixB_inj {a b : Nat} (c : UInt8) (ha : a < 4294967296) (hb : b < 4294967296) (h : mixB a c = mixB b c) : a = b := by
  have hc : c.toNat < 4294967296 := by have := c.toNat_lt; omega
  exact xor_cancel (mul_cancel (i := 899433627) (by decide) (xor32 ha hc) (xor32 hb hc) h)
theorem fold_inj (l : List UInt8) : ∀ {a b : Nat}, a < 4294967296 → b < 4294967296 → l.foldl mixB a = l.foldl mixB b → a = b := by
  induction l with
  | nil => intro a b _ _ h; exact h
  | cons c l ih => intro a b ha hb h; exact mixB_inj c ha hb (ih (mixB_lt _ _) (mixB_lt _ _) h)
theorem shift_inj (s : Nat) (hs : 32 ≤ 3 * s) {a b : Nat} (ha : a < 4294967296) (hb : b < 4294967296)
    (h : a ^^^ a / 2 ^ s = b ^^^ b / 2 ^ s) : a = b := by
  have key : ∀ x, x < 4294967296 → (x ^^^ x / 2 ^ s) ^^^ ((x ^^^ x / 2 ^ s) >>> s) ^^^ ((x ^^^ x / 2 ^ s) >>> s >>> s) = x := fun x hx => by
    apply Nat.eq_of_testBit_eq
    intro i
    simp only [← Nat.shiftRight_eq_div_pow, Nat.testBit_xor, Nat.testBit_shiftRight]
    have : x.testBit (s + (s + (s + i))) = false := bit_ge x _ hx (by omega)
    rw [this]
    cases x.testBit i <;> cases x.testBit (s + i) <;> cases x.testBit (s + (s + i)) <;> rfl
  rw [← key a ha, h, key b hb]
theorem sumN_inj {a b : Nat} (l : List UInt8) (ha : a < 4294967296) (hb : b < 4294967296) (h : sumN a l = sumN b l) : a = b := by
  have h0 : (2166136261 : Nat) < 4294967296 := by omega
  have h1 := shift_inj 13 (by omega) (Nat.mod_lt _ (by omega)) (Nat.mod_lt _ (by omega)) h
  have fa := fold_lt l _ (xor32 ha h0)
  have fb := fold_lt l _ (xor32 hb h0)
  have h2 := mul_cancel (i := 3066638151) (by decide) (stirN_lt fa) (stirN_lt fb) h1
  have h3 := shift_inj 15 (by omega) fa fb h2
  exact xor_cancel (fold_inj l (xor32 ha h0) (xor32 hb h0) h3)

/-! ### the size for a number -/
def sizeFor (n : Int) : Nat := (szs.find? (fun k : Nat => decide (n ≤ (k : Int)))).getD 65536

/-- k is the d-th size's like, and no smaller one is n. -/
def NB (n : Int) (k : Int) : Prop := ∃ d : Nat, 2 ≤ d ∧ d ≤ 17 ∧ k = ((2 ^ d : Nat) : Int) ∧ ∀ e, 2 ≤ e → e < d → n ≠ ((2 ^ e : Nat) : Int)
theorem NB.start (n : Int) : NB n 4 := ⟨2, by omega, by omega, by decide, fun e h1 h2 => by omega⟩
theorem pow_mono {a b : Nat} (h : a ≤ b) : (2 : Nat) ^ a ≤ 2 ^ b := Nat.pow_le_pow_right (by omega) h
theorem NB.lo {n k : Int} (h : NB n k) : 4 ≤ k ∧ k ≤ 131072 := by
  obtain ⟨d, h2, h17, rfl, _⟩ := h
  have h3 : (2 : Nat) ^ 2 ≤ 2 ^ d := pow_mono h2
  have h4 : (2 : Nat) ^ d ≤ 2 ^ 17 := pow_mono h17
  omega
theorem NB.next {n k : Int} (h : NB n k) (hk : k ≤ 65536) (hn : k ≠ n) : NB n (2 * k) := by
  obtain ⟨d, h2, h17, rfl, hl⟩ := h
  refine ⟨d + 1, by omega, ?_, by rw [Nat.pow_succ]; omega, fun e h1 he => ?_⟩
  · rcases Nat.lt_or_ge 16 d with hd | hd
    · have : (2 : Nat) ^ 17 ≤ 2 ^ d := pow_mono hd
      omega
    · omega
  · rcases Nat.lt_or_ge e d with hlt | hge
    · exact hl e h1 hlt
    · have : e = d := by omega
      subst this; exact fun h => hn h.symm
theorem NB.yes {n k : Int} (h : NB n k) (hk : k ≤ 65536) (hn : k = n) : isSz n = true := by
  obtain ⟨d, h2, h17, rfl, hl⟩ := h
  refine (isSz_pow n).2 ⟨d, h2, ?_, hn.symm⟩
  rcases Nat.lt_or_ge 16 d with hd | hd
  · have : (2 : Nat) ^ 17 ≤ 2 ^ d := pow_mono hd
    omega
  · omega
theorem NB.no {n k : Int} (h : NB n k) (hk : 65536 < k) : isSz n = false := by
  obtain ⟨d, h2, h17, rfl, hl⟩ := h
  rw [Bool.eq_false_iff]; intro hs
  obtain ⟨e, h3, h16, rfl⟩ := (isSz_pow n).1 hs
  rcases Nat.lt_or_ge e d with hlt | hge
  · exact hl e h3 hlt rfl
  · have : (2 : Nat) ^ d ≤ 2 ^ 16 := pow_mono (by omega)
    omega

/-- k is a size's like, and all smaller ones are below n. -/
def SB (n : Int) (k : Int) : Prop := ∃ d : Nat, 2 ≤ d ∧ d ≤ 17 ∧ k = ((2 ^ d : Nat) : Int) ∧ ∀ e, 2 ≤ e → e < d → ((2 ^ e : Nat) : Int) < n
theorem SB.start (n : Int) : SB n 4 := ⟨2, by omega, by omega, by decide, fun e h1 h2 => by omega⟩
theorem SB.lo {n k : Int} (h : SB n k) : 4 ≤ k ∧ k ≤ 131072 := by
  obtain ⟨d, h2, h17, rfl, _⟩ := h
  have h3 : (2 : Nat) ^ 2 ≤ 2 ^ d := pow_mono h2
  have h4 : (2 : Nat) ^ d ≤ 2 ^ 17 := pow_mono h17
  omega
theorem SB.next {n k : Int} (h : SB n k) (hk : k ≤ 65536) (hn : k < n) : SB n (2 * k) := by
  obtain ⟨d, h2, h17, rfl, hl⟩ := h
  refine ⟨d + 1, by omega, ?_, by rw [Nat.pow_succ]; omega, fun e h1 he => ?_⟩
  · rcases Nat.lt_or_ge 16 d with hd | hd
    · have : (2 : Nat) ^ 17 ≤ 2 ^ d := pow_mono hd
      omega
    · omega
  · rcases Nat.lt_or_ge e d with hlt | hge
    · exact hl e h1 hlt
    · have : e = d := by omega
      subst this; exact hn
theorem find_szs (p : Nat → Bool) (d : Nat) (h2 : 2 ≤ d) (h16 : d ≤ 16) (hn : ∀ e, 2 ≤ e → e < d → p (2 ^ e) = false) (hp : p (2 ^ d) = true) : szs.find? p = some (2 ^ d) := by
  have hd : d = 2 ∨ d = 3 ∨ d = 4 ∨ d = 5 ∨ d = 6 ∨ d = 7 ∨ d = 8 ∨ d = 9 ∨ d = 10 ∨ d = 11 ∨ d = 12 ∨ d = 13 ∨ d = 14 ∨ d = 15 ∨ d = 16 := by omega
  have e2 := hn 2; have e3 := hn 3; have e4 := hn 4; have e5 := hn 5; have e6 := hn 6; have e7 := hn 7; have e8 := hn 8; have e9 := hn 9
  have e10 := hn 10; have e11 := hn 11; have e12 := hn 12; have e13 := hn 13; have e14 := hn 14; have e15 := hn 15
  clear hn
  rcases hd with rfl | rfl | rfl | rfl | rfl | rfl | rfl | rfl | rfl | rfl | rfl | rfl | rfl | rfl | rfl <;>
    simp_all [szs, List.find?_cons]
theorem find_none (p : Nat → Bool) (hn : ∀ e, 2 ≤ e → e < 17 → p (2 ^ e) = false) : szs.find? p = none := by
  have e2 := hn 2; have e3 := hn 3; have e4 := hn 4; have e5 := hn 5; have e6 := hn 6; have e7 := hn 7; have e8 := hn 8; have e9 := hn 9
  have e10 := hn 10; have e11 := hn 11; have e12 := hn 12; have e13 := hn 13; have e14 := hn 14; have e15 := hn 15; have e16 := hn 16
  clear hn
  simp_all [szs, List.find?_cons]
theorem SB.yes {n k : Int} (h : SB n k) (hk : k ≤ 65536) (hn : n ≤ k) : (sizeFor n : Int) = k := by
  obtain ⟨d, h2, h17, rfl, hl⟩ := h
  have h16 : d ≤ 16 := by
    rcases Nat.lt_or_ge 16 d with hd | hd
    · have : (2 : Nat) ^ 17 ≤ 2 ^ d := pow_mono hd
      omega
    · omega
  unfold sizeFor
  rw [find_szs _ d h2 h16 (fun e h1 h3 => by simpa using hl e h1 h3) (by simpa using hn)]
  rfl
theorem SB.no {n k : Int} (h : SB n k) (hk : 65536 ≤ k) : (sizeFor n : Int) = 65536 := by
  obtain ⟨d, h2, h17, rfl, hl⟩ := h
  have h16 : 16 ≤ d := by
    rcases Nat.lt_or_ge d 16 with hd | hd
    · have : (2 : Nat) ^ d ≤ 2 ^ 15 := pow_mono (by omega)
      omega
    · omega
  by_cases hn : n ≤ 65536
  · unfold sizeFor
    rw [find_szs _ 16 (by omega) (by omega) (fun e h1 h3 => by simpa using hl e h1 (by omega)) (by simpa using hn)]
    rfl
  · unfold sizeFor
    rw [find_none _ (fun e h1 h3 => by
      have : (2 : Nat) ^ e ≤ 2 ^ 16 := pow_mono (by omega)
      rw [decide_eq_false_iff_not]; omega)]
    rfl
theorem sizeFor_spec (n : Int) : ∃ d : Nat, 2 ≤ d ∧ d ≤ 16 ∧ sizeFor n = 2 ^ d ∧ (∀ e, 2 ≤ e → e < d → ((2 ^ e : Nat) : Int) < n) ∧ (n ≤ ((2 ^ d : Nat) : Int) ∨ d = 16) := by
  have key : ∀ m d : Nat, d + m = 17 → 2 ≤ d → (∀ e, 2 ≤ e → e < d → ((2 ^ e : Nat) : Int) < n) →
      ∃ d : Nat, 2 ≤ d ∧ d ≤ 16 ∧ sizeFor n = 2 ^ d ∧ (∀ e, 2 ≤ e → e < d → ((2 ^ e : Nat) : Int) < n) ∧ (n ≤ ((2 ^ d : Nat) : Int) ∨ d = 16) := by
    intro m
    induction m with
    | zero =>
      intro d hd h2 hl
      have hs : SB n ((2 ^ d : Nat) : Int) := ⟨d, h2, by omega, rfl, hl⟩
      have := hs.no (by rw [show d = 17 by omega]; decide)
      exact ⟨16, by omega, by omega, by omega, fun e h1 h3 => hl e h1 (by omega), .inr rfl⟩
    | succ m ih =>
      intro d hd h2 hl
      by_cases hn : n ≤ ((2 ^ d : Nat) : Int)
      · have hs : SB n ((2 ^ d : Nat) : Int) := ⟨d, h2, by omega, rfl, hl⟩
        have hp : (2 : Nat) ^ d ≤ 2 ^ 16 := pow_mono (by omega)
        have := hs.yes (by omega) hn
        exact ⟨d, h2, by omega, by omega, hl, .inl hn⟩
      · exact ih (d + 1) (by omega) (by omega) fun e h1 h3 => by
          rcases Nat.lt_or_ge e d with hlt | hge
          · exact hl e h1 hlt
          · have : e = d := by omega
            subst this; omega
  exact key 15 2 (by omega) (by omega) (fun e h1 h2 => by omega)

end Pal
