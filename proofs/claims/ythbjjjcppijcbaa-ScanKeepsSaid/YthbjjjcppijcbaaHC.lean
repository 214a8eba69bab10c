/- Contracts of the small functions of hash and scan, and of their references. -/
import Derived.Test.YthbjjjcppijcbaaProg
import Derived.Test.YthbjjjcppijcbaaHM
import Derived.WalkKit
import Derived.Outline
import Derived.Lib.Hide
import Derived.Laws.BitsLemmas
import Derived.Laws.BitsAllLaws
import Derived.WalkLawsBesides
import Derived.ScopeJumps
import Derived.WalkMore
namespace Go.Proofs.Ythbjjjcppijcbaa
open Go.RowKit Pal

theorem u32_of_wf {a : Int} (h : (Lit.int .u32 a).wf = true) : ∃ n : Nat, a = (n : Int) ∧ n < 4294967296 := by
  simp [Lit.wf, IntKind.min, IntKind.max, IntKind.signed, IntKind.bits] at h
  exact ⟨a.toNat, by omega, by omega⟩
theorem i64_of_wf {a : Int} (h : (Lit.int .i64 a).wf = true) : -9223372036854775808 ≤ a ∧ a ≤ 9223372036854775807 := by
  simp [Lit.wf, IntKind.min, IntKind.max, IntKind.signed, IntKind.bits] at h
  exact h


set_option maxHeartbeats 400000 in
theorem mask_any (n : Int) (w : World) (h0 : 1 ≤ n) (h1 : n ≤ 65536) :
    Calls Try.prog 66 #[.int .i64 n] w fun e w' => e = .returned (.int .u32 (n - 1)) ∧ w = w' := by
  go_enter Try.func66, Try.ntmps66
  go_wp2
  go_ret
  exact ⟨rfl, rfl⟩

theorem int_eq {k : IntKind} {a b : Int} (h : a = b) : Value.int k a = .int k b := by rw [h]
theorem turnAt_fst_lt (n k : Nat) (hk : k ≤ 32) : (turnAt n k).1 < 4294967296 :=
  Nat.lt_of_lt_of_le (turnAt_lt n k hk) (Nat.pow_le_pow_right (by omega) hk : 2 ^ k ≤ 2 ^ 32)
theorem turnAt_snd_lt (n k : Nat) (hn : n < 4294967296) : (turnAt n k).2 < 4294967296 := by
  rw [turnAt_snd]; exact Nat.lt_of_le_of_lt (Nat.div_le_self _ _) hn
theorem turn_step_eq (n k : Nat) (hk : k < 32) (hn : n < 4294967296) : (bits BinOp.or IntKind.u32 (((turnAt n k).1 : Int) * 2 % 4294967296) (bits BinOp.and IntKind.u32 ((turnAt n k).2 : Int) 1)) = ((turnAt n (k + 1)).1 : Int) := by
  have h1 := turnAt_fst_lt n k (by omega)
  have h2 := turnAt_snd_lt n k hn
  have e1 : ((turnAt n k).1 : Int) * 2 % 4294967296 = ((2 * (turnAt n k).1 % 4294967296 : Nat) : Int) := by omega
  have e2 := u32_and_nat (turnAt n k).2 1 h2 (by omega)
  rw [nat_mask1] at e2
  rw [e1, show (1 : Int) = ((1 : Nat) : Int) from rfl, e2, u32_or_nat _ _ (Nat.mod_lt _ (by omega)) (by omega), nat_join 1 _ _ (by omega) (by omega)]
  simp only [turnAt, turnStep]
  omega

set_option maxHeartbeats 400000 in
theorem turn_any (n : Nat) (w : World) (h1 : n < 4294967296) :
    Calls Try.prog 82 #[.int .u32 (n : Int)] w fun e w' => e = .returned (.int .u32 (turn n : Int)) ∧ w = w' := by
  go_enter Try.func82, Try.ntmps82
  go_wp2
  go_loop [0, 3, 4] (fun m o i => ∃ k : Nat, k ≤ 32 ∧ i = .int .i64 (k : Int) ∧ o = .int .u32 ((turnAt n k).1 : Int) ∧ m = .int .u32 ((turnAt n k).2 : Int)) (fun _ _ i => 32 - (intOf i).toNat)
  case atStart => exact ⟨0, by omega, rfl, rfl, rfl⟩
  case round =>
    obtain ⟨k, hk, rfl, rfl, rfl⟩ := hrel
    by_cases hlt : k < 32
    · go_wp2
      go_round
      case rel => exact ⟨k + 1, by omega, by go_num, int_eq (turn_step_eq n k hlt h1), int_eq (by simp [turnAt, turnStep])⟩
      case measure => simp [intOf]; omega
    · go_wp2
      go_ret
      exact ⟨by rw [show k = 32 by omega]; rfl, rfl⟩

set_option maxHeartbeats 400000 in
theorem turnR_any (n : Nat) (w : World) (h1 : n < 4294967296) :
    Calls Try.prog 85 #[.int .u32 (n : Int)] w fun e w' => e = .returned (.int .u32 (turn n : Int)) ∧ w = w' := by
  go_enter Try.func85, Try.ntmps85
  go_wp2
  go_loop [0, 3, 4] (fun m o i => ∃ k : Nat, k ≤ 32 ∧ i = .int .i64 (k : Int) ∧ o = .int .u32 ((turnAt n k).1 : Int) ∧ m = .int .u32 ((turnAt n k).2 : Int)) (fun _ _ i => 32 - (intOf i).toNat)
  case atStart => exact ⟨0, by omega, rfl, rfl, rfl⟩
  case round =>
    obtain ⟨k, hk, rfl, rfl, rfl⟩ := hrel
    have h2 := turnAt_snd_lt n k h1
    by_cases hlt : k < 32
    · go_wp2
      go_round
      case rel => exact ⟨k + 1, by omega, by go_num, int_eq (by simp only [turnAt, turnStep]; omega), int_eq (by simp only [turnAt, turnStep]; omega)⟩
      case measure => simp [intOf]; omega
    · go_wp2
      go_ret
      exact ⟨by rw [show k = 32 by omega]; rfl, rfl⟩

theorem isSz_bits (n : Int) (h4 : 4 ≤ n) (h5 : n ≤ 65536) : (bits BinOp.and IntKind.i64 n (n - 1) == 0) = isSz n := by
  obtain ⟨m, rfl⟩ : ∃ m : Nat, n = (m : Int) := ⟨n.toNat, by omega⟩
  have e : (m : Int) - 1 = ((m - 1 : Nat) : Int) := by omega
  have hb : bits BinOp.and IntKind.i64 (m : Int) ((m - 1 : Nat) : Int) = ((m &&& (m - 1) : Nat) : Int) :=
    bits_nat .i64 63 (by decide) (fun n h0 h1 => by rw [IntKind.wrap_i64]; omega) m (m - 1) (by omega) (by omega) |>.1
  rw [e, hb, isSz_land m (by omega) (by omega), Bool.eq_iff_iff]
  simp
theorem isSz_out (n : Int) (h : n < 4 ∨ 65536 < n) : isSz n = false := by
  rw [Bool.eq_false_iff]; intro hs
  obtain ⟨d, h2, h16, rfl⟩ := (isSz_pow n).1 hs
  have h3 : (2 : Nat) ^ 2 ≤ 2 ^ d := Nat.pow_le_pow_right (by omega) h2
  have h4 : (2 : Nat) ^ d ≤ 2 ^ 16 := Nat.pow_le_pow_right (by omega) h16
  omega

set_option maxHeartbeats 400000 in
theorem isSize_any (n : Int) (w : World) :
    Calls Try.prog 81 #[.int .i64 n] w fun e w' => e = .returned (.bool (isSz n)) ∧ w = w' := by
  by_cases h4 : 4 ≤ n
  · by_cases h5 : n ≤ 65536
    · have H := Lib.hid (isSz_bits n h4 h5)
      go_enter Try.func81, Try.ntmps81
      go_wp2
      go_ret
      exact ⟨by rw [← H.out]; rfl, rfl⟩
    · have H := Lib.hid (isSz_out n (.inr (by omega)))
      go_enter Try.func81, Try.ntmps81
      go_wp2
      go_ret
      exact ⟨by rw [H.out]; rfl, rfl⟩
  · have H := Lib.hid (isSz_out n (.inl (by omega)))
    go_enter Try.func81, Try.ntmps81
    go_wp2
    go_ret
    exact ⟨by rw [H.out]; rfl, rfl⟩

set_option maxHeartbeats 400000 in
theorem sizeForR_any (n : Int) (w : World) :
    Calls Try.prog 77 #[.int .i64 n] w fun e w' => e = .returned (.int .i64 (sizeFor n : Int)) ∧ w = w' := by
  go_enter Try.func77, Try.ntmps77
  go_wp2
  go_loop [3] (fun i => ∃ k : Int, i = .int .i64 k ∧ SB n k) (fun i => (131073 - intOf i).toNat)
  case atStart => exact ⟨4, rfl, SB.start n⟩
  case round =>
    obtain ⟨k, rfl, hk⟩ := hrel
    have hb := hk.lo
    by_cases hlt : k < 65536
    · by_cases he : n ≤ k
      · have H := Lib.hid (hk.yes (by omega) he)
        clear hk
        go_wp2
        go_ret
        exact ⟨by rw [← H.out]; rfl, rfl⟩
      · have H := Lib.hid (hk.next (by omega) (by omega))
        clear hk
        go_wp2
        go_round
        case rel => exact ⟨_, rfl, H.out⟩
        case measure => simp [intOf]; omega
    · have H := Lib.hid (hk.no (by omega))
      clear hk
      go_wp2
      go_ret
      exact ⟨by rw [← H.out]; rfl, rfl⟩

/-! ### slots -/
theorem slot_bits (s d : Nat) (hs : s < 4294967296) (hd : d ≤ 16) : bits BinOp.and IntKind.u32 (s : Int) (((2 ^ d : Nat) : Int) - 1) = ((s % 2 ^ d : Nat) : Int) := by
  have hp : (2 : Nat) ^ d ≤ 2 ^ 16 := pow_mono hd
  have h1 : 1 ≤ 2 ^ d := Nat.one_le_two_pow
  have e : ((2 ^ d : Nat) : Int) - 1 = ((2 ^ d - 1 : Nat) : Int) := by omega
  rw [e, u32_and_nat _ _ hs (by omega), Nat.and_two_pow_sub_one_eq_mod]

/-- A goto ahead, to a label of this scope: what the jump leads to is walked behind it. -/
theorem wp_scope_ahead {P : Program} {c rest : Code} {l : Nat} {Q : Exit → Act → World → Prop} {a : Act} {w : World} (hf : findLabel c l = some rest)
    (first : c.wp P (Exit.jump l (fun a w => rest.wp P (Exit.noGoto Q) a w) Q) a w) : (Code.scope c).wp P Q a w := by
  refine wp_scope_jumps l (fun a w => rest.wp P (Exit.noGoto Q) a w) (fun _ _ => 0) hf first ?_
  intro a w h
  refine wp_mono h ?_
  rintro e a w hq
  cases e with
  | goto t => exact hq.elim
  | _ => exact hq

/-! ### cursors -/
theorem u32_not_nat (m : Nat) (hm : m < 4294967296) : bits BinOp.xor IntKind.u32 IntKind.u32.max (m : Int) = ((4294967295 - m : Nat) : Int) := by
  have hx : IntKind.u32.max = ((4294967295 : Nat) : Int) := rfl
  rw [hx, u32_xor_nat _ _ (by omega) hm]
  congr 1
  refine eq32 (xor32 (by omega) hm) (by omega) fun i hi => ?_
  have e : 4294967295 - m = 2 ^ 32 - (m + 1) := by omega
  have e2 : (4294967295 : Nat) = 2 ^ 32 - 1 := rfl
  rw [e, Nat.testBit_xor, e2, Nat.testBit_two_pow_sub_one, Nat.testBit_two_pow_sub_succ hm]
  simp [hi]
theorem cursor_bits (c d : Nat) (n : Int) (hn : n = ((2 ^ d : Nat) : Int)) (hc : c < 4294967296) (h16 : d ≤ 16) :
    bits BinOp.or IntKind.u32 (c : Int) (bits BinOp.xor IntKind.u32 IntKind.u32.max (n - 1)) = ((c ||| (4294967295 - (2 ^ d - 1)) : Nat) : Int) := by
  have hp : (2 : Nat) ^ d ≤ 2 ^ 16 := pow_mono h16
  have h1 : 1 ≤ 2 ^ d := Nat.one_le_two_pow
  have e : n - 1 = ((2 ^ d - 1 : Nat) : Int) := by omega
  rw [e, u32_not_nat _ (by omega), u32_or_nat _ _ hc (by omega)]
theorem or32 {a b : Nat} (ha : a < 4294967296) (hb : b < 4294967296) : a ||| b < 4294967296 := Nat.or_lt_two_pow (n := 32) ha hb

set_option maxHeartbeats 400000 in
theorem next_any (c : Nat) (d : Nat) (n : Int) (w : World) (hn : n = ((2 ^ d : Nat) : Int)) (hc : c < 4294967296) (h16 : d ≤ 16) :
    Calls Try.prog 67 #[.int .u32 (c : Int), .int .i64 n] w fun e w' => e = .returned (.int .u32 (nextD c d : Int)) ∧ w = w' := by
  have hp : (2 : Nat) ^ d ≤ 2 ^ 16 := pow_mono h16
  have h1 : 1 ≤ 2 ^ d := Nat.one_le_two_pow
  have hb1 : 1 ≤ n := by omega
  have hb2 : n ≤ 65536 := by omega
  have H1 := Lib.hid (cursor_bits c d n hn hc h16)
  have hl : c ||| (4294967295 - (2 ^ d - 1)) < 4294967296 := or32 hc (by omega)
  have H2 := Lib.hid (nextC_eq c d (by omega) hc)
  clear hn
  go_enter Try.func67, Try.ntmps67
  go_wp2_with (go_at_call 66; refine (mask_any _ _ hb1 hb2).mono ?_; rintro e w' ⟨rfl, rfl⟩)
  rw [H1.out]
  refine (turn_any _ _ hl).mono ?_; rintro e w' ⟨rfl, rfl⟩
  go_wp2_with fail
  rw [show ((turn (c ||| 4294967295 - (2 ^ d - 1)) : Nat) : Int) + 1 = (((turn (c ||| 4294967295 - (2 ^ d - 1)) + 1) : Nat) : Int) from rfl, show (((turn (c ||| 4294967295 - (2 ^ d - 1)) + 1 : Nat) : Int)) % 4294967296 = (((turn (c ||| 4294967295 - (2 ^ d - 1)) + 1) % 4294967296 : Nat) : Int) from rfl]
  refine (turn_any _ _ (Nat.mod_lt _ (by omega))).mono ?_; rintro e w' ⟨rfl, rfl⟩
  go_wp2_with fail
  go_ret
  exact ⟨by rw [← H2.out]; rfl, rfl⟩

set_option maxHeartbeats 400000 in
theorem Next_no (c n : Int) (w : World) (hz : isSz n = false) :
    Calls Try.prog 64 #[.int .u32 c, .int .i64 n] w fun e w' => e = .returned (.tuple #[.int .u32 0, .int .i64 2]) ∧ w = w' := by
  go_enter Try.func64, Try.ntmps64
  go_wp2_with fail
  refine wp_scope_ahead (l := 0) rfl ?_
  go_wp2_with (go_at_call 81; refine (isSize_any _ _).mono ?_; rintro e w' ⟨rfl, rfl⟩)
  refine wp_goto ⟨rfl, ?_⟩
  go_wp2_with fail
  rw [Exit.noGoto_ret]
  go_ret2
  exact ⟨rfl, rfl⟩

set_option maxHeartbeats 400000 in
theorem Next_yes (c : Nat) (d : Nat) (n : Int) (w : World) (hn : n = ((2 ^ d : Nat) : Int)) (hc : c < 4294967296) (h2 : 2 ≤ d) (h16 : d ≤ 16) :
    Calls Try.prog 64 #[.int .u32 (c : Int), .int .i64 n] w fun e w' => e = .returned (.tuple #[.int .u32 (nextD c d : Int), .int .i64 0]) ∧ w = w' := by
  have hz : isSz n = true := (isSz_pow _).2 ⟨d, h2, h16, hn⟩
  have HN := Lib.hid hn
  clear hn
  go_enter Try.func64, Try.ntmps64
  go_wp2_with fail
  go_step3
  go_wp2_with (first | (go_at_call 81; refine (isSize_any _ _).mono ?_; rintro e w' ⟨rfl, rfl⟩) | (go_at_call 67; refine (next_any _ d _ _ HN.out hc h16).mono ?_; rintro e w' ⟨rfl, rfl⟩))
  rw [Exit.noGoto_ret]
  go_ret2
  exact ⟨rfl, rfl⟩

theorem wrap_pow (k : Nat) (hk : k ≤ 32) : wrap64 ((2 : Int) ^ k) = ((2 ^ k : Nat) : Int) := by
  have h : (2 : Nat) ^ k ≤ 2 ^ 32 := pow_mono hk
  have e : (2 : Int) ^ k = ((2 ^ k : Nat) : Int) := by simp
  rw [e]
  generalize (2 : Nat) ^ k = m at h ⊢
  exact IntWalk.wrap64_in _ ⟨by omega, by omega⟩

theorem nextR_bits (t k : Nat) (hk : k ≤ 16) (ht : t < 4294967296) :
    IntKind.u64.wrap (IntKind.u64.wrap (IntKind.u64.wrap (t : Int) / 2 ^ (32 - k) + 1) * 2 ^ (32 - k)) % 4294967296 = (((t / 2 ^ (32 - k) + 1) * 2 ^ (32 - k) % 4294967296 : Nat) : Int) := by
  have h : (2 : Nat) ^ (32 - k) ≤ 2 ^ 32 := pow_mono (by omega)
  have h1 : 1 ≤ (2 : Nat) ^ (32 - k) := Nat.one_le_two_pow
  have e : (2 : Int) ^ (32 - k) = ((2 ^ (32 - k) : Nat) : Int) := by simp
  rw [e]
  generalize (2 : Nat) ^ (32 - k) = m at h h1 ⊢
  have hd : t / m ≤ t := Nat.div_le_self _ _
  have hm : (t / m + 1) * m ≤ 4294967296 + 4294967296 := by
    have := Nat.div_mul_le_self t m
    rw [Nat.add_mul]; omega
  rw [IntKind.wrap_u64, IntKind.wrap_u64, IntKind.wrap_u64]
  have e1 : (t : Int) % 18446744073709551616 = t := by omega
  have e2 : (t : Int) / (m : Int) = ((t / m : Nat) : Int) := rfl
  rw [e1, e2]
  have e4 : (((t / m : Nat) : Int) + 1) % 18446744073709551616 = ((t / m + 1 : Nat) : Int) := by
    clear e e2
    generalize t / m = q at hd ⊢
    omega
  rw [e4]
  have e3 : ((t / m + 1 : Nat) : Int) * (m : Int) = (((t / m + 1) * m : Nat) : Int) := by simp
  rw [e3]
  generalize (t / m + 1) * m = q at hm ⊢
  omega

set_option maxHeartbeats 400000 in
theorem nextR_any (c : Nat) (d : Nat) (n : Int) (w : World) (hn : n = ((2 ^ d : Nat) : Int)) (hc : c < 4294967296) (h16 : d ≤ 16) :
    Calls Try.prog 69 #[.int .u32 (c : Int), .int .i64 n] w fun e w' => e = .returned (.int .u32 (nextD c d : Int)) ∧ w = w' := by
  have hp : (2 : Nat) ^ d ≤ 2 ^ 16 := pow_mono h16
  have h1 : 1 ≤ 2 ^ d := Nat.one_le_two_pow
  have HN := Lib.hid hn
  clear hn
  go_enter Try.func69, Try.ntmps69
  go_wp2_with fail
  go_loop [5] (fun i => ∃ k : Nat, k ≤ d ∧ i = .int .i64 (k : Int)) (fun i => d - (intOf i).toNat)
  case atStart => exact ⟨0, by omega, rfl⟩
  case round =>
    obtain ⟨k, hk, rfl⟩ := hrel
    by_cases hlt : k < d
    · have ht : wrap64 ((2 : Int) ^ k) < n := by
        have h3 : (2 : Nat) ^ (k + 1) ≤ 2 ^ d := pow_mono hlt
        have h4 : 1 ≤ 2 ^ k := Nat.one_le_two_pow
        rw [Nat.pow_succ] at h3
        rw [wrap_pow k (by omega), HN.out]; omega
      go_wp2
      go_round
      case rel => exact ⟨k + 1, by omega, by go_num⟩
      case measure => simp [intOf]; omega
    · obtain rfl : k = d := by omega
      have ht : n ≤ wrap64 ((2 : Int) ^ k) := by rw [wrap_pow k (by omega), HN.out]; omega
      go_wp2_with fail
      refine (turnR_any _ _ hc).mono ?_; rintro e w' ⟨rfl, rfl⟩
      go_wp2_with fail
      rw [nextR_bits _ k h16 (turn_lt c)]
      refine (turnR_any _ _ (Nat.mod_lt _ (by omega))).mono ?_; rintro e w' ⟨rfl, rfl⟩
      go_wp2_with fail
      go_ret
      exact ⟨rfl, rfl⟩

set_option maxHeartbeats 400000 in
theorem shown08_any (w : World) : Calls Try.prog 33 #[] w fun e w' => e = .returned (.bool true) ∧ w = w' := by
  go_enter Try.func33, Try.ntmps33
  go_wp2_with fail
  refine (Next_yes 0 3 8 _ rfl (by omega) (by omega) (by omega)).mono ?_; rintro e w' ⟨rfl, rfl⟩
  go_wp2_with fail
  refine (Next_yes 4 3 8 _ rfl (by omega) (by omega) (by omega)).mono ?_; rintro e w' ⟨rfl, rfl⟩
  go_wp2_with fail
  refine (Next_yes 7 3 8 _ rfl (by omega) (by omega) (by omega)).mono ?_; rintro e w' ⟨rfl, rfl⟩
  go_wp2_with fail
  refine (Next_no 0 6 _ (by decide)).mono ?_; rintro e w' ⟨rfl, rfl⟩
  have e0 : nextD 0 3 = 4 := by decide +kernel
  have e4 : nextD 4 3 = 2 := by decide +kernel
  have e7 : nextD 7 3 = 0 := by decide +kernel
  rw [e0, e4, e7]
  go_wp2_with fail
  go_ret
  exact ⟨rfl, rfl⟩

end Go.Proofs.Ythbjjjcppijcbaa
