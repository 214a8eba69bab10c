/- The walks of the laws of hash. -/
import Derived.Test.YtohjcoadgojikaaHS
namespace Go.Proofs.Ytohjcoadgojikaa
open Go.RowKit Pal

theorem cut_max {s : ByteArray} (hs : s.size ≤ maxLen) : (cutS s 100).size ≤ 9223372036854775807 := by
  unfold maxLen at hs
  have := cutS_size s 100
  omega

set_option maxRecDepth 100000 in
set_option maxHeartbeats 400000 in
theorem HashSums_walk (a0 : Int) (w0 : (Lit.int .u32 a0).wf = true) (s : ByteArray) (hs : s.size ≤ maxLen) (a2 : Int) (w2 : (Lit.int .u32 a2).wf = true) (a3 : Int) (w3 : (Lit.int .i64 a3).wf = true) (w : World) :
    Calls Try.prog 5 #[.int .u32 a0, .string s, .int .u32 a2, .int .i64 a3] w fun e w' => e = .returned (.bool true) ∧ Chg (fun _ => False) w w' := by
  obtain ⟨seed, rfl, hseed⟩ := u32_of_wf w0
  obtain ⟨sum, rfl, hsum⟩ := u32_of_wf w2
  have hcut := cut_max hs
  unfold maxLen at hs
  clear w0 w2 w3
  obtain ⟨q, HQ⟩ : ∃ q, Hid (sumN seed (cutS s 100).data.toList = q) := ⟨_, rfl⟩
  cases hz : isSz a3 with
  | false =>
    have HZ := Lib.hid hz
    clear hz
    go_enter Try.func5, Try.ntmps5
    go_wp2_with fail
    refine (shown06_any _).mono ?_; rintro e w1 ⟨rfl, hc1⟩
    go_wp2_with fail
    refine (slot_no _ _ _ HZ.out).mono ?_; rintro e w' ⟨rfl, rfl⟩
    go_wp2_with fail
    refine (slotR_no _ _ _ HZ.out).mono ?_; rintro e w' ⟨rfl, rfl⟩
    go_wp2_with fail
    refine (cut_any _ _ hs).mono ?_; rintro e w' ⟨rfl, rfl⟩
    go_wp2_with fail
    refine (sum_any _ _ _ hseed hcut).mono ?_; rintro e w2 ⟨rfl, hc2⟩
    rw [HQ.out]
    go_wp2_with fail
    refine (cut_any _ _ hs).mono ?_; rintro e w' ⟨rfl, rfl⟩
    go_wp2_with fail
    refine (sumR_any _ _ _ hseed hcut).mono ?_; rintro e w' ⟨rfl, rfl⟩
    rw [HQ.out]
    go_wp2_with fail
    refine (isSize_any _ _).mono ?_; rintro e w' ⟨rfl, rfl⟩
    go_wp2_with fail
    refine (isSizeR_any _ _).mono ?_; rintro e w' ⟨rfl, rfl⟩
    rw [HZ.out]
    go_wp2_with fail
    go_ret
    exact ⟨rfl, hc1.trans hc2⟩
  | true =>
    obtain ⟨d, h2, h16, hn⟩ := (isSz_pow _).1 hz
    have HN := Lib.hid hn
    have HZ := Lib.hid hz
    clear hz hn
    go_enter Try.func5, Try.ntmps5
    go_wp2_with fail
    refine (shown06_any _).mono ?_; rintro e w1 ⟨rfl, hc1⟩
    go_wp2_with fail
    refine (slot_yes _ d _ _ HN.out hsum h2 h16).mono ?_; rintro e w' ⟨rfl, rfl⟩
    go_wp2_with fail
    refine (slotR_yes _ d _ _ HN.out hsum h2 h16).mono ?_; rintro e w' ⟨rfl, rfl⟩
    go_wp2_with fail
    refine (cut_any _ _ hs).mono ?_; rintro e w' ⟨rfl, rfl⟩
    go_wp2_with fail
    refine (sum_any _ _ _ hseed hcut).mono ?_; rintro e w2 ⟨rfl, hc2⟩
    rw [HQ.out]
    go_wp2_with fail
    refine (cut_any _ _ hs).mono ?_; rintro e w' ⟨rfl, rfl⟩
    go_wp2_with fail
    refine (sumR_any _ _ _ hseed hcut).mono ?_; rintro e w' ⟨rfl, rfl⟩
    rw [HQ.out]
    go_wp2_with fail
    refine (isSize_any _ _).mono ?_; rintro e w' ⟨rfl, rfl⟩
    go_wp2_with fail
    refine (isSizeR_any _ _).mono ?_; rintro e w' ⟨rfl, rfl⟩
    rw [HZ.out]
    go_wp2_with fail
    go_ret
    exact ⟨rfl, hc1.trans hc2⟩

set_option maxRecDepth 100000 in
set_option maxHeartbeats 400000 in
theorem HashTurns_walk (n : Int) (wn : (Lit.int .i64 n).wf = true) (a1 : Int) (w1 : (Lit.int .u32 a1).wf = true) (w : World) :
    Calls Try.prog 6 #[.int .i64 n, .int .u32 a1] w fun e w' => e = .returned (.bool true) ∧ Chg (fun _ => False) w w' := by
  obtain ⟨k, rfl, hk⟩ := u32_of_wf w1
  clear wn w1
  have HT := Lib.hid (turn_turn k hk)
  have ht := turn_lt k
  go_enter Try.func6, Try.ntmps6
  go_wp2_with fail
  refine (shown06_any _).mono ?_; rintro e w1 ⟨rfl, hc1⟩
  go_wp2_with fail
  refine (sizeFor_any n _).mono ?_; rintro e w2 ⟨rfl, hc2⟩
  go_wp2_with fail
  refine (sizeForR_any n _).mono ?_; rintro e w' ⟨rfl, rfl⟩
  go_wp2_with fail
  refine (turn_any k _ hk).mono ?_; rintro e w' ⟨rfl, rfl⟩
  go_wp2_with fail
  refine (turnR_any k _ hk).mono ?_; rintro e w' ⟨rfl, rfl⟩
  go_wp2_with fail
  refine (turn_any k _ hk).mono ?_; rintro e w' ⟨rfl, rfl⟩
  go_wp2_with fail
  refine (turn_any _ _ ht).mono ?_; rintro e w' ⟨rfl, rfl⟩
  rw [HT.out]
  go_wp2_with fail
  go_ret
  exact ⟨rfl, hc1.trans hc2⟩

set_option maxRecDepth 100000 in
set_option maxHeartbeats 400000 in
theorem HashSizes_walk (n : Int) (wn : (Lit.int .i64 n).wf = true) (w : World) :
    Calls Try.prog 7 #[.int .i64 n] w fun e w' => e = .returned (.bool true) ∧ Chg (fun _ => False) w w' := by
  clear wn
  obtain ⟨d, h2, h16, hs, hl, hu⟩ := sizeFor_spec n
  have hz : isSz ((sizeFor n : Nat) : Int) = true := (isSz_pow _).2 ⟨d, h2, h16, by rw [hs]⟩
  have h4 : (2 : Nat) ^ 2 ≤ 2 ^ d := pow_mono h2
  have hp : (2 : Nat) ^ d ≤ 2 ^ 16 := pow_mono h16
  have hA : n ≤ (sizeFor n : Int) ∨ (sizeFor n : Int) = 65536 := by
    rcases hu with hu | rfl
    · exact .inl (by rw [hs]; exact hu)
    · exact .inr (by rw [hs]; decide)
  have hB : (sizeFor n : Int) = 4 ∨ (sizeFor n : Int) / 2 < n := by
    by_cases hd : d = 2
    · subst hd; exact .inl (by rw [hs]; decide)
    · have := hl (d - 1) (by omega) (by omega)
      have e : (2 : Nat) ^ d = 2 * 2 ^ (d - 1) := by
        have : (2 : Nat) ^ (d - 1 + 1) = 2 ^ d := by congr 1; omega
        rw [← this, Nat.pow_succ]; omega
      exact .inr (by rw [hs, e]; omega)
  have hk4 : 4 ≤ (sizeFor n : Int) := by rw [hs]; omega
  have hk16 : (sizeFor n : Int) ≤ 65536 := by rw [hs]; omega
  clear hl hu
  obtain ⟨k, HK⟩ : ∃ k : Int, Hid ((sizeFor n : Int) = k) := ⟨_, rfl⟩
  rw [HK.out] at hz hA hB hk4 hk16
  have HZ := Lib.hid hz
  clear hz hs
  by_cases c1 : n ≤ k
  · by_cases c2 : k = 4
    · have hb : (k == 4) = true := by simpa using c2
      clear hA hB c2
      go_enter Try.func7, Try.ntmps7
      go_wp2_with fail
      refine (shown06_any _).mono ?_; rintro e w1 ⟨rfl, hc1⟩
      go_wp2_with fail
      refine (sizeFor_any n _).mono ?_; rintro e w2 ⟨rfl, hc2⟩
      rw [HK.out]
      go_wp2_with fail
      refine (isSize_any _ _).mono ?_; rintro e w' ⟨rfl, rfl⟩
      rw [HZ.out]
      go_wp2_with fail
      go_ret
      exact ⟨rfl, hc1.trans hc2⟩
    · have hb : (k == 4) = false := by simpa using c2
      have hB' : k / 2 < n := by omega
      clear hA hB c2
      go_enter Try.func7, Try.ntmps7
      go_wp2_with fail
      refine (shown06_any _).mono ?_; rintro e w1 ⟨rfl, hc1⟩
      go_wp2_with fail
      refine (sizeFor_any n _).mono ?_; rintro e w2 ⟨rfl, hc2⟩
      rw [HK.out]
      go_wp2_with fail
      refine (isSize_any _ _).mono ?_; rintro e w' ⟨rfl, rfl⟩
      rw [HZ.out]
      go_wp2_with fail
      go_ret
      exact ⟨rfl, hc1.trans hc2⟩
  · have hA' : (k == 65536) = true := by rw [beq_iff_eq]; omega
    have hb : (k == 4) = false := by rw [beq_eq_false_iff_ne]; rw [beq_iff_eq] at hA'; omega
    have hB' : k / 2 < n := by omega
    have hge : k < n := by omega
    clear hA hB c1
    go_enter Try.func7, Try.ntmps7
    go_wp2_with fail
    refine (shown06_any _).mono ?_; rintro e w1 ⟨rfl, hc1⟩
    go_wp2_with fail
    refine (sizeFor_any n _).mono ?_; rintro e w2 ⟨rfl, hc2⟩
    rw [HK.out]
    go_wp2_with fail
    refine (isSize_any _ _).mono ?_; rintro e w' ⟨rfl, rfl⟩
    rw [HZ.out]
    go_wp2_with fail
    go_ret
    exact ⟨rfl, hc1.trans hc2⟩

theorem half_slot (s d : Nat) : s % 2 ^ (d + 1) = s % 2 ^ d ∨ s % 2 ^ (d + 1) = s % 2 ^ d + 2 ^ d := by
  have h1 : 1 ≤ 2 ^ d := Nat.one_le_two_pow
  have e : (2 : Nat) ^ (d + 1) = 2 * 2 ^ d := by rw [Nat.pow_succ]; omega
  rw [e]
  generalize (2 : Nat) ^ d = m at h1 ⊢
  have hlt : s % (2 * m) < 2 * m := Nat.mod_lt _ (by omega)
  have hm : s % (2 * m) % m = s % m := Nat.mod_mod_of_dvd _ ⟨2, by omega⟩
  rcases Nat.lt_or_ge (s % (2 * m)) m with h | h
  · left; rw [← hm, Nat.mod_eq_of_lt h]
  · right
    have e2 : s % (2 * m) % m = s % (2 * m) - m := by
      rw [Nat.mod_eq_sub_mod h, Nat.mod_eq_of_lt (by omega)]
    omega

set_option maxRecDepth 100000 in
set_option maxHeartbeats 400000 in
theorem HashHalves_walk (a0 : Int) (w0 : (Lit.int .u32 a0).wf = true) (n : Int) (wn : (Lit.int .i64 n).wf = true) (w : World) :
    Calls Try.prog 8 #[.int .u32 a0, .int .i64 n] w fun e w' => e = .returned (.bool true) ∧ Chg (fun _ => False) w w' := by
  obtain ⟨sum, rfl, hsum⟩ := u32_of_wf w0
  clear w0 wn
  cases hz : isSz n with
  | false =>
    have HZ := Lib.hid hz
    clear hz
    go_enter Try.func8, Try.ntmps8
    go_wp2_with fail
    refine (shown06_any _).mono ?_; rintro e w1 ⟨rfl, hc1⟩
    go_wp2_with fail
    refine (slot_no _ _ _ HZ.out).mono ?_; rintro e w' ⟨rfl, rfl⟩
    go_wp2_with fail
    go_ret
    exact ⟨rfl, hc1⟩
  | true =>
    obtain ⟨d, h2, h16, hn⟩ := (isSz_pow _).1 hz
    have HN := Lib.hid hn
    have h4 : (2 : Nat) ^ 2 ≤ 2 ^ d := pow_mono h2
    have hp : (2 : Nat) ^ d ≤ 2 ^ 16 := pow_mono h16
    have hn4 : 4 ≤ n := by omega
    have hn16 : n ≤ 65536 := by omega
    have hq : sum % 2 ^ d < 2 ^ d := Nat.mod_lt _ (by omega)
    have hqn : ((sum % 2 ^ d : Nat) : Int) < n := by omega
    have hq0 : 0 ≤ ((sum % 2 ^ d : Nat) : Int) := by omega
    clear hz hn
    by_cases hd : n = 65536
    · have hb : (n == 65536) = true := by simpa using hd
      clear hd
      go_enter Try.func8, Try.ntmps8
      go_wp2_with fail
      refine (shown06_any _).mono ?_; rintro e w1 ⟨rfl, hc1⟩
      go_wp2_with fail
      refine (slot_yes _ d _ _ HN.out hsum h2 h16).mono ?_; rintro e w' ⟨rfl, rfl⟩
      generalize ((sum % 2 ^ d : Nat) : Int) = q at hqn hq0
      go_wp2_with fail
      go_ret
      exact ⟨rfl, hc1⟩
    · have hb : (n == 65536) = false := by simpa using hd
      have hd16 : d + 1 ≤ 16 := by
        rcases Nat.lt_or_ge d 16 with h | h
        · omega
        · have : d = 16 := by omega
          subst this
          exact absurd HN.out hd
      have h2n : 2 * n = ((2 ^ (d + 1) : Nat) : Int) := by have := HN.out; rw [Nat.pow_succ]; omega
      have HB : ((sum % 2 ^ (d + 1) : Nat) : Int) = ((sum % 2 ^ d : Nat) : Int) ∨ ((sum % 2 ^ (d + 1) : Nat) : Int) = ((sum % 2 ^ d : Nat) : Int) + n := by
        have := HN.out
        rcases half_slot sum d with h | h
        · left; omega
        · right; omega
      clear hd
      obtain ⟨q1, HQ1⟩ : ∃ q1 : Int, Hid (((sum % 2 ^ d : Nat) : Int) = q1) := ⟨_, rfl⟩
      obtain ⟨q2, HQ2⟩ : ∃ q2 : Int, Hid (((sum % 2 ^ (d + 1) : Nat) : Int) = q2) := ⟨_, rfl⟩
      rw [HQ1.out, HQ2.out] at HB
      rw [HQ1.out] at hqn hq0
      have H2N := Lib.hid h2n
      clear hq h2n
      rcases HB with hB | hB
      · have hb1 : (q2 == q1) = true := by simpa using hB
        clear hB
        go_enter Try.func8, Try.ntmps8
        go_wp2_with fail
        refine (shown06_any _).mono ?_; rintro e w1 ⟨rfl, hc1⟩
        go_wp2_with fail
        refine (slot_yes _ d _ _ HN.out hsum h2 h16).mono ?_; rintro e w' ⟨rfl, rfl⟩
        rw [HQ1.out]
        go_wp2_with fail
        refine (slot_yes _ (d + 1) _ _ H2N.out hsum (by omega) hd16).mono ?_; rintro e w' ⟨rfl, rfl⟩
        rw [HQ2.out]
        go_wp2_with fail
        go_ret
        exact ⟨rfl, hc1⟩
      · have hb1 : (q2 == q1) = false := by rw [beq_eq_false_iff_ne]; omega
        have hb2 : (q2 == q1 + n) = true := by simpa using hB
        clear hB
        go_enter Try.func8, Try.ntmps8
        go_wp2_with fail
        refine (shown06_any _).mono ?_; rintro e w1 ⟨rfl, hc1⟩
        go_wp2_with fail
        refine (slot_yes _ d _ _ HN.out hsum h2 h16).mono ?_; rintro e w' ⟨rfl, rfl⟩
        rw [HQ1.out]
        go_wp2_with fail
        refine (slot_yes _ (d + 1) _ _ H2N.out hsum (by omega) hd16).mono ?_; rintro e w' ⟨rfl, rfl⟩
        rw [HQ2.out]
        go_wp2_with fail
        go_ret
        exact ⟨rfl, hc1⟩

set_option maxRecDepth 100000 in
set_option maxHeartbeats 400000 in
theorem HashSeeds_walk (a0 : Int) (w0 : (Lit.int .u32 a0).wf = true) (b0 : Int) (wb : (Lit.int .u32 b0).wf = true) (s : ByteArray) (hs : s.size ≤ maxLen) (w : World) :
    Calls Try.prog 9 #[.int .u32 a0, .int .u32 b0, .string s] w fun e w' => e = .returned (.bool true) ∧ Chg (fun _ => False) w w' := by
  obtain ⟨a, rfl, ha⟩ := u32_of_wf w0
  obtain ⟨b, rfl, hb⟩ := u32_of_wf wb
  have hcut := cut_max hs
  unfold maxLen at hs
  clear w0 wb
  have hinj : sumN a (cutS s 100).data.toList = sumN b (cutS s 100).data.toList ↔ a = b := ⟨fun h => sumN_inj _ ha hb h, fun h => by rw [h]⟩
  obtain ⟨p, HP⟩ : ∃ q, Hid (sumN a (cutS s 100).data.toList = q) := ⟨_, rfl⟩
  obtain ⟨q, HQ⟩ : ∃ q, Hid (sumN b (cutS s 100).data.toList = q) := ⟨_, rfl⟩
  rw [HP.out, HQ.out] at hinj
  have hbb : ((p : Int) == (q : Int)) = ((a : Int) == (b : Int)) := by
    rw [Bool.eq_iff_iff]; simp only [beq_iff_eq]; omega
  have HB := Lib.hid hbb
  clear hinj hbb
  go_enter Try.func9, Try.ntmps9
  go_wp2_with fail
  refine (shown06_any _).mono ?_; rintro e w1 ⟨rfl, hc1⟩
  go_wp2_with fail
  refine (cut_any _ _ hs).mono ?_; rintro e w' ⟨rfl, rfl⟩
  go_wp2_with fail
  refine (sum_any _ _ _ ha hcut).mono ?_; rintro e w2 ⟨rfl, hc2⟩
  rw [HP.out]
  go_wp2_with fail
  refine (cut_any _ _ hs).mono ?_; rintro e w' ⟨rfl, rfl⟩
  go_wp2_with fail
  refine (sum_any _ _ _ hb hcut).mono ?_; rintro e w3 ⟨rfl, hc3⟩
  rw [HQ.out]
  have hB := HB.out
  clear HB
  go_wp2_with fail
  go_ret
  exact ⟨rfl, (hc1.trans hc2).trans hc3⟩

set_option maxRecDepth 100000 in
set_option maxHeartbeats 400000 in
theorem HashFits_walk (n : Int) (wn : (Lit.int .i64 n).wf = true) (a1 : Int) (w1 : (Lit.int .u32 a1).wf = true) (w : World) :
    Calls Try.prog 10 #[.int .i64 n, .int .u32 a1] w fun e w' => e = .returned (.bool true) ∧ Chg (fun _ => False) w w' := by
  obtain ⟨sum, rfl, hsum⟩ := u32_of_wf w1
  clear wn w1
  obtain ⟨d, h2, h16, hs, hl, hu⟩ := sizeFor_spec n
  have h4 : (2 : Nat) ^ 2 ≤ 2 ^ d := pow_mono h2
  have hp : (2 : Nat) ^ d ≤ 2 ^ 16 := pow_mono h16
  have hself : sizeFor ((2 ^ d : Nat) : Int) = 2 ^ d := by
    have hsb : SB ((2 ^ d : Nat) : Int) ((2 ^ d : Nat) : Int) := ⟨d, h2, by omega, rfl, fun e h1 he => by
      have : (2 : Nat) ^ e < 2 ^ d := Nat.pow_lt_pow_right (by omega) he
      omega⟩
    have := hsb.yes (by omega) (by omega)
    omega
  have hq : sum % 2 ^ d < 2 ^ d := Nat.mod_lt _ (by omega)
  obtain ⟨k, HK⟩ : ∃ k : Int, Hid (k = ((2 ^ d : Nat) : Int)) := ⟨_, rfl⟩
  have HS : Hid ((sizeFor n : Int) = k) := by show _ = _; rw [HK.out, hs]
  have HSS : Hid ((sizeFor k : Int) = k) := by show _ = _; rw [HK.out, hself]
  have hk : ((sum % 2 ^ d : Nat) : Int) < k := by rw [HK.out]; omega
  have hk0 : 0 ≤ ((sum % 2 ^ d : Nat) : Int) := by omega
  clear hl hu hs hself hq
  obtain ⟨q, HQ⟩ : ∃ q : Int, Hid (((sum % 2 ^ d : Nat) : Int) = q) := ⟨_, rfl⟩
  rw [HQ.out] at hk hk0
  go_enter Try.func10, Try.ntmps10
  go_wp2_with fail
  refine (shown06_any _).mono ?_; rintro e w1 ⟨rfl, hc1⟩
  go_wp2_with fail
  refine (sizeFor_any n _).mono ?_; rintro e w2 ⟨rfl, hc2⟩
  rw [HS.out]
  go_wp2_with fail
  refine (slot_yes _ d _ _ HK.out hsum h2 h16).mono ?_; rintro e w' ⟨rfl, rfl⟩
  rw [HQ.out]
  go_wp2_with fail
  refine (sizeFor_any k _).mono ?_; rintro e w3 ⟨rfl, hc3⟩
  rw [HSS.out]
  go_wp2_with fail
  go_ret
  exact ⟨rfl, (hc1.trans hc2).trans hc3⟩

end Go.Proofs.Ytohjcoadgojikaa
