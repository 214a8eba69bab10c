/- The walk of ScanRounds: the cursors of a table go through all slots, each once. -/
import Derived.Test.YtohjcoadgojikaaHC
import Derived.Test.YtohjcoadgojikaaRF
import Derived.ProofKit
namespace Go.Proofs.Ytohjcoadgojikaa
open Go.RowKit Pal

def Z1024 : Array Value := Array.replicate 1024 (.bool false)
theorem zval (w : World) : (zeroValue 29).run Try.prog w = .ok (.agg Z1024) w := by kernel_rfl

/-- The cursor behind k rounds. -/
def cAt (d k : Nat) : Nat := if k = 2 ^ d then 0 else cur d k
def Seen (d k : Nat) (S : Array Value) : Prop := S.size = 1024 ∧ ∀ j, j < 1024 → S[j]? = some (.bool (decide (∃ i, i < k ∧ cur d i = j)))
theorem Seen.start (d : Nat) : Seen d 0 Z1024 := ⟨by simp [Z1024], fun j hj => by simp [Z1024, hj]⟩
theorem Seen.next {d k : Nat} {S : Array Value} (h : Seen d k S) (hc : cur d k < 1024) : Seen d (k + 1) (S.setIfInBounds (cur d k) (.bool true)) := by
  obtain ⟨hs, hc2⟩ := h
  refine ⟨by simp [hs], fun j hj => ?_⟩
  by_cases e : cur d k = j
  · subst e
    rw [Array.getElem?_setIfInBounds_self_of_lt (by omega)]
    have : decide (∃ i, i < k + 1 ∧ cur d i = cur d k) = true := by rw [decide_eq_true_iff]; exact ⟨k, by omega, rfl⟩
    rw [this]
  · rw [Array.getElem?_setIfInBounds_ne e, hc2 j hj]
    congr 3
    simp only [eq_iff_iff]
    constructor
    · rintro ⟨i, h1, h2⟩; exact ⟨i, by omega, h2⟩
    · rintro ⟨i, h1, h2⟩
      rcases Nat.lt_or_ge i k with h | h
      · exact ⟨i, h, h2⟩
      · have : i = k := by omega
        subst this; exact absurd h2 e
theorem Seen.not {d k : Nat} {S : Array Value} (h : Seen d k S) (hd : d ≤ 32) (hk : k < 2 ^ d) (hc : cur d k < 1024) : S[cur d k]? = some (.bool false) := by
  rw [h.2 _ hc]
  have : decide (∃ i, i < k ∧ cur d i = cur d k) = false := by
    rw [decide_eq_false_iff_not]
    rintro ⟨i, h1, h2⟩
    have := cur_inj d hd (by omega) hk h2
    omega
  rw [this]

set_option maxRecDepth 100000 in
set_option maxHeartbeats 400000 in
theorem ScanRounds_walk (a0 : Int) (w0 : (Lit.int .i64 a0).wf = true) (w : World) :
    Calls Try.prog 4 #[.int .i64 a0] w fun e w' => e = .returned (.bool true) ∧ Chg (fun _ => False) w w' := by
  cases hz : isSz a0 with
  | false =>
    have HZ := Lib.hid hz
    clear hz
    go_enter Try.func4, Try.ntmps4
    go_wp2_with fail
    refine (shown08_any _).mono ?_; rintro e w' ⟨rfl, rfl⟩
    go_wp2_with fail
    refine (isSizeR_any _ _).mono ?_; rintro e w' ⟨rfl, rfl⟩
    rw [HZ.out]
    go_wp2_with fail
    go_ret
    exact ⟨rfl, Chg.refl _ _⟩
  | true =>
    obtain ⟨d, h2, h16, hn⟩ := (isSz_pow _).1 hz
    have HZ := Lib.hid hz
    clear hz
    by_cases hbig : 1024 < a0
    · clear hn
      go_enter Try.func4, Try.ntmps4
      go_wp2_with fail
      refine (shown08_any _).mono ?_; rintro e w' ⟨rfl, rfl⟩
      go_wp2_with fail
      refine (isSizeR_any _ _).mono ?_; rintro e w' ⟨rfl, rfl⟩
      rw [HZ.out]
      go_wp2_with fail
      go_ret
      exact ⟨rfl, Chg.refl _ _⟩
    · have hs : a0 ≤ 1024 := by omega
      have HN := Lib.hid hn
      have h1 : 1 ≤ 2 ^ d := Nat.one_le_two_pow
      have hlo : 1 ≤ a0 := by omega
      clear hn
      have hzv := zval
      go_enter Try.func4, Try.ntmps4
      go_wp2_with fail
      refine (shown08_any _).mono ?_; rintro e w' ⟨rfl, rfl⟩
      go_wp2_with fail
      refine (isSizeR_any _ _).mono ?_; rintro e w' ⟨rfl, rfl⟩
      rw [HZ.out]
      go_wp2_with fail
      go_loopw [5, 6, 7, 8] (fun c i _ _ wr => ∃ (k : Nat) (S : Array Value), k ≤ 2 ^ d ∧ i = .int .i64 (k : Int) ∧ c = .int .u32 (cAt d k : Int) ∧ Hid (Seen d k S) ∧ wr = w.alloc (.cells S 29)) (fun _ i _ _ _ => 2 ^ d - (intOf i).toNat)
      case atStart => exact ⟨0, Z1024, by omega, rfl, by simp [cAt, cur_zero], Seen.start d, rfl⟩
      case round =>
        obtain ⟨k, S, hk, rfl, rfl, hS, rfl⟩ := hrel
        have hbd : (2 : Nat) ^ d ≤ 1024 := by have := HN.out; omega
        by_cases hlt : k < 2 ^ d
        · have hca : cAt d k = cur d k := by unfold cAt; rw [if_neg (by omega)]
          have hcl := cur_lt d k (by omega) hlt
          have hcell : (w.alloc (.cells S 29)).cell? ⟨w.heap.size, cur d k, none⟩ = some (.bool false) := by
            have := (Blk.new w 29 S).cell (cur d k)
            rw [this]; exact hS.out.not (by omega) hlt (by omega)
          have hfz := (Blk.new w 29 S).frozen (cur d k)
          have hcu : (cur d k : Int) < a0 := by have := HN.out; omega
          have hki : (k : Int) < a0 := by have := HN.out; omega
          have hc32 := cur_lt32 d k
          have hnx := Lib.hid (next_cur d k (by omega) hlt)
          rw [hca]
          clear hca
          go_wp2_with fail
          refine (Next_yes _ d _ _ HN.out hc32 h2 h16).mono ?_; rintro e w' ⟨rfl, rfl⟩
          by_cases hl : k + 1 = 2 ^ d
          · have e1 : nextD (cur d k) d = 0 := by rw [hnx.out, if_pos hl]
            rw [e1]
            have hb1 : ((k : Int) == a0 - 1) = true := by rw [beq_iff_eq]; have := HN.out; omega
            have HL := Lib.hid hl
            clear hl
            go_wp2_with fail
            go_roundw
            case rel => exact ⟨k + 1, _, by omega, by go_num, int_eq (by unfold cAt; rw [if_pos HL.out]; rfl), hS.out.next (by omega), rfl⟩
            case measure => simp [intOf]; omega
          · have e1 : nextD (cur d k) d = cur d (k + 1) := by rw [hnx.out, if_neg hl]
            have hz : cur d (k + 1) ≠ 0 := by
              intro h
              rw [← cur_zero d] at h
              have := cur_inj d (by omega) (by omega) h1 h
              omega
            rw [e1]
            have hb0 : ((cur d (k + 1) : Int) == 0) = false := by rw [beq_eq_false_iff_ne]; omega
            have hb1 : ((k : Int) == a0 - 1) = false := by rw [beq_eq_false_iff_ne]; have := HN.out; omega
            have HL := Lib.hid hl
            clear hl hz
            go_wp2_with fail
            go_roundw
            case rel => exact ⟨k + 1, _, by omega, by go_num, int_eq (by unfold cAt; rw [if_neg HL.out]), hS.out.next (by omega), rfl⟩
            case measure => simp [intOf]; omega
        · have hki : a0 ≤ (k : Int) := by have := HN.out; omega
          go_wp2_with fail
          go_ret
          exact ⟨rfl, (Chg.refl _ _).alloc _⟩

end Go.Proofs.Ytohjcoadgojikaa
