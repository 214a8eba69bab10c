/- Texts joined for ZsetWays: ZsetWays. -/
import Derived.Test.YtifcpippfiglkaaGreatJZsetWaysa
import Derived.Test.YtifcpippfiglkaaGreatJZsetWaysq
import Derived.Deep.RegionHeld3
set_option linter.unusedVariables false
set_option linter.unusedSimpArgs false

/- The walk of ZsetWays. -/
namespace Go.Proofs.YtifcpippfiglkaaGreat.zsetWays
open Go.RowKit Pal
attribute [local go_sem] Oper.semAt_some

theorem noE {es : List En} {m : ByteArray} {lv e : Int} (h : addNo es m lv = some e) : e = 2 ∨ e = 51 := by
  unfold addNo at h
  split at h
  · injection h with h; exact .inl h.symm
  · split at h
    · injection h with h; exact .inr h.symm
    · cases h
theorem clampL_of {n k : Nat} (h : k ≤ n) : clampL n (k : Int) = k := by unfold clampL; omega
theorem nSL : ¬ (⟨#[115, 107, 105, 112, 108, 105, 115, 116]⟩ : ByteArray) = ⟨#[108, 105, 115, 116, 112, 97, 99, 107]⟩ := by decide
theorem nLS : ¬ (⟨#[108, 105, 115, 116, 112, 97, 99, 107]⟩ : ByteArray) = ⟨#[115, 107, 105, 112, 108, 105, 115, 116]⟩ := by decide
theorem bneE (a : ByteArray) : (a.toList != a.toList) = false := by simp
theorem bneN {a b : ByteArray} (h : ¬ a = b) : (a.toList != b.toList) = true := by unfold bne; rw [toListN h]; rfl
def Inv (wb : World) (b E M n : Nat) (k : Nat) (was iv : Value) (W : World) : Prop := ∃ (i : Nat) (z : Zs) (es : List En) (is : Bool), was = .string (encZ is) ∧ iv = .int .i64 (i : Int) ∧ k = min n 100 - i ∧ i ≤ min n 100 ∧ Ow wb W b z es is E M

set_option maxRecDepth 100000 in
set_option maxHeartbeats 8000000 in
theorem walk (E0 M0 : Int) (seed : Nat) (hs : seed < 4294967296) (v : Value) (n : Nat) (g : Nat → Act6) (w : World) (hv : ActsZ w v n g) :
    Calls Tryz.prog 3 #[.agg #[.int .i64 E0, .int .i64 M0], .int .u32 (seed : Int), v] w fun e w' => e = .returned (.bool true) ∧ Chg (fun _ => False) w w' := by
  have hsh := fun w => shown11_any w
  by_cases hE : 0 ≤ E0 ∧ E0 ≤ 200 ∧ 0 ≤ M0 ∧ M0 ≤ 64
  · obtain ⟨e1, e2, e3, e4⟩ := hE
    obtain ⟨E, rfl⟩ : ∃ E : Nat, E0 = (E : Int) := ⟨E0.toNat, by omega⟩
    obtain ⟨M, rfl⟩ : ∃ M : Nat, M0 = (M : Int) := ⟨M0.toNat, by omega⟩
    have f1 : ¬ (E : Int) < 0 := by omega
    have f2 : ¬ (200 : Int) < (E : Int) := by omega
    have f3 : ¬ (M : Int) < 0 := by omega
    have f4 : ¬ (64 : Int) < (M : Int) := by omega
    have hnw := fun (wb W : World) (hc : Chg (fun _ => False) wb W) => ow_new hc (E : Int) (M : Int) seed hs
    rw [clampL_of (by omega), clampL_of (by omega)] at hnw
    clear e1 e2 e3 e4
    unfold pt at hnw
    obtain ⟨wb, hwb⟩ : ∃ wb, wb = w.alloc (.cells #[.int .i64 (E : Int), .int .i64 (M : Int)] 23) := ⟨_, rfl⟩
    have hbx := Blk.new w 23 #[.int .i64 (E : Int), .int .i64 (M : Int)]
    have hCb := (Chg.refl (fun _ => False) w).alloc (.cells #[.int .i64 (E : Int), .int .i64 (M : Int)] 23)
    rw [← hwb] at hbx hCb
    have hgen : ∀ W', Chg (fun _ => False) wb W' → W'.cell? ⟨w.heap.size, 0, none⟩ = some (.int .i64 (E : Int)) ∧ W'.cell? ⟨w.heap.size, 1, none⟩ = some (.int .i64 (M : Int)) := fun W' hc => ⟨by have := (hbx.chg hc id).cell 0; simpa using this, by have := (hbx.chg hc id).cell 1; simpa using this⟩
    go_enter Tryz.func3, Tryz.ntmps3
    go_wp2_with (first | (go_at_call 10; rw [← hwb]; refine (hsh _).mono ?_; rintro r w1 ⟨rfl, hC1⟩; obtain ⟨x0, x1⟩ := hgen _ hC1) | (go_at_call 11; refine (hnw wb _ hC1).mono ?_; rintro r w2 ⟨b, z0, rfl, h0, _, _⟩) | fail)
    clear hsh hnw
    have hCw : ∀ W', Chg (fun _ => False) wb W' → Chg (fun _ => False) w W' := fun W' hc => hCb.trans hc
    go_loopg [9, 10] (min n 100) (Inv wb b E M n)
    case atStart => exact ⟨0, z0, [], false, rfl, rfl, rfl, Nat.zero_le _, h0⟩
    case round =>
      clear h0 hC1 x0 x1
      obtain ⟨i, z, es, is, rfl, rfl, rfl, hi, hO⟩ := hrel
      obtain ⟨p, cap, rfl⟩ := hv.is
      have hle := hv.le
      by_cases hin : i < n
      · by_cases hi100 : i < 100
        · obtain ⟨gb, o, cap', heq, gl, hc6, hk6⟩ := (hv.chg (hCw _ hO.chg)).at_ i hin
          injection heq with heq hx hcap
          subst heq hcap
          clear hx
          obtain ⟨q0, q1, q2, q3, q4, q5⟩ := hc6
          have wS := bounds_i64 hk6.s
          have hMs := hk6.m
          have hmx : (g i).M.size ≤ 9223372036854775807 := hMs
          generalize g i = x at *
          have hks : (cutS x.M 70).size ≤ 9223372036854775807 := Nat.le_trans (cutS_size _ _) hMs
          have hna := fun W => name_any x.M W hMs
          generalize cutS x.M 70 = m at *
          obtain ⟨r, hr, hcase⟩ := mod8 x.Do
          have i1 : (i : Int) < (n : Int) := by omega
          have i2 : (i : Int) < 100 := by omega
          have hadd := fun W (h : Ow wb W b z es is E M) => ow_add h m x.S x.L hks wS
          have hrem := fun W (h : Ow wb W b z es is E M) => ow_remove h m hks
          have s1 := toListE ⟨#[115, 107, 105, 112, 108, 105, 115, 116]⟩
          have s2 := toListE ⟨#[108, 105, 115, 116, 112, 97, 99, 107]⟩
          have s3 := toListN nSL
          have s4 := toListN nLS
          have s5 := bneE ⟨#[115, 107, 105, 112, 108, 105, 115, 116]⟩
          have s6 := bneE ⟨#[108, 105, 115, 116, 112, 97, 99, 107]⟩
          have s7 := bneN nSL
          have s8 := bneN nLS
          have hOH := Lib.hid hO
          clear hO hk6 hMs hle wS
          unfold pt at hadd hrem
          by_cases h5 : r < 5
          · clear hrem
            cases hno : addNo es m x.L with
            | some e =>
              have he := noE hno
              unfold addL addI addR at hadd
              simp only [hno] at hadd
              clear hno
              have he0 : ¬ e = 0 := by omega
              have he1 : (e == 0) = false := by simpa using he0
              have he2 : decide (e = 0) = false := decide_eq_false he0
              cases is with
              | true =>
                unfold encZ
                simp only [Bool.false_eq_true, if_false, if_true]
                have hec := fun W z es is (h : Ow wb W b z es is E M) => ow_encoding h
                have hln := fun W z es is (h : Ow wb W b z es is E M) => ow_len h
                unfold pt at hec hln
                go_wp2_with (first | (go_at_call 12; refine (hna _).mono ?_; rintro r9 w9 ⟨rfl, rfl⟩) | (go_at_call 13; refine (hadd _ (hOH.out.chg0 ((Chg.refl _ wr).alloc _))).mono ?_; rintro r9 w3 ⟨rfl, z3, h3, _⟩) | (go_at_call 15; refine (hec _ _ _ _ h3).mono ?_; rintro r9 w4 ⟨rfl, rfl⟩; unfold encZ; simp only [Bool.false_eq_true, if_false, if_true]) | fail)
                refine wp_region_held_drew (S := fun W' => W'.cell? ⟨w.heap.size, 0, none⟩ = some (.int .i64 (E : Int)) ∧ W'.cell? ⟨w.heap.size, 1, none⟩ = some (.int .i64 (M : Int))) (by kernel_rfl) (hgen _ (h3.chg.trans (Chg.refl _ _).drew)) (fun hHeld => ?_)
                refine wpAnyH_take (i := 0) (oi := Go.Oper.mk (some 80) _ _ _ _ _) (v := ?_) rfl (by kernel_rfl) (by kernel_rfl) (by kernel_rfl) (fun _ _ _ h => h) (Or.inl ⟨by kernel_rfl, ?_⟩) (by assumption) ?_
                rotate_left
                · intro w hSw
                  try dsimp only at hSw
                  go_simp
                  try with_reducible rfl
                try simp only [Act.put, List.setIfInBounds_toArray, List.set_cons_zero, List.set_cons_succ]
                refine wpAnyH_take (i := 1) (oi := Go.Oper.mk (some 81) _ _ _ _ _) (v := ?_) rfl (by kernel_rfl) (by kernel_rfl) (by kernel_rfl) (fun _ _ _ h => h) (Or.inl ⟨by kernel_rfl, ?_⟩) (by assumption) ?_
                rotate_left
                · intro w hSw
                  try dsimp only at hSw
                  go_simp
                  try with_reducible rfl
                try simp only [Act.put, List.setIfInBounds_toArray, List.set_cons_zero, List.set_cons_succ]
                refine wpAnyH_take (i := 2) (oi := Go.Oper.mk (some 82) _ _ _ _ _) (v := undef) rfl (by kernel_rfl) (by kernel_rfl) (by kernel_rfl) (fun _ _ _ h => h) (Or.inr ⟨by kernel_rfl, rfl⟩) (by assumption) ?_
                try simp only [Act.put, List.setIfInBounds_toArray, List.set_cons_zero, List.set_cons_succ]
                refine wpAnyH_take (i := 3) (oi := Go.Oper.mk (some 83) _ _ _ _ _) (v := undef) rfl (by kernel_rfl) (by kernel_rfl) (by kernel_rfl) (fun _ _ _ h => h) (Or.inr ⟨by kernel_rfl, rfl⟩) (by assumption) ?_
                try simp only [Act.put, List.setIfInBounds_toArray, List.set_cons_zero, List.set_cons_succ]
                refine wpAnyH_take (i := 4) (oi := Go.Oper.mk (some 84) _ _ _ _ _) (v := undef) rfl (by kernel_rfl) (by kernel_rfl) (by kernel_rfl) (fun _ _ _ h => h) (Or.inr ⟨by kernel_rfl, rfl⟩) (by assumption) ?_
                try simp only [Act.put, List.setIfInBounds_toArray, List.set_cons_zero, List.set_cons_succ]
                refine wpAnyH_take (i := 5) (oi := Go.Oper.mk (some 85) _ _ _ _ _) (v := undef) rfl (by kernel_rfl) (by kernel_rfl) (by kernel_rfl) (fun _ _ _ h => h) (Or.inr ⟨by kernel_rfl, rfl⟩) (by assumption) ?_
                try simp only [Act.put, List.setIfInBounds_toArray, List.set_cons_zero, List.set_cons_succ]
                refine wpAnyH_take (i := 6) (oi := Go.Oper.mk (some 86) _ _ _ _ _) (v := undef) rfl (by kernel_rfl) (by kernel_rfl) (by kernel_rfl) (fun _ _ _ h => h) (Or.inr ⟨by kernel_rfl, rfl⟩) (by assumption) ?_
                try simp only [Act.put, List.setIfInBounds_toArray, List.set_cons_zero, List.set_cons_succ]
                refine wpAnyH_take (i := 7) (oi := Go.Oper.mk (some 87) _ _ _ _ _) (v := undef) rfl (by kernel_rfl) (by kernel_rfl) (by kernel_rfl) (fun _ _ _ h => h) (Or.inr ⟨by kernel_rfl, rfl⟩) (by assumption) ?_
                try simp only [Act.put, List.setIfInBounds_toArray, List.set_cons_zero, List.set_cons_succ]
                refine wpAnyH_take (i := 8) (oi := Go.Oper.mk (some 88) _ _ _ _ _) (v := undef) rfl (by kernel_rfl) (by kernel_rfl) (by kernel_rfl) (fun _ _ _ h => h) (Or.inr ⟨by kernel_rfl, rfl⟩) (by assumption) ?_
                try simp only [Act.put, List.setIfInBounds_toArray, List.set_cons_zero, List.set_cons_succ]
                refine wpAnyH_take (i := 9) (oi := Go.Oper.mk (some 89) _ _ _ _ _) (v := undef) rfl (by kernel_rfl) (by kernel_rfl) (by kernel_rfl) (fun _ _ _ h => h) (Or.inr ⟨by kernel_rfl, rfl⟩) (by assumption) ?_
                try simp only [Act.put, List.setIfInBounds_toArray, List.set_cons_zero, List.set_cons_succ]
                refine wpAnyH_take (i := 10) (oi := Go.Oper.mk (some 90) _ _ _ _ _) (v := undef) rfl (by kernel_rfl) (by kernel_rfl) (by kernel_rfl) (fun _ _ _ h => h) (Or.inr ⟨by kernel_rfl, rfl⟩) (by assumption) ?_
                try simp only [Act.put, List.setIfInBounds_toArray, List.set_cons_zero, List.set_cons_succ]
                refine wpAnyH_take (i := 11) (oi := Go.Oper.mk (some 91) _ _ _ _ _) (v := undef) rfl (by kernel_rfl) (by kernel_rfl) (by kernel_rfl) (fun _ _ _ h => h) (Or.inr ⟨by kernel_rfl, rfl⟩) (by assumption) ?_
                try simp only [Act.put, List.setIfInBounds_toArray, List.set_cons_zero, List.set_cons_succ]
                refine wpAnyH_take (i := 12) (oi := Go.Oper.mk (some 92) _ _ _ _ _) (v := undef) rfl (by kernel_rfl) (by kernel_rfl) (by kernel_rfl) (fun _ _ _ h => h) (Or.inr ⟨by kernel_rfl, rfl⟩) (by assumption) ?_
                try simp only [Act.put, List.setIfInBounds_toArray, List.set_cons_zero, List.set_cons_succ]
                refine wpAnyH_take (i := 13) (oi := Go.Oper.mk (some 93) _ _ _ _ _) (v := undef) rfl (by kernel_rfl) (by kernel_rfl) (by kernel_rfl) (fun _ _ _ h => h) (Or.inr ⟨by kernel_rfl, rfl⟩) (by assumption) ?_
                try simp only [Act.put, List.setIfInBounds_toArray, List.set_cons_zero, List.set_cons_succ]
                refine wpAnyH_take (i := 14) (oi := Go.Oper.mk (some 94) _ _ _ _ _) (v := ?_) rfl (by kernel_rfl) (by kernel_rfl) (by kernel_rfl) (fun _ _ _ h => h) (Or.inl ⟨by kernel_rfl, ?_⟩) (by assumption) ?_
                rotate_left
                · intro w hSw
                  try dsimp only at hSw
                  go_simp
                  try with_reducible rfl
                try simp only [Act.put, List.setIfInBounds_toArray, List.set_cons_zero, List.set_cons_succ]
                refine wpAnyH_take (i := 15) (oi := Go.Oper.mk (some 17) _ _ _ _ _) (v := ?_) rfl (by kernel_rfl) (by kernel_rfl) (by kernel_rfl) (fun _ _ _ h => h) (Or.inl ⟨by kernel_rfl, ?_⟩) (by assumption) ?_
                rotate_left
                · intro w hSw
                  try dsimp only at hSw
                  go_simp
                  try with_reducible rfl
                try simp only [Act.put, List.setIfInBounds_toArray, List.set_cons_zero, List.set_cons_succ]
                refine wpAnyH_done (by kernel_rfl) ?_ _
                clear hHeld
                have h8 := h3.chg0 (Chg.refl _ _).drew
                go_wp2_with fail
                go_roundg (min n 100 - (i + 1))
                case measure => omega
                case rel => exact ⟨i + 1, z3, _, _, rfl, int_eq (by omega), rfl, by omega, h8⟩
              | false =>
                unfold encZ
                simp only [Bool.false_eq_true, if_false, if_true]
                have hec := fun W z es is (h : Ow wb W b z es is E M) => ow_encoding h
                have hln := fun W z es is (h : Ow wb W b z es is E M) => ow_len h
                unfold pt at hec hln
                go_wp2_with (first | (go_at_call 12; refine (hna _).mono ?_; rintro r9 w9 ⟨rfl, rfl⟩) | (go_at_call 13; refine (hadd _ (hOH.out.chg0 ((Chg.refl _ wr).alloc _))).mono ?_; rintro r9 w3 ⟨rfl, z3, h3, _⟩) | (go_at_call 15; refine (hec _ _ _ _ h3).mono ?_; rintro r9 w4 ⟨rfl, rfl⟩; unfold encZ; simp only [Bool.false_eq_true, if_false, if_true]) | fail)
                refine wp_region_held_drew (S := fun W' => W'.cell? ⟨w.heap.size, 0, none⟩ = some (.int .i64 (E : Int)) ∧ W'.cell? ⟨w.heap.size, 1, none⟩ = some (.int .i64 (M : Int))) (by kernel_rfl) (hgen _ (h3.chg.trans (Chg.refl _ _).drew)) (fun hHeld => ?_)
                refine wpAnyH_take (i := 0) (oi := Go.Oper.mk (some 80) _ _ _ _ _) (v := ?_) rfl (by kernel_rfl) (by kernel_rfl) (by kernel_rfl) (fun _ _ _ h => h) (Or.inl ⟨by kernel_rfl, ?_⟩) (by assumption) ?_
                rotate_left
                · intro w hSw
                  try dsimp only at hSw
                  go_simp
                  try with_reducible rfl
                try simp only [Act.put, List.setIfInBounds_toArray, List.set_cons_zero, List.set_cons_succ]
                refine wpAnyH_take (i := 1) (oi := Go.Oper.mk (some 81) _ _ _ _ _) (v := ?_) rfl (by kernel_rfl) (by kernel_rfl) (by kernel_rfl) (fun _ _ _ h => h) (Or.inl ⟨by kernel_rfl, ?_⟩) (by assumption) ?_
                rotate_left
                · intro w hSw
                  try dsimp only at hSw
                  go_simp
                  try with_reducible rfl
                try simp only [Act.put, List.setIfInBounds_toArray, List.set_cons_zero, List.set_cons_succ]
                refine wpAnyH_take (i := 2) (oi := Go.Oper.mk (some 82) _ _ _ _ _) (v := undef) rfl (by kernel_rfl) (by kernel_rfl) (by kernel_rfl) (fun _ _ _ h => h) (Or.inr ⟨by kernel_rfl, rfl⟩) (by assumption) ?_
                try simp only [Act.put, List.setIfInBounds_toArray, List.set_cons_zero, List.set_cons_succ]
                refine wpAnyH_take (i := 3) (oi := Go.Oper.mk (some 83) _ _ _ _ _) (v := undef) rfl (by kernel_rfl) (by kernel_rfl) (by kernel_rfl) (fun _ _ _ h => h) (Or.inr ⟨by kernel_rfl, rfl⟩) (by assumption) ?_
                try simp only [Act.put, List.setIfInBounds_toArray, List.set_cons_zero, List.set_cons_succ]
                refine wpAnyH_take (i := 4) (oi := Go.Oper.mk (some 84) _ _ _ _ _) (v := undef) rfl (by kernel_rfl) (by kernel_rfl) (by kernel_rfl) (fun _ _ _ h => h) (Or.inr ⟨by kernel_rfl, rfl⟩) (by assumption) ?_
                try simp only [Act.put, List.setIfInBounds_toArray, List.set_cons_zero, List.set_cons_succ]
                refine wpAnyH_take (i := 5) (oi := Go.Oper.mk (some 85) _ _ _ _ _) (v := undef) rfl (by kernel_rfl) (by kernel_rfl) (by kernel_rfl) (fun _ _ _ h => h) (Or.inr ⟨by kernel_rfl, rfl⟩) (by assumption) ?_
                try simp only [Act.put, List.setIfInBounds_toArray, List.set_cons_zero, List.set_cons_succ]
                refine wpAnyH_take (i := 6) (oi := Go.Oper.mk (some 86) _ _ _ _ _) (v := undef) rfl (by kernel_rfl) (by kernel_rfl) (by kernel_rfl) (fun _ _ _ h => h) (Or.inr ⟨by kernel_rfl, rfl⟩) (by assumption) ?_
                try simp only [Act.put, List.setIfInBounds_toArray, List.set_cons_zero, List.set_cons_succ]
                refine wpAnyH_take (i := 7) (oi := Go.Oper.mk (some 87) _ _ _ _ _) (v := undef) rfl (by kernel_rfl) (by kernel_rfl) (by kernel_rfl) (fun _ _ _ h => h) (Or.inr ⟨by kernel_rfl, rfl⟩) (by assumption) ?_
                try simp only [Act.put, List.setIfInBounds_toArray, List.set_cons_zero, List.set_cons_succ]
                refine wpAnyH_take (i := 8) (oi := Go.Oper.mk (some 88) _ _ _ _ _) (v := undef) rfl (by kernel_rfl) (by kernel_rfl) (by kernel_rfl) (fun _ _ _ h => h) (Or.inr ⟨by kernel_rfl, rfl⟩) (by assumption) ?_
                try simp only [Act.put, List.setIfInBounds_toArray, List.set_cons_zero, List.set_cons_succ]
                refine wpAnyH_take (i := 9) (oi := Go.Oper.mk (some 89) _ _ _ _ _) (v := undef) rfl (by kernel_rfl) (by kernel_rfl) (by kernel_rfl) (fun _ _ _ h => h) (Or.inr ⟨by kernel_rfl, rfl⟩) (by assumption) ?_
                try simp only [Act.put, List.setIfInBounds_toArray, List.set_cons_zero, List.set_cons_succ]
                refine wpAnyH_take (i := 10) (oi := Go.Oper.mk (some 90) _ _ _ _ _) (v := undef) rfl (by kernel_rfl) (by kernel_rfl) (by kernel_rfl) (fun _ _ _ h => h) (Or.inr ⟨by kernel_rfl, rfl⟩) (by assumption) ?_
                try simp only [Act.put, List.setIfInBounds_toArray, List.set_cons_zero, List.set_cons_succ]
                refine wpAnyH_take (i := 11) (oi := Go.Oper.mk (some 91) _ _ _ _ _) (v := undef) rfl (by kernel_rfl) (by kernel_rfl) (by kernel_rfl) (fun _ _ _ h => h) (Or.inr ⟨by kernel_rfl, rfl⟩) (by assumption) ?_
                try simp only [Act.put, List.setIfInBounds_toArray, List.set_cons_zero, List.set_cons_succ]
                refine wpAnyH_take (i := 12) (oi := Go.Oper.mk (some 92) _ _ _ _ _) (v := undef) rfl (by kernel_rfl) (by kernel_rfl) (by kernel_rfl) (fun _ _ _ h => h) (Or.inr ⟨by kernel_rfl, rfl⟩) (by assumption) ?_
                try simp only [Act.put, List.setIfInBounds_toArray, List.set_cons_zero, List.set_cons_succ]
                refine wpAnyH_take (i := 13) (oi := Go.Oper.mk (some 93) _ _ _ _ _) (v := undef) rfl (by kernel_rfl) (by kernel_rfl) (by kernel_rfl) (fun _ _ _ h => h) (Or.inr ⟨by kernel_rfl, rfl⟩) (by assumption) ?_
                try simp only [Act.put, List.setIfInBounds_toArray, List.set_cons_zero, List.set_cons_succ]
                refine wpAnyH_take (i := 14) (oi := Go.Oper.mk (some 94) _ _ _ _ _) (v := ?_) rfl (by kernel_rfl) (by kernel_rfl) (by kernel_rfl) (fun _ _ _ h => h) (Or.inl ⟨by kernel_rfl, ?_⟩) (by assumption) ?_
                rotate_left
                · intro w hSw
                  try dsimp only at hSw
                  go_simp
                  try with_reducible rfl
                try simp only [Act.put, List.setIfInBounds_toArray, List.set_cons_zero, List.set_cons_succ]
                refine wpAnyH_take (i := 15) (oi := Go.Oper.mk (some 17) _ _ _ _ _) (v := ?_) rfl (by kernel_rfl) (by kernel_rfl) (by kernel_rfl) (fun _ _ _ h => h) (Or.inl ⟨by kernel_rfl, ?_⟩) (by assumption) ?_
                rotate_left
                · intro w hSw
                  try dsimp only at hSw
                  go_simp
                  try with_reducible rfl
                try simp only [Act.put, List.setIfInBounds_toArray, List.set_cons_zero, List.set_cons_succ]
                refine wpAnyH_done (by kernel_rfl) ?_ _
                clear hHeld
                have h8 := h3.chg0 (Chg.refl _ _).drew
                go_wp2_with fail
                go_roundg (min n 100 - (i + 1))
                case measure => omega
                case rel => exact ⟨i + 1, z3, _, _, rfl, int_eq (by omega), rfl, by omega, h8⟩
            | none =>
              unfold addL addI addR at hadd
              simp only [hno] at hadd
              clear hno
              generalize putE es m x.S = es' at hadd
              by_cases c1 : E < es'.length
              · have hb : decide (E < es'.length ∨ M < m.size) = true := decide_eq_true (.inl c1)
                rw [hb] at hadd
                simp only [Bool.or_true] at hadd
                have c1' : (E : Int) < (es'.length : Int) := by omega
                have c1d : decide ((E : Int) < (es'.length : Int)) = true := decide_eq_true c1'
                have c1n : decide (E < es'.length) = true := decide_eq_true c1
                clear hb
                cases is with
                | true =>
                  unfold encZ
                  simp only [Bool.false_eq_true, if_false, if_true]
                  have hec := fun W z es is (h : Ow wb W b z es is E M) => ow_encoding h
                  have hln := fun W z es is (h : Ow wb W b z es is E M) => ow_len h
                  unfold pt at hec hln
                  go_wp2_with (first | (go_at_call 12; refine (hna _).mono ?_; rintro r9 w9 ⟨rfl, rfl⟩) | (go_at_call 13; refine (hadd _ (hOH.out.chg0 ((Chg.refl _ wr).alloc _))).mono ?_; rintro r9 w3 ⟨rfl, z3, h3, _⟩) | (go_at_call 15; refine (hec _ _ _ _ h3).mono ?_; rintro r9 w4 ⟨rfl, rfl⟩; unfold encZ; simp only [Bool.false_eq_true, if_false, if_true]) | fail)
                  refine wp_region_held_drew (S := fun W' => W'.cell? ⟨w.heap.size, 0, none⟩ = some (.int .i64 (E : Int)) ∧ W'.cell? ⟨w.heap.size, 1, none⟩ = some (.int .i64 (M : Int))) (by kernel_rfl) (hgen _ (h3.chg.trans (Chg.refl _ _).drew)) (fun hHeld => ?_)
                  refine wpAnyH_take (i := 0) (oi := Go.Oper.mk (some 80) _ _ _ _ _) (v := ?_) rfl (by kernel_rfl) (by kernel_rfl) (by kernel_rfl) (fun _ _ _ h => h) (Or.inl ⟨by kernel_rfl, ?_⟩) (by assumption) ?_
                  rotate_left
                  · intro w hSw
                    try dsimp only at hSw
                    go_simp
                    try with_reducible rfl
                  try simp only [Act.put, List.setIfInBounds_toArray, List.set_cons_zero, List.set_cons_succ]
                  refine wpAnyH_take (i := 1) (oi := Go.Oper.mk (some 81) _ _ _ _ _) (v := ?_) rfl (by kernel_rfl) (by kernel_rfl) (by kernel_rfl) (fun _ _ _ h => h) (Or.inl ⟨by kernel_rfl, ?_⟩) (by assumption) ?_
                  rotate_left
                  · intro w hSw
                    try dsimp only at hSw
                    go_simp
                    try with_reducible rfl
                  try simp only [Act.put, List.setIfInBounds_toArray, List.set_cons_zero, List.set_cons_succ]
                  refine wpAnyH_take (i := 2) (oi := Go.Oper.mk (some 82) _ _ _ _ _) (v := ?_) rfl (by kernel_rfl) (by kernel_rfl) (by kernel_rfl) (fun _ _ _ h => h) (Or.inl ⟨by kernel_rfl, ?_⟩) (by assumption) ?_
                  rotate_left
                  · intro w hSw
                    try dsimp only at hSw
                    go_simp
                    try with_reducible rfl
                  try simp only [Act.put, List.setIfInBounds_toArray, List.set_cons_zero, List.set_cons_succ]
                  refine wpAnyH_take (i := 4) (oi := Go.Oper.mk (some 84) _ _ _ _ _) (v := ?_) rfl (by kernel_rfl) (by kernel_rfl) (by kernel_rfl) (fun _ _ _ h => h) (Or.inl ⟨by kernel_rfl, ?_⟩) (by assumption) ?_
                  rotate_left
                  · intro w hSw
                    try dsimp only at hSw
                    go_simp
                    try with_reducible rfl
                  try simp only [Act.put, List.setIfInBounds_toArray, List.set_cons_zero, List.set_cons_succ]
                  refine wpAnyH_take (i := 5) (oi := Go.Oper.mk (some 85) _ _ _ _ _) (v := ?_) rfl (by kernel_rfl) (by kernel_rfl) (by kernel_rfl) (fun _ _ _ h => h) (Or.inl ⟨by kernel_rfl, ?_⟩) (by assumption) ?_
                  rotate_left
                  · intro w hSw
                    try dsimp only at hSw
                    go_simp
                    try with_reducible rfl
                  try simp only [Act.put, List.setIfInBounds_toArray, List.set_cons_zero, List.set_cons_succ]
                  refine wpAnyH_ready (rs := [3]) (by kernel_rfl) (by simp) ?_
                  refine AllReadyH.cons (o := Go.Oper.mk (some 83) _ _ _ _ _) rfl (fun K hK => ?_) AllReadyH.nil
                  go_simp
                  go_at_call 16
                  refine (hln _ _ _ _ (h3.chg0 (Chg.refl _ _).drew)).mono ?_
                  rintro r8 w8 ⟨rfl, hC8⟩
                  refine hK.out _ _ (hgen _ (h3.chg.trans ((Chg.refl _ _).drew.trans hC8))) (fun hHeld2 => ?_)
                  clear hK K hHeld
                  try simp only [Act.put, List.setIfInBounds_toArray, List.set_cons_zero, List.set_cons_succ]
                  refine wpAnyH_take (i := 6) (oi := Go.Oper.mk (some 86) _ _ _ _ _) (v := ?_) rfl (by kernel_rfl) (by kernel_rfl) (by kernel_rfl) (fun _ _ _ h => h) (Or.inl ⟨by kernel_rfl, ?_⟩) (by assumption) ?_
                  rotate_left
                  · intro w hSw
                    try dsimp only at hSw
                    go_simp
                    try with_reducible rfl
                  try simp only [Act.put, List.setIfInBounds_toArray, List.set_cons_zero, List.set_cons_succ]
                  refine wpAnyH_take (i := 7) (oi := Go.Oper.mk (some 87) _ _ _ _ _) (v := ?_) rfl (by kernel_rfl) (by kernel_rfl) (by kernel_rfl) (fun _ _ _ h => h) (Or.inl ⟨by kernel_rfl, ?_⟩) (by assumption) ?_
                  rotate_left
                  · intro w hSw
                    try dsimp only at hSw
                    go_simp
                    try with_reducible rfl
                  try simp only [Act.put, List.setIfInBounds_toArray, List.set_cons_zero, List.set_cons_succ]
                  refine wpAnyH_take (i := 8) (oi := Go.Oper.mk (some 88) _ _ _ _ _) (v := undef) rfl (by kernel_rfl) (by kernel_rfl) (by kernel_rfl) (fun _ _ _ h => h) (Or.inr ⟨by kernel_rfl, rfl⟩) (by assumption) ?_
                  try simp only [Act.put, List.setIfInBounds_toArray, List.set_cons_zero, List.set_cons_succ]
                  refine wpAnyH_take (i := 9) (oi := Go.Oper.mk (some 89) _ _ _ _ _) (v := undef) rfl (by kernel_rfl) (by kernel_rfl) (by kernel_rfl) (fun _ _ _ h => h) (Or.inr ⟨by kernel_rfl, rfl⟩) (by assumption) ?_
                  try simp only [Act.put, List.setIfInBounds_toArray, List.set_cons_zero, List.set_cons_succ]
                  refine wpAnyH_take (i := 10) (oi := Go.Oper.mk (some 90) _ _ _ _ _) (v := undef) rfl (by kernel_rfl) (by kernel_rfl) (by kernel_rfl) (fun _ _ _ h => h) (Or.inr ⟨by kernel_rfl, rfl⟩) (by assumption) ?_
                  try simp only [Act.put, List.setIfInBounds_toArray, List.set_cons_zero, List.set_cons_succ]
                  refine wpAnyH_take (i := 11) (oi := Go.Oper.mk (some 91) _ _ _ _ _) (v := undef) rfl (by kernel_rfl) (by kernel_rfl) (by kernel_rfl) (fun _ _ _ h => h) (Or.inr ⟨by kernel_rfl, rfl⟩) (by assumption) ?_
                  try simp only [Act.put, List.setIfInBounds_toArray, List.set_cons_zero, List.set_cons_succ]
                  refine wpAnyH_take (i := 12) (oi := Go.Oper.mk (some 92) _ _ _ _ _) (v := undef) rfl (by kernel_rfl) (by kernel_rfl) (by kernel_rfl) (fun _ _ _ h => h) (Or.inr ⟨by kernel_rfl, rfl⟩) (by assumption) ?_
                  try simp only [Act.put, List.setIfInBounds_toArray, List.set_cons_zero, List.set_cons_succ]
                  refine wpAnyH_take (i := 13) (oi := Go.Oper.mk (some 93) _ _ _ _ _) (v := ?_) rfl (by kernel_rfl) (by kernel_rfl) (by kernel_rfl) (fun _ _ _ h => h) (Or.inl ⟨by kernel_rfl, ?_⟩) (by assumption) ?_
                  rotate_left
                  · intro w hSw
                    try dsimp only at hSw
                    go_simp
                    try with_reducible rfl
                  try simp only [Act.put, List.setIfInBounds_toArray, List.set_cons_zero, List.set_cons_succ]
                  refine wpAnyH_take (i := 14) (oi := Go.Oper.mk (some 94) _ _ _ _ _) (v := ?_) rfl (by kernel_rfl) (by kernel_rfl) (by kernel_rfl) (fun _ _ _ h => h) (Or.inl ⟨by kernel_rfl, ?_⟩) (by assumption) ?_
                  rotate_left
                  · intro w hSw
                    try dsimp only at hSw
                    go_simp
                    try with_reducible rfl
                  try simp only [Act.put, List.setIfInBounds_toArray, List.set_cons_zero, List.set_cons_succ]
                  refine wpAnyH_take (i := 15) (oi := Go.Oper.mk (some 17) _ _ _ _ _) (v := ?_) rfl (by kernel_rfl) (by kernel_rfl) (by kernel_rfl) (fun _ _ _ h => h) (Or.inl ⟨by kernel_rfl, ?_⟩) (by assumption) ?_
                  rotate_left
                  · intro w hSw
                    try dsimp only at hSw
                    go_simp
                    try with_reducible rfl
                  try simp only [Act.put, List.setIfInBounds_toArray, List.set_cons_zero, List.set_cons_succ]
                  refine wpAnyH_done (by kernel_rfl) ?_ _
                  clear hHeld2
                  have h8 := h3.chg0 ((Chg.refl _ _).drew.trans hC8)
                  go_wp2_with fail
                  go_roundg (min n 100 - (i + 1))
                  case measure => omega
                  case rel => exact ⟨i + 1, z3, _, _, rfl, int_eq (by omega), rfl, by omega, h8⟩
                | false =>
                  unfold encZ
                  simp only [Bool.false_eq_true, if_false, if_true]
                  have hec := fun W z es is (h : Ow wb W b z es is E M) => ow_encoding h
                  have hln := fun W z es is (h : Ow wb W b z es is E M) => ow_len h
                  unfold pt at hec hln
                  go_wp2_with (first | (go_at_call 12; refine (hna _).mono ?_; rintro r9 w9 ⟨rfl, rfl⟩) | (go_at_call 13; refine (hadd _ (hOH.out.chg0 ((Chg.refl _ wr).alloc _))).mono ?_; rintro r9 w3 ⟨rfl, z3, h3, _⟩) | (go_at_call 15; refine (hec _ _ _ _ h3).mono ?_; rintro r9 w4 ⟨rfl, rfl⟩; unfold encZ; simp only [Bool.false_eq_true, if_false, if_true]) | fail)
                  refine wp_region_held_drew (S := fun W' => W'.cell? ⟨w.heap.size, 0, none⟩ = some (.int .i64 (E : Int)) ∧ W'.cell? ⟨w.heap.size, 1, none⟩ = some (.int .i64 (M : Int))) (by kernel_rfl) (hgen _ (h3.chg.trans (Chg.refl _ _).drew)) (fun hHeld => ?_)
                  refine wpAnyH_take (i := 0) (oi := Go.Oper.mk (some 80) _ _ _ _ _) (v := ?_) rfl (by kernel_rfl) (by kernel_rfl) (by kernel_rfl) (fun _ _ _ h => h) (Or.inl ⟨by kernel_rfl, ?_⟩) (by assumption) ?_
                  rotate_left
                  · intro w hSw
                    try dsimp only at hSw
                    go_simp
                    try with_reducible rfl
                  try simp only [Act.put, List.setIfInBounds_toArray, List.set_cons_zero, List.set_cons_succ]
                  refine wpAnyH_take (i := 1) (oi := Go.Oper.mk (some 81) _ _ _ _ _) (v := ?_) rfl (by kernel_rfl) (by kernel_rfl) (by kernel_rfl) (fun _ _ _ h => h) (Or.inl ⟨by kernel_rfl, ?_⟩) (by assumption) ?_
                  rotate_left
                  · intro w hSw
                    try dsimp only at hSw
                    go_simp
                    try with_reducible rfl
                  try simp only [Act.put, List.setIfInBounds_toArray, List.set_cons_zero, List.set_cons_succ]
                  refine wpAnyH_take (i := 2) (oi := Go.Oper.mk (some 82) _ _ _ _ _) (v := ?_) rfl (by kernel_rfl) (by kernel_rfl) (by kernel_rfl) (fun _ _ _ h => h) (Or.inl ⟨by kernel_rfl, ?_⟩) (by assumption) ?_
                  rotate_left
                  · intro w hSw
                    try dsimp only at hSw
                    go_simp
                    try with_reducible rfl
                  try simp only [Act.put, List.setIfInBounds_toArray, List.set_cons_zero, List.set_cons_succ]
                  refine wpAnyH_take (i := 4) (oi := Go.Oper.mk (some 84) _ _ _ _ _) (v := ?_) rfl (by kernel_rfl) (by kernel_rfl) (by kernel_rfl) (fun _ _ _ h => h) (Or.inl ⟨by kernel_rfl, ?_⟩) (by assumption) ?_
                  rotate_left
                  · intro w hSw
                    try dsimp only at hSw
                    go_simp
                    try with_reducible rfl
                  try simp only [Act.put, List.setIfInBounds_toArray, List.set_cons_zero, List.set_cons_succ]
                  refine wpAnyH_take (i := 5) (oi := Go.Oper.mk (some 85) _ _ _ _ _) (v := ?_) rfl (by kernel_rfl) (by kernel_rfl) (by kernel_rfl) (fun _ _ _ h => h) (Or.inl ⟨by kernel_rfl, ?_⟩) (by assumption) ?_
                  rotate_left
                  · intro w hSw
                    try dsimp only at hSw
                    go_simp
                    try with_reducible rfl
                  try simp only [Act.put, List.setIfInBounds_toArray, List.set_cons_zero, List.set_cons_succ]
                  refine wpAnyH_ready (rs := [3]) (by kernel_rfl) (by simp) ?_
                  refine AllReadyH.cons (o := Go.Oper.mk (some 83) _ _ _ _ _) rfl (fun K hK => ?_) AllReadyH.nil
                  go_simp
                  go_at_call 16
                  refine (hln _ _ _ _ (h3.chg0 (Chg.refl _ _).drew)).mono ?_
                  rintro r8 w8 ⟨rfl, hC8⟩
                  refine hK.out _ _ (hgen _ (h3.chg.trans ((Chg.refl _ _).drew.trans hC8))) (fun hHeld2 => ?_)
                  clear hK K hHeld
                  try simp only [Act.put, List.setIfInBounds_toArray, List.set_cons_zero, List.set_cons_succ]
                  refine wpAnyH_take (i := 6) (oi := Go.Oper.mk (some 86) _ _ _ _ _) (v := ?_) rfl (by kernel_rfl) (by kernel_rfl) (by kernel_rfl) (fun _ _ _ h => h) (Or.inl ⟨by kernel_rfl, ?_⟩) (by assumption) ?_
                  rotate_left
                  · intro w hSw
                    try dsimp only at hSw
                    go_simp
                    try with_reducible rfl
                  try simp only [Act.put, List.setIfInBounds_toArray, List.set_cons_zero, List.set_cons_succ]
                  refine wpAnyH_take (i := 7) (oi := Go.Oper.mk (some 87) _ _ _ _ _) (v := ?_) rfl (by kernel_rfl) (by kernel_rfl) (by kernel_rfl) (fun _ _ _ h => h) (Or.inl ⟨by kernel_rfl, ?_⟩) (by assumption) ?_
                  rotate_left
                  · intro w hSw
                    try dsimp only at hSw
                    go_simp
                    try with_reducible rfl
                  try simp only [Act.put, List.setIfInBounds_toArray, List.set_cons_zero, List.set_cons_succ]
                  refine wpAnyH_take (i := 8) (oi := Go.Oper.mk (some 88) _ _ _ _ _) (v := undef) rfl (by kernel_rfl) (by kernel_rfl) (by kernel_rfl) (fun _ _ _ h => h) (Or.inr ⟨by kernel_rfl, rfl⟩) (by assumption) ?_
                  try simp only [Act.put, List.setIfInBounds_toArray, List.set_cons_zero, List.set_cons_succ]
                  refine wpAnyH_take (i := 9) (oi := Go.Oper.mk (some 89) _ _ _ _ _) (v := undef) rfl (by kernel_rfl) (by kernel_rfl) (by kernel_rfl) (fun _ _ _ h => h) (Or.inr ⟨by kernel_rfl, rfl⟩) (by assumption) ?_
                  try simp only [Act.put, List.setIfInBounds_toArray, List.set_cons_zero, List.set_cons_succ]
                  refine wpAnyH_take (i := 10) (oi := Go.Oper.mk (some 90) _ _ _ _ _) (v := undef) rfl (by kernel_rfl) (by kernel_rfl) (by kernel_rfl) (fun _ _ _ h => h) (Or.inr ⟨by kernel_rfl, rfl⟩) (by assumption) ?_
                  try simp only [Act.put, List.setIfInBounds_toArray, List.set_cons_zero, List.set_cons_succ]
                  refine wpAnyH_take (i := 11) (oi := Go.Oper.mk (some 91) _ _ _ _ _) (v := undef) rfl (by kernel_rfl) (by kernel_rfl) (by kernel_rfl) (fun _ _ _ h => h) (Or.inr ⟨by kernel_rfl, rfl⟩) (by assumption) ?_
                  try simp only [Act.put, List.setIfInBounds_toArray, List.set_cons_zero, List.set_cons_succ]
                  refine wpAnyH_take (i := 12) (oi := Go.Oper.mk (some 92) _ _ _ _ _) (v := undef) rfl (by kernel_rfl) (by kernel_rfl) (by kernel_rfl) (fun _ _ _ h => h) (Or.inr ⟨by kernel_rfl, rfl⟩) (by assumption) ?_
                  try simp only [Act.put, List.setIfInBounds_toArray, List.set_cons_zero, List.set_cons_succ]
                  refine wpAnyH_take (i := 13) (oi := Go.Oper.mk (some 93) _ _ _ _ _) (v := ?_) rfl (by kernel_rfl) (by kernel_rfl) (by kernel_rfl) (fun _ _ _ h => h) (Or.inl ⟨by kernel_rfl, ?_⟩) (by assumption) ?_
                  rotate_left
                  · intro w hSw
                    try dsimp only at hSw
                    go_simp
                    try with_reducible rfl
                  try simp only [Act.put, List.setIfInBounds_toArray, List.set_cons_zero, List.set_cons_succ]
                  refine wpAnyH_take (i := 14) (oi := Go.Oper.mk (some 94) _ _ _ _ _) (v := ?_) rfl (by kernel_rfl) (by kernel_rfl) (by kernel_rfl) (fun _ _ _ h => h) (Or.inl ⟨by kernel_rfl, ?_⟩) (by assumption) ?_
                  rotate_left
                  · intro w hSw
                    try dsimp only at hSw
                    go_simp
                    try with_reducible rfl
                  try simp only [Act.put, List.setIfInBounds_toArray, List.set_cons_zero, List.set_cons_succ]
                  refine wpAnyH_take (i := 15) (oi := Go.Oper.mk (some 17) _ _ _ _ _) (v := ?_) rfl (by kernel_rfl) (by kernel_rfl) (by kernel_rfl) (fun _ _ _ h => h) (Or.inl ⟨by kernel_rfl, ?_⟩) (by assumption) ?_
                  rotate_left
                  · intro w hSw
                    try dsimp only at hSw
                    go_simp
                    try with_reducible rfl
                  try simp only [Act.put, List.setIfInBounds_toArray, List.set_cons_zero, List.set_cons_succ]
                  refine wpAnyH_done (by kernel_rfl) ?_ _
                  clear hHeld2
                  have h8 := h3.chg0 ((Chg.refl _ _).drew.trans hC8)
                  go_wp2_with fail
                  go_roundg (min n 100 - (i + 1))
                  case measure => omega
                  case rel => exact ⟨i + 1, z3, _, _, rfl, int_eq (by omega), rfl, by omega, h8⟩
              · by_cases c2 : M < m.size
                · have hb : decide (E < es'.length ∨ M < m.size) = true := decide_eq_true (.inr c2)
                  rw [hb] at hadd
                  simp only [Bool.or_true] at hadd
                  have c1' : ¬ (E : Int) < (es'.length : Int) := by omega
                  have c1d : decide ((E : Int) < (es'.length : Int)) = false := decide_eq_false c1'
                  have c1n : decide (E < es'.length) = false := decide_eq_false c1
                  have c2' : (M : Int) < (m.size : Int) := by omega
                  have c2d : decide ((M : Int) < (m.size : Int)) = true := decide_eq_true c2'
                  have c2n : decide (M < m.size) = true := decide_eq_true c2
                  clear hb
                  cases is with
                  | true =>
                    unfold encZ
                    simp only [Bool.false_eq_true, if_false, if_true]
                    have hec := fun W z es is (h : Ow wb W b z es is E M) => ow_encoding h
                    have hln := fun W z es is (h : Ow wb W b z es is E M) => ow_len h
                    unfold pt at hec hln
                    go_wp2_with (first | (go_at_call 12; refine (hna _).mono ?_; rintro r9 w9 ⟨rfl, rfl⟩) | (go_at_call 13; refine (hadd _ (hOH.out.chg0 ((Chg.refl _ wr).alloc _))).mono ?_; rintro r9 w3 ⟨rfl, z3, h3, _⟩) | (go_at_call 15; refine (hec _ _ _ _ h3).mono ?_; rintro r9 w4 ⟨rfl, rfl⟩; unfold encZ; simp only [Bool.false_eq_true, if_false, if_true]) | fail)
                    refine wp_region_held_drew (S := fun W' => W'.cell? ⟨w.heap.size, 0, none⟩ = some (.int .i64 (E : Int)) ∧ W'.cell? ⟨w.heap.size, 1, none⟩ = some (.int .i64 (M : Int))) (by kernel_rfl) (hgen _ (h3.chg.trans (Chg.refl _ _).drew)) (fun hHeld => ?_)
                    refine wpAnyH_take (i := 0) (oi := Go.Oper.mk (some 80) _ _ _ _ _) (v := ?_) rfl (by kernel_rfl) (by kernel_rfl) (by kernel_rfl) (fun _ _ _ h => h) (Or.inl ⟨by kernel_rfl, ?_⟩) (by assumption) ?_
                    rotate_left
                    · intro w hSw
                      try dsimp only at hSw
                      go_simp
                      try with_reducible rfl
                    try simp only [Act.put, List.setIfInBounds_toArray, List.set_cons_zero, List.set_cons_succ]
                    refine wpAnyH_take (i := 1) (oi := Go.Oper.mk (some 81) _ _ _ _ _) (v := ?_) rfl (by kernel_rfl) (by kernel_rfl) (by kernel_rfl) (fun _ _ _ h => h) (Or.inl ⟨by kernel_rfl, ?_⟩) (by assumption) ?_
                    rotate_left
                    · intro w hSw
                      try dsimp only at hSw
                      go_simp
                      try with_reducible rfl
                    try simp only [Act.put, List.setIfInBounds_toArray, List.set_cons_zero, List.set_cons_succ]
                    refine wpAnyH_take (i := 2) (oi := Go.Oper.mk (some 82) _ _ _ _ _) (v := ?_) rfl (by kernel_rfl) (by kernel_rfl) (by kernel_rfl) (fun _ _ _ h => h) (Or.inl ⟨by kernel_rfl, ?_⟩) (by assumption) ?_
                    rotate_left
                    · intro w hSw
                      try dsimp only at hSw
                      go_simp
                      try with_reducible rfl
                    try simp only [Act.put, List.setIfInBounds_toArray, List.set_cons_zero, List.set_cons_succ]
                    refine wpAnyH_take (i := 4) (oi := Go.Oper.mk (some 84) _ _ _ _ _) (v := ?_) rfl (by kernel_rfl) (by kernel_rfl) (by kernel_rfl) (fun _ _ _ h => h) (Or.inl ⟨by kernel_rfl, ?_⟩) (by assumption) ?_
                    rotate_left
                    · intro w hSw
                      try dsimp only at hSw
                      go_simp
                      try with_reducible rfl
                    try simp only [Act.put, List.setIfInBounds_toArray, List.set_cons_zero, List.set_cons_succ]
                    refine wpAnyH_take (i := 5) (oi := Go.Oper.mk (some 85) _ _ _ _ _) (v := ?_) rfl (by kernel_rfl) (by kernel_rfl) (by kernel_rfl) (fun _ _ _ h => h) (Or.inl ⟨by kernel_rfl, ?_⟩) (by assumption) ?_
                    rotate_left
                    · intro w hSw
                      try dsimp only at hSw
                      go_simp
                      try with_reducible rfl
                    try simp only [Act.put, List.setIfInBounds_toArray, List.set_cons_zero, List.set_cons_succ]
                    refine wpAnyH_ready (rs := [3]) (by kernel_rfl) (by simp) ?_
                    refine AllReadyH.cons (o := Go.Oper.mk (some 83) _ _ _ _ _) rfl (fun K hK => ?_) AllReadyH.nil
                    go_simp
                    go_at_call 16
                    refine (hln _ _ _ _ (h3.chg0 (Chg.refl _ _).drew)).mono ?_
                    rintro r8 w8 ⟨rfl, hC8⟩
                    refine hK.out _ _ (hgen _ (h3.chg.trans ((Chg.refl _ _).drew.trans hC8))) (fun hHeld2 => ?_)
                    clear hK K hHeld
                    try simp only [Act.put, List.setIfInBounds_toArray, List.set_cons_zero, List.set_cons_succ]
                    refine wpAnyH_take (i := 6) (oi := Go.Oper.mk (some 86) _ _ _ _ _) (v := ?_) rfl (by kernel_rfl) (by kernel_rfl) (by kernel_rfl) (fun _ _ _ h => h) (Or.inl ⟨by kernel_rfl, ?_⟩) (by assumption) ?_
                    rotate_left
                    · intro w hSw
                      try dsimp only at hSw
                      go_simp
                      try with_reducible rfl
                    try simp only [Act.put, List.setIfInBounds_toArray, List.set_cons_zero, List.set_cons_succ]
                    refine wpAnyH_take (i := 7) (oi := Go.Oper.mk (some 87) _ _ _ _ _) (v := ?_) rfl (by kernel_rfl) (by kernel_rfl) (by kernel_rfl) (fun _ _ _ h => h) (Or.inl ⟨by kernel_rfl, ?_⟩) (by assumption) ?_
                    rotate_left
                    · intro w hSw
                      try dsimp only at hSw
                      go_simp
                      try with_reducible rfl
                    try simp only [Act.put, List.setIfInBounds_toArray, List.set_cons_zero, List.set_cons_succ]
                    refine wpAnyH_take (i := 8) (oi := Go.Oper.mk (some 88) _ _ _ _ _) (v := ?_) rfl (by kernel_rfl) (by kernel_rfl) (by kernel_rfl) (fun _ _ _ h => h) (Or.inl ⟨by kernel_rfl, ?_⟩) (by assumption) ?_
                    rotate_left
                    · intro w hSw
                      try dsimp only at hSw
                      go_simp
                      try with_reducible rfl
                    try simp only [Act.put, List.setIfInBounds_toArray, List.set_cons_zero, List.set_cons_succ]
                    refine wpAnyH_take (i := 9) (oi := Go.Oper.mk (some 89) _ _ _ _ _) (v := ?_) rfl (by kernel_rfl) (by kernel_rfl) (by kernel_rfl) (fun _ _ _ h => h) (Or.inl ⟨by kernel_rfl, ?_⟩) (by assumption) ?_
                    rotate_left
                    · intro w hSw
                      try dsimp only at hSw
                      go_simp
                      try with_reducible rfl
                    try simp only [Act.put, List.setIfInBounds_toArray, List.set_cons_zero, List.set_cons_succ]
                    refine wpAnyH_take (i := 10) (oi := Go.Oper.mk (some 90) _ _ _ _ _) (v := ?_) rfl (by kernel_rfl) (by kernel_rfl) (by kernel_rfl) (fun _ _ _ h => h) (Or.inl ⟨by kernel_rfl, ?_⟩) (by assumption) ?_
                    rotate_left
                    · intro w hSw
                      try dsimp only at hSw
                      go_simp
                      try with_reducible rfl
                    try simp only [Act.put, List.setIfInBounds_toArray, List.set_cons_zero, List.set_cons_succ]
                    refine wpAnyH_take (i := 11) (oi := Go.Oper.mk (some 91) _ _ _ _ _) (v := ?_) rfl (by kernel_rfl) (by kernel_rfl) (by kernel_rfl) (fun _ _ _ h => h) (Or.inl ⟨by kernel_rfl, ?_⟩) (by assumption) ?_
                    rotate_left
                    · intro w hSw
                      try dsimp only at hSw
                      go_simp
                      try with_reducible rfl
                    try simp only [Act.put, List.setIfInBounds_toArray, List.set_cons_zero, List.set_cons_succ]
                    refine wpAnyH_take (i := 12) (oi := Go.Oper.mk (some 92) _ _ _ _ _) (v := ?_) rfl (by kernel_rfl) (by kernel_rfl) (by kernel_rfl) (fun _ _ _ h => h) (Or.inl ⟨by kernel_rfl, ?_⟩) (by assumption) ?_
                    rotate_left
                    · intro w hSw
                      try dsimp only at hSw
                      go_simp
                      try with_reducible rfl
                    try simp only [Act.put, List.setIfInBounds_toArray, List.set_cons_zero, List.set_cons_succ]
                    refine wpAnyH_take (i := 13) (oi := Go.Oper.mk (some 93) _ _ _ _ _) (v := ?_) rfl (by kernel_rfl) (by kernel_rfl) (by kernel_rfl) (fun _ _ _ h => h) (Or.inl ⟨by kernel_rfl, ?_⟩) (by assumption) ?_
                    rotate_left
                    · intro w hSw
                      try dsimp only at hSw
                      go_simp
                      try with_reducible rfl
                    try simp only [Act.put, List.setIfInBounds_toArray, List.set_cons_zero, List.set_cons_succ]
                    refine wpAnyH_take (i := 14) (oi := Go.Oper.mk (some 94) _ _ _ _ _) (v := ?_) rfl (by kernel_rfl) (by kernel_rfl) (by kernel_rfl) (fun _ _ _ h => h) (Or.inl ⟨by kernel_rfl, ?_⟩) (by assumption) ?_
                    rotate_left
                    · intro w hSw
                      try dsimp only at hSw
                      go_simp
                      try with_reducible rfl
                    try simp only [Act.put, List.setIfInBounds_toArray, List.set_cons_zero, List.set_cons_succ]
                    refine wpAnyH_take (i := 15) (oi := Go.Oper.mk (some 17) _ _ _ _ _) (v := ?_) rfl (by kernel_rfl) (by kernel_rfl) (by kernel_rfl) (fun _ _ _ h => h) (Or.inl ⟨by kernel_rfl, ?_⟩) (by assumption) ?_
                    rotate_left
                    · intro w hSw
                      try dsimp only at hSw
                      go_simp
                      try with_reducible rfl
                    try simp only [Act.put, List.setIfInBounds_toArray, List.set_cons_zero, List.set_cons_succ]
                    refine wpAnyH_done (by kernel_rfl) ?_ _
                    clear hHeld2
                    have h8 := h3.chg0 ((Chg.refl _ _).drew.trans hC8)
                    go_wp2_with fail
                    go_roundg (min n 100 - (i + 1))
                    case measure => omega
                    case rel => exact ⟨i + 1, z3, _, _, rfl, int_eq (by omega), rfl, by omega, h8⟩
                  | false =>
                    unfold encZ
                    simp only [Bool.false_eq_true, if_false, if_true]
                    have hec := fun W z es is (h : Ow wb W b z es is E M) => ow_encoding h
                    have hln := fun W z es is (h : Ow wb W b z es is E M) => ow_len h
                    unfold pt at hec hln
                    go_wp2_with (first | (go_at_call 12; refine (hna _).mono ?_; rintro r9 w9 ⟨rfl, rfl⟩) | (go_at_call 13; refine (hadd _ (hOH.out.chg0 ((Chg.refl _ wr).alloc _))).mono ?_; rintro r9 w3 ⟨rfl, z3, h3, _⟩) | (go_at_call 15; refine (hec _ _ _ _ h3).mono ?_; rintro r9 w4 ⟨rfl, rfl⟩; unfold encZ; simp only [Bool.false_eq_true, if_false, if_true]) | fail)
                    refine wp_region_held_drew (S := fun W' => W'.cell? ⟨w.heap.size, 0, none⟩ = some (.int .i64 (E : Int)) ∧ W'.cell? ⟨w.heap.size, 1, none⟩ = some (.int .i64 (M : Int))) (by kernel_rfl) (hgen _ (h3.chg.trans (Chg.refl _ _).drew)) (fun hHeld => ?_)
                    refine wpAnyH_take (i := 0) (oi := Go.Oper.mk (some 80) _ _ _ _ _) (v := ?_) rfl (by kernel_rfl) (by kernel_rfl) (by kernel_rfl) (fun _ _ _ h => h) (Or.inl ⟨by kernel_rfl, ?_⟩) (by assumption) ?_
                    rotate_left
                    · intro w hSw
                      try dsimp only at hSw
                      go_simp
                      try with_reducible rfl
                    try simp only [Act.put, List.setIfInBounds_toArray, List.set_cons_zero, List.set_cons_succ]
                    refine wpAnyH_take (i := 1) (oi := Go.Oper.mk (some 81) _ _ _ _ _) (v := ?_) rfl (by kernel_rfl) (by kernel_rfl) (by kernel_rfl) (fun _ _ _ h => h) (Or.inl ⟨by kernel_rfl, ?_⟩) (by assumption) ?_
                    rotate_left
                    · intro w hSw
                      try dsimp only at hSw
                      go_simp
                      try with_reducible rfl
                    try simp only [Act.put, List.setIfInBounds_toArray, List.set_cons_zero, List.set_cons_succ]
                    refine wpAnyH_take (i := 2) (oi := Go.Oper.mk (some 82) _ _ _ _ _) (v := ?_) rfl (by kernel_rfl) (by kernel_rfl) (by kernel_rfl) (fun _ _ _ h => h) (Or.inl ⟨by kernel_rfl, ?_⟩) (by assumption) ?_
                    rotate_left
                    · intro w hSw
                      try dsimp only at hSw
                      go_simp
                      try with_reducible rfl
                    try simp only [Act.put, List.setIfInBounds_toArray, List.set_cons_zero, List.set_cons_succ]
                    refine wpAnyH_take (i := 4) (oi := Go.Oper.mk (some 84) _ _ _ _ _) (v := ?_) rfl (by kernel_rfl) (by kernel_rfl) (by kernel_rfl) (fun _ _ _ h => h) (Or.inl ⟨by kernel_rfl, ?_⟩) (by assumption) ?_
                    rotate_left
                    · intro w hSw
                      try dsimp only at hSw
                      go_simp
                      try with_reducible rfl
                    try simp only [Act.put, List.setIfInBounds_toArray, List.set_cons_zero, List.set_cons_succ]
                    refine wpAnyH_take (i := 5) (oi := Go.Oper.mk (some 85) _ _ _ _ _) (v := ?_) rfl (by kernel_rfl) (by kernel_rfl) (by kernel_rfl) (fun _ _ _ h => h) (Or.inl ⟨by kernel_rfl, ?_⟩) (by assumption) ?_
                    rotate_left
                    · intro w hSw
                      try dsimp only at hSw
                      go_simp
                      try with_reducible rfl
                    try simp only [Act.put, List.setIfInBounds_toArray, List.set_cons_zero, List.set_cons_succ]
                    refine wpAnyH_ready (rs := [3]) (by kernel_rfl) (by simp) ?_
                    refine AllReadyH.cons (o := Go.Oper.mk (some 83) _ _ _ _ _) rfl (fun K hK => ?_) AllReadyH.nil
                    go_simp
                    go_at_call 16
                    refine (hln _ _ _ _ (h3.chg0 (Chg.refl _ _).drew)).mono ?_
                    rintro r8 w8 ⟨rfl, hC8⟩
                    refine hK.out _ _ (hgen _ (h3.chg.trans ((Chg.refl _ _).drew.trans hC8))) (fun hHeld2 => ?_)
                    clear hK K hHeld
                    try simp only [Act.put, List.setIfInBounds_toArray, List.set_cons_zero, List.set_cons_succ]
                    refine wpAnyH_take (i := 6) (oi := Go.Oper.mk (some 86) _ _ _ _ _) (v := ?_) rfl (by kernel_rfl) (by kernel_rfl) (by kernel_rfl) (fun _ _ _ h => h) (Or.inl ⟨by kernel_rfl, ?_⟩) (by assumption) ?_
                    rotate_left
                    · intro w hSw
                      try dsimp only at hSw
                      go_simp
                      try with_reducible rfl
                    try simp only [Act.put, List.setIfInBounds_toArray, List.set_cons_zero, List.set_cons_succ]
                    refine wpAnyH_take (i := 7) (oi := Go.Oper.mk (some 87) _ _ _ _ _) (v := ?_) rfl (by kernel_rfl) (by kernel_rfl) (by kernel_rfl) (fun _ _ _ h => h) (Or.inl ⟨by kernel_rfl, ?_⟩) (by assumption) ?_
                    rotate_left
                    · intro w hSw
                      try dsimp only at hSw
                      go_simp
                      try with_reducible rfl
                    try simp only [Act.put, List.setIfInBounds_toArray, List.set_cons_zero, List.set_cons_succ]
                    refine wpAnyH_take (i := 8) (oi := Go.Oper.mk (some 88) _ _ _ _ _) (v := ?_) rfl (by kernel_rfl) (by kernel_rfl) (by kernel_rfl) (fun _ _ _ h => h) (Or.inl ⟨by kernel_rfl, ?_⟩) (by assumption) ?_
                    rotate_left
                    · intro w hSw
                      try dsimp only at hSw
                      go_simp
                      try with_reducible rfl
                    try simp only [Act.put, List.setIfInBounds_toArray, List.set_cons_zero, List.set_cons_succ]
                    refine wpAnyH_take (i := 9) (oi := Go.Oper.mk (some 89) _ _ _ _ _) (v := ?_) rfl (by kernel_rfl) (by kernel_rfl) (by kernel_rfl) (fun _ _ _ h => h) (Or.inl ⟨by kernel_rfl, ?_⟩) (by assumption) ?_
                    rotate_left
                    · intro w hSw
                      try dsimp only at hSw
                      go_simp
                      try with_reducible rfl
                    try simp only [Act.put, List.setIfInBounds_toArray, List.set_cons_zero, List.set_cons_succ]
                    refine wpAnyH_take (i := 10) (oi := Go.Oper.mk (some 90) _ _ _ _ _) (v := ?_) rfl (by kernel_rfl) (by kernel_rfl) (by kernel_rfl) (fun _ _ _ h => h) (Or.inl ⟨by kernel_rfl, ?_⟩) (by assumption) ?_
                    rotate_left
                    · intro w hSw
                      try dsimp only at hSw
                      go_simp
                      try with_reducible rfl
                    try simp only [Act.put, List.setIfInBounds_toArray, List.set_cons_zero, List.set_cons_succ]
                    refine wpAnyH_take (i := 11) (oi := Go.Oper.mk (some 91) _ _ _ _ _) (v := ?_) rfl (by kernel_rfl) (by kernel_rfl) (by kernel_rfl) (fun _ _ _ h => h) (Or.inl ⟨by kernel_rfl, ?_⟩) (by assumption) ?_
                    rotate_left
                    · intro w hSw
                      try dsimp only at hSw
                      go_simp
                      try with_reducible rfl
                    try simp only [Act.put, List.setIfInBounds_toArray, List.set_cons_zero, List.set_cons_succ]
                    refine wpAnyH_take (i := 12) (oi := Go.Oper.mk (some 92) _ _ _ _ _) (v := ?_) rfl (by kernel_rfl) (by kernel_rfl) (by kernel_rfl) (fun _ _ _ h => h) (Or.inl ⟨by kernel_rfl, ?_⟩) (by assumption) ?_
                    rotate_left
                    · intro w hSw
                      try dsimp only at hSw
                      go_simp
                      try with_reducible rfl
                    try simp only [Act.put, List.setIfInBounds_toArray, List.set_cons_zero, List.set_cons_succ]
                    refine wpAnyH_take (i := 13) (oi := Go.Oper.mk (some 93) _ _ _ _ _) (v := ?_) rfl (by kernel_rfl) (by kernel_rfl) (by kernel_rfl) (fun _ _ _ h => h) (Or.inl ⟨by kernel_rfl, ?_⟩) (by assumption) ?_
                    rotate_left
                    · intro w hSw
                      try dsimp only at hSw
                      go_simp
                      try with_reducible rfl
                    try simp only [Act.put, List.setIfInBounds_toArray, List.set_cons_zero, List.set_cons_succ]
                    refine wpAnyH_take (i := 14) (oi := Go.Oper.mk (some 94) _ _ _ _ _) (v := ?_) rfl (by kernel_rfl) (by kernel_rfl) (by kernel_rfl) (fun _ _ _ h => h) (Or.inl ⟨by kernel_rfl, ?_⟩) (by assumption) ?_
                    rotate_left
                    · intro w hSw
                      try dsimp only at hSw
                      go_simp
                      try with_reducible rfl
                    try simp only [Act.put, List.setIfInBounds_toArray, List.set_cons_zero, List.set_cons_succ]
                    refine wpAnyH_take (i := 15) (oi := Go.Oper.mk (some 17) _ _ _ _ _) (v := ?_) rfl (by kernel_rfl) (by kernel_rfl) (by kernel_rfl) (fun _ _ _ h => h) (Or.inl ⟨by kernel_rfl, ?_⟩) (by assumption) ?_
                    rotate_left
                    · intro w hSw
                      try dsimp only at hSw
                      go_simp
                      try with_reducible rfl
                    try simp only [Act.put, List.setIfInBounds_toArray, List.set_cons_zero, List.set_cons_succ]
                    refine wpAnyH_done (by kernel_rfl) ?_ _
                    clear hHeld2
                    have h8 := h3.chg0 ((Chg.refl _ _).drew.trans hC8)
                    go_wp2_with fail
                    go_roundg (min n 100 - (i + 1))
                    case measure => omega
                    case rel => exact ⟨i + 1, z3, _, _, rfl, int_eq (by omega), rfl, by omega, h8⟩
                · have hb : decide (E < es'.length ∨ M < m.size) = false := decide_eq_false (by omega)
                  rw [hb] at hadd
                  simp only [Bool.or_false] at hadd
                  have c1' : ¬ (E : Int) < (es'.length : Int) := by omega
                  have c1d : decide ((E : Int) < (es'.length : Int)) = false := decide_eq_false c1'
                  have c1n : decide (E < es'.length) = false := decide_eq_false c1
                  have c2' : ¬ (M : Int) < (m.size : Int) := by omega
                  have c2d : decide ((M : Int) < (m.size : Int)) = false := decide_eq_false c2'
                  have c2n : decide (M < m.size) = false := decide_eq_false c2
                  clear hb
                  cases is with
                  | true =>
                    unfold encZ
                    simp only [Bool.false_eq_true, if_false, if_true]
                    have hec := fun W z es is (h : Ow wb W b z es is E M) => ow_encoding h
                    have hln := fun W z es is (h : Ow wb W b z es is E M) => ow_len h
                    unfold pt at hec hln
                    go_wp2_with (first | (go_at_call 12; refine (hna _).mono ?_; rintro r9 w9 ⟨rfl, rfl⟩) | (go_at_call 13; refine (hadd _ (hOH.out.chg0 ((Chg.refl _ wr).alloc _))).mono ?_; rintro r9 w3 ⟨rfl, z3, h3, _⟩) | (go_at_call 15; refine (hec _ _ _ _ h3).mono ?_; rintro r9 w4 ⟨rfl, rfl⟩; unfold encZ; simp only [Bool.false_eq_true, if_false, if_true]) | fail)
                    refine wp_region_held_drew (S := fun W' => W'.cell? ⟨w.heap.size, 0, none⟩ = some (.int .i64 (E : Int)) ∧ W'.cell? ⟨w.heap.size, 1, none⟩ = some (.int .i64 (M : Int))) (by kernel_rfl) (hgen _ (h3.chg.trans (Chg.refl _ _).drew)) (fun hHeld => ?_)
                    refine wpAnyH_take (i := 0) (oi := Go.Oper.mk (some 80) _ _ _ _ _) (v := ?_) rfl (by kernel_rfl) (by kernel_rfl) (by kernel_rfl) (fun _ _ _ h => h) (Or.inl ⟨by kernel_rfl, ?_⟩) (by assumption) ?_
                    rotate_left
                    · intro w hSw
                      try dsimp only at hSw
                      go_simp
                      try with_reducible rfl
                    try simp only [Act.put, List.setIfInBounds_toArray, List.set_cons_zero, List.set_cons_succ]
                    refine wpAnyH_take (i := 1) (oi := Go.Oper.mk (some 81) _ _ _ _ _) (v := ?_) rfl (by kernel_rfl) (by kernel_rfl) (by kernel_rfl) (fun _ _ _ h => h) (Or.inl ⟨by kernel_rfl, ?_⟩) (by assumption) ?_
                    rotate_left
                    · intro w hSw
                      try dsimp only at hSw
                      go_simp
                      try with_reducible rfl
                    try simp only [Act.put, List.setIfInBounds_toArray, List.set_cons_zero, List.set_cons_succ]
                    refine wpAnyH_take (i := 2) (oi := Go.Oper.mk (some 82) _ _ _ _ _) (v := ?_) rfl (by kernel_rfl) (by kernel_rfl) (by kernel_rfl) (fun _ _ _ h => h) (Or.inl ⟨by kernel_rfl, ?_⟩) (by assumption) ?_
                    rotate_left
                    · intro w hSw
                      try dsimp only at hSw
                      go_simp
                      try with_reducible rfl
                    try simp only [Act.put, List.setIfInBounds_toArray, List.set_cons_zero, List.set_cons_succ]
                    refine wpAnyH_take (i := 4) (oi := Go.Oper.mk (some 84) _ _ _ _ _) (v := ?_) rfl (by kernel_rfl) (by kernel_rfl) (by kernel_rfl) (fun _ _ _ h => h) (Or.inl ⟨by kernel_rfl, ?_⟩) (by assumption) ?_
                    rotate_left
                    · intro w hSw
                      try dsimp only at hSw
                      go_simp
                      try with_reducible rfl
                    try simp only [Act.put, List.setIfInBounds_toArray, List.set_cons_zero, List.set_cons_succ]
                    refine wpAnyH_take (i := 5) (oi := Go.Oper.mk (some 85) _ _ _ _ _) (v := ?_) rfl (by kernel_rfl) (by kernel_rfl) (by kernel_rfl) (fun _ _ _ h => h) (Or.inl ⟨by kernel_rfl, ?_⟩) (by assumption) ?_
                    rotate_left
                    · intro w hSw
                      try dsimp only at hSw
                      go_simp
                      try with_reducible rfl
                    try simp only [Act.put, List.setIfInBounds_toArray, List.set_cons_zero, List.set_cons_succ]
                    refine wpAnyH_ready (rs := [3]) (by kernel_rfl) (by simp) ?_
                    refine AllReadyH.cons (o := Go.Oper.mk (some 83) _ _ _ _ _) rfl (fun K hK => ?_) AllReadyH.nil
                    go_simp
                    go_at_call 16
                    refine (hln _ _ _ _ (h3.chg0 (Chg.refl _ _).drew)).mono ?_
                    rintro r8 w8 ⟨rfl, hC8⟩
                    refine hK.out _ _ (hgen _ (h3.chg.trans ((Chg.refl _ _).drew.trans hC8))) (fun hHeld2 => ?_)
                    clear hK K hHeld
                    try simp only [Act.put, List.setIfInBounds_toArray, List.set_cons_zero, List.set_cons_succ]
                    refine wpAnyH_take (i := 6) (oi := Go.Oper.mk (some 86) _ _ _ _ _) (v := ?_) rfl (by kernel_rfl) (by kernel_rfl) (by kernel_rfl) (fun _ _ _ h => h) (Or.inl ⟨by kernel_rfl, ?_⟩) (by assumption) ?_
                    rotate_left
                    · intro w hSw
                      try dsimp only at hSw
                      go_simp
                      try with_reducible rfl
                    try simp only [Act.put, List.setIfInBounds_toArray, List.set_cons_zero, List.set_cons_succ]
                    refine wpAnyH_take (i := 7) (oi := Go.Oper.mk (some 87) _ _ _ _ _) (v := ?_) rfl (by kernel_rfl) (by kernel_rfl) (by kernel_rfl) (fun _ _ _ h => h) (Or.inl ⟨by kernel_rfl, ?_⟩) (by assumption) ?_
                    rotate_left
                    · intro w hSw
                      try dsimp only at hSw
                      go_simp
                      try with_reducible rfl
                    try simp only [Act.put, List.setIfInBounds_toArray, List.set_cons_zero, List.set_cons_succ]
                    refine wpAnyH_take (i := 8) (oi := Go.Oper.mk (some 88) _ _ _ _ _) (v := ?_) rfl (by kernel_rfl) (by kernel_rfl) (by kernel_rfl) (fun _ _ _ h => h) (Or.inl ⟨by kernel_rfl, ?_⟩) (by assumption) ?_
                    rotate_left
                    · intro w hSw
                      try dsimp only at hSw
                      go_simp
                      try with_reducible rfl
                    try simp only [Act.put, List.setIfInBounds_toArray, List.set_cons_zero, List.set_cons_succ]
                    refine wpAnyH_take (i := 9) (oi := Go.Oper.mk (some 89) _ _ _ _ _) (v := ?_) rfl (by kernel_rfl) (by kernel_rfl) (by kernel_rfl) (fun _ _ _ h => h) (Or.inl ⟨by kernel_rfl, ?_⟩) (by assumption) ?_
                    rotate_left
                    · intro w hSw
                      try dsimp only at hSw
                      go_simp
                      try with_reducible rfl
                    try simp only [Act.put, List.setIfInBounds_toArray, List.set_cons_zero, List.set_cons_succ]
                    refine wpAnyH_take (i := 10) (oi := Go.Oper.mk (some 90) _ _ _ _ _) (v := ?_) rfl (by kernel_rfl) (by kernel_rfl) (by kernel_rfl) (fun _ _ _ h => h) (Or.inl ⟨by kernel_rfl, ?_⟩) (by assumption) ?_
                    rotate_left
                    · intro w hSw
                      try dsimp only at hSw
                      go_simp
                      try with_reducible rfl
                    try simp only [Act.put, List.setIfInBounds_toArray, List.set_cons_zero, List.set_cons_succ]
                    refine wpAnyH_take (i := 11) (oi := Go.Oper.mk (some 91) _ _ _ _ _) (v := ?_) rfl (by kernel_rfl) (by kernel_rfl) (by kernel_rfl) (fun _ _ _ h => h) (Or.inl ⟨by kernel_rfl, ?_⟩) (by assumption) ?_
                    rotate_left
                    · intro w hSw
                      try dsimp only at hSw
                      go_simp
                      try with_reducible rfl
                    try simp only [Act.put, List.setIfInBounds_toArray, List.set_cons_zero, List.set_cons_succ]
                    refine wpAnyH_take (i := 12) (oi := Go.Oper.mk (some 92) _ _ _ _ _) (v := ?_) rfl (by kernel_rfl) (by kernel_rfl) (by kernel_rfl) (fun _ _ _ h => h) (Or.inl ⟨by kernel_rfl, ?_⟩) (by assumption) ?_
                    rotate_left
                    · intro w hSw
                      try dsimp only at hSw
                      go_simp
                      try with_reducible rfl
                    try simp only [Act.put, List.setIfInBounds_toArray, List.set_cons_zero, List.set_cons_succ]
                    refine wpAnyH_take (i := 13) (oi := Go.Oper.mk (some 93) _ _ _ _ _) (v := ?_) rfl (by kernel_rfl) (by kernel_rfl) (by kernel_rfl) (fun _ _ _ h => h) (Or.inl ⟨by kernel_rfl, ?_⟩) (by assumption) ?_
                    rotate_left
                    · intro w hSw
                      try dsimp only at hSw
                      go_simp
                      try with_reducible rfl
                    try simp only [Act.put, List.setIfInBounds_toArray, List.set_cons_zero, List.set_cons_succ]
                    refine wpAnyH_take (i := 14) (oi := Go.Oper.mk (some 94) _ _ _ _ _) (v := ?_) rfl (by kernel_rfl) (by kernel_rfl) (by kernel_rfl) (fun _ _ _ h => h) (Or.inl ⟨by kernel_rfl, ?_⟩) (by assumption) ?_
                    rotate_left
                    · intro w hSw
                      try dsimp only at hSw
                      go_simp
                      try with_reducible rfl
                    try simp only [Act.put, List.setIfInBounds_toArray, List.set_cons_zero, List.set_cons_succ]
                    refine wpAnyH_take (i := 15) (oi := Go.Oper.mk (some 17) _ _ _ _ _) (v := ?_) rfl (by kernel_rfl) (by kernel_rfl) (by kernel_rfl) (fun _ _ _ h => h) (Or.inl ⟨by kernel_rfl, ?_⟩) (by assumption) ?_
                    rotate_left
                    · intro w hSw
                      try dsimp only at hSw
                      go_simp
                      try with_reducible rfl
                    try simp only [Act.put, List.setIfInBounds_toArray, List.set_cons_zero, List.set_cons_succ]
                    refine wpAnyH_done (by kernel_rfl) ?_ _
                    clear hHeld2
                    have h8 := h3.chg0 ((Chg.refl _ _).drew.trans hC8)
                    go_wp2_with fail
                    go_roundg (min n 100 - (i + 1))
                    case measure => omega
                    case rel => exact ⟨i + 1, z3, _, _, rfl, int_eq (by omega), rfl, by omega, h8⟩
                  | false =>
                    unfold encZ
                    simp only [Bool.false_eq_true, if_false, if_true]
                    have hec := fun W z es is (h : Ow wb W b z es is E M) => ow_encoding h
                    have hln := fun W z es is (h : Ow wb W b z es is E M) => ow_len h
                    unfold pt at hec hln
                    go_wp2_with (first | (go_at_call 12; refine (hna _).mono ?_; rintro r9 w9 ⟨rfl, rfl⟩) | (go_at_call 13; refine (hadd _ (hOH.out.chg0 ((Chg.refl _ wr).alloc _))).mono ?_; rintro r9 w3 ⟨rfl, z3, h3, _⟩) | (go_at_call 15; refine (hec _ _ _ _ h3).mono ?_; rintro r9 w4 ⟨rfl, rfl⟩; unfold encZ; simp only [Bool.false_eq_true, if_false, if_true]) | fail)
                    refine wp_region_held_drew (S := fun W' => W'.cell? ⟨w.heap.size, 0, none⟩ = some (.int .i64 (E : Int)) ∧ W'.cell? ⟨w.heap.size, 1, none⟩ = some (.int .i64 (M : Int))) (by kernel_rfl) (hgen _ (h3.chg.trans (Chg.refl _ _).drew)) (fun hHeld => ?_)
                    refine wpAnyH_take (i := 0) (oi := Go.Oper.mk (some 80) _ _ _ _ _) (v := ?_) rfl (by kernel_rfl) (by kernel_rfl) (by kernel_rfl) (fun _ _ _ h => h) (Or.inl ⟨by kernel_rfl, ?_⟩) (by assumption) ?_
                    rotate_left
                    · intro w hSw
                      try dsimp only at hSw
                      go_simp
                      try with_reducible rfl
                    try simp only [Act.put, List.setIfInBounds_toArray, List.set_cons_zero, List.set_cons_succ]
                    refine wpAnyH_take (i := 1) (oi := Go.Oper.mk (some 81) _ _ _ _ _) (v := ?_) rfl (by kernel_rfl) (by kernel_rfl) (by kernel_rfl) (fun _ _ _ h => h) (Or.inl ⟨by kernel_rfl, ?_⟩) (by assumption) ?_
                    rotate_left
                    · intro w hSw
                      try dsimp only at hSw
                      go_simp
                      try with_reducible rfl
                    try simp only [Act.put, List.setIfInBounds_toArray, List.set_cons_zero, List.set_cons_succ]
                    refine wpAnyH_take (i := 2) (oi := Go.Oper.mk (some 82) _ _ _ _ _) (v := ?_) rfl (by kernel_rfl) (by kernel_rfl) (by kernel_rfl) (fun _ _ _ h => h) (Or.inl ⟨by kernel_rfl, ?_⟩) (by assumption) ?_
                    rotate_left
                    · intro w hSw
                      try dsimp only at hSw
                      go_simp
                      try with_reducible rfl
                    try simp only [Act.put, List.setIfInBounds_toArray, List.set_cons_zero, List.set_cons_succ]
                    refine wpAnyH_take (i := 4) (oi := Go.Oper.mk (some 84) _ _ _ _ _) (v := ?_) rfl (by kernel_rfl) (by kernel_rfl) (by kernel_rfl) (fun _ _ _ h => h) (Or.inl ⟨by kernel_rfl, ?_⟩) (by assumption) ?_
                    rotate_left
                    · intro w hSw
                      try dsimp only at hSw
                      go_simp
                      try with_reducible rfl
                    try simp only [Act.put, List.setIfInBounds_toArray, List.set_cons_zero, List.set_cons_succ]
                    refine wpAnyH_take (i := 5) (oi := Go.Oper.mk (some 85) _ _ _ _ _) (v := ?_) rfl (by kernel_rfl) (by kernel_rfl) (by kernel_rfl) (fun _ _ _ h => h) (Or.inl ⟨by kernel_rfl, ?_⟩) (by assumption) ?_
                    rotate_left
                    · intro w hSw
                      try dsimp only at hSw
                      go_simp
                      try with_reducible rfl
                    try simp only [Act.put, List.setIfInBounds_toArray, List.set_cons_zero, List.set_cons_succ]
                    refine wpAnyH_ready (rs := [3]) (by kernel_rfl) (by simp) ?_
                    refine AllReadyH.cons (o := Go.Oper.mk (some 83) _ _ _ _ _) rfl (fun K hK => ?_) AllReadyH.nil
                    go_simp
                    go_at_call 16
                    refine (hln _ _ _ _ (h3.chg0 (Chg.refl _ _).drew)).mono ?_
                    rintro r8 w8 ⟨rfl, hC8⟩
                    refine hK.out _ _ (hgen _ (h3.chg.trans ((Chg.refl _ _).drew.trans hC8))) (fun hHeld2 => ?_)
                    clear hK K hHeld
                    try simp only [Act.put, List.setIfInBounds_toArray, List.set_cons_zero, List.set_cons_succ]
                    refine wpAnyH_take (i := 6) (oi := Go.Oper.mk (some 86) _ _ _ _ _) (v := ?_) rfl (by kernel_rfl) (by kernel_rfl) (by kernel_rfl) (fun _ _ _ h => h) (Or.inl ⟨by kernel_rfl, ?_⟩) (by assumption) ?_
                    rotate_left
                    · intro w hSw
                      try dsimp only at hSw
                      go_simp
                      try with_reducible rfl
                    try simp only [Act.put, List.setIfInBounds_toArray, List.set_cons_zero, List.set_cons_succ]
                    refine wpAnyH_take (i := 7) (oi := Go.Oper.mk (some 87) _ _ _ _ _) (v := ?_) rfl (by kernel_rfl) (by kernel_rfl) (by kernel_rfl) (fun _ _ _ h => h) (Or.inl ⟨by kernel_rfl, ?_⟩) (by assumption) ?_
                    rotate_left
                    · intro w hSw
                      try dsimp only at hSw
                      go_simp
                      try with_reducible rfl
                    try simp only [Act.put, List.setIfInBounds_toArray, List.set_cons_zero, List.set_cons_succ]
                    refine wpAnyH_take (i := 8) (oi := Go.Oper.mk (some 88) _ _ _ _ _) (v := ?_) rfl (by kernel_rfl) (by kernel_rfl) (by kernel_rfl) (fun _ _ _ h => h) (Or.inl ⟨by kernel_rfl, ?_⟩) (by assumption) ?_
                    rotate_left
                    · intro w hSw
                      try dsimp only at hSw
                      go_simp
                      try with_reducible rfl
                    try simp only [Act.put, List.setIfInBounds_toArray, List.set_cons_zero, List.set_cons_succ]
                    refine wpAnyH_take (i := 9) (oi := Go.Oper.mk (some 89) _ _ _ _ _) (v := ?_) rfl (by kernel_rfl) (by kernel_rfl) (by kernel_rfl) (fun _ _ _ h => h) (Or.inl ⟨by kernel_rfl, ?_⟩) (by assumption) ?_
                    rotate_left
                    · intro w hSw
                      try dsimp only at hSw
                      go_simp
                      try with_reducible rfl
                    try simp only [Act.put, List.setIfInBounds_toArray, List.set_cons_zero, List.set_cons_succ]
                    refine wpAnyH_take (i := 10) (oi := Go.Oper.mk (some 90) _ _ _ _ _) (v := ?_) rfl (by kernel_rfl) (by kernel_rfl) (by kernel_rfl) (fun _ _ _ h => h) (Or.inl ⟨by kernel_rfl, ?_⟩) (by assumption) ?_
                    rotate_left
                    · intro w hSw
                      try dsimp only at hSw
                      go_simp
                      try with_reducible rfl
                    try simp only [Act.put, List.setIfInBounds_toArray, List.set_cons_zero, List.set_cons_succ]
                    refine wpAnyH_take (i := 11) (oi := Go.Oper.mk (some 91) _ _ _ _ _) (v := ?_) rfl (by kernel_rfl) (by kernel_rfl) (by kernel_rfl) (fun _ _ _ h => h) (Or.inl ⟨by kernel_rfl, ?_⟩) (by assumption) ?_
                    rotate_left
                    · intro w hSw
                      try dsimp only at hSw
                      go_simp
                      try with_reducible rfl
                    try simp only [Act.put, List.setIfInBounds_toArray, List.set_cons_zero, List.set_cons_succ]
                    refine wpAnyH_take (i := 12) (oi := Go.Oper.mk (some 92) _ _ _ _ _) (v := ?_) rfl (by kernel_rfl) (by kernel_rfl) (by kernel_rfl) (fun _ _ _ h => h) (Or.inl ⟨by kernel_rfl, ?_⟩) (by assumption) ?_
                    rotate_left
                    · intro w hSw
                      try dsimp only at hSw
                      go_simp
                      try with_reducible rfl
                    try simp only [Act.put, List.setIfInBounds_toArray, List.set_cons_zero, List.set_cons_succ]
                    refine wpAnyH_take (i := 13) (oi := Go.Oper.mk (some 93) _ _ _ _ _) (v := ?_) rfl (by kernel_rfl) (by kernel_rfl) (by kernel_rfl) (fun _ _ _ h => h) (Or.inl ⟨by kernel_rfl, ?_⟩) (by assumption) ?_
                    rotate_left
                    · intro w hSw
                      try dsimp only at hSw
                      go_simp
                      try with_reducible rfl
                    try simp only [Act.put, List.setIfInBounds_toArray, List.set_cons_zero, List.set_cons_succ]
                    refine wpAnyH_take (i := 14) (oi := Go.Oper.mk (some 94) _ _ _ _ _) (v := ?_) rfl (by kernel_rfl) (by kernel_rfl) (by kernel_rfl) (fun _ _ _ h => h) (Or.inl ⟨by kernel_rfl, ?_⟩) (by assumption) ?_
                    rotate_left
                    · intro w hSw
                      try dsimp only at hSw
                      go_simp
                      try with_reducible rfl
                    try simp only [Act.put, List.setIfInBounds_toArray, List.set_cons_zero, List.set_cons_succ]
                    refine wpAnyH_take (i := 15) (oi := Go.Oper.mk (some 17) _ _ _ _ _) (v := ?_) rfl (by kernel_rfl) (by kernel_rfl) (by kernel_rfl) (fun _ _ _ h => h) (Or.inl ⟨by kernel_rfl, ?_⟩) (by assumption) ?_
                    rotate_left
                    · intro w hSw
                      try dsimp only at hSw
                      go_simp
                      try with_reducible rfl
                    try simp only [Act.put, List.setIfInBounds_toArray, List.set_cons_zero, List.set_cons_succ]
                    refine wpAnyH_done (by kernel_rfl) ?_ _
                    clear hHeld2
                    have h8 := h3.chg0 ((Chg.refl _ _).drew.trans hC8)
                    go_wp2_with fail
                    go_roundg (min n 100 - (i + 1))
                    case measure => omega
                    case rel => exact ⟨i + 1, z3, _, _, rfl, int_eq (by omega), rfl, by omega, h8⟩
          · clear hadd
            cases is with
            | true =>
              unfold encZ
              simp only [Bool.false_eq_true, if_false, if_true]
              have hec := fun W z es is (h : Ow wb W b z es is E M) => ow_encoding h
              have hln := fun W z es is (h : Ow wb W b z es is E M) => ow_len h
              unfold pt at hec hln
              go_wp2_with (first | (go_at_call 12; refine (hna _).mono ?_; rintro r9 w9 ⟨rfl, rfl⟩) | (go_at_call 14; refine (hrem _ (hOH.out.chg0 ((Chg.refl _ wr).alloc _))).mono ?_; rintro r9 w3 ⟨rfl, z3, h3, _⟩) | (go_at_call 15; refine (hec _ _ _ _ h3).mono ?_; rintro r9 w4 ⟨rfl, rfl⟩; unfold encZ; simp only [Bool.false_eq_true, if_false, if_true]) | fail)
              refine wp_region_held_drew (S := fun W' => W'.cell? ⟨w.heap.size, 0, none⟩ = some (.int .i64 (E : Int)) ∧ W'.cell? ⟨w.heap.size, 1, none⟩ = some (.int .i64 (M : Int))) (by kernel_rfl) (hgen _ (h3.chg.trans (Chg.refl _ _).drew)) (fun hHeld => ?_)
              refine wpAnyH_take (i := 0) (oi := Go.Oper.mk (some 80) _ _ _ _ _) (v := ?_) rfl (by kernel_rfl) (by kernel_rfl) (by kernel_rfl) (fun _ _ _ h => h) (Or.inl ⟨by kernel_rfl, ?_⟩) (by assumption) ?_
              rotate_left
              · intro w hSw
                try dsimp only at hSw
                go_simp
                try with_reducible rfl
              try simp only [Act.put, List.setIfInBounds_toArray, List.set_cons_zero, List.set_cons_succ]
              refine wpAnyH_take (i := 1) (oi := Go.Oper.mk (some 81) _ _ _ _ _) (v := ?_) rfl (by kernel_rfl) (by kernel_rfl) (by kernel_rfl) (fun _ _ _ h => h) (Or.inl ⟨by kernel_rfl, ?_⟩) (by assumption) ?_
              rotate_left
              · intro w hSw
                try dsimp only at hSw
                go_simp
                try with_reducible rfl
              try simp only [Act.put, List.setIfInBounds_toArray, List.set_cons_zero, List.set_cons_succ]
              refine wpAnyH_take (i := 2) (oi := Go.Oper.mk (some 82) _ _ _ _ _) (v := undef) rfl (by kernel_rfl) (by kernel_rfl) (by kernel_rfl) (fun _ _ _ h => h) (Or.inr ⟨by kernel_rfl, rfl⟩) (by assumption) ?_
              try simp only [Act.put, List.setIfInBounds_toArray, List.set_cons_zero, List.set_cons_succ]
              refine wpAnyH_take (i := 3) (oi := Go.Oper.mk (some 83) _ _ _ _ _) (v := undef) rfl (by kernel_rfl) (by kernel_rfl) (by kernel_rfl) (fun _ _ _ h => h) (Or.inr ⟨by kernel_rfl, rfl⟩) (by assumption) ?_
              try simp only [Act.put, List.setIfInBounds_toArray, List.set_cons_zero, List.set_cons_succ]
              refine wpAnyH_take (i := 4) (oi := Go.Oper.mk (some 84) _ _ _ _ _) (v := undef) rfl (by kernel_rfl) (by kernel_rfl) (by kernel_rfl) (fun _ _ _ h => h) (Or.inr ⟨by kernel_rfl, rfl⟩) (by assumption) ?_
              try simp only [Act.put, List.setIfInBounds_toArray, List.set_cons_zero, List.set_cons_succ]
              refine wpAnyH_take (i := 5) (oi := Go.Oper.mk (some 85) _ _ _ _ _) (v := undef) rfl (by kernel_rfl) (by kernel_rfl) (by kernel_rfl) (fun _ _ _ h => h) (Or.inr ⟨by kernel_rfl, rfl⟩) (by assumption) ?_
              try simp only [Act.put, List.setIfInBounds_toArray, List.set_cons_zero, List.set_cons_succ]
              refine wpAnyH_take (i := 6) (oi := Go.Oper.mk (some 86) _ _ _ _ _) (v := undef) rfl (by kernel_rfl) (by kernel_rfl) (by kernel_rfl) (fun _ _ _ h => h) (Or.inr ⟨by kernel_rfl, rfl⟩) (by assumption) ?_
              try simp only [Act.put, List.setIfInBounds_toArray, List.set_cons_zero, List.set_cons_succ]
              refine wpAnyH_take (i := 7) (oi := Go.Oper.mk (some 87) _ _ _ _ _) (v := undef) rfl (by kernel_rfl) (by kernel_rfl) (by kernel_rfl) (fun _ _ _ h => h) (Or.inr ⟨by kernel_rfl, rfl⟩) (by assumption) ?_
              try simp only [Act.put, List.setIfInBounds_toArray, List.set_cons_zero, List.set_cons_succ]
              refine wpAnyH_take (i := 8) (oi := Go.Oper.mk (some 88) _ _ _ _ _) (v := undef) rfl (by kernel_rfl) (by kernel_rfl) (by kernel_rfl) (fun _ _ _ h => h) (Or.inr ⟨by kernel_rfl, rfl⟩) (by assumption) ?_
              try simp only [Act.put, List.setIfInBounds_toArray, List.set_cons_zero, List.set_cons_succ]
              refine wpAnyH_take (i := 9) (oi := Go.Oper.mk (some 89) _ _ _ _ _) (v := undef) rfl (by kernel_rfl) (by kernel_rfl) (by kernel_rfl) (fun _ _ _ h => h) (Or.inr ⟨by kernel_rfl, rfl⟩) (by assumption) ?_
              try simp only [Act.put, List.setIfInBounds_toArray, List.set_cons_zero, List.set_cons_succ]
              refine wpAnyH_take (i := 10) (oi := Go.Oper.mk (some 90) _ _ _ _ _) (v := undef) rfl (by kernel_rfl) (by kernel_rfl) (by kernel_rfl) (fun _ _ _ h => h) (Or.inr ⟨by kernel_rfl, rfl⟩) (by assumption) ?_
              try simp only [Act.put, List.setIfInBounds_toArray, List.set_cons_zero, List.set_cons_succ]
              refine wpAnyH_take (i := 11) (oi := Go.Oper.mk (some 91) _ _ _ _ _) (v := undef) rfl (by kernel_rfl) (by kernel_rfl) (by kernel_rfl) (fun _ _ _ h => h) (Or.inr ⟨by kernel_rfl, rfl⟩) (by assumption) ?_
              try simp only [Act.put, List.setIfInBounds_toArray, List.set_cons_zero, List.set_cons_succ]
              refine wpAnyH_take (i := 12) (oi := Go.Oper.mk (some 92) _ _ _ _ _) (v := undef) rfl (by kernel_rfl) (by kernel_rfl) (by kernel_rfl) (fun _ _ _ h => h) (Or.inr ⟨by kernel_rfl, rfl⟩) (by assumption) ?_
              try simp only [Act.put, List.setIfInBounds_toArray, List.set_cons_zero, List.set_cons_succ]
              refine wpAnyH_take (i := 13) (oi := Go.Oper.mk (some 93) _ _ _ _ _) (v := undef) rfl (by kernel_rfl) (by kernel_rfl) (by kernel_rfl) (fun _ _ _ h => h) (Or.inr ⟨by kernel_rfl, rfl⟩) (by assumption) ?_
              try simp only [Act.put, List.setIfInBounds_toArray, List.set_cons_zero, List.set_cons_succ]
              refine wpAnyH_take (i := 14) (oi := Go.Oper.mk (some 94) _ _ _ _ _) (v := ?_) rfl (by kernel_rfl) (by kernel_rfl) (by kernel_rfl) (fun _ _ _ h => h) (Or.inl ⟨by kernel_rfl, ?_⟩) (by assumption) ?_
              rotate_left
              · intro w hSw
                try dsimp only at hSw
                go_simp
                try with_reducible rfl
              try simp only [Act.put, List.setIfInBounds_toArray, List.set_cons_zero, List.set_cons_succ]
              refine wpAnyH_take (i := 15) (oi := Go.Oper.mk (some 17) _ _ _ _ _) (v := ?_) rfl (by kernel_rfl) (by kernel_rfl) (by kernel_rfl) (fun _ _ _ h => h) (Or.inl ⟨by kernel_rfl, ?_⟩) (by assumption) ?_
              rotate_left
              · intro w hSw
                try dsimp only at hSw
                go_simp
                try with_reducible rfl
              try simp only [Act.put, List.setIfInBounds_toArray, List.set_cons_zero, List.set_cons_succ]
              refine wpAnyH_done (by kernel_rfl) ?_ _
              clear hHeld
              have h8 := h3.chg0 (Chg.refl _ _).drew
              go_wp2_with fail
              go_roundg (min n 100 - (i + 1))
              case measure => omega
              case rel => exact ⟨i + 1, z3, _, _, rfl, int_eq (by omega), rfl, by omega, h8⟩
            | false =>
              unfold encZ
              simp only [Bool.false_eq_true, if_false, if_true]
              have hec := fun W z es is (h : Ow wb W b z es is E M) => ow_encoding h
              have hln := fun W z es is (h : Ow wb W b z es is E M) => ow_len h
              unfold pt at hec hln
              go_wp2_with (first | (go_at_call 12; refine (hna _).mono ?_; rintro r9 w9 ⟨rfl, rfl⟩) | (go_at_call 14; refine (hrem _ (hOH.out.chg0 ((Chg.refl _ wr).alloc _))).mono ?_; rintro r9 w3 ⟨rfl, z3, h3, _⟩) | (go_at_call 15; refine (hec _ _ _ _ h3).mono ?_; rintro r9 w4 ⟨rfl, rfl⟩; unfold encZ; simp only [Bool.false_eq_true, if_false, if_true]) | fail)
              refine wp_region_held_drew (S := fun W' => W'.cell? ⟨w.heap.size, 0, none⟩ = some (.int .i64 (E : Int)) ∧ W'.cell? ⟨w.heap.size, 1, none⟩ = some (.int .i64 (M : Int))) (by kernel_rfl) (hgen _ (h3.chg.trans (Chg.refl _ _).drew)) (fun hHeld => ?_)
              refine wpAnyH_take (i := 0) (oi := Go.Oper.mk (some 80) _ _ _ _ _) (v := ?_) rfl (by kernel_rfl) (by kernel_rfl) (by kernel_rfl) (fun _ _ _ h => h) (Or.inl ⟨by kernel_rfl, ?_⟩) (by assumption) ?_
              rotate_left
              · intro w hSw
                try dsimp only at hSw
                go_simp
                try with_reducible rfl
              try simp only [Act.put, List.setIfInBounds_toArray, List.set_cons_zero, List.set_cons_succ]
              refine wpAnyH_take (i := 1) (oi := Go.Oper.mk (some 81) _ _ _ _ _) (v := ?_) rfl (by kernel_rfl) (by kernel_rfl) (by kernel_rfl) (fun _ _ _ h => h) (Or.inl ⟨by kernel_rfl, ?_⟩) (by assumption) ?_
              rotate_left
              · intro w hSw
                try dsimp only at hSw
                go_simp
                try with_reducible rfl
              try simp only [Act.put, List.setIfInBounds_toArray, List.set_cons_zero, List.set_cons_succ]
              refine wpAnyH_take (i := 2) (oi := Go.Oper.mk (some 82) _ _ _ _ _) (v := undef) rfl (by kernel_rfl) (by kernel_rfl) (by kernel_rfl) (fun _ _ _ h => h) (Or.inr ⟨by kernel_rfl, rfl⟩) (by assumption) ?_
              try simp only [Act.put, List.setIfInBounds_toArray, List.set_cons_zero, List.set_cons_succ]
              refine wpAnyH_take (i := 3) (oi := Go.Oper.mk (some 83) _ _ _ _ _) (v := undef) rfl (by kernel_rfl) (by kernel_rfl) (by kernel_rfl) (fun _ _ _ h => h) (Or.inr ⟨by kernel_rfl, rfl⟩) (by assumption) ?_
              try simp only [Act.put, List.setIfInBounds_toArray, List.set_cons_zero, List.set_cons_succ]
              refine wpAnyH_take (i := 4) (oi := Go.Oper.mk (some 84) _ _ _ _ _) (v := undef) rfl (by kernel_rfl) (by kernel_rfl) (by kernel_rfl) (fun _ _ _ h => h) (Or.inr ⟨by kernel_rfl, rfl⟩) (by assumption) ?_
              try simp only [Act.put, List.setIfInBounds_toArray, List.set_cons_zero, List.set_cons_succ]
              refine wpAnyH_take (i := 5) (oi := Go.Oper.mk (some 85) _ _ _ _ _) (v := undef) rfl (by kernel_rfl) (by kernel_rfl) (by kernel_rfl) (fun _ _ _ h => h) (Or.inr ⟨by kernel_rfl, rfl⟩) (by assumption) ?_
              try simp only [Act.put, List.setIfInBounds_toArray, List.set_cons_zero, List.set_cons_succ]
              refine wpAnyH_take (i := 6) (oi := Go.Oper.mk (some 86) _ _ _ _ _) (v := undef) rfl (by kernel_rfl) (by kernel_rfl) (by kernel_rfl) (fun _ _ _ h => h) (Or.inr ⟨by kernel_rfl, rfl⟩) (by assumption) ?_
              try simp only [Act.put, List.setIfInBounds_toArray, List.set_cons_zero, List.set_cons_succ]
              refine wpAnyH_take (i := 7) (oi := Go.Oper.mk (some 87) _ _ _ _ _) (v := undef) rfl (by kernel_rfl) (by kernel_rfl) (by kernel_rfl) (fun _ _ _ h => h) (Or.inr ⟨by kernel_rfl, rfl⟩) (by assumption) ?_
              try simp only [Act.put, List.setIfInBounds_toArray, List.set_cons_zero, List.set_cons_succ]
              refine wpAnyH_take (i := 8) (oi := Go.Oper.mk (some 88) _ _ _ _ _) (v := undef) rfl (by kernel_rfl) (by kernel_rfl) (by kernel_rfl) (fun _ _ _ h => h) (Or.inr ⟨by kernel_rfl, rfl⟩) (by assumption) ?_
              try simp only [Act.put, List.setIfInBounds_toArray, List.set_cons_zero, List.set_cons_succ]
              refine wpAnyH_take (i := 9) (oi := Go.Oper.mk (some 89) _ _ _ _ _) (v := undef) rfl (by kernel_rfl) (by kernel_rfl) (by kernel_rfl) (fun _ _ _ h => h) (Or.inr ⟨by kernel_rfl, rfl⟩) (by assumption) ?_
              try simp only [Act.put, List.setIfInBounds_toArray, List.set_cons_zero, List.set_cons_succ]
              refine wpAnyH_take (i := 10) (oi := Go.Oper.mk (some 90) _ _ _ _ _) (v := undef) rfl (by kernel_rfl) (by kernel_rfl) (by kernel_rfl) (fun _ _ _ h => h) (Or.inr ⟨by kernel_rfl, rfl⟩) (by assumption) ?_
              try simp only [Act.put, List.setIfInBounds_toArray, List.set_cons_zero, List.set_cons_succ]
              refine wpAnyH_take (i := 11) (oi := Go.Oper.mk (some 91) _ _ _ _ _) (v := undef) rfl (by kernel_rfl) (by kernel_rfl) (by kernel_rfl) (fun _ _ _ h => h) (Or.inr ⟨by kernel_rfl, rfl⟩) (by assumption) ?_
              try simp only [Act.put, List.setIfInBounds_toArray, List.set_cons_zero, List.set_cons_succ]
              refine wpAnyH_take (i := 12) (oi := Go.Oper.mk (some 92) _ _ _ _ _) (v := undef) rfl (by kernel_rfl) (by kernel_rfl) (by kernel_rfl) (fun _ _ _ h => h) (Or.inr ⟨by kernel_rfl, rfl⟩) (by assumption) ?_
              try simp only [Act.put, List.setIfInBounds_toArray, List.set_cons_zero, List.set_cons_succ]
              refine wpAnyH_take (i := 13) (oi := Go.Oper.mk (some 93) _ _ _ _ _) (v := undef) rfl (by kernel_rfl) (by kernel_rfl) (by kernel_rfl) (fun _ _ _ h => h) (Or.inr ⟨by kernel_rfl, rfl⟩) (by assumption) ?_
              try simp only [Act.put, List.setIfInBounds_toArray, List.set_cons_zero, List.set_cons_succ]
              refine wpAnyH_take (i := 14) (oi := Go.Oper.mk (some 94) _ _ _ _ _) (v := ?_) rfl (by kernel_rfl) (by kernel_rfl) (by kernel_rfl) (fun _ _ _ h => h) (Or.inl ⟨by kernel_rfl, ?_⟩) (by assumption) ?_
              rotate_left
              · intro w hSw
                try dsimp only at hSw
                go_simp
                try with_reducible rfl
              try simp only [Act.put, List.setIfInBounds_toArray, List.set_cons_zero, List.set_cons_succ]
              refine wpAnyH_take (i := 15) (oi := Go.Oper.mk (some 17) _ _ _ _ _) (v := ?_) rfl (by kernel_rfl) (by kernel_rfl) (by kernel_rfl) (fun _ _ _ h => h) (Or.inl ⟨by kernel_rfl, ?_⟩) (by assumption) ?_
              rotate_left
              · intro w hSw
                try dsimp only at hSw
                go_simp
                try with_reducible rfl
              try simp only [Act.put, List.setIfInBounds_toArray, List.set_cons_zero, List.set_cons_succ]
              refine wpAnyH_done (by kernel_rfl) ?_ _
              clear hHeld
              have h8 := h3.chg0 (Chg.refl _ _).drew
              go_wp2_with fail
              go_roundg (min n 100 - (i + 1))
              case measure => omega
              case rel => exact ⟨i + 1, z3, _, _, rfl, int_eq (by omega), rfl, by omega, h8⟩
        · have i1 : (i : Int) < (n : Int) := by omega
          have i2 : ¬ (i : Int) < 100 := by omega
          go_wp2_with fail
          go_ret
          exact ⟨rfl, hCw _ hO.chg⟩
      · have i1 : ¬ (i : Int) < (n : Int) := by omega
        go_wp2_with fail
        go_ret
        exact ⟨rfl, hCw _ hO.chg⟩
  · have hbx := Blk.new w 23 #[.int .i64 E0, .int .i64 M0]
    have hCb := (Chg.refl (fun _ => False) w).alloc (.cells #[.int .i64 E0, .int .i64 M0] 23)
    obtain ⟨wb, hwb⟩ : ∃ wb, wb = w.alloc (.cells #[.int .i64 E0, .int .i64 M0] 23) := ⟨_, rfl⟩
    rw [← hwb] at hbx hCb
    have hgen : ∀ W', Chg (fun _ => False) wb W' → W'.cell? ⟨w.heap.size, 0, none⟩ = some (.int .i64 E0) ∧ W'.cell? ⟨w.heap.size, 1, none⟩ = some (.int .i64 M0) ∧ w.heap.size < W'.heap.size := fun W' hc => ⟨by have := (hbx.chg hc id).cell 0; simpa using this, by have := (hbx.chg hc id).cell 1; simpa using this, (hbx.chg hc id).lt⟩
    have hcs : E0 < 0 ∨ (¬ E0 < 0 ∧ 200 < E0) ∨ (¬ E0 < 0 ∧ ¬ 200 < E0 ∧ M0 < 0) ∨ (¬ E0 < 0 ∧ ¬ 200 < E0 ∧ ¬ M0 < 0 ∧ 64 < M0) := by omega
    clear hE hv hs hbx
    rcases hcs with g1 | ⟨g1, g2⟩ | ⟨g1, g2, g3⟩ | ⟨g1, g2, g3, g4⟩ <;>
    · go_enter Tryz.func3, Tryz.ntmps3
      go_wp2_with (first | (go_at_call 10; rw [← hwb]; refine (hsh _).mono ?_; rintro r w1 ⟨rfl, hC1⟩; obtain ⟨x0, x1, x2⟩ := hgen _ hC1) | fail)
      go_ret
      exact ⟨rfl, hCb.trans hC1⟩
set_option maxRecDepth 100000 in
theorem ZsetWays_walk (W : World) {H : Type} {enc : TypeId × Value → H} {v0 : Value} {d0 : DataW H} {p0 : List MemPlace} (hv0 : Value.okWide Tryz.prog W .any 0 23 v0) (h0 : DataW.Trod enc Tryz.prog W 0 (fun _ => true) true 23 v0 d0 p0)
    (a0 : Int) (w0 : (Lit.int .u32 a0).wf = true) {v : Value} {d : DataW H} {p : List MemPlace} (hv : Value.okWide Tryz.prog W .any 0 25 v) (h : DataW.Trod enc Tryz.prog W 0 (fun _ => true) true 25 v d p) :
    Calls Tryz.prog 3 #[v0, .int .u32 a0, v] W fun e w' => e = .returned (.bool true) ∧ Chg (fun _ => False) W w' := by
  obtain ⟨E0, M0, rfl, _, _⟩ := open_limits hv0 h0
  obtain ⟨s0, rfl, h0⟩ := u32_of_wf w0
  obtain ⟨n, g, hg⟩ := open_actsZ hv h
  exact walk E0 M0 s0 h0 v n g W hg
end Go.Proofs.YtifcpippfiglkaaGreat.zsetWays
