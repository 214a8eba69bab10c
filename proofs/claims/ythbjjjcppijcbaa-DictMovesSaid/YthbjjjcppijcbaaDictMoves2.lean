/- The walk of DictMoves, for every input. -/
import Derived.Test.YthbjjjcppijcbaaDictMoves
namespace Go.Proofs.Ythbjjjcppijcbaa.dictMoves
open Go.RowKit Pal Dint

set_option maxRecDepth 100000 in
set_option maxHeartbeats 1000000 in
theorem walk_out (s1 : Nat) (n s : Int) (h : n < 0 ∨ 300 < n ∨ s < 1 ∨ 50 < s) (w : World) :
    Calls Try.prog 5 #[.int .u32 (s1 : Int), .int .i64 n, .int .i64 s] w fun e w' => e = .returned (.bool true) ∧ Chg (fun _ => False) w w' := by
  go_enter Try.func5, Try.ntmps5
  go_wp2_with fail
  refine (shown07_any w).mono ?_
  rintro e w1 ⟨rfl, c1⟩
  by_cases h1 : n < 0
  · go_wp2_with fail
    go_ret
    exact ⟨rfl, c1⟩
  · by_cases h2 : n > 300
    · go_wp2_with fail
      go_ret
      exact ⟨rfl, c1⟩
    · by_cases h3 : s < 1
      · go_wp2_with fail
        go_ret
        exact ⟨rfl, c1⟩
      · have h4 : s > 50 := by omega
        go_wp2_with fail
        go_ret
        exact ⟨rfl, c1⟩

theorem DictMoves_walk (a0 : Int) (w0 : (Lit.int .u32 a0).wf = true) (n : Int) (wn : (Lit.int .i64 n).wf = true) (s : Int) (_ : (Lit.int .i64 s).wf = true) (W : World) :
    Calls Try.prog 5 #[.int .u32 a0, .int .i64 n, .int .i64 s] W fun e w' => e = .returned (.bool true) ∧ Chg (fun _ => False) W w' := by
  obtain ⟨s0, rfl, h0⟩ := u32_of_wf w0
  by_cases h : n < 0 ∨ 300 < n ∨ s < 1 ∨ 50 < s
  · exact walk_out s0 n s h W
  · obtain ⟨N, rfl⟩ : ∃ N : Nat, n = (N : Int) := ⟨n.toNat, by omega⟩
    exact walk_in s0 h0 N (by omega) s (by omega) (by omega) W

end Go.Proofs.Ythbjjjcppijcbaa.dictMoves
