/- The walk of ScanNext: the next cursor of the program is that of the reference. -/
import Derived.Test.YtohjcoadgojikaaHC
import Derived.Test.YtohjcoadgojikaaRF
import Derived.ProofKit
namespace Go.Proofs.Ytohjcoadgojikaa
open Go.RowKit Pal

set_option maxHeartbeats 400000 in
theorem ScanNext_walk (a0 : Int) (w0 : (Lit.int .u32 a0).wf = true) (a1 : Int) (w1 : (Lit.int .i64 a1).wf = true) (w : World) :
    Calls Try.prog 3 #[.int .u32 a0, .int .i64 a1] w fun e w' => e = .returned (.bool true) ∧ Chg (fun _ => False) w w' := by
  obtain ⟨c, rfl, hc⟩ := u32_of_wf w0
  cases hz : isSz a1 with
  | false =>
    have HZ := Lib.hid hz
    clear hz
    go_enter Try.func3, Try.ntmps3
    go_wp2_with fail
    refine (shown08_any _).mono ?_; rintro e w' ⟨rfl, rfl⟩
    go_wp2_with fail
    refine (Next_no _ _ _ HZ.out).mono ?_; rintro e w' ⟨rfl, rfl⟩
    go_wp2_with fail
    refine (NextR_no _ _ _ HZ.out).mono ?_; rintro e w' ⟨rfl, rfl⟩
    go_wp2_with fail
    go_ret
    exact ⟨rfl, Chg.refl _ _⟩
  | true =>
    obtain ⟨d, h2, h16, hn⟩ := (isSz_pow _).1 hz
    have HN := Lib.hid hn
    clear hz hn
    go_enter Try.func3, Try.ntmps3
    go_wp2_with fail
    refine (shown08_any _).mono ?_; rintro e w' ⟨rfl, rfl⟩
    go_wp2_with fail
    refine (Next_yes _ d _ _ HN.out hc h2 h16).mono ?_; rintro e w' ⟨rfl, rfl⟩
    go_wp2_with fail
    refine (NextR_yes _ d _ _ HN.out hc h2 h16).mono ?_; rintro e w' ⟨rfl, rfl⟩
    go_wp2_with fail
    go_ret
    exact ⟨rfl, Chg.refl _ _⟩

end Go.Proofs.Ytohjcoadgojikaa
