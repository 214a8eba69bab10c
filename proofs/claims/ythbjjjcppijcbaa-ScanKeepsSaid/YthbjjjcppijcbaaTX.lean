/- palioref04.Texts. -/
import Derived.Test.YthbjjjcppijcbaaSS
import Derived.Deep.QuietTactic
import Derived.BigQuiet
import Derived.Lib.Hide
namespace Go.Proofs.Ythbjjjcppijcbaa
open Go.RowKit Pal

set_option maxRecDepth 100000 in
set_option maxHeartbeats 1000000 in
/-- Two slices of texts, held against each other. -/
theorem Texts_any (u v : Value) (l m : List ByteArray) (b1 b2 : Nat) (w : World) (hu : Strs w b1 u l) (hv : Strs w b2 v m) :
    Calls Try.prog 31 #[u, v] w fun e w' => e = .returned (.bool (decide (l = m))) ∧ Chg (fun _ => False) w w' := by
  obtain ⟨pu, cu, rfl, hlu, hcu, _⟩ := hu.is
  obtain ⟨pv, cv, rfl, hlv, hcv, _⟩ := hv.is
  unfold maxLen at hcu hcv
  by_cases hlen : l.length = m.length
  · have hb : ((l.length : Int) == (m.length : Int)) = true := by rw [beq_iff_eq]; omega
    have HL := Lib.hid hlen
    rw [← hlen] at hv hlv ⊢
    obtain ⟨n, hn⟩ : ∃ n, l.length = n := ⟨_, rfl⟩
    rw [hn] at hu hv hlu hlv ⊢
    have HN := Lib.hid hn
    clear hlen hb hn
    go_enter Try.func31, Try.ntmps31
    go_wp2_with fail
    go_loopw [5] (fun i wr => ∃ k : Nat, k ≤ n ∧ i = .int .i64 k ∧ l.take k = m.take k ∧ Chg (fun _ => False) w wr) (fun i _ => n - (intOf i).toNat)
    case atStart => exact ⟨0, Nat.zero_le _, rfl, rfl, Chg.refl _ _⟩
    case round =>
      obtain ⟨k, hk, rfl, ht, hC⟩ := hrel
      by_cases hlt : k < n
      · have hlt' : (k : Int) < (n : Int) := by omega
        have hkl : k < l.length := by rw [HN.out]; exact hlt
        have hkm : k < m.length := by rw [← HL.out, HN.out]; exact hlt
        obtain ⟨gu, rfl, _, lu, qu⟩ := (hu.chg hC fun _ _ => id).at_ hkl
        obtain ⟨gv, rfl, _, lv, qv⟩ := (hv.chg hC fun _ _ => id).at_ hkm
        have hls := List.take_succ_eq_append_getElem hkl
        have hms := List.take_succ_eq_append_getElem hkm
        by_cases he : l[k] = m[k]
        · rw [he] at qu
          have HT : Hid (l.take (k + 1) = m.take (k + 1)) := by show _ = _; rw [hls, hms, ht, he]
          have he2 := toList_eq m[k]
          generalize m[k] = mk at qu qv he2
          clear hls hms ht he
          go_wp2_with fail
          go_quiet (fail)
          go_wp2_with fail
          go_roundw
          case rel => exact ⟨k + 1, by omega, by go_num, HT.out, hC.trans ((Chg.refl _ _).drewN _)⟩
          case measure => simp [intOf]; omega
        · have HT : Hid (decide (l = m) = false) := by
            show _ = _
            rw [decide_eq_false_iff_not]
            intro e
            subst e
            exact he rfl
          have he2 := toList_ne he
          generalize m[k] = mk at qv he he2
          generalize l[k] = lk at qu he he2
          clear hls hms ht
          go_wp2_with fail
          go_quiet (fail)
          go_wp2_with fail
          go_ret
          exact ⟨by rw [HT.out]; rfl, hC.trans ((Chg.refl _ _).drewN _)⟩
      · have hge : ((k : Int) < (n : Int)) = False := by simp only [eq_iff_iff, iff_false]; omega
        have hkn : k = n := by omega
        have HT : Hid (decide (l = m) = true) := by
          show _ = _
          rw [decide_eq_true_iff]
          rw [List.take_of_length_le (by rw [HN.out]; omega), List.take_of_length_le (by rw [← HL.out, HN.out]; omega)] at ht
          exact ht
        clear ht hkn hlt
        go_wp2_with fail
        go_ret
        exact ⟨by rw [HT.out]; rfl, hC⟩
  · have hb : ((l.length : Int) == (m.length : Int)) = false := by rw [beq_eq_false_iff_ne]; omega
    have hb2 : ¬ (l.length : Int) = (m.length : Int) := by omega
    have HT : Hid (decide (l = m) = false) := by
      show _ = _
      rw [decide_eq_false_iff_not]
      intro e
      exact hlen (by rw [e])
    clear hlen
    go_enter Try.func31, Try.ntmps31
    go_wp2_with fail
    go_ret
    exact ⟨by rw [HT.out]; rfl, Chg.refl _ _⟩

end Go.Proofs.Ythbjjjcppijcbaa
