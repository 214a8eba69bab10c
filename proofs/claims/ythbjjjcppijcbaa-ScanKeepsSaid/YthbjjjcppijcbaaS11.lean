/- Acts, with what they leave alone. -/
import Derived.Test.YthbjjjcppijcbaaS10
namespace Go.Proofs.Ythbjjjcppijcbaa
open Go.RowKit Pal Dint

/-- What a call on d leaves alone. -/
structure Far (d d' : Dm) (w w' : World) : Prop where
  seed : d'.seed = d.seed
  chg : Chg d.foot w w'
  foot : ∀ g, d'.foot g → d.foot g ∨ w.heap.size ≤ g
theorem far_of {d d' : Dm} {w w1 w' : World} (h : Nx d d' w1 w') (hc : Chg (fun _ => False) w w1) : Far d d' w w' :=
  ⟨h.seed, (hc.mono fun _ _ h => h.elim).trans h.chg, fun g hg => (h.foot g hg).imp id (Nat.le_trans hc.size)⟩

set_option maxRecDepth 100000 in
set_option maxHeartbeats 2000000 in
theorem acted_far {w0 W : World} {bd : Nat} {d : Dm} (h : One w0 W bd d) (x : Act3) (hk : x.Key.size ≤ 9223372036854775807) (hn : d.n ≤ 100000) :
    Calls Try.prog 35 #[.pointer (some ⟨bd, 0, none⟩), .agg #[.int .i64 x.Do, .string x.Key, .int .i64 x.V]] W fun e W' => (∃ v, e = .returned v) ∧ ∃ d', One w0 W' bd d' ∧ Far d d' W W' ∧ Acts x d d' := by
  have hks : (cutS x.Key 12).size ≤ 9223372036854775807 := Nat.le_trans (cutS_size _ _) hk
  obtain ⟨r, hr, hcase⟩ := mod8 x.Do
  have hbx := Blk.new W 28 #[.int .i64 x.Do, .string x.Key, .int .i64 x.V]
  have hc1 : Chg (fun _ => False) W (W.alloc (Obj.cells #[.int .i64 x.Do, .string x.Key, .int .i64 x.V] 28)) := (Chg.refl _ W).alloc _
  have ho := h.chg0 hc1
  have c0 := hbx.cell 0
  have c1 := hbx.cell 1
  have c2 := hbx.cell 2
  have f0 := hbx.lt
  simp only [List.getElem?_toArray, List.getElem?_cons_zero, List.getElem?_cons_succ] at c0 c1 c2
  have HR := Lib.hid hr
  rcases hcase with rfl | rfl | rfl | rfl | rfl | rfl | rfl | rfl
  · go_enter Try.func35, Try.ntmps35
    go_wp2_with fail
    go_region_with (first
      | (go_at_call 39; refine (key8_any _ _ hk).mono ?_; rintro e9 w9 ⟨rfl, rfl⟩)
      | (go_at_call 17; refine (set_1 (ho.chg0 ((Chg.refl _ _).drew)) (cutS x.Key 12) (.int .i64 x.V) hks ⟨_, rfl⟩ hn).mono ?_; rintro e5 W5 ⟨rfl, d', hT1, hN1, hP1, hs1⟩))
    all_goals
      go_wp2_with fail
      go_end0
      exact ⟨⟨_, rfl⟩, d', hT1, far_of hN1 (by first | exact hc1 | exact hc1.trans ((Chg.refl _ _).drew)), by unfold Acts; rw [HR.out]; exact .inl ⟨by decide, hP1, hs1⟩⟩
  · go_enter Try.func35, Try.ntmps35
    go_wp2_with fail
    go_region_with (first
      | (go_at_call 39; refine (key8_any _ _ hk).mono ?_; rintro e9 w9 ⟨rfl, rfl⟩)
      | (go_at_call 17; refine (set_1 (ho.chg0 ((Chg.refl _ _).drew)) (cutS x.Key 12) (.int .i64 x.V) hks ⟨_, rfl⟩ hn).mono ?_; rintro e5 W5 ⟨rfl, d', hT1, hN1, hP1, hs1⟩))
    all_goals
      go_wp2_with fail
      go_end0
      exact ⟨⟨_, rfl⟩, d', hT1, far_of hN1 (by first | exact hc1 | exact hc1.trans ((Chg.refl _ _).drew)), by unfold Acts; rw [HR.out]; exact .inl ⟨by decide, hP1, hs1⟩⟩
  · go_enter Try.func35, Try.ntmps35
    go_wp2_with fail
    go_region_with (first
      | (go_at_call 39; refine (key8_any _ _ hk).mono ?_; rintro e9 w9 ⟨rfl, rfl⟩)
      | (go_at_call 17; refine (set_1 (ho.chg0 ((Chg.refl _ _).drew)) (cutS x.Key 12) (.int .i64 x.V) hks ⟨_, rfl⟩ hn).mono ?_; rintro e5 W5 ⟨rfl, d', hT1, hN1, hP1, hs1⟩))
    all_goals
      go_wp2_with fail
      go_end0
      exact ⟨⟨_, rfl⟩, d', hT1, far_of hN1 (by first | exact hc1 | exact hc1.trans ((Chg.refl _ _).drew)), by unfold Acts; rw [HR.out]; exact .inl ⟨by decide, hP1, hs1⟩⟩
  · go_enter Try.func35, Try.ntmps35
    go_wp2_with fail
    go_region_with (first
      | (go_at_call 39; refine (key8_any _ _ hk).mono ?_; rintro e9 w9 ⟨rfl, rfl⟩)
      | (go_at_call 17; refine (set_1 (ho.chg0 ((Chg.refl _ _).drew)) (cutS x.Key 12) (.int .i64 x.V) hks ⟨_, rfl⟩ hn).mono ?_; rintro e5 W5 ⟨rfl, d', hT1, hN1, hP1, hs1⟩))
    all_goals
      go_wp2_with fail
      go_end0
      exact ⟨⟨_, rfl⟩, d', hT1, far_of hN1 (by first | exact hc1 | exact hc1.trans ((Chg.refl _ _).drew)), by unfold Acts; rw [HR.out]; exact .inl ⟨by decide, hP1, hs1⟩⟩
  · go_enter Try.func35, Try.ntmps35
    go_wp2_with fail
    refine (key8_any _ _ hk).mono ?_
    rintro e9 w9 ⟨rfl, rfl⟩
    go_wp2_with fail
    refine (get_1 ho (cutS x.Key 12) hks).mono ?_
    rintro e5 W5 ⟨rfl, d', hT1, hN1, hP1, hs1⟩
    go_wp2_with fail
    go_end0
    exact ⟨⟨_, rfl⟩, d', hT1, far_of hN1 (by first | exact hc1 | exact hc1.trans ((Chg.refl _ _).drew)), by unfold Acts; rw [HR.out]; exact .inr (.inl ⟨rfl, hP1, hs1⟩)⟩
  · go_enter Try.func35, Try.ntmps35
    go_wp2_with fail
    refine (key8_any _ _ hk).mono ?_
    rintro e9 w9 ⟨rfl, rfl⟩
    go_wp2_with fail
    refine (del_1 ho (cutS x.Key 12) hks hn).mono ?_
    rintro e5 W5 ⟨rfl, d', hT1, hN1, hP1, hs1⟩
    go_wp2_with fail
    go_end0
    exact ⟨⟨_, rfl⟩, d', hT1, far_of hN1 (by first | exact hc1 | exact hc1.trans ((Chg.refl _ _).drew)), by unfold Acts; rw [HR.out]; exact .inr (.inr (.inl ⟨.inl rfl, hP1, hs1⟩))⟩
  · go_enter Try.func35, Try.ntmps35
    go_wp2_with fail
    refine (key8_any _ _ hk).mono ?_
    rintro e9 w9 ⟨rfl, rfl⟩
    go_wp2_with fail
    refine (del_1 ho (cutS x.Key 12) hks hn).mono ?_
    rintro e5 W5 ⟨rfl, d', hT1, hN1, hP1, hs1⟩
    go_wp2_with fail
    go_end0
    exact ⟨⟨_, rfl⟩, d', hT1, far_of hN1 (by first | exact hc1 | exact hc1.trans ((Chg.refl _ _).drew)), by unfold Acts; rw [HR.out]; exact .inr (.inr (.inl ⟨.inr rfl, hP1, hs1⟩))⟩
  · go_enter Try.func35, Try.ntmps35
    go_wp2_with fail
    refine (step_1 ho (min x.V 100)).mono ?_
    rintro e5 W5 ⟨rfl, d', hT1, hN1, hP1, hs1⟩
    go_wp2_with fail
    go_end0
    exact ⟨⟨_, rfl⟩, d', hT1, far_of hN1 (by first | exact hc1 | exact hc1.trans ((Chg.refl _ _).drew)), by unfold Acts; rw [HR.out]; exact .inr (.inr (.inr ⟨rfl, hP1, hs1⟩))⟩

end Go.Proofs.Ythbjjjcppijcbaa
