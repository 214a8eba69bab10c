/- The functions of paliolaw07 that its statements share. -/
import Derived.Test.YthbjjjcppijcbaaOWint
import Derived.Test.YthbjjjcppijcbaaACint
namespace Go.Proofs.Ythbjjjcppijcbaa
open Go.RowKit Pal Dint

set_option maxHeartbeats 400000 in
theorem key7_any (s : ByteArray) (w : World) (hs : s.size ≤ 9223372036854775807) :
    Calls Try.prog 16 #[.string s] w fun e w' => e = .returned (.string (cutS s 12)) ∧ w = w' := by
  by_cases h : 12 < s.size
  · have H : Hid (cutS s 12 = s.extract 0 12) := if_pos h
    have hm : min (s.size : Int) 12 = 12 := by omega
    go_enter Try.func16, Try.ntmps16
    go_wp2
    go_ret
    exact ⟨by rw [H.out]; rfl, rfl⟩
  · have H : Hid (cutS s 12 = s) := if_neg h
    have hm : min (s.size : Int) 12 = s.size := by omega
    go_enter Try.func16, Try.ntmps16
    go_wp2
    go_ret
    exact ⟨by rw [H.out]; simp, rfl⟩

/-- A dict, and a block b that is not its own, behind a call. -/
theorem mine_next {n : Nat} {w0 W W' : World} {d d' : Dm} {b : Nat} {t : TypeId} {cs : Array Value} (h : Mine n W d) (hn : w0.heap.size = n) (hc : Chg (fun _ => False) w0 W) (hb : Blk W b t cs) (hf : ¬ d.foot b) (x : Nx d d' W W') :
    Mine n W' d' ∧ Chg (fun _ => False) w0 W' ∧ Blk W' b t cs ∧ ¬ d'.foot b :=
  ⟨h.nx (by have := hc.size; omega) x, h.old hn hc x, hb.chg x.chg hf, fun h' => (x.foot b h').elim hf fun h'' => absurd hb.lt (by omega)⟩

set_option maxRecDepth 100000 in
set_option maxHeartbeats 1000000 in
theorem shown07_any (w : World) : Calls Try.prog 14 #[] w fun e w' => e = .returned (.bool true) ∧ Chg (fun _ => False) w w' := by
  go_enter Try.func14, Try.ntmps14
  go_wp2_with fail
  refine (New_i 7 (by omega) _).mono ?_
  rintro e w0 ⟨d0, rfl, hD, hOk, _, hn0, hl0, hs0, hf0, hc0⟩
  unfold ptr
  go_wp2_with fail
  have B0 : Blk (w0.alloc (Obj.cells #[Value.string ⟨#[97]⟩, .string ⟨#[98]⟩, .string ⟨#[99]⟩, .string ⟨#[100]⟩, .string ⟨#[101]⟩] 9)) w0.heap.size 9 #[Value.string ⟨#[97]⟩, .string ⟨#[98]⟩, .string ⟨#[99]⟩, .string ⟨#[100]⟩, .string ⟨#[101]⟩] := Blk.new _ _ _
  have C0 : Chg (fun _ => False) w (w0.alloc (Obj.cells #[Value.string ⟨#[97]⟩, .string ⟨#[98]⟩, .string ⟨#[99]⟩, .string ⟨#[100]⟩, .string ⟨#[101]⟩] 9)) := hc0.alloc _
  have m0 : Mine w.heap.size (w0.alloc (Obj.cells #[Value.string ⟨#[97]⟩, .string ⟨#[98]⟩, .string ⟨#[99]⟩, .string ⟨#[100]⟩, .string ⟨#[101]⟩] 9)) d0 := ⟨hD.chg0 ((Chg.refl _ _).alloc _), hOk, hf0⟩
  have f0 : ¬ d0.foot w0.heap.size := fun h => Nat.lt_irrefl _ (hD.lt h)
  generalize w0.alloc (Obj.cells #[Value.string ⟨#[97]⟩, .string ⟨#[98]⟩, .string ⟨#[99]⟩, .string ⟨#[100]⟩, .string ⟨#[101]⟩] 9) = W0 at B0 C0 m0 ⊢
  obtain ⟨b, hb⟩ : ∃ b, w0.heap.size = b := ⟨_, rfl⟩
  rw [hb] at B0 f0 ⊢
  have N0 := Lib.hid hn0
  have L0 := Lib.hid hl0
  have S0 := Lib.hid hs0
  obtain ⟨db, D0⟩ : ∃ db, Hid (d0.blk = db) := ⟨_, rfl⟩
  rw [D0.out]
  clear hD hOk hf0 hc0 hb hn0 hl0 hs0
  refine wp_loop_rounds 6 ?_
  rw [rounds_succ]
  have q0 := B0.cell 0
  simp only [List.getElem?_toArray, List.getElem?_cons_zero, List.getElem?_cons_succ] at q0
  have g0 := Set_i d0 ⟨#[97]⟩ (.int .i64 0) W0 m0.dm m0.ok (by decide) ⟨_, rfl⟩ (by rw [N0.out]; decide)
  have E0 : d0.look ⟨#[97]⟩ = none := by exact L0.out _
  rw [E0, D0.out] at g0
  unfold ptr at g0
  clear E0
  go_wp2_with fail
  refine g0.mono ?_
  clear q0 g0
  rintro e W1 ⟨rfl, d1, x1, hl1, hn1, hs1⟩
  obtain ⟨m1, C1, B1, f1⟩ := mine_next m0 rfl C0 B0 f0 x1
  have L1 := Lib.hid hl1
  have N1 : Hid (d1.n = 1) := hn1.trans (by rw [N0.out]; rfl)
  have S1 : Hid (Dint.shape d1 = (4, none, 0)) := hs1.trans (by rw [S0.out, N0.out]; decide +kernel)
  have D1 : Hid (d1.blk = db) := x1.blk.trans D0.out
  clear hl1 hn1 hs1 x1 m0 C0 B0 f0 N0 S0 D0
  go_wp2_with fail
  rw [rounds_succ]
  have q1 := B1.cell 1
  simp only [List.getElem?_toArray, List.getElem?_cons_zero, List.getElem?_cons_succ] at q1
  have g1 := Set_i d1 ⟨#[98]⟩ (.int .i64 1) W1 m1.dm m1.ok (by decide) ⟨_, rfl⟩ (by rw [N1.out]; decide)
  have E1 : d1.look ⟨#[98]⟩ = none := by rw [L1.out, if_neg (by decide)]; exact L0.out _
  rw [E1, D1.out] at g1
  unfold ptr at g1
  clear E1
  go_wp2_with fail
  refine g1.mono ?_
  clear q1 g1
  rintro e W2 ⟨rfl, d2, x2, hl2, hn2, hs2⟩
  obtain ⟨m2, C2, B2, f2⟩ := mine_next m1 rfl C1 B1 f1 x2
  have L2 := Lib.hid hl2
  have N2 : Hid (d2.n = 2) := hn2.trans (by rw [N1.out]; rfl)
  have S2 : Hid (Dint.shape d2 = (4, none, 0)) := hs2.trans (by rw [S1.out, N1.out]; decide +kernel)
  have D2 : Hid (d2.blk = db) := x2.blk.trans D1.out
  clear hl2 hn2 hs2 x2 m1 C1 B1 f1 N1 S1 D1
  go_wp2_with fail
  rw [rounds_succ]
  have q2 := B2.cell 2
  simp only [List.getElem?_toArray, List.getElem?_cons_zero, List.getElem?_cons_succ] at q2
  have g2 := Set_i d2 ⟨#[99]⟩ (.int .i64 2) W2 m2.dm m2.ok (by decide) ⟨_, rfl⟩ (by rw [N2.out]; decide)
  have E2 : d2.look ⟨#[99]⟩ = none := by rw [L2.out, if_neg (by decide)]; rw [L1.out, if_neg (by decide)]; exact L0.out _
  rw [E2, D2.out] at g2
  unfold ptr at g2
  clear E2
  go_wp2_with fail
  refine g2.mono ?_
  clear q2 g2
  rintro e W3 ⟨rfl, d3, x3, hl3, hn3, hs3⟩
  obtain ⟨m3, C3, B3, f3⟩ := mine_next m2 rfl C2 B2 f2 x3
  have L3 := Lib.hid hl3
  have N3 : Hid (d3.n = 3) := hn3.trans (by rw [N2.out]; rfl)
  have S3 : Hid (Dint.shape d3 = (4, none, 0)) := hs3.trans (by rw [S2.out, N2.out]; decide +kernel)
  have D3 : Hid (d3.blk = db) := x3.blk.trans D2.out
  clear hl3 hn3 hs3 x3 m2 C2 B2 f2 N2 S2 D2
  go_wp2_with fail
  rw [rounds_succ]
  have q3 := B3.cell 3
  simp only [List.getElem?_toArray, List.getElem?_cons_zero, List.getElem?_cons_succ] at q3
  have g3 := Set_i d3 ⟨#[100]⟩ (.int .i64 3) W3 m3.dm m3.ok (by decide) ⟨_, rfl⟩ (by rw [N3.out]; decide)
  have E3 : d3.look ⟨#[100]⟩ = none := by rw [L3.out, if_neg (by decide)]; rw [L2.out, if_neg (by decide)]; rw [L1.out, if_neg (by decide)]; exact L0.out _
  rw [E3, D3.out] at g3
  unfold ptr at g3
  clear E3
  go_wp2_with fail
  refine g3.mono ?_
  clear q3 g3
  rintro e W4 ⟨rfl, d4, x4, hl4, hn4, hs4⟩
  obtain ⟨m4, C4, B4, f4⟩ := mine_next m3 rfl C3 B3 f3 x4
  have L4 := Lib.hid hl4
  have N4 : Hid (d4.n = 4) := hn4.trans (by rw [N3.out]; rfl)
  have S4 : Hid (Dint.shape d4 = (4, none, 0)) := hs4.trans (by rw [S3.out, N3.out]; decide +kernel)
  have D4 : Hid (d4.blk = db) := x4.blk.trans D3.out
  clear hl4 hn4 hs4 x4 m3 C3 B3 f3 N3 S3 D3
  go_wp2_with fail
  rw [rounds_succ]
  have q4 := B4.cell 4
  simp only [List.getElem?_toArray, List.getElem?_cons_zero, List.getElem?_cons_succ] at q4
  have g4 := Set_i d4 ⟨#[101]⟩ (.int .i64 4) W4 m4.dm m4.ok (by decide) ⟨_, rfl⟩ (by rw [N4.out]; decide)
  have E4 : d4.look ⟨#[101]⟩ = none := by rw [L4.out, if_neg (by decide)]; rw [L3.out, if_neg (by decide)]; rw [L2.out, if_neg (by decide)]; rw [L1.out, if_neg (by decide)]; exact L0.out _
  rw [E4, D4.out] at g4
  unfold ptr at g4
  clear E4
  go_wp2_with fail
  refine g4.mono ?_
  clear q4 g4
  rintro e W5 ⟨rfl, d5, x5, hl5, hn5, hs5⟩
  obtain ⟨m5, C5, B5, f5⟩ := mine_next m4 rfl C4 B4 f4 x5
  have L5 := Lib.hid hl5
  have N5 : Hid (d5.n = 5) := hn5.trans (by rw [N4.out]; rfl)
  have S5 : Hid (Dint.shape d5 = (4, some 8, 0)) := hs5.trans (by rw [S4.out, N4.out]; decide +kernel)
  have D5 : Hid (d5.blk = db) := x5.blk.trans D4.out
  clear hl5 hn5 hs5 x5 m4 C4 B4 f4 N4 S4 D4
  go_wp2_with fail
  rw [rounds_succ]
  go_wp2_with fail
  have g5 := Sizes_i d5 W5 m5.dm
  rw [S5.out, D5.out] at g5
  unfold ptr at g5
  refine g5.mono ?_
  clear g5
  rintro e W6 ⟨rfl, c6⟩
  have m6 := m5.chg0 c6
  have C6 := C5.trans c6
  clear m5 C5 B5 f5
  have g6 := Get_i d5 ⟨#[99]⟩ W6 m6.dm m6.ok (by decide)
  have E6 : d5.look ⟨#[99]⟩ = some (.int .i64 2) := by rw [L5.out, if_neg (by decide)]; rw [L4.out, if_neg (by decide)]; rw [L3.out, if_pos rfl]
  rw [E6, D5.out] at g6
  unfold ptr at g6
  clear E6
  simp only [Option.getD_some, Option.getD, Option.isSome_some, Int.ofNat_eq_natCast] at *
  go_wp2_with fail
  refine g6.mono ?_
  clear g6
  rintro e W7 ⟨rfl, d7, x7, hl7, hn7, hs7⟩
  have m7 := m6.nx C6.size x7
  have C7 := m6.old rfl C6 x7
  have g7 := len_any d7 W7 m7.dm
  rw [hn7, N5.out, x7.blk, D5.out] at g7
  unfold ptr at g7
  clear hl7 hn7 hs7 x7
  go_wp2_with fail
  refine g7.mono ?_
  rintro e W8 ⟨rfl, rfl⟩
  go_wp2_with fail
  go_ret
  exact ⟨rfl, C7⟩

end Go.Proofs.Ythbjjjcppijcbaa
