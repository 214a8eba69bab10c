/- Texts joined for ZsetFull: ZNI, ZFU, ZsetFull. -/
import Derived.Test.YtifcpippfiglkaaGreatJZsetWaysa
import Derived.Test.YtifcpippfiglkaaGreatJZsetWaysq
set_option linter.unusedVariables false
set_option linter.unusedSimpArgs false

/- zset: a nil set. -/
namespace Go.Proofs.YtifcpippfiglkaaGreat
open Go.RowKit Pal
attribute [local go_sem] Oper.semAt_some
section
variable (w : World)
set_option maxRecDepth 100000 in
theorem nil_add (m : ByteArray) (s lv : Int) : Calls Tryz.prog 13 #[.pointer none, .string m, .int .i64 s, .int .i64 lv] w fun r w' => r = .returned (.tuple #[.bool false, .int .i64 1]) ∧ w = w' := by
  go_enter Tryz.func13, Tryz.ntmps13
  go_wp2_with fail
  go_ret2
  exact ⟨rfl, rfl⟩
theorem nil_score (m : ByteArray) : Calls Tryz.prog 27 #[.pointer none, .string m] w fun r w' => r = .returned (.tuple #[.int .i64 0, .bool false]) ∧ w = w' := by
  go_enter Tryz.func27, Tryz.ntmps27
  go_wp2_with fail
  go_ret2
  exact ⟨rfl, rfl⟩
theorem nil_rank (m : ByteArray) : Calls Tryz.prog 26 #[.pointer none, .string m] w fun r w' => r = .returned (.tuple #[.int .i64 0, .bool false]) ∧ w = w' := by
  have hs := fun w => nil_score w m
  go_enter Tryz.func26, Tryz.ntmps26
  go_wp2_with (go_at_call 27; refine (hs _).mono ?_; rintro r w1 ⟨rfl, rfl⟩)
  go_ret2
  exact ⟨rfl, rfl⟩
theorem nil_remove (m : ByteArray) : Calls Tryz.prog 14 #[.pointer none, .string m] w fun r w' => r = .returned (.bool false) ∧ w = w' := by
  have hs := fun w => nil_score w m
  go_enter Tryz.func14, Tryz.ntmps14
  go_wp2_with (go_at_call 27; refine (hs _).mono ?_; rintro r w1 ⟨rfl, rfl⟩)
  go_ret
  exact ⟨rfl, rfl⟩
theorem nil_len : Calls Tryz.prog 16 #[.pointer none] w fun r w' => r = .returned (.int .i64 0) ∧ w = w' := by
  go_enter Tryz.func16, Tryz.ntmps16
  go_wp2_with fail
  go_ret
  exact ⟨rfl, rfl⟩
theorem nil_range (i j : Int) : Calls Tryz.prog 20 #[.pointer none, .int .i64 i, .int .i64 j] w fun r w' => r = .returned (.slice none 0 0) ∧ w = w' := by
  go_enter Tryz.func20, Tryz.ntmps20
  go_wp2_with fail
  go_ret
  exact ⟨rfl, rfl⟩
theorem nil_cut (i j : Int) : Calls Tryz.prog 28 #[.pointer none, .int .i64 i, .int .i64 j] w fun r w' => r = .returned (.int .i64 0) ∧ w = w' := by
  go_enter Tryz.func28, Tryz.ntmps28
  go_wp2_with fail
  go_ret
  exact ⟨rfl, rfl⟩
theorem nil_encoding : Calls Tryz.prog 15 #[.pointer none] w fun r w' => r = .returned (.string ⟨#[]⟩) ∧ w = w' := by
  go_enter Tryz.func15, Tryz.ntmps15
  go_wp2_with fail
  go_ret
  exact ⟨rfl, rfl⟩
theorem nil_bytes : Calls Tryz.prog 23 #[.pointer none] w fun r w' => r = .returned (.int .i64 0) ∧ w = w' := by
  go_enter Tryz.func23, Tryz.ntmps23
  go_wp2_with fail
  go_ret
  exact ⟨rfl, rfl⟩
set_option maxRecDepth 100000 in
theorem nil_between (a b : Array Value) : Calls Tryz.prog 30 #[.pointer none, .agg a, .agg b] w fun r w' => r = .returned (.tuple #[.int .i64 0, .int .i64 0]) ∧ Chg (fun _ => False) w w' := by
  go_enter Tryz.func30, Tryz.ntmps30
  go_wp2_with fail
  go_ret2
  exact ⟨rfl, ((Chg.refl _ _).alloc _).alloc _⟩
end
end Go.Proofs.YtifcpippfiglkaaGreat

/- Four hundred members, in plain words. -/
namespace Go.Proofs.YtifcpippfiglkaaGreat
open Go.RowKit Pal

def memN (k : Nat) : ByteArray := ⟨([UInt8.ofNat k, UInt8.ofNat (k / 256)] : List UInt8).toArray⟩
theorem memN_inj {a b : Nat} (ha : a < 1000) (hb : b < 1000) (h : memN a = memN b) : a = b := by
  unfold memN at h
  injection h with h
  have h := congrArg Array.toList h
  simp only [List.cons.injEq, and_true] at h
  have h1 := congrArg UInt8.toNat h.1
  have h2 := congrArg UInt8.toNat h.2
  simp only [UInt8.toNat_ofNat'] at h1 h2
  omega
theorem memN_size (k : Nat) : (memN k).size = 2 := rfl
def fullE (k : Nat) : List En := (List.range k).map fun j => ⟨memN j, (j : Int)⟩
theorem fullE_len (k : Nat) : (fullE k).length = k := by unfold fullE; simp
theorem fullE_mem {k : Nat} {e : En} (h : e ∈ fullE k) : ∃ j, j < k ∧ e = ⟨memN j, (j : Int)⟩ := by
  unfold fullE at h
  obtain ⟨j, hj, rfl⟩ := List.mem_map.1 h
  exact ⟨j, List.mem_range.1 hj, rfl⟩
theorem fullE_none {k i : Nat} (hk : k ≤ i) (hi : i < 1000) : lookE (fullE k) (memN i) = none := by
  rw [lookE_none]
  intro h
  obtain ⟨e, he, h2⟩ := List.mem_map.1 h
  obtain ⟨j, hj, rfl⟩ := fullE_mem he
  have := memN_inj (by omega) hi h2
  omega
theorem fullE_succ (k : Nat) : fullE (k + 1) = fullE k ++ [⟨memN k, (k : Int)⟩] := by unfold fullE; rw [List.range_succ, List.map_append]; rfl
theorem fullE_add {i : Nat} {lv : Int} (hi : i < 1000) (hl : 1 ≤ lv ∧ lv ≤ 32) : addL (fullE (min i 400)) (memN i) (i : Int) lv = fullE (min (i + 1) 400) ∧ addR (fullE (min i 400)) (memN i) lv = (decide (i < 400), if i < 400 then 0 else 51) := by
  have hn := fullE_none (k := min i 400) (i := i) (Nat.min_le_left _ _) hi
  have h1 : ¬ (64 < (memN i).size ∨ lv < 1 ∨ 32 < lv) := by rw [memN_size]; omega
  unfold addL addR addNo
  rw [if_neg h1, fullE_len, hn]
  by_cases h : i < 400
  · rw [if_neg (by omega), Nat.min_eq_left (by omega), Nat.min_eq_left (by omega)]
    rw [Nat.min_eq_left (by omega)] at hn
    refine ⟨?_, by simp [h]⟩
    unfold putE
    rw [dropM_none hn, fullE_succ]
    unfold insE
    rw [ahead_all, List.take_length, List.drop_length]
    intro x hx
    obtain ⟨j, hj, rfl⟩ := fullE_mem hx
    exact .inl (by show (j : Int) < (i : Int); omega)
  · rw [if_pos ⟨rfl, by omega⟩, Nat.min_eq_right (by omega), Nat.min_eq_right (by omega)]
    exact ⟨rfl, by simp [h]⟩
theorem fullE_last (n : Nat) (h : 1 ≤ n) (hz : (fullE n).length ≤ 400) : addR (fullE n) (memN 0) 1 = (false, 0) := by
  have hl : (lookE (fullE n) (memN 0)).isSome = true := by
    cases hl : lookE (fullE n) (memN 0) with
    | some s => rfl
    | none =>
      exfalso
      rw [lookE_none] at hl
      apply hl
      unfold fullE
      rw [List.mem_map]
      exact ⟨⟨memN 0, 0⟩, List.mem_map.2 ⟨0, List.mem_range.2 (by omega), rfl⟩, rfl⟩
  obtain ⟨s, hs⟩ := Option.isSome_iff_exists.1 hl
  unfold addR addNo
  rw [if_neg (by rw [memN_size]; omega), if_neg (by rw [hs]; simp), hs]
  rfl
theorem memN_conv (W : World) (A i : Nat) (hA : Blk W A 5 #[.int .u8 ((i : Int) % 256), .int .u8 ((i : Int) / 256 % 256)]) : (convert 61 9 (.slice (some ⟨A, 0, none⟩) 2 2)).run Tryz.prog W = .ok (.string (memN i)) W := by
  refine Go.run_convert_bytes_back (P := Tryz.prog) W 61 9 5 ⟨A, 0, none⟩ 2 [UInt8.ofNat i, UInt8.ofNat (i / 256)] Tryz.underlying61 Tryz.underlying5 Tryz.underlying9 (fun j hj => ?_)
  have hj : j < 2 := hj
  rw [addr_add', Nat.zero_add, hA.cell]
  match j, hj with
  | 0, _ =>
    show some (Value.int .u8 ((i : Int) % 256)) = some (.int .u8 ((UInt8.ofNat i).toNat : Int))
    rw [UInt8.toNat_ofNat']; congr 2
  | 1, _ =>
    show some (Value.int .u8 ((i : Int) / 256 % 256)) = some (.int .u8 ((UInt8.ofNat (i / 256)).toNat : Int))
    rw [UInt8.toNat_ofNat']; congr 2
end Go.Proofs.YtifcpippfiglkaaGreat

/- The walk of ZsetFull. -/
namespace Go.Proofs.YtifcpippfiglkaaGreat.zsetFull
open Go.RowKit Pal
attribute [local go_sem] Oper.semAt_some
theorem and3 (x : Int) : ∃ i : Nat, i < 4 ∧ bits BinOp.and IntKind.i64 x 3 = (i : Int) := by
  have h : (BitVec.ofInt 64 x &&& BitVec.ofInt 64 3).toNat < 4 := by
    rw [BitVec.toNat_and]
    exact Nat.lt_of_le_of_lt Nat.and_le_right (by decide)
  refine ⟨(BitVec.ofInt 64 x &&& BitVec.ofInt 64 3).toNat, h, ?_⟩
  have e : bits BinOp.and IntKind.i64 x 3 = IntKind.i64.wrap (((BitVec.ofInt 64 x &&& BitVec.ofInt 64 3).toNat : Nat) : Int) := rfl
  rw [e]
  generalize (BitVec.ofInt 64 x &&& BitVec.ofInt 64 3).toNat = t at h ⊢
  exact IntWalk.i64_in _ (by omega)
def Inv (wb : World) (b E M n : Nat) (k : Nat) (iv : Value) (W : World) : Prop := ∃ (i : Nat) (z : Zs) (is : Bool), iv = .int .i64 (i : Int) ∧ k = n - i ∧ i ≤ n ∧ Ow wb W b z (fullE (min i 400)) is E M

set_option maxRecDepth 100000 in
set_option maxHeartbeats 8000000 in
theorem walk (A0 A1 n0 : Int) (m : ByteArray) (hm : m.size ≤ 9223372036854775807) (w : World) :
    Calls Tryz.prog 7 #[.agg #[.int .i64 A0, .int .i64 A1], .int .i64 n0, .string m] w fun e w' => e = .returned (.bool true) ∧ Chg (fun _ => False) w w' := by
  have hsh := fun w => shown11_any w
  obtain ⟨wb, hwb⟩ : ∃ wb, wb = w.alloc (.cells #[.int .i64 A0, .int .i64 A1] 23) := ⟨_, rfl⟩
  have hCb := (Chg.refl (fun _ => False) w).alloc (.cells #[.int .i64 A0, .int .i64 A1] 23)
  have hx1 := Blk.new w 23 #[.int .i64 A0, .int .i64 A1]
  rw [← hwb] at hCb hx1
  have hg1 : ∀ W', Chg (fun _ => False) wb W' → W'.cell? ⟨w.heap.size, 0, none⟩ = some (.int .i64 A0) ∧ W'.cell? ⟨w.heap.size, 1, none⟩ = some (.int .i64 A1) ∧ w.heap.size < W'.heap.size := fun W' hc => ⟨by have := (hx1.chg hc id).cell 0; simpa using this, by have := (hx1.chg hc id).cell 1; simpa using this, (hx1.chg hc id).lt⟩
  have hCw : ∀ W', Chg (fun _ => False) wb W' → Chg (fun _ => False) w W' := fun W' hc => hCb.trans hc
  by_cases hn : 390 ≤ n0 ∧ n0 ≤ 410
  · obtain ⟨hn1, hn2⟩ := hn
    obtain ⟨n, rfl⟩ : ∃ n : Nat, n0 = (n : Int) := ⟨n0.toNat, by omega⟩
    have f1 : ¬ (n : Int) < 390 := by omega
    have f2 : ¬ (410 : Int) < (n : Int) := by omega
    have hnw := fun (W : World) (hc : Chg (fun _ => False) wb W) => ow_new hc A0 A1 5 (by omega)
    generalize clampL 200 A0 = E at hnw
    generalize clampL 64 A1 = M at hnw
    have hn3 : n ≤ 410 := by omega
    have hn4 : 390 ≤ n := by omega
    unfold pt at hnw
    clear hx1 hn1 hn2
    go_enter Tryz.func7, Tryz.ntmps7
    go_wp2_with (first | (go_at_call 10; rw [← hwb]; refine (hsh _).mono ?_; rintro r w1 ⟨rfl, hC1⟩; obtain ⟨x0, x1, x2⟩ := hg1 _ hC1) | (go_at_call 11; refine (hnw _ hC1).mono ?_; rintro r w2 ⟨b, z0, rfl, h0, hC2, _⟩) | fail)
    clear hsh hnw hC2 x0 x1 x2 hg1 hwb hC1
    go_loopg [9] n (Inv wb b E M n)
    case atStart => exact ⟨0, z0, false, rfl, rfl, Nat.zero_le _, h0⟩
    case round =>
      clear h0
      obtain ⟨i, z, is, rfl, rfl, hi, hO⟩ := hrel
      by_cases hin : i < n
      · have i1 : (i : Int) < (n : Int) := by omega
        have i2 : (i : Int) ≤ 410 := by omega
        obtain ⟨k3, hk3, hy3⟩ := and3 (i : Int)
        have hlv : wrap64 (1 + bits BinOp.and IntKind.i64 (i : Int) 3) = 1 + (k3 : Int) := by rw [hy3]; unfold wrap64; omega
        clear hy3
        obtain ⟨lv, hlv2⟩ : ∃ lv : Int, lv = 1 + (k3 : Int) := ⟨_, rfl⟩
        have hlv3 : 1 ≤ lv ∧ lv ≤ 32 := by omega
        rw [← hlv2] at hlv
        clear hlv2
        obtain ⟨t1, t2⟩ := fullE_add (i := i) (by omega) hlv3
        have hadd := fun W (h : Ow wb W b z (fullE (min i 400)) is E M) => ow_add h (memN i) (i : Int) lv (by rw [memN_size]; omega) (by omega)
        rw [t1, t2] at hadd
        have hbk := memN_conv (wr.alloc (.cells #[.int .u8 ((i : Int) % 256), .int .u8 ((i : Int) / 256 % 256)] 5)) wr.heap.size i (Blk.new wr _ _)
        rw [show (i : Int) / 256 % 256 = (i : Int) / 256 by omega] at hbk
        clear t1 t2 hlv3
        unfold pt at hadd
        by_cases h4 : i < 400
        · have h4' : (i : Int) < 400 := by omega
          simp only [h4, if_true, decide_true] at hadd
          go_wp2_with (first | (go_at_call 13; refine (hadd _ (hO.chg0 ((Chg.refl _ wr).alloc _))).mono ?_; rintro r9 w3 ⟨rfl, z3, h3, _⟩) | fail)
          go_roundg (n - (i + 1))
          case measure => omega
          case rel => exact ⟨i + 1, z3, _, int_eq (by omega), rfl, by omega, h3⟩
        · have h4' : ¬ (i : Int) < 400 := by omega
          simp only [h4, if_false, decide_false] at hadd
          go_wp2_with (first | (go_at_call 13; refine (hadd _ (hO.chg0 ((Chg.refl _ wr).alloc _))).mono ?_; rintro r9 w3 ⟨rfl, z3, h3, _⟩) | fail)
          go_roundg (n - (i + 1))
          case measure => omega
          case rel => exact ⟨i + 1, z3, _, int_eq (by omega), rfl, by omega, h3⟩
      · obtain rfl : i = n := by omega
        have i1 : ¬ (i : Int) < (i : Int) := by omega
        have hlz : (addL (fullE (min i 400)) (memN 0) (-5) 1).length = min i 400 := by
          have hO' := hO.at_.ok
          have hr := fullE_last (min i 400) (by omega) hO'.n
          unfold addR at hr
          unfold addL
          cases hno : addNo (fullE (min i 400)) (memN 0) 1 with
          | some e => rw [hno] at hr; dsimp only; exact fullE_len _
          | none =>
            rw [hno] at hr
            dsimp only at hr ⊢
            injection hr with hr _
            rw [putE_len hO', if_pos (by simpa using hr), fullE_len]
        have hadd := fun W (h : Ow wb W b z (fullE (min i 400)) is E M) => ow_add h (memN 0) (-5) 1 (by rw [memN_size]; omega) (by omega)
        rw [fullE_last _ (by omega) hO.at_.ok.n] at hadd
        have hlen := fun W z is (h : Ow wb W b z (addL (fullE (min i 400)) (memN 0) (-5) 1) is E M) => ow_len h
        rw [hlz] at hlen
        have hmin : min (i : Int) 400 = ((min i 400 : Nat) : Int) := by omega
        have e0 : memN 0 = ⟨#[0, 0]⟩ := rfl
        rw [e0] at hadd hlen
        generalize addL (fullE (min i 400)) (⟨#[0, 0]⟩ : ByteArray) (-5) 1 = esl at hadd hlen
        generalize min i 400 = mn at *
        have n1 := fun w => nil_add w m 1 1
        have n2 := fun w => nil_score w m
        have n3 := fun w => nil_rank w m
        have n4 := fun w => nil_between w #[.int .i64 0, .bool false, .int .i64 0] #[.int .i64 0, .bool false, .int .i64 0]
        have n5 := fun w => nil_len w
        have n6 := fun w => nil_remove w m
        have n7 := fun w => nil_range w 0 9
        have n8 := fun w => nil_cut w 0 9
        have n9 := fun w => nil_encoding w
        have n10 := fun w => nil_bytes w
        have s1 := toListE ⟨#[]⟩
        unfold pt at hadd hlen
        clear hlz e0 hn3 hn4 f1 f2
        go_wp2_with (first
          | (go_at_call 13; refine (hadd _ hO).mono ?_; rintro r9 w3 ⟨rfl, z3, h3, _⟩; clear hadd)
          | (go_at_call 13; refine (n1 _).mono ?_; rintro r9 w9 ⟨rfl, rfl⟩)
          | (go_at_call 27; refine (n2 _).mono ?_; rintro r9 w9 ⟨rfl, rfl⟩)
          | (go_at_call 26; refine (n3 _).mono ?_; rintro r9 w9 ⟨rfl, rfl⟩)
          | (go_at_call 30; refine (n4 _).mono ?_; rintro r9 w4 ⟨rfl, hC4⟩)
          | (go_at_call 16; refine (hlen _ _ _ (h3.chg0 hC4)).mono ?_; rintro r9 w5 ⟨rfl, hC5⟩; clear hlen)
          | (go_at_call 16; refine (n5 _).mono ?_; rintro r9 w9 ⟨rfl, rfl⟩)
          | (go_at_call 14; refine (n6 _).mono ?_; rintro r9 w9 ⟨rfl, rfl⟩)
          | (go_at_call 20; refine (n7 _).mono ?_; rintro r9 w9 ⟨rfl, rfl⟩)
          | (go_at_call 28; refine (n8 _).mono ?_; rintro r9 w9 ⟨rfl, rfl⟩)
          | (go_at_call 15; refine (n9 _).mono ?_; rintro r9 w9 ⟨rfl, rfl⟩)
          | (go_at_call 23; refine (n10 _).mono ?_; rintro r9 w9 ⟨rfl, rfl⟩)
          | fail)
        go_ret
        exact ⟨rfl, hCw _ (h3.chg.trans (hC4.trans hC5))⟩
  · have hcs : n0 < 390 ∨ (¬ n0 < 390 ∧ 410 < n0) := by omega
    clear hn hx1
    rcases hcs with g1 | ⟨g1, g2⟩ <;>
    · go_enter Tryz.func7, Tryz.ntmps7
      go_wp2_with (first | (go_at_call 10; rw [← hwb]; refine (hsh _).mono ?_; rintro r w1 ⟨rfl, hC1⟩) | fail)
      go_ret
      exact ⟨rfl, hCb.trans hC1⟩
set_option maxRecDepth 100000 in
theorem ZsetFull_walk (W : World) {H : Type} {enc : TypeId × Value → H} {v0 : Value} {d0 : DataW H} {p0 : List MemPlace} (hv0 : Value.okWide Tryz.prog W .any 0 23 v0) (h0 : DataW.Trod enc Tryz.prog W 0 (fun _ => true) true 23 v0 d0 p0)
    (a1 : Int) (w1 : (Lit.int .i64 a1).wf = true) (a2 : ByteArray) (w2 : a2.size ≤ maxLen) :
    Calls Tryz.prog 7 #[v0, .int .i64 a1, .string a2] W fun e w' => e = .returned (.bool true) ∧ Chg (fun _ => False) W w' := by
  obtain ⟨A0, A1, rfl, _, _⟩ := open_limits hv0 h0
  exact walk A0 A1 a1 a2 w2 W
end Go.Proofs.YtifcpippfiglkaaGreat.zsetFull
