/- Texts joined for ZsetWays: HS, DWint64, DW2int64, DPint64, DW3int64. -/
import Derived.Test.YtifcpippfiglkaaGreatJZsetWaysa
import Derived.OwnWalkIn
import Derived.TacticsInMore
import Derived.LoopNIn
import Derived.LoopIn
import Derived.Laws.MakeOwn
import Derived.Deep.QuietTactic
import Derived.BigQuiet
import Derived.Deep.LoopGhost
import Derived.StillTailTactics
import Derived.WalkSpells
import Derived.Deep.RegionWith
import Derived.Laws.OwnMore
import Derived.BigRegion
set_option linter.unusedVariables false
set_option linter.unusedSimpArgs false

/- Contracts of hash.Sum, hash.SizeFor and their references. -/
namespace Go.Proofs.YtifcpippfiglkaaGreat
open Go.RowKit Pal
attribute [local go_sem] Oper.semAt_some

set_option maxHeartbeats 400000 in
theorem sizes_any (w : World) : Calls Tryz.prog 109 #[] w fun e w' => e = .returned (.func (.func 124) #[] #[]) ∧ w = w' := by
  go_enter Tryz.func109, Tryz.ntmps109
  go_wp2
  go_ret
  exact ⟨rfl, rfl⟩

/-- The iterator over all sizes: J holds where the size k comes next. -/
theorem sizes1_any (l : Nat) (J : Int → World → Prop) (Jx : World → Prop)
    (hY : ∀ (d : Nat) (k : Int) W, k = ((2 ^ d : Nat) : Int) → 2 ≤ d → d ≤ 16 → J k W → YieldAt Fence.wide 2 Tryz.prog l #[.int .i64 k] W fun e W' =>
      (e = .returned (.bool true) ∧ J (2 * k) W') ∨ (e = .returned (.bool false) ∧ Jx W'))
    (W : World) (h0 : J 4 W) :
    Calls Tryz.prog 124 #[.func (.yield l) #[] #[]] W fun e W' => (∃ v, e = .returned v) ∧ (J 131072 W' ∨ Jx W') := by
  refine (callsIn_wide (n := 3)).1 ?_
  refine callsIn_of_wp Tryz.func124 rfl trivial ?_ rfl
  simp only [Tryz.ntmps124, List.size_toArray, List.length_cons, List.length_nil, Nat.reduceAdd, Nat.reduceSub, Array.replicate_succ, Array.replicate_zero, List.push_toArray, List.append_toArray, List.nil_append, List.cons_append]
  gi_wp2
  gi_loopw [2] (fun p wr => ∃ (d : Nat) (k : Int), p = .int .i64 k ∧ Hid (k = ((2 ^ d : Nat) : Int)) ∧ 2 ≤ d ∧ d ≤ 17 ∧ J k wr)
    (fun p wr => (131073 - intOf p).toNat)
  case atStart => exact ⟨2, 4, rfl, rfl, by omega, by omega, h0⟩
  case round =>
    obtain ⟨d, k, rfl, hk, hd2, hd17, hJ⟩ := hrel
    have hb : 4 ≤ k ∧ k ≤ 131072 := by
      have e := hk.out
      have h3 : (2 : Nat) ^ 2 ≤ 2 ^ d := pow_mono hd2
      have h4 : (2 : Nat) ^ d ≤ 2 ^ 17 := pow_mono hd17
      omega
    obtain ⟨hb1, hb2⟩ := hb
    by_cases hd : d = 17
    · have hk17 : k = 131072 := by rw [hk.out, hd]; decide
      subst hk17
      clear hd hk
      gi_wp2
      go_end0
      exact ⟨⟨_, rfl⟩, .inl hJ⟩
    · have hle : k ≤ 65536 := by
        have e := hk.out
        have h4 : (2 : Nat) ^ d ≤ 2 ^ 16 := pow_mono (by omega)
        omega
      obtain ⟨fn, tmps, assign, body, hy, hR⟩ := hY d k wr hk.out hd2 (by omega) hJ
      have hd' : d + 1 ≤ 17 := by omega
      clear hd
      gi_wp2
      refine hR.mono ?_
      rintro e W3 (⟨rfl, hJ3⟩ | ⟨rfl, hJx3⟩)
      · gi_wp2
        go_roundw
        case rel => exact ⟨d + 1, 2 * k, int_eq (by omega), show _ = _ by rw [Nat.pow_succ]; have := hk.out; omega, by omega, hd', hJ3⟩
        case measure => simp [intOf]; omega
      · gi_wp2
        refine bodyPost_ret (results_none rfl _ _ _) rfl ?_
        exact ⟨⟨_, rfl⟩, .inr hJx3⟩

set_option maxHeartbeats 400000 in
theorem sizeFor_any (n : Int) (w : World) :
    Calls Tryz.prog 103 #[.int .i64 n] w fun e w' => e = .returned (.int .i64 (sizeFor n : Int)) ∧ Chg (fun _ => False) w w' := by
  refine calls_of_wp_marks Tryz.func103 rfl ?_
  simp only [Tryz.ntmps103, List.size_toArray, List.length_cons, List.length_nil, Nat.reduceAdd, Nat.reduceSub, Array.replicate_succ, Array.replicate_zero, List.push_toArray, List.append_toArray, List.nil_append, List.cons_append]
  go_wp2_with fail
  go_step3
  go_wp2_with fail
  go_step3
  go_wp2_with (go_at_call 109; refine (sizes_any _).mono ?_; rintro e w' ⟨rfl, rfl⟩)
  have hb1 : Blk ((w.alloc (Obj.cells #[Value.int IntKind.i64 n] 3)).alloc (Obj.cells #[Value.int IntKind.i64 65536] 3)) w.heap.size 3 #[.int .i64 n] := (Blk.new _ _ _).alloc _
  have hb2 : Blk ((w.alloc (Obj.cells #[Value.int IntKind.i64 n] 3)).alloc (Obj.cells #[Value.int IntKind.i64 65536] 3)) (w.heap.size + 1) 3 #[.int .i64 65536] := by
    have := Blk.new (w.alloc (Obj.cells #[Value.int IntKind.i64 n] 3)) 3 #[Value.int IntKind.i64 65536]
    rwa [World.size_alloc] at this
  have hc0 : Chg (fun _ => False) w ((w.alloc (Obj.cells #[Value.int IntKind.i64 n] 3)).alloc (Obj.cells #[Value.int IntKind.i64 65536] 3)) := ((Chg.refl _ _).alloc _).alloc _
  have hsz : ((w.alloc (Obj.cells #[Value.int IntKind.i64 n] 3)).alloc (Obj.cells #[Value.int IntKind.i64 65536] 3)).heap.size > w.heap.size + 1 := by simp
  generalize hw0 : (w.alloc (Obj.cells #[Value.int IntKind.i64 n] 3)).alloc (Obj.cells #[Value.int IntKind.i64 65536] 3) = W0 at hb1 hb2 hc0 hsz ⊢
  clear hw0
  refine wp_range 124 #[] rfl (enters_of Tryz.func124 (by kernel_rfl) rfl) (fun fn rec hrec => ?_)
  refine (sizes1_any (W0.heap.size + 1)
    (fun k W => Blk W w.heap.size 3 #[.int .i64 n] ∧ Blk W (w.heap.size + 1) 3 #[.int .i64 65536] ∧ W.heap[W0.heap.size + 1]? = some (.loop (rec .ready none)) ∧ W.heap[W0.heap.size]? = some (.deferred (some [])) ∧ Chg (fun _ => False) w W ∧ SB n k)
    (fun W => Blk W (w.heap.size + 1) 3 #[.int .i64 (sizeFor n : Int)] ∧ W.heap[W0.heap.size + 1]? = some (.loop (rec .done (some (.exit 0)))) ∧ W.heap[W0.heap.size]? = some (.deferred (some [])) ∧ Chg (fun _ => False) w W)
    ?_ _ ?_).mono ?_
  · rintro d k W hkd hd2 hd16 ⟨hB1, hB2, hl, hD, hC, hS⟩
    have hb := hS.lo
    have hle : k ≤ 65536 := by
      have h4 : (2 : Nat) ^ d ≤ 2 ^ 16 := pow_mono hd16
      omega
    clear hkd
    refine yield_body hrec hl rfl (fun K hK => by gi_wp2; exact hK) hl ?_
    clear hrec
    have g1 : Blk (W.putObj (W0.heap.size + 1) (Obj.loop (rec LoopState.busy none))) w.heap.size 3 #[.int .i64 n] := hB1.putObj (by omega) _
    have g2 : Blk (W.putObj (W0.heap.size + 1) (Obj.loop (rec LoopState.busy none))) (w.heap.size + 1) 3 #[.int .i64 65536] := hB2.putObj (by omega) _
    have g3 : (W.putObj (W0.heap.size + 1) (Obj.loop (rec LoopState.busy none))).heap[W0.heap.size + 1]? = some (.loop (rec .busy none)) := World.putObj_heap_same (Array.getElem?_eq_some_iff.1 hl).1
    have g4 : (W.putObj (W0.heap.size + 1) (Obj.loop (rec LoopState.busy none))).heap[W0.heap.size]? = some (.deferred (some [])) := (World.putObj_heap_other (by omega)).trans hD
    have g5 : Chg (fun _ => False) w (W.putObj (W0.heap.size + 1) (Obj.loop (rec LoopState.busy none))) := hC.putObj (by intro h; omega) _
    generalize W.putObj (W0.heap.size + 1) (Obj.loop (rec LoopState.busy none)) = W1 at g1 g2 g3 g4 g5 ⊢
    clear hB1 hB2 hl hD hC hb1 hb2 hc0
    have c1 := g1.cell 0
    have c2 := g2.cell 0
    have f2 := g2.frozen 0
    simp only [List.getElem?_toArray, List.getElem?_cons_zero] at c1 c2
    by_cases hn : n ≤ k
    · have H := Lib.hid (hS.yes hle hn)
      clear hS
      gi_wp2
      refine ⟨?_, .inr ⟨rfl, ?_, ?_, ?_, ?_⟩⟩
      · exact (Below.heap_setCell _ _ _ _ (by simp; omega)).trans g3
      · rw [H.out]; exact (g2.set 0 _).putObj (by omega) _
      · exact World.putObj_heap_same (by rw [World.size_setCell]; exact (Array.getElem?_eq_some_iff.1 g3).1)
      · exact (World.putObj_heap_other (by omega)).trans ((Below.heap_setCell _ _ _ _ (by simp; omega)).trans g4)
      · exact (g5.setCell (by intro h; simp at h; omega) _).putObj (by intro h; omega) _
    · have H := Lib.hid (hS.next hle (by omega))
      clear hS
      gi_wp2
      refine ⟨g3, .inl ⟨rfl, g1.putObj (by omega) _, g2.putObj (by omega) _, World.putObj_heap_same (Array.getElem?_eq_some_iff.1 g3).1, (World.putObj_heap_other (by omega)).trans g4, g5.putObj (by intro h; omega) _, H.out⟩⟩
  · refine ⟨(hb1.alloc _).alloc _, (hb2.alloc _).alloc _, ?_, ?_, (hc0.alloc _).alloc _, SB.start n⟩
    · have := World.alloc_heap_new (W0.alloc (.deferred (some []))) (.loop (rec .ready none))
      rwa [World.size_alloc] at this
    · exact (Below.heap_alloc _ _ _ (by simp)).trans (World.alloc_heap_new _ _)
  · rintro e W ⟨⟨v, rfl⟩, (⟨hB1, hB2, hl, hD, hC, hS⟩ | ⟨hB2, hl, hD, hC⟩)⟩
    · have H := hS.no (by omega)
      refine ⟨⟨_, rfl⟩, .inl ⟨hl, ?_⟩⟩
      have g2 : Blk (W.putObj (W0.heap.size + 1) (Obj.loop (rec LoopState.exhausted none))) (w.heap.size + 1) 3 #[.int .i64 65536] := hB2.putObj (by omega) _
      have g4 : (W.putObj (W0.heap.size + 1) (Obj.loop (rec LoopState.exhausted none))).heap[W0.heap.size]? = some (.deferred (some [])) := (World.putObj_heap_other (by omega)).trans hD
      have g5 : Chg (fun _ => False) w (W.putObj (W0.heap.size + 1) (Obj.loop (rec LoopState.exhausted none))) := hC.putObj (by intro h; omega) _
      generalize W.putObj (W0.heap.size + 1) (Obj.loop (rec LoopState.exhausted none)) = W1 at g2 g4 g5 ⊢
      have c2 := g2.cell 0
      simp only [List.getElem?_toArray, List.getElem?_cons_zero] at c2
      rw [← H] at c2
      have H' := Lib.hid H
      clear H hS hl hD hC hB1 hB2 hb1 hb2 hc0 hrec
      go_wp2_with fail
      rw [Exit.noGoto_ret]
      exact bodyPostM_ret rfl g4 (results_tmp rfl _ _ _) ⟨rfl, g5.putObj (by intro h; omega) _⟩
    · refine ⟨⟨_, rfl⟩, .inr ⟨.exit 0, hl, ?_⟩⟩
      have g2 : Blk (W.putObj (W0.heap.size + 1) (Obj.loop (rec LoopState.exhausted (some (.exit 0))))) (w.heap.size + 1) 3 #[.int .i64 (sizeFor n : Int)] := hB2.putObj (by omega) _
      have g4 : (W.putObj (W0.heap.size + 1) (Obj.loop (rec LoopState.exhausted (some (.exit 0))))).heap[W0.heap.size]? = some (.deferred (some [])) := (World.putObj_heap_other (by omega)).trans hD
      have g5 : Chg (fun _ => False) w (W.putObj (W0.heap.size + 1) (Obj.loop (rec LoopState.exhausted (some (.exit 0))))) := hC.putObj (by intro h; omega) _
      generalize W.putObj (W0.heap.size + 1) (Obj.loop (rec LoopState.exhausted (some (.exit 0)))) = W1 at g2 g4 g5 ⊢
      have c2 := g2.cell 0
      simp only [List.getElem?_toArray, List.getElem?_cons_zero] at c2
      clear hl hD hC hB2 hb1 hb2 hc0 hrec
      go_wp2_with fail
      rw [Exit.noGoto_ret]
      exact bodyPostM_ret rfl g4 (results_tmp rfl _ _ _) ⟨rfl, g5.putObj (by intro h; omega) _⟩

set_option maxHeartbeats 400000 in
theorem each_any (s : ByteArray) (w : World) : Calls Tryz.prog 110 #[.string s] w fun e w' => e = .returned (.func (.func 125) #[] #[.pointer (some ⟨w.heap.size, 0, none⟩)]) ∧ w.alloc (.cells #[.string s] 9) = w' := by
  go_enter Tryz.func110, Tryz.ntmps110
  go_wp2
  go_ret
  exact ⟨rfl, rfl⟩

/-- The iterator over the bytes of a text (in block B): J holds where k bytes have come. -/
theorem each1_any (l B : Nat) (s : ByteArray) (hs : s.size ≤ 9223372036854775807) (J : Nat → World → Prop) (hJ : ∀ k W, J k W → W.cell? ⟨B, 0, none⟩ = some (.string s))
    (hY : ∀ (k : Nat) (W : World) (hk : k < s.size), J k W → YieldAt Fence.wide 2 Tryz.prog l #[.int .u32 (s[k].toNat : Int)] W fun e W' => e = .returned (.bool true) ∧ J (k + 1) W')
    (W : World) (h0 : J 0 W) :
    Calls Tryz.prog 125 #[.func (.yield l) #[] #[], .pointer (some ⟨B, 0, none⟩)] W fun e W' => (∃ v, e = .returned v) ∧ J s.size W' := by
  have hc := hJ _ _ h0
  refine (callsIn_wide (n := 3)).1 ?_
  refine callsIn_of_wp Tryz.func125 rfl trivial ?_ rfl
  simp only [Tryz.ntmps125, List.size_toArray, List.length_cons, List.length_nil, Nat.reduceAdd, Nat.reduceSub, Array.replicate_succ, Array.replicate_zero, List.push_toArray, List.append_toArray, List.nil_append, List.cons_append]
  gi_wp2
  clear hc
  gi_loopw [3, 6] (fun _ p wr => ∃ (k : Nat), p = .int .i64 (k : Int) ∧ k ≤ s.size ∧ J k wr)
    (fun _ p wr => s.size - (intOf p).toNat)
  case atStart => exact ⟨0, rfl, Nat.zero_le _, h0⟩
  case round =>
    obtain ⟨k, rfl, hk, hJk⟩ := hrel
    have hc := hJ _ _ hJk
    by_cases hlt : k < s.size
    · obtain ⟨fn, tmps, assign, body, hy, hR⟩ := hY k wr hlt hJk
      have e : ((s[k].toNat : Int) % 4294967296) = (s[k].toNat : Int) := by have := s[k].toNat_lt; omega
      rw [← e] at hy
      clear e
      gi_wp2
      refine hR.mono ?_
      rintro e W3 ⟨rfl, hJ3⟩
      gi_wp2
      go_roundw
      case rel => exact ⟨k + 1, by go_num, by omega, hJ3⟩
      case measure => simp [intOf]; omega
    · have hk' : s.size ≤ k := by omega
      gi_wp2
      go_end0
      exact ⟨⟨_, rfl⟩, by rw [show s.size = k by omega]; exact hJk⟩

/-! ### mixing -/
theorem mix_bits (h n : Nat) (hh : h < 4294967296) (hn : n < 4294967296) : bits BinOp.xor IntKind.u32 (h : Int) (n : Int) * 16777619 % 4294967296 = (((h ^^^ n) * 16777619 % 4294967296 : Nat) : Int) := by
  rw [u32_xor_nat _ _ hh hn]; omega

set_option maxHeartbeats 400000 in
/-- One number is mixed in (the slice that the call makes for it lies in block b). -/
theorem mixed_one (h n : Nat) (b : Nat) (w : World) (hh : h < 4294967296) (hn : n < 4294967296) (hc : w.cell? ⟨b, 0, none⟩ = some (.int .u32 (n : Int))) :
    Calls Tryz.prog 111 #[.int .u32 (h : Int), .slice (some ⟨b, 0, none⟩) 1 1] w fun e w' => e = .returned (.int .u32 (((h ^^^ n) * 16777619 % 4294967296 : Nat) : Int)) ∧ w = w' := by
  have H := Lib.hid (mix_bits h n hh hn)
  go_enter Tryz.func111, Tryz.ntmps111
  go_wp2
  refine wp_loop_rounds 2 ?_
  rw [rounds_succ]
  go_wp2
  rw [rounds_succ]
  go_wp2
  go_ret
  exact ⟨by rw [← H.out]; rfl, rfl⟩

theorem sum_end_bits (h : Nat) (hh : h < 4294967296) :
    bits BinOp.xor IntKind.u32 (bits BinOp.xor IntKind.u32 (h : Int) ((h : Int) / 32768) * 2246822519 % 4294967296) (bits BinOp.xor IntKind.u32 (h : Int) ((h : Int) / 32768) * 2246822519 % 4294967296 / 8192) =
      (endN (stirN h * 2246822519 % 4294967296) : Int) := by
  have e1 : (h : Int) / 32768 = ((h / 32768 : Nat) : Int) := rfl
  have e2 : bits BinOp.xor IntKind.u32 (h : Int) ((h : Int) / 32768) = (stirN h : Int) := by rw [e1, u32_xor_nat _ _ hh (by omega)]; rfl
  have e3 : (stirN h : Int) * 2246822519 % 4294967296 = ((stirN h * 2246822519 % 4294967296 : Nat) : Int) := by omega
  rw [e2, e3]
  have hm : stirN h * 2246822519 % 4294967296 < 4294967296 := Nat.mod_lt _ (by omega)
  generalize stirN h * 2246822519 % 4294967296 = m at hm ⊢
  have e4 : (m : Int) / 8192 = ((m / 8192 : Nat) : Int) := rfl
  rw [e4, u32_xor_nat _ _ hm (by omega)]; rfl

theorem take_snoc (s : ByteArray) (k : Nat) (h : k < s.size) : s.data.toList.take (k + 1) = s.data.toList.take k ++ [s[k]] := by
  rw [List.take_succ_eq_append_getElem (by simpa using h)]; rfl
theorem seed_bits (seed : Nat) (h : seed < 4294967296) : bits BinOp.xor IntKind.u32 (seed : Int) 2166136261 = ((seed ^^^ 2166136261 : Nat) : Int) := u32_xor_nat seed 2166136261 h (by omega)

set_option maxHeartbeats 400000 in
theorem sum_any (seed : Nat) (s : ByteArray) (w : World) (hseed : seed < 4294967296) (hs : s.size ≤ 9223372036854775807) :
    Calls Tryz.prog 104 #[.int .u32 (seed : Int), .string s] w fun e w' => e = .returned (.int .u32 (sumN seed s.data.toList : Int)) ∧ Chg (fun _ => False) w w' := by
  have hx : Hid (bits BinOp.xor IntKind.u32 (seed : Int) 2166136261 = ((seed ^^^ 2166136261 : Nat) : Int)) := seed_bits seed hseed
  have hh0 : seed ^^^ 2166136261 < 4294967296 := xor32 hseed (by omega)
  refine calls_of_wp_marks Tryz.func104 rfl ?_
  simp only [Tryz.ntmps104, List.size_toArray, List.length_cons, List.length_nil, Nat.reduceAdd, Nat.reduceSub, Array.replicate_succ, Array.replicate_zero, List.push_toArray, List.append_toArray, List.nil_append, List.cons_append]
  go_wp2_with (go_at_call 110; refine (each_any _ _).mono ?_; rintro e w' ⟨rfl, rfl⟩)
  rw [hx.out]
  clear hx
  generalize hh : seed ^^^ 2166136261 = h0 at hh0 ⊢
  have HH := Lib.hid hh
  clear hh
  have hb1 : Blk ((w.alloc (Obj.cells #[Value.int IntKind.u32 (h0 : Int)] 24)).alloc (Obj.cells #[Value.string s] 9)) w.heap.size 24 #[.int .u32 (h0 : Int)] := (Blk.new _ _ _).alloc _
  have hb2 : Blk ((w.alloc (Obj.cells #[Value.int IntKind.u32 (h0 : Int)] 24)).alloc (Obj.cells #[Value.string s] 9)) (w.heap.size + 1) 9 #[.string s] := by
    have := Blk.new (w.alloc (Obj.cells #[Value.int IntKind.u32 (h0 : Int)] 24)) 9 #[Value.string s]
    rwa [World.size_alloc] at this
  have hc0 : Chg (fun _ => False) w ((w.alloc (Obj.cells #[Value.int IntKind.u32 (h0 : Int)] 24)).alloc (Obj.cells #[Value.string s] 9)) := ((Chg.refl _ _).alloc _).alloc _
  have hsz : ((w.alloc (Obj.cells #[Value.int IntKind.u32 (h0 : Int)] 24)).alloc (Obj.cells #[Value.string s] 9)).heap.size > w.heap.size + 1 := by simp
  generalize hw0 : (w.alloc (Obj.cells #[Value.int IntKind.u32 (h0 : Int)] 24)).alloc (Obj.cells #[Value.string s] 9) = W0 at hb1 hb2 hc0 hsz ⊢
  clear hw0
  refine wp_range 125 #[.pointer (some ⟨w.heap.size + 1, 0, none⟩)] rfl (enters_of Tryz.func125 (by kernel_rfl) rfl) (fun fn rec hrec => ?_)
  refine (each1_any (W0.heap.size + 1) (w.heap.size + 1) s hs
    (fun k W => Blk W w.heap.size 24 #[.int .u32 (((s.data.toList.take k).foldl mixB h0 : Nat) : Int)] ∧ Blk W (w.heap.size + 1) 9 #[.string s] ∧ W.heap[W0.heap.size + 1]? = some (.loop (rec .ready none)) ∧ W.heap[W0.heap.size]? = some (.deferred (some [])) ∧ Chg (fun _ => False) w W)
    ?_ ?_ _ ?_).mono ?_
  · rintro k W ⟨_, hB2, _⟩
    exact hB2.cell 0
  · rintro k W hk ⟨hB1, hB2, hl, hD, hC⟩
    refine yield_body hrec hl rfl (fun K hK => by gi_wp2; exact hK) hl ?_
    have hfl := fold_lt (s.data.toList.take k) h0 hh0
    have hst : Hid ((s.data.toList.take (k + 1)).foldl mixB h0 = mixB ((s.data.toList.take k).foldl mixB h0) s[k]) := by
      show _ = _
      rw [take_snoc s k hk, List.foldl_append, List.foldl_cons, List.foldl_nil]
    have hbyte : s[k].toNat < 4294967296 := by have := s[k].toNat_lt; omega
    rw [show (fun e W' => e = Ending.returned (Value.bool true) ∧ Blk W' w.heap.size 24 #[.int .u32 (((s.data.toList.take (k + 1)).foldl mixB h0 : Nat) : Int)] ∧ Blk W' (w.heap.size + 1) 9 #[.string s] ∧ W'.heap[W0.heap.size + 1]? = some (.loop (rec .ready none)) ∧ W'.heap[W0.heap.size]? = some (.deferred (some [])) ∧ Chg (fun _ => False) w W') = (fun e W' => e = Ending.returned (Value.bool true) ∧ Blk W' w.heap.size 24 #[.int .u32 ((mixB ((s.data.toList.take k).foldl mixB h0) s[k] : Nat) : Int)] ∧ Blk W' (w.heap.size + 1) 9 #[.string s] ∧ W'.heap[W0.heap.size + 1]? = some (.loop (rec .ready none)) ∧ W'.heap[W0.heap.size]? = some (.deferred (some [])) ∧ Chg (fun _ => False) w W') by rw [hst.out]]
    clear hst
    generalize (s.data.toList.take k).foldl mixB h0 = hk' at hfl hB1 ⊢
    unfold mixB
    generalize s[k].toNat = n at hbyte ⊢
    have g1 : Blk (W.putObj (W0.heap.size + 1) (Obj.loop (rec LoopState.busy none))) w.heap.size 24 #[.int .u32 (hk' : Int)] := hB1.putObj (by omega) _
    have g2 : Blk (W.putObj (W0.heap.size + 1) (Obj.loop (rec LoopState.busy none))) (w.heap.size + 1) 9 #[.string s] := hB2.putObj (by omega) _
    have g3 : (W.putObj (W0.heap.size + 1) (Obj.loop (rec LoopState.busy none))).heap[W0.heap.size + 1]? = some (.loop (rec .busy none)) := World.putObj_heap_same (Array.getElem?_eq_some_iff.1 hl).1
    have g4 : (W.putObj (W0.heap.size + 1) (Obj.loop (rec LoopState.busy none))).heap[W0.heap.size]? = some (.deferred (some [])) := (World.putObj_heap_other (by omega)).trans hD
    have g5 : Chg (fun _ => False) w (W.putObj (W0.heap.size + 1) (Obj.loop (rec LoopState.busy none))) := hC.putObj (by intro h; omega) _
    generalize W.putObj (W0.heap.size + 1) (Obj.loop (rec LoopState.busy none)) = W1 at g1 g2 g3 g4 g5 ⊢
    clear hB1 hB2 hl hD hC hb1 hb2 hc0 hrec
    have c1 := g1.cell 0
    have f1 := g1.frozen 0
    simp only [List.getElem?_toArray, List.getElem?_cons_zero] at c1
    gi_wp2
    refine ⟨trivial, ?_⟩
    have cn : (W1.alloc (Obj.cells #[Value.int IntKind.u32 (n : Int)] 24)).cell? ⟨W1.heap.size, 0, none⟩ = some (.int .u32 (n : Int)) := (Blk.new W1 24 #[Value.int IntKind.u32 (n : Int)]).cell 0
    refine (CallsIn.inRound _ (callsIn_wide.2 (mixed_one hk' n W1.heap.size _ hfl hbyte cn))).mono ?_
    rintro e w' ⟨rfl, rfl⟩
    have i1 := g1.alloc (Obj.cells #[Value.int IntKind.u32 (n : Int)] 24)
    have i2 := g2.alloc (Obj.cells #[Value.int IntKind.u32 (n : Int)] 24)
    have i3 := (Below.heap_alloc W1 (Obj.cells #[Value.int IntKind.u32 (n : Int)] 24) (W0.heap.size + 1) (Array.getElem?_eq_some_iff.1 g3).1).trans g3
    have i4 := (Below.heap_alloc W1 (Obj.cells #[Value.int IntKind.u32 (n : Int)] 24) W0.heap.size (Array.getElem?_eq_some_iff.1 g4).1).trans g4
    have i5 := g5.alloc (Obj.cells #[Value.int IntKind.u32 (n : Int)] 24)
    generalize W1.alloc (Obj.cells #[Value.int IntKind.u32 (n : Int)] 24) = W2 at i1 i2 i3 i4 i5 ⊢
    clear cn g1 g2 g3 g4 g5 c1 f1
    have c1 := i1.cell 0
    have f1 := i1.frozen 0
    simp only [List.getElem?_toArray, List.getElem?_cons_zero] at c1
    gi_wp2
    refine ⟨?_, rfl, ?_, ?_, ?_, ?_, ?_⟩
    · exact (Below.heap_setCell _ _ _ _ (by simp; omega)).trans i3
    · exact (i1.set 0 _).putObj (by omega) _
    · exact (i2.far (by simp) _).putObj (by omega) _
    · exact World.putObj_heap_same (by rw [World.size_setCell]; exact (Array.getElem?_eq_some_iff.1 i3).1)
    · exact (World.putObj_heap_other (by omega)).trans ((Below.heap_setCell _ _ _ _ (by simp; omega)).trans i4)
    · exact (i5.setCell (by intro h; simp at h) _).putObj (by intro h; omega) _
  · refine ⟨(hb1.alloc _).alloc _, (hb2.alloc _).alloc _, ?_, ?_, (hc0.alloc _).alloc _⟩
    · have := World.alloc_heap_new (W0.alloc (.deferred (some []))) (.loop (rec .ready none))
      rwa [World.size_alloc] at this
    · exact (Below.heap_alloc _ _ _ (by simp)).trans (World.alloc_heap_new _ _)
  · rintro e W ⟨⟨v, rfl⟩, hB1, hB2, hl, hD, hC⟩
    refine ⟨⟨_, rfl⟩, .inl ⟨hl, ?_⟩⟩
    rw [List.take_of_length_le (by simp)] at hB1
    have hfl := fold_lt s.data.toList h0 hh0
    have hfin : Hid (sumN seed s.data.toList = endN (stirN (s.data.toList.foldl mixB h0) * 2246822519 % 4294967296)) := by
      show _ = _
      unfold sumN; rw [HH.out]
    have g1 : Blk (W.putObj (W0.heap.size + 1) (Obj.loop (rec LoopState.exhausted none))) w.heap.size 24 #[.int .u32 ((s.data.toList.foldl mixB h0 : Nat) : Int)] := hB1.putObj (by omega) _
    have g4 : (W.putObj (W0.heap.size + 1) (Obj.loop (rec LoopState.exhausted none))).heap[W0.heap.size]? = some (.deferred (some [])) := (World.putObj_heap_other (by omega)).trans hD
    have g5 : Chg (fun _ => False) w (W.putObj (W0.heap.size + 1) (Obj.loop (rec LoopState.exhausted none))) := hC.putObj (by intro h; omega) _
    generalize W.putObj (W0.heap.size + 1) (Obj.loop (rec LoopState.exhausted none)) = W1 at g1 g4 g5 ⊢
    generalize s.data.toList.foldl mixB h0 = hv at g1 hfin hfl
    have c1 := g1.cell 0
    have f1 := g1.frozen 0
    simp only [List.getElem?_toArray, List.getElem?_cons_zero] at c1
    clear hl hD hC hB1 hB2 hb1 hb2 hc0 hrec HH
    have hbits := Lib.hid (sum_end_bits hv hfl)
    go_wp2_with fail
    refine bodyPostM_ret (D := W0.heap.size) rfl ?_ (results_tmp rfl _ _ _) ⟨?_, ?_⟩
    · exact (Below.heap_setCell _ _ _ _ (by simp; omega)).trans ((Below.heap_setCell _ _ _ _ (by simp; omega)).trans g4)
    · rw [hfin.out, ← hbits.out]; rfl
    · refine Chg.putObj (Chg.setCell (Chg.setCell g5 ?_ _) ?_ _) ?_ _
      all_goals
        intro h
        try simp at h
        try omega

/-! ### the reference -/
theorem u64_in {n : Nat} (h : n < 18446744073709551616) : IntKind.u64.wrap (n : Int) = (n : Int) := by rw [IntKind.wrap_u64]; omega

theorem refMix_bits (h n : Nat) (hh : h < 4294967296) (hn : n < 256) :
    (IntKind.u64.wrap (bits BinOp.xor IntKind.u64 (h : Int) (IntKind.u64.wrap (n : Int)) * 16777619)).tmod 4294967296 = (((h ^^^ n) * 16777619 % 4294967296 : Nat) : Int) := by
  have hx := xor32 hh (show n < 4294967296 by omega)
  rw [u64_in (show n < 18446744073709551616 by omega), u64_xor_nat _ _ (by omega) (by omega), IntKind.wrap_u64, Int.tmod_eq_emod_of_nonneg (by omega)]
  omega
theorem refSeed_bits (seed : Nat) (h : seed < 4294967296) : bits BinOp.xor IntKind.u64 (seed : Int) 2166136261 = ((seed ^^^ 2166136261 : Nat) : Int) := u64_xor_nat seed 2166136261 (by omega) (by omega)
theorem refEnd_bits (h : Nat) (hh : h < 4294967296) :
    bits BinOp.xor IntKind.u64 ((IntKind.u64.wrap (bits BinOp.xor IntKind.u64 (h : Int) ((h : Int) / 32768) * 2246822519)).tmod 4294967296)
      (IntKind.u64.wrap (((IntKind.u64.wrap (bits BinOp.xor IntKind.u64 (h : Int) ((h : Int) / 32768) * 2246822519)).tmod 4294967296).tdiv 8192)) % 4294967296 =
      (endN (stirN h * 2246822519 % 4294967296) : Int) := by
  have e1 : (h : Int) / 32768 = ((h / 32768 : Nat) : Int) := rfl
  have e2 : bits BinOp.xor IntKind.u64 (h : Int) ((h : Int) / 32768) = (stirN h : Int) := by rw [e1, u64_xor_nat _ _ (by omega) (by omega)]; rfl
  have hs := stirN_lt hh
  have e3 : (IntKind.u64.wrap ((stirN h : Int) * 2246822519)).tmod 4294967296 = ((stirN h * 2246822519 % 4294967296 : Nat) : Int) := by
    rw [IntKind.wrap_u64, Int.tmod_eq_emod_of_nonneg (by omega)]; omega
  rw [e2, e3]
  have hm : stirN h * 2246822519 % 4294967296 < 4294967296 := Nat.mod_lt _ (by omega)
  generalize stirN h * 2246822519 % 4294967296 = m at hm ⊢
  have e4 : (m : Int).tdiv 8192 = ((m / 8192 : Nat) : Int) := by rw [Int.tdiv_eq_ediv_of_nonneg (by omega)]; rfl
  have hx := endN_lt hm
  rw [e4, u64_in (by omega), u64_xor_nat _ _ (by omega) (by omega)]
  unfold endN at hx ⊢
  generalize m ^^^ m / 8192 = q at hx ⊢
  omega

/-! ### the first hundred bytes -/
def cutS (s : ByteArray) (n : Nat) : ByteArray := if n < s.size then s.extract 0 n else s
theorem cutS_size (s : ByteArray) (n : Nat) : (cutS s n).size ≤ s.size := by
  unfold cutS; split
  · rw [ByteArray.size_extract]; omega
  · exact Nat.le_refl _

end Go.Proofs.YtifcpippfiglkaaGreat

/- Contracts of the small functions of dict. -/
namespace Go.Proofs.YtifcpippfiglkaaGreat.Dint64
open Go.RowKit Pal

theorem dm_cells {w : World} {d : Dm} (h : DmAt w d) : w.cell? ⟨d.blk, 0, none⟩ = some (.int .u32 (d.seed : Int)) ∧ w.cell? ⟨d.blk, 1, none⟩ = some (tbVal d.t0) ∧ w.cell? ⟨d.blk, 2, none⟩ = some (t1Val d.t1) ∧
    w.cell? ⟨d.blk, 3, none⟩ = some (.int .i64 (d.at_ : Int)) ∧ w.cell? ⟨d.blk, 4, none⟩ = some (.int .i64 (d.n : Int)) ∧ (∀ i, w.frozen? ⟨d.blk, i, none⟩ = false) ∧ d.blk < w.heap.size :=
  ⟨h.hd.cell 0, h.hd.cell 1, h.hd.cell 2, h.hd.cell 3, h.hd.cell 4, fun i => h.hd.frozen i, h.hd.lt⟩

set_option maxHeartbeats 400000 in
theorem len_any (d : Dm) (w : World) (h : DmAt w d) :
    Calls Tryz.prog 191 #[ptr d.blk] w fun e w' => e = .returned (.int .i64 (d.n : Int)) ∧ w = w' := by
  obtain ⟨c0, c1, c2, c3, c4, hf, hlt⟩ := dm_cells h
  unfold ptr
  go_enter Tryz.func191, Tryz.ntmps191
  go_wp2
  go_ret
  exact ⟨rfl, rfl⟩

set_option maxHeartbeats 400000 in
theorem len_nil (w : World) :
    Calls Tryz.prog 191 #[.pointer none] w fun e w' => e = .returned (.int .i64 0) ∧ w = w' := by
  go_enter Tryz.func191, Tryz.ntmps191
  go_wp2
  go_ret
  exact ⟨rfl, rfl⟩

set_option maxHeartbeats 400000 in
theorem isMoving_any (d : Dm) (w : World) (h : DmAt w d) :
    Calls Tryz.prog 93 #[ptr d.blk] w fun e w' => e = .returned (.bool d.t1.isSome) ∧ w = w' := by
  obtain ⟨c0, c1, c2, c3, c4, hf, hlt⟩ := dm_cells h
  unfold ptr
  cases ht : d.t1 with
  | none =>
    rw [ht] at c2
    simp only [t1Val] at c2
    go_enter Tryz.func93, Tryz.ntmps93
    go_wp2
    go_ret
    exact ⟨rfl, rfl⟩
  | some t =>
    rw [ht] at c2
    simp only [t1Val, tbVal] at c2
    go_enter Tryz.func93, Tryz.ntmps93
    go_wp2
    go_ret
    exact ⟨rfl, rfl⟩

set_option maxHeartbeats 400000 in
theorem slot_any (t : Tb) (s k : Nat) (w : World) (hs : s < 4294967296) (hk : t.len = 2 ^ k) (hk16 : k ≤ 16) :
    Calls Tryz.prog 99 #[tbVal t, .int .u32 (s : Int)] w fun e w' => e = .returned (.int .i64 ((s % t.len : Nat) : Int)) ∧ w = w' := by
  unfold tbVal
  have H := Lib.hid (slot_bits s k hs hk16)
  have hp : (2 : Nat) ^ k ≤ 2 ^ 16 := pow_mono hk16
  have h1 : 1 ≤ 2 ^ k := Nat.one_le_two_pow
  have hq : s % 2 ^ k < 2 ^ k := Nat.mod_lt _ h1
  have hw := Lib.hid (IntWalk.wrap64_in ((s % 2 ^ k : Nat) : Int) ⟨by omega, by omega⟩)
  rw [hk]
  obtain ⟨n, hn⟩ : ∃ n : Nat, Hid (n = 2 ^ k) := ⟨_, rfl⟩
  have e : ((2 ^ k : Nat) : Int) = (n : Int) := by rw [hn.out]
  rw [e] at H
  rw [← hn.out] at hp h1 ⊢
  have hn1 : 1 ≤ (n : Int) := by omega
  have hn2 : (n : Int) ≤ 65536 := by omega
  clear e hk hq
  rw [← hn.out] at hw H
  go_enter Tryz.func99, Tryz.ntmps99
  go_wp2
  go_ret
  refine ⟨?_, rfl⟩
  simp only [H.out, hw.out]
  rfl

set_option maxHeartbeats 400000 in
theorem of_any (d : Dm) (key : ByteArray) (w : World) (h : DmAt w d) (hs : d.seed < 4294967296) (hk : key.size ≤ 9223372036854775807) :
    Calls Tryz.prog 96 #[ptr d.blk, .string key] w fun e w' => e = .returned (.agg #[.int .u32 (sumN d.seed key.data.toList : Int), .string key]) ∧ Chg (fun _ => False) w w' := by
  obtain ⟨c0, c1, c2, c3, c4, hf, hlt⟩ := dm_cells h
  unfold ptr
  go_enter Tryz.func96, Tryz.ntmps96
  go_wp2_with fail
  refine (sum_any _ _ _ hs hk).mono ?_; rintro e w1 ⟨rfl, hc⟩
  have hb : Blk w1 w.heap.size 157 #[.int .u32 0, .string ⟨#[]⟩] := (Blk.new w 157 _).chg hc id
  have hc1 : Chg (fun _ => False) w w1 := ((Chg.refl _ w).alloc _).trans hc
  have e0 := hb.cell 0
  have e1 := hb.cell 1
  have f0 := hb.frozen 0
  have f1 := hb.frozen 1
  simp only [List.getElem?_toArray, List.getElem?_cons_zero, List.getElem?_cons_succ] at e0 e1
  have hlt1 := hb.lt
  clear c0 c1 c2 c3 c4 hf hc h
  obtain ⟨q, HQ⟩ : ∃ q, Hid (sumN d.seed key.data.toList = q) := ⟨_, rfl⟩
  rw [HQ.out]
  go_wp2_with fail
  have hb2 := (hb.set 0 (.int .u32 (q : Int))).set 1 (.string key)
  have hc2 : Chg (fun _ => False) w ((w1.setCell ⟨w.heap.size, 0, none⟩ (.int .u32 (q : Int))).setCell ⟨w.heap.size, 1, none⟩ (.string key)) :=
    (hc1.setCell (p := ⟨w.heap.size, 0, none⟩) (fun h => Nat.lt_irrefl _ h) _).setCell (p := ⟨w.heap.size, 1, none⟩) (fun h => Nat.lt_irrefl _ h) _
  generalize (w1.setCell ⟨w.heap.size, 0, none⟩ (.int .u32 (q : Int))).setCell ⟨w.heap.size, 1, none⟩ (.string key) = w2 at hb2 hc2 ⊢
  have g0 := hb2.cell 0
  have g1 := hb2.cell 1
  simp at g0 g1
  refine bodyPost_ret (v := .agg #[.int .u32 (q : Int), .string key]) (by simp [results, Tryz.results96, go_sem, g0, g1]) rfl ⟨by rw [HQ.out], hc2⟩

theorem size_wrap (k : Nat) (hk : k ≤ 16) : ((2 ^ k : Nat) : Int) ≤ 65536 ∧ 1 ≤ ((2 ^ k : Nat) : Int) := by
  have hp : (2 : Nat) ^ k ≤ 2 ^ 16 := pow_mono hk
  have h1 : 1 ≤ 2 ^ k := Nat.one_le_two_pow
  omega

theorem ptr_info : (Tryz.prog.info? 158).map (fun i => (i.zero, i.size, i.bytes)) = some (some (.pointer none), 1, 8) := by kernel_rfl
theorem run_make_tab (n : Nat) (hn : n ≤ 65536) (w : World) :
    (Instr.makeSlice 135 (.int .i64 (n : Int)) (.int .i64 (n : Int))).run Tryz.prog w = .ok (.slice (some ⟨w.heap.size, 0, none⟩) n n) (w.alloc (.cells (tbCells ⟨0, List.replicate n []⟩) 158)) := by
  obtain ⟨i0, hi, hz0, hz1, hz2⟩ := info_parts ptr_info
  have hr := run_make (P := Tryz.prog) w 135 158 i0 (.pointer none) Tryz.underlying135 hi hz0 .i64 .i64 n n (by omega) (by omega) (by rw [hz2]; omega) (by omega)
  simp only [Int.toNat_natCast] at hr
  have h : madeCells (Value.pointer none).cells (n * i0.size) = tbCells ⟨0, List.replicate n []⟩ := by
    rw [hz1, Nat.mul_one]
    apply Array.toList_inj.1
    simp [Value.cells, toList_madeCells_one, tbCells, hd]
  rw [hr, h]

theorem sizeFor_le (n : Int) : sizeFor n ≤ 65536 := by
  obtain ⟨k, h2, h16, hk, _, _⟩ := sizeFor_spec n
  rw [hk]; exact pow_mono h16

set_option maxHeartbeats 400000 in
theorem moves_any (d : Dm) (n : Int) (w : World) (h : DmAt w d) (ht : d.t1 = none) :
    Calls Tryz.prog 94 #[ptr d.blk, .int .i64 n] w fun e w' => (∃ v, e = .returned v) ∧ ∃ b, w.heap.size ≤ b ∧ DmAt w' { d with t1 := some ⟨b, List.replicate (sizeFor n) []⟩ } ∧ Chg (fun g => g = d.blk) w w' := by
  obtain ⟨c0, c1, c2, c3, c4, hf, hlt⟩ := dm_cells h
  have hmk := run_make_tab (sizeFor n) (sizeFor_le n)
  unfold ptr
  go_enter Tryz.func94, Tryz.ntmps94
  go_wp2_with fail
  go_region_with (go_at_call 103; refine (sizeFor_any _ _).mono ?_; rintro e w1 ⟨rfl, hc1⟩; have hw1 := h.chg0 ((Chg.refl _ w).drew.trans hc1); obtain ⟨k0, k1, k2, k3, k4, kf, klt⟩ := dm_cells hw1)
  go_end0
  have hC : Chg (fun _ => False) w w1 := (Chg.refl _ w).drew.trans hc1
  refine ⟨⟨_, rfl⟩, w1.heap.size, hC.size, ?_, ?_⟩
  · have hs : Chg (fun g => g = d.blk) w1 ((w1.setCell { block := d.blk, off := 2 } (Value.slice (some { block := w1.heap.size, off := 0 }) (sizeFor n) (sizeFor n))).alloc (Obj.cells (tbCells { blk := 0, slots := List.replicate (sizeFor n) [] }) 158)) :=
      ((Chg.refl (fun g => g = d.blk) w1).store rfl 2 _).alloc _
    have hb := Blk.new (w1.setCell { block := d.blk, off := 2 } (Value.slice (some { block := w1.heap.size, off := 0 }) (sizeFor n) (sizeFor n))) 158 (tbCells { blk := 0, slots := List.replicate (sizeFor n) [] })
    rw [World.size_setCell] at hb
    refine { hd := ?_, a0 := hw1.a0.chg hs hw1.t0_ne (fun x hx => (hw1.nd_ne (mem_nodes0 hx)).1), a1 := ?_, ne := ?_, nodup := ?_ }
    · have := (hw1.hd.set 2 (.slice (some ⟨w1.heap.size, 0, none⟩) (sizeFor n) (sizeFor n))).alloc (Obj.cells (tbCells { blk := 0, slots := List.replicate (sizeFor n) [] }) 158)
      simpa [dmCells, t1Val, tbVal, Tb.len] using this
    · rintro t ht
      injection ht with ht
      subst ht
      exact ⟨hb, fun c hc => by rw [List.eq_of_mem_replicate hc]; trivial⟩
    · rintro t ht
      injection ht with ht
      subst ht
      exact Nat.ne_of_lt hw1.a0.1.lt
    · have e : ({ d with t1 := some ⟨w1.heap.size, List.replicate (sizeFor n) []⟩ } : Dm).nodes = d.nodes := by
        unfold Dm.nodes Dm.nodes1 Tb.nodes; rw [ht]; simp
      rw [e]; exact h.nodup
  · exact (hC.mono (fun _ _ h => h.elim)).trans (((Chg.refl (fun g => g = d.blk) w1).store rfl 2 _).alloc _)

end Go.Proofs.YtifcpippfiglkaaGreat.Dint64

/- Contracts of dict: New, Sizes, chain, put. -/
namespace Go.Proofs.YtifcpippfiglkaaGreat.Dint64
open Go.RowKit Pal
attribute [local go_sem] Oper.semAt_some

/-- An empty dict, its struct in block b, its table in block c. -/
def newDm (b c seed : Nat) : Dm := { blk := b, seed := seed, t0 := ⟨c, List.replicate 4 []⟩, t1 := none, at_ := 0, n := 0 }

set_option maxHeartbeats 400000 in
theorem New_any (seed : Nat) (w : World) :
    Calls Tryz.prog 54 #[.int .u32 (seed : Int)] w fun e w' => ∃ b c, e = .returned (ptr b) ∧ DmAt w' (newDm b c seed) ∧ w.heap.size ≤ b ∧ w.heap.size ≤ c ∧ Chg (fun _ => False) w w' := by
  obtain ⟨tc, HT⟩ : ∃ tc, Hid (tbCells ⟨0, List.replicate 4 []⟩ = tc) := ⟨_, rfl⟩
  have hmk : ∀ w, (Instr.makeSlice 135 (.int .i64 4) (.int .i64 4)).run Tryz.prog w = .ok (.slice (some ⟨w.heap.size, 0, none⟩) 4 4) (w.alloc (.cells tc 158)) := by
    intro w; rw [← HT.out]; exact run_make_tab 4 (by omega) w
  go_enter Tryz.func54, Tryz.ntmps54
  go_wp2
  go_ret
  have hb := Blk.new (w.alloc (.cells tc 158)) 138 #[Value.int IntKind.u32 (seed : Int), Value.slice (some { block := w.heap.size, off := 0 }) 4 4, Value.slice none 0 0, Value.int IntKind.i64 0, Value.int IntKind.i64 0]
  rw [World.size_alloc] at hb
  have ht := (Blk.new w 158 tc).alloc (Obj.cells #[Value.int IntKind.u32 (seed : Int), Value.slice (some { block := w.heap.size, off := 0 }) 4 4, Value.slice none 0 0, Value.int IntKind.i64 0, Value.int IntKind.i64 0] 138)
  rw [← HT.out] at ht hb ⊢
  refine ⟨w.heap.size + 1, w.heap.size, rfl, { hd := hb, a0 := ⟨ht, fun c hc => (by rw [List.eq_of_mem_replicate hc]; trivial)⟩, a1 := fun t h => (by cases h), ne := fun t h => (by cases h), nodup := List.nodup_nil }, Nat.le_succ _, Nat.le_refl _, ((Chg.refl _ w).alloc _).alloc _⟩

set_option maxHeartbeats 400000 in
theorem Sizes_any (d : Dm) (w : World) (h : DmAt w d) :
    Calls Tryz.prog 68 #[ptr d.blk] w fun e w' => e = .returned (.tuple #[.int .i64 (d.t0.len : Int), .int .i64 (((d.t1.map Tb.len).getD 0 : Nat) : Int), .int .i64 (d.at_ : Int)]) ∧ Chg (fun _ => False) w w' := by
  obtain ⟨c0, c1, c2, c3, c4, hf, hlt⟩ := dm_cells h
  unfold ptr
  unfold tbVal at c1
  cases ht : d.t1 with
  | none =>
    rw [ht] at c2
    simp only [t1Val] at c2
    go_enter Tryz.func68, Tryz.ntmps68
    go_wp2
    go_quiet (fail)
    go_wp2
    go_ret3
    exact ⟨rfl, (Chg.refl _ _).drewN _⟩
  | some t =>
    rw [ht] at c2
    simp only [t1Val, tbVal] at c2
    go_enter Tryz.func68, Tryz.ntmps68
    go_wp2
    go_quiet (fail)
    go_wp2
    go_ret3
    exact ⟨rfl, (Chg.refl _ _).drewN _⟩

set_option maxHeartbeats 400000 in
theorem Sizes_nil (w : World) :
    Calls Tryz.prog 68 #[.pointer none] w fun e w' => e = .returned (.tuple #[.int .i64 0, .int .i64 0, .int .i64 0]) ∧ w = w' := by
  go_enter Tryz.func68, Tryz.ntmps68
  go_wp2
  go_ret3
  exact ⟨rfl, rfl⟩

set_option maxHeartbeats 400000 in
theorem chain_any (p : Option Addr) (w : World) :
    Calls Tryz.prog 97 #[.pointer p] w fun e w' => e = .returned (.func (.func 105) #[] #[ptr w.heap.size]) ∧ w.alloc (.cells #[.pointer p] 158) = w' := by
  unfold ptr
  go_enter Tryz.func97, Tryz.ntmps97
  go_wp2
  go_ret
  exact ⟨rfl, rfl⟩

/-- The iterator over a chain (its pointer in block B): J holds where r is still to come, J2 behind a round. -/
theorem chain1_any (l B : Nat) (J J2 : Ch → World → Prop) (Jx : World → Prop)
    (hJ : ∀ r W, J r W → W.cell? ⟨B, 0, none⟩ = some (hd r))
    (hY : ∀ x r W, J (x :: r) W → W.cell? ⟨x.blk, 3, none⟩ = some (hd r) ∧ YieldAt Fence.wide 2 Tryz.prog l #[ptr x.blk] W fun e W' => (e = .returned (.bool true) ∧ J2 r W') ∨ (e = .returned (.bool false) ∧ Jx W'))
    (hS : ∀ r W, J2 r W → (∃ v, W.cell? ⟨B, 0, none⟩ = some v) ∧ W.frozen? ⟨B, 0, none⟩ = false ∧ J r (W.setCell ⟨B, 0, none⟩ (hd r)))
    (c : Ch) (W : World) (h0 : J c W) :
    Calls Tryz.prog 105 #[.func (.yield l) #[] #[], ptr B] W fun e W' => (∃ v, e = .returned v) ∧ (J [] W' ∨ Jx W') := by
  unfold ptr
  refine (callsIn_wide (n := 3)).1 ?_
  refine callsIn_of_wp Tryz.func105 rfl trivial ?_ rfl
  simp only [Tryz.ntmps105, List.size_toArray, List.length_cons, List.length_nil, Nat.reduceAdd, Nat.reduceSub, Array.replicate_succ, Array.replicate_zero, List.push_toArray, List.append_toArray, List.nil_append, List.cons_append]
  gi_wp2
  gi_loopw [3] (fun _ wr => ∃ n, ∃ r : Ch, r.length = n ∧ J r wr) (fun _ wr => leastOf fun n => ∃ r : Ch, r.length = n ∧ J r wr)
  case atStart => exact ⟨_, c, rfl, h0⟩
  case round =>
    obtain ⟨⟨r, hr, hJr⟩, _⟩ := leastOf_spec hrel
    have HR := Lib.hid hr
    clear hr hrel
    have hc := hJ _ _ hJr
    cases r with
    | nil =>
      simp only [hd] at hc
      gi_wp2
      go_end0
      exact ⟨⟨_, rfl⟩, .inl hJr⟩
    | cons x r =>
      simp only [hd, ptr] at hc
      obtain ⟨hn, fn, tmps, assign, body, hy, hR⟩ := hY x r wr hJr
      unfold ptr at hy
      obtain ⟨q, hq⟩ : ∃ q, hd r = .pointer q := by cases r <;> exact ⟨_, rfl⟩
      rw [hq] at hn
      have HQ := Lib.hid hq
      clear hq
      gi_wp2
      refine hR.mono ?_
      rintro e W3 (⟨rfl, hJ3⟩ | ⟨rfl, hJx3⟩)
      · obtain ⟨⟨v, hv⟩, hf, hJ4⟩ := hS r W3 hJ3
        rw [HQ.out] at hJ4
        gi_wp2
        go_roundw
        case rel => exact ⟨_, r, rfl, hJ4⟩
        case measure =>
          rw [← HR.out]
          exact Nat.lt_of_le_of_lt ((leastOf_spec ⟨_, r, rfl, hJ4⟩).2 _ ⟨r, rfl, hJ4⟩) (Nat.lt_succ_self _)
      · gi_wp2
        refine bodyPost_ret (results_none rfl _ _ _) rfl ?_
        exact ⟨⟨_, rfl⟩, .inr hJx3⟩

end Go.Proofs.YtifcpippfiglkaaGreat.Dint64

/- A dict's plain steps: nodes put into a table, a slot moved. -/
namespace Go.Proofs.YtifcpippfiglkaaGreat.Dint64
open Go.RowKit Pal

def Tb.Sized (t : Tb) : Prop := ∃ k, 2 ≤ k ∧ k ≤ 16 ∧ t.len = 2 ^ k
theorem Tb.Sized.pos {t : Tb} (h : t.Sized) : 4 ≤ t.len ∧ t.len ≤ 65536 := by
  obtain ⟨k, h2, h16, e⟩ := h
  have h3 : (2 : Nat) ^ 2 ≤ 2 ^ k := pow_mono h2
  have h4 : (2 : Nat) ^ k ≤ 2 ^ 16 := pow_mono h16
  omega
theorem Tb.Sized.set {t : Tb} (h : t.Sized) (i : Nat) (c : Ch) : (t.set i c).Sized := by
  obtain ⟨k, h2, h16, e⟩ := h
  exact ⟨k, h2, h16, by rw [Tb.set_len]; exact e⟩

def push (t : Tb) (x : Nd) : Tb := t.set (x.sum % t.len) (x :: t.at (x.sum % t.len))
theorem push_len (t : Tb) (x : Nd) : (push t x).len = t.len := Tb.set_len _ _ _
theorem push_blk (t : Tb) (x : Nd) : (push t x).blk = t.blk := rfl
theorem push_sized {t : Tb} (h : t.Sized) (x : Nd) : (push t x).Sized := h.set _ _
theorem fold_len : ∀ (c : Ch) (t : Tb), (c.foldl push t).len = t.len
  | [], _ => rfl
  | x :: c, t => (fold_len c (push t x)).trans (push_len t x)
theorem fold_blk : ∀ (c : Ch) (t : Tb), (c.foldl push t).blk = t.blk
  | [], _ => rfl
  | x :: c, t => (fold_blk c (push t x)).trans (push_blk t x)
theorem fold_sized : ∀ (c : Ch) {t : Tb}, t.Sized → (c.foldl push t).Sized
  | [], _, h => h
  | x :: c, _, h => fold_sized c (push_sized h x)

theorem flatten_set_perm {α : Type} : ∀ (l : List (List α)) (i : Nat) (c : List α), i < l.length → ((l.set i c).flatten ++ l.getD i []).Perm (l.flatten ++ c)
  | [], _, _, h => by cases h
  | a :: l, 0, c, _ => by
    simp only [List.set_cons_zero, List.flatten_cons, List.getD_cons_zero, List.append_assoc]
    exact (List.perm_append_comm).trans ((List.perm_append_comm.append_right c).trans (by rw [List.append_assoc]))
  | a :: l, i + 1, c, h => by
    simp only [List.set_cons_succ, List.flatten_cons, List.getD_cons_succ, List.append_assoc]
    exact List.Perm.append_left a (flatten_set_perm l i c (by simpa using h))
theorem nodes_set_perm (t : Tb) {i : Nat} (h : i < t.len) (c : Ch) : ((t.set i c).nodes ++ t.at i).Perm (t.nodes ++ c) := flatten_set_perm t.slots i c h
theorem nodes_push_perm {t : Tb} (h : 0 < t.len) (x : Nd) : (push t x).nodes.Perm (x :: t.nodes) := by
  have := nodes_set_perm t (Nat.mod_lt x.sum h) (x :: t.at (x.sum % t.len))
  have h2 : (t.nodes ++ x :: t.at (x.sum % t.len)).Perm ((x :: t.nodes) ++ t.at (x.sum % t.len)) := by
    exact List.perm_middle (a := x) (l₁ := t.nodes) (l₂ := t.at (x.sum % t.len))
  exact (List.perm_append_right_iff _).1 (this.trans h2)
theorem fold_push_perm : ∀ (c : Ch) {t : Tb}, 0 < t.len → (c.foldl push t).nodes.Perm (c ++ t.nodes)
  | [], _, _ => List.Perm.refl _
  | x :: c, t, h => by
    have h1 := fold_push_perm c (t := push t x) (by rw [push_len]; exact h)
    have h2 := List.Perm.append_left c (nodes_push_perm h x)
    exact (h1.trans h2).trans (List.perm_middle (a := x) (l₁ := c) (l₂ := t.nodes))

/-- One slot moved (while the dict moves). -/
def moveSlot (d : Dm) : Dm :=
  match d.t1 with
  | none => d
  | some t =>
    if d.at_ + 1 = d.t0.len then { d with t0 := (d.t0.at d.at_).foldl push t, t1 := none, at_ := 0 }
    else { d with t0 := d.t0.set d.at_ [], t1 := some ((d.t0.at d.at_).foldl push t), at_ := d.at_ + 1 }
def moveN (d : Dm) : Nat → Dm
  | 0 => d
  | k + 1 => moveSlot (moveN d k)
/-- How many slots are moved by a step of n. -/
def stepK (d : Dm) (n : Int) : Nat := if d.t1.isSome then min n.toNat (d.t0.len - d.at_) else 0
def stepD (d : Dm) (n : Int) : Dm := moveN d (stepK d n)

/-- What a dict keeps, told of its datum alone. -/
structure Dm.Ok (d : Dm) : Prop where
  seed : d.seed < 4294967296
  s0 : d.t0.Sized
  s1 : ∀ t, d.t1 = some t → t.Sized
  in0 : ∀ i x, i < d.t0.len → x ∈ d.t0.at i → x.sum % d.t0.len = i
  in1 : ∀ t, d.t1 = some t → ∀ i x, i < t.len → x ∈ t.at i → x.sum % t.len = i
  sums : ∀ x ∈ d.nodes, x.sum = sumN d.seed x.key.data.toList
  keys : (d.nodes.map (·.key)).Nodup
  vok : ∀ x ∈ d.nodes, VOk x.v
  count : d.n = d.nodes.length
  atlt : ∀ t, d.t1 = some t → d.at_ < d.t0.len
  at0 : d.t1 = none → d.at_ = 0
  moved : ∀ i, i < d.at_ → d.t0.at i = []

theorem Dm.Ok.sum_lt {d : Dm} (h : d.Ok) {x : Nd} (hx : x ∈ d.nodes) : x.sum < 4294967296 := by rw [h.sums x hx]; exact sumN_lt _ _

theorem mem_push {t : Tb} (h : 0 < t.len) {x y : Nd} : y ∈ (push t x).nodes ↔ y = x ∨ y ∈ t.nodes := by
  rw [(nodes_push_perm h x).mem_iff]; simp
theorem in_push {t : Tb} (h0 : 0 < t.len) (h : ∀ i x, i < t.len → x ∈ t.at i → x.sum % t.len = i) (x : Nd) : ∀ i y, i < (push t x).len → y ∈ (push t x).at i → y.sum % (push t x).len = i := by
  intro i y hi hy
  rw [push_len] at hi ⊢
  unfold push at hy
  rw [Tb.set_at (Nat.mod_lt _ h0)] at hy
  split at hy
  · rename_i e
    rcases List.mem_cons.1 hy with rfl | hy
    · exact e
    · rw [← e]; exact h _ _ (Nat.mod_lt _ h0) hy
  · exact h i y hi hy
theorem in_fold : ∀ (c : Ch) {t : Tb}, 0 < t.len → (∀ i x, i < t.len → x ∈ t.at i → x.sum % t.len = i) → ∀ i y, i < (c.foldl push t).len → y ∈ (c.foldl push t).at i → y.sum % (c.foldl push t).len = i
  | [], _, _, h => h
  | x :: c, t, h0, h => in_fold c (t := push t x) (by rw [push_len]; exact h0) (in_push h0 h x)

theorem moveSlot_perm {d : Dm} (h : d.Ok) : (moveSlot d).nodes.Perm d.nodes := by
  unfold moveSlot
  split
  · exact List.Perm.refl _
  · rename_i t ht
    have hlt := h.atlt t ht
    have hp := fold_push_perm (d.t0.at d.at_) (t := t) (by have := (h.s1 t ht).pos; omega)
    have hs := nodes_set_perm d.t0 hlt []
    rw [List.append_nil] at hs
    split
    · rename_i hl
      have e : (d.t0.set d.at_ []).nodes = [] := by
        rw [List.eq_nil_iff_forall_not_mem]
        intro x hx
        obtain ⟨i, hi, hxi⟩ := mem_nodes.1 hx
        rw [Tb.set_len] at hi
        rw [Tb.set_at hlt] at hxi
        split at hxi
        · cases hxi
        · rw [h.moved i (by omega)] at hxi; cases hxi
      rw [e, List.nil_append] at hs
      have e2 : (({ d with t0 := (d.t0.at d.at_).foldl push t, t1 := none, at_ := 0 } : Dm)).nodes = ((d.t0.at d.at_).foldl push t).nodes := by
        unfold Dm.nodes Dm.nodes1; simp
      rw [e2]
      refine hp.trans ?_
      unfold Dm.nodes Dm.nodes1
      rw [ht]
      exact hs.append_right _
    · have e2 : (({ d with t0 := d.t0.set d.at_ [], t1 := some ((d.t0.at d.at_).foldl push t), at_ := d.at_ + 1 } : Dm)).nodes = (d.t0.set d.at_ []).nodes ++ ((d.t0.at d.at_).foldl push t).nodes := rfl
      rw [e2]
      refine (List.Perm.append_left _ hp).trans ?_
      rw [← List.append_assoc]
      unfold Dm.nodes Dm.nodes1
      rw [ht]
      exact hs.append_right _

theorem moveSlot_ok {d : Dm} (h : d.Ok) : (moveSlot d).Ok := by
  have hp := moveSlot_perm h
  have hseed : (moveSlot d).seed = d.seed := by unfold moveSlot; split <;> try rfl
                                                split <;> rfl
  have hn : (moveSlot d).n = d.n := by unfold moveSlot; split <;> try rfl
                                       split <;> rfl
  have hsums : ∀ x ∈ (moveSlot d).nodes, x.sum = sumN (moveSlot d).seed x.key.data.toList := fun x hx => by rw [hseed]; exact h.sums x (hp.mem_iff.1 hx)
  have hkeys : ((moveSlot d).nodes.map (·.key)).Nodup := (hp.map _).nodup_iff.2 h.keys
  have hvok : ∀ x ∈ (moveSlot d).nodes, VOk x.v := fun x hx => h.vok x (hp.mem_iff.1 hx)
  have hcount : (moveSlot d).n = (moveSlot d).nodes.length := by rw [hn, hp.length_eq]; exact h.count
  cases ht : d.t1 with
  | none =>
    have : moveSlot d = d := by unfold moveSlot; rw [ht]
    rw [this]; exact h
  | some t =>
    have hlt := h.atlt t ht
    have hpos : 0 < t.len := by have := (h.s1 t ht).pos; omega
    have hfs := fold_sized (d.t0.at d.at_) (h.s1 t ht)
    have hfi := in_fold (d.t0.at d.at_) hpos (h.in1 t ht)
    by_cases hl : d.at_ + 1 = d.t0.len
    · have e : moveSlot d = { d with t0 := (d.t0.at d.at_).foldl push t, t1 := none, at_ := 0 } := by unfold moveSlot; rw [ht]; simp [hl]
      rw [e] at hsums hkeys hcount hvok ⊢
      exact { seed := h.seed, s0 := hfs, s1 := fun _ h => (by cases h), in0 := hfi, in1 := fun _ h => (by cases h), sums := hsums, keys := hkeys, vok := hvok, count := hcount, atlt := fun _ h => (by cases h), at0 := fun _ => rfl, moved := fun i hi => (by cases hi) }
    · have e : moveSlot d = { d with t0 := d.t0.set d.at_ [], t1 := some ((d.t0.at d.at_).foldl push t), at_ := d.at_ + 1 } := by unfold moveSlot; rw [ht]; simp [hl]
      rw [e] at hsums hkeys hcount hvok ⊢
      refine { seed := h.seed, s0 := h.s0.set _ _, s1 := ?_, in0 := ?_, in1 := ?_, sums := hsums, keys := hkeys, vok := hvok, count := hcount, atlt := ?_, at0 := fun h => (by cases h), moved := ?_ }
      · intro t' ht'; injection ht' with ht'; subst ht'; exact hfs
      · intro i x hi hx
        show x.sum % (d.t0.set d.at_ []).len = i
        rw [Tb.set_len]
        have hi' : i < d.t0.len := by have := Tb.set_len d.t0 d.at_ []; simp only [] at hi; omega
        have hx' : x ∈ (d.t0.set d.at_ []).at i := hx
        rw [Tb.set_at hlt] at hx'
        split at hx'
        · cases hx'
        · exact h.in0 i x hi' hx'
      · intro t' ht'; injection ht' with ht'; subst ht'; exact hfi
      · intro t' _
        show d.at_ + 1 < (d.t0.set d.at_ []).len
        rw [Tb.set_len]; omega
      · intro i hi
        show (d.t0.set d.at_ []).at i = []
        have hi : i < d.at_ + 1 := hi
        rw [Tb.set_at hlt]
        split
        · rfl
        · exact h.moved i (by omega)

theorem moveN_ok {d : Dm} (h : d.Ok) : ∀ k, (moveN d k).Ok
  | 0 => h
  | k + 1 => moveSlot_ok (moveN_ok h k)
theorem moveN_perm {d : Dm} (h : d.Ok) : ∀ k, (moveN d k).nodes.Perm d.nodes
  | 0 => List.Perm.refl _
  | k + 1 => (moveSlot_perm (moveN_ok h k)).trans (moveN_perm h k)
theorem moveSlot_blk (d : Dm) : (moveSlot d).blk = d.blk ∧ (moveSlot d).seed = d.seed ∧ (moveSlot d).n = d.n := by
  unfold moveSlot; split
  · exact ⟨rfl, rfl, rfl⟩
  · split <;> exact ⟨rfl, rfl, rfl⟩
theorem moveN_blk (d : Dm) : ∀ k, (moveN d k).blk = d.blk ∧ (moveN d k).seed = d.seed ∧ (moveN d k).n = d.n
  | 0 => ⟨rfl, rfl, rfl⟩
  | k + 1 => by
    obtain ⟨h1, h2, h3⟩ := moveSlot_blk (moveN d k)
    obtain ⟨g1, g2, g3⟩ := moveN_blk d k
    exact ⟨h1.trans g1, h2.trans g2, h3.trans g3⟩
theorem moveSlot_foot {d : Dm} (h : d.Ok) {g : Nat} (hg : (moveSlot d).foot g) : d.foot g := by
  have hp := moveSlot_perm h
  have hb := (moveSlot_blk d).1
  have hnd : ∀ x, x ∈ (moveSlot d).nodes → x ∈ d.nodes := fun x hx => hp.mem_iff.1 hx
  rcases hg with rfl | rfl | ⟨t, ht, rfl⟩ | ⟨x, hx, rfl⟩
  · exact .inl hb
  · unfold moveSlot
    split
    · exact .inr (.inl rfl)
    · rename_i t ht
      split
      · exact .inr (.inr (.inl ⟨t, ht, fold_blk _ _⟩))
      · exact .inr (.inl rfl)
  · unfold moveSlot at ht
    split at ht
    · exact .inr (.inr (.inl ⟨t, ht, rfl⟩))
    · rename_i t' ht'
      split at ht
      · cases ht
      · injection ht with ht
        rw [← ht]
        exact .inr (.inr (.inl ⟨t', ht', fold_blk _ _⟩))
  · exact .inr (.inr (.inr ⟨x, hnd x hx, rfl⟩))
theorem moveN_foot {d : Dm} (h : d.Ok) : ∀ (k : Nat) {g : Nat}, (moveN d k).foot g → d.foot g
  | 0, _, hg => hg
  | k + 1, _, hg => moveN_foot h k (moveSlot_foot (moveN_ok h k) hg)
/-- While it moves: the first slots. -/
theorem moveN_at {d : Dm} {t : Tb} (h : d.Ok) (ht : d.t1 = some t) : ∀ k, d.at_ + k < d.t0.len → ((moveN d k).t1.isSome = true ∧ (moveN d k).at_ = d.at_ + k ∧ (moveN d k).t0.len = d.t0.len)
  | 0, _ => ⟨by simp [moveN, ht], rfl, rfl⟩
  | k + 1, hk => by
    obtain ⟨h1, h2, h3⟩ := moveN_at h ht k (by omega)
    obtain ⟨t', ht'⟩ := Option.isSome_iff_exists.1 h1
    have hne : ¬ (moveN d k).at_ + 1 = (moveN d k).t0.len := by omega
    have e : moveN d (k + 1) = { moveN d k with t0 := (moveN d k).t0.set (moveN d k).at_ [], t1 := some (((moveN d k).t0.at (moveN d k).at_).foldl push t'), at_ := (moveN d k).at_ + 1 } := by
      show moveSlot (moveN d k) = _
      unfold moveSlot; rw [ht']; simp [hne]
    rw [e]
    refine ⟨rfl, ?_, ?_⟩
    · show (moveN d k).at_ + 1 = d.at_ + (k + 1); omega
    · show ((moveN d k).t0.set _ _).len = _; rw [Tb.set_len]; exact h3
/-- All slots moved: it moves no more. -/
theorem moveN_all {d : Dm} {t : Tb} (h : d.Ok) (ht : d.t1 = some t) : (moveN d (d.t0.len - d.at_)).t1 = none ∧ (moveN d (d.t0.len - d.at_)).t0.len = t.len := by
  have hlt := h.atlt t ht
  obtain ⟨k, hk⟩ : ∃ k, d.t0.len - d.at_ = k + 1 := ⟨d.t0.len - d.at_ - 1, by omega⟩
  rw [hk]
  obtain ⟨h1, h2, h3⟩ := moveN_at h ht k (by omega)
  obtain ⟨t', ht'⟩ := Option.isSome_iff_exists.1 h1
  have hl : (moveN d k).at_ + 1 = (moveN d k).t0.len := by omega
  have e : moveN d (k + 1) = { moveN d k with t0 := ((moveN d k).t0.at (moveN d k).at_).foldl push t', t1 := none, at_ := 0 } := by
    show moveSlot (moveN d k) = _
    unfold moveSlot; rw [ht']; simp [hl]
  rw [e]
  refine ⟨rfl, ?_⟩
  show (List.foldl push t' _).len = t.len
  rw [fold_len]
  have key : ∀ j, d.at_ + j < d.t0.len → ∀ t'', (moveN d j).t1 = some t'' → t''.len = t.len := by
    intro j
    induction j with
    | zero => intro _ t'' h''; have h'' : d.t1 = some t'' := h''; rw [ht] at h''; injection h'' with h''; rw [h'']
    | succ j ih =>
      intro hj t'' h''
      obtain ⟨g1, g2, g3⟩ := moveN_at h ht j (by omega)
      obtain ⟨u, hu⟩ := Option.isSome_iff_exists.1 g1
      have hne : ¬ (moveN d j).at_ + 1 = (moveN d j).t0.len := by omega
      have e : moveN d (j + 1) = { moveN d j with t0 := (moveN d j).t0.set (moveN d j).at_ [], t1 := some (((moveN d j).t0.at (moveN d j).at_).foldl push u), at_ := (moveN d j).at_ + 1 } := by
        show moveSlot (moveN d j) = _
        unfold moveSlot; rw [hu]; simp [hne]
      rw [e] at h''
      injection h'' with h''
      rw [← h'', fold_len]
      exact ih (by omega) u hu
  exact key k (by omega) t' ht'

end Go.Proofs.YtifcpippfiglkaaGreat.Dint64

/- Contracts of dict: put, Step. -/
namespace Go.Proofs.YtifcpippfiglkaaGreat.Dint64
open Go.RowKit Pal
attribute [local go_sem] Oper.semAt_some

set_option maxHeartbeats 400000 in
/-- One node is put into a table. -/
theorem put_any (t : Tb) (x : Nd) (nx : Value) (b : Nat) (w : World) (hz : t.Sized) (hs : x.sum < 4294967296) (hT : Blk w t.blk 158 (tbCells t)) (hX : Blk w x.blk 160 (ndCells x nx))
    (hB : w.cell? ⟨b, 0, none⟩ = some (ptr x.blk)) :
    Calls Tryz.prog 95 #[tbVal t, .slice (some ⟨b, 0, none⟩) 1 1] w fun e w' => (∃ v, e = .returned v) ∧
      (w.setCell ⟨x.blk, 3, none⟩ (hd (t.at (x.sum % t.len)))).setCell ⟨t.blk, x.sum % t.len, none⟩ (ptr x.blk) = w' := by
  have hpos := hz.pos
  obtain ⟨k, h2, h16, hk⟩ := hz
  have hi : x.sum % t.len < t.len := Nat.mod_lt _ (by omega)
  have hc := hT.cell (x.sum % t.len)
  rw [tbCells_get hi] at hc
  have hfT := hT.frozen (x.sum % t.len)
  have hx0 := hX.cell 0
  have hx3 := hX.cell 3
  have hfX := hX.frozen 3
  simp only [ndCells, List.getElem?_toArray, List.getElem?_cons_zero, List.getElem?_cons_succ] at hx0 hx3
  have hne : x.blk ≠ t.blk := hX.ne_type hT (by decide)
  obtain ⟨q, hq⟩ : ∃ q, hd (t.at (x.sum % t.len)) = .pointer q := by cases t.at (x.sum % t.len) <;> exact ⟨_, rfl⟩
  rw [hq] at hc ⊢
  have HK := Lib.hid hk
  have hlt : t.len ≤ 9223372036854775807 := by omega
  have hne' : (t.blk = x.blk) = False := by simp only [eq_iff_iff, iff_false]; exact fun h => hne h.symm
  obtain ⟨i, HI⟩ : ∃ i, Hid (x.sum % t.len = i) := ⟨_, rfl⟩
  have hsl : ∀ w, Calls Tryz.prog 99 #[tbVal t, .int .u32 (x.sum : Int)] w fun e w' => e = .returned (.int .i64 (i : Int)) ∧ w = w' := fun w => by
    rw [← HI.out]; exact slot_any t x.sum k w hs HK.out h16
  rw [HI.out] at hc hfT hi ⊢
  clear hq hk hX hT
  unfold ptr tbVal at *
  go_enter Tryz.func95, Tryz.ntmps95
  go_wp2
  refine wp_loop_rounds 2 ?_
  rw [rounds_succ]
  go_wp2_with (go_at_call 99; refine (hsl _).mono ?_; rintro e w' ⟨rfl, rfl⟩)
  rw [rounds_succ]
  go_wp2
  go_end0
  exact ⟨⟨_, rfl⟩, rfl⟩

end Go.Proofs.YtifcpippfiglkaaGreat.Dint64
