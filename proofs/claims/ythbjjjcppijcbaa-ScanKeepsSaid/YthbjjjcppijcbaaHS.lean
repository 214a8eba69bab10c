/- Contracts of hash.Sum, hash.SizeFor and their references. -/
import Derived.Test.YthbjjjcppijcbaaHC
import Derived.Test.YthbjjjcppijcbaaRF
import Derived.OwnWalkIn
import Derived.TacticsInMore
import Derived.LoopNIn
import Derived.LoopIn
import Derived.Laws.MakeOwn
namespace Go.Proofs.Ythbjjjcppijcbaa
open Go.RowKit Pal
attribute [local go_sem] Oper.semAt_some

set_option maxHeartbeats 400000 in
theorem sizes_any (w : World) : Calls Try.prog 86 #[] w fun e w' => e = .returned (.func (.func 101) #[] #[]) ∧ w = w' := by
  go_enter Try.func86, Try.ntmps86
  go_wp2
  go_ret
  exact ⟨rfl, rfl⟩

/-- The iterator over all sizes: J holds where the size k comes next. -/
theorem sizes1_any (l : Nat) (J : Int → World → Prop) (Jx : World → Prop)
    (hY : ∀ (d : Nat) (k : Int) W, k = ((2 ^ d : Nat) : Int) → 2 ≤ d → d ≤ 16 → J k W → YieldAt Fence.wide 2 Try.prog l #[.int .i64 k] W fun e W' =>
      (e = .returned (.bool true) ∧ J (2 * k) W') ∨ (e = .returned (.bool false) ∧ Jx W'))
    (W : World) (h0 : J 4 W) :
    Calls Try.prog 101 #[.func (.yield l) #[] #[]] W fun e W' => (∃ v, e = .returned v) ∧ (J 131072 W' ∨ Jx W') := by
  refine (callsIn_wide (n := 3)).1 ?_
  refine callsIn_of_wp Try.func101 rfl trivial ?_ rfl
  simp only [Try.ntmps101, List.size_toArray, List.length_cons, List.length_nil, Nat.reduceAdd, Nat.reduceSub, Array.replicate_succ, Array.replicate_zero, List.push_toArray, List.append_toArray, List.nil_append, List.cons_append]
  gi_wp2
  gi_loopw [2] (fun p wr => ∃ (d : Nat) (k : Int), p = .int .i64 k ∧ Hid (k = ((2 ^ d : Nat) : Int)) ∧ 2 ≤ d ∧ d ≤ 17 ∧ J k wr)
    (fun p wr => (131073 - intOf p).toNat)
  case atStart => exact ⟨2, 4, rfl, rfl, by omega, by omega, h0⟩
  case round =>
    obtain ⟨d, k, rfl, hk, hd2, hd17, hJ⟩ := hrel
    have hb : 4 ≤ k ∧ k ≤ 131072 := by
      have e := hk.out
      have h3 : (2 : Nat) ^ 2 ≤ 2 ^ d := pow_mono hd2
      have h4 : (2 : Nat) ^ d ≤ 2 ^ 17 := pow_mono hd17
      omega
    obtain ⟨hb1, hb2⟩ := hb
    by_cases hd : d = 17
    · have hk17 : k = 131072 := by rw [hk.out, hd]; decide
      subst hk17
      clear hd hk
      gi_wp2
      go_end0
      exact ⟨⟨_, rfl⟩, .inl hJ⟩
    · have hle : k ≤ 65536 := by
        have e := hk.out
        have h4 : (2 : Nat) ^ d ≤ 2 ^ 16 := pow_mono (by omega)
        omega
      obtain ⟨fn, tmps, assign, body, hy, hR⟩ := hY d k wr hk.out hd2 (by omega) hJ
      have hd' : d + 1 ≤ 17 := by omega
      clear hd
      gi_wp2
      refine hR.mono ?_
      rintro e W3 (⟨rfl, hJ3⟩ | ⟨rfl, hJx3⟩)
      · gi_wp2
        go_roundw
        case rel => exact ⟨d + 1, 2 * k, int_eq (by omega), show _ = _ by rw [Nat.pow_succ]; have := hk.out; omega, by omega, hd', hJ3⟩
        case measure => simp [intOf]; omega
      · gi_wp2
        refine bodyPost_ret (results_none rfl _ _ _) rfl ?_
        exact ⟨⟨_, rfl⟩, .inr hJx3⟩

set_option maxHeartbeats 400000 in
theorem sizeFor_any (n : Int) (w : World) :
    Calls Try.prog 71 #[.int .i64 n] w fun e w' => e = .returned (.int .i64 (sizeFor n : Int)) ∧ Chg (fun _ => False) w w' := by
  refine calls_of_wp_marks Try.func71 rfl ?_
  simp only [Try.ntmps71, List.size_toArray, List.length_cons, List.length_nil, Nat.reduceAdd, Nat.reduceSub, Array.replicate_succ, Array.replicate_zero, List.push_toArray, List.append_toArray, List.nil_append, List.cons_append]
  go_wp2_with fail
  go_step3
  go_wp2_with fail
  go_step3
  go_wp2_with (go_at_call 86; refine (sizes_any _).mono ?_; rintro e w' ⟨rfl, rfl⟩)
  have hb1 : Blk ((w.alloc (Obj.cells #[Value.int IntKind.i64 n] 3)).alloc (Obj.cells #[Value.int IntKind.i64 65536] 3)) w.heap.size 3 #[.int .i64 n] := (Blk.new _ _ _).alloc _
  have hb2 : Blk ((w.alloc (Obj.cells #[Value.int IntKind.i64 n] 3)).alloc (Obj.cells #[Value.int IntKind.i64 65536] 3)) (w.heap.size + 1) 3 #[.int .i64 65536] := by
    have := Blk.new (w.alloc (Obj.cells #[Value.int IntKind.i64 n] 3)) 3 #[Value.int IntKind.i64 65536]
    rwa [World.size_alloc] at this
  have hc0 : Chg (fun _ => False) w ((w.alloc (Obj.cells #[Value.int IntKind.i64 n] 3)).alloc (Obj.cells #[Value.int IntKind.i64 65536] 3)) := ((Chg.refl _ _).alloc _).alloc _
  have hsz : ((w.alloc (Obj.cells #[Value.int IntKind.i64 n] 3)).alloc (Obj.cells #[Value.int IntKind.i64 65536] 3)).heap.size > w.heap.size + 1 := by simp
  generalize hw0 : (w.alloc (Obj.cells #[Value.int IntKind.i64 n] 3)).alloc (Obj.cells #[Value.int IntKind.i64 65536] 3) = W0 at hb1 hb2 hc0 hsz ⊢
  clear hw0
  refine wp_range 101 #[] rfl (enters_of Try.func101 (by kernel_rfl) rfl) (fun fn rec hrec => ?_)
  refine (sizes1_any (W0.heap.size + 1)
    (fun k W => Blk W w.heap.size 3 #[.int .i64 n] ∧ Blk W (w.heap.size + 1) 3 #[.int .i64 65536] ∧ W.heap[W0.heap.size + 1]? = some (.loop (rec .ready none)) ∧ W.heap[W0.heap.size]? = some (.deferred (some [])) ∧ Chg (fun _ => False) w W ∧ SB n k)
    (fun W => Blk W (w.heap.size + 1) 3 #[.int .i64 (sizeFor n : Int)] ∧ W.heap[W0.heap.size + 1]? = some (.loop (rec .done (some (.exit 0)))) ∧ W.heap[W0.heap.size]? = some (.deferred (some [])) ∧ Chg (fun _ => False) w W)
    ?_ _ ?_).mono ?_
  · rintro d k W hkd hd2 hd16 ⟨hB1, hB2, hl, hD, hC, hS⟩
    have hb := hS.lo
    have hle : k ≤ 65536 := by
      have h4 : (2 : Nat) ^ d ≤ 2 ^ 16 := pow_mono hd16
      omega
    clear hkd
    refine yield_body hrec hl rfl (fun K hK => by gi_wp2; exact hK) hl ?_
    clear hrec
    have g1 : Blk (W.putObj (W0.heap.size + 1) (Obj.loop (rec LoopState.busy none))) w.heap.size 3 #[.int .i64 n] := hB1.putObj (by omega) _
    have g2 : Blk (W.putObj (W0.heap.size + 1) (Obj.loop (rec LoopState.busy none))) (w.heap.size + 1) 3 #[.int .i64 65536] := hB2.putObj (by omega) _
    have g3 : (W.putObj (W0.heap.size + 1) (Obj.loop (rec LoopState.busy none))).heap[W0.heap.size + 1]? = some (.loop (rec .busy none)) := World.putObj_heap_same (Array.getElem?_eq_some_iff.1 hl).1
    have g4 : (W.putObj (W0.heap.size + 1) (Obj.loop (rec LoopState.busy none))).heap[W0.heap.size]? = some (.deferred (some [])) := (World.putObj_heap_other (by omega)).trans hD
    have g5 : Chg (fun _ => False) w (W.putObj (W0.heap.size + 1) (Obj.loop (rec LoopState.busy none))) := hC.putObj (by intro h; omega) _
    generalize W.putObj (W0.heap.size + 1) (Obj.loop (rec LoopState.busy none)) = W1 at g1 g2 g3 g4 g5 ⊢
    clear hB1 hB2 hl hD hC hb1 hb2 hc0
    have c1 := g1.cell 0
    have c2 := g2.cell 0
    have f2 := g2.frozen 0
    simp only [List.getElem?_toArray, List.getElem?_cons_zero] at c1 c2
    by_cases hn : n ≤ k
    · have H := Lib.hid (hS.yes hle hn)
      clear hS
      gi_wp2
      refine ⟨?_, .inr ⟨rfl, ?_, ?_, ?_, ?_⟩⟩
      · exact (Below.heap_setCell _ _ _ _ (by simp; omega)).trans g3
      · rw [H.out]; exact (g2.set 0 _).putObj (by omega) _
      · exact World.putObj_heap_same (by rw [World.size_setCell]; exact (Array.getElem?_eq_some_iff.1 g3).1)
      · exact (World.putObj_heap_other (by omega)).trans ((Below.heap_setCell _ _ _ _ (by simp; omega)).trans g4)
      · exact (g5.setCell (by intro h; simp at h; omega) _).putObj (by intro h; omega) _
    · have H := Lib.hid (hS.next hle (by omega))
      clear hS
      gi_wp2
      refine ⟨g3, .inl ⟨rfl, g1.putObj (by omega) _, g2.putObj (by omega) _, World.putObj_heap_same (Array.getElem?_eq_some_iff.1 g3).1, (World.putObj_heap_other (by omega)).trans g4, g5.putObj (by intro h; omega) _, H.out⟩⟩
  · refine ⟨(hb1.alloc _).alloc _, (hb2.alloc _).alloc _, ?_, ?_, (hc0.alloc _).alloc _, SB.start n⟩
    · have := World.alloc_heap_new (W0.alloc (.deferred (some []))) (.loop (rec .ready none))
      rwa [World.size_alloc] at this
    · exact (Below.heap_alloc _ _ _ (by simp)).trans (World.alloc_heap_new _ _)
  · rintro e W ⟨⟨v, rfl⟩, (⟨hB1, hB2, hl, hD, hC, hS⟩ | ⟨hB2, hl, hD, hC⟩)⟩
    · have H := hS.no (by omega)
      refine ⟨⟨_, rfl⟩, .inl ⟨hl, ?_⟩⟩
      have g2 : Blk (W.putObj (W0.heap.size + 1) (Obj.loop (rec LoopState.exhausted none))) (w.heap.size + 1) 3 #[.int .i64 65536] := hB2.putObj (by omega) _
      have g4 : (W.putObj (W0.heap.size + 1) (Obj.loop (rec LoopState.exhausted none))).heap[W0.heap.size]? = some (.deferred (some [])) := (World.putObj_heap_other (by omega)).trans hD
      have g5 : Chg (fun _ => False) w (W.putObj (W0.heap.size + 1) (Obj.loop (rec LoopState.exhausted none))) := hC.putObj (by intro h; omega) _
      generalize W.putObj (W0.heap.size + 1) (Obj.loop (rec LoopState.exhausted none)) = W1 at g2 g4 g5 ⊢
      have c2 := g2.cell 0
      simp only [List.getElem?_toArray, List.getElem?_cons_zero] at c2
      rw [← H] at c2
      have H' := Lib.hid H
      clear H hS hl hD hC hB1 hB2 hb1 hb2 hc0 hrec
      go_wp2_with fail
      rw [Exit.noGoto_ret]
      exact bodyPostM_ret rfl g4 (results_tmp rfl _ _ _) ⟨rfl, g5.putObj (by intro h; omega) _⟩
    · refine ⟨⟨_, rfl⟩, .inr ⟨.exit 0, hl, ?_⟩⟩
      have g2 : Blk (W.putObj (W0.heap.size + 1) (Obj.loop (rec LoopState.exhausted (some (.exit 0))))) (w.heap.size + 1) 3 #[.int .i64 (sizeFor n : Int)] := hB2.putObj (by omega) _
      have g4 : (W.putObj (W0.heap.size + 1) (Obj.loop (rec LoopState.exhausted (some (.exit 0))))).heap[W0.heap.size]? = some (.deferred (some [])) := (World.putObj_heap_other (by omega)).trans hD
      have g5 : Chg (fun _ => False) w (W.putObj (W0.heap.size + 1) (Obj.loop (rec LoopState.exhausted (some (.exit 0))))) := hC.putObj (by intro h; omega) _
      generalize W.putObj (W0.heap.size + 1) (Obj.loop (rec LoopState.exhausted (some (.exit 0)))) = W1 at g2 g4 g5 ⊢
      have c2 := g2.cell 0
      simp only [List.getElem?_toArray, List.getElem?_cons_zero] at c2
      clear hl hD hC hB2 hb1 hb2 hc0 hrec
      go_wp2_with fail
      rw [Exit.noGoto_ret]
      exact bodyPostM_ret rfl g4 (results_tmp rfl _ _ _) ⟨rfl, g5.putObj (by intro h; omega) _⟩

set_option maxHeartbeats 400000 in
theorem each_any (s : ByteArray) (w : World) : Calls Try.prog 87 #[.string s] w fun e w' => e = .returned (.func (.func 102) #[] #[.pointer (some ⟨w.heap.size, 0, none⟩)]) ∧ w.alloc (.cells #[.string s] 9) = w' := by
  go_enter Try.func87, Try.ntmps87
  go_wp2
  go_ret
  exact ⟨rfl, rfl⟩

/-- The iterator over the bytes of a text (in block B): J holds where k bytes have come. -/
theorem each1_any (l B : Nat) (s : ByteArray) (hs : s.size ≤ 9223372036854775807) (J : Nat → World → Prop) (hJ : ∀ k W, J k W → W.cell? ⟨B, 0, none⟩ = some (.string s))
    (hY : ∀ (k : Nat) (W : World) (hk : k < s.size), J k W → YieldAt Fence.wide 2 Try.prog l #[.int .u32 (s[k].toNat : Int)] W fun e W' => e = .returned (.bool true) ∧ J (k + 1) W')
    (W : World) (h0 : J 0 W) :
    Calls Try.prog 102 #[.func (.yield l) #[] #[], .pointer (some ⟨B, 0, none⟩)] W fun e W' => (∃ v, e = .returned v) ∧ J s.size W' := by
  have hc := hJ _ _ h0
  refine (callsIn_wide (n := 3)).1 ?_
  refine callsIn_of_wp Try.func102 rfl trivial ?_ rfl
  simp only [Try.ntmps102, List.size_toArray, List.length_cons, List.length_nil, Nat.reduceAdd, Nat.reduceSub, Array.replicate_succ, Array.replicate_zero, List.push_toArray, List.append_toArray, List.nil_append, List.cons_append]
  gi_wp2
  clear hc
  gi_loopw [3, 6] (fun _ p wr => ∃ (k : Nat), p = .int .i64 (k : Int) ∧ k ≤ s.size ∧ J k wr)
    (fun _ p wr => s.size - (intOf p).toNat)
  case atStart => exact ⟨0, rfl, Nat.zero_le _, h0⟩
  case round =>
    obtain ⟨k, rfl, hk, hJk⟩ := hrel
    have hc := hJ _ _ hJk
    by_cases hlt : k < s.size
    · obtain ⟨fn, tmps, assign, body, hy, hR⟩ := hY k wr hlt hJk
      have e : ((s[k].toNat : Int) % 4294967296) = (s[k].toNat : Int) := by have := s[k].toNat_lt; omega
      rw [← e] at hy
      clear e
      gi_wp2
      refine hR.mono ?_
      rintro e W3 ⟨rfl, hJ3⟩
      gi_wp2
      go_roundw
      case rel => exact ⟨k + 1, by go_num, by omega, hJ3⟩
      case measure => simp [intOf]; omega
    · have hk' : s.size ≤ k := by omega
      gi_wp2
      go_end0
      exact ⟨⟨_, rfl⟩, by rw [show s.size = k by omega]; exact hJk⟩

/-! ### mixing -/
theorem mix_bits (h n : Nat) (hh : h < 4294967296) (hn : n < 4294967296) : bits BinOp.xor IntKind.u32 (h : Int) (n : Int) * 16777619 % 4294967296 = (((h ^^^ n) * 16777619 % 4294967296 : Nat) : Int) := by
  rw [u32_xor_nat _ _ hh hn]; omega

set_option maxHeartbeats 400000 in
/-- One number is mixed in (the slice that the call makes for it lies in block b). -/
theorem mixed_one (h n : Nat) (b : Nat) (w : World) (hh : h < 4294967296) (hn : n < 4294967296) (hc : w.cell? ⟨b, 0, none⟩ = some (.int .u32 (n : Int))) :
    Calls Try.prog 88 #[.int .u32 (h : Int), .slice (some ⟨b, 0, none⟩) 1 1] w fun e w' => e = .returned (.int .u32 (((h ^^^ n) * 16777619 % 4294967296 : Nat) : Int)) ∧ w = w' := by
  have H := Lib.hid (mix_bits h n hh hn)
  go_enter Try.func88, Try.ntmps88
  go_wp2
  refine wp_loop_rounds 2 ?_
  rw [rounds_succ]
  go_wp2
  rw [rounds_succ]
  go_wp2
  go_ret
  exact ⟨by rw [← H.out]; rfl, rfl⟩

theorem sum_end_bits (h : Nat) (hh : h < 4294967296) :
    bits BinOp.xor IntKind.u32 (bits BinOp.xor IntKind.u32 (h : Int) ((h : Int) / 32768) * 2246822519 % 4294967296) (bits BinOp.xor IntKind.u32 (h : Int) ((h : Int) / 32768) * 2246822519 % 4294967296 / 8192) =
      (endN (stirN h * 2246822519 % 4294967296) : Int) := by
  have e1 : (h : Int) / 32768 = ((h / 32768 : Nat) : Int) := rfl
  have e2 : bits BinOp.xor IntKind.u32 (h : Int) ((h : Int) / 32768) = (stirN h : Int) := by rw [e1, u32_xor_nat _ _ hh (by omega)]; rfl
  have e3 : (stirN h : Int) * 2246822519 % 4294967296 = ((stirN h * 2246822519 % 4294967296 : Nat) : Int) := by omega
  rw [e2, e3]
  have hm : stirN h * 2246822519 % 4294967296 < 4294967296 := Nat.mod_lt _ (by omega)
  generalize stirN h * 2246822519 % 4294967296 = m at hm ⊢
  have e4 : (m : Int) / 8192 = ((m / 8192 : Nat) : Int) := rfl
  rw [e4, u32_xor_nat _ _ hm (by omega)]; rfl

theorem take_snoc (s : ByteArray) (k : Nat) (h : k < s.size) : s.data.toList.take (k + 1) = s.data.toList.take k ++ [s[k]] := by
  rw [List.take_succ_eq_append_getElem (by simpa using h)]; rfl
theorem seed_bits (seed : Nat) (h : seed < 4294967296) : bits BinOp.xor IntKind.u32 (seed : Int) 2166136261 = ((seed ^^^ 2166136261 : Nat) : Int) := u32_xor_nat seed 2166136261 h (by omega)

set_option maxHeartbeats 400000 in
theorem sum_any (seed : Nat) (s : ByteArray) (w : World) (hseed : seed < 4294967296) (hs : s.size ≤ 9223372036854775807) :
    Calls Try.prog 72 #[.int .u32 (seed : Int), .string s] w fun e w' => e = .returned (.int .u32 (sumN seed s.data.toList : Int)) ∧ Chg (fun _ => False) w w' := by
  have hx : Hid (bits BinOp.xor IntKind.u32 (seed : Int) 2166136261 = ((seed ^^^ 2166136261 : Nat) : Int)) := seed_bits seed hseed
  have hh0 : seed ^^^ 2166136261 < 4294967296 := xor32 hseed (by omega)
  refine calls_of_wp_marks Try.func72 rfl ?_
  simp only [Try.ntmps72, List.size_toArray, List.length_cons, List.length_nil, Nat.reduceAdd, Nat.reduceSub, Array.replicate_succ, Array.replicate_zero, List.push_toArray, List.append_toArray, List.nil_append, List.cons_append]
  go_wp2_with (go_at_call 87; refine (each_any _ _).mono ?_; rintro e w' ⟨rfl, rfl⟩)
  rw [hx.out]
  clear hx
  generalize hh : seed ^^^ 2166136261 = h0 at hh0 ⊢
  have HH := Lib.hid hh
  clear hh
  have hb1 : Blk ((w.alloc (Obj.cells #[Value.int IntKind.u32 (h0 : Int)] 22)).alloc (Obj.cells #[Value.string s] 9)) w.heap.size 22 #[.int .u32 (h0 : Int)] := (Blk.new _ _ _).alloc _
  have hb2 : Blk ((w.alloc (Obj.cells #[Value.int IntKind.u32 (h0 : Int)] 22)).alloc (Obj.cells #[Value.string s] 9)) (w.heap.size + 1) 9 #[.string s] := by
    have := Blk.new (w.alloc (Obj.cells #[Value.int IntKind.u32 (h0 : Int)] 22)) 9 #[Value.string s]
    rwa [World.size_alloc] at this
  have hc0 : Chg (fun _ => False) w ((w.alloc (Obj.cells #[Value.int IntKind.u32 (h0 : Int)] 22)).alloc (Obj.cells #[Value.string s] 9)) := ((Chg.refl _ _).alloc _).alloc _
  have hsz : ((w.alloc (Obj.cells #[Value.int IntKind.u32 (h0 : Int)] 22)).alloc (Obj.cells #[Value.string s] 9)).heap.size > w.heap.size + 1 := by simp
  generalize hw0 : (w.alloc (Obj.cells #[Value.int IntKind.u32 (h0 : Int)] 22)).alloc (Obj.cells #[Value.string s] 9) = W0 at hb1 hb2 hc0 hsz ⊢
  clear hw0
  refine wp_range 102 #[.pointer (some ⟨w.heap.size + 1, 0, none⟩)] rfl (enters_of Try.func102 (by kernel_rfl) rfl) (fun fn rec hrec => ?_)
  refine (each1_any (W0.heap.size + 1) (w.heap.size + 1) s hs
    (fun k W => Blk W w.heap.size 22 #[.int .u32 (((s.data.toList.take k).foldl mixB h0 : Nat) : Int)] ∧ Blk W (w.heap.size + 1) 9 #[.string s] ∧ W.heap[W0.heap.size + 1]? = some (.loop (rec .ready none)) ∧ W.heap[W0.heap.size]? = some (.deferred (some [])) ∧ Chg (fun _ => False) w W)
    ?_ ?_ _ ?_).mono ?_
  · rintro k W ⟨_, hB2, _⟩
    exact hB2.cell 0
  · rintro k W hk ⟨hB1, hB2, hl, hD, hC⟩
    refine yield_body hrec hl rfl (fun K hK => by gi_wp2; exact hK) hl ?_
    have hfl := fold_lt (s.data.toList.take k) h0 hh0
    have hst : Hid ((s.data.toList.take (k + 1)).foldl mixB h0 = mixB ((s.data.toList.take k).foldl mixB h0) s[k]) := by
      show _ = _
      rw [take_snoc s k hk, List.foldl_append, List.foldl_cons, List.foldl_nil]
    have hbyte : s[k].toNat < 4294967296 := by have := s[k].toNat_lt; omega
    rw [show (fun e W' => e = Ending.returned (Value.bool true) ∧ Blk W' w.heap.size 22 #[.int .u32 (((s.data.toList.take (k + 1)).foldl mixB h0 : Nat) : Int)] ∧ Blk W' (w.heap.size + 1) 9 #[.string s] ∧ W'.heap[W0.heap.size + 1]? = some (.loop (rec .ready none)) ∧ W'.heap[W0.heap.size]? = some (.deferred (some [])) ∧ Chg (fun _ => False) w W') = (fun e W' => e = Ending.returned (Value.bool true) ∧ Blk W' w.heap.size 22 #[.int .u32 ((mixB ((s.data.toList.take k).foldl mixB h0) s[k] : Nat) : Int)] ∧ Blk W' (w.heap.size + 1) 9 #[.string s] ∧ W'.heap[W0.heap.size + 1]? = some (.loop (rec .ready none)) ∧ W'.heap[W0.heap.size]? = some (.deferred (some [])) ∧ Chg (fun _ => False) w W') by rw [hst.out]]
    clear hst
    generalize (s.data.toList.take k).foldl mixB h0 = hk' at hfl hB1 ⊢
    unfold mixB
    generalize s[k].toNat = n at hbyte ⊢
    have g1 : Blk (W.putObj (W0.heap.size + 1) (Obj.loop (rec LoopState.busy none))) w.heap.size 22 #[.int .u32 (hk' : Int)] := hB1.putObj (by omega) _
    have g2 : Blk (W.putObj (W0.heap.size + 1) (Obj.loop (rec LoopState.busy none))) (w.heap.size + 1) 9 #[.string s] := hB2.putObj (by omega) _
    have g3 : (W.putObj (W0.heap.size + 1) (Obj.loop (rec LoopState.busy none))).heap[W0.heap.size + 1]? = some (.loop (rec .busy none)) := World.putObj_heap_same (Array.getElem?_eq_some_iff.1 hl).1
    have g4 : (W.putObj (W0.heap.size + 1) (Obj.loop (rec LoopState.busy none))).heap[W0.heap.size]? = some (.deferred (some [])) := (World.putObj_heap_other (by omega)).trans hD
    have g5 : Chg (fun _ => False) w (W.putObj (W0.heap.size + 1) (Obj.loop (rec LoopState.busy none))) := hC.putObj (by intro h; omega) _
    generalize W.putObj (W0.heap.size + 1) (Obj.loop (rec LoopState.busy none)) = W1 at g1 g2 g3 g4 g5 ⊢
    clear hB1 hB2 hl hD hC hb1 hb2 hc0 hrec
    have c1 := g1.cell 0
    have f1 := g1.frozen 0
    simp only [List.getElem?_toArray, List.getElem?_cons_zero] at c1
    gi_wp2
    refine ⟨trivial, ?_⟩
    have cn : (W1.alloc (Obj.cells #[Value.int IntKind.u32 (n : Int)] 22)).cell? ⟨W1.heap.size, 0, none⟩ = some (.int .u32 (n : Int)) := (Blk.new W1 22 #[Value.int IntKind.u32 (n : Int)]).cell 0
    refine (CallsIn.inRound _ (callsIn_wide.2 (mixed_one hk' n W1.heap.size _ hfl hbyte cn))).mono ?_
    rintro e w' ⟨rfl, rfl⟩
    have i1 := g1.alloc (Obj.cells #[Value.int IntKind.u32 (n : Int)] 22)
    have i2 := g2.alloc (Obj.cells #[Value.int IntKind.u32 (n : Int)] 22)
    have i3 := (Below.heap_alloc W1 (Obj.cells #[Value.int IntKind.u32 (n : Int)] 22) (W0.heap.size + 1) (Array.getElem?_eq_some_iff.1 g3).1).trans g3
    have i4 := (Below.heap_alloc W1 (Obj.cells #[Value.int IntKind.u32 (n : Int)] 22) W0.heap.size (Array.getElem?_eq_some_iff.1 g4).1).trans g4
    have i5 := g5.alloc (Obj.cells #[Value.int IntKind.u32 (n : Int)] 22)
    generalize W1.alloc (Obj.cells #[Value.int IntKind.u32 (n : Int)] 22) = W2 at i1 i2 i3 i4 i5 ⊢
    clear cn g1 g2 g3 g4 g5 c1 f1
    have c1 := i1.cell 0
    have f1 := i1.frozen 0
    simp only [List.getElem?_toArray, List.getElem?_cons_zero] at c1
    gi_wp2
    refine ⟨?_, rfl, ?_, ?_, ?_, ?_, ?_⟩
    · exact (Below.heap_setCell _ _ _ _ (by simp; omega)).trans i3
    · exact (i1.set 0 _).putObj (by omega) _
    · exact (i2.far (by simp) _).putObj (by omega) _
    · exact World.putObj_heap_same (by rw [World.size_setCell]; exact (Array.getElem?_eq_some_iff.1 i3).1)
    · exact (World.putObj_heap_other (by omega)).trans ((Below.heap_setCell _ _ _ _ (by simp; omega)).trans i4)
    · exact (i5.setCell (by intro h; simp at h) _).putObj (by intro h; omega) _
  · refine ⟨(hb1.alloc _).alloc _, (hb2.alloc _).alloc _, ?_, ?_, (hc0.alloc _).alloc _⟩
    · have := World.alloc_heap_new (W0.alloc (.deferred (some []))) (.loop (rec .ready none))
      rwa [World.size_alloc] at this
    · exact (Below.heap_alloc _ _ _ (by simp)).trans (World.alloc_heap_new _ _)
  · rintro e W ⟨⟨v, rfl⟩, hB1, hB2, hl, hD, hC⟩
    refine ⟨⟨_, rfl⟩, .inl ⟨hl, ?_⟩⟩
    rw [List.take_of_length_le (by simp)] at hB1
    have hfl := fold_lt s.data.toList h0 hh0
    have hfin : Hid (sumN seed s.data.toList = endN (stirN (s.data.toList.foldl mixB h0) * 2246822519 % 4294967296)) := by
      show _ = _
      unfold sumN; rw [HH.out]
    have g1 : Blk (W.putObj (W0.heap.size + 1) (Obj.loop (rec LoopState.exhausted none))) w.heap.size 22 #[.int .u32 ((s.data.toList.foldl mixB h0 : Nat) : Int)] := hB1.putObj (by omega) _
    have g4 : (W.putObj (W0.heap.size + 1) (Obj.loop (rec LoopState.exhausted none))).heap[W0.heap.size]? = some (.deferred (some [])) := (World.putObj_heap_other (by omega)).trans hD
    have g5 : Chg (fun _ => False) w (W.putObj (W0.heap.size + 1) (Obj.loop (rec LoopState.exhausted none))) := hC.putObj (by intro h; omega) _
    generalize W.putObj (W0.heap.size + 1) (Obj.loop (rec LoopState.exhausted none)) = W1 at g1 g4 g5 ⊢
    generalize s.data.toList.foldl mixB h0 = hv at g1 hfin hfl
    have c1 := g1.cell 0
    have f1 := g1.frozen 0
    simp only [List.getElem?_toArray, List.getElem?_cons_zero] at c1
    clear hl hD hC hB1 hB2 hb1 hb2 hc0 hrec HH
    have hbits := Lib.hid (sum_end_bits hv hfl)
    go_wp2_with fail
    refine bodyPostM_ret (D := W0.heap.size) rfl ?_ (results_tmp rfl _ _ _) ⟨?_, ?_⟩
    · exact (Below.heap_setCell _ _ _ _ (by simp; omega)).trans ((Below.heap_setCell _ _ _ _ (by simp; omega)).trans g4)
    · rw [hfin.out, ← hbits.out]; rfl
    · refine Chg.putObj (Chg.setCell (Chg.setCell g5 ?_ _) ?_ _) ?_ _
      all_goals
        intro h
        try simp at h
        try omega

/-! ### the reference -/
theorem u64_in {n : Nat} (h : n < 18446744073709551616) : IntKind.u64.wrap (n : Int) = (n : Int) := by rw [IntKind.wrap_u64]; omega

theorem refMix_bits (h n : Nat) (hh : h < 4294967296) (hn : n < 256) :
    (IntKind.u64.wrap (bits BinOp.xor IntKind.u64 (h : Int) (IntKind.u64.wrap (n : Int)) * 16777619)).tmod 4294967296 = (((h ^^^ n) * 16777619 % 4294967296 : Nat) : Int) := by
  have hx := xor32 hh (show n < 4294967296 by omega)
  rw [u64_in (show n < 18446744073709551616 by omega), u64_xor_nat _ _ (by omega) (by omega), IntKind.wrap_u64, Int.tmod_eq_emod_of_nonneg (by omega)]
  omega
theorem refSeed_bits (seed : Nat) (h : seed < 4294967296) : bits BinOp.xor IntKind.u64 (seed : Int) 2166136261 = ((seed ^^^ 2166136261 : Nat) : Int) := u64_xor_nat seed 2166136261 (by omega) (by omega)
theorem refEnd_bits (h : Nat) (hh : h < 4294967296) :
    bits BinOp.xor IntKind.u64 ((IntKind.u64.wrap (bits BinOp.xor IntKind.u64 (h : Int) ((h : Int) / 32768) * 2246822519)).tmod 4294967296)
      (IntKind.u64.wrap (((IntKind.u64.wrap (bits BinOp.xor IntKind.u64 (h : Int) ((h : Int) / 32768) * 2246822519)).tmod 4294967296).tdiv 8192)) % 4294967296 =
      (endN (stirN h * 2246822519 % 4294967296) : Int) := by
  have e1 : (h : Int) / 32768 = ((h / 32768 : Nat) : Int) := rfl
  have e2 : bits BinOp.xor IntKind.u64 (h : Int) ((h : Int) / 32768) = (stirN h : Int) := by rw [e1, u64_xor_nat _ _ (by omega) (by omega)]; rfl
  have hs := stirN_lt hh
  have e3 : (IntKind.u64.wrap ((stirN h : Int) * 2246822519)).tmod 4294967296 = ((stirN h * 2246822519 % 4294967296 : Nat) : Int) := by
    rw [IntKind.wrap_u64, Int.tmod_eq_emod_of_nonneg (by omega)]; omega
  rw [e2, e3]
  have hm : stirN h * 2246822519 % 4294967296 < 4294967296 := Nat.mod_lt _ (by omega)
  generalize stirN h * 2246822519 % 4294967296 = m at hm ⊢
  have e4 : (m : Int).tdiv 8192 = ((m / 8192 : Nat) : Int) := by rw [Int.tdiv_eq_ediv_of_nonneg (by omega)]; rfl
  have hx := endN_lt hm
  rw [e4, u64_in (by omega), u64_xor_nat _ _ (by omega) (by omega)]
  unfold endN at hx ⊢
  generalize m ^^^ m / 8192 = q at hx ⊢
  omega

set_option maxHeartbeats 400000 in
theorem sumR_any (seed : Nat) (s : ByteArray) (w : World) (hseed : seed < 4294967296) (hs : s.size ≤ 9223372036854775807) :
    Calls Try.prog 78 #[.int .u32 (seed : Int), .string s] w fun e w' => e = .returned (.int .u32 (sumN seed s.data.toList : Int)) ∧ w = w' := by
  have hh0 : seed ^^^ 2166136261 < 4294967296 := xor32 hseed (by omega)
  have hsb := Lib.hid (refSeed_bits seed hseed)
  generalize hh : seed ^^^ 2166136261 = h0 at hh0 hsb ⊢
  have HH := Lib.hid hh
  clear hh
  go_enter Try.func78, Try.ntmps78
  go_wp2
  rw [hsb.out]
  go_loop [5, 6] (fun h i => ∃ (k : Nat) (hv : Nat), k ≤ s.size ∧ i = .int .i64 (k : Int) ∧ h = .int .u64 (hv : Int) ∧ hv < 4294967296 ∧ Hid (hv = (s.data.toList.take k).foldl mixB h0)) (fun _ i => s.size - (intOf i).toNat)
  case atStart => exact ⟨0, h0, by omega, rfl, rfl, hh0, rfl⟩
  case round =>
    obtain ⟨k, hv, hk, rfl, rfl, hfl, hhv⟩ := hrel
    by_cases hlt : k < s.size
    · have hby : s[k].toNat < 256 := s[k].toNat_lt
      have hmx := Lib.hid (refMix_bits hv s[k].toNat hfl hby)
      have hst : Hid ((s.data.toList.take (k + 1)).foldl mixB h0 = mixB hv s[k]) := by
        show _ = _
        rw [take_snoc s k hlt, List.foldl_append, List.foldl_cons, List.foldl_nil, ← hhv.out]
      clear hby
      go_wp2
      go_round
      case rel => exact ⟨k + 1, mixB hv s[k], by omega, by go_num, int_eq hmx.out, mixB_lt _ _, hst.out.symm⟩
      case measure => simp [intOf]; omega
    · have hfin : Hid (sumN seed s.data.toList = endN (stirN hv * 2246822519 % 4294967296)) := by
        show _ = _
        have e := hhv.out
        rw [List.take_of_length_le (by simp; omega)] at e
        unfold sumN; rw [HH.out, ← e]
      have hend := Lib.hid (refEnd_bits hv hfl)
      go_wp2
      go_ret
      exact ⟨by rw [hfin.out, ← hend.out]; rfl, rfl⟩

/-! ### the first hundred bytes -/
def cutS (s : ByteArray) (n : Nat) : ByteArray := if n < s.size then s.extract 0 n else s
theorem cutS_size (s : ByteArray) (n : Nat) : (cutS s n).size ≤ s.size := by
  unfold cutS; split
  · rw [ByteArray.size_extract]; omega
  · exact Nat.le_refl _

end Go.Proofs.Ythbjjjcppijcbaa
