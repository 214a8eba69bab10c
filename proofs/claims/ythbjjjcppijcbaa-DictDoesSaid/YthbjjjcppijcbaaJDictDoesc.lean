/- Texts joined for DictDoes: HS, DWint, RM. -/
import Derived.Test.YthbjjjcppijcbaaJDictDoesa
import Derived.Test.YthbjjjcppijcbaaJDictDoesb
import Derived.Test.YthbjjjcppijcbaaProg
import Derived.OwnWalkIn
import Derived.TacticsInMore
import Derived.LoopNIn
import Derived.LoopIn
import Derived.Laws.MakeOwn
import Derived.Deep.QuietTactic
import Derived.BigQuiet
import Derived.Deep.LoopGhost
import Derived.StillTailTactics
import Derived.WalkSpells
import Derived.Deep.RegionWith
import Derived.Laws.OwnMore
import Derived.Deep.Onto
set_option linter.unusedVariables false
set_option linter.unusedSimpArgs false

/- Contracts of hash.Sum, hash.SizeFor and their references. -/
namespace Go.Proofs.Ythbjjjcppijcbaa
open Go.RowKit Pal
attribute [local go_sem] Oper.semAt_some

set_option maxHeartbeats 400000 in
theorem sizes_any (w : World) : Calls Try.prog 86 #[] w fun e w' => e = .returned (.func (.func 101) #[] #[]) ∧ w = w' := by
  go_enter Try.func86, Try.ntmps86
  go_wp2
  go_ret
  exact ⟨rfl, rfl⟩

/-- The iterator over all sizes: J holds where the size k comes next. -/
theorem sizes1_any (l : Nat) (J : Int → World → Prop) (Jx : World → Prop)
    (hY : ∀ (d : Nat) (k : Int) W, k = ((2 ^ d : Nat) : Int) → 2 ≤ d → d ≤ 16 → J k W → YieldAt Fence.wide 2 Try.prog l #[.int .i64 k] W fun e W' =>
      (e = .returned (.bool true) ∧ J (2 * k) W') ∨ (e = .returned (.bool false) ∧ Jx W'))
    (W : World) (h0 : J 4 W) :
    Calls Try.prog 101 #[.func (.yield l) #[] #[]] W fun e W' => (∃ v, e = .returned v) ∧ (J 131072 W' ∨ Jx W') := by
  refine (callsIn_wide (n := 3)).1 ?_
  refine callsIn_of_wp Try.func101 rfl trivial ?_ rfl
  simp only [Try.ntmps101, List.size_toArray, List.length_cons, List.length_nil, Nat.reduceAdd, Nat.reduceSub, Array.replicate_succ, Array.replicate_zero, List.push_toArray, List.append_toArray, List.nil_append, List.cons_append]
  gi_wp2
  gi_loopw [2] (fun p wr => ∃ (d : Nat) (k : Int), p = .int .i64 k ∧ Hid (k = ((2 ^ d : Nat) : Int)) ∧ 2 ≤ d ∧ d ≤ 17 ∧ J k wr)
    (fun p wr => (131073 - intOf p).toNat)
  case atStart => exact ⟨2, 4, rfl, rfl, by omega, by omega, h0⟩
  case round =>
    obtain ⟨d, k, rfl, hk, hd2, hd17, hJ⟩ := hrel
    have hb : 4 ≤ k ∧ k ≤ 131072 := by
      have e := hk.out
      have h3 : (2 : Nat) ^ 2 ≤ 2 ^ d := pow_mono hd2
      have h4 : (2 : Nat) ^ d ≤ 2 ^ 17 := pow_mono hd17
      omega
    obtain ⟨hb1, hb2⟩ := hb
    by_cases hd : d = 17
    · have hk17 : k = 131072 := by rw [hk.out, hd]; decide
      subst hk17
      clear hd hk
      gi_wp2
      go_end0
      exact ⟨⟨_, rfl⟩, .inl hJ⟩
    · have hle : k ≤ 65536 := by
        have e := hk.out
        have h4 : (2 : Nat) ^ d ≤ 2 ^ 16 := pow_mono (by omega)
        omega
      obtain ⟨fn, tmps, assign, body, hy, hR⟩ := hY d k wr hk.out hd2 (by omega) hJ
      have hd' : d + 1 ≤ 17 := by omega
      clear hd
      gi_wp2
      refine hR.mono ?_
      rintro e W3 (⟨rfl, hJ3⟩ | ⟨rfl, hJx3⟩)
      · gi_wp2
        go_roundw
        case rel => exact ⟨d + 1, 2 * k, int_eq (by omega), show _ = _ by rw [Nat.pow_succ]; have := hk.out; omega, by omega, hd', hJ3⟩
        case measure => simp [intOf]; omega
      · gi_wp2
        refine bodyPost_ret (results_none rfl _ _ _) rfl ?_
        exact ⟨⟨_, rfl⟩, .inr hJx3⟩

set_option maxHeartbeats 400000 in
theorem sizeFor_any (n : Int) (w : World) :
    Calls Try.prog 71 #[.int .i64 n] w fun e w' => e = .returned (.int .i64 (sizeFor n : Int)) ∧ Chg (fun _ => False) w w' := by
  refine calls_of_wp_marks Try.func71 rfl ?_
  simp only [Try.ntmps71, List.size_toArray, List.length_cons, List.length_nil, Nat.reduceAdd, Nat.reduceSub, Array.replicate_succ, Array.replicate_zero, List.push_toArray, List.append_toArray, List.nil_append, List.cons_append]
  go_wp2_with fail
  go_step3
  go_wp2_with fail
  go_step3
  go_wp2_with (go_at_call 86; refine (sizes_any _).mono ?_; rintro e w' ⟨rfl, rfl⟩)
  have hb1 : Blk ((w.alloc (Obj.cells #[Value.int IntKind.i64 n] 3)).alloc (Obj.cells #[Value.int IntKind.i64 65536] 3)) w.heap.size 3 #[.int .i64 n] := (Blk.new _ _ _).alloc _
  have hb2 : Blk ((w.alloc (Obj.cells #[Value.int IntKind.i64 n] 3)).alloc (Obj.cells #[Value.int IntKind.i64 65536] 3)) (w.heap.size + 1) 3 #[.int .i64 65536] := by
    have := Blk.new (w.alloc (Obj.cells #[Value.int IntKind.i64 n] 3)) 3 #[Value.int IntKind.i64 65536]
    rwa [World.size_alloc] at this
  have hc0 : Chg (fun _ => False) w ((w.alloc (Obj.cells #[Value.int IntKind.i64 n] 3)).alloc (Obj.cells #[Value.int IntKind.i64 65536] 3)) := ((Chg.refl _ _).alloc _).alloc _
  have hsz : ((w.alloc (Obj.cells #[Value.int IntKind.i64 n] 3)).alloc (Obj.cells #[Value.int IntKind.i64 65536] 3)).heap.size > w.heap.size + 1 := by simp
  generalize hw0 : (w.alloc (Obj.cells #[Value.int IntKind.i64 n] 3)).alloc (Obj.cells #[Value.int IntKind.i64 65536] 3) = W0 at hb1 hb2 hc0 hsz ⊢
  clear hw0
  refine wp_range 101 #[] rfl (enters_of Try.func101 (by kernel_rfl) rfl) (fun fn rec hrec => ?_)
  refine (sizes1_any (W0.heap.size + 1)
    (fun k W => Blk W w.heap.size 3 #[.int .i64 n] ∧ Blk W (w.heap.size + 1) 3 #[.int .i64 65536] ∧ W.heap[W0.heap.size + 1]? = some (.loop (rec .ready none)) ∧ W.heap[W0.heap.size]? = some (.deferred (some [])) ∧ Chg (fun _ => False) w W ∧ SB n k)
    (fun W => Blk W (w.heap.size + 1) 3 #[.int .i64 (sizeFor n : Int)] ∧ W.heap[W0.heap.size + 1]? = some (.loop (rec .done (some (.exit 0)))) ∧ W.heap[W0.heap.size]? = some (.deferred (some [])) ∧ Chg (fun _ => False) w W)
    ?_ _ ?_).mono ?_
  · rintro d k W hkd hd2 hd16 ⟨hB1, hB2, hl, hD, hC, hS⟩
    have hb := hS.lo
    have hle : k ≤ 65536 := by
      have h4 : (2 : Nat) ^ d ≤ 2 ^ 16 := pow_mono hd16
      omega
    clear hkd
    refine yield_body hrec hl rfl (fun K hK => by gi_wp2; exact hK) hl ?_
    clear hrec
    have g1 : Blk (W.putObj (W0.heap.size + 1) (Obj.loop (rec LoopState.busy none))) w.heap.size 3 #[.int .i64 n] := hB1.putObj (by omega) _
    have g2 : Blk (W.putObj (W0.heap.size + 1) (Obj.loop (rec LoopState.busy none))) (w.heap.size + 1) 3 #[.int .i64 65536] := hB2.putObj (by omega) _
    have g3 : (W.putObj (W0.heap.size + 1) (Obj.loop (rec LoopState.busy none))).heap[W0.heap.size + 1]? = some (.loop (rec .busy none)) := World.putObj_heap_same (Array.getElem?_eq_some_iff.1 hl).1
    have g4 : (W.putObj (W0.heap.size + 1) (Obj.loop (rec LoopState.busy none))).heap[W0.heap.size]? = some (.deferred (some [])) := (World.putObj_heap_other (by omega)).trans hD
    have g5 : Chg (fun _ => False) w (W.putObj (W0.heap.size + 1) (Obj.loop (rec LoopState.busy none))) := hC.putObj (by intro h; omega) _
    generalize W.putObj (W0.heap.size + 1) (Obj.loop (rec LoopState.busy none)) = W1 at g1 g2 g3 g4 g5 ⊢
    clear hB1 hB2 hl hD hC hb1 hb2 hc0
    have c1 := g1.cell 0
    have c2 := g2.cell 0
    have f2 := g2.frozen 0
    simp only [List.getElem?_toArray, List.getElem?_cons_zero] at c1 c2
    by_cases hn : n ≤ k
    · have H := Lib.hid (hS.yes hle hn)
      clear hS
      gi_wp2
      refine ⟨?_, .inr ⟨rfl, ?_, ?_, ?_, ?_⟩⟩
      · exact (Below.heap_setCell _ _ _ _ (by simp; omega)).trans g3
      · rw [H.out]; exact (g2.set 0 _).putObj (by omega) _
      · exact World.putObj_heap_same (by rw [World.size_setCell]; exact (Array.getElem?_eq_some_iff.1 g3).1)
      · exact (World.putObj_heap_other (by omega)).trans ((Below.heap_setCell _ _ _ _ (by simp; omega)).trans g4)
      · exact (g5.setCell (by intro h; simp at h; omega) _).putObj (by intro h; omega) _
    · have H := Lib.hid (hS.next hle (by omega))
      clear hS
      gi_wp2
      refine ⟨g3, .inl ⟨rfl, g1.putObj (by omega) _, g2.putObj (by omega) _, World.putObj_heap_same (Array.getElem?_eq_some_iff.1 g3).1, (World.putObj_heap_other (by omega)).trans g4, g5.putObj (by intro h; omega) _, H.out⟩⟩
  · refine ⟨(hb1.alloc _).alloc _, (hb2.alloc _).alloc _, ?_, ?_, (hc0.alloc _).alloc _, SB.start n⟩
    · have := World.alloc_heap_new (W0.alloc (.deferred (some []))) (.loop (rec .ready none))
      rwa [World.size_alloc] at this
    · exact (Below.heap_alloc _ _ _ (by simp)).trans (World.alloc_heap_new _ _)
  · rintro e W ⟨⟨v, rfl⟩, (⟨hB1, hB2, hl, hD, hC, hS⟩ | ⟨hB2, hl, hD, hC⟩)⟩
    · have H := hS.no (by omega)
      refine ⟨⟨_, rfl⟩, .inl ⟨hl, ?_⟩⟩
      have g2 : Blk (W.putObj (W0.heap.size + 1) (Obj.loop (rec LoopState.exhausted none))) (w.heap.size + 1) 3 #[.int .i64 65536] := hB2.putObj (by omega) _
      have g4 : (W.putObj (W0.heap.size + 1) (Obj.loop (rec LoopState.exhausted none))).heap[W0.heap.size]? = some (.deferred (some [])) := (World.putObj_heap_other (by omega)).trans hD
      have g5 : Chg (fun _ => False) w (W.putObj (W0.heap.size + 1) (Obj.loop (rec LoopState.exhausted none))) := hC.putObj (by intro h; omega) _
      generalize W.putObj (W0.heap.size + 1) (Obj.loop (rec LoopState.exhausted none)) = W1 at g2 g4 g5 ⊢
      have c2 := g2.cell 0
      simp only [List.getElem?_toArray, List.getElem?_cons_zero] at c2
      rw [← H] at c2
      have H' := Lib.hid H
      clear H hS hl hD hC hB1 hB2 hb1 hb2 hc0 hrec
      go_wp2_with fail
      rw [Exit.noGoto_ret]
      exact bodyPostM_ret rfl g4 (results_tmp rfl _ _ _) ⟨rfl, g5.putObj (by intro h; omega) _⟩
    · refine ⟨⟨_, rfl⟩, .inr ⟨.exit 0, hl, ?_⟩⟩
      have g2 : Blk (W.putObj (W0.heap.size + 1) (Obj.loop (rec LoopState.exhausted (some (.exit 0))))) (w.heap.size + 1) 3 #[.int .i64 (sizeFor n : Int)] := hB2.putObj (by omega) _
      have g4 : (W.putObj (W0.heap.size + 1) (Obj.loop (rec LoopState.exhausted (some (.exit 0))))).heap[W0.heap.size]? = some (.deferred (some [])) := (World.putObj_heap_other (by omega)).trans hD
      have g5 : Chg (fun _ => False) w (W.putObj (W0.heap.size + 1) (Obj.loop (rec LoopState.exhausted (some (.exit 0))))) := hC.putObj (by intro h; omega) _
      generalize W.putObj (W0.heap.size + 1) (Obj.loop (rec LoopState.exhausted (some (.exit 0)))) = W1 at g2 g4 g5 ⊢
      have c2 := g2.cell 0
      simp only [List.getElem?_toArray, List.getElem?_cons_zero] at c2
      clear hl hD hC hB2 hb1 hb2 hc0 hrec
      go_wp2_with fail
      rw [Exit.noGoto_ret]
      exact bodyPostM_ret rfl g4 (results_tmp rfl _ _ _) ⟨rfl, g5.putObj (by intro h; omega) _⟩

set_option maxHeartbeats 400000 in
theorem each_any (s : ByteArray) (w : World) : Calls Try.prog 87 #[.string s] w fun e w' => e = .returned (.func (.func 102) #[] #[.pointer (some ⟨w.heap.size, 0, none⟩)]) ∧ w.alloc (.cells #[.string s] 9) = w' := by
  go_enter Try.func87, Try.ntmps87
  go_wp2
  go_ret
  exact ⟨rfl, rfl⟩

/-- The iterator over the bytes of a text (in block B): J holds where k bytes have come. -/
theorem each1_any (l B : Nat) (s : ByteArray) (hs : s.size ≤ 9223372036854775807) (J : Nat → World → Prop) (hJ : ∀ k W, J k W → W.cell? ⟨B, 0, none⟩ = some (.string s))
    (hY : ∀ (k : Nat) (W : World) (hk : k < s.size), J k W → YieldAt Fence.wide 2 Try.prog l #[.int .u32 (s[k].toNat : Int)] W fun e W' => e = .returned (.bool true) ∧ J (k + 1) W')
    (W : World) (h0 : J 0 W) :
    Calls Try.prog 102 #[.func (.yield l) #[] #[], .pointer (some ⟨B, 0, none⟩)] W fun e W' => (∃ v, e = .returned v) ∧ J s.size W' := by
  have hc := hJ _ _ h0
  refine (callsIn_wide (n := 3)).1 ?_
  refine callsIn_of_wp Try.func102 rfl trivial ?_ rfl
  simp only [Try.ntmps102, List.size_toArray, List.length_cons, List.length_nil, Nat.reduceAdd, Nat.reduceSub, Array.replicate_succ, Array.replicate_zero, List.push_toArray, List.append_toArray, List.nil_append, List.cons_append]
  gi_wp2
  clear hc
  gi_loopw [3, 6] (fun _ p wr => ∃ (k : Nat), p = .int .i64 (k : Int) ∧ k ≤ s.size ∧ J k wr)
    (fun _ p wr => s.size - (intOf p).toNat)
  case atStart => exact ⟨0, rfl, Nat.zero_le _, h0⟩
  case round =>
    obtain ⟨k, rfl, hk, hJk⟩ := hrel
    have hc := hJ _ _ hJk
    by_cases hlt : k < s.size
    · obtain ⟨fn, tmps, assign, body, hy, hR⟩ := hY k wr hlt hJk
      have e : ((s[k].toNat : Int) % 4294967296) = (s[k].toNat : Int) := by have := s[k].toNat_lt; omega
      rw [← e] at hy
      clear e
      gi_wp2
      refine hR.mono ?_
      rintro e W3 ⟨rfl, hJ3⟩
      gi_wp2
      go_roundw
      case rel => exact ⟨k + 1, by go_num, by omega, hJ3⟩
      case measure => simp [intOf]; omega
    · have hk' : s.size ≤ k := by omega
      gi_wp2
      go_end0
      exact ⟨⟨_, rfl⟩, by rw [show s.size = k by omega]; exact hJk⟩

/-! ### mixing -/
theorem mix_bits (h n : Nat) (hh : h < 4294967296) (hn : n < 4294967296) : bits BinOp.xor IntKind.u32 (h : Int) (n : Int) * 16777619 % 4294967296 = (((h ^^^ n) * 16777619 % 4294967296 : Nat) : Int) := by
  rw [u32_xor_nat _ _ hh hn]; omega

set_option maxHeartbeats 400000 in
/-- One number is mixed in (the slice that the call makes for it lies in block b). -/
theorem mixed_one (h n : Nat) (b : Nat) (w : World) (hh : h < 4294967296) (hn : n < 4294967296) (hc : w.cell? ⟨b, 0, none⟩ = some (.int .u32 (n : Int))) :
    Calls Try.prog 88 #[.int .u32 (h : Int), .slice (some ⟨b, 0, none⟩) 1 1] w fun e w' => e = .returned (.int .u32 (((h ^^^ n) * 16777619 % 4294967296 : Nat) : Int)) ∧ w = w' := by
  have H := Lib.hid (mix_bits h n hh hn)
  go_enter Try.func88, Try.ntmps88
  go_wp2
  refine wp_loop_rounds 2 ?_
  rw [rounds_succ]
  go_wp2
  rw [rounds_succ]
  go_wp2
  go_ret
  exact ⟨by rw [← H.out]; rfl, rfl⟩

theorem sum_end_bits (h : Nat) (hh : h < 4294967296) :
    bits BinOp.xor IntKind.u32 (bits BinOp.xor IntKind.u32 (h : Int) ((h : Int) / 32768) * 2246822519 % 4294967296) (bits BinOp.xor IntKind.u32 (h : Int) ((h : Int) / 32768) * 2246822519 % 4294967296 / 8192) =
      (endN (stirN h * 2246822519 % 4294967296) : Int) := by
  have e1 : (h : Int) / 32768 = ((h / 32768 : Nat) : Int) := rfl
  have e2 : bits BinOp.xor IntKind.u32 (h : Int) ((h : Int) / 32768) = (stirN h : Int) := by rw [e1, u32_xor_nat _ _ hh (by omega)]; rfl
  have e3 : (stirN h : Int) * 2246822519 % 4294967296 = ((stirN h * 2246822519 % 4294967296 : Nat) : Int) := by omega
  rw [e2, e3]
  have hm : stirN h * 2246822519 % 4294967296 < 4294967296 := Nat.mod_lt _ (by omega)
  generalize stirN h * 2246822519 % 4294967296 = m at hm ⊢
  have e4 : (m : Int) / 8192 = ((m / 8192 : Nat) : Int) := rfl
  rw [e4, u32_xor_nat _ _ hm (by omega)]; rfl

theorem take_snoc (s : ByteArray) (k : Nat) (h : k < s.size) : s.data.toList.take (k + 1) = s.data.toList.take k ++ [s[k]] := by
  rw [List.take_succ_eq_append_getElem (by simpa using h)]; rfl
theorem seed_bits (seed : Nat) (h : seed < 4294967296) : bits BinOp.xor IntKind.u32 (seed : Int) 2166136261 = ((seed ^^^ 2166136261 : Nat) : Int) := u32_xor_nat seed 2166136261 h (by omega)

set_option maxHeartbeats 400000 in
theorem sum_any (seed : Nat) (s : ByteArray) (w : World) (hseed : seed < 4294967296) (hs : s.size ≤ 9223372036854775807) :
    Calls Try.prog 72 #[.int .u32 (seed : Int), .string s] w fun e w' => e = .returned (.int .u32 (sumN seed s.data.toList : Int)) ∧ Chg (fun _ => False) w w' := by
  have hx : Hid (bits BinOp.xor IntKind.u32 (seed : Int) 2166136261 = ((seed ^^^ 2166136261 : Nat) : Int)) := seed_bits seed hseed
  have hh0 : seed ^^^ 2166136261 < 4294967296 := xor32 hseed (by omega)
  refine calls_of_wp_marks Try.func72 rfl ?_
  simp only [Try.ntmps72, List.size_toArray, List.length_cons, List.length_nil, Nat.reduceAdd, Nat.reduceSub, Array.replicate_succ, Array.replicate_zero, List.push_toArray, List.append_toArray, List.nil_append, List.cons_append]
  go_wp2_with (go_at_call 87; refine (each_any _ _).mono ?_; rintro e w' ⟨rfl, rfl⟩)
  rw [hx.out]
  clear hx
  generalize hh : seed ^^^ 2166136261 = h0 at hh0 ⊢
  have HH := Lib.hid hh
  clear hh
  have hb1 : Blk ((w.alloc (Obj.cells #[Value.int IntKind.u32 (h0 : Int)] 22)).alloc (Obj.cells #[Value.string s] 9)) w.heap.size 22 #[.int .u32 (h0 : Int)] := (Blk.new _ _ _).alloc _
  have hb2 : Blk ((w.alloc (Obj.cells #[Value.int IntKind.u32 (h0 : Int)] 22)).alloc (Obj.cells #[Value.string s] 9)) (w.heap.size + 1) 9 #[.string s] := by
    have := Blk.new (w.alloc (Obj.cells #[Value.int IntKind.u32 (h0 : Int)] 22)) 9 #[Value.string s]
    rwa [World.size_alloc] at this
  have hc0 : Chg (fun _ => False) w ((w.alloc (Obj.cells #[Value.int IntKind.u32 (h0 : Int)] 22)).alloc (Obj.cells #[Value.string s] 9)) := ((Chg.refl _ _).alloc _).alloc _
  have hsz : ((w.alloc (Obj.cells #[Value.int IntKind.u32 (h0 : Int)] 22)).alloc (Obj.cells #[Value.string s] 9)).heap.size > w.heap.size + 1 := by simp
  generalize hw0 : (w.alloc (Obj.cells #[Value.int IntKind.u32 (h0 : Int)] 22)).alloc (Obj.cells #[Value.string s] 9) = W0 at hb1 hb2 hc0 hsz ⊢
  clear hw0
  refine wp_range 102 #[.pointer (some ⟨w.heap.size + 1, 0, none⟩)] rfl (enters_of Try.func102 (by kernel_rfl) rfl) (fun fn rec hrec => ?_)
  refine (each1_any (W0.heap.size + 1) (w.heap.size + 1) s hs
    (fun k W => Blk W w.heap.size 22 #[.int .u32 (((s.data.toList.take k).foldl mixB h0 : Nat) : Int)] ∧ Blk W (w.heap.size + 1) 9 #[.string s] ∧ W.heap[W0.heap.size + 1]? = some (.loop (rec .ready none)) ∧ W.heap[W0.heap.size]? = some (.deferred (some [])) ∧ Chg (fun _ => False) w W)
    ?_ ?_ _ ?_).mono ?_
  · rintro k W ⟨_, hB2, _⟩
    exact hB2.cell 0
  · rintro k W hk ⟨hB1, hB2, hl, hD, hC⟩
    refine yield_body hrec hl rfl (fun K hK => by gi_wp2; exact hK) hl ?_
    have hfl := fold_lt (s.data.toList.take k) h0 hh0
    have hst : Hid ((s.data.toList.take (k + 1)).foldl mixB h0 = mixB ((s.data.toList.take k).foldl mixB h0) s[k]) := by
      show _ = _
      rw [take_snoc s k hk, List.foldl_append, List.foldl_cons, List.foldl_nil]
    have hbyte : s[k].toNat < 4294967296 := by have := s[k].toNat_lt; omega
    rw [show (fun e W' => e = Ending.returned (Value.bool true) ∧ Blk W' w.heap.size 22 #[.int .u32 (((s.data.toList.take (k + 1)).foldl mixB h0 : Nat) : Int)] ∧ Blk W' (w.heap.size + 1) 9 #[.string s] ∧ W'.heap[W0.heap.size + 1]? = some (.loop (rec .ready none)) ∧ W'.heap[W0.heap.size]? = some (.deferred (some [])) ∧ Chg (fun _ => False) w W') = (fun e W' => e = Ending.returned (Value.bool true) ∧ Blk W' w.heap.size 22 #[.int .u32 ((mixB ((s.data.toList.take k).foldl mixB h0) s[k] : Nat) : Int)] ∧ Blk W' (w.heap.size + 1) 9 #[.string s] ∧ W'.heap[W0.heap.size + 1]? = some (.loop (rec .ready none)) ∧ W'.heap[W0.heap.size]? = some (.deferred (some [])) ∧ Chg (fun _ => False) w W') by rw [hst.out]]
    clear hst
    generalize (s.data.toList.take k).foldl mixB h0 = hk' at hfl hB1 ⊢
    unfold mixB
    generalize s[k].toNat = n at hbyte ⊢
    have g1 : Blk (W.putObj (W0.heap.size + 1) (Obj.loop (rec LoopState.busy none))) w.heap.size 22 #[.int .u32 (hk' : Int)] := hB1.putObj (by omega) _
    have g2 : Blk (W.putObj (W0.heap.size + 1) (Obj.loop (rec LoopState.busy none))) (w.heap.size + 1) 9 #[.string s] := hB2.putObj (by omega) _
    have g3 : (W.putObj (W0.heap.size + 1) (Obj.loop (rec LoopState.busy none))).heap[W0.heap.size + 1]? = some (.loop (rec .busy none)) := World.putObj_heap_same (Array.getElem?_eq_some_iff.1 hl).1
    have g4 : (W.putObj (W0.heap.size + 1) (Obj.loop (rec LoopState.busy none))).heap[W0.heap.size]? = some (.deferred (some [])) := (World.putObj_heap_other (by omega)).trans hD
    have g5 : Chg (fun _ => False) w (W.putObj (W0.heap.size + 1) (Obj.loop (rec LoopState.busy none))) := hC.putObj (by intro h; omega) _
    generalize W.putObj (W0.heap.size + 1) (Obj.loop (rec LoopState.busy none)) = W1 at g1 g2 g3 g4 g5 ⊢
    clear hB1 hB2 hl hD hC hb1 hb2 hc0 hrec
    have c1 := g1.cell 0
    have f1 := g1.frozen 0
    simp only [List.getElem?_toArray, List.getElem?_cons_zero] at c1
    gi_wp2
    refine ⟨trivial, ?_⟩
    have cn : (W1.alloc (Obj.cells #[Value.int IntKind.u32 (n : Int)] 22)).cell? ⟨W1.heap.size, 0, none⟩ = some (.int .u32 (n : Int)) := (Blk.new W1 22 #[Value.int IntKind.u32 (n : Int)]).cell 0
    refine (CallsIn.inRound _ (callsIn_wide.2 (mixed_one hk' n W1.heap.size _ hfl hbyte cn))).mono ?_
    rintro e w' ⟨rfl, rfl⟩
    have i1 := g1.alloc (Obj.cells #[Value.int IntKind.u32 (n : Int)] 22)
    have i2 := g2.alloc (Obj.cells #[Value.int IntKind.u32 (n : Int)] 22)
    have i3 := (Below.heap_alloc W1 (Obj.cells #[Value.int IntKind.u32 (n : Int)] 22) (W0.heap.size + 1) (Array.getElem?_eq_some_iff.1 g3).1).trans g3
    have i4 := (Below.heap_alloc W1 (Obj.cells #[Value.int IntKind.u32 (n : Int)] 22) W0.heap.size (Array.getElem?_eq_some_iff.1 g4).1).trans g4
    have i5 := g5.alloc (Obj.cells #[Value.int IntKind.u32 (n : Int)] 22)
    generalize W1.alloc (Obj.cells #[Value.int IntKind.u32 (n : Int)] 22) = W2 at i1 i2 i3 i4 i5 ⊢
    clear cn g1 g2 g3 g4 g5 c1 f1
    have c1 := i1.cell 0
    have f1 := i1.frozen 0
    simp only [List.getElem?_toArray, List.getElem?_cons_zero] at c1
    gi_wp2
    refine ⟨?_, rfl, ?_, ?_, ?_, ?_, ?_⟩
    · exact (Below.heap_setCell _ _ _ _ (by simp; omega)).trans i3
    · exact (i1.set 0 _).putObj (by omega) _
    · exact (i2.far (by simp) _).putObj (by omega) _
    · exact World.putObj_heap_same (by rw [World.size_setCell]; exact (Array.getElem?_eq_some_iff.1 i3).1)
    · exact (World.putObj_heap_other (by omega)).trans ((Below.heap_setCell _ _ _ _ (by simp; omega)).trans i4)
    · exact (i5.setCell (by intro h; simp at h) _).putObj (by intro h; omega) _
  · refine ⟨(hb1.alloc _).alloc _, (hb2.alloc _).alloc _, ?_, ?_, (hc0.alloc _).alloc _⟩
    · have := World.alloc_heap_new (W0.alloc (.deferred (some []))) (.loop (rec .ready none))
      rwa [World.size_alloc] at this
    · exact (Below.heap_alloc _ _ _ (by simp)).trans (World.alloc_heap_new _ _)
  · rintro e W ⟨⟨v, rfl⟩, hB1, hB2, hl, hD, hC⟩
    refine ⟨⟨_, rfl⟩, .inl ⟨hl, ?_⟩⟩
    rw [List.take_of_length_le (by simp)] at hB1
    have hfl := fold_lt s.data.toList h0 hh0
    have hfin : Hid (sumN seed s.data.toList = endN (stirN (s.data.toList.foldl mixB h0) * 2246822519 % 4294967296)) := by
      show _ = _
      unfold sumN; rw [HH.out]
    have g1 : Blk (W.putObj (W0.heap.size + 1) (Obj.loop (rec LoopState.exhausted none))) w.heap.size 22 #[.int .u32 ((s.data.toList.foldl mixB h0 : Nat) : Int)] := hB1.putObj (by omega) _
    have g4 : (W.putObj (W0.heap.size + 1) (Obj.loop (rec LoopState.exhausted none))).heap[W0.heap.size]? = some (.deferred (some [])) := (World.putObj_heap_other (by omega)).trans hD
    have g5 : Chg (fun _ => False) w (W.putObj (W0.heap.size + 1) (Obj.loop (rec LoopState.exhausted none))) := hC.putObj (by intro h; omega) _
    generalize W.putObj (W0.heap.size + 1) (Obj.loop (rec LoopState.exhausted none)) = W1 at g1 g4 g5 ⊢
    generalize s.data.toList.foldl mixB h0 = hv at g1 hfin hfl
    have c1 := g1.cell 0
    have f1 := g1.frozen 0
    simp only [List.getElem?_toArray, List.getElem?_cons_zero] at c1
    clear hl hD hC hB1 hB2 hb1 hb2 hc0 hrec HH
    have hbits := Lib.hid (sum_end_bits hv hfl)
    go_wp2_with fail
    refine bodyPostM_ret (D := W0.heap.size) rfl ?_ (results_tmp rfl _ _ _) ⟨?_, ?_⟩
    · exact (Below.heap_setCell _ _ _ _ (by simp; omega)).trans ((Below.heap_setCell _ _ _ _ (by simp; omega)).trans g4)
    · rw [hfin.out, ← hbits.out]; rfl
    · refine Chg.putObj (Chg.setCell (Chg.setCell g5 ?_ _) ?_ _) ?_ _
      all_goals
        intro h
        try simp at h
        try omega

/-! ### the reference -/
theorem u64_in {n : Nat} (h : n < 18446744073709551616) : IntKind.u64.wrap (n : Int) = (n : Int) := by rw [IntKind.wrap_u64]; omega

theorem refMix_bits (h n : Nat) (hh : h < 4294967296) (hn : n < 256) :
    (IntKind.u64.wrap (bits BinOp.xor IntKind.u64 (h : Int) (IntKind.u64.wrap (n : Int)) * 16777619)).tmod 4294967296 = (((h ^^^ n) * 16777619 % 4294967296 : Nat) : Int) := by
  have hx := xor32 hh (show n < 4294967296 by omega)
  rw [u64_in (show n < 18446744073709551616 by omega), u64_xor_nat _ _ (by omega) (by omega), IntKind.wrap_u64, Int.tmod_eq_emod_of_nonneg (by omega)]
  omega
theorem refSeed_bits (seed : Nat) (h : seed < 4294967296) : bits BinOp.xor IntKind.u64 (seed : Int) 2166136261 = ((seed ^^^ 2166136261 : Nat) : Int) := u64_xor_nat seed 2166136261 (by omega) (by omega)
theorem refEnd_bits (h : Nat) (hh : h < 4294967296) :
    bits BinOp.xor IntKind.u64 ((IntKind.u64.wrap (bits BinOp.xor IntKind.u64 (h : Int) ((h : Int) / 32768) * 2246822519)).tmod 4294967296)
      (IntKind.u64.wrap (((IntKind.u64.wrap (bits BinOp.xor IntKind.u64 (h : Int) ((h : Int) / 32768) * 2246822519)).tmod 4294967296).tdiv 8192)) % 4294967296 =
      (endN (stirN h * 2246822519 % 4294967296) : Int) := by
  have e1 : (h : Int) / 32768 = ((h / 32768 : Nat) : Int) := rfl
  have e2 : bits BinOp.xor IntKind.u64 (h : Int) ((h : Int) / 32768) = (stirN h : Int) := by rw [e1, u64_xor_nat _ _ (by omega) (by omega)]; rfl
  have hs := stirN_lt hh
  have e3 : (IntKind.u64.wrap ((stirN h : Int) * 2246822519)).tmod 4294967296 = ((stirN h * 2246822519 % 4294967296 : Nat) : Int) := by
    rw [IntKind.wrap_u64, Int.tmod_eq_emod_of_nonneg (by omega)]; omega
  rw [e2, e3]
  have hm : stirN h * 2246822519 % 4294967296 < 4294967296 := Nat.mod_lt _ (by omega)
  generalize stirN h * 2246822519 % 4294967296 = m at hm ⊢
  have e4 : (m : Int).tdiv 8192 = ((m / 8192 : Nat) : Int) := by rw [Int.tdiv_eq_ediv_of_nonneg (by omega)]; rfl
  have hx := endN_lt hm
  rw [e4, u64_in (by omega), u64_xor_nat _ _ (by omega) (by omega)]
  unfold endN at hx ⊢
  generalize m ^^^ m / 8192 = q at hx ⊢
  omega

set_option maxHeartbeats 400000 in
theorem sumR_any (seed : Nat) (s : ByteArray) (w : World) (hseed : seed < 4294967296) (hs : s.size ≤ 9223372036854775807) :
    Calls Try.prog 78 #[.int .u32 (seed : Int), .string s] w fun e w' => e = .returned (.int .u32 (sumN seed s.data.toList : Int)) ∧ w = w' := by
  have hh0 : seed ^^^ 2166136261 < 4294967296 := xor32 hseed (by omega)
  have hsb := Lib.hid (refSeed_bits seed hseed)
  generalize hh : seed ^^^ 2166136261 = h0 at hh0 hsb ⊢
  have HH := Lib.hid hh
  clear hh
  go_enter Try.func78, Try.ntmps78
  go_wp2
  rw [hsb.out]
  go_loop [5, 6] (fun h i => ∃ (k : Nat) (hv : Nat), k ≤ s.size ∧ i = .int .i64 (k : Int) ∧ h = .int .u64 (hv : Int) ∧ hv < 4294967296 ∧ Hid (hv = (s.data.toList.take k).foldl mixB h0)) (fun _ i => s.size - (intOf i).toNat)
  case atStart => exact ⟨0, h0, by omega, rfl, rfl, hh0, rfl⟩
  case round =>
    obtain ⟨k, hv, hk, rfl, rfl, hfl, hhv⟩ := hrel
    by_cases hlt : k < s.size
    · have hby : s[k].toNat < 256 := s[k].toNat_lt
      have hmx := Lib.hid (refMix_bits hv s[k].toNat hfl hby)
      have hst : Hid ((s.data.toList.take (k + 1)).foldl mixB h0 = mixB hv s[k]) := by
        show _ = _
        rw [take_snoc s k hlt, List.foldl_append, List.foldl_cons, List.foldl_nil, ← hhv.out]
      clear hby
      go_wp2
      go_round
      case rel => exact ⟨k + 1, mixB hv s[k], by omega, by go_num, int_eq hmx.out, mixB_lt _ _, hst.out.symm⟩
      case measure => simp [intOf]; omega
    · have hfin : Hid (sumN seed s.data.toList = endN (stirN hv * 2246822519 % 4294967296)) := by
        show _ = _
        have e := hhv.out
        rw [List.take_of_length_le (by simp; omega)] at e
        unfold sumN; rw [HH.out, ← e]
      have hend := Lib.hid (refEnd_bits hv hfl)
      go_wp2
      go_ret
      exact ⟨by rw [hfin.out, ← hend.out]; rfl, rfl⟩

/-! ### the first hundred bytes -/
def cutS (s : ByteArray) (n : Nat) : ByteArray := if n < s.size then s.extract 0 n else s
theorem cutS_size (s : ByteArray) (n : Nat) : (cutS s n).size ≤ s.size := by
  unfold cutS; split
  · rw [ByteArray.size_extract]; omega
  · exact Nat.le_refl _

end Go.Proofs.Ythbjjjcppijcbaa

/- Contracts of the small functions of dict. -/
namespace Go.Proofs.Ythbjjjcppijcbaa.Dint
open Go.RowKit Pal

theorem dm_cells {w : World} {d : Dm} (h : DmAt w d) : w.cell? ⟨d.blk, 0, none⟩ = some (.int .u32 (d.seed : Int)) ∧ w.cell? ⟨d.blk, 1, none⟩ = some (tbVal d.t0) ∧ w.cell? ⟨d.blk, 2, none⟩ = some (t1Val d.t1) ∧
    w.cell? ⟨d.blk, 3, none⟩ = some (.int .i64 (d.at_ : Int)) ∧ w.cell? ⟨d.blk, 4, none⟩ = some (.int .i64 (d.n : Int)) ∧ (∀ i, w.frozen? ⟨d.blk, i, none⟩ = false) ∧ d.blk < w.heap.size :=
  ⟨h.hd.cell 0, h.hd.cell 1, h.hd.cell 2, h.hd.cell 3, h.hd.cell 4, fun i => h.hd.frozen i, h.hd.lt⟩

set_option maxHeartbeats 400000 in
theorem len_any (d : Dm) (w : World) (h : DmAt w d) :
    Calls Try.prog 21 #[ptr d.blk] w fun e w' => e = .returned (.int .i64 (d.n : Int)) ∧ w = w' := by
  obtain ⟨c0, c1, c2, c3, c4, hf, hlt⟩ := dm_cells h
  unfold ptr
  go_enter Try.func21, Try.ntmps21
  go_wp2
  go_ret
  exact ⟨rfl, rfl⟩

set_option maxHeartbeats 400000 in
theorem len_nil (w : World) :
    Calls Try.prog 21 #[.pointer none] w fun e w' => e = .returned (.int .i64 0) ∧ w = w' := by
  go_enter Try.func21, Try.ntmps21
  go_wp2
  go_ret
  exact ⟨rfl, rfl⟩

set_option maxHeartbeats 400000 in
theorem isMoving_any (d : Dm) (w : World) (h : DmAt w d) :
    Calls Try.prog 42 #[ptr d.blk] w fun e w' => e = .returned (.bool d.t1.isSome) ∧ w = w' := by
  obtain ⟨c0, c1, c2, c3, c4, hf, hlt⟩ := dm_cells h
  unfold ptr
  cases ht : d.t1 with
  | none =>
    rw [ht] at c2
    simp only [t1Val] at c2
    go_enter Try.func42, Try.ntmps42
    go_wp2
    go_ret
    exact ⟨rfl, rfl⟩
  | some t =>
    rw [ht] at c2
    simp only [t1Val, tbVal] at c2
    go_enter Try.func42, Try.ntmps42
    go_wp2
    go_ret
    exact ⟨rfl, rfl⟩

set_option maxHeartbeats 400000 in
theorem slot_any (t : Tb) (s k : Nat) (w : World) (hs : s < 4294967296) (hk : t.len = 2 ^ k) (hk16 : k ≤ 16) :
    Calls Try.prog 70 #[tbVal t, .int .u32 (s : Int)] w fun e w' => e = .returned (.int .i64 ((s % t.len : Nat) : Int)) ∧ w = w' := by
  unfold tbVal
  have H := Lib.hid (slot_bits s k hs hk16)
  have hp : (2 : Nat) ^ k ≤ 2 ^ 16 := pow_mono hk16
  have h1 : 1 ≤ 2 ^ k := Nat.one_le_two_pow
  have hq : s % 2 ^ k < 2 ^ k := Nat.mod_lt _ h1
  have hw := Lib.hid (IntWalk.wrap64_in ((s % 2 ^ k : Nat) : Int) ⟨by omega, by omega⟩)
  rw [hk]
  obtain ⟨n, hn⟩ : ∃ n : Nat, Hid (n = 2 ^ k) := ⟨_, rfl⟩
  have e : ((2 ^ k : Nat) : Int) = (n : Int) := by rw [hn.out]
  rw [e] at H
  rw [← hn.out] at hp h1 ⊢
  have hn1 : 1 ≤ (n : Int) := by omega
  have hn2 : (n : Int) ≤ 65536 := by omega
  clear e hk hq
  rw [← hn.out] at hw H
  go_enter Try.func70, Try.ntmps70
  go_wp2
  go_ret
  refine ⟨?_, rfl⟩
  simp only [H.out, hw.out]
  rfl

set_option maxHeartbeats 400000 in
theorem of_any (d : Dm) (key : ByteArray) (w : World) (h : DmAt w d) (hs : d.seed < 4294967296) (hk : key.size ≤ 9223372036854775807) :
    Calls Try.prog 45 #[ptr d.blk, .string key] w fun e w' => e = .returned (.agg #[.int .u32 (sumN d.seed key.data.toList : Int), .string key]) ∧ Chg (fun _ => False) w w' := by
  obtain ⟨c0, c1, c2, c3, c4, hf, hlt⟩ := dm_cells h
  unfold ptr
  go_enter Try.func45, Try.ntmps45
  go_wp2_with fail
  refine (sum_any _ _ _ hs hk).mono ?_; rintro e w1 ⟨rfl, hc⟩
  have hb : Blk w1 w.heap.size 80 #[.int .u32 0, .string ⟨#[]⟩] := (Blk.new w 80 _).chg hc id
  have hc1 : Chg (fun _ => False) w w1 := ((Chg.refl _ w).alloc _).trans hc
  have e0 := hb.cell 0
  have e1 := hb.cell 1
  have f0 := hb.frozen 0
  have f1 := hb.frozen 1
  simp only [List.getElem?_toArray, List.getElem?_cons_zero, List.getElem?_cons_succ] at e0 e1
  have hlt1 := hb.lt
  clear c0 c1 c2 c3 c4 hf hc h
  obtain ⟨q, HQ⟩ : ∃ q, Hid (sumN d.seed key.data.toList = q) := ⟨_, rfl⟩
  rw [HQ.out]
  go_wp2_with fail
  have hb2 := (hb.set 0 (.int .u32 (q : Int))).set 1 (.string key)
  have hc2 : Chg (fun _ => False) w ((w1.setCell ⟨w.heap.size, 0, none⟩ (.int .u32 (q : Int))).setCell ⟨w.heap.size, 1, none⟩ (.string key)) :=
    (hc1.setCell (p := ⟨w.heap.size, 0, none⟩) (fun h => Nat.lt_irrefl _ h) _).setCell (p := ⟨w.heap.size, 1, none⟩) (fun h => Nat.lt_irrefl _ h) _
  generalize (w1.setCell ⟨w.heap.size, 0, none⟩ (.int .u32 (q : Int))).setCell ⟨w.heap.size, 1, none⟩ (.string key) = w2 at hb2 hc2 ⊢
  have g0 := hb2.cell 0
  have g1 := hb2.cell 1
  simp at g0 g1
  refine bodyPost_ret (v := .agg #[.int .u32 (q : Int), .string key]) (by simp [results, Try.results45, go_sem, g0, g1]) rfl ⟨by rw [HQ.out], hc2⟩

theorem size_wrap (k : Nat) (hk : k ≤ 16) : ((2 ^ k : Nat) : Int) ≤ 65536 ∧ 1 ≤ ((2 ^ k : Nat) : Int) := by
  have hp : (2 : Nat) ^ k ≤ 2 ^ 16 := pow_mono hk
  have h1 : 1 ≤ 2 ^ k := Nat.one_le_two_pow
  omega

theorem ptr_info : (Try.prog.info? 81).map (fun i => (i.zero, i.size, i.bytes)) = some (some (.pointer none), 1, 8) := by kernel_rfl
theorem run_make_tab (n : Nat) (hn : n ≤ 65536) (w : World) :
    (Instr.makeSlice 73 (.int .i64 (n : Int)) (.int .i64 (n : Int))).run Try.prog w = .ok (.slice (some ⟨w.heap.size, 0, none⟩) n n) (w.alloc (.cells (tbCells ⟨0, List.replicate n []⟩) 81)) := by
  obtain ⟨i0, hi, hz0, hz1, hz2⟩ := info_parts ptr_info
  have hr := run_make (P := Try.prog) w 73 81 i0 (.pointer none) Try.underlying73 hi hz0 .i64 .i64 n n (by omega) (by omega) (by rw [hz2]; omega) (by omega)
  simp only [Int.toNat_natCast] at hr
  have h : madeCells (Value.pointer none).cells (n * i0.size) = tbCells ⟨0, List.replicate n []⟩ := by
    rw [hz1, Nat.mul_one]
    apply Array.toList_inj.1
    simp [Value.cells, toList_madeCells_one, tbCells, hd]
  rw [hr, h]

theorem sizeFor_le (n : Int) : sizeFor n ≤ 65536 := by
  obtain ⟨k, h2, h16, hk, _, _⟩ := sizeFor_spec n
  rw [hk]; exact pow_mono h16

set_option maxHeartbeats 400000 in
theorem moves_any (d : Dm) (n : Int) (w : World) (h : DmAt w d) (ht : d.t1 = none) :
    Calls Try.prog 43 #[ptr d.blk, .int .i64 n] w fun e w' => (∃ v, e = .returned v) ∧ ∃ b, w.heap.size ≤ b ∧ DmAt w' { d with t1 := some ⟨b, List.replicate (sizeFor n) []⟩ } ∧ Chg (fun g => g = d.blk) w w' := by
  obtain ⟨c0, c1, c2, c3, c4, hf, hlt⟩ := dm_cells h
  have hmk := run_make_tab (sizeFor n) (sizeFor_le n)
  unfold ptr
  go_enter Try.func43, Try.ntmps43
  go_wp2_with fail
  go_region_with (go_at_call 71; refine (sizeFor_any _ _).mono ?_; rintro e w1 ⟨rfl, hc1⟩; have hw1 := h.chg0 ((Chg.refl _ w).drew.trans hc1); obtain ⟨k0, k1, k2, k3, k4, kf, klt⟩ := dm_cells hw1)
  go_end0
  have hC : Chg (fun _ => False) w w1 := (Chg.refl _ w).drew.trans hc1
  refine ⟨⟨_, rfl⟩, w1.heap.size, hC.size, ?_, ?_⟩
  · have hs : Chg (fun g => g = d.blk) w1 ((w1.setCell { block := d.blk, off := 2 } (Value.slice (some { block := w1.heap.size, off := 0 }) (sizeFor n) (sizeFor n))).alloc (Obj.cells (tbCells { blk := 0, slots := List.replicate (sizeFor n) [] }) 81)) :=
      ((Chg.refl (fun g => g = d.blk) w1).store rfl 2 _).alloc _
    have hb := Blk.new (w1.setCell { block := d.blk, off := 2 } (Value.slice (some { block := w1.heap.size, off := 0 }) (sizeFor n) (sizeFor n))) 81 (tbCells { blk := 0, slots := List.replicate (sizeFor n) [] })
    rw [World.size_setCell] at hb
    refine { hd := ?_, a0 := hw1.a0.chg hs hw1.t0_ne (fun x hx => (hw1.nd_ne (mem_nodes0 hx)).1), a1 := ?_, ne := ?_, nodup := ?_ }
    · have := (hw1.hd.set 2 (.slice (some ⟨w1.heap.size, 0, none⟩) (sizeFor n) (sizeFor n))).alloc (Obj.cells (tbCells { blk := 0, slots := List.replicate (sizeFor n) [] }) 81)
      simpa [dmCells, t1Val, tbVal, Tb.len] using this
    · rintro t ht
      injection ht with ht
      subst ht
      exact ⟨hb, fun c hc => by rw [List.eq_of_mem_replicate hc]; trivial⟩
    · rintro t ht
      injection ht with ht
      subst ht
      exact Nat.ne_of_lt hw1.a0.1.lt
    · have e : ({ d with t1 := some ⟨w1.heap.size, List.replicate (sizeFor n) []⟩ } : Dm).nodes = d.nodes := by
        unfold Dm.nodes Dm.nodes1 Tb.nodes; rw [ht]; simp
      rw [e]; exact h.nodup
  · exact (hC.mono (fun _ _ h => h.elim)).trans (((Chg.refl (fun g => g = d.blk) w1).store rfl 2 _).alloc _)

end Go.Proofs.Ythbjjjcppijcbaa.Dint

/- The document's dict (palioref07), in memory. -/
namespace Go.Proofs.Ythbjjjcppijcbaa
open Go.RowKit Pal

/-! ### a list, turned as far as i -/
section
variable {α : Type} (f : α → α)
def part (i : Nat) (l : List α) : List α := (l.take i).map f ++ l.drop i
theorem part_zero (l : List α) : part f 0 l = l := rfl
theorem part_all (l : List α) : part f l.length l = l.map f := by simp [part]
theorem part_len (i : Nat) (l : List α) : (part f i l).length = l.length := by
  unfold part; rw [List.length_append, List.length_map, ← List.length_append, List.take_append_drop]
theorem part_get? {i : Nat} (l : List α) : (part f i l)[i]? = l[i]? := by
  unfold part
  rcases Nat.lt_or_ge i l.length with h | h
  · rw [List.getElem?_append_right (by rw [List.length_map, List.length_take]; omega), List.length_map, List.length_take, Nat.min_eq_left (by omega), Nat.sub_self, List.getElem?_drop]; rfl
  · rw [List.getElem?_eq_none (by rw [List.length_append, List.length_map, List.length_take, List.length_drop]; omega), List.getElem?_eq_none h]
theorem part_set {i : Nat} {l : List α} {x : α} (h : l[i]? = some x) : (part f i l).set i (f x) = part f (i + 1) l := by
  obtain ⟨hi, hx⟩ := List.getElem?_eq_some_iff.1 h
  unfold part
  have h1 : ((l.take i).map f).length = i := by rw [List.length_map, List.length_take]; omega
  rw [List.set_append_right _ _ (by omega), h1, Nat.sub_self, List.drop_eq_getElem_cons hi, List.set_cons_zero, List.take_succ_eq_append_getElem hi, List.map_append, List.append_assoc, hx]
  rfl
theorem part_same {i : Nat} {l : List α} {x : α} (h : l[i]? = some x) (hf : f x = x) : part f i l = part f (i + 1) l := by
  rw [← part_set f h, hf]
  have := part_get? f (i := i) l
  rw [h] at this
  obtain ⟨hi, hx⟩ := List.getElem?_eq_some_iff.1 this
  rw [← hx, List.set_getElem_self]
end

/-! ### nodes -/
structure Nr where
  key : ByteArray
  v : Int
  sum : Nat
  next : Bool
def Nr.cells (x : Nr) : List Value := [.string x.key, .int .i64 x.v, .int .u32 (x.sum : Int), .bool x.next]
def nrCells (l : List Nr) : List Value := l.flatMap Nr.cells
theorem nrCells_cons (x : Nr) (l : List Nr) : nrCells (x :: l) = x.cells ++ nrCells l := rfl
theorem nrCells_app (l m : List Nr) : nrCells (l ++ m) = nrCells l ++ nrCells m := List.flatMap_append
theorem nrCells_len (l : List Nr) : (nrCells l).length = l.length * 4 := by
  induction l with
  | nil => rfl
  | cons x l ih => rw [nrCells_cons, List.length_append, ih, List.length_cons]; simp [Nr.cells]; omega
theorem nrCells_get : ∀ {l : List Nr} {i : Nat} {x : Nr}, l[i]? = some x → ∀ j, j < 4 → (nrCells l)[i * 4 + j]? = x.cells[j]?
  | y :: l, 0, x, h, j, hj => by
    rw [List.getElem?_cons_zero] at h
    injection h with h
    subst h
    rw [nrCells_cons, Nat.zero_mul, Nat.zero_add, List.getElem?_append_left (by simp [Nr.cells]; omega)]
  | y :: l, i + 1, x, h, j, hj => by
    rw [List.getElem?_cons_succ] at h
    rw [nrCells_cons, List.getElem?_append_right (by simp [Nr.cells]; omega), show (i + 1) * 4 + j - y.cells.length = i * 4 + j by simp [Nr.cells]; omega]
    exact nrCells_get h j hj
theorem nrCells_set : ∀ {l : List Nr} {i : Nat} {x y : Nr} {j : Nat} {u : Value}, l[i]? = some x → j < 4 → x.cells.set j u = y.cells → (nrCells l).set (i * 4 + j) u = nrCells (l.set i y)
  | z :: l, 0, x, y, j, u, h, hj, e => by
    rw [List.getElem?_cons_zero] at h
    injection h with h
    subst h
    rw [List.set_cons_zero, nrCells_cons, nrCells_cons, Nat.zero_mul, Nat.zero_add, List.set_append_left _ _ (by simp [Nr.cells]; omega), e]
  | z :: l, i + 1, x, y, j, u, h, hj, e => by
    rw [List.getElem?_cons_succ] at h
    rw [List.set_cons_succ, nrCells_cons, nrCells_cons, List.set_append_right _ _ (by simp [Nr.cells]; omega), show (i + 1) * 4 + j - z.cells.length = i * 4 + j by simp [Nr.cells]; omega, nrCells_set h hj e]
theorem nr_one (l : List Nr) : ∀ u ∈ nrCells l, u.oneCell' = true := by
  intro u hu
  obtain ⟨x, _, hx⟩ := List.mem_flatMap.1 hu
  unfold Nr.cells at hx
  simp only [List.mem_cons, List.not_mem_nil, or_false] at hx
  rcases hx with rfl | rfl | rfl | rfl <;> rfl

def Nrs (w : World) (base : Nat) (v : Value) (l : List Nr) : Prop := w.ownsRow base 104 4 v l.length (nrCells l)
theorem nr_info : (Try.prog.info? 104).map (fun i => (i.zero, i.size, i.bytes)) = some (some (.agg #[.string ⟨#[]⟩, .int .i64 0, .int .u32 0, .bool false]), 4, 32) := by kernel_rfl
theorem Nrs.chg {w w' : World} {base : Nat} {v : Value} {l : List Nr} {F : Nat → Prop} (h : Nrs w base v l) (hs : Chg F w w') (hn : ∀ g, v.ownBlock = some g → ¬ F g) : Nrs w' base v l := own_stay h (.of_chg hs) hn
theorem Nrs.lower {w : World} {base b : Nat} {v : Value} {l : List Nr} (h : Nrs w base v l) (hb : b ≤ base) : Nrs w b v l := World.ownsRow.mono h hb
theorem Nrs.is {w : World} {base : Nat} {v : Value} {l : List Nr} (h : Nrs w base v l) : ∃ p cap, v = .slice p l.length cap ∧ l.length ≤ cap ∧ cap ≤ maxLen ∧ (∀ g, p = some g → base ≤ g.block ∧ g.block < w.heap.size) := by
  rcases h.2 with ⟨rfl, h0⟩ | ⟨g, cap, cur, rfl, h1, h2, h3, h4, _⟩
  · exact ⟨none, 0, by rw [h0], by omega, by simp [maxLen], fun _ h => (by cases h)⟩
  · exact ⟨_, cap, rfl, h3, h4, fun g hg => by injection hg with hg; subst hg; exact ⟨h1, (Array.getElem?_eq_some_iff.1 h2).1⟩⟩
theorem Nrs.nil (w : World) (base : Nat) : Nrs w base (.slice none 0 0) [] := World.ownsRow_nil w base _ 4
theorem Nrs.mk {w : World} {base n : Nat} {v : Value} {l : List Nr} {xs : List Value} (h : w.ownsRow base 104 4 v n xs) (hn : n = l.length) (hx : xs = nrCells l) : Nrs w base v l := by
  subst hn; subst hx; exact h
theorem Nrs.own {w : World} {base : Nat} {v : Value} {l : List Nr} (h : Nrs w base v l) : w.ownsRow base 104 4 v l.length (nrCells l) := h
theorem add_addr (g k : Nat) : (⟨g, 0, none⟩ : Addr).add k = ⟨g, k, none⟩ := by
  unfold Addr.add; split
  · rename_i e; rw [e]
  · simp
structure NrAt (w : World) (g i : Nat) (x : Nr) : Prop where
  k : w.cell? ⟨g, i * 4, none⟩ = some (.string x.key)
  v : w.cell? ⟨g, i * 4 + 1, none⟩ = some (.int .i64 x.v)
  s : w.cell? ⟨g, i * 4 + 2, none⟩ = some (.int .u32 (x.sum : Int))
  n : w.cell? ⟨g, i * 4 + 3, none⟩ = some (.bool x.next)
  fr : ∀ j, w.frozen? ⟨g, j, none⟩ = false
  lt : g < w.heap.size
theorem Nrs.at_ {w : World} {base n c i : Nat} {p : Option Addr} {l : List Nr} {x : Nr} (h : Nrs w base (.slice p n c) l) (hx : l[i]? = some x) : ∃ g, p = some ⟨g, 0, none⟩ ∧ base ≤ g ∧ NrAt w g i x := by
  obtain ⟨hi, _⟩ := List.getElem?_eq_some_iff.1 hx
  have h' := h
  rcases h'.2 with ⟨_, h0⟩ | ⟨g, cap, cur, he, hb, hg, _⟩
  · omega
  · injection he with he hn hc
    subst he hn hc
    have key : ∀ j u, j < 4 → x.cells[j]? = some u → w.cell? ⟨g, i * 4 + j, none⟩ = some u := fun j u hj hu => by
      have := World.ownsRow.cells h (g := g) rfl (i * 4 + j) u ((nrCells_get hx j hj).trans hu)
      rw [add_addr] at this
      exact this
    exact ⟨g, rfl, hb, key 0 _ (by omega) rfl, key 1 _ (by omega) rfl, key 2 _ (by omega) rfl, key 3 _ (by omega) rfl, fun j => World.ownsRow.frozenAt h j, (Array.getElem?_eq_some_iff.1 hg).1⟩
theorem Nrs.set {w : World} {base n c g i : Nat} {l : List Nr} {x : Nr} (h : Nrs w base (.slice (some ⟨g, 0, none⟩) n c) l) (hx : l[i]? = some x) (j : Nat) (hj : j < 4) (u : Value) (y : Nr) (e : x.cells.set j u = y.cells) :
    Nrs (w.setCell ⟨g, i * 4 + j, none⟩ u) base (.slice (some ⟨g, 0, none⟩) n c) (l.set i y) ∧ Chg (fun k => k = g) w (w.setCell ⟨g, i * 4 + j, none⟩ u) := by
  have hn : n = l.length := by
    obtain ⟨_, _, e, _⟩ := h.is
    injection e
  subst hn
  obtain ⟨h1, h2⟩ := World.ownsRow.stored h (i * 4 + j) u
  exact ⟨Nrs.mk h1 (by simp) (nrCells_set hx hj e), .of_grown h2 fun g' e => by injection e with e; exact e.symm⟩

/-! ### the dict -/
structure Rm where
  blk : Nat
  lv : Value
  seed : Nat
  a : Nat
  b : Nat
  at_ : Nat
  l : List Nr
def rmCells (r : Rm) : Array Value := #[.int .u32 (r.seed : Int), r.lv, .int .i64 (r.a : Int), .int .i64 (r.b : Int), .int .i64 (r.at_ : Int)]
def Rm.foot (r : Rm) (g : Nat) : Prop := g = r.blk ∨ r.lv.ownBlock = some g
structure RmAt (w : World) (base : Nat) (r : Rm) : Prop where
  hd : Blk w r.blk 55 (rmCells r)
  own : Nrs w base r.lv r.l
  ge : base ≤ r.blk
section
variable {w w' : World} {base : Nat} {r : Rm}
theorem RmAt.chg {F : Nat → Prop} (h : RmAt w base r) (hc : Chg F w w') (hn : ∀ g, r.foot g → ¬ F g) : RmAt w' base r :=
  ⟨h.hd.chg hc (hn _ (.inl rfl)), h.own.chg hc fun g hg => hn g (.inr hg), h.ge⟩
theorem RmAt.chg0 (h : RmAt w base r) (hc : Chg (fun _ => False) w w') : RmAt w' base r := h.chg hc fun _ _ => id
theorem RmAt.ne (h : RmAt w base r) : r.lv.ownBlock ≠ some r.blk := Blk.not_own h.hd h.own (by decide)
theorem RmAt.lt (h : RmAt w base r) {g : Nat} (hg : r.foot g) : base ≤ g ∧ g < w.heap.size := by
  rcases hg with rfl | hg
  · exact ⟨h.ge, h.hd.lt⟩
  · exact h.own.own.lt g hg
/-- A field of the head is written. -/
theorem RmAt.head (h : RmAt w base r) (i : Nat) (u : Value) (r' : Rm) (hb : r'.blk = r.blk) (hv : r'.lv = r.lv) (hl : r'.l = r.l) (hc : (rmCells r).setIfInBounds i u = rmCells r') :
    RmAt (w.setCell ⟨r.blk, i, none⟩ u) base r' ∧ Chg r.foot w (w.setCell ⟨r.blk, i, none⟩ u) := by
  have hC : Chg (fun g => g = r.blk) w (w.setCell ⟨r.blk, i, none⟩ u) := Chg.store (S := fun g => g = r.blk) (Chg.refl _ w) rfl i u
  refine ⟨⟨by rw [hb, ← hc]; exact h.hd.set i u, ?_, by rw [hb]; exact h.ge⟩, hC.mono fun g _ hg => .inl hg⟩
  rw [hv, hl]
  exact h.own.chg hC fun g hg e => by subst e; exact h.ne hg
/-- A field of a node is written. -/
theorem RmAt.node {n c g i : Nat} {x : Nr} (h : RmAt w base r) (hp : r.lv = .slice (some ⟨g, 0, none⟩) n c) (hx : r.l[i]? = some x) (j : Nat) (hj : j < 4) (u : Value) (y : Nr) (e : x.cells.set j u = y.cells) :
    RmAt (w.setCell ⟨g, i * 4 + j, none⟩ u) base { r with l := r.l.set i y } ∧ Chg r.foot w (w.setCell ⟨g, i * 4 + j, none⟩ u) := by
  have ho := h.own
  rw [hp] at ho
  obtain ⟨h1, h2⟩ := ho.set hx j hj u y e
  refine ⟨⟨?_, by rw [← hp] at h1; exact h1, h.ge⟩, h2.mono fun k _ hk => .inr (by rw [hp, hk]; rfl)⟩
  exact h.hd.chg h2 fun e => h.ne (by rw [hp, e]; rfl)
theorem RmAt.swap (h : RmAt w base r) : RmAt (((w.setCell ⟨r.blk, 2, none⟩ (.int .i64 (r.b : Int))).setCell ⟨r.blk, 3, none⟩ (.int .i64 0)).setCell ⟨r.blk, 4, none⟩ (.int .i64 0)) base { r with a := r.b, b := 0, at_ := 0 } ∧
    Chg r.foot w (((w.setCell ⟨r.blk, 2, none⟩ (.int .i64 (r.b : Int))).setCell ⟨r.blk, 3, none⟩ (.int .i64 0)).setCell ⟨r.blk, 4, none⟩ (.int .i64 0)) := by
  obtain ⟨h1, g1⟩ := h.head 2 (.int .i64 (r.b : Int)) { r with a := r.b } rfl rfl rfl rfl
  obtain ⟨h2, g2⟩ := h1.head 3 (.int .i64 0) { r with a := r.b, b := 0 } rfl rfl rfl rfl
  obtain ⟨h3, g3⟩ := h2.head 4 (.int .i64 0) { r with a := r.b, b := 0, at_ := 0 } rfl rfl rfl rfl
  exact ⟨h3, (g1.trans g2).trans g3⟩
theorem rm_cells (h : RmAt w base r) : w.cell? ⟨r.blk, 0, none⟩ = some (.int .u32 (r.seed : Int)) ∧ w.cell? ⟨r.blk, 1, none⟩ = some r.lv ∧ w.cell? ⟨r.blk, 2, none⟩ = some (.int .i64 (r.a : Int)) ∧
    w.cell? ⟨r.blk, 3, none⟩ = some (.int .i64 (r.b : Int)) ∧ w.cell? ⟨r.blk, 4, none⟩ = some (.int .i64 (r.at_ : Int)) ∧ (∀ i, w.frozen? ⟨r.blk, i, none⟩ = false) ∧ r.blk < w.heap.size :=
  ⟨h.hd.cell 0, h.hd.cell 1, h.hd.cell 2, h.hd.cell 3, h.hd.cell 4, h.hd.frozen, h.hd.lt⟩
end

/-- A node is appended. -/
theorem RmAt.appended {W w3 : World} {base : Nat} {r : Rm} {v3 : Value} {x : Nr} (h : RmAt W base r) (hg : W.grownBy w3 r.lv.ownBlock) (ho : w3.ownsRow base 104 4 v3 (r.l.length + 1) (nrCells r.l ++ nrCells [x])) :
    RmAt (w3.setCell ⟨r.blk, 1, none⟩ v3) base { r with lv := v3, l := r.l ++ [x] } ∧ Chg r.foot W (w3.setCell ⟨r.blk, 1, none⟩ v3) := by
  have hc : Chg (fun g => r.lv.ownBlock = some g) W w3 := Chg.of_grown hg fun g hgg => hgg
  have hb := h.hd.chg hc h.ne
  have hC : Chg (fun g => g = r.blk) w3 (w3.setCell ⟨r.blk, 1, none⟩ v3) := Chg.store (S := fun g => g = r.blk) (Chg.refl _ w3) rfl 1 v3
  refine ⟨⟨hb.set 1 v3, ?_, h.ge⟩, (hc.mono fun g _ hg => .inr hg).trans (hC.mono fun g _ hg => .inl hg)⟩
  have ho2 : Nrs w3 base v3 (r.l ++ [x]) := Nrs.mk ho (by simp) (by rw [nrCells_app])
  exact ho2.chg hC fun g hg e => by subst e; exact Blk.not_own hb ho (by decide) hg

/-! ### a slot moved, in plain words -/
def mv (a at_ : Nat) (x : Nr) : Nr := if x.sum % a = at_ then { x with next := true } else x
def unN (x : Nr) : Nr := { x with next := false }
def Rm.slot (r : Rm) : Rm := if r.at_ + 1 = r.a then { r with a := r.b, b := 0, at_ := 0, l := (r.l.map (mv r.a r.at_)).map unN } else { r with at_ := r.at_ + 1, l := r.l.map (mv r.a r.at_) }
def Rm.slots (r : Rm) : Nat → Rm
  | 0 => r
  | k + 1 => (r.slots k).slot
def Rm.k (r : Rm) (n : Int) : Nat := if 0 < r.b then min n.toNat (r.a - r.at_) else 0
structure Rm.Ok (r : Rm) : Prop where
  a : r.a ≤ 65536
  b : r.b ≤ 65536
  a0 : 0 < r.a
  at_ : r.at_ < r.a
  n : r.l.length ≤ 1000000
  seed : r.seed < 4294967296
  sum : ∀ x ∈ r.l, x.sum < 4294967296
theorem mv_sum (a b : Nat) (x : Nr) : (mv a b x).sum = x.sum := by unfold mv; split <;> rfl
theorem mv_key (a b : Nat) (x : Nr) : (mv a b x).key = x.key := by unfold mv; split <;> rfl
theorem mv_v (a b : Nat) (x : Nr) : (mv a b x).v = x.v := by unfold mv; split <;> rfl
theorem Rm.slot_foot (r : Rm) : r.slot.blk = r.blk ∧ r.slot.lv = r.lv ∧ r.slot.seed = r.seed ∧ r.slot.l.length = r.l.length := by
  unfold Rm.slot; split <;> simp
theorem Rm.slots_foot (r : Rm) : ∀ k, (r.slots k).blk = r.blk ∧ (r.slots k).lv = r.lv ∧ (r.slots k).seed = r.seed ∧ (r.slots k).l.length = r.l.length
  | 0 => ⟨rfl, rfl, rfl, rfl⟩
  | k + 1 => by
    obtain ⟨h1, h2, h3, h4⟩ := r.slots_foot k
    obtain ⟨g1, g2, g3, g4⟩ := (r.slots k).slot_foot
    exact ⟨g1.trans h1, g2.trans h2, g3.trans h3, g4.trans h4⟩
theorem Rm.slot_ok {r : Rm} (h : r.Ok) (hb : 0 < r.b) : r.slot.Ok := by
  have hl := r.slot_foot.2.2.2
  have hs := r.slot_foot.2.2.1
  refine ⟨?_, ?_, ?_, ?_, by rw [hl]; exact h.n, by rw [hs]; exact h.seed, ?_⟩
  · unfold Rm.slot; split
    · exact h.b
    · exact h.a
  · unfold Rm.slot; split
    · exact Nat.zero_le _
    · exact h.b
  · unfold Rm.slot; split
    · exact hb
    · exact h.a0
  · unfold Rm.slot; split
    · exact hb
    · have := h.at_
      rename_i h'
      show r.at_ + 1 < r.a
      omega
  · intro x hx
    unfold Rm.slot at hx
    split at hx
    · obtain ⟨y, hy, rfl⟩ := List.mem_map.1 hx
      obtain ⟨z, hz, rfl⟩ := List.mem_map.1 hy
      show (mv r.a r.at_ z).sum < _
      rw [mv_sum]; exact h.sum z hz
    · obtain ⟨z, hz, rfl⟩ := List.mem_map.1 hx
      rw [mv_sum]; exact h.sum z hz
theorem Rm.slots_at {r : Rm} (h : r.Ok) (hb : 0 < r.b) : ∀ k, r.at_ + k < r.a → (r.slots k).b = r.b ∧ (r.slots k).at_ = r.at_ + k ∧ (r.slots k).a = r.a ∧ (r.slots k).Ok
  | 0, _ => ⟨rfl, rfl, rfl, h⟩
  | k + 1, hk => by
    obtain ⟨h1, h2, h3, h4⟩ := r.slots_at h hb k (by omega)
    have h5 := Rm.slot_ok h4 (by rw [h1]; exact hb)
    have : (r.slots k).slot = { r.slots k with at_ := (r.slots k).at_ + 1, l := (r.slots k).l.map (mv (r.slots k).a (r.slots k).at_) } := by
      unfold Rm.slot; rw [if_neg]; rw [h2, h3]; omega
    refine ⟨?_, ?_, ?_, h5⟩
    · show (r.slots k).slot.b = _; rw [this]; exact h1
    · show (r.slots k).slot.at_ = _; rw [this]; show (r.slots k).at_ + 1 = _; rw [h2]; omega
    · show (r.slots k).slot.a = _; rw [this]; exact h3
theorem Rm.slots_all {r : Rm} (h : r.Ok) (hb : 0 < r.b) : (r.slots (r.a - r.at_)).b = 0 ∧ (r.slots (r.a - r.at_)).Ok := by
  have hat := h.at_
  obtain ⟨k, hk⟩ : ∃ k, r.a - r.at_ = k + 1 := ⟨r.a - r.at_ - 1, by omega⟩
  obtain ⟨h1, h2, h3, h4⟩ := r.slots_at h hb k (by omega)
  rw [hk]
  refine ⟨?_, Rm.slot_ok h4 (by rw [h1]; exact hb)⟩
  show (r.slots k).slot.b = 0
  unfold Rm.slot; rw [if_pos (by rw [h2, h3]; omega)]
/-- While k slots were moved and more are to be moved, it moves; behind them it is done. -/
theorem Rm.k_facts {r : Rm} (h : r.Ok) (n : Int) {k : Nat} (hk : k ≤ r.k n) : (r.slots k).Ok ∧ (k < r.k n → (k : Int) < n ∧ 0 < (r.slots k).b) ∧ (k = r.k n → n ≤ (k : Int) ∨ (r.slots k).b = 0) := by
  unfold Rm.k at hk ⊢
  have hat := h.at_
  by_cases hb : 0 < r.b
  · rw [if_pos hb] at hk ⊢
    rcases Nat.lt_or_ge (r.at_ + k) r.a with h1 | h1
    · obtain ⟨g1, g2, g3, g4⟩ := r.slots_at h hb k h1
      exact ⟨g4, fun h2 => ⟨by omega, by rw [g1]; exact hb⟩, fun h2 => .inl (by omega)⟩
    · have e : k = r.a - r.at_ := by omega
      obtain ⟨g1, g2⟩ := r.slots_all h hb
      rw [← e] at g1 g2
      exact ⟨g2, fun h2 => by omega, fun _ => .inr g1⟩
  · rw [if_neg hb] at hk ⊢
    have e : k = 0 := by omega
    subst e
    exact ⟨h, fun h2 => by omega, fun _ => .inr (by show r.b = 0; omega)⟩

end Go.Proofs.Ythbjjjcppijcbaa
