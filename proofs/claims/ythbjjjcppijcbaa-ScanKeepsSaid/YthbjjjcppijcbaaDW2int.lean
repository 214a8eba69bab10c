/- Contracts of dict: New, Sizes, chain, put. -/
import Derived.Test.YthbjjjcppijcbaaDWint
namespace Go.Proofs.Ythbjjjcppijcbaa.Dint
open Go.RowKit Pal
attribute [local go_sem] Oper.semAt_some

/-- An empty dict, its struct in block b, its table in block c. -/
def newDm (b c seed : Nat) : Dm := { blk := b, seed := seed, t0 := ⟨c, List.replicate 4 []⟩, t1 := none, at_ := 0, n := 0 }

set_option maxHeartbeats 400000 in
theorem New_any (seed : Nat) (w : World) :
    Calls Try.prog 15 #[.int .u32 (seed : Int)] w fun e w' => ∃ b c, e = .returned (ptr b) ∧ DmAt w' (newDm b c seed) ∧ w.heap.size ≤ b ∧ w.heap.size ≤ c ∧ Chg (fun _ => False) w w' := by
  obtain ⟨tc, HT⟩ : ∃ tc, Hid (tbCells ⟨0, List.replicate 4 []⟩ = tc) := ⟨_, rfl⟩
  have hmk : ∀ w, (Instr.makeSlice 73 (.int .i64 4) (.int .i64 4)).run Try.prog w = .ok (.slice (some ⟨w.heap.size, 0, none⟩) 4 4) (w.alloc (.cells tc 81)) := by
    intro w; rw [← HT.out]; exact run_make_tab 4 (by omega) w
  go_enter Try.func15, Try.ntmps15
  go_wp2
  go_ret
  have hb := Blk.new (w.alloc (.cells tc 81)) 76 #[Value.int IntKind.u32 (seed : Int), Value.slice (some { block := w.heap.size, off := 0 }) 4 4, Value.slice none 0 0, Value.int IntKind.i64 0, Value.int IntKind.i64 0]
  rw [World.size_alloc] at hb
  have ht := (Blk.new w 81 tc).alloc (Obj.cells #[Value.int IntKind.u32 (seed : Int), Value.slice (some { block := w.heap.size, off := 0 }) 4 4, Value.slice none 0 0, Value.int IntKind.i64 0, Value.int IntKind.i64 0] 76)
  rw [← HT.out] at ht hb ⊢
  refine ⟨w.heap.size + 1, w.heap.size, rfl, { hd := hb, a0 := ⟨ht, fun c hc => (by rw [List.eq_of_mem_replicate hc]; trivial)⟩, a1 := fun t h => (by cases h), ne := fun t h => (by cases h), nodup := List.nodup_nil }, Nat.le_succ _, Nat.le_refl _, ((Chg.refl _ w).alloc _).alloc _⟩

set_option maxHeartbeats 400000 in
theorem Sizes_any (d : Dm) (w : World) (h : DmAt w d) :
    Calls Try.prog 26 #[ptr d.blk] w fun e w' => e = .returned (.tuple #[.int .i64 (d.t0.len : Int), .int .i64 (((d.t1.map Tb.len).getD 0 : Nat) : Int), .int .i64 (d.at_ : Int)]) ∧ Chg (fun _ => False) w w' := by
  obtain ⟨c0, c1, c2, c3, c4, hf, hlt⟩ := dm_cells h
  unfold ptr
  unfold tbVal at c1
  cases ht : d.t1 with
  | none =>
    rw [ht] at c2
    simp only [t1Val] at c2
    go_enter Try.func26, Try.ntmps26
    go_wp2
    go_quiet (fail)
    go_wp2
    go_ret3
    exact ⟨rfl, (Chg.refl _ _).drewN _⟩
  | some t =>
    rw [ht] at c2
    simp only [t1Val, tbVal] at c2
    go_enter Try.func26, Try.ntmps26
    go_wp2
    go_quiet (fail)
    go_wp2
    go_ret3
    exact ⟨rfl, (Chg.refl _ _).drewN _⟩

set_option maxHeartbeats 400000 in
theorem Sizes_nil (w : World) :
    Calls Try.prog 26 #[.pointer none] w fun e w' => e = .returned (.tuple #[.int .i64 0, .int .i64 0, .int .i64 0]) ∧ w = w' := by
  go_enter Try.func26, Try.ntmps26
  go_wp2
  go_ret3
  exact ⟨rfl, rfl⟩

set_option maxHeartbeats 400000 in
theorem chain_any (p : Option Addr) (w : World) :
    Calls Try.prog 48 #[.pointer p] w fun e w' => e = .returned (.func (.func 73) #[] #[ptr w.heap.size]) ∧ w.alloc (.cells #[.pointer p] 81) = w' := by
  unfold ptr
  go_enter Try.func48, Try.ntmps48
  go_wp2
  go_ret
  exact ⟨rfl, rfl⟩

/-- The iterator over a chain (its pointer in block B): J holds where r is still to come, J2 behind a round. -/
theorem chain1_any (l B : Nat) (J J2 : Ch → World → Prop) (Jx : World → Prop)
    (hJ : ∀ r W, J r W → W.cell? ⟨B, 0, none⟩ = some (hd r))
    (hY : ∀ x r W, J (x :: r) W → W.cell? ⟨x.blk, 3, none⟩ = some (hd r) ∧ YieldAt Fence.wide 2 Try.prog l #[ptr x.blk] W fun e W' => (e = .returned (.bool true) ∧ J2 r W') ∨ (e = .returned (.bool false) ∧ Jx W'))
    (hS : ∀ r W, J2 r W → (∃ v, W.cell? ⟨B, 0, none⟩ = some v) ∧ W.frozen? ⟨B, 0, none⟩ = false ∧ J r (W.setCell ⟨B, 0, none⟩ (hd r)))
    (c : Ch) (W : World) (h0 : J c W) :
    Calls Try.prog 73 #[.func (.yield l) #[] #[], ptr B] W fun e W' => (∃ v, e = .returned v) ∧ (J [] W' ∨ Jx W') := by
  unfold ptr
  refine (callsIn_wide (n := 3)).1 ?_
  refine callsIn_of_wp Try.func73 rfl trivial ?_ rfl
  simp only [Try.ntmps73, List.size_toArray, List.length_cons, List.length_nil, Nat.reduceAdd, Nat.reduceSub, Array.replicate_succ, Array.replicate_zero, List.push_toArray, List.append_toArray, List.nil_append, List.cons_append]
  gi_wp2
  gi_loopw [3] (fun _ wr => ∃ n, ∃ r : Ch, r.length = n ∧ J r wr) (fun _ wr => leastOf fun n => ∃ r : Ch, r.length = n ∧ J r wr)
  case atStart => exact ⟨_, c, rfl, h0⟩
  case round =>
    obtain ⟨⟨r, hr, hJr⟩, _⟩ := leastOf_spec hrel
    have HR := Lib.hid hr
    clear hr hrel
    have hc := hJ _ _ hJr
    cases r with
    | nil =>
      simp only [hd] at hc
      gi_wp2
      go_end0
      exact ⟨⟨_, rfl⟩, .inl hJr⟩
    | cons x r =>
      simp only [hd, ptr] at hc
      obtain ⟨hn, fn, tmps, assign, body, hy, hR⟩ := hY x r wr hJr
      unfold ptr at hy
      obtain ⟨q, hq⟩ : ∃ q, hd r = .pointer q := by cases r <;> exact ⟨_, rfl⟩
      rw [hq] at hn
      have HQ := Lib.hid hq
      clear hq
      gi_wp2
      refine hR.mono ?_
      rintro e W3 (⟨rfl, hJ3⟩ | ⟨rfl, hJx3⟩)
      · obtain ⟨⟨v, hv⟩, hf, hJ4⟩ := hS r W3 hJ3
        rw [HQ.out] at hJ4
        gi_wp2
        go_roundw
        case rel => exact ⟨_, r, rfl, hJ4⟩
        case measure =>
          rw [← HR.out]
          exact Nat.lt_of_le_of_lt ((leastOf_spec ⟨_, r, rfl, hJ4⟩).2 _ ⟨r, rfl, hJ4⟩) (Nat.lt_succ_self _)
      · gi_wp2
        refine bodyPost_ret (results_none rfl _ _ _) rfl ?_
        exact ⟨⟨_, rfl⟩, .inr hJx3⟩

end Go.Proofs.Ythbjjjcppijcbaa.Dint
