/- Contracts of the small functions of dict. -/
import Derived.Test.YthbjjjcppijcbaaDMint
import Derived.Test.YthbjjjcppijcbaaHS
import Derived.Deep.QuietTactic
import Derived.BigQuiet
import Derived.Deep.LoopGhost
import Derived.StillTailTactics
import Derived.WalkSpells
import Derived.Deep.RegionWith
import Derived.Laws.MakeOwn
import Derived.Laws.OwnMore
namespace Go.Proofs.Ythbjjjcppijcbaa.Dint
open Go.RowKit Pal

theorem dm_cells {w : World} {d : Dm} (h : DmAt w d) : w.cell? ⟨d.blk, 0, none⟩ = some (.int .u32 (d.seed : Int)) ∧ w.cell? ⟨d.blk, 1, none⟩ = some (tbVal d.t0) ∧ w.cell? ⟨d.blk, 2, none⟩ = some (t1Val d.t1) ∧
    w.cell? ⟨d.blk, 3, none⟩ = some (.int .i64 (d.at_ : Int)) ∧ w.cell? ⟨d.blk, 4, none⟩ = some (.int .i64 (d.n : Int)) ∧ (∀ i, w.frozen? ⟨d.blk, i, none⟩ = false) ∧ d.blk < w.heap.size :=
  ⟨h.hd.cell 0, h.hd.cell 1, h.hd.cell 2, h.hd.cell 3, h.hd.cell 4, fun i => h.hd.frozen i, h.hd.lt⟩

set_option maxHeartbeats 400000 in
theorem len_any (d : Dm) (w : World) (h : DmAt w d) :
    Calls Try.prog 21 #[ptr d.blk] w fun e w' => e = .returned (.int .i64 (d.n : Int)) ∧ w = w' := by
  obtain ⟨c0, c1, c2, c3, c4, hf, hlt⟩ := dm_cells h
  unfold ptr
  go_enter Try.func21, Try.ntmps21
  go_wp2
  go_ret
  exact ⟨rfl, rfl⟩

set_option maxHeartbeats 400000 in
theorem len_nil (w : World) :
    Calls Try.prog 21 #[.pointer none] w fun e w' => e = .returned (.int .i64 0) ∧ w = w' := by
  go_enter Try.func21, Try.ntmps21
  go_wp2
  go_ret
  exact ⟨rfl, rfl⟩

set_option maxHeartbeats 400000 in
theorem isMoving_any (d : Dm) (w : World) (h : DmAt w d) :
    Calls Try.prog 42 #[ptr d.blk] w fun e w' => e = .returned (.bool d.t1.isSome) ∧ w = w' := by
  obtain ⟨c0, c1, c2, c3, c4, hf, hlt⟩ := dm_cells h
  unfold ptr
  cases ht : d.t1 with
  | none =>
    rw [ht] at c2
    simp only [t1Val] at c2
    go_enter Try.func42, Try.ntmps42
    go_wp2
    go_ret
    exact ⟨rfl, rfl⟩
  | some t =>
    rw [ht] at c2
    simp only [t1Val, tbVal] at c2
    go_enter Try.func42, Try.ntmps42
    go_wp2
    go_ret
    exact ⟨rfl, rfl⟩

set_option maxHeartbeats 400000 in
theorem slot_any (t : Tb) (s k : Nat) (w : World) (hs : s < 4294967296) (hk : t.len = 2 ^ k) (hk16 : k ≤ 16) :
    Calls Try.prog 70 #[tbVal t, .int .u32 (s : Int)] w fun e w' => e = .returned (.int .i64 ((s % t.len : Nat) : Int)) ∧ w = w' := by
  unfold tbVal
  have H := Lib.hid (slot_bits s k hs hk16)
  have hp : (2 : Nat) ^ k ≤ 2 ^ 16 := pow_mono hk16
  have h1 : 1 ≤ 2 ^ k := Nat.one_le_two_pow
  have hq : s % 2 ^ k < 2 ^ k := Nat.mod_lt _ h1
  have hw := Lib.hid (IntWalk.wrap64_in ((s % 2 ^ k : Nat) : Int) ⟨by omega, by omega⟩)
  rw [hk]
  obtain ⟨n, hn⟩ : ∃ n : Nat, Hid (n = 2 ^ k) := ⟨_, rfl⟩
  have e : ((2 ^ k : Nat) : Int) = (n : Int) := by rw [hn.out]
  rw [e] at H
  rw [← hn.out] at hp h1 ⊢
  have hn1 : 1 ≤ (n : Int) := by omega
  have hn2 : (n : Int) ≤ 65536 := by omega
  clear e hk hq
  rw [← hn.out] at hw H
  go_enter Try.func70, Try.ntmps70
  go_wp2
  go_ret
  refine ⟨?_, rfl⟩
  simp only [H.out, hw.out]
  rfl

set_option maxHeartbeats 400000 in
theorem of_any (d : Dm) (key : ByteArray) (w : World) (h : DmAt w d) (hs : d.seed < 4294967296) (hk : key.size ≤ 9223372036854775807) :
    Calls Try.prog 45 #[ptr d.blk, .string key] w fun e w' => e = .returned (.agg #[.int .u32 (sumN d.seed key.data.toList : Int), .string key]) ∧ Chg (fun _ => False) w w' := by
  obtain ⟨c0, c1, c2, c3, c4, hf, hlt⟩ := dm_cells h
  unfold ptr
  go_enter Try.func45, Try.ntmps45
  go_wp2_with fail
  refine (sum_any _ _ _ hs hk).mono ?_; rintro e w1 ⟨rfl, hc⟩
  have hb : Blk w1 w.heap.size 80 #[.int .u32 0, .string ⟨#[]⟩] := (Blk.new w 80 _).chg hc id
  have hc1 : Chg (fun _ => False) w w1 := ((Chg.refl _ w).alloc _).trans hc
  have e0 := hb.cell 0
  have e1 := hb.cell 1
  have f0 := hb.frozen 0
  have f1 := hb.frozen 1
  simp only [List.getElem?_toArray, List.getElem?_cons_zero, List.getElem?_cons_succ] at e0 e1
  have hlt1 := hb.lt
  clear c0 c1 c2 c3 c4 hf hc h
  obtain ⟨q, HQ⟩ : ∃ q, Hid (sumN d.seed key.data.toList = q) := ⟨_, rfl⟩
  rw [HQ.out]
  go_wp2_with fail
  have hb2 := (hb.set 0 (.int .u32 (q : Int))).set 1 (.string key)
  have hc2 : Chg (fun _ => False) w ((w1.setCell ⟨w.heap.size, 0, none⟩ (.int .u32 (q : Int))).setCell ⟨w.heap.size, 1, none⟩ (.string key)) :=
    (hc1.setCell (p := ⟨w.heap.size, 0, none⟩) (fun h => Nat.lt_irrefl _ h) _).setCell (p := ⟨w.heap.size, 1, none⟩) (fun h => Nat.lt_irrefl _ h) _
  generalize (w1.setCell ⟨w.heap.size, 0, none⟩ (.int .u32 (q : Int))).setCell ⟨w.heap.size, 1, none⟩ (.string key) = w2 at hb2 hc2 ⊢
  have g0 := hb2.cell 0
  have g1 := hb2.cell 1
  simp at g0 g1
  refine bodyPost_ret (v := .agg #[.int .u32 (q : Int), .string key]) (by simp [results, Try.results45, go_sem, g0, g1]) rfl ⟨by rw [HQ.out], hc2⟩

theorem size_wrap (k : Nat) (hk : k ≤ 16) : ((2 ^ k : Nat) : Int) ≤ 65536 ∧ 1 ≤ ((2 ^ k : Nat) : Int) := by
  have hp : (2 : Nat) ^ k ≤ 2 ^ 16 := pow_mono hk
  have h1 : 1 ≤ 2 ^ k := Nat.one_le_two_pow
  omega

theorem ptr_info : (Try.prog.info? 81).map (fun i => (i.zero, i.size, i.bytes)) = some (some (.pointer none), 1, 8) := by kernel_rfl
theorem run_make_tab (n : Nat) (hn : n ≤ 65536) (w : World) :
    (Instr.makeSlice 73 (.int .i64 (n : Int)) (.int .i64 (n : Int))).run Try.prog w = .ok (.slice (some ⟨w.heap.size, 0, none⟩) n n) (w.alloc (.cells (tbCells ⟨0, List.replicate n []⟩) 81)) := by
  obtain ⟨i0, hi, hz0, hz1, hz2⟩ := info_parts ptr_info
  have hr := run_make (P := Try.prog) w 73 81 i0 (.pointer none) Try.underlying73 hi hz0 .i64 .i64 n n (by omega) (by omega) (by rw [hz2]; omega) (by omega)
  simp only [Int.toNat_natCast] at hr
  have h : madeCells (Value.pointer none).cells (n * i0.size) = tbCells ⟨0, List.replicate n []⟩ := by
    rw [hz1, Nat.mul_one]
    apply Array.toList_inj.1
    simp [Value.cells, toList_madeCells_one, tbCells, hd]
  rw [hr, h]

theorem sizeFor_le (n : Int) : sizeFor n ≤ 65536 := by
  obtain ⟨k, h2, h16, hk, _, _⟩ := sizeFor_spec n
  rw [hk]; exact pow_mono h16

set_option maxHeartbeats 400000 in
theorem moves_any (d : Dm) (n : Int) (w : World) (h : DmAt w d) (ht : d.t1 = none) :
    Calls Try.prog 43 #[ptr d.blk, .int .i64 n] w fun e w' => (∃ v, e = .returned v) ∧ ∃ b, w.heap.size ≤ b ∧ DmAt w' { d with t1 := some ⟨b, List.replicate (sizeFor n) []⟩ } ∧ Chg (fun g => g = d.blk) w w' := by
  obtain ⟨c0, c1, c2, c3, c4, hf, hlt⟩ := dm_cells h
  have hmk := run_make_tab (sizeFor n) (sizeFor_le n)
  unfold ptr
  go_enter Try.func43, Try.ntmps43
  go_wp2_with fail
  go_region_with (go_at_call 71; refine (sizeFor_any _ _).mono ?_; rintro e w1 ⟨rfl, hc1⟩; have hw1 := h.chg0 ((Chg.refl _ w).drew.trans hc1); obtain ⟨k0, k1, k2, k3, k4, kf, klt⟩ := dm_cells hw1)
  go_end0
  have hC : Chg (fun _ => False) w w1 := (Chg.refl _ w).drew.trans hc1
  refine ⟨⟨_, rfl⟩, w1.heap.size, hC.size, ?_, ?_⟩
  · have hs : Chg (fun g => g = d.blk) w1 ((w1.setCell { block := d.blk, off := 2 } (Value.slice (some { block := w1.heap.size, off := 0 }) (sizeFor n) (sizeFor n))).alloc (Obj.cells (tbCells { blk := 0, slots := List.replicate (sizeFor n) [] }) 81)) :=
      ((Chg.refl (fun g => g = d.blk) w1).store rfl 2 _).alloc _
    have hb := Blk.new (w1.setCell { block := d.blk, off := 2 } (Value.slice (some { block := w1.heap.size, off := 0 }) (sizeFor n) (sizeFor n))) 81 (tbCells { blk := 0, slots := List.replicate (sizeFor n) [] })
    rw [World.size_setCell] at hb
    refine { hd := ?_, a0 := hw1.a0.chg hs hw1.t0_ne (fun x hx => (hw1.nd_ne (mem_nodes0 hx)).1), a1 := ?_, ne := ?_, nodup := ?_ }
    · have := (hw1.hd.set 2 (.slice (some ⟨w1.heap.size, 0, none⟩) (sizeFor n) (sizeFor n))).alloc (Obj.cells (tbCells { blk := 0, slots := List.replicate (sizeFor n) [] }) 81)
      simpa [dmCells, t1Val, tbVal, Tb.len] using this
    · rintro t ht
      injection ht with ht
      subst ht
      exact ⟨hb, fun c hc => by rw [List.eq_of_mem_replicate hc]; trivial⟩
    · rintro t ht
      injection ht with ht
      subst ht
      exact Nat.ne_of_lt hw1.a0.1.lt
    · have e : ({ d with t1 := some ⟨w1.heap.size, List.replicate (sizeFor n) []⟩ } : Dm).nodes = d.nodes := by
        unfold Dm.nodes Dm.nodes1 Tb.nodes; rw [ht]; simp
      rw [e]; exact h.nodup
  · exact (hC.mono (fun _ _ h => h.elim)).trans (((Chg.refl (fun g => g = d.blk) w1).store rfl 2 _).alloc _)

end Go.Proofs.Ythbjjjcppijcbaa.Dint
