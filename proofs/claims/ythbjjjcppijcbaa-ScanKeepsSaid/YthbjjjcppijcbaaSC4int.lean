/- Scan of a dict that is not moving. -/
import Derived.Test.YthbjjjcppijcbaaSC3int
import Derived.Outline
namespace Go.Proofs.Ythbjjjcppijcbaa.Dint
open Go.RowKit Pal
attribute [local go_sem] Oper.semAt_some

theorem tab0_len (d : Dm) : tabLen d 0 = d.t0.len := rfl
theorem slot_in {a c : Nat} : c % 2 ^ a < 2 ^ a := Nat.mod_lt _ Nat.one_le_two_pow

set_option maxRecDepth 100000 in
set_option maxHeartbeats 2000000 in
theorem Scan_still (d : Dm) (a c : Nat) (w : World) (h : DmAt w d) (hok : d.Ok) (hn : d.n < 1000000) (ht : d.t1 = none) (ha : d.t0.len = 2 ^ a) (ha16 : a ≤ 16) (hc : c < 4294967296) :
    Calls Try.prog 34 #[ptr d.blk, .int .u32 (c : Int)] w fun e w' => (∃ v, e = .returned (.tuple #[v, .int .u32 (curW a (pos a c + 1) : Int)]) ∧ Strs w' w.heap.size v (keysAt d 0 (c % 2 ^ a))) ∧ Chg (fun _ => False) w w' := by
  have hbx : Blk (w.alloc (.cells #[ptr d.blk] 25)) w.heap.size 25 #[ptr d.blk] := Blk.new w _ _
  have hc0 : Chg (fun _ => False) w (w.alloc (.cells #[ptr d.blk] 25)) := (Chg.refl _ w).alloc _
  have hz := Sizes_any d _ (h.chg0 hc0)
  rw [ht, ha] at hz
  have h1p : 1 ≤ 2 ^ a := Nat.one_le_two_pow
  have hp : (2 : Nat) ^ a ≤ 2 ^ 16 := pow_mono ha16
  obtain ⟨g, hg⟩ : ∃ g : Int, g = ((2 ^ a : Nat) : Int) := ⟨_, rfl⟩
  have hg1 : 1 ≤ g := by omega
  have hg2 : g ≤ 65536 := by omega
  have hg0 : (g == 0) = false := by rw [beq_eq_false_iff_ne]; omega
  have hmask := fun w => mask_any g w hg1 hg2
  have hnext := fun w => next_any c a g w hg hc ha16
  have hga := fun B W (hC : Chg (fun _ => False) w W) hB hBl => gathered_any d 0 (c % 2 ^ a) B W (h.chg0 hC) hok (by omega) (by rw [tab0_len, ha]; exact slot_in) hn hB hBl
  have hat : Hid (IntKind.i64.wrap (bits BinOp.and IntKind.u32 (c : Int) (g - 1)) = ((c % 2 ^ a : Nat) : Int)) := by
    show _ = _
    rw [hg, slot_bits c a hc ha16]
    have := slot_in (a := a) (c := c)
    exact IntWalk.i64_in _ ⟨by omega, by omega⟩
  have hnx : Hid (nextD c a = curW a (pos a c + 1)) := nextD_curW (by omega) c
  rw [← hg] at hz
  simp only [Option.map_none, Option.getD_none] at hz
  clear ht ha hg
  generalize c % 2 ^ a = si at *
  unfold ptr at *
  go_enter Try.func34, Try.ntmps34
  go_wp2_with fail
  refine hz.mono ?_
  rintro e w1 ⟨rfl, hc1⟩
  have hb1 := hbx.chg hc1 id
  have hC1 := hc0.trans hc1
  have k0 := hb1.cell 0
  simp only [List.getElem?_toArray, List.getElem?_cons_zero] at k0
  have l0 := hb1.lt
  clear hz hbx hc0 hc1
  go_wp2_with fail
  refine wp_region_heldF 12 (fun W => Blk W w.heap.size 25 #[.pointer (some ⟨d.blk, 0, none⟩)]) (by kernel_rfl) ?_
  simp only [List.size_toArray, List.length_cons, List.length_nil, Nat.reduceAdd, Array.replicate_succ, Array.replicate_zero, List.push_toArray, List.nil_append, List.cons_append]
  refine wpAnyF_take 0 (v := .pointer (some ⟨d.blk, 0, none⟩)) rfl (by kernel_rfl) (by kernel_rfl) (by kernel_rfl) (by kernel_rfl) (fun _ _ _ h => h) hb1.drew (by rfl) ?_ ?_
  · intro W hS
    have k := hS.cell 0
    simp only [List.getElem?_toArray, List.getElem?_cons_zero] at k
    go_simp
  refine wpAnyF_take 1 (v := .int .u32 (c : Int)) rfl (by kernel_rfl) (by kernel_rfl) (by kernel_rfl) (by kernel_rfl) (fun _ _ _ h => h) hb1.drew (by rfl) ?_ ?_
  · intro W hS
    go_simp
  refine wpAnyF_take 2 (v := .int .i64 g) rfl (by kernel_rfl) (by kernel_rfl) (by kernel_rfl) (by kernel_rfl) (fun _ _ _ h => h) hb1.drew (by rfl) ?_ ?_
  · intro W hS
    go_simp
  refine wpAnyF_take 8 (v := .int .u32 (c : Int)) rfl (by kernel_rfl) (by kernel_rfl) (by kernel_rfl) (by kernel_rfl) (fun _ _ _ h => h) hb1.drew (by rfl) ?_ ?_
  · intro W hS
    go_simp
  refine wpAnyF_take 9 (v := .int .i64 g) rfl (by kernel_rfl) (by kernel_rfl) (by kernel_rfl) (by kernel_rfl) (fun _ _ _ h => h) hb1.drew (by rfl) ?_ ?_
  · intro W hS
    go_simp
  refine wpAnyF_one 3 (by kernel_rfl) rfl (fun K hK => ?_)
  go_simp
  refine (hmask _).mono ?_
  rintro e w' ⟨rfl, rfl⟩
  refine hK _ _ (fun _ => hb1.drew) ?_
  clear hK K
  refine wpAnyF_take 4 (v := .int .u32 (bits BinOp.and IntKind.u32 (c : Int) (g - 1))) rfl (by kernel_rfl) (by kernel_rfl) (by kernel_rfl) (by kernel_rfl) (fun _ _ _ h => h) hb1.drew (by rfl) ?_ ?_
  · intro W hS
    go_simp
  refine wpAnyF_take 5 (v := .int .i64 (IntKind.i64.wrap (bits BinOp.and IntKind.u32 (c : Int) (g - 1)))) rfl (by kernel_rfl) (by kernel_rfl) (by kernel_rfl) (by kernel_rfl) (fun _ _ _ h => h) hb1.drew (by rfl) ?_ ?_
  · intro W hS
    go_simp
  rw [hat.out]
  refine wpAnyF_one 6 (by kernel_rfl) rfl (fun K hK => ?_)
  go_simp
  have hcA : Chg (fun _ => False) w1 (w1.alloc (Obj.cells #[Value.int IntKind.i64 (si : Int)] 3)).drew := ((Chg.refl _ w1).alloc _).drew
  have hbA : Blk (w1.alloc (Obj.cells #[Value.int IntKind.i64 (si : Int)] 3)).drew w1.heap.size 3 #[.int .i64 (si : Int)] := (Blk.new w1 _ _).drew
  refine hK _ _ (fun _ => hb1.chg hcA id) ?_
  clear hK K
  refine wpAnyF_one 7 (by kernel_rfl) rfl (fun K hK => ?_)
  go_simp
  refine (hga _ _ (hC1.trans hcA) (hbA.cell 0) hbA.lt).mono ?_
  rintro e W2 ⟨⟨v, rfl, hs⟩, hc2⟩
  refine hK _ _ (fun _ => (hb1.chg hcA id).chg hc2 id) ?_
  clear hK K
  refine wpAnyF_one 10 (by kernel_rfl) rfl (fun K hK => ?_)
  go_simp
  refine (hnext _).mono ?_
  rintro e w' ⟨rfl, rfl⟩
  refine hK _ _ (fun _ => (hb1.chg hcA id).chg hc2 id) ?_
  clear hK K
  refine wpAnyF_one 11 (by kernel_rfl) rfl (fun K hK => ?_)
  go_simp
  refine hK _ _ (fun _ => (hb1.chg hcA id).chg hc2 id) ?_
  clear hK K
  refine wpAnyF_one 12 (by kernel_rfl) rfl (fun K hK => ?_)
  go_simp
  refine hK _ _ (fun h => absurd rfl h) ?_
  clear hK K
  refine wpAnyF_done (by kernel_rfl) ?_ _
  rw [hnx.out]
  go_wp2_with fail
  go_ret2
  exact ⟨⟨v, rfl, hs.lower (Nat.le_trans hC1.size hcA.size)⟩, (hC1.trans hcA).trans hc2⟩

end Go.Proofs.Ythbjjjcppijcbaa.Dint
