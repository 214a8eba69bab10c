/- Contracts of scan: gathered, slots. -/
import Derived.Test.YthbjjjcppijcbaaSCint
import Derived.Test.YthbjjjcppijcbaaRR
namespace Go.Proofs.Ythbjjjcppijcbaa.Dint
open Go.RowKit Pal
attribute [local go_sem] Oper.semAt_some

set_option maxRecDepth 100000 in
set_option maxHeartbeats 1000000 in
theorem gathered_any (d : Dm) (ti si B : Nat) (w : World) (h : DmAt w d) (hok : d.Ok) (hti : ti < 2) (hsi : si < tabLen d ti) (hn : d.n < 1000000) (hB : w.cell? ⟨B, 0, none⟩ = some (.int .i64 (si : Int))) (hBl : B < w.heap.size) :
    Calls Try.prog 65 #[ptr d.blk, .int .i64 (ti : Int), .slice (some ⟨B, 0, none⟩) 1 1] w fun e w' => (∃ v, e = .returned v ∧ Strs w' w.heap.size v (keysAt d ti si)) ∧ Chg (fun _ => False) w w' := by
  obtain ⟨i0, hi0, hz0, hz1, hz2⟩ := info_parts str_info
  have hb := fun W (hC : Chg (fun _ => False) w W) => Bucket_in d ti si W (h.chg0 hC) hok hti hsi hn
  have hlen : (keysAt d ti si).length ≤ d.n := by
    obtain ⟨t, ht, hl⟩ := tab_cases hsi
    rw [(keysAt_perm ht).length_eq, List.length_map, hok.count]
    have := (tab_perm ht hl).length_eq
    rw [List.length_append] at this
    omega
  generalize keysAt d ti si = ks at *
  unfold ptr at *
  go_enter Try.func65, Try.ntmps65
  go_wp2_with fail
  go_loopw [7, 14] (fun v i wr => ∃ k : Nat, k ≤ 1 ∧ i = .int .i64 k ∧ Strs wr w.heap.size v (if k = 0 then [] else ks) ∧ Chg (fun _ => False) w wr) (fun _ i _ => 1 - (intOf i).toNat)
  case atStart => exact ⟨0, Nat.zero_le _, rfl, Strs.nil _ _, Chg.refl _ _⟩
  case round =>
    obtain ⟨k, hk, rfl, hv, hC⟩ := hrel
    by_cases hlt : k = 0
    · subst hlt
      have hcB : wr.cell? ⟨B, 0, none⟩ = some (.int .i64 (si : Int)) := by
        rw [World.cell?_of_block (hC.block B hBl id)]; exact hB
      have hb := hb _ hC
      simp only [if_true] at hv
      go_wp2_with fail
      refine hb.mono ?_
      rintro e W2 ⟨⟨v2, rfl, hs2⟩, hC2⟩
      have hv2 := hv.chg hC2 (fun _ _ => id)
      obtain ⟨pa, ca, rfl, hpa⟩ := hs2.is
      have hA : ([] : List ByteArray).length + ks.length ≤ maxLen := by unfold maxLen; simp; omega
      have hBB : (([] : List ByteArray).length + ks.length) * 16 ≤ 140737488355328 := by simp; omega
      have hD : w.heap.size ≤ W2.heap.size := Nat.le_trans hC.size hC2.size
      clear hb
      go_wp2_with (at_builtin; refine wpList_append_any _ rfl (.tmp 25) (.tmp 26) 38 rfl w.heap.size 9 i0 _ 1 16 Try.underlying38 hi0 hz0 hz1 hz2 rfl (by omega) _ _ _ rfl hv2.own W2.heap.size pa _ ca _ rfl hs2.reads (strs_one _) hA hBB hD ?_; intro v3 w3 hown3 hg3 hat3)
      go_roundw
      case rel => exact ⟨1, by omega, by go_num, Strs.mk hown3 (by simp) (by simp), (hC.trans hC2).trans' (app_chg hv2 hg3) fun g hg h' => by omega⟩
      case measure => simp [intOf]
    · have hk1 : k = 1 := by omega
      subst hk1
      go_wp2_with fail
      go_ret
      exact ⟨⟨_, rfl, by simpa using hv⟩, hC⟩

theorem slots_any (c : Nat) (s g : Int) (w : World) :
    Calls Try.prog 68 #[.int .u32 (c : Int), .int .i64 s, .int .i64 g] w fun e w' => e = .returned (.func (.func 83) #[] #[.pointer (some ⟨w.heap.size, 0, none⟩), .pointer (some ⟨w.heap.size + 2, 0, none⟩), .pointer (some ⟨w.heap.size + 1, 0, none⟩)]) ∧
      ((w.alloc (.cells #[.int .u32 (c : Int)] 22)).alloc (.cells #[.int .i64 s] 3)).alloc (.cells #[.int .i64 g] 3) = w' := by
  go_enter Try.func68, Try.ntmps68
  go_wp2
  go_ret
  exact ⟨rfl, rfl⟩

end Go.Proofs.Ythbjjjcppijcbaa.Dint
