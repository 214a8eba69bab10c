/- Contracts of dict: put, Step. -/
import Derived.Test.YthbjjjcppijcbaaDW2int
import Derived.Test.YthbjjjcppijcbaaDPint
import Derived.BigRegion
namespace Go.Proofs.Ythbjjjcppijcbaa.Dint
open Go.RowKit Pal
attribute [local go_sem] Oper.semAt_some

set_option maxHeartbeats 400000 in
/-- One node is put into a table. -/
theorem put_any (t : Tb) (x : Nd) (nx : Value) (b : Nat) (w : World) (hz : t.Sized) (hs : x.sum < 4294967296) (hT : Blk w t.blk 81 (tbCells t)) (hX : Blk w x.blk 83 (ndCells x nx))
    (hB : w.cell? ⟨b, 0, none⟩ = some (ptr x.blk)) :
    Calls Try.prog 44 #[tbVal t, .slice (some ⟨b, 0, none⟩) 1 1] w fun e w' => (∃ v, e = .returned v) ∧
      (w.setCell ⟨x.blk, 3, none⟩ (hd (t.at (x.sum % t.len)))).setCell ⟨t.blk, x.sum % t.len, none⟩ (ptr x.blk) = w' := by
  have hpos := hz.pos
  obtain ⟨k, h2, h16, hk⟩ := hz
  have hi : x.sum % t.len < t.len := Nat.mod_lt _ (by omega)
  have hc := hT.cell (x.sum % t.len)
  rw [tbCells_get hi] at hc
  have hfT := hT.frozen (x.sum % t.len)
  have hx0 := hX.cell 0
  have hx3 := hX.cell 3
  have hfX := hX.frozen 3
  simp only [ndCells, List.getElem?_toArray, List.getElem?_cons_zero, List.getElem?_cons_succ] at hx0 hx3
  have hne : x.blk ≠ t.blk := hX.ne_type hT (by decide)
  obtain ⟨q, hq⟩ : ∃ q, hd (t.at (x.sum % t.len)) = .pointer q := by cases t.at (x.sum % t.len) <;> exact ⟨_, rfl⟩
  rw [hq] at hc ⊢
  have HK := Lib.hid hk
  have hlt : t.len ≤ 9223372036854775807 := by omega
  have hne' : (t.blk = x.blk) = False := by simp only [eq_iff_iff, iff_false]; exact fun h => hne h.symm
  obtain ⟨i, HI⟩ : ∃ i, Hid (x.sum % t.len = i) := ⟨_, rfl⟩
  have hsl : ∀ w, Calls Try.prog 70 #[tbVal t, .int .u32 (x.sum : Int)] w fun e w' => e = .returned (.int .i64 (i : Int)) ∧ w = w' := fun w => by
    rw [← HI.out]; exact slot_any t x.sum k w hs HK.out h16
  rw [HI.out] at hc hfT hi ⊢
  clear hq hk hX hT
  unfold ptr tbVal at *
  go_enter Try.func44, Try.ntmps44
  go_wp2
  refine wp_loop_rounds 2 ?_
  rw [rounds_succ]
  go_wp2_with (go_at_call 70; refine (hsl _).mono ?_; rintro e w' ⟨rfl, rfl⟩)
  rw [rounds_succ]
  go_wp2
  go_end0
  exact ⟨⟨_, rfl⟩, rfl⟩

end Go.Proofs.Ythbjjjcppijcbaa.Dint
