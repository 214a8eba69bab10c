/- Contracts of dict's Get, Set, Delete. -/
import Derived.Test.YthbjjjcppijcbaaDW5int
import Derived.Deep.RegionHeld3
namespace Go.Proofs.Ythbjjjcppijcbaa.Dint
open Go.RowKit Pal

set_option maxHeartbeats 400000 in
theorem get1_any (L : Addr) (x : Nd) (nx u : Value) (vb : Nat) (W : World) (hL : W.cell? L = some (ptr x.blk)) (hx : Blk W x.blk 83 (ndCells x nx)) (hv : W.cell? ⟨vb, 0, none⟩ = some u) (hf : W.frozen? ⟨vb, 0, none⟩ = false) (hok : VOk x.v) :
    Calls Try.prog 46 #[.pointer (some L), ptr vb] W fun e W' => (∃ v, e = .returned v) ∧ W.setCell ⟨vb, 0, none⟩ x.v = W' := by
  have k2 := hx.cell 2
  simp only [ndCells, List.getElem?_toArray, List.getElem?_cons_zero, List.getElem?_cons_succ] at k2
  obtain ⟨xv, hxv⟩ := hok
  rw [hxv] at k2 ⊢
  unfold ptr at *
  clear hxv
  go_enter Try.func46, Try.ntmps46
  go_wp2
  go_end0
  exact ⟨⟨_, rfl⟩, rfl⟩

set_option maxRecDepth 100000 in
set_option maxHeartbeats 400000 in
theorem set1_any (L : Addr) (x : Nd) (nx u : Value) (vb : Nat) (W : World) (hL : W.cell? L = some (ptr x.blk)) (hx : Blk W x.blk 83 (ndCells x nx)) (hv : W.cell? ⟨vb, 0, none⟩ = some u) (hok : VOk u) :
    Calls Try.prog 41 #[.pointer (some L), ptr vb] W fun e W' => (∃ v, e = .returned v) ∧ (W.setCell ⟨x.blk, 2, none⟩ u).drew = W' := by
  have k2 := hx.cell 2
  have f2 := hx.frozen 2
  simp only [ndCells, List.getElem?_toArray, List.getElem?_cons_zero, List.getElem?_cons_succ] at k2
  obtain ⟨n, rfl⟩ := hok
  unfold ptr at *
  go_enter Try.func41, Try.ntmps41
  go_wp2
  go_still_tail 6, (by kernel_rfl)
  go_wp2
  go_end0
  exact ⟨⟨_, rfl⟩, rfl⟩

set_option maxHeartbeats 400000 in
theorem delete1_any (L : Addr) (x : Nd) (c : Ch) (W : World) (hL : W.cell? L = some (ptr x.blk)) (hx : Blk W x.blk 83 (ndCells x (hd c))) (hf : W.frozen? L = false) :
    Calls Try.prog 47 #[.pointer (some L)] W fun e W' => (∃ v, e = .returned v) ∧ W.setCell L (hd c) = W' := by
  have k3 := hx.cell 3
  simp only [ndCells, List.getElem?_toArray, List.getElem?_cons_zero, List.getElem?_cons_succ] at k3
  obtain ⟨q, hq⟩ : ∃ q, hd c = .pointer q := by cases c <;> exact ⟨_, rfl⟩
  rw [hq] at k3 ⊢
  unfold ptr at *
  clear hq
  go_enter Try.func47, Try.ntmps47
  go_wp2
  go_end0
  exact ⟨⟨_, rfl⟩, rfl⟩

def GetPost (d : Dm) (key : ByteArray) (w : World) (e : Ending) (w' : World) : Prop :=
  ((∃ x ∈ d.nodes, x.key = key ∧ e = .returned (.tuple #[x.v, .bool true])) ∨ ((∀ x ∈ d.nodes, x.key ≠ key) ∧ e = .returned (.tuple #[.int .i64 0, .bool false]))) ∧ DmAt w' (stepD d 1) ∧ Chg d.foot w w'

set_option maxRecDepth 100000 in
set_option maxHeartbeats 400000 in
theorem Get_any (d : Dm) (key : ByteArray) (w : World) (h : DmAt w d) (hok : d.Ok) (hk : key.size ≤ 9223372036854775807) :
    Calls Try.prog 18 #[ptr d.blk, .string key] w (GetPost d key w) := by
  have hlt := h.hd.lt
  obtain ⟨e, he⟩ : ∃ e, Hid (stepD d 1 = e) := ⟨_, rfl⟩
  have hE : e.Ok := by rw [← he.out]; exact moveN_ok hok _
  have hblk : e.blk = d.blk := by rw [← he.out]; exact (moveN_blk d _).1
  have hperm : e.nodes.Perm d.nodes := by rw [← he.out]; exact moveN_perm hok _
  have hfoot : ∀ g, e.foot g → d.foot g := fun g hg => moveN_foot hok _ (by rw [← he.out] at hg; exact hg)
  have hst : ∀ w, DmAt w d → _ := fun w h => Step_any d 1 w h hok
  rw [he.out] at hst
  have HB := Lib.hid hblk
  clear hblk
  unfold ptr at hst ⊢
  go_enter Try.func18, Try.ntmps18
  go_wp2_with fail
  refine (hst _ (h.chg0 ((Chg.refl _ w).alloc _))).mono ?_
  rintro e1 w1 ⟨rfl, hD1, hC1⟩
  have hbx : Blk w1 w.heap.size 3 #[.int .i64 0] := (Blk.new w _ _).chg hC1 fun hg => Nat.lt_irrefl _ (h.lt hg)
  have hC : Chg d.foot w w1 := ((Chg.refl d.foot w).alloc _).trans hC1
  go_wp2_with fail
  rw [← HB.out]
  refine (with_any e key 46 #[ptr w.heap.size] w1 hD1 hE hk (enters_of Try.func46 (by kernel_rfl) rfl)
    (fun W => ∃ x ∈ e.nodes, x.key = key ∧ W.cell? ⟨w.heap.size, 0, none⟩ = some x.v ∧ Chg (fun g => g = w.heap.size) w1 W) ?_).mono ?_
  · intro ti t pre x post W htab hat hxk hC2
    have htz := (tab_ok hE htab).1.pos
    have hi : sumN e.seed key.data.toList % t.len < t.len := Nat.mod_lt _ (by omega)
    have hDW := hD1.chg0 hC2
    have hta := tab_at hDW htab
    have hbW := hbx.chg hC2 id
    have hL := loc_cell hta hi hat
    have hX := (hta.2 _ (Tb.at_mem hi)).node hat
    have hxn : x ∈ e.nodes := tab_nodes htab (mem_nodes.2 ⟨_, hi, by rw [hat]; simp⟩)
    refine (get1_any _ x _ _ _ W hL hX (hbW.cell 0) (hbW.frozen 0) (hE.vok x hxn)).mono ?_
    rintro e5 W5 ⟨hv, rfl⟩
    exact ⟨hv, x, hxn, hxk, (hbW.set 0 x.v).cell 0, Chg.store (S := fun g => g = w.heap.size) (hC2.mono (fun _ _ h => h.elim)) rfl 0 _⟩
  · have hfin : ∀ W2, Chg (fun g => g = w.heap.size) w1 W2 → DmAt W2 e ∧ Chg d.foot w W2 := fun W2 h2 =>
      ⟨hD1.chg h2 fun g hg h' => Nat.lt_irrefl _ (h' ▸ h.lt (hfoot g hg)), hC.trans' h2 fun g hg h' => absurd hg (by omega)⟩
    rintro e5 W5 (⟨rfl, ⟨x, hx, hxk⟩, y, hy, hyk, hcell, hC5⟩ | ⟨rfl, hno, hC5⟩)
    · obtain ⟨h6, h7⟩ := hfin W5 hC5
      obtain ⟨u, hu⟩ := hE.vok y hy
      rw [hu] at hcell
      go_wp2_with fail
      go_ret2
      unfold GetPost
      rw [← hu, he.out]
      exact ⟨.inl ⟨y, hperm.mem_iff.1 hy, hyk, rfl⟩, h6, h7⟩
    · obtain ⟨h6, h7⟩ := hfin W5 (hC5.mono (fun _ _ h => h.elim))
      have hcell := (hbx.chg hC5 id).cell 0
      simp only [List.getElem?_toArray, List.getElem?_cons_zero] at hcell
      go_wp2_with fail
      go_ret2
      unfold GetPost
      rw [he.out]
      exact ⟨.inr ⟨fun x hx => hno x (hperm.mem_iff.2 hx), rfl⟩, h6, h7⟩

set_option maxHeartbeats 400000 in
theorem Get_nil (key : ByteArray) (w : World) :
    Calls Try.prog 18 #[.pointer none, .string key] w fun e w' => e = .returned (.tuple #[.int .i64 0, .bool false]) ∧ Chg (fun _ => False) w w' := by
  go_enter Try.func18, Try.ntmps18
  go_wp2
  go_ret2
  exact ⟨rfl, (Chg.refl _ w).alloc _⟩

end Go.Proofs.Ythbjjjcppijcbaa.Dint
