/- Texts joined for ZsetWays: SKY, PKW, PKE, ST, EN. -/
import Derived.Test.YtifcpippfiglkaaGreatJZsetWaysf
import Derived.Test.YtifcpippfiglkaaGreatJZsetWaysg
import Derived.Test.YtifcpippfiglkaaGreatJZsetWaysh
import Derived.Deep.QuietTactic
import Derived.Deep.LoopGhost
import Derived.Laws.BitsAllLaws
import Derived.IntWalk
import Derived.Maps.AppendAt
import Derived.Deep.AppendLies
import Derived.RegionTactic
import Derived.OwnWalk
import Derived.OwnWalkIn
set_option linter.unusedVariables false
set_option linter.unusedSimpArgs false

/- Contracts of skip lists: to, until, Seek, Len, within. -/
namespace Go.Proofs.YtifcpippfiglkaaGreat
open Go.RowKit Pal Pal.Skip
attribute [local go_sem] Oper.semAt_some

set_option maxRecDepth 100000 in
theorem to1_any (g q b : Nat) (x e : En) (w : World) (hn : w.cell? ⟨g, 0, none⟩ = some (.string x.m) ∧ w.cell? ⟨g, 1, none⟩ = some (.int .i64 x.s)) (hb : Blk w b 54 #[.string e.m, .int .i64 e.s]) :
    Calls Tryz.prog 101 #[pt g, .int .i64 (q : Int), pt b] w fun r w' => r = .returned (.bool (decide (ltE x e))) ∧ Chg (fun _ => False) w w' := by
  unfold pt
  obtain ⟨n0, n1⟩ := hn
  have b0 := hb.cell 0
  have b1 := hb.cell 1
  simp only [List.getElem?_toArray, List.getElem?_cons_zero, List.getElem?_cons_succ] at b0 b1
  go_enter Tryz.func101, Tryz.ntmps101
  go_wp2_with fail
  go_still_tail 5, (by kernel_rfl)
  go_wp2_with (go_at_call 42; refine (less_E x e _).mono ?_; rintro r w1 ⟨rfl, hc⟩)
  go_ret
  exact ⟨rfl, (Chg.refl _ w).drew.trans hc⟩

def nil32 : Array Value := (List.replicate 32 (Value.pointer none)).toArray
def zero32 : Array Value := (List.replicate 32 (Value.int .i64 0)).toArray
theorem two32 (w : World) : Blk ((w.alloc (.cells nil32 163)).alloc (.cells zero32 164)) w.heap.size 163 nil32 ∧ Blk ((w.alloc (.cells nil32 163)).alloc (.cells zero32 164)) (w.heap.size + 1) 164 zero32 := by
  refine ⟨(Blk.new w _ _).alloc _, ?_⟩
  have := Blk.new (w.alloc (.cells nil32 163)) 164 zero32
  rw [World.size_alloc] at this
  exact this
theorem node_pos {s : Sk} {q : Nat} (h1 : 1 ≤ q) (hq : q ≤ s.n) : ∃ x, s.ns[q - 1]? = some x := ⟨_, List.getElem?_eq_getElem (by unfold Sk.n at hq; omega)⟩
theorem asks_to {s : Sk} {w : World} {base b : Nat} {e : En} (h : SkAt w base s) (hs : s.es.Pairwise ltE) (hb : Blk w b 54 #[.string e.m, .int .i64 e.s]) : Asks s (ahead s.es e) 101 #[pt b] w := by
  intro q W h1 hq hc
  obtain ⟨x, hx⟩ := node_pos h1 hq
  obtain ⟨k0, k1, _, _, _, ha⟩ := (h.chg0 hc).node hx
  rw [show q - 1 + 1 = q by omega] at ha
  refine (to1_any (s.at_ q) q b x.en e W (by rw [ha]; exact ⟨k0, k1⟩) (hb.chg hc id)).mono ?_
  rintro r W' ⟨rfl, hc'⟩
  refine ⟨?_, hc'⟩
  have := ahead_lt (e := e) hs (j := q - 1) (x := x.en) (by rw [s.es_get, hx]; rfl)
  rw [show decide (ltE x.en e) = decide (q ≤ ahead s.es e) from by rw [decide_eq_decide, this]; omega]
theorem until1_any (g : Nat) (q b p : Nat) (w : World) (hb : Blk w b 3 #[.int .i64 (p : Int)]) :
    Calls Tryz.prog 190 #[pt g, .int .i64 (q : Int), pt b] w fun r w' => r = .returned (.bool (decide (q ≤ p))) ∧ w = w' := by
  unfold pt
  have b0 := hb.cell 0
  simp only [List.getElem?_toArray, List.getElem?_cons_zero] at b0
  go_enter Tryz.func190, Tryz.ntmps190
  go_wp2_with fail
  go_ret
  exact ⟨by simp, rfl⟩
theorem asks_until {s : Sk} {w : World} {b p : Nat} (hb : Blk w b 3 #[.int .i64 (p : Int)]) : Asks s p 190 #[pt b] w := by
  intro q W h1 hq hc
  refine (until1_any (s.at_ q) q b p W (hb.chg hc id)).mono ?_
  rintro r W' ⟨rfl, rfl⟩
  exact ⟨rfl, Chg.refl _ _⟩

set_option maxRecDepth 100000 in
theorem to_any (s : Sk) (e : En) (w : World) (base : Nat) (h : SkAt w base s) (hs : s.es.Pairwise ltE) (hn : s.n ≤ 100000) :
    Calls Tryz.prog 90 #[pt s.blk, e.val] w fun r w' => r = .returned (.tuple #[.agg (s.nodesL (ahead s.es e) 0).toArray, .agg (s.placesL (ahead s.es e) 0).toArray]) ∧ Chg (fun _ => False) w w' := by
  unfold En.val pt
  have hkn : (ahead s.es e) ≤ s.n := by have := ahead_le s.es e; rwa [s.es_len] at this
  obtain ⟨l0, hl0⟩ : ∃ l0 : List Obj, l0 = [.cells #[.string e.m, .int .i64 e.s] 54, .cells (List.replicate 32 (.pointer none)).toArray 163, .cells (List.replicate 32 (.int .i64 0)).toArray 164] := ⟨_, rfl⟩
  have hget : ∀ (i : Nat) (o : Obj), l0[i]? = some o → (l0.foldl World.alloc w).heap[w.heap.size + i]? = some o := fun i o h => allocs_get l0 w i o h
  have hg0 := hget 0 _ (by rw [hl0]; rfl)
  have hg1 := hget 1 _ (by rw [hl0]; rfl)
  have hg2 := hget 2 _ (by rw [hl0]; rfl)
  have hC0 : Chg (fun _ => False) w (l0.foldl World.alloc w) := allocs_chg _ l0 w
  have hlN : (s.nodesL (ahead s.es e) 0).length = 32 := by unfold Sk.nodesL; simp
  have hlP : (s.placesL (ahead s.es e) 0).length = 32 := by unfold Sk.placesL; simp
  have hzN : (List.replicate 32 (Value.pointer none)).toArray.size = 32 := rfl
  have hzP : (List.replicate 32 (Value.int .i64 0)).toArray.size = 32 := rfl
  have hzN' : (s.nodesL (ahead s.es e) 0).toArray.size = 32 := by rw [← hlN]; rfl
  have hzP' : (s.placesL (ahead s.es e) 0).toArray.size = 32 := by rw [← hlP]; rfl
  go_enter Tryz.func90, Tryz.ntmps90
  go_wp2_with (first | (go_at_call 100; refine calls_world (l0.foldl World.alloc w) (by rw [hl0]; rfl) ?_; refine (path_any s (ahead s.es e) 101 #[pt w.heap.size] (l0.foldl World.alloc w) base (h.chg0 hC0) hkn hn (enters_of Tryz.func101 (by kernel_rfl) rfl) (asks_to (h.chg0 hC0) hs hg0)).mono ?_; rintro r w4 ⟨rfl, hc4⟩; have hb1 := (show Blk _ (w.heap.size + 1) _ _ from hg1).chg hc4 id; have hb2 := (show Blk _ (w.heap.size + 2) _ _ from hg2).chg hc4 id; have hC4 := hC0.trans hc4; clear hg0 hg1 hg2 hget hC0 hc4 hl0) | (show wpList _ _ _ (Oper.mk _ (Op.store 163 _ _) _ _ _ _ :: _) _ _; refine wpList_store_blk rfl 163 _ _ rfl (w.heap.size + 1) (s.nodesL (ahead s.es e) 0) rfl rfl hb1 hlN (by rw [hzN]; kernel_rfl) (s.nodesL_one _ _) ?_; intro hb1') | (show wpList _ _ _ (Oper.mk _ (Op.store 164 _ _) _ _ _ _ :: _) _ _; refine wpList_store_blk rfl 164 _ _ rfl (w.heap.size + 2) (s.placesL (ahead s.es e) 0) rfl rfl (Blk.farCells _ 0 _ (by omega) hb2) hlP (by rw [hzP]; kernel_rfl) (s.placesL_one _ _) ?_; intro hb2'))
  refine bodyPost_ret (results_cells2 rfl _ (w.heap.size + 1) (w.heap.size + 2) _ _ (s.nodesL (ahead s.es e) 0).toArray (s.placesL (ahead s.es e) 0).toArray _ _ rfl (Blk.farCells _ 0 _ (by omega) hb1') Tryz.underlying163 rfl (by rw [hzN']; kernel_rfl) rfl hb2' Tryz.underlying164 rfl (by rw [hzP']; kernel_rfl)) rfl ⟨rfl, ?_⟩
  exact setCells_chg _ 0 _ (by omega) (setCells_chg _ 0 _ (by omega) hC4)
set_option maxRecDepth 100000 in
theorem until_any (s : Sk) (p : Nat) (w : World) (base : Nat) (h : SkAt w base s) (hp : p ≤ s.n) (hn : s.n ≤ 100000) :
    Calls Tryz.prog 187 #[pt s.blk, .int .i64 (p : Int)] w fun r w' => r = .returned (.tuple #[.agg (s.nodesL p 0).toArray, .agg (s.placesL p 0).toArray]) ∧ Chg (fun _ => False) w w' := by
  unfold pt
  have hkn : p ≤ s.n := hp
  obtain ⟨l0, hl0⟩ : ∃ l0 : List Obj, l0 = [.cells #[.int .i64 (p : Int)] 3, .cells (List.replicate 32 (.pointer none)).toArray 163, .cells (List.replicate 32 (.int .i64 0)).toArray 164] := ⟨_, rfl⟩
  have hget : ∀ (i : Nat) (o : Obj), l0[i]? = some o → (l0.foldl World.alloc w).heap[w.heap.size + i]? = some o := fun i o h => allocs_get l0 w i o h
  have hg0 := hget 0 _ (by rw [hl0]; rfl)
  have hg1 := hget 1 _ (by rw [hl0]; rfl)
  have hg2 := hget 2 _ (by rw [hl0]; rfl)
  have hC0 : Chg (fun _ => False) w (l0.foldl World.alloc w) := allocs_chg _ l0 w
  have hlN : (s.nodesL p 0).length = 32 := by unfold Sk.nodesL; simp
  have hlP : (s.placesL p 0).length = 32 := by unfold Sk.placesL; simp
  have hzN : (List.replicate 32 (Value.pointer none)).toArray.size = 32 := rfl
  have hzP : (List.replicate 32 (Value.int .i64 0)).toArray.size = 32 := rfl
  have hzN' : (s.nodesL p 0).toArray.size = 32 := by rw [← hlN]; rfl
  have hzP' : (s.placesL p 0).toArray.size = 32 := by rw [← hlP]; rfl
  go_enter Tryz.func187, Tryz.ntmps187
  go_wp2_with (first | (go_at_call 100; refine calls_world (l0.foldl World.alloc w) (by rw [hl0]; rfl) ?_; refine (path_any s p 190 #[pt w.heap.size] (l0.foldl World.alloc w) base (h.chg0 hC0) hkn hn (enters_of Tryz.func190 (by kernel_rfl) rfl) (asks_until hg0)).mono ?_; rintro r w4 ⟨rfl, hc4⟩; have hb1 := (show Blk _ (w.heap.size + 1) _ _ from hg1).chg hc4 id; have hb2 := (show Blk _ (w.heap.size + 2) _ _ from hg2).chg hc4 id; have hC4 := hC0.trans hc4; clear hg0 hg1 hg2 hget hC0 hc4 hl0) | (show wpList _ _ _ (Oper.mk _ (Op.store 163 _ _) _ _ _ _ :: _) _ _; refine wpList_store_blk rfl 163 _ _ rfl (w.heap.size + 1) (s.nodesL p 0) rfl rfl hb1 hlN (by rw [hzN]; kernel_rfl) (s.nodesL_one _ _) ?_; intro hb1') | (show wpList _ _ _ (Oper.mk _ (Op.store 164 _ _) _ _ _ _ :: _) _ _; refine wpList_store_blk rfl 164 _ _ rfl (w.heap.size + 2) (s.placesL p 0) rfl rfl (Blk.farCells _ 0 _ (by omega) hb2) hlP (by rw [hzP]; kernel_rfl) (s.placesL_one _ _) ?_; intro hb2'))
  refine bodyPost_ret (results_cells2 rfl _ (w.heap.size + 1) (w.heap.size + 2) _ _ (s.nodesL p 0).toArray (s.placesL p 0).toArray _ _ rfl (Blk.farCells _ 0 _ (by omega) hb1') Tryz.underlying163 rfl (by rw [hzN']; kernel_rfl) rfl hb2' Tryz.underlying164 rfl (by rw [hzP']; kernel_rfl)) rfl ⟨rfl, ?_⟩
  exact setCells_chg _ 0 _ (by omega) (setCells_chg _ 0 _ (by omega) hC4)

theorem len_any (s : Sk) (w : World) (base : Nat) (h : SkAt w base s) : Calls Tryz.prog 176 #[pt s.blk] w fun r w' => r = .returned (.int .i64 (s.n : Int)) ∧ w = w' := by
  obtain ⟨_, _, h2, h3, _⟩ := h.head
  unfold pt
  go_enter Tryz.func176, Tryz.ntmps176
  go_wp2_with fail
  go_ret
  exact ⟨rfl, rfl⟩
/-- A place that there is. -/
def clampN (n : Nat) (i : Int) : Nat := min i.toNat n
theorem clamp_eq (n : Nat) (i : Int) : max 0 (min i (n : Int)) = (clampN n i : Int) := by unfold clampN; omega
theorem clamp_eq2 (n : Nat) (i j : Int) : max ((clampN n i : Nat) : Int) (min j (n : Int)) = ((max (clampN n i) (clampN n j) : Nat) : Int) := by unfold clampN; omega
theorem within_any (s : Sk) (i j : Int) (w : World) (base : Nat) (h : SkAt w base s) :
    Calls Tryz.prog 186 #[pt s.blk, .int .i64 i, .int .i64 j] w fun r w' => r = .returned (.tuple #[.int .i64 (clampN s.n i : Int), .int .i64 ((max (clampN s.n i) (clampN s.n j) : Nat) : Int)]) ∧ w = w' := by
  have hl := fun w (h : SkAt w base s) => len_any s w base h
  unfold pt at hl ⊢
  go_enter Tryz.func186, Tryz.ntmps186
  go_wp2_with (go_at_call 176; refine (hl _ h).mono ?_; rintro r w' ⟨rfl, rfl⟩)
  go_ret2
  refine ⟨?_, rfl⟩
  show Ending.returned (.tuple #[.int .i64 (max 0 (min i (s.n : Int))), .int .i64 (max 0 (max (min i (s.n : Int)) (min j (s.n : Int))))]) = _
  rw [show max 0 (min i (s.n : Int)) = ((clampN s.n i : Nat) : Int) by unfold clampN; omega, show max 0 (max (min i (s.n : Int)) (min j (s.n : Int))) = ((max (clampN s.n i) (clampN s.n j) : Nat) : Int) by unfold clampN; omega]

set_option maxRecDepth 100000 in
theorem seek_any (s : Sk) (e : En) (w : World) (base : Nat) (h : SkAt w base s) (hs : s.es.Pairwise ltE) (hn : s.n ≤ 100000) :
    Calls Tryz.prog 89 #[pt s.blk, e.val] w fun r w' => r = .returned (.tuple #[.int .i64 (ahead s.es e : Int), .bool (decide (e ∈ s.es))]) ∧ Chg (fun _ => False) w w' := by
  obtain ⟨_, ht, _, hlt, hfr⟩ := h.head
  have hto := fun w (h : SkAt w base s) => to_any s e w base h hs hn
  have hkn : ahead s.es e ≤ s.n := by have := ahead_le s.es e; rwa [s.es_len] at this
  have hmem := ahead_mem (e := e) hs
  unfold En.val pt at hto ⊢
  by_cases h0 : top s.lv = 0
  · rw [h0] at ht
    have hn0 := h.top0.1 h0
    have he : s.es = [] := List.eq_nil_of_length_eq_zero (by rw [s.es_len]; exact hn0)
    go_enter Tryz.func89, Tryz.ntmps89
    go_wp2_with fail
    go_ret2
    exact ⟨by rw [he]; simp [ahead], (Chg.refl _ w).alloc _⟩
  · have ht0 : ((top s.lv : Int) == 0) = false := by rw [beq_eq_false_iff_ne]; omega
    have htop := h.top_le
    obtain ⟨k, hke⟩ : ∃ k, k = ahead s.es e := ⟨_, rfl⟩
    rw [← hke] at hto hkn hmem ⊢
    replace hke := Lib.hid hke
    have hlN : (s.nodesL k 0).length = 32 := by unfold Sk.nodesL; simp
    have hlP : (s.placesL k 0).length = 32 := by unfold Sk.placesL; simp
    have hzN : nil32.size = 32 := rfl
    have hzP : zero32.size = 32 := rfl
    have hN0 := s.nodesL_get k (j := 0) (by omega) (by omega)
    have hP0 := s.placesL_get k (j := 0) (by omega) (by omega)
    rw [h.prev0 hkn] at hN0 hP0
    unfold pt at hN0
    have hk0 : k = 0 ∨ ab s.lv 0 k := by
      rcases Nat.eq_zero_or_pos k with e | e
      · exact .inl e
      · exact .inr (h.lv_pos e hkn)
    have hnx := h.nxt0 k
    by_cases hkl : k < s.n
    · rw [if_pos hkl] at hnx
      obtain ⟨x, hx⟩ : ∃ x, s.ns[k]? = some x := ⟨_, List.getElem?_eq_getElem hkl⟩
      have hxe : s.es[k]? = some x.en := by rw [s.es_get, hx]; rfl
      rw [hxe] at hmem
      have hxat := (h.node hx).2.2.2.2.2
      go_enter Tryz.func89, Tryz.ntmps89
      go_wp2_with (first | (go_at_call 90; refine (hto _ (h.chg0 ((Chg.refl _ w).alloc _))).mono ?_; rintro r w4 ⟨rfl, hc4⟩; have hbe := (Blk.new w 54 #[.string e.m, .int .i64 e.s]).chg hc4 id; have hC4 := ((Chg.refl (fun _ => False) w).alloc (.cells #[.string e.m, .int .i64 e.s] 54)).trans hc4; have hlt4 := hbe.lt; clear hc4) | (show wpList _ _ _ (Oper.mk _ (Op.store 163 _ _) _ _ _ _ :: _) _ _; refine wpList_store_new rfl 163 _ _ rfl w4.heap.size (s.nodesL k 0) rfl rfl (two32 w4).1 hlN (by rw [hzN]; kernel_rfl) (s.nodesL_one _ _) ?_; intro w5 hb5 ho5 hc5) | (show wpList _ _ _ (Oper.mk _ (Op.store 164 _ _) _ _ _ _ :: _) _ _; refine wpList_store_new rfl 164 _ _ rfl (w4.heap.size + 1) (s.placesL k 0) rfl rfl ((two32 w4).2.other (ho5 _ (by omega))) hlP (by rw [hzP]; kernel_rfl) (s.placesL_one _ _) ?_; intro w6 hb6 ho6 hc6; have hC6 : Chg (fun _ => False) w w6 := hc6 (fun h => by have := hC4.size; omega) (hc5 (fun h => by have := hC4.size; omega) ((hC4.alloc _).alloc _)); have hS6 := h.chg0 hC6; have n0 := (hb5.other (ho6 _ (by omega))).cell 0; have p0 := hb6.cell 0; rw [List.getElem?_toArray, hN0] at n0; rw [List.getElem?_toArray, hP0] at p0; have hbe6 := (((hbe.alloc _).alloc _).other (ho5 _ (by omega))).other (ho6 _ (by omega)); have e0 := hbe6.cell 0; have e1 := hbe6.cell 1; simp only [List.getElem?_toArray, List.getElem?_cons_zero, List.getElem?_cons_succ] at e0 e1; have lk := (hS6.link (p := k) (i := 0) hk0 (by omega)).1; rw [hnx] at lk; simp only [Sk.go, Nat.zero_mul, Nat.add_zero] at lk; clear hb5 hb6 ho5 ho6 hc5 hc6 hC4 hbe hbe6 hlt4; unfold pt at lk; rw [hxat] at lk; obtain ⟨x0, x1, _, _, hxl, _⟩ := hS6.node hx))
      have heq := fun W => eq_entry x.en e W
      simp only [Sn.en] at heq
      go_quiet (fail)
      go_wp2_with fail
      go_ret2
      refine ⟨?_, hC6.trans ((Chg.refl _ _).drewN _)⟩
      rw [show decide (e ∈ s.es) = decide (({ m := x.key, s := x.score } : En) = e) from by rw [decide_eq_decide, hmem]; exact ⟨fun h => by injection h, fun h => by rw [← h]; rfl⟩]
      rfl
    · rw [if_neg hkl] at hnx
      have hxe : s.es[k]? = none := List.getElem?_eq_none (by rw [s.es_len]; omega)
      rw [hxe] at hmem
      go_enter Tryz.func89, Tryz.ntmps89
      go_wp2_with (first | (go_at_call 90; refine (hto _ (h.chg0 ((Chg.refl _ w).alloc _))).mono ?_; rintro r w4 ⟨rfl, hc4⟩; have hbe := (Blk.new w 54 #[.string e.m, .int .i64 e.s]).chg hc4 id; have hC4 := ((Chg.refl (fun _ => False) w).alloc (.cells #[.string e.m, .int .i64 e.s] 54)).trans hc4; have hlt4 := hbe.lt; clear hc4) | (show wpList _ _ _ (Oper.mk _ (Op.store 163 _ _) _ _ _ _ :: _) _ _; refine wpList_store_new rfl 163 _ _ rfl w4.heap.size (s.nodesL k 0) rfl rfl (two32 w4).1 hlN (by rw [hzN]; kernel_rfl) (s.nodesL_one _ _) ?_; intro w5 hb5 ho5 hc5) | (show wpList _ _ _ (Oper.mk _ (Op.store 164 _ _) _ _ _ _ :: _) _ _; refine wpList_store_new rfl 164 _ _ rfl (w4.heap.size + 1) (s.placesL k 0) rfl rfl ((two32 w4).2.other (ho5 _ (by omega))) hlP (by rw [hzP]; kernel_rfl) (s.placesL_one _ _) ?_; intro w6 hb6 ho6 hc6; have hC6 : Chg (fun _ => False) w w6 := hc6 (fun h => by have := hC4.size; omega) (hc5 (fun h => by have := hC4.size; omega) ((hC4.alloc _).alloc _)); have hS6 := h.chg0 hC6; have n0 := (hb5.other (ho6 _ (by omega))).cell 0; have p0 := hb6.cell 0; rw [List.getElem?_toArray, hN0] at n0; rw [List.getElem?_toArray, hP0] at p0; have hbe6 := (((hbe.alloc _).alloc _).other (ho5 _ (by omega))).other (ho6 _ (by omega)); have e0 := hbe6.cell 0; have e1 := hbe6.cell 1; simp only [List.getElem?_toArray, List.getElem?_cons_zero, List.getElem?_cons_succ] at e0 e1; have lk := (hS6.link (p := k) (i := 0) hk0 (by omega)).1; rw [hnx] at lk; simp only [Sk.go, Nat.zero_mul, Nat.add_zero] at lk; clear hb5 hb6 ho5 ho6 hc5 hc6 hC4 hbe hbe6 hlt4))
      go_quiet (fail)
      go_wp2_with fail
      go_ret2
      refine ⟨?_, hC6.trans ((Chg.refl _ _).drewN _)⟩
      rw [show decide (e ∈ s.es) = false from by rw [decide_eq_false_iff_not, hmem]; exact nofun]
      rfl
end Go.Proofs.YtifcpippfiglkaaGreat

/- pack: read, count, head, New. -/
namespace Go.Proofs.YtifcpippfiglkaaGreat
open Go.RowKit Pal
attribute [local go_sem] Oper.semAt_some

theorem wrap_eq (n : Int) : IntKind.i64.wrap n = wrap64 n := by unfold wrap64; exact IntKind.wrap_i64 n
theorem u64_small {n : Nat} (h : n ≤ 18446744073709551615) : n < 18446744073709551616 := Nat.lt_succ_of_le h
theorem u64_eq {a b : Int} (h : a = b) : Value.int .u64 a = .int .u64 b := by rw [h]
theorem or_zero_i64 (n : Nat) (h : n < 65536) : bits .or .i64 0 (n : Int) = (n : Int) := by
  show IntKind.i64.wrap ((BitVec.ofInt 64 0 ||| BitVec.ofInt 64 (n : Int)).toNat : Int) = _
  have e : (BitVec.ofInt 64 (n : Int)).toNat = n := by
    rw [BitVec.toNat_ofInt]
    show ((n : Int) % 18446744073709551616).toNat = n
    omega
  have e0 : (BitVec.ofInt 64 0).toNat = 0 := by decide
  rw [BitVec.toNat_or, e, e0, Nat.zero_or]
  exact IntWalk.i64_in _ (by omega)
theorem or_add {a b : Nat} (hb : b < 256) : a * 256 ||| b = a * 256 + b := by
  rw [show a * 256 = 2 ^ 8 * a by omega, Nat.two_pow_add_eq_or_of_lt (by omega : b < 2 ^ 8)]
theorem u64_step {a b : Nat} (ha : a < 72057594037927936) (hb : b < 256) : bits .or .u64 ((a : Int) * 256) (b : Int) = ((a * 256 + b : Nat) : Int) := by
  have e : (a : Int) * 256 = ((a * 256 : Nat) : Int) := by omega
  rw [e, u64_or_nat _ _ (by omega) (by omega), or_add hb]
set_option maxHeartbeats 1000000 in
theorem read_off (p : ByteArray) (a n : Nat) (w : World) (hp : p.size ≤ 100000) (h1 : a + n + 9 < p.size) (hn : n ≤ 64) (f : Nat → Nat) (hf1 : ∀ i, f i < 256) (hf2 : ∀ i (hi : i < 8), (p[a + 1 + n + i]'(by omega)).toNat = f i) (X : Nat) (hX : Hid (acc8 f 8 = X)) (hb : (p[a]'(by omega)).toNat = n) (he : (p[a + n + 9]'(by omega)).toNat = n + 9) :
    Calls Tryz.prog 173 #[.string p, .int .i64 (a : Int)] w fun r w' => r = .returned (.tuple #[.agg #[.string (p.extract (a + 1) (a + 1 + n)), .int .i64 (IntKind.i64.wrap (X : Int))], .int .i64 ((n + 10 : Nat) : Int)]) ∧ Chg (fun _ => False) w w' := by
  have hlt : a < p.size := by omega
  have hlt' : ¬ (a : Int) ≥ (p.size : Int) := by omega
  have hp' : (p.size : Int) ≤ 100000 := by omega
  have hn' : (n : Int) ≤ 64 := by omega
  have hnn : ¬ (n : Int) > 64 := by omega
  have hend : (a : Int) + 9 + (n : Int) < (p.size : Int) := by omega
  have hend0 : 0 ≤ (a : Int) + 9 + (n : Int) := by omega
  have hidx : a + 9 + n < p.size := by omega
  have hlast : (wrap64 (p[a + 9 + n].toNat : Int) != 9 + (n : Int)) = false := by
    have e : p[a + 9 + n].toNat = n + 9 := by
      rw [← he]; congr 2; omega
    rw [e, IntWalk.wrap64_in _ (by omega), bne_eq_false_iff_eq]
    omega
  clear he
  go_enter Tryz.func173, Tryz.ntmps173
  go_wp2_with fail
  clear hlast hb
  go_loopg [8, 41] 8 (fun m x c W => ∃ i : Nat, c = .int .i64 (i : Int) ∧ m = 8 - i ∧ i ≤ 8 ∧ x = .int .u64 (acc8 f i : Int) ∧ W = w.alloc (.cells #[.string ⟨#[]⟩, .int .i64 0] 54))
  case atStart => exact ⟨0, rfl, rfl, by omega, rfl, rfl⟩
  case round =>
    obtain ⟨i, rfl, rfl, hi, rfl, rfl⟩ := hrel
    by_cases hi8 : i < 8
    · have hi8' : (i : Int) < 8 := by omega
      have hidx : a + 1 + n + i < p.size := by omega
      have hidx' : (a : Int) + 1 + (n : Int) + (i : Int) < (p.size : Int) := by omega
      have hidx0 : 0 ≤ (a : Int) + 1 + (n : Int) + (i : Int) := by omega
      have hfi := hf2 i hi8
      have hff := hf1 i
      have hacc := acc8_lt hf1 i
      have hp7 : 256 ^ i ≤ 256 ^ 7 := Nat.pow_le_pow_right (by omega) (by omega)
      have hacc7 : acc8 f i < 72057594037927936 := by
        have : (256 : Nat) ^ 7 = 72057594037927936 := by decide
        omega
      clear hacc hp7
      go_wp2_with fail
      go_roundg (8 - (i + 1))
      case rel => exact ⟨i + 1, int_eq (by omega), rfl, by omega, u64_eq (u64_step hacc7 hff), rfl⟩
      case measure => omega
    · obtain rfl : i = 8 := by omega
      rw [hX.out]
      clear hX
      clear hi hi8 hf1 hf2
      have s1 : (a : Int) + 1 ≤ (a : Int) + 1 + (n : Int) := by omega
      have s2 : (a : Int) + 1 + (n : Int) ≤ (p.size : Int) := by omega
      have s0 : 0 ≤ (a : Int) + 1 := by omega
      go_wp2_with fail
      refine bodyPost_ret (v := .tuple #[.agg #[.string (p.extract (a + 1) (a + 1 + n)), .int .i64 (wrap64 (X : Int))], .int .i64 (9 + (n : Int) + 1)]) (by simp [results, Tryz.results173, go_sem]) rfl ⟨?_, (Chg.refl _ _).alloc _⟩
      rw [wrap_eq, show ((n + 10 : Nat) : Int) = 9 + (n : Int) + 1 by omega]
theorem read_end (p : ByteArray) (a : Nat) (w : World) (h : p.size ≤ a) : Calls Tryz.prog 173 #[.string p, .int .i64 (a : Int)] w fun r w' => r = .returned (.tuple #[.agg #[.string ⟨#[]⟩, .int .i64 0], .int .i64 0]) ∧ Chg (fun _ => False) w w' := by
  have h1 : (a : Int) ≥ (p.size : Int) := by omega
  have h2 : p.size ≤ a := h
  go_enter Tryz.func173, Tryz.ntmps173
  go_wp2_with fail
  refine bodyPost_ret (v := .tuple #[.agg #[.string ⟨#[]⟩, .int .i64 0], .int .i64 0]) (by simp [results, Tryz.results173, go_sem]) rfl ⟨rfl, (Chg.refl _ _).alloc _⟩
/-- What is read of a pack at an entry's place. -/
theorem read_at (l : List En) (k : Nat) (e : En) (hp : POk l) (h : l[k]? = some e) (w : World) : Calls Tryz.prog 173 #[.string (pk l), .int .i64 (offE l k : Int)] w fun r w' => r = .returned (.tuple #[e.val, .int .i64 ((e.m.size + 10 : Nat) : Int)]) ∧ Chg (fun _ => False) w w' := by
  obtain ⟨h1, h2, h3⟩ := hp.ok e (List.mem_of_getElem? h)
  have hle := offE_lt h
  have hsz := pk_le hp
  have := read_off (pk l) (offE l k) e.m.size w (by omega) (by omega) h1 (fun i => u64N e.s / 2 ^ (8 * (7 - i)) % 256) (fun i => Nat.mod_lt _ (by omega)) (fun i hi => pk_be h hi _) (u64N e.s) (acc8_be e.s) (pk_first h h1 _) (by
    have := pk_last h h1 (by omega)
    rw [← this]; congr 2)
  rw [wrap_u64N h2 h3, pk_extract h] at this
  exact this
theorem read_no (l : List En) (w : World) : Calls Tryz.prog 173 #[.string (pk l), .int .i64 (offE l l.length : Int)] w fun r w' => r = .returned (.tuple #[.agg #[.string ⟨#[]⟩, .int .i64 0], .int .i64 0]) ∧ Chg (fun _ => False) w w' :=
  read_end _ _ w (by rw [offE_end]; exact Nat.le_refl _)

theorem bytes_any (g n c : Nat) (w : World) (hn : n ≤ c) (hc : c ≤ 1000000) : Calls Tryz.prog 74 #[.slice (some ⟨g, 0, none⟩) n c] w fun r w' => r = .returned (.slice (some ⟨g, 0, none⟩) n n) ∧ w = w' := by
  have h1 : (n : Int) ≤ (c : Int) := by omega
  have h2 : (c : Int) ≤ 1000000 := by omega
  go_enter Tryz.func74, Tryz.ntmps74
  go_wp2_with fail
  go_ret
  exact ⟨rfl, rfl⟩
theorem head_bits (n : Nat) (h : n ≤ 1000) : IntKind.u8.wrap ((n : Int) / 256) = ((n / 256 : Nat) : Int) ∧ IntKind.u8.wrap (n : Int) = ((n % 256 : Nat) : Int) := by
  simp only [IntKind.wrap, IntKind.bits, IntKind.signed]
  constructor <;> simp <;> omega
theorem head_any (n : Nat) (w : World) (hn : n ≤ 1000) : Calls Tryz.prog 52 #[.int .i64 (n : Int)] w fun r w' => r = .returned (.slice (some ⟨w.heap.size, 0, none⟩) 2 2) ∧ w.alloc (.cells #[.int .u8 ((n / 256 : Nat) : Int), .int .u8 ((n % 256 : Nat) : Int)] 5) = w' := by
  have h2 : (n : Int) ≤ 1000 := by omega
  go_enter Tryz.func52, Tryz.ntmps52
  go_wp2_with (go_at_call 74; refine (bytes_any _ 2 2 _ (by omega) (by omega)).mono ?_; rintro r w' ⟨rfl, rfl⟩)
  go_ret
  exact ⟨rfl, rfl⟩
theorem count_any (l : List En) (hp : POk l) (w : World) : Calls Tryz.prog 165 #[.string (pk l)] w fun r w' => r = .returned (.int .i64 (l.length : Int)) ∧ Chg (fun _ => False) w w' := by
  have hsz := pk_size l
  have hsz2 := pk_le hp
  have hlen := hp.len
  have h0 : 0 < (pk l).size := by omega
  have h1 : 1 < (pk l).size := by omega
  have b0 : ((pk l)[0]'h0).toNat = l.length / 256 := by
    have := pk_get h0
    have e : (enc l)[0]? = some (UInt8.ofNat (l.length / 256)) := rfl
    rw [e] at this; injection this with this; rw [← this, UInt8.toNat_ofNat']; omega
  have b1 : ((pk l)[1]'h1).toNat = l.length := by
    have := pk_get h1
    have e : (enc l)[1]? = some (UInt8.ofNat l.length) := rfl
    rw [e] at this; injection this with this; rw [← this, UInt8.toNat_ofNat']; omega
  rw [show l.length / 256 = 0 by omega] at b0
  generalize pk l = p at *
  generalize l.length = n at *
  have h2 : ¬ (p.size : Int) < 2 := by omega
  have h3 : (n : Int) ≤ 200 := by omega
  have hor := or_zero_i64 n (by omega)
  clear hsz
  go_enter Tryz.func165, Tryz.ntmps165
  go_wp2_with fail
  go_quiet (fail)
  go_wp2_with fail
  go_ret
  exact ⟨rfl, (Chg.refl _ _).drewN _⟩
end Go.Proofs.YtifcpippfiglkaaGreat

/- pack: entry. -/
namespace Go.Proofs.YtifcpippfiglkaaGreat
open Go.RowKit Pal
attribute [local go_sem] Oper.semAt_some

def bytesV (l : List UInt8) : List Value := Lib.byteCells l
theorem bytesV_len (l : List UInt8) : (bytesV l).length = l.length := Lib.byteCells_length l
theorem byte_info : (Tryz.prog.info? 5).map (fun i => (i.zero, i.size, i.bytes)) = some (some (.int .u8 0), 1, 1) := by kernel_rfl
theorem run_make_bytes (n : Nat) (hn : n ≤ 1000000) (w : World) :
    (Instr.makeSlice 61 (.int .i64 (n : Int)) (.int .i64 (n : Int))).run Tryz.prog w = .ok (.slice (some ⟨w.heap.size, 0, none⟩) n n) (w.alloc (.cells (List.replicate n (.int .u8 0)).toArray 5)) := by
  obtain ⟨i0, hi, hz0, hz1, hz2⟩ := info_parts byte_info
  have hr := run_make (P := Tryz.prog) w 61 5 i0 (.int .u8 0) Tryz.underlying61 hi hz0 .i64 .i64 n n (by omega) (by omega) (by rw [hz2]; omega) (by omega)
  simp only [Int.toNat_natCast] at hr
  have h : madeCells (Value.int .u8 0).cells (n * i0.size) = (List.replicate n (.int .u8 0)).toArray := by
    rw [hz1, Nat.mul_one]
    apply Array.toList_inj.1
    simp [Value.cells, toList_madeCells_one]
  rw [hr, h]
def curE (e : En) (i : Nat) : List Value := (bytesV (encE e)).take (1 + e.m.size + i) ++ List.replicate (9 - i) (.int .u8 0)
theorem curE_len (e : En) {i : Nat} (hi : i ≤ 9) : (curE e i).length = e.m.size + 10 := by
  unfold curE
  rw [List.length_append, List.length_take, bytesV_len, encE_len, List.length_replicate]; omega
theorem curE_zero (e : En) (he : e.m.size ≤ 64) : ((Array.replicate (e.m.size + 10) (Value.int .u8 0)).setIfInBounds 0 (.int .u8 (e.m.size : Int))).toList.take 1 ++ Lib.byteCells e.m.data.toList ++
    ((Array.replicate (e.m.size + 10) (Value.int .u8 0)).setIfInBounds 0 (.int .u8 (e.m.size : Int))).toList.drop (1 + e.m.size) = curE e 0 := by
  have h1 : ((Array.replicate (e.m.size + 10) (Value.int .u8 0)).setIfInBounds 0 (.int .u8 (e.m.size : Int))).toList = .int .u8 (e.m.size : Int) :: List.replicate (e.m.size + 9) (.int .u8 0) := by
    rw [Array.toList_setIfInBounds, Array.toList_replicate, show e.m.size + 10 = (e.m.size + 9) + 1 by omega, List.replicate_succ, List.set_cons_zero]
  rw [h1]
  have h2 : (Value.int .u8 (e.m.size : Int) :: List.replicate (e.m.size + 9) (Value.int .u8 0)).drop (1 + e.m.size) = List.replicate 9 (.int .u8 0) := by
    rw [Nat.add_comm 1, List.drop_succ_cons, List.drop_replicate, Nat.add_sub_cancel_left]
  rw [h2]
  unfold curE
  have h3 : (bytesV (encE e)).take (1 + e.m.size + 0) = .int .u8 (e.m.size : Int) :: Lib.byteCells e.m.data.toList := by
    unfold encE bytesV Lib.byteCells
    rw [List.map_cons, List.map_append, Nat.add_zero, Nat.add_comm 1, List.take_succ_cons, List.take_append_of_le_length (by rw [List.length_map, size_toList]; exact Nat.le_refl _), List.take_of_length_le (by rw [List.length_map, size_toList]; exact Nat.le_refl _), UInt8.toNat_ofNat', Nat.mod_eq_of_lt (by omega)]
  rw [h3]; rfl
theorem curE_succ (e : En) {i : Nat} (hi : i < 9) {v : Value} (hv : (bytesV (encE e))[1 + e.m.size + i]? = some v) : (curE e i).set (1 + e.m.size + i) v = curE e (i + 1) := by
  have hl : ((bytesV (encE e)).take (1 + e.m.size + i)).length = 1 + e.m.size + i := by rw [List.length_take, bytesV_len, encE_len]; omega
  unfold curE
  rw [List.set_append_right _ _ (by omega), hl, Nat.sub_self, show 9 - i = (9 - (i + 1)) + 1 by omega, List.replicate_succ, List.set_cons_zero, ← Nat.add_assoc, List.take_add_one, hv, Option.toList_some, List.append_assoc]
  rfl
theorem curE_end (e : En) : curE e 9 = bytesV (encE e) := by
  unfold curE
  rw [List.take_of_length_le (by rw [bytesV_len, encE_len]; omega), Nat.sub_self, List.replicate_zero, List.append_nil]
theorem bytesV_get {l : List UInt8} {i : Nat} {b : UInt8} (h : l[i]? = some b) : (bytesV l)[i]? = some (.int .u8 (b.toNat : Int)) := by
  unfold bytesV Lib.byteCells; rw [List.getElem?_map, h]; rfl
theorem u64N_wrap (s : Int) : IntKind.u64.wrap s = (u64N s : Int) := by
  have e : IntKind.u64.wrap s = s % 18446744073709551616 := by simp [IntKind.wrap, IntKind.bits, IntKind.signed]
  rw [e]; unfold u64N; rw [Int.toNat_of_nonneg (Int.emod_nonneg _ (by decide))]
theorem be_val (s : Int) (k : Nat) : Value.int .u8 (IntKind.u64.wrap s / 2 ^ k % 256) = .int .u8 ((UInt8.ofNat (u64N s / 2 ^ k)).toNat : Int) := by
  rw [u64N_wrap, UInt8.toNat_ofNat']
  congr 1
theorem byte_size : (Tryz.prog.info? 5).map (·.size) = some 1 := by kernel_rfl
set_option maxRecDepth 100000 in
theorem entry_any (e : En) (he : EnOk e) (w : World) : Calls Tryz.prog 170 #[e.val] w fun r w' => r = .returned (.slice (some ⟨w.heap.size + 1, 0, none⟩) (e.m.size + 10) (e.m.size + 10)) ∧ Blk w' (w.heap.size + 1) 5 (bytesV (encE e)).toArray ∧ Chg (fun _ => False) w w' := by
  obtain ⟨h1, h2, h3⟩ := he
  have hn : (e.m.size : Int) ≤ 64 := by omega
  have hmk := run_make_bytes (e.m.size + 10) (by omega)
  rw [show ((e.m.size + 10 : Nat) : Int) = 9 + (e.m.size : Int) + 1 by omega] at hmk
  unfold En.val
  go_enter Tryz.func170, Tryz.ntmps170
  go_wp2_with fail
  have hb := Blk.new (w.alloc (Obj.cells #[Value.string e.m, Value.int IntKind.i64 e.s] 54)) 5 ((Array.replicate (e.m.size + 10) (Value.int IntKind.u8 0)).setIfInBounds 0 (Value.int IntKind.u8 (e.m.size : Int)))
  have hb0 := (Blk.new w 54 #[Value.string e.m, Value.int IntKind.i64 e.s]).alloc (Obj.cells ((Array.replicate (e.m.size + 10) (Value.int IntKind.u8 0)).setIfInBounds 0 (Value.int IntKind.u8 (e.m.size : Int))) 5)
  have hC : Chg (fun _ => False) w ((w.alloc (Obj.cells #[Value.string e.m, Value.int IntKind.i64 e.s] 54)).alloc (Obj.cells ((Array.replicate (e.m.size + 10) (Value.int IntKind.u8 0)).setIfInBounds 0 (Value.int IntKind.u8 (e.m.size : Int))) 5)) := ((Chg.refl _ w).alloc _).alloc _
  rw [World.size_alloc] at hb
  generalize (w.alloc (Obj.cells #[Value.string e.m, Value.int IntKind.i64 e.s] 54)).alloc (Obj.cells ((Array.replicate (e.m.size + 10) (Value.int IntKind.u8 0)).setIfInBounds 0 (Value.int IntKind.u8 (e.m.size : Int))) 5) = W at hb hb0 hC ⊢
  have c0 := hb0.cell 0
  have lb := hb.lt
  simp only [List.getElem?_toArray, List.getElem?_cons_zero] at c0
  clear hmk h2 h3
  generalize hN : e.m.size + 10 = N
  have n1 : (1 : Int) ≤ (N : Int) := by omega
  have n2 : (N = 1) = False := by simp; omega
  have n3 : (N : Int) ≤ 100 := by omega
  replace hN := Lib.hid hN
  go_still_tail 4, (by kernel_rfl)
  refine wpList_copy_row rfl (.tmp 18) (.tmp 20) 61 9 rfl 5 Tryz.underlying61 byte_size (w.heap.size + 1) 1 (N - 1) (N - 1) rfl e.m rfl _ 5 hb.drew (by have := hN.out; omega) (by simp; omega) ?_
  rw [curE_zero e h1]
  have hb2 : Blk (W.drew.setRow (w.heap.size + 1) (curE e 0).toArray) (w.heap.size + 1) 5 (curE e 0).toArray := setRow_heap _ _ _ _ _ _ hb.drew
  have hb3 : Blk (W.drew.setRow (w.heap.size + 1) (curE e 0).toArray) w.heap.size 54 #[Value.string e.m, Value.int IntKind.i64 e.s] := (setRow_other _ _ _ _ (by omega)).trans hb0.drew
  have hC2 : Chg (fun _ => False) w (W.drew.setRow (w.heap.size + 1) (curE e 0).toArray) := setRow_chg (fun h => by omega) _ hC.drew
  clear hb hb0 hC c0 lb
  change wpList _ _ _ _ _ (World.setRow (World.drew W) _ _)
  generalize W.drew.setRow (w.heap.size + 1) (curE e 0).toArray = W1 at hb2 hb3 hC2 ⊢
  go_wp2_with fail
  go_loopg [22] 8 (fun m c V => ∃ i : Nat, c = .int .i64 (i : Int) ∧ m = 8 - i ∧ i ≤ 8 ∧ Blk V (w.heap.size + 1) 5 (curE e i).toArray ∧ Blk V w.heap.size 54 #[Value.string e.m, Value.int IntKind.i64 e.s] ∧ Chg (fun _ => False) w V)
  case atStart => exact ⟨0, rfl, rfl, by omega, hb2, hb3, hC2⟩
  case round =>
    clear hb2 hb3 hC2 W1
    obtain ⟨i, rfl, rfl, hi, hB, hE, hC⟩ := hrel
    by_cases hi8 : i < 8
    · have hi8' : (i : Int) < 8 := by omega
      have c0 := hE.cell 1
      have l0 := hE.lt
      have l1 := hB.lt
      have f1 := hB.frozen (1 + e.m.size + i)
      have hcl : (curE e i)[1 + e.m.size + i]? = some ((curE e i)[1 + e.m.size + i]'(by rw [curE_len e (by omega)]; omega)) := List.getElem?_eq_getElem _
      have c1 := hB.cell (1 + e.m.size + i)
      rw [List.getElem?_toArray, hcl] at c1
      simp only [List.getElem?_toArray, List.getElem?_cons_zero, List.getElem?_cons_succ] at c0
      have hset := curE_succ e (i := i) (by omega) (bytesV_get (encE_be (e := e) hi8))
      generalize (curE e i)[1 + e.m.size + i]'(by rw [curE_len e (by omega)]; omega) = u1 at c1
      have x1 : 1 + (e.m.size : Int) + (i : Int) < (N : Int) := by have := hN.out; omega
      have x0 : 0 ≤ 1 + (e.m.size : Int) + (i : Int) := by omega
      go_wp2_with fail
      go_roundg (8 - (i + 1))
      case rel =>
        rw [be_val]
        have hB' := hB.set (1 + e.m.size + i) (.int .u8 ((UInt8.ofNat (u64N e.s / 2 ^ (8 * (7 - i)))).toNat : Int))
        rw [List.setIfInBounds_toArray, hset] at hB'
        exact ⟨i + 1, int_eq (by omega), rfl, by omega, hB', hE.far (by simp) _, hC.setCell (by simp) _⟩
      case measure => omega
    · obtain rfl : i = 8 := by omega
      clear hi hi8
      have l1 := hB.lt
      have f1 := hB.frozen (9 + e.m.size)
      have hcl : (curE e 8)[9 + e.m.size]? = some ((curE e 8)[9 + e.m.size]'(by rw [curE_len e (by omega)]; omega)) := List.getElem?_eq_getElem _
      have c1 := hB.cell (9 + e.m.size)
      rw [List.getElem?_toArray, hcl] at c1
      have hend : (encE e)[1 + e.m.size + 8]? = some (UInt8.ofNat (e.m.size + 9)) := by rw [show 1 + e.m.size + 8 = e.m.size + 9 by omega]; exact encE_end e
      have hset := curE_succ e (i := 8) (by omega) (bytesV_get hend)
      have hv : ((UInt8.ofNat (e.m.size + 9)).toNat : Int) = 9 + (e.m.size : Int) := by rw [UInt8.toNat_ofNat', Nat.mod_eq_of_lt (by omega)]; omega
      rw [curE_end, hv, show 1 + e.m.size + 8 = 9 + e.m.size by omega] at hset
      clear hend hv
      generalize (curE e 8)[9 + e.m.size]'(by rw [curE_len e (by omega)]; omega) = u1 at c1
      have hNe : N = 9 + e.m.size + 1 := by have := hN.out; omega
      subst hNe
      clear hcl n1 n2
      go_wp2_with fail
      have hB' := hB.set (9 + e.m.size) (.int .u8 (9 + (e.m.size : Int)))
      rw [List.setIfInBounds_toArray, hset] at hB'
      refine bodyPost_ret (results_tmp rfl _ _ _) rfl ⟨?_, hB', hC.setCell (by simp) _⟩
      show Ending.returned (Value.slice _ (9 + e.m.size + 1) (9 + e.m.size + 1)) = _
      rw [show 9 + e.m.size + 1 = e.m.size + 10 by omega]
end Go.Proofs.YtifcpippfiglkaaGreat

/- A slice that reads as a list; append onto a row of the call's own. -/
namespace Pal
open Go Go.RowKit

theorem block_of_add (a : Addr) (n : Nat) : (a.add n).block = a.block := by unfold Addr.add; split <;> rfl
theorem add_of_add (a : Addr) (i j : Nat) : (a.add i).add j = a.add (i + j) := by
  unfold Addr.add
  by_cases hi : i = 0 <;> by_cases hj : j = 0 <;> simp [hi, hj, Nat.add_assoc]

def Reads (w : World) (B size : Nat) (A : Option Addr) (n : Nat) (xs : List Value) : Prop :=
  xs.length = n * size ∧ (0 < n → ∃ ad, A = some ad ∧ ad.block < B ∧ ∀ j u, xs[j]? = some u → w.cell? (ad.add j) = some u)

section
variable {w w' : World} {B B' size n : Nat} {A : Option Addr} {xs : List Value}
theorem Reads.none_ : Reads w B size A 0 [] := ⟨by simp, fun h => absurd h (by omega)⟩
theorem Reads.at_ {k : Nat} (h : Reads w B 1 A n xs) (hk : k < n) : ∃ ad u, A = some ad ∧ ad.block < B ∧ xs[k]? = some u ∧ w.cell? (ad.add k) = some u := by
  obtain ⟨ad, e, hb, hc⟩ := h.2 (by omega)
  have hl : k < xs.length := by have := h.1; omega
  exact ⟨ad, xs[k], e, hb, List.getElem?_eq_getElem hl, hc k _ (List.getElem?_eq_getElem hl)⟩
theorem Reads.keep (h : Reads w B size A n xs) (hk : ∀ p : Addr, p.block < B → w'.cell? p = w.cell? p) : Reads w' B size A n xs :=
  ⟨h.1, fun hn => by
    obtain ⟨ad, e, hb, hc⟩ := h.2 hn
    exact ⟨ad, e, hb, fun j u hu => (hk _ (by rw [block_of_add]; exact hb)).trans (hc j u hu)⟩⟩
theorem Reads.more (h : Reads w B size A n xs) (hB : B ≤ B') : Reads w B' size A n xs :=
  ⟨h.1, fun hn => by
    obtain ⟨ad, e, hb, hc⟩ := h.2 hn
    exact ⟨ad, e, by omega, hc⟩⟩
theorem Reads.below (h : Reads w B size A n xs) (hb : Below B w w') : Reads w' B size A n xs := h.keep fun _ hp => hb.cell hp
theorem Reads.drew (h : Reads w B size A n xs) : Reads w.drew B size A n xs := h
theorem Reads.drewN (h : Reads w B size A n xs) (k : Nat) : Reads (w.drewN k) B size A n xs := h
theorem Reads.alloc (h : Reads w B size A n xs) (hB : B ≤ w.heap.size) (o : Obj) : Reads (w.alloc o) B size A n xs := h.keep fun p hp => World.cell?_alloc_lt w o p (by omega)
theorem Reads.setCell (h : Reads w B size A n xs) {p : Addr} (hB : B ≤ p.block) (u : Value) : Reads (w.setCell p u) B size A n xs :=
  h.keep fun q hq => World.cell?_setCell_other w p q u (fun e => by subst e; omega)
theorem Reads.grown (h : Reads w B size A n xs) {row : Option Nat} (hg : w.grownBy w' row) (hB : B ≤ w.heap.size) (hr : ∀ g, row = some g → B ≤ g) : Reads w' B size A n xs :=
  h.keep fun p hp => World.cell?_of_block (hg.block p.block (by omega) (fun e => by have := hr _ e.symm; omega))
theorem Reads.cut (h : Reads w B size A n xs) {k cap : Nat} (hk : k ≤ n) (hc : n ≤ cap) :
    Reads w B size (if cap = k then A else A.map (·.add (k * size))) (n - k) (xs.drop (k * size)) := by
  refine ⟨by rw [List.length_drop, h.1, Nat.sub_mul], fun hn => ?_⟩
  obtain ⟨ad, rfl, hb, hcell⟩ := h.2 (by omega)
  rw [if_neg (by omega)]
  refine ⟨ad.add (k * size), rfl, by rw [block_of_add]; exact hb, fun j u hu => ?_⟩
  rw [add_of_add]
  exact hcell _ u (by rw [← hu, List.getElem?_drop])
theorem Reads.of_own {base : Nat} {e : TypeId} {c : Nat} (h : w.ownsRow base e size (.slice A n c) n xs) : Reads w w.heap.size size A n xs := by
  refine ⟨h.1, fun hn => ?_⟩
  obtain ⟨g, cap, hv, _, hlt⟩ := h.form hn
  have hA : A = some ⟨g, 0, none⟩ := by injection hv
  subst hA
  exact ⟨_, rfl, hlt, h.cells (g := g) rfl⟩
end

section
variable {P : Program} (w : World)

theorem run_append_of_nil (base : Nat) (t ty e : TypeId) (i : TypeInfo) (size : Nat) (ht : P.underlying t = some (.slice e)) (hi : P.info? e = some i)
    (v : Value) (n : Nat) (xs : List Value) (hown : w.ownsRow base e size v n xs) (c : Nat) : (Builtin.append_ #[t, t] ty #[v, .slice none 0 c]).run P w = .ok v w := by
  rcases hown.2 with ⟨rfl, rfl⟩ | ⟨g, cap, cur, rfl, _, _, hnc, _⟩
  · simp [Builtin.append_, run_underlying ht, Go.sizeOf, typeInfo, hi, Builtin.lenOf, Builtin.firstCells]
  · simp [Builtin.append_, run_underlying ht, Go.sizeOf, typeInfo, hi, Builtin.lenOf, Builtin.firstCells, hnc, storeCells]

theorem run_append_any (base : Nat) (t ty e : TypeId) (i : TypeInfo) (z : Value) (size bytes : Nat) (ht : P.underlying t = some (.slice e)) (hi : P.info? e = some i) (hz : i.zero = some z)
    (hsize : i.size = size) (hby : i.bytes = bytes) (hzs : z.cells.size = size) (hsz : 0 < size)
    (v : Value) (n : Nat) (xs : List Value) (hown : w.ownsRow base e size v n xs)
    (B : Nat) (A : Option Addr) (m c : Nat) (news : List Value) (hr : Reads w B size A m news) (h1 : ∀ u ∈ news, u.oneCell' = true)
    (h63 : n + m ≤ maxLen) (hbytes : (n + m) * bytes ≤ 140737488355328) (hbase : base ≤ w.heap.size) :
    ∃ v' w', (Builtin.append_ #[t, t] ty #[v, .slice A m c]).run P w = .ok v' w' ∧ w'.ownsRow base e size v' (n + m) (xs ++ news) ∧ w.grownBy w' v.ownBlock ∧
      (v'.ownBlock = v.ownBlock ∨ v'.ownBlock = some w.heap.size) := by
  rcases A with _ | ad
  · have hm : m = 0 := by
      rcases Nat.eq_zero_or_pos m with h0 | h0
      · exact h0
      · obtain ⟨ad, h, _⟩ := hr.2 h0
        cases h
    subst hm
    have hn : news = [] := List.eq_nil_of_length_eq_zero (by simpa using hr.1)
    subst hn
    exact ⟨v, w, run_append_of_nil w base t ty e i size ht hi v n xs hown c, by simpa using hown, World.grownBy.refl w _, .inl rfl⟩
  · have hcells : ∀ j u, news[j]? = some u → w.cell? (ad.add j) = some u := by
      intro j u hu
      rcases Nat.eq_zero_or_pos m with h0 | h0
      · subst h0
        have hn : news = [] := List.eq_nil_of_length_eq_zero (by simpa using hr.1)
        subst hn
        simp at hu
      · obtain ⟨ad', h, _, hc⟩ := hr.2 h0
        injection h with h
        subst h
        exact hc j u hu
    obtain ⟨v', w', hrun, h2, h3, _, h5⟩ := run_append_own_at (P := P) w base t ty e i z size bytes ht hi hz hsize hby hzs hsz v n xs hown ad m c news hr.1 hcells h1 h63 hbytes hbase
    exact ⟨v', w', hrun, h2, h3, h5⟩

theorem wp_append_any {o : Oper} {a : Act} {K : Act → World → Prop} {Q : Exit → Act → World → Prop} (s x : Operand) (t : TypeId)
    (ho : o.op = .call { callee := .builtin .append, args := #[s, x], argTypes := #[t, t] })
    (base : Nat) (e : TypeId) (i : TypeInfo) (z : Value) (size bytes : Nat) (ht : P.underlying t = some (.slice e)) (hi : P.info? e = some i) (hz : i.zero = some z)
    (hsize : i.size = size) (hby : i.bytes = bytes) (hzs : z.cells.size = size) (hsz : 0 < size)
    (v : Value) (n : Nat) (xs : List Value) (hs : a.eval s = v) (hown : w.ownsRow base e size v n xs)
    (B : Nat) (A : Option Addr) (m c : Nat) (news : List Value) (hx : a.eval x = .slice A m c) (hr : Reads w B size A m news) (h1 : ∀ u ∈ news, u.oneCell' = true)
    (h63 : n + m ≤ maxLen) (hbytes : (n + m) * bytes ≤ 140737488355328) (hbase : base ≤ w.heap.size)
    (h : ∀ v' w', w'.ownsRow base e size v' (n + m) (xs ++ news) → w.grownBy w' v.ownBlock → (v'.ownBlock = v.ownBlock ∨ v'.ownBlock = some w.heap.size) → K (a.put o.dst v') w') : o.wp P a w K Q := by
  obtain ⟨v', w', hrun, h2, h3, h4⟩ := run_append_any (P := P) w base t o.type e i z size bytes ht hi hz hsize hby hzs hsz v n xs hown B A m c news hr h1 h63 hbytes hbase
  unfold Oper.wp execOp
  simp only [ho, resolve, invoke, builtin, Sem.run_bind, Sem.run_pure, Result.andThen_ok, List.map_toArray, List.map_cons, List.map_nil, hs, hx, hrun]
  exact h v' w' h2 h3 h4

theorem wpList_append_any {ops : Array Oper} {rest : List Oper} {o : Oper} {a : Act} {Q : Exit → Act → World → Prop} (hgd : o.guard = none) (s x : Operand) (t : TypeId)
    (ho : o.op = .call { callee := .builtin .append, args := #[s, x], argTypes := #[t, t] })
    (base : Nat) (e : TypeId) (i : TypeInfo) (z : Value) (size bytes : Nat) (ht : P.underlying t = some (.slice e)) (hi : P.info? e = some i) (hz : i.zero = some z)
    (hsize : i.size = size) (hby : i.bytes = bytes) (hzs : z.cells.size = size) (hsz : 0 < size)
    (v : Value) (n : Nat) (xs : List Value) (hs : a.eval s = v) (hown : w.ownsRow base e size v n xs)
    (B : Nat) (A : Option Addr) (m c : Nat) (news : List Value) (hx : a.eval x = .slice A m c) (hr : Reads w B size A m news) (h1 : ∀ u ∈ news, u.oneCell' = true)
    (h63 : n + m ≤ maxLen) (hbytes : (n + m) * bytes ≤ 140737488355328) (hbase : base ≤ w.heap.size)
    (h : ∀ v' w', w'.ownsRow base e size v' (n + m) (xs ++ news) → w.grownBy w' v.ownBlock → (v'.ownBlock = v.ownBlock ∨ v'.ownBlock = some w.heap.size) → wpList P ops Q rest (a.put o.dst v') w') : wpList P ops Q (o :: rest) a w :=
  wpList_plain hgd fun _ hK => wp_append_any w s x t ho base e i z size bytes ht hi hz hsize hby hzs hsz v n xs hs hown B A m c news hx hr h1 h63 hbytes hbase fun v' w' h2 h3 h4 => hK _ _ (h v' w' h2 h3 h4)

theorem step_append_any {ops : Array Oper} {o : Oper} {a : Act} {K : Act → World → Prop} {Q : Exit → Act → World → Prop} {E : Prop} (hgd : o.guard = none) (s x : Operand) (t : TypeId)
    (ho : o.op = .call { callee := .builtin .append, args := #[s, x], argTypes := #[t, t] })
    (base : Nat) (e : TypeId) (i : TypeInfo) (z : Value) (size bytes : Nat) (ht : P.underlying t = some (.slice e)) (hi : P.info? e = some i) (hz : i.zero = some z)
    (hsize : i.size = size) (hby : i.bytes = bytes) (hzs : z.cells.size = size) (hsz : 0 < size)
    (v : Value) (n : Nat) (xs : List Value) (hs : a.eval s = v) (hown : w.ownsRow base e size v n xs)
    (B : Nat) (A : Option Addr) (m c : Nat) (news : List Value) (hx : a.eval x = .slice A m c) (hr : Reads w B size A m news) (h1 : ∀ u ∈ news, u.oneCell' = true)
    (h63 : n + m ≤ maxLen) (hbytes : (n + m) * bytes ≤ 140737488355328) (hbase : base ≤ w.heap.size)
    (h : ∀ v' w', w'.ownsRow base e size v' (n + m) (xs ++ news) → w.grownBy w' v.ownBlock → (v'.ownBlock = v.ownBlock ∨ v'.ownBlock = some w.heap.size) → K (a.put o.dst v') w') :
    if Region.wanted o (yielded ops a.tmps) = true then Oper.wp P o a w K Q else E := by
  have hw : Region.wanted o (yielded ops a.tmps) = true := by simp [Region.wanted, hgd]
  rw [if_pos hw]
  exact wp_append_any w s x t ho base e i z size bytes ht hi hz hsize hby hzs hsz v n xs hs hown B A m c news hx hr h1 h63 hbytes hbase h
end

theorem Reads.chg {w w' : World} {B size n : Nat} {A : Option Addr} {xs : List Value} {S : Nat → Prop} (h : Reads w B size A n xs) (hc : Chg S w w') (hB : B ≤ w.heap.size) (hS : ∀ g, g < B → ¬ S g) : Reads w' B size A n xs :=
  h.keep fun p hp => World.cell?_of_block (hc.block p.block (by omega) (hS _ hp))
theorem app_keeps {W w1 : World} {base n size : Nat} {e : TypeId} {v : Value} {xs : List Value} (hown : W.ownsRow base e size v n xs) (hg : W.grownBy w1 v.ownBlock) : KeepsOthers W w1 :=
  KeepsOthers.of_grownBy hg fun j o hj ho => by
    rcases hown.2 with ⟨rfl, _⟩ | ⟨g, cap, cur, rfl, _, hh, _⟩
    · simp [Value.ownBlock] at hj
    · have : g = j := by simpa [Value.ownBlock] using hj
      subst this
      rw [hh] at ho; cases ho; rfl
theorem app_chg {W w1 : World} {base n size : Nat} {e : TypeId} {v : Value} {xs : List Value} (hown : W.ownsRow base e size v n xs) (hg : W.grownBy w1 v.ownBlock) : Chg (fun k => base ≤ k) W w1 :=
  Chg.of_grown hg fun g hgg => (hown.lt g hgg).1
theorem KeepsOthers.of_chg0 {w w' : World} (h : Chg (fun _ => False) w w') : KeepsOthers w w' := others_chg h fun _ _ _ _ => id
theorem Blk.not_own {w : World} {g : Nat} {t e : TypeId} {cs : Array Value} {base n size : Nat} {v : Value} {xs : List Value} (h : Blk w g t cs) (ho : w.ownsRow base e size v n xs) (hne : t ≠ e) : v.ownBlock ≠ some g := by
  rcases ho.2 with ⟨rfl, _⟩ | ⟨g', cap, cur, rfl, _, hh, _⟩
  · simp [Value.ownBlock]
  · intro he
    have : g' = g := by simpa [Value.ownBlock] using he
    subst this
    unfold Blk at h
    rw [hh] at h
    injection h with h
    injection h with _ ht
    exact hne ht.symm
end Pal

/- Slices of entries. -/
namespace Go.Proofs.YtifcpippfiglkaaGreat
open Go.RowKit Pal

theorem addr_add' (b o k : Nat) : (⟨b, o, none⟩ : Addr).add k = ⟨b, o + k, none⟩ := by
  unfold Addr.add; split
  · rename_i h; rw [h]; rfl
  · rfl
theorem ent_info : (Tryz.prog.info? 54).map (fun i => (i.zero, i.size, i.bytes)) = some (some (.agg #[.string ⟨#[]⟩, .int .i64 0]), 2, 24) := by kernel_rfl
def En.cells (e : En) : List Value := [.string e.m, .int .i64 e.s]
/-- The value is a slice of the call's own that holds the entries l. -/
def Ents (w : World) (base : Nat) (v : Value) (l : List En) : Prop := w.ownsRow base 54 2 v l.length (l.flatMap En.cells)
section
variable {w w' : World} {base : Nat} {v : Value} {l : List En}
theorem Ents.nil (w : World) (base : Nat) : Ents w base (.slice none 0 0) [] := World.ownsRow_nil w base _ 2
theorem Ents.stay {F : Nat → Prop} (h : Ents w base v l) (hs : Stay F w w') (hn : ∀ g, v.ownBlock = some g → ¬ F g) : Ents w' base v l := own_stay h hs hn
theorem Ents.chg {F : Nat → Prop} (h : Ents w base v l) (hs : Chg F w w') (hn : ∀ g, v.ownBlock = some g → ¬ F g) : Ents w' base v l := own_stay h (.of_chg hs) hn
theorem Ents.chg0 (h : Ents w base v l) (hs : Chg (fun _ => False) w w') : Ents w' base v l := h.chg hs fun _ _ => id
theorem Ents.lower {b : Nat} (h : Ents w base v l) (hb : b ≤ base) : Ents w b v l := by
  refine ⟨h.1, ?_⟩
  rcases h.2 with h0 | ⟨g, cap, cur, rfl, h1, rest⟩
  · exact .inl h0
  · exact .inr ⟨g, cap, cur, rfl, Nat.le_trans hb h1, rest⟩
theorem Ents.is (h : Ents w base v l) : ∃ p cap, v = .slice p l.length cap ∧ l.length ≤ cap ∧ cap ≤ maxLen ∧ (∀ g, p = some g → base ≤ g.block ∧ g.block < w.heap.size) := by
  rcases h.2 with ⟨rfl, h0⟩ | ⟨g, cap, cur, rfl, h1, h2, h3, h4, _⟩
  · exact ⟨none, 0, by rw [h0], by omega, by simp [maxLen], fun _ h => (by cases h)⟩
  · exact ⟨_, cap, rfl, h3, h4, fun g hg => by injection hg with hg; subst hg; exact ⟨h1, (Array.getElem?_eq_some_iff.1 h2).1⟩⟩
theorem ents_one (l : List En) : ∀ u ∈ l.flatMap En.cells, u.oneCell' = true := by
  intro u hu
  obtain ⟨x, _, hx⟩ := List.mem_flatMap.1 hu
  unfold En.cells at hx
  rcases List.mem_cons.1 hx with rfl | hx
  · rfl
  · rw [List.mem_singleton] at hx; rw [hx]; rfl
theorem flat_len : ∀ l : List En, (l.flatMap En.cells).length = l.length * 2
  | [] => rfl
  | x :: l => by rw [List.flatMap_cons, List.length_append, flat_len l, List.length_cons]; show 2 + _ = _; omega
theorem flat_get : ∀ {l : List En} {k : Nat} {x : En}, l[k]? = some x → (l.flatMap En.cells)[k * 2]? = some (.string x.m) ∧ (l.flatMap En.cells)[k * 2 + 1]? = some (.int .i64 x.s)
  | y :: l, 0, x, h => by
    injection h with h
    subst h
    exact ⟨rfl, rfl⟩
  | y :: l, k + 1, x, h => by
    have ih := flat_get (l := l) (k := k) (x := x) (by simpa using h)
    have e : (y :: l).flatMap En.cells = .string y.m :: .int .i64 y.s :: l.flatMap En.cells := rfl
    rw [e, show (k + 1) * 2 = k * 2 + 1 + 1 by omega]
    exact ih
theorem flat_snoc (l : List En) (x : En) : (l ++ [x]).flatMap En.cells = l.flatMap En.cells ++ [.string x.m, .int .i64 x.s] := by
  rw [List.flatMap_append]; rfl
theorem Ents.mk {n : Nat} {xs : List Value} (h : w.ownsRow base 54 2 v n xs) (hn : n = l.length) (hx : xs = l.flatMap En.cells) : Ents w base v l := by
  subst hn; subst hx; exact h
theorem Ents.reads {p : Option Addr} {n c : Nat} (h : Ents w base (.slice p n c) l) : Reads w w.heap.size 2 p l.length (l.flatMap En.cells) := by
  have hn : n = l.length := by
    obtain ⟨_, _, e, _⟩ := h.is
    injection e
  subst hn
  exact Reads.of_own h
end
/-- The value is a slice that holds the entries l, in whoever's row. -/
def EntsR (w : World) (v : Value) (l : List En) : Prop := ∃ p c, v = .slice p l.length c ∧ l.length ≤ c ∧ c ≤ maxLen ∧ Reads w w.heap.size 2 p l.length (l.flatMap En.cells)
theorem Ents.r {w : World} {base : Nat} {v : Value} {l : List En} (h : Ents w base v l) : EntsR w v l := by
  obtain ⟨p, c, rfl, h1, h2, _⟩ := h.is
  exact ⟨p, c, rfl, h1, h2, h.reads⟩
theorem EntsR.chg0 {w w' : World} {v : Value} {l : List En} (h : EntsR w v l) (hc : Chg (fun _ => False) w w') : EntsR w' v l := by
  obtain ⟨p, c, rfl, h1, h2, h3⟩ := h
  exact ⟨p, c, rfl, h1, h2, (h3.chg hc (Nat.le_refl _) fun _ _ => id).more hc.size⟩
/-- The cells of number k. -/
theorem EntsR.at_ {w : World} {v : Value} {l : List En} (h : EntsR w v l) {k : Nat} {x : En} (hx : l[k]? = some x) : ∃ b o c, v = .slice (some ⟨b, o, none⟩) l.length c ∧ l.length ≤ c ∧ c ≤ maxLen ∧ b < w.heap.size ∧ w.cell? ⟨b, o + k * 2, none⟩ = some (.string x.m) ∧ w.cell? ⟨b, o + k * 2 + 1, none⟩ = some (.int .i64 x.s) := by
  obtain ⟨p, c, rfl, h1, h2, h3⟩ := h
  have hk := (List.getElem?_eq_some_iff.1 hx).1
  obtain ⟨ad, rfl, hb, hc⟩ := h3.2 (by omega)
  obtain ⟨f1, f2⟩ := flat_get hx
  have g1 := hc _ _ f1
  have g2 := hc _ _ f2
  obtain ⟨b, o, s⟩ := ad
  have hs : s = none := by
    have f0 := hc 1 _ (flat_get (l := l) (k := 0) (x := l[0]'(by omega)) (List.getElem?_eq_getElem (by omega))).2
    have f00 := hc 0 _ (flat_get (l := l) (k := 0) (x := l[0]'(by omega)) (List.getElem?_eq_getElem (by omega))).1
    cases s with
    | none => rfl
    | some q =>
      simp [Addr.add, World.cell?] at f00
      split at f00 <;> cases f00
  subst hs
  refine ⟨b, o, c, rfl, h1, h2, hb, ?_, ?_⟩
  · have e : (⟨b, o, none⟩ : Addr).add (k * 2) = ⟨b, o + k * 2, none⟩ := by unfold Addr.add; split <;> simp_all
    rw [e] at g1; exact g1
  · have e : (⟨b, o, none⟩ : Addr).add (k * 2 + 1) = ⟨b, o + k * 2 + 1, none⟩ := by unfold Addr.add; split <;> simp_all; omega
    rw [e] at g2; exact g2
end Go.Proofs.YtifcpippfiglkaaGreat
