/- Bucket of a dict. -/
import Derived.Test.YthbjjjcppijcbaaCIint
import Derived.Test.YthbjjjcppijcbaaDIint
import Derived.Test.YthbjjjcppijcbaaSS
import Derived.Test.YthbjjjcppijcbaaRR
import Derived.Stop.RegionWithIn
import Derived.Outline
namespace Go.Proofs.Ythbjjjcppijcbaa.Dint
open Go.RowKit Pal
attribute [local go_sem] Oper.semAt_some

theorem addr_add (b o k : Nat) : (⟨b, o, none⟩ : Addr).add k = ⟨b, o + k, none⟩ := by
  unfold Addr.add; split
  · rename_i h; rw [h]; rfl
  · rfl

def keysAt (d : Dm) (ti si : Nat) : List ByteArray := match d.tab ti with
  | some t => sortB ((t.at si).map (·.key))
  | none => []

/-- What the rounds keep. -/
structure BkI (w0 : World) (c : Ch) (OB M : Nat) (r : Ch) (W : World) : Prop where
  ex : ∃ v, ∃ pre, pre ++ r = c ∧ Blk W OB 38 #[v] ∧ Strs W M v (pre.map (·.key))
  st : Stay (fun _ => False) w0 W
  M : M ≤ W.heap.size

set_option maxRecDepth 100000 in
set_option maxHeartbeats 1000000 in
theorem Bucket_yes (d : Dm) (ti si : Nat) (t : Tb) (w : World) (h : DmAt w d) (hok : d.Ok) (ht : d.tab ti = some t) (hti : ti < 2) (hsi : si < t.len) (hn : d.n < 1000000) :
    Calls Try.prog 29 #[ptr d.blk, .int .i64 (ti : Int), .int .i64 (si : Int)] w fun e w' => (∃ v, e = .returned (.tuple #[v, .int .i64 0]) ∧ Strs w' w.heap.size v (keysAt d ti si)) ∧ Chg (fun _ => False) w w' := by
  obtain ⟨c0, c1, c2, c3, c4, hf, hlt⟩ := dm_cells h
  have htab := tab_at h ht
  have hct := htab.1.cell si
  rw [tbCells_get hsi] at hct
  obtain ⟨q, HQ⟩ : ∃ q, Hid (hd (t.at si) = .pointer q) := by cases t.at si <;> exact ⟨_, rfl⟩
  rw [HQ.out] at hct
  have h0 : (0 : Int) ≤ (si : Int) := by omega
  have h1 : ((si : Int) < 0) = False := by simp only [eq_iff_iff, iff_false]; omega
  have h2 : ((si : Int) ≥ (t.len : Int)) = False := by simp only [eq_iff_iff, iff_false]; omega
  have h3 : (si : Int) < (t.len : Int) := by omega
  have hcell : w.cell? ⟨d.blk, 1 + ti, none⟩ = some (.slice (some ⟨t.blk, 0, none⟩) t.len t.len) := by
    rcases (by omega : ti = 0 ∨ ti = 1) with rfl | rfl
    · injection ht with ht
      subst ht
      exact c1
    · have ht : d.t1 = some t := ht
      rw [ht] at c2
      exact c2
  have h4 : ((ti : Int) < 0) = False := by simp only [eq_iff_iff, iff_false]; omega
  have h5 : ((ti : Int) ≥ 2) = False := by simp only [eq_iff_iff, iff_false]; omega
  have h6 : 0 ≤ (ti : Int) := by omega
  have h7 : (ti : Int) < 2 := by omega
  have hK : Hid (keysAt d ti si = sortB ((t.at si).map (·.key))) := by unfold Hid keysAt; rw [ht]
  have hltT := htab.1.lt
  have hclen : (t.at si).length < 1000000 := by
    have := (tab_perm ht hsi).length_eq
    rw [List.length_append, ← hok.count] at this
    omega
  have HD := Lib.hid h
  unfold ptr
  have hnd : ∀ y ∈ t.at si, y.blk < w.heap.size := fun y hy => h.lt (.inr (.inr (.inr ⟨y, tab_nodes ht (mem_nodes.2 ⟨_, hsi, hy⟩), rfl⟩)))
  clear ht c0 c1 c2 c3 c4
  · refine calls_of_wp_marks Try.func29 rfl ?_
    simp only [Try.ntmps29, List.size_toArray, List.length_cons, List.length_nil, Nat.reduceAdd, Nat.reduceSub, Array.replicate_succ, Array.replicate_zero, List.push_toArray, List.append_toArray, List.nil_append, List.cons_append]
    go_wp2_with (go_at_call 48; refine (chain_any _ _).mono ?_; rintro e w' ⟨rfl, rfl⟩)
    have hbo : Blk ((w.alloc (Obj.cells #[Value.slice none 0 0] 38)).alloc (Obj.cells #[Value.pointer q] 81)) w.heap.size 38 #[.slice none 0 0] := (Blk.new _ _ _).alloc _
    have hbb : Blk ((w.alloc (Obj.cells #[Value.slice none 0 0] 38)).alloc (Obj.cells #[Value.pointer q] 81)) (w.heap.size + 1) 81 #[hd (t.at si)] := by
      have := Blk.new (w.alloc (Obj.cells #[Value.slice none 0 0] 38)) 81 #[Value.pointer q]
      rw [HQ.out]
      rwa [World.size_alloc] at this
    have hS : Chg (fun _ => False) w ((w.alloc (Obj.cells #[Value.slice none 0 0] 38)).alloc (Obj.cells #[Value.pointer q] 81)) := ((Chg.refl _ _).alloc _).alloc _
    have hsz : ((w.alloc (Obj.cells #[Value.slice none 0 0] 38)).alloc (Obj.cells #[Value.pointer q] 81)).heap.size = w.heap.size + 2 := by simp
    generalize (w.alloc (Obj.cells #[Value.slice none 0 0] 38)).alloc (Obj.cells #[Value.pointer q] 81) = W0 at hbo hbb hS hsz ⊢
    have hFlt : ∀ k, chF (w.heap.size + 1) (t.at si) k → k < w.heap.size + 2 ∧ k ≠ w.heap.size := by
      rintro k (rfl | ⟨y, hy, rfl⟩)
      · omega
      · have := hnd y hy
        omega
    generalize hc : t.at si = c at *
    have hch : chAt W0 c := by
      rw [← hc]
      exact (htab.2 _ (Tb.at_mem hsi)).chg hS fun _ _ => id
    refine wp_range_it 73 #[ptr (w.heap.size + 1)] rfl (enters_of Try.func73 (by kernel_rfl) rfl) (chain_spec (w.heap.size + 1) c) (fun _ => rfl)
      (BkI w c w.heap.size (w.heap.size + 2)) ?_ (fun _ _ => False) (fun _ _ _ h => h.elim) c ?_ ?_ _ (fun l x W K hK => by gi_wp2; exact hK) ?_ ?_ (fun _ _ _ _ h => h.elim)
    · rintro r W W' ⟨⟨v, pre, h1, h2, h3⟩, h4, h5⟩ hs
      exact ⟨⟨v, pre, h1, h2.stay hs (by omega), h3.stay hs fun g hg h' => by have := (h3.lt g hg).1; omega⟩, h4.trans' hs fun g hg h' => by omega, Nat.le_trans h5 hs.size⟩
    · exact ⟨⟨_, [], rfl, hbo, Strs.nil _ _⟩, .of_chg hS, by omega⟩
    · exact ⟨⟨[], rfl⟩, hbb, hch⟩
    · rintro l x r W ⟨⟨v, pre, h1, h2, h3⟩, h4, h5⟩ ⟨⟨pre', hpre'⟩, g2, g3⟩ hle
      have hxc : x ∈ c := by rw [← hpre']; simp
      obtain ⟨nx, hx⟩ := chAt_mem g3 hxc
      have H1 := Lib.hid h1
      clear hpre' h1 hsz hc hS hbo hbb g2
      obtain ⟨pa, cp, rfl, hcp1, hcp2, hcp3⟩ := h3.is
      simp only [List.length_map] at h2 h3 hcp1
      have k0 := h2.cell 0
      have kf := h2.frozen 0
      have k1 := hx.cell 1
      simp only [ndCells, List.getElem?_toArray, List.getElem?_cons_zero, List.getElem?_cons_succ] at k0 k1
      have l1 := hx.lt
      have l2 := h2.lt
      obtain ⟨i0, hi0, hz0, hz1, hz2⟩ := info_parts str_info
      have hlen : pre.length < 1000000 := by
        have h1 := H1.out
        have : pre.length ≤ c.length := by rw [← h1]; simp
        omega
      have hlen2 : pre.length + 1 ≤ maxLen := by unfold maxLen; omega
      have hlen3 : (pre.length + 1) * 16 ≤ 140737488355328 := by omega
      have hr : Reads (W.alloc (Obj.cells #[Value.string x.key] 9)).drew (W.heap.size + 1) 1 (some ⟨W.heap.size, 0, none⟩) 1 [Value.string x.key] := by
        refine ⟨rfl, fun _ => ⟨_, rfl, Nat.lt_succ_self _, fun j u hu => ?_⟩⟩
        have hb := (Blk.new W 9 #[Value.string x.key]).drew.cell j
        rw [addr_add]
        cases j with
        | zero => exact hb.trans (by simpa using hu)
        | succ j => simp at hu
      have hc1 : Chg (fun _ => False) W (W.alloc (Obj.cells #[Value.string x.key] 9)).drew := ((Chg.refl _ W).alloc _).drew
      have hown0 := h3.chg hc1 fun _ _ => id
      unfold Strs at hown0
      rw [List.length_map] at hown0
      have hone : ∀ u ∈ [Value.string x.key], u.oneCell' = true := by intro u hu; rw [List.mem_singleton] at hu; rw [hu]; rfl
      have hM1 : w.heap.size + 2 ≤ (W.alloc (Obj.cells #[Value.string x.key] 9)).drew.heap.size := Nat.le_trans h5 hc1.size
      have HL := Lib.hid hlen
      clear hlen
      unfold ptr
      gi_wp2
      refine wpIn_region_plain (by kernel_rfl) (by kernel_rfl) (by rintro ⟨_, _, h⟩; exact h) ?_
      change wpAny _ _ _ _ _ _ _ (World.drew _)
      simp only [List.size_toArray, List.length_cons, List.length_nil, Nat.reduceAdd, Array.replicate_succ, Array.replicate_zero, List.push_toArray, List.nil_append, List.cons_append]
      repeat' (first
        | (refine wpAny_ready (rs := [0]) ?_ ?_ ?_; decide +kernel; simp; refine (AllReady.cons rfl (fun K hK => ?_) AllReady.nil); go_simp; refine hK _ _ ?_; clear hK K)
        | (refine wpAny_ready (rs := [1]) ?_ ?_ ?_; decide +kernel; simp; refine (AllReady.cons rfl (fun K hK => ?_) AllReady.nil); go_simp; refine hK _ _ ?_; clear hK K)
        | (refine wpAny_ready (rs := [2]) ?_ ?_ ?_; decide +kernel; simp; refine (AllReady.cons rfl (fun K hK => ?_) AllReady.nil); go_simp; refine hK _ _ ?_; clear hK K)
        | (refine wpAny_ready (rs := [3]) ?_ ?_ ?_; decide +kernel; simp; refine (AllReady.cons rfl (fun K hK => ?_) AllReady.nil); go_simp; refine hK _ _ ?_; clear hK K)
        | (refine wpAny_ready (rs := [4]) ?_ ?_ ?_; decide +kernel; simp; refine (AllReady.cons rfl (fun K hK => ?_) AllReady.nil); go_simp; refine hK _ _ ?_; clear hK K)
        | (refine wpAny_ready (rs := [5]) ?_ ?_ ?_; decide +kernel; simp; refine (AllReady.cons rfl (fun K hK => ?_) AllReady.nil); go_simp; refine hK _ _ ?_; clear hK K)
        | (refine wpAny_ready (rs := [6]) ?_ ?_ ?_; decide +kernel; simp; refine (AllReady.cons rfl (fun K hK => ?_) AllReady.nil); go_simp; refine hK _ _ ?_; clear hK K)
        | (refine wpAny_ready (rs := [0, 1]) ?_ ?_ ?_; decide +kernel; simp; refine (AllReady.cons rfl (fun K hK => ?_) (AllReady.cons rfl (fun K hK => ?_) AllReady.nil)) <;> (go_simp; refine hK _ _ ?_; clear hK K))
        | (refine wpAny_ready (rs := [0, 2]) ?_ ?_ ?_; decide +kernel; simp; refine (AllReady.cons rfl (fun K hK => ?_) (AllReady.cons rfl (fun K hK => ?_) AllReady.nil)) <;> (go_simp; refine hK _ _ ?_; clear hK K))
        | (refine wpAny_ready (rs := [0, 3]) ?_ ?_ ?_; decide +kernel; simp; refine (AllReady.cons rfl (fun K hK => ?_) (AllReady.cons rfl (fun K hK => ?_) AllReady.nil)) <;> (go_simp; refine hK _ _ ?_; clear hK K))
        | (refine wpAny_ready (rs := [0, 4]) ?_ ?_ ?_; decide +kernel; simp; refine (AllReady.cons rfl (fun K hK => ?_) (AllReady.cons rfl (fun K hK => ?_) AllReady.nil)) <;> (go_simp; refine hK _ _ ?_; clear hK K))
        | (refine wpAny_ready (rs := [0, 5]) ?_ ?_ ?_; decide +kernel; simp; refine (AllReady.cons rfl (fun K hK => ?_) (AllReady.cons rfl (fun K hK => ?_) AllReady.nil)) <;> (go_simp; refine hK _ _ ?_; clear hK K))
        | (refine wpAny_ready (rs := [0, 6]) ?_ ?_ ?_; decide +kernel; simp; refine (AllReady.cons rfl (fun K hK => ?_) (AllReady.cons rfl (fun K hK => ?_) AllReady.nil)) <;> (go_simp; refine hK _ _ ?_; clear hK K)))
      all_goals
        refine wpAny_ready (rs := [7]) ?_ ?_ ?_
        decide +kernel
        simp
        refine (AllReady.cons rfl (fun K hK => ?_) AllReady.nil)
        refine step_append_any _ (by rfl) (.tmp 46) (.tmp 52) 38 (by rfl) (w.heap.size + 2) 9 i0 _ 1 16 Try.underlying38 hi0 hz0 hz1 hz2 rfl (by omega) (.slice pa pre.length cp) pre.length ((pre.map (·.key)).map Value.string) (by rfl) hown0 (W.heap.size + 1) (some ⟨W.heap.size, 0, none⟩) 1 1 [Value.string x.key] (by rfl) hr hone hlen2 hlen3 hM1 ?_
        intro v1 w1 hown1 hg1 hat1
        refine hK _ _ ?_
        clear hK K
        obtain ⟨g1, cp1, rfl⟩ := ownsRow_succ hown1
        have a1 := app_chg hown0 hg1
        have a2 := app_keeps hown0 hg1
        have b1 : Blk w1 w.heap.size 38 #[.slice pa pre.length cp] := Blk.chg ((h2.alloc _).drew) a1 (by omega)
        have c1 := b1.cell 0
        have f1 := b1.frozen 0
        have lb := b1.lt
        simp only [List.getElem?_toArray, List.getElem?_cons_zero] at c1
        refine wpAny_ready (rs := [8]) ?_ ?_ ?_
        decide +kernel
        simp
        refine AllReady.cons rfl (fun K hK => ?_) AllReady.nil
        go_simp
        refine hK _ _ ?_
        clear hK K
        refine wpAny_done (by kernel_rfl) ?_ _
        have a3 : Chg (fun k => k = w.heap.size ∨ w.heap.size + 2 ≤ k) W (w1.setCell ⟨w.heap.size, 0, none⟩ (.slice (some ⟨g1, 0, none⟩) (pre.length + 1) cp1)) :=
        ((hc1.mono fun _ _ h => h.elim).trans' a1 fun _ _ h => .inr h).store (.inl rfl) 0 _
        refine ⟨((KeepsOthers.of_chg0 hc1).trans a2).trans (KeepsOthers.setCell _ _ _), fun k hk => a3.block k (by have := hFlt k hk; omega) (by have := hFlt k hk; omega), ⟨⟨_, pre ++ [x], by rw [← H1.out]; simp, b1.set 0 _, ?_⟩, h4.trans' (.of_chg a3) (fun g hg h' => by omega), Nat.le_trans h5 a3.size⟩⟩
        have e : ((pre ++ [x]).map (·.key)).length = pre.length + 1 := by simp
        unfold Strs
        rw [e]
        have := own_stay (F := fun k => k = w.heap.size) hown1 (.of_chg ((Chg.refl (fun k => k = w.heap.size) w1).store rfl 0 (.slice (some ⟨g1, 0, none⟩) (pre.length + 1) cp1))) (fun g hg h' => by have := (hown1.lt g hg).1; omega)
        simpa using this
    · rintro D W hD ⟨⟨v, pre, h1, h2, h3⟩, h4, h5⟩ hO hDd
      rw [List.append_nil] at h1
      rw [← h1] at hK hclen
      clear h1
      have hwD : w.heap.size ≤ D := Nat.le_trans hS.size hD
      have hC : Chg (fun _ => False) w W := .of_stay h4 ((KeepsOthers.of_chg0 hS).trans hO)
      have hll : (pre.map (·.key)).length < 4611686018427387904 := by rw [List.length_map]; omega
      have hsort := sort_any v (pre.map (·.key)) (w.heap.size + 2) W h3 hll
      have k0 := h2.cell 0
      simp only [List.getElem?_toArray, List.getElem?_cons_zero] at k0
      have l0 := h2.lt
      clear hbo hbb hS hsz hch hFlt
      go_wp2_with fail
      refine hsort.mono ?_
      rintro e W1 ⟨rfl, s1, s2⟩
      have b1 : Blk W1 w.heap.size 38 #[v] := (s2.block _ l0 (fun e => by have := (h3.lt _ e.symm).1; omega)).trans h2
      have d1 : W1.heap[D]? = some (.deferred (some [])) := (app_keeps h3 s2).same _ _ hDd rfl
      have C1 : Chg (fun _ => False) w W1 := hC.trans' (app_chg h3 s2) fun g hg h' => by omega
      have k1 := b1.cell 0
      simp only [List.getElem?_toArray, List.getElem?_cons_zero] at k1
      clear k0 hsort
      go_wp2_with fail
      refine bodyPostM_ret (D := D) (v := .tuple #[v, .int .i64 0]) rfl d1 (by simp [results, Try.results29, go_sem]) ⟨⟨v, rfl, ?_⟩, ?_⟩
      · rw [hK.out]
        exact (Strs.lower (s1.stay (Stay.put (F := fun _ => False) d1 rfl _) fun _ _ => id) (by omega))
      · exact C1.put (by omega) _

end Go.Proofs.Ythbjjjcppijcbaa.Dint
