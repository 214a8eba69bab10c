/- All buckets of a dict. -/
import Derived.Test.YthbjjjcppijcbaaBK2int
namespace Go.Proofs.Ythbjjjcppijcbaa.Dint
open Go.RowKit Pal

theorem tab_cases {d : Dm} {ti si : Nat} (h : si < tabLen d ti) : ∃ t, d.tab ti = some t ∧ si < t.len := by
  unfold tabLen at h
  cases ht : d.tab ti with
  | none => rw [ht] at h; cases h
  | some t => rw [ht] at h; exact ⟨t, rfl, h⟩
theorem Bucket_in (d : Dm) (ti si : Nat) (w : World) (h : DmAt w d) (hok : d.Ok) (hti : ti < 2) (hsi : si < tabLen d ti) (hn : d.n < 1000000) :
    Calls Try.prog 29 #[ptr d.blk, .int .i64 (ti : Int), .int .i64 (si : Int)] w fun e w' => (∃ v, e = .returned (.tuple #[v, .int .i64 0]) ∧ Strs w' w.heap.size v (keysAt d ti si)) ∧ Chg (fun _ => False) w w' := by
  obtain ⟨t, ht, hl⟩ := tab_cases hsi
  exact Bucket_yes d ti si t w h hok ht hti hl hn

def upto (d : Dm) (ti k : Nat) : List ByteArray := (List.range k).flatMap (keysAt d ti)
theorem upto_succ (d : Dm) (ti k : Nat) : upto d ti (k + 1) = upto d ti k ++ keysAt d ti k := by
  unfold upto; rw [List.range_succ, List.flatMap_append]; simp
theorem keysAt_perm {d : Dm} {ti si : Nat} {t : Tb} (h : d.tab ti = some t) : (keysAt d ti si).Perm ((t.at si).map (·.key)) := by
  unfold keysAt; rw [h]; exact sortB_perm _
theorem flatten_range {α : Type} : ∀ (l : List (List α)), (List.range l.length).flatMap (fun i => l.getD i []) = l.flatten
  | [] => rfl
  | a :: l => by
    rw [List.length_cons, List.range_succ_eq_map, List.flatMap_cons, List.flatMap_map, List.flatten_cons, ← flatten_range l]
    rfl
theorem flatMap_perm {α β : Type} {f g : α → List β} : ∀ (l : List α), (∀ x ∈ l, (f x).Perm (g x)) → (l.flatMap f).Perm (l.flatMap g)
  | [], _ => List.Perm.refl _
  | a :: l, h => by
    rw [List.flatMap_cons, List.flatMap_cons]
    exact (h a (by simp)).append (flatMap_perm l fun x hx => h x (by simp [hx]))
theorem upto_perm {d : Dm} {ti : Nat} {t : Tb} (h : d.tab ti = some t) : (upto d ti (tabLen d ti)).Perm (t.nodes.map (·.key)) := by
  have e : tabLen d ti = t.len := by unfold tabLen; rw [h]; rfl
  rw [e]
  unfold upto Tb.nodes
  rw [← flatten_range t.slots, List.map_flatMap]
  exact flatMap_perm _ fun i _ => keysAt_perm h
def allKeys (d : Dm) : List ByteArray := upto d 0 (tabLen d 0) ++ upto d 1 (tabLen d 1)
theorem allKeys_perm (d : Dm) : (allKeys d).Perm (d.nodes.map (·.key)) := by
  unfold allKeys Dm.nodes Dm.nodes1
  rw [List.map_append]
  refine (upto_perm (tab0 d)).append ?_
  cases ht : d.t1 with
  | none =>
    have : tabLen d 1 = 0 := by unfold tabLen Dm.tab; simp [ht]
    rw [this]; exact List.Perm.refl _
  | some t => exact upto_perm (d := d) (ti := 1) ht
theorem upto_le {d : Dm} (hok : d.Ok) {ti k : Nat} (hk : k ≤ tabLen d ti) : (upto d ti k).length ≤ d.n := by
  cases ht : d.tab ti with
  | none =>
    have : tabLen d ti = 0 := by unfold tabLen; rw [ht]; rfl
    have : k = 0 := by omega
    subst this
    exact Nat.zero_le _
  | some t =>
    have h1 := (upto_perm ht).length_eq
    have h2 : (upto d ti k).length ≤ (upto d ti (tabLen d ti)).length := by
      obtain ⟨j, hj⟩ := Nat.exists_eq_add_of_le hk
      rw [hj]
      clear h1 hj
      induction j with
      | zero => exact Nat.le_refl _
      | succ j ih => rw [← Nat.add_assoc, upto_succ, List.length_append]; omega
    have h3 : t.nodes.length ≤ d.n := by
      rw [hok.count]
      unfold Dm.nodes Dm.nodes1
      unfold Dm.tab at ht
      split at ht
      · injection ht with ht; subst ht; simp
      · rw [ht]; simp
    rw [List.length_map] at h1
    omega

-- Try.func32
set_option maxRecDepth 100000 in
set_option maxHeartbeats 1000000 in
theorem buckets_any (d : Dm) (w : World) (h : DmAt w d) (hok : d.Ok) (hn : d.n < 1000000) :
    Calls Try.prog 32 #[ptr d.blk] w fun e w' => (∃ v, e = .returned v ∧ Strs w' w.heap.size v (allKeys d)) ∧ Chg (fun _ => False) w w' := by
  obtain ⟨i0, hi0, hz0, hz1, hz2⟩ := info_parts str_info
  have hl0 : ((tabLen d 0 : Nat) : Int) ≤ 65536 := by have := hok.s0.pos; show ((d.t0.len : Nat) : Int) ≤ _; omega
  have hl1 : ((tabLen d 1 : Nat) : Int) ≤ 65536 := by
    unfold tabLen Dm.tab
    cases ht : d.t1 with
    | none => simp
    | some t => have := (hok.s1 t ht).pos; show ((t.len : Nat) : Int) ≤ _; omega
  have hz := Sizes_any d w h
  rw [show d.t0.len = tabLen d 0 from rfl, show (d.t1.map Tb.len).getD 0 = tabLen d 1 from rfl] at hz
  have hu0 : ∀ k, k ≤ tabLen d 0 → (upto d 0 k).length ≤ d.n := fun k hk => upto_le hok hk
  have hu1 : ∀ k, k ≤ tabLen d 1 → (upto d 1 k).length ≤ d.n := fun k hk => upto_le hok hk
  have hb0 := fun (k : Nat) W hW (hk : k < tabLen d 0) => Bucket_in d 0 k W hW hok (by omega) hk hn
  have hb1 := fun (k : Nat) W hW (hk : k < tabLen d 1) => Bucket_in d 1 k W hW hok (by omega) hk hn
  have HA : Hid (allKeys d = upto d 0 (tabLen d 0) ++ upto d 1 (tabLen d 1)) := rfl
  generalize tabLen d 0 = n0 at *
  generalize tabLen d 1 = n1 at *
  unfold ptr at *
  go_enter Try.func32, Try.ntmps32
  go_wp2_with fail
  refine hz.mono ?_
  rintro e w1 ⟨rfl, hc1⟩
  clear hz
  go_wp2_with fail
  go_loopw [6, 7] (fun v i wr => ∃ k : Nat, k ≤ n0 ∧ i = .int .i64 k ∧ Strs wr w.heap.size v (upto d 0 k) ∧ Chg (fun _ => False) w wr) (fun _ i _ => n0 - (intOf i).toNat)
  case atStart => exact ⟨0, Nat.zero_le _, rfl, Strs.nil _ _, hc1⟩
  case round =>
    obtain ⟨k, hk, rfl, hv, hC⟩ := hrel
    by_cases hlt : k < n0
    · have hlt' : (k : Int) < (n0 : Int) := by omega
      have hkb : (k : Int) ≤ 65536 := by omega
      have hb := hb0 k _ (h.chg0 hC) hlt
      have hu := hu0 (k + 1) hlt
      have hus := upto_succ d 0 k
      rw [hus, List.length_append] at hu
      have HU := Lib.hid hus
      clear hus hb0 hb1 hu0 hu1
      go_wp2_with fail
      refine hb.mono ?_
      rintro e W2 ⟨⟨v2, rfl, hs2⟩, hC2⟩
      have hv2 := hv.chg hC2 (fun _ _ => id)
      obtain ⟨pa, ca, rfl, hpa⟩ := hs2.is
      have hA : (upto d 0 k).length + (keysAt d 0 k).length ≤ maxLen := by unfold maxLen; omega
      have hB : ((upto d 0 k).length + (keysAt d 0 k).length) * 16 ≤ 140737488355328 := by omega
      have hD : w.heap.size ≤ W2.heap.size := Nat.le_trans hC.size hC2.size
      clear hb
      go_wp2_with (at_builtin; refine wpList_append_any _ rfl (.tmp 30) (.tmp 31) 38 rfl w.heap.size 9 i0 _ 1 16 Try.underlying38 hi0 hz0 hz1 hz2 rfl (by omega) _ _ _ rfl hv2.own W2.heap.size pa _ ca _ rfl hs2.reads (strs_one _) hA hB hD ?_; intro v3 w3 hown3 hg3 hat3)
      go_roundw
      case rel => exact ⟨k + 1, by omega, by go_num, Strs.mk hown3 (by rw [HU.out]; simp [List.length_append]; try omega) (by rw [HU.out]; simp [List.map_append]), (hC.trans hC2).trans' (app_chg hv2 hg3) fun g hg h' => by omega⟩
      case measure => simp [intOf]; omega
    · have hge : ((k : Int) < (n0 : Int)) = False := by simp only [eq_iff_iff, iff_false]; omega
      have hkn : k = n0 := by omega
      subst hkn
      clear hlt hk
      have hu00 := hu0 k (Nat.le_refl _)
      obtain ⟨wo, rfl⟩ : ∃ wo : World, wo = wr := ⟨_, rfl⟩
      go_wp2_with fail
      go_loopw [6, 10] (fun v i wr => ∃ j : Nat, j ≤ n1 ∧ i = .int .i64 j ∧ Strs wr w.heap.size v (upto d 0 k ++ upto d 1 j) ∧ Chg (fun _ => False) w wr) (fun _ i _ => n1 - (intOf i).toNat)
      case atStart => exact ⟨0, Nat.zero_le _, rfl, by rw [show upto d 1 0 = [] from rfl, List.append_nil]; exact hv, hC⟩
      case round =>
        obtain ⟨j, hj, rfl, hv, hC⟩ := hrel
        by_cases hlt : j < n1
        · have hlt' : (j : Int) < (n1 : Int) := by omega
          have hkb : (j : Int) ≤ 65536 := by omega
          have hb := hb1 j _ (h.chg0 hC) hlt
          have hu := hu1 (j + 1) hlt
          have hus := upto_succ d 1 j
          rw [hus, List.length_append] at hu
          have HU := Lib.hid hus
          have hll : (upto d 0 k ++ upto d 1 j).length = (upto d 0 k).length + (upto d 1 j).length := List.length_append
          have HLL := Lib.hid hll
          clear hus hb0 hb1 hu0 hu1 hll
          go_wp2_with fail
          refine hb.mono ?_
          rintro e W2 ⟨⟨v2, rfl, hs2⟩, hC2⟩
          have hv2 := hv.chg hC2 (fun _ _ => id)
          obtain ⟨pa, ca, rfl, hpa⟩ := hs2.is
          have hA : (upto d 0 k ++ upto d 1 j).length + (keysAt d 1 j).length ≤ maxLen := by rw [HLL.out]; unfold maxLen; omega
          have hB : ((upto d 0 k ++ upto d 1 j).length + (keysAt d 1 j).length) * 16 ≤ 140737488355328 := by rw [HLL.out]; omega
          have hD : w.heap.size ≤ W2.heap.size := Nat.le_trans hC.size hC2.size
          clear hb
          go_wp2_with (at_builtin; refine wpList_append_any _ rfl (.tmp 44) (.tmp 45) 38 rfl w.heap.size 9 i0 _ 1 16 Try.underlying38 hi0 hz0 hz1 hz2 rfl (by omega) _ _ _ rfl hv2.own W2.heap.size pa _ ca _ rfl hs2.reads (strs_one _) hA hB hD ?_; intro v3 w3 hown3 hg3 hat3)
          go_roundw
          case rel => exact ⟨j + 1, by omega, by go_num, Strs.mk hown3 (by rw [HU.out]; simp [List.length_append]; try omega) (by rw [HU.out]; simp [List.map_append]), (hC.trans hC2).trans' (app_chg hv2 hg3) fun g hg h' => by omega⟩
          case measure => simp [intOf]; omega
        · have hge : ((j : Int) < (n1 : Int)) = False := by simp only [eq_iff_iff, iff_false]; omega
          have hkn : j = n1 := by omega
          subst hkn
          clear hlt hj
          go_wp2_with fail
          go_ret
          exact ⟨⟨_, rfl, by rw [HA.out]; exact hv⟩, hC⟩

end Go.Proofs.Ythbjjjcppijcbaa.Dint
