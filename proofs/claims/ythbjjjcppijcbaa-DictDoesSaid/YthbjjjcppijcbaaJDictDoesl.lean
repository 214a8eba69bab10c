/- Texts joined for DictDoes: BK2int, BK3int, CM, SCint, SC2int, SC3int, SC4int. -/
import Derived.Test.YthbjjjcppijcbaaJDictDoesb
import Derived.Test.YthbjjjcppijcbaaJDictDoesd
import Derived.Test.YthbjjjcppijcbaaJDictDoesk
import Derived.Laws.BitsAllLaws
import Derived.Stop.RegionWithIn
import Derived.Outline
set_option linter.unusedVariables false
set_option linter.unusedSimpArgs false

/- Bucket of a dict where there is no such slot. -/
namespace Go.Proofs.Ythbjjjcppijcbaa.Dint
open Go.RowKit Pal
attribute [local go_sem] Oper.semAt_some

def tabLen (d : Dm) (ti : Nat) : Nat := ((d.tab ti).map Tb.len).getD 0

set_option maxRecDepth 100000 in
set_option maxHeartbeats 1000000 in
theorem Bucket_no (d : Dm) (ti si : Int) (w : World) (h : DmAt w d) (hb : ti < 0 ∨ 2 ≤ ti ∨ si < 0 ∨ (tabLen d ti.toNat : Int) ≤ si) :
    Calls Try.prog 29 #[ptr d.blk, .int .i64 ti, .int .i64 si] w fun e w' => e = .returned (.tuple #[.slice none 0 0, .int .i64 2]) ∧ Chg (fun _ => False) w w' := by
  obtain ⟨c0, c1, c2, c3, c4, hf, hlt⟩ := dm_cells h
  unfold ptr
  by_cases h1 : ti < 0
  · refine calls_of_wp_marks Try.func29 rfl ?_
    simp only [Try.ntmps29, List.size_toArray, List.length_cons, List.length_nil, Nat.reduceAdd, Nat.reduceSub, Array.replicate_succ, Array.replicate_zero, List.push_toArray, List.append_toArray, List.nil_append, List.cons_append]
    go_wp2_with fail
    exact ⟨_, (by simp [results, Try.results29, go_sem]), rfl, Chg.refl _ _⟩
  by_cases h2 : ti ≥ 2
  · refine calls_of_wp_marks Try.func29 rfl ?_
    simp only [Try.ntmps29, List.size_toArray, List.length_cons, List.length_nil, Nat.reduceAdd, Nat.reduceSub, Array.replicate_succ, Array.replicate_zero, List.push_toArray, List.append_toArray, List.nil_append, List.cons_append]
    go_wp2_with fail
    exact ⟨_, (by simp [results, Try.results29, go_sem]), rfl, Chg.refl _ _⟩
  by_cases h3 : si < 0
  · refine calls_of_wp_marks Try.func29 rfl ?_
    simp only [Try.ntmps29, List.size_toArray, List.length_cons, List.length_nil, Nat.reduceAdd, Nat.reduceSub, Array.replicate_succ, Array.replicate_zero, List.push_toArray, List.append_toArray, List.nil_append, List.cons_append]
    go_wp2_with fail
    exact ⟨_, (by simp [results, Try.results29, go_sem]), rfl, Chg.refl _ _⟩
  · obtain ⟨k, rfl⟩ : ∃ k : Nat, ti = (k : Int) := ⟨ti.toNat, by omega⟩
    have hk : k < 2 := by omega
    have h6 : 0 ≤ (k : Int) := by omega
    have h7 : (k : Int) < 2 := by omega
    have h8 : si ≥ (tabLen d k : Int) := by
      rcases hb with hb | hb | hb | hb
      · omega
      · omega
      · omega
      · simpa using hb
    have hcell : ∃ p c, w.cell? ⟨d.blk, 1 + k, none⟩ = some (.slice p (tabLen d k) c) := by
      rcases (by omega : k = 0 ∨ k = 1) with rfl | rfl
      · exact ⟨_, _, c1⟩
      · unfold tabLen Dm.tab
        cases ht : d.t1 with
        | none => rw [ht] at c2; exact ⟨_, _, c2⟩
        | some t => rw [ht] at c2; exact ⟨_, _, c2⟩
    obtain ⟨p, c, hcell⟩ := hcell
    clear hb c0 c1 c2 c3 c4
    generalize tabLen d k = n at hcell h8
    refine calls_of_wp_marks Try.func29 rfl ?_
    simp only [Try.ntmps29, List.size_toArray, List.length_cons, List.length_nil, Nat.reduceAdd, Nat.reduceSub, Array.replicate_succ, Array.replicate_zero, List.push_toArray, List.append_toArray, List.nil_append, List.cons_append]
    go_wp2_with fail
    exact ⟨_, (by simp [results, Try.results29, go_sem]), rfl, Chg.refl _ _⟩

end Go.Proofs.Ythbjjjcppijcbaa.Dint

/- All buckets of a dict. -/
namespace Go.Proofs.Ythbjjjcppijcbaa.Dint
open Go.RowKit Pal

theorem tab_cases {d : Dm} {ti si : Nat} (h : si < tabLen d ti) : ∃ t, d.tab ti = some t ∧ si < t.len := by
  unfold tabLen at h
  cases ht : d.tab ti with
  | none => rw [ht] at h; cases h
  | some t => rw [ht] at h; exact ⟨t, rfl, h⟩
theorem Bucket_in (d : Dm) (ti si : Nat) (w : World) (h : DmAt w d) (hok : d.Ok) (hti : ti < 2) (hsi : si < tabLen d ti) (hn : d.n < 1000000) :
    Calls Try.prog 29 #[ptr d.blk, .int .i64 (ti : Int), .int .i64 (si : Int)] w fun e w' => (∃ v, e = .returned (.tuple #[v, .int .i64 0]) ∧ Strs w' w.heap.size v (keysAt d ti si)) ∧ Chg (fun _ => False) w w' := by
  obtain ⟨t, ht, hl⟩ := tab_cases hsi
  exact Bucket_yes d ti si t w h hok ht hti hl hn

def upto (d : Dm) (ti k : Nat) : List ByteArray := (List.range k).flatMap (keysAt d ti)
theorem upto_succ (d : Dm) (ti k : Nat) : upto d ti (k + 1) = upto d ti k ++ keysAt d ti k := by
  unfold upto; rw [List.range_succ, List.flatMap_append]; simp
theorem keysAt_perm {d : Dm} {ti si : Nat} {t : Tb} (h : d.tab ti = some t) : (keysAt d ti si).Perm ((t.at si).map (·.key)) := by
  unfold keysAt; rw [h]; exact sortB_perm _
theorem flatten_range {α : Type} : ∀ (l : List (List α)), (List.range l.length).flatMap (fun i => l.getD i []) = l.flatten
  | [] => rfl
  | a :: l => by
    rw [List.length_cons, List.range_succ_eq_map, List.flatMap_cons, List.flatMap_map, List.flatten_cons, ← flatten_range l]
    rfl
theorem flatMap_perm {α β : Type} {f g : α → List β} : ∀ (l : List α), (∀ x ∈ l, (f x).Perm (g x)) → (l.flatMap f).Perm (l.flatMap g)
  | [], _ => List.Perm.refl _
  | a :: l, h => by
    rw [List.flatMap_cons, List.flatMap_cons]
    exact (h a (by simp)).append (flatMap_perm l fun x hx => h x (by simp [hx]))
theorem upto_perm {d : Dm} {ti : Nat} {t : Tb} (h : d.tab ti = some t) : (upto d ti (tabLen d ti)).Perm (t.nodes.map (·.key)) := by
  have e : tabLen d ti = t.len := by unfold tabLen; rw [h]; rfl
  rw [e]
  unfold upto Tb.nodes
  rw [← flatten_range t.slots, List.map_flatMap]
  exact flatMap_perm _ fun i _ => keysAt_perm h
def allKeys (d : Dm) : List ByteArray := upto d 0 (tabLen d 0) ++ upto d 1 (tabLen d 1)
theorem allKeys_perm (d : Dm) : (allKeys d).Perm (d.nodes.map (·.key)) := by
  unfold allKeys Dm.nodes Dm.nodes1
  rw [List.map_append]
  refine (upto_perm (tab0 d)).append ?_
  cases ht : d.t1 with
  | none =>
    have : tabLen d 1 = 0 := by unfold tabLen Dm.tab; simp [ht]
    rw [this]; exact List.Perm.refl _
  | some t => exact upto_perm (d := d) (ti := 1) ht
theorem upto_le {d : Dm} (hok : d.Ok) {ti k : Nat} (hk : k ≤ tabLen d ti) : (upto d ti k).length ≤ d.n := by
  cases ht : d.tab ti with
  | none =>
    have : tabLen d ti = 0 := by unfold tabLen; rw [ht]; rfl
    have : k = 0 := by omega
    subst this
    exact Nat.zero_le _
  | some t =>
    have h1 := (upto_perm ht).length_eq
    have h2 : (upto d ti k).length ≤ (upto d ti (tabLen d ti)).length := by
      obtain ⟨j, hj⟩ := Nat.exists_eq_add_of_le hk
      rw [hj]
      clear h1 hj
      induction j with
      | zero => exact Nat.le_refl _
      | succ j ih => rw [← Nat.add_assoc, upto_succ, List.length_append]; omega
    have h3 : t.nodes.length ≤ d.n := by
      rw [hok.count]
      unfold Dm.nodes Dm.nodes1
      unfold Dm.tab at ht
      split at ht
      · injection ht with ht; subst ht; simp
      · rw [ht]; simp
    rw [List.length_map] at h1
    omega

-- Try.func32
set_option maxRecDepth 100000 in
set_option maxHeartbeats 1000000 in
theorem buckets_any (d : Dm) (w : World) (h : DmAt w d) (hok : d.Ok) (hn : d.n < 1000000) :
    Calls Try.prog 32 #[ptr d.blk] w fun e w' => (∃ v, e = .returned v ∧ Strs w' w.heap.size v (allKeys d)) ∧ Chg (fun _ => False) w w' := by
  obtain ⟨i0, hi0, hz0, hz1, hz2⟩ := info_parts str_info
  have hl0 : ((tabLen d 0 : Nat) : Int) ≤ 65536 := by have := hok.s0.pos; show ((d.t0.len : Nat) : Int) ≤ _; omega
  have hl1 : ((tabLen d 1 : Nat) : Int) ≤ 65536 := by
    unfold tabLen Dm.tab
    cases ht : d.t1 with
    | none => simp
    | some t => have := (hok.s1 t ht).pos; show ((t.len : Nat) : Int) ≤ _; omega
  have hz := Sizes_any d w h
  rw [show d.t0.len = tabLen d 0 from rfl, show (d.t1.map Tb.len).getD 0 = tabLen d 1 from rfl] at hz
  have hu0 : ∀ k, k ≤ tabLen d 0 → (upto d 0 k).length ≤ d.n := fun k hk => upto_le hok hk
  have hu1 : ∀ k, k ≤ tabLen d 1 → (upto d 1 k).length ≤ d.n := fun k hk => upto_le hok hk
  have hb0 := fun (k : Nat) W hW (hk : k < tabLen d 0) => Bucket_in d 0 k W hW hok (by omega) hk hn
  have hb1 := fun (k : Nat) W hW (hk : k < tabLen d 1) => Bucket_in d 1 k W hW hok (by omega) hk hn
  have HA : Hid (allKeys d = upto d 0 (tabLen d 0) ++ upto d 1 (tabLen d 1)) := rfl
  generalize tabLen d 0 = n0 at *
  generalize tabLen d 1 = n1 at *
  unfold ptr at *
  go_enter Try.func32, Try.ntmps32
  go_wp2_with fail
  refine hz.mono ?_
  rintro e w1 ⟨rfl, hc1⟩
  clear hz
  go_wp2_with fail
  go_loopw [6, 7] (fun v i wr => ∃ k : Nat, k ≤ n0 ∧ i = .int .i64 k ∧ Strs wr w.heap.size v (upto d 0 k) ∧ Chg (fun _ => False) w wr) (fun _ i _ => n0 - (intOf i).toNat)
  case atStart => exact ⟨0, Nat.zero_le _, rfl, Strs.nil _ _, hc1⟩
  case round =>
    obtain ⟨k, hk, rfl, hv, hC⟩ := hrel
    by_cases hlt : k < n0
    · have hlt' : (k : Int) < (n0 : Int) := by omega
      have hkb : (k : Int) ≤ 65536 := by omega
      have hb := hb0 k _ (h.chg0 hC) hlt
      have hu := hu0 (k + 1) hlt
      have hus := upto_succ d 0 k
      rw [hus, List.length_append] at hu
      have HU := Lib.hid hus
      clear hus hb0 hb1 hu0 hu1
      go_wp2_with fail
      refine hb.mono ?_
      rintro e W2 ⟨⟨v2, rfl, hs2⟩, hC2⟩
      have hv2 := hv.chg hC2 (fun _ _ => id)
      obtain ⟨pa, ca, rfl, hpa⟩ := hs2.is
      have hA : (upto d 0 k).length + (keysAt d 0 k).length ≤ maxLen := by unfold maxLen; omega
      have hB : ((upto d 0 k).length + (keysAt d 0 k).length) * 16 ≤ 140737488355328 := by omega
      have hD : w.heap.size ≤ W2.heap.size := Nat.le_trans hC.size hC2.size
      clear hb
      go_wp2_with (at_builtin; refine wpList_append_any _ rfl (.tmp 30) (.tmp 31) 38 rfl w.heap.size 9 i0 _ 1 16 Try.underlying38 hi0 hz0 hz1 hz2 rfl (by omega) _ _ _ rfl hv2.own W2.heap.size pa _ ca _ rfl hs2.reads (strs_one _) hA hB hD ?_; intro v3 w3 hown3 hg3 hat3)
      go_roundw
      case rel => exact ⟨k + 1, by omega, by go_num, Strs.mk hown3 (by rw [HU.out]; simp [List.length_append]; try omega) (by rw [HU.out]; simp [List.map_append]), (hC.trans hC2).trans' (app_chg hv2 hg3) fun g hg h' => by omega⟩
      case measure => simp [intOf]; omega
    · have hge : ((k : Int) < (n0 : Int)) = False := by simp only [eq_iff_iff, iff_false]; omega
      have hkn : k = n0 := by omega
      subst hkn
      clear hlt hk
      have hu00 := hu0 k (Nat.le_refl _)
      obtain ⟨wo, rfl⟩ : ∃ wo : World, wo = wr := ⟨_, rfl⟩
      go_wp2_with fail
      go_loopw [6, 10] (fun v i wr => ∃ j : Nat, j ≤ n1 ∧ i = .int .i64 j ∧ Strs wr w.heap.size v (upto d 0 k ++ upto d 1 j) ∧ Chg (fun _ => False) w wr) (fun _ i _ => n1 - (intOf i).toNat)
      case atStart => exact ⟨0, Nat.zero_le _, rfl, by rw [show upto d 1 0 = [] from rfl, List.append_nil]; exact hv, hC⟩
      case round =>
        obtain ⟨j, hj, rfl, hv, hC⟩ := hrel
        by_cases hlt : j < n1
        · have hlt' : (j : Int) < (n1 : Int) := by omega
          have hkb : (j : Int) ≤ 65536 := by omega
          have hb := hb1 j _ (h.chg0 hC) hlt
          have hu := hu1 (j + 1) hlt
          have hus := upto_succ d 1 j
          rw [hus, List.length_append] at hu
          have HU := Lib.hid hus
          have hll : (upto d 0 k ++ upto d 1 j).length = (upto d 0 k).length + (upto d 1 j).length := List.length_append
          have HLL := Lib.hid hll
          clear hus hb0 hb1 hu0 hu1 hll
          go_wp2_with fail
          refine hb.mono ?_
          rintro e W2 ⟨⟨v2, rfl, hs2⟩, hC2⟩
          have hv2 := hv.chg hC2 (fun _ _ => id)
          obtain ⟨pa, ca, rfl, hpa⟩ := hs2.is
          have hA : (upto d 0 k ++ upto d 1 j).length + (keysAt d 1 j).length ≤ maxLen := by rw [HLL.out]; unfold maxLen; omega
          have hB : ((upto d 0 k ++ upto d 1 j).length + (keysAt d 1 j).length) * 16 ≤ 140737488355328 := by rw [HLL.out]; omega
          have hD : w.heap.size ≤ W2.heap.size := Nat.le_trans hC.size hC2.size
          clear hb
          go_wp2_with (at_builtin; refine wpList_append_any _ rfl (.tmp 44) (.tmp 45) 38 rfl w.heap.size 9 i0 _ 1 16 Try.underlying38 hi0 hz0 hz1 hz2 rfl (by omega) _ _ _ rfl hv2.own W2.heap.size pa _ ca _ rfl hs2.reads (strs_one _) hA hB hD ?_; intro v3 w3 hown3 hg3 hat3)
          go_roundw
          case rel => exact ⟨j + 1, by omega, by go_num, Strs.mk hown3 (by rw [HU.out]; simp [List.length_append]; try omega) (by rw [HU.out]; simp [List.map_append]), (hC.trans hC2).trans' (app_chg hv2 hg3) fun g hg h' => by omega⟩
          case measure => simp [intOf]; omega
        · have hge : ((j : Int) < (n1 : Int)) = False := by simp only [eq_iff_iff, iff_false]; omega
          have hkn : j = n1 := by omega
          subst hkn
          clear hlt hj
          go_wp2_with fail
          go_ret
          exact ⟨⟨_, rfl, by rw [HA.out]; exact hv⟩, hC⟩

end Go.Proofs.Ythbjjjcppijcbaa.Dint

/- Cursors, as places in the order in which a table's slots are scanned. -/
namespace Pal


def pos (b c : Nat) : Nat := turn c / 2 ^ (32 - b)
theorem pow32 {b : Nat} (hb : b ≤ 32) : (4294967296 : Nat) = 2 ^ b * 2 ^ (32 - b) := by
  rw [← Nat.pow_add, show b + (32 - b) = 32 by omega]
theorem pos_lt {b : Nat} (hb : b ≤ 32) (c : Nat) : pos b c < 2 ^ b := by
  unfold pos
  rw [Nat.div_lt_iff_lt_mul Nat.one_le_two_pow, ← pow32 hb]
  exact turn_lt c
theorem pos_cur {b k : Nat} (hb : b ≤ 32) (hk : k < 2 ^ b) : pos b (cur b k) = k := by
  unfold pos cur; rw [turn_turn _ (mul_lt b k hb hk)]; exact Nat.mul_div_cancel _ Nat.one_le_two_pow
theorem mod_cur {b c : Nat} (hb : b ≤ 32) (hc : c < 4294967296) : c % 2 ^ b = cur b (pos b c) := by
  refine eq32 (Nat.lt_of_le_of_lt (Nat.mod_le _ _) hc) (cur_lt32 _ _) fun i hi => ?_
  unfold cur pos
  rw [Nat.testBit_mod_two_pow, turn_bit _ _ hi, Nat.testBit_mul_two_pow, ← Nat.shiftRight_eq_div_pow, Nat.testBit_shiftRight]
  by_cases h : i < b
  · have e : 32 - b + (31 - i - (32 - b)) = 31 - i := by omega
    rw [e, turn_bit _ _ (by omega), show 31 - (31 - i) = i by omega]
    simp [h]; omega
  · have : ¬ 32 - b ≤ 31 - i := by omega
    simp [h, this]
theorem pos_down {a b : Nat} (hab : a ≤ b) (hb : b ≤ 32) (c : Nat) : pos a c = pos b c / 2 ^ (b - a) := by
  unfold pos
  rw [Nat.div_div_eq_div_mul, ← Nat.pow_add, show 32 - b + (b - a) = 32 - a by omega]

def curW (b k : Nat) : Nat := if k = 2 ^ b then 0 else cur b k
theorem curW_lt32 (b k : Nat) : curW b k < 4294967296 := by
  unfold curW; split
  · omega
  · exact cur_lt32 _ _
theorem nextD_curW {b : Nat} (hb : b ≤ 32) (c : Nat) : nextD c b = curW b (pos b c + 1) := by
  have hp := pos_lt hb c
  unfold nextD curW
  show turn ((pos b c + 1) * 2 ^ (32 - b) % 4294967296) = _
  split
  · rename_i h
    rw [h, ← pow32 hb]; decide
  · rename_i h
    rw [Nat.mod_eq_of_lt (mul_lt b _ hb (by omega))]; rfl
theorem cur_up {a b : Nat} (hab : a ≤ b) (hb : b ≤ 32) (q : Nat) : cur b (q * 2 ^ (b - a)) = cur a q := by
  unfold cur
  rw [Nat.mul_assoc, ← Nat.pow_add, show b - a + (32 - b) = 32 - a by omega]
theorem pow_up {a b : Nat} (hab : a ≤ b) : (2 : Nat) ^ b = 2 ^ a * 2 ^ (b - a) := by
  rw [← Nat.pow_add, show a + (b - a) = b by omega]
theorem curW_up {a b : Nat} (hab : a ≤ b) (hb : b ≤ 32) (q : Nat) : curW b (q * 2 ^ (b - a)) = curW a q := by
  unfold curW
  rw [pow_up hab, cur_up hab hb]
  by_cases h : q = 2 ^ a
  · rw [if_pos (by rw [h]), if_pos h]
  · rw [if_neg (fun e => h (Nat.eq_of_mul_eq_mul_right Nat.one_le_two_pow e)), if_neg h]
theorem low_cur {a b k : Nat} (hab : a ≤ b) (hb : b ≤ 32) (hk : k < 2 ^ b) : cur b k < 2 ^ a ↔ k % 2 ^ (b - a) = 0 := by
  have h1 := mod_cur (b := a) (c := cur b k) (by omega) (cur_lt32 _ _)
  rw [pos_down hab hb, pos_cur hb hk] at h1
  have h2 : k / 2 ^ (b - a) < 2 ^ a := by rw [Nat.div_lt_iff_lt_mul Nat.one_le_two_pow, ← pow_up hab]; exact hk
  have hd := Nat.div_add_mod k (2 ^ (b - a))
  constructor
  · intro h
    rw [Nat.mod_eq_of_lt h, ← cur_up hab hb] at h1
    have := cur_inj b hb hk (by rw [pow_up hab]; exact Nat.mul_lt_mul_of_pos_right h2 Nat.one_le_two_pow) h1
    rw [Nat.mul_comm] at hd
    omega
  · intro h
    have e : k = k / 2 ^ (b - a) * 2 ^ (b - a) := by rw [Nat.mul_comm]; omega
    rw [e, cur_up hab hb]
    exact cur_lt a _ (by omega) h2
theorem low_curW {a b k : Nat} (hab : a ≤ b) (hb : b ≤ 32) (hk : k ≤ 2 ^ b) : curW b k < 2 ^ a ↔ k % 2 ^ (b - a) = 0 := by
  unfold curW
  split
  · rename_i h
    rw [h, pow_up hab]
    exact ⟨fun _ => Nat.mul_mod_left _ _, fun _ => Nat.one_le_two_pow⟩
  · rename_i h
    exact low_cur hab hb (by omega)
theorem curW_lt {b k : Nat} (hb : b ≤ 32) (hk : k ≤ 2 ^ b) : curW b k < 2 ^ b := by
  unfold curW; split
  · exact Nat.one_le_two_pow
  · rename_i h; exact cur_lt b k hb (by omega)
theorem pos_curW {b k : Nat} (hb : b ≤ 32) (hk : k < 2 ^ b) : pos b (curW b k) = k := by
  unfold curW; rw [if_neg (by omega)]; exact pos_cur hb hk

/-! ### the slots of a great table that a slot of a small one is parted into -/
def slotsM (b k m : Nat) : List (Nat × Nat) := (List.range m).map fun j => (cur b (k + j), curW b (k + j + 1))
def slotsP (a b k : Nat) : List (Nat × Nat) := slotsM b k (2 ^ (b - a) - k % 2 ^ (b - a))
theorem range_map_succ {α : Type} (f : Nat → α) (k m : Nat) : (List.range (m + 1)).map (fun j => f (k + j)) = f k :: (List.range m).map fun j => f (k + 1 + j) := by
  rw [List.range_succ_eq_map, List.map_cons, List.map_map, Nat.add_zero]
  congr 1
  apply List.map_congr_left
  intro j _
  show f (k + (j + 1)) = f (k + 1 + j)
  rw [show k + (j + 1) = k + 1 + j by omega]
theorem slotsM_succ (b k m : Nat) : slotsM b k (m + 1) = (cur b k, curW b (k + 1)) :: slotsM b (k + 1) m :=
  range_map_succ (fun i => (cur b i, curW b (i + 1))) k m
theorem slotsP_cons (a b k : Nat) : slotsP a b k = (cur b k, curW b (k + 1)) :: if (k + 1) % 2 ^ (b - a) = 0 then [] else slotsP a b (k + 1) := by
  have h1 : 0 < 2 ^ (b - a) := Nat.one_le_two_pow
  unfold slotsP
  generalize 2 ^ (b - a) = D at *
  have h2 := Nat.mod_lt k h1
  obtain ⟨m, hm⟩ : ∃ m, D - k % D = m + 1 := ⟨D - k % D - 1, by omega⟩
  rw [hm, slotsM_succ]
  congr 1
  by_cases hz : k % D + 1 = D
  · have hm0 : m = 0 := by omega
    have : (k + 1) % D = 0 := by rw [Nat.add_mod, show k % D + 1 % D = k % D + 1 % D from rfl]
                                 rcases Nat.lt_or_ge 1 D with h | h
                                 · rw [Nat.mod_eq_of_lt h, hz]; simp
                                 · have : D = 1 := by omega
                                   subst this; simp [Nat.mod_one]
    rw [if_pos this, hm0]; rfl
  · have hlt : 1 < D := by omega
    have : (k + 1) % D = k % D + 1 := by rw [Nat.add_mod, Nat.mod_eq_of_lt hlt, Nat.mod_eq_of_lt (by omega)]
    rw [if_neg (by omega), this]
    congr 1
    omega

theorem slotsM_last (b : Nat) : ∀ (m k u : Nat), (slotsM b k (m + 1)).foldl (fun _ x => x.2) u = curW b (k + m + 1)
  | 0, k, u => rfl
  | m + 1, k, u => by
    rw [slotsM_succ, List.foldl_cons, slotsM_last b m (k + 1) _, show k + 1 + m + 1 = k + (m + 1) + 1 by omega]
theorem slotsP_last {a b : Nat} (hab : a ≤ b) (hb : b ≤ 32) (c u : Nat) : (slotsP a b (pos b c)).foldl (fun _ x => x.2) u = curW a (pos a c + 1) := by
  have h1 : 0 < 2 ^ (b - a) := Nat.one_le_two_pow
  have hd := Nat.div_add_mod (pos b c) (2 ^ (b - a))
  have hm := Nat.mod_lt (pos b c) h1
  unfold slotsP
  obtain ⟨m, hm'⟩ : ∃ m, 2 ^ (b - a) - pos b c % 2 ^ (b - a) = m + 1 := ⟨2 ^ (b - a) - pos b c % 2 ^ (b - a) - 1, by omega⟩
  rw [hm', slotsM_last, pos_down hab hb, ← curW_up hab hb, Nat.add_mul, Nat.one_mul, Nat.mul_comm (pos b c / _)]
  congr 1
  omega
theorem slotsP_mem {a b k : Nat} (hab : a ≤ b) (hb : b ≤ 32) (hk : k < 2 ^ b) {x : Nat × Nat} (hx : x ∈ slotsP a b k) : x.1 < 2 ^ b ∧ x.2 < 4294967296 := by
  unfold slotsP slotsM at hx
  obtain ⟨j, hj, rfl⟩ := List.mem_map.1 hx
  rw [List.mem_range] at hj
  refine ⟨cur_lt b _ hb ?_, curW_lt32 _ _⟩
  have h1 : 0 < 2 ^ (b - a) := Nat.one_le_two_pow
  have hd := Nat.div_add_mod k (2 ^ (b - a))
  have h2 : k / 2 ^ (b - a) < 2 ^ a := by rw [Nat.div_lt_iff_lt_mul h1, ← pow_up hab]; exact hk
  have h3 : (k / 2 ^ (b - a) + 1) * 2 ^ (b - a) ≤ 2 ^ a * 2 ^ (b - a) := Nat.mul_le_mul_right _ h2
  rw [← pow_up hab, Nat.add_mul, Nat.one_mul, Nat.mul_comm] at h3
  omega
theorem slotsP_length (a b k : Nat) : (slotsP a b k).length ≤ 2 ^ b := by
  unfold slotsP slotsM
  rw [List.length_map, List.length_range]
  exact Nat.le_trans (Nat.sub_le _ _) (Nat.pow_le_pow_right (by omega) (Nat.sub_le _ _))
end Pal

/- Contracts of scan: within, gathered. -/
namespace Go.Proofs.Ythbjjjcppijcbaa
open Go.RowKit Pal

theorem bit_within {a b : Nat} (hab : a ≤ b) (i : Nat) : (2 ^ b - 2 ^ a).testBit i = (decide (a ≤ i) && decide (i < b)) := by
  have e : 2 ^ b - 2 ^ a = 2 ^ a * (2 ^ (b - a) - 1) := by
    rw [Nat.mul_sub, ← pow_up hab]; omega
  rw [e, Nat.mul_comm, Nat.testBit_mul_two_pow, Nat.testBit_two_pow_sub_one]
  by_cases h : a ≤ i
  · by_cases h2 : i < b
    · have : i - a < b - a := by omega
      simp [h, h2, this]
    · have : ¬ i - a < b - a := by omega
      simp [h2, this]
  · simp [h]
theorem and_within {a b c : Nat} (hab : a ≤ b) : c &&& (2 ^ b - 2 ^ a) = c % 2 ^ b / 2 ^ a * 2 ^ a := by
  apply Nat.eq_of_testBit_eq
  intro i
  rw [Nat.testBit_and, bit_within hab, Nat.testBit_mul_two_pow, ← Nat.shiftRight_eq_div_pow, Nat.testBit_shiftRight, Nat.testBit_mod_two_pow]
  by_cases h : a ≤ i
  · rw [show a + (i - a) = i by omega]
    by_cases h2 : i < b <;> simp [h, h2]
  · simp [h]
theorem within_zero {a b c : Nat} (hab : a ≤ b) : (c &&& (2 ^ b - 2 ^ a) = 0) ↔ c % 2 ^ b < 2 ^ a := by
  rw [and_within hab]
  have h1 : 0 < 2 ^ a := Nat.one_le_two_pow
  constructor
  · intro h
    rcases Nat.mul_eq_zero.1 h with h | h
    · exact (Nat.div_eq_zero_iff_lt h1).1 h
    · omega
  · intro h
    rw [(Nat.div_eq_zero_iff_lt h1).2 h, Nat.zero_mul]
theorem andNot_mask {a b : Nat} (hab : a ≤ b) (hb : b ≤ 16) : bits BinOp.andNot IntKind.u32 ((2 ^ b - 1 : Nat) : Int) ((2 ^ a - 1 : Nat) : Int) = ((2 ^ b - 2 ^ a : Nat) : Int) := by
  have hp : (2 : Nat) ^ b ≤ 2 ^ 16 := pow_mono hb
  have hpa : (2 : Nat) ^ a ≤ 2 ^ b := pow_mono hab
  have h1 : 1 ≤ 2 ^ a := Nat.one_le_two_pow
  show IntKind.u32.wrap ((BitVec.ofInt 32 ((2 ^ b - 1 : Nat) : Int) &&& ~~~ BitVec.ofInt 32 ((2 ^ a - 1 : Nat) : Int)).toNat : Int) = _
  rw [BitVec.toNat_and, BitVec.toNat_not, ofInt_u32 _ (by omega), ofInt_u32 _ (by omega), IntKind.wrap_u32']
  have e : (2 ^ b - 1) &&& (2 ^ 32 - 1 - (2 ^ a - 1)) = 2 ^ b - 2 ^ a := by
    apply Nat.eq_of_testBit_eq
    intro i
    rw [Nat.testBit_and, Nat.testBit_two_pow_sub_one, bit_within hab]
    by_cases hi : i < 32
    · rw [show 2 ^ 32 - 1 - (2 ^ a - 1) = 4294967295 - (2 ^ a - 1) from rfl, bit_high a i (by omega) hi, Bool.and_comm]
    · have : ¬ i < b := by omega
      simp [this]
  rw [e]
  omega

theorem within_any (a b : Nat) (s g : Int) (w : World) (hab : a ≤ b) (hb : b ≤ 16) (hs : s = ((2 ^ a : Nat) : Int)) (hg : g = ((2 ^ b : Nat) : Int)) :
    Calls Try.prog 84 #[.int .i64 s, .int .i64 g] w fun e w' => e = .returned (.int .u32 ((2 ^ b - 2 ^ a : Nat) : Int)) ∧ w = w' := by
  have hp : (2 : Nat) ^ b ≤ 2 ^ 16 := pow_mono hb
  have hpa : (2 : Nat) ^ a ≤ 2 ^ b := pow_mono hab
  have h1 : 1 ≤ 2 ^ a := Nat.one_le_two_pow
  have s1 : 1 ≤ s := by omega
  have s2 : s ≤ 65536 := by omega
  have g1 : 1 ≤ g := by omega
  have g2 : g ≤ 65536 := by omega
  have hm := fun w => mask_any s w s1 s2
  have hm2 := fun w => mask_any g w g1 g2
  have H : Hid (bits BinOp.andNot IntKind.u32 (g - 1) (s - 1) = ((2 ^ b - 2 ^ a : Nat) : Int)) := by
    show _ = _
    have e1 : g - 1 = ((2 ^ b - 1 : Nat) : Int) := by omega
    have e2 : s - 1 = ((2 ^ a - 1 : Nat) : Int) := by omega
    rw [e1, e2]
    exact andNot_mask hab hb
  clear hs hg
  go_enter Try.func84, Try.ntmps84
  go_wp2_with fail
  refine (hm2 _).mono ?_
  rintro e w' ⟨rfl, rfl⟩
  go_wp2_with fail
  refine (hm _).mono ?_
  rintro e w' ⟨rfl, rfl⟩
  go_wp2_with fail
  go_ret
  exact ⟨by rw [← H.out]; rfl, rfl⟩

end Go.Proofs.Ythbjjjcppijcbaa

/- Contracts of scan: gathered, slots. -/
namespace Go.Proofs.Ythbjjjcppijcbaa.Dint
open Go.RowKit Pal
attribute [local go_sem] Oper.semAt_some

set_option maxRecDepth 100000 in
set_option maxHeartbeats 1000000 in
theorem gathered_any (d : Dm) (ti si B : Nat) (w : World) (h : DmAt w d) (hok : d.Ok) (hti : ti < 2) (hsi : si < tabLen d ti) (hn : d.n < 1000000) (hB : w.cell? ⟨B, 0, none⟩ = some (.int .i64 (si : Int))) (hBl : B < w.heap.size) :
    Calls Try.prog 65 #[ptr d.blk, .int .i64 (ti : Int), .slice (some ⟨B, 0, none⟩) 1 1] w fun e w' => (∃ v, e = .returned v ∧ Strs w' w.heap.size v (keysAt d ti si)) ∧ Chg (fun _ => False) w w' := by
  obtain ⟨i0, hi0, hz0, hz1, hz2⟩ := info_parts str_info
  have hb := fun W (hC : Chg (fun _ => False) w W) => Bucket_in d ti si W (h.chg0 hC) hok hti hsi hn
  have hlen : (keysAt d ti si).length ≤ d.n := by
    obtain ⟨t, ht, hl⟩ := tab_cases hsi
    rw [(keysAt_perm ht).length_eq, List.length_map, hok.count]
    have := (tab_perm ht hl).length_eq
    rw [List.length_append] at this
    omega
  generalize keysAt d ti si = ks at *
  unfold ptr at *
  go_enter Try.func65, Try.ntmps65
  go_wp2_with fail
  go_loopw [7, 14] (fun v i wr => ∃ k : Nat, k ≤ 1 ∧ i = .int .i64 k ∧ Strs wr w.heap.size v (if k = 0 then [] else ks) ∧ Chg (fun _ => False) w wr) (fun _ i _ => 1 - (intOf i).toNat)
  case atStart => exact ⟨0, Nat.zero_le _, rfl, Strs.nil _ _, Chg.refl _ _⟩
  case round =>
    obtain ⟨k, hk, rfl, hv, hC⟩ := hrel
    by_cases hlt : k = 0
    · subst hlt
      have hcB : wr.cell? ⟨B, 0, none⟩ = some (.int .i64 (si : Int)) := by
        rw [World.cell?_of_block (hC.block B hBl id)]; exact hB
      have hb := hb _ hC
      simp only [if_true] at hv
      go_wp2_with fail
      refine hb.mono ?_
      rintro e W2 ⟨⟨v2, rfl, hs2⟩, hC2⟩
      have hv2 := hv.chg hC2 (fun _ _ => id)
      obtain ⟨pa, ca, rfl, hpa⟩ := hs2.is
      have hA : ([] : List ByteArray).length + ks.length ≤ maxLen := by unfold maxLen; simp; omega
      have hBB : (([] : List ByteArray).length + ks.length) * 16 ≤ 140737488355328 := by simp; omega
      have hD : w.heap.size ≤ W2.heap.size := Nat.le_trans hC.size hC2.size
      clear hb
      go_wp2_with (at_builtin; refine wpList_append_any _ rfl (.tmp 25) (.tmp 26) 38 rfl w.heap.size 9 i0 _ 1 16 Try.underlying38 hi0 hz0 hz1 hz2 rfl (by omega) _ _ _ rfl hv2.own W2.heap.size pa _ ca _ rfl hs2.reads (strs_one _) hA hBB hD ?_; intro v3 w3 hown3 hg3 hat3)
      go_roundw
      case rel => exact ⟨1, by omega, by go_num, Strs.mk hown3 (by simp) (by simp), (hC.trans hC2).trans' (app_chg hv2 hg3) fun g hg h' => by omega⟩
      case measure => simp [intOf]
    · have hk1 : k = 1 := by omega
      subst hk1
      go_wp2_with fail
      go_ret
      exact ⟨⟨_, rfl, by simpa using hv⟩, hC⟩

theorem slots_any (c : Nat) (s g : Int) (w : World) :
    Calls Try.prog 68 #[.int .u32 (c : Int), .int .i64 s, .int .i64 g] w fun e w' => e = .returned (.func (.func 83) #[] #[.pointer (some ⟨w.heap.size, 0, none⟩), .pointer (some ⟨w.heap.size + 2, 0, none⟩), .pointer (some ⟨w.heap.size + 1, 0, none⟩)]) ∧
      ((w.alloc (.cells #[.int .u32 (c : Int)] 22)).alloc (.cells #[.int .i64 s] 3)).alloc (.cells #[.int .i64 g] 3) = w' := by
  go_enter Try.func68, Try.ntmps68
  go_wp2
  go_ret
  exact ⟨rfl, rfl⟩

end Go.Proofs.Ythbjjjcppijcbaa.Dint

/- The iterator over the slots of a great table that one of a small table is parted into. -/
namespace Go.Proofs.Ythbjjjcppijcbaa.Dint
open Go.RowKit Pal
attribute [local go_sem] Oper.semAt_some

def slF (B1 Bg Bs : Nat) (k : Nat) : Prop := k = B1 ∨ k = Bg ∨ k = Bs
structure slB (B1 Bg Bs : Nat) (s g : Int) (u : Nat) (W : World) : Prop where
  b1 : Blk W B1 22 #[.int .u32 (u : Int)]
  bg : Blk W Bg 3 #[.int .i64 g]
  bs : Blk W Bs 3 #[.int .i64 s]
def slIt0 (a b B1 Bg Bs : Nat) (s g : Int) (r : List (Nat × Nat)) (W : World) : Prop := ∃ u, u < 4294967296 ∧ slB B1 Bg Bs s g u W ∧ r = slotsP a b (pos b u)
def slIt (B1 Bg Bs : Nat) (s g : Int) (_ : List (Nat × Nat)) (W : World) : Prop := ∃ u, slB B1 Bg Bs s g u W
theorem slB.far {B1 Bg Bs u : Nat} {s g : Int} {W W' : World} (h : slB B1 Bg Bs s g u W) (hF : ∀ k, slF B1 Bg Bs k → W'.heap[k]? = W.heap[k]?) : slB B1 Bg Bs s g u W' :=
  ⟨(hF _ (.inl rfl)).trans h.b1, (hF _ (.inr (.inl rfl))).trans h.bg, (hF _ (.inr (.inr rfl))).trans h.bs⟩
def slEnc (x : Nat × Nat) : Array Value := #[.int .i64 (x.1 : Int), .int .u32 (x.2 : Int)]

set_option maxRecDepth 100000 in
set_option maxHeartbeats 2000000 in
theorem slots_spec (a b B1 Bg Bs : Nat) (s g : Int) (hab : a ≤ b) (hb : b ≤ 16) (hs : s = ((2 ^ a : Nat) : Int)) (hg : g = ((2 ^ b : Nat) : Int)) (n1 : B1 ≠ Bg) (n2 : B1 ≠ Bs) :
    IterSpec Try.prog 83 #[.pointer (some ⟨B1, 0, none⟩), .pointer (some ⟨Bg, 0, none⟩), .pointer (some ⟨Bs, 0, none⟩)] slEnc (slF B1 Bg Bs) (fun k => k = B1) (slIt0 a b B1 Bg Bs s g) (slIt B1 Bg Bs s g) where
  cells := by
    rintro r W k ⟨u, _, h, _⟩ (rfl | rfl | rfl)
    · exact ⟨_, _, _, h.b1⟩
    · exact ⟨_, _, _, h.bg⟩
    · exact ⟨_, _, _, h.bs⟩
  sub := fun _ h => .inl h
  far0 := by
    rintro r W W' ⟨u, h1, h2, h3⟩ _ hF
    exact ⟨u, h1, h2.far hF, h3⟩
  far := by
    rintro r W W' ⟨u, h⟩ _ hF
    exact ⟨u, h.far hF⟩
  call := by
    intro l I Ix hI hIx hY c0 W h0 hit0
    have hp : (2 : Nat) ^ b ≤ 2 ^ 16 := pow_mono hb
    have h1p : 1 ≤ 2 ^ b := Nat.one_le_two_pow
    have hg1 : 1 ≤ g := by omega
    have hg2 : g ≤ 65536 := by omega
    have hmask := fun w => mask_any g w hg1 hg2
    have hnext := fun c w (hc : c < 4294967296) => next_any c b g w hg hc hb
    have hwithin := fun w => within_any a b s g w hab hb hs hg
    refine (callsIn_wide (n := 3)).1 ?_
    refine callsIn_of_wp Try.func83 rfl trivial ?_ rfl
    simp only [Try.ntmps83, List.size_toArray, List.length_cons, List.length_nil, Nat.reduceAdd, Nat.reduceSub, Array.replicate_succ, Array.replicate_zero, List.push_toArray, List.append_toArray, List.nil_append, List.cons_append]
    gi_wp2
    gi_loopw [5] (fun _ wr => ∃ n, ∃ r : List (Nat × Nat), r.length = n ∧ I r wr ∧ slIt0 a b B1 Bg Bs s g r wr) (fun _ wr => leastOf fun n => ∃ r : List (Nat × Nat), r.length = n ∧ I r wr ∧ slIt0 a b B1 Bg Bs s g r wr)
    case atStart => exact ⟨_, c0, rfl, h0, hit0⟩
    case round =>
      obtain ⟨⟨r, hr, hJr, u, hu, hB, hru⟩, _⟩ := leastOf_spec hrel
      have HR := Lib.hid hr
      have HRU := Lib.hid hru
      have c1 := hB.b1.cell 0
      have cg := hB.bg.cell 0
      have cs := hB.bs.cell 0
      have f1 := hB.b1.frozen 0
      simp only [List.getElem?_toArray, List.getElem?_cons_zero] at c1 cg cs
      have l1 := hB.b1.lt
      have lg := hB.bg.lt
      have ls := hB.bs.lt
      have hat : Hid (wrap64 (bits BinOp.and IntKind.u32 (u : Int) (g - 1)) = ((cur b (pos b u) : Nat) : Int)) := by
        show _ = _
        rw [hg, slot_bits u b hu hb, mod_cur (by omega) hu]
        have := cur_lt b (pos b u) (by omega) (pos_lt (by omega) u)
        exact IntWalk.wrap64_in _ ⟨by omega, by omega⟩
      have hnx : Hid (nextD u b = curW b (pos b u + 1)) := nextD_curW (by omega) u
      clear hr hrel hru hs hg
      gi_wp2
      refine wpIn_wide.2 ?_
      go_quiet ((go_at_call 66; exact Calls.quiet_of_same ((hmask _).mono fun _ _ hh => ⟨hh.1, hh.2.symm⟩)))
      have hdr : Chg (fun _ => False) wr (wr.drewN nq) := (Chg.refl _ wr).drewN nq
      have hB1 := hB.b1.chg hdr id
      gi_wp2_with fail
      refine ⟨trivial, ?_⟩
      refine (callsIn_wide.2 (hnext u _ hu)).mono ?_
      rintro e w' ⟨rfl, rfl⟩
      gi_wp2_with fail
      rw [hat.out, hnx.out]
      have hk1 : pos b u < 2 ^ b := pos_lt (by omega) u
      generalize hk : pos b u = k at *
      have hst : Chg (fun j => j = B1) (wr.drewN nq) ((wr.drewN nq).setCell ⟨B1, 0, none⟩ (.int .u32 (curW b (k + 1) : Int))) := (Chg.refl (fun j => j = B1) _).store rfl 0 _
      have hJ1 : I r ((wr.drewN nq).setCell ⟨B1, 0, none⟩ (.int .u32 (curW b (k + 1) : Int))) := hI _ _ _ (hI _ _ _ hJr (hdr.mono fun _ _ h => h.elim)) hst
      have hB2 : slB B1 Bg Bs s g (curW b (k + 1)) ((wr.drewN nq).setCell ⟨B1, 0, none⟩ (.int .u32 (curW b (k + 1) : Int))) :=
        ⟨hB1.set 0 _, (hB.bg.chg hdr id).chg hst (fun h => n1 h.symm), (hB.bs.chg hdr id).chg hst (fun h => n2 h.symm)⟩
      generalize (wr.drewN nq).setCell ⟨B1, 0, none⟩ (.int .u32 (curW b (k + 1) : Int)) = W1 at hst hJ1 hB2 ⊢
      clear c1 cg cs f1 l1 lg ls hB1 hB hJr hat hnx hu
      have hru := HRU.out
      rw [slotsP_cons] at hru
      have hkk := low_curW hab (by omega : b ≤ 32) (show k + 1 ≤ 2 ^ b by omega)
      have hpu : ¬ (k + 1) % 2 ^ (b - a) = 0 → pos b (curW b (k + 1)) = k + 1 := fun hz => by
        refine pos_curW (by omega) ?_
        rcases Nat.lt_or_ge (k + 1) (2 ^ b) with h' | h'
        · exact h'
        · have e : k + 1 = 2 ^ b := by omega
          rw [e, pow_up hab, Nat.mul_mod_left] at hz
          exact absurd rfl hz
      have hwz := within_zero (a := a) (b := b) (c := curW b (k + 1)) hab
      rw [Nat.mod_eq_of_lt (curW_lt (by omega) (by omega)), hkk] at hwz
      have hba : Hid (bits BinOp.and IntKind.u32 (curW b (k + 1) : Int) ((2 ^ b - 2 ^ a : Nat) : Int) = ((curW b (k + 1) &&& (2 ^ b - 2 ^ a) : Nat) : Int)) := u32_and_nat _ _ (curW_lt32 _ _) (Nat.lt_of_le_of_lt (Nat.sub_le _ _) (by omega))
      obtain ⟨rest, hrest⟩ : ∃ rest, (if (k + 1) % 2 ^ (b - a) = 0 then [] else slotsP a b (k + 1)) = rest := ⟨_, rfl⟩
      rw [hrest] at hru
      have HREST := Lib.hid hrest
      have HRU2 := Lib.hid hru
      rw [hru] at hJ1
      have hIt1 : slIt B1 Bg Bs s g ((cur b k, curW b (k + 1)) :: rest) W1.drew := ⟨_, hB2.b1, hB2.bg, hB2.bs⟩
      have hJd : I ((cur b k, curW b (k + 1)) :: rest) W1.drew := hI _ _ _ hJ1 ((Chg.refl _ W1).drew)
      obtain ⟨fn, tmps, assign, body, hy, hR⟩ := hY _ _ _ hJd hIt1
      have hu' : curW b (k + 1) < 4294967296 := curW_lt32 _ _
      have hlb : curW b (k + 1) < 2 ^ b := curW_lt (by omega) (by omega)
      generalize hq : curW b (k + 1) = u' at *
      generalize cur b k = at' at *
      have d1 := hB2.b1.drew.cell 0
      simp only [List.getElem?_toArray, List.getElem?_cons_zero] at d1
      simp only [slEnc] at hy
      clear hru hrest hk hk1 hst hdr hJd hIt1 hJ1
      refine wpIn_region_any (by kernel_rfl) ?_
      change wpAnyIn _ _ _ _ _ _ _ _ _ (World.drew _)
      simp only [List.size_toArray, List.length_cons, List.length_nil, Nat.reduceAdd, Array.replicate_succ, Array.replicate_zero, List.push_toArray, List.nil_append, List.cons_append]
      refine wpAnyIn_take (i := 0) (v := .func (.yield l) #[] #[]) rfl rfl (by kernel_rfl) (by kernel_rfl) (by kernel_rfl) (fun _ _ _ h => h) ⟨Or.inl ⟨by rfl, ?_⟩, fun _ => rfl⟩ ?_
      · intro w; go_simp
      refine wpAnyIn_take (i := 1) (v := .int .i64 (at' : Int)) rfl rfl (by kernel_rfl) (by kernel_rfl) (by kernel_rfl) (fun _ _ _ h => h) ⟨Or.inl ⟨by rfl, ?_⟩, fun _ => rfl⟩ ?_
      · intro w; go_simp
      refine wpAnyIn_ready (rs := [2]) (by kernel_rfl) (by simp) (AllReadyIn.cons rfl (fun K hK => ?_) AllReadyIn.nil)
      go_simp
      refine hK _ _ ?_
      clear hK K
      refine wpAnyIn_ready (rs := [3]) (by kernel_rfl) (by simp) (AllReadyIn.cons rfl (fun K hK => ?_) AllReadyIn.nil)
      go_simp
      refine hR.mono ?_
      rintro e W3 ⟨hsz, hF, ⟨rfl, hJ3⟩ | ⟨rfl, hx3⟩⟩
      · refine hK _ _ ?_
        clear hK K
        have hB3 := hB2.far (W' := W3) (fun k hk => hF k hk)
        have e1 := hB3.b1.cell 0
        have eg := hB3.bg.cell 0
        have es := hB3.bs.cell 0
        simp only [List.getElem?_toArray, List.getElem?_cons_zero] at e1 eg es
        repeat' (first
          | (refine wpAnyIn_done ?_ ?_ _; decide +kernel)
          | (refine wpAnyIn_ready (rs := [4]) ?_ ?_ ?_; decide +kernel; simp; refine (AllReadyIn.cons rfl (fun K hK => ?_) AllReadyIn.nil) <;> (go_simp; first | (refine hK _ _ ?_; clear hK K) | (refine ⟨trivial, ?_⟩; refine hK _ _ ?_; clear hK K) | (refine ⟨trivial, ?_⟩; refine (callsIn_wide.2 (hwithin _)).mono ?_; rintro e w' ⟨rfl, rfl⟩; refine hK _ _ ?_; clear hK K)))
          | (refine wpAnyIn_ready (rs := [5]) ?_ ?_ ?_; decide +kernel; simp; refine (AllReadyIn.cons rfl (fun K hK => ?_) AllReadyIn.nil) <;> (go_simp; first | (refine hK _ _ ?_; clear hK K) | (refine ⟨trivial, ?_⟩; refine hK _ _ ?_; clear hK K) | (refine ⟨trivial, ?_⟩; refine (callsIn_wide.2 (hwithin _)).mono ?_; rintro e w' ⟨rfl, rfl⟩; refine hK _ _ ?_; clear hK K)))
          | (refine wpAnyIn_ready (rs := [6, 7, 8]) ?_ ?_ ?_; decide +kernel; simp; refine (AllReadyIn.cons rfl (fun K hK => ?_) (AllReadyIn.cons rfl (fun K hK => ?_) (AllReadyIn.cons rfl (fun K hK => ?_) AllReadyIn.nil))) <;> (go_simp; first | (refine hK _ _ ?_; clear hK K) | (refine ⟨trivial, ?_⟩; refine hK _ _ ?_; clear hK K) | (refine ⟨trivial, ?_⟩; refine (callsIn_wide.2 (hwithin _)).mono ?_; rintro e w' ⟨rfl, rfl⟩; refine hK _ _ ?_; clear hK K)))
          | (refine wpAnyIn_ready (rs := [7, 8]) ?_ ?_ ?_; decide +kernel; simp; refine (AllReadyIn.cons rfl (fun K hK => ?_) (AllReadyIn.cons rfl (fun K hK => ?_) AllReadyIn.nil)) <;> (go_simp; first | (refine hK _ _ ?_; clear hK K) | (refine ⟨trivial, ?_⟩; refine hK _ _ ?_; clear hK K) | (refine ⟨trivial, ?_⟩; refine (callsIn_wide.2 (hwithin _)).mono ?_; rintro e w' ⟨rfl, rfl⟩; refine hK _ _ ?_; clear hK K)))
          | (refine wpAnyIn_ready (rs := [6, 8]) ?_ ?_ ?_; decide +kernel; simp; refine (AllReadyIn.cons rfl (fun K hK => ?_) (AllReadyIn.cons rfl (fun K hK => ?_) AllReadyIn.nil)) <;> (go_simp; first | (refine hK _ _ ?_; clear hK K) | (refine ⟨trivial, ?_⟩; refine hK _ _ ?_; clear hK K) | (refine ⟨trivial, ?_⟩; refine (callsIn_wide.2 (hwithin _)).mono ?_; rintro e w' ⟨rfl, rfl⟩; refine hK _ _ ?_; clear hK K)))
          | (refine wpAnyIn_ready (rs := [6, 7]) ?_ ?_ ?_; decide +kernel; simp; refine (AllReadyIn.cons rfl (fun K hK => ?_) (AllReadyIn.cons rfl (fun K hK => ?_) AllReadyIn.nil)) <;> (go_simp; first | (refine hK _ _ ?_; clear hK K) | (refine ⟨trivial, ?_⟩; refine hK _ _ ?_; clear hK K) | (refine ⟨trivial, ?_⟩; refine (callsIn_wide.2 (hwithin _)).mono ?_; rintro e w' ⟨rfl, rfl⟩; refine hK _ _ ?_; clear hK K)))
          | (refine wpAnyIn_ready (rs := [6, 9]) ?_ ?_ ?_; decide +kernel; simp; refine (AllReadyIn.cons rfl (fun K hK => ?_) (AllReadyIn.cons rfl (fun K hK => ?_) AllReadyIn.nil)) <;> (go_simp; first | (refine hK _ _ ?_; clear hK K) | (refine ⟨trivial, ?_⟩; refine hK _ _ ?_; clear hK K) | (refine ⟨trivial, ?_⟩; refine (callsIn_wide.2 (hwithin _)).mono ?_; rintro e w' ⟨rfl, rfl⟩; refine hK _ _ ?_; clear hK K)))
          | (refine wpAnyIn_ready (rs := [6]) ?_ ?_ ?_; decide +kernel; simp; refine (AllReadyIn.cons rfl (fun K hK => ?_) AllReadyIn.nil) <;> (go_simp; first | (refine hK _ _ ?_; clear hK K) | (refine ⟨trivial, ?_⟩; refine hK _ _ ?_; clear hK K) | (refine ⟨trivial, ?_⟩; refine (callsIn_wide.2 (hwithin _)).mono ?_; rintro e w' ⟨rfl, rfl⟩; refine hK _ _ ?_; clear hK K)))
          | (refine wpAnyIn_ready (rs := [7]) ?_ ?_ ?_; decide +kernel; simp; refine (AllReadyIn.cons rfl (fun K hK => ?_) AllReadyIn.nil) <;> (go_simp; first | (refine hK _ _ ?_; clear hK K) | (refine ⟨trivial, ?_⟩; refine hK _ _ ?_; clear hK K) | (refine ⟨trivial, ?_⟩; refine (callsIn_wide.2 (hwithin _)).mono ?_; rintro e w' ⟨rfl, rfl⟩; refine hK _ _ ?_; clear hK K)))
          | (refine wpAnyIn_ready (rs := [8]) ?_ ?_ ?_; decide +kernel; simp; refine (AllReadyIn.cons rfl (fun K hK => ?_) AllReadyIn.nil) <;> (go_simp; first | (refine hK _ _ ?_; clear hK K) | (refine ⟨trivial, ?_⟩; refine hK _ _ ?_; clear hK K) | (refine ⟨trivial, ?_⟩; refine (callsIn_wide.2 (hwithin _)).mono ?_; rintro e w' ⟨rfl, rfl⟩; refine hK _ _ ?_; clear hK K)))
          | (refine wpAnyIn_ready (rs := [9]) ?_ ?_ ?_; decide +kernel; simp; refine (AllReadyIn.cons rfl (fun K hK => ?_) AllReadyIn.nil) <;> (go_simp; first | (refine hK _ _ ?_; clear hK K) | (refine ⟨trivial, ?_⟩; refine hK _ _ ?_; clear hK K) | (refine ⟨trivial, ?_⟩; refine (callsIn_wide.2 (hwithin _)).mono ?_; rintro e w' ⟨rfl, rfl⟩; refine hK _ _ ?_; clear hK K)))
          | (refine wpAnyIn_ready (rs := [10]) ?_ ?_ ?_; decide +kernel; simp; refine (AllReadyIn.cons rfl (fun K hK => ?_) AllReadyIn.nil) <;> (go_simp; first | (refine hK _ _ ?_; clear hK K) | (refine ⟨trivial, ?_⟩; refine hK _ _ ?_; clear hK K) | (refine ⟨trivial, ?_⟩; refine (callsIn_wide.2 (hwithin _)).mono ?_; rintro e w' ⟨rfl, rfl⟩; refine hK _ _ ?_; clear hK K)))
          | (refine wpAnyIn_ready (rs := [11]) ?_ ?_ ?_; decide +kernel; simp; refine (AllReadyIn.cons rfl (fun K hK => ?_) AllReadyIn.nil) <;> (go_simp; first | (refine hK _ _ ?_; clear hK K) | (refine ⟨trivial, ?_⟩; refine hK _ _ ?_; clear hK K) | (refine ⟨trivial, ?_⟩; refine (callsIn_wide.2 (hwithin _)).mono ?_; rintro e w' ⟨rfl, rfl⟩; refine hK _ _ ?_; clear hK K)))
          | (refine wpAnyIn_ready (rs := [12]) ?_ ?_ ?_; decide +kernel; simp; refine (AllReadyIn.cons rfl (fun K hK => ?_) AllReadyIn.nil) <;> (go_simp; first | (refine hK _ _ ?_; clear hK K) | (refine ⟨trivial, ?_⟩; refine hK _ _ ?_; clear hK K) | (refine ⟨trivial, ?_⟩; refine (callsIn_wide.2 (hwithin _)).mono ?_; rintro e w' ⟨rfl, rfl⟩; refine hK _ _ ?_; clear hK K))))
        all_goals
          rw [hba.out]
          by_cases hz : (k + 1) % 2 ^ (b - a) = 0
          · have hr0 := HREST.out
            rw [if_pos hz] at hr0
            rw [hwz.2 hz]
            subst hr0
            gi_wp2
            refine bodyPost_ret (results_none rfl _ _ _) rfl ?_
            exact ⟨⟨_, rfl⟩, .inl hJ3⟩
          · have hr0 := HREST.out
            rw [if_neg hz] at hr0
            have hwne : (((u' &&& (2 ^ b - 2 ^ a) : Nat) : Int) == 0) = false := by
              rw [beq_eq_false_iff_ne]
              intro e
              exact hz (hwz.1 (by omega))
            rw [hwne]
            have HPU := Lib.hid (hpu hz)
            have HR0 := Lib.hid hr0
            clear hpu hr0 hwz hwne hba
            have hIt3 : slIt0 a b B1 Bg Bs s g rest W3 := ⟨u', hu', hB3, by rw [HPU.out]; exact HR0.out.symm⟩
            gi_wp2
            go_roundw
            case rel => exact ⟨_, rest, rfl, hJ3, hIt3⟩
            case measure =>
              rw [← HR.out]
              refine Nat.lt_of_le_of_lt ((leastOf_spec ⟨_, rest, rfl, hJ3, hIt3⟩).2 _ ⟨rest, rfl, hJ3, hIt3⟩) ?_
              rw [HRU2.out]
              exact Nat.lt_succ_self _
      · refine hK _ _ ?_
        clear hK K
        have hB3 := hB2.far (W' := W3) (fun k hk => hF k hk)
        have e1 := hB3.b1.cell 0
        have eg := hB3.bg.cell 0
        have es := hB3.bs.cell 0
        simp only [List.getElem?_toArray, List.getElem?_cons_zero] at e1 eg es
        repeat' (first
          | (refine wpAnyIn_done ?_ ?_ _; decide +kernel)
          | (refine wpAnyIn_ready (rs := [4]) ?_ ?_ ?_; decide +kernel; simp; refine (AllReadyIn.cons rfl (fun K hK => ?_) AllReadyIn.nil) <;> (go_simp; first | (refine hK _ _ ?_; clear hK K) | (refine ⟨trivial, ?_⟩; refine hK _ _ ?_; clear hK K) | (refine ⟨trivial, ?_⟩; refine (callsIn_wide.2 (hwithin _)).mono ?_; rintro e w' ⟨rfl, rfl⟩; refine hK _ _ ?_; clear hK K)))
          | (refine wpAnyIn_ready (rs := [5]) ?_ ?_ ?_; decide +kernel; simp; refine (AllReadyIn.cons rfl (fun K hK => ?_) AllReadyIn.nil) <;> (go_simp; first | (refine hK _ _ ?_; clear hK K) | (refine ⟨trivial, ?_⟩; refine hK _ _ ?_; clear hK K) | (refine ⟨trivial, ?_⟩; refine (callsIn_wide.2 (hwithin _)).mono ?_; rintro e w' ⟨rfl, rfl⟩; refine hK _ _ ?_; clear hK K)))
          | (refine wpAnyIn_ready (rs := [6, 7, 8]) ?_ ?_ ?_; decide +kernel; simp; refine (AllReadyIn.cons rfl (fun K hK => ?_) (AllReadyIn.cons rfl (fun K hK => ?_) (AllReadyIn.cons rfl (fun K hK => ?_) AllReadyIn.nil))) <;> (go_simp; first | (refine hK _ _ ?_; clear hK K) | (refine ⟨trivial, ?_⟩; refine hK _ _ ?_; clear hK K) | (refine ⟨trivial, ?_⟩; refine (callsIn_wide.2 (hwithin _)).mono ?_; rintro e w' ⟨rfl, rfl⟩; refine hK _ _ ?_; clear hK K)))
          | (refine wpAnyIn_ready (rs := [7, 8]) ?_ ?_ ?_; decide +kernel; simp; refine (AllReadyIn.cons rfl (fun K hK => ?_) (AllReadyIn.cons rfl (fun K hK => ?_) AllReadyIn.nil)) <;> (go_simp; first | (refine hK _ _ ?_; clear hK K) | (refine ⟨trivial, ?_⟩; refine hK _ _ ?_; clear hK K) | (refine ⟨trivial, ?_⟩; refine (callsIn_wide.2 (hwithin _)).mono ?_; rintro e w' ⟨rfl, rfl⟩; refine hK _ _ ?_; clear hK K)))
          | (refine wpAnyIn_ready (rs := [6, 8]) ?_ ?_ ?_; decide +kernel; simp; refine (AllReadyIn.cons rfl (fun K hK => ?_) (AllReadyIn.cons rfl (fun K hK => ?_) AllReadyIn.nil)) <;> (go_simp; first | (refine hK _ _ ?_; clear hK K) | (refine ⟨trivial, ?_⟩; refine hK _ _ ?_; clear hK K) | (refine ⟨trivial, ?_⟩; refine (callsIn_wide.2 (hwithin _)).mono ?_; rintro e w' ⟨rfl, rfl⟩; refine hK _ _ ?_; clear hK K)))
          | (refine wpAnyIn_ready (rs := [6, 7]) ?_ ?_ ?_; decide +kernel; simp; refine (AllReadyIn.cons rfl (fun K hK => ?_) (AllReadyIn.cons rfl (fun K hK => ?_) AllReadyIn.nil)) <;> (go_simp; first | (refine hK _ _ ?_; clear hK K) | (refine ⟨trivial, ?_⟩; refine hK _ _ ?_; clear hK K) | (refine ⟨trivial, ?_⟩; refine (callsIn_wide.2 (hwithin _)).mono ?_; rintro e w' ⟨rfl, rfl⟩; refine hK _ _ ?_; clear hK K)))
          | (refine wpAnyIn_ready (rs := [6, 9]) ?_ ?_ ?_; decide +kernel; simp; refine (AllReadyIn.cons rfl (fun K hK => ?_) (AllReadyIn.cons rfl (fun K hK => ?_) AllReadyIn.nil)) <;> (go_simp; first | (refine hK _ _ ?_; clear hK K) | (refine ⟨trivial, ?_⟩; refine hK _ _ ?_; clear hK K) | (refine ⟨trivial, ?_⟩; refine (callsIn_wide.2 (hwithin _)).mono ?_; rintro e w' ⟨rfl, rfl⟩; refine hK _ _ ?_; clear hK K)))
          | (refine wpAnyIn_ready (rs := [6]) ?_ ?_ ?_; decide +kernel; simp; refine (AllReadyIn.cons rfl (fun K hK => ?_) AllReadyIn.nil) <;> (go_simp; first | (refine hK _ _ ?_; clear hK K) | (refine ⟨trivial, ?_⟩; refine hK _ _ ?_; clear hK K) | (refine ⟨trivial, ?_⟩; refine (callsIn_wide.2 (hwithin _)).mono ?_; rintro e w' ⟨rfl, rfl⟩; refine hK _ _ ?_; clear hK K)))
          | (refine wpAnyIn_ready (rs := [7]) ?_ ?_ ?_; decide +kernel; simp; refine (AllReadyIn.cons rfl (fun K hK => ?_) AllReadyIn.nil) <;> (go_simp; first | (refine hK _ _ ?_; clear hK K) | (refine ⟨trivial, ?_⟩; refine hK _ _ ?_; clear hK K) | (refine ⟨trivial, ?_⟩; refine (callsIn_wide.2 (hwithin _)).mono ?_; rintro e w' ⟨rfl, rfl⟩; refine hK _ _ ?_; clear hK K)))
          | (refine wpAnyIn_ready (rs := [8]) ?_ ?_ ?_; decide +kernel; simp; refine (AllReadyIn.cons rfl (fun K hK => ?_) AllReadyIn.nil) <;> (go_simp; first | (refine hK _ _ ?_; clear hK K) | (refine ⟨trivial, ?_⟩; refine hK _ _ ?_; clear hK K) | (refine ⟨trivial, ?_⟩; refine (callsIn_wide.2 (hwithin _)).mono ?_; rintro e w' ⟨rfl, rfl⟩; refine hK _ _ ?_; clear hK K)))
          | (refine wpAnyIn_ready (rs := [9]) ?_ ?_ ?_; decide +kernel; simp; refine (AllReadyIn.cons rfl (fun K hK => ?_) AllReadyIn.nil) <;> (go_simp; first | (refine hK _ _ ?_; clear hK K) | (refine ⟨trivial, ?_⟩; refine hK _ _ ?_; clear hK K) | (refine ⟨trivial, ?_⟩; refine (callsIn_wide.2 (hwithin _)).mono ?_; rintro e w' ⟨rfl, rfl⟩; refine hK _ _ ?_; clear hK K)))
          | (refine wpAnyIn_ready (rs := [10]) ?_ ?_ ?_; decide +kernel; simp; refine (AllReadyIn.cons rfl (fun K hK => ?_) AllReadyIn.nil) <;> (go_simp; first | (refine hK _ _ ?_; clear hK K) | (refine ⟨trivial, ?_⟩; refine hK _ _ ?_; clear hK K) | (refine ⟨trivial, ?_⟩; refine (callsIn_wide.2 (hwithin _)).mono ?_; rintro e w' ⟨rfl, rfl⟩; refine hK _ _ ?_; clear hK K)))
          | (refine wpAnyIn_ready (rs := [11]) ?_ ?_ ?_; decide +kernel; simp; refine (AllReadyIn.cons rfl (fun K hK => ?_) AllReadyIn.nil) <;> (go_simp; first | (refine hK _ _ ?_; clear hK K) | (refine ⟨trivial, ?_⟩; refine hK _ _ ?_; clear hK K) | (refine ⟨trivial, ?_⟩; refine (callsIn_wide.2 (hwithin _)).mono ?_; rintro e w' ⟨rfl, rfl⟩; refine hK _ _ ?_; clear hK K)))
          | (refine wpAnyIn_ready (rs := [12]) ?_ ?_ ?_; decide +kernel; simp; refine (AllReadyIn.cons rfl (fun K hK => ?_) AllReadyIn.nil) <;> (go_simp; first | (refine hK _ _ ?_; clear hK K) | (refine ⟨trivial, ?_⟩; refine hK _ _ ?_; clear hK K) | (refine ⟨trivial, ?_⟩; refine (callsIn_wide.2 (hwithin _)).mono ?_; rintro e w' ⟨rfl, rfl⟩; refine hK _ _ ?_; clear hK K))))
        all_goals
          gi_wp2
          refine bodyPost_ret (results_none rfl _ _ _) rfl ?_
          exact ⟨⟨_, rfl⟩, .inr hx3⟩
end Go.Proofs.Ythbjjjcppijcbaa.Dint

/- Scan of a dict that is not moving. -/
namespace Go.Proofs.Ythbjjjcppijcbaa.Dint
open Go.RowKit Pal
attribute [local go_sem] Oper.semAt_some

theorem tab0_len (d : Dm) : tabLen d 0 = d.t0.len := rfl
theorem slot_in {a c : Nat} : c % 2 ^ a < 2 ^ a := Nat.mod_lt _ Nat.one_le_two_pow

set_option maxRecDepth 100000 in
set_option maxHeartbeats 2000000 in
theorem Scan_still (d : Dm) (a c : Nat) (w : World) (h : DmAt w d) (hok : d.Ok) (hn : d.n < 1000000) (ht : d.t1 = none) (ha : d.t0.len = 2 ^ a) (ha16 : a ≤ 16) (hc : c < 4294967296) :
    Calls Try.prog 34 #[ptr d.blk, .int .u32 (c : Int)] w fun e w' => (∃ v, e = .returned (.tuple #[v, .int .u32 (curW a (pos a c + 1) : Int)]) ∧ Strs w' w.heap.size v (keysAt d 0 (c % 2 ^ a))) ∧ Chg (fun _ => False) w w' := by
  have hbx : Blk (w.alloc (.cells #[ptr d.blk] 25)) w.heap.size 25 #[ptr d.blk] := Blk.new w _ _
  have hc0 : Chg (fun _ => False) w (w.alloc (.cells #[ptr d.blk] 25)) := (Chg.refl _ w).alloc _
  have hz := Sizes_any d _ (h.chg0 hc0)
  rw [ht, ha] at hz
  have h1p : 1 ≤ 2 ^ a := Nat.one_le_two_pow
  have hp : (2 : Nat) ^ a ≤ 2 ^ 16 := pow_mono ha16
  obtain ⟨g, hg⟩ : ∃ g : Int, g = ((2 ^ a : Nat) : Int) := ⟨_, rfl⟩
  have hg1 : 1 ≤ g := by omega
  have hg2 : g ≤ 65536 := by omega
  have hg0 : (g == 0) = false := by rw [beq_eq_false_iff_ne]; omega
  have hmask := fun w => mask_any g w hg1 hg2
  have hnext := fun w => next_any c a g w hg hc ha16
  have hga := fun B W (hC : Chg (fun _ => False) w W) hB hBl => gathered_any d 0 (c % 2 ^ a) B W (h.chg0 hC) hok (by omega) (by rw [tab0_len, ha]; exact slot_in) hn hB hBl
  have hat : Hid (IntKind.i64.wrap (bits BinOp.and IntKind.u32 (c : Int) (g - 1)) = ((c % 2 ^ a : Nat) : Int)) := by
    show _ = _
    rw [hg, slot_bits c a hc ha16]
    have := slot_in (a := a) (c := c)
    exact IntWalk.i64_in _ ⟨by omega, by omega⟩
  have hnx : Hid (nextD c a = curW a (pos a c + 1)) := nextD_curW (by omega) c
  rw [← hg] at hz
  simp only [Option.map_none, Option.getD_none] at hz
  clear ht ha hg
  generalize c % 2 ^ a = si at *
  unfold ptr at *
  go_enter Try.func34, Try.ntmps34
  go_wp2_with fail
  refine hz.mono ?_
  rintro e w1 ⟨rfl, hc1⟩
  have hb1 := hbx.chg hc1 id
  have hC1 := hc0.trans hc1
  have k0 := hb1.cell 0
  simp only [List.getElem?_toArray, List.getElem?_cons_zero] at k0
  have l0 := hb1.lt
  clear hz hbx hc0 hc1
  go_wp2_with fail
  refine wp_region_heldF 12 (fun W => Blk W w.heap.size 25 #[.pointer (some ⟨d.blk, 0, none⟩)]) (by kernel_rfl) ?_
  simp only [List.size_toArray, List.length_cons, List.length_nil, Nat.reduceAdd, Array.replicate_succ, Array.replicate_zero, List.push_toArray, List.nil_append, List.cons_append]
  refine wpAnyF_take 0 (v := .pointer (some ⟨d.blk, 0, none⟩)) rfl (by kernel_rfl) (by kernel_rfl) (by kernel_rfl) (by kernel_rfl) (fun _ _ _ h => h) hb1.drew (by rfl) ?_ ?_
  · intro W hS
    have k := hS.cell 0
    simp only [List.getElem?_toArray, List.getElem?_cons_zero] at k
    go_simp
  refine wpAnyF_take 1 (v := .int .u32 (c : Int)) rfl (by kernel_rfl) (by kernel_rfl) (by kernel_rfl) (by kernel_rfl) (fun _ _ _ h => h) hb1.drew (by rfl) ?_ ?_
  · intro W hS
    go_simp
  refine wpAnyF_take 2 (v := .int .i64 g) rfl (by kernel_rfl) (by kernel_rfl) (by kernel_rfl) (by kernel_rfl) (fun _ _ _ h => h) hb1.drew (by rfl) ?_ ?_
  · intro W hS
    go_simp
  refine wpAnyF_take 8 (v := .int .u32 (c : Int)) rfl (by kernel_rfl) (by kernel_rfl) (by kernel_rfl) (by kernel_rfl) (fun _ _ _ h => h) hb1.drew (by rfl) ?_ ?_
  · intro W hS
    go_simp
  refine wpAnyF_take 9 (v := .int .i64 g) rfl (by kernel_rfl) (by kernel_rfl) (by kernel_rfl) (by kernel_rfl) (fun _ _ _ h => h) hb1.drew (by rfl) ?_ ?_
  · intro W hS
    go_simp
  refine wpAnyF_one 3 (by kernel_rfl) rfl (fun K hK => ?_)
  go_simp
  refine (hmask _).mono ?_
  rintro e w' ⟨rfl, rfl⟩
  refine hK _ _ (fun _ => hb1.drew) ?_
  clear hK K
  refine wpAnyF_take 4 (v := .int .u32 (bits BinOp.and IntKind.u32 (c : Int) (g - 1))) rfl (by kernel_rfl) (by kernel_rfl) (by kernel_rfl) (by kernel_rfl) (fun _ _ _ h => h) hb1.drew (by rfl) ?_ ?_
  · intro W hS
    go_simp
  refine wpAnyF_take 5 (v := .int .i64 (IntKind.i64.wrap (bits BinOp.and IntKind.u32 (c : Int) (g - 1)))) rfl (by kernel_rfl) (by kernel_rfl) (by kernel_rfl) (by kernel_rfl) (fun _ _ _ h => h) hb1.drew (by rfl) ?_ ?_
  · intro W hS
    go_simp
  rw [hat.out]
  refine wpAnyF_one 6 (by kernel_rfl) rfl (fun K hK => ?_)
  go_simp
  have hcA : Chg (fun _ => False) w1 (w1.alloc (Obj.cells #[Value.int IntKind.i64 (si : Int)] 3)).drew := ((Chg.refl _ w1).alloc _).drew
  have hbA : Blk (w1.alloc (Obj.cells #[Value.int IntKind.i64 (si : Int)] 3)).drew w1.heap.size 3 #[.int .i64 (si : Int)] := (Blk.new w1 _ _).drew
  refine hK _ _ (fun _ => hb1.chg hcA id) ?_
  clear hK K
  refine wpAnyF_one 7 (by kernel_rfl) rfl (fun K hK => ?_)
  go_simp
  refine (hga _ _ (hC1.trans hcA) (hbA.cell 0) hbA.lt).mono ?_
  rintro e W2 ⟨⟨v, rfl, hs⟩, hc2⟩
  refine hK _ _ (fun _ => (hb1.chg hcA id).chg hc2 id) ?_
  clear hK K
  refine wpAnyF_one 10 (by kernel_rfl) rfl (fun K hK => ?_)
  go_simp
  refine (hnext _).mono ?_
  rintro e w' ⟨rfl, rfl⟩
  refine hK _ _ (fun _ => (hb1.chg hcA id).chg hc2 id) ?_
  clear hK K
  refine wpAnyF_one 11 (by kernel_rfl) rfl (fun K hK => ?_)
  go_simp
  refine hK _ _ (fun _ => (hb1.chg hcA id).chg hc2 id) ?_
  clear hK K
  refine wpAnyF_one 12 (by kernel_rfl) rfl (fun K hK => ?_)
  go_simp
  refine hK _ _ (fun h => absurd rfl h) ?_
  clear hK K
  refine wpAnyF_done (by kernel_rfl) ?_ _
  rw [hnx.out]
  go_wp2_with fail
  go_ret2
  exact ⟨⟨v, rfl, hs.lower (Nat.le_trans hC1.size hcA.size)⟩, (hC1.trans hcA).trans hc2⟩

end Go.Proofs.Ythbjjjcppijcbaa.Dint
