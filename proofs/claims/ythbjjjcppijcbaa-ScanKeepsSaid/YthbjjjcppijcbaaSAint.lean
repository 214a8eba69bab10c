/- All of a scan. -/
import Derived.Test.YthbjjjcppijcbaaSP2int
import Derived.Outline
namespace Go.Proofs.Ythbjjjcppijcbaa.Dint
open Go.RowKit Pal
attribute [local go_sem] Oper.semAt_some

def allN (d : Dm) (k : Nat) : List ByteArray := (List.range k).flatMap fun q => scanL d (cur (scanA d) q)
def allL (d : Dm) : List ByteArray := allN d (2 ^ scanA d)
theorem allN_succ (d : Dm) (k : Nat) : allN d (k + 1) = allN d k ++ scanL d (cur (scanA d) k) := by
  unfold allN; rw [List.range_succ, List.flatMap_append]; simp
theorem filter_lt_succ {α : Type} (f : α → Nat) (k : Nat) : ∀ l : List α, (l.filter (fun x => decide (f x < k)) ++ l.filter (fun x => decide (f x = k))).Perm (l.filter fun x => decide (f x < k + 1))
  | [] => List.Perm.refl _
  | x :: l => by
    have ih := filter_lt_succ f k l
    by_cases h1 : f x < k
    · have h2 : ¬ f x = k := by omega
      have h3 : f x < k + 1 := by omega
      rw [List.filter_cons_of_pos (by simpa using h1), List.filter_cons_of_neg (by simpa using h2), List.filter_cons_of_pos (by simpa using h3), List.cons_append]
      exact ih.cons x
    · by_cases h2 : f x = k
      · have h3 : f x < k + 1 := by omega
        rw [List.filter_cons_of_neg (by simpa using h1), List.filter_cons_of_pos (by simpa using h2), List.filter_cons_of_pos (by simpa using h3)]
        exact List.perm_middle.trans (ih.cons x)
      · have h3 : ¬ f x < k + 1 := by omega
        rw [List.filter_cons_of_neg (by simpa using h1), List.filter_cons_of_neg (by simpa using h2), List.filter_cons_of_neg (by simpa using h3)]
        exact ih
theorem allN_perm {d : Dm} (hok : d.Ok) : ∀ k, k ≤ 2 ^ scanA d → (allN d k).Perm ((d.nodes.filter fun x => decide (pos (scanA d) x.sum < k)).map (·.key))
  | 0, _ => by
    have e : d.nodes.filter (fun x => decide (pos (scanA d) x.sum < 0)) = [] := by
      rw [List.filter_eq_nil_iff]
      intro x _ h
      exact absurd (of_decide_eq_true h) (Nat.not_lt_zero _)
    rw [e]; exact List.Perm.refl _
  | k + 1, h => by
    rw [allN_succ]
    refine ((allN_perm hok k (by omega)).append (scan_once hok (by omega))).trans ?_
    rw [← List.map_append]
    exact (filter_lt_succ (fun x : Nd => pos (scanA d) x.sum) k d.nodes).map _
theorem allL_perm {d : Dm} (hok : d.Ok) : (allL d).Perm (d.nodes.map (·.key)) := by
  have h := allN_perm hok _ (Nat.le_refl _)
  have hA := scanA_le hok
  have e : d.nodes.filter (fun x => decide (pos (scanA d) x.sum < 2 ^ scanA d)) = d.nodes := List.filter_eq_self.2 fun x _ => by simpa using pos_lt (by omega) x.sum
  rw [e] at h
  exact h
theorem allN_len {d : Dm} (hok : d.Ok) {k : Nat} (hk : k ≤ 2 ^ scanA d) : (allN d k).length ≤ d.n := by
  rw [(allN_perm hok k hk).length_eq, List.length_map, hok.count]
  exact List.length_filter_le _ _
theorem scanC_cur {d : Dm} (hok : d.Ok) {k : Nat} (hk : k < 2 ^ scanA d) : scanC d (cur (scanA d) k) = curW (scanA d) (k + 1) := by
  have hA := scanA_le hok
  unfold scanC; rw [pos_cur (by omega) hk]
theorem curW_ne {a k : Nat} (ha : a ≤ 32) (h0 : 0 < k) (hk : k < 2 ^ a) : curW a k ≠ 0 := by
  unfold curW
  rw [if_neg (by omega), ← cur_zero a]
  intro e
  have := cur_inj a ha hk Nat.one_le_two_pow e
  omega
theorem curW_eq {a k : Nat} (hk : k < 2 ^ a) : curW a k = cur a k := by unfold curW; rw [if_neg (by omega)]
theorem curW_full (a : Nat) : curW a (2 ^ a) = 0 := by unfold curW; rw [if_pos rfl]

theorem all20 {P : Array Value → Prop} (h : ∀ u0 u1 u2 u3 u4 u5 u6 u7 u8 u9 u10 u11 u12 u13 u14 u15 u16 u17 u18 u19 : Value, P #[u0, u1, u2, u3, u4, u5, u6, u7, u8, u9, u10, u11, u12, u13, u14, u15, u16, u17, u18, u19]) (a : Array Value) (hs : a.size = 20) : P a := by
  obtain ⟨l⟩ := a
  have g0 : l.length = 20 := hs
  clear hs
  obtain ⟨u0, l0, e0, g1⟩ := Pal.len_cons g0
  obtain ⟨u1, l1, e1, g2⟩ := Pal.len_cons g1
  obtain ⟨u2, l2, e2, g3⟩ := Pal.len_cons g2
  obtain ⟨u3, l3, e3, g4⟩ := Pal.len_cons g3
  obtain ⟨u4, l4, e4, g5⟩ := Pal.len_cons g4
  obtain ⟨u5, l5, e5, g6⟩ := Pal.len_cons g5
  obtain ⟨u6, l6, e6, g7⟩ := Pal.len_cons g6
  obtain ⟨u7, l7, e7, g8⟩ := Pal.len_cons g7
  obtain ⟨u8, l8, e8, g9⟩ := Pal.len_cons g8
  obtain ⟨u9, l9, e9, g10⟩ := Pal.len_cons g9
  obtain ⟨u10, l10, e10, g11⟩ := Pal.len_cons g10
  obtain ⟨u11, l11, e11, g12⟩ := Pal.len_cons g11
  obtain ⟨u12, l12, e12, g13⟩ := Pal.len_cons g12
  obtain ⟨u13, l13, e13, g14⟩ := Pal.len_cons g13
  obtain ⟨u14, l14, e14, g15⟩ := Pal.len_cons g14
  obtain ⟨u15, l15, e15, g16⟩ := Pal.len_cons g15
  obtain ⟨u16, l16, e16, g17⟩ := Pal.len_cons g16
  obtain ⟨u17, l17, e17, g18⟩ := Pal.len_cons g17
  obtain ⟨u18, l18, e18, g19⟩ := Pal.len_cons g18
  obtain ⟨u19, l19, e19, g20⟩ := Pal.len_cons g19
  obtain rfl := List.eq_nil_of_length_eq_zero g20
  have e : (⟨l⟩ : Array Value) = #[u0, u1, u2, u3, u4, u5, u6, u7, u8, u9, u10, u11, u12, u13, u14, u15, u16, u17, u18, u19] := by rw [e0, e1, e2, e3, e4, e5, e6, e7, e8, e9, e10, e11, e12, e13, e14, e15, e16, e17, e18, e19]
  rw [e]
  exact h u0 u1 u2 u3 u4 u5 u6 u7 u8 u9 u10 u11 u12 u13 u14 u15 u16 u17 u18 u19

def AllI (w0 : World) (d : Dm) (n : Nat) (x : Act) (W : World) : Prop :=
  ∃ k v, n = 2 ^ scanA d - k ∧ k < 2 ^ scanA d ∧ x.tmps.size = 20 ∧ x.tmps[0]? = some (.pointer (some ⟨d.blk, 0, none⟩)) ∧ x.tmps[3]? = some v ∧ x.tmps[4]? = some (.int .u32 ((cur (scanA d) k : Nat) : Int)) ∧ x.defers = [] ∧ Strs W w0.heap.size v (allN d k) ∧ Chg (fun _ => False) w0 W

set_option maxRecDepth 100000 in
set_option maxHeartbeats 1000000 in
theorem All_any (d : Dm) (w : World) (h : DmAt w d) (hok : d.Ok) (hn : d.n < 1000000) :
    Calls Try.prog 38 #[ptr d.blk] w fun e w' => (∃ v, e = .returned v ∧ Strs w' w.heap.size v (allL d)) ∧ Chg (fun _ => False) w w' := by
  obtain ⟨i0, hi0, hz0, hz1, hz2⟩ := info_parts str_info
  obtain ⟨hA2, hA⟩ := scanA_le hok
  have hp : 1 ≤ 2 ^ scanA d := Nat.one_le_two_pow
  have hsc := fun c W (hC : Chg (fun _ => False) w W) (hc : c < 4294967296) => Scan_i d c W (h.chg0 hC) hok hn hc
  unfold ptr at *
  go_enter Try.func38, Try.ntmps38
  go_wp2_with fail
  go_step3
  go_wp2_with fail
  go_step3
  go_wp2_with fail
  refine wp_loop_ghost (AllI w d) (2 ^ scanA d) ?_ ?_
  · exact ⟨0, _, by omega, hp, rfl, rfl, rfl, by rw [cur_zero]; rfl, rfl, Strs.nil _ _, Chg.refl _ _⟩
  · rintro m ⟨tmps, ds⟩ W ⟨k, v, rfl, hk, hsz, t0, t3, t4, rfl, hv, hC⟩
    replace hsz : tmps.size = 20 := hsz
    dsimp only at t0 t3 t4
    revert t0 t3 t4
    revert hsz
    revert tmps
    refine all20 ?_
    intro u0 u1 u2 u3 u4 u5 u6 u7 u8 u9 u10 u11 u12 u13 u14 u15 u16 u17 u18 u19 t0 t3 t4
    simp only [List.getElem?_toArray, List.getElem?_cons_zero, List.getElem?_cons_succ, Option.some.injEq] at t0 t3 t4
    subst t0 t3 t4
    have hsc1 := hsc (cur (scanA d) k) W hC (cur_lt32 _ _)
    rw [scanC_cur hok hk] at hsc1
    have hl1 := allN_len hok (k := k + 1) (by omega)
    rw [allN_succ, List.length_append] at hl1
    have HSU := Lib.hid (allN_succ d k)
    go_wp2_with fail
    refine hsc1.mono ?_
    rintro e W2 ⟨⟨v2, rfl, hs2⟩, hC2⟩
    have hv2 := hv.chg hC2 (fun _ _ => id)
    obtain ⟨pa, ca, rfl, hpa⟩ := hs2.is
    have hA' : (allN d k).length + (scanL d (cur (scanA d) k)).length ≤ maxLen := by unfold maxLen; omega
    have hB : ((allN d k).length + (scanL d (cur (scanA d) k)).length) * 16 ≤ 140737488355328 := by omega
    have hD : w.heap.size ≤ W2.heap.size := Nat.le_trans hC.size hC2.size
    clear hsc hsc1
    by_cases hlast : k + 1 = 2 ^ scanA d
    · rw [hlast, curW_full]
      have HLA := Lib.hid hlast
      clear hlast
      go_wp2_with (at_builtin; refine wpList_append_any _ rfl (.tmp 13) (.tmp 14) 38 rfl w.heap.size 9 i0 _ 1 16 Try.underlying38 hi0 hz0 hz1 hz2 rfl (by omega) _ _ _ rfl hv2.own W2.heap.size pa _ ca _ rfl hs2.reads (strs_one _) hA' hB hD ?_; intro v3 w3 hown3 hg3 hat3)
      rw [Exit.noGoto_ret]
      go_ret
      refine ⟨⟨_, rfl, ?_⟩, (hC.trans hC2).trans' (app_chg hv2 hg3) fun g hg h' => by omega⟩
      unfold allL
      rw [← HLA.out]
      exact Strs.mk hown3 (by rw [HSU.out]; simp) (by rw [HSU.out]; simp)
    · have hlt : k + 1 < 2 ^ scanA d := by omega
      have hne := curW_ne (a := scanA d) (by omega) (Nat.succ_pos k) hlt
      rw [curW_eq hlt] at hne ⊢
      have hne1 : (((cur (scanA d) (k + 1) : Nat) : Int) == 0) = false := by rw [beq_eq_false_iff_ne]; omega
      have HNE := Lib.hid hne
      clear hlast hne
      go_wp2_with (at_builtin; refine wpList_append_any _ rfl (.tmp 13) (.tmp 14) 38 rfl w.heap.size 9 i0 _ 1 16 Try.underlying38 hi0 hz0 hz1 hz2 rfl (by omega) _ _ _ rfl hv2.own W2.heap.size pa _ ca _ rfl hs2.reads (strs_one _) hA' hB hD ?_; intro v3 w3 hown3 hg3 hat3)
      exact ⟨2 ^ scanA d - (k + 1), by omega, k + 1, _, rfl, hlt, rfl, rfl, rfl, rfl, rfl, Strs.mk hown3 (by rw [HSU.out]; simp) (by rw [HSU.out]; simp), (hC.trans hC2).trans' (app_chg hv2 hg3) fun g hg h' => by omega⟩

/-- Nothing is told of a nil dict. -/
theorem Scan_nil (c : Nat) (w : World) :
    Calls Try.prog 34 #[.pointer none, .int .u32 (c : Int)] w fun e w' => e = .returned (.tuple #[.slice none 0 0, .int .u32 0]) ∧ Chg (fun _ => False) w w' := by
  have hz := Sizes_nil (w.alloc (Obj.cells #[.pointer none] 25))
  have hb := (Blk.new w 25 #[.pointer none]).cell 0
  simp only [List.getElem?_toArray, List.getElem?_cons_zero] at hb
  go_enter Try.func34, Try.ntmps34
  go_wp2_with fail
  refine hz.mono ?_
  rintro e w1 ⟨rfl, rfl⟩
  go_wp2_with fail
  go_ret2
  exact ⟨rfl, (Chg.refl _ w).alloc _⟩

set_option maxRecDepth 100000 in
set_option maxHeartbeats 1000000 in
theorem All_nil (w : World) : Calls Try.prog 38 #[.pointer none] w fun e w' => (∃ v, e = .returned v ∧ Strs w' w.heap.size v []) ∧ Chg (fun _ => False) w w' := by
  obtain ⟨i0, hi0, hz0, hz1, hz2⟩ := info_parts str_info
  have hs := Scan_nil 0 w
  go_enter Try.func38, Try.ntmps38
  go_wp2_with fail
  go_step3
  go_wp2_with fail
  go_step3
  go_wp2_with fail
  refine wp_loop_rounds 1 ?_
  rw [rounds_succ]
  go_wp2_with fail
  refine hs.mono ?_
  rintro e w1 ⟨rfl, hc1⟩
  go_wp2_with (at_builtin; refine wpList_append_any _ rfl (.tmp 13) (.tmp 14) 38 rfl w1.heap.size 9 i0 _ 1 16 Try.underlying38 hi0 hz0 hz1 hz2 rfl (by omega) (.slice none 0 0) 0 [] rfl (World.ownsRow_nil _ _ _ _) w1.heap.size none 0 0 [] rfl Reads.none_ (by simp) (by simp [maxLen]) (by omega) (Nat.le_refl _) ?_; intro v3 w3 hown3 hg3 hat3)
  rw [Exit.noGoto_ret]
  go_ret
  exact ⟨⟨_, rfl, Strs.lower (Strs.mk hown3 rfl rfl) hc1.size⟩, hc1.trans (Chg.of_grown hg3 fun _ h => (by cases h))⟩

end Go.Proofs.Ythbjjjcppijcbaa.Dint
