/- Texts joined for ZsetWays: SKN, SKC, SKJ. -/
import Derived.Test.YtifcpippfiglkaaGreatJZsetWaysi
import Derived.Test.YtifcpippfiglkaaGreatJZsetWaysl
import Derived.Stop.RegionWithIn
import Derived.Outline
import Derived.Deep.LoopGhost
import Derived.LaidEqlPtr
set_option linter.unusedVariables false
set_option linter.unusedSimpArgs false

/- skip: nodes, Range. -/
namespace Go.Proofs.YtifcpippfiglkaaGreat
open Go.RowKit Pal Pal.Skip
attribute [local go_sem] Oper.semAt_some

theorem SkAt.same {w w' : World} {base : Nat} {s : Sk} (h : SkAt w base s) (hF : ∀ k, s.foot k → w'.heap[k]? = w.heap[k]?) : SkAt w' base s :=
  ⟨⟨fun p hp => by obtain ⟨cs, hb, hi⟩ := h.v.nd p hp; exact ⟨cs, (hF _ ⟨p, hp, rfl⟩).trans hb, hi⟩, h.v.inj, h.v.ge⟩, h.lo⟩
def items (s : Sk) (i j : Int) : List Sn := (s.ns.drop (clampN s.n i)).take (max (clampN s.n i) (clampN s.n j) - clampN s.n i)
theorem items_get {s : Sk} {i j : Int} {k : Nat} {x : Sn} (h : (items s i j)[k]? = some x) : s.ns[clampN s.n i + k]? = some x := by
  unfold items at h
  rw [List.getElem?_take] at h
  split at h
  · rwa [List.getElem?_drop] at h
  · cases h
theorem items_len (s : Sk) (i j : Int) : (items s i j).length = max (clampN s.n i) (clampN s.n j) - clampN s.n i := by
  unfold items
  have : s.ns.length = s.n := rfl
  have h1 : clampN s.n i ≤ s.n := Nat.min_le_right _ _
  have h2 : clampN s.n j ≤ s.n := Nat.min_le_right _ _
  rw [List.length_take, List.length_drop]; omega
structure NdBox (W : World) (s : Sk) (a : Nat) (i j : Int) : Prop where
  l : Blk W a 95 #[pt s.blk]
  i : Blk W (a + 1) 3 #[.int .i64 i]
  j : Blk W (a + 2) 3 #[.int .i64 j]
def ndF (s : Sk) (a : Nat) (g : Nat) : Prop := s.foot g ∨ g = a ∨ g = a + 1 ∨ g = a + 2
def ndIt (s : Sk) (base : Nat) (i j : Int) (r : List Sn) (W : World) : Prop := SkAt W base s ∧ ∃ pre, pre ++ r = items s i j
def ndIt0 (s : Sk) (base a : Nat) (i j : Int) (r : List Sn) (W : World) : Prop := SkAt W base s ∧ NdBox W s a i j ∧ r = items s i j

set_option maxRecDepth 100000 in
set_option maxHeartbeats 4000000 in
theorem nodes1_any (s : Sk) (base a : Nat) (i j : Int) (hn : s.n ≤ 10000) (l : Nat) (I : List Sn → World → Prop) (Ix : World → Prop) (hI : ∀ r W W', I r W → Chg (fun _ => False) W W' → I r W')
    (hY : ∀ x r W, I (x :: r) W → ndIt s base i j (x :: r) W → YieldAt Fence.wide 2 Tryz.prog l #[pt x.blk] W fun e W' => W.heap.size ≤ W'.heap.size ∧ (∀ k, ndF s a k → W'.heap[k]? = W.heap[k]?) ∧ ((e = .returned (.bool true) ∧ I r W') ∨ (e = .returned (.bool false) ∧ Ix W')))
    (w : World) (h0 : I (items s i j) w) (h : SkAt w base s) (hb : NdBox w s a i j) :
    Calls Tryz.prog 189 #[.func (.yield l) #[] #[], pt a, pt (a + 1), pt (a + 2)] w fun e W' => (∃ v, e = .returned v) ∧ (I [] W' ∨ Ix W') := by
  have b0 := hb.l.cell 0
  have b1 := hb.i.cell 0
  have b2 := hb.j.cell 0
  have l0 := hb.l.lt
  have l1 := hb.i.lt
  have l2 := hb.j.lt
  simp only [List.getElem?_toArray, List.getElem?_cons_zero] at b0 b1 b2
  have hwi := within_any s i j w base h
  have hlen := items_len s i j
  have hget := @items_get s i j
  have hc1 : clampN s.n i ≤ s.n := Nat.min_le_right _ _
  have hc2 : clampN s.n j ≤ s.n := Nat.min_le_right _ _
  have hun := fun w (h : SkAt w base s) => until_any s (clampN s.n i) w base h hc1 (by omega)
  generalize clampN s.n i = f at hwi hlen hget hc1 hun
  have ht2 : max f (clampN s.n j) ≤ s.n := by omega
  have ht1 : f ≤ max f (clampN s.n j) := by omega
  generalize max f (clampN s.n j) = t at hwi hlen ht1 ht2
  clear hc2
  unfold ndIt at hY
  generalize items s i j = L at hlen hget hY h0
  have htop := h.top_le
  by_cases hft : f = t
  · subst hft
    have hL : L = [] := List.eq_nil_of_length_eq_zero (by omega)
    subst hL
    unfold pt at hwi b0 ⊢
    go_enter Tryz.func189, Tryz.ntmps189
    go_wp2_with (go_at_call 186; refine hwi.mono ?_; rintro r w1 ⟨rfl, rfl⟩)
    refine bodyPost_ret (results_none rfl _ _ _) rfl ?_
    exact ⟨⟨_, rfl⟩, .inl h0⟩
  · have hne : ((f : Int) == (t : Int)) = false := by rw [beq_eq_false_iff_ne]; omega
    have htop0 : 0 < top s.lv := by
      have := h.top0
      omega
    have hzN : nil32.size = 32 := rfl
    have hzP : zero32.size = 32 := rfl
    have hlN : (s.nodesL f 0).length = 32 := by unfold Sk.nodesL; simp
    have hlP : (s.placesL f 0).length = 32 := by unfold Sk.placesL; simp
    have hN0 := s.nodesL_get f (j := 0) (by omega) (by omega)
    rw [h.prev0 hc1] at hN0
    have hfs : f < s.n := by omega
    have hk0 : f = 0 ∨ ab s.lv 0 f := by
      rcases Nat.eq_zero_or_pos f with e | e
      · exact .inl e
      · exact .inr (h.lv_pos e hc1)
    have HL := Lib.hid hlen
    clear hlen
    unfold pt at hwi b0 hun ⊢
    go_enter Tryz.func189, Tryz.ntmps189
    go_wp2_with (first | (go_at_call 186; refine hwi.mono ?_; rintro r w1 ⟨rfl, rfl⟩) | (go_at_call 187; refine (hun _ h).mono ?_; rintro r w4 ⟨rfl, hC4⟩) | (show wpList _ _ _ (Oper.mk _ (Op.store 163 _ _) _ _ _ _ :: _) _ _; refine wpList_store_new rfl 163 _ _ rfl w4.heap.size (s.nodesL f 0) rfl rfl (two32 w4).1 hlN (by rw [hzN]; kernel_rfl) (s.nodesL_one _ _) ?_; intro w5 hb5 ho5 hc5) | (show wpList _ _ _ (Oper.mk _ (Op.store 164 _ _) _ _ _ _ :: _) _ _; refine wpList_store_new rfl 164 _ _ rfl (w4.heap.size + 1) (s.placesL f 0) rfl rfl ((two32 w4).2.other (ho5 _ (by omega))) hlP (by rw [hzP]; kernel_rfl) (s.placesL_one _ _) ?_; intro w6 hb6 ho6 hc6; have hC6 : Chg (fun _ => False) w w6 := hc6 (fun h => by have := hC4.size; omega) (hc5 (fun h => by have := hC4.size; omega) ((hC4.alloc _).alloc _)); have hbN := hb5.other (ho6 _ (by omega)); have hS6 := h.chg0 hC6; have h6 := hI _ _ _ h0 hC6; have n0 := hbN.cell 0; rw [List.getElem?_toArray, hN0] at n0; have lk := (hS6.link (p := f) (i := 0) hk0 (by omega)).1; simp only [Nat.zero_mul, Nat.add_zero] at lk; have hlk := lk; rw [h.nxt0, if_pos hfs] at lk; simp only [Sk.go] at lk; unfold pt at lk n0; clear hlk hb5 hb6 ho5 ho6 hc5 hc6 hC4 hun hwi hbN b0 b1 b2 l0 l1 l2))
    clear h0 h hb hC6 n0 lk hN0 hk0
    have htf : (t : Int) ≤ 10000 := by omega
    have htf2 : (f : Int) ≤ (t : Int) := by omega
    refine (wpIn_wide (n := 3)).1 ?_
    gi_loopg [9, 36] L.length (fun m vx vi W => ∃ pre r, pre ++ r = L ∧ m = r.length ∧ vi = .int .i64 (pre.length : Int) ∧ vx = s.go (nxt s.lv 0 (f + pre.length)) ∧ I r W ∧ SkAt W base s)
    case atStart => exact ⟨[], L, rfl, rfl, rfl, by rw [hS6.nxt0, List.length_nil, if_pos (show f + 0 < s.n from hfs)]; rfl, h6, hS6⟩
    case round =>
      clear hS6 h6
      obtain ⟨pre, r, hpr, rfl, rfl, hvx, hIr, hS⟩ := hrel
      have hl2 : pre.length + r.length = t - f := by rw [← HL.out, ← hpr, List.length_append]
      have HPR := Lib.hid hpr
      have HVX := Lib.hid hvx
      clear hpr hvx
      cases r with
      | nil =>
        have h1 : ¬ (pre.length : Int) < (t : Int) - (f : Int) := by rw [List.length_nil] at hl2; omega
        have HL2 := Lib.hid hl2
        clear hl2
        gi_wp2
        go_end0
        exact ⟨⟨_, rfl⟩, .inl hIr⟩
      | cons y r =>
        rw [List.length_cons] at hl2
        have h1 : (pre.length : Int) < (t : Int) - (f : Int) := by omega
        have hy : s.ns[f + pre.length]? = some y := hget (by rw [← HPR.out]; simp)
        have hps : f + pre.length < s.n := by omega
        obtain ⟨_, _, _, _, xl, xat⟩ := hS.node hy
        have e := HVX.out
        rw [hS.nxt0, if_pos hps] at e
        simp only [Sk.go, pt] at e
        rw [xat] at e
        subst e
        have hnext : ∀ W, SkAt W base s → W.cell? ⟨y.blk, 2, none⟩ = some (s.go (nxt s.lv 0 (f + (pre ++ [y]).length))) := fun W h => by
          have := (h.link (p := f + pre.length + 1) (i := 0) (.inr (h.lv_pos (by omega) (by omega))) htop0).1
          rw [xat] at this
          rw [List.length_append, List.length_cons, List.length_nil, ← Nat.add_assoc]
          exact this
        have hl3 : (pre.length : Int) ≤ 10000 := by omega
        have HL2 := Lib.hid hl2
        clear HVX hl2 hy xat
        obtain ⟨fn, tmps, assign, body, hy', hR⟩ := hY y r wr hIr ⟨hS, pre, HPR.out⟩
        unfold pt at hy'
        gi_wp2
        refine hR.mono ?_
        rintro e W3 ⟨hsz, hF, ⟨rfl, hI3⟩ | ⟨rfl, hx3⟩⟩
        · have hS3 := hS.same (fun k hk => hF k (.inl hk))
          have hn3 := hnext _ hS3
          obtain ⟨q, hq⟩ : ∃ q, s.go (nxt s.lv 0 (f + (pre ++ [y]).length)) = .pointer q := go_ptr _ _
          rw [hq] at hn3
          have HQ := Lib.hid hq
          clear hq hF hnext
          gi_wp2
          gi_roundg r.length
          case rel => exact ⟨pre ++ [y], r, by rw [List.append_assoc]; exact HPR.out, rfl, int_eq (by rw [List.length_append, List.length_cons, List.length_nil]; omega), HQ.out.symm, hI3, hS3⟩
          case measure => rw [List.length_cons]; omega
        · gi_wp2
          refine bodyPost_ret (results_none rfl _ _ _) rfl ?_
          exact ⟨⟨_, rfl⟩, .inr hx3⟩
theorem nodes_any (s : Sk) (i j : Int) (w : World) : Calls Tryz.prog 182 #[pt s.blk, .int .i64 i, .int .i64 j] w fun r w' => r = .returned (fnv 189 #[pt w.heap.size, pt (w.heap.size + 1), pt (w.heap.size + 2)]) ∧ NdBox w' s w.heap.size i j ∧ Chg (fun _ => False) w w' ∧ w'.heap.size = w.heap.size + 3 := by
  have h0 := Blk.new w 95 #[pt s.blk]
  have h1 := Blk.new (w.alloc (.cells #[pt s.blk] 95)) 3 #[.int .i64 i]
  have h2 := Blk.new ((w.alloc (.cells #[pt s.blk] 95)).alloc (.cells #[.int .i64 i] 3)) 3 #[.int .i64 j]
  simp only [World.size_alloc] at h1 h2
  unfold pt fnv at *
  go_enter Tryz.func182, Tryz.ntmps182
  go_wp2
  go_ret
  exact ⟨rfl, ⟨(h0.alloc _).alloc _, h1.alloc _, h2⟩, ((((Chg.refl _ w).alloc _).alloc _).alloc _), by simp⟩
theorem nodes_spec (s : Sk) (base a : Nat) (i j : Int) (hn : s.n ≤ 10000) : IterSpec Tryz.prog 189 #[pt a, pt (a + 1), pt (a + 2)] (fun x : Sn => #[pt x.blk]) (ndF s a) (fun _ => False) (ndIt0 s base a i j) (ndIt s base i j) where
  sub := fun _ h => h.elim
  cells := by
    rintro r W k ⟨hS, hB, _⟩ (⟨p, hp, rfl⟩ | rfl | rfl | rfl)
    · obtain ⟨cs, hb, _⟩ := hS.v.nd p hp
      exact ⟨_, _, _, hb⟩
    · exact ⟨_, _, _, hB.l⟩
    · exact ⟨_, _, _, hB.i⟩
    · exact ⟨_, _, _, hB.j⟩
  far0 := by
    rintro r W W' ⟨hS, hB, hr⟩ _ hF
    exact ⟨hS.same fun k hk => hF k (.inl hk), ⟨(hF _ (.inr (.inl rfl))).trans hB.l, (hF _ (.inr (.inr (.inl rfl)))).trans hB.i, (hF _ (.inr (.inr (.inr rfl)))).trans hB.j⟩, hr⟩
  far := by
    rintro r W W' ⟨hS, hp⟩ _ hF
    exact ⟨hS.same fun k hk => hF k (.inl hk), hp⟩
  call := by
    rintro l I Ix hI hIx hY c W h0 ⟨hS, hB, rfl⟩
    exact nodes1_any s base a i j hn l I Ix hI hY W h0 hS hB

def Sn.ens (l : List Sn) : List En := l.map Sn.en
/-- What the rounds keep. -/
structure RgI (w0 : World) (c : List Sn) (OB M : Nat) (r : List Sn) (W : World) : Prop where
  ex : ∃ v, ∃ pre, pre ++ r = c ∧ Blk W OB 43 #[v] ∧ Ents W M v (Sn.ens pre)
  st : Stay (fun _ => False) w0 W
  M : M ≤ W.heap.size
def RgPost (w : World) (l : List En) (r : Ending) (w' : World) : Prop := (∃ v, r = .returned v ∧ Ents w' w.heap.size v l) ∧ Chg (fun _ => False) w w'

set_option maxRecDepth 100000 in
set_option maxHeartbeats 4000000 in
theorem range_any (s : Sk) (i j : Int) (w : World) (base : Nat) (h : SkAt w base s) (hn : s.n ≤ 10000) :
    Calls Tryz.prog 177 #[pt s.blk, .int .i64 i, .int .i64 j] w (RgPost w (Sn.ens (items s i j))) := by
  have hnd := fun w => nodes_any s i j w
  have hclen : (items s i j).length ≤ 10000 := by
    rw [items_len]
    have h1 : clampN s.n i ≤ s.n := Nat.min_le_right _ _
    have h2 : clampN s.n j ≤ s.n := Nat.min_le_right _ _
    omega
  unfold pt at hnd ⊢
  refine calls_of_wp_marks Tryz.func177 rfl ?_
  simp only [Tryz.ntmps177, List.size_toArray, List.length_cons, List.length_nil, Nat.reduceAdd, Nat.reduceSub, Array.replicate_succ, Array.replicate_zero, List.push_toArray, List.append_toArray, List.nil_append, List.cons_append]
  go_wp2_with (go_at_call 182; refine (hnd _).mono ?_; rintro e w' ⟨rfl, hB, hC, hsz⟩)
  have hbo := (Blk.new w 43 #[.slice none 0 0]).chg hC id
  have hS : Chg (fun _ => False) w w' := ((Chg.refl _ w).alloc _).trans hC
  simp only [World.size_alloc] at hB hsz ⊢
  clear hC
  have hSk := h.chg0 hS
  have hFlt : ∀ k, ndF s (w.heap.size + 1) k → k < w.heap.size + 4 ∧ k ≠ w.heap.size := by
    rintro k (hk | rfl | rfl | rfl)
    · have := (h.lt hk).2; omega
    · omega
    · omega
    · omega
  generalize hc : items s i j = c at *
  refine wp_range_it 189 #[pt (w.heap.size + 1), pt (w.heap.size + 1 + 1), pt (w.heap.size + 1 + 2)] rfl (enters_of Tryz.func189 (by kernel_rfl) rfl) (nodes_spec s base (w.heap.size + 1) i j hn) (fun _ => rfl)
    (RgI w c w.heap.size (w.heap.size + 4)) ?_ (fun _ _ => False) (fun _ _ _ h => h.elim) c ?_ ?_ _ (fun l x W K hK => by gi_wp2; exact hK) ?_ ?_ (fun _ _ _ _ h => h.elim)
  · rintro r W W' ⟨⟨v, pre, h1, h2, h3⟩, h4, h5⟩ hs
    exact ⟨⟨v, pre, h1, h2.stay hs id, h3.stay hs fun _ _ => id⟩, h4.trans' hs fun g hg h' => h', Nat.le_trans h5 hs.size⟩
  · exact ⟨⟨_, [], rfl, hbo, Ents.nil _ _⟩, .of_chg hS, by omega⟩
  · exact ⟨hSk, hB, hc.symm⟩
  · rintro l x r W ⟨⟨v, pre, h1, h2, h3⟩, h4, h5⟩ ⟨g1, pre', hpre'⟩ hle
    rw [hc] at hpre'
    have hx : ∃ p, s.ns[p]? = some x := ⟨_, items_get (i := i) (j := j) (k := pre'.length) (by rw [hc, ← hpre']; simp)⟩
    obtain ⟨p, hx⟩ := hx
    obtain ⟨k1, k2, _, _, l1, _⟩ := g1.node hx
    have H1 := Lib.hid h1
    have hlen : pre.length ≤ 10000 := by
      have : pre.length ≤ c.length := by rw [← h1]; simp
      omega
    clear hpre' h1 hsz hc hS hbo hx g1 hSk h
    obtain ⟨pa, cp, rfl, hcp1, hcp2, hcp3⟩ := h3.is
    have hml : (Sn.ens pre).length = pre.length := by unfold Sn.ens; simp
    rw [hml] at h2 h3 hcp1
    have k0 := h2.cell 0
    have kf := h2.frozen 0
    simp only [List.getElem?_toArray, List.getElem?_cons_zero] at k0
    have l2 := h2.lt
    obtain ⟨i0, hi0, hz0, hz1, hz2⟩ := info_parts ent_info
    have hlen2 : pre.length + 1 ≤ maxLen := by unfold maxLen; omega
    have hlen3 : (pre.length + 1) * 24 ≤ 140737488355328 := by omega
    have hr : Reads (W.alloc (Obj.cells #[Value.string x.key, Value.int .i64 x.score] 54)).drew (W.heap.size + 1) 2 (some ⟨W.heap.size, 0, none⟩) 1 [Value.string x.key, Value.int .i64 x.score] := by
      refine ⟨rfl, fun _ => ⟨_, rfl, Nat.lt_succ_self _, fun j u hu => ?_⟩⟩
      have hb := (Blk.new W 54 #[Value.string x.key, Value.int .i64 x.score]).drew.cell j
      rw [addr_add']
      match j, hu with
      | 0, hu => exact hb.trans (by simpa using hu)
      | 1, hu => exact hb.trans (by simpa using hu)
      | j + 2, hu => simp at hu
    have hc1 : Chg (fun _ => False) W (W.alloc (Obj.cells #[Value.string x.key, Value.int .i64 x.score] 54)).drew := ((Chg.refl _ W).alloc _).drew
    have hown0 := h3.chg hc1 fun _ _ => id
    unfold Ents at hown0
    rw [hml] at hown0
    have hone : ∀ u ∈ [Value.string x.key, Value.int .i64 x.score], u.oneCell' = true := by
      intro u hu
      rcases List.mem_cons.1 hu with rfl | hu
      · rfl
      · rw [List.mem_singleton] at hu; rw [hu]; rfl
    have hM1 : w.heap.size + 4 ≤ (W.alloc (Obj.cells #[Value.string x.key, Value.int .i64 x.score] 54)).drew.heap.size := Nat.le_trans h5 hc1.size
    have HL := Lib.hid hlen
    have HM := Lib.hid hml
    clear hlen hml
    unfold pt
    gi_wp2
    refine wpIn_region_plain (by kernel_rfl) (by kernel_rfl) (by rintro ⟨_, _, h⟩; exact h) ?_
    change wpAny _ _ _ _ _ _ _ (World.drew _)
    simp only [List.size_toArray, List.length_cons, List.length_nil, Nat.reduceAdd, Array.replicate_succ, Array.replicate_zero, List.push_toArray, List.nil_append, List.cons_append]
    repeat' (first
        | (refine wpAny_ready (rs := [0]) ?_ ?_ ?_; decide +kernel; simp; refine (AllReady.cons rfl (fun K hK => ?_) AllReady.nil); go_simp; refine hK _ _ ?_; clear hK K)
        | (refine wpAny_ready (rs := [1]) ?_ ?_ ?_; decide +kernel; simp; refine (AllReady.cons rfl (fun K hK => ?_) AllReady.nil); go_simp; refine hK _ _ ?_; clear hK K)
        | (refine wpAny_ready (rs := [2]) ?_ ?_ ?_; decide +kernel; simp; refine (AllReady.cons rfl (fun K hK => ?_) AllReady.nil); go_simp; refine hK _ _ ?_; clear hK K)
        | (refine wpAny_ready (rs := [3]) ?_ ?_ ?_; decide +kernel; simp; refine (AllReady.cons rfl (fun K hK => ?_) AllReady.nil); go_simp; refine hK _ _ ?_; clear hK K)
        | (refine wpAny_ready (rs := [4]) ?_ ?_ ?_; decide +kernel; simp; refine (AllReady.cons rfl (fun K hK => ?_) AllReady.nil); go_simp; refine hK _ _ ?_; clear hK K)
        | (refine wpAny_ready (rs := [5]) ?_ ?_ ?_; decide +kernel; simp; refine (AllReady.cons rfl (fun K hK => ?_) AllReady.nil); go_simp; refine hK _ _ ?_; clear hK K)
        | (refine wpAny_ready (rs := [0, 1]) ?_ ?_ ?_; decide +kernel; simp; refine (AllReady.cons rfl (fun K hK => ?_) (AllReady.cons rfl (fun K hK => ?_) AllReady.nil)) <;> (go_simp; refine hK _ _ ?_; clear hK K))
        | (refine wpAny_ready (rs := [0, 2]) ?_ ?_ ?_; decide +kernel; simp; refine (AllReady.cons rfl (fun K hK => ?_) (AllReady.cons rfl (fun K hK => ?_) AllReady.nil)) <;> (go_simp; refine hK _ _ ?_; clear hK K))
        | (refine wpAny_ready (rs := [0, 3]) ?_ ?_ ?_; decide +kernel; simp; refine (AllReady.cons rfl (fun K hK => ?_) (AllReady.cons rfl (fun K hK => ?_) AllReady.nil)) <;> (go_simp; refine hK _ _ ?_; clear hK K))
        | (refine wpAny_ready (rs := [0, 4]) ?_ ?_ ?_; decide +kernel; simp; refine (AllReady.cons rfl (fun K hK => ?_) (AllReady.cons rfl (fun K hK => ?_) AllReady.nil)) <;> (go_simp; refine hK _ _ ?_; clear hK K))
        | (refine wpAny_ready (rs := [0, 5]) ?_ ?_ ?_; decide +kernel; simp; refine (AllReady.cons rfl (fun K hK => ?_) (AllReady.cons rfl (fun K hK => ?_) AllReady.nil)) <;> (go_simp; refine hK _ _ ?_; clear hK K)))
    all_goals
      refine wpAny_ready (rs := [6]) ?_ ?_ ?_
      decide +kernel
      simp
      refine (AllReady.cons rfl (fun K hK => ?_) AllReady.nil)
      refine step_append_any _ (by rfl) (.tmp 14) (.tmp 19) 43 (by rfl) (w.heap.size + 4) 54 i0 _ 2 24 Tryz.underlying43 hi0 hz0 hz1 hz2 rfl (by omega) (.slice pa pre.length cp) pre.length ((Sn.ens pre).flatMap En.cells) (by rfl) hown0 (W.heap.size + 1) (some ⟨W.heap.size, 0, none⟩) 1 1 [Value.string x.key, Value.int .i64 x.score] (by rfl) hr hone hlen2 hlen3 hM1 ?_
      intro v1 w1 hown1 hg1 hat1
      refine hK _ _ ?_
      clear hK K
      obtain ⟨g1, cp1, rfl⟩ := ownsRow_succ hown1
      have a1 := app_chg hown0 hg1
      have a2 := app_keeps hown0 hg1
      have b1 : Blk w1 w.heap.size 43 #[.slice pa pre.length cp] := Blk.chg ((h2.alloc _).drew) a1 (by omega)
      have c1 := b1.cell 0
      have f1 := b1.frozen 0
      have lb := b1.lt
      simp only [List.getElem?_toArray, List.getElem?_cons_zero] at c1
      refine wpAny_ready (rs := [7]) ?_ ?_ ?_
      decide +kernel
      simp
      refine AllReady.cons rfl (fun K hK => ?_) AllReady.nil
      go_simp
      refine hK _ _ ?_
      clear hK K
      refine wpAny_done (by kernel_rfl) ?_ _
      have a3 : Chg (fun k => k = w.heap.size ∨ w.heap.size + 4 ≤ k) W (w1.setCell ⟨w.heap.size, 0, none⟩ (.slice (some ⟨g1, 0, none⟩) (pre.length + 1) cp1)) :=
        ((hc1.mono fun _ _ h => h.elim).trans' a1 fun _ _ h => .inr h).store (.inl rfl) 0 _
      refine ⟨((KeepsOthers.of_chg0 hc1).trans a2).trans (KeepsOthers.setCell _ _ _), fun k hk => a3.block k (by have := hFlt k hk; omega) (by have := hFlt k hk; omega), ⟨⟨_, pre ++ [x], by rw [← H1.out]; simp, b1.set 0 _, ?_⟩, h4.trans' (.of_chg a3) (fun g hg h' => by omega), Nat.le_trans h5 a3.size⟩⟩
      have h9 := own_stay (F := fun k => k = w.heap.size) hown1 (.of_chg ((Chg.refl (fun k => k = w.heap.size) w1).store rfl 0 (.slice (some ⟨g1, 0, none⟩) (pre.length + 1) cp1))) (fun g hg h' => by have := (hown1.lt g hg).1; omega)
      exact Ents.mk h9 (by unfold Sn.ens; simp) (by unfold Sn.ens; rw [List.map_append, List.flatMap_append]; rfl)
  · rintro D W hD ⟨⟨v, pre, h1, h2, h3⟩, h4, h5⟩ hO hDd
    rw [List.append_nil] at h1
    subst h1
    have hwD : w.heap.size ≤ D := Nat.le_trans hS.size hD
    have hC : Chg (fun _ => False) w W := .of_stay h4 ((KeepsOthers.of_chg0 hS).trans hO)
    have k0 := h2.cell 0
    simp only [List.getElem?_toArray, List.getElem?_cons_zero] at k0
    have l0 := h2.lt
    clear hbo hS hsz hc hFlt hclen
    go_wp2_with fail
    refine bodyPostM_ret (D := D) (v := v) rfl hDd (by simp [results, Tryz.results177, go_sem]) ⟨⟨v, rfl, ?_⟩, ?_⟩
    · exact (Ents.lower (h3.stay (Stay.put (F := fun _ => False) hDd rfl _) fun _ _ => id) (by omega))
    · exact hC.put (by omega) _
end Go.Proofs.YtifcpippfiglkaaGreat

/- skip: Cut. -/
namespace Go.Proofs.YtifcpippfiglkaaGreat
open Go.RowKit Pal Pal.Skip
attribute [local go_sem] Oper.semAt_some

def Sk.cutR (s : Sk) (f m : Nat) : Sk := { s with ns := s.ns.take f ++ s.ns.drop (f + m) }
theorem Sk.cutR_zero (s : Sk) (f : Nat) : s.cutR f 0 = s := by
  show ({ blk := s.blk, ns := _ } : Sk) = s
  rw [Nat.add_zero, List.take_append_drop]
theorem Sk.cutR_succ (s : Sk) {f m : Nat} (h : f + m < s.n) : (s.cutR f m).cut f = s.cutR f (m + 1) := by
  have hs : s.ns.length = s.n := rfl
  have hl : (s.ns.take f).length = f := by rw [List.length_take]; omega
  unfold Sk.cut Sk.cutR
  dsimp only
  rw [List.take_append_of_le_length (by omega), List.take_take, Nat.min_self, List.drop_append, List.drop_eq_nil_of_le (by omega), List.nil_append, hl, Nat.add_sub_cancel_left, List.drop_drop, Nat.add_assoc]
theorem Sk.cutR_n (s : Sk) {f m : Nat} (h : f + m ≤ s.n) : (s.cutR f m).n = s.n - m := by
  have hs : s.ns.length = s.n := rfl
  show (s.ns.take f ++ s.ns.drop (f + m)).length = _
  rw [List.length_append, List.length_take, List.length_drop]; omega
theorem Sk.cutR_get (s : Sk) {f m : Nat} (h : f + m < s.n) : ∃ x, (s.cutR f m).ns[f]? = some x := by
  have hs : s.ns.length = s.n := rfl
  have hl : (s.ns.take f).length = f := by rw [List.length_take]; omega
  exact ⟨_, List.getElem?_eq_getElem (by show f < (s.ns.take f ++ s.ns.drop (f + m)).length; rw [List.length_append, hl, List.length_drop]; omega)⟩
theorem cut_foot {s : Sk} {k g : Nat} (hk : k < s.n) (h : (s.cut k).foot g) : s.foot g := by
  obtain ⟨x, hx⟩ : ∃ x, s.ns[k]? = some x := ⟨_, List.getElem?_eq_getElem hk⟩
  obtain ⟨e, h1, _⟩ := Sk.cut_put hx
  rw [← e]
  exact put_foot h1 h
theorem ret_int' {k : IntKind} {a b : Int} (h : a = b) : Ending.returned (.int k a) = .returned (.int k b) := by rw [h]
def CutPost (s : Sk) (f m : Nat) (w : World) (base : Nat) (r : Ending) (w' : World) : Prop := r = .returned (.int .i64 (m : Int)) ∧ SkAt w' base (s.cutR f m) ∧ Chg s.foot w w'

set_option maxRecDepth 100000 in
set_option maxHeartbeats 4000000 in
theorem cut_any (s : Sk) (i j : Int) (w : World) (base : Nat) (h : SkAt w base s) (hn : s.n ≤ 10000) :
    Calls Tryz.prog 181 #[pt s.blk, .int .i64 i, .int .i64 j] w (CutPost s (clampN s.n i) (max (clampN s.n i) (clampN s.n j) - clampN s.n i) w base) := by
  have hwi := within_any s i j w base h
  have hc1 : clampN s.n i ≤ s.n := Nat.min_le_right _ _
  have hc2 : clampN s.n j ≤ s.n := Nat.min_le_right _ _
  generalize clampN s.n i = f at hwi hc1 ⊢
  have ht2 : max f (clampN s.n j) ≤ s.n := by omega
  have ht1 : f ≤ max f (clampN s.n j) := by omega
  generalize max f (clampN s.n j) = t at hwi ht1 ht2 ⊢
  clear hc2
  have hfl : ∀ g, s.foot g → g < w.heap.size := fun g hg => (h.lt hg).2
  have htf : (t : Int) ≤ 10000 := by omega
  have htf2 : (f : Int) ≤ (t : Int) := by omega
  unfold pt at hwi ⊢
  go_enter Tryz.func181, Tryz.ntmps181
  go_wp2_with (go_at_call 186; refine hwi.mono ?_; rintro r w1 ⟨rfl, rfl⟩)
  clear hwi
  go_loopg [19] (t - f) (fun k v W => ∃ m : Nat, v = .int .i64 (m : Int) ∧ k = t - f - m ∧ m ≤ t - f ∧ SkAt W base (s.cutR f m) ∧ Chg s.foot w W ∧ ∀ g, (s.cutR f m).foot g → s.foot g)
  case atStart => exact ⟨0, rfl, rfl, Nat.zero_le _, by rw [s.cutR_zero]; exact h, Chg.refl _ _, fun g hg => by rwa [s.cutR_zero] at hg⟩
  case round =>
    obtain ⟨m, rfl, rfl, hm, hS, hC, hF⟩ := hrel
    by_cases hmt : m < t - f
    · have h1 : (m : Int) < (t : Int) - (f : Int) := by omega
      have hfm : f + m < s.n := by omega
      have hcn := s.cutR_n (f := f) (m := m) (by omega)
      obtain ⟨x, hx⟩ := s.cutR_get hfm
      have hun := fun w (h : SkAt w base (s.cutR f m)) => until_any (s.cutR f m) f w base h (by omega) (by omega)
      have htk := fun w (h : SkAt w base (s.cutR f m)) => takes_at (s.cutR f m) f x w base h hx (by omega)
      rw [s.cutR_succ hfm] at htk
      have htop := hS.top_le
      have htop0 : 0 < top (s.cutR f m).lv := by
        have := hS.top0
        omega
      have hzN : nil32.size = 32 := rfl
      have hzP : zero32.size = 32 := rfl
      have hlN : ((s.cutR f m).nodesL f 0).length = 32 := by unfold Sk.nodesL; simp
      have hlP : ((s.cutR f m).placesL f 0).length = 32 := by unfold Sk.placesL; simp
      have hN0 := (s.cutR f m).nodesL_get f (j := 0) (by omega) (by omega)
      rw [hS.prev0 (by omega)] at hN0
      have hnx := hS.nxt0 f
      rw [if_pos (by omega)] at hnx
      have hk0 : f = 0 ∨ ab (s.cutR f m).lv 0 f := by
        rcases Nat.eq_zero_or_pos f with e | e
        · exact .inl e
        · exact .inr (hS.lv_pos e (by omega))
      have hxat := (hS.node hx).2.2.2.2.2
      have hF2 : ∀ g, (s.cutR f (m + 1)).foot g → s.foot g := fun g hg => hF g (cut_foot (k := f) (by omega) (by rw [s.cutR_succ hfm]; exact hg))
      have hbk : (s.cutR f m).blk = s.blk := rfl
      unfold pt at hun htk
      rw [hbk] at hun htk
      have HC := Lib.hid hcn
      clear hcn hbk hx
      have hm2 : (m : Int) ≤ 10000 := by omega
      generalize (s.cutR f m) = s1 at *
      go_wp2_with (first | (go_at_call 187; refine (hun _ hS).mono ?_; rintro r w4 ⟨rfl, hC4⟩) | (show wpList _ _ _ (Oper.mk _ (Op.store 163 _ _) _ _ _ _ :: _) _ _; refine wpList_store_new rfl 163 _ _ rfl w4.heap.size (s1.nodesL f 0) rfl rfl (two32 w4).1 hlN (by rw [hzN]; kernel_rfl) (s1.nodesL_one _ _) ?_; intro w5 hb5 ho5 hc5) | (show wpList _ _ _ (Oper.mk _ (Op.store 164 _ _) _ _ _ _ :: _) _ _; refine wpList_store_new rfl 164 _ _ rfl (w4.heap.size + 1) (s1.placesL f 0) rfl rfl ((two32 w4).2.other (ho5 _ (by omega))) hlP (by rw [hzP]; kernel_rfl) (s1.placesL_one _ _) ?_; intro w6 hb6 ho6 hc6; have hC6 : Chg (fun _ => False) wr w6 := hc6 (fun h => by have := hC4.size; omega) (hc5 (fun h => by have := hC4.size; omega) ((hC4.alloc _).alloc _)); have hbN := hb5.other (ho6 _ (by omega)); have hS6 := hS.chg0 hC6; clear hb5 hb6 ho5 ho6 hc5 hc6 hC4 hun))
      have n0 := hbN.cell 0
      rw [List.getElem?_toArray, hN0] at n0
      have lk := (hS6.link (p := f) (i := 0) hk0 (by omega)).1
      rw [hnx] at lk
      simp only [Sk.go, Nat.zero_mul, Nat.add_zero] at lk
      unfold pt at lk n0
      rw [hxat] at lk
      clear hnx hN0 hxat hk0
      go_still_tail 9, (by kernel_rfl)
      refine wpStill_load_mid rfl 163 (.tmp 7) rfl w4.heap.size 0 rfl _ _ (Blk.range hbN.drew) Tryz.underlying163 rfl (by rw [hlN]; kernel_rfl) ?_
      refine wpStill_nil ?_
      go_wp2_with (go_at_call 188; refine (htk _ (hS6.chg0 (Chg.refl _ _).drew)).mono ?_; rintro r w7 ⟨⟨v, rfl⟩, hS7, hC7⟩)
      have hC8 : Chg s.foot w w7 := hC.trans (((hC6.mono (fun _ _ h => h.elim)).trans ((Chg.refl _ _).drew.trans (hC7.mono fun _ _ h => hF _ h))))
      go_roundg (t - f - (m + 1))
      case rel => exact ⟨m + 1, int_eq (by omega), rfl, by omega, hS7, hC8, hF2⟩
      case measure => omega
    · obtain rfl : m = t - f := by omega
      have h1 : ¬ ((t - f : Nat) : Int) < (t : Int) - (f : Int) := by omega
      go_wp2_with fail
      go_ret
      exact ⟨ret_int' (by omega), hS, hC⟩
end Go.Proofs.YtifcpippfiglkaaGreat

/- The walk of skip.List.Insert. -/
namespace Go.Proofs.YtifcpippfiglkaaGreat
open Go.RowKit Pal Pal.Skip
attribute [local go_sem] Oper.semAt_some

set_option maxRecDepth 100000 in
theorem neq_ptr_same {P : Program} (w : World) {tp te : TypeId} {j : TypeInfo} (a : Addr) (hp : P.underlying tp = some (.pointer te)) (hte : P.info? te = some j) :
    (binOp .neq tp (.pointer (some a)) (.pointer (some a))).run P w = .ok (.bool false) w := by
  have h : ∀ d : Nat, (Op.equalIn (d + 1) tp (.pointer (some a)) (.pointer (some a))).run P w = .ok true w := fun d => by
    simp [Op.equalIn, run_underlying hp, sizeOf, typeInfo, hte, run_sameAddr_same]
  simp only [binOp]
  simp [Op.equal, Op.maxDepth, h 9999]
theorem neq_ptr_other {P : Program} (w : World) {tp te : TypeId} {j : TypeInfo} {a b : Addr} {ca cb : Array Value} {ta tb : TypeId} (hp : P.underlying tp = some (.pointer te)) (hte : P.info? te = some j) (hsz : j.size ≠ 0)
    (hne : a ≠ b) (ha : w.heap[a.block]? = some (.cells ca ta (0, 0))) (hb : w.heap[b.block]? = some (.cells cb tb (0, 0))) :
    (binOp .neq tp (.pointer (some a)) (.pointer (some b))).run P w = .ok (.bool true) w := by
  have h : ∀ d : Nat, (Op.equalIn (d + 1) tp (.pointer (some a)) (.pointer (some b))).run P w = .ok false w := fun d => by
    simp [Op.equalIn, run_underlying hp, sizeOf, typeInfo, hte, hsz, run_sameAddr_other w hne ha hb]
  simp only [binOp]
  simp [Op.equal, Op.maxDepth, h 9999]
theorem node_info : ∃ j, Tryz.prog.info? 132 = some j ∧ j.size ≠ 0 := by
  have h : (Tryz.prog.info? 132).map (·.size) = some 68 := by kernel_rfl
  rw [Option.map_eq_some_iff] at h
  obtain ⟨j, h1, h2⟩ := h
  exact ⟨j, h1, by omega⟩
theorem mid_foot {s : Sk} {k : Nat} {x : Sn} {T i g : Nat} (hk : k ≤ s.n) (h : (midV s k x T i).foot g) : s.foot g ∨ g = x.blk := by
  obtain ⟨p, hp, rfl⟩ := h
  rw [mid_len hk] at hp
  rw [mid_at, Sk.put_at hk]
  split
  · exact .inl ⟨p, by show p ≤ s.n; omega, rfl⟩
  · split
    · exact .inr rfl
    · exact .inl ⟨p - 1, by show p - 1 ≤ s.n; omega, rfl⟩
set_option maxRecDepth 100000 in
theorem max2_any (x y : Int) (b : Nat) (w : World) (hb : Blk w b 3 #[.int .i64 x, .int .i64 y]) : Calls Tryz.prog 102 #[.slice (some ⟨b, 0, none⟩) 2 2] w fun r w' => r = .returned (.int .i64 (max x y)) ∧ w = w' := by
  have b0 := hb.cell 0
  have b1 := hb.cell 1
  simp only [List.getElem?_toArray, List.getElem?_cons_zero, List.getElem?_cons_succ] at b0 b1
  go_enter Tryz.func102, Tryz.ntmps102
  go_wp2
  refine wp_loop_rounds 2 ?_
  rw [rounds_succ]
  go_wp2
  rw [rounds_succ]
  go_wp2
  go_ret
  exact ⟨rfl, rfl⟩
theorem highest_any (x y : Int) (b : Nat) (w : World) (hb : Blk w b 3 #[.int .i64 x, .int .i64 y]) : Calls Tryz.prog 91 #[.slice (some ⟨b, 0, none⟩) 2 2] w fun r w' => r = .returned (.int .i64 (max x y)) ∧ w = w' := by
  go_enter Tryz.func91, Tryz.ntmps91
  go_wp2_with (go_at_call 102; refine (max2_any x y b _ hb).mono ?_; rintro r w' ⟨rfl, rfl⟩)
  go_ret
  exact ⟨rfl, rfl⟩

def InsPost (s : Sk) (k : Nat) (e : En) (l : Nat) (w : World) (base : Nat) (r : Ending) (w' : World) : Prop :=
  r = .returned (.int .i64 0) ∧ ∃ g, w.heap.size ≤ g ∧ SkAt w' base (s.put k ⟨g, e.m, e.s, l⟩) ∧ Chg s.foot w w'

set_option maxRecDepth 100000 in
set_option maxHeartbeats 4000000 in
theorem insert_any (s : Sk) (e : En) (l : Nat) (w : World) (base : Nat) (h : SkAt w base s) (hs : s.es.Pairwise ltE) (hn : s.n ≤ 10000) (hne : e ∉ s.es) (hl : 1 ≤ l ∧ l ≤ 32) :
    Calls Tryz.prog 75 #[pt s.blk, e.val, .int .i64 (l : Int)] w (InsPost s (ahead s.es e) e l w base) := by
  have hkn : ahead s.es e ≤ s.n := by have := ahead_le s.es e; rwa [s.es_len] at this
  have hto := fun w (h : SkAt w base s) => to_any s e w base h hs (by omega)
  have hsk := fun w (h : SkAt w base s) => seek_any s e w base h hs (by omega)
  rw [show decide (e ∈ s.es) = false from decide_eq_false hne] at hsk
  have htop := h.top_le
  obtain ⟨k, hke⟩ : ∃ k, k = ahead s.es e := ⟨_, rfl⟩
  rw [← hke] at hto hsk hkn ⊢
  replace hke := Lib.hid hke
  simp only [s.nodesU_top, s.placesU_top] at hto
  have hzN : nil32.size = 32 := rfl
  have hzP : zero32.size = 32 := rfl
  obtain ⟨hl1, hl2⟩ := hl
  have hl1' : ¬ (l : Int) < 1 := by omega
  have hl2' : ¬ (l : Int) > 32 := by omega
  unfold En.val pt at hto hsk ⊢
  go_enter Tryz.func75, Tryz.ntmps75
  go_wp2_with (first | (go_at_call 89; refine (hsk _ (h.chg0 ((Chg.refl _ w).alloc _))).mono ?_; rintro r w1 ⟨rfl, hc1⟩; have hbe := (Blk.new w 54 #[.string e.m, .int .i64 e.s]).chg hc1 id; have hC1 := ((Chg.refl (fun _ => False) w).alloc (.cells #[.string e.m, .int .i64 e.s] 54)).trans hc1; have hlt1 := hbe.lt; clear hc1; have e0 := hbe.cell 0; have e1 := hbe.cell 1; simp only [List.getElem?_toArray, List.getElem?_cons_zero, List.getElem?_cons_succ] at e0 e1) | (go_at_call 90; refine (hto _ (h.chg0 hC1)).mono ?_; rintro r w4 ⟨rfl, hc4⟩; replace hbe := hbe.chg hc4 id; have hC4 := hC1.trans hc4; have hlt4 := hbe.lt; clear hc4 hC1 e0 e1) | (show wpList _ _ _ (Oper.mk _ (Op.store 163 _ _) _ _ _ _ :: _) _ _; refine wpList_store_new rfl 163 _ _ rfl w4.heap.size (s.nodesU k (top s.lv)) rfl rfl (two32 w4).1 (s.nodesU_len _ _) (by rw [hzN]; kernel_rfl) (by rw [← s.nodesU_top]; exact s.nodesL_one _ _) ?_; intro w5 hb5 ho5 hc5) | (show wpList _ _ _ (Oper.mk _ (Op.store 164 _ _) _ _ _ _ :: _) _ _; refine wpList_store_new rfl 164 _ _ rfl (w4.heap.size + 1) (s.placesU k (top s.lv)) rfl rfl ((two32 w4).2.other (ho5 _ (by omega))) (s.placesU_len _ _) (by rw [hzP]; kernel_rfl) (by rw [← s.placesU_top]; exact s.placesL_one _ _) ?_; intro w6 hb6 ho6 hc6; have hC6 : Chg (fun _ => False) w w6 := hc6 (fun h => by have := hC4.size; omega) (hc5 (fun h => by have := hC4.size; omega) ((hC4.alloc _).alloc _)); have hbe6 := (((hbe.alloc _).alloc _).other (ho5 _ (by omega))).other (ho6 _ (by omega)); have hbN := hb5.other (ho6 _ (by omega)); have hbP := hb6; have hS6 := h.chg0 hC6; obtain ⟨d0, d1, d2, d3, d4⟩ := hS6.head; clear hb5 hb6 ho5 ho6 hc5 hc6 hbe hC4 hto hsk; clear hlt1))
  generalize w4.heap.size = B at hbN hbP hlt4 ⊢
  have hBw : w.heap.size < B := hlt4
  obtain ⟨T1, hT1⟩ : ∃ T1, max (top s.lv) l = T1 := ⟨_, rfl⟩
  have hfl : ∀ g, s.foot g → g < w.heap.size := fun g hg => (h.lt hg).2
  go_loopg [11] (T1 - top s.lv) (fun j v W => ∃ T : Nat, v = .int .i64 (T : Int) ∧ j = T1 - T ∧ top s.lv ≤ T ∧ T ≤ T1 ∧ SvAt W base (s.viewT T (top s.lv)) ∧ Chg s.foot w W ∧ Blk W B 163 (s.nodesU k T).toArray ∧ Blk W (B + 1) 164 (s.placesU k T).toArray ∧ Blk W w.heap.size 54 #[.string e.m, .int .i64 e.s])
  case atStart => exact ⟨_, rfl, rfl, Nat.le_refl _, by omega, hS6.v, hC6.mono (fun _ _ h => h.elim), hbN, hbP, hbe6⟩
  case round =>
    clear hbN hbP hbe6 hS6 hC6 d0 d1 d2 d3 d4 w6
    obtain ⟨T, rfl, rfl, hT, hTT, hS, hC, hN, hP, hE⟩ := hrel
    obtain ⟨d0, d1, d2, d3, d4⟩ := hS.head
    have d1 : wr.cell? ⟨s.blk, 69, none⟩ = some (.int .i64 (top s.lv : Int)) := d1
    have d2 : wr.cell? ⟨s.blk, 70, none⟩ = some (.int .i64 (s.n : Int)) := d2
    have d3 : s.blk < wr.heap.size := d3
    have d4 : ∀ i, wr.frozen? ⟨s.blk, i, none⟩ = false := d4
    have hsB := hfl s.blk ⟨0, Nat.zero_le _, rfl⟩
    by_cases hTl : T < l
    · have hTl' : (T : Int) < (l : Int) := by omega
      have hT32 : (T : Int) < 32 := by omega
      have hT32n : T < 32 := by omega
      obtain ⟨un, cn⟩ : ∃ u, wr.cell? ⟨B, T, none⟩ = some u := ⟨_, (hN.cell T).trans (by rw [List.getElem?_toArray, List.getElem?_eq_getElem (by rw [s.nodesU_len]; exact hT32n)])⟩
      obtain ⟨up_, cp⟩ : ∃ u, wr.cell? ⟨B + 1, T, none⟩ = some u := ⟨_, (hP.cell T).trans (by rw [List.getElem?_toArray, List.getElem?_eq_getElem (by rw [s.placesU_len]; exact hT32n)])⟩
      have fn_ := hN.frozen T
      have fp_ := hP.frozen T
      obtain ⟨ul, cl⟩ := hS.has (p := 0) (Nat.zero_le _) (i := 2 + T * 2) (by show 2 + T * 2 < 71; omega)
      obtain ⟨um, cm⟩ := hS.has (p := 0) (Nat.zero_le _) (i := 2 + T * 2 + 1) (by show 2 + T * 2 + 1 < 71; omega)
      have cl : wr.cell? ⟨s.blk, 2 + T * 2, none⟩ = some ul := cl
      have cm : wr.cell? ⟨s.blk, 2 + T * 2 + 1, none⟩ = some um := cm
      have hb1 : s.blk ≠ B := by omega
      have hb2 : s.blk ≠ B + 1 := by omega
      go_wp2_with fail
      have hcc : Chg (fun g => g = B ∨ g = B + 1) wr ((wr.setCell ⟨B, T, none⟩ (.pointer (some ⟨s.blk, 0, none⟩))).setCell ⟨B + 1, T, none⟩ (.int .i64 0)) := Chg.store (Chg.store (Chg.refl _ wr) (.inl rfl) _ _) (.inr rfl) _ _
      have hN1 := (hN.set T (.pointer (some ⟨s.blk, 0, none⟩))).far (p := ⟨B + 1, T, none⟩) (by simp) (.int .i64 0)
      have hP1 := (hP.far (p := ⟨B, T, none⟩) (by simp) (.pointer (some ⟨s.blk, 0, none⟩))).set T (.int .i64 0)
      have hE1 := (hE.far (p := ⟨B, T, none⟩) (by simp; omega) (.pointer (some ⟨s.blk, 0, none⟩))).far (p := ⟨B + 1, T, none⟩) (by simp; omega) (.int .i64 0)
      rw [List.setIfInBounds_toArray] at hN1 hP1
      have eN := s.nodesU_set k hT
      have eP := s.placesU_set k hT
      unfold pt at eN
      rw [eN] at hN1
      rw [eP] at hP1
      generalize (wr.setCell ⟨B, T, none⟩ (.pointer (some ⟨s.blk, 0, none⟩))).setCell ⟨B + 1, T, none⟩ (.int .i64 0) = W1 at hcc hN1 hP1 hE1 ⊢
      have hS1 := hS.chg hcc (fun g hg e => by have := hfl g hg; omega)
      have hC1 := hC.trans' hcc (fun g hg e => by omega)
      clear hS hC hN hP hE hcc d0 d1 d2 d3 d4 cn cp fn_ fp_ cl cm
      obtain ⟨_, _, d2, d3, d4⟩ := hS1.head
      have d2 : W1.cell? ⟨s.blk, 70, none⟩ = some (.int .i64 (s.n : Int)) := d2
      have d4 : ∀ i, W1.frozen? ⟨s.blk, i, none⟩ = false := d4
      obtain ⟨ul, cl⟩ := hS1.has (p := 0) (Nat.zero_le _) (i := 2 + T * 2) (by show 2 + T * 2 < 71; omega)
      obtain ⟨um, cm⟩ := hS1.has (p := 0) (Nat.zero_le _) (i := 2 + T * 2 + 1) (by show 2 + T * 2 + 1 < 71; omega)
      have cl : W1.cell? ⟨s.blk, 2 + T * 2, none⟩ = some ul := cl
      have cm : W1.cell? ⟨s.blk, 2 + T * 2 + 1, none⟩ = some um := cm
      go_still_tail 11, (by kernel_rfl)
      go_wp2_with fail
      obtain ⟨v1, v2⟩ := viewT_up hS1 hT hT32n
      go_roundg (T1 - (T + 1))
      case rel => exact ⟨T + 1, int_eq (by omega), rfl, by omega, by omega, v1.chg0 (Chg.refl _ _).drew, (hC1.trans v2).drew, ((hN1.far (p := ⟨s.blk, 2 + T * 2, none⟩) (by simp; omega) _).far (p := ⟨s.blk, 2 + T * 2 + 1, none⟩) (by simp; omega) _).drew, ((hP1.far (p := ⟨s.blk, 2 + T * 2, none⟩) (by simp; omega) _).far (p := ⟨s.blk, 2 + T * 2 + 1, none⟩) (by simp; omega) _).drew, ((hE1.far (p := ⟨s.blk, 2 + T * 2, none⟩) (by simp; omega) _).far (p := ⟨s.blk, 2 + T * 2 + 1, none⟩) (by simp; omega) _).drew⟩
      case measure => omega
    · have hTl' : ¬ (T : Int) < (l : Int) := by omega
      have hTe : T = T1 := by omega
      subst hTe
      have hmx : max (top s.lv : Int) (l : Int) = (T : Int) := by omega
      have e0 := hE.cell 0
      have e1 := hE.cell 1
      have ef := hE.lt
      simp only [List.getElem?_toArray, List.getElem?_cons_zero, List.getElem?_cons_succ] at e0 e1
      have p0 := hP.cell 0
      rw [List.getElem?_toArray, s.placesU_get k (show 0 < T by omega) (by omega), h.prev0 hkn] at p0
      have pl := hP.lt
      have pl2 : B + 1 < wr.heap.size + 1 := by omega
      have hb1 : B ≠ s.blk := by omega
      have hb2 : B + 1 ≠ s.blk := by omega
      have hb3 : w.heap.size ≠ s.blk := by omega
      go_wp2_with (first | (go_at_call 91; refine (highest_any _ _ wr.heap.size _ (Blk.new wr _ _)).mono ?_; rintro r w7 ⟨rfl, rfl⟩; rw [hmx]))
      have hsz0 : w.heap.size ≤ wr.heap.size := hC.size
      have hge : base ≤ wr.heap.size := Nat.le_trans (h.lt ⟨0, Nat.zero_le _, rfl⟩).1 (by have := (h.lt ⟨0, Nat.zero_le _, rfl⟩).2; omega)
      have hzc : (Tryz.zeroCells132).size = 68 := by kernel_rfl
      obtain ⟨hM, hCM⟩ := mid_begin (o := .cells #[.int .i64 (top s.lv : Int), .int .i64 (l : Int)] 3) (l := l) (m := e.m) (sc := e.s) (k := k) (cs := ((Tryz.zeroCells132.setIfInBounds 0 (.string e.m)).setIfInBounds 1 (.int .i64 e.s)).setIfInBounds 66 (.int .i64 (l : Int))) hS hkn (by simp [hzc]) ⟨by rw [set_other _ (by omega), set_other _ (by omega), set_same _ (by rw [hzc]; omega)], by rw [set_other _ (by omega), set_same _ (by rw [Array.size_setIfInBounds, hzc]; omega)], by rw [set_same _ (by rw [Array.size_setIfInBounds, Array.size_setIfInBounds, hzc]; omega)], by rw [set_other _ (by omega), set_other _ (by omega), set_other _ (by omega)]; rfl⟩ hge
      clear hS
      have hP0 := s.placesU_get k (j := 0) (T := T) (by omega) (by omega)
      generalize hG : wr.heap.size + 1 = G at hM hCM ⊢
      generalize ((wr.setCell ⟨s.blk, 69, none⟩ (.int .i64 (T : Int))).alloc (.cells #[.int .i64 (top s.lv : Int), .int .i64 (l : Int)] 3)).alloc (.cells (((Tryz.zeroCells132.setIfInBounds 0 (.string e.m)).setIfInBounds 1 (.int .i64 e.s)).setIfInBounds 66 (.int .i64 (l : Int))) 132) = W2 at hM hCM ⊢
      have hN2 := hN.chg hCM (fun hg => by have := hfl _ hg; omega)
      have hP2 := hP.chg hCM (fun hg => by have := hfl _ hg; omega)
      have hC2 := hC.trans hCM
      have hGB : B + 1 < G := by omega
      clear hG hN hP hE hC hCM e0 e1 ef p0 pl pl2 hb1 hb2 hb3 hge hmx d0 d1 d2 d3 d4 hTl' hP0 hzc
      obtain ⟨wo, rfl⟩ : ∃ wo : World, wo = wr := ⟨_, rfl⟩
      go_loopg [88] T (fun j v W => ∃ i : Nat, v = .int .i64 (i : Int) ∧ j = T - i ∧ i ≤ T ∧ SvAt W base (midV s k ⟨G, e.m, e.s, l⟩ T i) ∧ Chg s.foot w W ∧ Blk W B 163 (s.nodesU k T).toArray ∧ Blk W (B + 1) 164 (s.placesU k T).toArray)
      case atStart => exact ⟨0, rfl, rfl, Nat.zero_le _, hM, hC2, hN2, hP2⟩
      case round =>
        clear hM hC2 hN2 hP2 hsz0
        obtain ⟨i, rfl, rfl, hi, hM, hC, hN, hP⟩ := hrel
        by_cases hiT : i < T
        · have hi32 : i < 32 := by omega
          have hiT' : (i : Int) < (T : Int) := by omega
          have hi32' : (i : Int) < 32 := by omega
          obtain ⟨q1, q2, q3, q4, q5⟩ := mid_prev (x := ⟨G, e.m, e.s, l⟩) hkn (i := i) (T := T)
          have q3 := q3 hiT i
          have cn := (hN.cell i).trans (by rw [List.getElem?_toArray, s.nodesU_get k hiT hi32])
          have cp := (hP.cell i).trans (by rw [List.getElem?_toArray, s.placesU_get k hiT hi32])
          have ct := hM.to_ (by rw [mid_len hkn]; exact q1) hi32 q3
          have cs := hM.sp_ (by rw [mid_len hkn]; exact q1) hi32 q3
          have fA := hM.fr (p := prev s.lv i k) (by rw [mid_len hkn]; exact q1)
          have fG := hM.fr (p := k + 1) (by rw [mid_len hkn]; omega)
          have lA := (hM.lt ⟨prev s.lv i k, by rw [mid_len hkn]; exact q1, rfl⟩).2
          have lG := (hM.lt ⟨k + 1, by rw [mid_len hkn]; omega, rfl⟩).2
          obtain ⟨uG, cG⟩ := hM.has (p := k + 1) (by rw [mid_len hkn]; omega) (i := 2 + i * 2) (by have := szP_le (k + 1); omega)
          obtain ⟨uH, cH⟩ := hM.has (p := k + 1) (by rw [mid_len hkn]; omega) (i := 2 + i * 2 + 1) (by have := szP_le (k + 1); omega)
          have eG : (midV s k ⟨G, e.m, e.s, l⟩ T i).at_ (k + 1) = G := by rw [mid_at, Sk.put_at hkn, if_neg (by omega), if_pos rfl]
          have eA : (midV s k ⟨G, e.m, e.s, l⟩ T i).at_ (prev s.lv i k) = s.at_ (prev s.lv i k) := q2
          have et : (midV s k ⟨G, e.m, e.s, l⟩ T i).to (prev s.lv i k) i = s.go (nxt s.lv i (prev s.lv i k)) := by show (if i < i then _ else _) = _; rw [if_neg (Nat.lt_irrefl _), q4]
          have es : (midV s k ⟨G, e.m, e.s, l⟩ T i).sp (prev s.lv i k) i = (span s.lv i (prev s.lv i k) : Int) := by show (if i < i then _ else _) = _; rw [if_neg (Nat.lt_irrefl _), q4]
          rw [eG] at cG cH fG lG
          rw [eA] at ct cs fA lA
          rw [et] at ct
          rw [es] at cs
          have hAw : s.at_ (prev s.lv i k) < w.heap.size := hfl _ ⟨_, by have := (prev_spec s.lv i k).1; show _ ≤ s.n; omega, rfl⟩
          have hsp := span_le (lv := s.lv) (i := i) (p := prev s.lv i k)
          have hpr := (prev_spec s.lv i k).1
          rw [s.lv_len] at hsp
          have hmlow := fun w' (h : SvAt w' base (midV s k ⟨G, e.m, e.s, l⟩ T i)) (hi : i < l) => mid_low (x := ⟨G, e.m, e.s, l⟩) h hkn hi hi32
          have hmhigh := fun w' (h : SvAt w' base (midV s k ⟨G, e.m, e.s, l⟩ T i)) (hi : l ≤ i) => mid_high (x := ⟨G, e.m, e.s, l⟩) h hkn hi hi32
          clear q1 q2 q3 q4 q5 eG eA et es
          unfold pt at cn
          obtain ⟨tp, htp⟩ := go_ptr s (nxt s.lv i (prev s.lv i k))
          simp only [htp] at ct hmlow
          clear htp
          generalize span s.lv i (prev s.lv i k) = sp at cs hsp hmlow hmhigh
          generalize s.at_ (prev s.lv i k) = A at cn ct cs fA lA hAw hmlow hmhigh
          generalize prev s.lv i k = pr at cp hpr hmlow
          have hAG : A ≠ G := by omega
          have hGA : G ≠ A := by omega
          have hAB : A ≠ B := by omega
          have hAB1 : A ≠ B + 1 := by omega
          have hGB0 : G ≠ B := by omega
          have hGB1 : G ≠ B + 1 := by omega
          have s0 : (sp : Int) ≤ 10000 := by omega
          have s1 : (pr : Int) ≤ (k : Int) := by omega
          have s2 : (k : Int) ≤ 10000 := by omega
          by_cases hil : i < l
          · have hil' : ¬ (i : Int) ≥ (l : Int) := by omega
            go_wp2_with fail
            go_still_tail 16, (by kernel_rfl)
            go_wp2_with fail
            obtain ⟨v1, v2⟩ := hmlow _ hM hil
            go_roundg (T - (i + 1))
            case rel => exact ⟨i + 1, int_eq (by omega), rfl, by omega, v1.chg0 (Chg.refl _ _).drew, (hC.trans' v2 (fun g hg hf => (mid_foot hkn hf).resolve_right (by show g ≠ G; omega))).drew, (((((hN.far (p := ⟨G, 2 + i * 2, none⟩) (by simp; omega) _).far (p := ⟨G, 2 + i * 2 + 1, none⟩) (by simp; omega) _).far (p := ⟨A, 2 + i * 2, none⟩) (by simp; omega) _).far (p := ⟨A, 2 + i * 2 + 1, none⟩) (by simp; omega) _)).drew, (((((hP.far (p := ⟨G, 2 + i * 2, none⟩) (by simp; omega) _).far (p := ⟨G, 2 + i * 2 + 1, none⟩) (by simp; omega) _).far (p := ⟨A, 2 + i * 2, none⟩) (by simp; omega) _).far (p := ⟨A, 2 + i * 2 + 1, none⟩) (by simp; omega) _)).drew⟩
            case measure => omega
          · have hil' : (i : Int) ≥ (l : Int) := by omega
            go_wp2_with fail
            obtain ⟨v1, v2⟩ := hmhigh _ hM (by omega)
            go_roundg (T - (i + 1))
            case rel => exact ⟨i + 1, int_eq (by omega), rfl, by omega, v1, hC.trans' v2 (fun g hg hf => (mid_foot hkn hf).resolve_right (by show g ≠ G; omega)), hN.far (p := ⟨A, 2 + i * 2 + 1, none⟩) (by simp; omega) _, hP.far (p := ⟨A, 2 + i * 2 + 1, none⟩) (by simp; omega) _⟩
            case measure => omega
        · obtain rfl : i = T := by omega
          clear hiT hi
          have hi0 : 0 < i := by omega
          have hkl : k ≤ s.lv.length := by rw [s.lv_len]; exact hkn
          have n0 := (hN.cell 0).trans (by rw [List.getElem?_toArray, s.nodesU_get k hi0 (by omega), h.prev0 hkn])
          unfold pt at n0
          have eG : (midV s k ⟨G, e.m, e.s, l⟩ i i).at_ (k + 1) = G := by rw [mid_at, Sk.put_at hkn, if_neg (by omega), if_pos rfl]
          have ex : (midV s k ⟨G, e.m, e.s, l⟩ i i).to (k + 1) 0 = if k < s.n then .pointer (some ⟨s.at_ (k + 1), 0, none⟩) else .pointer none := by
            show (if 0 < i then (s.put k _).go (nxt (ins s.lv k l) 0 (k + 1)) else _) = _
            rw [if_pos hi0, ins_nxt_behind hkl (Nat.le_refl _), h.nxt0 k]
            split
            · show pt ((s.put k _).at_ (k + 2)) = _
              rw [Sk.put_at hkn, if_neg (by omega), if_neg (by omega)]; rfl
            · rfl
          have cx := hM.to_ (p := k + 1) (i := 0) (by rw [mid_len hkn]; omega) (by omega) (.inr (.inr ⟨rfl, hi0, by show 0 < l; omega⟩))
          rw [eG, ex] at cx
          simp only [Nat.zero_mul, Nat.add_zero] at cx
          obtain ⟨j, hj1, hj2⟩ := node_info
          have nsame := fun n => neq_ptr_same (P := Tryz.prog) (wr.drewN n) ⟨s.blk, 0, none⟩ Tryz.underlying126 hj1
          have nother : k ≠ 0 → ∀ n, (binOp .neq 126 (.pointer (some ⟨s.at_ k, 0, none⟩)) (.pointer (some ⟨s.blk, 0, none⟩))).run Tryz.prog (wr.drewN n) = .ok (.bool true) (wr.drewN n) := fun h0 n => by
            obtain ⟨ca, ha, _⟩ := hM.nd k (by rw [mid_len hkn]; omega)
            obtain ⟨cb, hb, _⟩ := hM.nd 0 (Nat.zero_le _)
            have e1 : (midV s k ⟨G, e.m, e.s, l⟩ i i).at_ k = s.at_ k := by rw [mid_at, Sk.put_at hkn, if_pos (Nat.le_refl _)]
            rw [e1] at ha
            refine neq_ptr_other _ Tryz.underlying126 hj1 hj2 (fun e => h0 ?_) ha hb
            injection e with e
            exact h.v.inj k 0 hkn (Nat.zero_le _) e
          clear hj1 hj2
          have fG := hM.fr (p := k + 1) (by rw [mid_len hkn]; omega)
          obtain ⟨uG, cG⟩ := hM.has (p := k + 1) (by rw [mid_len hkn]; omega) (i := 67) (by have := szP_le (k + 1); omega)
          have lG := (hM.lt ⟨k + 1, by rw [mid_len hkn]; omega, rfl⟩).2
          rw [eG] at cG fG lG
          obtain ⟨c0, c1, c2, c3, c4⟩ := hM.head
          change wr.cell? ⟨s.blk, 68, none⟩ = some (s.nd s.n) at c0
          change wr.cell? ⟨s.blk, 70, none⟩ = some (.int .i64 (s.n : Int)) at c2
          change s.blk < wr.heap.size at c3
          change ∀ i, wr.frozen? ⟨s.blk, i, none⟩ = false at c4
          have hGs : G ≠ s.blk := by omega
          have hsG : s.blk ≠ G := by omega
          have lem := fun w1 hb => mid_end (w := w1) (base := base) (x := ⟨G, e.m, e.s, l⟩) hb hkn hT1.symm ⟨hl1, hl2⟩ h.lo
          have hfo : ∀ {w1 w2 : World}, Chg s.foot w w1 → Chg (midV s k ⟨G, e.m, e.s, l⟩ i i).foot w1 w2 → Chg s.foot w w2 := fun a b => a.trans' b (fun g hg hf => (mid_foot hkn hf).resolve_right (by show g ≠ G; omega))
          have sn : (s.n : Int) ≤ 10000 := by omega
          have inj := fun p q (hp : p ≤ s.n) (hq : q ≤ s.n) => h.v.inj p q hp hq
          change ∀ p q, p ≤ s.n → q ≤ s.n → s.at_ p = s.at_ q → p = q at inj
          clear hN hP ex eG c1
          go_wp2_with fail
          by_cases hk1 : k < s.n
          · rw [if_pos hk1] at cx
            have f2 := hM.fr (p := k + 2) (by rw [mid_len hkn]; omega)
            obtain ⟨u2, c2'⟩ := hM.has (p := k + 2) (by rw [mid_len hkn]; omega) (i := 67) (by have := szP_le (k + 2); omega)
            have l2 := (hM.lt ⟨k + 2, by rw [mid_len hkn]; omega, rfl⟩).2
            have e2 : (midV s k ⟨G, e.m, e.s, l⟩ i i).at_ (k + 2) = s.at_ (k + 1) := by rw [mid_at, Sk.put_at hkn, if_neg (by omega), if_neg (by omega)]; rfl
            rw [e2] at c2' f2 l2
            have hnb : s.at_ (k + 1) ≠ s.blk := fun e => by have := inj (k + 1) 0 (by omega) (by omega) e; omega
            have hA2 : s.at_ (k + 1) < w.heap.size := hfl _ ⟨k + 1, hk1, rfl⟩
            clear e2
            by_cases h0 : k = 0
            · have b1 := mid_bk0 hM h0
              have e0 : s.at_ k = s.blk := by rw [h0]; rfl
              clear nother
              obtain ⟨r1, r2⟩ := lem _ b1 _ rfl
              rw [if_pos hk1] at r1 r2
              have r3 := hfo hC r2
              rw [e0] at n0
              generalize s.at_ (k + 1) = A2 at *
              clear e0 b1 lem inj
              go_quiet (fail)
              go_wp2_with fail
              go_ret
              exact ⟨rfl, G, by omega, r1.chg0 ((Chg.refl _ _).drewN _), r3.drewN _⟩
            · have b1 := mid_bk1 hM hkn h0
              obtain ⟨r1, r2⟩ := lem _ b1.1 _ rfl
              rw [if_pos hk1] at r1 r2
              have r3 := hfo (hfo hC b1.2) r2
              have hAb : s.at_ k ≠ s.blk := fun e => h0 (inj k 0 hkn (by omega) e)
              replace nother := nother h0
              clear nsame
              have hAA : s.at_ (k + 1) ≠ G := by omega
              have hA1 : s.at_ k < w.heap.size := hfl _ ⟨k, hkn, rfl⟩
              clear b1 lem inj
              go_quiet (fail)
              go_wp2_with fail
              go_ret
              exact ⟨rfl, G, by omega, r1.chg0 ((Chg.refl _ _).drewN _), r3.drewN _⟩
          · rw [if_neg hk1] at cx
            by_cases h0 : k = 0
            · have b1 := mid_bk0 hM h0
              have e0 : s.at_ k = s.blk := by rw [h0]; rfl
              clear nother
              obtain ⟨r1, r2⟩ := lem _ b1 _ rfl
              rw [if_neg hk1] at r1 r2
              have r3 := hfo hC r2
              rw [e0] at n0
              clear e0 b1 lem inj
              go_quiet (fail)
              go_wp2_with fail
              go_ret
              exact ⟨rfl, G, by omega, r1.chg0 ((Chg.refl _ _).drewN _), r3.drewN _⟩
            · have b1 := mid_bk1 hM hkn h0
              obtain ⟨r1, r2⟩ := lem _ b1.1 _ rfl
              rw [if_neg hk1] at r1 r2
              have r3 := hfo (hfo hC b1.2) r2
              have hAb : s.at_ k ≠ s.blk := fun e => h0 (inj k 0 hkn (by omega) e)
              replace nother := nother h0
              clear nsame
              have hA1 : s.at_ k < w.heap.size := hfl _ ⟨k, hkn, rfl⟩
              clear b1 lem inj
              go_quiet (fail)
              go_wp2_with fail
              go_ret
              exact ⟨rfl, G, by omega, r1.chg0 ((Chg.refl _ _).drewN _), r3.drewN _⟩
end Go.Proofs.YtifcpippfiglkaaGreat
