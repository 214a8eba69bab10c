/- The walk of Set. -/
import Derived.Test.YthbjjjcppijcbaaDP5int
namespace Go.Proofs.Ythbjjjcppijcbaa.Dint
open Go.RowKit Pal

/-- What the closures of Set and Delete reach. -/
def SetR (e : Dm) (key : ByteArray) (v : Value) (w1 w' : World) : Prop :=
  ∃ d', DmAt w' d' ∧ d'.Ok ∧ d'.blk = e.blk ∧ d'.seed = e.seed ∧ (∀ g, d'.foot g → e.foot g) ∧ (∃ x r, x.key = key ∧ e.nodes.Perm (x :: r) ∧ d'.nodes.Perm ({ x with v := v } :: r)) ∧ shape d' = shape e ∧ Chg e.foot w1 w'

theorem set_with (e : Dm) (key : ByteArray) (v : Value) (vb : Nat) (w1 : World) (hD1 : DmAt w1 e) (hE : e.Ok) (hk : key.size ≤ 9223372036854775807) (hv : VOk v) (hbx : Blk w1 vb 3 #[v]) :
    Calls Try.prog 40 #[ptr e.blk, .string key, .func (.func 41) #[] #[ptr vb]] w1 (WithPost e key w1 (SetR e key v w1)) := by
  refine with_any e key 41 #[ptr vb] w1 hD1 hE hk (enters_of Try.func41 (by kernel_rfl) rfl) (SetR e key v w1) ?_
  intro ti t pre x post W htab hat hxk hC2
  have htz := (tab_ok hE htab).1.pos
  have hi : sumN e.seed key.data.toList % t.len < t.len := Nat.mod_lt _ (by omega)
  have hDW := hD1.chg0 hC2
  have hta := tab_at hDW htab
  have hbW := hbx.chg hC2 id
  have hL := loc_cell hta hi hat
  have hX := (hta.2 _ (Tb.at_mem hi)).node hat
  refine (set1_any _ x _ _ _ W hL hX (hbW.cell 0) hv).mono ?_
  rintro e5 W5 ⟨hv5, rfl⟩
  obtain ⟨d', h1, h2, h3, h4, h5, ⟨r, h6, h7⟩, h8⟩ := upd_setv hDW hE htab hi hat hv
  have hxn : x ∈ e.nodes := tab_nodes htab (mem_nodes.2 ⟨_, hi, by rw [hat]; simp⟩)
  exact ⟨hv5, d', h1.chg0 ((Chg.refl _ _).drew), h2, h3, h4, h5, ⟨x, r, hxk, h6, h7⟩, h8, ((Chg.store (S := e.foot) (hC2.mono (fun _ _ h => h.elim)) (.inr (.inr (.inr ⟨x, hxn, rfl⟩))) 2 v)).drew⟩

/-- A second table, empty. -/
theorem fresh_ok {d : Dm} (h : d.Ok) (ht : d.t1 = none) (b : Nat) (n : Int) : ({ d with t1 := some ⟨b, List.replicate (sizeFor n) []⟩ } : Dm).Ok ∧ ({ d with t1 := some ⟨b, List.replicate (sizeFor n) []⟩ } : Dm).nodes = d.nodes := by
  have hn : ({ d with t1 := some ⟨b, List.replicate (sizeFor n) []⟩ } : Dm).nodes = d.nodes := by
    unfold Dm.nodes Dm.nodes1 Tb.nodes; rw [ht]; simp
  have hat : ∀ i, (⟨b, List.replicate (sizeFor n) []⟩ : Tb).at i = [] := fun i => by
    unfold Tb.at
    rw [List.getD_eq_getElem?_getD, List.getElem?_replicate]
    split <;> rfl
  have h0 := h.s0.pos
  refine ⟨{ seed := h.seed, s0 := h.s0, s1 := fun t e => ?_, in0 := h.in0, in1 := fun t e i x _ hx => ?_, sums := by rw [hn]; exact h.sums, keys := by rw [hn]; exact h.keys, vok := by rw [hn]; exact h.vok, count := by rw [hn]; exact h.count, atlt := fun t e => ?_, at0 := fun e => (by cases e), moved := h.moved }, hn⟩
  · injection e with e
    obtain ⟨k, h2, h16, hk, _⟩ := sizeFor_spec n
    exact ⟨k, h2, h16, by rw [← e]; unfold Tb.len; simpa using hk⟩
  · injection e with e
    subst e
    rw [hat i] at hx
    cases hx
  · show d.at_ < d.t0.len
    have := h.at0 ht
    omega

theorem moves_dm (e : Dm) (n : Int) (w : World) (h : DmAt w e) (hok : e.Ok) (ht : e.t1 = none) :
    Calls Try.prog 43 #[ptr e.blk, .int .i64 n] w fun r w' => (∃ v, r = .returned v) ∧ ∃ e2 t, DmAt w' e2 ∧ e2.Ok ∧ e2.blk = e.blk ∧ e2.seed = e.seed ∧ e2.n = e.n ∧ e2.nodes = e.nodes ∧
      (∀ g, e2.foot g → e.foot g ∨ w.heap.size ≤ g) ∧ Chg (fun g => g = e.blk) w w' ∧ e2.t1 = some t ∧ shape e2 = (e.t0.len, some (sizeFor n), e.at_) := by
  refine (moves_any e n w h ht).mono ?_
  rintro r w' ⟨hr, b, hb, hD, hC⟩
  obtain ⟨f1, f2⟩ := fresh_ok hok ht b n
  refine ⟨hr, _, _, hD, f1, rfl, rfl, rfl, f2, fun g hg => ?_, hC, rfl, ?_⟩
  · rcases hg with h' | h' | ⟨t, ht', h'⟩ | ⟨x, hx, h'⟩
    · exact .inl (.inl h')
    · exact .inl (.inr (.inl h'))
    · injection ht' with ht'
      subst ht'
      exact .inr (by rw [h']; exact hb)
    · rw [f2] at hx
      exact .inl (.inr (.inr (.inr ⟨x, hx, h'⟩)))
  · unfold shape Tb.len; simp

/-- A new node is put. -/
theorem put_new (e : Dm) (ti : Nat) (t : Tb) (q : Nat) (key : ByteArray) (v : Value) (w9 : World) (h : DmAt w9 e) (hok : e.Ok) (ht : e.tab ti = some t) (hti : ti = 0 → e.t1 = none) (hno : ∀ x ∈ e.nodes, x.key ≠ key) (hq : sumN e.seed key.data.toList = q) (hv : VOk v) :
    Calls Try.prog 44 #[tbVal t, .slice (some ⟨w9.heap.size + 1, 0, none⟩) 1 1] ((w9.alloc (.cells #[.int .u32 (q : Int), .string key, v, .pointer none] 83)).alloc (.cells #[.pointer (some ⟨w9.heap.size, 0, none⟩)] 81)) fun r W' => (∃ v, r = .returned v) ∧
      ∃ d', (∀ W2, Chg (fun g => g = e.blk) W' W2 → Blk W2 e.blk 76 ((dmCells e).setIfInBounds 4 (.int .i64 ((e.n : Int) + 1))) → DmAt W2 d') ∧ Blk W' e.blk 76 (dmCells e) ∧ Chg e.foot w9 W' ∧
      d'.Ok ∧ d'.blk = e.blk ∧ d'.seed = e.seed ∧ (∀ g, d'.foot g → e.foot g ∨ w9.heap.size ≤ g) ∧ (∃ x, x.key = key ∧ x.v = v ∧ d'.nodes.Perm (x :: e.nodes)) ∧ shape d' = shape e := by
  have hC : Chg (fun _ => False) w9 ((w9.alloc (.cells #[.int .u32 (q : Int), .string key, v, .pointer none] 83)).alloc (.cells #[.pointer (some ⟨w9.heap.size, 0, none⟩)] 81)) := ((Chg.refl _ w9).alloc _).alloc _
  have hx : Blk ((w9.alloc (.cells #[.int .u32 (q : Int), .string key, v, .pointer none] 83)).alloc (.cells #[.pointer (some ⟨w9.heap.size, 0, none⟩)] 81)) w9.heap.size 83 #[.int .u32 (q : Int), .string key, v, .pointer none] := (Blk.new w9 _ _).alloc _
  have hb : Blk ((w9.alloc (.cells #[.int .u32 (q : Int), .string key, v, .pointer none] 83)).alloc (.cells #[.pointer (some ⟨w9.heap.size, 0, none⟩)] 81)) (w9.heap.size + 1) 81 #[.pointer (some ⟨w9.heap.size, 0, none⟩)] := by
    have := Blk.new (w9.alloc (.cells #[.int .u32 (q : Int), .string key, v, .pointer none] 83)) 81 #[.pointer (some ⟨w9.heap.size, 0, none⟩)]
    rw [World.size_alloc] at this
    exact this
  generalize (w9.alloc (.cells #[.int .u32 (q : Int), .string key, v, .pointer none] 83)).alloc (.cells #[.pointer (some ⟨w9.heap.size, 0, none⟩)] 81) = W at hC hx hb ⊢
  have hDW := h.chg0 hC
  have hqlt : q < 4294967296 := by rw [← hq]; exact sumN_lt _ _
  have hp := put_any t ⟨w9.heap.size, q, key, v⟩ (.pointer none) (w9.heap.size + 1) W (tab_ok hok ht).1 hqlt (tab_at hDW ht).1 hx (hb.cell 0)
  refine hp.mono ?_
  rintro r W' ⟨hr, hW'⟩
  obtain ⟨d', g1, g2, g3, g4, g5, g6, g7, g8, g9⟩ := upd_push hDW hok ht hti (x := ⟨w9.heap.size, q, key, v⟩) hx (fun hf => Nat.lt_irrefl _ (h.lt hf)) hq.symm hv hno hW'
  refine ⟨hr, d', g1, g2, (hC.mono (fun _ _ h => h.elim)).trans' g3 ?_, g4, g5, g6, fun g hg => (g7 g hg).imp id fun e => by rw [e]; exact Nat.le_refl _, ⟨_, rfl, rfl, g8⟩, g9⟩
  rintro g hg (rfl | rfl)
  · exact tab_foot ht
  · exact absurd hg (Nat.lt_irrefl _)

set_option maxRecDepth 100000 in
set_option maxHeartbeats 1000000 in
theorem Set_any (d : Dm) (key : ByteArray) (v : Value) (w : World) (h : DmAt w d) (hok : d.Ok) (hk : key.size ≤ 9223372036854775807) (hv : VOk v) (hn : d.n < 1152921504606846976) :
    Calls Try.prog 17 #[ptr d.blk, .string key, v] w fun e w' => ∃ d', SetPost d key v w e w' d' := by
  have hlt := h.hd.lt
  have hn' : (d.n : Int) < 1152921504606846976 := by omega
  obtain ⟨e, he⟩ : ∃ e, Hid (stepD d 1 = e) := ⟨_, rfl⟩
  have hE : e.Ok := by rw [← he.out]; exact moveN_ok hok _
  have hblk : e.blk = d.blk := by rw [← he.out]; exact (moveN_blk d _).1
  have hseed : e.seed = d.seed := by rw [← he.out]; exact (moveN_blk d _).2.1
  have hen : e.n = d.n := by rw [← he.out]; exact (moveN_blk d _).2.2
  rw [← hen] at hn'
  have hperm : e.nodes.Perm d.nodes := by rw [← he.out]; exact moveN_perm hok _
  have hfoot : ∀ g, e.foot g → d.foot g := fun g hg => moveN_foot hok _ (by rw [← he.out] at hg; exact hg)
  have hst : ∀ w, DmAt w d → _ := fun w h => Step_any d 1 w h hok
  rw [he.out] at hst
  have HB := Lib.hid hblk
  have HN := Lib.hid hen
  have HS := Lib.hid hseed
  have HV := hv
  obtain ⟨vv, rfl⟩ := hv
  have hsw : ∀ w1, DmAt w1 e → ∀ vb, Blk w1 vb 3 #[(.int .i64 vv)] → _ := fun w1 h1 vb hb => set_with e key _ vb w1 h1 hE hk HV hb
  clear hblk hen hseed
  unfold ptr at hst hsw ⊢
  rw [HB.out] at hsw
  go_enter Try.func17, Try.ntmps17
  go_wp2_with fail
  refine (hst _ (h.chg0 ((Chg.refl _ w).alloc _))).mono ?_
  rintro e1 w1 ⟨rfl, hD1, hC1⟩
  have hbx : Blk w1 w.heap.size 3 #[.int .i64 vv] := (Blk.new w _ _).chg hC1 fun hg => Nat.lt_irrefl _ (h.lt hg)
  have hC : Chg d.foot w w1 := ((Chg.refl d.foot w).alloc _).trans hC1
  go_wp2_with fail
  refine (hsw w1 hD1 w.heap.size hbx).mono ?_
  rintro e5 W5 (⟨rfl, ⟨y, hy, hyk⟩, d', hR1, hR2, hR3, hR4, hR5, ⟨x, r, hR6, hR7, hR8⟩, hR9, hR10⟩ | ⟨rfl, hno, hC5⟩)
  · go_wp2_with fail
    go_ret
    exact ⟨d', hR1, hR2, hR3.trans HB.out, hR4.trans HS.out, hC.trans' hR10 (fun g _ hg => hfoot g hg), fun g hg => .inl (hfoot g (hR5 g hg)),
      .inl ⟨rfl, ⟨x, r, hperm.symm.trans hR7, hR6, hR8⟩, by rw [hR9, he.out]⟩⟩
  · have hD5 := hD1.chg0 hC5
    have hbx5 := hbx.chg hC5 id
    have kb5 := hbx5.cell 0
    simp only [List.getElem?_toArray, List.getElem?_cons_zero] at kb5
    have hC' := hC.trans' hC5 fun _ _ h => h.elim
    clear hD1 hC1 hbx hC hsw hst
    obtain ⟨c0, c1, c2, c3, c4, cf, clt⟩ := dm_cells hD5
    rw [HB.out] at c0 c1 c2 c3 c4 cf clt
    have hmv : ∀ W, DmAt W e → _ := fun W h => isMoving_any e W h
    unfold ptr at hmv
    rw [HB.out] at hmv
    have hlen := hE.s0.pos
    obtain ⟨q, HQ⟩ : ∃ q, Hid (sumN e.seed key.data.toList = q) := ⟨_, rfl⟩
    have hof : ∀ W, DmAt W e → _ := fun W h => of_any e key W h hE.seed hk
    unfold ptr at hof
    rw [HB.out, HQ.out] at hof
    cases ht : e.t1 with
    | some t =>
      rw [ht] at hmv c2
      have HT := Lib.hid ht
      simp only [t1Val, tbVal] at c1 c2
      clear ht
      go_wp2_with (go_at_call 42; refine (hmv _ hD5).mono ?_; rintro e8 w8 ⟨rfl, rfl⟩)
      have hpt : ∀ W, DmAt W e → _ := fun W h => put_new e 1 t q key _ W h hE HT.out (fun h => by cases h) hno HQ.out HV
      unfold tbVal at hpt
      go_region_with (first
        | (go_at_call 45; refine (hof _ (hD5.chg0 ((Chg.refl _ _).drew))).mono ?_; rintro e9 w9 ⟨rfl, hc9⟩; have hC9 := (Chg.refl _ W5).drew.trans hc9; have kbx := (hbx5.chg hC9 id).cell 0; simp only [List.getElem?_toArray, List.getElem?_cons_zero] at kbx)
        | (go_at_call 44; refine (hpt w9 (hD5.chg0 hC9)).mono ?_; rintro e10 w10 ⟨⟨v10, rfl⟩, d', g1, g2, g3, g4, g5, g6, g7, g8, g9⟩))
      all_goals
        have k4 := g2.cell 4
        have kf := g2.frozen 4
        simp only [dmCells, List.getElem?_toArray, List.getElem?_cons_zero, List.getElem?_cons_succ] at k4
        rw [HB.out] at k4 kf
        go_wp2_with fail
        go_ret
        have hdm := g1 (w10.setCell ⟨d.blk, 4, none⟩ (.int .i64 ((e.n : Int) + 1))) (by rw [HB.out]; exact Chg.store (S := fun g => g = d.blk) (Chg.refl _ _) rfl 4 _) (by rw [HB.out]; rw [HB.out] at g2; exact g2.set 4 _)
        refine ⟨d', hdm, g4, g5.trans HB.out, g6.trans HS.out, ?_, ?_, .inr ⟨rfl, fun x hx => hno x (hperm.mem_iff.2 hx), ?_, ?_⟩⟩
        · exact Chg.store (S := d.foot) (hC'.trans' ((hC9.mono (fun _ _ h => h.elim) : Chg e.foot W5 w9).trans g3) (fun g _ hg => hfoot g hg)) (.inl rfl) 4 _
        · intro g hg
          exact (g7 g hg).elim (fun h9 => .inl (hfoot g h9)) (fun h9 => .inr (Nat.le_trans hC'.size (Nat.le_trans hC9.size h9)))
        · obtain ⟨x, hx1, hx2, hx3⟩ := g8
          exact ⟨x, hx1, hx2, hx3.trans (List.Perm.cons x (hperm))⟩
        · rw [g9, he.out]
          unfold growS shape
          rw [HT.out]
          simp
    | none =>
      rw [ht] at hmv c2
      have HT := Lib.hid ht
      simp only [t1Val, tbVal] at c1 c2
      clear ht
      by_cases hg : e.t0.len ≤ e.n ∧ e.t0.len < 65536
      · have hg1 : (e.n : Int) ≥ (e.t0.len : Int) := by omega
        have hg2 : (e.t0.len : Int) < 65536 := by omega
        have HG := Lib.hid hg
        clear hg
        have hms : ∀ W, DmAt W e → _ := fun W h => moves_dm e (2 * (e.n : Int)) W h hE HT.out
        unfold ptr at hms
        rw [HB.out] at hms
        go_wp2_with fail
        refine (hmv _ hD5).mono ?_
        rintro e8 w8 ⟨rfl, rfl⟩
        go_wp2_with fail
        refine (hms _ hD5).mono ?_
        rintro e8 w8 ⟨⟨v8, rfl⟩, e2, t, hD8, hE2, hb2, hs2, hn2, hnn2, hf2, hC8, ht2, hsh2⟩
        have HB2 := Lib.hid hb2
        have HS2 := Lib.hid hs2
        have HE2 := Lib.hid hn2
        have HN2 := Lib.hid hnn2
        have HT2 := Lib.hid (ht2 : e2.tab 1 = some t)
        have HSH := Lib.hid hsh2
        have hmv2 := isMoving_any e2 w8 hD8
        have hof2 : ∀ W, DmAt W e2 → _ := fun W h => of_any e2 key W h hE2.seed hk
        obtain ⟨k0, k1, k2, k3, k4, kf, klt⟩ := dm_cells hD8
        rw [ht2] at k2 hmv2
        unfold ptr at hmv2 hof2
        rw [HB2.out] at k0 k1 k2 k3 k4 kf klt hmv2 hof2
        rw [HS2.out, HQ.out] at hof2
        simp only [t1Val, tbVal] at k1 k2
        have hbx8 := hbx5.chg hC8 (fun h' => by omega)
        have kb8 := hbx8.cell 0
        simp only [List.getElem?_toArray, List.getElem?_cons_zero] at kb8
        have hC8' : Chg d.foot w w8 := hC'.trans' hC8 fun g _ hg => hg ▸ .inl rfl
        have hft2 : ∀ g, g < w.heap.size → e2.foot g → d.foot g := fun g hl hg => (hf2 g hg).elim (hfoot g) fun h9 => absurd (Nat.le_trans hC'.size h9) (by omega)
        clear hb2 hs2 hn2 hnn2 ht2 hsh2 hof hmv hms k3 k4 c0 c1 c2 c3 c4 cf clt
        go_wp2_with fail
        refine hmv2.mono ?_
        rintro e8 w8' ⟨rfl, rfl⟩
        go_wp2_with fail
        have hpt : ∀ W, DmAt W e2 → _ := fun W h => put_new e2 1 t q key _ W h hE2 HT2.out (fun h => by cases h) (by rw [HN2.out]; exact hno) (by rw [HS2.out]; exact HQ.out) HV
        unfold tbVal at hpt
        go_region_with (first
          | (go_at_call 45; refine (hof2 _ (hD8.chg0 ((Chg.refl _ _).drew))).mono ?_; rintro e9 w9 ⟨rfl, hc9⟩; have hC9 := (Chg.refl _ w8).drew.trans hc9; have kbx := (hbx8.chg hC9 id).cell 0; simp only [List.getElem?_toArray, List.getElem?_cons_zero] at kbx)
          | (go_at_call 44; refine (hpt w9 (hD8.chg0 hC9)).mono ?_; rintro e10 w10 ⟨⟨v10, rfl⟩, d', g1, g2, g3, g4, g5, g6, g7, g8, g9⟩))
        all_goals
          have k4 := g2.cell 4
          have kf := g2.frozen 4
          simp only [dmCells, List.getElem?_toArray, List.getElem?_cons_zero, List.getElem?_cons_succ] at k4
          rw [HE2.out] at k4 g1
          rw [HB2.out] at k4 kf
          go_wp2_with fail
          go_ret
          have hdm := g1 (w10.setCell ⟨d.blk, 4, none⟩ (.int .i64 ((e.n : Int) + 1))) (by rw [HB2.out]; exact Chg.store (S := fun g => g = d.blk) (Chg.refl _ _) rfl 4 _) (by rw [HB2.out]; rw [HB2.out] at g2; exact g2.set 4 _)
          refine ⟨d', hdm, g4, g5.trans HB2.out, (g6.trans HS2.out).trans HS.out, ?_, ?_, .inr ⟨rfl, fun x hx => hno x (hperm.mem_iff.2 hx), ?_, ?_⟩⟩
          · exact Chg.store (S := d.foot) (hC8'.trans' ((hC9.mono (fun _ _ h => h.elim) : Chg e2.foot w8 w9).trans g3) (fun g hl hg => hft2 g hl hg)) (.inl rfl) 4 _
          · intro g hg
            exact (g7 g hg).elim (fun h9 => (hf2 g h9).elim (fun h9 => .inl (hfoot g h9)) (fun h9 => .inr (Nat.le_trans hC'.size h9))) (fun h9 => .inr (Nat.le_trans hC8'.size (Nat.le_trans hC9.size h9)))
          · obtain ⟨x, hx1, hx2, hx3⟩ := g8
            exact ⟨x, hx1, hx2, hx3.trans (List.Perm.cons x (by rw [HN2.out]; exact hperm))⟩
          · rw [g9, he.out, HSH.out]
            unfold growS shape
            rw [HT.out, ← HN.out, if_pos ⟨rfl, HG.out.1, HG.out.2⟩, show ((2 * e.n : Nat) : Int) = 2 * (e.n : Int) by omega]
      · have HG := Lib.hid hg
        have hcase : e.n < e.t0.len ∨ (e.t0.len ≤ e.n ∧ 65536 ≤ e.t0.len) := by omega
        clear hg
        rcases hcase with hg1 | ⟨hg1, hg2⟩
        · have hx1 : ¬ e.t0.len ≤ e.n := by omega
          go_wp2_with fail
          refine (hmv _ hD5).mono ?_
          rintro e8 w8 ⟨rfl, rfl⟩
          go_wp2_with fail
          refine (hmv _ hD5).mono ?_
          rintro e8 w8 ⟨rfl, rfl⟩
          go_wp2_with fail
          have hpt : ∀ W, DmAt W e → _ := fun W h => put_new e 0 e.t0 q key _ W h hE rfl (fun _ => HT.out) hno HQ.out HV
          unfold tbVal at hpt
          go_region_with (first
            | (go_at_call 45; refine (hof _ (hD5.chg0 ((Chg.refl _ _).drew))).mono ?_; rintro e9 w9 ⟨rfl, hc9⟩; have hC9 := (Chg.refl _ W5).drew.trans hc9; have kbx := (hbx5.chg hC9 id).cell 0; simp only [List.getElem?_toArray, List.getElem?_cons_zero] at kbx)
            | (go_at_call 44; refine (hpt w9 (hD5.chg0 hC9)).mono ?_; rintro e10 w10 ⟨⟨v10, rfl⟩, d', g1, g2, g3, g4, g5, g6, g7, g8, g9⟩))
          all_goals
            have k4 := g2.cell 4
            have kf := g2.frozen 4
            simp only [dmCells, List.getElem?_toArray, List.getElem?_cons_zero, List.getElem?_cons_succ] at k4
            rw [HB.out] at k4 kf
            go_wp2_with fail
            go_ret
            have hdm := g1 (w10.setCell ⟨d.blk, 4, none⟩ (.int .i64 ((e.n : Int) + 1))) (by rw [HB.out]; exact Chg.store (S := fun g => g = d.blk) (Chg.refl _ _) rfl 4 _) (by rw [HB.out]; rw [HB.out] at g2; exact g2.set 4 _)
            refine ⟨d', hdm, g4, g5.trans HB.out, g6.trans HS.out, ?_, ?_, .inr ⟨rfl, fun x hx => hno x (hperm.mem_iff.2 hx), ?_, ?_⟩⟩
            · exact Chg.store (S := d.foot) (hC'.trans' ((hC9.mono (fun _ _ h => h.elim) : Chg e.foot W5 w9).trans g3) (fun g _ hg => hfoot g hg)) (.inl rfl) 4 _
            · intro g hg
              exact (g7 g hg).elim (fun h9 => .inl (hfoot g h9)) (fun h9 => .inr (Nat.le_trans hC'.size (Nat.le_trans hC9.size h9)))
            · obtain ⟨x, hx1, hx2, hx3⟩ := g8
              exact ⟨x, hx1, hx2, hx3.trans (List.Perm.cons x (hperm))⟩
            · rw [g9, he.out]
              unfold growS
              rw [if_neg]
              rintro ⟨_, h1, h2⟩
              refine HG.out ⟨?_, h2⟩
              rw [HN.out]; exact h1
        · have hx1 : ¬ e.t0.len < 65536 := by omega
          have hg3 : (e.n : Int) ≥ (e.t0.len : Int) := by omega
          have hx3 : ((e.t0.len : Int) < 65536) = False := by simp only [eq_iff_iff, iff_false]; omega
          clear hg2 hlen hg1 hx1
          go_wp2_with fail
          refine (hmv _ hD5).mono ?_
          rintro e8 w8 ⟨rfl, rfl⟩
          go_wp2_with fail
          refine (hmv _ hD5).mono ?_
          rintro e8 w8 ⟨rfl, rfl⟩
          go_wp2_with fail
          have hpt : ∀ W, DmAt W e → _ := fun W h => put_new e 0 e.t0 q key _ W h hE rfl (fun _ => HT.out) hno HQ.out HV
          unfold tbVal at hpt
          go_region_with (first
            | (go_at_call 45; refine (hof _ (hD5.chg0 ((Chg.refl _ _).drew))).mono ?_; rintro e9 w9 ⟨rfl, hc9⟩; have hC9 := (Chg.refl _ W5).drew.trans hc9; have kbx := (hbx5.chg hC9 id).cell 0; simp only [List.getElem?_toArray, List.getElem?_cons_zero] at kbx)
            | (go_at_call 44; refine (hpt w9 (hD5.chg0 hC9)).mono ?_; rintro e10 w10 ⟨⟨v10, rfl⟩, d', g1, g2, g3, g4, g5, g6, g7, g8, g9⟩))
          all_goals
            have k4 := g2.cell 4
            have kf := g2.frozen 4
            simp only [dmCells, List.getElem?_toArray, List.getElem?_cons_zero, List.getElem?_cons_succ] at k4
            rw [HB.out] at k4 kf
            go_wp2_with fail
            go_ret
            have hdm := g1 (w10.setCell ⟨d.blk, 4, none⟩ (.int .i64 ((e.n : Int) + 1))) (by rw [HB.out]; exact Chg.store (S := fun g => g = d.blk) (Chg.refl _ _) rfl 4 _) (by rw [HB.out]; rw [HB.out] at g2; exact g2.set 4 _)
            refine ⟨d', hdm, g4, g5.trans HB.out, g6.trans HS.out, ?_, ?_, .inr ⟨rfl, fun x hx => hno x (hperm.mem_iff.2 hx), ?_, ?_⟩⟩
            · exact Chg.store (S := d.foot) (hC'.trans' ((hC9.mono (fun _ _ h => h.elim) : Chg e.foot W5 w9).trans g3) (fun g _ hg => hfoot g hg)) (.inl rfl) 4 _
            · intro g hg
              exact (g7 g hg).elim (fun h9 => .inl (hfoot g h9)) (fun h9 => .inr (Nat.le_trans hC'.size (Nat.le_trans hC9.size h9)))
            · obtain ⟨x, hx1, hx2, hx3⟩ := g8
              exact ⟨x, hx1, hx2, hx3.trans (List.Perm.cons x (hperm))⟩
            · rw [g9, he.out]
              unfold growS
              rw [if_neg]
              rintro ⟨_, h1, h2⟩
              refine HG.out ⟨?_, h2⟩
              rw [HN.out]; exact h1

set_option maxHeartbeats 400000 in
theorem Set_nil (key : ByteArray) (v : Value) (hv : VOk v) (w : World) :
    Calls Try.prog 17 #[.pointer none, .string key, v] w fun e w' => e = .returned (.bool false) ∧ Chg (fun _ => False) w w' := by
  obtain ⟨vv, rfl⟩ := hv
  go_enter Try.func17, Try.ntmps17
  go_wp2
  go_ret
  exact ⟨rfl, (Chg.refl _ w).alloc _⟩

end Go.Proofs.Ythbjjjcppijcbaa.Dint
