/- Texts joined for ZsetWays: DW8int64, DW9int64, DIint64, ACint64, LB. -/
import Derived.Test.YtifcpippfiglkaaGreatJZsetWaysd
import Derived.Deep.Slices
import Derived.Deep.Fields
import Derived.ChangeSame
import Derived.Below
set_option linter.unusedVariables false
set_option linter.unusedSimpArgs false

/- The walk of Set. -/
namespace Go.Proofs.YtifcpippfiglkaaGreat.Dint64
open Go.RowKit Pal

/-- What the closures of Set and Delete reach. -/
def SetR (e : Dm) (key : ByteArray) (v : Value) (w1 w' : World) : Prop :=
  ∃ d', DmAt w' d' ∧ d'.Ok ∧ d'.blk = e.blk ∧ d'.seed = e.seed ∧ (∀ g, d'.foot g → e.foot g) ∧ (∃ x r, x.key = key ∧ e.nodes.Perm (x :: r) ∧ d'.nodes.Perm ({ x with v := v } :: r)) ∧ shape d' = shape e ∧ (∀ k, d'.in1 k ↔ e.in1 k) ∧ Chg e.foot w1 w'

theorem set_with (e : Dm) (key : ByteArray) (v : Value) (vb : Nat) (w1 : World) (hD1 : DmAt w1 e) (hE : e.Ok) (hk : key.size ≤ 9223372036854775807) (hv : VOk v) (hbx : Blk w1 vb 2 #[v]) :
    Calls Tryz.prog 87 #[ptr e.blk, .string key, .func (.func 92) #[] #[ptr vb]] w1 (WithPost e key w1 (SetR e key v w1)) := by
  refine with_any e key 92 #[ptr vb] w1 hD1 hE hk (enters_of Tryz.func92 (by kernel_rfl) rfl) (SetR e key v w1) ?_
  intro ti t pre x post W htab hat hxk hC2
  have htz := (tab_ok hE htab).1.pos
  have hi : sumN e.seed key.data.toList % t.len < t.len := Nat.mod_lt _ (by omega)
  have hDW := hD1.chg0 hC2
  have hta := tab_at hDW htab
  have hbW := hbx.chg hC2 id
  have hL := loc_cell hta hi hat
  have hX := (hta.2 _ (Tb.at_mem hi)).node hat
  refine (set1_any _ x _ _ _ W hL hX (hbW.cell 0) hv).mono ?_
  rintro e5 W5 ⟨hv5, rfl⟩
  obtain ⟨d', h1, h2, h3, h4, h5, ⟨r, h6, h7⟩, h8, h9⟩ := upd_setv hDW hE htab hi hat hv
  have hxn : x ∈ e.nodes := tab_nodes htab (mem_nodes.2 ⟨_, hi, by rw [hat]; simp⟩)
  exact ⟨hv5, d', h1.chg0 ((Chg.refl _ _).drew), h2, h3, h4, h5, ⟨x, r, hxk, h6, h7⟩, h8, h9, ((Chg.store (S := e.foot) (hC2.mono (fun _ _ h => h.elim)) (.inr (.inr (.inr ⟨x, hxn, rfl⟩))) 2 v)).drew⟩

/-- A second table, empty. -/
theorem fresh_ok {d : Dm} (h : d.Ok) (ht : d.t1 = none) (b : Nat) (n : Int) : ({ d with t1 := some ⟨b, List.replicate (sizeFor n) []⟩ } : Dm).Ok ∧ ({ d with t1 := some ⟨b, List.replicate (sizeFor n) []⟩ } : Dm).nodes = d.nodes := by
  have hn : ({ d with t1 := some ⟨b, List.replicate (sizeFor n) []⟩ } : Dm).nodes = d.nodes := by
    unfold Dm.nodes Dm.nodes1 Tb.nodes; rw [ht]; simp
  have hat : ∀ i, (⟨b, List.replicate (sizeFor n) []⟩ : Tb).at i = [] := fun i => by
    unfold Tb.at
    rw [List.getD_eq_getElem?_getD, List.getElem?_replicate]
    split <;> rfl
  have h0 := h.s0.pos
  refine ⟨{ seed := h.seed, s0 := h.s0, s1 := fun t e => ?_, in0 := h.in0, in1 := fun t e i x _ hx => ?_, sums := by rw [hn]; exact h.sums, keys := by rw [hn]; exact h.keys, vok := by rw [hn]; exact h.vok, count := by rw [hn]; exact h.count, atlt := fun t e => ?_, at0 := fun e => (by cases e), moved := h.moved }, hn⟩
  · injection e with e
    obtain ⟨k, h2, h16, hk, _⟩ := sizeFor_spec n
    exact ⟨k, h2, h16, by rw [← e]; unfold Tb.len; simpa using hk⟩
  · injection e with e
    subst e
    rw [hat i] at hx
    cases hx
  · show d.at_ < d.t0.len
    have := h.at0 ht
    omega

theorem moves_dm (e : Dm) (n : Int) (w : World) (h : DmAt w e) (hok : e.Ok) (ht : e.t1 = none) :
    Calls Tryz.prog 94 #[ptr e.blk, .int .i64 n] w fun r w' => (∃ v, r = .returned v) ∧ ∃ e2 t, DmAt w' e2 ∧ e2.Ok ∧ e2.blk = e.blk ∧ e2.seed = e.seed ∧ e2.n = e.n ∧ e2.nodes = e.nodes ∧
      (∀ g, e2.foot g → e.foot g ∨ w.heap.size ≤ g) ∧ Chg (fun g => g = e.blk) w w' ∧ e2.t1 = some t ∧ shape e2 = (e.t0.len, some (sizeFor n), e.at_) ∧ ∀ k, e2.in1 k ↔ e.in1 k := by
  refine (moves_any e n w h ht).mono ?_
  rintro r w' ⟨hr, b, hb, hD, hC⟩
  obtain ⟨f1, f2⟩ := fresh_ok hok ht b n
  refine ⟨hr, _, _, hD, f1, rfl, rfl, rfl, f2, fun g hg => ?_, hC, rfl, ?_, fun k => ?_⟩
  · rcases hg with h' | h' | ⟨t, ht', h'⟩ | ⟨x, hx, h'⟩
    · exact .inl (.inl h')
    · exact .inl (.inr (.inl h'))
    · injection ht' with ht'
      subst ht'
      exact .inr (by rw [h']; exact hb)
    · rw [f2] at hx
      exact .inl (.inr (.inr (.inr ⟨x, hx, h'⟩)))
  · unfold shape Tb.len; simp
  · unfold Dm.in1
    rw [ht]
    constructor
    · rintro ⟨t, he, x, hx, _⟩
      injection he with he
      subst he
      unfold Tb.nodes at hx
      simp at hx
    · rintro ⟨t, he, _⟩
      cases he

/-- A new node is put. -/
theorem put_new (e : Dm) (ti : Nat) (t : Tb) (q : Nat) (key : ByteArray) (v : Value) (w9 : World) (h : DmAt w9 e) (hok : e.Ok) (ht : e.tab ti = some t) (hti : ti = 0 → e.t1 = none) (hno : ∀ x ∈ e.nodes, x.key ≠ key) (hq : sumN e.seed key.data.toList = q) (hv : VOk v) :
    Calls Tryz.prog 95 #[tbVal t, .slice (some ⟨w9.heap.size + 1, 0, none⟩) 1 1] ((w9.alloc (.cells #[.int .u32 (q : Int), .string key, v, .pointer none] 160)).alloc (.cells #[.pointer (some ⟨w9.heap.size, 0, none⟩)] 158)) fun r W' => (∃ v, r = .returned v) ∧
      ∃ d', (∀ W2, Chg (fun g => g = e.blk) W' W2 → Blk W2 e.blk 138 ((dmCells e).setIfInBounds 4 (.int .i64 ((e.n : Int) + 1))) → DmAt W2 d') ∧ Blk W' e.blk 138 (dmCells e) ∧ Chg e.foot w9 W' ∧
      d'.Ok ∧ d'.blk = e.blk ∧ d'.seed = e.seed ∧ (∀ g, d'.foot g → e.foot g ∨ w9.heap.size ≤ g) ∧ (∃ x, x.key = key ∧ x.v = v ∧ d'.nodes.Perm (x :: e.nodes)) ∧ shape d' = shape e ∧ ∀ k, d'.in1 k ↔ e.in1 k ∨ (k = key ∧ e.t1.isSome = true) := by
  have hC : Chg (fun _ => False) w9 ((w9.alloc (.cells #[.int .u32 (q : Int), .string key, v, .pointer none] 160)).alloc (.cells #[.pointer (some ⟨w9.heap.size, 0, none⟩)] 158)) := ((Chg.refl _ w9).alloc _).alloc _
  have hx : Blk ((w9.alloc (.cells #[.int .u32 (q : Int), .string key, v, .pointer none] 160)).alloc (.cells #[.pointer (some ⟨w9.heap.size, 0, none⟩)] 158)) w9.heap.size 160 #[.int .u32 (q : Int), .string key, v, .pointer none] := (Blk.new w9 _ _).alloc _
  have hb : Blk ((w9.alloc (.cells #[.int .u32 (q : Int), .string key, v, .pointer none] 160)).alloc (.cells #[.pointer (some ⟨w9.heap.size, 0, none⟩)] 158)) (w9.heap.size + 1) 158 #[.pointer (some ⟨w9.heap.size, 0, none⟩)] := by
    have := Blk.new (w9.alloc (.cells #[.int .u32 (q : Int), .string key, v, .pointer none] 160)) 158 #[.pointer (some ⟨w9.heap.size, 0, none⟩)]
    rw [World.size_alloc] at this
    exact this
  generalize (w9.alloc (.cells #[.int .u32 (q : Int), .string key, v, .pointer none] 160)).alloc (.cells #[.pointer (some ⟨w9.heap.size, 0, none⟩)] 158) = W at hC hx hb ⊢
  have hDW := h.chg0 hC
  have hqlt : q < 4294967296 := by rw [← hq]; exact sumN_lt _ _
  have hp := put_any t ⟨w9.heap.size, q, key, v⟩ (.pointer none) (w9.heap.size + 1) W (tab_ok hok ht).1 hqlt (tab_at hDW ht).1 hx (hb.cell 0)
  refine hp.mono ?_
  rintro r W' ⟨hr, hW'⟩
  obtain ⟨d', g1, g2, g3, g4, g5, g6, g7, g8, g9, g10⟩ := upd_push hDW hok ht hti (x := ⟨w9.heap.size, q, key, v⟩) hx (fun hf => Nat.lt_irrefl _ (h.lt hf)) hq.symm hv hno hW'
  refine ⟨hr, d', g1, g2, (hC.mono (fun _ _ h => h.elim)).trans' g3 ?_, g4, g5, g6, fun g hg => (g7 g hg).imp id fun e => by rw [e]; exact Nat.le_refl _, ⟨_, rfl, rfl, g8⟩, g9, g10⟩
  rintro g hg (rfl | rfl)
  · exact tab_foot ht
  · exact absurd hg (Nat.lt_irrefl _)

theorem place_new {d e f d' : Dm} {key : ByteArray} (he : stepD d 1 = e) (hp : e.nodes.Perm d.nodes) (hno : ∀ x ∈ e.nodes, x.key ≠ key) (hs : shape d' = shape f) (h : ∀ k, d'.in1 k ↔ e.in1 k ∨ (k = key ∧ f.t1.isSome = true)) :
    ∀ k, d'.in1 k ↔ (stepD d 1).in1 k ∨ (k = key ∧ d'.t1.isSome = true ∧ ∀ x ∈ d.nodes, x.key ≠ key) := by
  intro k
  have h1 : d'.t1.isSome = f.t1.isSome := by
    have h2 : d'.t1.map Tb.len = f.t1.map Tb.len := congrArg (fun s => s.2.1) hs
    have h3 := congrArg Option.isSome h2
    simpa using h3
  rw [he, h k, h1]
  exact or_congr_right (and_congr_right fun _ => ⟨fun h => ⟨h, fun x hx => hno x (hp.mem_iff.2 hx)⟩, fun h => h.1⟩)

set_option maxRecDepth 100000 in
set_option maxHeartbeats 1000000 in
theorem Set_any (d : Dm) (key : ByteArray) (v : Value) (w : World) (h : DmAt w d) (hok : d.Ok) (hk : key.size ≤ 9223372036854775807) (hv : VOk v) (hn : d.n < 1152921504606846976) :
    Calls Tryz.prog 76 #[ptr d.blk, .string key, v] w fun e w' => ∃ d', SetPost d key v w e w' d' := by
  have hlt := h.hd.lt
  have hn' : (d.n : Int) < 1152921504606846976 := by omega
  obtain ⟨e, he⟩ : ∃ e, Hid (stepD d 1 = e) := ⟨_, rfl⟩
  have hE : e.Ok := by rw [← he.out]; exact moveN_ok hok _
  have hblk : e.blk = d.blk := by rw [← he.out]; exact (moveN_blk d _).1
  have hseed : e.seed = d.seed := by rw [← he.out]; exact (moveN_blk d _).2.1
  have hen : e.n = d.n := by rw [← he.out]; exact (moveN_blk d _).2.2
  rw [← hen] at hn'
  have hperm : e.nodes.Perm d.nodes := by rw [← he.out]; exact moveN_perm hok _
  have hfoot : ∀ g, e.foot g → d.foot g := fun g hg => moveN_foot hok _ (by rw [← he.out] at hg; exact hg)
  have hst : ∀ w, DmAt w d → _ := fun w h => Step_any d 1 w h hok
  rw [he.out] at hst
  have HB := Lib.hid hblk
  have HN := Lib.hid hen
  have HS := Lib.hid hseed
  have HV := hv
  obtain ⟨vv, rfl⟩ := hv
  have hsw : ∀ w1, DmAt w1 e → ∀ vb, Blk w1 vb 2 #[(.int .i64 vv)] → _ := fun w1 h1 vb hb => set_with e key _ vb w1 h1 hE hk HV hb
  clear hblk hen hseed
  unfold ptr at hst hsw ⊢
  rw [HB.out] at hsw
  go_enter Tryz.func76, Tryz.ntmps76
  go_wp2_with fail
  refine (hst _ (h.chg0 ((Chg.refl _ w).alloc _))).mono ?_
  rintro e1 w1 ⟨rfl, hD1, hC1⟩
  have hbx : Blk w1 w.heap.size 2 #[.int .i64 vv] := (Blk.new w _ _).chg hC1 fun hg => Nat.lt_irrefl _ (h.lt hg)
  have hC : Chg d.foot w w1 := ((Chg.refl d.foot w).alloc _).trans hC1
  go_wp2_with fail
  refine (hsw w1 hD1 w.heap.size hbx).mono ?_
  rintro e5 W5 (⟨rfl, ⟨y, hy, hyk⟩, d', hR1, hR2, hR3, hR4, hR5, ⟨x, r, hR6, hR7, hR8⟩, hR9, hR11, hR10⟩ | ⟨rfl, hno, hC5⟩)
  · go_wp2_with fail
    go_ret
    exact ⟨d', hR1, hR2, hR3.trans HB.out, hR4.trans HS.out, hC.trans' hR10 (fun g _ hg => hfoot g hg), fun g hg => .inl (hfoot g (hR5 g hg)),
      fun k => by rw [he.out, hR11 k]; exact ⟨.inl, fun h => h.elim id fun h => absurd hR6 (h.2.2 x (hperm.mem_iff.1 (hR7.mem_iff.2 List.mem_cons_self)))⟩,
      .inl ⟨rfl, ⟨x, r, hperm.symm.trans hR7, hR6, hR8⟩, by rw [hR9, he.out]⟩⟩
  · have hD5 := hD1.chg0 hC5
    have hbx5 := hbx.chg hC5 id
    have kb5 := hbx5.cell 0
    simp only [List.getElem?_toArray, List.getElem?_cons_zero] at kb5
    have hC' := hC.trans' hC5 fun _ _ h => h.elim
    clear hD1 hC1 hbx hC hsw hst
    obtain ⟨c0, c1, c2, c3, c4, cf, clt⟩ := dm_cells hD5
    rw [HB.out] at c0 c1 c2 c3 c4 cf clt
    have hmv : ∀ W, DmAt W e → _ := fun W h => isMoving_any e W h
    unfold ptr at hmv
    rw [HB.out] at hmv
    have hlen := hE.s0.pos
    obtain ⟨q, HQ⟩ : ∃ q, Hid (sumN e.seed key.data.toList = q) := ⟨_, rfl⟩
    have hof : ∀ W, DmAt W e → _ := fun W h => of_any e key W h hE.seed hk
    unfold ptr at hof
    rw [HB.out, HQ.out] at hof
    cases ht : e.t1 with
    | some t =>
      rw [ht] at hmv c2
      have HT := Lib.hid ht
      simp only [t1Val, tbVal] at c1 c2
      clear ht
      go_wp2_with (go_at_call 93; refine (hmv _ hD5).mono ?_; rintro e8 w8 ⟨rfl, rfl⟩)
      have hpt : ∀ W, DmAt W e → _ := fun W h => put_new e 1 t q key _ W h hE HT.out (fun h => by cases h) hno HQ.out HV
      unfold tbVal at hpt
      go_region_with (first
        | (go_at_call 96; refine (hof _ (hD5.chg0 ((Chg.refl _ _).drew))).mono ?_; rintro e9 w9 ⟨rfl, hc9⟩; have hC9 := (Chg.refl _ W5).drew.trans hc9; have kbx := (hbx5.chg hC9 id).cell 0; simp only [List.getElem?_toArray, List.getElem?_cons_zero] at kbx)
        | (go_at_call 95; refine (hpt w9 (hD5.chg0 hC9)).mono ?_; rintro e10 w10 ⟨⟨v10, rfl⟩, d', g1, g2, g3, g4, g5, g6, g7, g8, g9, g10⟩))
      all_goals
        have k4 := g2.cell 4
        have kf := g2.frozen 4
        simp only [dmCells, List.getElem?_toArray, List.getElem?_cons_zero, List.getElem?_cons_succ] at k4
        rw [HB.out] at k4 kf
        go_wp2_with fail
        go_ret
        have hdm := g1 (w10.setCell ⟨d.blk, 4, none⟩ (.int .i64 ((e.n : Int) + 1))) (by rw [HB.out]; exact Chg.store (S := fun g => g = d.blk) (Chg.refl _ _) rfl 4 _) (by rw [HB.out]; rw [HB.out] at g2; exact g2.set 4 _)
        refine ⟨d', hdm, g4, g5.trans HB.out, g6.trans HS.out, ?_, ?_, place_new he.out hperm hno g9 g10, .inr ⟨rfl, fun x hx => hno x (hperm.mem_iff.2 hx), ?_, ?_⟩⟩
        · exact Chg.store (S := d.foot) (hC'.trans' ((hC9.mono (fun _ _ h => h.elim) : Chg e.foot W5 w9).trans g3) (fun g _ hg => hfoot g hg)) (.inl rfl) 4 _
        · intro g hg
          exact (g7 g hg).elim (fun h9 => .inl (hfoot g h9)) (fun h9 => .inr (Nat.le_trans hC'.size (Nat.le_trans hC9.size h9)))
        · obtain ⟨x, hx1, hx2, hx3⟩ := g8
          exact ⟨x, hx1, hx2, hx3.trans (List.Perm.cons x (hperm))⟩
        · rw [g9, he.out]
          unfold growS shape
          rw [HT.out]
          simp
    | none =>
      rw [ht] at hmv c2
      have HT := Lib.hid ht
      simp only [t1Val, tbVal] at c1 c2
      clear ht
      by_cases hg : e.t0.len ≤ e.n ∧ e.t0.len < 65536
      · have hg1 : (e.n : Int) ≥ (e.t0.len : Int) := by omega
        have hg2 : (e.t0.len : Int) < 65536 := by omega
        have HG := Lib.hid hg
        clear hg
        have hms : ∀ W, DmAt W e → _ := fun W h => moves_dm e (2 * (e.n : Int)) W h hE HT.out
        unfold ptr at hms
        rw [HB.out] at hms
        go_wp2_with fail
        refine (hmv _ hD5).mono ?_
        rintro e8 w8 ⟨rfl, rfl⟩
        go_wp2_with fail
        refine (hms _ hD5).mono ?_
        rintro e8 w8 ⟨⟨v8, rfl⟩, e2, t, hD8, hE2, hb2, hs2, hn2, hnn2, hf2, hC8, ht2, hsh2, hin2⟩
        have HB2 := Lib.hid hb2
        have HS2 := Lib.hid hs2
        have HE2 := Lib.hid hn2
        have HN2 := Lib.hid hnn2
        have HT2 := Lib.hid (ht2 : e2.tab 1 = some t)
        have HSH := Lib.hid hsh2
        have HIN := Lib.hid hin2
        have hmv2 := isMoving_any e2 w8 hD8
        have hof2 : ∀ W, DmAt W e2 → _ := fun W h => of_any e2 key W h hE2.seed hk
        obtain ⟨k0, k1, k2, k3, k4, kf, klt⟩ := dm_cells hD8
        rw [ht2] at k2 hmv2
        unfold ptr at hmv2 hof2
        rw [HB2.out] at k0 k1 k2 k3 k4 kf klt hmv2 hof2
        rw [HS2.out, HQ.out] at hof2
        simp only [t1Val, tbVal] at k1 k2
        have hbx8 := hbx5.chg hC8 (fun h' => by omega)
        have kb8 := hbx8.cell 0
        simp only [List.getElem?_toArray, List.getElem?_cons_zero] at kb8
        have hC8' : Chg d.foot w w8 := hC'.trans' hC8 fun g _ hg => hg ▸ .inl rfl
        have hft2 : ∀ g, g < w.heap.size → e2.foot g → d.foot g := fun g hl hg => (hf2 g hg).elim (hfoot g) fun h9 => absurd (Nat.le_trans hC'.size h9) (by omega)
        clear hb2 hs2 hn2 hnn2 ht2 hsh2 hin2 hof hmv hms k3 k4 c0 c1 c2 c3 c4 cf clt
        go_wp2_with fail
        refine hmv2.mono ?_
        rintro e8 w8' ⟨rfl, rfl⟩
        go_wp2_with fail
        have hpt : ∀ W, DmAt W e2 → _ := fun W h => put_new e2 1 t q key _ W h hE2 HT2.out (fun h => by cases h) (by rw [HN2.out]; exact hno) (by rw [HS2.out]; exact HQ.out) HV
        unfold tbVal at hpt
        go_region_with (first
          | (go_at_call 96; refine (hof2 _ (hD8.chg0 ((Chg.refl _ _).drew))).mono ?_; rintro e9 w9 ⟨rfl, hc9⟩; have hC9 := (Chg.refl _ w8).drew.trans hc9; have kbx := (hbx8.chg hC9 id).cell 0; simp only [List.getElem?_toArray, List.getElem?_cons_zero] at kbx)
          | (go_at_call 95; refine (hpt w9 (hD8.chg0 hC9)).mono ?_; rintro e10 w10 ⟨⟨v10, rfl⟩, d', g1, g2, g3, g4, g5, g6, g7, g8, g9, g10⟩))
        all_goals
          have k4 := g2.cell 4
          have kf := g2.frozen 4
          simp only [dmCells, List.getElem?_toArray, List.getElem?_cons_zero, List.getElem?_cons_succ] at k4
          rw [HE2.out] at k4 g1
          rw [HB2.out] at k4 kf
          go_wp2_with fail
          go_ret
          have hdm := g1 (w10.setCell ⟨d.blk, 4, none⟩ (.int .i64 ((e.n : Int) + 1))) (by rw [HB2.out]; exact Chg.store (S := fun g => g = d.blk) (Chg.refl _ _) rfl 4 _) (by rw [HB2.out]; rw [HB2.out] at g2; exact g2.set 4 _)
          refine ⟨d', hdm, g4, g5.trans HB2.out, (g6.trans HS2.out).trans HS.out, ?_, ?_, place_new he.out hperm hno g9 (fun k => (g10 k).trans (or_congr_left (HIN.out k))), .inr ⟨rfl, fun x hx => hno x (hperm.mem_iff.2 hx), ?_, ?_⟩⟩
          · exact Chg.store (S := d.foot) (hC8'.trans' ((hC9.mono (fun _ _ h => h.elim) : Chg e2.foot w8 w9).trans g3) (fun g hl hg => hft2 g hl hg)) (.inl rfl) 4 _
          · intro g hg
            exact (g7 g hg).elim (fun h9 => (hf2 g h9).elim (fun h9 => .inl (hfoot g h9)) (fun h9 => .inr (Nat.le_trans hC'.size h9))) (fun h9 => .inr (Nat.le_trans hC8'.size (Nat.le_trans hC9.size h9)))
          · obtain ⟨x, hx1, hx2, hx3⟩ := g8
            exact ⟨x, hx1, hx2, hx3.trans (List.Perm.cons x (by rw [HN2.out]; exact hperm))⟩
          · rw [g9, he.out, HSH.out]
            unfold growS shape
            rw [HT.out, ← HN.out, if_pos ⟨rfl, HG.out.1, HG.out.2⟩, show ((2 * e.n : Nat) : Int) = 2 * (e.n : Int) by omega]
      · have HG := Lib.hid hg
        have hcase : e.n < e.t0.len ∨ (e.t0.len ≤ e.n ∧ 65536 ≤ e.t0.len) := by omega
        clear hg
        rcases hcase with hg1 | ⟨hg1, hg2⟩
        · have hx1 : ¬ e.t0.len ≤ e.n := by omega
          go_wp2_with fail
          refine (hmv _ hD5).mono ?_
          rintro e8 w8 ⟨rfl, rfl⟩
          go_wp2_with fail
          refine (hmv _ hD5).mono ?_
          rintro e8 w8 ⟨rfl, rfl⟩
          go_wp2_with fail
          have hpt : ∀ W, DmAt W e → _ := fun W h => put_new e 0 e.t0 q key _ W h hE rfl (fun _ => HT.out) hno HQ.out HV
          unfold tbVal at hpt
          go_region_with (first
            | (go_at_call 96; refine (hof _ (hD5.chg0 ((Chg.refl _ _).drew))).mono ?_; rintro e9 w9 ⟨rfl, hc9⟩; have hC9 := (Chg.refl _ W5).drew.trans hc9; have kbx := (hbx5.chg hC9 id).cell 0; simp only [List.getElem?_toArray, List.getElem?_cons_zero] at kbx)
            | (go_at_call 95; refine (hpt w9 (hD5.chg0 hC9)).mono ?_; rintro e10 w10 ⟨⟨v10, rfl⟩, d', g1, g2, g3, g4, g5, g6, g7, g8, g9, g10⟩))
          all_goals
            have k4 := g2.cell 4
            have kf := g2.frozen 4
            simp only [dmCells, List.getElem?_toArray, List.getElem?_cons_zero, List.getElem?_cons_succ] at k4
            rw [HB.out] at k4 kf
            go_wp2_with fail
            go_ret
            have hdm := g1 (w10.setCell ⟨d.blk, 4, none⟩ (.int .i64 ((e.n : Int) + 1))) (by rw [HB.out]; exact Chg.store (S := fun g => g = d.blk) (Chg.refl _ _) rfl 4 _) (by rw [HB.out]; rw [HB.out] at g2; exact g2.set 4 _)
            refine ⟨d', hdm, g4, g5.trans HB.out, g6.trans HS.out, ?_, ?_, place_new he.out hperm hno g9 g10, .inr ⟨rfl, fun x hx => hno x (hperm.mem_iff.2 hx), ?_, ?_⟩⟩
            · exact Chg.store (S := d.foot) (hC'.trans' ((hC9.mono (fun _ _ h => h.elim) : Chg e.foot W5 w9).trans g3) (fun g _ hg => hfoot g hg)) (.inl rfl) 4 _
            · intro g hg
              exact (g7 g hg).elim (fun h9 => .inl (hfoot g h9)) (fun h9 => .inr (Nat.le_trans hC'.size (Nat.le_trans hC9.size h9)))
            · obtain ⟨x, hx1, hx2, hx3⟩ := g8
              exact ⟨x, hx1, hx2, hx3.trans (List.Perm.cons x (hperm))⟩
            · rw [g9, he.out]
              unfold growS
              rw [if_neg]
              rintro ⟨_, h1, h2⟩
              refine HG.out ⟨?_, h2⟩
              rw [HN.out]; exact h1
        · have hx1 : ¬ e.t0.len < 65536 := by omega
          have hg3 : (e.n : Int) ≥ (e.t0.len : Int) := by omega
          have hx3 : ((e.t0.len : Int) < 65536) = False := by simp only [eq_iff_iff, iff_false]; omega
          clear hg2 hlen hg1 hx1
          go_wp2_with fail
          refine (hmv _ hD5).mono ?_
          rintro e8 w8 ⟨rfl, rfl⟩
          go_wp2_with fail
          refine (hmv _ hD5).mono ?_
          rintro e8 w8 ⟨rfl, rfl⟩
          go_wp2_with fail
          have hpt : ∀ W, DmAt W e → _ := fun W h => put_new e 0 e.t0 q key _ W h hE rfl (fun _ => HT.out) hno HQ.out HV
          unfold tbVal at hpt
          go_region_with (first
            | (go_at_call 96; refine (hof _ (hD5.chg0 ((Chg.refl _ _).drew))).mono ?_; rintro e9 w9 ⟨rfl, hc9⟩; have hC9 := (Chg.refl _ W5).drew.trans hc9; have kbx := (hbx5.chg hC9 id).cell 0; simp only [List.getElem?_toArray, List.getElem?_cons_zero] at kbx)
            | (go_at_call 95; refine (hpt w9 (hD5.chg0 hC9)).mono ?_; rintro e10 w10 ⟨⟨v10, rfl⟩, d', g1, g2, g3, g4, g5, g6, g7, g8, g9, g10⟩))
          all_goals
            have k4 := g2.cell 4
            have kf := g2.frozen 4
            simp only [dmCells, List.getElem?_toArray, List.getElem?_cons_zero, List.getElem?_cons_succ] at k4
            rw [HB.out] at k4 kf
            go_wp2_with fail
            go_ret
            have hdm := g1 (w10.setCell ⟨d.blk, 4, none⟩ (.int .i64 ((e.n : Int) + 1))) (by rw [HB.out]; exact Chg.store (S := fun g => g = d.blk) (Chg.refl _ _) rfl 4 _) (by rw [HB.out]; rw [HB.out] at g2; exact g2.set 4 _)
            refine ⟨d', hdm, g4, g5.trans HB.out, g6.trans HS.out, ?_, ?_, place_new he.out hperm hno g9 g10, .inr ⟨rfl, fun x hx => hno x (hperm.mem_iff.2 hx), ?_, ?_⟩⟩
            · exact Chg.store (S := d.foot) (hC'.trans' ((hC9.mono (fun _ _ h => h.elim) : Chg e.foot W5 w9).trans g3) (fun g _ hg => hfoot g hg)) (.inl rfl) 4 _
            · intro g hg
              exact (g7 g hg).elim (fun h9 => .inl (hfoot g h9)) (fun h9 => .inr (Nat.le_trans hC'.size (Nat.le_trans hC9.size h9)))
            · obtain ⟨x, hx1, hx2, hx3⟩ := g8
              exact ⟨x, hx1, hx2, hx3.trans (List.Perm.cons x (hperm))⟩
            · rw [g9, he.out]
              unfold growS
              rw [if_neg]
              rintro ⟨_, h1, h2⟩
              refine HG.out ⟨?_, h2⟩
              rw [HN.out]; exact h1

set_option maxHeartbeats 400000 in
theorem Set_nil (key : ByteArray) (v : Value) (hv : VOk v) (w : World) :
    Calls Tryz.prog 76 #[.pointer none, .string key, v] w fun e w' => e = .returned (.bool false) ∧ Chg (fun _ => False) w w' := by
  obtain ⟨vv, rfl⟩ := hv
  go_enter Tryz.func76, Tryz.ntmps76
  go_wp2
  go_ret
  exact ⟨rfl, (Chg.refl _ w).alloc _⟩

end Go.Proofs.YtifcpippfiglkaaGreat.Dint64

/- The walk of Delete. -/
namespace Go.Proofs.YtifcpippfiglkaaGreat.Dint64
open Go.RowKit Pal

structure DelPost (d : Dm) (key : ByteArray) (w : World) (e : Ending) (w' : World) (d' : Dm) : Prop where
  dm : DmAt w' d'
  ok : d'.Ok
  blk : d'.blk = d.blk
  seed : d'.seed = d.seed
  chg : Chg d.foot w w'
  foot : ∀ g, d'.foot g → d.foot g ∨ w.heap.size ≤ g
  place : ∀ k, d'.in1 k ↔ (stepD d 1).in1 k ∧ k ≠ key
  what : (e = .returned (.bool false) ∧ (∀ x ∈ d.nodes, x.key ≠ key) ∧ d'.nodes.Perm d.nodes ∧ shape d' = shape (stepD d 1)) ∨
    (e = .returned (.bool true) ∧ (∃ x, x.key = key ∧ d.nodes.Perm (x :: d'.nodes)) ∧ shape d' = shrinkS (shape (stepD d 1)) d'.n)

def DelR (e : Dm) (key : ByteArray) (w1 w' : World) : Prop :=
  ∃ d', (∀ W2, Chg (fun g => g = e.blk) w' W2 → Blk W2 e.blk 138 ((dmCells e).setIfInBounds 4 (.int .i64 ((e.n : Int) - 1))) → DmAt W2 d') ∧ Blk w' e.blk 138 (dmCells e) ∧ Chg e.foot w1 w' ∧ 1 ≤ e.n ∧
    d'.Ok ∧ d'.blk = e.blk ∧ d'.seed = e.seed ∧ (∀ g, d'.foot g → e.foot g) ∧ (∃ x, x.key = key ∧ e.nodes.Perm (x :: d'.nodes)) ∧ shape d' = shape e ∧ ∀ k, d'.in1 k ↔ e.in1 k ∧ k ≠ key

theorem loc_frozen {w : World} {t : Tb} (h : tbAt w t) {i : Nat} (hi : i < t.len) {pre rest : Ch} (e : t.at i = pre ++ rest) : w.frozen? (loc t i pre) = false := by
  rcases List.eq_nil_or_concat pre with rfl | ⟨p, y, rfl⟩
  · rw [loc_nil]; exact h.1.frozen i
  · rw [List.concat_eq_append, loc_snoc]
    have hc := h.2 _ (Tb.at_mem hi)
    rw [e, List.concat_eq_append, List.append_assoc] at hc
    exact (hc.node rfl).frozen 3

theorem delete_with (e : Dm) (key : ByteArray) (w1 : World) (hD1 : DmAt w1 e) (hE : e.Ok) (hk : key.size ≤ 9223372036854775807) :
    Calls Tryz.prog 87 #[ptr e.blk, .string key, .func (.func 185) #[] #[]] w1 (WithPost e key w1 (DelR e key w1)) := by
  refine with_any e key 185 #[] w1 hD1 hE hk (enters_of Tryz.func185 (by kernel_rfl) rfl) (DelR e key w1) ?_
  intro ti t pre x post W htab hat hxk hC2
  have htz := (tab_ok hE htab).1.pos
  have hi : sumN e.seed key.data.toList % t.len < t.len := Nat.mod_lt _ (by omega)
  have hDW := hD1.chg0 hC2
  have hta := tab_at hDW htab
  have hL := loc_cell hta hi hat
  have hX := (hta.2 _ (Tb.at_mem hi)).node hat
  refine (delete1_any _ x post W hL hX (loc_frozen hta hi hat)).mono ?_
  rintro e5 W5 ⟨hv5, hW5⟩
  obtain ⟨d', h1, h2, h3, h4, h5, h6, h7, h8, h9, h10, h11⟩ := upd_cut hDW hE htab hi hat hW5
  exact ⟨hv5, d', h1, h2, (hC2.mono (fun _ _ h => h.elim) : Chg e.foot w1 W).trans h3, h4, h5, h6, h7, h8, ⟨x, hxk, h9⟩, h10, fun k => by rw [h11 k, hxk]⟩

set_option maxRecDepth 100000 in
set_option maxHeartbeats 1000000 in
theorem Delete_any (d : Dm) (key : ByteArray) (w : World) (h : DmAt w d) (hok : d.Ok) (hk : key.size ≤ 9223372036854775807) (hn : d.n < 1152921504606846976) :
    Calls Tryz.prog 180 #[ptr d.blk, .string key] w fun e w' => ∃ d', DelPost d key w e w' d' := by
  have hlt := h.hd.lt
  obtain ⟨e, he⟩ : ∃ e, Hid (stepD d 1 = e) := ⟨_, rfl⟩
  have hE : e.Ok := by rw [← he.out]; exact moveN_ok hok _
  have hblk : e.blk = d.blk := by rw [← he.out]; exact (moveN_blk d _).1
  have hseed : e.seed = d.seed := by rw [← he.out]; exact (moveN_blk d _).2.1
  have hen : e.n = d.n := by rw [← he.out]; exact (moveN_blk d _).2.2
  have hn' : (e.n : Int) < 1152921504606846976 := by omega
  have hperm : e.nodes.Perm d.nodes := by rw [← he.out]; exact moveN_perm hok _
  have hfoot : ∀ g, e.foot g → d.foot g := fun g hg => moveN_foot hok _ (by rw [← he.out] at hg; exact hg)
  have hst : ∀ w, DmAt w d → _ := fun w h => Step_any d 1 w h hok
  rw [he.out] at hst
  have HB := Lib.hid hblk
  have HN := Lib.hid hen
  have HS := Lib.hid hseed
  have hsw : ∀ w1, DmAt w1 e → _ := fun w1 h1 => delete_with e key w1 h1 hE hk
  clear hblk hen hseed
  unfold ptr at hst hsw ⊢
  rw [HB.out] at hsw
  go_enter Tryz.func180, Tryz.ntmps180
  go_wp2_with fail
  refine (hst _ h).mono ?_
  rintro e1 w1 ⟨rfl, hD1, hC⟩
  go_wp2_with fail
  refine (hsw w1 hD1).mono ?_
  rintro e5 W5 (⟨rfl, ⟨y, hy, hyk⟩, d', hR1, hR2, hR3, hR4, hR5, hR6, hR7, hR8, ⟨x, hR9, hR10⟩, hR11, hR12⟩ | ⟨rfl, hno, hC5⟩)
  · have k1 := hR2.cell 1
    have k4 := hR2.cell 4
    have kf := hR2.frozen 4
    simp only [dmCells, tbVal, List.getElem?_toArray, List.getElem?_cons_zero, List.getElem?_cons_succ] at k1 k4
    rw [HB.out] at k1 k4 kf
    have hlen := hE.s0.pos
    go_wp2_with fail
    have hC6 : Chg (fun g => g = e.blk) W5 (W5.setCell ⟨d.blk, 4, none⟩ (.int .i64 ((e.n : Int) - 1))) := by rw [HB.out]; exact Chg.store (S := fun g => g = d.blk) (Chg.refl _ _) rfl 4 _
    have hD6 := hR1 _ hC6 (by rw [HB.out]; rw [HB.out] at hR2; exact hR2.set 4 _)
    have hCW : Chg d.foot w (W5.setCell ⟨d.blk, 4, none⟩ (.int .i64 ((e.n : Int) - 1))) := (hC.trans' hR3 fun g _ hg => hfoot g hg).trans' hC6 fun g _ hg => hg ▸ hfoot _ (.inl rfl)
    generalize W5.setCell ⟨d.blk, 4, none⟩ (.int .i64 ((e.n : Int) - 1)) = W6 at hD6 hCW hC6 ⊢
    have hmv6 := isMoving_any d' W6 hD6
    obtain ⟨c0, c1, c2, c3, c4, cf, clt⟩ := dm_cells hD6
    unfold ptr at hmv6
    have hb' := hR6.trans HB.out
    have HB' := Lib.hid hb'
    have hsh := hR11
    unfold shape at hsh
    injection hsh with hl0 hsh
    injection hsh with hl1 hl2
    have hdn : d'.n + 1 = e.n := by rw [hR5.count, hE.count, hR10.length_eq]; rfl
    have hdn' : (d'.n : Int) < 1152921504606846976 := by omega
    rw [hb'] at hmv6 c0 c1 c2 c3 c4 cf clt
    have HL0 := Lib.hid hl0
    have HL1 := Lib.hid hl1
    have HDN := Lib.hid hdn
    have HR6 := Lib.hid hR6
    have HR7 := Lib.hid hR7
    have HR9 := Lib.hid hR9
    have HR11 := Lib.hid hR11
    have HR12 := Lib.hid hR12
    have hfin : ∀ g, d'.foot g → d.foot g := fun g hg => hfoot g (hR8 g hg)
    have hpp := hperm.symm.trans hR10
    clear hb' hl0 hl1 hl2 hdn hR6 hR7 hR9 hR11 hR12 k1 k4 kf hR1 hR2 hR3 hsw hst
    cases ht : d'.t1 with
    | some t =>
      rw [ht] at hmv6
      have HT := Lib.hid ht
      clear ht
      refine hmv6.mono ?_
      rintro e8 w8 ⟨rfl, rfl⟩
      go_wp2_with fail
      go_ret
      refine ⟨d', hD6, hR5, HB'.out, HR7.out.trans HS.out, hCW, fun g hg => .inl (hfin g hg), by rw [he.out]; exact HR12.out, .inr ⟨rfl, ⟨x, HR9.out, hpp⟩, ?_⟩⟩
      rw [HR11.out, he.out]
      unfold shrinkS shape
      rw [← HL1.out, HT.out]
      simp
    | none =>
      rw [ht] at hmv6
      have HT := Lib.hid ht
      clear ht
      have hms := moves_dm d' (d'.n : Int) W6 hD6 hR5 HT.out
      unfold ptr at hms
      rw [HB'.out] at hms
      by_cases h4 : 4 < e.t0.len
      · by_cases h8 : 8 * d'.n < e.t0.len
        · have h4' : (e.t0.len : Int) > 4 := by omega
          have h8' : 8 * (d'.n : Int) < (e.t0.len : Int) := by omega
          refine hmv6.mono ?_
          rintro e8 w8 ⟨rfl, rfl⟩
          go_wp2_with fail
          refine hms.mono ?_
          rintro e8 w8 ⟨⟨v8, rfl⟩, e2, t, hD8, hE2, hb2, hs2, hn2, hnn2, hf2, hC8, ht2, hsh2, hin2⟩
          go_wp2_with fail
          go_ret
          refine ⟨e2, hD8, hE2, hb2, (hs2.trans HR7.out).trans HS.out, hCW.trans' hC8 fun g _ hg => (by rw [hg]; exact .inl rfl), fun g hg => (hf2 g hg).imp (hfin g) fun h9 => Nat.le_trans hCW.size h9, by rw [he.out]; exact fun k => (hin2 k).trans (HR12.out k), .inr ⟨rfl, ⟨x, HR9.out, by rw [hnn2]; exact hpp⟩, ?_⟩⟩
          rw [hsh2, he.out, hn2]
          have h1 : e.t1.map Tb.len = none := by rw [← HL1.out, HT.out]; rfl
          have hat : d'.at_ = e.at_ := by have := HR11.out; unfold shape at this; injection this with _ this; injection this with _ this
          unfold shrinkS shape
          rw [h1, if_pos ⟨rfl, h4, h8⟩, HL0.out, hat]
        · have h4' : (e.t0.len : Int) > 4 := by omega
          have h8' : (8 * (d'.n : Int) < (e.t0.len : Int)) = False := by simp only [eq_iff_iff, iff_false]; omega
          have H8 := Lib.hid h8
          clear h8
          refine hmv6.mono ?_
          rintro e8 w8 ⟨rfl, rfl⟩
          go_wp2_with fail
          go_ret
          refine ⟨d', hD6, hR5, HB'.out, HR7.out.trans HS.out, hCW, fun g hg => .inl (hfin g hg), by rw [he.out]; exact HR12.out, .inr ⟨rfl, ⟨x, HR9.out, hpp⟩, ?_⟩⟩
          rw [HR11.out, he.out]
          unfold shrinkS
          rw [if_neg]
          rintro ⟨_, g1, g2⟩
          exact H8.out g2
      · have H4 := Lib.hid h4
        have h4' : ((4 : Int) < (e.t0.len : Int)) = False := by simp only [eq_iff_iff, iff_false]; omega
        clear h4 hlen
        refine hmv6.mono ?_
        rintro e8 w8 ⟨rfl, rfl⟩
        go_wp2_with fail
        go_ret
        refine ⟨d', hD6, hR5, HB'.out, HR7.out.trans HS.out, hCW, fun g hg => .inl (hfin g hg), by rw [he.out]; exact HR12.out, .inr ⟨rfl, ⟨x, HR9.out, hpp⟩, ?_⟩⟩
        rw [HR11.out, he.out]
        unfold shrinkS
        rw [if_neg]
        rintro ⟨_, g1, g2⟩
        exact H4.out g1
  · go_wp2_with fail
    go_ret
    exact ⟨e, hD1.chg0 hC5, hE, HB.out, HS.out, hC.trans' hC5 fun _ _ h => h.elim, fun g hg => .inl (hfoot g hg), fun k => by rw [he.out]; exact ⟨fun h => ⟨h, fun e => by obtain ⟨y, hy, hyk⟩ := in1_nodes h; exact hno y hy (hyk.trans e)⟩, fun h => h.1⟩, .inl ⟨rfl, fun x hx => hno x (hperm.mem_iff.2 hx), hperm, by rw [he.out]⟩⟩

set_option maxHeartbeats 400000 in
theorem Delete_nil (key : ByteArray) (w : World) :
    Calls Tryz.prog 180 #[.pointer none, .string key] w fun e w' => e = .returned (.bool false) ∧ w = w' := by
  go_enter Tryz.func180, Tryz.ntmps180
  go_wp2
  go_ret
  exact ⟨rfl, rfl⟩

end Go.Proofs.YtifcpippfiglkaaGreat.Dint64

/- Dicts told by what they hold: the contracts in one page. -/
namespace Go.Proofs.YtifcpippfiglkaaGreat.Dint64
open Go.RowKit Pal

def Dm.look (d : Dm) (k : ByteArray) : Option Value := (d.nodes.find? fun x => decide (x.key = k)).map (·.v)
theorem look_none {d : Dm} {k : ByteArray} : d.look k = none ↔ ∀ x ∈ d.nodes, x.key ≠ k := by
  unfold Dm.look
  simp
theorem nodup_keys_eq : ∀ {l : List Nd}, (l.map (·.key)).Nodup → ∀ {x y : Nd}, x ∈ l → y ∈ l → x.key = y.key → x = y
  | [], _, _, _, hx, _, _ => by cases hx
  | z :: l, hn, x, y, hx, hy, e => by
    rw [List.map_cons, List.nodup_cons] at hn
    rcases List.mem_cons.1 hx with h1 | h1 <;> rcases List.mem_cons.1 hy with h2 | h2
    · rw [h1, h2]
    · exact absurd (List.mem_map.2 ⟨y, h2, by rw [← e, h1]⟩) hn.1
    · exact absurd (List.mem_map.2 ⟨x, h1, by rw [e, h2]⟩) hn.1
    · exact nodup_keys_eq hn.2 h1 h2 e
theorem look_of {d : Dm} (hk : (d.nodes.map (·.key)).Nodup) {x : Nd} (hx : x ∈ d.nodes) : d.look x.key = some x.v := by
  unfold Dm.look
  cases h : d.nodes.find? (fun y => decide (y.key = x.key)) with
  | none => rw [List.find?_eq_none] at h; exact absurd (h x hx) (by simp)
  | some y =>
    have h1 := List.mem_of_find?_eq_some h
    have h2 := List.find?_some h
    rw [nodup_keys_eq hk h1 hx (by simpa using h2)]; rfl
theorem look_some {d : Dm} (hk : (d.nodes.map (·.key)).Nodup) {k : ByteArray} {v : Value} : d.look k = some v ↔ ∃ x ∈ d.nodes, x.key = k ∧ x.v = v := by
  constructor
  · intro h
    unfold Dm.look at h
    rw [Option.map_eq_some_iff] at h
    obtain ⟨x, h1, h2⟩ := h
    exact ⟨x, List.mem_of_find?_eq_some h1, by simpa using List.find?_some h1, h2⟩
  · rintro ⟨x, hx, rfl, rfl⟩
    exact look_of hk hx
theorem look_ext {d d' : Dm} (hk : (d.nodes.map (·.key)).Nodup) (hk' : (d'.nodes.map (·.key)).Nodup) {k : ByteArray} (h : ∀ v, (∃ x ∈ d'.nodes, x.key = k ∧ x.v = v) ↔ ∃ x ∈ d.nodes, x.key = k ∧ x.v = v) : d'.look k = d.look k := by
  apply Option.ext
  intro v
  rw [look_some hk, look_some hk']
  exact h v
theorem look_perm {d d' : Dm} (hk : (d.nodes.map (·.key)).Nodup) (h : d'.nodes.Perm d.nodes) (k : ByteArray) : d'.look k = d.look k :=
  look_ext hk ((h.map _).nodup_iff.2 hk) fun v => ⟨fun ⟨x, hx, e⟩ => ⟨x, h.mem_iff.1 hx, e⟩, fun ⟨x, hx, e⟩ => ⟨x, h.mem_iff.2 hx, e⟩⟩
theorem look_put {d d' : Dm} {x : Nd} {v : Value} {r : List Nd} (hk : (d.nodes.map (·.key)).Nodup) (hk' : (d'.nodes.map (·.key)).Nodup) (hp : d.nodes.Perm (x :: r)) (hp' : d'.nodes.Perm ({ x with v := v } :: r)) (k : ByteArray) :
    d'.look k = if k = x.key then some v else d.look k := by
  split
  · rename_i e
    exact (look_some hk').2 ⟨_, hp'.mem_iff.2 (List.mem_cons_self), e.symm, rfl⟩
  · rename_i e
    refine look_ext hk hk' fun u => ⟨?_, ?_⟩
    · rintro ⟨y, hy, h1, h2⟩
      rcases List.mem_cons.1 (hp'.mem_iff.1 hy) with rfl | h
      · exact absurd h1.symm e
      · exact ⟨y, hp.mem_iff.2 (List.mem_cons_of_mem _ h), h1, h2⟩
    · rintro ⟨y, hy, h1, h2⟩
      rcases List.mem_cons.1 (hp.mem_iff.1 hy) with rfl | h
      · exact absurd h1.symm e
      · exact ⟨y, hp'.mem_iff.2 (List.mem_cons_of_mem _ h), h1, h2⟩
theorem look_new {d d' : Dm} {x : Nd} (hk : (d.nodes.map (·.key)).Nodup) (hk' : (d'.nodes.map (·.key)).Nodup) (hp' : d'.nodes.Perm (x :: d.nodes)) (k : ByteArray) :
    d'.look k = if k = x.key then some x.v else d.look k := by
  split
  · rename_i e
    exact (look_some hk').2 ⟨_, hp'.mem_iff.2 (List.mem_cons_self), e.symm, rfl⟩
  · rename_i e
    refine look_ext hk hk' fun u => ⟨?_, ?_⟩
    · rintro ⟨y, hy, h1, h2⟩
      rcases List.mem_cons.1 (hp'.mem_iff.1 hy) with rfl | h
      · exact absurd h1.symm e
      · exact ⟨y, h, h1, h2⟩
    · rintro ⟨y, hy, h1, h2⟩
      exact ⟨y, hp'.mem_iff.2 (List.mem_cons_of_mem _ hy), h1, h2⟩
theorem look_del {d d' : Dm} {x : Nd} (hk : (d.nodes.map (·.key)).Nodup) (hp : d.nodes.Perm (x :: d'.nodes)) (k : ByteArray) :
    d'.look k = if k = x.key then none else d.look k := by
  have hk2 := (hp.map (·.key)).nodup_iff.1 hk
  rw [List.map_cons, List.nodup_cons] at hk2
  split
  · rename_i e
    rw [look_none]
    intro y hy h
    exact hk2.1 (List.mem_map.2 ⟨y, hy, h.trans e⟩)
  · rename_i e
    refine look_ext hk hk2.2 fun u => ⟨?_, ?_⟩
    · rintro ⟨y, hy, h1, h2⟩
      exact ⟨y, hp.mem_iff.2 (List.mem_cons_of_mem _ hy), h1, h2⟩
    · rintro ⟨y, hy, h1, h2⟩
      rcases List.mem_cons.1 (hp.mem_iff.1 hy) with rfl | h
      · exact absurd h1.symm e
      · exact ⟨y, h, h1, h2⟩

/-! ### sizes -/
def stepN (s : Nat × Option Nat × Nat) (n : Int) : Nat := if s.2.1.isSome then min n.toNat (s.1 - s.2.2) else 0
def stepS (s : Nat × Option Nat × Nat) (n : Int) : Nat × Option Nat × Nat :=
  match s.2.1 with
  | none => s
  | some l => if s.2.2 + n.toNat < s.1 then (s.1, some l, s.2.2 + n.toNat) else (l, none, 0)
theorem stepK_shape (d : Dm) (n : Int) : stepK d n = stepN (shape d) n := by
  unfold stepK stepN shape
  cases d.t1 <;> rfl
theorem moveN_t1 {d : Dm} {t : Tb} (h : d.Ok) (ht : d.t1 = some t) : ∀ k, d.at_ + k < d.t0.len → (moveN d k).t1.map Tb.len = some t.len
  | 0, _ => by show d.t1.map Tb.len = _; rw [ht]; rfl
  | k + 1, hk => by
    have ih := moveN_t1 h ht k (by omega)
    obtain ⟨h1, h2, h3⟩ := moveN_at h ht k (by omega)
    obtain ⟨t', ht'⟩ := Option.isSome_iff_exists.1 h1
    have hne : ¬ (moveN d k).at_ + 1 = (moveN d k).t0.len := by omega
    have e : moveN d (k + 1) = { moveN d k with t0 := (moveN d k).t0.set (moveN d k).at_ [], t1 := some (((moveN d k).t0.at (moveN d k).at_).foldl push t'), at_ := (moveN d k).at_ + 1 } := by
      show moveSlot (moveN d k) = _
      unfold moveSlot; rw [ht']; simp [hne]
    rw [e]
    rw [ht'] at ih
    show some (Tb.len _) = _
    rw [fold_len]
    exact ih
theorem stepD_shape {d : Dm} (h : d.Ok) (n : Int) : shape (stepD d n) = stepS (shape d) n := by
  cases ht : d.t1 with
  | none =>
    have e : stepD d n = d := by unfold stepD stepK; rw [ht]; rfl
    rw [e]; unfold stepS shape; rw [ht]; rfl
  | some t =>
    have hlt := h.atlt t ht
    have hk : stepK d n = min n.toNat (d.t0.len - d.at_) := by unfold stepK; rw [ht]; rfl
    unfold stepS
    have e1 : (shape d).2.1 = some t.len := by unfold shape; rw [ht]; rfl
    have e2 : (shape d).1 = d.t0.len := rfl
    have e3 : (shape d).2.2 = d.at_ := rfl
    rw [e1, e2, e3]
    dsimp only
    by_cases hc : d.at_ + n.toNat < d.t0.len
    · rw [if_pos hc]
      have hk' : stepK d n = n.toNat := by rw [hk]; omega
      obtain ⟨h1, h2, h3⟩ := moveN_at h ht n.toNat hc
      have h4 := moveN_t1 h ht n.toNat hc
      unfold stepD shape
      rw [hk', h2, h3, h4]
    · rw [if_neg hc]
      have hk' : stepK d n = d.t0.len - d.at_ := by rw [hk]; omega
      obtain ⟨h1, h2⟩ := moveN_all h ht
      have h3 := (moveN_ok h (d.t0.len - d.at_)).at0 h1
      unfold stepD shape
      rw [hk', h1, h2, h3]; rfl

/-! ### the contracts -/
structure Nx (d d' : Dm) (w w' : World) : Prop where
  dm : DmAt w' d'
  ok : d'.Ok
  blk : d'.blk = d.blk
  seed : d'.seed = d.seed
  chg : Chg d.foot w w'
  foot : ∀ g, d'.foot g → d.foot g ∨ w.heap.size ≤ g

theorem Nx.step {d : Dm} {n : Int} {w w' : World} (hok : d.Ok) (h : DmAt w' (stepD d n)) (hc : Chg d.foot w w') : Nx d (stepD d n) w w' ∧ (∀ k, (stepD d n).look k = d.look k) ∧ (stepD d n).n = d.n :=
  ⟨⟨h, moveN_ok hok _, (moveN_blk d _).1, (moveN_blk d _).2.1, hc, fun g hg => .inl (moveN_foot hok _ hg)⟩, fun k => look_perm hok.keys (moveN_perm hok _) k, (moveN_blk d _).2.2⟩

theorem Get_i (d : Dm) (key : ByteArray) (w : World) (h : DmAt w d) (hok : d.Ok) (hk : key.size ≤ 9223372036854775807) :
    Calls Tryz.prog 73 #[ptr d.blk, .string key] w fun e w' => e = .returned (.tuple #[(d.look key).getD (.int .i64 0), .bool (d.look key).isSome]) ∧ ∃ d', Nx d d' w w' ∧ (∀ k, d'.look k = d.look k) ∧ d'.n = d.n ∧ shape d' = stepS (shape d) 1 := by
  refine (Get_any d key w h hok hk).mono ?_
  rintro e w' ⟨h1, h2, h3⟩
  obtain ⟨h4, h5, h6⟩ := Nx.step hok h2 h3
  refine ⟨?_, stepD d 1, h4, h5, h6, stepD_shape hok 1⟩
  rcases h1 with ⟨x, hx, rfl, rfl⟩ | ⟨hno, rfl⟩
  · rw [look_of hok.keys hx]; rfl
  · rw [look_none.2 hno]; rfl

theorem Set_i (d : Dm) (key : ByteArray) (v : Value) (w : World) (h : DmAt w d) (hok : d.Ok) (hk : key.size ≤ 9223372036854775807) (hv : VOk v) (hn : d.n < 1152921504606846976) :
    Calls Tryz.prog 76 #[ptr d.blk, .string key, v] w fun e w' => e = .returned (.bool (d.look key).isNone) ∧ ∃ d', Nx d d' w w' ∧ (∀ k, d'.look k = if k = key then some v else d.look k) ∧
      d'.n = (if (d.look key).isNone then d.n + 1 else d.n) ∧ shape d' = if (d.look key).isNone then growS (stepS (shape d) 1) d.n else stepS (shape d) 1 := by
  refine (Set_any d key v w h hok hk hv hn).mono ?_
  rintro e w' ⟨d', ⟨h1, h2, h3, h4, h5, h6, _, h7⟩⟩
  have hnx : Nx d d' w w' := ⟨h1, h2, h3, h4, h5, h6⟩
  rw [stepD_shape hok 1] at h7
  rcases h7 with ⟨rfl, ⟨x, r, g1, rfl, g3⟩, g4⟩ | ⟨rfl, hno, ⟨x, rfl, rfl, g3⟩, g4⟩
  · have hx := look_of hok.keys (g1.mem_iff.2 (List.mem_cons_self) : x ∈ d.nodes)
    rw [hx]
    refine ⟨rfl, d', hnx, look_put hok.keys h2.keys g1 g3, ?_, g4⟩
    rw [h2.count, hok.count, g1.length_eq, g3.length_eq]; rfl
  · rw [look_none.2 hno]
    refine ⟨rfl, d', hnx, look_new hok.keys h2.keys g3, ?_, g4⟩
    rw [h2.count, hok.count, g3.length_eq]; rfl

theorem Delete_i (d : Dm) (key : ByteArray) (w : World) (h : DmAt w d) (hok : d.Ok) (hk : key.size ≤ 9223372036854775807) (hn : d.n < 1152921504606846976) :
    Calls Tryz.prog 180 #[ptr d.blk, .string key] w fun e w' => e = .returned (.bool (d.look key).isSome) ∧ ∃ d', Nx d d' w w' ∧ (∀ k, d'.look k = if k = key then none else d.look k) ∧
      d'.n = (if (d.look key).isSome then d.n - 1 else d.n) ∧ shape d' = if (d.look key).isSome then shrinkS (stepS (shape d) 1) (d.n - 1) else stepS (shape d) 1 := by
  refine (Delete_any d key w h hok hk hn).mono ?_
  rintro e w' ⟨d', ⟨h1, h2, h3, h4, h5, h6, _, h7⟩⟩
  have hnx : Nx d d' w w' := ⟨h1, h2, h3, h4, h5, h6⟩
  rw [stepD_shape hok 1] at h7
  rcases h7 with ⟨rfl, hno, g3, g4⟩ | ⟨rfl, ⟨x, rfl, g1⟩, g4⟩
  · have hl := look_none.2 hno
    rw [hl]
    refine ⟨rfl, d', hnx, fun k => ?_, ?_, g4⟩
    · rw [look_perm hok.keys g3]
      split
      · rename_i e; rw [e]; exact hl
      · rfl
    · rw [h2.count, hok.count, g3.length_eq]; rfl
  · have hx := look_of hok.keys (g1.mem_iff.2 (List.mem_cons_self) : x ∈ d.nodes)
    have hdn : d'.n = d.n - 1 := by rw [h2.count, hok.count, g1.length_eq]; rfl
    rw [hx]
    refine ⟨rfl, d', hnx, look_del hok.keys g1, hdn, ?_⟩
    rw [g4, hdn]; rfl

theorem Step_i (d : Dm) (n : Int) (w : World) (h : DmAt w d) (hok : d.Ok) :
    Calls Tryz.prog 86 #[ptr d.blk, .int .i64 n] w fun e w' => e = .returned (.int .i64 (stepN (shape d) n : Int)) ∧ ∃ d', Nx d d' w w' ∧ (∀ k, d'.look k = d.look k) ∧ d'.n = d.n ∧ shape d' = stepS (shape d) n := by
  refine (Step_any d n w h hok).mono ?_
  rintro e w' ⟨h1, h2, h3⟩
  obtain ⟨h4, h5, h6⟩ := Nx.step hok h2 h3
  exact ⟨by rw [h1, stepK_shape], stepD d n, h4, h5, h6, stepD_shape hok n⟩

theorem New_i (seed : Nat) (hs : seed < 4294967296) (w : World) :
    Calls Tryz.prog 54 #[.int .u32 (seed : Int)] w fun e w' => ∃ d, e = .returned (ptr d.blk) ∧ DmAt w' d ∧ d.Ok ∧ d.seed = seed ∧ d.n = 0 ∧ (∀ k, d.look k = none) ∧ shape d = (4, none, 0) ∧ (∀ g, d.foot g → w.heap.size ≤ g) ∧ Chg (fun _ => False) w w' := by
  refine (New_any seed w).mono ?_
  rintro e w' ⟨b, c, rfl, h1, h2, h3, h4⟩
  have hat : ∀ i, (newDm b c seed).t0.at i = [] := fun i => by
    unfold Tb.at newDm
    dsimp only
    rw [List.getD_eq_getElem?_getD, List.getElem?_replicate]
    split <;> rfl
  refine ⟨newDm b c seed, rfl, h1, ?_, rfl, rfl, fun k => rfl, rfl, fun g hg => ?_, h4⟩
  · exact { seed := hs, s0 := ⟨2, by omega, by omega, rfl⟩, s1 := fun _ e => (by cases e), in0 := fun i x _ hx => (by rw [hat i] at hx; cases hx), in1 := fun _ e => (by cases e), sums := fun x hx => (by cases hx), keys := List.nodup_nil, vok := fun x hx => (by cases hx), count := rfl, atlt := fun _ e => (by cases e), at0 := fun _ => rfl, moved := fun i hi => (by cases hi) }
  · rcases hg with rfl | rfl | ⟨t, ht, rfl⟩ | ⟨x, hx, rfl⟩
    · exact h2
    · exact h3
    · cases ht
    · cases hx

-- Tryz.func68
theorem Sizes_i (d : Dm) (w : World) (h : DmAt w d) :
    Calls Tryz.prog 68 #[ptr d.blk] w fun e w' => e = .returned (.tuple #[.int .i64 ((shape d).1 : Int), .int .i64 (((shape d).2.1.getD 0 : Nat) : Int), .int .i64 ((shape d).2.2 : Int)]) ∧ Chg (fun _ => False) w w' := Sizes_any d w h

end Go.Proofs.YtifcpippfiglkaaGreat.Dint64

/- Acts: a slice of structs (number, text, number), read; dicts of one's own. -/
namespace Go.Proofs.YtifcpippfiglkaaGreat
open Go.RowKit Pal Go.ChangeShapes Go.WideShapes Go.Deep

structure Act3 where
  Do : Int
  Key : ByteArray
  V : Int

/-- The value is a slice of n acts. -/
structure ActsAt (w : World) (v : Value) (n : Nat) (g : Nat → Act3) : Prop where
  is : ∃ p cap, v = .slice p n cap
  le : n ≤ maxLen
  at_ : ∀ i, i < n → ∃ b o cap, v = .slice (some ⟨b, o, none⟩) n cap ∧ b < w.heap.size ∧ w.cell? ⟨b, o + i * 3, none⟩ = some (.int .i64 (g i).Do) ∧ w.cell? ⟨b, o + i * 3 + 1, none⟩ = some (.string (g i).Key) ∧ w.cell? ⟨b, o + i * 3 + 2, none⟩ = some (.int .i64 (g i).V) ∧
    (Lit.int .i64 (g i).Do).wf = true ∧ (g i).Key.size ≤ maxLen ∧ (Lit.int .i64 (g i).V).wf = true

theorem Chg.cell {S : Nat → Prop} {w w' : World} (h : Chg S w w') {b : Nat} (hb : b < w.heap.size) (hn : ¬ S b) (i : Nat) : w'.cell? ⟨b, i, none⟩ = w.cell? ⟨b, i, none⟩ := by
  unfold World.cell?
  have := h.block b hb hn
  simp only [this]
theorem ActsAt.chg {w w' : World} {v : Value} {n : Nat} {g : Nat → Act3} (h : ActsAt w v n g) (hc : Chg (fun _ => False) w w') : ActsAt w' v n g where
  is := h.is
  le := h.le
  at_ := fun i hi => by
    obtain ⟨b, o, cap, h1, h2, h3, h4, h5, h6⟩ := h.at_ i hi
    exact ⟨b, o, cap, h1, Nat.lt_of_lt_of_le h2 hc.size, by rw [Chg.cell hc h2 id]; exact h3, by rw [Chg.cell hc h2 id]; exact h4, by rw [Chg.cell hc h2 id]; exact h5, h6⟩

section
variable {H : Type} {enc : TypeId × Value → H} {P : Program} {w : World} {base : Nat} {spare : Nat → Bool} {held : Bool}
theorem open_slice_fields {t e : TypeId} {fs : Array Field} {fuel : Nat} {cs : List Value} {x : DataW H × List MemPlace} (ht : P.underlying t = some (.slice e)) (he : P.underlying e = some (.struct fs))
    (hone : oneCellFields P fs = true) (hC : P.cellsOf e = fs.size) (h : DataW.trod enc P w base spare held fuel t cs = some x) :
    (cs = [.slice none 0 0] ∧ x = (.nil, [])) ∨
    ∃ (a : Addr) (len cap m : Nat) (D : Nat → DataW H) (Pl : Nat → List MemPlace), cs = [.slice (some a) len cap] ∧ base ≤ a.block ∧ len ≤ cap ∧ cap ≤ maxLen ∧ m = (if spare a.block then cap else len) ∧
      x = (.slice ((List.range len).map D) ((List.range (m - len)).map fun j => D (len + j)), MemPlace.row a (m * fs.size) ++ (List.range m).flatMap Pl) ∧
      ∀ i, i < m → ∃ (ys : List (DataW H × List MemPlace)) (n : Nat), D i = .agg (ys.map (·.1)) ∧ Pl i = ys.flatMap (·.2) ∧ ys.length = fs.size ∧
        ∀ (j : Nat) (f : Field), fs[j]? = some f → ∃ (v : Value) (y : DataW H × List MemPlace), w.cell? (a.add (i * fs.size + j)) = some v ∧ ys[j]? = some y ∧ DataW.trod enc P w base spare held n f.type [v] = some y := by
  rcases open_slice ht h with h0 | ⟨a, len, cap, m, n, D, Pl, hcs, hb, hl, hm, hmm, hx, hi⟩
  · exact .inl h0
  · refine .inr ⟨a, len, cap, m, D, Pl, hcs, hb, hl, hm, hmm, by rw [hC] at hx; exact hx, fun i him => ?_⟩
    obtain ⟨cs', hc, ht'⟩ := hi i him
    rw [hC] at hc
    obtain ⟨ys, n', hn', hy, hlen, hyl, hf⟩ := DataW.trod_struct he ht'
    obtain ⟨_, hcl, hat⟩ := World.cells?_some hc
    simp only [Prod.mk.injEq] at hy
    refine ⟨ys, n', hy.1, hy.2, hyl, fun j f hj => ?_⟩
    obtain ⟨ho, hk⟩ := hone_of hone j f hj
    have hjl : j < fs.size := (Array.getElem?_eq_some_iff.1 hj).1
    have hcell := hat j hjl
    have hv : cs'[j]? = some (cs'[j]'(by omega)) := List.getElem?_eq_getElem (by omega)
    have h1 := hf j f hj
    rw [ho, hk] at h1
    have hone' : (cs'.drop j).take 1 = [cs'[j]'(by omega)] := by
      rw [List.drop_eq_getElem_cons (by omega)]
      rfl
    rw [hone'] at h1
    have hys : ys[j]? = some (ys[j]'(by omega)) := List.getElem?_eq_getElem (by omega)
    refine ⟨_, _, ?_, hys, h1.trans hys⟩
    rw [← Go.Deep.add_add, hcell, hv]
end

theorem block_lt' {w : World} {a : Addr} {v : Value} (h : w.cell? a = some v) : a.block < w.heap.size := by
  unfold World.cell? at h
  split at h
  · rename_i h1; exact (Array.getElem?_eq_some_iff.1 h1).1
  · cases h
theorem mod8 (x : Int) : ∃ r : Int, (IntKind.u64.wrap x).tmod 8 = r ∧ (r = 0 ∨ r = 1 ∨ r = 2 ∨ r = 3 ∨ r = 4 ∨ r = 5 ∨ r = 6 ∨ r = 7) := by
  refine ⟨_, rfl, ?_⟩
  have h : 0 ≤ IntKind.u64.wrap x := by
    have e : IntKind.u64.wrap x = x % 18446744073709551616 := by simp [IntKind.wrap, IntKind.bits, IntKind.signed]
    rw [e]; omega
  rw [Int.tmod_eq_emod_of_nonneg h]
  omega
theorem addr_add (b o k : Nat) : (⟨b, o, none⟩ : Addr).add k = ⟨b, o + k, none⟩ := by
  unfold Addr.add; split
  · rename_i h; rw [h]; rfl
  · rfl
theorem pick_lt {n : Nat} {p : Nat → Act3 → Prop} (h : ∀ i, i < n → ∃ x, p i x) : ∃ f : Nat → Act3, ∀ i, i < n → p i (f i) := by
  classical
  refine ⟨fun i => if hi : i < n then Classical.choose (h i hi) else ⟨0, ⟨#[]⟩, 0⟩, fun i hi => ?_⟩
  simp only [dif_pos hi]
  exact Classical.choose_spec (h i hi)
theorem trod_i {H : Type} {enc : TypeId × Value → H} {P : Program} {w : World} {base : Nat} {spare : Nat → Bool} {held : Bool} {n : Nat} {t : TypeId} {v : Value} {y : DataW H × List MemPlace} (ht : P.underlying t = some (.int .i64)) (h : DataW.trod enc P w base spare held n t [v] = some y) : ∃ k, v = .int .i64 k ∧ (Lit.int .i64 k).wf = true := by
  obtain ⟨k, h1, _, h3⟩ := DataW.trod_int ht h
  simp only [List.cons.injEq, and_true] at h1
  exact ⟨k, h1, h3⟩
theorem trod_s {H : Type} {enc : TypeId × Value → H} {P : Program} {w : World} {base : Nat} {spare : Nat → Bool} {held : Bool} {n : Nat} {t : TypeId} {v : Value} {y : DataW H × List MemPlace} (ht : P.underlying t = some .string) (h : DataW.trod enc P w base spare held n t [v] = some y) : ∃ s, v = .string s ∧ s.size ≤ maxLen := by
  obtain ⟨k, h1, _, h3⟩ := DataW.trod_string ht h
  simp only [List.cons.injEq, and_true] at h1
  exact ⟨k, h1, h3⟩

end Go.Proofs.YtifcpippfiglkaaGreat

/- Texts in order, by their bytes. -/
namespace Go.Proofs.YtifcpippfiglkaaGreat
open Go

def ltB (a b : ByteArray) : Prop := a.data.toList < b.data.toList
instance (a b : ByteArray) : Decidable (ltB a b) := inferInstanceAs (Decidable (a.data.toList < b.data.toList))
theorem lt_app (p s t : List UInt8) : p ++ s < p ++ t ↔ s < t := by
  induction p with
  | nil => rfl
  | cons x p ih => rw [List.cons_append, List.cons_append, List.cons_lt_cons_iff, ih]; simp
theorem ltB_at {a b : ByteArray} {i : Nat} (h : a.data.toList.take i = b.data.toList.take i) (ha : i < a.size) (hb : i < b.size) (hne : a[i] ≠ b[i]) : ltB a b ↔ a[i] < b[i] := by
  have e1 : a.data.toList = a.data.toList.take i ++ a[i] :: a.data.toList.drop (i + 1) := by
    have := List.take_append_drop i a.data.toList
    rw [List.drop_eq_getElem_cons (by simpa using ha)] at this
    exact this.symm
  have e2 : b.data.toList = b.data.toList.take i ++ b[i] :: b.data.toList.drop (i + 1) := by
    have := List.take_append_drop i b.data.toList
    rw [List.drop_eq_getElem_cons (by simpa using hb)] at this
    exact this.symm
  unfold ltB
  rw [e1, e2, h, lt_app, List.cons_lt_cons_iff]
  constructor
  · rintro (h | ⟨h, _⟩)
    · exact h
    · exact absurd h hne
  · exact .inl
theorem ltB_len {a b : ByteArray} {i : Nat} (h : a.data.toList.take i = b.data.toList.take i) (hi : i = a.size ∨ i = b.size) (ha : i ≤ a.size) (hb : i ≤ b.size) : ltB a b ↔ a.size < b.size := by
  have la : a.data.toList.length = a.size := Array.length_toList
  have lb : b.data.toList.length = b.size := Array.length_toList
  have e1 := List.take_append_drop i a.data.toList
  have e2 := List.take_append_drop i b.data.toList
  unfold ltB
  rw [← e1, ← e2, h, lt_app]
  rcases hi with hi | hi
  · have : a.data.toList.drop i = [] := List.drop_eq_nil_of_le (by omega)
    rw [this]
    cases hd : b.data.toList.drop i with
    | nil =>
      have := congrArg List.length hd
      rw [List.length_drop, List.length_nil] at this
      simp; omega
    | cons y t =>
      have := congrArg List.length hd
      rw [List.length_drop, List.length_cons] at this
      simp; omega
  · have : b.data.toList.drop i = [] := List.drop_eq_nil_of_le (by omega)
    rw [this]
    constructor
    · intro h; simp at h
    · intro h; omega
theorem ltB_irrefl (a : ByteArray) : ¬ ltB a a := List.lt_irrefl _
theorem ltB_trans {a b c : ByteArray} (h : ltB a b) (h' : ltB b c) : ltB a c := List.lt_trans h h'
theorem ltB_total {a b : ByteArray} (h : ¬ ltB a b) (hne : a ≠ b) : ltB b a := by
  unfold ltB at h ⊢
  rcases List.le_total a.data.toList b.data.toList with h1 | h1
  · rcases (List.le_iff_lt_or_eq).1 h1 with h2 | h2
    · exact absurd h2 h
    · exfalso; apply hne; cases a; cases b; simp_all
  · rcases (List.le_iff_lt_or_eq).1 h1 with h2 | h2
    · exact h2
    · exfalso; apply hne; cases a; cases b; simp_all

end Go.Proofs.YtifcpippfiglkaaGreat
