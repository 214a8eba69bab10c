/- The walk of Delete. -/
import Derived.Test.YthbjjjcppijcbaaDW8int
namespace Go.Proofs.Ythbjjjcppijcbaa.Dint
open Go.RowKit Pal

structure DelPost (d : Dm) (key : ByteArray) (w : World) (e : Ending) (w' : World) (d' : Dm) : Prop where
  dm : DmAt w' d'
  ok : d'.Ok
  blk : d'.blk = d.blk
  seed : d'.seed = d.seed
  chg : Chg d.foot w w'
  foot : ∀ g, d'.foot g → d.foot g ∨ w.heap.size ≤ g
  what : (e = .returned (.bool false) ∧ (∀ x ∈ d.nodes, x.key ≠ key) ∧ d'.nodes.Perm d.nodes ∧ shape d' = shape (stepD d 1)) ∨
    (e = .returned (.bool true) ∧ (∃ x, x.key = key ∧ d.nodes.Perm (x :: d'.nodes)) ∧ shape d' = shrinkS (shape (stepD d 1)) d'.n)

def DelR (e : Dm) (key : ByteArray) (w1 w' : World) : Prop :=
  ∃ d', (∀ W2, Chg (fun g => g = e.blk) w' W2 → Blk W2 e.blk 76 ((dmCells e).setIfInBounds 4 (.int .i64 ((e.n : Int) - 1))) → DmAt W2 d') ∧ Blk w' e.blk 76 (dmCells e) ∧ Chg e.foot w1 w' ∧ 1 ≤ e.n ∧
    d'.Ok ∧ d'.blk = e.blk ∧ d'.seed = e.seed ∧ (∀ g, d'.foot g → e.foot g) ∧ (∃ x, x.key = key ∧ e.nodes.Perm (x :: d'.nodes)) ∧ shape d' = shape e

theorem loc_frozen {w : World} {t : Tb} (h : tbAt w t) {i : Nat} (hi : i < t.len) {pre rest : Ch} (e : t.at i = pre ++ rest) : w.frozen? (loc t i pre) = false := by
  rcases List.eq_nil_or_concat pre with rfl | ⟨p, y, rfl⟩
  · rw [loc_nil]; exact h.1.frozen i
  · rw [List.concat_eq_append, loc_snoc]
    have hc := h.2 _ (Tb.at_mem hi)
    rw [e, List.concat_eq_append, List.append_assoc] at hc
    exact (hc.node rfl).frozen 3

theorem delete_with (e : Dm) (key : ByteArray) (w1 : World) (hD1 : DmAt w1 e) (hE : e.Ok) (hk : key.size ≤ 9223372036854775807) :
    Calls Try.prog 40 #[ptr e.blk, .string key, .func (.func 47) #[] #[]] w1 (WithPost e key w1 (DelR e key w1)) := by
  refine with_any e key 47 #[] w1 hD1 hE hk (enters_of Try.func47 (by kernel_rfl) rfl) (DelR e key w1) ?_
  intro ti t pre x post W htab hat hxk hC2
  have htz := (tab_ok hE htab).1.pos
  have hi : sumN e.seed key.data.toList % t.len < t.len := Nat.mod_lt _ (by omega)
  have hDW := hD1.chg0 hC2
  have hta := tab_at hDW htab
  have hL := loc_cell hta hi hat
  have hX := (hta.2 _ (Tb.at_mem hi)).node hat
  refine (delete1_any _ x post W hL hX (loc_frozen hta hi hat)).mono ?_
  rintro e5 W5 ⟨hv5, hW5⟩
  obtain ⟨d', h1, h2, h3, h4, h5, h6, h7, h8, h9, h10⟩ := upd_cut hDW hE htab hi hat hW5
  exact ⟨hv5, d', h1, h2, (hC2.mono (fun _ _ h => h.elim) : Chg e.foot w1 W).trans h3, h4, h5, h6, h7, h8, ⟨x, hxk, h9⟩, h10⟩

set_option maxRecDepth 100000 in
set_option maxHeartbeats 1000000 in
theorem Delete_any (d : Dm) (key : ByteArray) (w : World) (h : DmAt w d) (hok : d.Ok) (hk : key.size ≤ 9223372036854775807) (hn : d.n < 1152921504606846976) :
    Calls Try.prog 19 #[ptr d.blk, .string key] w fun e w' => ∃ d', DelPost d key w e w' d' := by
  have hlt := h.hd.lt
  obtain ⟨e, he⟩ : ∃ e, Hid (stepD d 1 = e) := ⟨_, rfl⟩
  have hE : e.Ok := by rw [← he.out]; exact moveN_ok hok _
  have hblk : e.blk = d.blk := by rw [← he.out]; exact (moveN_blk d _).1
  have hseed : e.seed = d.seed := by rw [← he.out]; exact (moveN_blk d _).2.1
  have hen : e.n = d.n := by rw [← he.out]; exact (moveN_blk d _).2.2
  have hn' : (e.n : Int) < 1152921504606846976 := by omega
  have hperm : e.nodes.Perm d.nodes := by rw [← he.out]; exact moveN_perm hok _
  have hfoot : ∀ g, e.foot g → d.foot g := fun g hg => moveN_foot hok _ (by rw [← he.out] at hg; exact hg)
  have hst : ∀ w, DmAt w d → _ := fun w h => Step_any d 1 w h hok
  rw [he.out] at hst
  have HB := Lib.hid hblk
  have HN := Lib.hid hen
  have HS := Lib.hid hseed
  have hsw : ∀ w1, DmAt w1 e → _ := fun w1 h1 => delete_with e key w1 h1 hE hk
  clear hblk hen hseed
  unfold ptr at hst hsw ⊢
  rw [HB.out] at hsw
  go_enter Try.func19, Try.ntmps19
  go_wp2_with fail
  refine (hst _ h).mono ?_
  rintro e1 w1 ⟨rfl, hD1, hC⟩
  go_wp2_with fail
  refine (hsw w1 hD1).mono ?_
  rintro e5 W5 (⟨rfl, ⟨y, hy, hyk⟩, d', hR1, hR2, hR3, hR4, hR5, hR6, hR7, hR8, ⟨x, hR9, hR10⟩, hR11⟩ | ⟨rfl, hno, hC5⟩)
  · have k1 := hR2.cell 1
    have k4 := hR2.cell 4
    have kf := hR2.frozen 4
    simp only [dmCells, tbVal, List.getElem?_toArray, List.getElem?_cons_zero, List.getElem?_cons_succ] at k1 k4
    rw [HB.out] at k1 k4 kf
    have hlen := hE.s0.pos
    go_wp2_with fail
    have hC6 : Chg (fun g => g = e.blk) W5 (W5.setCell ⟨d.blk, 4, none⟩ (.int .i64 ((e.n : Int) - 1))) := by rw [HB.out]; exact Chg.store (S := fun g => g = d.blk) (Chg.refl _ _) rfl 4 _
    have hD6 := hR1 _ hC6 (by rw [HB.out]; rw [HB.out] at hR2; exact hR2.set 4 _)
    have hCW : Chg d.foot w (W5.setCell ⟨d.blk, 4, none⟩ (.int .i64 ((e.n : Int) - 1))) := (hC.trans' hR3 fun g _ hg => hfoot g hg).trans' hC6 fun g _ hg => hg ▸ hfoot _ (.inl rfl)
    generalize W5.setCell ⟨d.blk, 4, none⟩ (.int .i64 ((e.n : Int) - 1)) = W6 at hD6 hCW hC6 ⊢
    have hmv6 := isMoving_any d' W6 hD6
    obtain ⟨c0, c1, c2, c3, c4, cf, clt⟩ := dm_cells hD6
    unfold ptr at hmv6
    have hb' := hR6.trans HB.out
    have HB' := Lib.hid hb'
    have hsh := hR11
    unfold shape at hsh
    injection hsh with hl0 hsh
    injection hsh with hl1 hl2
    have hdn : d'.n + 1 = e.n := by rw [hR5.count, hE.count, hR10.length_eq]; rfl
    have hdn' : (d'.n : Int) < 1152921504606846976 := by omega
    rw [hb'] at hmv6 c0 c1 c2 c3 c4 cf clt
    have HL0 := Lib.hid hl0
    have HL1 := Lib.hid hl1
    have HDN := Lib.hid hdn
    have HR6 := Lib.hid hR6
    have HR7 := Lib.hid hR7
    have HR9 := Lib.hid hR9
    have HR11 := Lib.hid hR11
    have hfin : ∀ g, d'.foot g → d.foot g := fun g hg => hfoot g (hR8 g hg)
    have hpp := hperm.symm.trans hR10
    clear hb' hl0 hl1 hl2 hdn hR6 hR7 hR9 hR11 k1 k4 kf hR1 hR2 hR3 hsw hst
    cases ht : d'.t1 with
    | some t =>
      rw [ht] at hmv6
      have HT := Lib.hid ht
      clear ht
      refine hmv6.mono ?_
      rintro e8 w8 ⟨rfl, rfl⟩
      go_wp2_with fail
      go_ret
      refine ⟨d', hD6, hR5, HB'.out, HR7.out.trans HS.out, hCW, fun g hg => .inl (hfin g hg), .inr ⟨rfl, ⟨x, HR9.out, hpp⟩, ?_⟩⟩
      rw [HR11.out, he.out]
      unfold shrinkS shape
      rw [← HL1.out, HT.out]
      simp
    | none =>
      rw [ht] at hmv6
      have HT := Lib.hid ht
      clear ht
      have hms := moves_dm d' (d'.n : Int) W6 hD6 hR5 HT.out
      unfold ptr at hms
      rw [HB'.out] at hms
      by_cases h4 : 4 < e.t0.len
      · by_cases h8 : 8 * d'.n < e.t0.len
        · have h4' : (e.t0.len : Int) > 4 := by omega
          have h8' : 8 * (d'.n : Int) < (e.t0.len : Int) := by omega
          refine hmv6.mono ?_
          rintro e8 w8 ⟨rfl, rfl⟩
          go_wp2_with fail
          refine hms.mono ?_
          rintro e8 w8 ⟨⟨v8, rfl⟩, e2, t, hD8, hE2, hb2, hs2, hn2, hnn2, hf2, hC8, ht2, hsh2⟩
          go_wp2_with fail
          go_ret
          refine ⟨e2, hD8, hE2, hb2, (hs2.trans HR7.out).trans HS.out, hCW.trans' hC8 fun g _ hg => (by rw [hg]; exact .inl rfl), fun g hg => (hf2 g hg).imp (hfin g) fun h9 => Nat.le_trans hCW.size h9, .inr ⟨rfl, ⟨x, HR9.out, by rw [hnn2]; exact hpp⟩, ?_⟩⟩
          rw [hsh2, he.out, hn2]
          have h1 : e.t1.map Tb.len = none := by rw [← HL1.out, HT.out]; rfl
          have hat : d'.at_ = e.at_ := by have := HR11.out; unfold shape at this; injection this with _ this; injection this with _ this
          unfold shrinkS shape
          rw [h1, if_pos ⟨rfl, h4, h8⟩, HL0.out, hat]
        · have h4' : (e.t0.len : Int) > 4 := by omega
          have h8' : (8 * (d'.n : Int) < (e.t0.len : Int)) = False := by simp only [eq_iff_iff, iff_false]; omega
          have H8 := Lib.hid h8
          clear h8
          refine hmv6.mono ?_
          rintro e8 w8 ⟨rfl, rfl⟩
          go_wp2_with fail
          go_ret
          refine ⟨d', hD6, hR5, HB'.out, HR7.out.trans HS.out, hCW, fun g hg => .inl (hfin g hg), .inr ⟨rfl, ⟨x, HR9.out, hpp⟩, ?_⟩⟩
          rw [HR11.out, he.out]
          unfold shrinkS
          rw [if_neg]
          rintro ⟨_, g1, g2⟩
          exact H8.out g2
      · have H4 := Lib.hid h4
        have h4' : ((4 : Int) < (e.t0.len : Int)) = False := by simp only [eq_iff_iff, iff_false]; omega
        clear h4 hlen
        refine hmv6.mono ?_
        rintro e8 w8 ⟨rfl, rfl⟩
        go_wp2_with fail
        go_ret
        refine ⟨d', hD6, hR5, HB'.out, HR7.out.trans HS.out, hCW, fun g hg => .inl (hfin g hg), .inr ⟨rfl, ⟨x, HR9.out, hpp⟩, ?_⟩⟩
        rw [HR11.out, he.out]
        unfold shrinkS
        rw [if_neg]
        rintro ⟨_, g1, g2⟩
        exact H4.out g1
  · go_wp2_with fail
    go_ret
    exact ⟨e, hD1.chg0 hC5, hE, HB.out, HS.out, hC.trans' hC5 fun _ _ h => h.elim, fun g hg => .inl (hfoot g hg), .inl ⟨rfl, fun x hx => hno x (hperm.mem_iff.2 hx), hperm, by rw [he.out]⟩⟩

set_option maxHeartbeats 400000 in
theorem Delete_nil (key : ByteArray) (w : World) :
    Calls Try.prog 19 #[.pointer none, .string key] w fun e w' => e = .returned (.bool false) ∧ w = w' := by
  go_enter Try.func19, Try.ntmps19
  go_wp2
  go_ret
  exact ⟨rfl, rfl⟩

end Go.Proofs.Ythbjjjcppijcbaa.Dint
