/- Texts joined for ZsetWays: ZG, ZH, ZJ, ZK, ZO. -/
import Derived.Test.YtifcpippfiglkaaGreatJZsetWaysk
import Derived.Test.YtifcpippfiglkaaGreatJZsetWayso
set_option linter.unusedVariables false
set_option linter.unusedSimpArgs false

/- zset: a packed set becomes a list. -/
namespace Go.Proofs.YtifcpippfiglkaaGreat
open Go.RowKit Pal
attribute [local go_sem] Oper.semAt_some

theorem SkAt.lower {w : World} {b base : Nat} {s : Sk} (h : SkAt w b s) (hb : base ≤ b) : SkAt w base s := ⟨⟨h.v.nd, h.v.inj, fun p hp => Nat.le_trans hb (h.v.ge p hp)⟩, h.lo⟩
theorem LsAt.lower {w : World} {b base : Nat} {x : Ls} {es : List En} (h : LsAt w b x es) (hb : base ≤ b) : LsAt w base x es :=
  { h with sk := h.sk.lower hb, ge := ⟨Nat.le_trans hb h.ge.1, fun g hg => Nat.le_trans hb (h.ge.2 g hg)⟩ }
theorem ls_new {W : World} {base g : Nat} {d : Dint64.Dm} (hs : SkAt W base ⟨g, []⟩) (hd : Dint64.DmAt W d) (hok : d.Ok) (hn : d.n = 0) (hl : ∀ k, d.look k = none) (hsh : Dint64.shape d = (4, none, 0)) (hb : base ≤ W.heap.size) (hf : ∀ g, d.foot g → base ≤ g) :
    LsAt (W.alloc (.cells #[pt g, pt d.blk] 98)) base ⟨W.heap.size, ⟨g, []⟩, d⟩ [] where
  b := Blk.new W 98 #[pt g, pt d.blk]
  sk := hs.chg0 ((Chg.refl _ W).alloc _)
  dm := hd.chg0 ((Chg.refl _ W).alloc _)
  ok := hok
  eq := rfl
  look := fun m => by rw [hl]; rfl
  dn := hn
  bz := by rw [hsh]; exact ⟨by decide, fun l e => by cases e⟩
  ge := ⟨hb, hf⟩
theorem ahead_all {l : List En} {e : En} (h : ∀ x ∈ l, ltE x e) : ahead l e = l.length := by
  induction l with
  | nil => rfl
  | cons x l ih =>
    rw [ahead_cons, if_pos (h x List.mem_cons_self), ih fun y hy => h y (List.mem_cons_of_mem _ hy), List.length_cons]
theorem insE_end {es : List En} (hz : Zok es) {m : Nat} {e : En} (h : es[m]? = some e) : insE (es.take m) e = es.take (m + 1) ∧ e.m ∉ (es.take m).map (·.m) := by
  have hm := (List.getElem?_eq_some_iff.1 h).1
  have e1 : es.take (m + 1) = es.take m ++ [e] := by rw [List.take_add_one, h]; rfl
  constructor
  · have := (List.pairwise_append.1 (e1 ▸ hz.so.sublist (List.take_sublist (m + 1) es))).2.2
    unfold insE
    rw [ahead_all fun x hx => this x hx e List.mem_cons_self, e1, List.take_length, List.drop_length]
  · have := e1 ▸ (((List.take_sublist (m + 1) es).map En.m).nodup hz.nd)
    rw [List.map_append, List.nodup_append] at this
    exact fun h2 => this.2.2 _ h2 _ (by simp) rfl
section
variable {w w' : World} {base : Nat} {z : Zs} {es : List En}
set_option maxRecDepth 100000 in
set_option maxHeartbeats 4000000 in
theorem z_lists (h : ZsAt w base z es) : Calls Tryz.prog 36 #[pt z.blk] w (ZPost base z es true none w) := by
  have h0 := h
  obtain ⟨c0, _, _, c3, l0⟩ := h.cells
  have hz := h.ok
  obtain ⟨zb, E, M, sd, f⟩ := z
  cases f with
  | l x =>
    have hm := fun w => ta_lp w x.blk
    unfold Fm.v pt at *
    clear h
    have hfin := Lib.hid (Zx.refl h0)
    clear h0
    go_enter Tryz.func36, Tryz.ntmps36
    go_wp2_with fail
    refine bodyPost_ret (results_none rfl _ _ _) rfl ?_
    exact ⟨⟨_, rfl, nofun⟩, _, hfin.out, rfl⟩
  | p b =>
    obtain ⟨hp, hb⟩ := h.f
    have hm := fun w => ta_pp w b
    have hm1 := fun w => mp_len w b
    have hm2 := fun w => mp_range w b
    have hsn := fun w => new_any w
    have hdn := fun w => Dint64.New_i sd h.lim.2.2 w
    have hgen : ∀ W', Chg (fun _ => False) w W' → W'.cell? ⟨zb, 3, none⟩ = some (.int .u32 (sd : Int)) := fun W' hc => (h0.chg0 hc).cells.2.2.2.1
    unfold Dint64.ptr at hdn
    unfold Fm.v pt at *
    go_enter Tryz.func36, Tryz.ntmps36
    go_wp2_with fail
    go_region_held3 (fun W' => W'.cell? ⟨zb, 3, none⟩ = some (.int .u32 (sd : Int))) (first | exact hgen _ (Chg.refl _ _).drew | exact hgen _ hc5 | exact hgen _ hc6 | exact hgen _ (hc5.alloc _) | exact hgen _ (hc6.alloc _) | fail)
      (first
        | (go_at_call 53; refine (hsn _).mono ?_; rintro r w5 ⟨rfl, hS5, hC5⟩; have hc5 : Chg (fun _ => False) w w5 := (show Chg (fun _ => False) w _ from (by first | exact (Chg.refl _ _).drew | exact hc6)).trans hC5)
        | (go_at_call 54; refine (hdn _).mono ?_; rintro r w6 ⟨d, rfl, hD6, hok, hseed, hn, hl, hsh, hft, hC6⟩; have hc6 : Chg (fun _ => False) w w6 := (show Chg (fun _ => False) w _ from (by first | exact (Chg.refl _ _).drew | exact hc5)).trans hC6)
        | fail)
    have hL := ls_new (base := w.heap.size) ((hS5.chg0 hC6).lower (Nat.le_refl _)) hD6 hok hn hl hsh hc6.size (fun g hg => Nat.le_trans hc5.size (hft g hg))
    have hC7 := hc6.alloc (.cells #[pt w.heap.size, pt d.blk] 98)
    unfold pt at hL hC7
    change LsAt (w6.alloc (.cells #[.pointer (some ⟨w.heap.size, 0, none⟩), .pointer (some ⟨d.blk, 0, none⟩)] 98)) _ _ _ at hL
    change Chg _ _ (w6.alloc (.cells #[.pointer (some ⟨w.heap.size, 0, none⟩), .pointer (some ⟨d.blk, 0, none⟩)] 98)) at hC7
    generalize w6.alloc (.cells #[.pointer (some ⟨w.heap.size, 0, none⟩), .pointer (some ⟨d.blk, 0, none⟩)] 98) = W7 at hL hC7 ⊢
    obtain ⟨x0, hx0⟩ : ∃ x0 : Ls, x0 = ⟨w6.heap.size, ⟨w.drew.heap.size, []⟩, d⟩ := ⟨_, rfl⟩
    rw [← hx0] at hL
    have hxb : x0.blk = w6.heap.size := by rw [hx0]
    rw [← hxb]
    clear hx0 hxb hS5 hD6 hC5 hC6 hc5 hc6 hsn hdn hft hok hn hl hsh hseed
    clear hgen
    have hgen0 : ∀ W', Chg (fun _ => False) w W' → W'.cell? ⟨zb, 0, none⟩ = some (.iface 73 (.pointer (some ⟨b, 0, none⟩))) := fun W' hc => (h0.chg0 hc).cells.1
    have hpl := fun W (hc : Chg (fun _ => False) w W) => p_len (hp.chg hc id)
    have hpr := fun W (hc : Chg (fun _ => False) w W) => p_range (hp.chg hc id) 0 (es.length : Int)
    rw [sub_all] at hpr
    unfold RgPost at hpr
    unfold pt at hpl hpr
    obtain ⟨x1, x2⟩ : W7.cell? ⟨zb, 0, none⟩ = some (.iface 73 (.pointer (some ⟨b, 0, none⟩))) ∧ zb < W7.heap.size := ⟨hgen0 _ hC7, Nat.lt_of_lt_of_le l0 hC7.size⟩
    go_wp2_with fail
    go_region_held3 (fun W' => W'.cell? ⟨zb, 0, none⟩ = some (.iface 73 (.pointer (some ⟨b, 0, none⟩)))) (first | exact hgen0 _ hC7.drew | exact hgen0 _ hc8 | exact hgen0 _ hc9 | fail)
      (first
        | (go_at_call 149; refine (hpl _ hC7.drew).mono ?_; rintro r w8 ⟨rfl, hC8⟩; have hc8 := hC7.drew.trans hC8)
        | (go_at_call 150; refine (hpr _ hc8).mono ?_; rintro r w9 ⟨⟨v, rfl, hv⟩, hC9⟩; have hc9 := hc8.trans hC9; have hv0 := hv; obtain ⟨p, c, rfl, hpc, hpm, hpg⟩ := hv.is)
        | fail)
    have hL9 := hL.chg0 (((Chg.refl _ W7).drew.trans hC8).trans hC9)
    have hn4 := hz.n
    have hok := Lib.hid h0
    clear hpl hpr hgen0 hm hm1 hm2 x1 x2 hC9 hC8 hc8 hC7 hL hp h c0 l0 hv
    go_wp2_with fail
    go_loopg [38] es.length (fun k v W => ∃ (m : Nat) (x' : Ls), v = .int .i64 (m : Int) ∧ k = es.length - m ∧ m ≤ es.length ∧ LsAt W w.heap.size x' (es.take m) ∧ x'.blk = x0.blk ∧ Chg (fun _ => False) w W ∧ Ents W w8.heap.size (.slice p es.length c) es)
    case atStart => exact ⟨0, x0, rfl, rfl, Nat.zero_le _, hL9, rfl, hc9, hv0⟩
    case round =>
      clear hL9 hc9 hv0
      obtain ⟨m, x', rfl, rfl, hm, hL, hxb, hC, hv⟩ := hrel
      by_cases hml : m < es.length
      · have h1 : (m : Int) < (es.length : Int) := by omega
        have hx := List.getElem?_eq_getElem hml
        generalize es[m] = e at hx
        obtain ⟨hi, hne⟩ := insE_end hz hx
        have hlp := fun W (hL : LsAt W w.heap.size x' (es.take m)) => l_put hL (hz.sub (List.take_sublist _ _)) e 1 ⟨by omega, by omega⟩ hne (hz.ok e (List.mem_of_getElem? hx))
        rw [hi, show ((1 : Nat) : Int) = 1 from rfl, hxb] at hlp
        unfold LxPost En.val pt at hlp
        obtain ⟨gb, o, c2, he2, g1, g2, g3, k0, k1⟩ := hv.r.at_ hx
        injection he2 with he2 _ he3
        subst he2
        subst he3
        have hm4 : (m : Int) ≤ 400 := by omega
        have hl4 : (es.length : Int) ≤ 400 := by omega
        have HX := Lib.hid hx
        clear hi hne hx
        go_wp2_with (go_at_call 55; refine (hlp _ (hL.chg0 ((Chg.refl _ wr).alloc _))).mono ?_; rintro r w5 ⟨⟨u, rfl, _⟩, x'', hX⟩)
        go_roundg (es.length - (m + 1))
        case measure => omega
        case rel =>
          refine ⟨m + 1, x'', int_eq (by omega), rfl, by omega, hX.at_, hX.blk.trans hxb, (hC.alloc _).trans' hX.chg fun g hg hf => ?_, (hv.chg0 ((Chg.refl _ wr).alloc _)).chg hX.chg fun g hg hf => ?_⟩
          · have := (hL.lt hf).1; omega
          · obtain ⟨t, cs, hb, ht⟩ := ls_ty hL hf
            exact hb.not_own hv (by rcases ht with rfl | rfl | rfl | rfl | rfl | rfl <;> decide) hg
      · obtain rfl : m = es.length := by omega
        have h1 : ¬ (es.length : Int) < (es.length : Int) := by omega
        have hZ := hok.out.chg0 hC
        have hbz := hZ.b
        obtain ⟨c0, _, _, _, l0⟩ := hZ.cells
        have fz := hbz.frozen 0
        have hbz := Lib.hid hbz
        unfold Fm.v pt at c0
        have l00 := (hok.out.lt (.inl rfl)).2
        go_wp2_with fail
        go_end0
        have hlt : ∀ g, x'.foot g → w.heap.size ≤ g := fun g hg => (hL.lt hg).1
        have hbs := hbz.out.set 0 (.iface 82 (pt x0.blk))
        have hcs : Chg (fun g => g = zb) wr (wr.setCell ⟨zb, 0, none⟩ (.iface 82 (pt x0.blk))) := Chg.store (S := fun g => g = zb) (Chg.refl _ wr) rfl 0 _
        have hL2 := hL.chg hcs fun g hg e => by have := hlt g hg; omega
        rw [List.take_length] at hL2
        refine ⟨⟨_, rfl, nofun⟩, ⟨zb, E, M, sd, .l x'⟩, ⟨⟨?_, hL2.lower ?_, hok.out.ge, hz, hok.out.lim⟩, rfl, rfl, rfl, rfl, ?_, ?_⟩, rfl⟩
        · show Blk _ zb _ #[.iface 82 (pt x'.blk), _, _, _]
          rw [hxb]; exact hbs
        · have := hok.out.ge; exact Nat.le_of_lt (Nat.lt_of_le_of_lt this l00)
        · exact (hC.mono fun _ _ h => h.elim).trans (hcs.mono fun g _ e => .inl e)
        · rintro g (rfl | hg)
          · exact .inl (.inl rfl)
          · exact .inr (hlt g hg)
end
end Go.Proofs.YtifcpippfiglkaaGreat

/- zset: Add. -/
namespace Go.Proofs.YtifcpippfiglkaaGreat
open Go.RowKit Pal
attribute [local go_sem] Oper.semAt_some

section
variable {w w' : World} {base : Nat} {z : Zs} {es : List En}
theorem fx_zx {z1 : Zs} {es1 es' : List En} {w1 : World} (h : ZsAt w1 base z1 es1) {f' : Fm} (hx : Fx base z1.f f' es' w1 w') (hz : Zok es') : ∃ z', Zx base z1 z' es' w1 w' ∧ z'.f.is = z1.f.is := ⟨_, h.form hx hz, Fm.is_of hx.v⟩
set_option maxRecDepth 100000 in
set_option maxHeartbeats 4000000 in
theorem z_add_no (h : ZsAt w base z es) (m : ByteArray) (s lv : Int) (hm : m.size ≤ 9223372036854775807) (e : Int) (he : addNo es m lv = some e) : Calls Tryz.prog 13 #[pt z.blk, .string m, .int .i64 s, .int .i64 lv] w (ZPost base z es z.f.is (some (.tuple #[.bool false, .int .i64 e])) w) := by
  unfold addNo at he
  obtain ⟨c0, _, _, _, l0⟩ := h.cells
  by_cases h1 : 64 < m.size ∨ lv < 1 ∨ 32 < lv
  · rw [if_pos h1] at he
    injection he with he
    subst he
    have hfin := Lib.hid (Zx.refl h)
    unfold pt
    rcases h1 with h1 | h1 | h1
    · have h1' : (64 : Int) < (m.size : Int) := by omega
      go_enter Tryz.func13, Tryz.ntmps13
      go_wp2_with fail
      go_ret2
      exact ⟨⟨_, rfl, fun y hy => by injection hy⟩, _, hfin.out, rfl⟩
    · by_cases h2 : 64 < m.size
      · have h2' : (64 : Int) < (m.size : Int) := by omega
        go_enter Tryz.func13, Tryz.ntmps13
        go_wp2_with fail
        go_ret2
        exact ⟨⟨_, rfl, fun y hy => by injection hy⟩, _, hfin.out, rfl⟩
      · have h2' : ¬ (64 : Int) < (m.size : Int) := by omega
        go_enter Tryz.func13, Tryz.ntmps13
        go_wp2_with fail
        go_ret2
        exact ⟨⟨_, rfl, fun y hy => by injection hy⟩, _, hfin.out, rfl⟩
    · by_cases h2 : 64 < m.size
      · have h2' : (64 : Int) < (m.size : Int) := by omega
        go_enter Tryz.func13, Tryz.ntmps13
        go_wp2_with fail
        go_ret2
        exact ⟨⟨_, rfl, fun y hy => by injection hy⟩, _, hfin.out, rfl⟩
      · have h2' : ¬ (64 : Int) < (m.size : Int) := by omega
        have h3 : ¬ lv < 1 := by omega
        go_enter Tryz.func13, Tryz.ntmps13
        go_wp2_with fail
        go_ret2
        exact ⟨⟨_, rfl, fun y hy => by injection hy⟩, _, hfin.out, rfl⟩
  · rw [if_neg h1] at he
    by_cases h4 : lookE es m = none ∧ es.length = 400
    · rw [if_pos h4] at he
      injection he with he
      subst he
      obtain ⟨h5, h6⟩ := h4
      have h2' : ¬ (64 : Int) < (m.size : Int) := by omega
      have h3 : ¬ lv < 1 := by omega
      have h3' : ¬ 32 < lv := by omega
      obtain ⟨T, v, fid, rc, hfc⟩ := f_score h.f m hm
      have hen := hfc.en
      have hme := hfc.me
      have hca := hfc.call
      rw [hfc.fv] at c0
      rw [h5] at hca
      have hln := fun w1 (z1 : Zs) (h : ZsAt w1 base z1 es) => z_len h
      rw [h6] at hln
      simp only [Option.getD_none, Option.isSome_none] at hca
      have HH := Lib.hid h
      have hz := h.ok
      clear h h1 h5 h6 hm
      unfold pt at *
      go_enter Tryz.func13, Tryz.ntmps13
      go_wp2_with (first | (go_at_fn fid; refine hca.mono ?_; rintro r w1 ⟨rfl, f', hf'⟩; obtain ⟨z1, hZ1, hi1⟩ := fx_zx HH.out hf' hz) | (go_at_call 16; rw [← hZ1.blk]; refine (hln _ _ hZ1.at_).mono ?_; rintro r w2 ⟨rfl, hC2⟩))
      go_ret2
      exact ⟨⟨_, rfl, fun y hy => by injection hy⟩, _, hZ1.trans (Zx.zero hZ1.at_ hC2), hi1⟩
    · rw [if_neg h4] at he; cases he
end
end Go.Proofs.YtifcpippfiglkaaGreat

/- zset: Add, where something is added. -/
namespace Go.Proofs.YtifcpippfiglkaaGreat
open Go.RowKit Pal
attribute [local go_sem] Oper.semAt_some

section
variable {w w' : World} {base : Nat} {z : Zs} {es : List En}
/-- What goes on ahead of the list's making. -/
structure Pre (base : Nat) (z z1 : Zs) (es1 : List En) (w w1 : World) : Prop where
  zx : Zx base z z1 es1 w w1
  is : z1.f.is = z.f.is
theorem Pre.cells {z1 : Zs} {es1 : List En} {w1 W : World} (h : Pre base z z1 es1 w w1) (hc : Chg (fun _ => False) w1 W) : W.cell? ⟨z.blk, 1, none⟩ = some (.int .i64 (z.E : Int)) ∧ W.cell? ⟨z.blk, 2, none⟩ = some (.int .i64 (z.M : Int)) := by
  obtain ⟨_, c1, c2, _⟩ := (h.zx.at_.chg0 hc).cells
  rw [h.zx.blk] at c1 c2
  rw [h.zx.E] at c1
  rw [h.zx.M] at c2
  exact ⟨c1, c2⟩
theorem Pre.then {z1 z2 : Zs} {es1 es2 : List En} {w1 w2 : World} (h : Pre base z z1 es1 w w1) (k : Zx base z1 z2 es2 w1 w2 ∧ z2.f.is = z1.f.is) : Pre base z z2 es2 w w2 := ⟨h.zx.trans k.1, k.2.trans h.is⟩
theorem Pre.zero {z1 : Zs} {es1 : List En} {w1 w2 : World} (h : Pre base z z1 es1 w w1) (hc : Chg (fun _ => False) w1 w2) : Pre base z z1 es1 w w2 := h.then ⟨Zx.zero h.zx.at_ hc, rfl⟩
/-- The form's own cell, as what it is. -/
theorem Zx.form {z1 : Zs} {es1 : List En} {w1 : World} {T : TypeId} {v : Value} (h : Zx base z z1 es1 w w1) (hv : z1.f.v = .iface T v) : w1.cell? ⟨z.blk, 0, none⟩ = some (.iface T v) ∧ z.blk < w1.heap.size := by
  obtain ⟨c0, _, _, _, l0⟩ := h.at_.cells
  rw [h.blk] at c0 l0
  rw [hv] at c0
  exact ⟨c0, l0⟩
theorem Pre.form {z1 : Zs} {es1 : List En} {w1 : World} {T : TypeId} {v : Value} (h : Pre base z z1 es1 w w1) (hv : z1.f.v = .iface T v) : w1.cell? ⟨z.blk, 0, none⟩ = some (.iface T v) ∧ z.blk < w1.heap.size := by
  obtain ⟨c0, _, _, _, l0⟩ := h.zx.at_.cells
  rw [h.zx.blk] at c0 l0
  rw [hv] at c0
  exact ⟨c0, l0⟩
set_option maxRecDepth 100000 in
set_option maxHeartbeats 8000000 in
theorem z_add_none (h : ZsAt w base z es) (m : ByteArray) (s lv : Int) (hs : -9223372036854775808 ≤ s ∧ s ≤ 9223372036854775807) (he : addNo es m lv = none) (hl : lookE es m = none) (es1 : List En) (he1 : dropM es m = es1) : Calls Tryz.prog 13 #[pt z.blk, .string m, .int .i64 s, .int .i64 lv] w (ZPost base z (insE es1 ⟨m, s⟩) (z.f.is || decide (z.E < es1.length + 1 ∨ z.M < m.size)) (some (.tuple #[.bool true, .int .i64 0])) w) := by
  obtain ⟨a1, a2, a3, a4⟩ := addNo_none he
  have h2' : ¬ (64 : Int) < (m.size : Int) := by omega
  have h3 : ¬ lv < 1 := by omega
  have h3' : ¬ 32 < lv := by omega
  have hn4 := h.ok.n
  have hz := h.ok
  have hz1 : Zok es1 := he1 ▸ hz.sub (dropM_sub es m)
  have hno : m ∉ es1.map (·.m) := he1 ▸ dropM_not es m
  rw [dropM_none hl] at he1
  subst he1
  have a5 := a4 hl
  have hl1 : es.length < 400 := by omega
  have h4 : ¬ (es.length : Int) = 400 := by omega
  have hln0 := fun w1 (z1 : Zs) (h : Pre base z z1 es w w1) => z_len h.zx.at_
  have h5 : (es.length : Int) ≤ 400 := by omega
  have hw : IntKind.i64.wrap ((es.length : Int) + 1) = (es.length : Int) + 1 := IntWalk.i64_in _ (by omega)
  obtain ⟨lvn, rfl⟩ : ∃ n : Nat, lv = (n : Int) := ⟨lv.toNat, by omega⟩
  obtain ⟨c0, _, _, _, l0⟩ := h.cells
  obtain ⟨T, v, fid, rc, hfc⟩ := f_score h.f m (by omega)
  have hen := hfc.en
  have hme := hfc.me
  have hca := hfc.call
  rw [hfc.fv] at c0
  rw [hl] at hca
  have hz2 := hz1.ins (e := ⟨m, s⟩) hno ⟨a1, hs⟩ (by omega)
  have hln := fun w1 (z1 : Zs) (h : Pre base z z1 es w w1) => z_len h.zx.at_
  have hli := fun w1 (z1 : Zs) (h : Pre base z z1 es w w1) => z_lists h.zx.at_
  have hpu := fun w1 (z1 : Zs) (h : Zx base z z1 es w w1) (h2 : z1.f.is = false → es.length < 200) => f_put h.at_.f hz1 ⟨m, s⟩ lvn ⟨by omega, by omega⟩ hno ⟨a1, hs⟩ h2
  have hE := h.lim.1
  simp only [Option.getD_none, Option.isSome_none] at hca
  have HH := Lib.hid h
  have hblk : ∀ {w1 z1}, Pre base z z1 es w w1 → z1.blk = z.blk := fun h => h.zx.blk
  unfold ZPost at hli
  unfold pt En.val at *
  clear h he hl a1 a2 a3 a4 hn4 hfc hs
  by_cases k1 : z.E < es.length + 1
  · have k1' : (z.E : Int) < (es.length : Int) + 1 := by omega
    have k1a : z.E ≤ es.length := by omega
    have k1b : (z.E : Int) ≤ (es.length : Int) := by omega
    have k1c : decide (z.E ≤ es.length) = true := decide_eq_true k1a
    have k1d : decide ((z.E : Int) < (es.length : Int) + 1) = true := decide_eq_true k1'
    have hcond : z.E < es.length + 1 ∨ z.M < m.size := .inl k1
    have hcond' := Lib.hid hcond
    clear hcond
    clear k1
    go_enter Tryz.func13, Tryz.ntmps13
    go_wp2_with (first | (go_at_fn fid; refine hca.mono ?_; rintro r w1 ⟨rfl, f1, hf1⟩; obtain ⟨z1, hZ1⟩ := fx_zx HH.out hf1 hz; have hP1 : Pre base z z1 es w w1 := ⟨hZ1.1, hZ1.2⟩) | (go_at_call 16; rw [← hblk hP1]; refine (hln0 _ _ hP1).mono ?_; rintro r w2 ⟨rfl, hC2⟩; have hP2 := hP1.zero hC2; obtain ⟨d1, d2⟩ := hP1.cells hC2; obtain ⟨dl1, dl2⟩ := (show z.blk < w2.heap.size ∧ True from ⟨by have := hP2.zx.at_.cells.2.2.2.2; rwa [hP2.zx.blk] at this, trivial⟩); rw [hblk hP1]) | fail)
    refine wp_region_held_drew (S := fun W' => W'.cell? ⟨z.blk, 1, none⟩ = some (.int .i64 (z.E : Int)) ∧ W'.cell? ⟨z.blk, 2, none⟩ = some (.int .i64 (z.M : Int))) (by kernel_rfl) (hP2.cells (Chg.refl _ _).drew) (fun hHeld => ?_)
    refine wpAnyH_take (i := 0) (oi := Go.Oper.mk (some 52) _ _ _ _ _) (v := ?_) rfl (by kernel_rfl) (by kernel_rfl) (by kernel_rfl) (fun _ _ _ h => h) (Or.inl ⟨by rfl, ?_⟩) (by assumption) ?_
    rotate_left
    · intro w hSw
      try dsimp only at hSw
      go_simp
      try with_reducible rfl
    try simp only [Act.put, List.setIfInBounds_toArray, List.set_cons_zero, List.set_cons_succ]
    refine wpAnyH_take (i := 3) (oi := Go.Oper.mk (some 55) _ _ _ _ _) (v := ?_) rfl (by kernel_rfl) (by kernel_rfl) (by kernel_rfl) (fun _ _ _ h => h) (Or.inl ⟨by rfl, ?_⟩) (by assumption) ?_
    rotate_left
    · intro w hSw
      try dsimp only at hSw
      go_simp
      try with_reducible rfl
    try simp only [Act.put, List.setIfInBounds_toArray, List.set_cons_zero, List.set_cons_succ]
    refine wpAnyH_take (i := 4) (oi := Go.Oper.mk (some 56) _ _ _ _ _) (v := ?_) rfl (by kernel_rfl) (by kernel_rfl) (by kernel_rfl) (fun _ _ _ h => h) (Or.inl ⟨by rfl, ?_⟩) (by assumption) ?_
    rotate_left
    · intro w hSw
      try dsimp only at hSw
      go_simp
      try with_reducible rfl
    try simp only [Act.put, List.setIfInBounds_toArray, List.set_cons_zero, List.set_cons_succ]
    refine wpAnyH_take (i := 5) (oi := Go.Oper.mk (some 57) _ _ _ _ _) (v := ?_) rfl (by kernel_rfl) (by kernel_rfl) (by kernel_rfl) (fun _ _ _ h => h) (Or.inl ⟨by rfl, ?_⟩) (by assumption) ?_
    rotate_left
    · intro w hSw
      try dsimp only at hSw
      go_simp
      try with_reducible rfl
    try simp only [Act.put, List.setIfInBounds_toArray, List.set_cons_zero, List.set_cons_succ]
    refine wpAnyH_take (i := 6) (oi := Go.Oper.mk (some 58) _ _ _ _ _) (v := ?_) rfl (by kernel_rfl) (by kernel_rfl) (by kernel_rfl) (fun _ _ _ h => h) (Or.inl ⟨by rfl, ?_⟩) (by assumption) ?_
    rotate_left
    · intro w hSw
      try dsimp only at hSw
      go_simp
      try with_reducible rfl
    try simp only [Act.put, List.setIfInBounds_toArray, List.set_cons_zero, List.set_cons_succ]
    refine wpAnyH_take (i := 7) (oi := Go.Oper.mk (some 59) _ _ _ _ _) (v := ?_) rfl (by kernel_rfl) (by kernel_rfl) (by kernel_rfl) (fun _ _ _ h => h) (Or.inl ⟨by rfl, ?_⟩) (by assumption) ?_
    rotate_left
    · intro w hSw
      try dsimp only at hSw
      go_simp
      try with_reducible rfl
    try simp only [Act.put, List.setIfInBounds_toArray, List.set_cons_zero, List.set_cons_succ]
    refine wpAnyH_ready (rs := [1]) (by kernel_rfl) (by simp) ?_
    refine AllReadyH.cons (o := Go.Oper.mk (some 53) _ _ _ _ _) rfl (fun K hK => ?_) AllReadyH.nil
    go_simp
    go_at_call 16
    rw [← hblk hP2]
    refine (hln _ _ (hP2.zero (Chg.refl _ _).drew)).mono ?_
    rintro r w3 ⟨rfl, hC3'⟩
    have hC3 := (Chg.refl (fun _ => False) w2).drew.trans hC3'
    rw [hblk hP2]
    refine hK.out _ _ (hP2.cells hC3) (fun hHeld2 => ?_)
    clear hK K hHeld
    try simp only [Act.put, List.setIfInBounds_toArray, List.set_cons_zero, List.set_cons_succ]
    refine wpAnyH_take (i := 2) (oi := Go.Oper.mk (some 54) _ _ _ _ _) (v := ?_) rfl (by kernel_rfl) (by kernel_rfl) (by kernel_rfl) (fun _ _ _ h => h) (Or.inl ⟨by rfl, ?_⟩) (by assumption) ?_
    rotate_left
    · intro w hSw
      try dsimp only at hSw
      go_simp
      try with_reducible rfl
    try simp only [Act.put, List.setIfInBounds_toArray, List.set_cons_zero, List.set_cons_succ]
    refine wpAnyH_take (i := 8) (oi := Go.Oper.mk (some 60) _ _ _ _ _) (v := ?_) rfl (by kernel_rfl) (by kernel_rfl) (by kernel_rfl) (fun _ _ _ h => h) (Or.inl ⟨by rfl, ?_⟩) (by assumption) ?_
    rotate_left
    · intro w hSw
      try dsimp only at hSw
      go_simp
      try with_reducible rfl
    try simp only [Act.put, List.setIfInBounds_toArray, List.set_cons_zero, List.set_cons_succ]
    refine wpAnyH_take (i := 9) (oi := Go.Oper.mk (some 61) _ _ _ _ _) (v := ?_) rfl (by kernel_rfl) (by kernel_rfl) (by kernel_rfl) (fun _ _ _ h => h) (Or.inl ⟨by rfl, ?_⟩) (by assumption) ?_
    rotate_left
    · intro w hSw
      try dsimp only at hSw
      go_simp
      try with_reducible rfl
    try simp only [Act.put, List.setIfInBounds_toArray, List.set_cons_zero, List.set_cons_succ]
    refine wpAnyH_take (i := 10) (oi := Go.Oper.mk (some 62) _ _ _ _ _) (v := undef) rfl (by kernel_rfl) (by kernel_rfl) (by kernel_rfl) (fun _ _ _ h => h) (Or.inr ⟨by kernel_rfl, rfl⟩) (by assumption) ?_
    try simp only [Act.put, List.setIfInBounds_toArray, List.set_cons_zero, List.set_cons_succ]
    refine wpAnyH_take (i := 11) (oi := Go.Oper.mk (some 63) _ _ _ _ _) (v := undef) rfl (by kernel_rfl) (by kernel_rfl) (by kernel_rfl) (fun _ _ _ h => h) (Or.inr ⟨by kernel_rfl, rfl⟩) (by assumption) ?_
    try simp only [Act.put, List.setIfInBounds_toArray, List.set_cons_zero, List.set_cons_succ]
    refine wpAnyH_take (i := 12) (oi := Go.Oper.mk (some 64) _ _ _ _ _) (v := undef) rfl (by kernel_rfl) (by kernel_rfl) (by kernel_rfl) (fun _ _ _ h => h) (Or.inr ⟨by kernel_rfl, rfl⟩) (by assumption) ?_
    try simp only [Act.put, List.setIfInBounds_toArray, List.set_cons_zero, List.set_cons_succ]
    refine wpAnyH_take (i := 13) (oi := Go.Oper.mk (some 65) _ _ _ _ _) (v := undef) rfl (by kernel_rfl) (by kernel_rfl) (by kernel_rfl) (fun _ _ _ h => h) (Or.inr ⟨by kernel_rfl, rfl⟩) (by assumption) ?_
    try simp only [Act.put, List.setIfInBounds_toArray, List.set_cons_zero, List.set_cons_succ]
    refine wpAnyH_take (i := 14) (oi := Go.Oper.mk (some 66) _ _ _ _ _) (v := undef) rfl (by kernel_rfl) (by kernel_rfl) (by kernel_rfl) (fun _ _ _ h => h) (Or.inr ⟨by kernel_rfl, rfl⟩) (by assumption) ?_
    try simp only [Act.put, List.setIfInBounds_toArray, List.set_cons_zero, List.set_cons_succ]
    refine wpAnyH_take (i := 15) (oi := Go.Oper.mk (some 67) _ _ _ _ _) (v := undef) rfl (by kernel_rfl) (by kernel_rfl) (by kernel_rfl) (fun _ _ _ h => h) (Or.inr ⟨by kernel_rfl, rfl⟩) (by assumption) ?_
    try simp only [Act.put, List.setIfInBounds_toArray, List.set_cons_zero, List.set_cons_succ]
    refine wpAnyH_take (i := 16) (oi := Go.Oper.mk (some 68) _ _ _ _ _) (v := undef) rfl (by kernel_rfl) (by kernel_rfl) (by kernel_rfl) (fun _ _ _ h => h) (Or.inr ⟨by kernel_rfl, rfl⟩) (by assumption) ?_
    try simp only [Act.put, List.setIfInBounds_toArray, List.set_cons_zero, List.set_cons_succ]
    refine wpAnyH_take (i := 17) (oi := Go.Oper.mk (some 69) _ _ _ _ _) (v := undef) rfl (by kernel_rfl) (by kernel_rfl) (by kernel_rfl) (fun _ _ _ h => h) (Or.inr ⟨by kernel_rfl, rfl⟩) (by assumption) ?_
    try simp only [Act.put, List.setIfInBounds_toArray, List.set_cons_zero, List.set_cons_succ]
    refine wpAnyH_take (i := 18) (oi := Go.Oper.mk (some 70) _ _ _ _ _) (v := ?_) rfl (by kernel_rfl) (by kernel_rfl) (by kernel_rfl) (fun _ _ _ h => h) (Or.inl ⟨by rfl, ?_⟩) (by assumption) ?_
    rotate_left
    · intro w hSw
      try dsimp only at hSw
      go_simp
      try with_reducible rfl
    try simp only [Act.put, List.setIfInBounds_toArray, List.set_cons_zero, List.set_cons_succ]
    refine wpAnyH_done (by kernel_rfl) ?_ _
    clear hHeld2
    have hP3 := hP2.zero hC3
    have l3 : z.blk < w3.heap.size := Nat.lt_of_lt_of_le dl1 hC3.size
    go_wp2_with (first | (go_at_call 36; rw [← hblk hP3]; refine (hli _ _ hP3).mono ?_; rintro r w4 ⟨⟨u4, rfl, _⟩, z4, hZ4, hi4⟩; rw [hblk hP3]; have hZ4 := hP3.zx.trans hZ4; obtain ⟨T3, v3, fid3, rc3, hfc3⟩ := hpu _ _ hZ4 (fun h => by rw [hi4] at h; cases h); have hen3 := hfc3.en; have hme3 := hfc3.me; have hca3 := hfc3.call; obtain ⟨g0, gl⟩ := hZ4.form hfc3.fv; unfold En.val at hca3; clear hfc3) | (go_at_fn fid3; refine hca3.mono ?_; rintro r w5 ⟨⟨u5, rfl⟩, f5, hf5⟩) | fail)
    go_ret2
    obtain ⟨z5, hZ5, hi5⟩ := fx_zx hZ4.at_ hf5 hz2
    exact ⟨⟨_, rfl, fun y hy => by injection hy⟩, z5, hZ4.trans hZ5, by rw [hi5, hi4, decide_eq_true hcond'.out, Bool.or_true]⟩
  by_cases k2 : z.M < m.size
  · have k1' : ¬ (z.E : Int) < (es.length : Int) + 1 := by omega
    have k1a : (z.E ≤ es.length) = False := eq_false (by omega)
    have k1b : ((z.E : Int) ≤ (es.length : Int)) = False := eq_false (by omega)
    have k1c : decide (z.E ≤ es.length) = false := decide_eq_false (by omega)
    have k1d : decide ((z.E : Int) < (es.length : Int) + 1) = false := decide_eq_false k1'
    have k2' : (z.M : Int) < (m.size : Int) := by omega
    have k2c : decide (z.M < m.size) = true := decide_eq_true k2
    have k2d : decide ((z.M : Int) < (m.size : Int)) = true := decide_eq_true k2'
    have hcond' := Lib.hid (show z.E < es.length + 1 ∨ z.M < m.size from .inr k2)
    clear k1 k2
    go_enter Tryz.func13, Tryz.ntmps13
    go_wp2_with (first | (go_at_fn fid; refine hca.mono ?_; rintro r w1 ⟨rfl, f1, hf1⟩; obtain ⟨z1, hZ1⟩ := fx_zx HH.out hf1 hz; have hP1 : Pre base z z1 es w w1 := ⟨hZ1.1, hZ1.2⟩) | (go_at_call 16; rw [← hblk hP1]; refine (hln0 _ _ hP1).mono ?_; rintro r w2 ⟨rfl, hC2⟩; have hP2 := hP1.zero hC2; obtain ⟨d1, d2⟩ := hP1.cells hC2; obtain ⟨dl1, dl2⟩ := (show z.blk < w2.heap.size ∧ True from ⟨by have := hP2.zx.at_.cells.2.2.2.2; rwa [hP2.zx.blk] at this, trivial⟩); rw [hblk hP1]) | fail)
    go_region_held3 (fun W' => W'.cell? ⟨z.blk, 1, none⟩ = some (.int .i64 (z.E : Int)) ∧ W'.cell? ⟨z.blk, 2, none⟩ = some (.int .i64 (z.M : Int))) (first | exact hP2.cells (Chg.refl _ _).drew | exact hP2.cells hC3 | fail) (first | (go_at_call 16; rw [← hblk hP2]; refine (hln _ _ (hP2.zero (Chg.refl _ _).drew)).mono ?_; rintro r w3 ⟨rfl, hC3'⟩; have hC3 := (Chg.refl (fun _ => False) w2).drew.trans hC3'; rw [hblk hP2]) | fail)
    have hP3 := hP2.zero hC3
    have l3 : z.blk < w3.heap.size := Nat.lt_of_lt_of_le dl1 hC3.size
    go_wp2_with (first | (go_at_call 36; rw [← hblk hP3]; refine (hli _ _ hP3).mono ?_; rintro r w4 ⟨⟨u4, rfl, _⟩, z4, hZ4, hi4⟩; rw [hblk hP3]; have hZ4 := hP3.zx.trans hZ4; obtain ⟨T3, v3, fid3, rc3, hfc3⟩ := hpu _ _ hZ4 (fun h => by rw [hi4] at h; cases h); have hen3 := hfc3.en; have hme3 := hfc3.me; have hca3 := hfc3.call; obtain ⟨g0, gl⟩ := hZ4.form hfc3.fv; unfold En.val at hca3; clear hfc3) | (go_at_fn fid3; refine hca3.mono ?_; rintro r w5 ⟨⟨u5, rfl⟩, f5, hf5⟩) | fail)
    go_ret2
    obtain ⟨z5, hZ5, hi5⟩ := fx_zx hZ4.at_ hf5 hz2
    exact ⟨⟨_, rfl, fun y hy => by injection hy⟩, z5, hZ4.trans hZ5, by rw [hi5, hi4, decide_eq_true hcond'.out, Bool.or_true]⟩
  · have k1' : ¬ (z.E : Int) < (es.length : Int) + 1 := by omega
    have k1a : (z.E ≤ es.length) = False := eq_false (by omega)
    have k1b : ((z.E : Int) ≤ (es.length : Int)) = False := eq_false (by omega)
    have k1c : decide (z.E ≤ es.length) = false := decide_eq_false (by omega)
    have k1d : decide ((z.E : Int) < (es.length : Int) + 1) = false := decide_eq_false k1'
    have k2' : ¬ (z.M : Int) < (m.size : Int) := by omega
    have k2c : decide (z.M < m.size) = false := decide_eq_false (by omega)
    have k2d : decide ((z.M : Int) < (m.size : Int)) = false := decide_eq_false k2'
    have hcond' := Lib.hid (show ¬ (z.E < es.length + 1 ∨ z.M < m.size) by omega)
    clear k1 k2
    go_enter Tryz.func13, Tryz.ntmps13
    go_wp2_with (first | (go_at_fn fid; refine hca.mono ?_; rintro r w1 ⟨rfl, f1, hf1⟩; obtain ⟨z1, hZ1⟩ := fx_zx HH.out hf1 hz; have hP1 : Pre base z z1 es w w1 := ⟨hZ1.1, hZ1.2⟩) | (go_at_call 16; rw [← hblk hP1]; refine (hln0 _ _ hP1).mono ?_; rintro r w2 ⟨rfl, hC2⟩; have hP2 := hP1.zero hC2; obtain ⟨d1, d2⟩ := hP1.cells hC2; obtain ⟨dl1, dl2⟩ := (show z.blk < w2.heap.size ∧ True from ⟨by have := hP2.zx.at_.cells.2.2.2.2; rwa [hP2.zx.blk] at this, trivial⟩); rw [hblk hP1]) | fail)
    go_region_held3 (fun W' => W'.cell? ⟨z.blk, 1, none⟩ = some (.int .i64 (z.E : Int)) ∧ W'.cell? ⟨z.blk, 2, none⟩ = some (.int .i64 (z.M : Int))) (first | exact hP2.cells (Chg.refl _ _).drew | exact hP2.cells hC3 | fail) (first | (go_at_call 16; rw [← hblk hP2]; refine (hln _ _ (hP2.zero (Chg.refl _ _).drew)).mono ?_; rintro r w3 ⟨rfl, hC3'⟩; have hC3 := (Chg.refl (fun _ => False) w2).drew.trans hC3'; rw [hblk hP2]) | fail)
    have hP3 := hP2.zero hC3
    obtain ⟨T3, v3, fid3, rc3, hfc3⟩ := hpu _ _ hP3.zx (fun _ => by omega)
    have hen3 := hfc3.en
    have hme3 := hfc3.me
    have hca3 := hfc3.call
    obtain ⟨g0, gl⟩ := hP3.zx.form hfc3.fv
    unfold En.val at hca3
    clear hfc3
    go_wp2_with (first | (go_at_fn fid3; refine hca3.mono ?_; rintro r w5 ⟨⟨u5, rfl⟩, f5, hf5⟩) | fail)
    go_ret2
    obtain ⟨z5, hZ5, hi5⟩ := fx_zx hP3.zx.at_ hf5 hz2
    exact ⟨⟨_, rfl, fun y hy => by injection hy⟩, z5, hP3.zx.trans hZ5, by rw [hi5, hP3.is, decide_eq_false hcond'.out, Bool.or_false]⟩
set_option maxRecDepth 100000 in
set_option maxHeartbeats 8000000 in
theorem z_add_some (h : ZsAt w base z es) (m : ByteArray) (s lv : Int) (hs : -9223372036854775808 ≤ s ∧ s ≤ 9223372036854775807) (he : addNo es m lv = none) (so : Int) (hl : lookE es m = some so) (es1 : List En) (he1 : dropM es m = es1) : Calls Tryz.prog 13 #[pt z.blk, .string m, .int .i64 s, .int .i64 lv] w (ZPost base z (insE es1 ⟨m, s⟩) (z.f.is || decide (z.E < es1.length + 1 ∨ z.M < m.size)) (some (.tuple #[.bool false, .int .i64 0])) w) := by
  obtain ⟨a1, a2, a3, a4⟩ := addNo_none he
  have h2' : ¬ (64 : Int) < (m.size : Int) := by omega
  have h3 : ¬ lv < 1 := by omega
  have h3' : ¬ 32 < lv := by omega
  have hn4 := h.ok.n
  have hz := h.ok
  have hz1 : Zok es1 := he1 ▸ hz.sub (dropM_sub es m)
  have hno : m ∉ es1.map (·.m) := he1 ▸ dropM_not es m
  have hl1 : es1.length < 400 := by rw [← he1, dropM_len hz, hl]; show es.length - 1 < 400; omega
  have hd0 := dropM_some hz hl
  rw [he1] at hd0
  have hmem := (look_ok hz hl).2
  have hdr := fun w1 (z1 : Zs) (h : Pre base z z1 es w w1) => f_drop h.zx.at_.f hz ⟨m, so⟩ hmem
  rw [hd0] at hdr
  have h5 : (es1.length : Int) ≤ 400 := by omega
  have hw : IntKind.i64.wrap ((es1.length : Int) + 1) = (es1.length : Int) + 1 := IntWalk.i64_in _ (by omega)
  obtain ⟨lvn, rfl⟩ : ∃ n : Nat, lv = (n : Int) := ⟨lv.toNat, by omega⟩
  obtain ⟨c0, _, _, _, l0⟩ := h.cells
  obtain ⟨T, v, fid, rc, hfc⟩ := f_score h.f m (by omega)
  have hen := hfc.en
  have hme := hfc.me
  have hca := hfc.call
  rw [hfc.fv] at c0
  rw [hl] at hca
  have hz2 := hz1.ins (e := ⟨m, s⟩) hno ⟨a1, hs⟩ (by omega)
  have hln := fun w1 (z1 : Zs) (h : Pre base z z1 es1 w w1) => z_len h.zx.at_
  have hli := fun w1 (z1 : Zs) (h : Pre base z z1 es1 w w1) => z_lists h.zx.at_
  have hpu := fun w1 (z1 : Zs) (h : Zx base z z1 es1 w w1) (h2 : z1.f.is = false → es1.length < 200) => f_put h.at_.f hz1 ⟨m, s⟩ lvn ⟨by omega, by omega⟩ hno ⟨a1, hs⟩ h2
  have hE := h.lim.1
  simp only [Option.getD_some, Option.isSome_some] at hca
  have HH := Lib.hid h
  have hblk : ∀ {w1 z1}, Pre base z z1 es1 w w1 → z1.blk = z.blk := fun h => h.zx.blk
  unfold ZPost at hli
  unfold pt En.val at *
  clear h he hl a1 a2 a3 a4 hn4 hfc hs
  by_cases k1 : z.E < es1.length + 1
  · have k1' : (z.E : Int) < (es1.length : Int) + 1 := by omega
    have k1a : z.E ≤ es1.length := by omega
    have k1b : (z.E : Int) ≤ (es1.length : Int) := by omega
    have k1c : decide (z.E ≤ es1.length) = true := decide_eq_true k1a
    have k1d : decide ((z.E : Int) < (es1.length : Int) + 1) = true := decide_eq_true k1'
    have hcond : z.E < es1.length + 1 ∨ z.M < m.size := .inl k1
    have hcond' := Lib.hid hcond
    clear hcond
    clear k1
    go_enter Tryz.func13, Tryz.ntmps13
    go_wp2_with (first | (go_at_fn fid; refine hca.mono ?_; rintro r w1 ⟨rfl, f1, hf1⟩; obtain ⟨z1, hZ1⟩ := fx_zx HH.out hf1 hz; have hP1 : Pre base z z1 es w w1 := ⟨hZ1.1, hZ1.2⟩; obtain ⟨T2, v2, fid2, rc2, hfc2⟩ := hdr _ _ hP1; have hen2 := hfc2.en; have hme2 := hfc2.me; have hca2 := hfc2.call; obtain ⟨e0, el⟩ := hP1.form hfc2.fv; unfold En.val at hca2; clear hfc2) | (go_at_fn fid2; refine hca2.mono ?_; rintro r w2 ⟨⟨u2, rfl⟩, f2, hf2⟩; have hP2 : Pre base z _ es1 w w2 := hP1.then (fx_zx hP1.zx.at_ hf2 hz1).choose_spec; obtain ⟨z2, hz2e⟩ : ∃ z2, z2 = (fx_zx hP1.zx.at_ hf2 hz1).choose := ⟨_, rfl⟩; rw [← hz2e] at hP2; obtain ⟨d1, d2⟩ := hP2.cells (Chg.refl _ _); obtain ⟨dl1, dl2⟩ := (show z.blk < w2.heap.size ∧ True from ⟨by have := hP2.zx.at_.cells.2.2.2.2; rwa [hP2.zx.blk] at this, trivial⟩); clear hz2e) | fail)
    refine wp_region_held_drew (S := fun W' => W'.cell? ⟨z.blk, 1, none⟩ = some (.int .i64 (z.E : Int)) ∧ W'.cell? ⟨z.blk, 2, none⟩ = some (.int .i64 (z.M : Int))) (by kernel_rfl) (hP2.cells (Chg.refl _ _).drew) (fun hHeld => ?_)
    refine wpAnyH_take (i := 0) (oi := Go.Oper.mk (some 52) _ _ _ _ _) (v := ?_) rfl (by kernel_rfl) (by kernel_rfl) (by kernel_rfl) (fun _ _ _ h => h) (Or.inl ⟨by rfl, ?_⟩) (by assumption) ?_
    rotate_left
    · intro w hSw
      try dsimp only at hSw
      go_simp
      try with_reducible rfl
    try simp only [Act.put, List.setIfInBounds_toArray, List.set_cons_zero, List.set_cons_succ]
    refine wpAnyH_take (i := 3) (oi := Go.Oper.mk (some 55) _ _ _ _ _) (v := ?_) rfl (by kernel_rfl) (by kernel_rfl) (by kernel_rfl) (fun _ _ _ h => h) (Or.inl ⟨by rfl, ?_⟩) (by assumption) ?_
    rotate_left
    · intro w hSw
      try dsimp only at hSw
      go_simp
      try with_reducible rfl
    try simp only [Act.put, List.setIfInBounds_toArray, List.set_cons_zero, List.set_cons_succ]
    refine wpAnyH_take (i := 4) (oi := Go.Oper.mk (some 56) _ _ _ _ _) (v := ?_) rfl (by kernel_rfl) (by kernel_rfl) (by kernel_rfl) (fun _ _ _ h => h) (Or.inl ⟨by rfl, ?_⟩) (by assumption) ?_
    rotate_left
    · intro w hSw
      try dsimp only at hSw
      go_simp
      try with_reducible rfl
    try simp only [Act.put, List.setIfInBounds_toArray, List.set_cons_zero, List.set_cons_succ]
    refine wpAnyH_take (i := 5) (oi := Go.Oper.mk (some 57) _ _ _ _ _) (v := ?_) rfl (by kernel_rfl) (by kernel_rfl) (by kernel_rfl) (fun _ _ _ h => h) (Or.inl ⟨by rfl, ?_⟩) (by assumption) ?_
    rotate_left
    · intro w hSw
      try dsimp only at hSw
      go_simp
      try with_reducible rfl
    try simp only [Act.put, List.setIfInBounds_toArray, List.set_cons_zero, List.set_cons_succ]
    refine wpAnyH_take (i := 6) (oi := Go.Oper.mk (some 58) _ _ _ _ _) (v := ?_) rfl (by kernel_rfl) (by kernel_rfl) (by kernel_rfl) (fun _ _ _ h => h) (Or.inl ⟨by rfl, ?_⟩) (by assumption) ?_
    rotate_left
    · intro w hSw
      try dsimp only at hSw
      go_simp
      try with_reducible rfl
    try simp only [Act.put, List.setIfInBounds_toArray, List.set_cons_zero, List.set_cons_succ]
    refine wpAnyH_take (i := 7) (oi := Go.Oper.mk (some 59) _ _ _ _ _) (v := ?_) rfl (by kernel_rfl) (by kernel_rfl) (by kernel_rfl) (fun _ _ _ h => h) (Or.inl ⟨by rfl, ?_⟩) (by assumption) ?_
    rotate_left
    · intro w hSw
      try dsimp only at hSw
      go_simp
      try with_reducible rfl
    try simp only [Act.put, List.setIfInBounds_toArray, List.set_cons_zero, List.set_cons_succ]
    refine wpAnyH_ready (rs := [1]) (by kernel_rfl) (by simp) ?_
    refine AllReadyH.cons (o := Go.Oper.mk (some 53) _ _ _ _ _) rfl (fun K hK => ?_) AllReadyH.nil
    go_simp
    go_at_call 16
    rw [← hblk hP2]
    refine (hln _ _ (hP2.zero (Chg.refl _ _).drew)).mono ?_
    rintro r w3 ⟨rfl, hC3'⟩
    have hC3 := (Chg.refl (fun _ => False) w2).drew.trans hC3'
    rw [hblk hP2]
    refine hK.out _ _ (hP2.cells hC3) (fun hHeld2 => ?_)
    clear hK K hHeld
    try simp only [Act.put, List.setIfInBounds_toArray, List.set_cons_zero, List.set_cons_succ]
    refine wpAnyH_take (i := 2) (oi := Go.Oper.mk (some 54) _ _ _ _ _) (v := ?_) rfl (by kernel_rfl) (by kernel_rfl) (by kernel_rfl) (fun _ _ _ h => h) (Or.inl ⟨by rfl, ?_⟩) (by assumption) ?_
    rotate_left
    · intro w hSw
      try dsimp only at hSw
      go_simp
      try with_reducible rfl
    try simp only [Act.put, List.setIfInBounds_toArray, List.set_cons_zero, List.set_cons_succ]
    refine wpAnyH_take (i := 8) (oi := Go.Oper.mk (some 60) _ _ _ _ _) (v := ?_) rfl (by kernel_rfl) (by kernel_rfl) (by kernel_rfl) (fun _ _ _ h => h) (Or.inl ⟨by rfl, ?_⟩) (by assumption) ?_
    rotate_left
    · intro w hSw
      try dsimp only at hSw
      go_simp
      try with_reducible rfl
    try simp only [Act.put, List.setIfInBounds_toArray, List.set_cons_zero, List.set_cons_succ]
    refine wpAnyH_take (i := 9) (oi := Go.Oper.mk (some 61) _ _ _ _ _) (v := ?_) rfl (by kernel_rfl) (by kernel_rfl) (by kernel_rfl) (fun _ _ _ h => h) (Or.inl ⟨by rfl, ?_⟩) (by assumption) ?_
    rotate_left
    · intro w hSw
      try dsimp only at hSw
      go_simp
      try with_reducible rfl
    try simp only [Act.put, List.setIfInBounds_toArray, List.set_cons_zero, List.set_cons_succ]
    refine wpAnyH_take (i := 10) (oi := Go.Oper.mk (some 62) _ _ _ _ _) (v := undef) rfl (by kernel_rfl) (by kernel_rfl) (by kernel_rfl) (fun _ _ _ h => h) (Or.inr ⟨by kernel_rfl, rfl⟩) (by assumption) ?_
    try simp only [Act.put, List.setIfInBounds_toArray, List.set_cons_zero, List.set_cons_succ]
    refine wpAnyH_take (i := 11) (oi := Go.Oper.mk (some 63) _ _ _ _ _) (v := undef) rfl (by kernel_rfl) (by kernel_rfl) (by kernel_rfl) (fun _ _ _ h => h) (Or.inr ⟨by kernel_rfl, rfl⟩) (by assumption) ?_
    try simp only [Act.put, List.setIfInBounds_toArray, List.set_cons_zero, List.set_cons_succ]
    refine wpAnyH_take (i := 12) (oi := Go.Oper.mk (some 64) _ _ _ _ _) (v := undef) rfl (by kernel_rfl) (by kernel_rfl) (by kernel_rfl) (fun _ _ _ h => h) (Or.inr ⟨by kernel_rfl, rfl⟩) (by assumption) ?_
    try simp only [Act.put, List.setIfInBounds_toArray, List.set_cons_zero, List.set_cons_succ]
    refine wpAnyH_take (i := 13) (oi := Go.Oper.mk (some 65) _ _ _ _ _) (v := undef) rfl (by kernel_rfl) (by kernel_rfl) (by kernel_rfl) (fun _ _ _ h => h) (Or.inr ⟨by kernel_rfl, rfl⟩) (by assumption) ?_
    try simp only [Act.put, List.setIfInBounds_toArray, List.set_cons_zero, List.set_cons_succ]
    refine wpAnyH_take (i := 14) (oi := Go.Oper.mk (some 66) _ _ _ _ _) (v := undef) rfl (by kernel_rfl) (by kernel_rfl) (by kernel_rfl) (fun _ _ _ h => h) (Or.inr ⟨by kernel_rfl, rfl⟩) (by assumption) ?_
    try simp only [Act.put, List.setIfInBounds_toArray, List.set_cons_zero, List.set_cons_succ]
    refine wpAnyH_take (i := 15) (oi := Go.Oper.mk (some 67) _ _ _ _ _) (v := undef) rfl (by kernel_rfl) (by kernel_rfl) (by kernel_rfl) (fun _ _ _ h => h) (Or.inr ⟨by kernel_rfl, rfl⟩) (by assumption) ?_
    try simp only [Act.put, List.setIfInBounds_toArray, List.set_cons_zero, List.set_cons_succ]
    refine wpAnyH_take (i := 16) (oi := Go.Oper.mk (some 68) _ _ _ _ _) (v := undef) rfl (by kernel_rfl) (by kernel_rfl) (by kernel_rfl) (fun _ _ _ h => h) (Or.inr ⟨by kernel_rfl, rfl⟩) (by assumption) ?_
    try simp only [Act.put, List.setIfInBounds_toArray, List.set_cons_zero, List.set_cons_succ]
    refine wpAnyH_take (i := 17) (oi := Go.Oper.mk (some 69) _ _ _ _ _) (v := undef) rfl (by kernel_rfl) (by kernel_rfl) (by kernel_rfl) (fun _ _ _ h => h) (Or.inr ⟨by kernel_rfl, rfl⟩) (by assumption) ?_
    try simp only [Act.put, List.setIfInBounds_toArray, List.set_cons_zero, List.set_cons_succ]
    refine wpAnyH_take (i := 18) (oi := Go.Oper.mk (some 70) _ _ _ _ _) (v := ?_) rfl (by kernel_rfl) (by kernel_rfl) (by kernel_rfl) (fun _ _ _ h => h) (Or.inl ⟨by rfl, ?_⟩) (by assumption) ?_
    rotate_left
    · intro w hSw
      try dsimp only at hSw
      go_simp
      try with_reducible rfl
    try simp only [Act.put, List.setIfInBounds_toArray, List.set_cons_zero, List.set_cons_succ]
    refine wpAnyH_done (by kernel_rfl) ?_ _
    clear hHeld2
    have hP3 := hP2.zero hC3
    have l3 : z.blk < w3.heap.size := Nat.lt_of_lt_of_le dl1 hC3.size
    go_wp2_with (first | (go_at_call 36; rw [← hblk hP3]; refine (hli _ _ hP3).mono ?_; rintro r w4 ⟨⟨u4, rfl, _⟩, z4, hZ4, hi4⟩; rw [hblk hP3]; have hZ4 := hP3.zx.trans hZ4; obtain ⟨T3, v3, fid3, rc3, hfc3⟩ := hpu _ _ hZ4 (fun h => by rw [hi4] at h; cases h); have hen3 := hfc3.en; have hme3 := hfc3.me; have hca3 := hfc3.call; obtain ⟨g0, gl⟩ := hZ4.form hfc3.fv; unfold En.val at hca3; clear hfc3) | (go_at_fn fid3; refine hca3.mono ?_; rintro r w5 ⟨⟨u5, rfl⟩, f5, hf5⟩) | fail)
    go_ret2
    obtain ⟨z5, hZ5, hi5⟩ := fx_zx hZ4.at_ hf5 hz2
    exact ⟨⟨_, rfl, fun y hy => by injection hy⟩, z5, hZ4.trans hZ5, by rw [hi5, hi4, decide_eq_true hcond'.out, Bool.or_true]⟩
  by_cases k2 : z.M < m.size
  · have k1' : ¬ (z.E : Int) < (es1.length : Int) + 1 := by omega
    have k1a : (z.E ≤ es1.length) = False := eq_false (by omega)
    have k1b : ((z.E : Int) ≤ (es1.length : Int)) = False := eq_false (by omega)
    have k1c : decide (z.E ≤ es1.length) = false := decide_eq_false (by omega)
    have k1d : decide ((z.E : Int) < (es1.length : Int) + 1) = false := decide_eq_false k1'
    have k2' : (z.M : Int) < (m.size : Int) := by omega
    have k2c : decide (z.M < m.size) = true := decide_eq_true k2
    have k2d : decide ((z.M : Int) < (m.size : Int)) = true := decide_eq_true k2'
    have hcond' := Lib.hid (show z.E < es1.length + 1 ∨ z.M < m.size from .inr k2)
    clear k1 k2
    go_enter Tryz.func13, Tryz.ntmps13
    go_wp2_with (first | (go_at_fn fid; refine hca.mono ?_; rintro r w1 ⟨rfl, f1, hf1⟩; obtain ⟨z1, hZ1⟩ := fx_zx HH.out hf1 hz; have hP1 : Pre base z z1 es w w1 := ⟨hZ1.1, hZ1.2⟩; obtain ⟨T2, v2, fid2, rc2, hfc2⟩ := hdr _ _ hP1; have hen2 := hfc2.en; have hme2 := hfc2.me; have hca2 := hfc2.call; obtain ⟨e0, el⟩ := hP1.form hfc2.fv; unfold En.val at hca2; clear hfc2) | (go_at_fn fid2; refine hca2.mono ?_; rintro r w2 ⟨⟨u2, rfl⟩, f2, hf2⟩; have hP2 : Pre base z _ es1 w w2 := hP1.then (fx_zx hP1.zx.at_ hf2 hz1).choose_spec; obtain ⟨z2, hz2e⟩ : ∃ z2, z2 = (fx_zx hP1.zx.at_ hf2 hz1).choose := ⟨_, rfl⟩; rw [← hz2e] at hP2; obtain ⟨d1, d2⟩ := hP2.cells (Chg.refl _ _); obtain ⟨dl1, dl2⟩ := (show z.blk < w2.heap.size ∧ True from ⟨by have := hP2.zx.at_.cells.2.2.2.2; rwa [hP2.zx.blk] at this, trivial⟩); clear hz2e) | fail)
    go_region_held3 (fun W' => W'.cell? ⟨z.blk, 1, none⟩ = some (.int .i64 (z.E : Int)) ∧ W'.cell? ⟨z.blk, 2, none⟩ = some (.int .i64 (z.M : Int))) (first | exact hP2.cells (Chg.refl _ _).drew | exact hP2.cells hC3 | fail) (first | (go_at_call 16; rw [← hblk hP2]; refine (hln _ _ (hP2.zero (Chg.refl _ _).drew)).mono ?_; rintro r w3 ⟨rfl, hC3'⟩; have hC3 := (Chg.refl (fun _ => False) w2).drew.trans hC3'; rw [hblk hP2]) | fail)
    have hP3 := hP2.zero hC3
    have l3 : z.blk < w3.heap.size := Nat.lt_of_lt_of_le dl1 hC3.size
    go_wp2_with (first | (go_at_call 36; rw [← hblk hP3]; refine (hli _ _ hP3).mono ?_; rintro r w4 ⟨⟨u4, rfl, _⟩, z4, hZ4, hi4⟩; rw [hblk hP3]; have hZ4 := hP3.zx.trans hZ4; obtain ⟨T3, v3, fid3, rc3, hfc3⟩ := hpu _ _ hZ4 (fun h => by rw [hi4] at h; cases h); have hen3 := hfc3.en; have hme3 := hfc3.me; have hca3 := hfc3.call; obtain ⟨g0, gl⟩ := hZ4.form hfc3.fv; unfold En.val at hca3; clear hfc3) | (go_at_fn fid3; refine hca3.mono ?_; rintro r w5 ⟨⟨u5, rfl⟩, f5, hf5⟩) | fail)
    go_ret2
    obtain ⟨z5, hZ5, hi5⟩ := fx_zx hZ4.at_ hf5 hz2
    exact ⟨⟨_, rfl, fun y hy => by injection hy⟩, z5, hZ4.trans hZ5, by rw [hi5, hi4, decide_eq_true hcond'.out, Bool.or_true]⟩
  · have k1' : ¬ (z.E : Int) < (es1.length : Int) + 1 := by omega
    have k1a : (z.E ≤ es1.length) = False := eq_false (by omega)
    have k1b : ((z.E : Int) ≤ (es1.length : Int)) = False := eq_false (by omega)
    have k1c : decide (z.E ≤ es1.length) = false := decide_eq_false (by omega)
    have k1d : decide ((z.E : Int) < (es1.length : Int) + 1) = false := decide_eq_false k1'
    have k2' : ¬ (z.M : Int) < (m.size : Int) := by omega
    have k2c : decide (z.M < m.size) = false := decide_eq_false (by omega)
    have k2d : decide ((z.M : Int) < (m.size : Int)) = false := decide_eq_false k2'
    have hcond' := Lib.hid (show ¬ (z.E < es1.length + 1 ∨ z.M < m.size) by omega)
    clear k1 k2
    go_enter Tryz.func13, Tryz.ntmps13
    go_wp2_with (first | (go_at_fn fid; refine hca.mono ?_; rintro r w1 ⟨rfl, f1, hf1⟩; obtain ⟨z1, hZ1⟩ := fx_zx HH.out hf1 hz; have hP1 : Pre base z z1 es w w1 := ⟨hZ1.1, hZ1.2⟩; obtain ⟨T2, v2, fid2, rc2, hfc2⟩ := hdr _ _ hP1; have hen2 := hfc2.en; have hme2 := hfc2.me; have hca2 := hfc2.call; obtain ⟨e0, el⟩ := hP1.form hfc2.fv; unfold En.val at hca2; clear hfc2) | (go_at_fn fid2; refine hca2.mono ?_; rintro r w2 ⟨⟨u2, rfl⟩, f2, hf2⟩; have hP2 : Pre base z _ es1 w w2 := hP1.then (fx_zx hP1.zx.at_ hf2 hz1).choose_spec; obtain ⟨z2, hz2e⟩ : ∃ z2, z2 = (fx_zx hP1.zx.at_ hf2 hz1).choose := ⟨_, rfl⟩; rw [← hz2e] at hP2; obtain ⟨d1, d2⟩ := hP2.cells (Chg.refl _ _); obtain ⟨dl1, dl2⟩ := (show z.blk < w2.heap.size ∧ True from ⟨by have := hP2.zx.at_.cells.2.2.2.2; rwa [hP2.zx.blk] at this, trivial⟩); clear hz2e) | fail)
    go_region_held3 (fun W' => W'.cell? ⟨z.blk, 1, none⟩ = some (.int .i64 (z.E : Int)) ∧ W'.cell? ⟨z.blk, 2, none⟩ = some (.int .i64 (z.M : Int))) (first | exact hP2.cells (Chg.refl _ _).drew | exact hP2.cells hC3 | fail) (first | (go_at_call 16; rw [← hblk hP2]; refine (hln _ _ (hP2.zero (Chg.refl _ _).drew)).mono ?_; rintro r w3 ⟨rfl, hC3'⟩; have hC3 := (Chg.refl (fun _ => False) w2).drew.trans hC3'; rw [hblk hP2]) | fail)
    have hP3 := hP2.zero hC3
    obtain ⟨T3, v3, fid3, rc3, hfc3⟩ := hpu _ _ hP3.zx (fun _ => by omega)
    have hen3 := hfc3.en
    have hme3 := hfc3.me
    have hca3 := hfc3.call
    obtain ⟨g0, gl⟩ := hP3.zx.form hfc3.fv
    unfold En.val at hca3
    clear hfc3
    go_wp2_with (first | (go_at_fn fid3; refine hca3.mono ?_; rintro r w5 ⟨⟨u5, rfl⟩, f5, hf5⟩) | fail)
    go_ret2
    obtain ⟨z5, hZ5, hi5⟩ := fx_zx hP3.zx.at_ hf5 hz2
    exact ⟨⟨_, rfl, fun y hy => by injection hy⟩, z5, hP3.zx.trans hZ5, by rw [hi5, hP3.is, decide_eq_false hcond'.out, Bool.or_false]⟩
end
end Go.Proofs.YtifcpippfiglkaaGreat

/- zset: Add, whatever is added; places. -/
namespace Go.Proofs.YtifcpippfiglkaaGreat
open Go.RowKit Pal
attribute [local go_sem] Oper.semAt_some

section
variable {w w' : World} {base : Nat} {z : Zs} {es : List En}
theorem z_add (h : ZsAt w base z es) (m : ByteArray) (s lv : Int) (hm : m.size ≤ 9223372036854775807) (hs : -9223372036854775808 ≤ s ∧ s ≤ 9223372036854775807) : Calls Tryz.prog 13 #[pt z.blk, .string m, .int .i64 s, .int .i64 lv] w (ZPost base z (addL es m s lv) (addI es m s lv z.E z.M z.f.is) (some (.tuple #[.bool (addR es m lv).1, .int .i64 (addR es m lv).2])) w) := by
  unfold addL addI addR
  cases he : addNo es m lv with
  | some e => exact z_add_no h m s lv hm e he
  | none =>
    have hlen : (putE es m s).length = (dropM es m).length + 1 := by unfold putE; rw [(insE_perm _ _).length_eq, List.length_cons]
    dsimp only
    rw [hlen]
    cases hl : lookE es m with
    | none => exact z_add_none h m s lv hs he hl _ rfl
    | some so => exact z_add_some h m s lv hs he so hl _ rfl
theorem sub_one {l : List En} {i : Nat} {e : En} (h : l[i]? = some e) : sub l (i : Int) ((i : Int) + 1) = [e] := by
  have hi := (List.getElem?_eq_some_iff.1 h).1
  unfold sub
  have e1 : clampN l.length (i : Int) = i := by unfold clampN; omega
  have e2 : clampN l.length ((i : Int) + 1) = i + 1 := by unfold clampN; omega
  rw [e1, e2, show max i (i + 1) - i = 1 by omega, List.drop_eq_getElem_cons hi]
  rw [List.getElem?_eq_getElem hi] at h
  injection h with h
  rw [h]; rfl
set_option maxRecDepth 100000 in
set_option maxHeartbeats 1000000 in
theorem place1_any (gf : Nat) (lb : Array Value) (p : En → Bool) (eg : ∀ args w, (callFunc gf args).run Tryz.prog w = .ok (.enter gf args) w) (W : World) (h : ZsAt W base z es) (hf : ∀ e ∈ es, ∀ W', Chg (fun _ => False) W W' → Calls Tryz.prog gf (#[e.val] ++ lb) W' fun r W'' => r = .returned (.bool (p e)) ∧ Chg (fun _ => False) W' W'')
    (A B i : Nat) (hA : Blk W A 27 #[pt z.blk]) (hB : Blk W B 86 #[fnv gf lb]) (e : En) (he : es[i]? = some e) : Calls Tryz.prog 59 #[.int .i64 (i : Int), pt A, pt B] W fun r W' => r = .returned (.bool (!p e)) ∧ Chg (fun _ => False) W W' := by
  have hr := fun W' (hc : Chg (fun _ => False) W W') => z_range (h.chg0 hc) (i : Int) ((i : Int) + 1)
  rw [sub_one he] at hr
  have hi := (List.getElem?_eq_some_iff.1 he).1
  have hn4 := h.ok.n
  have hi4 : (i : Int) ≤ 400 := by omega
  have hcf := fun W' hc => hf e (List.mem_of_getElem? he) W' hc
  have a0 := hA.cell 0
  have la := hA.lt
  have lb' := hB.lt
  have hbc : ∀ W', Chg (fun _ => False) W W' → W'.cell? ⟨B, 0, none⟩ = some (fnv gf lb) ∧ B < W'.heap.size := fun W' hc => ⟨by have := (hB.chg hc id).cell 0; simpa using this, (hB.chg hc id).lt⟩
  simp only [List.getElem?_toArray, List.getElem?_cons_zero] at a0
  unfold RgPost at hr
  unfold fnv at hbc
  unfold pt En.val at *
  clear hf he hA hB
  go_enter Tryz.func59, Tryz.ntmps59
  go_wp2_with (go_at_call 20; refine (hr _ (Chg.refl _ _)).mono ?_; rintro r w1 ⟨⟨v, rfl, hv⟩, hC1⟩; have hv0 := hv.r; obtain ⟨q, c, rfl, hpc, hpm, hpg⟩ := hv.is)
  go_loopg [13] 1 (fun k v W' => v = .int .i64 0 ∧ k = 1 ∧ w1 = W')
  case atStart => exact ⟨rfl, rfl, rfl⟩
  case round =>
    obtain ⟨rfl, rfl, rfl⟩ := hrel
    obtain ⟨gb, o, c2, he2, g1, g2, g3, k0, k1⟩ := hv0.at_ (k := 0) (x := e) rfl
    injection he2 with he2 he3 he4
    subst he2
    obtain ⟨b0, bl⟩ := hbc _ (hC1.alloc (.cells #[.string e.m, .int .i64 e.s] 54))
    obtain ⟨b0', bl'⟩ := hbc _ hC1
    clear he3 he4 hv0 hv hr hpg
    simp only [List.length_cons, List.length_nil, Nat.zero_mul, Nat.add_zero, Nat.zero_add] at *
    go_wp2_with (go_at_fn gf; refine (hcf _ (hC1.alloc _)).mono ?_; rintro r w2 ⟨rfl, hC2⟩)
    go_ret
    exact ⟨rfl, (hC1.alloc _).trans hC2⟩
end
end Go.Proofs.YtifcpippfiglkaaGreat

/- zset: place, Rank. -/
namespace Go.Proofs.YtifcpippfiglkaaGreat
open Go.RowKit Pal
attribute [local go_sem] Oper.semAt_some

section
variable {w w' : World} {base : Nat} {z : Zs} {es : List En}
set_option maxRecDepth 100000 in
set_option maxHeartbeats 1000000 in
theorem place_any (gf : Nat) (lb : Array Value) (p : En → Bool) (eg : ∀ args w, (callFunc gf args).run Tryz.prog w = .ok (.enter gf args) w) (h : ZsAt w base z es) (hf : ∀ e ∈ es, ∀ W', Chg (fun _ => False) w W' → Calls Tryz.prog gf (#[e.val] ++ lb) W' fun r W'' => r = .returned (.bool (p e)) ∧ Chg (fun _ => False) W' W'')
    (k : Nat) (hk : k ≤ es.length) (h1 : ∀ t e, es[t]? = some e → t < k → p e = true) (h2 : ∀ t e, es[t]? = some e → k ≤ t → p e = false) : Calls Tryz.prog 40 #[pt z.blk, fnv gf lb] w fun r W' => r = .returned (.int .i64 (k : Int)) ∧ Chg (fun _ => False) w W' := by
  have hn4 := h.ok.n
  have hln := fun W' (hc : Chg (fun _ => False) w W') => z_len (h.chg0 hc)
  have hsr : ∀ (A B : Nat) (W : World), Chg (fun _ => False) w W → Blk W A 27 #[pt z.blk] → Blk W B 86 #[fnv gf lb] → _ := fun A B W hC hA hB =>
    search_any 59 #[pt A, pt B] es.length k (fun t => match es[t]? with | some e => !p e | none => true) W (enters_of Tryz.func59 (by kernel_rfl) rfl) (by omega) hk
      (fun t ht => by rw [List.getElem?_eq_getElem (by omega)]; dsimp only; rw [h1 t _ (List.getElem?_eq_getElem (by omega)) ht]; rfl)
      (fun t ht htn => by rw [List.getElem?_eq_getElem htn]; dsimp only; rw [h2 t _ (List.getElem?_eq_getElem htn) ht]; rfl)
      (fun i W' hi hc => by
        have := place1_any gf lb p eg W' (h.chg0 (hC.trans hc)) (fun e he W'' hc' => hf e he W'' ((hC.trans hc).trans hc')) A B i (hA.chg hc id) (hB.chg hc id) es[i] (List.getElem?_eq_getElem hi)
        rw [List.getElem?_eq_getElem hi]
        exact this)
  unfold fnv pt at *
  clear h1 h2 hf
  go_enter Tryz.func40, Tryz.ntmps40
  go_wp2_with (first | (go_at_call 16; refine (hln _ (((Chg.refl _ w).alloc _).alloc _)).mono ?_; rintro r w1 ⟨rfl, hC1⟩; have hC2 := (((Chg.refl (fun _ => False) w).alloc (.cells #[.pointer (some ⟨z.blk, 0, none⟩)] 27)).alloc (.cells #[.func (.func gf) #[] lb] 86)).trans hC1) | (go_at_call 58; refine (hsr w.heap.size (w.heap.size + 1) _ hC2 (((Blk.new w 27 #[.pointer (some ⟨z.blk, 0, none⟩)]).alloc _).chg hC1 id) ((by have := Blk.new (w.alloc (.cells #[.pointer (some ⟨z.blk, 0, none⟩)] 27)) 86 #[.func (.func gf) #[] lb]; rwa [World.size_alloc] at this : Blk _ (w.heap.size + 1) _ _).chg hC1 id)).mono ?_; rintro r w2 ⟨rfl, hC3⟩))
  go_ret
  exact ⟨rfl, hC2.trans hC3⟩
set_option maxRecDepth 100000 in
set_option maxHeartbeats 1000000 in
theorem rank1_any (e x : En) (A : Nat) (W : World) (hA : Blk W A 54 #[.string x.m, .int .i64 x.s]) : Calls Tryz.prog 41 #[e.val, pt A] W fun r W' => r = .returned (.bool (decide (ltE e x))) ∧ Chg (fun _ => False) W W' := by
  have hless := fun W => less_E e x W
  have a0 := hA.cell 0
  have a1 := hA.cell 1
  have la := hA.lt
  simp only [List.getElem?_toArray, List.getElem?_cons_zero, List.getElem?_cons_succ] at a0 a1
  unfold En.val pt at *
  clear hA
  go_enter Tryz.func41, Tryz.ntmps41
  go_wp2_with (go_at_call 42; refine (hless _).mono ?_; rintro r w1 ⟨rfl, hC⟩)
  go_ret
  exact ⟨rfl, ((Chg.refl _ _).alloc _).trans hC⟩
def rankE (es : List En) (m : ByteArray) : Nat := match lookE es m with | some s => ahead es ⟨m, s⟩ | none => 0
set_option maxRecDepth 100000 in
set_option maxHeartbeats 1000000 in
theorem z_rank (h : ZsAt w base z es) (m : ByteArray) (hm : m.size ≤ 9223372036854775807) : Calls Tryz.prog 26 #[pt z.blk, .string m] w (ZPost base z es z.f.is (some (.tuple #[.int .i64 (rankE es m : Int), .bool (lookE es m).isSome])) w) := by
  have hs := z_score h m hm
  have hz := h.ok
  unfold ZPost at hs
  unfold rankE
  cases hl : lookE es m with
  | none =>
    rw [hl] at hs
    simp only [Option.getD_none, Option.isSome_none] at hs ⊢
    unfold pt at *
    clear hl hm
    go_enter Tryz.func26, Tryz.ntmps26
    go_wp2_with (go_at_call 27; refine hs.mono ?_; rintro r w1 ⟨⟨u, rfl, hu⟩, hC⟩; obtain rfl := hu _ rfl)
    go_ret2
    exact ⟨⟨_, rfl, fun y hy => by injection hy⟩, hC⟩
  | some s =>
    rw [hl] at hs
    have hat := look_at hz hl
    have hk0 := (List.getElem?_eq_some_iff.1 hat).1
    have hpl : ∀ (A : Nat) (z1 : Zs) (W : World), Zx base z z1 es w W → Blk W A 54 #[.string m, .int .i64 s] → _ := fun A z1 W hZ hA =>
      place_any 41 #[pt A] (fun e => decide (ltE e ⟨m, s⟩)) (enters_of Tryz.func41 (by kernel_rfl) rfl) hZ.at_
        (fun e he W' hc => rank1_any e ⟨m, s⟩ A W' (hA.chg hc id)) (ahead es ⟨m, s⟩) (by omega)
        (fun t e he ht => decide_eq_true ((ahead_lt hz.so he).2 ht)) (fun t e he ht => decide_eq_false fun h => by have := (ahead_lt hz.so he).1 h; omega)
    simp only [Option.getD_some, Option.isSome_some] at hs ⊢
    unfold fnv pt at *
    clear hl hm hat
    go_enter Tryz.func26, Tryz.ntmps26
    go_wp2_with (first | (go_at_call 27; refine hs.mono ?_; rintro r w1 ⟨⟨u, rfl, hu⟩, z1, hZ1, hi1⟩; obtain rfl := hu _ rfl) | (go_at_call 40; rw [← hZ1.blk]; refine (hpl w1.heap.size z1 _ (hZ1.trans (Zx.zero hZ1.at_ ((Chg.refl _ w1).alloc _))) (Blk.new w1 54 _)).mono ?_; rintro r w2 ⟨rfl, hC2⟩))
    go_ret2
    have hZ2 := hZ1.trans (Zx.zero hZ1.at_ (((Chg.refl _ w1).alloc (.cells #[.string m, .int .i64 s] 54)).trans hC2))
    exact ⟨⟨_, rfl, fun y hy => by injection hy⟩, _, hZ2, hi1⟩
end
end Go.Proofs.YtifcpippfiglkaaGreat
