/- Texts joined for ZsetWays: LC, ZA, ZS, ZI, LD, ZT, ZU, ZF, ZN. -/
import Derived.Test.YtifcpippfiglkaaGreatJZsetWaysn
import Derived.Deep.RegionHeld3
set_option linter.unusedVariables false
set_option linter.unusedSimpArgs false

/- zset: listed sets: Cut. -/
namespace Go.Proofs.YtifcpippfiglkaaGreat
open Go.RowKit Pal
attribute [local go_sem] Oper.semAt_some

theorem cutR_foot {s : Sk} {f : Nat} : ∀ {m : Nat}, f + m ≤ s.n → ∀ {g}, (s.cutR f m).foot g → s.foot g
  | 0, _, g, hg => by rwa [s.cutR_zero] at hg
  | m + 1, h, g, hg => by
    rw [← s.cutR_succ (by omega)] at hg
    exact cutR_foot (by omega) (cut_foot (by rw [s.cutR_n (by omega)]; omega) hg)
theorem cutR_es (s : Sk) (f m : Nat) : (s.cutR f m).es = cutL s.es f m := by
  unfold Sk.es Sk.cutR cutL; simp [List.map_take, List.map_drop]
theorem ens_items (s : Sk) (i j : Int) : Sn.ens (items s i j) = sub s.es i j := by
  unfold items sub
  rw [s.es_len]
  unfold Sn.ens Sk.es
  simp [List.map_take, List.map_drop]
theorem cut_perm (l : List En) (f m : Nat) : l.Perm ((l.drop f).take m ++ cutL l f m) := by
  unfold cutL
  conv => lhs; rw [← List.take_append_drop f l, ← List.take_append_drop m (l.drop f), List.drop_drop]
  rw [← List.append_assoc, ← List.append_assoc]
  exact List.Perm.append_right _ List.perm_append_comm
theorem lookE_cut {l : List En} (nd : (l.map (·.m)).Nodup) (f m : Nat) (k : ByteArray) : (k ∈ ((l.drop f).take m).map (·.m) → lookE (cutL l f m) k = none) ∧ (k ∉ ((l.drop f).take m).map (·.m) → lookE (cutL l f m) k = lookE l k) := by
  have hp := cut_perm l f m
  have nd2 := (hp.map (·.m)).nodup_iff.1 nd
  rw [List.map_append, List.nodup_append] at nd2
  constructor
  · intro h
    rw [lookE_none]
    exact fun h2 => nd2.2.2 _ h _ h2 rfl
  · intro h
    apply Option.ext
    intro s
    rw [lookE_some nd2.2.1, lookE_some nd, hp.mem_iff, List.mem_append]
    exact ⟨.inr, fun h2 => h2.elim (fun h3 => absurd (List.mem_map.2 ⟨_, h3, rfl⟩) h) id⟩
theorem sub_len (l : List En) (i j : Int) : (sub l i j).length = max (clampN l.length i) (clampN l.length j) - clampN l.length i := by
  have h1 : clampN l.length i ≤ l.length := Nat.min_le_right _ _
  have h2 : clampN l.length j ≤ l.length := Nat.min_le_right _ _
  unfold sub
  rw [List.length_take, List.length_drop]
  omega
theorem sub_sub (l : List En) (i j : Int) : (sub l i j).Sublist l := (List.take_sublist _ _).trans (List.drop_sublist _ _)
theorem Nx.from {d d' : Dint64.Dm} {w0 w1 w2 : World} (hn : Dint64.Nx d d' w1 w2) (hc : Chg (fun _ => False) w0 w1) : Dint64.Nx d d' w0 w2 :=
  ⟨hn.dm, hn.ok, hn.blk, hn.seed, (hc.mono fun _ _ h => h.elim).trans hn.chg, fun g hg => (hn.foot g hg).imp id fun h => Nat.le_trans hc.size h⟩
/-- A dict that some keys have left. -/
structure Dl (d0 d : Dint64.Dm) (w1 W : World) (ks : List ByteArray) : Prop where
  nx : Dint64.Nx d0 d w1 W
  look1 : ∀ k, k ∈ ks → d.look k = none
  look2 : ∀ k, k ∉ ks → d.look k = d0.look k
  n : d.n + ks.length = d0.n
  bz : Dint64.bndZ (Dint64.shape d)
theorem Dl.step {d0 d d' : Dint64.Dm} {w1 W W' : World} {ks : List ByteArray} (h : Dl d0 d w1 W ks) (k : ByteArray) (hn : Dint64.Nx d d' W W') (hl : ∀ x, d'.look x = if x = k then none else d.look x) (hd : d'.n + 1 = d.n) (hz : Dint64.bndZ (Dint64.shape d')) : Dl d0 d' w1 W' (ks ++ [k]) where
  nx := { dm := hn.dm
          ok := hn.ok
          blk := hn.blk.trans h.nx.blk
          seed := hn.seed.trans h.nx.seed
          chg := h.nx.chg.trans' hn.chg fun g hg hf => (h.nx.foot g hf).elim id fun h2 => by omega
          foot := fun g hg => (hn.foot g hg).elim (h.nx.foot g) fun h2 => .inr (Nat.le_trans h.nx.chg.size h2) }
  look1 := fun x hx => by
    rw [hl]
    split
    · rfl
    · rename_i h1
      rcases List.mem_append.1 hx with h2 | h2
      · exact h.look1 x h2
      · exact absurd (List.mem_singleton.1 h2) h1
  look2 := fun x hx => by
    rw [List.mem_append, List.mem_singleton] at hx
    rw [hl, if_neg fun e => hx (.inr e)]
    exact h.look2 x fun h2 => hx (.inl h2)
  n := by rw [List.length_append, List.length_cons, List.length_nil]; have := h.n; omega
  bz := hz
section
variable {w : World} {base : Nat} {x : Ls} {es : List En}
set_option maxRecDepth 100000 in
set_option maxHeartbeats 1000000 in
theorem l_cut (h : LsAt w base x es) (hz : Zok es) (i j : Int) : Calls Tryz.prog 175 #[pt x.blk, .int .i64 i, .int .i64 j] w (LxPost base x (cutL es (clampN es.length i) (max (clampN es.length i) (clampN es.length j) - clampN es.length i)) (some (.int .i64 ((max (clampN es.length i) (clampN es.length j) - clampN es.length i : Nat) : Int))) w) := by
  have hlen : x.s.n = es.length := by rw [← h.eq, x.s.es_len]
  have hn4 := hz.n
  have hrg := fun w (hs : SkAt w base x.s) => range_any x.s i j w base hs (by omega)
  have hcu := fun w (hs : SkAt w base x.s) => cut_any x.s i j w base hs (by omega)
  rw [ens_items, h.eq] at hrg
  rw [hlen] at hcu
  have hsl := sub_len es i j
  have hsb : ∀ e ∈ sub es i j, e ∈ es := fun e he => (sub_sub es i j).mem he
  have hnd : ((sub es i j).map (·.m)).Nodup := ((sub_sub es i j).map _).nodup hz.nd
  have hlc := lookE_cut hz.nd (clampN es.length i) (max (clampN es.length i) (clampN es.length j) - clampN es.length i)
  have hcl := cutL_len (l := es) (f := clampN es.length i) (m := max (clampN es.length i) (clampN es.length j) - clampN es.length i) (by have : clampN es.length i ≤ es.length := Nat.min_le_right _ _; have : clampN es.length j ≤ es.length := Nat.min_le_right _ _; omega)
  have hfm : clampN es.length i + (max (clampN es.length i) (clampN es.length j) - clampN es.length i) ≤ x.s.n := by have : clampN es.length i ≤ es.length := Nat.min_le_right _ _; have : clampN es.length j ≤ es.length := Nat.min_le_right _ _; omega
  change ∀ k, (k ∈ (sub es i j).map (·.m) → _) ∧ (k ∉ (sub es i j).map (·.m) → _) at hlc
  have hle := Lib.hid (sub_sub es i j).length_le
  have hsn : (sub es i j).length ≤ 400 := by have := (sub_sub es i j).length_le; omega
  rw [← hsl] at hcu hlc hcl hfm ⊢
  generalize clampN es.length i = f at *
  generalize sub es i j = l at *
  obtain ⟨c0, c1, l0⟩ := h.cells
  unfold RgPost at hrg
  unfold CutPost at hcu
  have hxd : ∀ g, x.d.foot g → g < w.heap.size := fun g hg => (h.lt (.inr (.inr hg))).2
  have HL := Lib.hid hlen
  have HS := Lib.hid hsl
  have HC := Lib.hid hcl
  clear hlen hsl hcl
  unfold pt at *
  go_enter Tryz.func175, Tryz.ntmps175
  go_wp2_with (go_at_call 177; refine (hrg _ h.sk).mono ?_; rintro r w1 ⟨⟨v, rfl, hv⟩, hC⟩; have hvr := hv; obtain ⟨p, c, rfl, hpc, hpm, hpg⟩ := hv.is)
  have hS1 := h.chg0 hC
  go_loopg [17] l.length (fun k v W => ∃ m : Nat, v = .int .i64 (m : Int) ∧ k = l.length - m ∧ m ≤ l.length ∧ ∃ d, Dl x.d d w1 W ((l.take m).map (·.m)))
  case atStart => exact ⟨0, rfl, rfl, Nat.zero_le _, x.d, ⟨hS1.dm, hS1.ok, rfl, rfl, Chg.refl _ _, fun g hg => .inl hg⟩, fun k hk => (by cases hk), fun k _ => rfl, rfl, h.bz⟩
  case round =>
    obtain ⟨m, rfl, rfl, hm, d, hD⟩ := hrel
    have hb1 : Blk wr x.blk 98 #[pt x.s.blk, pt x.d.blk] := hS1.b.chg hD.nx.chg hS1.b_dm
    obtain ⟨b0, b1, bl⟩ : wr.cell? ⟨x.blk, 0, none⟩ = some (pt x.s.blk) ∧ wr.cell? ⟨x.blk, 1, none⟩ = some (pt x.d.blk) ∧ x.blk < wr.heap.size := ⟨by have := hb1.cell 0; simpa using this, by have := hb1.cell 1; simpa using this, hb1.lt⟩
    have hsk1 : SkAt wr base x.s := hS1.sk.chg hD.nx.chg fun g hg => sk_dm hS1.sk hS1.dm hg
    unfold pt at b0 b1
    by_cases hml : m < l.length
    · have h1 : (m : Int) < (l.length : Int) := by omega
      have hx := List.getElem?_eq_getElem hml
      generalize l[m] = e at hx
      have hee := hsb e (List.mem_of_getElem? hx)
      have hvw := (hvr.chg hD.nx.chg fun g hg hf => by
        have := hxd g hf
        cases p with
        | none => cases hg
        | some a =>
          have h4 := (hpg _ rfl).1
          injection hg with hg
          omega).r.at_ hx
      obtain ⟨gb, o, c2, he2, g1, g2, g3, k0, k1⟩ := hvw
      injection he2 with he2 _ he3
      subst he2
      subst he3
      have hlk : d.look e.m = some (.int .i64 e.s) := by
        rw [hD.look2, h.look, (lookE_some hz.nd).2 (show (⟨e.m, e.s⟩ : En) ∈ es from hee)]
        · rfl
        · intro h3
          rw [List.map_take] at h3
          obtain ⟨q, hq, hq2⟩ := List.getElem_of_mem h3
          rw [List.length_take] at hq
          rw [List.getElem_take] at hq2
          have h4 : (l.map (·.m))[m]'(by simpa using hml) = e.m := by
            rw [List.getElem_map]
            rw [List.getElem?_eq_getElem hml] at hx
            injection hx with hx
            rw [hx]
          have := (List.getElem_inj hnd).1 (hq2.trans h4.symm)
          omega
      have hdn := hD.n
      rw [List.length_map, List.length_take, h.dn, Nat.min_eq_left hm] at hdn
      have hde := fun W (hd : Dint64.DmAt W d) => Dint64.Delete_i d e.m W hd hD.nx.ok (by have := (hz.ok e hee).1; omega) (by omega)
      rw [hlk, hD.nx.blk] at hde
      have HD := Lib.hid hdn
      have hm4 : (m : Int) ≤ 400 := by omega
      have hDA := Lib.hid hD
      have hb2 := Lib.hid hb1
      unfold Dint64.ptr at hde
      unfold maxLen at hpm
      have hlc4 : (l.length : Int) ≤ 400 := by omega
      have HX := Lib.hid hx
      clear hD hb1 hdn hx hrg hcu hsk1
      go_wp2_with fail
      have hbe := Blk.new wr 54 #[.string e.m, .int .i64 e.s]
      have hC1 := (Chg.refl (fun _ => False) wr).alloc (.cells #[.string e.m, .int .i64 e.s] 54)
      have hb3 := hb2.out.chg hC1 id
      have hd3 := hDA.out.nx.dm.chg hC1 fun _ _ => id
      generalize hw2 : wr.alloc (.cells #[.string e.m, .int .i64 e.s] 54) = w2 at hbe hC1 hb3 hd3 ⊢
      have e0 := hbe.cell 0
      have f1 := hb3.cell 1
      have l3 := hb3.lt
      have l4 := hbe.lt
      simp only [List.getElem?_toArray, List.getElem?_cons_zero, List.getElem?_cons_succ] at e0 f1
      unfold pt at f1
      clear hw2 b0 b1 bl k0 k1 g3
      go_still_tail 6, (by kernel_rfl)
      go_wp2_with (go_at_call 180; refine (hde _ (hd3.chg0 (Chg.refl _ _).drew)).mono ?_; rintro r w5 ⟨rfl, d', hn5, hl5, hdn5, hz5⟩)
      go_roundg (l.length - (m + 1))
      case measure => omega
      case rel =>
        refine ⟨m + 1, int_eq (by omega), rfl, by omega, d', ?_⟩
        have ht : (l.take (m + 1)).map (·.m) = (l.take m).map (·.m) ++ [e.m] := by
          have hx := HX.out
          rw [List.take_add_one, hx, List.map_append]; rfl
        rw [ht]
        have hdn := HD.out
        have hle := hle.out
        refine hDA.out.step e.m (Nx.from hn5 (hC1.trans (Chg.refl _ _).drew)) hl5 ?_ ?_
        · have hdn5 : d'.n = d.n - 1 := hdn5
          omega
        · rw [hz5]
          exact Dint64.bz_ite (Dint64.bz_shrink (Dint64.bz_step hDA.out.bz _) (by omega)) (Dint64.bz_step hDA.out.bz _)
    · obtain rfl : m = l.length := by omega
      have h1 : ¬ (l.length : Int) < (l.length : Int) := by omega
      clear hml hm
      go_wp2_with (go_at_call 181; refine (hcu _ hsk1).mono ?_; rintro r w3 ⟨rfl, hsk3, hc3⟩)
      go_ret
      have hs1 := hC.size
      have hD0 := hD.nx.chg
      have hs2 := hD0.size
      have hs3 := hc3.size
      have hdx : ∀ g, x.s.foot g → ¬ d.foot g := fun g hg => sk_dm hsk1 hD.nx.dm hg
      refine ⟨⟨_, rfl, fun y hy => by injection hy⟩, ⟨x.blk, x.s.cutR f l.length, d⟩, ?_, rfl, hD.nx.seed, ?_, ?_⟩
      · refine ⟨?_, hsk3, hD.nx.dm.chg hc3 fun g hg hf => hdx g hf hg, hD.nx.ok, ?_, fun k => ?_, ?_, hD.bz, h.ge.1, fun g hg => ?_⟩
        · have := hb1.chg hc3 (fun hf => hS1.b_sk hf)
          show Blk w3 x.blk _ #[pt x.s.blk, pt d.blk]
          rw [hD.nx.blk]; exact this
        · rw [cutR_es, h.eq]
        · have hlc := hlc k
          have h1 := hD.look1 k
          have h2 := hD.look2 k
          rw [List.take_length] at h1 h2
          show d.look k = _
          by_cases hk : k ∈ l.map (·.m)
          · rw [h1 hk, hlc.1 hk]; rfl
          · rw [h2 hk, hlc.2 hk, h.look]
        · have h1 := hD.n
          rw [List.length_map, List.length_take, Nat.min_self, h.dn] at h1
          show d.n = _
          rw [HC.out]
          omega
        · rcases hD.nx.foot g hg with h2 | h2
          · exact h.ge.2 g h2
          · have := (h.lt (.inl rfl)).1
            have := (h.lt (.inl rfl)).2
            omega
      · exact ((hC.mono fun _ _ h => h.elim).trans' hD0 fun g _ hg => .inr (.inr hg)).trans' hc3 fun g _ hg => .inr (.inl hg)
      · rintro g (hg | hg | hg)
        · exact .inl (.inl hg)
        · exact .inl (.inr (.inl (cutR_foot hfm hg)))
        · exact (hD.nx.foot g hg).imp (fun h => .inr (.inr h)) fun h2 => by omega
end
end Go.Proofs.YtifcpippfiglkaaGreat

/- What is done to a set, in plain words. -/
namespace Go.Proofs.YtifcpippfiglkaaGreat
open Go.RowKit Pal

/-- All but a member. -/
def dropM (l : List En) (m : ByteArray) : List En := l.filter fun e => decide (e.m ≠ m)
theorem filter_id {α : Type} {p : α → Bool} {l : List α} (h : ∀ x ∈ l, p x = true) : l.filter p = l := List.filter_eq_self.2 h
theorem dropM_none {l : List En} {m : ByteArray} (h : lookE l m = none) : dropM l m = l := by
  refine filter_id fun e he => decide_eq_true fun e2 => ?_
  exact lookE_none.1 h (List.mem_map.2 ⟨e, he, e2⟩)
theorem dropM_at {l : List En} (nd : (l.map (·.m)).Nodup) {k : Nat} {e : En} (h : l[k]? = some e) : dropM l e.m = delE l k := by
  have hk := (List.getElem?_eq_some_iff.1 h).1
  have e1 : l = l.take k ++ e :: l.drop (k + 1) := by
    conv => lhs; rw [← List.take_append_drop k l, List.drop_eq_getElem_cons hk]
    rw [List.getElem?_eq_getElem hk] at h
    injection h with h
    rw [h]
  have nd' := ((delE_perm h).map (·.m)).nodup_iff.1 nd
  rw [List.map_cons, List.nodup_cons] at nd'
  have hn : ∀ x ∈ delE l k, x.m ≠ e.m := fun x hx e2 => nd'.1 (by rw [← e2]; exact List.mem_map.2 ⟨x, hx, rfl⟩)
  unfold delE at hn ⊢
  unfold dropM
  conv => lhs; rw [e1]
  rw [List.filter_append, List.filter_cons_of_neg (by simp)]
  rw [filter_id fun x hx => decide_eq_true (hn x (List.mem_append.2 (.inl hx))), filter_id fun x hx => decide_eq_true (hn x (List.mem_append.2 (.inr hx)))]
theorem dropM_some {l : List En} (h : Zok l) {m : ByteArray} {s : Int} (hl : lookE l m = some s) : delE l (ahead l ⟨m, s⟩) = dropM l m := (dropM_at h.nd (look_at h hl)).symm
theorem dropM_sub (l : List En) (m : ByteArray) : (dropM l m).Sublist l := List.filter_sublist
theorem dropM_not (l : List En) (m : ByteArray) : m ∉ (dropM l m).map (·.m) := fun h => by
  obtain ⟨e, he, e2⟩ := List.mem_map.1 h
  exact (of_decide_eq_true (List.mem_filter.1 he).2) e2
theorem dropM_len {l : List En} (h : Zok l) (m : ByteArray) : (dropM l m).length = if (lookE l m).isSome then l.length - 1 else l.length := by
  cases hl : lookE l m with
  | none => rw [dropM_none hl]; rfl
  | some s =>
    rw [← dropM_some h hl]
    show _ = l.length - 1
    have := (delE_perm (look_at h hl)).length_eq
    rw [List.length_cons] at this
    omega
theorem look_pos {l : List En} (h : Zok l) {m : ByteArray} (hl : (lookE l m).isSome) : 0 < l.length := by
  obtain ⟨s, hs⟩ := Option.isSome_iff_exists.1 hl
  exact List.length_pos_of_mem ((lookE_some h.nd).1 hs)
def putE (l : List En) (m : ByteArray) (s : Int) : List En := insE (dropM l m) ⟨m, s⟩
theorem putE_len {l : List En} (h : Zok l) (m : ByteArray) (s : Int) : (putE l m s).length = if (lookE l m).isSome then l.length else l.length + 1 := by
  unfold putE
  rw [(insE_perm _ _).length_eq, List.length_cons, dropM_len h]
  split
  · rename_i h2
    have := look_pos h h2
    omega
  · rfl
theorem putE_ok {l : List En} (h : Zok l) {m : ByteArray} {s : Int} (he : EnOk ⟨m, s⟩) (hl : lookE l m = none → l.length < 400) : Zok (putE l m s) := by
  refine (h.sub (dropM_sub l m)).ins (dropM_not l m) he ?_
  rw [dropM_len h]
  have := h.n
  split
  · rename_i h2
    have := look_pos h h2
    omega
  · rename_i h2
    exact hl (by simpa using h2)
def addNo (l : List En) (m : ByteArray) (lv : Int) : Option Int := if 64 < m.size ∨ lv < 1 ∨ 32 < lv then some 2 else if lookE l m = none ∧ l.length = 400 then some 51 else none
def addR (l : List En) (m : ByteArray) (lv : Int) : Bool × Int := match addNo l m lv with | some e => (false, e) | none => ((lookE l m).isNone, 0)
def addL (l : List En) (m : ByteArray) (s lv : Int) : List En := match addNo l m lv with | some _ => l | none => putE l m s
def addI (l : List En) (m : ByteArray) (s lv : Int) (E M : Nat) (is : Bool) : Bool := match addNo l m lv with | some _ => is | none => is || decide (E < (putE l m s).length ∨ M < m.size)
theorem addNo_none {l : List En} {m : ByteArray} {lv : Int} (h : addNo l m lv = none) : m.size ≤ 64 ∧ 1 ≤ lv ∧ lv ≤ 32 ∧ (lookE l m = none → l.length ≠ 400) := by
  unfold addNo at h
  split at h
  · cases h
  · split at h
    · cases h
    · rename_i h1 h2
      exact ⟨by omega, by omega, by omega, fun h3 h4 => h2 ⟨h3, h4⟩⟩
theorem addL_ok {l : List En} (h : Zok l) {m : ByteArray} {s lv : Int} (hs : -9223372036854775808 ≤ s ∧ s ≤ 9223372036854775807) : Zok (addL l m s lv) := by
  unfold addL
  split
  · exact h
  · rename_i h1
    obtain ⟨h2, _, _, h5⟩ := addNo_none h1
    exact putE_ok h ⟨h2, hs⟩ fun h6 => by have := h5 h6; have := h.n; omega
end Go.Proofs.YtifcpippfiglkaaGreat

/- zset: sets in memory: one of two forms behind an interface. -/
namespace Go.Proofs.YtifcpippfiglkaaGreat
open Go.RowKit Pal

inductive Fm where
  | p (b : Nat)
  | l (x : Ls)
def Fm.v : Fm → Value
  | .p b => .iface 73 (pt b)
  | .l x => .iface 82 (pt x.blk)
def Fm.foot : Fm → Nat → Prop
  | .p b => fun g => g = b
  | .l x => x.foot
def Fm.is : Fm → Bool
  | .p _ => false
  | .l _ => true
def FmAt (w : World) (base : Nat) (f : Fm) (es : List En) : Prop := match f with
  | .p b => PkAt w b es ∧ base ≤ b
  | .l x => LsAt w base x es
structure Zs where
  blk : Nat
  E : Nat
  M : Nat
  seed : Nat
  f : Fm
def Zs.foot (z : Zs) (g : Nat) : Prop := g = z.blk ∨ z.f.foot g
structure ZsAt (w : World) (base : Nat) (z : Zs) (es : List En) : Prop where
  b : Blk w z.blk 79 #[z.f.v, .int .i64 (z.E : Int), .int .i64 (z.M : Int), .int .u32 (z.seed : Int)]
  f : FmAt w base z.f es
  ge : base ≤ z.blk
  ok : Zok es
  lim : z.E ≤ 200 ∧ z.M ≤ 64 ∧ z.seed < 4294967296
section
variable {w w' : World} {base : Nat} {f : Fm} {z : Zs} {es : List En}
theorem ls_ty {x : Ls} (h : LsAt w base x es) {g : Nat} (hg : x.foot g) : ∃ t cs, Blk w g t cs ∧ (t = 98 ∨ t = 134 ∨ t = 132 ∨ t = 138 ∨ t = 158 ∨ t = 160) := by
  rcases hg with rfl | hg | hg
  · exact ⟨_, _, h.b, .inl rfl⟩
  · obtain ⟨t, cs, hb, ht⟩ := sk_ty h.sk hg
    exact ⟨t, cs, hb, by rcases ht with rfl | rfl <;> simp⟩
  · obtain ⟨t, cs, hb, ht⟩ := dm_ty h.dm hg
    exact ⟨t, cs, hb, by rcases ht with rfl | rfl | rfl <;> simp⟩
theorem fm_ty (h : FmAt w base f es) {g : Nat} (hg : f.foot g) : ∃ t cs, Blk w g t cs ∧ (t = 75 ∨ t = 98 ∨ t = 134 ∨ t = 132 ∨ t = 138 ∨ t = 158 ∨ t = 160) := by
  cases f with
  | p b =>
    obtain rfl : g = b := hg
    exact ⟨_, _, h.1.b, .inl rfl⟩
  | l x =>
    obtain ⟨t, cs, hb, ht⟩ := ls_ty h hg
    exact ⟨t, cs, hb, .inr ht⟩
theorem zs_ty (h : ZsAt w base z es) {g : Nat} (hg : z.foot g) : ∃ t cs, Blk w g t cs ∧ (t = 79 ∨ t = 75 ∨ t = 98 ∨ t = 134 ∨ t = 132 ∨ t = 138 ∨ t = 158 ∨ t = 160) := by
  rcases hg with rfl | hg
  · exact ⟨_, _, h.b, .inl rfl⟩
  · obtain ⟨t, cs, hb, ht⟩ := fm_ty h.f hg
    exact ⟨t, cs, hb, .inr ht⟩
theorem FmAt.lt (h : FmAt w base f es) {g : Nat} (hg : f.foot g) : base ≤ g ∧ g < w.heap.size := by
  cases f with
  | p b =>
    obtain rfl : g = b := hg
    exact ⟨h.2, h.1.b.lt⟩
  | l x => exact LsAt.lt h hg
theorem ZsAt.lt (h : ZsAt w base z es) {g : Nat} (hg : z.foot g) : base ≤ g ∧ g < w.heap.size := by
  rcases hg with rfl | hg
  · exact ⟨h.ge, h.b.lt⟩
  · exact h.f.lt hg
theorem FmAt.chg {S : Nat → Prop} (h : FmAt w base f es) (hc : Chg S w w') (hn : ∀ g, f.foot g → ¬ S g) : FmAt w' base f es := by
  cases f with
  | p b => exact ⟨h.1.chg hc (hn _ rfl), h.2⟩
  | l x => exact LsAt.chg h hc hn
theorem ZsAt.b_f (h : ZsAt w base z es) : ¬ z.f.foot z.blk := by
  intro hg
  obtain ⟨t, cs, hb, ht⟩ := fm_ty h.f hg
  refine h.b.ne_type hb ?_ rfl
  rcases ht with rfl | rfl | rfl | rfl | rfl | rfl | rfl <;> decide
theorem ZsAt.chg {S : Nat → Prop} (h : ZsAt w base z es) (hc : Chg S w w') (hn : ∀ g, z.foot g → ¬ S g) : ZsAt w' base z es :=
  { h with b := h.b.chg hc (hn _ (.inl rfl)), f := h.f.chg hc fun g hg => hn _ (.inr hg) }
theorem ZsAt.chg0 (h : ZsAt w base z es) (hc : Chg (fun _ => False) w w') : ZsAt w' base z es := h.chg hc fun _ _ => id
theorem ZsAt.cells (h : ZsAt w base z es) : w.cell? ⟨z.blk, 0, none⟩ = some z.f.v ∧ w.cell? ⟨z.blk, 1, none⟩ = some (.int .i64 (z.E : Int)) ∧ w.cell? ⟨z.blk, 2, none⟩ = some (.int .i64 (z.M : Int)) ∧ w.cell? ⟨z.blk, 3, none⟩ = some (.int .u32 (z.seed : Int)) ∧ z.blk < w.heap.size := by
  have h0 := h.b.cell 0
  have h1 := h.b.cell 1
  have h2 := h.b.cell 2
  have h3 := h.b.cell 3
  exact ⟨by simpa using h0, by simpa using h1, by simpa using h2, by simpa using h3, h.b.lt⟩
theorem PkAt.zlen {b : Nat} (h : PkAt w b es) : es.length ≤ 200 := h.ok.len
end
/-- What a step has made of a form, of a set. -/
structure Fx (base : Nat) (f f' : Fm) (es' : List En) (w w' : World) : Prop where
  at_ : FmAt w' base f' es'
  v : f'.v = f.v
  chg : Chg f.foot w w'
  foot : ∀ g, f'.foot g → f.foot g ∨ w.heap.size ≤ g
structure Zx (base : Nat) (z z' : Zs) (es' : List En) (w w' : World) : Prop where
  at_ : ZsAt w' base z' es'
  blk : z'.blk = z.blk
  E : z'.E = z.E
  M : z'.M = z.M
  seed : z'.seed = z.seed
  chg : Chg z.foot w w'
  foot : ∀ g, z'.foot g → z.foot g ∨ w.heap.size ≤ g
section
variable {w w' : World} {base : Nat} {z : Zs} {es es' : List En}
theorem Fm.is_of {f f' : Fm} (h : f'.v = f.v) : f'.is = f.is := by
  cases f <;> cases f' <;> first | rfl | (unfold Fm.v at h; injection h with h1 h2; exact absurd h1 (by decide))
theorem ZsAt.form (h : ZsAt w base z es) {f' : Fm} (hx : Fx base z.f f' es' w w') (hz : Zok es') : Zx base z { z with f := f' } es' w w' where
  at_ := { b := by
             have := h.b.chg hx.chg h.b_f
             show Blk w' z.blk _ #[f'.v, _, _, _]
             rw [hx.v]; exact this
           f := hx.at_
           ge := h.ge
           ok := hz
           lim := h.lim }
  blk := rfl
  E := rfl
  M := rfl
  seed := rfl
  chg := hx.chg.mono fun g _ hg => .inr hg
  foot := fun g hg => hg.elim (fun e => .inl (.inl e)) fun hg => (hx.foot g hg).imp .inr id
theorem LxPost.fx {x : Ls} {v : Option Value} {r : Ending} (h : LxPost base x es' v w r w') : (∃ u, r = .returned u ∧ ∀ y, v = some y → u = y) ∧ ∃ f', Fx base (.l x) f' es' w w' := by
  obtain ⟨h1, x', h2⟩ := h
  exact ⟨h1, .l x', h2.at_, by show Value.iface _ (pt x'.blk) = Value.iface _ (pt x.blk); rw [h2.blk], h2.chg, h2.foot⟩
theorem pk_fx {b : Nat} (h : PkAt w' b es') (hb : base ≤ b) (hc : Chg (fun g => g = b) w w') : ∃ f', Fx base (.p b) f' es' w w' := ⟨.p b, ⟨h, hb⟩, rfl, hc, fun g hg => .inl hg⟩
theorem Zx.refl (h : ZsAt w base z es) : Zx base z z es w w := ⟨h, rfl, rfl, rfl, rfl, Chg.refl _ _, fun _ => .inl⟩
theorem Zx.zero (h : ZsAt w base z es) (hc : Chg (fun _ => False) w w') : Zx base z z es w w' := ⟨h.chg0 hc, rfl, rfl, rfl, rfl, hc.mono fun _ _ h => h.elim, fun _ => .inl⟩
theorem Zx.trans {z' z'' : Zs} {es'' : List En} {w'' : World} (h : Zx base z z' es' w w') (k : Zx base z' z'' es'' w' w'') : Zx base z z'' es'' w w'' :=
  ⟨k.at_, k.blk.trans h.blk, k.E.trans h.E, k.M.trans h.M, k.seed.trans h.seed, h.chg.trans' k.chg fun g hg hf => (h.foot g hf).elim id fun h2 => by omega,
    fun g hg => (k.foot g hg).elim (h.foot g) fun h2 => .inr (Nat.le_trans h.chg.size h2)⟩
end
end Go.Proofs.YtifcpippfiglkaaGreat

/- zset: which method an interface's call comes to. -/
namespace Go.Proofs.YtifcpippfiglkaaGreat
open Go.RowKit Pal

theorem mp_len (w : World) (b : Nat) : (method 366 73 (.pointer (some ⟨b, 0, none⟩)) "Len").run Tryz.prog w = .ok (149, .pointer (some ⟨b, 0, none⟩)) w := by kernel_rfl
theorem mp_range (w : World) (b : Nat) : (method 366 73 (.pointer (some ⟨b, 0, none⟩)) "Range").run Tryz.prog w = .ok (150, .pointer (some ⟨b, 0, none⟩)) w := by kernel_rfl
theorem mp_cut (w : World) (b : Nat) : (method 366 73 (.pointer (some ⟨b, 0, none⟩)) "Cut").run Tryz.prog w = .ok (148, .pointer (some ⟨b, 0, none⟩)) w := by kernel_rfl
theorem mp_score (w : World) (b : Nat) : (method 366 73 (.pointer (some ⟨b, 0, none⟩)) "palio/zset.score").run Tryz.prog w = .ok (154, .pointer (some ⟨b, 0, none⟩)) w := by kernel_rfl
theorem mp_put (w : World) (b : Nat) : (method 366 73 (.pointer (some ⟨b, 0, none⟩)) "palio/zset.put").run Tryz.prog w = .ok (153, .pointer (some ⟨b, 0, none⟩)) w := by kernel_rfl
theorem mp_drop (w : World) (b : Nat) : (method 366 73 (.pointer (some ⟨b, 0, none⟩)) "palio/zset.drop").run Tryz.prog w = .ok (152, .pointer (some ⟨b, 0, none⟩)) w := by kernel_rfl
theorem mp_bytes (w : World) (b : Nat) : (method 366 73 (.pointer (some ⟨b, 0, none⟩)) "palio/zset.bytes").run Tryz.prog w = .ok (151, .pointer (some ⟨b, 0, none⟩)) w := by kernel_rfl
theorem ml_cut (w : World) (b : Nat) : (method 366 82 (.pointer (some ⟨b, 0, none⟩)) "Cut").run Tryz.prog w = .ok (175, .pointer (some ⟨b, 0, none⟩)) w := by kernel_rfl
theorem ml_score (w : World) (b : Nat) : (method 366 82 (.pointer (some ⟨b, 0, none⟩)) "palio/zset.score").run Tryz.prog w = .ok (51, .pointer (some ⟨b, 0, none⟩)) w := by kernel_rfl
theorem ml_put (w : World) (b : Nat) : (method 366 82 (.pointer (some ⟨b, 0, none⟩)) "palio/zset.put").run Tryz.prog w = .ok (55, .pointer (some ⟨b, 0, none⟩)) w := by kernel_rfl
theorem ml_drop (w : World) (b : Nat) : (method 366 82 (.pointer (some ⟨b, 0, none⟩)) "palio/zset.drop").run Tryz.prog w = .ok (179, .pointer (some ⟨b, 0, none⟩)) w := by kernel_rfl
theorem ml_bytes (w : World) (b : Nat) : (method 366 82 (.pointer (some ⟨b, 0, none⟩)) "palio/zset.bytes").run Tryz.prog w = .ok (178, .pointer (some ⟨b, 0, none⟩)) w := by kernel_rfl
theorem ta_pp (w : World) (b : Nat) : (Instr.typeAssert (.iface 73 (.pointer (some ⟨b, 0, none⟩))) 77 73 true).run Tryz.prog w = .ok (.tuple #[.pointer (some ⟨b, 0, none⟩), .bool true]) w := by kernel_rfl
theorem ta_pl (w : World) (b : Nat) : (Instr.typeAssert (.iface 73 (.pointer (some ⟨b, 0, none⟩))) 77 82 true).run Tryz.prog w = .ok (.tuple #[.pointer none, .bool false]) w := by kernel_rfl
theorem ta_lp (w : World) (b : Nat) : (Instr.typeAssert (.iface 82 (.pointer (some ⟨b, 0, none⟩))) 77 73 true).run Tryz.prog w = .ok (.tuple #[.pointer none, .bool false]) w := by kernel_rfl
theorem ta_ll (w : World) (b : Nat) : (Instr.typeAssert (.iface 82 (.pointer (some ⟨b, 0, none⟩))) 77 82 true).run Tryz.prog w = .ok (.tuple #[.pointer (some ⟨b, 0, none⟩), .bool true]) w := by kernel_rfl
theorem ml_via1 (w : World) (b : Nat) : (method 366 82 (.pointer (some ⟨b, 0, none⟩)) "Len").run Tryz.prog w = (match w.cell? ⟨b, 0, none⟩ with
    | some v => .ok (176, v) w
    | none => match w.farLoad Tryz.prog ⟨b, 0, none⟩ false with
      | .ok (v, _) => .ok (176, v) w
      | .error h => .halt h w) := by kernel_rfl
theorem ml_via2 (w : World) (b : Nat) : (method 366 82 (.pointer (some ⟨b, 0, none⟩)) "Range").run Tryz.prog w = (match w.cell? ⟨b, 0, none⟩ with
    | some v => .ok (177, v) w
    | none => match w.farLoad Tryz.prog ⟨b, 0, none⟩ false with
      | .ok (v, _) => .ok (177, v) w
      | .error h => .halt h w) := by kernel_rfl
theorem ml_len (w : World) (b : Nat) (v : Value) (hc : w.cell? ⟨b, 0, none⟩ = some v) : (method 366 82 (.pointer (some ⟨b, 0, none⟩)) "Len").run Tryz.prog w = .ok (176, v) w := by
  rw [ml_via1 w b, hc]
theorem ml_range (w : World) (b : Nat) (v : Value) (hc : w.cell? ⟨b, 0, none⟩ = some v) : (method 366 82 (.pointer (some ⟨b, 0, none⟩)) "Range").run Tryz.prog w = .ok (177, v) w := by
  rw [ml_via2 w b, hc]
end Go.Proofs.YtifcpippfiglkaaGreat

/- zset: listed sets: bytes. -/
namespace Go.Proofs.YtifcpippfiglkaaGreat
open Go.RowKit Pal
attribute [local go_sem] Oper.semAt_some

def sumM (l : List En) : Nat := (l.map (·.m.size)).sum
theorem sumM_take {l : List En} {i : Nat} {e : En} (h : l[i]? = some e) : sumM (l.take (i + 1)) = sumM (l.take i) + e.m.size := by
  unfold sumM
  rw [List.take_add_one, h, List.map_append, List.sum_append]; simp
theorem sumM_le {l : List En} (h : ∀ e ∈ l, e.m.size ≤ 64) : sumM l ≤ l.length * 64 := by
  unfold sumM
  induction l with
  | nil => exact Nat.zero_le _
  | cons e l ih =>
    rw [List.map_cons, List.sum_cons, List.length_cons]
    have := h e List.mem_cons_self
    have := ih fun x hx => h x (List.mem_cons_of_mem _ hx)
    omega
theorem clampN_all (n : Nat) : clampN n (n : Int) = n := by unfold clampN; omega
theorem clampN_zero (n : Nat) : clampN n 0 = 0 := by unfold clampN; omega
theorem sub_all (l : List En) : sub l 0 (l.length : Int) = l := by
  unfold sub
  rw [clampN_zero, clampN_all, List.drop_zero]
  exact List.take_of_length_le (by omega)
section
variable {w : World} {base : Nat} {x : Ls} {es : List En}
set_option maxRecDepth 100000 in
set_option maxHeartbeats 1000000 in
theorem msizes_any (v : Value) (l : List En) (w : World) (h : EntsR w v l) (hl : l.length ≤ 400) (hm : ∀ e ∈ l, e.m.size ≤ 64) : Calls Tryz.prog 183 #[v] w fun r w' => r = .returned (.int .i64 (sumM l : Int)) ∧ Chg (fun _ => False) w w' := by
  have h0 := h
  obtain ⟨p, c, rfl, h1, h2, _⟩ := h
  go_enter Tryz.func183, Tryz.ntmps183
  go_wp2_with fail
  go_loopg [3, 8] l.length (fun k a v W => ∃ i : Nat, v = .int .i64 (i : Int) ∧ a = .int .i64 (sumM (l.take i) : Int) ∧ k = l.length - i ∧ i ≤ l.length ∧ Chg (fun _ => False) w W)
  case atStart => exact ⟨0, rfl, rfl, rfl, Nat.zero_le _, Chg.refl _ _⟩
  case round =>
    obtain ⟨i, rfl, rfl, rfl, hi, hC⟩ := hrel
    have hbd := sumM_le (l := l.take i) fun e he => hm e (List.mem_of_mem_take he)
    rw [List.length_take, Nat.min_eq_left hi] at hbd
    by_cases hil : i < l.length
    · have h3 : (i : Int) < (l.length : Int) := by omega
      have hx := List.getElem?_eq_getElem hil
      generalize l[i] = e at hx
      have hst := Lib.hid (sumM_take hx)
      have hem := hm e (List.mem_of_getElem? hx)
      obtain ⟨b, o, c', he, k1, k2, k3, d0, d1⟩ := (h0.chg0 hC).at_ hx
      injection he with he1 he2 he3
      subst he1
      subst he3
      have hil2 : (l.length : Int) ≤ 400 := by omega
      have b1 : (sumM (l.take i) : Int) ≤ 25600 := by omega
      have b2 : (e.m.size : Int) ≤ 64 := by omega
      generalize sumM (l.take i) = S at *
      clear hx he2
      go_wp2_with fail
      go_roundg (l.length - (i + 1))
      case rel => exact ⟨i + 1, int_eq (by omega), int_eq (by rw [hst.out]; omega), rfl, by omega, hC.alloc _⟩
      case measure => omega
    · obtain rfl : i = l.length := by omega
      have h3 : ¬ (l.length : Int) < (l.length : Int) := by omega
      rw [List.take_length]
      go_wp2_with fail
      go_ret
      exact ⟨rfl, hC⟩
set_option maxRecDepth 100000 in
set_option maxHeartbeats 1000000 in
theorem l_bytes (h : LsAt w base x es) (hz : Zok es) : Calls Tryz.prog 178 #[pt x.blk] w fun r w' => r = .returned (.int .i64 ((64 * es.length + 2 * sumM es : Nat) : Int)) ∧ Chg (fun _ => False) w w' := by
  have hlen : x.s.n = es.length := by rw [← h.eq, x.s.es_len]
  have hn4 := hz.n
  have hle := fun w (hs : SkAt w base x.s) => len_any x.s w base hs
  have hrg := fun w (hs : SkAt w base x.s) => range_any x.s 0 (es.length : Int) w base hs (by omega)
  rw [ens_items, h.eq, sub_all] at hrg
  rw [hlen] at hle
  have hbd := sumM_le (l := es) fun e he => (hz.ok e he).1
  have hsz := fun v w (hv : EntsR w v es) => msizes_any v es w hv (by omega) fun e he => (hz.ok e he).1
  have hgen : ∀ W', Chg (fun _ => False) w W' → W'.cell? ⟨x.blk, 0, none⟩ = some (pt x.s.blk) := fun W' hc => (h.chg0 hc).cells.1
  have hsk : ∀ W', Chg (fun _ => False) w W' → SkAt W' base x.s := fun W' hc => (h.chg0 hc).sk
  obtain ⟨c0, _, l0⟩ := h.cells
  have b1 : (sumM es : Int) ≤ 25600 := by omega
  have b2 : (es.length : Int) ≤ 400 := by omega
  unfold RgPost at hrg
  clear hlen hbd
  generalize sumM es = S at *
  have n1 : IntKind.i64.wrap (64 * (es.length : Int)) = 64 * (es.length : Int) := IntWalk.i64_in _ (by omega)
  have n2 : IntKind.i64.wrap (2 * (S : Int)) = 2 * (S : Int) := IntWalk.i64_in _ (by omega)
  have n3 : IntKind.i64.wrap (64 * (es.length : Int) + 2 * (S : Int)) = 64 * (es.length : Int) + 2 * (S : Int) := IntWalk.i64_in _ (by omega)
  unfold pt at *
  go_enter Tryz.func178, Tryz.ntmps178
  go_wp2_with fail
  go_region_held3 (fun W' => W'.cell? ⟨x.blk, 0, none⟩ = some (.pointer (some ⟨x.s.blk, 0, none⟩))) (first | exact hgen _ (Chg.refl _ _).drew | exact hgen _ hc5 | exact hgen _ hc6 | fail) (first | (go_at_call 176; refine (hle _ (hsk _ (by first | exact (Chg.refl _ _).drew | exact hc6 | exact hc5))).mono ?_; rintro r w' ⟨rfl, rfl⟩) | (go_at_call 177; refine (hrg _ (hsk _ (Chg.refl _ _).drew)).mono ?_; rintro r w5 ⟨⟨v, rfl, hv⟩, hC⟩; have hc5 : Chg (fun _ => False) w w5 := (Chg.refl _ _).drew.trans hC) | (go_at_call 183; refine (hsz _ _ hv.r).mono ?_; rintro r w6 ⟨rfl, hC6⟩; have hc6 : Chg (fun _ => False) w w6 := hc5.trans hC6) | fail)
  all_goals
    go_wp2_with fail
    go_ret
    exact ⟨ret_int' (by omega), hc6⟩
end
end Go.Proofs.YtifcpippfiglkaaGreat

/- zset: what sets tell. -/
namespace Go.Proofs.YtifcpippfiglkaaGreat
open Go.RowKit Pal
attribute [local go_sem] Oper.semAt_some
def bytesZ (es : List En) (is : Bool) : Nat := if is then 64 * es.length + 2 * sumM es else 2 + 10 * es.length + sumM es
theorem encs_len (l : List En) : (encs l).length = 10 * l.length + sumM l := by
  unfold encs sumM
  induction l with
  | nil => rfl
  | cons e l ih => rw [List.flatMap_cons, List.length_append, ih, encE_len, List.length_cons, List.map_cons, List.sum_cons]; omega
section
variable {w : World} {base : Nat} {z : Zs} {es : List En}
set_option maxRecDepth 100000 in
theorem z_len (h : ZsAt w base z es) : Calls Tryz.prog 16 #[pt z.blk] w fun r w' => r = .returned (.int .i64 (es.length : Int)) ∧ Chg (fun _ => False) w w' := by
  obtain ⟨c0, _, _, _, l0⟩ := h.cells
  obtain ⟨zb, E, M, sd, f⟩ := z
  cases f with
  | p b =>
    obtain ⟨hp, _⟩ := h.f
    have hl := p_len hp
    have hm := fun w => mp_len w b
    unfold Fm.v pt at *
    go_enter Tryz.func16, Tryz.ntmps16
    go_wp2_with (go_at_call 149; refine hl.mono ?_; rintro r w1 ⟨rfl, hC⟩)
    go_ret
    exact ⟨rfl, hC⟩
  | l x =>
    have hp : LsAt w base x es := h.f
    have hl := len_any x.s w base hp.sk
    obtain ⟨d0, d1, dl⟩ := hp.cells
    have hm := ml_len w x.blk _ d0
    rw [← x.s.es_len, hp.eq] at hl
    unfold Fm.v pt at *
    go_enter Tryz.func16, Tryz.ntmps16
    go_wp2_with (go_at_call 176; refine hl.mono ?_; rintro r w1 ⟨rfl, rfl⟩)
    go_ret
    exact ⟨rfl, Chg.refl _ _⟩
set_option maxRecDepth 100000 in
theorem z_range (h : ZsAt w base z es) (i j : Int) : Calls Tryz.prog 20 #[pt z.blk, .int .i64 i, .int .i64 j] w (RgPost w (sub es i j)) := by
  obtain ⟨c0, _, _, _, l0⟩ := h.cells
  have hn4 := h.ok.n
  obtain ⟨zb, E, M, sd, f⟩ := z
  cases f with
  | p b =>
    obtain ⟨hp, _⟩ := h.f
    have hl := p_range hp i j
    have hm := fun w => mp_range w b
    unfold Fm.v pt at *
    go_enter Tryz.func20, Tryz.ntmps20
    go_wp2_with (go_at_call 150; refine hl.mono ?_; rintro r w1 ⟨⟨v, rfl, hv⟩, hC⟩)
    go_ret
    exact ⟨⟨_, rfl, hv⟩, hC⟩
  | l x =>
    have hp : LsAt w base x es := h.f
    have hlen : x.s.n = es.length := by rw [← hp.eq, x.s.es_len]
    have hl := range_any x.s i j w base hp.sk (by omega)
    rw [ens_items, hp.eq] at hl
    obtain ⟨d0, d1, dl⟩ := hp.cells
    have hm := ml_range w x.blk _ d0
    clear hlen
    unfold Fm.v pt at *
    go_enter Tryz.func20, Tryz.ntmps20
    go_wp2_with (go_at_call 177; refine hl.mono ?_; rintro r w1 ⟨⟨v, rfl, hv⟩, hC⟩)
    go_ret
    exact ⟨⟨_, rfl, hv⟩, hC⟩
set_option maxRecDepth 100000 in
theorem z_encoding (h : ZsAt w base z es) : Calls Tryz.prog 15 #[pt z.blk] w fun r w' => r = .returned (.string (if z.f.is then ⟨#[115, 107, 105, 112, 108, 105, 115, 116]⟩ else ⟨#[108, 105, 115, 116, 112, 97, 99, 107]⟩)) ∧ w = w' := by
  obtain ⟨c0, _, _, _, l0⟩ := h.cells
  obtain ⟨zb, E, M, sd, f⟩ := z
  cases f with
  | p b =>
    have hm := fun w => ta_pl w b
    unfold Fm.v pt at *
    go_enter Tryz.func15, Tryz.ntmps15
    go_wp2_with fail
    go_ret
    exact ⟨rfl, rfl⟩
  | l x =>
    have hm := fun w => ta_ll w x.blk
    unfold Fm.v pt at *
    go_enter Tryz.func15, Tryz.ntmps15
    go_wp2_with fail
    go_ret
    exact ⟨rfl, rfl⟩
set_option maxRecDepth 100000 in
theorem z_bytes (h : ZsAt w base z es) : Calls Tryz.prog 23 #[pt z.blk] w fun r w' => r = .returned (.int .i64 (bytesZ es z.f.is : Int)) ∧ Chg (fun _ => False) w w' := by
  obtain ⟨c0, _, _, _, l0⟩ := h.cells
  have hz := h.ok
  obtain ⟨zb, E, M, sd, f⟩ := z
  cases f with
  | p b =>
    obtain ⟨hp, _⟩ := h.f
    have hl := p_bytes hp
    rw [pk_size, encs_len, ← Nat.add_assoc] at hl
    have hm := fun w => mp_bytes w b
    unfold Fm.v pt at *
    go_enter Tryz.func23, Tryz.ntmps23
    go_wp2_with (go_at_call 151; refine hl.mono ?_; rintro r w1 ⟨rfl, rfl⟩)
    go_ret
    exact ⟨rfl, Chg.refl _ _⟩
  | l x =>
    have hp : LsAt w base x es := h.f
    have hl := l_bytes hp hz
    have hm := fun w => ml_bytes w x.blk
    unfold Fm.v pt at *
    go_enter Tryz.func23, Tryz.ntmps23
    go_wp2_with (go_at_call 178; refine hl.mono ?_; rintro r w1 ⟨rfl, hC⟩)
    go_ret
    exact ⟨rfl, hC⟩
end
end Go.Proofs.YtifcpippfiglkaaGreat

/- zset: Score, Remove, Cut. -/
namespace Go.Proofs.YtifcpippfiglkaaGreat
open Go.RowKit Pal
attribute [local go_sem] Oper.semAt_some

/-- What a step tells and makes of a set. -/
def ZPost (base : Nat) (z : Zs) (es' : List En) (is : Bool) (v : Option Value) (w : World) (r : Ending) (w' : World) : Prop := (∃ u, r = .returned u ∧ ∀ y, v = some y → u = y) ∧ ∃ z', Zx base z z' es' w w' ∧ z'.f.is = is
theorem Zok.cut {l : List En} (h : Zok l) (f m : Nat) : Zok (cutL l f m) := h.sub (cutL_sub l f m)
section
variable {w w' : World} {base : Nat} {z : Zs} {es : List En}
theorem zfoot_f (z : Zs) {g : Nat} (hg : z.f.foot g) : z.foot g := .inr hg
/-- A form's step, as a set's. -/
theorem ZsAt.step (h : ZsAt w base z es) {es' : List En} {u : Value} {v : Option Value} (hx : ∃ f', Fx base z.f f' es' w w') (hz : Zok es') (hv : ∀ y, v = some y → u = y) : ZPost base z es' z.f.is v w (.returned u) w' := by
  obtain ⟨f', hx⟩ := hx
  exact ⟨⟨u, rfl, hv⟩, _, h.form hx hz, Fm.is_of hx.v⟩
theorem look_ok (h : Zok es) {m : ByteArray} {s : Int} (hl : lookE es m = some s) : EnOk ⟨m, s⟩ ∧ (⟨m, s⟩ : En) ∈ es := by
  have := (lookE_some h.nd).1 hl
  exact ⟨h.ok _ this, this⟩
set_option maxRecDepth 100000 in
set_option maxHeartbeats 1000000 in
theorem z_score (h : ZsAt w base z es) (m : ByteArray) (hm : m.size ≤ 9223372036854775807) : Calls Tryz.prog 27 #[pt z.blk, .string m] w (ZPost base z es z.f.is (some (.tuple #[.int .i64 ((lookE es m).getD 0), .bool (lookE es m).isSome])) w) := by
  obtain ⟨c0, _, _, _, l0⟩ := h.cells
  have hz := h.ok
  have hfin := Lib.hid (fun w' u v => h.step (w' := w') (es' := es) (u := u) (v := v))
  obtain ⟨zb, E, M, sd, f⟩ := z
  cases f with
  | p b =>
    obtain ⟨hp, hb⟩ := h.f
    have hl := p_score hp m
    have hk := fun w => mp_score w b
    unfold Fm.v pt at *
    clear h hm
    go_enter Tryz.func27, Tryz.ntmps27
    go_wp2_with (go_at_call 154; refine hl.mono ?_; rintro r w1 ⟨rfl, hC⟩)
    go_ret2
    exact hfin.out w1 _ _ (pk_fx (hp.chg hC id) hb (hC.mono fun _ _ h => h.elim)) hz fun y hy => by injection hy
  | l x =>
    have hp : LsAt w base x es := h.f
    have hl := l_score hp m hm
    have hk := fun w => ml_score w x.blk
    unfold LxPost at hl
    unfold Fm.v pt at *
    clear h hm
    go_enter Tryz.func27, Tryz.ntmps27
    go_wp2_with (go_at_call 51; refine hl.mono ?_; rintro r w1 ⟨⟨u, rfl, hu⟩, hC⟩; obtain rfl := hu _ rfl)
    go_ret2
    obtain ⟨x', hx⟩ := hC
    exact hfin.out w1 _ _ ⟨.l x', hx.at_, by show Value.iface _ (pt x'.blk) = Value.iface _ (pt x.blk); rw [hx.blk], hx.chg, hx.foot⟩ hz fun y hy => by injection hy
set_option maxRecDepth 100000 in
set_option maxHeartbeats 1000000 in
theorem z_cut (h : ZsAt w base z es) (i j : Int) : Calls Tryz.prog 28 #[pt z.blk, .int .i64 i, .int .i64 j] w (ZPost base z (cutL es (clampN es.length i) (max (clampN es.length i) (clampN es.length j) - clampN es.length i)) z.f.is (some (.int .i64 ((max (clampN es.length i) (clampN es.length j) - clampN es.length i : Nat) : Int))) w) := by
  obtain ⟨c0, _, _, _, l0⟩ := h.cells
  have hz := h.ok
  have hfin := Lib.hid (fun w' u v => h.step (w' := w') (es' := cutL es (clampN es.length i) (max (clampN es.length i) (clampN es.length j) - clampN es.length i)) (u := u) (v := v))
  have hzc := hz.cut (clampN es.length i) (max (clampN es.length i) (clampN es.length j) - clampN es.length i)
  obtain ⟨zb, E, M, sd, f⟩ := z
  cases f with
  | p b =>
    obtain ⟨hp, hb⟩ := h.f
    have hl := p_cut hp i j
    have hk := fun w => mp_cut w b
    generalize clampN es.length i = f at *
    generalize max f (clampN es.length j) - f = n at *
    unfold Fm.v pt at *
    clear h hz
    go_enter Tryz.func28, Tryz.ntmps28
    go_wp2_with (go_at_call 148; refine hl.mono ?_; rintro r w1 ⟨rfl, hP, hC⟩)
    go_ret
    exact hfin.out w1 _ _ (pk_fx hP hb hC) hzc fun y hy => by injection hy
  | l x =>
    have hp : LsAt w base x es := h.f
    have hl := l_cut hp hz i j
    have hk := fun w => ml_cut w x.blk
    unfold LxPost at hl
    generalize clampN es.length i = f at *
    generalize max f (clampN es.length j) - f = n at *
    unfold Fm.v pt at *
    clear h hz
    go_enter Tryz.func28, Tryz.ntmps28
    go_wp2_with (go_at_call 175; refine hl.mono ?_; rintro r w1 ⟨⟨u, rfl, hu⟩, hC⟩; obtain rfl := hu _ rfl)
    go_ret
    obtain ⟨x', hx⟩ := hC
    exact hfin.out w1 _ _ ⟨.l x', hx.at_, by show Value.iface _ (pt x'.blk) = Value.iface _ (pt x.blk); rw [hx.blk], hx.chg, hx.foot⟩ hzc fun y hy => by injection hy
end
end Go.Proofs.YtifcpippfiglkaaGreat

/- zset: what a form's methods do, whichever it is. -/
namespace Go.Proofs.YtifcpippfiglkaaGreat
open Go.RowKit Pal
attribute [local go_sem] Oper.semAt_some

/-- A method of a form that is called through the interface. -/
structure FCall (f : Fm) (nm : String) (args : List Value) (w : World) (Q : Ending → World → Prop) (T : TypeId) (v : Value) (fid : Nat) (rc : Value) : Prop where
  fv : f.v = .iface T v
  en : ∀ args w, (callFunc fid args).run Tryz.prog w = .ok (.enter fid args) w
  me : (method 366 T v nm).run Tryz.prog w = .ok (fid, rc) w
  call : Calls Tryz.prog fid (rc :: args).toArray w Q
section
variable {w w' : World} {base : Nat} {f : Fm} {es : List En}
set_option maxRecDepth 100000 in
theorem f_len (h : FmAt w base f es) : ∃ T v fid rc, FCall f "Len" [] w (fun r w' => r = .returned (.int .i64 (es.length : Int)) ∧ Chg (fun _ => False) w w') T v fid rc := by
  cases f with
  | p b => exact ⟨_, _, _, _, rfl, enters_of Tryz.func149 (by kernel_rfl) rfl, mp_len w b, p_len h.1⟩
  | l x =>
    have hp : LsAt w base x es := h
    have hl := len_any x.s w base hp.sk
    rw [← x.s.es_len, hp.eq] at hl
    exact ⟨_, _, _, _, rfl, enters_of Tryz.func176 (by kernel_rfl) rfl, ml_len w x.blk _ hp.cells.1, hl.mono fun r w' ⟨h1, h2⟩ => ⟨h1, h2 ▸ Chg.refl _ _⟩⟩
theorem lx_fx {x : Ls} {es' : List En} {v : Option Value} {r : Ending} (h : LxPost base x es' v w r w') : (∃ u, r = .returned u ∧ ∀ y, v = some y → u = y) ∧ ∃ f', Fx base (.l x) f' es' w w' := LxPost.fx h
set_option maxRecDepth 100000 in
theorem f_score (h : FmAt w base f es) (m : ByteArray) (hm : m.size ≤ 9223372036854775807) : ∃ T v fid rc, FCall f "palio/zset.score" [.string m] w (fun r w' => (r = .returned (.tuple #[.int .i64 ((lookE es m).getD 0), .bool (lookE es m).isSome])) ∧ ∃ f', Fx base f f' es w w') T v fid rc := by
  cases f with
  | p b => exact ⟨_, _, _, _, rfl, enters_of Tryz.func154 (by kernel_rfl) rfl, mp_score w b, (p_score h.1 m).mono fun r w' ⟨h1, h2⟩ => ⟨h1, pk_fx (h.1.chg h2 id) h.2 (h2.mono fun _ _ h => h.elim)⟩⟩
  | l x => exact ⟨_, _, _, _, rfl, enters_of Tryz.func51 (by kernel_rfl) rfl, ml_score w x.blk, (l_score h m hm).mono fun r w' h => by
      obtain ⟨⟨u, rfl, hu⟩, h2⟩ := lx_fx h
      obtain rfl := hu _ rfl
      exact ⟨rfl, h2⟩⟩
set_option maxRecDepth 100000 in
theorem f_drop (h : FmAt w base f es) (hz : Zok es) (e : En) (he : e ∈ es) : ∃ T v fid rc, FCall f "palio/zset.drop" [e.val] w (fun r w' => (∃ u, r = .returned u) ∧ ∃ f', Fx base f f' (delE es (ahead es e)) w w') T v fid rc := by
  cases f with
  | p b =>
    have hl := (lookE_some hz.nd).2 (show (⟨e.m, e.s⟩ : En) ∈ es from he)
    have hk := (List.getElem?_eq_some_iff.1 (look_at hz hl)).1
    exact ⟨_, _, _, _, rfl, enters_of Tryz.func152 (by kernel_rfl) rfl, mp_drop w b, (p_drop h.1 e (ahead es e) hk (findI_at hz hl)).mono fun r w' ⟨h1, h2, h3⟩ => ⟨h1, pk_fx h2 h.2 h3⟩⟩
  | l x => exact ⟨_, _, _, _, rfl, enters_of Tryz.func179 (by kernel_rfl) rfl, ml_drop w x.blk, (l_drop h hz e he).mono fun r w' h => by
      obtain ⟨⟨u, rfl, hu⟩, h2⟩ := lx_fx h
      exact ⟨⟨_, rfl⟩, h2⟩⟩
set_option maxRecDepth 100000 in
theorem f_put (h : FmAt w base f es) (hz : Zok es) (e : En) (l : Nat) (hl : 1 ≤ l ∧ l ≤ 32) (hne : e.m ∉ es.map (·.m)) (he : EnOk e) (h2 : f.is = false → es.length < 200) : ∃ T v fid rc, FCall f "palio/zset.put" [e.val, .int .i64 (l : Int)] w (fun r w' => (∃ u, r = .returned u) ∧ ∃ f', Fx base f f' (insE es e) w w') T v fid rc := by
  cases f with
  | p b => exact ⟨_, _, _, _, rfl, enters_of Tryz.func153 (by kernel_rfl) rfl, mp_put w b, (p_put h.1 e (l : Int) hz.so (fun h3 => hne (List.mem_map.2 ⟨e, h3, rfl⟩)) (h2 rfl) he).mono fun r w' ⟨h1, h2, h3⟩ => ⟨h1, pk_fx h2 h.2 h3⟩⟩
  | l x => exact ⟨_, _, _, _, rfl, enters_of Tryz.func55 (by kernel_rfl) rfl, ml_put w x.blk, (l_put h hz e l hl hne he).mono fun r w' h => by
      obtain ⟨⟨u, rfl, hu⟩, h2⟩ := lx_fx h
      exact ⟨⟨_, rfl⟩, h2⟩⟩
end
section
variable {w w' : World} {base : Nat} {z : Zs} {es es' : List En}
theorem ZPost.after {z1 : Zs} {w1 : World} {is : Bool} {v : Option Value} {r : Ending} (h : Zx base z z1 es w w1) (hp : ZPost base z1 es' is v w1 r w') : ZPost base z es' is v w r w' := by
  obtain ⟨h1, z', h2, h3⟩ := hp
  exact ⟨h1, z', h.trans h2, h3⟩
set_option maxRecDepth 100000 in
set_option maxHeartbeats 1000000 in
theorem z_remove (h : ZsAt w base z es) (m : ByteArray) (hm : m.size ≤ 9223372036854775807) : Calls Tryz.prog 14 #[pt z.blk, .string m] w (ZPost base z (dropM es m) z.f.is (some (.bool (lookE es m).isSome)) w) := by
  have hs := z_score h m hm
  have hz := h.ok
  unfold ZPost at hs
  cases hl : lookE es m with
  | none =>
    rw [hl] at hs
    rw [dropM_none hl]
    simp only [Option.getD_none, Option.isSome_none] at hs ⊢
    unfold pt at *
    clear hl hm
    go_enter Tryz.func14, Tryz.ntmps14
    go_wp2_with (go_at_call 27; refine hs.mono ?_; rintro r w1 ⟨⟨u, rfl, hu⟩, hC⟩; obtain rfl := hu _ rfl)
    go_ret
    exact ⟨⟨_, rfl, fun y hy => by injection hy⟩, hC⟩
  | some s =>
    rw [hl] at hs
    obtain ⟨he, hmem⟩ := look_ok hz hl
    have hfd := fun f w (hf : FmAt w base f es) => f_drop hf hz ⟨m, s⟩ hmem
    rw [← dropM_some hz hl]
    have hzd : Zok (delE es (ahead es ⟨m, s⟩)) := hz.sub (delE_sub _ _)
    simp only [Option.getD_some, Option.isSome_some] at hs ⊢
    unfold pt at *
    clear hl hm
    go_enter Tryz.func14, Tryz.ntmps14
    go_wp2_with (first | (go_at_call 27; refine hs.mono ?_; rintro r w1 ⟨⟨u, rfl, hu⟩, z1, hZ1, hi1⟩; obtain rfl := hu _ rfl; obtain ⟨c0, _, _, _, l0⟩ := hZ1.at_.cells; obtain ⟨T, v, fid, rc, hfc⟩ := hfd _ _ hZ1.at_.f; have hen := hfc.en; have hme := hfc.me; have hca := hfc.call; rw [hZ1.blk] at c0 l0; rw [hfc.fv] at c0; unfold En.val at hca) | (go_at_fn fid; refine hca.mono ?_; rintro r w2 ⟨⟨u, rfl⟩, hf'⟩))
    go_ret
    have := hZ1.at_.step (v := some (.bool true)) (u := .bool true) hf' hzd fun y hy => by injection hy
    rw [hi1] at this
    exact this.after hZ1
end
end Go.Proofs.YtifcpippfiglkaaGreat

/- zset: New. -/
namespace Go.Proofs.YtifcpippfiglkaaGreat
open Go.RowKit Pal
attribute [local go_sem] Oper.semAt_some

def clampL (n : Nat) (x : Int) : Nat := (max 0 (min (n : Int) x)).toNat
theorem clampL_eq (n : Nat) (x : Int) : ((clampL n x : Nat) : Int) = max 0 (min (n : Int) x) := by unfold clampL; omega
theorem clampL_le (n : Nat) (x : Int) : clampL n x ≤ n := by unfold clampL; omega
theorem Zok.nil : Zok [] := ⟨List.Pairwise.nil, List.nodup_nil, (fun _ h => nomatch h), Nat.zero_le _⟩
set_option maxRecDepth 100000 in
set_option maxHeartbeats 1000000 in
theorem z_new (E0 M0 : Int) (seed : Nat) (hs : seed < 4294967296) (w : World) : Calls Tryz.prog 11 #[.agg #[.int .i64 E0, .int .i64 M0], .int .u32 (seed : Int)] w fun r w' => ∃ z, r = .returned (pt z.blk) ∧ ZsAt w' w.heap.size z [] ∧ z.f.is = false ∧ z.E = clampL 200 E0 ∧ z.M = clampL 64 M0 ∧ z.seed = seed ∧ Chg (fun _ => False) w w' := by
  have hpn := fun w => packNew_any w
  have e1 := clampL_eq 200 E0
  have e2 := clampL_eq 64 M0
  have hE := clampL_le 200 E0
  have hM := clampL_le 64 M0
  generalize clampL 200 E0 = E at *
  generalize clampL 64 M0 = M at *
  have e1' : max 0 (min (200 : Int) E0) = (E : Int) := e1.symm
  have e2' : max 0 (min (64 : Int) M0) = (M : Int) := e2.symm
  clear e1 e2
  go_enter Tryz.func11, Tryz.ntmps11
  go_wp2_with fail
  have hbe := Blk.new (w.alloc (Obj.cells #[Value.int .i64 E0, Value.int .i64 M0] 23)) 23 #[.int .i64 (E : Int), .int .i64 (M : Int)]
  have hC1 := ((Chg.refl (fun _ => False) w).alloc (Obj.cells #[Value.int .i64 E0, Value.int .i64 M0] 23)).alloc (Obj.cells #[Value.int .i64 (E : Int), Value.int .i64 (M : Int)] 23)
  rw [World.size_alloc] at hbe
  generalize (w.alloc (Obj.cells #[Value.int .i64 E0, Value.int .i64 M0] 23)).alloc (Obj.cells #[Value.int .i64 (E : Int), Value.int .i64 (M : Int)] 23) = w2 at *
  generalize w.heap.size + 1 = B at *
  have hgen : ∀ W', Chg (fun _ => False) w2 W' → W'.cell? ⟨B, 0, none⟩ = some (.int .i64 (E : Int)) ∧ W'.cell? ⟨B, 1, none⟩ = some (.int .i64 (M : Int)) := fun W' hc => ⟨by have := (hbe.chg hc id).cell 0; simpa using this, by have := (hbe.chg hc id).cell 1; simpa using this⟩
  obtain ⟨x0, x1⟩ := hgen w2 (Chg.refl _ _)
  go_region_held3 (fun W' => W'.cell? ⟨B, 0, none⟩ = some (.int .i64 (E : Int)) ∧ W'.cell? ⟨B, 1, none⟩ = some (.int .i64 (M : Int))) (first | exact hgen _ (Chg.refl _ _).drew | exact hgen _ hc5 | exact hgen _ (hc5.alloc _) | exact hgen _ ((hc5.alloc _).alloc _) | fail) (first | (go_at_call 35; refine (hpn _).mono ?_; rintro r w5 ⟨rfl, hC5⟩; have hc5 : Chg (fun _ => False) w2 w5 := (Chg.refl _ _).drew.trans hC5) | fail)
  all_goals
    go_wp2_with fail
    go_ret
    refine ⟨⟨w5.heap.size + 1, E, M, seed, .p w5.heap.size⟩, rfl, ⟨?_, ⟨⟨?_, ⟨by simp, nofun⟩⟩, ?_⟩, ?_, Zok.nil, hE, hM, hs⟩, rfl, rfl, rfl, rfl, ?_⟩
    · have := Blk.new (w5.alloc (.cells #[.string (pk [])] 75)) 79 #[.iface 73 (pt w5.heap.size), .int .i64 (E : Int), .int .i64 (M : Int), .int .u32 (seed : Int)]
      rw [World.size_alloc] at this
      exact this
    · exact (Blk.new w5 75 #[.string (pk [])]).alloc _
    · exact Nat.le_trans hC1.size hc5.size
    · show _ ≤ w5.heap.size + 1
      have := Nat.le_trans hC1.size hc5.size
      omega
    · exact ((hC1.trans hc5).alloc _).alloc _
end Go.Proofs.YtifcpippfiglkaaGreat
