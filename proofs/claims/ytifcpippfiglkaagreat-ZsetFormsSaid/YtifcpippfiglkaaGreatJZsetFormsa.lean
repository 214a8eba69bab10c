/- Texts joined for ZsetForms: RE, RG, ZW, ZAI, ZsetForms. -/
import Derived.Test.YtifcpippfiglkaaGreatJZsetWaysa
import Derived.Test.YtifcpippfiglkaaGreatJZsetWayse
import Derived.Test.YtifcpippfiglkaaGreatJZsetWaysj
import Derived.Test.YtifcpippfiglkaaGreatJZsetWaysn
import Derived.Test.YtifcpippfiglkaaGreatJZsetWaysq
import Derived.Deep.RegionHeld3
set_option linter.unusedVariables false
set_option linter.unusedSimpArgs false

/- palioref05: the document's lists of entries. -/
namespace Go.Proofs.YtifcpippfiglkaaGreat
open Go.RowKit Pal
attribute [local go_sem] Oper.semAt_some

theorem EntsR.read {w : World} {p : Option Addr} {n c : Nat} {l : List En} (h : EntsR w (.slice p n c) l) : Reads w w.heap.size 2 p n (l.flatMap En.cells) := by
  obtain ⟨p', c0, e, h1, h2, h3⟩ := h
  injection e with e1 e2 e3
  subst e1
  rw [e2]; exact h3
theorem EntsR.take {w : World} {p : Option Addr} {n c : Nat} {l : List En} (h : EntsR w (.slice p n c) l) {k : Nat} (hk : k ≤ l.length) (hc : k ≤ c ∧ c ≤ maxLen) : EntsR w (.slice p k c) (l.take k) := by
  have := h.part (f := 0) (t := k) (Nat.zero_le _) hk p (fun _ => by cases p with | none => rfl | some a => simp [Addr.add]) c ⟨by omega, hc.2⟩
  rw [Nat.sub_zero, List.drop_zero] at this
  exact this
theorem EntsR.drop {w : World} {p : Option Addr} {n c : Nat} {l : List En} (h : EntsR w (.slice p n c) l) {k : Nat} (hk : k ≤ l.length) (hn : n = l.length) (A : Option Addr) (hA : k < l.length → A = p.map (fun x => x.add (k * 2))) (c' : Nat) (hc : l.length - k ≤ c' ∧ c' ≤ maxLen) : EntsR w (.slice A (n - k) c') (l.drop k) := by
  have := h.part (f := k) (t := l.length) hk (Nat.le_refl _) A hA c' hc
  rw [List.take_of_length_le (by rw [List.length_drop]; exact Nat.le_refl _)] at this
  rw [hn]; exact this

theorem findR_any (v : Value) (l : List En) (m : ByteArray) (w : World) (h : EntsR w v l) (hl : l.length ≤ 1000) : Calls Tryz.prog 25 #[v, .string m] w fun r w' => r = .returned (.int .i64 (findI l m 0)) ∧ w = w' := by
  have h0 := h
  obtain ⟨p, c, rfl, h1, h2, _⟩ := h
  go_enter Tryz.func25, Tryz.ntmps25
  go_wp2_with fail
  go_loopg [5] l.length (fun k v W => ∃ i : Nat, v = .int .i64 (i : Int) ∧ k = l.length - i ∧ i ≤ l.length ∧ w = W ∧ Hid (findI l m 0 = findI (l.drop i) m i))
  case atStart => exact ⟨0, rfl, rfl, Nat.zero_le _, rfl, rfl⟩
  case round =>
    obtain ⟨i, rfl, rfl, hi, rfl, hf⟩ := hrel
    by_cases hil : i < l.length
    · have h3 : (i : Int) < (l.length : Int) := by omega
      have hx := List.getElem?_eq_getElem hil
      have hd : l.drop i = l[i] :: l.drop (i + 1) := List.drop_eq_getElem_cons hil
      generalize l[i] = e at hx hd
      obtain ⟨b, o, c', he, k1, k2, k3, d0, d1⟩ := h0.at_ hx
      injection he with he1 he2 he3
      subst he1
      subst he3
      have hil2 : (l.length : Int) ≤ 1000 := by omega
      by_cases hem : e.m = m
      · have hf2 : Hid (findI l m 0 = (i : Int)) := by show _ = _; rw [hf, hd]; exact if_pos hem
        have hb := toListE m
        rw [hem] at d0
        clear hf hd hx he2 hem
        go_wp2_with fail
        go_ret
        exact ⟨by rw [hf2.out]; rfl, rfl⟩
      · have hf2 : Hid (findI l m 0 = findI (l.drop (i + 1)) m (i + 1)) := by show _ = _; rw [hf, hd]; exact if_neg hem
        have hb := toListN hem
        clear hf hd hx he2 hem
        go_wp2_with fail
        go_roundg (l.length - (i + 1))
        case rel => exact ⟨i + 1, int_eq (by omega), rfl, by omega, rfl, hf2⟩
        case measure => omega
    · obtain rfl : i = l.length := by omega
      have h3 : ¬ (l.length : Int) < (l.length : Int) := by omega
      have hf2 : Hid (findI l m 0 = -1) := by show _ = _; rw [hf, List.drop_length]; rfl
      clear hf
      go_wp2_with fail
      go_ret
      exact ⟨by rw [hf2.out]; rfl, rfl⟩
set_option maxRecDepth 100000 in
set_option maxHeartbeats 1000000 in
theorem delR_any (v : Value) (l : List En) (k : Nat) (w : World) (h : EntsR w v l) (hk : k < l.length) (hl : l.length ≤ 1000) : Calls Tryz.prog 56 #[v, .int .i64 (k : Int)] w (RgPost w (delE l k)) := by
  obtain ⟨i0, hi0, hz0, hz1, hz2⟩ := info_parts ent_info
  have h0 := h
  obtain ⟨p, c, rfl, h1, h2, h3⟩ := h
  have h2' := h2
  unfold maxLen at h2'
  obtain ⟨p, rfl, _⟩ := h3.2 (by omega)
  clear h3
  have hA := (h0.take (k := k) (by omega) ⟨by omega, h2⟩).read
  have hB1 := fun A hA c' hc => (h0.drop (k := k + 1) (by omega) rfl A hA c' hc).read
  have x1 : (k : Int) ≤ (c : Int) := by omega
  have x2 : (k : Int) + 1 ≤ (l.length : Int) := by omega
  have x3 : (l.length : Int) ≤ (c : Int) := by omega
  have x4 : (l.length : Int) ≤ 1000 := by omega
  have x5 : (k : Int) ≤ (l.length : Int) := by omega
  have m1 : 0 + k ≤ maxLen := by unfold maxLen; omega
  have m2 : (0 + k) * 24 ≤ 140737488355328 := by omega
  have m3 : 0 + k + (l.length - (k + 1)) ≤ maxLen := by unfold maxLen; omega
  have m4 : (0 + k + (l.length - (k + 1))) * 24 ≤ 140737488355328 := by omega
  unfold RgPost delE
  have hfin : ∀ (v2 : Value) (w1 w2 : World), w2.ownsRow w.heap.size 54 2 v2 (0 + k + (l.length - (k + 1))) ([] ++ (l.take k).flatMap En.cells ++ (l.drop (k + 1)).flatMap En.cells) → Ents w2 w.heap.size v2 (l.take k ++ l.drop (k + 1)) := fun v2 w1 w2 h => Ents.mk h (by rw [List.length_append, List.length_take, List.length_drop]; omega) (by rw [List.nil_append, List.flatMap_append])
  replace hfin := Lib.hid hfin
  clear h0 hl hk
  by_cases hcap : c = k + 1
  · subst hcap
    have x7 : l.length = k + 1 := by omega
    have hB2 := hB1 (some p) (fun h => by omega) 0 ⟨by omega, Nat.zero_le _⟩
    have e0 : l.length - (k + 1) = 0 := by omega
    rw [e0] at hB2 hfin m3 m4
    clear e0
    replace x7 := Lib.hid x7
    clear hB1
    go_enter Tryz.func56, Tryz.ntmps56
    go_wp2_with (first
      | (at_builtin; refine wpList_append_any _ rfl (.tmp 6) (.tmp 9) 43 rfl w.heap.size 54 i0 _ 2 24 Tryz.underlying43 hi0 hz0 hz1 hz2 rfl (by omega) _ 0 [] rfl (World.ownsRow_nil w w.heap.size _ 2) w.heap.size (some p) k (k + 1) _ rfl hA (ents_one _) m1 m2 (Nat.le_refl _) ?_; intro v1 w1 hown1 hg1 _; have hC1 : Chg (fun _ => False) w w1 := Chg.of_grown hg1 (fun g h => by cases h))
      | (at_builtin; refine wpList_append_any _ rfl (.tmp 11) (.tmp 15) 43 rfl w.heap.size 54 i0 _ 2 24 Tryz.underlying43 hi0 hz0 hz1 hz2 rfl (by omega) _ (0 + k) _ rfl hown1 w.heap.size (some p) 0 _ _ rfl (hB2.chg hC1 (Nat.le_refl _) fun _ _ => id) (ents_one _) m3 m4 hC1.size ?_; intro v2 w2 hown2 hg2 _)
      | fail)
    all_goals
      go_ret
      exact ⟨⟨_, rfl, hfin.out v2 w1 w2 hown2⟩, hC1.trans' (app_chg hown1 hg2) fun g hl h => by omega⟩
  · have hB2 := hB1 _ (fun _ => rfl) (c - (k + 1)) ⟨by omega, by unfold maxLen; omega⟩
    clear hB1
    go_enter Tryz.func56, Tryz.ntmps56
    go_wp2_with (first
      | (at_builtin; refine wpList_append_any _ rfl (.tmp 6) (.tmp 9) 43 rfl w.heap.size 54 i0 _ 2 24 Tryz.underlying43 hi0 hz0 hz1 hz2 rfl (by omega) _ 0 [] rfl (World.ownsRow_nil w w.heap.size _ 2) w.heap.size (some p) k c _ rfl hA (ents_one _) m1 m2 (Nat.le_refl _) ?_; intro v1 w1 hown1 hg1 _; have hC1 : Chg (fun _ => False) w w1 := Chg.of_grown hg1 (fun g h => by cases h))
      | (at_builtin; refine wpList_append_any _ rfl (.tmp 11) (.tmp 15) 43 rfl w.heap.size 54 i0 _ 2 24 Tryz.underlying43 hi0 hz0 hz1 hz2 rfl (by omega) _ (0 + k) _ rfl hown1 w.heap.size (some (p.add ((k + 1) * 2))) (l.length - (k + 1)) (c - (k + 1)) _ rfl (hB2.chg hC1 (Nat.le_refl _) fun _ _ => id) (ents_one _) m3 m4 hC1.size ?_; intro v2 w2 hown2 hg2 _)
      | fail)
    all_goals
      go_ret
      exact ⟨⟨_, rfl, hfin.out v2 w1 w2 hown2⟩, hC1.trans' (app_chg hown1 hg2) fun g hl h => by omega⟩
end Go.Proofs.YtifcpippfiglkaaGreat

/- palioref05.Same, of lists that are the same. -/
namespace Go.Proofs.YtifcpippfiglkaaGreat
open Go.RowKit Pal
attribute [local go_sem] Oper.semAt_some

set_option maxRecDepth 100000 in
set_option maxHeartbeats 1000000 in
theorem same_any (v v2 : Value) (l : List En) (w : World) (h : EntsR w v l) (h' : EntsR w v2 l) (hl : l.length ≤ 1000) : Calls Tryz.prog 19 #[v, v2] w fun r w' => r = .returned (.bool true) ∧ Chg (fun _ => False) w w' := by
  have h0 := h
  have h0' := h'
  obtain ⟨p, c, rfl, h1, h2, _⟩ := h
  obtain ⟨p', c', rfl, h1', h2', _⟩ := h'
  go_enter Tryz.func19, Tryz.ntmps19
  go_wp2_with fail
  go_loopg [5] l.length (fun k v W => ∃ i : Nat, v = .int .i64 (i : Int) ∧ k = l.length - i ∧ i ≤ l.length ∧ Chg (fun _ => False) w W)
  case atStart => exact ⟨0, rfl, rfl, Nat.zero_le _, Chg.refl _ _⟩
  case round =>
    obtain ⟨i, rfl, rfl, hi, hC⟩ := hrel
    by_cases hil : i < l.length
    · have h3 : (i : Int) < (l.length : Int) := by omega
      have hx := List.getElem?_eq_getElem hil
      generalize l[i] = e at hx
      obtain ⟨b, o, c1, he, k1, k2, k3, d0, d1⟩ := (h0.chg0 hC).at_ hx
      injection he with he1 he2 he3
      subst he1
      subst he3
      obtain ⟨b', o', c2, he', k1', k2', k3', d0', d1'⟩ := (h0'.chg0 hC).at_ hx
      injection he' with he1' he2' he3'
      subst he1'
      subst he3'
      have hil2 : (l.length : Int) ≤ 1000 := by omega
      have hb := toListE e.m
      clear hx he2 he2' h0 h0'
      go_wp2_with fail
      go_still_tail 8, (by kernel_rfl)
      go_wp2_with fail
      go_roundg (l.length - (i + 1))
      case rel => exact ⟨i + 1, int_eq (by omega), rfl, by omega, hC.drew⟩
      case measure => omega
    · obtain rfl : i = l.length := by omega
      have h3 : ¬ (l.length : Int) < (l.length : Int) := by omega
      go_wp2_with fail
      go_ret
      exact ⟨rfl, hC⟩
end Go.Proofs.YtifcpippfiglkaaGreat

/- Two sets of one's own. -/
namespace Go.Proofs.YtifcpippfiglkaaGreat
open Go.RowKit Pal

structure T2 (w0 W : World) (b1 b2 : Nat) (z1 z2 : Zs) (es1 es2 : List En) (i1 i2 : Bool) (E1 M1 E2 M2 : Nat) : Prop where
  h1 : Ow w0 W b1 z1 es1 i1 E1 M1
  h2 : Ow w0 W b2 z2 es2 i2 E2 M2
  dj : ∀ g, z1.foot g → ¬ z2.foot g
section
variable {w0 W W' : World} {b1 b2 : Nat} {z1 z2 z' : Zs} {es1 es2 es' : List En} {i1 i2 i' : Bool} {E1 M1 E2 M2 : Nat}
theorem T2.chg0 (h : T2 w0 W b1 b2 z1 z2 es1 es2 i1 i2 E1 M1 E2 M2) (hc : Chg (fun _ => False) W W') : T2 w0 W' b1 b2 z1 z2 es1 es2 i1 i2 E1 M1 E2 M2 := ⟨h.h1.chg0 hc, h.h2.chg0 hc, h.dj⟩
theorem T2.one (h : T2 w0 W b1 b2 z1 z2 es1 es2 i1 i2 E1 M1 E2 M2) (h' : Ow w0 W' b1 z' es' i' E1 M1) (hn : Nz z1 z' W W') : T2 w0 W' b1 b2 z' z2 es' es2 i' i2 E1 M1 E2 M2 :=
  ⟨h', h.h2.keep hn.chg (fun g hg hs => h.dj g hs hg) (fun g hs => (h.h1.lt hs).1), fun g hg hs => (hn.foot g hg).elim (fun h3 => h.dj g h3 hs) fun h3 => by have := (h.h2.lt hs).2; omega⟩
theorem T2.two (h : T2 w0 W b1 b2 z1 z2 es1 es2 i1 i2 E1 M1 E2 M2) (h' : Ow w0 W' b2 z' es' i' E2 M2) (hn : Nz z2 z' W W') : T2 w0 W' b1 b2 z1 z' es1 es' i1 i' E1 M1 E2 M2 :=
  ⟨h.h1.keep hn.chg (fun g hg hs => h.dj g hg hs) (fun g hs => (h.h2.lt hs).1), h', fun g hg hs => (hn.foot g hs).elim (fun h3 => h.dj g hg h3) fun h3 => by have := (h.h1.lt hg).2; omega⟩
theorem addNo_lv {es : List En} {m : ByteArray} {a b : Int} (ha : 1 ≤ a ∧ a ≤ 32) (hb : 1 ≤ b ∧ b ≤ 32) : addNo es m a = addNo es m b := by
  unfold addNo
  by_cases h : 64 < m.size ∨ a < 1 ∨ 32 < a
  · rw [if_pos h, if_pos (show 64 < m.size ∨ b < 1 ∨ 32 < b by omega)]
  · rw [if_neg h, if_neg (show ¬ (64 < m.size ∨ b < 1 ∨ 32 < b) by omega)]
theorem addL_lv {es : List En} {m : ByteArray} {s a b : Int} (ha : 1 ≤ a ∧ a ≤ 32) (hb : 1 ≤ b ∧ b ≤ 32) : addL es m s a = addL es m s b := by unfold addL; rw [addNo_lv ha hb]
theorem addR_lv {es : List En} {m : ByteArray} {a b : Int} (ha : 1 ≤ a ∧ a ≤ 32) (hb : 1 ≤ b ∧ b ≤ 32) : addR es m a = addR es m b := by unfold addR; rw [addNo_lv ha hb]
end
end Go.Proofs.YtifcpippfiglkaaGreat

/- A slice of whole numbers, read. -/
namespace Go.Proofs.YtifcpippfiglkaaGreat
open Go.RowKit Pal Go.ChangeShapes Go.WideShapes Go.Deep

/-- The value is a slice of n whole numbers. -/
structure IntsAt (w : World) (v : Value) (n : Nat) (g : Nat → Int) : Prop where
  is : ∃ p cap, v = .slice p n cap
  le : n ≤ maxLen
  at_ : ∀ i, i < n → ∃ b o cap, v = .slice (some ⟨b, o, none⟩) n cap ∧ b < w.heap.size ∧ w.cell? ⟨b, o + i, none⟩ = some (.int .i64 (g i)) ∧ (Lit.int .i64 (g i)).wf = true
theorem IntsAt.chg {w w' : World} {v : Value} {n : Nat} {g : Nat → Int} (h : IntsAt w v n g) (hc : Chg (fun _ => False) w w') : IntsAt w' v n g where
  is := h.is
  le := h.le
  at_ := fun i hi => by
    obtain ⟨b, o, cap, h1, h2, h3, h4⟩ := h.at_ i hi
    exact ⟨b, o, cap, h1, Nat.lt_of_lt_of_le h2 hc.size, by rw [Chg.cell hc h2 id]; exact h3, h4⟩
theorem ints1 {w : World} {b o cap n : Nat} {g : Nat → Int} (h : IntsAt w (.slice (some ⟨b, o, none⟩) n cap) n g) {i : Nat} (hi : i < n) : b < w.heap.size ∧ w.cell? ⟨b, o + i, none⟩ = some (.int .i64 (g i)) := by
  obtain ⟨b', o', cap', heq, h1, h2, _⟩ := h.at_ i hi
  injection heq with heq
  injection heq with heq
  injection heq with e1 e2
  subst e1 e2
  exact ⟨h1, h2⟩
theorem pick_int {n : Nat} {p : Nat → Int → Prop} (h : ∀ i, i < n → ∃ x, p i x) : ∃ f : Nat → Int, ∀ i, i < n → p i (f i) := by
  classical
  refine ⟨fun i => if hi : i < n then Classical.choose (h i hi) else 0, fun i hi => ?_⟩
  simp only [dif_pos hi]
  exact Classical.choose_spec (h i hi)

set_option maxRecDepth 100000 in
theorem open_ints1 {H : Type} {enc : TypeId × Value → H} {w : World} {v : Value} {d : DataW H} {p : List MemPlace}
    (hv : Value.okWide Tryz.prog w .any 0 55 v) (h : DataW.Trod enc Tryz.prog w 0 (fun _ => true) true 55 v d p) :
    ∃ n g, IntsAt w v n g := by
  obtain ⟨a0, len0, cap0, rfl⟩ := okWide_slice Tryz.underlying55 hv
  obtain ⟨fuel, hf'⟩ := h
  rcases open_slice Tryz.underlying55 hf' with ⟨hc, hx⟩ | ⟨a, len, cap, m, n, D, Pl, hc, _, hl, hm, hmm, hx, hi⟩
  · simp only [Value.cells, List.cons.injEq, and_true] at hc
    exact ⟨0, fun _ => 0, ⟨_, _, hc⟩, Nat.zero_le _, fun i hi => absurd hi (Nat.not_lt_zero _)⟩
  · simp only [Value.cells, List.cons.injEq, and_true] at hc
    simp only [if_true] at hmm
    subst hmm
    rcases Nat.eq_zero_or_pos len with h0 | hpos
    · subst h0
      exact ⟨0, fun _ => 0, ⟨_, _, hc⟩, Nat.zero_le _, fun i hi => absurd hi (Nat.not_lt_zero _)⟩
    have hC : Tryz.prog.cellsOf 3 = 1 := by kernel_rfl
    have hcell : ∀ i, i < len → ∃ x : Int, w.cell? (a.add i) = some (.int .i64 x) ∧ (Lit.int .i64 x).wf = true := fun i hil => by
      obtain ⟨cs', hcs, ht⟩ := hi i (by omega)
      rw [hC] at hcs
      obtain ⟨_, hcl, hat⟩ := World.cells?_some hcs
      match cs', hcl with
      | [c0], _ =>
        have h1 := hat 0 (by omega)
        obtain ⟨k, rfl, wf⟩ := trod_i Tryz.underlying3 ht
        rw [Nat.mul_one, Go.Deep.add_add, Nat.add_zero] at h1
        exact ⟨k, by simpa using h1, wf⟩
    have hsp : a.spot = none := by
      obtain ⟨x, c0, _⟩ := hcell 0 hpos
      exact World.cell?_spot c0
    obtain ⟨b, o, sp⟩ := a
    have hsp : sp = none := hsp
    subst hsp
    obtain ⟨g, hg⟩ := pick_int hcell
    refine ⟨len, g, ⟨_, _, hc⟩, Nat.le_trans hl hm, fun i hi => ?_⟩
    obtain ⟨h1, h2⟩ := hg i hi
    rw [addr_add] at h1
    exact ⟨b, o, m, hc, block_lt' h1, h1, h2⟩
theorem mod21 (x : Int) : ∃ r : Int, (IntKind.u64.wrap x).tmod 21 = r ∧ 0 ≤ r ∧ r ≤ 20 := by
  refine ⟨_, rfl, ?_⟩
  have h : 0 ≤ IntKind.u64.wrap x := by
    have e : IntKind.u64.wrap x = x % 18446744073709551616 := by simp [IntKind.wrap, IntKind.bits, IntKind.signed]
    rw [e]; omega
  rw [Int.tmod_eq_emod_of_nonneg h]
  omega

end Go.Proofs.YtifcpippfiglkaaGreat

/- The walk of ZsetForms. -/
namespace Go.Proofs.YtifcpippfiglkaaGreat.zsetForms
open Go.RowKit Pal
attribute [local go_sem] Oper.semAt_some
theorem and31 (x : Int) : ∃ i : Nat, i < 32 ∧ bits BinOp.and IntKind.i64 x 31 = (i : Int) := by
  have h : (BitVec.ofInt 64 x &&& BitVec.ofInt 64 31).toNat < 32 := by
    rw [BitVec.toNat_and]
    exact Nat.lt_of_le_of_lt Nat.and_le_right (by decide)
  refine ⟨(BitVec.ofInt 64 x &&& BitVec.ofInt 64 31).toNat, h, ?_⟩
  have e : bits BinOp.and IntKind.i64 x 31 = IntKind.i64.wrap (((BitVec.ofInt 64 x &&& BitVec.ofInt 64 31).toNat : Nat) : Int) := rfl
  rw [e]
  generalize (BitVec.ofInt 64 x &&& BitVec.ofInt 64 31).toNat = t at h ⊢
  exact IntWalk.i64_in _ (by omega)
def Inv (wb : World) (b1 b2 E1 M1 E2 M2 n : Nat) (k : Nat) (iv : Value) (W : World) : Prop := ∃ (i : Nat) (z1 z2 : Zs) (es : List En) (i1 i2 : Bool), iv = .int .i64 (i : Int) ∧ k = min n 100 - i ∧ i ≤ min n 100 ∧ T2 wb W b1 b2 z1 z2 es es i1 i2 E1 M1 E2 M2

set_option maxRecDepth 100000 in
set_option maxHeartbeats 8000000 in
theorem walk (A0 A1 B0 B1 : Int) (s1 s2 : Nat) (hs1 : s1 < 4294967296) (hs2 : s2 < 4294967296) (v : Value) (n : Nat) (g : Nat → Act6) (v2 : Value) (n2 : Nat) (g2 : Nat → Int) (w : World) (hv : ActsZ w v n g) (hv2 : IntsAt w v2 n2 g2) :
    Calls Tryz.prog 5 #[.agg #[.int .i64 A0, .int .i64 A1], .agg #[.int .i64 B0, .int .i64 B1], .int .u32 (s1 : Int), .int .u32 (s2 : Int), v, v2] w fun e w' => e = .returned (.bool true) ∧ Chg (fun _ => False) w w' := by
  have hsh := fun w => shown11_any w
  obtain ⟨wb, hwb⟩ : ∃ wb, wb = (w.alloc (.cells #[.int .i64 A0, .int .i64 A1] 23)).alloc (.cells #[.int .i64 B0, .int .i64 B1] 23) := ⟨_, rfl⟩
  have hCb := ((Chg.refl (fun _ => False) w).alloc (.cells #[.int .i64 A0, .int .i64 A1] 23)).alloc (.cells #[.int .i64 B0, .int .i64 B1] 23)
  have hx1 := (Blk.new w 23 #[.int .i64 A0, .int .i64 A1]).alloc (.cells #[.int .i64 B0, .int .i64 B1] 23)
  have hx2 := Blk.new (w.alloc (.cells #[.int .i64 A0, .int .i64 A1] 23)) 23 #[.int .i64 B0, .int .i64 B1]
  rw [World.size_alloc] at hx2
  rw [← hwb] at hCb hx1 hx2
  have hg1 : ∀ W', Chg (fun _ => False) wb W' → W'.cell? ⟨w.heap.size, 0, none⟩ = some (.int .i64 A0) ∧ W'.cell? ⟨w.heap.size, 1, none⟩ = some (.int .i64 A1) ∧ w.heap.size < W'.heap.size := fun W' hc => ⟨by have := (hx1.chg hc id).cell 0; simpa using this, by have := (hx1.chg hc id).cell 1; simpa using this, (hx1.chg hc id).lt⟩
  have hg2 : ∀ W', Chg (fun _ => False) wb W' → W'.cell? ⟨w.heap.size + 1, 0, none⟩ = some (.int .i64 B0) ∧ W'.cell? ⟨w.heap.size + 1, 1, none⟩ = some (.int .i64 B1) ∧ w.heap.size + 1 < W'.heap.size := fun W' hc => ⟨by have := (hx2.chg hc id).cell 0; simpa using this, by have := (hx2.chg hc id).cell 1; simpa using this, (hx2.chg hc id).lt⟩
  have hn1 := fun (W : World) (hc : Chg (fun _ => False) wb W) => ow_new hc A0 A1 s1 hs1
  have hn2 := fun (W : World) (hc : Chg (fun _ => False) wb W) => ow_new hc B0 B1 s2 hs2
  generalize clampL 200 A0 = E1 at hn1
  generalize clampL 64 A1 = M1 at hn1
  generalize clampL 200 B0 = E2 at hn2
  generalize clampL 64 B1 = M2 at hn2
  have hCw : ∀ W', Chg (fun _ => False) wb W' → Chg (fun _ => False) w W' := fun W' hc => hCb.trans hc
  unfold pt at hn1 hn2
  clear hx1 hx2 hCb
  go_enter Tryz.func5, Tryz.ntmps5
  go_wp2_with (first | (go_at_call 10; rw [← hwb]; refine (hsh _).mono ?_; rintro r w1 ⟨rfl, hC1⟩; obtain ⟨x0, x1, x2⟩ := hg1 _ hC1) | (go_at_call 11; refine (hn2 _ h0.chg).mono ?_; rintro r w3 ⟨b2, y0, rfl, k0, hC3, hf3⟩) | (go_at_call 11; refine (hn1 _ hC1).mono ?_; rintro r w2 ⟨b1, z0, rfl, h0, hC2, _⟩; obtain ⟨y1, y2, y3⟩ := hg2 _ h0.chg) | fail)
  have hT0 : T2 wb w3 b1 b2 z0 y0 [] [] false false E1 M1 E2 M2 := ⟨h0.chg0 hC3, k0, fun g hg hg' => by have := (h0.lt hg).2; have := hf3 g hg'; omega⟩
  clear hsh hn1 hn2 h0 k0 hC1 hC2 hC3 hf3 x0 x1 x2 y1 y2 y3 hg1 hg2 hwb
  clear hs1 hs2
  go_loopg [16] (min n 100) (Inv wb b1 b2 E1 M1 E2 M2 n)
  case atStart => exact ⟨0, z0, y0, [], false, false, rfl, rfl, Nat.zero_le _, hT0⟩
  case round =>
    clear hT0
    obtain ⟨i, z1, z2, es, i1, i2, rfl, rfl, hi, hT⟩ := hrel
    obtain ⟨p, cap, rfl⟩ := hv.is
    obtain ⟨p2, cap2, rfl⟩ := hv2.is
    have hle := hv.le
    have hle2 := hv2.le
    have hes := hT.h1.len
    have hes4 : (es.length : Int) ≤ 400 := by omega
    have hlen := fun W b z es is E M (h : Ow wb W b z es is E M) => ow_len h
    unfold pt at hlen
    by_cases hin : i < n
    · by_cases hi100 : i < 100
      · obtain ⟨gb, o, cap', heq, gl, hc6, hk6⟩ := (hv.chg (hCw _ hT.h1.chg)).at_ i hin
        injection heq with heq hx hcap
        subst heq hcap
        clear hx
        obtain ⟨q0, q1, q2, q3, q4, q5⟩ := hc6
        have wS := bounds_i64 hk6.s
        have hMs := hk6.m
        generalize g i = x at *
        have hks : (cutS x.M 70).size ≤ 9223372036854775807 := Nat.le_trans (cutS_size _ _) hMs
        have hna := fun W => name_any x.M W hMs
        generalize cutS x.M 70 = m at *
        obtain ⟨r, hr, hcase⟩ := mod8 x.Do
        have i1' : (i : Int) < (n : Int) := by omega
        have i2' : (i : Int) < 100 := by omega
        have hadd := fun W b z es is E M (h : Ow wb W b z es is E M) lv => ow_add h m x.S lv hks wS
        have hrem := fun W b z es is E M (h : Ow wb W b z es is E M) => ow_remove h m hks
        have hcut := fun W b z es is E M (h : Ow wb W b z es is E M) => ow_cut h x.F x.T
        have hrank := fun W b z es is E M (h : Ow wb W b z es is E M) => ow_rank h m hks
        unfold pt at hadd hrem hcut hrank
        have HT := Lib.hid hT
        clear hT hk6 hMs hle wS
        by_cases hi2 : i < n2
        · have j1 : (i : Int) < (n2 : Int) := by omega
          obtain ⟨gb2, o2, cap2', heq2, gl2, u0, _⟩ := (hv2.chg (hCw _ HT.out.h1.chg)).at_ i hi2
          injection heq2 with heq2 hx2 hcap2
          subst heq2 hcap2
          clear hx2
          generalize g2 i = y at *
          obtain ⟨k31, hk31, hy31⟩ := and31 y
          have hlv : wrap64 (1 + bits BinOp.and IntKind.i64 y 31) = 1 + (k31 : Int) := by rw [hy31]; unfold wrap64; omega
          clear hy31
          obtain ⟨lv, hlv2⟩ : ∃ lv : Int, lv = 1 + (k31 : Int) := ⟨_, rfl⟩
          have hlv3 : 1 ≤ lv ∧ lv ≤ 32 := by omega
          rw [← hlv2] at hlv
          clear hlv2
          have hadd1 := fun W b z is E M (h : Ow wb W b z es is E M) => hadd W b z es is E M h 1
          have haddL := fun W b z is E M (h : Ow wb W b z es is E M) => hadd W b z es is E M h lv
          rw [addR_lv (a := lv) (b := 1) hlv3 (by omega), addL_lv (a := lv) (b := 1) hlv3 (by omega)] at haddL
          clear hlv3
          generalize (addR es m 1).1 = rb at hadd1 haddL
          generalize (addR es m 1).2 = re at hadd1 haddL
          generalize addL es m x.S 1 = es1 at hadd1 haddL
          clear hadd
          have hb17 := Blk.new wr 30 #[.int .i64 x.Do, .string x.M, .int .i64 x.S, .int .i64 x.L, .int .i64 x.F, .int .i64 x.T]
          have hcl : ∀ W', Blk W' wr.heap.size 30 #[.int .i64 x.Do, .string x.M, .int .i64 x.S, .int .i64 x.L, .int .i64 x.F, .int .i64 x.T] → W'.cell? ⟨wr.heap.size, 2, none⟩ = some (.int .i64 x.S) ∧ W'.cell? ⟨wr.heap.size, 4, none⟩ = some (.int .i64 x.F) ∧ W'.cell? ⟨wr.heap.size, 5, none⟩ = some (.int .i64 x.T) ∧ wr.heap.size < W'.heap.size := fun W' h => ⟨by have := h.cell 2; simpa using this, by have := h.cell 4; simpa using this, by have := h.cell 5; simpa using this, h.lt⟩
          have hcl2 : ∀ W', Blk W' wr.heap.size 30 #[.int .i64 x.Do, .string x.M, .int .i64 x.S, .int .i64 x.L, .int .i64 x.F, .int .i64 x.T] → W'.cell? ⟨wr.heap.size, 4, none⟩ = some (.int .i64 x.F) ∧ W'.cell? ⟨wr.heap.size, 5, none⟩ = some (.int .i64 x.T) := fun W' h => ⟨(hcl W' h).2.1, (hcl W' h).2.2.1⟩
          rcases hcase with rfl | rfl | rfl | rfl | rfl | rfl | rfl | rfl
          · go_wp2_with (first | (go_at_call 12; refine (hna _).mono ?_; rintro r9 w9 ⟨rfl, rfl⟩) | (go_at_call 13; refine (haddL _ _ _ _ _ _ hT3.h2).mono ?_; rintro r9 w4 ⟨rfl, z4, k4, n4⟩; have hT4 := hT3.two k4 n4) | (go_at_call 13; refine (hadd1 _ _ _ _ _ _ (HT.out.h1.chg0 ((Chg.refl _ wr).alloc _))).mono ?_; rintro r9 w3 ⟨rfl, z3, k3, n3⟩; have hT3 := (HT.out.chg0 ((Chg.refl _ wr).alloc _)).one k3 n3; have hb3 := hb17.chg n3.chg (fun hf => by have := (HT.out.h1.lt hf).2; omega); obtain ⟨e2, e4, e5, el⟩ := hcl _ hb3; clear e4 e5) | (go_at_call 26; refine (hrank _ _ _ _ _ _ _ hT5.h2).mono ?_; rintro r9 w6 ⟨rfl, z6, k6, n6⟩; have hT6 := hT5.two k6 n6) | (go_at_call 26; refine (hrank _ _ _ _ _ _ _ hT4.h1).mono ?_; rintro r9 w5 ⟨rfl, z5, k5, n5⟩; have hT5 := hT4.one k5 n5) | (go_at_call 16; refine (hlen _ _ _ _ _ _ _ hT7.h2).mono ?_; rintro r9 w8 ⟨rfl, hC8⟩; have hT8 := hT7.chg0 hC8) | (go_at_call 16; refine (hlen _ _ _ _ _ _ _ hT6.h1).mono ?_; rintro r9 w7 ⟨rfl, hC7⟩; have hT7 := hT6.chg0 hC7) | fail)
            go_roundg (min n 100 - (i + 1))
            case measure => omega
            case rel => exact ⟨i + 1, _, _, _, _, _, int_eq (by omega), rfl, by omega, hT8⟩
          · go_wp2_with (first | (go_at_call 12; refine (hna _).mono ?_; rintro r9 w9 ⟨rfl, rfl⟩) | (go_at_call 13; refine (haddL _ _ _ _ _ _ hT3.h2).mono ?_; rintro r9 w4 ⟨rfl, z4, k4, n4⟩; have hT4 := hT3.two k4 n4) | (go_at_call 13; refine (hadd1 _ _ _ _ _ _ (HT.out.h1.chg0 ((Chg.refl _ wr).alloc _))).mono ?_; rintro r9 w3 ⟨rfl, z3, k3, n3⟩; have hT3 := (HT.out.chg0 ((Chg.refl _ wr).alloc _)).one k3 n3; have hb3 := hb17.chg n3.chg (fun hf => by have := (HT.out.h1.lt hf).2; omega); obtain ⟨e2, e4, e5, el⟩ := hcl _ hb3; clear e4 e5) | (go_at_call 26; refine (hrank _ _ _ _ _ _ _ hT5.h2).mono ?_; rintro r9 w6 ⟨rfl, z6, k6, n6⟩; have hT6 := hT5.two k6 n6) | (go_at_call 26; refine (hrank _ _ _ _ _ _ _ hT4.h1).mono ?_; rintro r9 w5 ⟨rfl, z5, k5, n5⟩; have hT5 := hT4.one k5 n5) | (go_at_call 16; refine (hlen _ _ _ _ _ _ _ hT7.h2).mono ?_; rintro r9 w8 ⟨rfl, hC8⟩; have hT8 := hT7.chg0 hC8) | (go_at_call 16; refine (hlen _ _ _ _ _ _ _ hT6.h1).mono ?_; rintro r9 w7 ⟨rfl, hC7⟩; have hT7 := hT6.chg0 hC7) | fail)
            go_roundg (min n 100 - (i + 1))
            case measure => omega
            case rel => exact ⟨i + 1, _, _, _, _, _, int_eq (by omega), rfl, by omega, hT8⟩
          · go_wp2_with (first | (go_at_call 12; refine (hna _).mono ?_; rintro r9 w9 ⟨rfl, rfl⟩) | (go_at_call 13; refine (haddL _ _ _ _ _ _ hT3.h2).mono ?_; rintro r9 w4 ⟨rfl, z4, k4, n4⟩; have hT4 := hT3.two k4 n4) | (go_at_call 13; refine (hadd1 _ _ _ _ _ _ (HT.out.h1.chg0 ((Chg.refl _ wr).alloc _))).mono ?_; rintro r9 w3 ⟨rfl, z3, k3, n3⟩; have hT3 := (HT.out.chg0 ((Chg.refl _ wr).alloc _)).one k3 n3; have hb3 := hb17.chg n3.chg (fun hf => by have := (HT.out.h1.lt hf).2; omega); obtain ⟨e2, e4, e5, el⟩ := hcl _ hb3; clear e4 e5) | (go_at_call 26; refine (hrank _ _ _ _ _ _ _ hT5.h2).mono ?_; rintro r9 w6 ⟨rfl, z6, k6, n6⟩; have hT6 := hT5.two k6 n6) | (go_at_call 26; refine (hrank _ _ _ _ _ _ _ hT4.h1).mono ?_; rintro r9 w5 ⟨rfl, z5, k5, n5⟩; have hT5 := hT4.one k5 n5) | (go_at_call 16; refine (hlen _ _ _ _ _ _ _ hT7.h2).mono ?_; rintro r9 w8 ⟨rfl, hC8⟩; have hT8 := hT7.chg0 hC8) | (go_at_call 16; refine (hlen _ _ _ _ _ _ _ hT6.h1).mono ?_; rintro r9 w7 ⟨rfl, hC7⟩; have hT7 := hT6.chg0 hC7) | fail)
            go_roundg (min n 100 - (i + 1))
            case measure => omega
            case rel => exact ⟨i + 1, _, _, _, _, _, int_eq (by omega), rfl, by omega, hT8⟩
          · go_wp2_with (first | (go_at_call 12; refine (hna _).mono ?_; rintro r9 w9 ⟨rfl, rfl⟩) | (go_at_call 13; refine (haddL _ _ _ _ _ _ hT3.h2).mono ?_; rintro r9 w4 ⟨rfl, z4, k4, n4⟩; have hT4 := hT3.two k4 n4) | (go_at_call 13; refine (hadd1 _ _ _ _ _ _ (HT.out.h1.chg0 ((Chg.refl _ wr).alloc _))).mono ?_; rintro r9 w3 ⟨rfl, z3, k3, n3⟩; have hT3 := (HT.out.chg0 ((Chg.refl _ wr).alloc _)).one k3 n3; have hb3 := hb17.chg n3.chg (fun hf => by have := (HT.out.h1.lt hf).2; omega); obtain ⟨e2, e4, e5, el⟩ := hcl _ hb3; clear e4 e5) | (go_at_call 26; refine (hrank _ _ _ _ _ _ _ hT5.h2).mono ?_; rintro r9 w6 ⟨rfl, z6, k6, n6⟩; have hT6 := hT5.two k6 n6) | (go_at_call 26; refine (hrank _ _ _ _ _ _ _ hT4.h1).mono ?_; rintro r9 w5 ⟨rfl, z5, k5, n5⟩; have hT5 := hT4.one k5 n5) | (go_at_call 16; refine (hlen _ _ _ _ _ _ _ hT7.h2).mono ?_; rintro r9 w8 ⟨rfl, hC8⟩; have hT8 := hT7.chg0 hC8) | (go_at_call 16; refine (hlen _ _ _ _ _ _ _ hT6.h1).mono ?_; rintro r9 w7 ⟨rfl, hC7⟩; have hT7 := hT6.chg0 hC7) | fail)
            go_roundg (min n 100 - (i + 1))
            case measure => omega
            case rel => exact ⟨i + 1, _, _, _, _, _, int_eq (by omega), rfl, by omega, hT8⟩
          · go_wp2_with (first | (go_at_call 12; refine (hna _).mono ?_; rintro r9 w9 ⟨rfl, rfl⟩) | (go_at_call 13; refine (haddL _ _ _ _ _ _ hT3.h2).mono ?_; rintro r9 w4 ⟨rfl, z4, k4, n4⟩; have hT4 := hT3.two k4 n4) | (go_at_call 13; refine (hadd1 _ _ _ _ _ _ (HT.out.h1.chg0 ((Chg.refl _ wr).alloc _))).mono ?_; rintro r9 w3 ⟨rfl, z3, k3, n3⟩; have hT3 := (HT.out.chg0 ((Chg.refl _ wr).alloc _)).one k3 n3; have hb3 := hb17.chg n3.chg (fun hf => by have := (HT.out.h1.lt hf).2; omega); obtain ⟨e2, e4, e5, el⟩ := hcl _ hb3; clear e4 e5) | (go_at_call 26; refine (hrank _ _ _ _ _ _ _ hT5.h2).mono ?_; rintro r9 w6 ⟨rfl, z6, k6, n6⟩; have hT6 := hT5.two k6 n6) | (go_at_call 26; refine (hrank _ _ _ _ _ _ _ hT4.h1).mono ?_; rintro r9 w5 ⟨rfl, z5, k5, n5⟩; have hT5 := hT4.one k5 n5) | (go_at_call 16; refine (hlen _ _ _ _ _ _ _ hT7.h2).mono ?_; rintro r9 w8 ⟨rfl, hC8⟩; have hT8 := hT7.chg0 hC8) | (go_at_call 16; refine (hlen _ _ _ _ _ _ _ hT6.h1).mono ?_; rintro r9 w7 ⟨rfl, hC7⟩; have hT7 := hT6.chg0 hC7) | fail)
            go_roundg (min n 100 - (i + 1))
            case measure => omega
            case rel => exact ⟨i + 1, _, _, _, _, _, int_eq (by omega), rfl, by omega, hT8⟩
          · go_wp2_with (first | (go_at_call 12; refine (hna _).mono ?_; rintro r9 w9 ⟨rfl, rfl⟩) | (go_at_call 14; refine (hrem _ _ _ _ _ _ _ hT3.h2).mono ?_; rintro r9 w4 ⟨rfl, z4, k4, n4⟩; have hT4 := hT3.two k4 n4) | (go_at_call 14; refine (hrem _ _ _ _ _ _ _ (HT.out.h1.chg0 ((Chg.refl _ wr).alloc _))).mono ?_; rintro r9 w3 ⟨rfl, z3, k3, n3⟩; have hT3 := (HT.out.chg0 ((Chg.refl _ wr).alloc _)).one k3 n3) | (go_at_call 26; refine (hrank _ _ _ _ _ _ _ hT5.h2).mono ?_; rintro r9 w6 ⟨rfl, z6, k6, n6⟩; have hT6 := hT5.two k6 n6) | (go_at_call 26; refine (hrank _ _ _ _ _ _ _ hT4.h1).mono ?_; rintro r9 w5 ⟨rfl, z5, k5, n5⟩; have hT5 := hT4.one k5 n5) | (go_at_call 16; refine (hlen _ _ _ _ _ _ _ hT7.h2).mono ?_; rintro r9 w8 ⟨rfl, hC8⟩; have hT8 := hT7.chg0 hC8) | (go_at_call 16; refine (hlen _ _ _ _ _ _ _ hT6.h1).mono ?_; rintro r9 w7 ⟨rfl, hC7⟩; have hT7 := hT6.chg0 hC7) | fail)
            go_roundg (min n 100 - (i + 1))
            case measure => omega
            case rel => exact ⟨i + 1, _, _, _, _, _, int_eq (by omega), rfl, by omega, hT8⟩
          · go_wp2_with (first | (go_at_call 12; refine (hna _).mono ?_; rintro r9 w9 ⟨rfl, rfl⟩) | (go_at_call 14; refine (hrem _ _ _ _ _ _ _ hT3.h2).mono ?_; rintro r9 w4 ⟨rfl, z4, k4, n4⟩; have hT4 := hT3.two k4 n4) | (go_at_call 14; refine (hrem _ _ _ _ _ _ _ (HT.out.h1.chg0 ((Chg.refl _ wr).alloc _))).mono ?_; rintro r9 w3 ⟨rfl, z3, k3, n3⟩; have hT3 := (HT.out.chg0 ((Chg.refl _ wr).alloc _)).one k3 n3) | (go_at_call 26; refine (hrank _ _ _ _ _ _ _ hT5.h2).mono ?_; rintro r9 w6 ⟨rfl, z6, k6, n6⟩; have hT6 := hT5.two k6 n6) | (go_at_call 26; refine (hrank _ _ _ _ _ _ _ hT4.h1).mono ?_; rintro r9 w5 ⟨rfl, z5, k5, n5⟩; have hT5 := hT4.one k5 n5) | (go_at_call 16; refine (hlen _ _ _ _ _ _ _ hT7.h2).mono ?_; rintro r9 w8 ⟨rfl, hC8⟩; have hT8 := hT7.chg0 hC8) | (go_at_call 16; refine (hlen _ _ _ _ _ _ _ hT6.h1).mono ?_; rintro r9 w7 ⟨rfl, hC7⟩; have hT7 := hT6.chg0 hC7) | fail)
            go_roundg (min n 100 - (i + 1))
            case measure => omega
            case rel => exact ⟨i + 1, _, _, _, _, _, int_eq (by omega), rfl, by omega, hT8⟩
          · generalize cutN es.length x.F x.T = cn at hcut
            go_wp2_with (first | (go_at_call 12; refine (hna _).mono ?_; rintro r9 w9 ⟨rfl, rfl⟩) | fail)
            go_region_held3 (fun W' => W'.cell? ⟨wr.heap.size, 4, none⟩ = some (.int .i64 x.F) ∧ W'.cell? ⟨wr.heap.size, 5, none⟩ = some (.int .i64 x.T)) (first | exact hcl2 _ hb17.drew | exact hcl2 _ hb4 | exact hcl2 _ hb3 | fail) (first | (go_at_call 28; refine (hcut _ _ _ _ _ _ _ hT3.h2).mono ?_; rintro r9 w4 ⟨rfl, z4, k4, n4⟩; have hT4 := hT3.two k4 n4; have hb4 := hb3.chg n4.chg (fun hf => by have := (HT.out.h2.lt hf).2; omega)) | (go_at_call 28; refine (hcut _ _ _ _ _ _ _ (HT.out.h1.chg0 ((Chg.refl _ wr).alloc _).drew)).mono ?_; rintro r9 w3 ⟨rfl, z3, k3, n3⟩; have hT3 := (HT.out.chg0 ((Chg.refl _ wr).alloc _).drew).one k3 n3; have hb3 := hb17.drew.chg n3.chg (fun hf => by have := (HT.out.h1.lt hf).2; omega)) | fail)
            all_goals
              go_wp2_with (first | (go_at_call 26; refine (hrank _ _ _ _ _ _ _ hT5.h2).mono ?_; rintro r9 w6 ⟨rfl, z6, k6, n6⟩; have hT6 := hT5.two k6 n6) | (go_at_call 26; refine (hrank _ _ _ _ _ _ _ hT4.h1).mono ?_; rintro r9 w5 ⟨rfl, z5, k5, n5⟩; have hT5 := hT4.one k5 n5) | (go_at_call 16; refine (hlen _ _ _ _ _ _ _ hT7.h2).mono ?_; rintro r9 w8 ⟨rfl, hC8⟩; have hT8 := hT7.chg0 hC8) | (go_at_call 16; refine (hlen _ _ _ _ _ _ _ hT6.h1).mono ?_; rintro r9 w7 ⟨rfl, hC7⟩; have hT7 := hT6.chg0 hC7) | fail)
              go_roundg (min n 100 - (i + 1))
              case measure => omega
              case rel => exact ⟨i + 1, _, _, _, _, _, int_eq (by omega), rfl, by omega, hT8⟩
        · have j1 : ¬ (i : Int) < (n2 : Int) := by omega
          have hadd1 := fun W b z is E M (h : Ow wb W b z es is E M) => hadd W b z es is E M h 1
          have haddL := fun W b z is E M (h : Ow wb W b z es is E M) => hadd W b z es is E M h 1
          generalize (addR es m 1).1 = rb at hadd1 haddL
          generalize (addR es m 1).2 = re at hadd1 haddL
          generalize addL es m x.S 1 = es1 at hadd1 haddL
          clear hadd
          have hb17 := Blk.new wr 30 #[.int .i64 x.Do, .string x.M, .int .i64 x.S, .int .i64 x.L, .int .i64 x.F, .int .i64 x.T]
          have hcl : ∀ W', Blk W' wr.heap.size 30 #[.int .i64 x.Do, .string x.M, .int .i64 x.S, .int .i64 x.L, .int .i64 x.F, .int .i64 x.T] → W'.cell? ⟨wr.heap.size, 2, none⟩ = some (.int .i64 x.S) ∧ W'.cell? ⟨wr.heap.size, 4, none⟩ = some (.int .i64 x.F) ∧ W'.cell? ⟨wr.heap.size, 5, none⟩ = some (.int .i64 x.T) ∧ wr.heap.size < W'.heap.size := fun W' h => ⟨by have := h.cell 2; simpa using this, by have := h.cell 4; simpa using this, by have := h.cell 5; simpa using this, h.lt⟩
          have hcl2 : ∀ W', Blk W' wr.heap.size 30 #[.int .i64 x.Do, .string x.M, .int .i64 x.S, .int .i64 x.L, .int .i64 x.F, .int .i64 x.T] → W'.cell? ⟨wr.heap.size, 4, none⟩ = some (.int .i64 x.F) ∧ W'.cell? ⟨wr.heap.size, 5, none⟩ = some (.int .i64 x.T) := fun W' h => ⟨(hcl W' h).2.1, (hcl W' h).2.2.1⟩
          rcases hcase with rfl | rfl | rfl | rfl | rfl | rfl | rfl | rfl
          · go_wp2_with (first | (go_at_call 12; refine (hna _).mono ?_; rintro r9 w9 ⟨rfl, rfl⟩) | (go_at_call 13; refine (haddL _ _ _ _ _ _ hT3.h2).mono ?_; rintro r9 w4 ⟨rfl, z4, k4, n4⟩; have hT4 := hT3.two k4 n4) | (go_at_call 13; refine (hadd1 _ _ _ _ _ _ (HT.out.h1.chg0 ((Chg.refl _ wr).alloc _))).mono ?_; rintro r9 w3 ⟨rfl, z3, k3, n3⟩; have hT3 := (HT.out.chg0 ((Chg.refl _ wr).alloc _)).one k3 n3; have hb3 := hb17.chg n3.chg (fun hf => by have := (HT.out.h1.lt hf).2; omega); obtain ⟨e2, e4, e5, el⟩ := hcl _ hb3; clear e4 e5) | (go_at_call 26; refine (hrank _ _ _ _ _ _ _ hT5.h2).mono ?_; rintro r9 w6 ⟨rfl, z6, k6, n6⟩; have hT6 := hT5.two k6 n6) | (go_at_call 26; refine (hrank _ _ _ _ _ _ _ hT4.h1).mono ?_; rintro r9 w5 ⟨rfl, z5, k5, n5⟩; have hT5 := hT4.one k5 n5) | (go_at_call 16; refine (hlen _ _ _ _ _ _ _ hT7.h2).mono ?_; rintro r9 w8 ⟨rfl, hC8⟩; have hT8 := hT7.chg0 hC8) | (go_at_call 16; refine (hlen _ _ _ _ _ _ _ hT6.h1).mono ?_; rintro r9 w7 ⟨rfl, hC7⟩; have hT7 := hT6.chg0 hC7) | fail)
            go_roundg (min n 100 - (i + 1))
            case measure => omega
            case rel => exact ⟨i + 1, _, _, _, _, _, int_eq (by omega), rfl, by omega, hT8⟩
          · go_wp2_with (first | (go_at_call 12; refine (hna _).mono ?_; rintro r9 w9 ⟨rfl, rfl⟩) | (go_at_call 13; refine (haddL _ _ _ _ _ _ hT3.h2).mono ?_; rintro r9 w4 ⟨rfl, z4, k4, n4⟩; have hT4 := hT3.two k4 n4) | (go_at_call 13; refine (hadd1 _ _ _ _ _ _ (HT.out.h1.chg0 ((Chg.refl _ wr).alloc _))).mono ?_; rintro r9 w3 ⟨rfl, z3, k3, n3⟩; have hT3 := (HT.out.chg0 ((Chg.refl _ wr).alloc _)).one k3 n3; have hb3 := hb17.chg n3.chg (fun hf => by have := (HT.out.h1.lt hf).2; omega); obtain ⟨e2, e4, e5, el⟩ := hcl _ hb3; clear e4 e5) | (go_at_call 26; refine (hrank _ _ _ _ _ _ _ hT5.h2).mono ?_; rintro r9 w6 ⟨rfl, z6, k6, n6⟩; have hT6 := hT5.two k6 n6) | (go_at_call 26; refine (hrank _ _ _ _ _ _ _ hT4.h1).mono ?_; rintro r9 w5 ⟨rfl, z5, k5, n5⟩; have hT5 := hT4.one k5 n5) | (go_at_call 16; refine (hlen _ _ _ _ _ _ _ hT7.h2).mono ?_; rintro r9 w8 ⟨rfl, hC8⟩; have hT8 := hT7.chg0 hC8) | (go_at_call 16; refine (hlen _ _ _ _ _ _ _ hT6.h1).mono ?_; rintro r9 w7 ⟨rfl, hC7⟩; have hT7 := hT6.chg0 hC7) | fail)
            go_roundg (min n 100 - (i + 1))
            case measure => omega
            case rel => exact ⟨i + 1, _, _, _, _, _, int_eq (by omega), rfl, by omega, hT8⟩
          · go_wp2_with (first | (go_at_call 12; refine (hna _).mono ?_; rintro r9 w9 ⟨rfl, rfl⟩) | (go_at_call 13; refine (haddL _ _ _ _ _ _ hT3.h2).mono ?_; rintro r9 w4 ⟨rfl, z4, k4, n4⟩; have hT4 := hT3.two k4 n4) | (go_at_call 13; refine (hadd1 _ _ _ _ _ _ (HT.out.h1.chg0 ((Chg.refl _ wr).alloc _))).mono ?_; rintro r9 w3 ⟨rfl, z3, k3, n3⟩; have hT3 := (HT.out.chg0 ((Chg.refl _ wr).alloc _)).one k3 n3; have hb3 := hb17.chg n3.chg (fun hf => by have := (HT.out.h1.lt hf).2; omega); obtain ⟨e2, e4, e5, el⟩ := hcl _ hb3; clear e4 e5) | (go_at_call 26; refine (hrank _ _ _ _ _ _ _ hT5.h2).mono ?_; rintro r9 w6 ⟨rfl, z6, k6, n6⟩; have hT6 := hT5.two k6 n6) | (go_at_call 26; refine (hrank _ _ _ _ _ _ _ hT4.h1).mono ?_; rintro r9 w5 ⟨rfl, z5, k5, n5⟩; have hT5 := hT4.one k5 n5) | (go_at_call 16; refine (hlen _ _ _ _ _ _ _ hT7.h2).mono ?_; rintro r9 w8 ⟨rfl, hC8⟩; have hT8 := hT7.chg0 hC8) | (go_at_call 16; refine (hlen _ _ _ _ _ _ _ hT6.h1).mono ?_; rintro r9 w7 ⟨rfl, hC7⟩; have hT7 := hT6.chg0 hC7) | fail)
            go_roundg (min n 100 - (i + 1))
            case measure => omega
            case rel => exact ⟨i + 1, _, _, _, _, _, int_eq (by omega), rfl, by omega, hT8⟩
          · go_wp2_with (first | (go_at_call 12; refine (hna _).mono ?_; rintro r9 w9 ⟨rfl, rfl⟩) | (go_at_call 13; refine (haddL _ _ _ _ _ _ hT3.h2).mono ?_; rintro r9 w4 ⟨rfl, z4, k4, n4⟩; have hT4 := hT3.two k4 n4) | (go_at_call 13; refine (hadd1 _ _ _ _ _ _ (HT.out.h1.chg0 ((Chg.refl _ wr).alloc _))).mono ?_; rintro r9 w3 ⟨rfl, z3, k3, n3⟩; have hT3 := (HT.out.chg0 ((Chg.refl _ wr).alloc _)).one k3 n3; have hb3 := hb17.chg n3.chg (fun hf => by have := (HT.out.h1.lt hf).2; omega); obtain ⟨e2, e4, e5, el⟩ := hcl _ hb3; clear e4 e5) | (go_at_call 26; refine (hrank _ _ _ _ _ _ _ hT5.h2).mono ?_; rintro r9 w6 ⟨rfl, z6, k6, n6⟩; have hT6 := hT5.two k6 n6) | (go_at_call 26; refine (hrank _ _ _ _ _ _ _ hT4.h1).mono ?_; rintro r9 w5 ⟨rfl, z5, k5, n5⟩; have hT5 := hT4.one k5 n5) | (go_at_call 16; refine (hlen _ _ _ _ _ _ _ hT7.h2).mono ?_; rintro r9 w8 ⟨rfl, hC8⟩; have hT8 := hT7.chg0 hC8) | (go_at_call 16; refine (hlen _ _ _ _ _ _ _ hT6.h1).mono ?_; rintro r9 w7 ⟨rfl, hC7⟩; have hT7 := hT6.chg0 hC7) | fail)
            go_roundg (min n 100 - (i + 1))
            case measure => omega
            case rel => exact ⟨i + 1, _, _, _, _, _, int_eq (by omega), rfl, by omega, hT8⟩
          · go_wp2_with (first | (go_at_call 12; refine (hna _).mono ?_; rintro r9 w9 ⟨rfl, rfl⟩) | (go_at_call 13; refine (haddL _ _ _ _ _ _ hT3.h2).mono ?_; rintro r9 w4 ⟨rfl, z4, k4, n4⟩; have hT4 := hT3.two k4 n4) | (go_at_call 13; refine (hadd1 _ _ _ _ _ _ (HT.out.h1.chg0 ((Chg.refl _ wr).alloc _))).mono ?_; rintro r9 w3 ⟨rfl, z3, k3, n3⟩; have hT3 := (HT.out.chg0 ((Chg.refl _ wr).alloc _)).one k3 n3; have hb3 := hb17.chg n3.chg (fun hf => by have := (HT.out.h1.lt hf).2; omega); obtain ⟨e2, e4, e5, el⟩ := hcl _ hb3; clear e4 e5) | (go_at_call 26; refine (hrank _ _ _ _ _ _ _ hT5.h2).mono ?_; rintro r9 w6 ⟨rfl, z6, k6, n6⟩; have hT6 := hT5.two k6 n6) | (go_at_call 26; refine (hrank _ _ _ _ _ _ _ hT4.h1).mono ?_; rintro r9 w5 ⟨rfl, z5, k5, n5⟩; have hT5 := hT4.one k5 n5) | (go_at_call 16; refine (hlen _ _ _ _ _ _ _ hT7.h2).mono ?_; rintro r9 w8 ⟨rfl, hC8⟩; have hT8 := hT7.chg0 hC8) | (go_at_call 16; refine (hlen _ _ _ _ _ _ _ hT6.h1).mono ?_; rintro r9 w7 ⟨rfl, hC7⟩; have hT7 := hT6.chg0 hC7) | fail)
            go_roundg (min n 100 - (i + 1))
            case measure => omega
            case rel => exact ⟨i + 1, _, _, _, _, _, int_eq (by omega), rfl, by omega, hT8⟩
          · go_wp2_with (first | (go_at_call 12; refine (hna _).mono ?_; rintro r9 w9 ⟨rfl, rfl⟩) | (go_at_call 14; refine (hrem _ _ _ _ _ _ _ hT3.h2).mono ?_; rintro r9 w4 ⟨rfl, z4, k4, n4⟩; have hT4 := hT3.two k4 n4) | (go_at_call 14; refine (hrem _ _ _ _ _ _ _ (HT.out.h1.chg0 ((Chg.refl _ wr).alloc _))).mono ?_; rintro r9 w3 ⟨rfl, z3, k3, n3⟩; have hT3 := (HT.out.chg0 ((Chg.refl _ wr).alloc _)).one k3 n3) | (go_at_call 26; refine (hrank _ _ _ _ _ _ _ hT5.h2).mono ?_; rintro r9 w6 ⟨rfl, z6, k6, n6⟩; have hT6 := hT5.two k6 n6) | (go_at_call 26; refine (hrank _ _ _ _ _ _ _ hT4.h1).mono ?_; rintro r9 w5 ⟨rfl, z5, k5, n5⟩; have hT5 := hT4.one k5 n5) | (go_at_call 16; refine (hlen _ _ _ _ _ _ _ hT7.h2).mono ?_; rintro r9 w8 ⟨rfl, hC8⟩; have hT8 := hT7.chg0 hC8) | (go_at_call 16; refine (hlen _ _ _ _ _ _ _ hT6.h1).mono ?_; rintro r9 w7 ⟨rfl, hC7⟩; have hT7 := hT6.chg0 hC7) | fail)
            go_roundg (min n 100 - (i + 1))
            case measure => omega
            case rel => exact ⟨i + 1, _, _, _, _, _, int_eq (by omega), rfl, by omega, hT8⟩
          · go_wp2_with (first | (go_at_call 12; refine (hna _).mono ?_; rintro r9 w9 ⟨rfl, rfl⟩) | (go_at_call 14; refine (hrem _ _ _ _ _ _ _ hT3.h2).mono ?_; rintro r9 w4 ⟨rfl, z4, k4, n4⟩; have hT4 := hT3.two k4 n4) | (go_at_call 14; refine (hrem _ _ _ _ _ _ _ (HT.out.h1.chg0 ((Chg.refl _ wr).alloc _))).mono ?_; rintro r9 w3 ⟨rfl, z3, k3, n3⟩; have hT3 := (HT.out.chg0 ((Chg.refl _ wr).alloc _)).one k3 n3) | (go_at_call 26; refine (hrank _ _ _ _ _ _ _ hT5.h2).mono ?_; rintro r9 w6 ⟨rfl, z6, k6, n6⟩; have hT6 := hT5.two k6 n6) | (go_at_call 26; refine (hrank _ _ _ _ _ _ _ hT4.h1).mono ?_; rintro r9 w5 ⟨rfl, z5, k5, n5⟩; have hT5 := hT4.one k5 n5) | (go_at_call 16; refine (hlen _ _ _ _ _ _ _ hT7.h2).mono ?_; rintro r9 w8 ⟨rfl, hC8⟩; have hT8 := hT7.chg0 hC8) | (go_at_call 16; refine (hlen _ _ _ _ _ _ _ hT6.h1).mono ?_; rintro r9 w7 ⟨rfl, hC7⟩; have hT7 := hT6.chg0 hC7) | fail)
            go_roundg (min n 100 - (i + 1))
            case measure => omega
            case rel => exact ⟨i + 1, _, _, _, _, _, int_eq (by omega), rfl, by omega, hT8⟩
          · generalize cutN es.length x.F x.T = cn at hcut
            go_wp2_with (first | (go_at_call 12; refine (hna _).mono ?_; rintro r9 w9 ⟨rfl, rfl⟩) | fail)
            go_region_held3 (fun W' => W'.cell? ⟨wr.heap.size, 4, none⟩ = some (.int .i64 x.F) ∧ W'.cell? ⟨wr.heap.size, 5, none⟩ = some (.int .i64 x.T)) (first | exact hcl2 _ hb17.drew | exact hcl2 _ hb4 | exact hcl2 _ hb3 | fail) (first | (go_at_call 28; refine (hcut _ _ _ _ _ _ _ hT3.h2).mono ?_; rintro r9 w4 ⟨rfl, z4, k4, n4⟩; have hT4 := hT3.two k4 n4; have hb4 := hb3.chg n4.chg (fun hf => by have := (HT.out.h2.lt hf).2; omega)) | (go_at_call 28; refine (hcut _ _ _ _ _ _ _ (HT.out.h1.chg0 ((Chg.refl _ wr).alloc _).drew)).mono ?_; rintro r9 w3 ⟨rfl, z3, k3, n3⟩; have hT3 := (HT.out.chg0 ((Chg.refl _ wr).alloc _).drew).one k3 n3; have hb3 := hb17.drew.chg n3.chg (fun hf => by have := (HT.out.h1.lt hf).2; omega)) | fail)
            all_goals
              go_wp2_with (first | (go_at_call 26; refine (hrank _ _ _ _ _ _ _ hT5.h2).mono ?_; rintro r9 w6 ⟨rfl, z6, k6, n6⟩; have hT6 := hT5.two k6 n6) | (go_at_call 26; refine (hrank _ _ _ _ _ _ _ hT4.h1).mono ?_; rintro r9 w5 ⟨rfl, z5, k5, n5⟩; have hT5 := hT4.one k5 n5) | (go_at_call 16; refine (hlen _ _ _ _ _ _ _ hT7.h2).mono ?_; rintro r9 w8 ⟨rfl, hC8⟩; have hT8 := hT7.chg0 hC8) | (go_at_call 16; refine (hlen _ _ _ _ _ _ _ hT6.h1).mono ?_; rintro r9 w7 ⟨rfl, hC7⟩; have hT7 := hT6.chg0 hC7) | fail)
              go_roundg (min n 100 - (i + 1))
              case measure => omega
              case rel => exact ⟨i + 1, _, _, _, _, _, int_eq (by omega), rfl, by omega, hT8⟩
      · have i1' : (i : Int) < (n : Int) := by omega
        have i2' : ¬ (i : Int) < 100 := by omega
        have hrg := fun W b z is E M (h : Ow wb W b z es is E M) => (ow_range h 0 (es.length : Int))
        rw [sub_all] at hrg
        unfold RgPost at hrg
        unfold pt at hrg
        have hsm := fun v v2 W (h : EntsR W v es) (h' : EntsR W v2 es) => same_any v v2 es W h h' (by omega)
        go_wp2_with (first | (go_at_call 19; refine (hsm _ _ _ (e1.chg0 (hC3.trans hC4)) e2).mono ?_; rintro r9 w5 ⟨rfl, hC5⟩) | (go_at_call 20; refine (hrg _ _ _ _ _ _ (hT3.h2)).mono ?_; rintro r9 w4 ⟨⟨v4, rfl, e4⟩, hC4⟩; have e2 := e4.r; obtain ⟨p4, c4, rfl, _, _, _⟩ := e4.is) | (go_at_call 20; refine (hrg _ _ _ _ _ _ (hT1.h1)).mono ?_; rintro r9 w2 ⟨⟨v2', rfl, e3⟩, hC2⟩; have e1 := e3.r; obtain ⟨p3, c3, rfl, _, _, _⟩ := e3.is; have hT2 := hT1.chg0 hC2) | (go_at_call 16; refine (hlen _ _ _ _ _ _ _ hT2.h2).mono ?_; rintro r9 w3 ⟨rfl, hC3⟩; have hT3 := hT2.chg0 hC3) | (go_at_call 16; refine (hlen _ _ _ _ _ _ _ hT.h1).mono ?_; rintro r9 w1 ⟨rfl, hC1⟩; have hT1 := hT.chg0 hC1) | fail)
        go_ret
        exact ⟨rfl, hCw _ (hT3.h1.chg.trans (hC4.trans hC5))⟩
    · have i1' : ¬ (i : Int) < (n : Int) := by omega
      have hrg := fun W b z is E M (h : Ow wb W b z es is E M) => (ow_range h 0 (es.length : Int))
      rw [sub_all] at hrg
      unfold RgPost at hrg
      unfold pt at hrg
      have hsm := fun v v2 W (h : EntsR W v es) (h' : EntsR W v2 es) => same_any v v2 es W h h' (by omega)
      go_wp2_with (first | (go_at_call 19; refine (hsm _ _ _ (e1.chg0 (hC3.trans hC4)) e2).mono ?_; rintro r9 w5 ⟨rfl, hC5⟩) | (go_at_call 20; refine (hrg _ _ _ _ _ _ (hT3.h2)).mono ?_; rintro r9 w4 ⟨⟨v4, rfl, e4⟩, hC4⟩; have e2 := e4.r; obtain ⟨p4, c4, rfl, _, _, _⟩ := e4.is) | (go_at_call 20; refine (hrg _ _ _ _ _ _ (hT1.h1)).mono ?_; rintro r9 w2 ⟨⟨v2', rfl, e3⟩, hC2⟩; have e1 := e3.r; obtain ⟨p3, c3, rfl, _, _, _⟩ := e3.is; have hT2 := hT1.chg0 hC2) | (go_at_call 16; refine (hlen _ _ _ _ _ _ _ hT2.h2).mono ?_; rintro r9 w3 ⟨rfl, hC3⟩; have hT3 := hT2.chg0 hC3) | (go_at_call 16; refine (hlen _ _ _ _ _ _ _ hT.h1).mono ?_; rintro r9 w1 ⟨rfl, hC1⟩; have hT1 := hT.chg0 hC1) | fail)
      go_ret
      exact ⟨rfl, hCw _ (hT3.h1.chg.trans (hC4.trans hC5))⟩
set_option maxRecDepth 100000 in
theorem ZsetForms_walk (W : World) {H : Type} {enc : TypeId × Value → H} {v0 : Value} {d0 : DataW H} {p0 : List MemPlace} (hv0 : Value.okWide Tryz.prog W .any 0 23 v0) (h0 : DataW.Trod enc Tryz.prog W 0 (fun _ => true) true 23 v0 d0 p0)
    {v1 : Value} {d1 : DataW H} {p1 : List MemPlace} (hv1 : Value.okWide Tryz.prog W .any 0 23 v1) (h1 : DataW.Trod enc Tryz.prog W 0 (fun _ => true) true 23 v1 d1 p1)
    (a2 : Int) (w2 : (Lit.int .u32 a2).wf = true) (a3 : Int) (w3 : (Lit.int .u32 a3).wf = true) {v : Value} {d : DataW H} {p : List MemPlace} (hv : Value.okWide Tryz.prog W .any 0 25 v) (h : DataW.Trod enc Tryz.prog W 0 (fun _ => true) true 25 v d p)
    {v5 : Value} {d5 : DataW H} {p5 : List MemPlace} (hv5 : Value.okWide Tryz.prog W .any 0 55 v5) (h5 : DataW.Trod enc Tryz.prog W 0 (fun _ => true) true 55 v5 d5 p5) :
    Calls Tryz.prog 5 #[v0, v1, .int .u32 a2, .int .u32 a3, v, v5] W fun e w' => e = .returned (.bool true) ∧ Chg (fun _ => False) W w' := by
  obtain ⟨A0, A1, rfl, _, _⟩ := open_limits hv0 h0
  obtain ⟨B0, B1, rfl, _, _⟩ := open_limits hv1 h1
  obtain ⟨s2, rfl, k2⟩ := u32_of_wf w2
  obtain ⟨s3, rfl, k3⟩ := u32_of_wf w3
  obtain ⟨n, g, hg⟩ := open_actsZ hv h
  obtain ⟨n5, g5, hg5⟩ := open_ints1 hv5 h5
  exact walk A0 A1 B0 B1 s2 s3 k2 k3 v n g v5 n5 g5 W hg hg5
end Go.Proofs.YtifcpippfiglkaaGreat.zsetForms
