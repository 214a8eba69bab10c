/- Texts joined for ZsetRanges: RE, RLE, RI, RSO, RZ. -/
import Derived.Test.YtifcpippfiglkaaGreatJZsetWaysb
import Derived.Test.YtifcpippfiglkaaGreatJZsetWayse
import Derived.Test.YtifcpippfiglkaaGreatJZsetWaysf
import Derived.Test.YtifcpippfiglkaaGreatJZsetWaysj
import Derived.Test.YtifcpippfiglkaaGreatJZsetWaysn
import Derived.Test.YtifcpippfiglkaaGreatJZsetWaysq
import Derived.Deep.LoopGhost
import Derived.Deep.RegionHeld3
set_option linter.unusedVariables false
set_option linter.unusedSimpArgs false

/- palioref05: the document's lists of entries. -/
namespace Go.Proofs.YtifcpippfiglkaaGreat
open Go.RowKit Pal
attribute [local go_sem] Oper.semAt_some

theorem EntsR.read {w : World} {p : Option Addr} {n c : Nat} {l : List En} (h : EntsR w (.slice p n c) l) : Reads w w.heap.size 2 p n (l.flatMap En.cells) := by
  obtain ⟨p', c0, e, h1, h2, h3⟩ := h
  injection e with e1 e2 e3
  subst e1
  rw [e2]; exact h3
theorem EntsR.take {w : World} {p : Option Addr} {n c : Nat} {l : List En} (h : EntsR w (.slice p n c) l) {k : Nat} (hk : k ≤ l.length) (hc : k ≤ c ∧ c ≤ maxLen) : EntsR w (.slice p k c) (l.take k) := by
  have := h.part (f := 0) (t := k) (Nat.zero_le _) hk p (fun _ => by cases p with | none => rfl | some a => simp [Addr.add]) c ⟨by omega, hc.2⟩
  rw [Nat.sub_zero, List.drop_zero] at this
  exact this
theorem EntsR.drop {w : World} {p : Option Addr} {n c : Nat} {l : List En} (h : EntsR w (.slice p n c) l) {k : Nat} (hk : k ≤ l.length) (hn : n = l.length) (A : Option Addr) (hA : k < l.length → A = p.map (fun x => x.add (k * 2))) (c' : Nat) (hc : l.length - k ≤ c' ∧ c' ≤ maxLen) : EntsR w (.slice A (n - k) c') (l.drop k) := by
  have := h.part (f := k) (t := l.length) hk (Nat.le_refl _) A hA c' hc
  rw [List.take_of_length_le (by rw [List.length_drop]; exact Nat.le_refl _)] at this
  rw [hn]; exact this

theorem findR_any (v : Value) (l : List En) (m : ByteArray) (w : World) (h : EntsR w v l) (hl : l.length ≤ 1000) : Calls Tryz.prog 25 #[v, .string m] w fun r w' => r = .returned (.int .i64 (findI l m 0)) ∧ w = w' := by
  have h0 := h
  obtain ⟨p, c, rfl, h1, h2, _⟩ := h
  go_enter Tryz.func25, Tryz.ntmps25
  go_wp2_with fail
  go_loopg [5] l.length (fun k v W => ∃ i : Nat, v = .int .i64 (i : Int) ∧ k = l.length - i ∧ i ≤ l.length ∧ w = W ∧ Hid (findI l m 0 = findI (l.drop i) m i))
  case atStart => exact ⟨0, rfl, rfl, Nat.zero_le _, rfl, rfl⟩
  case round =>
    obtain ⟨i, rfl, rfl, hi, rfl, hf⟩ := hrel
    by_cases hil : i < l.length
    · have h3 : (i : Int) < (l.length : Int) := by omega
      have hx := List.getElem?_eq_getElem hil
      have hd : l.drop i = l[i] :: l.drop (i + 1) := List.drop_eq_getElem_cons hil
      generalize l[i] = e at hx hd
      obtain ⟨b, o, c', he, k1, k2, k3, d0, d1⟩ := h0.at_ hx
      injection he with he1 he2 he3
      subst he1
      subst he3
      have hil2 : (l.length : Int) ≤ 1000 := by omega
      by_cases hem : e.m = m
      · have hf2 : Hid (findI l m 0 = (i : Int)) := by show _ = _; rw [hf, hd]; exact if_pos hem
        have hb := toListE m
        rw [hem] at d0
        clear hf hd hx he2 hem
        go_wp2_with fail
        go_ret
        exact ⟨by rw [hf2.out]; rfl, rfl⟩
      · have hf2 : Hid (findI l m 0 = findI (l.drop (i + 1)) m (i + 1)) := by show _ = _; rw [hf, hd]; exact if_neg hem
        have hb := toListN hem
        clear hf hd hx he2 hem
        go_wp2_with fail
        go_roundg (l.length - (i + 1))
        case rel => exact ⟨i + 1, int_eq (by omega), rfl, by omega, rfl, hf2⟩
        case measure => omega
    · obtain rfl : i = l.length := by omega
      have h3 : ¬ (l.length : Int) < (l.length : Int) := by omega
      have hf2 : Hid (findI l m 0 = -1) := by show _ = _; rw [hf, List.drop_length]; rfl
      clear hf
      go_wp2_with fail
      go_ret
      exact ⟨by rw [hf2.out]; rfl, rfl⟩
set_option maxRecDepth 100000 in
set_option maxHeartbeats 1000000 in
theorem delR_any (v : Value) (l : List En) (k : Nat) (w : World) (h : EntsR w v l) (hk : k < l.length) (hl : l.length ≤ 1000) : Calls Tryz.prog 56 #[v, .int .i64 (k : Int)] w (RgPost w (delE l k)) := by
  obtain ⟨i0, hi0, hz0, hz1, hz2⟩ := info_parts ent_info
  have h0 := h
  obtain ⟨p, c, rfl, h1, h2, h3⟩ := h
  have h2' := h2
  unfold maxLen at h2'
  obtain ⟨p, rfl, _⟩ := h3.2 (by omega)
  clear h3
  have hA := (h0.take (k := k) (by omega) ⟨by omega, h2⟩).read
  have hB1 := fun A hA c' hc => (h0.drop (k := k + 1) (by omega) rfl A hA c' hc).read
  have x1 : (k : Int) ≤ (c : Int) := by omega
  have x2 : (k : Int) + 1 ≤ (l.length : Int) := by omega
  have x3 : (l.length : Int) ≤ (c : Int) := by omega
  have x4 : (l.length : Int) ≤ 1000 := by omega
  have x5 : (k : Int) ≤ (l.length : Int) := by omega
  have m1 : 0 + k ≤ maxLen := by unfold maxLen; omega
  have m2 : (0 + k) * 24 ≤ 140737488355328 := by omega
  have m3 : 0 + k + (l.length - (k + 1)) ≤ maxLen := by unfold maxLen; omega
  have m4 : (0 + k + (l.length - (k + 1))) * 24 ≤ 140737488355328 := by omega
  unfold RgPost delE
  have hfin : ∀ (v2 : Value) (w1 w2 : World), w2.ownsRow w.heap.size 54 2 v2 (0 + k + (l.length - (k + 1))) ([] ++ (l.take k).flatMap En.cells ++ (l.drop (k + 1)).flatMap En.cells) → Ents w2 w.heap.size v2 (l.take k ++ l.drop (k + 1)) := fun v2 w1 w2 h => Ents.mk h (by rw [List.length_append, List.length_take, List.length_drop]; omega) (by rw [List.nil_append, List.flatMap_append])
  replace hfin := Lib.hid hfin
  clear h0 hl hk
  by_cases hcap : c = k + 1
  · subst hcap
    have x7 : l.length = k + 1 := by omega
    have hB2 := hB1 (some p) (fun h => by omega) 0 ⟨by omega, Nat.zero_le _⟩
    have e0 : l.length - (k + 1) = 0 := by omega
    rw [e0] at hB2 hfin m3 m4
    clear e0
    replace x7 := Lib.hid x7
    clear hB1
    go_enter Tryz.func56, Tryz.ntmps56
    go_wp2_with (first
      | (at_builtin; refine wpList_append_any _ rfl (.tmp 6) (.tmp 9) 43 rfl w.heap.size 54 i0 _ 2 24 Tryz.underlying43 hi0 hz0 hz1 hz2 rfl (by omega) _ 0 [] rfl (World.ownsRow_nil w w.heap.size _ 2) w.heap.size (some p) k (k + 1) _ rfl hA (ents_one _) m1 m2 (Nat.le_refl _) ?_; intro v1 w1 hown1 hg1 _; have hC1 : Chg (fun _ => False) w w1 := Chg.of_grown hg1 (fun g h => by cases h))
      | (at_builtin; refine wpList_append_any _ rfl (.tmp 11) (.tmp 15) 43 rfl w.heap.size 54 i0 _ 2 24 Tryz.underlying43 hi0 hz0 hz1 hz2 rfl (by omega) _ (0 + k) _ rfl hown1 w.heap.size (some p) 0 _ _ rfl (hB2.chg hC1 (Nat.le_refl _) fun _ _ => id) (ents_one _) m3 m4 hC1.size ?_; intro v2 w2 hown2 hg2 _)
      | fail)
    all_goals
      go_ret
      exact ⟨⟨_, rfl, hfin.out v2 w1 w2 hown2⟩, hC1.trans' (app_chg hown1 hg2) fun g hl h => by omega⟩
  · have hB2 := hB1 _ (fun _ => rfl) (c - (k + 1)) ⟨by omega, by unfold maxLen; omega⟩
    clear hB1
    go_enter Tryz.func56, Tryz.ntmps56
    go_wp2_with (first
      | (at_builtin; refine wpList_append_any _ rfl (.tmp 6) (.tmp 9) 43 rfl w.heap.size 54 i0 _ 2 24 Tryz.underlying43 hi0 hz0 hz1 hz2 rfl (by omega) _ 0 [] rfl (World.ownsRow_nil w w.heap.size _ 2) w.heap.size (some p) k c _ rfl hA (ents_one _) m1 m2 (Nat.le_refl _) ?_; intro v1 w1 hown1 hg1 _; have hC1 : Chg (fun _ => False) w w1 := Chg.of_grown hg1 (fun g h => by cases h))
      | (at_builtin; refine wpList_append_any _ rfl (.tmp 11) (.tmp 15) 43 rfl w.heap.size 54 i0 _ 2 24 Tryz.underlying43 hi0 hz0 hz1 hz2 rfl (by omega) _ (0 + k) _ rfl hown1 w.heap.size (some (p.add ((k + 1) * 2))) (l.length - (k + 1)) (c - (k + 1)) _ rfl (hB2.chg hC1 (Nat.le_refl _) fun _ _ => id) (ents_one _) m3 m4 hC1.size ?_; intro v2 w2 hown2 hg2 _)
      | fail)
    all_goals
      go_ret
      exact ⟨⟨_, rfl, hfin.out v2 w1 w2 hown2⟩, hC1.trans' (app_chg hown1 hg2) fun g hl h => by omega⟩
end Go.Proofs.YtifcpippfiglkaaGreat

/- palioref07.Less; palioref09.Less. -/
namespace Go.Proofs.YtifcpippfiglkaaGreat
open Go.RowKit Pal

theorem all37 {P : Array Value → Prop} (h : ∀ u0 u1 u2 u3 u4 u5 u6 u7 u8 u9 u10 u11 u12 u13 u14 u15 u16 u17 u18 u19 u20 u21 u22 u23 u24 u25 u26 u27 u28 u29 u30 u31 u32 u33 u34 u35 u36 : Value, P #[u0, u1, u2, u3, u4, u5, u6, u7, u8, u9, u10, u11, u12, u13, u14, u15, u16, u17, u18, u19, u20, u21, u22, u23, u24, u25, u26, u27, u28, u29, u30, u31, u32, u33, u34, u35, u36]) (a : Array Value) (hs : a.size = 37) : P a := by
  obtain ⟨l⟩ := a
  have g0 : l.length = 37 := hs
  clear hs
  obtain ⟨u0, l0, e0, g1⟩ := Pal.len_cons g0
  obtain ⟨u1, l1, e1, g2⟩ := Pal.len_cons g1
  obtain ⟨u2, l2, e2, g3⟩ := Pal.len_cons g2
  obtain ⟨u3, l3, e3, g4⟩ := Pal.len_cons g3
  obtain ⟨u4, l4, e4, g5⟩ := Pal.len_cons g4
  obtain ⟨u5, l5, e5, g6⟩ := Pal.len_cons g5
  obtain ⟨u6, l6, e6, g7⟩ := Pal.len_cons g6
  obtain ⟨u7, l7, e7, g8⟩ := Pal.len_cons g7
  obtain ⟨u8, l8, e8, g9⟩ := Pal.len_cons g8
  obtain ⟨u9, l9, e9, g10⟩ := Pal.len_cons g9
  obtain ⟨u10, l10, e10, g11⟩ := Pal.len_cons g10
  obtain ⟨u11, l11, e11, g12⟩ := Pal.len_cons g11
  obtain ⟨u12, l12, e12, g13⟩ := Pal.len_cons g12
  obtain ⟨u13, l13, e13, g14⟩ := Pal.len_cons g13
  obtain ⟨u14, l14, e14, g15⟩ := Pal.len_cons g14
  obtain ⟨u15, l15, e15, g16⟩ := Pal.len_cons g15
  obtain ⟨u16, l16, e16, g17⟩ := Pal.len_cons g16
  obtain ⟨u17, l17, e17, g18⟩ := Pal.len_cons g17
  obtain ⟨u18, l18, e18, g19⟩ := Pal.len_cons g18
  obtain ⟨u19, l19, e19, g20⟩ := Pal.len_cons g19
  obtain ⟨u20, l20, e20, g21⟩ := Pal.len_cons g20
  obtain ⟨u21, l21, e21, g22⟩ := Pal.len_cons g21
  obtain ⟨u22, l22, e22, g23⟩ := Pal.len_cons g22
  obtain ⟨u23, l23, e23, g24⟩ := Pal.len_cons g23
  obtain ⟨u24, l24, e24, g25⟩ := Pal.len_cons g24
  obtain ⟨u25, l25, e25, g26⟩ := Pal.len_cons g25
  obtain ⟨u26, l26, e26, g27⟩ := Pal.len_cons g26
  obtain ⟨u27, l27, e27, g28⟩ := Pal.len_cons g27
  obtain ⟨u28, l28, e28, g29⟩ := Pal.len_cons g28
  obtain ⟨u29, l29, e29, g30⟩ := Pal.len_cons g29
  obtain ⟨u30, l30, e30, g31⟩ := Pal.len_cons g30
  obtain ⟨u31, l31, e31, g32⟩ := Pal.len_cons g31
  obtain ⟨u32, l32, e32, g33⟩ := Pal.len_cons g32
  obtain ⟨u33, l33, e33, g34⟩ := Pal.len_cons g33
  obtain ⟨u34, l34, e34, g35⟩ := Pal.len_cons g34
  obtain ⟨u35, l35, e35, g36⟩ := Pal.len_cons g35
  obtain ⟨u36, l36, e36, g37⟩ := Pal.len_cons g36
  obtain rfl := List.eq_nil_of_length_eq_zero g37
  have e : (⟨l⟩ : Array Value) = #[u0, u1, u2, u3, u4, u5, u6, u7, u8, u9, u10, u11, u12, u13, u14, u15, u16, u17, u18, u19, u20, u21, u22, u23, u24, u25, u26, u27, u28, u29, u30, u31, u32, u33, u34, u35, u36] := by rw [e0, e1, e2, e3, e4, e5, e6, e7, e8, e9, e10, e11, e12, e13, e14, e15, e16, e17, e18, e19, e20, e21, e22, e23, e24, e25, e26, e27, e28, e29, e30, e31, e32, e33, e34, e35, e36]
  rw [e]
  exact h u0 u1 u2 u3 u4 u5 u6 u7 u8 u9 u10 u11 u12 u13 u14 u15 u16 u17 u18 u19 u20 u21 u22 u23 u24 u25 u26 u27 u28 u29 u30 u31 u32 u33 u34 u35 u36
def ActL (a b : ByteArray) (i : Nat) (x : Act) : Prop := x.tmps.size = 37 ∧ x.tmps[0]? = some (.string a) ∧ x.tmps[1]? = some (.string b) ∧ x.tmps[5]? = some (.int .i64 (i : Int)) ∧ x.defers = []
def InvL (w0 : World) (a b : ByteArray) (m : Nat) (x : Act) (w : World) : Prop :=
  ∃ i, m = a.size - i ∧ i ≤ a.size ∧ i ≤ b.size ∧ ActL a b i x ∧ (∃ n, w = w0.drewN n) ∧ a.data.toList.take i = b.data.toList.take i

set_option maxRecDepth 100000 in
set_option maxHeartbeats 1000000 in
theorem less7_any (a b : ByteArray) (w : World) (ha : a.size ≤ 9223372036854775807) (hb : b.size ≤ 9223372036854775807) :
    Calls Tryz.prog 67 #[.string a, .string b] w fun e w' => e = .returned (.bool (decide (ltB a b))) ∧ ∃ n, w' = w.drewN n := by
  go_enter Tryz.func67, Tryz.ntmps67
  go_wp2_with fail
  refine wp_loop_ghost (InvL w a b) a.size ?_ ?_
  · exact ⟨0, rfl, Nat.zero_le _, Nat.zero_le _, ⟨rfl, rfl, rfl, rfl, rfl⟩, ⟨0, rfl⟩, rfl⟩
  · rintro m ⟨tmps, ds⟩ W ⟨i, rfl, hia, hib, ⟨hsz, t0, t1, t5, rfl⟩, ⟨n, rfl⟩, ht⟩
    replace hsz : tmps.size = 37 := hsz
    dsimp only at t0 t1 t5
    revert t0 t1 t5
    revert hsz
    revert tmps
    refine all37 ?_
    intro u0 u1 u2 u3 u4 u5 u6 u7 u8 u9 u10 u11 u12 u13 u14 u15 u16 u17 u18 u19 u20 u21 u22 u23 u24 u25 u26 u27 u28 u29 u30 u31 u32 u33 u34 u35 u36 t0 t1 t5
    simp only [List.getElem?_toArray, List.getElem?_cons_zero, List.getElem?_cons_succ, Option.some.injEq] at t0 t1 t5
    subst t0 t1 t5
    by_cases h1 : i < a.size
    · have h1' : (i : Int) < (a.size : Int) := by omega
      by_cases h2 : i < b.size
      · have h2' : (i : Int) < (b.size : Int) := by omega
        have ta := take_snoc a i h1
        have tb := take_snoc b i h2
        by_cases he : a[i] = b[i]
        · have ht' : Hid (a.data.toList.take (i + 1) = b.data.toList.take (i + 1)) := by show _ = _; rw [ta, tb, ht, he]
          have hb1 : ((a[i].toNat : Int) != (b[i].toNat : Int)) = false := by rw [he]; simp
          clear ta tb he ht
          go_wp2_with fail
          go_quiet (fail)
          go_wp2_with fail
          exact ⟨a.size - (i + 1), by omega, i + 1, rfl, by omega, by omega, ⟨rfl, rfl, rfl, rfl, rfl⟩, ⟨_, rfl⟩, ht'.out⟩
        · have hl := ltB_at ht h1 h2 he
          have hb1 : ((a[i].toNat : Int) != (b[i].toNat : Int)) = true := by
            rw [bne_iff_ne]
            intro e
            exact he (UInt8.toNat_inj.1 (by omega))
          have hd : decide (a[i].toNat < b[i].toNat) = decide (ltB a b) := by
            rw [decide_eq_decide, hl, UInt8.lt_iff_toNat_lt]
          replace hd := Lib.hid hd
          replace hl := Lib.hid hl
          clear ta tb he ht
          go_wp2_with fail
          go_quiet (fail)
          go_wp2_with fail
          go_quiet (fail)
          go_wp2_with fail
          go_ret
          exact ⟨by show Ending.returned (.bool (decide (a[i].toNat < b[i].toNat))) = _; rw [hd.out], _, by rw [World.drewN_drewN, World.drewN_drewN]⟩
      · have hl := ltB_len ht (.inr (by omega)) hia hib
        have h2' : ((i : Int) < (b.size : Int)) = False := by simp only [eq_iff_iff, iff_false]; omega
        have h22 : (i < b.size) = False := by simp only [eq_iff_iff, iff_false]; omega
        have hd : decide (a.size < b.size) = decide (ltB a b) := by rw [decide_eq_decide, hl]
        replace hd := Lib.hid hd
        replace hl := Lib.hid hl
        clear h2
        go_wp2_with fail
        go_ret
        exact ⟨by show Ending.returned (.bool (decide (a.size < b.size))) = _; rw [hd.out], _, rfl⟩
    · have hl := ltB_len ht (.inl (by omega)) hia hib
      have h1' : ((i : Int) < (a.size : Int)) = False := by simp only [eq_iff_iff, iff_false]; omega
      have h12 : (i < a.size) = False := by simp only [eq_iff_iff, iff_false]; omega
      have hd : decide (a.size < b.size) = decide (ltB a b) := by rw [decide_eq_decide, hl]
      replace hd := Lib.hid hd
      replace hl := Lib.hid hl
      clear h1
      go_wp2_with fail
      go_ret
      exact ⟨by show Ending.returned (.bool (decide (a.size < b.size))) = _; rw [hd.out], _, rfl⟩

/-! ### put in order -/
theorem chg_drewN {S : Nat → Prop} (w : World) (n : Nat) : Chg S w (w.drewN n) := by
  exact (Chg.refl _ w).drewN n
set_option maxRecDepth 100000 in
set_option maxHeartbeats 1000000 in
theorem less9_any (a b : En) (w : World) (ha : a.m.size ≤ 9223372036854775807) (hb : b.m.size ≤ 9223372036854775807) : Calls Tryz.prog 77 #[a.val, b.val] w fun r w' => r = .returned (.bool (decide (ltE a b))) ∧ Chg (fun _ => False) w w' := by
  have hls := fun w => less7_any a.m b.m w ha hb
  unfold En.val
  by_cases h1 : a.s < b.s
  · have e : decide (ltE a b) = true := decide_eq_true (.inl h1)
    rw [e]
    go_enter Tryz.func77, Tryz.ntmps77
    go_wp2_with fail
    go_ret
    exact ⟨rfl, ((Chg.refl _ _).alloc _).alloc _⟩
  · by_cases h2 : a.s = b.s
    · have e : decide (ltE a b) = decide (ltB a.m b.m) := by
        rw [decide_eq_decide]
        exact ⟨fun h => h.elim (fun h => absurd h h1) (·.2), fun h => .inr ⟨h2, h⟩⟩
      rw [e]
      have h3 : (a.s == b.s) = true := by rw [h2]; simp
      go_enter Tryz.func77, Tryz.ntmps77
      go_wp2_with (go_at_call 67; refine (hls _).mono ?_; rintro r w1 ⟨rfl, k, rfl⟩)
      go_ret
      exact ⟨rfl, (((Chg.refl _ _).alloc _).alloc _).trans (chg_drewN _ _)⟩
    · have e : decide (ltE a b) = false := decide_eq_false fun h => h.elim h1 fun h => h2 h.1
      rw [e]
      have h3 : (a.s == b.s) = false := by simpa using h2
      go_enter Tryz.func77, Tryz.ntmps77
      go_wp2_with fail
      go_ret
      exact ⟨rfl, ((Chg.refl _ _).alloc _).alloc _⟩
end Go.Proofs.YtifcpippfiglkaaGreat

/- palioref05.Insert; palioref11.Sorted. -/
namespace Go.Proofs.YtifcpippfiglkaaGreat
open Go.RowKit Pal
attribute [local go_sem] Oper.semAt_some

theorem reads_ent (W : World) (e : En) : Reads (W.alloc (.cells #[.string e.m, .int .i64 e.s] 54)) (W.alloc (.cells #[.string e.m, .int .i64 e.s] 54)).heap.size 2 (some ⟨W.heap.size, 0, none⟩) 1 [.string e.m, .int .i64 e.s] := by
  refine ⟨rfl, fun _ => ⟨_, rfl, (Blk.new W 54 #[.string e.m, .int .i64 e.s]).lt, fun j u hu => ?_⟩⟩
  rw [addr_add', Nat.zero_add, (Blk.new W 54 #[.string e.m, .int .i64 e.s]).cell]
  simpa using hu
set_option maxRecDepth 100000 in
set_option maxHeartbeats 4000000 in
theorem insR_any (v : Value) (l : List En) (k : Nat) (e : En) (w : World) (h : EntsR w v l) (hk : k ≤ l.length) (hl : l.length ≤ 1000) : Calls Tryz.prog 78 #[v, .int .i64 (k : Int), e.val] w (RgPost w (l.take k ++ e :: l.drop k)) := by
  obtain ⟨i0, hi0, hz0, hz1, hz2⟩ := info_parts ent_info
  have h0 := h
  obtain ⟨p, c, rfl, h1, h2, _⟩ := h
  have h2' := h2
  unfold maxLen at h2'
  have hA := (h0.take (k := k) hk ⟨by omega, h2⟩).read
  have hB1 := fun A hA c' hc => (h0.drop (k := k) hk rfl A hA c' hc).read
  have x1 : (k : Int) ≤ (c : Int) := by omega
  have x2 : (k : Int) ≤ (l.length : Int) := by omega
  have x3 : (l.length : Int) ≤ (c : Int) := by omega
  have x4 : (l.length : Int) ≤ 1000 := by omega
  have m1 : 0 + k ≤ maxLen := by unfold maxLen; omega
  have m2 : (0 + k) * 24 ≤ 140737488355328 := by omega
  have m3 : 0 + k + 1 ≤ maxLen := by unfold maxLen; omega
  have m4 : (0 + k + 1) * 24 ≤ 140737488355328 := by omega
  have m5 : 0 + k + 1 + (l.length - k) ≤ maxLen := by unfold maxLen; omega
  have m6 : (0 + k + 1 + (l.length - k)) * 24 ≤ 140737488355328 := by omega
  have hone : ∀ u ∈ [Value.string e.m, Value.int .i64 e.s], u.oneCell' = true := by
    intro u hu
    rcases List.mem_cons.1 hu with rfl | hu
    · rfl
    · rw [List.mem_singleton] at hu; rw [hu]; rfl
  unfold RgPost En.val
  have hfin : ∀ (v2 : Value) (w2 : World), w2.ownsRow w.heap.size 54 2 v2 (0 + k + 1 + (l.length - k)) ([] ++ (l.take k).flatMap En.cells ++ [.string e.m, .int .i64 e.s] ++ (l.drop k).flatMap En.cells) → Ents w2 w.heap.size v2 (l.take k ++ e :: l.drop k) := fun v2 w2 h => Ents.mk h (by rw [List.length_append, List.length_cons, List.length_take, List.length_drop]; omega) (by rw [List.nil_append, List.flatMap_append, List.flatMap_cons, List.append_assoc]; rfl)
  replace hfin := Lib.hid hfin
  clear hl hk
  obtain ⟨W4, hW4⟩ : ∃ W4, W4 = w.alloc (.cells #[.string e.m, .int .i64 e.s] 54) := ⟨_, rfl⟩
  have hC0 := (Chg.refl (fun _ => False) w).alloc (.cells #[.string e.m, .int .i64 e.s] 54)
  have hbx := Blk.new w 54 #[.string e.m, .int .i64 e.s]
  rw [← hW4] at hC0 hbx
  have hWW : w.heap.size ≤ W4.heap.size := hC0.size
  have hgen : ∀ W', Chg (fun _ => False) W4 W' → W'.cell? ⟨w.heap.size, 0, none⟩ = some (.string e.m) ∧ W'.cell? ⟨w.heap.size, 1, none⟩ = some (.int .i64 e.s) := fun W' hc => ⟨by have := (hbx.chg hc id).cell 0; simpa using this, by have := (hbx.chg hc id).cell 1; simpa using this⟩
  have hrO : ∀ W', Chg (fun _ => False) W4 W' → Reads W' W4.heap.size 2 p k ((l.take k).flatMap En.cells) := fun W' hc => (hA.chg (hC0.trans hc) (Nat.le_refl _) fun _ _ => id).more hWW
  by_cases hcap : c = k
  · have e1 : l.length - k = 0 := by omega
    have hB2 := hB1 p (fun h => by omega) 0 ⟨by omega, Nat.zero_le _⟩
    subst hcap
    rw [e1] at hB2 hfin m5 m6
    have hBW : ∀ W', Chg (fun _ => False) W4 W' → Reads W' W4.heap.size 2 p 0 ((l.drop c).flatMap En.cells) := fun W' hc => (hB2.chg (hC0.trans hc) (Nat.le_refl _) fun _ _ => id).more hWW
    clear hB1 hB2 h0 hbx
    go_enter Tryz.func78, Tryz.ntmps78
    go_wp2_with fail
    rw [← hW4]
    clear hW4
    go_region_held3 (fun w' => w'.cell? ⟨w.heap.size, 0, none⟩ = some (.string e.m) ∧ w'.cell? ⟨w.heap.size, 1, none⟩ = some (.int .i64 e.s)) (first | exact hgen _ (Chg.refl _ _).drew | exact hgen _ ((Chg.refl _ _).alloc _).drew | exact hgen _ hc6 | exact hgen _ (hc6.alloc _) | exact hgen _ (hc6.alloc _).drew | exact hgen _ hc7 | fail)
      (first
        | (refine step_append_any _ (by rfl) (.tmp 8) (.tmp 11) 43 (by rfl) w.heap.size 54 i0 _ 2 24 Tryz.underlying43 hi0 hz0 hz1 hz2 rfl (by omega) _ 0 [] (by rfl) (World.ownsRow_nil _ w.heap.size 54 2) W4.heap.size p c _ ((l.take c).flatMap En.cells) (by rfl) (hrO _ (by first | exact (Chg.refl _ _).drew | exact ((Chg.refl _ _).alloc _).drew)) (ents_one _) m1 m2 (by first | exact hWW | exact Nat.le_trans hWW (by simp)) ?_; intro v6 w6 hown6 hg6 hat6; have hc6 : Chg (fun _ => False) W4 w6 := (show Chg (fun _ => False) W4 _ from (by first | exact (Chg.refl _ _).drew | exact ((Chg.refl _ _).alloc _).drew)).trans (Chg.of_grown hg6 (fun g h => by cases h)); have hS6 : ∀ W', Chg (fun _ => False) w6 W' → W'.ownsRow w.heap.size 54 2 v6 _ _ := fun W' hc => own_stay hown6 (.of_chg hc) (fun _ _ => id); have hv6 : ∀ g, v6.ownBlock = some g → W4.heap.size ≤ g := fun g hg => by rcases hat6 with h | h; (rw [h] at hg; cases hg); (rw [h] at hg; injection hg with hg; rw [← hg]; simp))
        | (first
          | (refine step_append_any _ (by rfl) (.tmp 12) (.tmp 14) 43 (by rfl) w.heap.size 54 i0 _ 2 24 Tryz.underlying43 hi0 hz0 hz1 hz2 rfl (by omega) _ _ _ (by rfl) (hS6 _ ((Chg.refl _ _).alloc _)) (w6.alloc (.cells #[.string e.m, .int .i64 e.s] 54)).heap.size (some ⟨w6.heap.size, 0, none⟩) 1 1 [.string e.m, .int .i64 e.s] (by rfl) (reads_ent w6 e) hone m3 m4 (Nat.le_trans hWW (by first | exact hc6.size | exact (hc6.alloc _).size)) ?_; intro v7 w7 hown7 hg7 hat7; have hc7 : Chg (fun _ => False) W4 w7 := (show Chg (fun _ => False) W4 _ from (by first | exact hc6 | exact (hc6.alloc _) | exact (hc6.alloc _).drew)).trans' (Chg.of_grown hg7 (fun g h => h)) (fun g hl h' => by have := hv6 g h'; omega))
          | (refine step_append_any _ (by rfl) (.tmp 12) (.tmp 14) 43 (by rfl) w.heap.size 54 i0 _ 2 24 Tryz.underlying43 hi0 hz0 hz1 hz2 rfl (by omega) _ _ _ (by rfl) (hS6 _ (Chg.refl _ _)) (W4.alloc (.cells #[.string e.m, .int .i64 e.s] 54)).heap.size (some ⟨W4.heap.size, 0, none⟩) 1 1 [.string e.m, .int .i64 e.s] (by rfl) ((reads_ent W4 e).chg (S := fun _ => False) (((Chg.refl _ _).drew).trans (Chg.of_grown hg6 (fun g h => by cases h))) (Nat.le_refl _) (fun _ _ => id)) hone m3 m4 (Nat.le_trans hWW (by first | exact hc6.size | exact (hc6.alloc _).size)) ?_; intro v7 w7 hown7 hg7 hat7; have hc7 : Chg (fun _ => False) W4 w7 := (show Chg (fun _ => False) W4 _ from (by first | exact hc6 | exact (hc6.alloc _) | exact (hc6.alloc _).drew)).trans' (Chg.of_grown hg7 (fun g h => h)) (fun g hl h' => by have := hv6 g h'; omega)))
        | fail)
    all_goals
      go_wp2_with (at_builtin; refine wpList_append_any _ rfl (.tmp 16) (.tmp 19) 43 rfl w.heap.size 54 i0 _ 2 24 Tryz.underlying43 hi0 hz0 hz1 hz2 rfl (by omega) _ _ _ rfl hown7 W4.heap.size _ 0 _ ((l.drop c).flatMap En.cells) rfl (hBW _ hc7) (ents_one _) m5 m6 (Nat.le_trans hWW hc7.size) ?_; intro v8 w8 hown8 hg8 hat8)
      have hv7 : ∀ g, v7.ownBlock = some g → W4.heap.size ≤ g := fun g hg => by
        rcases hat7 with h | h
        · rw [h] at hg; exact hv6 g hg
        · rw [h] at hg
          injection hg with hg
          rw [← hg]
          first | exact hc6.size | exact Nat.le_trans hc6.size (by simp)
      have hc8 : Chg (fun _ => False) W4 w8 := hc7.trans' (Chg.of_grown hg8 (fun g h => h)) (fun g hl h' => by have := hv7 g h'; omega)
      go_ret
      exact ⟨⟨_, rfl, hfin.out _ _ hown8⟩, hC0.trans hc8⟩
  · have hB2 := hB1 _ (fun _ => rfl) (c - k) ⟨by omega, by unfold maxLen; omega⟩
    have hBW : ∀ W', Chg (fun _ => False) W4 W' → Reads W' W4.heap.size 2 (p.map fun x => x.add (k * 2)) (l.length - k) ((l.drop k).flatMap En.cells) := fun W' hc => (hB2.chg (hC0.trans hc) (Nat.le_refl _) fun _ _ => id).more hWW
    clear hB1 hB2 h0 hbx
    go_enter Tryz.func78, Tryz.ntmps78
    go_wp2_with fail
    rw [← hW4]
    clear hW4
    go_region_held3 (fun w' => w'.cell? ⟨w.heap.size, 0, none⟩ = some (.string e.m) ∧ w'.cell? ⟨w.heap.size, 1, none⟩ = some (.int .i64 e.s)) (first | exact hgen _ (Chg.refl _ _).drew | exact hgen _ ((Chg.refl _ _).alloc _).drew | exact hgen _ hc6 | exact hgen _ (hc6.alloc _) | exact hgen _ (hc6.alloc _).drew | exact hgen _ hc7 | fail)
      (first
        | (refine step_append_any _ (by rfl) (.tmp 8) (.tmp 11) 43 (by rfl) w.heap.size 54 i0 _ 2 24 Tryz.underlying43 hi0 hz0 hz1 hz2 rfl (by omega) _ 0 [] (by rfl) (World.ownsRow_nil _ w.heap.size 54 2) W4.heap.size p k _ ((l.take k).flatMap En.cells) (by rfl) (hrO _ (by first | exact (Chg.refl _ _).drew | exact ((Chg.refl _ _).alloc _).drew)) (ents_one _) m1 m2 (by first | exact hWW | exact Nat.le_trans hWW (by simp)) ?_; intro v6 w6 hown6 hg6 hat6; have hc6 : Chg (fun _ => False) W4 w6 := (show Chg (fun _ => False) W4 _ from (by first | exact (Chg.refl _ _).drew | exact ((Chg.refl _ _).alloc _).drew)).trans (Chg.of_grown hg6 (fun g h => by cases h)); have hS6 : ∀ W', Chg (fun _ => False) w6 W' → W'.ownsRow w.heap.size 54 2 v6 _ _ := fun W' hc => own_stay hown6 (.of_chg hc) (fun _ _ => id); have hv6 : ∀ g, v6.ownBlock = some g → W4.heap.size ≤ g := fun g hg => by rcases hat6 with h | h; (rw [h] at hg; cases hg); (rw [h] at hg; injection hg with hg; rw [← hg]; simp))
        | (first
          | (refine step_append_any _ (by rfl) (.tmp 12) (.tmp 14) 43 (by rfl) w.heap.size 54 i0 _ 2 24 Tryz.underlying43 hi0 hz0 hz1 hz2 rfl (by omega) _ _ _ (by rfl) (hS6 _ ((Chg.refl _ _).alloc _)) (w6.alloc (.cells #[.string e.m, .int .i64 e.s] 54)).heap.size (some ⟨w6.heap.size, 0, none⟩) 1 1 [.string e.m, .int .i64 e.s] (by rfl) (reads_ent w6 e) hone m3 m4 (Nat.le_trans hWW (by first | exact hc6.size | exact (hc6.alloc _).size)) ?_; intro v7 w7 hown7 hg7 hat7; have hc7 : Chg (fun _ => False) W4 w7 := (show Chg (fun _ => False) W4 _ from (by first | exact hc6 | exact (hc6.alloc _) | exact (hc6.alloc _).drew)).trans' (Chg.of_grown hg7 (fun g h => h)) (fun g hl h' => by have := hv6 g h'; omega))
          | (refine step_append_any _ (by rfl) (.tmp 12) (.tmp 14) 43 (by rfl) w.heap.size 54 i0 _ 2 24 Tryz.underlying43 hi0 hz0 hz1 hz2 rfl (by omega) _ _ _ (by rfl) (hS6 _ (Chg.refl _ _)) (W4.alloc (.cells #[.string e.m, .int .i64 e.s] 54)).heap.size (some ⟨W4.heap.size, 0, none⟩) 1 1 [.string e.m, .int .i64 e.s] (by rfl) ((reads_ent W4 e).chg (S := fun _ => False) (((Chg.refl _ _).drew).trans (Chg.of_grown hg6 (fun g h => by cases h))) (Nat.le_refl _) (fun _ _ => id)) hone m3 m4 (Nat.le_trans hWW (by first | exact hc6.size | exact (hc6.alloc _).size)) ?_; intro v7 w7 hown7 hg7 hat7; have hc7 : Chg (fun _ => False) W4 w7 := (show Chg (fun _ => False) W4 _ from (by first | exact hc6 | exact (hc6.alloc _) | exact (hc6.alloc _).drew)).trans' (Chg.of_grown hg7 (fun g h => h)) (fun g hl h' => by have := hv6 g h'; omega)))
        | fail)
    all_goals
      go_wp2_with (at_builtin; refine wpList_append_any _ rfl (.tmp 16) (.tmp 19) 43 rfl w.heap.size 54 i0 _ 2 24 Tryz.underlying43 hi0 hz0 hz1 hz2 rfl (by omega) _ _ _ rfl hown7 W4.heap.size _ (l.length - k) _ ((l.drop k).flatMap En.cells) rfl (hBW _ hc7) (ents_one _) m5 m6 (Nat.le_trans hWW hc7.size) ?_; intro v8 w8 hown8 hg8 hat8)
      have hv7 : ∀ g, v7.ownBlock = some g → W4.heap.size ≤ g := fun g hg => by
        rcases hat7 with h | h
        · rw [h] at hg; exact hv6 g hg
        · rw [h] at hg
          injection hg with hg
          rw [← hg]
          first | exact hc6.size | exact Nat.le_trans hc6.size (by simp)
      have hc8 : Chg (fun _ => False) W4 w8 := hc7.trans' (Chg.of_grown hg8 (fun g h => h)) (fun g hl h' => by have := hv7 g h'; omega)
      go_ret
      exact ⟨⟨_, rfl, hfin.out _ _ hown8⟩, hC0.trans hc8⟩
end Go.Proofs.YtifcpippfiglkaaGreat

/- palioref11.Sorted. -/
namespace Go.Proofs.YtifcpippfiglkaaGreat
open Go.RowKit Pal
attribute [local go_sem] Oper.semAt_some

set_option maxRecDepth 100000 in
set_option maxHeartbeats 4000000 in
theorem sortedR_any (v : Value) (l : List En) (e : En) (w : World) (h : EntsR w v l) (hs : l.Pairwise ltE) (hk : ∀ x ∈ l, x.m.size ≤ 9223372036854775807) (he : e.m.size ≤ 9223372036854775807) (hl : l.length ≤ 1000) : Calls Tryz.prog 57 #[v, e.val] w (RgPost w (insE l e)) := by
  obtain ⟨W4, hW4⟩ : ∃ W4, W4 = w.alloc (.cells #[.string e.m, .int .i64 e.s] 54) := ⟨_, rfl⟩
  have hC0 := (Chg.refl (fun _ => False) w).alloc (.cells #[.string e.m, .int .i64 e.s] 54)
  have hbx := Blk.new w 54 #[.string e.m, .int .i64 e.s]
  rw [← hW4] at hC0 hbx
  have hgen : ∀ W', Chg (fun _ => False) W4 W' → W'.cell? ⟨w.heap.size, 0, none⟩ = some (.string e.m) ∧ W'.cell? ⟨w.heap.size, 1, none⟩ = some (.int .i64 e.s) ∧ w.heap.size < W'.heap.size := fun W' hc => ⟨by have := (hbx.chg hc id).cell 0; simpa using this, by have := (hbx.chg hc id).cell 1; simpa using this, (hbx.chg hc id).lt⟩
  have hin := fun W' (hc : Chg (fun _ => False) W4 W') => insR_any v l (ahead l e) e W' (h.chg0 (hC0.trans hc)) (ahead_le l e) hl
  have h0 := h
  obtain ⟨p, c, rfl, h1, h2, _⟩ := h
  have hal := ahead_le l e
  unfold RgPost at hin ⊢
  unfold insE En.val at *
  go_enter Tryz.func57, Tryz.ntmps57
  go_wp2_with fail
  rw [← hW4]
  clear hW4
  go_loopg [5] l.length (fun k v W => ∃ i : Nat, v = .int .i64 (i : Int) ∧ k = l.length - i ∧ i ≤ ahead l e ∧ Chg (fun _ => False) W4 W)
  case atStart => exact ⟨0, rfl, rfl, Nat.zero_le _, Chg.refl _ _⟩
  case round =>
    obtain ⟨i, rfl, rfl, hi, hC⟩ := hrel
    have i4 : (l.length : Int) ≤ 1000 := by omega
    by_cases hil : i < l.length
    · have h3 : (i : Int) < (l.length : Int) := by omega
      have hx := List.getElem?_eq_getElem hil
      generalize l[i] = x at hx
      have hlt := ahead_lt (e := e) hs hx
      have hls := fun w => less9_any x e w (hk x (List.mem_of_getElem? hx)) he
      obtain ⟨b, o, c', he1, k1, k2, k3, d0, d1⟩ := (h0.chg0 (hC0.trans hC)).at_ hx
      injection he1 with he1 he2 he3
      subst he1
      subst he3
      have hS : ∀ W', Chg (fun _ => False) wr W' → W'.cell? ⟨b, o + i * 2, none⟩ = some (.string x.m) ∧ W'.cell? ⟨b, o + i * 2 + 1, none⟩ = some (.int .i64 x.s) ∧ W'.cell? ⟨w.heap.size, 0, none⟩ = some (.string e.m) ∧ W'.cell? ⟨w.heap.size, 1, none⟩ = some (.int .i64 e.s) := fun W' hc => by
        obtain ⟨z0, z1, _⟩ := hgen W' (hC.trans hc)
        exact ⟨by rw [Chg.cell hc k3 id]; exact d0, by rw [Chg.cell hc k3 id]; exact d1, z0, z1⟩
      unfold En.val at hls
      clear hx he2
      by_cases hia : i < ahead l e
      · rw [decide_eq_true (hlt.2 hia)] at hls
        clear hlt
        go_wp2_with fail
        refine wp_region_held_drew (S := fun W' => W'.cell? ⟨b, o + i * 2, none⟩ = some (.string x.m) ∧ W'.cell? ⟨b, o + i * 2 + 1, none⟩ = some (.int .i64 x.s) ∧ W'.cell? ⟨w.heap.size, 0, none⟩ = some (.string e.m) ∧ W'.cell? ⟨w.heap.size, 1, none⟩ = some (.int .i64 e.s)) (by kernel_rfl) (hS _ (Chg.refl _ _).drew) (fun hHeld => ?_)
        refine wpAnyH_take (i := 0) (oi := Go.Oper.mk (some 6) _ _ _ _ _) (v := ?_) rfl (by kernel_rfl) (by kernel_rfl) (by kernel_rfl) (fun _ _ _ h => h) (Or.inl ⟨by kernel_rfl, ?_⟩) (by assumption) ?_
        rotate_left
        · intro w hSw
          try dsimp only at hSw
          go_simp
          try with_reducible rfl
        try simp only [Act.put, List.setIfInBounds_toArray, List.set_cons_zero, List.set_cons_succ]
        refine wpAnyH_take (i := 1) (oi := Go.Oper.mk (some 7) _ _ _ _ _) (v := ?_) rfl (by kernel_rfl) (by kernel_rfl) (by kernel_rfl) (fun _ _ _ h => h) (Or.inl ⟨by kernel_rfl, ?_⟩) (by assumption) ?_
        rotate_left
        · intro w hSw
          try dsimp only at hSw
          go_simp
          try with_reducible rfl
        try simp only [Act.put, List.setIfInBounds_toArray, List.set_cons_zero, List.set_cons_succ]
        refine wpAnyH_take (i := 2) (oi := Go.Oper.mk (some 8) _ _ _ _ _) (v := ?_) rfl (by kernel_rfl) (by kernel_rfl) (by kernel_rfl) (fun _ _ _ h => h) (Or.inl ⟨by kernel_rfl, ?_⟩) (by assumption) ?_
        rotate_left
        · intro w hSw
          try dsimp only at hSw
          go_simp
          try with_reducible rfl
        try simp only [Act.put, List.setIfInBounds_toArray, List.set_cons_zero, List.set_cons_succ]
        refine wpAnyH_take (i := 3) (oi := Go.Oper.mk (some 9) _ _ _ _ _) (v := ?_) rfl (by kernel_rfl) (by kernel_rfl) (by kernel_rfl) (fun _ _ _ h => h) (Or.inl ⟨by kernel_rfl, ?_⟩) (by assumption) ?_
        rotate_left
        · intro w hSw
          try dsimp only at hSw
          go_simp
          try with_reducible rfl
        try simp only [Act.put, List.setIfInBounds_toArray, List.set_cons_zero, List.set_cons_succ]
        refine wpAnyH_take (i := 4) (oi := Go.Oper.mk (some 10) _ _ _ _ _) (v := ?_) rfl (by kernel_rfl) (by kernel_rfl) (by kernel_rfl) (fun _ _ _ h => h) (Or.inl ⟨by kernel_rfl, ?_⟩) (by assumption) ?_
        rotate_left
        · intro w hSw
          try dsimp only at hSw
          go_simp
          try with_reducible rfl
        try simp only [Act.put, List.setIfInBounds_toArray, List.set_cons_zero, List.set_cons_succ]
        refine wpAnyH_take (i := 5) (oi := Go.Oper.mk (some 11) _ _ _ _ _) (v := ?_) rfl (by kernel_rfl) (by kernel_rfl) (by kernel_rfl) (fun _ _ _ h => h) (Or.inl ⟨by kernel_rfl, ?_⟩) (by assumption) ?_
        rotate_left
        · intro w hSw
          try dsimp only at hSw
          go_simp
          try with_reducible rfl
        try simp only [Act.put, List.setIfInBounds_toArray, List.set_cons_zero, List.set_cons_succ]
        refine wpAnyH_take (i := 6) (oi := Go.Oper.mk (some 12) _ _ _ _ _) (v := ?_) rfl (by kernel_rfl) (by kernel_rfl) (by kernel_rfl) (fun _ _ _ h => h) (Or.inl ⟨by kernel_rfl, ?_⟩) (by assumption) ?_
        rotate_left
        · intro w hSw
          try dsimp only at hSw
          go_simp
          try with_reducible rfl
        try simp only [Act.put, List.setIfInBounds_toArray, List.set_cons_zero, List.set_cons_succ]
        refine wpAnyH_take (i := 7) (oi := Go.Oper.mk (some 13) _ _ _ _ _) (v := ?_) rfl (by kernel_rfl) (by kernel_rfl) (by kernel_rfl) (fun _ _ _ h => h) (Or.inl ⟨by kernel_rfl, ?_⟩) (by assumption) ?_
        rotate_left
        · intro w hSw
          try dsimp only at hSw
          go_simp
          try with_reducible rfl
        try simp only [Act.put, List.setIfInBounds_toArray, List.set_cons_zero, List.set_cons_succ]
        refine wpAnyH_take (i := 8) (oi := Go.Oper.mk (some 14) _ _ _ _ _) (v := ?_) rfl (by kernel_rfl) (by kernel_rfl) (by kernel_rfl) (fun _ _ _ h => h) (Or.inl ⟨by kernel_rfl, ?_⟩) (by assumption) ?_
        rotate_left
        · intro w hSw
          try dsimp only at hSw
          go_simp
          try with_reducible rfl
        try simp only [Act.put, List.setIfInBounds_toArray, List.set_cons_zero, List.set_cons_succ]
        refine wpAnyH_take (i := 9) (oi := Go.Oper.mk (some 15) _ _ _ _ _) (v := ?_) rfl (by kernel_rfl) (by kernel_rfl) (by kernel_rfl) (fun _ _ _ h => h) (Or.inl ⟨by kernel_rfl, ?_⟩) (by assumption) ?_
        rotate_left
        · intro w hSw
          try dsimp only at hSw
          go_simp
          try with_reducible rfl
        try simp only [Act.put, List.setIfInBounds_toArray, List.set_cons_zero, List.set_cons_succ]
        refine wpAnyH_ready (rs := [10]) (by kernel_rfl) (by simp) ?_
        refine AllReadyH.cons (o := Go.Oper.mk (some 16) _ _ _ _ _) rfl (fun K hK => ?_) AllReadyH.nil
        go_simp
        go_at_call 77
        refine (hls _).mono ?_
        rintro r9 w9 ⟨rfl, hC9⟩
        refine hK.out _ _ (hS _ ((Chg.refl _ _).drew.trans hC9)) (fun hHeld2 => ?_)
        clear hK K hHeld
        try simp only [Act.put, List.setIfInBounds_toArray, List.set_cons_zero, List.set_cons_succ]
        refine wpAnyH_take (i := 11) (oi := Go.Oper.mk (some 17) _ _ _ _ _) (v := ?_) rfl (by kernel_rfl) (by kernel_rfl) (by kernel_rfl) (fun _ _ _ h => h) (Or.inl ⟨by kernel_rfl, ?_⟩) (by assumption) ?_
        rotate_left
        · intro w hSw
          try dsimp only at hSw
          go_simp
          try with_reducible rfl
        try simp only [Act.put, List.setIfInBounds_toArray, List.set_cons_zero, List.set_cons_succ]
        refine wpAnyH_done (by kernel_rfl) ?_ _
        clear hHeld2
        go_wp2_with fail
        go_roundg (l.length - (i + 1))
        case measure => omega
        case rel => exact ⟨i + 1, int_eq (by omega), rfl, by omega, hC.trans ((Chg.refl _ _).drew.trans hC9)⟩
      · rw [decide_eq_false (fun h => hia (hlt.1 h))] at hls
        clear hlt
        obtain rfl : i = ahead l e := by omega
        generalize hq : ahead l e = i at *
        replace hq := Lib.hid hq
        go_wp2_with fail
        refine wp_region_held_drew (S := fun W' => W'.cell? ⟨b, o + i * 2, none⟩ = some (.string x.m) ∧ W'.cell? ⟨b, o + i * 2 + 1, none⟩ = some (.int .i64 x.s) ∧ W'.cell? ⟨w.heap.size, 0, none⟩ = some (.string e.m) ∧ W'.cell? ⟨w.heap.size, 1, none⟩ = some (.int .i64 e.s)) (by kernel_rfl) (hS _ (Chg.refl _ _).drew) (fun hHeld => ?_)
        refine wpAnyH_take (i := 0) (oi := Go.Oper.mk (some 6) _ _ _ _ _) (v := ?_) rfl (by kernel_rfl) (by kernel_rfl) (by kernel_rfl) (fun _ _ _ h => h) (Or.inl ⟨by kernel_rfl, ?_⟩) (by assumption) ?_
        rotate_left
        · intro w hSw
          try dsimp only at hSw
          go_simp
          try with_reducible rfl
        try simp only [Act.put, List.setIfInBounds_toArray, List.set_cons_zero, List.set_cons_succ]
        refine wpAnyH_take (i := 1) (oi := Go.Oper.mk (some 7) _ _ _ _ _) (v := ?_) rfl (by kernel_rfl) (by kernel_rfl) (by kernel_rfl) (fun _ _ _ h => h) (Or.inl ⟨by kernel_rfl, ?_⟩) (by assumption) ?_
        rotate_left
        · intro w hSw
          try dsimp only at hSw
          go_simp
          try with_reducible rfl
        try simp only [Act.put, List.setIfInBounds_toArray, List.set_cons_zero, List.set_cons_succ]
        refine wpAnyH_take (i := 2) (oi := Go.Oper.mk (some 8) _ _ _ _ _) (v := ?_) rfl (by kernel_rfl) (by kernel_rfl) (by kernel_rfl) (fun _ _ _ h => h) (Or.inl ⟨by kernel_rfl, ?_⟩) (by assumption) ?_
        rotate_left
        · intro w hSw
          try dsimp only at hSw
          go_simp
          try with_reducible rfl
        try simp only [Act.put, List.setIfInBounds_toArray, List.set_cons_zero, List.set_cons_succ]
        refine wpAnyH_take (i := 3) (oi := Go.Oper.mk (some 9) _ _ _ _ _) (v := ?_) rfl (by kernel_rfl) (by kernel_rfl) (by kernel_rfl) (fun _ _ _ h => h) (Or.inl ⟨by kernel_rfl, ?_⟩) (by assumption) ?_
        rotate_left
        · intro w hSw
          try dsimp only at hSw
          go_simp
          try with_reducible rfl
        try simp only [Act.put, List.setIfInBounds_toArray, List.set_cons_zero, List.set_cons_succ]
        refine wpAnyH_take (i := 4) (oi := Go.Oper.mk (some 10) _ _ _ _ _) (v := ?_) rfl (by kernel_rfl) (by kernel_rfl) (by kernel_rfl) (fun _ _ _ h => h) (Or.inl ⟨by kernel_rfl, ?_⟩) (by assumption) ?_
        rotate_left
        · intro w hSw
          try dsimp only at hSw
          go_simp
          try with_reducible rfl
        try simp only [Act.put, List.setIfInBounds_toArray, List.set_cons_zero, List.set_cons_succ]
        refine wpAnyH_take (i := 5) (oi := Go.Oper.mk (some 11) _ _ _ _ _) (v := ?_) rfl (by kernel_rfl) (by kernel_rfl) (by kernel_rfl) (fun _ _ _ h => h) (Or.inl ⟨by kernel_rfl, ?_⟩) (by assumption) ?_
        rotate_left
        · intro w hSw
          try dsimp only at hSw
          go_simp
          try with_reducible rfl
        try simp only [Act.put, List.setIfInBounds_toArray, List.set_cons_zero, List.set_cons_succ]
        refine wpAnyH_take (i := 6) (oi := Go.Oper.mk (some 12) _ _ _ _ _) (v := ?_) rfl (by kernel_rfl) (by kernel_rfl) (by kernel_rfl) (fun _ _ _ h => h) (Or.inl ⟨by kernel_rfl, ?_⟩) (by assumption) ?_
        rotate_left
        · intro w hSw
          try dsimp only at hSw
          go_simp
          try with_reducible rfl
        try simp only [Act.put, List.setIfInBounds_toArray, List.set_cons_zero, List.set_cons_succ]
        refine wpAnyH_take (i := 7) (oi := Go.Oper.mk (some 13) _ _ _ _ _) (v := ?_) rfl (by kernel_rfl) (by kernel_rfl) (by kernel_rfl) (fun _ _ _ h => h) (Or.inl ⟨by kernel_rfl, ?_⟩) (by assumption) ?_
        rotate_left
        · intro w hSw
          try dsimp only at hSw
          go_simp
          try with_reducible rfl
        try simp only [Act.put, List.setIfInBounds_toArray, List.set_cons_zero, List.set_cons_succ]
        refine wpAnyH_take (i := 8) (oi := Go.Oper.mk (some 14) _ _ _ _ _) (v := ?_) rfl (by kernel_rfl) (by kernel_rfl) (by kernel_rfl) (fun _ _ _ h => h) (Or.inl ⟨by kernel_rfl, ?_⟩) (by assumption) ?_
        rotate_left
        · intro w hSw
          try dsimp only at hSw
          go_simp
          try with_reducible rfl
        try simp only [Act.put, List.setIfInBounds_toArray, List.set_cons_zero, List.set_cons_succ]
        refine wpAnyH_take (i := 9) (oi := Go.Oper.mk (some 15) _ _ _ _ _) (v := ?_) rfl (by kernel_rfl) (by kernel_rfl) (by kernel_rfl) (fun _ _ _ h => h) (Or.inl ⟨by kernel_rfl, ?_⟩) (by assumption) ?_
        rotate_left
        · intro w hSw
          try dsimp only at hSw
          go_simp
          try with_reducible rfl
        try simp only [Act.put, List.setIfInBounds_toArray, List.set_cons_zero, List.set_cons_succ]
        refine wpAnyH_ready (rs := [10]) (by kernel_rfl) (by simp) ?_
        refine AllReadyH.cons (o := Go.Oper.mk (some 16) _ _ _ _ _) rfl (fun K hK => ?_) AllReadyH.nil
        go_simp
        go_at_call 77
        refine (hls _).mono ?_
        rintro r9 w9 ⟨rfl, hC9⟩
        refine hK.out _ _ (hS _ ((Chg.refl _ _).drew.trans hC9)) (fun hHeld2 => ?_)
        clear hK K hHeld
        try simp only [Act.put, List.setIfInBounds_toArray, List.set_cons_zero, List.set_cons_succ]
        refine wpAnyH_take (i := 11) (oi := Go.Oper.mk (some 17) _ _ _ _ _) (v := ?_) rfl (by kernel_rfl) (by kernel_rfl) (by kernel_rfl) (fun _ _ _ h => h) (Or.inl ⟨by kernel_rfl, ?_⟩) (by assumption) ?_
        rotate_left
        · intro w hSw
          try dsimp only at hSw
          go_simp
          try with_reducible rfl
        try simp only [Act.put, List.setIfInBounds_toArray, List.set_cons_zero, List.set_cons_succ]
        refine wpAnyH_done (by kernel_rfl) ?_ _
        clear hHeld2
        obtain ⟨y0, y1, y2⟩ := hgen _ (hC.trans ((Chg.refl _ _).drew.trans hC9))
        go_wp2_with (go_at_call 78; refine (hin _ (hC.trans ((Chg.refl _ _).drew.trans hC9))).mono ?_; rintro r8 w8 ⟨⟨v8, rfl, hv8⟩, hC8⟩)
        go_ret
        exact ⟨⟨v8, rfl, by rw [hq.out]; exact hv8.lower (Nat.le_trans hC0.size (hC.trans ((Chg.refl _ _).drew.trans hC9)).size)⟩, hC0.trans ((hC.trans ((Chg.refl _ _).drew.trans hC9)).trans hC8)⟩
    · have h3 : ¬ (i : Int) < (l.length : Int) := by omega
      obtain rfl : i = ahead l e := by omega
      generalize hq : ahead l e = i at *
      replace hq := Lib.hid hq
      · go_wp2_with fail
        refine wp_region_held_drew (S := fun W' => True) (by kernel_rfl) (trivial) (fun hHeld => ?_)
        refine wpAnyH_take (i := 0) (oi := Go.Oper.mk (some 6) _ _ _ _ _) (v := ?_) rfl (by kernel_rfl) (by kernel_rfl) (by kernel_rfl) (fun _ _ _ h => h) (Or.inl ⟨by kernel_rfl, ?_⟩) (by assumption) ?_
        rotate_left
        · intro w hSw
          try dsimp only at hSw
          go_simp
          try with_reducible rfl
        try simp only [Act.put, List.setIfInBounds_toArray, List.set_cons_zero, List.set_cons_succ]
        refine wpAnyH_take (i := 1) (oi := Go.Oper.mk (some 7) _ _ _ _ _) (v := ?_) rfl (by kernel_rfl) (by kernel_rfl) (by kernel_rfl) (fun _ _ _ h => h) (Or.inl ⟨by kernel_rfl, ?_⟩) (by assumption) ?_
        rotate_left
        · intro w hSw
          try dsimp only at hSw
          go_simp
          try with_reducible rfl
        try simp only [Act.put, List.setIfInBounds_toArray, List.set_cons_zero, List.set_cons_succ]
        refine wpAnyH_take (i := 2) (oi := Go.Oper.mk (some 8) _ _ _ _ _) (v := ?_) rfl (by kernel_rfl) (by kernel_rfl) (by kernel_rfl) (fun _ _ _ h => h) (Or.inl ⟨by kernel_rfl, ?_⟩) (by assumption) ?_
        rotate_left
        · intro w hSw
          try dsimp only at hSw
          go_simp
          try with_reducible rfl
        try simp only [Act.put, List.setIfInBounds_toArray, List.set_cons_zero, List.set_cons_succ]
        refine wpAnyH_take (i := 3) (oi := Go.Oper.mk (some 9) _ _ _ _ _) (v := ?_) rfl (by kernel_rfl) (by kernel_rfl) (by kernel_rfl) (fun _ _ _ h => h) (Or.inl ⟨by kernel_rfl, ?_⟩) (by assumption) ?_
        rotate_left
        · intro w hSw
          try dsimp only at hSw
          go_simp
          try with_reducible rfl
        try simp only [Act.put, List.setIfInBounds_toArray, List.set_cons_zero, List.set_cons_succ]
        refine wpAnyH_take (i := 4) (oi := Go.Oper.mk (some 10) _ _ _ _ _) (v := ?_) rfl (by kernel_rfl) (by kernel_rfl) (by kernel_rfl) (fun _ _ _ h => h) (Or.inl ⟨by kernel_rfl, ?_⟩) (by assumption) ?_
        rotate_left
        · intro w hSw
          try dsimp only at hSw
          go_simp
          try with_reducible rfl
        try simp only [Act.put, List.setIfInBounds_toArray, List.set_cons_zero, List.set_cons_succ]
        refine wpAnyH_take (i := 5) (oi := Go.Oper.mk (some 11) _ _ _ _ _) (v := undef) rfl (by kernel_rfl) (by kernel_rfl) (by kernel_rfl) (fun _ _ _ h => h) (Or.inr ⟨by kernel_rfl, rfl⟩) (by assumption) ?_
        try simp only [Act.put, List.setIfInBounds_toArray, List.set_cons_zero, List.set_cons_succ]
        refine wpAnyH_take (i := 6) (oi := Go.Oper.mk (some 12) _ _ _ _ _) (v := undef) rfl (by kernel_rfl) (by kernel_rfl) (by kernel_rfl) (fun _ _ _ h => h) (Or.inr ⟨by kernel_rfl, rfl⟩) (by assumption) ?_
        try simp only [Act.put, List.setIfInBounds_toArray, List.set_cons_zero, List.set_cons_succ]
        refine wpAnyH_take (i := 7) (oi := Go.Oper.mk (some 13) _ _ _ _ _) (v := undef) rfl (by kernel_rfl) (by kernel_rfl) (by kernel_rfl) (fun _ _ _ h => h) (Or.inr ⟨by kernel_rfl, rfl⟩) (by assumption) ?_
        try simp only [Act.put, List.setIfInBounds_toArray, List.set_cons_zero, List.set_cons_succ]
        refine wpAnyH_take (i := 8) (oi := Go.Oper.mk (some 14) _ _ _ _ _) (v := undef) rfl (by kernel_rfl) (by kernel_rfl) (by kernel_rfl) (fun _ _ _ h => h) (Or.inr ⟨by kernel_rfl, rfl⟩) (by assumption) ?_
        try simp only [Act.put, List.setIfInBounds_toArray, List.set_cons_zero, List.set_cons_succ]
        refine wpAnyH_take (i := 9) (oi := Go.Oper.mk (some 15) _ _ _ _ _) (v := undef) rfl (by kernel_rfl) (by kernel_rfl) (by kernel_rfl) (fun _ _ _ h => h) (Or.inr ⟨by kernel_rfl, rfl⟩) (by assumption) ?_
        try simp only [Act.put, List.setIfInBounds_toArray, List.set_cons_zero, List.set_cons_succ]
        refine wpAnyH_take (i := 10) (oi := Go.Oper.mk (some 16) _ _ _ _ _) (v := undef) rfl (by kernel_rfl) (by kernel_rfl) (by kernel_rfl) (fun _ _ _ h => h) (Or.inr ⟨by kernel_rfl, rfl⟩) (by assumption) ?_
        try simp only [Act.put, List.setIfInBounds_toArray, List.set_cons_zero, List.set_cons_succ]
        refine wpAnyH_take (i := 11) (oi := Go.Oper.mk (some 17) _ _ _ _ _) (v := ?_) rfl (by kernel_rfl) (by kernel_rfl) (by kernel_rfl) (fun _ _ _ h => h) (Or.inl ⟨by kernel_rfl, ?_⟩) (by assumption) ?_
        rotate_left
        · intro w hSw
          try dsimp only at hSw
          go_simp
          try with_reducible rfl
        try simp only [Act.put, List.setIfInBounds_toArray, List.set_cons_zero, List.set_cons_succ]
        refine wpAnyH_done (by kernel_rfl) ?_ _
        clear hHeld
        obtain ⟨y0, y1, y2⟩ := hgen _ (hC.trans (Chg.refl _ _).drew)
        go_wp2_with (go_at_call 78; refine (hin _ (hC.trans (Chg.refl _ _).drew)).mono ?_; rintro r8 w8 ⟨⟨v8, rfl, hv8⟩, hC8⟩)
        go_ret
        exact ⟨⟨v8, rfl, by rw [hq.out]; exact hv8.lower (Nat.le_trans hC0.size (hC.trans (Chg.refl _ _).drew).size)⟩, hC0.trans ((hC.trans (Chg.refl _ _).drew).trans hC8)⟩
end Go.Proofs.YtifcpippfiglkaaGreat

/- palioref11: the document's set in memory; New, Remove. -/
namespace Go.Proofs.YtifcpippfiglkaaGreat
open Go.RowKit Pal
attribute [local go_sem] Oper.semAt_some

structure Rf (w0 W : World) (rb : Nat) (es : List En) (is : Bool) (E M : Nat) (v : Value) : Prop where
  b : Blk W rb 45 #[v, .int .i64 (E : Int), .int .i64 (M : Int), .bool is]
  own : Ents W w0.heap.size v es
  ge : w0.heap.size ≤ rb
  ok : Zok es
section
variable {w0 W W' W1 : World} {rb : Nat} {es l1 : List En} {is : Bool} {E M : Nat} {v v1 : Value}
theorem Rf.keep {S : Nat → Prop} (h : Rf w0 W rb es is E M v) (hc : Chg S W W') (h1 : ¬ S rb) (h2 : ∀ g, v.ownBlock = some g → ¬ S g) : Rf w0 W' rb es is E M v := ⟨h.b.chg hc h1, h.own.chg hc h2, h.ge, h.ok⟩
theorem Rf.chg0 (h : Rf w0 W rb es is E M v) (hc : Chg (fun _ => False) W W') : Rf w0 W' rb es is E M v := h.keep hc id fun _ _ => id
theorem Rf.cells (h : Rf w0 W rb es is E M v) : W.cell? ⟨rb, 0, none⟩ = some v ∧ W.cell? ⟨rb, 1, none⟩ = some (.int .i64 (E : Int)) ∧ W.cell? ⟨rb, 2, none⟩ = some (.int .i64 (M : Int)) ∧ W.cell? ⟨rb, 3, none⟩ = some (.bool is) ∧ rb < W.heap.size ∧ W.frozen? ⟨rb, 0, none⟩ = false ∧ W.frozen? ⟨rb, 3, none⟩ = false := by
  have h0 := h.b.cell 0
  have h1 := h.b.cell 1
  have h2 := h.b.cell 2
  have h3 := h.b.cell 3
  exact ⟨by simpa using h0, by simpa using h1, by simpa using h2, by simpa using h3, h.b.lt, h.b.frozen 0, h.b.frozen 3⟩
theorem Rf.store (h : Rf w0 W rb es is E M v) (hC : Chg (fun _ => False) W W1) (hv : Ents W1 W.heap.size v1 l1) (hz : Zok l1) : Rf w0 (W1.setCell ⟨rb, 0, none⟩ v1) rb l1 is E M v1 ∧ Chg (fun g => g = rb) W (W1.setCell ⟨rb, 0, none⟩ v1) := by
  have hcs : Chg (fun g => g = rb) W1 (W1.setCell ⟨rb, 0, none⟩ v1) := Chg.store (S := fun g => g = rb) (Chg.refl _ W1) rfl 0 _
  have hlt := h.b.lt
  refine ⟨⟨(h.b.chg hC id).set 0 v1, (hv.chg hcs fun g hg e => ?_).lower (Nat.le_trans h.ge (Nat.le_of_lt hlt)), h.ge, hz⟩, (hC.mono fun _ _ h => h.elim).trans hcs⟩
  obtain ⟨p, c, rfl, _, _, h3⟩ := hv.is
  cases p with
  | none => cases hg
  | some a =>
    have := (h3 a rfl).1
    injection hg with hg
    omega
theorem Rf.flag (h : Rf w0 W rb es is E M v) : Rf w0 (W.setCell ⟨rb, 3, none⟩ (.bool true)) rb es true E M v ∧ Chg (fun g => g = rb) W (W.setCell ⟨rb, 3, none⟩ (.bool true)) := by
  have hcs : Chg (fun g => g = rb) W (W.setCell ⟨rb, 3, none⟩ (.bool true)) := Chg.store (S := fun g => g = rb) (Chg.refl _ W) rfl 3 _
  refine ⟨⟨h.b.set 3 (.bool true), h.own.chg hcs fun g hg e => ?_, h.ge, h.ok⟩, hcs⟩
  subst e
  exact h.b.not_own h.own (by decide) hg
theorem Rf.val (h : Rf w0 W rb es is E M v) : ∃ p c, v = .slice p es.length c ∧ es.length ≤ c ∧ c ≤ maxLen := by
  obtain ⟨p, c, e, h1, h2, _⟩ := h.own.is
  exact ⟨p, c, e, h1, h2⟩
set_option maxRecDepth 100000 in
theorem rf_new (hc : Chg (fun _ => False) w0 W) (A0 A1 : Int) : Calls Tryz.prog 17 #[.agg #[.int .i64 A0, .int .i64 A1]] W fun r W' => ∃ rb, r = .returned (pt rb) ∧ Rf w0 W' rb [] false (clampL 200 A0) (clampL 64 A1) (.slice none 0 0) ∧ Chg (fun _ => False) W W' ∧ W.heap.size ≤ rb := by
  have e1 := clampL_eq 200 A0
  have e2 := clampL_eq 64 A1
  generalize clampL 200 A0 = E at *
  generalize clampL 64 A1 = M at *
  have e1' : max 0 (min (200 : Int) A0) = (E : Int) := e1.symm
  have e2' : max 0 (min (64 : Int) A1) = (M : Int) := e2.symm
  have hb := Blk.new (W.alloc (.cells #[.int .i64 A0, .int .i64 A1] 23)) 45 #[.slice none 0 0, .int .i64 (E : Int), .int .i64 (M : Int), .bool false]
  rw [World.size_alloc] at hb
  have hb := Lib.hid hb
  clear e1 e2
  go_enter Tryz.func17, Tryz.ntmps17
  go_wp2_with fail
  go_ret
  exact ⟨W.heap.size + 1, rfl, ⟨hb.out, Ents.nil _ _, Nat.le_trans hc.size (Nat.le_succ _), Zok.nil⟩, ((Chg.refl _ W).alloc _).alloc _, Nat.le_succ _⟩
def RPost (w0 : World) (rb : Nat) (es' : List En) (is' : Bool) (E M : Nat) (u : Value) (W : World) (r : Ending) (W' : World) : Prop := r = .returned u ∧ ∃ v', Rf w0 W' rb es' is' E M v' ∧ Chg (fun g => g = rb) W W'
theorem findI_no {l : List En} {m : ByteArray} (h : lookE l m = none) : findI l m 0 = -1 := by
  rcases findI_spec l m 0 with ⟨k, e, _, _, _, h4⟩ | ⟨_, h2, _⟩
  · rw [h] at h4; cases h4
  · exact h2
set_option maxRecDepth 100000 in
set_option maxHeartbeats 1000000 in
theorem rf_remove (h : Rf w0 W rb es is E M v) (m : ByteArray) : Calls Tryz.prog 38 #[pt rb, .string m] W (RPost w0 rb (dropM es m) is E M (.bool (lookE es m).isSome) W) := by
  have hz := h.ok
  have hn4 := hz.n
  obtain ⟨c0, _, _, _, l0, f0, _⟩ := h.cells
  have hfi := fun W' (hc : Chg (fun _ => False) W W') => findR_any v es m W' ((h.chg0 hc).own.r) (by omega)
  cases hl : lookE es m with
  | none =>
    rw [findI_no hl] at hfi
    rw [dropM_none hl]
    have HH := Lib.hid h
    unfold pt
    clear hl h
    go_enter Tryz.func38, Tryz.ntmps38
    go_wp2_with (go_at_call 25; refine (hfi _ (Chg.refl _ _)).mono ?_; rintro r9 w1 ⟨rfl, rfl⟩)
    go_ret
    exact ⟨rfl, v, HH.out, Chg.refl _ _⟩
  | some s =>
    have hat := look_at hz hl
    have hk0 := (List.getElem?_eq_some_iff.1 hat).1
    rw [findI_at hz hl] at hfi
    rw [← dropM_some hz hl]
    have hzd : Zok (delE es (ahead es ⟨m, s⟩)) := hz.sub (delE_sub _ _)
    have hde := fun W' (hc : Chg (fun _ => False) W W') => delR_any v es (ahead es ⟨m, s⟩) W' ((h.chg0 hc).own.r) hk0 (by omega)
    have HH := Lib.hid h
    generalize ahead es ⟨m, s⟩ = k at *
    have k0 : ¬ (k : Int) < 0 := by omega
    have k1 : (0 : Int) ≤ (k : Int) := by omega
    unfold RgPost at hde
    unfold pt
    clear hl hat h
    go_enter Tryz.func38, Tryz.ntmps38
    go_wp2_with (first | (go_at_call 25; refine (hfi _ (Chg.refl _ _)).mono ?_; rintro r9 w1 ⟨rfl, rfl⟩) | (go_at_call 56; refine (hde _ (Chg.refl _ _)).mono ?_; rintro r9 w2 ⟨⟨v1, rfl, hv1⟩, hC2⟩; obtain ⟨p1, q1, rfl, _, _, _⟩ := hv1.is; obtain ⟨d0, _, _, _, dl, df, _⟩ := (HH.out.chg0 hC2).cells))
    go_ret
    obtain ⟨hR, hc⟩ := HH.out.store hC2 hv1 hzd
    exact ⟨rfl, _, hR, hc⟩
end
end Go.Proofs.YtifcpippfiglkaaGreat
