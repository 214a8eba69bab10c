/- Texts joined for DictDoes: S8, TX, SP2int, S9, SAint, S10, SM, RT. -/
import Derived.Test.YthbjjjcppijcbaaJDictDoesd
import Derived.Test.YthbjjjcppijcbaaJDictDoesm
import Derived.Test.YthbjjjcppijcbaaJDictDoesn
import Derived.Deep.QuietTactic
import Derived.BigQuiet
import Derived.Lib.Hide
import Derived.Outline
set_option linter.unusedVariables false
set_option linter.unusedSimpArgs false

/- The functions of paliolaw08 that its statements share. -/
namespace Go.Proofs.Ythbjjjcppijcbaa
open Go.RowKit Pal Dint

set_option maxHeartbeats 400000 in
theorem key8_any (s : ByteArray) (w : World) (hs : s.size ≤ 9223372036854775807) :
    Calls Try.prog 39 #[.string s] w fun e w' => e = .returned (.string (cutS s 12)) ∧ w = w' := by
  by_cases h : 12 < s.size
  · have H : Hid (cutS s 12 = s.extract 0 12) := if_pos h
    have hm : min (s.size : Int) 12 = 12 := by omega
    go_enter Try.func39, Try.ntmps39
    go_wp2
    go_ret
    exact ⟨by rw [H.out]; rfl, rfl⟩
  · have H : Hid (cutS s 12 = s) := if_neg h
    have hm : min (s.size : Int) 12 = s.size := by omega
    go_enter Try.func39, Try.ntmps39
    go_wp2
    go_ret
    exact ⟨by rw [H.out]; simp, rfl⟩

/-- What an act does. -/
def Acts (x : Act3) (d d' : Dm) : Prop :=
  ((IntKind.u64.wrap x.Do).tmod 8 < 4 ∧ Puts (cutS x.Key 12) (.int .i64 x.V) d d' ∧ Dint.shape d' = if (d.look (cutS x.Key 12)).isNone then growS (stepS (Dint.shape d) 1) d.n else stepS (Dint.shape d) 1) ∨
  ((IntKind.u64.wrap x.Do).tmod 8 = 4 ∧ Stays d d' ∧ Dint.shape d' = stepS (Dint.shape d) 1) ∨
  (((IntKind.u64.wrap x.Do).tmod 8 = 5 ∨ (IntKind.u64.wrap x.Do).tmod 8 = 6) ∧ Cuts (cutS x.Key 12) d d' ∧ Dint.shape d' = if (d.look (cutS x.Key 12)).isSome then shrinkS (stepS (Dint.shape d) 1) (d.n - 1) else stepS (Dint.shape d) 1) ∨
  ((IntKind.u64.wrap x.Do).tmod 8 = 7 ∧ Stays d d' ∧ Dint.shape d' = stepS (Dint.shape d) (min x.V 100))

set_option maxRecDepth 100000 in
set_option maxHeartbeats 2000000 in
theorem acted_1 {w0 W : World} {bd : Nat} {d : Dm} (h : One w0 W bd d) (x : Act3) (hk : x.Key.size ≤ 9223372036854775807) (hn : d.n ≤ 100000) :
    Calls Try.prog 35 #[.pointer (some ⟨bd, 0, none⟩), .agg #[.int .i64 x.Do, .string x.Key, .int .i64 x.V]] W fun e W' => (∃ v, e = .returned v) ∧ ∃ d', One w0 W' bd d' ∧ Acts x d d' := by
  have hks : (cutS x.Key 12).size ≤ 9223372036854775807 := Nat.le_trans (cutS_size _ _) hk
  obtain ⟨r, hr, hcase⟩ := mod8 x.Do
  have hbx := Blk.new W 28 #[.int .i64 x.Do, .string x.Key, .int .i64 x.V]
  have hc1 : Chg (fun _ => False) W (W.alloc (Obj.cells #[.int .i64 x.Do, .string x.Key, .int .i64 x.V] 28)) := (Chg.refl _ W).alloc _
  have ho := h.chg0 hc1
  have c0 := hbx.cell 0
  have c1 := hbx.cell 1
  have c2 := hbx.cell 2
  have f0 := hbx.lt
  simp only [List.getElem?_toArray, List.getElem?_cons_zero, List.getElem?_cons_succ] at c0 c1 c2
  have HR := Lib.hid hr
  rcases hcase with rfl | rfl | rfl | rfl | rfl | rfl | rfl | rfl
  · go_enter Try.func35, Try.ntmps35
    go_wp2_with fail
    go_region_with (first
      | (go_at_call 39; refine (key8_any _ _ hk).mono ?_; rintro e9 w9 ⟨rfl, rfl⟩)
      | (go_at_call 17; refine (set_1 (ho.chg0 ((Chg.refl _ _).drew)) (cutS x.Key 12) (.int .i64 x.V) hks ⟨_, rfl⟩ hn).mono ?_; rintro e5 W5 ⟨rfl, d', hT1, _, hP1, hs1⟩))
    all_goals
      go_wp2_with fail
      go_end0
      exact ⟨⟨_, rfl⟩, d', hT1, by unfold Acts; rw [HR.out]; exact .inl ⟨by decide, hP1, hs1⟩⟩
  · go_enter Try.func35, Try.ntmps35
    go_wp2_with fail
    go_region_with (first
      | (go_at_call 39; refine (key8_any _ _ hk).mono ?_; rintro e9 w9 ⟨rfl, rfl⟩)
      | (go_at_call 17; refine (set_1 (ho.chg0 ((Chg.refl _ _).drew)) (cutS x.Key 12) (.int .i64 x.V) hks ⟨_, rfl⟩ hn).mono ?_; rintro e5 W5 ⟨rfl, d', hT1, _, hP1, hs1⟩))
    all_goals
      go_wp2_with fail
      go_end0
      exact ⟨⟨_, rfl⟩, d', hT1, by unfold Acts; rw [HR.out]; exact .inl ⟨by decide, hP1, hs1⟩⟩
  · go_enter Try.func35, Try.ntmps35
    go_wp2_with fail
    go_region_with (first
      | (go_at_call 39; refine (key8_any _ _ hk).mono ?_; rintro e9 w9 ⟨rfl, rfl⟩)
      | (go_at_call 17; refine (set_1 (ho.chg0 ((Chg.refl _ _).drew)) (cutS x.Key 12) (.int .i64 x.V) hks ⟨_, rfl⟩ hn).mono ?_; rintro e5 W5 ⟨rfl, d', hT1, _, hP1, hs1⟩))
    all_goals
      go_wp2_with fail
      go_end0
      exact ⟨⟨_, rfl⟩, d', hT1, by unfold Acts; rw [HR.out]; exact .inl ⟨by decide, hP1, hs1⟩⟩
  · go_enter Try.func35, Try.ntmps35
    go_wp2_with fail
    go_region_with (first
      | (go_at_call 39; refine (key8_any _ _ hk).mono ?_; rintro e9 w9 ⟨rfl, rfl⟩)
      | (go_at_call 17; refine (set_1 (ho.chg0 ((Chg.refl _ _).drew)) (cutS x.Key 12) (.int .i64 x.V) hks ⟨_, rfl⟩ hn).mono ?_; rintro e5 W5 ⟨rfl, d', hT1, _, hP1, hs1⟩))
    all_goals
      go_wp2_with fail
      go_end0
      exact ⟨⟨_, rfl⟩, d', hT1, by unfold Acts; rw [HR.out]; exact .inl ⟨by decide, hP1, hs1⟩⟩
  · go_enter Try.func35, Try.ntmps35
    go_wp2_with fail
    refine (key8_any _ _ hk).mono ?_
    rintro e9 w9 ⟨rfl, rfl⟩
    go_wp2_with fail
    refine (get_1 ho (cutS x.Key 12) hks).mono ?_
    rintro e5 W5 ⟨rfl, d', hT1, _, hP1, hs1⟩
    go_wp2_with fail
    go_end0
    exact ⟨⟨_, rfl⟩, d', hT1, by unfold Acts; rw [HR.out]; exact .inr (.inl ⟨rfl, hP1, hs1⟩)⟩
  · go_enter Try.func35, Try.ntmps35
    go_wp2_with fail
    refine (key8_any _ _ hk).mono ?_
    rintro e9 w9 ⟨rfl, rfl⟩
    go_wp2_with fail
    refine (del_1 ho (cutS x.Key 12) hks hn).mono ?_
    rintro e5 W5 ⟨rfl, d', hT1, _, hP1, hs1⟩
    go_wp2_with fail
    go_end0
    exact ⟨⟨_, rfl⟩, d', hT1, by unfold Acts; rw [HR.out]; exact .inr (.inr (.inl ⟨.inl rfl, hP1, hs1⟩))⟩
  · go_enter Try.func35, Try.ntmps35
    go_wp2_with fail
    refine (key8_any _ _ hk).mono ?_
    rintro e9 w9 ⟨rfl, rfl⟩
    go_wp2_with fail
    refine (del_1 ho (cutS x.Key 12) hks hn).mono ?_
    rintro e5 W5 ⟨rfl, d', hT1, _, hP1, hs1⟩
    go_wp2_with fail
    go_end0
    exact ⟨⟨_, rfl⟩, d', hT1, by unfold Acts; rw [HR.out]; exact .inr (.inr (.inl ⟨.inr rfl, hP1, hs1⟩))⟩
  · go_enter Try.func35, Try.ntmps35
    go_wp2_with fail
    refine (step_1 ho (min x.V 100)).mono ?_
    rintro e5 W5 ⟨rfl, d', hT1, _, hP1, hs1⟩
    go_wp2_with fail
    go_end0
    exact ⟨⟨_, rfl⟩, d', hT1, by unfold Acts; rw [HR.out]; exact .inr (.inr (.inr ⟨rfl, hP1, hs1⟩))⟩

end Go.Proofs.Ythbjjjcppijcbaa

/- palioref04.Texts. -/
namespace Go.Proofs.Ythbjjjcppijcbaa
open Go.RowKit Pal

set_option maxRecDepth 100000 in
set_option maxHeartbeats 1000000 in
/-- Two slices of texts, held against each other. -/
theorem Texts_any (u v : Value) (l m : List ByteArray) (b1 b2 : Nat) (w : World) (hu : Strs w b1 u l) (hv : Strs w b2 v m) :
    Calls Try.prog 31 #[u, v] w fun e w' => e = .returned (.bool (decide (l = m))) ∧ Chg (fun _ => False) w w' := by
  obtain ⟨pu, cu, rfl, hlu, hcu, _⟩ := hu.is
  obtain ⟨pv, cv, rfl, hlv, hcv, _⟩ := hv.is
  unfold maxLen at hcu hcv
  by_cases hlen : l.length = m.length
  · have hb : ((l.length : Int) == (m.length : Int)) = true := by rw [beq_iff_eq]; omega
    have HL := Lib.hid hlen
    rw [← hlen] at hv hlv ⊢
    obtain ⟨n, hn⟩ : ∃ n, l.length = n := ⟨_, rfl⟩
    rw [hn] at hu hv hlu hlv ⊢
    have HN := Lib.hid hn
    clear hlen hb hn
    go_enter Try.func31, Try.ntmps31
    go_wp2_with fail
    go_loopw [5] (fun i wr => ∃ k : Nat, k ≤ n ∧ i = .int .i64 k ∧ l.take k = m.take k ∧ Chg (fun _ => False) w wr) (fun i _ => n - (intOf i).toNat)
    case atStart => exact ⟨0, Nat.zero_le _, rfl, rfl, Chg.refl _ _⟩
    case round =>
      obtain ⟨k, hk, rfl, ht, hC⟩ := hrel
      by_cases hlt : k < n
      · have hlt' : (k : Int) < (n : Int) := by omega
        have hkl : k < l.length := by rw [HN.out]; exact hlt
        have hkm : k < m.length := by rw [← HL.out, HN.out]; exact hlt
        obtain ⟨gu, rfl, _, lu, qu⟩ := (hu.chg hC fun _ _ => id).at_ hkl
        obtain ⟨gv, rfl, _, lv, qv⟩ := (hv.chg hC fun _ _ => id).at_ hkm
        have hls := List.take_succ_eq_append_getElem hkl
        have hms := List.take_succ_eq_append_getElem hkm
        by_cases he : l[k] = m[k]
        · rw [he] at qu
          have HT : Hid (l.take (k + 1) = m.take (k + 1)) := by show _ = _; rw [hls, hms, ht, he]
          have he2 := toList_eq m[k]
          generalize m[k] = mk at qu qv he2
          clear hls hms ht he
          go_wp2_with fail
          go_quiet (fail)
          go_wp2_with fail
          go_roundw
          case rel => exact ⟨k + 1, by omega, by go_num, HT.out, hC.trans ((Chg.refl _ _).drewN _)⟩
          case measure => simp [intOf]; omega
        · have HT : Hid (decide (l = m) = false) := by
            show _ = _
            rw [decide_eq_false_iff_not]
            intro e
            subst e
            exact he rfl
          have he2 := toList_ne he
          generalize m[k] = mk at qv he he2
          generalize l[k] = lk at qu he he2
          clear hls hms ht
          go_wp2_with fail
          go_quiet (fail)
          go_wp2_with fail
          go_ret
          exact ⟨by rw [HT.out]; rfl, hC.trans ((Chg.refl _ _).drewN _)⟩
      · have hge : ((k : Int) < (n : Int)) = False := by simp only [eq_iff_iff, iff_false]; omega
        have hkn : k = n := by omega
        have HT : Hid (decide (l = m) = true) := by
          show _ = _
          rw [decide_eq_true_iff]
          rw [List.take_of_length_le (by rw [HN.out]; omega), List.take_of_length_le (by rw [← HL.out, HN.out]; omega)] at ht
          exact ht
        clear ht hkn hlt
        go_wp2_with fail
        go_ret
        exact ⟨by rw [HT.out]; rfl, hC⟩
  · have hb : ((l.length : Int) == (m.length : Int)) = false := by rw [beq_eq_false_iff_ne]; omega
    have hb2 : ¬ (l.length : Int) = (m.length : Int) := by omega
    have HT : Hid (decide (l = m) = false) := by
      show _ = _
      rw [decide_eq_false_iff_not]
      intro e
      exact hlen (by rw [e])
    clear hlen
    go_enter Try.func31, Try.ntmps31
    go_wp2_with fail
    go_ret
    exact ⟨by rw [HT.out]; rfl, Chg.refl _ _⟩

end Go.Proofs.Ythbjjjcppijcbaa

/- Which keys a scan tells. -/
namespace Go.Proofs.Ythbjjjcppijcbaa.Dint
open Go.RowKit Pal

theorem scan_perm {d : Dm} (hok : d.Ok) (c : Nat) (hc : c < 4294967296) :
    ∃ ns ng : List Nd, d.nodes.Perm (ns ++ ng) ∧ (scanL d c).Perm ((ns.filter (fun x => decide (pos (scanA d) x.sum = pos (scanA d) c)) ++ ng.filter (fun x => decide (pos (scanA d) x.sum = pos (scanA d) c ∧ pos (scanB d) c ≤ pos (scanB d) x.sum))).map (·.key)) := by
  cases ht : d.t1 with
  | none =>
    obtain ⟨h1, h2, h3⟩ := scan_none hok ht
    refine ⟨d.t0.nodes, [], ?_, ?_⟩
    · unfold Dm.nodes Dm.nodes1; rw [ht]
    · have e : scanL d c = keysAt d 0 (c % 2 ^ scanA d) := by unfold scanL; rw [ht]
      rw [e, List.filter_nil, List.append_nil, mod_cur (by omega) hc, ← at_pos (by omega) h1 hok.in0 (fun x hx => hok.sum_lt (mem_nodes0 hx)) (pos_lt (by omega) c)]
      exact keysAt_perm (tab0 d)
  | some t =>
    obtain ⟨h2, hab, h16, hcase⟩ := scan_some hok ht
    have e : scanL d c = keysAt d (scanT d) (c % 2 ^ scanA d) ++ (slotsP (scanA d) (scanB d) (pos (scanB d) c)).flatMap fun x => keysAt d (1 - scanT d) x.1 := by unfold scanL; rw [ht]
    rw [e, mod_cur (by omega) hc]
    have key : ∀ (s g : Tb), d.tab (scanT d) = some s → d.tab (1 - scanT d) = some g → s.len = 2 ^ scanA d → g.len = 2 ^ scanB d →
        (keysAt d (scanT d) (cur (scanA d) (pos (scanA d) c)) ++ (slotsP (scanA d) (scanB d) (pos (scanB d) c)).flatMap fun x => keysAt d (1 - scanT d) x.1).Perm
          ((s.nodes.filter (fun x => decide (pos (scanA d) x.sum = pos (scanA d) c)) ++ g.nodes.filter (fun x => decide (pos (scanA d) x.sum = pos (scanA d) c ∧ pos (scanB d) c ≤ pos (scanB d) x.sum))).map (·.key)) := by
      intro s g hs hg ls lg
      obtain ⟨_, ins, ms⟩ := tab_ok hok hs
      obtain ⟨_, ing, mg⟩ := tab_ok hok hg
      rw [List.map_append]
      refine List.Perm.append ?_ ?_
      · rw [← at_pos (by omega) ls ins (fun x hx => hok.sum_lt (ms x hx)) (pos_lt (by omega) c)]
        exact keysAt_perm hs
      · refine (flatMap_perm _ (g := fun x : Nat × Nat => (g.at x.1).map (·.key)) fun x _ => keysAt_perm hg).trans ?_
        rw [← List.map_flatMap]
        have := slotsP_perm (k := pos (scanB d) c) hab (by omega : scanB d ≤ 32) (pos_lt (by omega) c) lg ing (fun x hx => hok.sum_lt (mg x hx))
        rw [← pos_down hab (by omega)] at this
        exact this.map _
    rcases hcase with ⟨e1, l0, l1⟩ | ⟨e1, l1, l0, _⟩
    · refine ⟨d.t0.nodes, t.nodes, ?_, ?_⟩
      · unfold Dm.nodes Dm.nodes1; rw [ht]
      · exact key d.t0 t (by rw [e1]; rfl) (by rw [e1]; exact ht) l0 l1
    · refine ⟨t.nodes, d.t0.nodes, ?_, ?_⟩
      · unfold Dm.nodes Dm.nodes1; rw [ht]; exact List.perm_append_comm
      · exact key t d.t0 (by rw [e1]; exact ht) (by rw [e1]; rfl) l1 l0

/-- A told key is there. -/
theorem scan_mem {d : Dm} (hok : d.Ok) {c : Nat} (hc : c < 4294967296) {k : ByteArray} (h : k ∈ scanL d c) : ∃ x ∈ d.nodes, x.key = k := by
  obtain ⟨ns, ng, h1, h2⟩ := scan_perm hok c hc
  obtain ⟨x, hx, rfl⟩ := List.mem_map.1 (h2.mem_iff.1 h)
  refine ⟨x, h1.mem_iff.2 ?_, rfl⟩
  rcases List.mem_append.1 hx with hx | hx
  · exact List.mem_append.2 (.inl (List.mem_filter.1 hx).1)
  · exact List.mem_append.2 (.inr (List.mem_filter.1 hx).1)
/-- What stands from the cursor on, in its slot, is told. -/
theorem scan_tells {d : Dm} (hok : d.Ok) {c : Nat} (hc : c < 4294967296) {x : Nd} (hx : x ∈ d.nodes) (h1 : pos (scanA d) x.sum = pos (scanA d) c) (h2 : turn c ≤ turn x.sum) : x.key ∈ scanL d c := by
  obtain ⟨ns, ng, g1, g2⟩ := scan_perm hok c hc
  refine g2.mem_iff.2 (List.mem_map.2 ⟨x, ?_, rfl⟩)
  have hp : pos (scanB d) c ≤ pos (scanB d) x.sum := Nat.div_le_div_right h2
  rcases List.mem_append.1 (g1.mem_iff.1 hx) with h | h
  · exact List.mem_append.2 (.inl (List.mem_filter.2 ⟨h, by simpa using h1⟩))
  · exact List.mem_append.2 (.inr (List.mem_filter.2 ⟨h, by simp [h1, hp]⟩))
/-- From a slot's begin on each key of the slot is told once. -/
theorem scan_once {d : Dm} (hok : d.Ok) {q : Nat} (hq : q < 2 ^ scanA d) : (scanL d (cur (scanA d) q)).Perm ((d.nodes.filter fun x => decide (pos (scanA d) x.sum = q)).map (·.key)) := by
  obtain ⟨ha2, ha⟩ := scanA_le hok
  obtain ⟨ns, ng, g1, g2⟩ := scan_perm hok (cur (scanA d) q) (cur_lt32 _ _)
  rw [pos_cur (by omega) hq] at g2
  refine g2.trans ?_
  have e : ng.filter (fun x => decide (pos (scanA d) x.sum = q ∧ pos (scanB d) (cur (scanA d) q) ≤ pos (scanB d) x.sum)) = ng.filter (fun x => decide (pos (scanA d) x.sum = q)) := by
    apply List.filter_congr
    intro x _
    rw [decide_eq_decide]
    refine ⟨fun h => h.1, fun h => ⟨h, ?_⟩⟩
    have hab : scanA d ≤ scanB d ∧ scanB d ≤ 16 := by
      cases ht : d.t1 with
      | none => have : scanB d = scanA d := by unfold scanA scanB; rw [ht]
                omega
      | some t => have := scan_some hok ht; omega
    rw [pos_down hab.1 (by omega)] at h
    rw [← cur_up hab.1 (by omega), pos_cur (by omega) (by rw [pow_up hab.1]; exact Nat.mul_lt_mul_of_pos_right hq Nat.one_le_two_pow), ← h]
    exact Nat.div_mul_le_self _ _
  rw [e, ← List.filter_append]
  exact (g1.filter _).symm.map _

end Go.Proofs.Ythbjjjcppijcbaa.Dint

/- Scans of a dict of one's own; loops of acts. -/
namespace Go.Proofs.Ythbjjjcppijcbaa
open Go.RowKit Pal Dint

theorem scan_1 {w0 W : World} {bd : Nat} {d : Dm} (h : One w0 W bd d) (c : Nat) (hc : c < 4294967296) (hn : d.n ≤ 100000) :
    Calls Try.prog 34 #[.pointer (some ⟨bd, 0, none⟩), .int .u32 (c : Int)] W fun e W' => (∃ v, e = .returned (.tuple #[v, .int .u32 (scanC d c : Int)]) ∧ Strs W' W.heap.size v (scanL d c)) ∧ One w0 W' bd d ∧ Chg (fun _ => False) W W' := by
  have := Scan_i d c W h.md.dm h.md.ok (by omega) hc
  rw [h.bd] at this
  exact this.mono fun r W' ⟨h1, h2⟩ => ⟨h1, h.chg0 h2, h2⟩
theorem scanC_lt (d : Dm) (c : Nat) : scanC d c < 4294967296 := curW_lt32 _ _
theorem acts_n {x : Act3} {d d' : Dm} (h : Acts x d d') : d'.n ≤ d.n + 1 := by
  rcases h with ⟨_, ⟨_, h⟩, _⟩ | ⟨_, ⟨_, h⟩, _⟩ | ⟨_, ⟨_, h⟩, _⟩ | ⟨_, ⟨_, h⟩, _⟩
  · rw [h]; split <;> omega
  · omega
  · rw [h]; split <;> omega
  · omega
theorem acts3 {w : World} {b o cap n : Nat} {g : Nat → Act3} (h : ActsAt w (.slice (some ⟨b, o, none⟩) n cap) n g) {i : Nat} (hi : i < n) :
    b < w.heap.size ∧ w.cell? ⟨b, o + i * 3, none⟩ = some (.int .i64 (g i).Do) ∧ w.cell? ⟨b, o + i * 3 + 1, none⟩ = some (.string (g i).Key) ∧ w.cell? ⟨b, o + i * 3 + 2, none⟩ = some (.int .i64 (g i).V) ∧ (g i).Key.size ≤ 9223372036854775807 := by
  obtain ⟨b', o', cap', heq, h1, h2, h3, h4, _, h5, _⟩ := h.at_ i hi
  injection heq with heq
  injection heq with heq
  injection heq with e1 e2
  subst e1 e2
  exact ⟨h1, h2, h3, h4, h5⟩

end Go.Proofs.Ythbjjjcppijcbaa

/- All of a scan. -/
namespace Go.Proofs.Ythbjjjcppijcbaa.Dint
open Go.RowKit Pal
attribute [local go_sem] Oper.semAt_some

def allN (d : Dm) (k : Nat) : List ByteArray := (List.range k).flatMap fun q => scanL d (cur (scanA d) q)
def allL (d : Dm) : List ByteArray := allN d (2 ^ scanA d)
theorem allN_succ (d : Dm) (k : Nat) : allN d (k + 1) = allN d k ++ scanL d (cur (scanA d) k) := by
  unfold allN; rw [List.range_succ, List.flatMap_append]; simp
theorem filter_lt_succ {α : Type} (f : α → Nat) (k : Nat) : ∀ l : List α, (l.filter (fun x => decide (f x < k)) ++ l.filter (fun x => decide (f x = k))).Perm (l.filter fun x => decide (f x < k + 1))
  | [] => List.Perm.refl _
  | x :: l => by
    have ih := filter_lt_succ f k l
    by_cases h1 : f x < k
    · have h2 : ¬ f x = k := by omega
      have h3 : f x < k + 1 := by omega
      rw [List.filter_cons_of_pos (by simpa using h1), List.filter_cons_of_neg (by simpa using h2), List.filter_cons_of_pos (by simpa using h3), List.cons_append]
      exact ih.cons x
    · by_cases h2 : f x = k
      · have h3 : f x < k + 1 := by omega
        rw [List.filter_cons_of_neg (by simpa using h1), List.filter_cons_of_pos (by simpa using h2), List.filter_cons_of_pos (by simpa using h3)]
        exact List.perm_middle.trans (ih.cons x)
      · have h3 : ¬ f x < k + 1 := by omega
        rw [List.filter_cons_of_neg (by simpa using h1), List.filter_cons_of_neg (by simpa using h2), List.filter_cons_of_neg (by simpa using h3)]
        exact ih
theorem allN_perm {d : Dm} (hok : d.Ok) : ∀ k, k ≤ 2 ^ scanA d → (allN d k).Perm ((d.nodes.filter fun x => decide (pos (scanA d) x.sum < k)).map (·.key))
  | 0, _ => by
    have e : d.nodes.filter (fun x => decide (pos (scanA d) x.sum < 0)) = [] := by
      rw [List.filter_eq_nil_iff]
      intro x _ h
      exact absurd (of_decide_eq_true h) (Nat.not_lt_zero _)
    rw [e]; exact List.Perm.refl _
  | k + 1, h => by
    rw [allN_succ]
    refine ((allN_perm hok k (by omega)).append (scan_once hok (by omega))).trans ?_
    rw [← List.map_append]
    exact (filter_lt_succ (fun x : Nd => pos (scanA d) x.sum) k d.nodes).map _
theorem allL_perm {d : Dm} (hok : d.Ok) : (allL d).Perm (d.nodes.map (·.key)) := by
  have h := allN_perm hok _ (Nat.le_refl _)
  have hA := scanA_le hok
  have e : d.nodes.filter (fun x => decide (pos (scanA d) x.sum < 2 ^ scanA d)) = d.nodes := List.filter_eq_self.2 fun x _ => by simpa using pos_lt (by omega) x.sum
  rw [e] at h
  exact h
theorem allN_len {d : Dm} (hok : d.Ok) {k : Nat} (hk : k ≤ 2 ^ scanA d) : (allN d k).length ≤ d.n := by
  rw [(allN_perm hok k hk).length_eq, List.length_map, hok.count]
  exact List.length_filter_le _ _
theorem scanC_cur {d : Dm} (hok : d.Ok) {k : Nat} (hk : k < 2 ^ scanA d) : scanC d (cur (scanA d) k) = curW (scanA d) (k + 1) := by
  have hA := scanA_le hok
  unfold scanC; rw [pos_cur (by omega) hk]
theorem curW_ne {a k : Nat} (ha : a ≤ 32) (h0 : 0 < k) (hk : k < 2 ^ a) : curW a k ≠ 0 := by
  unfold curW
  rw [if_neg (by omega), ← cur_zero a]
  intro e
  have := cur_inj a ha hk Nat.one_le_two_pow e
  omega
theorem curW_eq {a k : Nat} (hk : k < 2 ^ a) : curW a k = cur a k := by unfold curW; rw [if_neg (by omega)]
theorem curW_full (a : Nat) : curW a (2 ^ a) = 0 := by unfold curW; rw [if_pos rfl]

theorem all20 {P : Array Value → Prop} (h : ∀ u0 u1 u2 u3 u4 u5 u6 u7 u8 u9 u10 u11 u12 u13 u14 u15 u16 u17 u18 u19 : Value, P #[u0, u1, u2, u3, u4, u5, u6, u7, u8, u9, u10, u11, u12, u13, u14, u15, u16, u17, u18, u19]) (a : Array Value) (hs : a.size = 20) : P a := by
  obtain ⟨l⟩ := a
  have g0 : l.length = 20 := hs
  clear hs
  obtain ⟨u0, l0, e0, g1⟩ := Pal.len_cons g0
  obtain ⟨u1, l1, e1, g2⟩ := Pal.len_cons g1
  obtain ⟨u2, l2, e2, g3⟩ := Pal.len_cons g2
  obtain ⟨u3, l3, e3, g4⟩ := Pal.len_cons g3
  obtain ⟨u4, l4, e4, g5⟩ := Pal.len_cons g4
  obtain ⟨u5, l5, e5, g6⟩ := Pal.len_cons g5
  obtain ⟨u6, l6, e6, g7⟩ := Pal.len_cons g6
  obtain ⟨u7, l7, e7, g8⟩ := Pal.len_cons g7
  obtain ⟨u8, l8, e8, g9⟩ := Pal.len_cons g8
  obtain ⟨u9, l9, e9, g10⟩ := Pal.len_cons g9
  obtain ⟨u10, l10, e10, g11⟩ := Pal.len_cons g10
  obtain ⟨u11, l11, e11, g12⟩ := Pal.len_cons g11
  obtain ⟨u12, l12, e12, g13⟩ := Pal.len_cons g12
  obtain ⟨u13, l13, e13, g14⟩ := Pal.len_cons g13
  obtain ⟨u14, l14, e14, g15⟩ := Pal.len_cons g14
  obtain ⟨u15, l15, e15, g16⟩ := Pal.len_cons g15
  obtain ⟨u16, l16, e16, g17⟩ := Pal.len_cons g16
  obtain ⟨u17, l17, e17, g18⟩ := Pal.len_cons g17
  obtain ⟨u18, l18, e18, g19⟩ := Pal.len_cons g18
  obtain ⟨u19, l19, e19, g20⟩ := Pal.len_cons g19
  obtain rfl := List.eq_nil_of_length_eq_zero g20
  have e : (⟨l⟩ : Array Value) = #[u0, u1, u2, u3, u4, u5, u6, u7, u8, u9, u10, u11, u12, u13, u14, u15, u16, u17, u18, u19] := by rw [e0, e1, e2, e3, e4, e5, e6, e7, e8, e9, e10, e11, e12, e13, e14, e15, e16, e17, e18, e19]
  rw [e]
  exact h u0 u1 u2 u3 u4 u5 u6 u7 u8 u9 u10 u11 u12 u13 u14 u15 u16 u17 u18 u19

def AllI (w0 : World) (d : Dm) (n : Nat) (x : Act) (W : World) : Prop :=
  ∃ k v, n = 2 ^ scanA d - k ∧ k < 2 ^ scanA d ∧ x.tmps.size = 20 ∧ x.tmps[0]? = some (.pointer (some ⟨d.blk, 0, none⟩)) ∧ x.tmps[3]? = some v ∧ x.tmps[4]? = some (.int .u32 ((cur (scanA d) k : Nat) : Int)) ∧ x.defers = [] ∧ Strs W w0.heap.size v (allN d k) ∧ Chg (fun _ => False) w0 W

set_option maxRecDepth 100000 in
set_option maxHeartbeats 1000000 in
theorem All_any (d : Dm) (w : World) (h : DmAt w d) (hok : d.Ok) (hn : d.n < 1000000) :
    Calls Try.prog 38 #[ptr d.blk] w fun e w' => (∃ v, e = .returned v ∧ Strs w' w.heap.size v (allL d)) ∧ Chg (fun _ => False) w w' := by
  obtain ⟨i0, hi0, hz0, hz1, hz2⟩ := info_parts str_info
  obtain ⟨hA2, hA⟩ := scanA_le hok
  have hp : 1 ≤ 2 ^ scanA d := Nat.one_le_two_pow
  have hsc := fun c W (hC : Chg (fun _ => False) w W) (hc : c < 4294967296) => Scan_i d c W (h.chg0 hC) hok hn hc
  unfold ptr at *
  go_enter Try.func38, Try.ntmps38
  go_wp2_with fail
  go_step3
  go_wp2_with fail
  go_step3
  go_wp2_with fail
  refine wp_loop_ghost (AllI w d) (2 ^ scanA d) ?_ ?_
  · exact ⟨0, _, by omega, hp, rfl, rfl, rfl, by rw [cur_zero]; rfl, rfl, Strs.nil _ _, Chg.refl _ _⟩
  · rintro m ⟨tmps, ds⟩ W ⟨k, v, rfl, hk, hsz, t0, t3, t4, rfl, hv, hC⟩
    replace hsz : tmps.size = 20 := hsz
    dsimp only at t0 t3 t4
    revert t0 t3 t4
    revert hsz
    revert tmps
    refine all20 ?_
    intro u0 u1 u2 u3 u4 u5 u6 u7 u8 u9 u10 u11 u12 u13 u14 u15 u16 u17 u18 u19 t0 t3 t4
    simp only [List.getElem?_toArray, List.getElem?_cons_zero, List.getElem?_cons_succ, Option.some.injEq] at t0 t3 t4
    subst t0 t3 t4
    have hsc1 := hsc (cur (scanA d) k) W hC (cur_lt32 _ _)
    rw [scanC_cur hok hk] at hsc1
    have hl1 := allN_len hok (k := k + 1) (by omega)
    rw [allN_succ, List.length_append] at hl1
    have HSU := Lib.hid (allN_succ d k)
    go_wp2_with fail
    refine hsc1.mono ?_
    rintro e W2 ⟨⟨v2, rfl, hs2⟩, hC2⟩
    have hv2 := hv.chg hC2 (fun _ _ => id)
    obtain ⟨pa, ca, rfl, hpa⟩ := hs2.is
    have hA' : (allN d k).length + (scanL d (cur (scanA d) k)).length ≤ maxLen := by unfold maxLen; omega
    have hB : ((allN d k).length + (scanL d (cur (scanA d) k)).length) * 16 ≤ 140737488355328 := by omega
    have hD : w.heap.size ≤ W2.heap.size := Nat.le_trans hC.size hC2.size
    clear hsc hsc1
    by_cases hlast : k + 1 = 2 ^ scanA d
    · rw [hlast, curW_full]
      have HLA := Lib.hid hlast
      clear hlast
      go_wp2_with (at_builtin; refine wpList_append_any _ rfl (.tmp 13) (.tmp 14) 38 rfl w.heap.size 9 i0 _ 1 16 Try.underlying38 hi0 hz0 hz1 hz2 rfl (by omega) _ _ _ rfl hv2.own W2.heap.size pa _ ca _ rfl hs2.reads (strs_one _) hA' hB hD ?_; intro v3 w3 hown3 hg3 hat3)
      rw [Exit.noGoto_ret]
      go_ret
      refine ⟨⟨_, rfl, ?_⟩, (hC.trans hC2).trans' (app_chg hv2 hg3) fun g hg h' => by omega⟩
      unfold allL
      rw [← HLA.out]
      exact Strs.mk hown3 (by rw [HSU.out]; simp) (by rw [HSU.out]; simp)
    · have hlt : k + 1 < 2 ^ scanA d := by omega
      have hne := curW_ne (a := scanA d) (by omega) (Nat.succ_pos k) hlt
      rw [curW_eq hlt] at hne ⊢
      have hne1 : (((cur (scanA d) (k + 1) : Nat) : Int) == 0) = false := by rw [beq_eq_false_iff_ne]; omega
      have HNE := Lib.hid hne
      clear hlast hne
      go_wp2_with (at_builtin; refine wpList_append_any _ rfl (.tmp 13) (.tmp 14) 38 rfl w.heap.size 9 i0 _ 1 16 Try.underlying38 hi0 hz0 hz1 hz2 rfl (by omega) _ _ _ rfl hv2.own W2.heap.size pa _ ca _ rfl hs2.reads (strs_one _) hA' hB hD ?_; intro v3 w3 hown3 hg3 hat3)
      exact ⟨2 ^ scanA d - (k + 1), by omega, k + 1, _, rfl, hlt, rfl, rfl, rfl, rfl, rfl, Strs.mk hown3 (by rw [HSU.out]; simp) (by rw [HSU.out]; simp), (hC.trans hC2).trans' (app_chg hv2 hg3) fun g hg h' => by omega⟩

/-- Nothing is told of a nil dict. -/
theorem Scan_nil (c : Nat) (w : World) :
    Calls Try.prog 34 #[.pointer none, .int .u32 (c : Int)] w fun e w' => e = .returned (.tuple #[.slice none 0 0, .int .u32 0]) ∧ Chg (fun _ => False) w w' := by
  have hz := Sizes_nil (w.alloc (Obj.cells #[.pointer none] 25))
  have hb := (Blk.new w 25 #[.pointer none]).cell 0
  simp only [List.getElem?_toArray, List.getElem?_cons_zero] at hb
  go_enter Try.func34, Try.ntmps34
  go_wp2_with fail
  refine hz.mono ?_
  rintro e w1 ⟨rfl, rfl⟩
  go_wp2_with fail
  go_ret2
  exact ⟨rfl, (Chg.refl _ w).alloc _⟩

set_option maxRecDepth 100000 in
set_option maxHeartbeats 1000000 in
theorem All_nil (w : World) : Calls Try.prog 38 #[.pointer none] w fun e w' => (∃ v, e = .returned v ∧ Strs w' w.heap.size v []) ∧ Chg (fun _ => False) w w' := by
  obtain ⟨i0, hi0, hz0, hz1, hz2⟩ := info_parts str_info
  have hs := Scan_nil 0 w
  go_enter Try.func38, Try.ntmps38
  go_wp2_with fail
  go_step3
  go_wp2_with fail
  go_step3
  go_wp2_with fail
  refine wp_loop_rounds 1 ?_
  rw [rounds_succ]
  go_wp2_with fail
  refine hs.mono ?_
  rintro e w1 ⟨rfl, hc1⟩
  go_wp2_with (at_builtin; refine wpList_append_any _ rfl (.tmp 13) (.tmp 14) 38 rfl w1.heap.size 9 i0 _ 1 16 Try.underlying38 hi0 hz0 hz1 hz2 rfl (by omega) (.slice none 0 0) 0 [] rfl (World.ownsRow_nil _ _ _ _) w1.heap.size none 0 0 [] rfl Reads.none_ (by simp) (by simp [maxLen]) (by omega) (Nat.le_refl _) ?_; intro v3 w3 hown3 hg3 hat3)
  rw [Exit.noGoto_ret]
  go_ret
  exact ⟨⟨_, rfl, Strs.lower (Strs.mk hown3 rfl rfl) hc1.size⟩, hc1.trans (Chg.of_grown hg3 fun _ h => (by cases h))⟩

end Go.Proofs.Ythbjjjcppijcbaa.Dint

/- Bounds of a dict's sizes under acts. -/
namespace Go.Proofs.Ythbjjjcppijcbaa
open Go.RowKit Pal Dint

def bndS (s : Nat × Option Nat × Nat) : Prop := s.1 ≤ 512 ∧ ∀ l, s.2.1 = some l → l ≤ 512
theorem sizeFor_512 {n : Int} (h : n ≤ 512) : sizeFor n ≤ 512 := by
  obtain ⟨k, h2, h16, e, hlt, _⟩ := sizeFor_spec n
  rw [e]
  rcases Nat.lt_or_ge k 10 with h' | h'
  · exact pow_mono (b := 9) (by omega)
  · have := hlt 9 (by omega) (by omega)
    have e9 : ((2 ^ 9 : Nat) : Int) = 512 := rfl
    omega
theorem bnd_step {s : Nat × Option Nat × Nat} (h : bndS s) (n : Int) : bndS (stepS s n) := by
  unfold stepS
  obtain ⟨s0, s1, s2⟩ := s
  cases s1 with
  | none => exact h
  | some l =>
    dsimp only
    split
    · exact ⟨h.1, fun l' e => h.2 l' e⟩
    · exact ⟨h.2 l rfl, fun l' e => (by cases e)⟩
theorem bnd_grow {s : Nat × Option Nat × Nat} (h : bndS s) {n : Nat} (hn : n ≤ 256) : bndS (growS s n) := by
  unfold growS
  split
  · exact ⟨h.1, fun l e => by injection e with e; rw [← e]; exact sizeFor_512 (by omega)⟩
  · exact h
theorem bnd_shrink {s : Nat × Option Nat × Nat} (h : bndS s) {n : Nat} (hn : n ≤ 256) : bndS (shrinkS s n) := by
  unfold shrinkS
  split
  · exact ⟨h.1, fun l e => by injection e with e; rw [← e]; exact sizeFor_512 (by omega)⟩
  · exact h
theorem acts_bnd {x : Act3} {d d' : Dm} (h : Acts x d d') (hb : bndS (Dint.shape d)) (hn : d.n ≤ 256) : bndS (Dint.shape d') := by
  rcases h with ⟨_, _, h⟩ | ⟨_, _, h⟩ | ⟨_, _, h⟩ | ⟨_, _, h⟩
  · rw [h]; split
    · exact bnd_grow (bnd_step hb 1) hn
    · exact bnd_step hb 1
  · rw [h]; exact bnd_step hb 1
  · rw [h]; split
    · exact bnd_shrink (bnd_step hb 1) (by omega)
    · exact bnd_step hb 1
  · rw [h]; exact bnd_step hb _
theorem bnd_A {d : Dm} (hok : d.Ok) (hb : bndS (Dint.shape d)) : 2 ^ scanA d ≤ 512 := by
  cases ht : d.t1 with
  | none => have h1 := (scan_none hok ht).1; have := hb.1; show 2 ^ scanA d ≤ 512; rw [← h1]; exact this
  | some t =>
    have h1 := (scan_some hok ht).2.2.2
    have e0 : d.t0.len ≤ 512 := hb.1
    have e1 : t.len ≤ 512 := hb.2 t.len (by unfold Dint.shape; rw [ht]; rfl)
    rcases h1 with ⟨_, h, _⟩ | ⟨_, h, _⟩ <;> omega
theorem _root_.Go.Proofs.Ythbjjjcppijcbaa.Dint.One.chgS {w0 W W' : World} {bd : Nat} {d : Dm} {S : Nat → Prop} (h : One w0 W bd d) (hc : Chg S W W') (hS : ∀ g, d.foot g → ¬ S g) (h0 : ∀ g, g < w0.heap.size → ¬ S g) : One w0 W' bd d :=
  ⟨h.md.chg hc hS, h.bd, h.chg.trans' hc fun g hg h' => absurd h' (h0 g hg)⟩
theorem all_1 {w0 W : World} {bd : Nat} {d : Dm} (h : One w0 W bd d) (hn : d.n ≤ 100000) :
    Calls Try.prog 38 #[.pointer (some ⟨bd, 0, none⟩)] W fun e W' => (∃ v, e = .returned v ∧ Strs W' W.heap.size v (allL d)) ∧ One w0 W' bd d ∧ Chg (fun _ => False) W W' := by
  have := All_any d W h.md.dm h.md.ok (by omega)
  rw [h.bd] at this
  exact this.mono fun r W' ⟨h1, h2⟩ => ⟨h1, h.chg0 h2, h2⟩

end Go.Proofs.Ythbjjjcppijcbaa

/- Scans while a dict moves, in plain words. -/
namespace Go.Proofs.Ythbjjjcppijcbaa
open Go.RowKit Pal Dint

/-- The place of a key's hash. -/
def kpos (seed a : Nat) (k : ByteArray) : Nat := pos a (sumN seed k.data.toList)
theorem filter_map_congr {α β : Type} (f : α → β) (p : α → Bool) (q : β → Bool) : ∀ l : List α, (∀ x ∈ l, p x = q (f x)) → (l.filter p).map f = (l.map f).filter q
  | [], _ => rfl
  | x :: l, h => by
    have hx := h x (by simp)
    have ih := filter_map_congr f p q l fun y hy => h y (by simp [hy])
    rw [List.map_cons, List.filter_cons, List.filter_cons, ← hx]
    cases hp : p x with
    | true => rw [if_pos rfl, if_pos rfl, List.map_cons, ih]
    | false => rw [if_neg (by simp), if_neg (by simp), ih]
theorem kpos_of {d : Dm} (hok : d.Ok) (a : Nat) {x : Nd} (hx : x ∈ d.nodes) : kpos d.seed a x.key = pos a x.sum := congrArg (pos a) (hok.sums x hx).symm
theorem filter_keys_eq {d : Dm} (hok : d.Ok) (a q : Nat) : (d.nodes.filter fun x => decide (pos a x.sum = q)).map (·.key) = (d.nodes.map (·.key)).filter fun k => decide (kpos d.seed a k = q) :=
  filter_map_congr (fun x : Nd => x.key) (fun x => decide (pos a x.sum = q)) (fun k => decide (kpos d.seed a k = q)) d.nodes fun x hx => by
    have := kpos_of hok a hx
    generalize kpos d.seed a x.key = y at this
    rw [this]
theorem mem_keys {d : Dm} {k : ByteArray} : k ∈ d.nodes.map (·.key) ↔ (d.look k).isSome = true := by
  constructor
  · intro h
    obtain ⟨x, hx, rfl⟩ := List.mem_map.1 h
    cases hl : d.look x.key with
    | none => exact absurd rfl (look_none.1 hl x hx)
    | some v => rfl
  · intro h
    obtain ⟨v, hv⟩ := Option.isSome_iff_exists.1 h
    unfold Dm.look at hv
    rw [Option.map_eq_some_iff] at hv
    obtain ⟨x, h1, _⟩ := hv
    exact List.mem_map.2 ⟨x, List.mem_of_find?_eq_some h1, by simpa using List.find?_some h1⟩
theorem keys_perm {d d' : Dm} (hok : d.Ok) (hok' : d'.Ok) (h : ∀ k, d'.look k = d.look k) : (d'.nodes.map (·.key)).Perm (d.nodes.map (·.key)) := by
  refine (List.perm_ext_iff_of_nodup hok'.keys hok.keys).2 fun k => ?_
  rw [mem_keys, mem_keys, h]

/-- The keys told, where the scan has come to place k of 2^a. -/
def Told (d : Dm) (a k : Nat) (l : List ByteArray) : Prop := l.Perm ((d.nodes.map (·.key)).filter fun x => decide (kpos d.seed a x < k))
theorem Told.zero (d : Dm) (a : Nat) : Told d a 0 [] := by
  unfold Told
  have e : (d.nodes.map (·.key)).filter (fun x => decide (kpos d.seed a x < 0)) = [] := by
    rw [List.filter_eq_nil_iff]
    intro x _ h
    exact absurd (of_decide_eq_true h) (Nat.not_lt_zero _)
  rw [e]
theorem Told.scan {d : Dm} (hok : d.Ok) {k : Nat} {l : List ByteArray} (h : Told d (scanA d) k l) (hk : k < 2 ^ scanA d) : Told d (scanA d) (k + 1) (l ++ scanL d (cur (scanA d) k)) := by
  unfold Told at *
  have h2 := scan_once hok hk
  rw [filter_keys_eq hok] at h2
  exact (h.append h2).trans (filter_lt_succ (fun x => kpos d.seed (scanA d) x) k _)
theorem Told.up {d d' : Dm} (hok : d.Ok) (hok' : d'.Ok) (hl : ∀ k, d'.look k = d.look k) (hs : d'.seed = d.seed) {a b k : Nat} (hab : a ≤ b) (hb : b ≤ 32) {l : List ByteArray} (h : Told d a k l) : Told d' b (k * 2 ^ (b - a)) l := by
  unfold Told at *
  rw [hs]
  refine (h.trans ?_).trans ((keys_perm hok hok' hl).filter _).symm
  have e : (d.nodes.map (·.key)).filter (fun x => decide (kpos d.seed a x < k)) = (d.nodes.map (·.key)).filter (fun x => decide (kpos d.seed b x < k * 2 ^ (b - a))) := by
    apply List.filter_congr
    intro x _
    rw [decide_eq_decide]
    unfold kpos
    rw [pos_down hab hb]
    exact Nat.div_lt_iff_lt_mul Nat.one_le_two_pow
  rw [e]
theorem Told.all {d : Dm} (hok : d.Ok) {a : Nat} (ha : a ≤ 32) {l : List ByteArray} (h : Told d a (2 ^ a) l) : l.Perm (d.nodes.map (·.key)) := by
  unfold Told at h
  have e : (d.nodes.map (·.key)).filter (fun x => decide (kpos d.seed a x < 2 ^ a)) = d.nodes.map (·.key) := List.filter_eq_self.2 fun x _ => decide_eq_true (pos_lt ha _)
  rw [e] at h
  exact h
theorem Told.len {d : Dm} (hok : d.Ok) {a k : Nat} {l : List ByteArray} (h : Told d a k l) : l.length ≤ d.n := by
  unfold Told at h
  rw [h.length_eq, hok.count]
  exact Nat.le_trans (List.length_filter_le _ _) (by simp)

/-! ### growing dicts -/
def growing (s : Nat × Option Nat × Nat) : Prop := ∀ l, s.2.1 = some l → s.1 ≤ l
theorem growing_step {s : Nat × Option Nat × Nat} (h : growing s) (n : Int) : growing (stepS s n) ∧ s.1 ≤ (stepS s n).1 := by
  unfold stepS
  obtain ⟨s0, s1, s2⟩ := s
  cases s1 with
  | none => exact ⟨h, Nat.le_refl _⟩
  | some l =>
    dsimp only
    split
    · exact ⟨fun l' e => h l' e, Nat.le_refl _⟩
    · exact ⟨fun l' e => (by cases e), h l rfl⟩
theorem growing_A {d : Dm} (hok : d.Ok) (h : growing (Dint.shape d)) : 2 ^ scanA d = (Dint.shape d).1 := by
  cases ht : d.t1 with
  | none => exact (scan_none hok ht).1.symm
  | some t =>
    have h1 := (scan_some hok ht).2.2.2
    have h2 : d.t0.len ≤ t.len := h t.len (by unfold Dint.shape; rw [ht]; rfl)
    show _ = d.t0.len
    rcases h1 with ⟨_, h, _⟩ | ⟨_, _, _, h⟩ <;> omega
theorem growing_up {d d' : Dm} (hok : d.Ok) (hok' : d'.Ok) (h : growing (Dint.shape d)) {n : Int} (hs : Dint.shape d' = stepS (Dint.shape d) n) : growing (Dint.shape d') ∧ scanA d ≤ scanA d' := by
  obtain ⟨h1, h2⟩ := growing_step h n
  rw [← hs] at h1 h2
  refine ⟨h1, pow_le_of ?_⟩
  rw [growing_A hok h, growing_A hok' h1]
  exact h2

end Go.Proofs.Ythbjjjcppijcbaa

/- The document's dict and the program's, tied. -/
namespace Go.Proofs.Ythbjjjcppijcbaa
open Go.RowKit Pal Dint

structure Tie (d : Dm) (r : Rm) : Prop where
  seed : r.seed = d.seed
  a : r.a = (Dint.shape d).1
  b : r.b = (Dint.shape d).2.1.getD 0
  at_ : r.at_ = (Dint.shape d).2.2
  n : r.l.length = d.n
  keys : (r.l.map (·.key)).Nodup
  node : ∀ x ∈ r.l, d.look x.key = some (.int .i64 x.v) ∧ x.sum = sumN d.seed x.key.data.toList ∧ (x.next = true ↔ d.in1 x.key)
  has : ∀ k, (d.look k).isSome = true → ∃ x ∈ r.l, x.key = k

theorem sized_lt {d : Dm} (hok : d.Ok) : 4 ≤ (Dint.shape d).1 ∧ (Dint.shape d).1 ≤ 65536 ∧ ∀ l, (Dint.shape d).2.1 = some l → 4 ≤ l ∧ l ≤ 65536 := by
  have h0 := hok.s0.pos
  refine ⟨h0.1, h0.2, fun l hl => ?_⟩
  cases ht : d.t1 with
  | none => unfold Dint.shape at hl; rw [ht] at hl; cases hl
  | some t =>
    unfold Dint.shape at hl
    rw [ht] at hl
    injection hl with hl
    have := (hok.s1 t ht).pos
    subst hl
    exact this
theorem Tie.b0 {d : Dm} {r : Rm} (h : Tie d r) (hok : d.Ok) : r.b = 0 ↔ (Dint.shape d).2.1 = none := by
  rw [h.b]
  cases hs : (Dint.shape d).2.1 with
  | none => simp
  | some l =>
    have := (sized_lt hok).2.2 l hs
    simp
    omega
theorem Tie.b1 {d : Dm} {r : Rm} (h : Tie d r) (hok : d.Ok) : 0 < r.b ↔ d.t1.isSome = true := by
  have h1 := h.b0 hok
  have h2 : (Dint.shape d).2.1 = d.t1.map Tb.len := rfl
  rw [h2] at h1
  cases ht : d.t1 with
  | none => rw [ht] at h1; have := h1.2 rfl; simp; omega
  | some t => rw [ht] at h1; simp at h1; simp; omega
theorem Tie.ok {d : Dm} {r : Rm} (h : Tie d r) (hok : d.Ok) (hn : d.n ≤ 1000000) : r.Ok := by
  obtain ⟨h1, h2, h3⟩ := sized_lt hok
  refine ⟨by rw [h.a]; exact h2, ?_, by rw [h.a]; omega, ?_, by rw [h.n]; exact hn, by rw [h.seed]; exact hok.seed, fun x hx => by rw [(h.node x hx).2.1]; exact sumN_lt _ _⟩
  · rw [h.b]
    cases hs : (Dint.shape d).2.1 with
    | none => simp
    | some l => exact (h3 l hs).2
  · rw [h.at_, h.a]
    show d.at_ < d.t0.len
    cases ht : d.t1 with
    | none => rw [hok.at0 ht]; have : 4 ≤ d.t0.len := h1; omega
    | some t => exact hok.atlt t ht
/-- The dict's node of a model's node. -/
theorem Tie.nd {d : Dm} {r : Rm} (h : Tie d r) (hok : d.Ok) {x : Nr} (hx : x ∈ r.l) : ∃ y ∈ d.nodes, y.key = x.key ∧ y.v = .int .i64 x.v ∧ y.sum = x.sum := by
  obtain ⟨h1, h2, _⟩ := h.node x hx
  obtain ⟨y, hy, hk, hv⟩ := (look_some hok.keys).1 h1
  exact ⟨y, hy, hk, hv, by rw [hok.sums y hy, hk, h2]⟩
theorem Tie.mem {d : Dm} {r : Rm} (h : Tie d r) (hok : d.Ok) {y : Nd} (hy : y ∈ d.nodes) : ∃ x ∈ r.l, x.key = y.key ∧ x.sum = y.sum := by
  obtain ⟨x, hx, hk⟩ := h.has y.key (by rw [look_of hok.keys hy]; rfl)
  exact ⟨x, hx, hk, by rw [(h.node x hx).2.1, hok.sums y hy, hk]⟩

/-! ### the buckets -/
theorem Tie.alike {d : Dm} {r : Rm} (h : Tie d r) (hok : d.Ok) : Alike d r := by
  refine ⟨h.a, h.b, fun ti si hti hsi => ?_⟩
  obtain ⟨t, ht, hst⟩ := tab_cases hsi
  have hsz : r.sz ti = t.len := by
    unfold Rm.sz
    rcases (by omega : ti = 0 ∨ ti = 1) with rfl | rfl
    · injection ht with ht; subst ht; exact h.a
    · have ht : d.t1 = some t := ht
      rw [if_pos rfl, h.b]
      show (d.t1.map Tb.len).getD 0 = _
      rw [ht]; rfl
  obtain ⟨hs1, hin, hmem⟩ := tab_ok hok ht
  have hK : keysAt d ti si = sortB ((t.at si).map (·.key)) := by unfold keysAt; rw [ht]
  rw [hK]
  unfold Rm.bk
  rw [hsz]
  have hnd2 : ((t.at si).map (·.key)).Nodup := by
    have := ((tab_perm ht hst).map (·.key)).nodup_iff.1 hok.keys
    rw [List.map_append, List.nodup_append] at this
    exact this.1
  have hnd1 : ((r.l.filter (inT ti t.len si)).map (·.key)).Nodup := (List.filter_sublist.map _).nodup h.keys
  refine sortI_eq hnd1 ((List.perm_ext_iff_of_nodup hnd1 hnd2).2 fun k => ?_)
  rw [List.mem_map, List.mem_map]
  constructor
  · rintro ⟨x, hx, rfl⟩
    obtain ⟨hx1, hx2⟩ := List.mem_filter.1 hx
    obtain ⟨hq1, hq2⟩ := inT_iff.1 hx2
    obtain ⟨y, hy, hyk, _, hys⟩ := h.nd hok hx1
    have hiff := (h.node x hx1).2.2
    rcases (by omega : ti = 0 ∨ ti = 1) with rfl | rfl
    · injection ht with ht
      subst ht
      rcases nodes_split hy with h1 | h1
      · obtain ⟨j, hj, hyj⟩ := mem_nodes.1 h1
        have := hin j y hj hyj
        rw [hys, hq2] at this
        subst this
        exact ⟨y, hyj, hyk⟩
      · rw [hyk, ← hiff, hq1] at h1
        cases h1
    · have ht1 : d.t1 = some t := ht
      have h1 := hiff.1 (by rw [hq1]; rfl)
      obtain ⟨t', e, y', hy', hyk'⟩ := h1
      rw [ht1] at e
      injection e with e
      subst e
      obtain ⟨j, hj, hyj⟩ := mem_nodes.1 hy'
      have := hin j y' hj hyj
      rw [hok.sums y' (mem_nodes1 ht1 hy'), hyk', ← (h.node x hx1).2.1, hq2] at this
      subst this
      exact ⟨y', hyj, hyk'⟩
  · rintro ⟨y, hy, rfl⟩
    have hyt : y ∈ t.nodes := mem_nodes.2 ⟨si, hst, hy⟩
    obtain ⟨x, hx, hxk, hxs⟩ := h.mem hok (hmem y hyt)
    refine ⟨x, List.mem_filter.2 ⟨hx, inT_iff.2 ⟨?_, by rw [hxs]; exact hin si y hst hy⟩⟩, hxk⟩
    have hiff := (h.node x hx).2.2
    rcases (by omega : ti = 0 ∨ ti = 1) with rfl | rfl
    · injection ht with ht
      subst ht
      have := not_in1 hok hyt
      rw [← hxk, ← hiff] at this
      cases hb : x.next with
      | false => rfl
      | true => exact absurd hb this
    · have := hiff.2 ⟨t, ht, y, hyt, hxk.symm⟩
      rw [this]; rfl

/-! ### steps -/
theorem mv_map_keys (a b : Nat) (l : List Nr) : (l.map (mv a b)).map (·.key) = l.map (·.key) := by
  rw [List.map_map]; exact List.map_congr_left fun x _ => mv_key a b x
theorem un_map_keys (l : List Nr) : (l.map unN).map (·.key) = l.map (·.key) := by
  rw [List.map_map]; exact List.map_congr_left fun x _ => rfl
theorem Tie.slot {d : Dm} {r : Rm} (h : Tie d r) (hok : d.Ok) {t : Tb} (ht : d.t1 = some t) : Tie (moveSlot d) r.slot := by
  have hok' := moveSlot_ok hok
  have hl : ∀ k, (moveSlot d).look k = d.look k := fun k => look_perm hok.keys (moveSlot_perm hok) k
  obtain ⟨hb1, hb2, hb3⟩ := moveSlot_blk d
  have hsh : Dint.shape (moveSlot d) = if d.at_ + 1 = d.t0.len then (t.len, none, 0) else (d.t0.len, some t.len, d.at_ + 1) := by
    unfold moveSlot
    rw [ht]
    dsimp only
    split
    · unfold Dint.shape; dsimp only; rw [fold_len]; rfl
    · unfold Dint.shape; dsimp only; rw [Tb.set_len]; simp [fold_len]
  have ha : r.a = d.t0.len := h.a
  have hat : r.at_ = d.at_ := h.at_
  have hb : r.b = t.len := by rw [h.b]; show (d.t1.map Tb.len).getD 0 = _; rw [ht]; rfl
  have hin : ∀ x ∈ r.l, (∃ y ∈ d.t0.at d.at_, y.key = x.key) → x.sum % d.t0.len = d.at_ := fun x hx ⟨y, hy, hk⟩ => by
    have hlt := hok.atlt t ht
    have h1 := hok.in0 d.at_ y hlt hy
    have hyn : y ∈ d.nodes := mem_nodes0 (mem_nodes.2 ⟨_, hlt, hy⟩)
    rw [hok.sums y hyn, hk, ← (h.node x hx).2.1] at h1
    exact h1
  by_cases hq : d.at_ + 1 = d.t0.len
  · rw [if_pos hq] at hsh
    have hs : r.slot = { r with a := r.b, b := 0, at_ := 0, l := (r.l.map (mv r.a r.at_)).map unN } := by unfold Rm.slot; rw [if_pos (by rw [hat, ha]; exact hq)]
    rw [hs]
    refine ⟨h.seed.trans hb2.symm, by rw [hsh]; exact hb, by rw [hsh]; rfl, by rw [hsh], by rw [hb3]; simpa using h.n, by rw [un_map_keys, mv_map_keys]; exact h.keys, ?_, ?_⟩
    · intro x hx
      obtain ⟨y, hy, rfl⟩ := List.mem_map.1 hx
      obtain ⟨z, hz, rfl⟩ := List.mem_map.1 hy
      obtain ⟨h1, h2, _⟩ := h.node z hz
      refine ⟨?_, ?_, ?_⟩
      · show (moveSlot d).look (mv r.a r.at_ z).key = some (.int .i64 (mv r.a r.at_ z).v)
        rw [hl, mv_key, mv_v]; exact h1
      · show (mv r.a r.at_ z).sum = sumN (moveSlot d).seed (mv r.a r.at_ z).key.data.toList
        rw [hb2, mv_key, mv_sum]; exact h2
      · rw [moveSlot_in1 hok ht]
        constructor
        · intro h; cases h
        · rintro ⟨h, _⟩; exact absurd hq h
    · intro k hk
      rw [hl] at hk
      obtain ⟨z, hz, rfl⟩ := h.has k hk
      exact ⟨_, List.mem_map.2 ⟨_, List.mem_map.2 ⟨z, hz, rfl⟩, rfl⟩, mv_key _ _ _⟩
  · rw [if_neg hq] at hsh
    have hs : r.slot = { r with at_ := r.at_ + 1, l := r.l.map (mv r.a r.at_) } := by unfold Rm.slot; rw [if_neg (by rw [hat, ha]; exact hq)]
    rw [hs]
    refine ⟨h.seed.trans hb2.symm, by rw [hsh]; exact ha, by rw [hsh]; exact hb, by rw [hsh]; show r.at_ + 1 = d.at_ + 1; rw [hat], by rw [hb3]; simpa using h.n, by rw [mv_map_keys]; exact h.keys, ?_, ?_⟩
    · intro x hx
      obtain ⟨z, hz, rfl⟩ := List.mem_map.1 hx
      obtain ⟨h1, h2, h3⟩ := h.node z hz
      refine ⟨by rw [hl, mv_key, mv_v]; exact h1, by rw [hb2, mv_key, mv_sum]; exact h2, ?_⟩
      rw [moveSlot_in1 hok ht, mv_key]
      unfold mv
      by_cases hm : z.sum % r.a = r.at_
      · rw [if_pos hm]
        refine ⟨fun _ => ⟨hq, ?_⟩, fun _ => rfl⟩
        obtain ⟨y, hy, hyk, _, hys⟩ := h.nd hok hz
        rcases nodes_split hy with h4 | h4
        · obtain ⟨j, hj, hyj⟩ := mem_nodes.1 h4
          have := hok.in0 j y hj hyj
          rw [hys, ← ha, hm, hat] at this
          subst this
          exact .inr ⟨y, hyj, hyk⟩
        · rw [hyk] at h4; exact .inl h4
      · rw [if_neg hm]
        constructor
        · intro hx; exact ⟨hq, .inl (h3.1 hx)⟩
        · rintro ⟨_, h4 | h4⟩
          · exact h3.2 h4
          · have := hin z hz h4
            rw [← ha, ← hat] at this
            exact absurd this hm
    · intro k hk
      rw [hl] at hk
      obtain ⟨z, hz, rfl⟩ := h.has k hk
      exact ⟨_, List.mem_map.2 ⟨z, hz, rfl⟩, mv_key _ _ _⟩
theorem Tie.k {d : Dm} {r : Rm} (h : Tie d r) (hok : d.Ok) (n : Int) : r.k n = stepK d n := by
  unfold Rm.k stepK
  have h1 := h.b1 hok
  have ha : r.a = d.t0.len := h.a
  have hat : r.at_ = d.at_ := h.at_
  rw [ha, hat]
  by_cases hb : 0 < r.b
  · rw [if_pos hb, if_pos (h1.1 hb)]
  · rw [if_neg hb, if_neg (fun h => hb (h1.2 h))]
theorem Tie.slots {d : Dm} {r : Rm} (h : Tie d r) (hok : d.Ok) (hn : d.n ≤ 1000000) (n : Int) : ∀ k, k ≤ r.k n → Tie (moveN d k) (r.slots k)
  | 0, _ => h
  | k + 1, hk => by
    have ih := h.slots hok hn n k (by omega)
    have hf := (Rm.k_facts (h.ok hok hn) n (k := k) (by omega)).2.1 (by omega)
    have hok' := moveN_ok hok k
    have h1 := (ih.b1 hok').1 hf.2
    obtain ⟨t, ht⟩ := Option.isSome_iff_exists.1 h1
    exact ih.slot hok' ht
theorem Tie.step {d : Dm} {r : Rm} (h : Tie d r) (hok : d.Ok) (hn : d.n ≤ 1000000) (n : Int) : Tie (stepD d n) (r.slots (r.k n)) := by
  have := h.slots hok hn n (r.k n) (Nat.le_refl _)
  rw [h.k hok n] at this ⊢
  exact this

/-! ### a thing set, a key deleted -/
/-- From a step's table to the table behind it. -/
theorem Tie.found {d : Dm} {r : Rm} (h : Tie d r) {k : ByteArray} : (∃ x ∈ r.l, x.key = k) ↔ (d.look k).isSome = true :=
  ⟨fun ⟨x, hx, hk⟩ => by rw [← hk, (h.node x hx).1]; rfl, h.has k⟩
theorem get_key {l : List Nr} (hnd : (l.map (·.key)).Nodup) {i j : Nat} {x y : Nr} (hx : l[i]? = some x) (hy : l[j]? = some y) (e : x.key = y.key) : i = j := by
  obtain ⟨hi, hx'⟩ := List.getElem?_eq_some_iff.1 hx
  obtain ⟨hj, hy'⟩ := List.getElem?_eq_some_iff.1 hy
  have := List.pairwise_iff_getElem.1 hnd
  rcases Nat.lt_trichotomy i j with h | h | h
  · exact absurd (by rw [List.getElem_map, List.getElem_map, hx', hy', e]) (this i j (by rw [List.length_map]; exact hi) (by rw [List.length_map]; exact hj) h)
  · exact h
  · exact absurd (by rw [List.getElem_map, List.getElem_map, hx', hy', e]) (this j i (by rw [List.length_map]; exact hj) (by rw [List.length_map]; exact hi) h)
theorem Tie.set {d0 d d' : Dm} {r : Rm} {key : ByteArray} {v : Int} {i : Nat} {x : Nr} (h : Tie d r) (hl : d0.look = d.look) (hse : d'.seed = d.seed) (hp : Puts key (.int .i64 v) d0 d') (hn0 : d0.n = d.n) (hs : Dint.shape d' = Dint.shape d) (hin : ∀ k, d'.in1 k ↔ d.in1 k)
    (hx : r.l[i]? = some x) (hk : x.key = key) : Tie d' { r with l := r.l.set i { x with v := v } } := by
  have hxm := List.mem_of_getElem? hx
  have hsome : (d0.look key).isNone = false := by rw [hl, ← hk, (h.node x hxm).1]; rfl
  have hkeys : (r.l.set i { x with v := v }).map (·.key) = r.l.map (·.key) := by
    rw [List.map_set]
    apply List.ext_getElem?
    intro j
    by_cases e : i = j
    · subst e
      have hi := (List.getElem?_eq_some_iff.1 hx).1
      rw [List.getElem?_set_self (by rw [List.length_map]; exact hi), List.getElem?_map, hx]; rfl
    · rw [List.getElem?_set_ne e]
  refine ⟨h.seed.trans hse.symm, by rw [hs]; exact h.a, by rw [hs]; exact h.b, by rw [hs]; exact h.at_, by rw [List.length_set, hp.2, hsome]; simpa [hn0] using h.n, by rw [hkeys]; exact h.keys, ?_, ?_⟩
  · intro y hy
    obtain ⟨j, hj, rfl⟩ := List.mem_iff_getElem.1 hy
    rw [List.length_set] at hj
    rw [List.getElem_set]
    split
    · rename_i e
      obtain ⟨h1, h2, h3⟩ := h.node x hxm
      exact ⟨by rw [hp.1, if_pos hk], by rw [hse]; exact h2, by rw [hin]; exact h3⟩
    · rename_i e
      have hym := List.getElem_mem hj
      obtain ⟨h1, h2, h3⟩ := h.node _ hym
      refine ⟨?_, by rw [hse]; exact h2, by rw [hin]; exact h3⟩
      rw [hp.1, if_neg, hl]
      · exact h1
      · intro e'
        exact e (get_key h.keys hx (List.getElem?_eq_getElem hj) (hk.trans e'.symm))
  · intro k hk'
    rw [hp.1] at hk'
    have hmem : ∀ k, k ∈ r.l.map (·.key) → ∃ y ∈ r.l.set i { x with v := v }, y.key = k := fun k hk => by
      rw [← hkeys] at hk
      exact List.mem_map.1 hk
    split at hk'
    · rename_i e
      exact hmem k (List.mem_map.2 ⟨x, hxm, hk.trans e.symm⟩)
    · rw [hl] at hk'
      obtain ⟨y, hy, hyk⟩ := h.has k hk'
      exact hmem k (List.mem_map.2 ⟨y, hy, hyk⟩)
theorem Tie.add {d0 d d' : Dm} {r r2 : Rm} {key : ByteArray} {v : Int} {lv : Value} (h : Tie d r) (hok' : d'.Ok) (hl : d0.look = d.look) (hse : d'.seed = d.seed) (hp : Puts key (.int .i64 v) d0 d') (hn0 : d0.n = d.n) (hno : ∀ x ∈ r.l, x.key ≠ key)
    (ha : r2.a = (Dint.shape d').1) (hb : r2.b = (Dint.shape d').2.1.getD 0) (hat : r2.at_ = (Dint.shape d').2.2) (hsd : r2.seed = r.seed) (hin : ∀ k, d'.in1 k ↔ d.in1 k ∨ (k = key ∧ d'.t1.isSome = true ∧ d0.look key = none)) :
    Tie d' { r2 with lv := lv, l := r.l ++ [⟨key, v, sumN r.seed key.data.toList, decide (0 < r2.b)⟩] } := by
  have hnone : d0.look key = none := by
    rw [hl]
    cases hlk : d.look key with
    | none => rfl
    | some u =>
      obtain ⟨x, hx, hk⟩ := h.has key (by rw [hlk]; rfl)
      exact absurd hk (hno x hx)
  have hbs : 0 < r2.b ↔ d'.t1.isSome = true := by
    rw [hb]
    show 0 < (d'.t1.map Tb.len).getD 0 ↔ _
    cases ht : d'.t1 with
    | none => simp
    | some t => have := (hok'.s1 t ht).pos; simp; omega
  refine ⟨(hsd.trans h.seed).trans hse.symm, ha, hb, hat, by rw [List.length_append, hp.2, hnone]; simp [h.n, hn0], ?_, ?_, ?_⟩
  · rw [List.map_append, List.nodup_append]
    refine ⟨h.keys, by simp, fun a ha b hb => ?_⟩
    obtain ⟨x, hx, rfl⟩ := List.mem_map.1 ha
    simp at hb
    subst hb
    exact hno x hx
  · intro y hy
    rcases List.mem_append.1 hy with hy | hy
    · obtain ⟨h1, h2, h3⟩ := h.node y hy
      refine ⟨by rw [hp.1, if_neg (hno y hy), hl]; exact h1, by rw [hse]; exact h2, ?_⟩
      rw [hin, h3]
      exact ⟨.inl, fun h => h.elim id fun h => absurd h.1 (hno y hy)⟩
    · rw [List.mem_singleton] at hy
      subst hy
      refine ⟨by rw [hp.1, if_pos rfl], by rw [hse, ← h.seed], ?_⟩
      show decide (0 < r2.b) = true ↔ d'.in1 key
      rw [decide_eq_true_iff, hbs, hin]
      refine ⟨fun h => .inr ⟨rfl, h, hnone⟩, fun h' => h'.elim (fun h' => ?_) (fun h' => h'.2.1)⟩
      obtain ⟨y, hy, hyk⟩ := in1_nodes h'
      have hlk := look_none (d := d) (k := key)
      rw [← hl] at hlk
      exact absurd hyk (hlk.1 hnone y hy)
  · intro k hk
    rw [hp.1] at hk
    split at hk
    · rename_i e
      exact ⟨_, List.mem_append.2 (.inr (List.mem_singleton.2 rfl)), e.symm⟩
    · rw [hl] at hk
      obtain ⟨y, hy, hyk⟩ := h.has k hk
      exact ⟨y, List.mem_append.2 (.inl hy), hyk⟩
theorem Tie.grow {d : Dm} {r : Rm} (h : Tie d r) (hok : d.Ok) : r.grow.a = (growS (Dint.shape d) d.n).1 ∧ r.grow.b = (growS (Dint.shape d) d.n).2.1.getD 0 ∧ r.grow.at_ = (growS (Dint.shape d) d.n).2.2 ∧ r.grow.seed = r.seed := by
  unfold Rm.grow growS
  have hc : (r.b = 0 ∧ r.a ≤ r.l.length ∧ r.a < 65536) ↔ ((Dint.shape d).2.1 = none ∧ (Dint.shape d).1 ≤ d.n ∧ (Dint.shape d).1 < 65536) := by
    rw [h.b0 hok, h.a, h.n]
  by_cases hq : r.b = 0 ∧ r.a ≤ r.l.length ∧ r.a < 65536
  · rw [if_pos hq, if_pos (hc.1 hq)]
    refine ⟨h.a, ?_, h.at_, rfl⟩
    show sizeFor (2 * (r.l.length : Int)) = sizeFor ((2 * d.n : Nat) : Int)
    rw [h.n, show ((2 * d.n : Nat) : Int) = 2 * (d.n : Int) by omega]
  · rw [if_neg hq, if_neg (fun h' => hq (hc.2 h'))]
    exact ⟨h.a, h.b, h.at_, rfl⟩
theorem Tie.del {d0 d d' : Dm} {r : Rm} {key : ByteArray} {i : Nat} {x : Nr} {lv : Value} (h : Tie d r) (hok : d.Ok) (hl : d0.look = d.look) (hse : d'.seed = d.seed) (hp : Cuts key d0 d') (hn0 : d0.n = d.n)
    (hs : Dint.shape d' = shrinkS (Dint.shape d) (d.n - 1)) (hin : ∀ k, d'.in1 k ↔ d.in1 k ∧ k ≠ key) (hx : r.l[i]? = some x) (hk : x.key = key) :
    Tie d' ({ r with lv := lv, l := r.l.take i ++ r.l.drop (i + 1) } : Rm).shrink := by
  obtain ⟨hi, hx'⟩ := List.getElem?_eq_some_iff.1 hx
  have hxm := List.mem_of_getElem? hx
  have hsome : (d0.look key).isSome = true := by rw [hl, ← hk, (h.node x hxm).1]; rfl
  have hp0 : r.l.Perm (x :: (r.l.take i ++ r.l.drop (i + 1))) := by
    have e : r.l = r.l.take i ++ x :: r.l.drop (i + 1) := by
      have := List.take_append_drop i r.l
      rw [List.drop_eq_getElem_cons hi, hx'] at this
      exact this.symm
    exact (List.Perm.of_eq e).trans List.perm_middle
  obtain ⟨l', hl'⟩ : ∃ l', l' = r.l.take i ++ r.l.drop (i + 1) := ⟨_, rfl⟩
  rw [← hl'] at hp0 ⊢
  have hnd := (hp0.map (·.key)).nodup_iff.1 h.keys
  rw [List.map_cons, List.nodup_cons] at hnd
  have hlen : l'.length = d.n - 1 := by
    have := hp0.length_eq
    rw [h.n, List.length_cons] at this
    omega
  have hnk : ∀ y ∈ l', y.key ≠ key := fun y hy e => hnd.1 (List.mem_map.2 ⟨y, hy, e.trans hk.symm⟩)
  have hc : (r.b = 0 ∧ 4 < r.a ∧ 8 * l'.length < r.a) ↔ ((Dint.shape d).2.1 = none ∧ 4 < (Dint.shape d).1 ∧ 8 * (d.n - 1) < (Dint.shape d).1) := by
    rw [h.b0 hok, h.a, hlen]
  have hsh : ∃ b', ({ r with lv := lv, l := l' } : Rm).shrink = { r with lv := lv, l := l', b := b' } ∧ b' = (Dint.shape d').2.1.getD 0 ∧ r.a = (Dint.shape d').1 ∧ r.at_ = (Dint.shape d').2.2 := by
    rw [hs]
    unfold Rm.shrink shrinkS
    dsimp only
    by_cases hq : r.b = 0 ∧ 4 < r.a ∧ 8 * l'.length < r.a
    · rw [if_pos hq, if_pos (hc.1 hq)]
      exact ⟨_, rfl, by show sizeFor (l'.length : Int) = sizeFor ((d.n - 1 : Nat) : Int); rw [hlen], h.a, h.at_⟩
    · rw [if_neg hq, if_neg (fun h' => hq (hc.2 h'))]
      exact ⟨r.b, rfl, h.b, h.a, h.at_⟩
  obtain ⟨b', e1, e2, e3, e4⟩ := hsh
  rw [e1]
  refine ⟨h.seed.trans hse.symm, e3, e2, e4, by rw [hp.2, hsome]; simpa [hn0] using hlen, hnd.2, ?_, ?_⟩
  · intro y hy
    obtain ⟨h1, h2, h3⟩ := h.node y (hp0.mem_iff.2 (List.mem_cons_of_mem _ hy))
    refine ⟨by rw [hp.1, if_neg (hnk y hy), hl]; exact h1, by rw [hse]; exact h2, ?_⟩
    rw [hin, h3]
    exact ⟨fun h' => ⟨h', hnk y hy⟩, fun h' => h'.1⟩
  · intro k hk'
    rw [hp.1] at hk'
    split at hk'
    · cases hk'
    · rename_i hne
      rw [hl] at hk'
      obtain ⟨y, hy, hyk⟩ := h.has k hk'
      rcases List.mem_cons.1 (hp0.mem_iff.1 hy) with e | e
      · exact absurd (by rw [← hyk, e, hk]) hne
      · exact ⟨y, e, hyk⟩
theorem Tie.new {d : Dm} (hn : d.n = 0) (hl : ∀ k, d.look k = none) (hs : Dint.shape d = (4, none, 0)) {seed blk : Nat} (hse : d.seed = seed) {lv : Value} : Tie d ⟨blk, lv, seed, 4, 0, 0, []⟩ :=
  ⟨hse.symm, by rw [hs], by rw [hs]; rfl, by rw [hs], hn.symm, List.nodup_nil, fun x hx => (by cases hx), fun k hk => (by rw [hl] at hk; cases hk)⟩

end Go.Proofs.Ythbjjjcppijcbaa
