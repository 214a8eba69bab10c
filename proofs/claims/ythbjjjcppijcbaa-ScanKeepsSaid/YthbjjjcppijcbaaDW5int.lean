/- Contract of dict.with. -/
import Derived.Test.YthbjjjcppijcbaaDW4int
import Derived.Test.YthbjjjcppijcbaaDP3int
import Derived.Laws.StructEq
namespace Go.Proofs.Ythbjjjcppijcbaa.Dint
open Go.RowKit Pal
attribute [local go_sem] Oper.semAt_some

/-- Where the pointer to what follows 'pre' hangs. -/
def loc (t : Tb) (i : Nat) (pre : Ch) : Addr :=
  match pre.getLast? with
  | none => ⟨t.blk, i, none⟩
  | some y => ⟨y.blk, 3, none⟩
theorem loc_nil (t : Tb) (i : Nat) : loc t i [] = ⟨t.blk, i, none⟩ := rfl
theorem loc_snoc (t : Tb) (i : Nat) (pre : Ch) (y : Nd) : loc t i (pre ++ [y]) = ⟨y.blk, 3, none⟩ := by simp [loc]
theorem loc_cell {w : World} {t : Tb} (h : tbAt w t) {i : Nat} (hi : i < t.len) {pre rest : Ch} (e : t.at i = pre ++ rest) : w.cell? (loc t i pre) = some (hd rest) := by
  rcases List.eq_nil_or_concat pre with rfl | ⟨p, y, rfl⟩
  · rw [loc_nil, h.1.cell i, tbCells_get hi, e]; rfl
  · rw [List.concat_eq_append, loc_snoc]
    have hc := h.2 _ (Tb.at_mem hi)
    rw [e, List.concat_eq_append, List.append_assoc] at hc
    exact (hc.node rfl).cell 3
theorem loc_spot (t : Tb) (i : Nat) (pre : Ch) : (loc t i pre).spot = none := by unfold loc; split <;> rfl
def WithPost (d : Dm) (key : ByteArray) (w : World) (R : World → Prop) (e : Ending) (w' : World) : Prop :=
  (e = .returned (.bool true) ∧ (∃ x ∈ d.nodes, x.key = key) ∧ R w') ∨ (e = .returned (.bool false) ∧ (∀ x ∈ d.nodes, x.key ≠ key) ∧ Chg (fun _ => False) w w')

theorem all52 {P : Array Value → Prop} (h : ∀ u0 u1 u2 u3 u4 u5 u6 u7 u8 u9 u10 u11 u12 u13 u14 u15 u16 u17 u18 u19 u20 u21 u22 u23 u24 u25 u26 u27 u28 u29 u30 u31 u32 u33 u34 u35 u36 u37 u38 u39 u40 u41 u42 u43 u44 u45 u46 u47 u48 u49 u50 u51 : Value, P #[u0, u1, u2, u3, u4, u5, u6, u7, u8, u9, u10, u11, u12, u13, u14, u15, u16, u17, u18, u19, u20, u21, u22, u23, u24, u25, u26, u27, u28, u29, u30, u31, u32, u33, u34, u35, u36, u37, u38, u39, u40, u41, u42, u43, u44, u45, u46, u47, u48, u49, u50, u51]) (a : Array Value) (hs : a.size = 52) : P a := by
  obtain ⟨l⟩ := a
  have g0 : l.length = 52 := hs
  clear hs
  obtain ⟨u0, l0, e0, g1⟩ := Pal.len_cons g0
  obtain ⟨u1, l1, e1, g2⟩ := Pal.len_cons g1
  obtain ⟨u2, l2, e2, g3⟩ := Pal.len_cons g2
  obtain ⟨u3, l3, e3, g4⟩ := Pal.len_cons g3
  obtain ⟨u4, l4, e4, g5⟩ := Pal.len_cons g4
  obtain ⟨u5, l5, e5, g6⟩ := Pal.len_cons g5
  obtain ⟨u6, l6, e6, g7⟩ := Pal.len_cons g6
  obtain ⟨u7, l7, e7, g8⟩ := Pal.len_cons g7
  obtain ⟨u8, l8, e8, g9⟩ := Pal.len_cons g8
  obtain ⟨u9, l9, e9, g10⟩ := Pal.len_cons g9
  obtain ⟨u10, l10, e10, g11⟩ := Pal.len_cons g10
  obtain ⟨u11, l11, e11, g12⟩ := Pal.len_cons g11
  obtain ⟨u12, l12, e12, g13⟩ := Pal.len_cons g12
  obtain ⟨u13, l13, e13, g14⟩ := Pal.len_cons g13
  obtain ⟨u14, l14, e14, g15⟩ := Pal.len_cons g14
  obtain ⟨u15, l15, e15, g16⟩ := Pal.len_cons g15
  obtain ⟨u16, l16, e16, g17⟩ := Pal.len_cons g16
  obtain ⟨u17, l17, e17, g18⟩ := Pal.len_cons g17
  obtain ⟨u18, l18, e18, g19⟩ := Pal.len_cons g18
  obtain ⟨u19, l19, e19, g20⟩ := Pal.len_cons g19
  obtain ⟨u20, l20, e20, g21⟩ := Pal.len_cons g20
  obtain ⟨u21, l21, e21, g22⟩ := Pal.len_cons g21
  obtain ⟨u22, l22, e22, g23⟩ := Pal.len_cons g22
  obtain ⟨u23, l23, e23, g24⟩ := Pal.len_cons g23
  obtain ⟨u24, l24, e24, g25⟩ := Pal.len_cons g24
  obtain ⟨u25, l25, e25, g26⟩ := Pal.len_cons g25
  obtain ⟨u26, l26, e26, g27⟩ := Pal.len_cons g26
  obtain ⟨u27, l27, e27, g28⟩ := Pal.len_cons g27
  obtain ⟨u28, l28, e28, g29⟩ := Pal.len_cons g28
  obtain ⟨u29, l29, e29, g30⟩ := Pal.len_cons g29
  obtain ⟨u30, l30, e30, g31⟩ := Pal.len_cons g30
  obtain ⟨u31, l31, e31, g32⟩ := Pal.len_cons g31
  obtain ⟨u32, l32, e32, g33⟩ := Pal.len_cons g32
  obtain ⟨u33, l33, e33, g34⟩ := Pal.len_cons g33
  obtain ⟨u34, l34, e34, g35⟩ := Pal.len_cons g34
  obtain ⟨u35, l35, e35, g36⟩ := Pal.len_cons g35
  obtain ⟨u36, l36, e36, g37⟩ := Pal.len_cons g36
  obtain ⟨u37, l37, e37, g38⟩ := Pal.len_cons g37
  obtain ⟨u38, l38, e38, g39⟩ := Pal.len_cons g38
  obtain ⟨u39, l39, e39, g40⟩ := Pal.len_cons g39
  obtain ⟨u40, l40, e40, g41⟩ := Pal.len_cons g40
  obtain ⟨u41, l41, e41, g42⟩ := Pal.len_cons g41
  obtain ⟨u42, l42, e42, g43⟩ := Pal.len_cons g42
  obtain ⟨u43, l43, e43, g44⟩ := Pal.len_cons g43
  obtain ⟨u44, l44, e44, g45⟩ := Pal.len_cons g44
  obtain ⟨u45, l45, e45, g46⟩ := Pal.len_cons g45
  obtain ⟨u46, l46, e46, g47⟩ := Pal.len_cons g46
  obtain ⟨u47, l47, e47, g48⟩ := Pal.len_cons g47
  obtain ⟨u48, l48, e48, g49⟩ := Pal.len_cons g48
  obtain ⟨u49, l49, e49, g50⟩ := Pal.len_cons g49
  obtain ⟨u50, l50, e50, g51⟩ := Pal.len_cons g50
  obtain ⟨u51, l51, e51, g52⟩ := Pal.len_cons g51
  obtain rfl := List.eq_nil_of_length_eq_zero g52
  have e : (⟨l⟩ : Array Value) = #[u0, u1, u2, u3, u4, u5, u6, u7, u8, u9, u10, u11, u12, u13, u14, u15, u16, u17, u18, u19, u20, u21, u22, u23, u24, u25, u26, u27, u28, u29, u30, u31, u32, u33, u34, u35, u36, u37, u38, u39, u40, u41, u42, u43, u44, u45, u46, u47, u48, u49, u50, u51] := by rw [e0, e1, e2, e3, e4, e5, e6, e7, e8, e9, e10, e11, e12, e13, e14, e15, e16, e17, e18, e19, e20, e21, e22, e23, e24, e25, e26, e27, e28, e29, e30, e31, e32, e33, e34, e35, e36, e37, e38, e39, e40, e41, e42, e43, e44, e45, e46, e47, e48, e49, e50, e51]
  rw [e]
  exact h u0 u1 u2 u3 u4 u5 u6 u7 u8 u9 u10 u11 u12 u13 u14 u15 u16 u17 u18 u19 u20 u21 u22 u23 u24 u25 u26 u27 u28 u29 u30 u31 u32 u33 u34 u35 u36 u37 u38 u39 u40 u41 u42 u43 u44 u45 u46 u47 u48 u49 u50 u51

/-- The frame of with at the head of its loop over the tables. -/
def WithAct (d : Dm) (key : ByteArray) (f : FuncId) (cap : Array Value) (B ti : Nat) (a : Act) : Prop :=
  a.tmps.size = 52 ∧ a.tmps[2]? = some (.func (.func f) #[] cap) ∧ a.tmps[7]? = some (ptr B) ∧ a.tmps[8]? = some (.bool false) ∧ a.tmps[18]? = some (.agg #[tbVal d.t0, t1Val d.t1]) ∧ a.tmps[19]? = some (.int .i64 (ti : Int)) ∧ a.defers = []
def WithInv (d : Dm) (key : ByteArray) (f : FuncId) (cap : Array Value) (w0 : World) (B : Nat) (q : Nat) (m : Nat) (a : Act) (w : World) : Prop :=
  ∃ ti : Nat, m = 2 - ti ∧ ti ≤ 2 ∧ WithAct d key f cap B ti a ∧ Blk w B 80 #[.int .u32 (q : Int), .string key] ∧ Chg (fun _ => False) w0 w ∧
    ∀ j t, j < ti → d.tab j = some t → ∀ x ∈ t.nodes, x.key ≠ key

theorem idx0 (x0 x1 : Value) (w : World) : (Instr.index 74 (.agg #[x0, x1]) (.int .i64 0)).run Try.prog w = .ok x0 w := by kernel_rfl
theorem idx1 (x0 x1 : Value) (w : World) : (Instr.index 74 (.agg #[x0, x1]) (.int .i64 1)).run Try.prog w = .ok x1 w := by kernel_rfl
theorem idx_tab (d : Dm) (ti : Nat) (hti : ti < 2) (w : World) : (Instr.index 74 (.agg #[tbVal d.t0, t1Val d.t1]) (.int .i64 (ti : Int))).run Try.prog w = .ok (t1Val (d.tab ti)) w := by
  have : ti = 0 ∨ ti = 1 := by omega
  rcases this with rfl | rfl
  · exact idx0 _ _ w
  · exact idx1 _ _ w
theorem no_key {d : Dm} {key : ByteArray} (h : ∀ j t, j < 2 → d.tab j = some t → ∀ x ∈ t.nodes, x.key ≠ key) : ∀ x ∈ d.nodes, x.key ≠ key := by
  intro x hx
  unfold Dm.nodes Dm.nodes1 at hx
  rcases List.mem_append.1 hx with h0 | h1
  · exact h 0 d.t0 (by omega) rfl x h0
  · split at h1
    · cases h1
    · rename_i t ht; exact h 1 t (by omega) ht x h1

set_option maxRecDepth 100000 in
set_option maxHeartbeats 1000000 in
theorem with_any (d : Dm) (key : ByteArray) (f : FuncId) (cap : Array Value) (w : World) (h : DmAt w d) (hok : d.Ok) (hk : key.size ≤ 9223372036854775807) (hef : Enters Try.prog f) (R : World → Prop)
    (hdo : ∀ ti t pre x post W, d.tab ti = some t → t.at (sumN d.seed key.data.toList % t.len) = pre ++ x :: post → x.key = key → Chg (fun _ => False) w W →
      Calls Try.prog f (#[.pointer (some (loc t (sumN d.seed key.data.toList % t.len) pre))] ++ cap) W fun e W' => (∃ v, e = .returned v) ∧ R W') :
    Calls Try.prog 40 #[ptr d.blk, .string key, .func (.func f) #[] cap] w (WithPost d key w R) := by
  obtain ⟨q, HQ⟩ : ∃ q, Hid (sumN d.seed key.data.toList = q) := ⟨_, rfl⟩
  have hq32 : q < 4294967296 := by rw [← HQ.out]; exact sumN_lt _ _
  rw [HQ.out] at hdo
  have hof := of_any d key w h hok.seed hk
  rw [HQ.out] at hof
  unfold ptr at hof ⊢
  go_enter Try.func40, Try.ntmps40
  go_wp2_with fail
  go_step3
  go_wp2_with (go_at_call 45; refine hof.mono ?_; rintro e w1 ⟨rfl, hc1⟩)
  have hA : Chg (fun _ => False) w (w1.alloc (Obj.cells #[Value.int IntKind.u32 (q : Int), Value.string key] 80)) := hc1.alloc _
  have hbx : Blk (w1.alloc (Obj.cells #[Value.int IntKind.u32 (q : Int), Value.string key] 80)) w1.heap.size 80 #[Value.int IntKind.u32 (q : Int), Value.string key] := Blk.new _ _ _
  generalize w1.alloc (Obj.cells #[Value.int IntKind.u32 (q : Int), Value.string key] 80) = W1 at hA hbx ⊢
  generalize w1.heap.size = B at hbx ⊢
  clear hc1 hof w1
  have hD1 := h.chg0 hA
  obtain ⟨c0, c1, c2, c3, c4, cf, clt⟩ := dm_cells hD1
  obtain ⟨v0, H0⟩ : ∃ v0, Hid (tbVal d.t0 = v0) := ⟨_, rfl⟩
  obtain ⟨v1, H1⟩ : ∃ v1, Hid (t1Val d.t1 = v1) := ⟨_, rfl⟩
  have hsn : ∀ (w : World) (a : Option Addr) (n c : Nat), (binOp .eql 73 (.slice a n c) (.slice none 0 0)).run Try.prog w = .ok (.bool a.isNone) w := fun w a n c => Go.Lib.run_eql_slice_nil w _ _ a n c 0 0 Try.underlying73
  go_step3
  go_wp2_with fail
  refine wp_loop_ghost (WithInv d key f cap w B q) 2 ?_ ?_
  · exact ⟨0, rfl, by omega, ⟨rfl, rfl, rfl, rfl, rfl, rfl, rfl⟩, hbx, hA, fun j t hj => absurd hj (Nat.not_lt_zero _)⟩
  · rintro m ⟨tmps, ds⟩ W ⟨ti, rfl, hti, ⟨hsz, h2, h7, h8, h18, h19, rfl⟩, hB, hC, hno⟩
    replace hsz : tmps.size = 52 := hsz
    dsimp only at h2 h7 h8 h18 h19
    revert h2 h7 h8 h18 h19
    revert hsz
    revert tmps
    refine all52 ?_
    intro u0 u1 u2 u3 u4 u5 u6 u7 u8 u9 u10 u11 u12 u13 u14 u15 u16 u17 u18 u19 u20 u21 u22 u23 u24 u25 u26 u27 u28 u29 u30 u31 u32 u33 u34 u35 u36 u37 u38 u39 u40 u41 u42 u43 u44 u45 u46 u47 u48 u49 u50 u51 h2 h7 h8 h18 h19
    simp only [ptr, List.getElem?_toArray, List.getElem?_cons_zero, List.getElem?_cons_succ, Option.some.injEq] at h2 h7 h8 h18 h19
    subst h2 h7 h8 h18 h19
    clear c0 c1 c2 c3 c4 cf clt hD1 hA hbx
    have hD := h.chg0 hC
    have hB0 := hB.cell 0
    have hB1 := hB.cell 1
    simp only [List.getElem?_toArray, List.getElem?_cons_zero, List.getElem?_cons_succ] at hB0 hB1
    by_cases h2 : ti = 2
    · subst h2
      go_wp2_with fail
      rw [Exit.noGoto_ret]
      go_ret
      exact .inr ⟨rfl, no_key hno, hC⟩
    · have hti2 : ti < 2 := by omega
      have hidx := idx_tab d ti hti2
      have htii : (ti : Int) < 2 := by omega
      rw [H0.out, H1.out] at hidx ⊢
      cases htab : d.tab ti with
      | none =>
        rw [htab] at hidx
        simp only [t1Val] at hidx
        have HT := Lib.hid htab
        clear htab
        go_wp2_with fail
        rw [Exit.noGoto_ret]
        go_ret
        refine .inr ⟨rfl, no_key ?_, hC⟩
        intro j t hj ht
        have : ti = 1 := by
          have hne : ti ≠ 0 := fun h0 => by subst h0; cases HT.out
          omega
        subst this
        rcases (by omega : j = 0 ∨ j = 1) with rfl | rfl
        · exact hno 0 t (by omega) ht
        · rw [HT.out] at ht; cases ht
      | some t =>
        rw [htab] at hidx
        simp only [t1Val, tbVal] at hidx
        obtain ⟨htz, htin, htn⟩ := tab_ok hok htab
        obtain ⟨k, hk2, hk16, hklen⟩ := htz
        have hsl : ∀ W, _ := fun W => slot_any t q k W hq32 hklen hk16
        have hpos : 0 < t.len := by rw [hklen]; exact Nat.one_le_two_pow
        have hi : q % t.len < t.len := Nat.mod_lt _ hpos
        have hil : ((q % t.len : Nat) : Int) < (t.len : Int) := by omega
        obtain ⟨i, HI⟩ : ∃ i, Hid (q % t.len = i) := ⟨_, rfl⟩
        rw [HI.out] at hsl hi hil
        unfold tbVal at hsl
        have HT := Lib.hid htab
        have HK := Lib.hid hklen
        clear htab hklen
        go_wp2_with (go_at_call 70; refine (hsl _).mono ?_; rintro e w' ⟨rfl, rfl⟩)
        refine wp_loop_ghost (fun m a V => ∃ (pre rest : Ch) (b9 b30 b31 b32 b33 b34 b35 b36 b37 b38 b39 b40 b41 b42 b43 b44 b45 b46 b47 b48 b49 b50 b51 : Value), m = rest.length ∧ Hid (t.at i = pre ++ rest) ∧ Hid (∀ x ∈ pre, x.key ≠ key) ∧
          a = { tmps := #[u0, u1, .func (.func f) #[] cap, u3, u4, u5, u6, .pointer (some ⟨B, 0, none⟩), .bool false, b9, .slice (some ⟨t.blk, 0, none⟩) t.len t.len, .pointer (some (loc t i pre)), u12, u13, u14, u15, u16, u17, .agg #[v0, v1], .int .i64 (ti : Int), .bool true, .slice (some ⟨t.blk, 0, none⟩) t.len t.len, .slice (some ⟨t.blk, 0, none⟩) t.len t.len, .bool false, .slice (some ⟨t.blk, 0, none⟩) t.len t.len, .slice (some ⟨t.blk, 0, none⟩) t.len t.len, .pointer (some ⟨B, 0, none⟩), .int .u32 (q : Int), .int .i64 (i : Int), .pointer (some ⟨t.blk, i, none⟩), b30, b31, b32, b33, b34, b35, b36, b37, b38, b39, b40, b41, b42, b43, b44, b45, b46, b47, b48, b49, b50, b51], defers := [] } ∧
          Blk V B 80 #[.int .u32 (q : Int), .string key] ∧ Chg (fun _ => False) w V) (t.at i).length ?_ ?_
        · exact ⟨[], t.at i, _, _, _, _, _, _, _, _, _, _, _, _, _, _, _, _, _, _, _, _, _, _, _, rfl, rfl, fun _ h => (by cases h), rfl, hB, hC⟩
        · rintro m a V ⟨pre, rest, b9, b30, b31, b32, b33, b34, b35, b36, b37, b38, b39, b40, b41, b42, b43, b44, b45, b46, b47, b48, b49, b50, b51, rfl, hpr, hpk, rfl, hB, hC⟩
          have hDV := h.chg0 hC
          have hloc := loc_cell (tab_at hDV HT.out) hi hpr.out
          have hB0 := hB.cell 0
          have hB1 := hB.cell 1
          simp only [List.getElem?_toArray, List.getElem?_cons_zero, List.getElem?_cons_succ] at hB0 hB1
          cases rest with
          | nil =>
            simp only [hd] at hloc
            go_wp2_with fail
            refine ⟨2 - (ti + 1), by omega, ti + 1, rfl, by omega, ⟨rfl, rfl, rfl, rfl, by rw [H0.out, H1.out]; rfl, rfl, rfl⟩, hB, hC, ?_⟩
            intro j t' hj ht' x hx
            rcases Nat.lt_or_ge j ti with hlt | hge
            · exact hno j t' hlt ht' x hx
            · have : j = ti := by omega
              subst this
              rw [HT.out] at ht'
              injection ht' with ht'
              subst ht'
              intro hkx
              obtain ⟨j', hj', hxj⟩ := mem_nodes.1 hx
              have hs : x.sum = q := by rw [hok.sums x (htn x hx), hkx]; exact HQ.out
              have hji : j' = i := by rw [← htin j' x hj' hxj, hs]; exact HI.out
              subst hji
              rw [hpr.out, List.append_nil] at hxj
              exact hpk.out x hxj hkx
          | cons y r =>
            simp only [hd, ptr] at hloc
            have hyc : y ∈ t.at i := by rw [hpr.out]; simp
            have hyn : y ∈ d.nodes := htn y (mem_nodes.2 ⟨i, hi, hyc⟩)
            have hch := (tab_at hDV HT.out).2 _ (Tb.at_mem hi)
            have hnode := hch.node hpr.out
            have k0 := hnode.cell 0
            have k1 := hnode.cell 1
            simp only [ndCells, List.getElem?_toArray, List.getElem?_cons_zero, List.getElem?_cons_succ] at k0 k1
            by_cases hky : y.key = key
            · have hs : y.sum = q := by rw [hok.sums y hyn, hky]; exact HQ.out
              rw [hs] at k0
              rw [hky] at k1
              have HKY := Lib.hid hky
              clear hs hky
              go_wp2_with fail
              have hef' : ∀ (args : Array Value) (w : World), (callFunc f args).run Try.prog w = .ok (.enter f args) w := hef
              go_quiet (fail)
              have hcall := hdo ti t pre y r (V.drewN nq) HT.out (by rw [HI.out]; exact hpr.out) HKY.out (hC.drewN nq)
              rw [HI.out] at hcall
              have hcall' := Lib.hid hcall
              clear hcall
              go_wp2_with fail
              refine hcall'.out.mono ?_
              rintro e5 V5 ⟨⟨v5, rfl⟩, hR5⟩
              go_wp2_with fail
              rw [Exit.noGoto_ret]
              go_ret
              exact .inl ⟨rfl, ⟨y, hyn, HKY.out⟩, hR5⟩
            · have hne : ¬ y.key.toList = key.toList := fun h' => hky (by
                rw [ByteArray.toList_eq, ByteArray.toList_eq] at h'
                cases hx : y.key; cases hy : key; simp_all)
              have HKY := Lib.hid hky
              clear hky
              go_wp2_with fail
              go_quiet (fail)
              go_wp2_with fail
              refine ⟨r.length, Nat.lt_succ_self _, pre ++ [y], r, _, _, _, _, _, _, _, _, _, _, _, _, _, _, _, _, _, _, _, _, _, _, _, rfl, ?_, ?_, by rw [loc_snoc], hB.drewN _, hC.drewN _⟩
              · show _ = _; rw [hpr.out]; simp
              · intro x hx
                rcases List.mem_append.1 hx with hx | hx
                · exact hpk.out x hx
                · rw [List.mem_singleton.1 hx]; exact HKY.out

end Go.Proofs.Ythbjjjcppijcbaa.Dint
