/- Texts joined for ZsetScans: SC5int64, SPint64, SP2int64. -/
import Derived.Test.YtifcpippfiglkaaGreatJZsetScansb
set_option linter.unusedVariables false
set_option linter.unusedSimpArgs false

/- Scan of a dict that moves. -/
namespace Go.Proofs.YtifcpippfiglkaaGreat.Dint64
open Go.RowKit Pal
attribute [local go_sem] Oper.semAt_some

theorem all73 {P : Array Value → Prop} (h : ∀ u0 u1 u2 u3 u4 u5 u6 u7 u8 u9 u10 u11 u12 u13 u14 u15 u16 u17 u18 u19 u20 u21 u22 u23 u24 u25 u26 u27 u28 u29 u30 u31 u32 u33 u34 u35 u36 u37 u38 u39 u40 u41 u42 u43 u44 u45 u46 u47 u48 u49 u50 u51 u52 u53 u54 u55 u56 u57 u58 u59 u60 u61 u62 u63 u64 u65 u66 u67 u68 u69 u70 u71 u72 : Value, P #[u0, u1, u2, u3, u4, u5, u6, u7, u8, u9, u10, u11, u12, u13, u14, u15, u16, u17, u18, u19, u20, u21, u22, u23, u24, u25, u26, u27, u28, u29, u30, u31, u32, u33, u34, u35, u36, u37, u38, u39, u40, u41, u42, u43, u44, u45, u46, u47, u48, u49, u50, u51, u52, u53, u54, u55, u56, u57, u58, u59, u60, u61, u62, u63, u64, u65, u66, u67, u68, u69, u70, u71, u72]) (a : Array Value) (hs : a.size = 73) : P a := by
  obtain ⟨l⟩ := a
  have g0 : l.length = 73 := hs
  clear hs
  obtain ⟨u0, l0, e0, g1⟩ := Pal.len_cons g0
  obtain ⟨u1, l1, e1, g2⟩ := Pal.len_cons g1
  obtain ⟨u2, l2, e2, g3⟩ := Pal.len_cons g2
  obtain ⟨u3, l3, e3, g4⟩ := Pal.len_cons g3
  obtain ⟨u4, l4, e4, g5⟩ := Pal.len_cons g4
  obtain ⟨u5, l5, e5, g6⟩ := Pal.len_cons g5
  obtain ⟨u6, l6, e6, g7⟩ := Pal.len_cons g6
  obtain ⟨u7, l7, e7, g8⟩ := Pal.len_cons g7
  obtain ⟨u8, l8, e8, g9⟩ := Pal.len_cons g8
  obtain ⟨u9, l9, e9, g10⟩ := Pal.len_cons g9
  obtain ⟨u10, l10, e10, g11⟩ := Pal.len_cons g10
  obtain ⟨u11, l11, e11, g12⟩ := Pal.len_cons g11
  obtain ⟨u12, l12, e12, g13⟩ := Pal.len_cons g12
  obtain ⟨u13, l13, e13, g14⟩ := Pal.len_cons g13
  obtain ⟨u14, l14, e14, g15⟩ := Pal.len_cons g14
  obtain ⟨u15, l15, e15, g16⟩ := Pal.len_cons g15
  obtain ⟨u16, l16, e16, g17⟩ := Pal.len_cons g16
  obtain ⟨u17, l17, e17, g18⟩ := Pal.len_cons g17
  obtain ⟨u18, l18, e18, g19⟩ := Pal.len_cons g18
  obtain ⟨u19, l19, e19, g20⟩ := Pal.len_cons g19
  obtain ⟨u20, l20, e20, g21⟩ := Pal.len_cons g20
  obtain ⟨u21, l21, e21, g22⟩ := Pal.len_cons g21
  obtain ⟨u22, l22, e22, g23⟩ := Pal.len_cons g22
  obtain ⟨u23, l23, e23, g24⟩ := Pal.len_cons g23
  obtain ⟨u24, l24, e24, g25⟩ := Pal.len_cons g24
  obtain ⟨u25, l25, e25, g26⟩ := Pal.len_cons g25
  obtain ⟨u26, l26, e26, g27⟩ := Pal.len_cons g26
  obtain ⟨u27, l27, e27, g28⟩ := Pal.len_cons g27
  obtain ⟨u28, l28, e28, g29⟩ := Pal.len_cons g28
  obtain ⟨u29, l29, e29, g30⟩ := Pal.len_cons g29
  obtain ⟨u30, l30, e30, g31⟩ := Pal.len_cons g30
  obtain ⟨u31, l31, e31, g32⟩ := Pal.len_cons g31
  obtain ⟨u32, l32, e32, g33⟩ := Pal.len_cons g32
  obtain ⟨u33, l33, e33, g34⟩ := Pal.len_cons g33
  obtain ⟨u34, l34, e34, g35⟩ := Pal.len_cons g34
  obtain ⟨u35, l35, e35, g36⟩ := Pal.len_cons g35
  obtain ⟨u36, l36, e36, g37⟩ := Pal.len_cons g36
  obtain ⟨u37, l37, e37, g38⟩ := Pal.len_cons g37
  obtain ⟨u38, l38, e38, g39⟩ := Pal.len_cons g38
  obtain ⟨u39, l39, e39, g40⟩ := Pal.len_cons g39
  obtain ⟨u40, l40, e40, g41⟩ := Pal.len_cons g40
  obtain ⟨u41, l41, e41, g42⟩ := Pal.len_cons g41
  obtain ⟨u42, l42, e42, g43⟩ := Pal.len_cons g42
  obtain ⟨u43, l43, e43, g44⟩ := Pal.len_cons g43
  obtain ⟨u44, l44, e44, g45⟩ := Pal.len_cons g44
  obtain ⟨u45, l45, e45, g46⟩ := Pal.len_cons g45
  obtain ⟨u46, l46, e46, g47⟩ := Pal.len_cons g46
  obtain ⟨u47, l47, e47, g48⟩ := Pal.len_cons g47
  obtain ⟨u48, l48, e48, g49⟩ := Pal.len_cons g48
  obtain ⟨u49, l49, e49, g50⟩ := Pal.len_cons g49
  obtain ⟨u50, l50, e50, g51⟩ := Pal.len_cons g50
  obtain ⟨u51, l51, e51, g52⟩ := Pal.len_cons g51
  obtain ⟨u52, l52, e52, g53⟩ := Pal.len_cons g52
  obtain ⟨u53, l53, e53, g54⟩ := Pal.len_cons g53
  obtain ⟨u54, l54, e54, g55⟩ := Pal.len_cons g54
  obtain ⟨u55, l55, e55, g56⟩ := Pal.len_cons g55
  obtain ⟨u56, l56, e56, g57⟩ := Pal.len_cons g56
  obtain ⟨u57, l57, e57, g58⟩ := Pal.len_cons g57
  obtain ⟨u58, l58, e58, g59⟩ := Pal.len_cons g58
  obtain ⟨u59, l59, e59, g60⟩ := Pal.len_cons g59
  obtain ⟨u60, l60, e60, g61⟩ := Pal.len_cons g60
  obtain ⟨u61, l61, e61, g62⟩ := Pal.len_cons g61
  obtain ⟨u62, l62, e62, g63⟩ := Pal.len_cons g62
  obtain ⟨u63, l63, e63, g64⟩ := Pal.len_cons g63
  obtain ⟨u64, l64, e64, g65⟩ := Pal.len_cons g64
  obtain ⟨u65, l65, e65, g66⟩ := Pal.len_cons g65
  obtain ⟨u66, l66, e66, g67⟩ := Pal.len_cons g66
  obtain ⟨u67, l67, e67, g68⟩ := Pal.len_cons g67
  obtain ⟨u68, l68, e68, g69⟩ := Pal.len_cons g68
  obtain ⟨u69, l69, e69, g70⟩ := Pal.len_cons g69
  obtain ⟨u70, l70, e70, g71⟩ := Pal.len_cons g70
  obtain ⟨u71, l71, e71, g72⟩ := Pal.len_cons g71
  obtain ⟨u72, l72, e72, g73⟩ := Pal.len_cons g72
  obtain rfl := List.eq_nil_of_length_eq_zero g73
  have e : (⟨l⟩ : Array Value) = #[u0, u1, u2, u3, u4, u5, u6, u7, u8, u9, u10, u11, u12, u13, u14, u15, u16, u17, u18, u19, u20, u21, u22, u23, u24, u25, u26, u27, u28, u29, u30, u31, u32, u33, u34, u35, u36, u37, u38, u39, u40, u41, u42, u43, u44, u45, u46, u47, u48, u49, u50, u51, u52, u53, u54, u55, u56, u57, u58, u59, u60, u61, u62, u63, u64, u65, u66, u67, u68, u69, u70, u71, u72] := by rw [e0, e1, e2, e3, e4, e5, e6, e7, e8, e9, e10, e11, e12, e13, e14, e15, e16, e17, e18, e19, e20, e21, e22, e23, e24, e25, e26, e27, e28, e29, e30, e31, e32, e33, e34, e35, e36, e37, e38, e39, e40, e41, e42, e43, e44, e45, e46, e47, e48, e49, e50, e51, e52, e53, e54, e55, e56, e57, e58, e59, e60, e61, e62, e63, e64, e65, e66, e67, e68, e69, e70, e71, e72]
  rw [e]
  exact h u0 u1 u2 u3 u4 u5 u6 u7 u8 u9 u10 u11 u12 u13 u14 u15 u16 u17 u18 u19 u20 u21 u22 u23 u24 u25 u26 u27 u28 u29 u30 u31 u32 u33 u34 u35 u36 u37 u38 u39 u40 u41 u42 u43 u44 u45 u46 u47 u48 u49 u50 u51 u52 u53 u54 u55 u56 u57 u58 u59 u60 u61 u62 u63 u64 u65 u66 u67 u68 u69 u70 u71 u72

/-- Behind the first table's slot. -/
structure R9 (w0 : World) (d : Dm) (c : Nat) (ts : Nat) (s g : Int) (DB TB : Nat) (l : List ByteArray) (e : Exit) (x : Act) (w : World) : Prop where
  e : e = .normal
  size : x.tmps.size = 73
  t1 : x.tmps[1]? = some (.int .u32 (c : Int))
  t2 : x.tmps[2]? = some (.pointer (some ⟨DB, 0, none⟩))
  t9 : x.tmps[9]? = some (.int .i64 s)
  t10 : x.tmps[10]? = some (.int .i64 g)
  t11 : x.tmps[11]? = some (.pointer (some ⟨TB, 0, none⟩))
  defers : x.defers = []
  ex : ∃ OB v, x.tmps[12]? = some (.pointer (some ⟨OB, 0, none⟩)) ∧ Blk w OB 92 #[v] ∧ Strs w w0.heap.size v l ∧ w0.heap.size ≤ OB
  bd : Blk w DB 96 #[.pointer (some ⟨d.blk, 0, none⟩)]
  bt : Blk w TB 3 #[.int .i64 (ts : Int)]
  chg : Chg (fun _ => False) w0 w

/-- Ahead of it. -/
theorem keysAt_len {d : Dm} (hok : d.Ok) (ti si : Nat) : (keysAt d ti si).length ≤ d.n := by
  cases ht : d.tab ti with
  | none => unfold keysAt; rw [ht]; exact Nat.zero_le _
  | some t =>
    rw [(keysAt_perm ht).length_eq, List.length_map, hok.count]
    by_cases hl : si < t.len
    · have := (tab_perm ht hl).length_eq
      rw [List.length_append] at this
      omega
    · have e : t.at si = [] := by
        unfold Tb.at; rw [List.getD_eq_getElem?_getD, List.getElem?_eq_none (by unfold Tb.len at hl; omega)]; rfl
      rw [e]; exact Nat.zero_le _
theorem flatMap_len {α β : Type} {f : α → List β} {m : Nat} (hf : ∀ x, (f x).length ≤ m) : ∀ l : List α, (l.flatMap f).length ≤ l.length * m
  | [] => by simp
  | x :: l => by
    rw [List.flatMap_cons, List.length_append, List.length_cons, Nat.add_mul]
    have := flatMap_len hf l
    have := hf x
    omega

/-- What the rounds keep. -/
structure ScI (w0 : World) (d : Dm) (c ts : Nat) (ks : List ByteArray) (items : List (Nat × Nat)) (OB BH DB TB B1 M : Nat) (r : List (Nat × Nat)) (V : World) : Prop where
  ex : ∃ pre v, pre ++ r = items ∧ Blk V OB 92 #[v] ∧ Strs V w0.heap.size v (ks ++ pre.flatMap fun x => keysAt d (1 - ts) x.1) ∧ Blk V BH 24 #[.int .u32 ((pre.foldl (fun _ x => x.2) c : Nat) : Int)] ∧ ∀ g, v.ownBlock = some g → g ≠ B1
  bd : Blk V DB 96 #[.pointer (some ⟨d.blk, 0, none⟩)]
  bt : Blk V TB 3 #[.int .i64 (ts : Int)]
  st : Stay (fun _ => False) w0 V
  M : M ≤ V.heap.size

/-- Behind the first loop. -/
structure R8 (w0 : World) (d : Dm) (c : Nat) (ts : Nat) (s g : Int) (DB TB : Nat) (e : Exit) (x : Act) (w : World) : Prop where
  e : e = .normal
  size : x.tmps.size = 73
  t1 : x.tmps[1]? = some (.int .u32 (c : Int))
  t2 : x.tmps[2]? = some (.pointer (some ⟨DB, 0, none⟩))
  t9 : x.tmps[9]? = some (.int .i64 s)
  t10 : x.tmps[10]? = some (.int .i64 g)
  t11 : x.tmps[11]? = some (.pointer (some ⟨TB, 0, none⟩))
  defers : x.defers = []
  bd : Blk w DB 96 #[.pointer (some ⟨d.blk, 0, none⟩)]
  bt : Blk w TB 3 #[.int .i64 (ts : Int)]
  chg : Chg (fun _ => False) w0 w

structure R9S (DB TB : Nat) (d : Dm) (ts : Nat) (W : World) : Prop where
  bd : Blk W DB 96 #[.pointer (some ⟨d.blk, 0, none⟩)]
  bt : Blk W TB 3 #[.int .i64 (ts : Int)]
theorem R9S.chg {DB TB : Nat} {d : Dm} {ts : Nat} {W W' : World} (h : R9S DB TB d ts W) (hc : Chg (fun _ => False) W W') : R9S DB TB d ts W' := ⟨h.bd.chg hc id, h.bt.chg hc id⟩

set_option maxRecDepth 100000 in
set_option maxHeartbeats 4000000 in
theorem Scan_mv (d : Dm) (t : Tb) (a b c ts : Nat) (w : World) (h : DmAt w d) (hok : d.Ok) (hn : d.n < 1000000) (ht : d.t1 = some t) (hab : a ≤ b) (hb : b ≤ 16) (hc : c < 4294967296)
    (hcase : (ts = 0 ∧ d.t0.len = 2 ^ a ∧ t.len = 2 ^ b) ∨ (ts = 1 ∧ t.len = 2 ^ a ∧ d.t0.len = 2 ^ b ∧ t.len < d.t0.len)) :
    Calls Tryz.prog 50 #[ptr d.blk, .int .u32 (c : Int)] w fun e w' => (∃ v, e = .returned (.tuple #[v, .int .u32 (curW a (pos a c + 1) : Int)]) ∧ Strs w' w.heap.size v (keysAt d ts (c % 2 ^ a) ++ (slotsP a b (pos b c)).flatMap fun x => keysAt d (1 - ts) x.1)) ∧ Chg (fun _ => False) w w' := by
  have hbx : Blk (w.alloc (.cells #[ptr d.blk] 96)) w.heap.size 96 #[ptr d.blk] := Blk.new w _ _
  have hc0 : Chg (fun _ => False) w (w.alloc (.cells #[ptr d.blk] 96)) := (Chg.refl _ w).alloc _
  have hz := Sizes_any d _ (h.chg0 hc0)
  rw [ht] at hz
  have h1a : 1 ≤ 2 ^ a := Nat.one_le_two_pow
  have hpa : (2 : Nat) ^ a ≤ 2 ^ b := pow_mono hab
  have hp : (2 : Nat) ^ b ≤ 2 ^ 16 := pow_mono hb
  obtain ⟨s, hs⟩ : ∃ s : Int, s = ((2 ^ a : Nat) : Int) := ⟨_, rfl⟩
  obtain ⟨g, hg⟩ : ∃ g : Int, g = ((2 ^ b : Nat) : Int) := ⟨_, rfl⟩
  obtain ⟨x0, hx0⟩ : ∃ x0 : Int, x0 = (d.t0.len : Int) := ⟨_, rfl⟩
  obtain ⟨x1, hx1⟩ : ∃ x1 : Int, x1 = (t.len : Int) := ⟨_, rfl⟩
  have hts : ts < 2 := by rcases hcase with h | h <;> omega
  have hT : tabLen d ts = 2 ^ a ∧ tabLen d (1 - ts) = 2 ^ b := by
    rcases hcase with ⟨rfl, e1, e2⟩ | ⟨rfl, e1, e2, _⟩
    · exact ⟨e1, by unfold tabLen Dm.tab; simp [ht, e2]⟩
    · exact ⟨by unfold tabLen Dm.tab; simp [ht, e1], e2⟩
  have hx : (x1 < x0 ∧ ts = 1 ∧ s = x1 ∧ g = x0) ∨ ((x1 < x0) = False ∧ ts = 0 ∧ s = x0 ∧ g = x1) := by
    rcases hcase with ⟨rfl, e1, e2⟩ | ⟨rfl, e1, e2, e3⟩
    · exact .inr ⟨by simp only [eq_iff_iff, iff_false]; omega, rfl, by omega, by omega⟩
    · exact .inl ⟨by omega, rfl, by omega, by omega⟩
  have hs1 : 1 ≤ s := by omega
  have hs2 : s ≤ 65536 := by omega
  have z0 : (x0 == 0) = false := by rw [beq_eq_false_iff_ne]; rcases hx with ⟨_, _, e1, e2⟩ | ⟨_, _, e1, e2⟩ <;> omega
  have z1 : (x1 == 0) = false := by rw [beq_eq_false_iff_ne]; rcases hx with ⟨_, _, e1, e2⟩ | ⟨_, _, e1, e2⟩ <;> omega
  have hmask := fun w => mask_any s w hs1 hs2
  have hga := fun ti si B W (hti : ti < 2) (hsi : si < tabLen d ti) (hC : Chg (fun _ => False) w W) hB hBl => gathered_any d ti si B W (h.chg0 hC) hok hti hsi hn hB hBl
  have hat : Hid (IntKind.i64.wrap (bits BinOp.and IntKind.u32 (c : Int) (s - 1)) = ((c % 2 ^ a : Nat) : Int)) := by
    show _ = _
    rw [hs, slot_bits c a hc (by omega)]
    have := slot_in (a := a) (c := c)
    exact IntWalk.i64_in _ ⟨by omega, by omega⟩
  have hsi : c % 2 ^ a < tabLen d ts := by rw [hT.1]; exact slot_in
  have HS := Lib.hid hs
  have HG := Lib.hid hg
  simp only [Option.map_some, Option.getD_some] at hz
  rw [← hx0, ← hx1] at hz
  clear hs hg hx0 hx1 hcase ht
  generalize hsi' : c % 2 ^ a = si at *
  unfold ptr at *
  refine calls_of_wp_marks Tryz.func50 rfl ?_
  simp only [Tryz.ntmps50, List.size_toArray, List.length_cons, List.length_nil, Nat.reduceAdd, Nat.reduceSub, Array.replicate_succ, Array.replicate_zero, List.push_toArray, List.append_toArray, List.nil_append, List.cons_append]
  go_wp2_with fail
  refine hz.mono ?_
  rintro e w1 ⟨rfl, hc1⟩
  have hb1 := hbx.chg hc1 id
  have hC1 := hc0.trans hc1
  have k0 := hb1.cell 0
  simp only [List.getElem?_toArray, List.getElem?_cons_zero] at k0
  have l0 := hb1.lt
  clear hz hbx hc0 hc1
  obtain ⟨TB, hTB⟩ : ∃ TB, w1.heap.size = TB := ⟨_, rfl⟩
  go_upto_if 43 with (fail)
  refine wp_mono (Q := R8 w d c ts s g w.heap.size TB) ?_ ?_
  · rcases hx with ⟨hlt, hts', rfl, rfl⟩ | ⟨hlt, hts', rfl, rfl⟩
    · have HTS := Lib.hid hts'
      clear hts'
      go_wp2_with fail
      have hbt0 : Blk (w1.alloc (Obj.cells #[Value.int IntKind.i64 1] 3)) TB 3 #[.int .i64 (ts : Int)] := by rw [HTS.out, ← hTB]; exact Blk.new w1 _ _
      exact ⟨rfl, rfl, rfl, rfl, rfl, rfl, rfl, rfl, hb1.alloc _, hbt0, hC1.alloc _⟩
    · have HTS := Lib.hid hts'
      have hdd : ¬ (g < s) := by simp [hlt]
      clear hts' hlt
      go_wp2_with fail
      have hbt0 : Blk (w1.alloc (Obj.cells #[Value.int IntKind.i64 0] 3)) TB 3 #[.int .i64 (ts : Int)] := by rw [HTS.out, ← hTB]; exact Blk.new w1 _ _
      exact ⟨rfl, rfl, rfl, rfl, rfl, rfl, rfl, rfl, hb1.alloc _, hbt0, hC1.alloc _⟩
  · clear hx k0 l0 hb1 hC1 z0 z1
    rintro e ⟨tmps, ds⟩ W1 ⟨rfl, hsz, t1, t2, t9, t10, t11, rfl, hbd0, hbt0, hC2⟩
    replace hsz : tmps.size = 73 := hsz
    dsimp only at t1 t2 t9 t10 t11
    revert t1 t2 t9 t10 t11
    revert hsz
    revert tmps
    refine all73 ?_
    intro u0 u1 u2 u3 u4 u5 u6 u7 u8 u9 u10 u11 u12 u13 u14 u15 u16 u17 u18 u19 u20 u21 u22 u23 u24 u25 u26 u27 u28 u29 u30 u31 u32 u33 u34 u35 u36 u37 u38 u39 u40 u41 u42 u43 u44 u45 u46 u47 u48 u49 u50 u51 u52 u53 u54 u55 u56 u57 u58 u59 u60 u61 u62 u63 u64 u65 u66 u67 u68 u69 u70 u71 u72 t1 t2 t9 t10 t11
    simp only [List.getElem?_toArray, List.getElem?_cons_zero, List.getElem?_cons_succ, Option.some.injEq] at t1 t2 t9 t10 t11
    subst t1 t2 t9 t10 t11
    go_wp2_with fail
    have hSV : ∀ V, Chg (fun _ => False) W1 V → R9S w.heap.size TB d ts V := fun V hV => ⟨hbd0.chg hV id, hbt0.chg hV id⟩
    have hP1O : Blk ((W1.alloc (Obj.cells #[Value.slice none 0 0] 92)).alloc (Obj.cells #[Value.int IntKind.i64 (si : Int)] 3)).drew W1.heap.size 92 #[Value.slice none 0 0] := ((Blk.new W1 _ _).alloc _).drew
    have hP1B : Blk ((W1.alloc (Obj.cells #[Value.slice none 0 0] 92)).alloc (Obj.cells #[Value.int IntKind.i64 (si : Int)] 3)).drew (W1.heap.size + 1) 3 #[Value.int IntKind.i64 (si : Int)] := by
      have := (Blk.new (W1.alloc (Obj.cells #[Value.slice none 0 0] 92)) 3 #[Value.int IntKind.i64 (si : Int)]).drew
      rwa [World.size_alloc] at this
    have hP2B : Blk ((W1.alloc (Obj.cells #[Value.int IntKind.i64 (si : Int)] 3)).alloc (Obj.cells #[Value.slice none 0 0] 92)).drew W1.heap.size 3 #[Value.int IntKind.i64 (si : Int)] := ((Blk.new W1 _ _).alloc _).drew
    have hP2O : Blk ((W1.alloc (Obj.cells #[Value.int IntKind.i64 (si : Int)] 3)).alloc (Obj.cells #[Value.slice none 0 0] 92)).drew (W1.heap.size + 1) 92 #[Value.slice none 0 0] := by
      have := (Blk.new (W1.alloc (Obj.cells #[Value.int IntKind.i64 (si : Int)] 3)) 92 #[Value.slice none 0 0]).drew
      rwa [World.size_alloc] at this
    have hP3B : Blk (W1.alloc (Obj.cells #[Value.int IntKind.i64 (si : Int)] 3)).drew W1.heap.size 3 #[Value.int IntKind.i64 (si : Int)] := (Blk.new W1 _ _).drew
    refine wp_mono (Q := R9 w d c ts s g w.heap.size TB (keysAt d ts si)) ?_ ?_
    · refine wp_region_heldF 10 (R9S w.heap.size TB d ts) (by kernel_rfl) ?_
      simp only [List.size_toArray, List.length_cons, List.length_nil, Nat.reduceAdd, Array.replicate_succ, Array.replicate_zero, List.push_toArray, List.nil_append, List.cons_append]
      refine wpAnyF_take 0 (v := .pointer (some ⟨d.blk, 0, none⟩)) rfl (by kernel_rfl) (by kernel_rfl) (by kernel_rfl) (by kernel_rfl) (fun _ _ _ h => (by cases h.e)) (hSV _ ((Chg.refl _ W1).drew)) (by rfl) ?_ ?_
      · intro W hS
        have q0 := hS.bd.cell 0
        have q1 := hS.bt.cell 0
        simp only [List.getElem?_toArray, List.getElem?_cons_zero] at q0 q1
        go_simp
      refine wpAnyF_take 1 (v := .int .i64 (ts : Int)) rfl (by kernel_rfl) (by kernel_rfl) (by kernel_rfl) (by kernel_rfl) (fun _ _ _ h => (by cases h.e)) (hSV _ ((Chg.refl _ W1).drew)) (by rfl) ?_ ?_
      · intro W hS
        have q0 := hS.bd.cell 0
        have q1 := hS.bt.cell 0
        simp only [List.getElem?_toArray, List.getElem?_cons_zero] at q0 q1
        go_simp
      refine wpAnyF_take 2 (v := .int .u32 (c : Int)) rfl (by kernel_rfl) (by kernel_rfl) (by kernel_rfl) (by kernel_rfl) (fun _ _ _ h => (by cases h.e)) (hSV _ ((Chg.refl _ W1).drew)) (by rfl) ?_ ?_
      · intro W hS
        have q0 := hS.bd.cell 0
        have q1 := hS.bt.cell 0
        simp only [List.getElem?_toArray, List.getElem?_cons_zero] at q0 q1
        go_simp
      refine wpAnyF_take 3 (v := .int .i64 s) rfl (by kernel_rfl) (by kernel_rfl) (by kernel_rfl) (by kernel_rfl) (fun _ _ _ h => (by cases h.e)) (hSV _ ((Chg.refl _ W1).drew)) (by rfl) ?_ ?_
      · intro W hS
        have q0 := hS.bd.cell 0
        have q1 := hS.bt.cell 0
        simp only [List.getElem?_toArray, List.getElem?_cons_zero] at q0 q1
        go_simp
      refine wpAnyF_ready [4, 9] (by kernel_rfl) (by simp) (AllF.cons rfl (fun K hK => ?_) (AllF.cons rfl (fun K hK => ?_) AllF.nil))
      · go_simp
        refine (hmask _).mono ?_
        rintro e w' ⟨rfl, rfl⟩
        refine hK _ _ (fun _ => (hSV _ ((Chg.refl _ W1).drew))) ?_
        clear hK K
        refine wpAnyF_take 5 (v := .int .u32 (bits BinOp.and IntKind.u32 (c : Int) (s - 1))) rfl (by kernel_rfl) (by kernel_rfl) (by kernel_rfl) (by kernel_rfl) (fun _ _ _ h => (by cases h.e)) (hSV _ ((Chg.refl _ W1).drew)) (by rfl) ?_ ?_
        · intro W hS
          have q0 := hS.bd.cell 0
          have q1 := hS.bt.cell 0
          simp only [List.getElem?_toArray, List.getElem?_cons_zero] at q0 q1
          go_simp
        refine wpAnyF_take 6 (v := .int .i64 (IntKind.i64.wrap (bits BinOp.and IntKind.u32 (c : Int) (s - 1)))) rfl (by kernel_rfl) (by kernel_rfl) (by kernel_rfl) (by kernel_rfl) (fun _ _ _ h => (by cases h.e)) (hSV _ ((Chg.refl _ W1).drew)) (by rfl) ?_ ?_
        · intro W hS
          have q0 := hS.bd.cell 0
          have q1 := hS.bt.cell 0
          simp only [List.getElem?_toArray, List.getElem?_cons_zero] at q0 q1
          go_simp
        rw [hat.out]
        refine wpAnyF_ready [7, 9] (by kernel_rfl) (by simp) (AllF.cons rfl (fun K hK => ?_) (AllF.cons rfl (fun K hK => ?_) AllF.nil))
        · go_simp
          refine hK _ _ (fun _ => (hSV _ (((Chg.refl _ W1).alloc _).drew))) ?_
          clear hK K
          refine wpAnyF_ready [8, 9] (by kernel_rfl) (by simp) (AllF.cons rfl (fun K hK => ?_) (AllF.cons rfl (fun K hK => ?_) AllF.nil))
          · go_simp
            refine (hga _ _ _ _ hts hsi (hC2.trans ((Chg.refl _ W1).alloc _).drew) (hP3B.cell 0) hP3B.lt).mono ?_
            rintro e W2 ⟨⟨v, rfl, hs⟩, hc2⟩
            obtain ⟨pa, ca, rfl, _⟩ := hs.is
            have hcW := ((Chg.refl _ W1).alloc _).drew.trans hc2
            refine hK _ _ (fun _ => hSV _ hcW) ?_
            clear hK K
            refine wpAnyF_one 9 (by kernel_rfl) rfl (fun K hK => ?_)
            go_simp
            refine hK _ _ (fun _ => hSV _ (hcW.alloc _)) ?_
            clear hK K
            have hO := (Blk.new W2 92 #[Value.slice none 0 0])
            have o0 := hO.cell 0
            have o1 := hO.frozen 0
            have o2 := hO.lt
            simp only [List.getElem?_toArray, List.getElem?_cons_zero] at o0
            refine wpAnyF_one 10 (by kernel_rfl) rfl (fun K hK => ?_)
            go_simp
            refine hK _ _ (fun h => absurd rfl h) ?_
            clear hK K
            refine wpAnyF_done (by kernel_rfl) ?_ _
            have hcF : Chg (fun _ => False) w (W2.alloc (Obj.cells #[Value.slice pa (keysAt d ts si).length ca] 92)) := (hC2.trans hcW).alloc _
            refine ⟨rfl, rfl, rfl, rfl, rfl, rfl, rfl, rfl, ⟨W2.heap.size, _, rfl, Blk.new _ _ _, ?_, ?_⟩, ?_, ?_, hcF⟩
            · exact (hs.chg ((Chg.refl _ W2).alloc _) (fun _ _ => id)).lower (by have := hC2.size; simp; try omega)
            · have := hC2.size; have := hcW.size; omega
            · exact (hSV _ (hcW.alloc _)).bd
            · exact (hSV _ (hcW.alloc _)).bt
          · go_simp
            refine hK _ _ (fun _ => (hSV _ ((((Chg.refl _ W1).alloc _).alloc _).drew))) ?_
            clear hK K
            refine wpAnyF_one 8 (by kernel_rfl) rfl (fun K hK => ?_)
            go_simp
            refine (hga _ _ _ _ hts hsi (hC2.trans (((Chg.refl _ W1).alloc _).alloc _).drew) (hP2B.cell 0) hP2B.lt).mono ?_
            rintro e W2 ⟨⟨v, rfl, hs⟩, hc2⟩
            obtain ⟨pa, ca, rfl, _⟩ := hs.is
            have hcW := (((Chg.refl _ W1).alloc _).alloc _).drew.trans hc2
            refine hK _ _ (fun _ => hSV _ hcW) ?_
            clear hK K
            have hO := (hP2O.chg hc2 id)
            have o0 := hO.cell 0
            have o1 := hO.frozen 0
            have o2 := hO.lt
            simp only [List.getElem?_toArray, List.getElem?_cons_zero] at o0
            refine wpAnyF_one 10 (by kernel_rfl) rfl (fun K hK => ?_)
            go_simp
            refine hK _ _ (fun h => absurd rfl h) ?_
            clear hK K
            refine wpAnyF_done (by kernel_rfl) ?_ _
            have hst : Chg (fun k => k = (W1.heap.size + 1)) W2 (W2.setCell ⟨(W1.heap.size + 1), 0, none⟩ (.slice pa (keysAt d ts si).length ca)) := (Chg.refl (fun k => k = (W1.heap.size + 1)) _).store rfl 0 _
            have hcF : Chg (fun _ => False) w (W2.setCell ⟨(W1.heap.size + 1), 0, none⟩ (.slice pa (keysAt d ts si).length ca)) := (hC2.trans hcW).trans' hst (fun g hg h' => by have := hC2.size; have := hcW.size; omega)
            refine ⟨rfl, rfl, rfl, rfl, rfl, rfl, rfl, rfl, ⟨(W1.heap.size + 1), _, rfl, hO.set 0 _, ?_, ?_⟩, ?_, ?_, hcF⟩
            · exact ((hs).chg hst (fun gg hgg h' => hO.not_own hs (by decide) (h' ▸ hgg))).lower (by have := hC2.size; have := hcW.size; simp; try omega)
            · have := hC2.size; have := hcW.size; omega
            · exact (hSV _ hcW).bd.chg hst (fun h' => (hSV _ hcW).bd.ne_type hO (by decide) h')
            · exact (hSV _ hcW).bt.chg hst (fun h' => (hSV _ hcW).bt.ne_type hO (by decide) h')
        · go_simp
          refine hK _ _ (fun _ => (hSV _ (((Chg.refl _ W1).alloc _).drew))) ?_
          clear hK K
          refine wpAnyF_one 7 (by kernel_rfl) rfl (fun K hK => ?_)
          go_simp
          refine hK _ _ (fun _ => (hSV _ ((((Chg.refl _ W1).alloc _).alloc _).drew))) ?_
          clear hK K
          refine wpAnyF_one 8 (by kernel_rfl) rfl (fun K hK => ?_)
          go_simp
          refine (hga _ _ _ _ hts hsi (hC2.trans (((Chg.refl _ W1).alloc _).alloc _).drew) (hP1B.cell 0) hP1B.lt).mono ?_
          rintro e W2 ⟨⟨v, rfl, hs⟩, hc2⟩
          obtain ⟨pa, ca, rfl, _⟩ := hs.is
          have hcW := (((Chg.refl _ W1).alloc _).alloc _).drew.trans hc2
          refine hK _ _ (fun _ => hSV _ hcW) ?_
          clear hK K
          have hO := (hP1O.chg hc2 id)
          have o0 := hO.cell 0
          have o1 := hO.frozen 0
          have o2 := hO.lt
          simp only [List.getElem?_toArray, List.getElem?_cons_zero] at o0
          refine wpAnyF_one 10 (by kernel_rfl) rfl (fun K hK => ?_)
          go_simp
          refine hK _ _ (fun h => absurd rfl h) ?_
          clear hK K
          refine wpAnyF_done (by kernel_rfl) ?_ _
          have hst : Chg (fun k => k = W1.heap.size) W2 (W2.setCell ⟨W1.heap.size, 0, none⟩ (.slice pa (keysAt d ts si).length ca)) := (Chg.refl (fun k => k = W1.heap.size) _).store rfl 0 _
          have hcF : Chg (fun _ => False) w (W2.setCell ⟨W1.heap.size, 0, none⟩ (.slice pa (keysAt d ts si).length ca)) := (hC2.trans hcW).trans' hst (fun g hg h' => by have := hC2.size; have := hcW.size; omega)
          refine ⟨rfl, rfl, rfl, rfl, rfl, rfl, rfl, rfl, ⟨W1.heap.size, _, rfl, hO.set 0 _, ?_, ?_⟩, ?_, ?_, hcF⟩
          · exact ((hs).chg hst (fun gg hgg h' => hO.not_own hs (by decide) (h' ▸ hgg))).lower (by have := hC2.size; have := hcW.size; simp; try omega)
          · have := hC2.size; have := hcW.size; omega
          · exact (hSV _ hcW).bd.chg hst (fun h' => (hSV _ hcW).bd.ne_type hO (by decide) h')
          · exact (hSV _ hcW).bt.chg hst (fun h' => (hSV _ hcW).bt.ne_type hO (by decide) h')
      · go_simp
        refine hK _ _ (fun _ => (hSV _ (((Chg.refl _ W1).alloc _).drew))) ?_
        clear hK K
        refine wpAnyF_one 4 (by kernel_rfl) rfl (fun K hK => ?_)
        go_simp
        refine (hmask _).mono ?_
        rintro e w' ⟨rfl, rfl⟩
        refine hK _ _ (fun _ => (hSV _ (((Chg.refl _ W1).alloc _).drew))) ?_
        clear hK K
        refine wpAnyF_take 5 (v := .int .u32 (bits BinOp.and IntKind.u32 (c : Int) (s - 1))) rfl (by kernel_rfl) (by kernel_rfl) (by kernel_rfl) (by kernel_rfl) (fun _ _ _ h => (by cases h.e)) (hSV _ (((Chg.refl _ W1).alloc _).drew)) (by rfl) ?_ ?_
        · intro W hS
          have q0 := hS.bd.cell 0
          have q1 := hS.bt.cell 0
          simp only [List.getElem?_toArray, List.getElem?_cons_zero] at q0 q1
          go_simp
        refine wpAnyF_take 6 (v := .int .i64 (IntKind.i64.wrap (bits BinOp.and IntKind.u32 (c : Int) (s - 1)))) rfl (by kernel_rfl) (by kernel_rfl) (by kernel_rfl) (by kernel_rfl) (fun _ _ _ h => (by cases h.e)) (hSV _ (((Chg.refl _ W1).alloc _).drew)) (by rfl) ?_ ?_
        · intro W hS
          have q0 := hS.bd.cell 0
          have q1 := hS.bt.cell 0
          simp only [List.getElem?_toArray, List.getElem?_cons_zero] at q0 q1
          go_simp
        rw [hat.out]
        refine wpAnyF_one 7 (by kernel_rfl) rfl (fun K hK => ?_)
        go_simp
        refine hK _ _ (fun _ => (hSV _ ((((Chg.refl _ W1).alloc _).alloc _).drew))) ?_
        clear hK K
        refine wpAnyF_one 8 (by kernel_rfl) rfl (fun K hK => ?_)
        go_simp
        refine (hga _ _ _ _ hts hsi (hC2.trans (((Chg.refl _ W1).alloc _).alloc _).drew) (hP1B.cell 0) hP1B.lt).mono ?_
        rintro e W2 ⟨⟨v, rfl, hs⟩, hc2⟩
        obtain ⟨pa, ca, rfl, _⟩ := hs.is
        have hcW := (((Chg.refl _ W1).alloc _).alloc _).drew.trans hc2
        refine hK _ _ (fun _ => hSV _ hcW) ?_
        clear hK K
        have hO := (hP1O.chg hc2 id)
        have o0 := hO.cell 0
        have o1 := hO.frozen 0
        have o2 := hO.lt
        simp only [List.getElem?_toArray, List.getElem?_cons_zero] at o0
        refine wpAnyF_one 10 (by kernel_rfl) rfl (fun K hK => ?_)
        go_simp
        refine hK _ _ (fun h => absurd rfl h) ?_
        clear hK K
        refine wpAnyF_done (by kernel_rfl) ?_ _
        have hst : Chg (fun k => k = W1.heap.size) W2 (W2.setCell ⟨W1.heap.size, 0, none⟩ (.slice pa (keysAt d ts si).length ca)) := (Chg.refl (fun k => k = W1.heap.size) _).store rfl 0 _
        have hcF : Chg (fun _ => False) w (W2.setCell ⟨W1.heap.size, 0, none⟩ (.slice pa (keysAt d ts si).length ca)) := (hC2.trans hcW).trans' hst (fun g hg h' => by have := hC2.size; have := hcW.size; omega)
        refine ⟨rfl, rfl, rfl, rfl, rfl, rfl, rfl, rfl, ⟨W1.heap.size, _, rfl, hO.set 0 _, ?_, ?_⟩, ?_, ?_, hcF⟩
        · exact ((hs).chg hst (fun gg hgg h' => hO.not_own hs (by decide) (h' ▸ hgg))).lower (by have := hC2.size; have := hcW.size; simp; try omega)
        · have := hC2.size; have := hcW.size; omega
        · exact (hSV _ hcW).bd.chg hst (fun h' => (hSV _ hcW).bd.ne_type hO (by decide) h')
        · exact (hSV _ hcW).bt.chg hst (fun h' => (hSV _ hcW).bt.ne_type hO (by decide) h')
    · clear hbd0 hbt0 hC2 hSV hP1O hP1B hP2O hP2B hP3B
      rintro e ⟨tmps, ds⟩ W ⟨rfl, hsz, t1, t2, t9, t10, t11, rfl, ⟨OB, v, t12, hO, hs0, hOB⟩, hbd, hbt, hC⟩
      replace hsz : tmps.size = 73 := hsz
      dsimp only at t1 t2 t9 t10 t11 t12
      revert t1 t2 t9 t10 t11 t12
      revert hsz
      revert tmps
      refine all73 ?_
      intro u0 u1 u2 u3 u4 u5 u6 u7 u8 u9 u10 u11 u12 u13 u14 u15 u16 u17 u18 u19 u20 u21 u22 u23 u24 u25 u26 u27 u28 u29 u30 u31 u32 u33 u34 u35 u36 u37 u38 u39 u40 u41 u42 u43 u44 u45 u46 u47 u48 u49 u50 u51 u52 u53 u54 u55 u56 u57 u58 u59 u60 u61 u62 u63 u64 u65 u66 u67 u68 u69 u70 u71 u72 t1 t2 t9 t10 t11 t12
      simp only [List.getElem?_toArray, List.getElem?_cons_zero, List.getElem?_cons_succ, Option.some.injEq] at t1 t2 t9 t10 t11 t12
      subst t1 t2 t9 t10 t11 t12
      go_wp2_with fail
      refine (slots_any c s g _).mono ?_
      rintro e w' ⟨rfl, rfl⟩
      go_wp2_with fail
      have hlt := hO.lt
      have hltd := hbd.lt
      have hltt := hbt.lt
      have hcE : Chg (fun _ => False) W ((((W.alloc (Obj.cells #[Value.int IntKind.u32 (c : Int)] 24)).alloc (Obj.cells #[Value.int IntKind.u32 (c : Int)] 24)).alloc (Obj.cells #[Value.int IntKind.i64 s] 3)).alloc (Obj.cells #[Value.int IntKind.i64 g] 3)) := ((((Chg.refl _ W).alloc _).alloc _).alloc _).alloc _
      have hH : Blk ((((W.alloc (Obj.cells #[Value.int IntKind.u32 (c : Int)] 24)).alloc (Obj.cells #[Value.int IntKind.u32 (c : Int)] 24)).alloc (Obj.cells #[Value.int IntKind.i64 s] 3)).alloc (Obj.cells #[Value.int IntKind.i64 g] 3)) W.heap.size 24 #[.int .u32 (c : Int)] := (((Blk.new W _ _).alloc _).alloc _).alloc _
      have hsl : slB (W.heap.size + 1) (W.heap.size + 3) (W.heap.size + 2) s g c ((((W.alloc (Obj.cells #[Value.int IntKind.u32 (c : Int)] 24)).alloc (Obj.cells #[Value.int IntKind.u32 (c : Int)] 24)).alloc (Obj.cells #[Value.int IntKind.i64 s] 3)).alloc (Obj.cells #[Value.int IntKind.i64 g] 3)) := by
        refine ⟨?_, ?_, ?_⟩
        · have := ((Blk.new (W.alloc (Obj.cells #[Value.int IntKind.u32 (c : Int)] 24)) 24 #[Value.int IntKind.u32 (c : Int)]).alloc (Obj.cells #[Value.int IntKind.i64 s] 3)).alloc (Obj.cells #[Value.int IntKind.i64 g] 3)
          rwa [World.size_alloc] at this
        · have := Blk.new (((W.alloc (Obj.cells #[Value.int IntKind.u32 (c : Int)] 24)).alloc (Obj.cells #[Value.int IntKind.u32 (c : Int)] 24)).alloc (Obj.cells #[Value.int IntKind.i64 s] 3)) 3 #[Value.int IntKind.i64 g]
          rwa [World.size_alloc, World.size_alloc, World.size_alloc] at this
        · have := (Blk.new ((W.alloc (Obj.cells #[Value.int IntKind.u32 (c : Int)] 24)).alloc (Obj.cells #[Value.int IntKind.u32 (c : Int)] 24)) 3 #[Value.int IntKind.i64 s]).alloc (Obj.cells #[Value.int IntKind.i64 g] 3)
          rwa [World.size_alloc, World.size_alloc] at this
      have hszE : ((((W.alloc (Obj.cells #[Value.int IntKind.u32 (c : Int)] 24)).alloc (Obj.cells #[Value.int IntKind.u32 (c : Int)] 24)).alloc (Obj.cells #[Value.int IntKind.i64 s] 3)).alloc (Obj.cells #[Value.int IntKind.i64 g] 3)).heap.size = W.heap.size + 4 := by simp
      generalize (((W.alloc (Obj.cells #[Value.int IntKind.u32 (c : Int)] 24)).alloc (Obj.cells #[Value.int IntKind.u32 (c : Int)] 24)).alloc (Obj.cells #[Value.int IntKind.i64 s] 3)).alloc (Obj.cells #[Value.int IntKind.i64 g] 3) = W0 at hcE hH hsl hszE ⊢
      have hOl : ∀ g, v.ownBlock = some g → g < W.heap.size := fun g hg => (hs0.lt g hg).2
      refine wp_range_it 84 #[.pointer (some ⟨W.heap.size + 1, 0, none⟩), .pointer (some ⟨W.heap.size + 3, 0, none⟩), .pointer (some ⟨W.heap.size + 2, 0, none⟩)] rfl (enters_of Tryz.func84 (by kernel_rfl) rfl) (slots_spec a b (W.heap.size + 1) (W.heap.size + 3) (W.heap.size + 2) s g hab hb HS.out HG.out (by omega) (by omega)) (fun _ => rfl)
        (ScI w d c ts (keysAt d ts si) (slotsP a b (pos b c)) OB W.heap.size w.heap.size TB (W.heap.size + 1) (W.heap.size + 4)) ?_ (fun _ _ => False) (fun _ _ _ h => h.elim) (slotsP a b (pos b c)) ?_ ?_ _ (fun l x W K hK => by simp only [slEnc]; gi_wp2; exact hK) ?_ ?_ (fun _ _ _ _ h => h.elim)
      · rintro r V V' ⟨⟨pre, v, h1, h2, h3, h4, h5⟩, h6, h7, h8, h9⟩ hst
        exact ⟨⟨pre, v, h1, h2.stay hst (by omega), h3.stay hst h5, h4.stay hst (by omega), h5⟩, h6.stay hst (by omega), h7.stay hst (by omega), h8.trans' hst (fun gg hg h' => by have := hC.size; omega), Nat.le_trans h9 hst.size⟩
      · exact ⟨⟨[], v, rfl, hO.chg hcE id, by rw [List.flatMap_nil, List.append_nil]; exact hs0.chg hcE fun _ _ => id, hH, fun gg hg => by have := hOl gg hg; omega⟩, hbd.chg hcE id, hbt.chg hcE id, .of_chg (hC.trans hcE), by omega⟩
      · exact ⟨c, hc, hsl, rfl⟩
      · clear hO hs0 hbd hbt hH hsl hOl
        rintro l x r V ⟨⟨pre, v, hpre, hO, hs0, hH, hne⟩, hbd, hbt, hst, hM⟩ ⟨u, hit⟩ hle
        have hxm : x ∈ slotsP a b (pos b c) := by rw [← hpre]; simp
        obtain ⟨hx1, hx2⟩ := slotsP_mem hab (by omega) (pos_lt (by omega) c) hxm
        have hplen : pre.length ≤ 65536 := by
          have h1 := slotsP_length a b (pos b c)
          rw [← hpre, List.length_append] at h1
          omega
        have hllen : (keysAt d ts si ++ pre.flatMap fun x => keysAt d (1 - ts) x.1).length ≤ 70000000000 := by
          rw [List.length_append]
          have h1 := flatMap_len (f := fun x : Nat × Nat => keysAt d (1 - ts) x.1) (m := 1000000) (fun x => Nat.le_trans (keysAt_len hok _ _) (by omega)) pre
          have h2 := keysAt_len hok ts si
          omega
        have hnlen : (keysAt d (1 - ts) x.1).length ≤ 1000000 := Nat.le_trans (keysAt_len hok _ _) (by omega)
        have HPRE := Lib.hid hpre
        have hxt : x.1 < tabLen d (1 - ts) := by rw [hT.2]; exact hx1
        obtain ⟨pa, ca, rfl, hca, hca2, hpa⟩ := hs0.is
        obtain ⟨ls, hls⟩ : ∃ ls, keysAt d ts si ++ pre.flatMap (fun x => keysAt d (1 - ts) x.1) = ls := ⟨_, rfl⟩
        rw [hls] at hs0 hO hllen hca hne
        have HLS := Lib.hid hls
        have hsub : IntKind.i64.wrap (1 - (ts : Int)) = ((1 - ts : Nat) : Int) := by
          have e : 1 - (ts : Int) = ((1 - ts : Nat) : Int) := by omega
          rw [e]
          exact IntWalk.i64_in _ ⟨by omega, by omega⟩
        have hSV1 : R9S w.heap.size TB d ts V.drew ∧ Blk V.drew OB 92 #[.slice pa ls.length ca] := ⟨⟨hbd, hbt⟩, hO⟩
        obtain ⟨i0, hi0, hz0, hz1, hz2⟩ := info_parts str_info
        clear hpre hls hxm hplen
        gi_wp2
        refine wpIn_region_held 8 (fun V' => R9S w.heap.size TB d ts V' ∧ Blk V' OB 92 #[.slice pa ls.length ca]) (by kernel_rfl) (by kernel_rfl) (by rintro ⟨_, _, h⟩; exact h) ?_
        simp only [List.size_toArray, List.length_cons, List.length_nil, Nat.reduceAdd, Array.replicate_succ, Array.replicate_zero, List.push_toArray, List.nil_append, List.cons_append]
        refine wpAnyF_take 0 (v := .slice pa ls.length ca) rfl (by kernel_rfl) (by kernel_rfl) (by kernel_rfl) (by kernel_rfl) (fun _ _ _ h => h) hSV1 (by rfl) ?_ ?_
        · intro V' hS
          obtain ⟨⟨qd, qt⟩, qo⟩ := hS
          have q0 := qd.cell 0
          have q1 := qt.cell 0
          have q2 := qo.cell 0
          simp only [List.getElem?_toArray, List.getElem?_cons_zero] at q0 q1 q2
          go_simp
        refine wpAnyF_take 1 (v := .pointer (some ⟨d.blk, 0, none⟩)) rfl (by kernel_rfl) (by kernel_rfl) (by kernel_rfl) (by kernel_rfl) (fun _ _ _ h => h) hSV1 (by rfl) ?_ ?_
        · intro V' hS
          obtain ⟨⟨qd, qt⟩, qo⟩ := hS
          have q0 := qd.cell 0
          have q1 := qt.cell 0
          have q2 := qo.cell 0
          simp only [List.getElem?_toArray, List.getElem?_cons_zero] at q0 q1 q2
          go_simp
        refine wpAnyF_take 2 (v := .int .i64 (ts : Int)) rfl (by kernel_rfl) (by kernel_rfl) (by kernel_rfl) (by kernel_rfl) (fun _ _ _ h => h) hSV1 (by rfl) ?_ ?_
        · intro V' hS
          obtain ⟨⟨qd, qt⟩, qo⟩ := hS
          have q0 := qd.cell 0
          have q1 := qt.cell 0
          have q2 := qo.cell 0
          simp only [List.getElem?_toArray, List.getElem?_cons_zero] at q0 q1 q2
          go_simp
        refine wpAnyF_take 3 (v := .int .i64 ((1 - ts : Nat) : Int)) rfl (by kernel_rfl) (by kernel_rfl) (by kernel_rfl) (by kernel_rfl) (fun _ _ _ h => h) hSV1 (by rfl) ?_ ?_
        · intro V' hS
          obtain ⟨⟨qd, qt⟩, qo⟩ := hS
          have q0 := qd.cell 0
          have q1 := qt.cell 0
          have q2 := qo.cell 0
          simp only [List.getElem?_toArray, List.getElem?_cons_zero] at q0 q1 q2
          go_simp
        refine wpAnyF_take 4 (v := .int .i64 (x.1 : Int)) rfl (by kernel_rfl) (by kernel_rfl) (by kernel_rfl) (by kernel_rfl) (fun _ _ _ h => h) hSV1 (by rfl) ?_ ?_
        · intro V' hS
          obtain ⟨⟨qd, qt⟩, qo⟩ := hS
          have q0 := qd.cell 0
          have q1 := qt.cell 0
          have q2 := qo.cell 0
          simp only [List.getElem?_toArray, List.getElem?_cons_zero] at q0 q1 q2
          go_simp
        have cA : Chg (fun _ => False) V (V.alloc (Obj.cells #[Value.int IntKind.i64 (x.1 : Int)] 3)).drew := ((Chg.refl _ V).alloc _).drew
        have bA : Blk (V.alloc (Obj.cells #[Value.int IntKind.i64 (x.1 : Int)] 3)).drew V.heap.size 3 #[.int .i64 (x.1 : Int)] := (Blk.new V _ _).drew
        refine wpAnyF_one 5 (by kernel_rfl) rfl (fun K hK => ?_)
        go_simp
        refine hK _ _ (fun _ => ⟨(R9S.mk hbd hbt).chg cA, hO.chg cA id⟩) ?_
        clear hK K
        refine wpAnyF_one 6 (by kernel_rfl) rfl (fun K hK => ?_)
        go_simp
        have stA : Stay (fun _ => False) w (V.alloc (Obj.cells #[Value.int IntKind.i64 (x.1 : Int)] 3)).drew := hst.trans (.of_chg cA)
        refine (gathered_any d (1 - ts) x.1 _ _ (h.keep (KeepC.of_stay stA)) hok (by omega) hxt hn (bA.cell 0) bA.lt).mono ?_
        rintro e V2 ⟨⟨v2, rfl, hs2⟩, c2⟩
        have cB := cA.trans c2
        obtain ⟨pb, cb, rfl, hcb, hcb2, hpb⟩ := hs2.is
        refine hK _ _ (fun _ => ⟨(R9S.mk hbd hbt).chg cB, hO.chg cB id⟩) ?_
        clear hK K
        have hs0B := hs0.chg cB fun _ _ => id
        have hA : ls.length + (keysAt d (1 - ts) x.1).length ≤ maxLen := by unfold maxLen; omega
        have hBB : (ls.length + (keysAt d (1 - ts) x.1).length) * 16 ≤ 140737488355328 := by omega
        have hDD : w.heap.size ≤ V2.heap.size := Nat.le_trans stA.size c2.size
        refine wpAnyF_one 7 (by kernel_rfl) rfl (fun K hK => ?_)
        refine step_append_any _ (by rfl) (.tmp 62) (.tmp 68) 92 (by rfl) w.heap.size 9 i0 _ 1 16 Tryz.underlying92 hi0 hz0 hz1 hz2 rfl (by omega) (.slice pa ls.length ca) ls.length (ls.map Value.string) (by rfl) hs0B.own V2.heap.size pb _ cb ((keysAt d (1 - ts) x.1).map Value.string) (by rfl) hs2.reads (strs_one _) hA hBB hDD ?_
        intro v3 V3 hown3 hg3 hat3
        have hOB2 := hO.chg cB id
        have a1 := app_chg hs0B.own hg3
        have a2 := app_keeps hs0B.own hg3
        have hnO : ∀ {g' : Nat} {t' : TypeId} {cs' : Array Value}, t' ≠ 9 → Blk V2 g' t' cs' → Blk V3 g' t' cs' := fun hne hb => (hg3.block _ hb.lt (fun e => hb.not_own hs0B.own hne e.symm)).trans hb
        have hO3 := hnO (by decide) hOB2
        have hbd3 := hnO (by decide) (hbd.chg cB id)
        have hbt3 := hnO (by decide) (hbt.chg cB id)
        have hH3 := hnO (by decide) (hH.chg cB id)
        refine hK _ _ (fun _ => ⟨⟨hbd3, hbt3⟩, hO3⟩) ?_
        clear hK K
        have hv3 : ∃ p3 c3, v3 = .slice p3 (ls.length + (keysAt d (1 - ts) x.1).length) c3 := by
          rcases hown3.2 with ⟨e, h0⟩ | ⟨g', cap', cur', e, _⟩
          · exact ⟨none, 0, by rw [e, h0]⟩
          · exact ⟨_, _, e⟩
        obtain ⟨p3, c3, rfl⟩ := hv3
        have o0 := hO3.cell 0
        have o1 := hO3.frozen 0
        have o2 := hO3.lt
        have h0 := hH3.cell 0
        have h1 := hH3.frozen 0
        have h2 := hH3.lt
        have hHO : W.heap.size ≠ OB := fun e => by omega
        simp only [List.getElem?_toArray, List.getElem?_cons_zero] at o0 h0
        refine wpAnyF_one 8 (by kernel_rfl) rfl (fun K hK => ?_)
        go_simp
        refine hK _ _ (fun h => absurd rfl h) ?_
        clear hK K
        refine wpAnyF_done (by kernel_rfl) ?_ _
        gi_wp2
        obtain ⟨f1, fg, fs⟩ := hit
        have nd : w.heap.size ≠ OB := hbd3.ne_type hO3 (by decide)
        have nt : TB ≠ OB := hbt3.ne_type hO3 (by decide)
        have f13 := hnO (by decide) (f1.chg cB id)
        have fg3 := hnO (by decide) (fg.chg cB id)
        have fs3 := hnO (by decide) (fs.chg cB id)
        have a3 : Chg (fun k => w.heap.size ≤ k) V ((V3.setCell ⟨OB, 0, none⟩ (.slice p3 (ls.length + (keysAt d (1 - ts) x.1).length) c3)).setCell ⟨W.heap.size, 0, none⟩ (.int .u32 (x.2 : Int))) :=
          (((cB.mono fun _ _ h => h.elim).trans a1).store hOB 0 _).store hC.size 0 _
        have far2 : ∀ {g' : Nat} {t' : TypeId} {cs' : Array Value}, Blk V3 g' t' cs' → g' ≠ OB → g' ≠ W.heap.size → Blk ((V3.setCell ⟨OB, 0, none⟩ (.slice p3 (ls.length + (keysAt d (1 - ts) x.1).length) c3)).setCell ⟨W.heap.size, 0, none⟩ (.int .u32 (x.2 : Int))) g' t' cs' :=
          fun hb n1 n2 => (hb.far (p := ⟨OB, 0, none⟩) n1 _).far (p := ⟨W.heap.size, 0, none⟩) n2 _
        have hown4 := own_stay (F := fun k => k = OB ∨ k = W.heap.size) hown3 (.of_chg (((Chg.refl (fun k => k = OB ∨ k = W.heap.size) V3).store (.inl rfl) 0 (.slice p3 (ls.length + (keysAt d (1 - ts) x.1).length) c3)).store (.inr rfl) 0 (.int .u32 (x.2 : Int)))) (fun gg hgg h' => by
          rcases h' with rfl | rfl
          · exact hO3.not_own hown3 (by decide) hgg
          · exact hH3.not_own hown3 (by decide) hgg)
        refine ⟨(((KeepsOthers.of_chg0 cB).trans a2).trans (KeepsOthers.setCell _ _ _)).trans (KeepsOthers.setCell _ _ _), ?_, ⟨pre ++ [x], _, by rw [← HPRE.out]; simp, ?_, Strs.mk hown4 ?_ ?_, ?_, ?_⟩, far2 hbd3 (by omega) (by omega), far2 hbt3 (by omega) (by omega), hst.trans' (.of_chg a3) (fun gg hg h' => by omega), Nat.le_trans hM a3.size⟩
        · rintro k (rfl | rfl | rfl)
          · exact (far2 f13 (by omega) (by omega)).trans f1.symm
          · exact (far2 fg3 (by omega) (by omega)).trans fg.symm
          · exact (far2 fs3 (by omega) (by omega)).trans fs.symm
        · exact (hO3.set 0 _).far (p := ⟨W.heap.size, 0, none⟩) (fun e => hHO e.symm) _
        · rw [← HLS.out]; simp [List.flatMap_append]; omega
        · rw [← HLS.out]; simp [List.flatMap_append]
        · rw [List.foldl_append]
          exact (hH3.far (p := ⟨OB, 0, none⟩) (fun e => hHO e) _).set 0 _
        · intro gg hgg e
          subst e
          exact f13.not_own hown3 (by decide) hgg
      · rintro D V hD ⟨⟨pre, v, hpre, hO, hs0, hH, hne⟩, hbd, hbt, hst, hM⟩ hKO hDd
        rw [List.append_nil] at hpre
        subst hpre
        have hlast : Hid ((slotsP a b (pos b c)).foldl (fun _ x => x.2) c = curW a (pos a c + 1)) := slotsP_last hab (by omega) c c
        obtain ⟨ll, hll⟩ : ∃ ll, (slotsP a b (pos b c)).foldl (fun _ x => x.2) c = ll := ⟨_, rfl⟩
        rw [hll] at hH hlast
        have hCV : Chg (fun _ => False) w V := .of_stay hst ((KeepsOthers.of_chg0 (hC.trans hcE)).trans hKO)
        have o0 := hO.cell 0
        have h0 := hH.cell 0
        have o2 := hO.lt
        have h2 := hH.lt
        simp only [List.getElem?_toArray, List.getElem?_cons_zero] at o0 h0
        have hwD : w.heap.size ≤ D := Nat.le_trans (hC.trans hcE).size hD
        clear hll
        go_wp2_with fail
        go_quiet (fail)
        go_wp2_with fail
        refine bodyPostM_ret (D := D) (v := .tuple #[v, .int .u32 (ll : Int)]) rfl hDd (by simp [results, Tryz.results50, go_sem]) ⟨⟨v, by rw [hlast.out], ?_⟩, ?_⟩
        · exact hs0.stay ((Stay.of_chg ((Chg.refl (fun _ => False) V).drewN nq)).trans (Stay.put (F := fun _ => False) (w := V.drewN nq) hDd rfl _)) fun _ _ => id
        · exact (hCV.drewN nq).put hwD _

end Go.Proofs.YtifcpippfiglkaaGreat.Dint64

/- What a scan tells, in plain words. -/
namespace Go.Proofs.YtifcpippfiglkaaGreat.Dint64
open Go.RowKit Pal

/-- The digits of the lesser table's size. -/
def scanA (d : Dm) : Nat := match d.t1 with
  | none => Nat.log2 d.t0.len
  | some t => Nat.log2 (if t.len < d.t0.len then t.len else d.t0.len)
def scanB (d : Dm) : Nat := match d.t1 with
  | none => Nat.log2 d.t0.len
  | some t => Nat.log2 (if t.len < d.t0.len then d.t0.len else t.len)
def scanT (d : Dm) : Nat := match d.t1 with
  | none => 0
  | some t => if t.len < d.t0.len then 1 else 0
def scanC (d : Dm) (c : Nat) : Nat := curW (scanA d) (pos (scanA d) c + 1)
def scanL (d : Dm) (c : Nat) : List ByteArray := match d.t1 with
  | none => keysAt d 0 (c % 2 ^ scanA d)
  | some _ => keysAt d (scanT d) (c % 2 ^ scanA d) ++ (slotsP (scanA d) (scanB d) (pos (scanB d) c)).flatMap fun x => keysAt d (1 - scanT d) x.1

theorem pow_le_of {a b : Nat} (h : 2 ^ a ≤ 2 ^ b) : a ≤ b := by
  rcases Nat.lt_or_ge b a with h' | h'
  · have : 2 ^ b < 2 ^ a := Nat.pow_lt_pow_right (by omega) h'
    omega
  · exact h'
theorem scan_none {d : Dm} (hok : d.Ok) (ht : d.t1 = none) : d.t0.len = 2 ^ scanA d ∧ 2 ≤ scanA d ∧ scanA d ≤ 16 := by
  obtain ⟨k, h2, h16, e⟩ := hok.s0
  have : scanA d = k := by unfold scanA; rw [ht, e]; exact Nat.log2_two_pow
  rw [this]; exact ⟨e, h2, h16⟩
theorem scan_some {d : Dm} (hok : d.Ok) {t : Tb} (ht : d.t1 = some t) : 2 ≤ scanA d ∧ scanA d ≤ scanB d ∧ scanB d ≤ 16 ∧
    ((scanT d = 0 ∧ d.t0.len = 2 ^ scanA d ∧ t.len = 2 ^ scanB d) ∨ (scanT d = 1 ∧ t.len = 2 ^ scanA d ∧ d.t0.len = 2 ^ scanB d ∧ t.len < d.t0.len)) := by
  obtain ⟨k, h2, h16, e⟩ := hok.s0
  obtain ⟨j, g2, g16, f⟩ := hok.s1 t ht
  by_cases hlt : t.len < d.t0.len
  · have a1 : scanA d = j := by unfold scanA; rw [ht]; dsimp only; rw [if_pos hlt, f]; exact Nat.log2_two_pow
    have b1 : scanB d = k := by unfold scanB; rw [ht]; dsimp only; rw [if_pos hlt, e]; exact Nat.log2_two_pow
    have t1 : scanT d = 1 := by unfold scanT; rw [ht]; dsimp only; rw [if_pos hlt]
    rw [a1, b1, t1]
    exact ⟨g2, pow_le_of (by omega), h16, .inr ⟨rfl, f, e, hlt⟩⟩
  · have a1 : scanA d = k := by unfold scanA; rw [ht]; dsimp only; rw [if_neg hlt, e]; exact Nat.log2_two_pow
    have b1 : scanB d = j := by unfold scanB; rw [ht]; dsimp only; rw [if_neg hlt, f]; exact Nat.log2_two_pow
    have t1 : scanT d = 0 := by unfold scanT; rw [ht]; dsimp only; rw [if_neg hlt]
    rw [a1, b1, t1]
    exact ⟨h2, pow_le_of (by omega), g16, .inl ⟨rfl, e, f⟩⟩
theorem scanA_le {d : Dm} (hok : d.Ok) : 2 ≤ scanA d ∧ scanA d ≤ 16 := by
  cases ht : d.t1 with
  | none => have := scan_none hok ht; omega
  | some t => have := scan_some hok ht; omega

/-- Scan, whether the dict moves or not. -/
theorem Scan_i (d : Dm) (c : Nat) (w : World) (h : DmAt w d) (hok : d.Ok) (hn : d.n < 1000000) (hc : c < 4294967296) :
    Calls Tryz.prog 50 #[ptr d.blk, .int .u32 (c : Int)] w fun e w' => (∃ v, e = .returned (.tuple #[v, .int .u32 (scanC d c : Int)]) ∧ Strs w' w.heap.size v (scanL d c)) ∧ Chg (fun _ => False) w w' := by
  cases ht : d.t1 with
  | none =>
    obtain ⟨h1, _, h3⟩ := scan_none hok ht
    have := Scan_still d (scanA d) c w h hok hn ht h1 h3 hc
    have e : scanL d c = keysAt d 0 (c % 2 ^ scanA d) := by unfold scanL; rw [ht]
    rw [e]
    exact this
  | some t =>
    obtain ⟨_, h2, h3, h4⟩ := scan_some hok ht
    have := Scan_mv d t (scanA d) (scanB d) c (scanT d) w h hok hn ht h2 h3 hc h4
    have e : scanL d c = keysAt d (scanT d) (c % 2 ^ scanA d) ++ (slotsP (scanA d) (scanB d) (pos (scanB d) c)).flatMap fun x => keysAt d (1 - scanT d) x.1 := by unfold scanL; rw [ht]
    rw [e]
    exact this

/-! ### slots as filters -/
theorem flat_filter {α : Type} (f : α → Nat) : ∀ (ls : List (List α)) (off i : Nat), (∀ j x, x ∈ ls.getD j [] → f x = off + j) → ls.flatten.filter (fun x => decide (f x = off + i)) = ls.getD i []
  | [], _, _, _ => by simp
  | l :: ls, off, i, h => by
    rw [List.flatten_cons, List.filter_append]
    have h0 : ∀ x ∈ l, f x = off := fun x hx => by simpa using h 0 x (by simpa using hx)
    have hs : ∀ j x, x ∈ ls.getD j [] → f x = off + 1 + j := fun j x hx => by
      have := h (j + 1) x (by simpa using hx)
      omega
    cases i with
    | zero =>
      have e1 : l.filter (fun x => decide (f x = off + 0)) = l := List.filter_eq_self.2 fun x hx => by simpa using h0 x hx
      have e2 : ls.flatten.filter (fun x => decide (f x = off + 0)) = [] := by
        rw [List.filter_eq_nil_iff]
        intro x hx h'
        obtain ⟨c, hc, hxc⟩ := List.mem_flatten.1 hx
        obtain ⟨j, hj, rfl⟩ := List.mem_iff_getElem.1 hc
        have := hs j x (by rw [List.getD_eq_getElem?_getD, List.getElem?_eq_getElem hj]; exact hxc)
        have h'' := of_decide_eq_true h'
        omega
      rw [e1, e2, List.append_nil]; rfl
    | succ i =>
      have e1 : l.filter (fun x => decide (f x = off + (i + 1))) = [] := by
        rw [List.filter_eq_nil_iff]
        intro x hx h'
        have h'' := of_decide_eq_true h'
        have := h0 x hx
        omega
      rw [e1, List.nil_append]
      have := flat_filter f ls (off + 1) i hs
      rw [show off + 1 + i = off + (i + 1) by omega] at this
      rw [this]; rfl
theorem at_filter {t : Tb} (hin : ∀ i x, i < t.len → x ∈ t.at i → x.sum % t.len = i) (i : Nat) : t.nodes.filter (fun x => decide (x.sum % t.len = i)) = t.at i := by
  have := flat_filter (fun x : Nd => x.sum % t.len) t.slots 0 i (fun j x hx => by
    rw [Nat.zero_add]
    refine hin j x ?_ hx
    rcases Nat.lt_or_ge j t.slots.length with h | h
    · exact h
    · rw [List.getD_eq_getElem?_getD, List.getElem?_eq_none h] at hx; cases hx)
  rw [Nat.zero_add] at this
  exact this
theorem mod_pos {b s k : Nat} (hb : b ≤ 32) (hs : s < 4294967296) (hk : k < 2 ^ b) : s % 2 ^ b = cur b k ↔ pos b s = k := by
  rw [mod_cur hb hs]
  constructor
  · exact fun h => cur_inj b hb (pos_lt hb s) hk h
  · rintro rfl; rfl
theorem at_pos {t : Tb} {b k : Nat} (hb : b ≤ 32) (hl : t.len = 2 ^ b) (hin : ∀ i x, i < t.len → x ∈ t.at i → x.sum % t.len = i) (hs : ∀ x ∈ t.nodes, x.sum < 4294967296) (hk : k < 2 ^ b) :
    t.at (cur b k) = t.nodes.filter (fun x => decide (pos b x.sum = k)) := by
  rw [← at_filter hin]
  apply List.filter_congr
  intro x hx
  rw [hl, decide_eq_decide]
  exact mod_pos hb (hs x hx) hk
theorem filter_split {α : Type} (f : α → Nat) (k m : Nat) : ∀ l : List α, (l.filter (fun x => decide (f x = k)) ++ l.filter (fun x => decide (k + 1 ≤ f x ∧ f x < k + 1 + m))).Perm (l.filter (fun x => decide (k ≤ f x ∧ f x < k + (m + 1))))
  | [] => List.Perm.refl _
  | x :: l => by
    have ih := filter_split f k m l
    by_cases h1 : f x = k
    · have h2 : ¬ (k + 1 ≤ f x ∧ f x < k + 1 + m) := by omega
      have h3 : k ≤ f x ∧ f x < k + (m + 1) := by omega
      rw [List.filter_cons_of_pos (by simpa using h1), List.filter_cons_of_neg (by simpa using h2), List.filter_cons_of_pos (by simpa using h3), List.cons_append]
      exact ih.cons x
    · by_cases h2 : k + 1 ≤ f x ∧ f x < k + 1 + m
      · have h3 : k ≤ f x ∧ f x < k + (m + 1) := by omega
        rw [List.filter_cons_of_neg (by simpa using h1), List.filter_cons_of_pos (by simpa using h2), List.filter_cons_of_pos (by simpa using h3)]
        exact List.perm_middle.trans (ih.cons x)
      · have h3 : ¬ (k ≤ f x ∧ f x < k + (m + 1)) := by omega
        rw [List.filter_cons_of_neg (by simpa using h1), List.filter_cons_of_neg (by simpa using h2), List.filter_cons_of_neg (by simpa using h3)]
        exact ih
theorem slotsM_perm {t : Tb} {b : Nat} (hb : b ≤ 32) (hl : t.len = 2 ^ b) (hin : ∀ i x, i < t.len → x ∈ t.at i → x.sum % t.len = i) (hs : ∀ x ∈ t.nodes, x.sum < 4294967296) :
    ∀ m k, k + m ≤ 2 ^ b → ((slotsM b k m).flatMap fun x => t.at x.1).Perm (t.nodes.filter (fun x => decide (k ≤ pos b x.sum ∧ pos b x.sum < k + m)))
  | 0, k, _ => by
    have e : t.nodes.filter (fun x => decide (k ≤ pos b x.sum ∧ pos b x.sum < k + 0)) = [] := by
      rw [List.filter_eq_nil_iff]
      intro x _ h
      have := of_decide_eq_true h
      omega
    rw [e]; exact List.Perm.refl _
  | m + 1, k, h => by
    rw [slotsM_succ, List.flatMap_cons, at_pos hb hl hin hs (by omega)]
    exact (List.Perm.append_left _ (slotsM_perm hb hl hin hs m (k + 1) (by omega))).trans (filter_split (fun x : Nd => pos b x.sum) k m t.nodes)

theorem slotsP_perm {t : Tb} {a b k : Nat} (hab : a ≤ b) (hb : b ≤ 32) (hk : k < 2 ^ b) (hl : t.len = 2 ^ b) (hin : ∀ i x, i < t.len → x ∈ t.at i → x.sum % t.len = i) (hs : ∀ x ∈ t.nodes, x.sum < 4294967296) :
    ((slotsP a b k).flatMap fun x => t.at x.1).Perm (t.nodes.filter (fun x => decide (pos a x.sum = k / 2 ^ (b - a) ∧ k ≤ pos b x.sum))) := by
  have h1 : 0 < 2 ^ (b - a) := Nat.one_le_two_pow
  have hd := Nat.div_add_mod k (2 ^ (b - a))
  have hm := Nat.mod_lt k h1
  have h2 : k / 2 ^ (b - a) < 2 ^ a := by rw [Nat.div_lt_iff_lt_mul h1, ← pow_up hab]; exact hk
  have h3 : (k / 2 ^ (b - a) + 1) * 2 ^ (b - a) ≤ 2 ^ a * 2 ^ (b - a) := Nat.mul_le_mul_right _ h2
  rw [← pow_up hab] at h3
  have h4 : k + (2 ^ (b - a) - k % 2 ^ (b - a)) = (k / 2 ^ (b - a) + 1) * 2 ^ (b - a) := by
    rw [Nat.add_mul, Nat.one_mul, Nat.mul_comm (k / _)]; omega
  refine (slotsM_perm hb hl hin hs _ _ (by omega)).trans ?_
  rw [h4]
  have e : t.nodes.filter (fun x => decide (k ≤ pos b x.sum ∧ pos b x.sum < (k / 2 ^ (b - a) + 1) * 2 ^ (b - a))) = t.nodes.filter (fun x => decide (pos a x.sum = k / 2 ^ (b - a) ∧ k ≤ pos b x.sum)) := by
    apply List.filter_congr
    intro x _
    rw [decide_eq_decide, pos_down hab hb]
    have e1 : pos b x.sum / 2 ^ (b - a) < k / 2 ^ (b - a) + 1 ↔ pos b x.sum < (k / 2 ^ (b - a) + 1) * 2 ^ (b - a) := Nat.div_lt_iff_lt_mul h1
    constructor
    · rintro ⟨g1, g2⟩
      have := Nat.div_le_div_right (c := 2 ^ (b - a)) g1
      have := e1.2 g2
      exact ⟨by omega, g1⟩
    · rintro ⟨g1, g2⟩
      exact ⟨g2, e1.1 (by omega)⟩
  rw [e]

end Go.Proofs.YtifcpippfiglkaaGreat.Dint64

/- Which keys a scan tells. -/
namespace Go.Proofs.YtifcpippfiglkaaGreat.Dint64
open Go.RowKit Pal

theorem scan_perm {d : Dm} (hok : d.Ok) (c : Nat) (hc : c < 4294967296) :
    ∃ ns ng : List Nd, d.nodes.Perm (ns ++ ng) ∧ (scanL d c).Perm ((ns.filter (fun x => decide (pos (scanA d) x.sum = pos (scanA d) c)) ++ ng.filter (fun x => decide (pos (scanA d) x.sum = pos (scanA d) c ∧ pos (scanB d) c ≤ pos (scanB d) x.sum))).map (·.key)) := by
  cases ht : d.t1 with
  | none =>
    obtain ⟨h1, h2, h3⟩ := scan_none hok ht
    refine ⟨d.t0.nodes, [], ?_, ?_⟩
    · unfold Dm.nodes Dm.nodes1; rw [ht]
    · have e : scanL d c = keysAt d 0 (c % 2 ^ scanA d) := by unfold scanL; rw [ht]
      rw [e, List.filter_nil, List.append_nil, mod_cur (by omega) hc, ← at_pos (by omega) h1 hok.in0 (fun x hx => hok.sum_lt (mem_nodes0 hx)) (pos_lt (by omega) c)]
      exact keysAt_perm (tab0 d)
  | some t =>
    obtain ⟨h2, hab, h16, hcase⟩ := scan_some hok ht
    have e : scanL d c = keysAt d (scanT d) (c % 2 ^ scanA d) ++ (slotsP (scanA d) (scanB d) (pos (scanB d) c)).flatMap fun x => keysAt d (1 - scanT d) x.1 := by unfold scanL; rw [ht]
    rw [e, mod_cur (by omega) hc]
    have key : ∀ (s g : Tb), d.tab (scanT d) = some s → d.tab (1 - scanT d) = some g → s.len = 2 ^ scanA d → g.len = 2 ^ scanB d →
        (keysAt d (scanT d) (cur (scanA d) (pos (scanA d) c)) ++ (slotsP (scanA d) (scanB d) (pos (scanB d) c)).flatMap fun x => keysAt d (1 - scanT d) x.1).Perm
          ((s.nodes.filter (fun x => decide (pos (scanA d) x.sum = pos (scanA d) c)) ++ g.nodes.filter (fun x => decide (pos (scanA d) x.sum = pos (scanA d) c ∧ pos (scanB d) c ≤ pos (scanB d) x.sum))).map (·.key)) := by
      intro s g hs hg ls lg
      obtain ⟨_, ins, ms⟩ := tab_ok hok hs
      obtain ⟨_, ing, mg⟩ := tab_ok hok hg
      rw [List.map_append]
      refine List.Perm.append ?_ ?_
      · rw [← at_pos (by omega) ls ins (fun x hx => hok.sum_lt (ms x hx)) (pos_lt (by omega) c)]
        exact keysAt_perm hs
      · refine (flatMap_perm _ (g := fun x : Nat × Nat => (g.at x.1).map (·.key)) fun x _ => keysAt_perm hg).trans ?_
        rw [← List.map_flatMap]
        have := slotsP_perm (k := pos (scanB d) c) hab (by omega : scanB d ≤ 32) (pos_lt (by omega) c) lg ing (fun x hx => hok.sum_lt (mg x hx))
        rw [← pos_down hab (by omega)] at this
        exact this.map _
    rcases hcase with ⟨e1, l0, l1⟩ | ⟨e1, l1, l0, _⟩
    · refine ⟨d.t0.nodes, t.nodes, ?_, ?_⟩
      · unfold Dm.nodes Dm.nodes1; rw [ht]
      · exact key d.t0 t (by rw [e1]; rfl) (by rw [e1]; exact ht) l0 l1
    · refine ⟨t.nodes, d.t0.nodes, ?_, ?_⟩
      · unfold Dm.nodes Dm.nodes1; rw [ht]; exact List.perm_append_comm
      · exact key t d.t0 (by rw [e1]; exact ht) (by rw [e1]; rfl) l1 l0

/-- A told key is there. -/
theorem scan_mem {d : Dm} (hok : d.Ok) {c : Nat} (hc : c < 4294967296) {k : ByteArray} (h : k ∈ scanL d c) : ∃ x ∈ d.nodes, x.key = k := by
  obtain ⟨ns, ng, h1, h2⟩ := scan_perm hok c hc
  obtain ⟨x, hx, rfl⟩ := List.mem_map.1 (h2.mem_iff.1 h)
  refine ⟨x, h1.mem_iff.2 ?_, rfl⟩
  rcases List.mem_append.1 hx with hx | hx
  · exact List.mem_append.2 (.inl (List.mem_filter.1 hx).1)
  · exact List.mem_append.2 (.inr (List.mem_filter.1 hx).1)
/-- What stands from the cursor on, in its slot, is told. -/
theorem scan_tells {d : Dm} (hok : d.Ok) {c : Nat} (hc : c < 4294967296) {x : Nd} (hx : x ∈ d.nodes) (h1 : pos (scanA d) x.sum = pos (scanA d) c) (h2 : turn c ≤ turn x.sum) : x.key ∈ scanL d c := by
  obtain ⟨ns, ng, g1, g2⟩ := scan_perm hok c hc
  refine g2.mem_iff.2 (List.mem_map.2 ⟨x, ?_, rfl⟩)
  have hp : pos (scanB d) c ≤ pos (scanB d) x.sum := Nat.div_le_div_right h2
  rcases List.mem_append.1 (g1.mem_iff.1 hx) with h | h
  · exact List.mem_append.2 (.inl (List.mem_filter.2 ⟨h, by simpa using h1⟩))
  · exact List.mem_append.2 (.inr (List.mem_filter.2 ⟨h, by simp [h1, hp]⟩))
/-- From a slot's begin on each key of the slot is told once. -/
theorem scan_once {d : Dm} (hok : d.Ok) {q : Nat} (hq : q < 2 ^ scanA d) : (scanL d (cur (scanA d) q)).Perm ((d.nodes.filter fun x => decide (pos (scanA d) x.sum = q)).map (·.key)) := by
  obtain ⟨ha2, ha⟩ := scanA_le hok
  obtain ⟨ns, ng, g1, g2⟩ := scan_perm hok (cur (scanA d) q) (cur_lt32 _ _)
  rw [pos_cur (by omega) hq] at g2
  refine g2.trans ?_
  have e : ng.filter (fun x => decide (pos (scanA d) x.sum = q ∧ pos (scanB d) (cur (scanA d) q) ≤ pos (scanB d) x.sum)) = ng.filter (fun x => decide (pos (scanA d) x.sum = q)) := by
    apply List.filter_congr
    intro x _
    rw [decide_eq_decide]
    refine ⟨fun h => h.1, fun h => ⟨h, ?_⟩⟩
    have hab : scanA d ≤ scanB d ∧ scanB d ≤ 16 := by
      cases ht : d.t1 with
      | none => have : scanB d = scanA d := by unfold scanA scanB; rw [ht]
                omega
      | some t => have := scan_some hok ht; omega
    rw [pos_down hab.1 (by omega)] at h
    rw [← cur_up hab.1 (by omega), pos_cur (by omega) (by rw [pow_up hab.1]; exact Nat.mul_lt_mul_of_pos_right hq Nat.one_le_two_pow), ← h]
    exact Nat.div_mul_le_self _ _
  rw [e, ← List.filter_append]
  exact (g1.filter _).symm.map _

end Go.Proofs.YtifcpippfiglkaaGreat.Dint64
