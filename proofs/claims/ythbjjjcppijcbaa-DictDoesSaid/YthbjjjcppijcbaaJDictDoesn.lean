/- Texts joined for DictDoes: RC, OWint, TWint, DAint, DQint, ACint. -/
import Derived.Test.YthbjjjcppijcbaaJDictDoesg
import Derived.Test.YthbjjjcppijcbaaJDictDoesk
import Derived.Test.YthbjjjcppijcbaaJDictDoesm
import Derived.Deep.Slices
import Derived.Deep.Fields
import Derived.ChangeSame
set_option linter.unusedVariables false
set_option linter.unusedSimpArgs false

/- The walk of the document's Scan. -/
namespace Go.Proofs.Ythbjjjcppijcbaa
open Go.RowKit Pal Dint

theorem all100 {P : Array Value → Prop} (h : ∀ u0 u1 u2 u3 u4 u5 u6 u7 u8 u9 u10 u11 u12 u13 u14 u15 u16 u17 u18 u19 u20 u21 u22 u23 u24 u25 u26 u27 u28 u29 u30 u31 u32 u33 u34 u35 u36 u37 u38 u39 u40 u41 u42 u43 u44 u45 u46 u47 u48 u49 u50 u51 u52 u53 u54 u55 u56 u57 u58 u59 u60 u61 u62 u63 u64 u65 u66 u67 u68 u69 u70 u71 u72 u73 u74 u75 u76 u77 u78 u79 u80 u81 u82 u83 u84 u85 u86 u87 u88 u89 u90 u91 u92 u93 u94 u95 u96 u97 u98 u99 : Value, P #[u0, u1, u2, u3, u4, u5, u6, u7, u8, u9, u10, u11, u12, u13, u14, u15, u16, u17, u18, u19, u20, u21, u22, u23, u24, u25, u26, u27, u28, u29, u30, u31, u32, u33, u34, u35, u36, u37, u38, u39, u40, u41, u42, u43, u44, u45, u46, u47, u48, u49, u50, u51, u52, u53, u54, u55, u56, u57, u58, u59, u60, u61, u62, u63, u64, u65, u66, u67, u68, u69, u70, u71, u72, u73, u74, u75, u76, u77, u78, u79, u80, u81, u82, u83, u84, u85, u86, u87, u88, u89, u90, u91, u92, u93, u94, u95, u96, u97, u98, u99]) (a : Array Value) (hs : a.size = 100) : P a := by
  obtain ⟨l⟩ := a
  have g0 : l.length = 100 := hs
  clear hs
  obtain ⟨u0, l0, e0, g1⟩ := Pal.len_cons g0
  obtain ⟨u1, l1, e1, g2⟩ := Pal.len_cons g1
  obtain ⟨u2, l2, e2, g3⟩ := Pal.len_cons g2
  obtain ⟨u3, l3, e3, g4⟩ := Pal.len_cons g3
  obtain ⟨u4, l4, e4, g5⟩ := Pal.len_cons g4
  obtain ⟨u5, l5, e5, g6⟩ := Pal.len_cons g5
  obtain ⟨u6, l6, e6, g7⟩ := Pal.len_cons g6
  obtain ⟨u7, l7, e7, g8⟩ := Pal.len_cons g7
  obtain ⟨u8, l8, e8, g9⟩ := Pal.len_cons g8
  obtain ⟨u9, l9, e9, g10⟩ := Pal.len_cons g9
  obtain ⟨u10, l10, e10, g11⟩ := Pal.len_cons g10
  obtain ⟨u11, l11, e11, g12⟩ := Pal.len_cons g11
  obtain ⟨u12, l12, e12, g13⟩ := Pal.len_cons g12
  obtain ⟨u13, l13, e13, g14⟩ := Pal.len_cons g13
  obtain ⟨u14, l14, e14, g15⟩ := Pal.len_cons g14
  obtain ⟨u15, l15, e15, g16⟩ := Pal.len_cons g15
  obtain ⟨u16, l16, e16, g17⟩ := Pal.len_cons g16
  obtain ⟨u17, l17, e17, g18⟩ := Pal.len_cons g17
  obtain ⟨u18, l18, e18, g19⟩ := Pal.len_cons g18
  obtain ⟨u19, l19, e19, g20⟩ := Pal.len_cons g19
  obtain ⟨u20, l20, e20, g21⟩ := Pal.len_cons g20
  obtain ⟨u21, l21, e21, g22⟩ := Pal.len_cons g21
  obtain ⟨u22, l22, e22, g23⟩ := Pal.len_cons g22
  obtain ⟨u23, l23, e23, g24⟩ := Pal.len_cons g23
  obtain ⟨u24, l24, e24, g25⟩ := Pal.len_cons g24
  obtain ⟨u25, l25, e25, g26⟩ := Pal.len_cons g25
  obtain ⟨u26, l26, e26, g27⟩ := Pal.len_cons g26
  obtain ⟨u27, l27, e27, g28⟩ := Pal.len_cons g27
  obtain ⟨u28, l28, e28, g29⟩ := Pal.len_cons g28
  obtain ⟨u29, l29, e29, g30⟩ := Pal.len_cons g29
  obtain ⟨u30, l30, e30, g31⟩ := Pal.len_cons g30
  obtain ⟨u31, l31, e31, g32⟩ := Pal.len_cons g31
  obtain ⟨u32, l32, e32, g33⟩ := Pal.len_cons g32
  obtain ⟨u33, l33, e33, g34⟩ := Pal.len_cons g33
  obtain ⟨u34, l34, e34, g35⟩ := Pal.len_cons g34
  obtain ⟨u35, l35, e35, g36⟩ := Pal.len_cons g35
  obtain ⟨u36, l36, e36, g37⟩ := Pal.len_cons g36
  obtain ⟨u37, l37, e37, g38⟩ := Pal.len_cons g37
  obtain ⟨u38, l38, e38, g39⟩ := Pal.len_cons g38
  obtain ⟨u39, l39, e39, g40⟩ := Pal.len_cons g39
  obtain ⟨u40, l40, e40, g41⟩ := Pal.len_cons g40
  obtain ⟨u41, l41, e41, g42⟩ := Pal.len_cons g41
  obtain ⟨u42, l42, e42, g43⟩ := Pal.len_cons g42
  obtain ⟨u43, l43, e43, g44⟩ := Pal.len_cons g43
  obtain ⟨u44, l44, e44, g45⟩ := Pal.len_cons g44
  obtain ⟨u45, l45, e45, g46⟩ := Pal.len_cons g45
  obtain ⟨u46, l46, e46, g47⟩ := Pal.len_cons g46
  obtain ⟨u47, l47, e47, g48⟩ := Pal.len_cons g47
  obtain ⟨u48, l48, e48, g49⟩ := Pal.len_cons g48
  obtain ⟨u49, l49, e49, g50⟩ := Pal.len_cons g49
  obtain ⟨u50, l50, e50, g51⟩ := Pal.len_cons g50
  obtain ⟨u51, l51, e51, g52⟩ := Pal.len_cons g51
  obtain ⟨u52, l52, e52, g53⟩ := Pal.len_cons g52
  obtain ⟨u53, l53, e53, g54⟩ := Pal.len_cons g53
  obtain ⟨u54, l54, e54, g55⟩ := Pal.len_cons g54
  obtain ⟨u55, l55, e55, g56⟩ := Pal.len_cons g55
  obtain ⟨u56, l56, e56, g57⟩ := Pal.len_cons g56
  obtain ⟨u57, l57, e57, g58⟩ := Pal.len_cons g57
  obtain ⟨u58, l58, e58, g59⟩ := Pal.len_cons g58
  obtain ⟨u59, l59, e59, g60⟩ := Pal.len_cons g59
  obtain ⟨u60, l60, e60, g61⟩ := Pal.len_cons g60
  obtain ⟨u61, l61, e61, g62⟩ := Pal.len_cons g61
  obtain ⟨u62, l62, e62, g63⟩ := Pal.len_cons g62
  obtain ⟨u63, l63, e63, g64⟩ := Pal.len_cons g63
  obtain ⟨u64, l64, e64, g65⟩ := Pal.len_cons g64
  obtain ⟨u65, l65, e65, g66⟩ := Pal.len_cons g65
  obtain ⟨u66, l66, e66, g67⟩ := Pal.len_cons g66
  obtain ⟨u67, l67, e67, g68⟩ := Pal.len_cons g67
  obtain ⟨u68, l68, e68, g69⟩ := Pal.len_cons g68
  obtain ⟨u69, l69, e69, g70⟩ := Pal.len_cons g69
  obtain ⟨u70, l70, e70, g71⟩ := Pal.len_cons g70
  obtain ⟨u71, l71, e71, g72⟩ := Pal.len_cons g71
  obtain ⟨u72, l72, e72, g73⟩ := Pal.len_cons g72
  obtain ⟨u73, l73, e73, g74⟩ := Pal.len_cons g73
  obtain ⟨u74, l74, e74, g75⟩ := Pal.len_cons g74
  obtain ⟨u75, l75, e75, g76⟩ := Pal.len_cons g75
  obtain ⟨u76, l76, e76, g77⟩ := Pal.len_cons g76
  obtain ⟨u77, l77, e77, g78⟩ := Pal.len_cons g77
  obtain ⟨u78, l78, e78, g79⟩ := Pal.len_cons g78
  obtain ⟨u79, l79, e79, g80⟩ := Pal.len_cons g79
  obtain ⟨u80, l80, e80, g81⟩ := Pal.len_cons g80
  obtain ⟨u81, l81, e81, g82⟩ := Pal.len_cons g81
  obtain ⟨u82, l82, e82, g83⟩ := Pal.len_cons g82
  obtain ⟨u83, l83, e83, g84⟩ := Pal.len_cons g83
  obtain ⟨u84, l84, e84, g85⟩ := Pal.len_cons g84
  obtain ⟨u85, l85, e85, g86⟩ := Pal.len_cons g85
  obtain ⟨u86, l86, e86, g87⟩ := Pal.len_cons g86
  obtain ⟨u87, l87, e87, g88⟩ := Pal.len_cons g87
  obtain ⟨u88, l88, e88, g89⟩ := Pal.len_cons g88
  obtain ⟨u89, l89, e89, g90⟩ := Pal.len_cons g89
  obtain ⟨u90, l90, e90, g91⟩ := Pal.len_cons g90
  obtain ⟨u91, l91, e91, g92⟩ := Pal.len_cons g91
  obtain ⟨u92, l92, e92, g93⟩ := Pal.len_cons g92
  obtain ⟨u93, l93, e93, g94⟩ := Pal.len_cons g93
  obtain ⟨u94, l94, e94, g95⟩ := Pal.len_cons g94
  obtain ⟨u95, l95, e95, g96⟩ := Pal.len_cons g95
  obtain ⟨u96, l96, e96, g97⟩ := Pal.len_cons g96
  obtain ⟨u97, l97, e97, g98⟩ := Pal.len_cons g97
  obtain ⟨u98, l98, e98, g99⟩ := Pal.len_cons g98
  obtain ⟨u99, l99, e99, g100⟩ := Pal.len_cons g99
  obtain rfl := List.eq_nil_of_length_eq_zero g100
  have e : (⟨l⟩ : Array Value) = #[u0, u1, u2, u3, u4, u5, u6, u7, u8, u9, u10, u11, u12, u13, u14, u15, u16, u17, u18, u19, u20, u21, u22, u23, u24, u25, u26, u27, u28, u29, u30, u31, u32, u33, u34, u35, u36, u37, u38, u39, u40, u41, u42, u43, u44, u45, u46, u47, u48, u49, u50, u51, u52, u53, u54, u55, u56, u57, u58, u59, u60, u61, u62, u63, u64, u65, u66, u67, u68, u69, u70, u71, u72, u73, u74, u75, u76, u77, u78, u79, u80, u81, u82, u83, u84, u85, u86, u87, u88, u89, u90, u91, u92, u93, u94, u95, u96, u97, u98, u99] := by rw [e0, e1, e2, e3, e4, e5, e6, e7, e8, e9, e10, e11, e12, e13, e14, e15, e16, e17, e18, e19, e20, e21, e22, e23, e24, e25, e26, e27, e28, e29, e30, e31, e32, e33, e34, e35, e36, e37, e38, e39, e40, e41, e42, e43, e44, e45, e46, e47, e48, e49, e50, e51, e52, e53, e54, e55, e56, e57, e58, e59, e60, e61, e62, e63, e64, e65, e66, e67, e68, e69, e70, e71, e72, e73, e74, e75, e76, e77, e78, e79, e80, e81, e82, e83, e84, e85, e86, e87, e88, e89, e90, e91, e92, e93, e94, e95, e96, e97, e98, e99]
  rw [e]
  exact h u0 u1 u2 u3 u4 u5 u6 u7 u8 u9 u10 u11 u12 u13 u14 u15 u16 u17 u18 u19 u20 u21 u22 u23 u24 u25 u26 u27 u28 u29 u30 u31 u32 u33 u34 u35 u36 u37 u38 u39 u40 u41 u42 u43 u44 u45 u46 u47 u48 u49 u50 u51 u52 u53 u54 u55 u56 u57 u58 u59 u60 u61 u62 u63 u64 u65 u66 u67 u68 u69 u70 u71 u72 u73 u74 u75 u76 u77 u78 u79 u80 u81 u82 u83 u84 u85 u86 u87 u88 u89 u90 u91 u92 u93 u94 u95 u96 u97 u98 u99
def ActC (blk u ts s g : Nat) (o : Value) (x : Act) : Prop := x.tmps.size = 100 ∧ x.tmps[0]? = some (ptr blk) ∧ x.tmps[1]? = some (.int .u32 (u : Int)) ∧ x.tmps[8]? = some (.int .i64 (ts : Int)) ∧ x.tmps[9]? = some (.int .i64 (s : Int)) ∧ x.tmps[10]? = some (.int .i64 (g : Int)) ∧ x.tmps[11]? = some (o) ∧ x.defers = []
def InvC (w0 : World) (r : Rm) (d : Dm) (ts s g a b : Nat) (T : List ByteArray) (F : Nat) (m : Nat) (x : Act) (w : World) : Prop :=
  ∃ u o acc, m = (slotsP a b (pos b u)).length ∧ ActC r.blk u ts s g o x ∧ Chg (fun _ => False) w0 w ∧ Strs w w0.heap.size o acc ∧ acc ++ (slotsP a b (pos b u)).flatMap (fun x => keysAt d (1 - ts) x.1) = T ∧ u < 4294967296 ∧ (slotsP a b (pos b u)).foldl (fun _ x => x.2) 0 = F

/-- The model and the dict have the same tables and buckets. -/
structure Alike (d : Dm) (r : Rm) : Prop where
  a : r.a = d.t0.len
  b : r.b = (d.t1.map Tb.len).getD 0
  k : ∀ ti si, ti < 2 → si < tabLen d ti → r.bk ti si = keysAt d ti si

theorem wrap_nz {q : Nat} (h : ¬ q = 0) (h2 : q < 4294967296) : (wrap64 (q : Int) == 0) = false := by
  rw [beq_eq_false_iff_ne]; unfold wrap64; omega
theorem len0 (d : Dm) : tabLen d 0 = d.t0.len := rfl
theorem len1 (d : Dm) : tabLen d 1 = (d.t1.map Tb.len).getD 0 := rfl

set_option maxRecDepth 100000 in
set_option maxHeartbeats 4000000 in
theorem ScanR_any (d : Dm) (r : Rm) (c : Nat) (w : World) (base : Nat) (h : RmAt w base r) (hok : d.Ok) (hal : Alike d r) (hc : c < 4294967296) (hn : r.l.length ≤ 1000000) (hdn : d.n ≤ 1000000)
    (hsum : ∀ x ∈ r.l, x.sum < 4294967296) (hkey : ∀ x ∈ r.l, x.key.size ≤ 9223372036854775807) :
    Calls Try.prog 37 #[ptr r.blk, .int .u32 (c : Int)] w fun e w' => (∃ v, e = .returned (.tuple #[v, .int .u32 (scanC d c : Int)]) ∧ Strs w' w.heap.size v (scanL d c)) ∧ Chg (fun _ => False) w w' := by
  obtain ⟨c0, c1, c2, c3, c4, fr, hlt0⟩ := rm_cells h
  have hk := hal.k
  have hl0 : tabLen d 0 = r.a := by rw [hal.a]; rfl
  have hl1 : tabLen d 1 = r.b := by rw [hal.b]; rfl
  unfold ptr
  cases ht : d.t1 with
  | none =>
    obtain ⟨h1, h2, h3⟩ := scan_none hok ht
    have hb0 : r.b = 0 := by rw [hal.b, ht]; rfl
    have ha0 : r.a = 2 ^ scanA d := by rw [hal.a, h1]
    have hp : (2 : Nat) ^ scanA d ≤ 2 ^ 16 := pow_mono h3
    have hp1 : 1 ≤ 2 ^ scanA d := Nat.one_le_two_pow
    have hm := tmod_nat c r.a
    have hcm : c % r.a < r.a := Nat.mod_lt _ (by omega)
    have hbk := BucketR_0 r (c % r.a) w base h hcm (by omega) hn hsum hkey
    rw [hk 0 (c % r.a) (by omega) (by rw [hl0]; exact hcm)] at hbk
    have hL : scanL d c = keysAt d 0 (c % r.a) := by unfold scanL; rw [ht, ha0]
    have hC : scanC d c = nextD c (scanA d) := (nextD_curW (by omega) c).symm
    have hnx := fun W => nextR_any c (scanA d) (r.a : Int) W (by rw [ha0]) hc h3
    have hbb : ((r.b : Int) == 0) = true := by rw [hb0]; rfl
    have hbb2 : (r.b : Int) = 0 := by omega
    have hnz : ¬ (r.a : Int) = 0 := by omega
    rw [hL, hC]
    replace hb0 := Lib.hid hb0
    replace ha0 := Lib.hid ha0
    unfold ptr at hbk
    clear hL hC hk hl0 hl1
    go_enter Try.func37, Try.ntmps37
    go_wp2_with fail
    refine hbk.mono ?_
    rintro e1 w1 ⟨⟨v1, rfl, ho1⟩, hC1⟩
    obtain ⟨d0, d1, d2, d3, d4, dfr, dlt⟩ := rm_cells (h.chg0 hC1)
    clear hbk
    go_wp2_with fail
    refine (hnx _).mono ?_
    rintro e4 w4 ⟨rfl, rfl⟩
    go_wp2_with fail
    go_ret2
    exact ⟨⟨_, rfl, ho1⟩, hC1⟩
  | some t =>
    obtain ⟨g1, g2, g3, g4⟩ := scan_some hok ht
    obtain ⟨a, ha⟩ : ∃ a, a = scanA d := ⟨_, rfl⟩
    obtain ⟨b, hb⟩ : ∃ b, b = scanB d := ⟨_, rfl⟩
    have hL : scanL d c = keysAt d (scanT d) (c % 2 ^ a) ++ (slotsP a b (pos b c)).flatMap fun x => keysAt d (1 - scanT d) x.1 := by unfold scanL; rw [ht, ha, hb]
    have hS : scanC d c = curW a (pos a c + 1) := by rw [ha]; rfl
    rw [← ha, ← hb] at g4
    have hab : a ≤ b := by omega
    have hb16 : b ≤ 16 := by omega
    have hp : (2 : Nat) ^ b ≤ 2 ^ 16 := pow_mono hb16
    have hpa : (2 : Nat) ^ a ≤ 2 ^ b := pow_mono hab
    have hp1 : 1 ≤ 2 ^ a := Nat.one_le_two_pow
    have hp2 : (2 : Nat) ^ 16 = 65536 := rfl
    have hrb : r.b = t.len := by rw [hal.b, ht]; rfl
    have hra := hal.a
    rw [hS]
    obtain ⟨T, hT⟩ : ∃ T, scanL d c = T := ⟨_, rfl⟩
    have hTl : T.length ≤ 70000000000 := by
      rw [← hT, hL, List.length_append]
      have h1 := keysAt_len hok (scanT d) (c % 2 ^ a)
      have h2 := flatMap_len (f := fun x : Nat × Nat => keysAt d (1 - scanT d) x.1) (m := d.n) (fun x => keysAt_len hok _ _) (slotsP a b (pos b c))
      have h3 : (slotsP a b (pos b c)).length * d.n ≤ 65536 * 1000000 := Nat.mul_le_mul (Nat.le_trans (slotsP_length a b _) (by omega)) hdn
      omega
    rw [hT]
    rw [hT] at hL
    have hbb : ¬ (r.b : Int) = 0 := by
      rcases g4 with ⟨_, _, h⟩ | ⟨_, h, _⟩ <;> omega
    have hbb2 : ((r.b : Int) == 0) = false := by rw [beq_eq_false_iff_ne]; exact hbb
    rcases g4 with ⟨hts, e0, e1⟩ | ⟨hts, e1, e0, hlt⟩
    · rw [hts] at hL
      have hs2 : r.a = 2 ^ a := by rw [hra, e0]
      have hg2 : r.b = 2 ^ b := by rw [hrb, e1]
      rw [← hs2] at hL
      replace hT := Lib.hid hL
      clear hL hS ha hb g1 g2 g3 hts e0 e1 hra hrb
      have hs0 : 0 < r.a := by omega
      have hg0 : 0 < r.b := by omega
      have hsm6 : r.a ≤ 65536 := by omega
      have hgr6 : r.b ≤ 65536 := by omega
      have hbig := fun si (h : si < r.b) W (hW : RmAt W base r) => BucketR_1 r si W base hW h hgr6 hn hsum hkey
      have hsml := fun si (h : si < r.a) W (hW : RmAt W base r) => BucketR_0 r si W base hW h hsm6 hn hsum hkey
      have hm1 := tmod_nat c r.a
      have hm1' : c % r.a < r.a := Nat.mod_lt _ hs0
      have hk1 := hk 0 (c % r.a) (by omega) (by rw [hl0]; exact hm1')
      have hb1 : ((r.b : Int) < (r.a : Int)) = False := by simp only [eq_iff_iff, iff_false]; omega
      have hb2 : decide ((r.b : Int) < (r.a : Int)) = false := by rw [decide_eq_false_iff_not]; omega
      have hb3 : (r.b < r.a) = False := by simp only [eq_iff_iff, iff_false]; omega
      replace hs2 := Lib.hid hs2
      replace hg2 := Lib.hid hg2
      replace hl0 := Lib.hid hl0
      replace hl1 := Lib.hid hl1
      go_enter Try.func37, Try.ntmps37
      go_wp2_with fail
      go_quiet (fail)
      go_wp2_with fail
      have hbk := hsml (c % r.a) hm1' _ (h.chg0 ((Chg.refl _ w).drewN nq))
      unfold ptr at hbk
      refine hbk.mono ?_
      rintro e1 w1 ⟨⟨v1, rfl, ho1⟩, hC1⟩
      rw [hk1] at ho1
      have hCw := (Chg.refl (fun _ => False) w).drewN nq |>.trans hC1
      have ho1' : Strs w1 w.heap.size v1 _ := ho1
      clear hbk c0 c1 c2 c3 c4 fr hlt0 ho1 hC1
      go_wp2_with fail
      refine wp_loop_ghost (InvC w r d 0 r.a r.b a b T (curW a (pos a c + 1))) (slotsP a b (pos b c)).length ?_ ?_
      · exact ⟨c, v1, _, rfl, ⟨rfl, rfl, rfl, rfl, rfl, rfl, rfl, rfl⟩, hCw, ho1', hT.out.symm, hc, slotsP_last hab (by omega) c 0⟩
      · clear hCw ho1' hT
        rintro m ⟨tmps, ds⟩ W ⟨u, o, acc, rfl, ⟨hsz, t0, t1, t8, t9, t10, t11, rfl⟩, hC, ho, hacc, hu, hlast⟩
        replace hsz : tmps.size = 100 := hsz
        dsimp only at t0 t1 t8 t9 t10 t11
        revert t0 t1 t8 t9 t10 t11
        revert hsz
        revert tmps
        refine all100 ?_
        intro u0 u1 u2 u3 u4 u5 u6 u7 u8 u9 u10 u11 u12 u13 u14 u15 u16 u17 u18 u19 u20 u21 u22 u23 u24 u25 u26 u27 u28 u29 u30 u31 u32 u33 u34 u35 u36 u37 u38 u39 u40 u41 u42 u43 u44 u45 u46 u47 u48 u49 u50 u51 u52 u53 u54 u55 u56 u57 u58 u59 u60 u61 u62 u63 u64 u65 u66 u67 u68 u69 u70 u71 u72 u73 u74 u75 u76 u77 u78 u79 u80 u81 u82 u83 u84 u85 u86 u87 u88 u89 u90 u91 u92 u93 u94 u95 u96 u97 u98 u99 t0 t1 t8 t9 t10 t11
        simp only [ptr, List.getElem?_toArray, List.getElem?_cons_zero, List.getElem?_cons_succ, Option.some.injEq] at t0 t1 t8 t9 t10 t11
        subst t0 t1 t8 t9 t10 t11
        have hpu := pos_lt (b := b) (by omega) u
        have hmu := mod_cur (b := b) (c := u) (by omega) hu
        have hnd := nextD_curW (b := b) (by omega) u
        have hcw := curW_lt (b := b) (k := pos b u + 1) (by omega) hpu
        have hlow := low_curW (a := a) (b := b) (k := pos b u + 1) hab (by omega) hpu
        have hcons := slotsP_cons a b (pos b u)
        have hm2 := tmod_nat u r.b
        have hm2' : u % r.b < r.b := Nat.mod_lt _ hg0
        have hk2 := hk 1 (u % r.b) (by omega) (by rw [hl1.out]; exact hm2')
        obtain ⟨u', hu'⟩ : ∃ u', u' = curW b (pos b u + 1) := ⟨_, rfl⟩
        have hu32 : u' < 4294967296 := by rw [hu']; exact curW_lt32 _ _
        have hm3 := tmod_nat u' r.b
        have hmod3 : u' % r.b = u' := Nat.mod_eq_of_lt (by rw [hu', hg2.out]; exact hcw)
        rw [hmod3] at hm3
        have hm4 : (u' : Int).tdiv (r.a : Int) = ((u' / r.a : Nat) : Int) := by rw [Int.tdiv_eq_ediv_of_nonneg (by omega)]; rfl
        have hbk := hbig (u % r.b) hm2' _ (h.chg0 hC)
        unfold ptr at hbk
        have hnx := fun W => nextR_any u b (r.b : Int) W (by rw [hg2.out]) hu (by omega)
        rw [hnd, ← hu'] at hnx
        obtain ⟨x0, rest, hsl⟩ : ∃ x0 rest, slotsP a b (pos b u) = x0 :: rest := ⟨_, _, hcons⟩
        have hx0 : keysAt d 1 x0.1 = keysAt d 1 (u % r.b) := by
          have := hsl.symm.trans hcons
          injection this with h1 h2
          rw [h1, hg2.out, hmu]
        have haccl : acc.length + (keysAt d 1 (u % r.b)).length ≤ T.length := by
          rw [← hacc, hsl, List.flatMap_cons, List.length_append, List.length_append, hx0]; omega
        have hA1 : acc.length + (keysAt d 1 (u % r.b)).length ≤ maxLen := by unfold maxLen; omega
        have hB1 : (acc.length + (keysAt d 1 (u % r.b)).length) * 16 ≤ 140737488355328 := by omega
        obtain ⟨j0, hj0, hy0, hy1, hy2⟩ := info_parts str_info
        have hWW := hC.size
        rw [hk2] at hbk
        have hsz1 : ¬ (r.a : Int) = 0 := by omega
        have hsz2 : ¬ (r.b : Int) = 0 := by omega
        replace hmod3 := Lib.hid hmod3
        replace hu' := Lib.hid hu'
        replace hlow := Lib.hid hlow
        replace hcons := Lib.hid hcons
        replace hsl := Lib.hid hsl
        replace hacc := Lib.hid hacc
        replace hlast := Lib.hid hlast
        replace hx0 := Lib.hid hx0
        clear hnd hcw hk2 hmu
        go_wp2_with fail
        refine hbk.mono ?_
        rintro e2 w2 ⟨⟨v2, rfl, ho2⟩, hC2⟩
        have ho3 := ho.chg hC2 fun _ _ => id
        obtain ⟨p2, q2, rfl, _, _, _⟩ := ho2.is
        clear hbk
        go_wp2_with (at_builtin; refine wpList_append_any _ rfl (.tmp 85) (.tmp 86) 38 rfl w.heap.size 9 j0 _ 1 16 Try.underlying38 hj0 hy0 hy1 hy2 rfl (by omega) _ _ _ rfl ho3.own w2.heap.size _ _ _ _ rfl ho2.reads (strs_one _) hA1 hB1 (Nat.le_trans hWW hC2.size) ?_; intro v3 w3 hown3 hg3 hat3)
        refine (hnx _).mono ?_
        rintro e4 w4 ⟨rfl, rfl⟩
        have hC3 : Chg (fun _ => False) w w3 := (hC.trans hC2).trans' (Chg.of_grown hg3 (fun g h => h)) (fun g hl h' => by have := (ho3.lt g h').1; omega)
        have ho4 : Strs w3 w.heap.size v3 (acc ++ keysAt d 1 (u % r.b)) := Strs.mk hown3 (by simp) (by simp)
        by_cases hstop : (pos b u + 1) % 2 ^ (b - a) = 0
        · have hz : u' / r.a = 0 := Nat.div_eq_of_lt (by rw [hu'.out, hs2.out]; exact hlow.out.2 hstop)
          have hz1 : (((u' / r.a : Nat) : Int) == 0) = true := by rw [hz]; rfl
          have hz2 : ((u' / r.a : Nat) : Int) = 0 := by omega
          have hfin : acc ++ keysAt d 1 (u % r.b) = T ∧ curW a (pos a c + 1) = u' := by
            have h1 := hacc.out
            have h2 := hlast.out
            rw [hcons.out, if_pos hstop] at h1 h2
            have h3 := hx0.out
            have h4 := hsl.out.symm.trans hcons.out
            injection h4 with h4 h5
            rw [h4] at h3
            dsimp only at h3
            rw [List.flatMap_cons, List.flatMap_nil, List.append_nil, h3] at h1
            exact ⟨h1, by rw [hu'.out]; exact h2.symm⟩
          replace hz := Lib.hid hz
          replace hfin := Lib.hid hfin
          clear hnx
          go_wp2_with fail
          go_ret2
          exact ⟨⟨_, by rw [hfin.out.2]; rfl, by rw [← hfin.out.1]; exact ho4⟩, hC3⟩
        · have hk3 : pos b u + 1 < 2 ^ b := by
            rcases Nat.lt_or_ge (pos b u + 1) (2 ^ b) with h' | h'
            · exact h'
            · exfalso; apply hstop
              rw [show pos b u + 1 = 2 ^ b by omega, pow_up hab, Nat.mul_mod_left]
          have hp3 : pos b u' = pos b u + 1 := by rw [hu'.out]; exact pos_curW (by omega) hk3
          have hnz : ¬ u' / r.a = 0 := fun e => hstop (hlow.out.1 (by rw [← hu'.out, ← hs2.out]; rcases Nat.lt_or_ge u' r.a with h' | h'; exact h'; have := Nat.div_pos h' hs0; omega))
          have hge : ¬ u' < r.a := fun e => hnz (Nat.div_eq_of_lt e)
          have hge2 : (u' < r.a) = False := by simp only [eq_iff_iff, iff_false]; exact hge
          have hge3 : ¬ r.a = 0 := by omega
          have hz1 : (((u' / r.a : Nat) : Int) == 0) = false := by rw [beq_eq_false_iff_ne]; omega
          have hz2 : ¬ ((u' / r.a : Nat) : Int) = 0 := by omega
          have hrec : slotsP a b (pos b u) = x0 :: slotsP a b (pos b u') := by
            have h4 := hsl.out.symm.trans hcons.out
            rw [if_neg hstop] at h4
            injection h4 with h4 h5
            rw [hsl.out, h5, hp3]
          have hrl : (slotsP a b (pos b u')).length < (slotsP a b (pos b u)).length := by rw [hrec]; simp
          have h1 := hacc.out
          have h2 := hlast.out
          rw [hrec] at h1 h2
          rw [List.flatMap_cons, hx0.out, ← List.append_assoc] at h1
          have h2' : (slotsP a b (pos b u')).foldl (fun _ x => x.2) 0 = curW a (pos a c + 1) := by
            rw [List.foldl_cons] at h2
            rw [← h2]
            obtain ⟨y, l, hyl⟩ : ∃ y l, slotsP a b (pos b u') = y :: l := ⟨_, _, slotsP_cons a b (pos b u')⟩
            rw [hyl]; rfl
          replace hnz := Lib.hid hnz
          replace hrec := Lib.hid hrec
          replace hrl := Lib.hid hrl
          replace h1 := Lib.hid h1
          replace h2' := Lib.hid h2'
          have hq : (wrap64 ((u' : Int) / (r.a : Int)) == 0) = false := by
            have hle := Nat.div_le_self u' r.a
            rw [show (u' : Int) / (r.a : Int) = ((u' / r.a : Nat) : Int) from rfl]
            exact wrap_nz hnz.out (Nat.lt_of_le_of_lt hle hu32)
          clear hp3 hk3 hnx h2
          go_wp2_with fail
          exact ⟨_, hrl.out, u', v3, _, rfl, ⟨rfl, rfl, rfl, rfl, rfl, rfl, rfl, rfl⟩, hC3, ho4, h1.out, hu32, h2'.out⟩
    · rw [hts] at hL
      have hs2 : r.b = 2 ^ a := by rw [hrb, e1]
      have hg2 : r.a = 2 ^ b := by rw [hra, e0]
      rw [← hs2] at hL
      have hlt' : r.b < r.a := by rw [hrb, hra]; exact hlt
      replace hT := Lib.hid hL
      clear hL hS ha hb g1 g2 g3 hts e0 e1 hra hrb hlt
      have hs0 : 0 < r.b := by omega
      have hg0 : 0 < r.a := by omega
      have hsm6 : r.b ≤ 65536 := by omega
      have hgr6 : r.a ≤ 65536 := by omega
      have hbig := fun si (h : si < r.a) W (hW : RmAt W base r) => BucketR_0 r si W base hW h hgr6 hn hsum hkey
      have hsml := fun si (h : si < r.b) W (hW : RmAt W base r) => BucketR_1 r si W base hW h hsm6 hn hsum hkey
      have hm1 := tmod_nat c r.b
      have hm1' : c % r.b < r.b := Nat.mod_lt _ hs0
      have hk1 := hk 1 (c % r.b) (by omega) (by rw [hl1]; exact hm1')
      have hb1 : (r.b : Int) < (r.a : Int) := by omega
      replace hs2 := Lib.hid hs2
      replace hg2 := Lib.hid hg2
      replace hl0 := Lib.hid hl0
      replace hl1 := Lib.hid hl1
      go_enter Try.func37, Try.ntmps37
      go_wp2_with fail
      go_quiet (fail)
      go_wp2_with fail
      have hbk := hsml (c % r.b) hm1' _ (h.chg0 ((Chg.refl _ w).drewN nq))
      unfold ptr at hbk
      refine hbk.mono ?_
      rintro e1 w1 ⟨⟨v1, rfl, ho1⟩, hC1⟩
      rw [hk1] at ho1
      have hCw := (Chg.refl (fun _ => False) w).drewN nq |>.trans hC1
      have ho1' : Strs w1 w.heap.size v1 _ := ho1
      clear hbk c0 c1 c2 c3 c4 fr hlt0 ho1 hC1
      go_wp2_with fail
      refine wp_loop_ghost (InvC w r d 1 r.b r.a a b T (curW a (pos a c + 1))) (slotsP a b (pos b c)).length ?_ ?_
      · exact ⟨c, v1, _, rfl, ⟨rfl, rfl, rfl, rfl, rfl, rfl, rfl, rfl⟩, hCw, ho1', hT.out.symm, hc, slotsP_last hab (by omega) c 0⟩
      · clear hCw ho1' hT
        rintro m ⟨tmps, ds⟩ W ⟨u, o, acc, rfl, ⟨hsz, t0, t1, t8, t9, t10, t11, rfl⟩, hC, ho, hacc, hu, hlast⟩
        replace hsz : tmps.size = 100 := hsz
        dsimp only at t0 t1 t8 t9 t10 t11
        revert t0 t1 t8 t9 t10 t11
        revert hsz
        revert tmps
        refine all100 ?_
        intro u0 u1 u2 u3 u4 u5 u6 u7 u8 u9 u10 u11 u12 u13 u14 u15 u16 u17 u18 u19 u20 u21 u22 u23 u24 u25 u26 u27 u28 u29 u30 u31 u32 u33 u34 u35 u36 u37 u38 u39 u40 u41 u42 u43 u44 u45 u46 u47 u48 u49 u50 u51 u52 u53 u54 u55 u56 u57 u58 u59 u60 u61 u62 u63 u64 u65 u66 u67 u68 u69 u70 u71 u72 u73 u74 u75 u76 u77 u78 u79 u80 u81 u82 u83 u84 u85 u86 u87 u88 u89 u90 u91 u92 u93 u94 u95 u96 u97 u98 u99 t0 t1 t8 t9 t10 t11
        simp only [ptr, List.getElem?_toArray, List.getElem?_cons_zero, List.getElem?_cons_succ, Option.some.injEq] at t0 t1 t8 t9 t10 t11
        subst t0 t1 t8 t9 t10 t11
        have hpu := pos_lt (b := b) (by omega) u
        have hmu := mod_cur (b := b) (c := u) (by omega) hu
        have hnd := nextD_curW (b := b) (by omega) u
        have hcw := curW_lt (b := b) (k := pos b u + 1) (by omega) hpu
        have hlow := low_curW (a := a) (b := b) (k := pos b u + 1) hab (by omega) hpu
        have hcons := slotsP_cons a b (pos b u)
        have hm2 := tmod_nat u r.a
        have hm2' : u % r.a < r.a := Nat.mod_lt _ hg0
        have hk2 := hk 0 (u % r.a) (by omega) (by rw [hl0.out]; exact hm2')
        obtain ⟨u', hu'⟩ : ∃ u', u' = curW b (pos b u + 1) := ⟨_, rfl⟩
        have hu32 : u' < 4294967296 := by rw [hu']; exact curW_lt32 _ _
        have hm3 := tmod_nat u' r.a
        have hmod3 : u' % r.a = u' := Nat.mod_eq_of_lt (by rw [hu', hg2.out]; exact hcw)
        rw [hmod3] at hm3
        have hm4 : (u' : Int).tdiv (r.b : Int) = ((u' / r.b : Nat) : Int) := by rw [Int.tdiv_eq_ediv_of_nonneg (by omega)]; rfl
        have hbk := hbig (u % r.a) hm2' _ (h.chg0 hC)
        unfold ptr at hbk
        have hnx := fun W => nextR_any u b (r.a : Int) W (by rw [hg2.out]) hu (by omega)
        rw [hnd, ← hu'] at hnx
        obtain ⟨x0, rest, hsl⟩ : ∃ x0 rest, slotsP a b (pos b u) = x0 :: rest := ⟨_, _, hcons⟩
        have hx0 : keysAt d 0 x0.1 = keysAt d 0 (u % r.a) := by
          have := hsl.symm.trans hcons
          injection this with h1 h2
          rw [h1, hg2.out, hmu]
        have haccl : acc.length + (keysAt d 0 (u % r.a)).length ≤ T.length := by
          rw [← hacc, hsl, List.flatMap_cons, List.length_append, List.length_append, hx0]; omega
        have hA1 : acc.length + (keysAt d 0 (u % r.a)).length ≤ maxLen := by unfold maxLen; omega
        have hB1 : (acc.length + (keysAt d 0 (u % r.a)).length) * 16 ≤ 140737488355328 := by omega
        obtain ⟨j0, hj0, hy0, hy1, hy2⟩ := info_parts str_info
        have hWW := hC.size
        rw [hk2] at hbk
        have hsz1 : ¬ (r.b : Int) = 0 := by omega
        have hsz2 : ¬ (r.a : Int) = 0 := by omega
        replace hmod3 := Lib.hid hmod3
        replace hu' := Lib.hid hu'
        replace hlow := Lib.hid hlow
        replace hcons := Lib.hid hcons
        replace hsl := Lib.hid hsl
        replace hacc := Lib.hid hacc
        replace hlast := Lib.hid hlast
        replace hx0 := Lib.hid hx0
        clear hnd hcw hk2 hmu
        go_wp2_with fail
        refine hbk.mono ?_
        rintro e2 w2 ⟨⟨v2, rfl, ho2⟩, hC2⟩
        have ho3 := ho.chg hC2 fun _ _ => id
        obtain ⟨p2, q2, rfl, _, _, _⟩ := ho2.is
        clear hbk
        go_wp2_with (at_builtin; refine wpList_append_any _ rfl (.tmp 85) (.tmp 86) 38 rfl w.heap.size 9 j0 _ 1 16 Try.underlying38 hj0 hy0 hy1 hy2 rfl (by omega) _ _ _ rfl ho3.own w2.heap.size _ _ _ _ rfl ho2.reads (strs_one _) hA1 hB1 (Nat.le_trans hWW hC2.size) ?_; intro v3 w3 hown3 hg3 hat3)
        refine (hnx _).mono ?_
        rintro e4 w4 ⟨rfl, rfl⟩
        have hC3 : Chg (fun _ => False) w w3 := (hC.trans hC2).trans' (Chg.of_grown hg3 (fun g h => h)) (fun g hl h' => by have := (ho3.lt g h').1; omega)
        have ho4 : Strs w3 w.heap.size v3 (acc ++ keysAt d 0 (u % r.a)) := Strs.mk hown3 (by simp) (by simp)
        by_cases hstop : (pos b u + 1) % 2 ^ (b - a) = 0
        · have hz : u' / r.b = 0 := Nat.div_eq_of_lt (by rw [hu'.out, hs2.out]; exact hlow.out.2 hstop)
          have hz1 : (((u' / r.b : Nat) : Int) == 0) = true := by rw [hz]; rfl
          have hz2 : ((u' / r.b : Nat) : Int) = 0 := by omega
          have hfin : acc ++ keysAt d 0 (u % r.a) = T ∧ curW a (pos a c + 1) = u' := by
            have h1 := hacc.out
            have h2 := hlast.out
            rw [hcons.out, if_pos hstop] at h1 h2
            have h3 := hx0.out
            have h4 := hsl.out.symm.trans hcons.out
            injection h4 with h4 h5
            rw [h4] at h3
            dsimp only at h3
            rw [List.flatMap_cons, List.flatMap_nil, List.append_nil, h3] at h1
            exact ⟨h1, by rw [hu'.out]; exact h2.symm⟩
          replace hz := Lib.hid hz
          replace hfin := Lib.hid hfin
          clear hnx
          go_wp2_with fail
          go_ret2
          exact ⟨⟨_, by rw [hfin.out.2]; rfl, by rw [← hfin.out.1]; exact ho4⟩, hC3⟩
        · have hk3 : pos b u + 1 < 2 ^ b := by
            rcases Nat.lt_or_ge (pos b u + 1) (2 ^ b) with h' | h'
            · exact h'
            · exfalso; apply hstop
              rw [show pos b u + 1 = 2 ^ b by omega, pow_up hab, Nat.mul_mod_left]
          have hp3 : pos b u' = pos b u + 1 := by rw [hu'.out]; exact pos_curW (by omega) hk3
          have hnz : ¬ u' / r.b = 0 := fun e => hstop (hlow.out.1 (by rw [← hu'.out, ← hs2.out]; rcases Nat.lt_or_ge u' r.b with h' | h'; exact h'; have := Nat.div_pos h' hs0; omega))
          have hge : ¬ u' < r.b := fun e => hnz (Nat.div_eq_of_lt e)
          have hge2 : (u' < r.b) = False := by simp only [eq_iff_iff, iff_false]; exact hge
          have hge3 : ¬ r.b = 0 := by omega
          have hz1 : (((u' / r.b : Nat) : Int) == 0) = false := by rw [beq_eq_false_iff_ne]; omega
          have hz2 : ¬ ((u' / r.b : Nat) : Int) = 0 := by omega
          have hrec : slotsP a b (pos b u) = x0 :: slotsP a b (pos b u') := by
            have h4 := hsl.out.symm.trans hcons.out
            rw [if_neg hstop] at h4
            injection h4 with h4 h5
            rw [hsl.out, h5, hp3]
          have hrl : (slotsP a b (pos b u')).length < (slotsP a b (pos b u)).length := by rw [hrec]; simp
          have h1 := hacc.out
          have h2 := hlast.out
          rw [hrec] at h1 h2
          rw [List.flatMap_cons, hx0.out, ← List.append_assoc] at h1
          have h2' : (slotsP a b (pos b u')).foldl (fun _ x => x.2) 0 = curW a (pos a c + 1) := by
            rw [List.foldl_cons] at h2
            rw [← h2]
            obtain ⟨y, l, hyl⟩ : ∃ y l, slotsP a b (pos b u') = y :: l := ⟨_, _, slotsP_cons a b (pos b u')⟩
            rw [hyl]; rfl
          replace hnz := Lib.hid hnz
          replace hrec := Lib.hid hrec
          replace hrl := Lib.hid hrl
          replace h1 := Lib.hid h1
          replace h2' := Lib.hid h2'
          have hq : (wrap64 ((u' : Int) / (r.b : Int)) == 0) = false := by
            have hle := Nat.div_le_self u' r.b
            rw [show (u' : Int) / (r.b : Int) = ((u' / r.b : Nat) : Int) from rfl]
            exact wrap_nz hnz.out (Nat.lt_of_le_of_lt hle hu32)
          clear hp3 hk3 hnx h2
          go_wp2_with fail
          exact ⟨_, hrl.out, u', v3, _, rfl, ⟨rfl, rfl, rfl, rfl, rfl, rfl, rfl, rfl⟩, hC3, ho4, h1.out, hu32, h2'.out⟩

end Go.Proofs.Ythbjjjcppijcbaa

/- A dict of one's own: nobody else's blocks. -/
namespace Go.Proofs.Ythbjjjcppijcbaa.Dint
open Go.RowKit Pal

/-- The dict lies in blocks that are newer than n. -/
structure Mine (n : Nat) (w : World) (d : Dm) : Prop where
  dm : DmAt w d
  ok : d.Ok
  new : ∀ g, d.foot g → n ≤ g

theorem Mine.nx {n : Nat} {w w' : World} {d d' : Dm} (h : Mine n w d) (hn : n ≤ w.heap.size) (x : Nx d d' w w') : Mine n w' d' :=
  ⟨x.dm, x.ok, fun g hg => (x.foot g hg).elim (h.new g) fun h' => Nat.le_trans hn h'⟩
theorem Mine.chg {n : Nat} {w w' : World} {d : Dm} {S : Nat → Prop} (h : Mine n w d) (hc : Chg S w w') (hs : ∀ g, d.foot g → ¬ S g) : Mine n w' d := ⟨h.dm.chg hc hs, h.ok, h.new⟩
theorem Mine.chg0 {n : Nat} {w w' : World} {d : Dm} (h : Mine n w d) (hc : Chg (fun _ => False) w w') : Mine n w' d := ⟨h.dm.chg0 hc, h.ok, h.new⟩
theorem Mine.lt {n : Nat} {w : World} {d : Dm} (h : Mine n w d) {g : Nat} (hg : d.foot g) : g < w.heap.size := h.dm.lt hg
/-- What lay before the dict stays. -/
theorem Mine.old {n : Nat} {w0 w w' : World} {d d' : Dm} (h : Mine n w d) (hn : w0.heap.size = n) (hc : Chg (fun _ => False) w0 w) (x : Nx d d' w w') : Chg (fun _ => False) w0 w' :=
  hc.trans' x.chg fun g hg h' => absurd (h.new g h') (by omega)

end Go.Proofs.Ythbjjjcppijcbaa.Dint

/- Two dicts beside each other. -/
namespace Go.Proofs.Ythbjjjcppijcbaa.Dint
open Go.RowKit Pal

structure One (w0 W : World) (bd : Nat) (d : Dm) : Prop where
  md : Mine w0.heap.size W d
  bd : d.blk = bd
  chg : Chg (fun _ => False) w0 W
section
variable {w0 W W' : World} {bd : Nat} {d d' : Dm}
theorem One.chg0 (h : One w0 W bd d) (hc : Chg (fun _ => False) W W') : One w0 W' bd d := ⟨h.md.chg0 hc, h.bd, h.chg.trans hc⟩
theorem One.nx (h : One w0 W bd d) (x : Nx d d' W W') : One w0 W' bd d' := ⟨h.md.nx h.chg.size x, x.blk.trans h.bd, h.md.old rfl h.chg x⟩
end
structure Two (n0 : Nat) (w0 W : World) (bd be : Nat) (d e : Dm) : Prop where
  md : Mine n0 W d
  me : Mine n0 W e
  apart : ∀ g, d.foot g → ¬ e.foot g
  bd : d.blk = bd
  be : e.blk = be
  chg : Chg (fun _ => False) w0 W
  n0 : w0.heap.size = n0
/-- .. and a block that is nobody's. -/
structure TwoB (n0 : Nat) (w0 W : World) (bd be : Nat) (d e : Dm) (B : Nat) (t : TypeId) (cs : Array Value) : Prop extends Two n0 w0 W bd be d e where
  blk : Blk W B t cs
  fd : ¬ d.foot B
  fe : ¬ e.foot B

section
variable {n0 : Nat} {w0 W W' : World} {bd be B : Nat} {d e d' e' : Dm} {t : TypeId} {cs : Array Value}
theorem Two.chg0 (h : Two n0 w0 W bd be d e) (hc : Chg (fun _ => False) W W') : Two n0 w0 W' bd be d e :=
  ⟨h.md.chg0 hc, h.me.chg0 hc, h.apart, h.bd, h.be, h.chg.trans hc, h.n0⟩
theorem Two.left (h : Two n0 w0 W bd be d e) (x : Nx d d' W W') : Two n0 w0 W' bd be d' e :=
  ⟨h.md.nx (by rw [← h.n0]; exact h.chg.size) x, h.me.chg x.chg fun g hg hd => h.apart g hd hg, fun g hg he => (x.foot g hg).elim (fun h1 => h.apart g h1 he) fun h2 => absurd (h.me.lt he) (by omega), x.blk.trans h.bd, h.be, h.md.old h.n0 h.chg x, h.n0⟩
theorem Two.right (h : Two n0 w0 W bd be d e) (x : Nx e e' W W') : Two n0 w0 W' bd be d e' :=
  ⟨h.md.chg x.chg fun g hg he => h.apart g hg he, h.me.nx (by rw [← h.n0]; exact h.chg.size) x, fun g hg he => (x.foot g he).elim (fun h1 => h.apart g hg h1) fun h2 => absurd (h.md.lt hg) (by omega), h.bd, x.blk.trans h.be, h.me.old h.n0 h.chg x, h.n0⟩
theorem Two.box (h : Two n0 w0 W bd be d e) (t : TypeId) (cs : Array Value) : TwoB n0 w0 (W.alloc (.cells cs t)) bd be d e W.heap.size t cs :=
  { h.chg0 ((Chg.refl _ W).alloc _) with blk := Blk.new W t cs, fd := fun hf => Nat.lt_irrefl _ (h.md.lt hf), fe := fun hf => Nat.lt_irrefl _ (h.me.lt hf) }
theorem TwoB.chgB (h : TwoB n0 w0 W bd be d e B t cs) (hc : Chg (fun _ => False) W W') : TwoB n0 w0 W' bd be d e B t cs :=
  { h.toTwo.chg0 hc with blk := h.blk.chg hc id, fd := h.fd, fe := h.fe }
theorem TwoB.leftB (h : TwoB n0 w0 W bd be d e B t cs) (x : Nx d d' W W') : TwoB n0 w0 W' bd be d' e B t cs :=
  { h.toTwo.left x with blk := h.blk.chg x.chg h.fd, fd := fun h' => (x.foot B h').elim h.fd fun h2 => absurd h.blk.lt (by omega), fe := h.fe }
theorem TwoB.rightB (h : TwoB n0 w0 W bd be d e B t cs) (x : Nx e e' W W') : TwoB n0 w0 W' bd be d e' B t cs :=
  { h.toTwo.right x with blk := h.blk.chg x.chg h.fe, fd := h.fd, fe := fun h' => (x.foot B h').elim h.fe fun h2 => absurd h.blk.lt (by omega) }
end

end Go.Proofs.Ythbjjjcppijcbaa.Dint

/- The acts of dicts, told for one dict of one's own. -/
namespace Go.Proofs.Ythbjjjcppijcbaa.Dint
open Go.RowKit Pal

def Stays (d d' : Dm) : Prop := (∀ k, d'.look k = d.look k) ∧ d'.n = d.n
def Puts (key : ByteArray) (v : Value) (d d' : Dm) : Prop := (∀ k, d'.look k = if k = key then some v else d.look k) ∧ d'.n = if (d.look key).isNone then d.n + 1 else d.n
def Cuts (key : ByteArray) (d d' : Dm) : Prop := (∀ k, d'.look k = if k = key then none else d.look k) ∧ d'.n = if (d.look key).isSome then d.n - 1 else d.n

section
variable {w0 W : World} {bd : Nat} {d : Dm}
theorem set_1 (h : One w0 W bd d) (key : ByteArray) (v : Value) (hk : key.size ≤ 9223372036854775807) (hv : VOk v) (hn : d.n ≤ 100000) :
    Calls Try.prog 17 #[.pointer (some ⟨bd, 0, none⟩), .string key, v] W fun r W' => r = .returned (.bool (d.look key).isNone) ∧ ∃ d', One w0 W' bd d' ∧ Nx d d' W W' ∧ Puts key v d d' ∧ shape d' = if (d.look key).isNone then growS (stepS (shape d) 1) d.n else stepS (shape d) 1 := by
  have := Set_i d key v W h.md.dm h.md.ok hk hv (by omega)
  rw [h.bd] at this
  exact this.mono fun r W' ⟨h1, d', h2, h3, h4, h5⟩ => ⟨h1, d', h.nx h2, h2, ⟨h3, h4⟩, h5⟩
theorem get_1 (h : One w0 W bd d) (key : ByteArray) (hk : key.size ≤ 9223372036854775807) :
    Calls Try.prog 18 #[.pointer (some ⟨bd, 0, none⟩), .string key] W fun r W' => r = .returned (.tuple #[(d.look key).getD (.int .i64 0), .bool (d.look key).isSome]) ∧ ∃ d', One w0 W' bd d' ∧ Nx d d' W W' ∧ Stays d d' ∧ shape d' = stepS (shape d) 1 := by
  have := Get_i d key W h.md.dm h.md.ok hk
  rw [h.bd] at this
  exact this.mono fun r W' ⟨h1, d', h2, h3, h4, h5⟩ => ⟨h1, d', h.nx h2, h2, ⟨h3, h4⟩, h5⟩
theorem del_1 (h : One w0 W bd d) (key : ByteArray) (hk : key.size ≤ 9223372036854775807) (hn : d.n ≤ 100000) :
    Calls Try.prog 19 #[.pointer (some ⟨bd, 0, none⟩), .string key] W fun r W' => r = .returned (.bool (d.look key).isSome) ∧ ∃ d', One w0 W' bd d' ∧ Nx d d' W W' ∧ Cuts key d d' ∧ shape d' = if (d.look key).isSome then shrinkS (stepS (shape d) 1) (d.n - 1) else stepS (shape d) 1 := by
  have := Delete_i d key W h.md.dm h.md.ok hk (by omega)
  rw [h.bd] at this
  exact this.mono fun r W' ⟨h1, d', h2, h3, h4, h5⟩ => ⟨h1, d', h.nx h2, h2, ⟨h3, h4⟩, h5⟩
theorem step_1 (h : One w0 W bd d) (n : Int) :
    Calls Try.prog 20 #[.pointer (some ⟨bd, 0, none⟩), .int .i64 n] W fun r W' => r = .returned (.int .i64 (stepN (shape d) n : Int)) ∧ ∃ d', One w0 W' bd d' ∧ Nx d d' W W' ∧ Stays d d' ∧ shape d' = stepS (shape d) n := by
  have := Step_i d n W h.md.dm h.md.ok
  rw [h.bd] at this
  exact this.mono fun r W' ⟨h1, d', h2, h3, h4, h5⟩ => ⟨h1, d', h.nx h2, h2, ⟨h3, h4⟩, h5⟩

-- Try.func21
theorem len_1 (h : One w0 W bd d) : Calls Try.prog 21 #[.pointer (some ⟨bd, 0, none⟩)] W fun r W' => r = .returned (.int .i64 (d.n : Int)) ∧ W = W' := by
  have := len_any d W h.md.dm
  rw [h.bd] at this
  exact this

-- Try.func26
theorem sizes_1 (h : One w0 W bd d) : Calls Try.prog 26 #[.pointer (some ⟨bd, 0, none⟩)] W fun r W' => r = .returned (.tuple #[.int .i64 ((shape d).1 : Int), .int .i64 (((shape d).2.1.getD 0 : Nat) : Int), .int .i64 ((shape d).2.2 : Int)]) ∧ One w0 W' bd d ∧ Chg (fun _ => False) W W' := by
  have := Sizes_i d W h.md.dm
  rw [h.bd] at this
  exact this.mono fun r W' ⟨h1, h2⟩ => ⟨h1, h.chg0 h2, h2⟩

theorem new_1 {w0 W : World} (hc : Chg (fun _ => False) w0 W) (seed : Nat) (hs : seed < 4294967296) :
    Calls Try.prog 15 #[.int .u32 (seed : Int)] W fun e W' => ∃ bd d, e = .returned (.pointer (some ⟨bd, 0, none⟩)) ∧ One w0 W' bd d ∧ d.n = 0 ∧ (∀ k, d.look k = none) ∧ shape d = (4, none, 0) ∧ (∀ g, d.foot g → W.heap.size ≤ g) ∧ Chg (fun _ => False) W W' :=
  (New_i seed hs W).mono fun e W' ⟨d, h1, h2, h3, _, h4, h5, h6, h7, h8⟩ => ⟨d.blk, d, h1, ⟨⟨h2, h3, fun g hg => Nat.le_trans hc.size (h7 g hg)⟩, rfl, hc.trans h8⟩, h4, h5, h6, h7, h8⟩
end

end Go.Proofs.Ythbjjjcppijcbaa.Dint

/- Set, Delete, Step of a dict of one's own, with the table that each key stands in. -/
namespace Go.Proofs.Ythbjjjcppijcbaa.Dint
open Go.RowKit Pal

theorem Set_p (d : Dm) (key : ByteArray) (v : Value) (w : World) (h : DmAt w d) (hok : d.Ok) (hk : key.size ≤ 9223372036854775807) (hv : VOk v) (hn : d.n < 1152921504606846976) :
    Calls Try.prog 17 #[ptr d.blk, .string key, v] w fun e w' => e = .returned (.bool (d.look key).isNone) ∧ ∃ d', Nx d d' w w' ∧ Puts key v d d' ∧ shape d' = (if (d.look key).isNone then growS (stepS (shape d) 1) d.n else stepS (shape d) 1) ∧
      ∀ k, d'.in1 k ↔ (stepD d 1).in1 k ∨ (k = key ∧ d'.t1.isSome = true ∧ d.look key = none) := by
  refine (Set_any d key v w h hok hk hv hn).mono ?_
  rintro e w' ⟨d', ⟨h1, h2, h3, h4, h5, h6, hp, h7⟩⟩
  have hnx : Nx d d' w w' := ⟨h1, h2, h3, h4, h5, h6⟩
  have hp' : ∀ k, d'.in1 k ↔ (stepD d 1).in1 k ∨ (k = key ∧ d'.t1.isSome = true ∧ d.look key = none) := fun k => by
    rw [hp k, look_none]
  rw [stepD_shape hok 1] at h7
  rcases h7 with ⟨rfl, ⟨x, r, g1, rfl, g3⟩, g4⟩ | ⟨rfl, hno, ⟨x, rfl, rfl, g3⟩, g4⟩
  · have hx := look_of hok.keys (g1.mem_iff.2 (List.mem_cons_self) : x ∈ d.nodes)
    rw [hx] at hp' ⊢
    refine ⟨rfl, d', hnx, ⟨look_put hok.keys h2.keys g1 g3, ?_⟩, g4, hp'⟩
    rw [h2.count, hok.count, g1.length_eq, g3.length_eq, hx]; rfl
  · rw [look_none.2 hno] at hp' ⊢
    refine ⟨rfl, d', hnx, ⟨look_new hok.keys h2.keys g3, ?_⟩, g4, hp'⟩
    rw [h2.count, hok.count, g3.length_eq, look_none.2 hno]; rfl
theorem Delete_p (d : Dm) (key : ByteArray) (w : World) (h : DmAt w d) (hok : d.Ok) (hk : key.size ≤ 9223372036854775807) (hn : d.n < 1152921504606846976) :
    Calls Try.prog 19 #[ptr d.blk, .string key] w fun e w' => e = .returned (.bool (d.look key).isSome) ∧ ∃ d', Nx d d' w w' ∧ Cuts key d d' ∧ shape d' = (if (d.look key).isSome then shrinkS (stepS (shape d) 1) (d.n - 1) else stepS (shape d) 1) ∧
      ∀ k, d'.in1 k ↔ (stepD d 1).in1 k ∧ k ≠ key := by
  refine (Delete_any d key w h hok hk hn).mono ?_
  rintro e w' ⟨d', ⟨h1, h2, h3, h4, h5, h6, hp, h7⟩⟩
  have hnx : Nx d d' w w' := ⟨h1, h2, h3, h4, h5, h6⟩
  rw [stepD_shape hok 1] at h7
  rcases h7 with ⟨rfl, hno, g3, g4⟩ | ⟨rfl, ⟨x, rfl, g1⟩, g4⟩
  · have hl := look_none.2 hno
    rw [hl]
    refine ⟨rfl, d', hnx, ⟨fun k => ?_, ?_⟩, g4, hp⟩
    · rw [look_perm hok.keys g3]
      split
      · rename_i e; rw [e]; exact hl
      · rfl
    · rw [h2.count, hok.count, g3.length_eq, hl]; rfl
  · have hx := look_of hok.keys (g1.mem_iff.2 (List.mem_cons_self) : x ∈ d.nodes)
    have hdn : d'.n = d.n - 1 := by rw [h2.count, hok.count, g1.length_eq]; rfl
    rw [hx]
    refine ⟨rfl, d', hnx, ⟨look_del hok.keys g1, by rw [hx]; exact hdn⟩, ?_, hp⟩
    rw [g4, hdn]; rfl
section
variable {w0 W : World} {bd : Nat} {d : Dm}
theorem set_p (h : One w0 W bd d) (key : ByteArray) (v : Value) (hk : key.size ≤ 9223372036854775807) (hv : VOk v) (hn : d.n ≤ 100000) :
    Calls Try.prog 17 #[.pointer (some ⟨bd, 0, none⟩), .string key, v] W fun r W' => r = .returned (.bool (d.look key).isNone) ∧ ∃ d', One w0 W' bd d' ∧ Nx d d' W W' ∧ Puts key v d d' ∧ shape d' = (if (d.look key).isNone then growS (stepS (shape d) 1) d.n else stepS (shape d) 1) ∧
      ∀ k, d'.in1 k ↔ (stepD d 1).in1 k ∨ (k = key ∧ d'.t1.isSome = true ∧ d.look key = none) := by
  have := Set_p d key v W h.md.dm h.md.ok hk hv (by omega)
  rw [h.bd] at this
  exact this.mono fun r W' ⟨h1, d', h2, h3, h4, h5⟩ => ⟨h1, d', h.nx h2, h2, h3, h4, h5⟩
theorem del_p (h : One w0 W bd d) (key : ByteArray) (hk : key.size ≤ 9223372036854775807) (hn : d.n ≤ 100000) :
    Calls Try.prog 19 #[.pointer (some ⟨bd, 0, none⟩), .string key] W fun r W' => r = .returned (.bool (d.look key).isSome) ∧ ∃ d', One w0 W' bd d' ∧ Nx d d' W W' ∧ Cuts key d d' ∧ shape d' = (if (d.look key).isSome then shrinkS (stepS (shape d) 1) (d.n - 1) else stepS (shape d) 1) ∧
      ∀ k, d'.in1 k ↔ (stepD d 1).in1 k ∧ k ≠ key := by
  have := Delete_p d key W h.md.dm h.md.ok hk (by omega)
  rw [h.bd] at this
  exact this.mono fun r W' ⟨h1, d', h2, h3, h4, h5⟩ => ⟨h1, d', h.nx h2, h2, h3, h4, h5⟩
theorem get_p (h : One w0 W bd d) (key : ByteArray) (hk : key.size ≤ 9223372036854775807) :
    Calls Try.prog 18 #[.pointer (some ⟨bd, 0, none⟩), .string key] W fun r W' => r = .returned (.tuple #[(d.look key).getD (.int .i64 0), .bool (d.look key).isSome]) ∧ One w0 W' bd (stepD d 1) ∧ Nx d (stepD d 1) W W' := by
  have := Get_any d key W h.md.dm h.md.ok hk
  rw [h.bd] at this
  refine this.mono ?_
  rintro r W' ⟨h1, h2, h3⟩
  have hx := (Nx.step h.md.ok h2 h3).1
  refine ⟨?_, h.nx hx, hx⟩
  rcases h1 with ⟨x, hx, rfl, rfl⟩ | ⟨hno, rfl⟩
  · rw [look_of h.md.ok.keys hx]; rfl
  · rw [look_none.2 hno]; rfl
theorem step_p (h : One w0 W bd d) (n : Int) :
    Calls Try.prog 20 #[.pointer (some ⟨bd, 0, none⟩), .int .i64 n] W fun r W' => r = .returned (.int .i64 (stepK d n : Int)) ∧ One w0 W' bd (stepD d n) ∧ Nx d (stepD d n) W W' := by
  have := Step_any d n W h.md.dm h.md.ok
  rw [h.bd] at this
  refine this.mono ?_
  rintro r W' ⟨h1, h2, h3⟩
  have hx := (Nx.step h.md.ok h2 h3).1
  exact ⟨h1, h.nx hx, hx⟩
end

/-- Which keys stand in the second table when a slot was moved. -/
theorem moveSlot_in1 {d : Dm} (hok : d.Ok) {t : Tb} (ht : d.t1 = some t) (k : ByteArray) : (moveSlot d).in1 k ↔ d.at_ + 1 ≠ d.t0.len ∧ (d.in1 k ∨ ∃ y ∈ d.t0.at d.at_, y.key = k) := by
  have h0 := (hok.s1 t ht).pos
  unfold moveSlot
  rw [ht]
  dsimp only
  by_cases hl : d.at_ + 1 = d.t0.len
  · rw [if_pos hl]
    constructor
    · rintro ⟨t', e, _⟩; cases e
    · rintro ⟨h, _⟩; exact absurd hl h
  · rw [if_neg hl]
    unfold Dm.in1
    dsimp only
    rw [ht]
    have hm : ∀ x, x ∈ ((d.t0.at d.at_).foldl push t).nodes ↔ x ∈ d.t0.at d.at_ ∨ x ∈ t.nodes := fun x => by
      rw [(fold_push_perm (d.t0.at d.at_) (t := t) (by omega)).mem_iff, List.mem_append]
    constructor
    · rintro ⟨t', e, x, hx, hk⟩
      injection e with e
      subst e
      refine ⟨hl, ?_⟩
      rcases (hm x).1 hx with h | h
      · exact .inr ⟨x, h, hk⟩
      · exact .inl ⟨t, rfl, x, h, hk⟩
    · rintro ⟨_, ⟨t', e, x, hx, hk⟩ | ⟨x, hx, hk⟩⟩
      · injection e with e
        subst e
        exact ⟨_, rfl, x, (hm x).2 (.inr hx), hk⟩
      · exact ⟨_, rfl, x, (hm x).2 (.inl hx), hk⟩
/-- A node of the dict's stands in one table alone. -/
theorem not_in1 {d : Dm} (hok : d.Ok) {x : Nd} (hx : x ∈ d.t0.nodes) : ¬ d.in1 x.key := by
  rintro ⟨t, ht, y, hy, hk⟩
  have h := hok.keys
  unfold Dm.nodes Dm.nodes1 at h
  rw [ht] at h
  dsimp only at h
  rw [List.map_append, List.nodup_append] at h
  exact h.2.2 x.key (List.mem_map.2 ⟨x, hx, rfl⟩) x.key (List.mem_map.2 ⟨y, hy, hk⟩) rfl
theorem nodes_split {d : Dm} {x : Nd} (hx : x ∈ d.nodes) : x ∈ d.t0.nodes ∨ d.in1 x.key := by
  unfold Dm.nodes Dm.nodes1 at hx
  rcases List.mem_append.1 hx with h | h
  · exact .inl h
  · cases ht : d.t1 with
    | none => rw [ht] at h; cases h
    | some t => rw [ht] at h; exact .inr ⟨t, ht, x, h, rfl⟩

end Go.Proofs.Ythbjjjcppijcbaa.Dint

/- Acts: a slice of structs (number, text, number), read; dicts of one's own. -/
namespace Go.Proofs.Ythbjjjcppijcbaa
open Go.RowKit Pal Go.ChangeShapes Go.WideShapes Go.Deep

structure Act3 where
  Do : Int
  Key : ByteArray
  V : Int

/-- The value is a slice of n acts. -/
structure ActsAt (w : World) (v : Value) (n : Nat) (g : Nat → Act3) : Prop where
  is : ∃ p cap, v = .slice p n cap
  le : n ≤ maxLen
  at_ : ∀ i, i < n → ∃ b o cap, v = .slice (some ⟨b, o, none⟩) n cap ∧ b < w.heap.size ∧ w.cell? ⟨b, o + i * 3, none⟩ = some (.int .i64 (g i).Do) ∧ w.cell? ⟨b, o + i * 3 + 1, none⟩ = some (.string (g i).Key) ∧ w.cell? ⟨b, o + i * 3 + 2, none⟩ = some (.int .i64 (g i).V) ∧
    (Lit.int .i64 (g i).Do).wf = true ∧ (g i).Key.size ≤ maxLen ∧ (Lit.int .i64 (g i).V).wf = true

theorem Chg.cell {S : Nat → Prop} {w w' : World} (h : Chg S w w') {b : Nat} (hb : b < w.heap.size) (hn : ¬ S b) (i : Nat) : w'.cell? ⟨b, i, none⟩ = w.cell? ⟨b, i, none⟩ := by
  unfold World.cell?
  have := h.block b hb hn
  simp only [this]
theorem ActsAt.chg {w w' : World} {v : Value} {n : Nat} {g : Nat → Act3} (h : ActsAt w v n g) (hc : Chg (fun _ => False) w w') : ActsAt w' v n g where
  is := h.is
  le := h.le
  at_ := fun i hi => by
    obtain ⟨b, o, cap, h1, h2, h3, h4, h5, h6⟩ := h.at_ i hi
    exact ⟨b, o, cap, h1, Nat.lt_of_lt_of_le h2 hc.size, by rw [Chg.cell hc h2 id]; exact h3, by rw [Chg.cell hc h2 id]; exact h4, by rw [Chg.cell hc h2 id]; exact h5, h6⟩

section
variable {H : Type} {enc : TypeId × Value → H} {P : Program} {w : World} {base : Nat} {spare : Nat → Bool} {held : Bool}
theorem open_slice_fields {t e : TypeId} {fs : Array Field} {fuel : Nat} {cs : List Value} {x : DataW H × List MemPlace} (ht : P.underlying t = some (.slice e)) (he : P.underlying e = some (.struct fs))
    (hone : oneCellFields P fs = true) (hC : P.cellsOf e = fs.size) (h : DataW.trod enc P w base spare held fuel t cs = some x) :
    (cs = [.slice none 0 0] ∧ x = (.nil, [])) ∨
    ∃ (a : Addr) (len cap m : Nat) (D : Nat → DataW H) (Pl : Nat → List MemPlace), cs = [.slice (some a) len cap] ∧ base ≤ a.block ∧ len ≤ cap ∧ cap ≤ maxLen ∧ m = (if spare a.block then cap else len) ∧
      x = (.slice ((List.range len).map D) ((List.range (m - len)).map fun j => D (len + j)), MemPlace.row a (m * fs.size) ++ (List.range m).flatMap Pl) ∧
      ∀ i, i < m → ∃ (ys : List (DataW H × List MemPlace)) (n : Nat), D i = .agg (ys.map (·.1)) ∧ Pl i = ys.flatMap (·.2) ∧ ys.length = fs.size ∧
        ∀ (j : Nat) (f : Field), fs[j]? = some f → ∃ (v : Value) (y : DataW H × List MemPlace), w.cell? (a.add (i * fs.size + j)) = some v ∧ ys[j]? = some y ∧ DataW.trod enc P w base spare held n f.type [v] = some y := by
  rcases open_slice ht h with h0 | ⟨a, len, cap, m, n, D, Pl, hcs, hb, hl, hm, hmm, hx, hi⟩
  · exact .inl h0
  · refine .inr ⟨a, len, cap, m, D, Pl, hcs, hb, hl, hm, hmm, by rw [hC] at hx; exact hx, fun i him => ?_⟩
    obtain ⟨cs', hc, ht'⟩ := hi i him
    rw [hC] at hc
    obtain ⟨ys, n', hn', hy, hlen, hyl, hf⟩ := DataW.trod_struct he ht'
    obtain ⟨_, hcl, hat⟩ := World.cells?_some hc
    simp only [Prod.mk.injEq] at hy
    refine ⟨ys, n', hy.1, hy.2, hyl, fun j f hj => ?_⟩
    obtain ⟨ho, hk⟩ := hone_of hone j f hj
    have hjl : j < fs.size := (Array.getElem?_eq_some_iff.1 hj).1
    have hcell := hat j hjl
    have hv : cs'[j]? = some (cs'[j]'(by omega)) := List.getElem?_eq_getElem (by omega)
    have h1 := hf j f hj
    rw [ho, hk] at h1
    have hone' : (cs'.drop j).take 1 = [cs'[j]'(by omega)] := by
      rw [List.drop_eq_getElem_cons (by omega)]
      rfl
    rw [hone'] at h1
    have hys : ys[j]? = some (ys[j]'(by omega)) := List.getElem?_eq_getElem (by omega)
    refine ⟨_, _, ?_, hys, h1.trans hys⟩
    rw [← Go.Deep.add_add, hcell, hv]
end

theorem block_lt' {w : World} {a : Addr} {v : Value} (h : w.cell? a = some v) : a.block < w.heap.size := by
  unfold World.cell? at h
  split at h
  · rename_i h1; exact (Array.getElem?_eq_some_iff.1 h1).1
  · cases h
theorem mod8 (x : Int) : ∃ r : Int, (IntKind.u64.wrap x).tmod 8 = r ∧ (r = 0 ∨ r = 1 ∨ r = 2 ∨ r = 3 ∨ r = 4 ∨ r = 5 ∨ r = 6 ∨ r = 7) := by
  refine ⟨_, rfl, ?_⟩
  have h : 0 ≤ IntKind.u64.wrap x := by
    have e : IntKind.u64.wrap x = x % 18446744073709551616 := by simp [IntKind.wrap, IntKind.bits, IntKind.signed]
    rw [e]; omega
  rw [Int.tmod_eq_emod_of_nonneg h]
  omega
theorem addr_add (b o k : Nat) : (⟨b, o, none⟩ : Addr).add k = ⟨b, o + k, none⟩ := by
  unfold Addr.add; split
  · rename_i h; rw [h]; rfl
  · rfl
theorem pick_lt {n : Nat} {p : Nat → Act3 → Prop} (h : ∀ i, i < n → ∃ x, p i x) : ∃ f : Nat → Act3, ∀ i, i < n → p i (f i) := by
  classical
  refine ⟨fun i => if hi : i < n then Classical.choose (h i hi) else ⟨0, ⟨#[]⟩, 0⟩, fun i hi => ?_⟩
  simp only [dif_pos hi]
  exact Classical.choose_spec (h i hi)
theorem trod_i {H : Type} {enc : TypeId × Value → H} {P : Program} {w : World} {base : Nat} {spare : Nat → Bool} {held : Bool} {n : Nat} {t : TypeId} {v : Value} {y : DataW H × List MemPlace} (ht : P.underlying t = some (.int .i64)) (h : DataW.trod enc P w base spare held n t [v] = some y) : ∃ k, v = .int .i64 k ∧ (Lit.int .i64 k).wf = true := by
  obtain ⟨k, h1, _, h3⟩ := DataW.trod_int ht h
  simp only [List.cons.injEq, and_true] at h1
  exact ⟨k, h1, h3⟩
theorem trod_s {H : Type} {enc : TypeId × Value → H} {P : Program} {w : World} {base : Nat} {spare : Nat → Bool} {held : Bool} {n : Nat} {t : TypeId} {v : Value} {y : DataW H × List MemPlace} (ht : P.underlying t = some .string) (h : DataW.trod enc P w base spare held n t [v] = some y) : ∃ s, v = .string s ∧ s.size ≤ maxLen := by
  obtain ⟨k, h1, _, h3⟩ := DataW.trod_string ht h
  simp only [List.cons.injEq, and_true] at h1
  exact ⟨k, h1, h3⟩

set_option maxRecDepth 100000 in
theorem open_acts {H : Type} {enc : TypeId × Value → H} {w : World} {v : Value} {d : DataW H} {p : List MemPlace}
    (hv : Value.okWide Try.prog w .any 0 23 v) (h : DataW.Trod enc Try.prog w 0 (fun _ => true) true 23 v d p) :
    ∃ n g, ActsAt w v n g := by
  obtain ⟨a0, len0, cap0, rfl⟩ := okWide_slice Try.underlying23 hv
  obtain ⟨fuel, hf'⟩ := h
  rcases open_slice_fields Try.underlying23 Try.underlying28 (by kernel_rfl) (by kernel_rfl) hf' with ⟨hc, hx⟩ | ⟨a, len, cap, m, D, Pl, hc, _, hl, hm, hmm, hx, hall⟩
  · simp only [Value.cells, List.cons.injEq, and_true] at hc
    exact ⟨0, fun _ => ⟨0, ⟨#[]⟩, 0⟩, ⟨_, _, hc⟩, Nat.zero_le _, fun i hi => absurd hi (Nat.not_lt_zero _)⟩
  · simp only [Value.cells, List.cons.injEq, and_true] at hc
    simp only [if_true] at hmm
    subst hmm
    rcases Nat.eq_zero_or_pos len with h0 | hpos
    · subst h0
      exact ⟨0, fun _ => ⟨0, ⟨#[]⟩, 0⟩, ⟨_, _, hc⟩, Nat.zero_le _, fun i hi => absurd hi (Nat.not_lt_zero _)⟩
    have hsp : a.spot = none := by
      obtain ⟨ys, n, _, _, _, hj⟩ := hall 0 (by omega)
      obtain ⟨v0, y0, c0, _, t0⟩ := hj 0 _ rfl
      have := World.cell?_spot c0
      rw [Nat.zero_mul] at this
      exact this
    obtain ⟨b, o, sp⟩ := a
    have hsp : sp = none := hsp
    subst hsp
    have key : ∀ i, i < len → ∃ x : Act3, b < w.heap.size ∧ w.cell? ⟨b, o + i * 3, none⟩ = some (.int .i64 x.Do) ∧ w.cell? ⟨b, o + i * 3 + 1, none⟩ = some (.string x.Key) ∧ w.cell? ⟨b, o + i * 3 + 2, none⟩ = some (.int .i64 x.V) ∧
        (Lit.int .i64 x.Do).wf = true ∧ x.Key.size ≤ maxLen ∧ (Lit.int .i64 x.V).wf = true := fun i hi => by
      obtain ⟨ys, n, _, _, _, hj⟩ := hall i (by omega)
      obtain ⟨v0, y0, c0, _, t0⟩ := hj 0 _ rfl
      obtain ⟨v1, y1, c1, _, t1⟩ := hj 1 _ rfl
      obtain ⟨v2, y2, c2, _, t2⟩ := hj 2 _ rfl
      obtain ⟨k0, rfl, w0⟩ := trod_i Try.underlying3 t0
      obtain ⟨k1, rfl, w1⟩ := trod_s Try.underlying9 t1
      obtain ⟨k2, rfl, w2⟩ := trod_i Try.underlying3 t2
      rw [addr_add] at c0 c1 c2
      exact ⟨⟨k0, k1, k2⟩, block_lt' c0, c0, c1, c2, w0, w1, w2⟩
    obtain ⟨g, hg⟩ := pick_lt key
    refine ⟨len, g, ⟨_, _, hc⟩, Nat.le_trans hl hm, fun i hi => ?_⟩
    obtain ⟨h1, h2⟩ := hg i hi
    exact ⟨b, o, m, hc, h1, h2⟩

end Go.Proofs.Ythbjjjcppijcbaa
