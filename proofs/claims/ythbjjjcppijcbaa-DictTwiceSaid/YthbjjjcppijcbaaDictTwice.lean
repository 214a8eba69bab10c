/- The walk of DictTwice. -/
import Derived.Test.YthbjjjcppijcbaaDAint
import Derived.Test.YthbjjjcppijcbaaS7
import Derived.Deep.LoopGhost
namespace Go.Proofs.Ythbjjjcppijcbaa.dictTwice
open Go.RowKit Pal Dint

theorem all136 {P : Array Value → Prop} (h : ∀ u0 u1 u2 u3 u4 u5 u6 u7 u8 u9 u10 u11 u12 u13 u14 u15 u16 u17 u18 u19 u20 u21 u22 u23 u24 u25 u26 u27 u28 u29 u30 u31 u32 u33 u34 u35 u36 u37 u38 u39 u40 u41 u42 u43 u44 u45 u46 u47 u48 u49 u50 u51 u52 u53 u54 u55 u56 u57 u58 u59 u60 u61 u62 u63 u64 u65 u66 u67 u68 u69 u70 u71 u72 u73 u74 u75 u76 u77 u78 u79 u80 u81 u82 u83 u84 u85 u86 u87 u88 u89 u90 u91 u92 u93 u94 u95 u96 u97 u98 u99 u100 u101 u102 u103 u104 u105 u106 u107 u108 u109 u110 u111 u112 u113 u114 u115 u116 u117 u118 u119 u120 u121 u122 u123 u124 u125 u126 u127 u128 u129 u130 u131 u132 u133 u134 u135 : Value, P #[u0, u1, u2, u3, u4, u5, u6, u7, u8, u9, u10, u11, u12, u13, u14, u15, u16, u17, u18, u19, u20, u21, u22, u23, u24, u25, u26, u27, u28, u29, u30, u31, u32, u33, u34, u35, u36, u37, u38, u39, u40, u41, u42, u43, u44, u45, u46, u47, u48, u49, u50, u51, u52, u53, u54, u55, u56, u57, u58, u59, u60, u61, u62, u63, u64, u65, u66, u67, u68, u69, u70, u71, u72, u73, u74, u75, u76, u77, u78, u79, u80, u81, u82, u83, u84, u85, u86, u87, u88, u89, u90, u91, u92, u93, u94, u95, u96, u97, u98, u99, u100, u101, u102, u103, u104, u105, u106, u107, u108, u109, u110, u111, u112, u113, u114, u115, u116, u117, u118, u119, u120, u121, u122, u123, u124, u125, u126, u127, u128, u129, u130, u131, u132, u133, u134, u135]) (a : Array Value) (hs : a.size = 136) : P a := by
  obtain ⟨l⟩ := a
  have g0 : l.length = 136 := hs
  clear hs
  obtain ⟨u0, l0, e0, g1⟩ := Pal.len_cons g0
  obtain ⟨u1, l1, e1, g2⟩ := Pal.len_cons g1
  obtain ⟨u2, l2, e2, g3⟩ := Pal.len_cons g2
  obtain ⟨u3, l3, e3, g4⟩ := Pal.len_cons g3
  obtain ⟨u4, l4, e4, g5⟩ := Pal.len_cons g4
  obtain ⟨u5, l5, e5, g6⟩ := Pal.len_cons g5
  obtain ⟨u6, l6, e6, g7⟩ := Pal.len_cons g6
  obtain ⟨u7, l7, e7, g8⟩ := Pal.len_cons g7
  obtain ⟨u8, l8, e8, g9⟩ := Pal.len_cons g8
  obtain ⟨u9, l9, e9, g10⟩ := Pal.len_cons g9
  obtain ⟨u10, l10, e10, g11⟩ := Pal.len_cons g10
  obtain ⟨u11, l11, e11, g12⟩ := Pal.len_cons g11
  obtain ⟨u12, l12, e12, g13⟩ := Pal.len_cons g12
  obtain ⟨u13, l13, e13, g14⟩ := Pal.len_cons g13
  obtain ⟨u14, l14, e14, g15⟩ := Pal.len_cons g14
  obtain ⟨u15, l15, e15, g16⟩ := Pal.len_cons g15
  obtain ⟨u16, l16, e16, g17⟩ := Pal.len_cons g16
  obtain ⟨u17, l17, e17, g18⟩ := Pal.len_cons g17
  obtain ⟨u18, l18, e18, g19⟩ := Pal.len_cons g18
  obtain ⟨u19, l19, e19, g20⟩ := Pal.len_cons g19
  obtain ⟨u20, l20, e20, g21⟩ := Pal.len_cons g20
  obtain ⟨u21, l21, e21, g22⟩ := Pal.len_cons g21
  obtain ⟨u22, l22, e22, g23⟩ := Pal.len_cons g22
  obtain ⟨u23, l23, e23, g24⟩ := Pal.len_cons g23
  obtain ⟨u24, l24, e24, g25⟩ := Pal.len_cons g24
  obtain ⟨u25, l25, e25, g26⟩ := Pal.len_cons g25
  obtain ⟨u26, l26, e26, g27⟩ := Pal.len_cons g26
  obtain ⟨u27, l27, e27, g28⟩ := Pal.len_cons g27
  obtain ⟨u28, l28, e28, g29⟩ := Pal.len_cons g28
  obtain ⟨u29, l29, e29, g30⟩ := Pal.len_cons g29
  obtain ⟨u30, l30, e30, g31⟩ := Pal.len_cons g30
  obtain ⟨u31, l31, e31, g32⟩ := Pal.len_cons g31
  obtain ⟨u32, l32, e32, g33⟩ := Pal.len_cons g32
  obtain ⟨u33, l33, e33, g34⟩ := Pal.len_cons g33
  obtain ⟨u34, l34, e34, g35⟩ := Pal.len_cons g34
  obtain ⟨u35, l35, e35, g36⟩ := Pal.len_cons g35
  obtain ⟨u36, l36, e36, g37⟩ := Pal.len_cons g36
  obtain ⟨u37, l37, e37, g38⟩ := Pal.len_cons g37
  obtain ⟨u38, l38, e38, g39⟩ := Pal.len_cons g38
  obtain ⟨u39, l39, e39, g40⟩ := Pal.len_cons g39
  obtain ⟨u40, l40, e40, g41⟩ := Pal.len_cons g40
  obtain ⟨u41, l41, e41, g42⟩ := Pal.len_cons g41
  obtain ⟨u42, l42, e42, g43⟩ := Pal.len_cons g42
  obtain ⟨u43, l43, e43, g44⟩ := Pal.len_cons g43
  obtain ⟨u44, l44, e44, g45⟩ := Pal.len_cons g44
  obtain ⟨u45, l45, e45, g46⟩ := Pal.len_cons g45
  obtain ⟨u46, l46, e46, g47⟩ := Pal.len_cons g46
  obtain ⟨u47, l47, e47, g48⟩ := Pal.len_cons g47
  obtain ⟨u48, l48, e48, g49⟩ := Pal.len_cons g48
  obtain ⟨u49, l49, e49, g50⟩ := Pal.len_cons g49
  obtain ⟨u50, l50, e50, g51⟩ := Pal.len_cons g50
  obtain ⟨u51, l51, e51, g52⟩ := Pal.len_cons g51
  obtain ⟨u52, l52, e52, g53⟩ := Pal.len_cons g52
  obtain ⟨u53, l53, e53, g54⟩ := Pal.len_cons g53
  obtain ⟨u54, l54, e54, g55⟩ := Pal.len_cons g54
  obtain ⟨u55, l55, e55, g56⟩ := Pal.len_cons g55
  obtain ⟨u56, l56, e56, g57⟩ := Pal.len_cons g56
  obtain ⟨u57, l57, e57, g58⟩ := Pal.len_cons g57
  obtain ⟨u58, l58, e58, g59⟩ := Pal.len_cons g58
  obtain ⟨u59, l59, e59, g60⟩ := Pal.len_cons g59
  obtain ⟨u60, l60, e60, g61⟩ := Pal.len_cons g60
  obtain ⟨u61, l61, e61, g62⟩ := Pal.len_cons g61
  obtain ⟨u62, l62, e62, g63⟩ := Pal.len_cons g62
  obtain ⟨u63, l63, e63, g64⟩ := Pal.len_cons g63
  obtain ⟨u64, l64, e64, g65⟩ := Pal.len_cons g64
  obtain ⟨u65, l65, e65, g66⟩ := Pal.len_cons g65
  obtain ⟨u66, l66, e66, g67⟩ := Pal.len_cons g66
  obtain ⟨u67, l67, e67, g68⟩ := Pal.len_cons g67
  obtain ⟨u68, l68, e68, g69⟩ := Pal.len_cons g68
  obtain ⟨u69, l69, e69, g70⟩ := Pal.len_cons g69
  obtain ⟨u70, l70, e70, g71⟩ := Pal.len_cons g70
  obtain ⟨u71, l71, e71, g72⟩ := Pal.len_cons g71
  obtain ⟨u72, l72, e72, g73⟩ := Pal.len_cons g72
  obtain ⟨u73, l73, e73, g74⟩ := Pal.len_cons g73
  obtain ⟨u74, l74, e74, g75⟩ := Pal.len_cons g74
  obtain ⟨u75, l75, e75, g76⟩ := Pal.len_cons g75
  obtain ⟨u76, l76, e76, g77⟩ := Pal.len_cons g76
  obtain ⟨u77, l77, e77, g78⟩ := Pal.len_cons g77
  obtain ⟨u78, l78, e78, g79⟩ := Pal.len_cons g78
  obtain ⟨u79, l79, e79, g80⟩ := Pal.len_cons g79
  obtain ⟨u80, l80, e80, g81⟩ := Pal.len_cons g80
  obtain ⟨u81, l81, e81, g82⟩ := Pal.len_cons g81
  obtain ⟨u82, l82, e82, g83⟩ := Pal.len_cons g82
  obtain ⟨u83, l83, e83, g84⟩ := Pal.len_cons g83
  obtain ⟨u84, l84, e84, g85⟩ := Pal.len_cons g84
  obtain ⟨u85, l85, e85, g86⟩ := Pal.len_cons g85
  obtain ⟨u86, l86, e86, g87⟩ := Pal.len_cons g86
  obtain ⟨u87, l87, e87, g88⟩ := Pal.len_cons g87
  obtain ⟨u88, l88, e88, g89⟩ := Pal.len_cons g88
  obtain ⟨u89, l89, e89, g90⟩ := Pal.len_cons g89
  obtain ⟨u90, l90, e90, g91⟩ := Pal.len_cons g90
  obtain ⟨u91, l91, e91, g92⟩ := Pal.len_cons g91
  obtain ⟨u92, l92, e92, g93⟩ := Pal.len_cons g92
  obtain ⟨u93, l93, e93, g94⟩ := Pal.len_cons g93
  obtain ⟨u94, l94, e94, g95⟩ := Pal.len_cons g94
  obtain ⟨u95, l95, e95, g96⟩ := Pal.len_cons g95
  obtain ⟨u96, l96, e96, g97⟩ := Pal.len_cons g96
  obtain ⟨u97, l97, e97, g98⟩ := Pal.len_cons g97
  obtain ⟨u98, l98, e98, g99⟩ := Pal.len_cons g98
  obtain ⟨u99, l99, e99, g100⟩ := Pal.len_cons g99
  obtain ⟨u100, l100, e100, g101⟩ := Pal.len_cons g100
  obtain ⟨u101, l101, e101, g102⟩ := Pal.len_cons g101
  obtain ⟨u102, l102, e102, g103⟩ := Pal.len_cons g102
  obtain ⟨u103, l103, e103, g104⟩ := Pal.len_cons g103
  obtain ⟨u104, l104, e104, g105⟩ := Pal.len_cons g104
  obtain ⟨u105, l105, e105, g106⟩ := Pal.len_cons g105
  obtain ⟨u106, l106, e106, g107⟩ := Pal.len_cons g106
  obtain ⟨u107, l107, e107, g108⟩ := Pal.len_cons g107
  obtain ⟨u108, l108, e108, g109⟩ := Pal.len_cons g108
  obtain ⟨u109, l109, e109, g110⟩ := Pal.len_cons g109
  obtain ⟨u110, l110, e110, g111⟩ := Pal.len_cons g110
  obtain ⟨u111, l111, e111, g112⟩ := Pal.len_cons g111
  obtain ⟨u112, l112, e112, g113⟩ := Pal.len_cons g112
  obtain ⟨u113, l113, e113, g114⟩ := Pal.len_cons g113
  obtain ⟨u114, l114, e114, g115⟩ := Pal.len_cons g114
  obtain ⟨u115, l115, e115, g116⟩ := Pal.len_cons g115
  obtain ⟨u116, l116, e116, g117⟩ := Pal.len_cons g116
  obtain ⟨u117, l117, e117, g118⟩ := Pal.len_cons g117
  obtain ⟨u118, l118, e118, g119⟩ := Pal.len_cons g118
  obtain ⟨u119, l119, e119, g120⟩ := Pal.len_cons g119
  obtain ⟨u120, l120, e120, g121⟩ := Pal.len_cons g120
  obtain ⟨u121, l121, e121, g122⟩ := Pal.len_cons g121
  obtain ⟨u122, l122, e122, g123⟩ := Pal.len_cons g122
  obtain ⟨u123, l123, e123, g124⟩ := Pal.len_cons g123
  obtain ⟨u124, l124, e124, g125⟩ := Pal.len_cons g124
  obtain ⟨u125, l125, e125, g126⟩ := Pal.len_cons g125
  obtain ⟨u126, l126, e126, g127⟩ := Pal.len_cons g126
  obtain ⟨u127, l127, e127, g128⟩ := Pal.len_cons g127
  obtain ⟨u128, l128, e128, g129⟩ := Pal.len_cons g128
  obtain ⟨u129, l129, e129, g130⟩ := Pal.len_cons g129
  obtain ⟨u130, l130, e130, g131⟩ := Pal.len_cons g130
  obtain ⟨u131, l131, e131, g132⟩ := Pal.len_cons g131
  obtain ⟨u132, l132, e132, g133⟩ := Pal.len_cons g132
  obtain ⟨u133, l133, e133, g134⟩ := Pal.len_cons g133
  obtain ⟨u134, l134, e134, g135⟩ := Pal.len_cons g134
  obtain ⟨u135, l135, e135, g136⟩ := Pal.len_cons g135
  obtain rfl := List.eq_nil_of_length_eq_zero g136
  have e : (⟨l⟩ : Array Value) = #[u0, u1, u2, u3, u4, u5, u6, u7, u8, u9, u10, u11, u12, u13, u14, u15, u16, u17, u18, u19, u20, u21, u22, u23, u24, u25, u26, u27, u28, u29, u30, u31, u32, u33, u34, u35, u36, u37, u38, u39, u40, u41, u42, u43, u44, u45, u46, u47, u48, u49, u50, u51, u52, u53, u54, u55, u56, u57, u58, u59, u60, u61, u62, u63, u64, u65, u66, u67, u68, u69, u70, u71, u72, u73, u74, u75, u76, u77, u78, u79, u80, u81, u82, u83, u84, u85, u86, u87, u88, u89, u90, u91, u92, u93, u94, u95, u96, u97, u98, u99, u100, u101, u102, u103, u104, u105, u106, u107, u108, u109, u110, u111, u112, u113, u114, u115, u116, u117, u118, u119, u120, u121, u122, u123, u124, u125, u126, u127, u128, u129, u130, u131, u132, u133, u134, u135] := by rw [e0, e1, e2, e3, e4, e5, e6, e7, e8, e9, e10, e11, e12, e13, e14, e15, e16, e17, e18, e19, e20, e21, e22, e23, e24, e25, e26, e27, e28, e29, e30, e31, e32, e33, e34, e35, e36, e37, e38, e39, e40, e41, e42, e43, e44, e45, e46, e47, e48, e49, e50, e51, e52, e53, e54, e55, e56, e57, e58, e59, e60, e61, e62, e63, e64, e65, e66, e67, e68, e69, e70, e71, e72, e73, e74, e75, e76, e77, e78, e79, e80, e81, e82, e83, e84, e85, e86, e87, e88, e89, e90, e91, e92, e93, e94, e95, e96, e97, e98, e99, e100, e101, e102, e103, e104, e105, e106, e107, e108, e109, e110, e111, e112, e113, e114, e115, e116, e117, e118, e119, e120, e121, e122, e123, e124, e125, e126, e127, e128, e129, e130, e131, e132, e133, e134, e135]
  rw [e]
  exact h u0 u1 u2 u3 u4 u5 u6 u7 u8 u9 u10 u11 u12 u13 u14 u15 u16 u17 u18 u19 u20 u21 u22 u23 u24 u25 u26 u27 u28 u29 u30 u31 u32 u33 u34 u35 u36 u37 u38 u39 u40 u41 u42 u43 u44 u45 u46 u47 u48 u49 u50 u51 u52 u53 u54 u55 u56 u57 u58 u59 u60 u61 u62 u63 u64 u65 u66 u67 u68 u69 u70 u71 u72 u73 u74 u75 u76 u77 u78 u79 u80 u81 u82 u83 u84 u85 u86 u87 u88 u89 u90 u91 u92 u93 u94 u95 u96 u97 u98 u99 u100 u101 u102 u103 u104 u105 u106 u107 u108 u109 u110 u111 u112 u113 u114 u115 u116 u117 u118 u119 u120 u121 u122 u123 u124 u125 u126 u127 u128 u129 u130 u131 u132 u133 u134 u135

def LAct (sd l k v w : Value) (bd i : Nat) (a : Act) : Prop :=
  a.tmps.size = 136 ∧ a.tmps[1]? = some l ∧ a.tmps[2]? = some k ∧ a.tmps[3]? = some v ∧ a.tmps[4]? = some w ∧ a.tmps[11]? = some (.bool true) ∧ a.tmps[12]? = some (ptr bd) ∧ a.tmps[13]? = some (.int .i64 (i : Int)) ∧ a.defers = []
def LInv (w0 : World) (sd l k v u : Value) (N bd : Nat) (m : Nat) (a : Act) (w : World) : Prop :=
  ∃ i d, m = N - i ∧ i ≤ N ∧ LAct sd l k v u bd i a ∧ One w0 w bd d ∧ d.n ≤ i

set_option maxRecDepth 100000 in
set_option maxHeartbeats 4000000 in
theorem walk (s1 : Nat) (h1 : s1 < 4294967296) (v : Value) (n : Nat) (g : Nat → Act3) (k : ByteArray) (hk : k.size ≤ 9223372036854775807) (x y : Int) (w : World) (hv : ActsAt w v n g) :
    Calls Try.prog 6 #[.int .u32 (s1 : Int), v, .string k, .int .i64 x, .int .i64 y] w fun e w' => e = .returned (.bool true) ∧ Chg (fun _ => False) w w' := by
  go_enter Try.func6, Try.ntmps6
  go_wp2_with fail
  refine (shown07_any w).mono ?_
  rintro e w1 ⟨rfl, c1⟩
  go_wp2_with fail
  refine (new_1 c1 s1 h1).mono ?_
  rintro e w2 ⟨bd, d0, rfl, hT, dn, _, _, _, _⟩
  go_wp2_with fail
  refine wp_loop_ghost (LInv w (.int .u32 (s1 : Int)) v (.string k) (.int .i64 x) (.int .i64 y) (min n 80) bd) (min n 80) ?_ ?_
  · exact ⟨0, d0, rfl, Nat.zero_le _, ⟨rfl, rfl, rfl, rfl, rfl, rfl, rfl, rfl, rfl⟩, hT, Nat.le_of_eq dn⟩
  · clear hT c1 dn
    rintro m ⟨tmps, ds⟩ W ⟨i, d, rfl, hi, ⟨hsz, t1, t2, t3, t4, t11, t12, t13, rfl⟩, hT, hS⟩
    replace hsz : tmps.size = 136 := hsz
    dsimp only at t1 t2 t3 t4 t11 t12 t13
    revert t1 t2 t3 t4 t11 t12 t13
    revert hsz
    revert tmps
    refine all136 ?_
    intro u0 u1 u2 u3 u4 u5 u6 u7 u8 u9 u10 u11 u12 u13 u14 u15 u16 u17 u18 u19 u20 u21 u22 u23 u24 u25 u26 u27 u28 u29 u30 u31 u32 u33 u34 u35 u36 u37 u38 u39 u40 u41 u42 u43 u44 u45 u46 u47 u48 u49 u50 u51 u52 u53 u54 u55 u56 u57 u58 u59 u60 u61 u62 u63 u64 u65 u66 u67 u68 u69 u70 u71 u72 u73 u74 u75 u76 u77 u78 u79 u80 u81 u82 u83 u84 u85 u86 u87 u88 u89 u90 u91 u92 u93 u94 u95 u96 u97 u98 u99 u100 u101 u102 u103 u104 u105 u106 u107 u108 u109 u110 u111 u112 u113 u114 u115 u116 u117 u118 u119 u120 u121 u122 u123 u124 u125 u126 u127 u128 u129 u130 u131 u132 u133 u134 u135 t1 t2 t3 t4 t11 t12 t13
    simp only [ptr, List.getElem?_toArray, List.getElem?_cons_zero, List.getElem?_cons_succ, Option.some.injEq] at t1 t2 t3 t4 t11 t12 t13
    subst t1 t2 t3 t4 t11 t12 t13
    obtain ⟨p, cap, rfl⟩ := hv.is
    have hle := hv.le
    have hdn : d.n ≤ 100000 := by omega
    by_cases hin : i < n
    · by_cases hi150 : i < 80
      · have hv' := hv.chg hT.chg
        obtain ⟨b, o, cap', heq, hb, q0, q1, q2, f0, f1, f2⟩ := hv'.at_ i hin
        injection heq with heq hx hcap
        subst heq hcap
        clear hx
        have hin' : (i : Int) < (n : Int) := by omega
        have hi' : (i : Int) < 80 := by omega
        have hks : (cutS (g i).Key 12).size ≤ 9223372036854775807 := Nat.le_trans (cutS_size _ _) f1
        obtain ⟨r, hr, hcase⟩ := mod8 (g i).Do
        by_cases h5 : r < 5
        · go_wp2_with fail
          go_region_with (first
            | (go_at_call 16; refine (key7_any _ _ f1).mono ?_; rintro e9 w9 ⟨rfl, rfl⟩)
            | (go_at_call 17; refine (set_1 (hT.chg0 ((Chg.refl _ _).drew)) (cutS (g i).Key 12) (.int .i64 (g i).V) hks ⟨_, rfl⟩ hdn).mono ?_; rintro e5 W5 ⟨rfl, d', hT1, _, hP1, _⟩))
          all_goals
            go_wp2_with fail
            exact ⟨min n 80 - (i + 1), by omega, i + 1, _, rfl, by omega, ⟨rfl, rfl, rfl, rfl, rfl, rfl, rfl, rfl, rfl⟩, hT1, by rw [hP1.2]; split <;> omega⟩
        · go_wp2_with fail
          refine (key7_any _ _ f1).mono ?_
          rintro e9 w9 ⟨rfl, rfl⟩
          go_wp2_with fail
          refine (del_1 hT (cutS (g i).Key 12) hks hdn).mono ?_
          rintro e5 W5 ⟨rfl, d', hT1, _, hP1, _⟩
          go_wp2_with fail
          exact ⟨min n 80 - (i + 1), by omega, i + 1, _, rfl, by omega, ⟨rfl, rfl, rfl, rfl, rfl, rfl, rfl, rfl, rfl⟩, hT1, by rw [hP1.2]; split <;> omega⟩
      · have hin' : (i : Int) < (n : Int) := by omega
        have hi' : ((i : Int) < 80) = False := by simp only [eq_iff_iff, iff_false]; omega
        clear hi150
        go_wp2_with fail
        refine (del_1 hT k hk hdn).mono ?_
        rintro e1 W1 ⟨rfl, d1, o1, _, p1, _⟩
        obtain ⟨b1, hb1⟩ : ∃ b, (d.look k).isSome = b := ⟨_, rfl⟩
        rw [hb1]
        have l1 : d1.look k = none := by rw [p1.1, if_pos rfl]
        have n1 : d1.n ≤ 1000 := by rw [p1.2]; split <;> omega
        obtain ⟨q, hq⟩ : ∃ q, Hid (d1.n = q) := ⟨_, rfl⟩
        rw [hq.out] at n1
        have g1 := len_1 o1
        have g2 := set_1 o1 k (.int .i64 x) hk ⟨_, rfl⟩ (by rw [hq.out]; omega)
        rw [hq.out] at g1
        rw [l1] at g2
        clear hb1 hT hdn
        go_wp2_with fail
        refine g1.mono ?_
        rintro e2 w2 ⟨rfl, rfl⟩
        go_wp2_with fail
        refine g2.mono ?_
        rintro e2 W2 ⟨rfl, d2, o2, _, p2, _⟩
        have l2 : d2.look k = some (.int .i64 x) := by rw [p2.1, if_pos rfl]
        have n2 : d2.n = q + 1 := by rw [p2.2, l1, hq.out]; rfl
        have g3 := set_1 o2 k (.int .i64 y) hk ⟨_, rfl⟩ (by omega)
        rw [l2] at g3
        have L1 := Lib.hid l1
        have N2 := Lib.hid n2
        have L2 := Lib.hid l2
        clear g1 g2 l1 n2 l2
        go_wp2_with fail
        refine g3.mono ?_
        rintro e2 W3 ⟨rfl, d3, o3, _, p3, _⟩
        have l3 : d3.look k = some (.int .i64 y) := by rw [p3.1, if_pos rfl]
        have n3 : d3.n = q + 1 := by rw [p3.2, L2.out, N2.out]; rfl
        have g4 := get_1 o3 k hk
        rw [l3] at g4
        have L3 := Lib.hid l3
        have N3 := Lib.hid n3
        clear g3 l3 n3
        simp only [Option.getD_some, Option.isSome_some, Option.isNone_some, Option.isNone_none] at *
        go_wp2_with fail
        refine g4.mono ?_
        rintro e2 W4 ⟨rfl, d4, o4, _, p4, _⟩
        have L4 : Hid (d4.look k = some (.int .i64 y)) := (p4.1 k).trans L3.out
        have N4 : Hid (d4.n = q + 1) := p4.2.trans N3.out
        have g5 := len_1 o4
        rw [N4.out, show ((q + 1 : Nat) : Int) = (q : Int) + 1 by omega] at g5
        have g6 := del_1 o4 k hk (by rw [N4.out]; omega)
        rw [L4.out] at g6
        clear g4
        go_wp2_with fail
        refine g5.mono ?_
        rintro e2 w2 ⟨rfl, rfl⟩
        go_wp2_with fail
        refine g6.mono ?_
        rintro e2 W5 ⟨rfl, d5, o5, _, p5, _⟩
        have L5 : Hid (d5.look k = none) := (p5.1 k).trans (if_pos rfl)
        have N5 : Hid (d5.n = q) := by show _ = _; rw [p5.2, L4.out, N4.out]; rfl
        have g7 := get_1 o5 k hk
        rw [L5.out] at g7
        clear g5 g6
        simp only [Option.getD_none, Option.isSome_none, Option.isSome_some] at *
        go_wp2_with fail
        refine g7.mono ?_
        rintro e2 W6 ⟨rfl, d6, o6, _, p6, _⟩
        have L6 : Hid (d6.look k = none) := (p6.1 k).trans L5.out
        have N6 : Hid (d6.n = q) := p6.2.trans N5.out
        have g8 := del_1 o6 k hk (by rw [N6.out]; omega)
        rw [L6.out] at g8
        clear g7
        simp only [Option.isSome_none] at *
        go_wp2_with fail
        refine g8.mono ?_
        rintro e2 W7 ⟨rfl, d7, o7, _, p7, _⟩
        have N7 : Hid (d7.n = q) := by show _ = _; rw [p7.2, L6.out, N6.out]; rfl
        have g9 := len_1 o7
        rw [N7.out] at g9
        clear g8
        go_wp2_with fail
        refine g9.mono ?_
        rintro e2 w2 ⟨rfl, rfl⟩
        go_wp2_with fail
        go_ret
        exact ⟨rfl, o7.chg⟩
    · have hin' : ((i : Int) < (n : Int)) = False := by simp only [eq_iff_iff, iff_false]; omega
      have hin2 : (i < n) = False := by simp only [eq_iff_iff, iff_false]; omega
      clear hin
      go_wp2_with fail
      refine (del_1 hT k hk hdn).mono ?_
      rintro e1 W1 ⟨rfl, d1, o1, _, p1, _⟩
      obtain ⟨b1, hb1⟩ : ∃ b, (d.look k).isSome = b := ⟨_, rfl⟩
      rw [hb1]
      have l1 : d1.look k = none := by rw [p1.1, if_pos rfl]
      have n1 : d1.n ≤ 1000 := by rw [p1.2]; split <;> omega
      obtain ⟨q, hq⟩ : ∃ q, Hid (d1.n = q) := ⟨_, rfl⟩
      rw [hq.out] at n1
      have g1 := len_1 o1
      have g2 := set_1 o1 k (.int .i64 x) hk ⟨_, rfl⟩ (by rw [hq.out]; omega)
      rw [hq.out] at g1
      rw [l1] at g2
      clear hb1 hT hdn
      go_wp2_with fail
      refine g1.mono ?_
      rintro e2 w2 ⟨rfl, rfl⟩
      go_wp2_with fail
      refine g2.mono ?_
      rintro e2 W2 ⟨rfl, d2, o2, _, p2, _⟩
      have l2 : d2.look k = some (.int .i64 x) := by rw [p2.1, if_pos rfl]
      have n2 : d2.n = q + 1 := by rw [p2.2, l1, hq.out]; rfl
      have g3 := set_1 o2 k (.int .i64 y) hk ⟨_, rfl⟩ (by omega)
      rw [l2] at g3
      have L1 := Lib.hid l1
      have N2 := Lib.hid n2
      have L2 := Lib.hid l2
      clear g1 g2 l1 n2 l2
      go_wp2_with fail
      refine g3.mono ?_
      rintro e2 W3 ⟨rfl, d3, o3, _, p3, _⟩
      have l3 : d3.look k = some (.int .i64 y) := by rw [p3.1, if_pos rfl]
      have n3 : d3.n = q + 1 := by rw [p3.2, L2.out, N2.out]; rfl
      have g4 := get_1 o3 k hk
      rw [l3] at g4
      have L3 := Lib.hid l3
      have N3 := Lib.hid n3
      clear g3 l3 n3
      simp only [Option.getD_some, Option.isSome_some, Option.isNone_some, Option.isNone_none] at *
      go_wp2_with fail
      refine g4.mono ?_
      rintro e2 W4 ⟨rfl, d4, o4, _, p4, _⟩
      have L4 : Hid (d4.look k = some (.int .i64 y)) := (p4.1 k).trans L3.out
      have N4 : Hid (d4.n = q + 1) := p4.2.trans N3.out
      have g5 := len_1 o4
      rw [N4.out, show ((q + 1 : Nat) : Int) = (q : Int) + 1 by omega] at g5
      have g6 := del_1 o4 k hk (by rw [N4.out]; omega)
      rw [L4.out] at g6
      clear g4
      go_wp2_with fail
      refine g5.mono ?_
      rintro e2 w2 ⟨rfl, rfl⟩
      go_wp2_with fail
      refine g6.mono ?_
      rintro e2 W5 ⟨rfl, d5, o5, _, p5, _⟩
      have L5 : Hid (d5.look k = none) := (p5.1 k).trans (if_pos rfl)
      have N5 : Hid (d5.n = q) := by show _ = _; rw [p5.2, L4.out, N4.out]; rfl
      have g7 := get_1 o5 k hk
      rw [L5.out] at g7
      clear g5 g6
      simp only [Option.getD_none, Option.isSome_none, Option.isSome_some] at *
      go_wp2_with fail
      refine g7.mono ?_
      rintro e2 W6 ⟨rfl, d6, o6, _, p6, _⟩
      have L6 : Hid (d6.look k = none) := (p6.1 k).trans L5.out
      have N6 : Hid (d6.n = q) := p6.2.trans N5.out
      have g8 := del_1 o6 k hk (by rw [N6.out]; omega)
      rw [L6.out] at g8
      clear g7
      simp only [Option.isSome_none] at *
      go_wp2_with fail
      refine g8.mono ?_
      rintro e2 W7 ⟨rfl, d7, o7, _, p7, _⟩
      have N7 : Hid (d7.n = q) := by show _ = _; rw [p7.2, L6.out, N6.out]; rfl
      have g9 := len_1 o7
      rw [N7.out] at g9
      clear g8
      go_wp2_with fail
      refine g9.mono ?_
      rintro e2 w2 ⟨rfl, rfl⟩
      go_wp2_with fail
      go_ret
      exact ⟨rfl, o7.chg⟩

set_option maxRecDepth 100000 in
theorem DictTwice_walk (W : World) (a0 : Int) (w0 : (Lit.int .u32 a0).wf = true) {H : Type} {enc : TypeId × Value → H} {v : Value} {d : DataW H} {p : List MemPlace}
    (hv : Value.okWide Try.prog W .any 0 23 v) (h : DataW.Trod enc Try.prog W 0 (fun _ => true) true 23 v d p) (k : ByteArray) (hk : k.size ≤ maxLen) (x : Int) (wx : (Lit.int .i64 x).wf = true) (y : Int) (wy : (Lit.int .i64 y).wf = true) :
    Calls Try.prog 6 #[.int .u32 a0, v, .string k, .int .i64 x, .int .i64 y] W fun e w' => e = .returned (.bool true) ∧ Chg (fun _ => False) W w' := by
  obtain ⟨s0, rfl, h0⟩ := u32_of_wf w0
  obtain ⟨n, g, hg⟩ := open_acts hv h
  exact walk s0 h0 v n g k hk x y W hg

end Go.Proofs.Ythbjjjcppijcbaa.dictTwice
