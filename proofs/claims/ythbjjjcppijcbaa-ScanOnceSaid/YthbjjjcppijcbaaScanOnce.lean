/- The walk of ScanOnce. -/
import Derived.Test.YthbjjjcppijcbaaS10
import Derived.Deep.LoopGhost
import Derived.Deep.CutBlock
namespace Go.Proofs.Ythbjjjcppijcbaa.scanOnce
open Go.RowKit Pal Dint

theorem all135 {P : Array Value → Prop} (h : ∀ u0 u1 u2 u3 u4 u5 u6 u7 u8 u9 u10 u11 u12 u13 u14 u15 u16 u17 u18 u19 u20 u21 u22 u23 u24 u25 u26 u27 u28 u29 u30 u31 u32 u33 u34 u35 u36 u37 u38 u39 u40 u41 u42 u43 u44 u45 u46 u47 u48 u49 u50 u51 u52 u53 u54 u55 u56 u57 u58 u59 u60 u61 u62 u63 u64 u65 u66 u67 u68 u69 u70 u71 u72 u73 u74 u75 u76 u77 u78 u79 u80 u81 u82 u83 u84 u85 u86 u87 u88 u89 u90 u91 u92 u93 u94 u95 u96 u97 u98 u99 u100 u101 u102 u103 u104 u105 u106 u107 u108 u109 u110 u111 u112 u113 u114 u115 u116 u117 u118 u119 u120 u121 u122 u123 u124 u125 u126 u127 u128 u129 u130 u131 u132 u133 u134 : Value, P #[u0, u1, u2, u3, u4, u5, u6, u7, u8, u9, u10, u11, u12, u13, u14, u15, u16, u17, u18, u19, u20, u21, u22, u23, u24, u25, u26, u27, u28, u29, u30, u31, u32, u33, u34, u35, u36, u37, u38, u39, u40, u41, u42, u43, u44, u45, u46, u47, u48, u49, u50, u51, u52, u53, u54, u55, u56, u57, u58, u59, u60, u61, u62, u63, u64, u65, u66, u67, u68, u69, u70, u71, u72, u73, u74, u75, u76, u77, u78, u79, u80, u81, u82, u83, u84, u85, u86, u87, u88, u89, u90, u91, u92, u93, u94, u95, u96, u97, u98, u99, u100, u101, u102, u103, u104, u105, u106, u107, u108, u109, u110, u111, u112, u113, u114, u115, u116, u117, u118, u119, u120, u121, u122, u123, u124, u125, u126, u127, u128, u129, u130, u131, u132, u133, u134]) (a : Array Value) (hs : a.size = 135) : P a := by
  obtain ⟨l⟩ := a
  have g0 : l.length = 135 := hs
  clear hs
  obtain ⟨u0, l0, e0, g1⟩ := Pal.len_cons g0
  obtain ⟨u1, l1, e1, g2⟩ := Pal.len_cons g1
  obtain ⟨u2, l2, e2, g3⟩ := Pal.len_cons g2
  obtain ⟨u3, l3, e3, g4⟩ := Pal.len_cons g3
  obtain ⟨u4, l4, e4, g5⟩ := Pal.len_cons g4
  obtain ⟨u5, l5, e5, g6⟩ := Pal.len_cons g5
  obtain ⟨u6, l6, e6, g7⟩ := Pal.len_cons g6
  obtain ⟨u7, l7, e7, g8⟩ := Pal.len_cons g7
  obtain ⟨u8, l8, e8, g9⟩ := Pal.len_cons g8
  obtain ⟨u9, l9, e9, g10⟩ := Pal.len_cons g9
  obtain ⟨u10, l10, e10, g11⟩ := Pal.len_cons g10
  obtain ⟨u11, l11, e11, g12⟩ := Pal.len_cons g11
  obtain ⟨u12, l12, e12, g13⟩ := Pal.len_cons g12
  obtain ⟨u13, l13, e13, g14⟩ := Pal.len_cons g13
  obtain ⟨u14, l14, e14, g15⟩ := Pal.len_cons g14
  obtain ⟨u15, l15, e15, g16⟩ := Pal.len_cons g15
  obtain ⟨u16, l16, e16, g17⟩ := Pal.len_cons g16
  obtain ⟨u17, l17, e17, g18⟩ := Pal.len_cons g17
  obtain ⟨u18, l18, e18, g19⟩ := Pal.len_cons g18
  obtain ⟨u19, l19, e19, g20⟩ := Pal.len_cons g19
  obtain ⟨u20, l20, e20, g21⟩ := Pal.len_cons g20
  obtain ⟨u21, l21, e21, g22⟩ := Pal.len_cons g21
  obtain ⟨u22, l22, e22, g23⟩ := Pal.len_cons g22
  obtain ⟨u23, l23, e23, g24⟩ := Pal.len_cons g23
  obtain ⟨u24, l24, e24, g25⟩ := Pal.len_cons g24
  obtain ⟨u25, l25, e25, g26⟩ := Pal.len_cons g25
  obtain ⟨u26, l26, e26, g27⟩ := Pal.len_cons g26
  obtain ⟨u27, l27, e27, g28⟩ := Pal.len_cons g27
  obtain ⟨u28, l28, e28, g29⟩ := Pal.len_cons g28
  obtain ⟨u29, l29, e29, g30⟩ := Pal.len_cons g29
  obtain ⟨u30, l30, e30, g31⟩ := Pal.len_cons g30
  obtain ⟨u31, l31, e31, g32⟩ := Pal.len_cons g31
  obtain ⟨u32, l32, e32, g33⟩ := Pal.len_cons g32
  obtain ⟨u33, l33, e33, g34⟩ := Pal.len_cons g33
  obtain ⟨u34, l34, e34, g35⟩ := Pal.len_cons g34
  obtain ⟨u35, l35, e35, g36⟩ := Pal.len_cons g35
  obtain ⟨u36, l36, e36, g37⟩ := Pal.len_cons g36
  obtain ⟨u37, l37, e37, g38⟩ := Pal.len_cons g37
  obtain ⟨u38, l38, e38, g39⟩ := Pal.len_cons g38
  obtain ⟨u39, l39, e39, g40⟩ := Pal.len_cons g39
  obtain ⟨u40, l40, e40, g41⟩ := Pal.len_cons g40
  obtain ⟨u41, l41, e41, g42⟩ := Pal.len_cons g41
  obtain ⟨u42, l42, e42, g43⟩ := Pal.len_cons g42
  obtain ⟨u43, l43, e43, g44⟩ := Pal.len_cons g43
  obtain ⟨u44, l44, e44, g45⟩ := Pal.len_cons g44
  obtain ⟨u45, l45, e45, g46⟩ := Pal.len_cons g45
  obtain ⟨u46, l46, e46, g47⟩ := Pal.len_cons g46
  obtain ⟨u47, l47, e47, g48⟩ := Pal.len_cons g47
  obtain ⟨u48, l48, e48, g49⟩ := Pal.len_cons g48
  obtain ⟨u49, l49, e49, g50⟩ := Pal.len_cons g49
  obtain ⟨u50, l50, e50, g51⟩ := Pal.len_cons g50
  obtain ⟨u51, l51, e51, g52⟩ := Pal.len_cons g51
  obtain ⟨u52, l52, e52, g53⟩ := Pal.len_cons g52
  obtain ⟨u53, l53, e53, g54⟩ := Pal.len_cons g53
  obtain ⟨u54, l54, e54, g55⟩ := Pal.len_cons g54
  obtain ⟨u55, l55, e55, g56⟩ := Pal.len_cons g55
  obtain ⟨u56, l56, e56, g57⟩ := Pal.len_cons g56
  obtain ⟨u57, l57, e57, g58⟩ := Pal.len_cons g57
  obtain ⟨u58, l58, e58, g59⟩ := Pal.len_cons g58
  obtain ⟨u59, l59, e59, g60⟩ := Pal.len_cons g59
  obtain ⟨u60, l60, e60, g61⟩ := Pal.len_cons g60
  obtain ⟨u61, l61, e61, g62⟩ := Pal.len_cons g61
  obtain ⟨u62, l62, e62, g63⟩ := Pal.len_cons g62
  obtain ⟨u63, l63, e63, g64⟩ := Pal.len_cons g63
  obtain ⟨u64, l64, e64, g65⟩ := Pal.len_cons g64
  obtain ⟨u65, l65, e65, g66⟩ := Pal.len_cons g65
  obtain ⟨u66, l66, e66, g67⟩ := Pal.len_cons g66
  obtain ⟨u67, l67, e67, g68⟩ := Pal.len_cons g67
  obtain ⟨u68, l68, e68, g69⟩ := Pal.len_cons g68
  obtain ⟨u69, l69, e69, g70⟩ := Pal.len_cons g69
  obtain ⟨u70, l70, e70, g71⟩ := Pal.len_cons g70
  obtain ⟨u71, l71, e71, g72⟩ := Pal.len_cons g71
  obtain ⟨u72, l72, e72, g73⟩ := Pal.len_cons g72
  obtain ⟨u73, l73, e73, g74⟩ := Pal.len_cons g73
  obtain ⟨u74, l74, e74, g75⟩ := Pal.len_cons g74
  obtain ⟨u75, l75, e75, g76⟩ := Pal.len_cons g75
  obtain ⟨u76, l76, e76, g77⟩ := Pal.len_cons g76
  obtain ⟨u77, l77, e77, g78⟩ := Pal.len_cons g77
  obtain ⟨u78, l78, e78, g79⟩ := Pal.len_cons g78
  obtain ⟨u79, l79, e79, g80⟩ := Pal.len_cons g79
  obtain ⟨u80, l80, e80, g81⟩ := Pal.len_cons g80
  obtain ⟨u81, l81, e81, g82⟩ := Pal.len_cons g81
  obtain ⟨u82, l82, e82, g83⟩ := Pal.len_cons g82
  obtain ⟨u83, l83, e83, g84⟩ := Pal.len_cons g83
  obtain ⟨u84, l84, e84, g85⟩ := Pal.len_cons g84
  obtain ⟨u85, l85, e85, g86⟩ := Pal.len_cons g85
  obtain ⟨u86, l86, e86, g87⟩ := Pal.len_cons g86
  obtain ⟨u87, l87, e87, g88⟩ := Pal.len_cons g87
  obtain ⟨u88, l88, e88, g89⟩ := Pal.len_cons g88
  obtain ⟨u89, l89, e89, g90⟩ := Pal.len_cons g89
  obtain ⟨u90, l90, e90, g91⟩ := Pal.len_cons g90
  obtain ⟨u91, l91, e91, g92⟩ := Pal.len_cons g91
  obtain ⟨u92, l92, e92, g93⟩ := Pal.len_cons g92
  obtain ⟨u93, l93, e93, g94⟩ := Pal.len_cons g93
  obtain ⟨u94, l94, e94, g95⟩ := Pal.len_cons g94
  obtain ⟨u95, l95, e95, g96⟩ := Pal.len_cons g95
  obtain ⟨u96, l96, e96, g97⟩ := Pal.len_cons g96
  obtain ⟨u97, l97, e97, g98⟩ := Pal.len_cons g97
  obtain ⟨u98, l98, e98, g99⟩ := Pal.len_cons g98
  obtain ⟨u99, l99, e99, g100⟩ := Pal.len_cons g99
  obtain ⟨u100, l100, e100, g101⟩ := Pal.len_cons g100
  obtain ⟨u101, l101, e101, g102⟩ := Pal.len_cons g101
  obtain ⟨u102, l102, e102, g103⟩ := Pal.len_cons g102
  obtain ⟨u103, l103, e103, g104⟩ := Pal.len_cons g103
  obtain ⟨u104, l104, e104, g105⟩ := Pal.len_cons g104
  obtain ⟨u105, l105, e105, g106⟩ := Pal.len_cons g105
  obtain ⟨u106, l106, e106, g107⟩ := Pal.len_cons g106
  obtain ⟨u107, l107, e107, g108⟩ := Pal.len_cons g107
  obtain ⟨u108, l108, e108, g109⟩ := Pal.len_cons g108
  obtain ⟨u109, l109, e109, g110⟩ := Pal.len_cons g109
  obtain ⟨u110, l110, e110, g111⟩ := Pal.len_cons g110
  obtain ⟨u111, l111, e111, g112⟩ := Pal.len_cons g111
  obtain ⟨u112, l112, e112, g113⟩ := Pal.len_cons g112
  obtain ⟨u113, l113, e113, g114⟩ := Pal.len_cons g113
  obtain ⟨u114, l114, e114, g115⟩ := Pal.len_cons g114
  obtain ⟨u115, l115, e115, g116⟩ := Pal.len_cons g115
  obtain ⟨u116, l116, e116, g117⟩ := Pal.len_cons g116
  obtain ⟨u117, l117, e117, g118⟩ := Pal.len_cons g117
  obtain ⟨u118, l118, e118, g119⟩ := Pal.len_cons g118
  obtain ⟨u119, l119, e119, g120⟩ := Pal.len_cons g119
  obtain ⟨u120, l120, e120, g121⟩ := Pal.len_cons g120
  obtain ⟨u121, l121, e121, g122⟩ := Pal.len_cons g121
  obtain ⟨u122, l122, e122, g123⟩ := Pal.len_cons g122
  obtain ⟨u123, l123, e123, g124⟩ := Pal.len_cons g123
  obtain ⟨u124, l124, e124, g125⟩ := Pal.len_cons g124
  obtain ⟨u125, l125, e125, g126⟩ := Pal.len_cons g125
  obtain ⟨u126, l126, e126, g127⟩ := Pal.len_cons g126
  obtain ⟨u127, l127, e127, g128⟩ := Pal.len_cons g127
  obtain ⟨u128, l128, e128, g129⟩ := Pal.len_cons g128
  obtain ⟨u129, l129, e129, g130⟩ := Pal.len_cons g129
  obtain ⟨u130, l130, e130, g131⟩ := Pal.len_cons g130
  obtain ⟨u131, l131, e131, g132⟩ := Pal.len_cons g131
  obtain ⟨u132, l132, e132, g133⟩ := Pal.len_cons g132
  obtain ⟨u133, l133, e133, g134⟩ := Pal.len_cons g133
  obtain ⟨u134, l134, e134, g135⟩ := Pal.len_cons g134
  obtain rfl := List.eq_nil_of_length_eq_zero g135
  have e : (⟨l⟩ : Array Value) = #[u0, u1, u2, u3, u4, u5, u6, u7, u8, u9, u10, u11, u12, u13, u14, u15, u16, u17, u18, u19, u20, u21, u22, u23, u24, u25, u26, u27, u28, u29, u30, u31, u32, u33, u34, u35, u36, u37, u38, u39, u40, u41, u42, u43, u44, u45, u46, u47, u48, u49, u50, u51, u52, u53, u54, u55, u56, u57, u58, u59, u60, u61, u62, u63, u64, u65, u66, u67, u68, u69, u70, u71, u72, u73, u74, u75, u76, u77, u78, u79, u80, u81, u82, u83, u84, u85, u86, u87, u88, u89, u90, u91, u92, u93, u94, u95, u96, u97, u98, u99, u100, u101, u102, u103, u104, u105, u106, u107, u108, u109, u110, u111, u112, u113, u114, u115, u116, u117, u118, u119, u120, u121, u122, u123, u124, u125, u126, u127, u128, u129, u130, u131, u132, u133, u134] := by rw [e0, e1, e2, e3, e4, e5, e6, e7, e8, e9, e10, e11, e12, e13, e14, e15, e16, e17, e18, e19, e20, e21, e22, e23, e24, e25, e26, e27, e28, e29, e30, e31, e32, e33, e34, e35, e36, e37, e38, e39, e40, e41, e42, e43, e44, e45, e46, e47, e48, e49, e50, e51, e52, e53, e54, e55, e56, e57, e58, e59, e60, e61, e62, e63, e64, e65, e66, e67, e68, e69, e70, e71, e72, e73, e74, e75, e76, e77, e78, e79, e80, e81, e82, e83, e84, e85, e86, e87, e88, e89, e90, e91, e92, e93, e94, e95, e96, e97, e98, e99, e100, e101, e102, e103, e104, e105, e106, e107, e108, e109, e110, e111, e112, e113, e114, e115, e116, e117, e118, e119, e120, e121, e122, e123, e124, e125, e126, e127, e128, e129, e130, e131, e132, e133, e134]
  rw [e]
  exact h u0 u1 u2 u3 u4 u5 u6 u7 u8 u9 u10 u11 u12 u13 u14 u15 u16 u17 u18 u19 u20 u21 u22 u23 u24 u25 u26 u27 u28 u29 u30 u31 u32 u33 u34 u35 u36 u37 u38 u39 u40 u41 u42 u43 u44 u45 u46 u47 u48 u49 u50 u51 u52 u53 u54 u55 u56 u57 u58 u59 u60 u61 u62 u63 u64 u65 u66 u67 u68 u69 u70 u71 u72 u73 u74 u75 u76 u77 u78 u79 u80 u81 u82 u83 u84 u85 u86 u87 u88 u89 u90 u91 u92 u93 u94 u95 u96 u97 u98 u99 u100 u101 u102 u103 u104 u105 u106 u107 u108 u109 u110 u111 u112 u113 u114 u115 u116 u117 u118 u119 u120 u121 u122 u123 u124 u125 u126 u127 u128 u129 u130 u131 u132 u133 u134

def Act1 (l : Value) (bd i : Nat) (a : Act) : Prop := a.tmps.size = 135 ∧ a.tmps[1]? = some (l) ∧ a.tmps[5]? = some (.bool true) ∧ a.tmps[6]? = some (ptr bd) ∧ a.tmps[7]? = some (.int .i64 (i : Int)) ∧ a.defers = []
def Inv1 (w0 : World) (l : Value) (M bd : Nat) (m : Nat) (a : Act) (w : World) : Prop :=
  ∃ i d, m = M - i ∧ i ≤ M ∧ Act1 l bd i a ∧ One w0 w bd d ∧ d.n ≤ i ∧ bndS (Dint.shape d)
def FrA (bd : Nat) (a : Act) : Prop := a.tmps.size = 135 ∧ a.tmps[5]? = some (.bool true) ∧ a.tmps[6]? = some (ptr bd) ∧ a.defers = []
/-- Behind the acts. -/
def Post1 (w0 : World) (bd : Nat) (e : Exit) (a : Act) (w : World) : Prop :=
  e = .normal ∧ FrA bd a ∧ ∃ d, One w0 w bd d ∧ d.n ≤ 100 ∧ bndS (Dint.shape d)
def FrB (bd : Nat) (L : Int) (a : Act) : Prop := a.tmps.size = 135 ∧ a.tmps[5]? = some (.bool true) ∧ a.tmps[6]? = some (ptr bd) ∧ a.tmps[8]? = some (.int .i64 L) ∧ a.defers = []
def Post2 (w0 : World) (bd : Nat) (d : Dm) (L : Int) (e : Exit) (a : Act) (w : World) : Prop := e = .normal ∧ FrB bd L a ∧ One w0 w bd d
def Act2 (bd : Nat) (L : Int) (u o : Value) (A k : Nat) (a : Act) : Prop := a.tmps.size = 135 ∧ a.tmps[5]? = some (.bool true) ∧ a.tmps[6]? = some (ptr bd) ∧ a.tmps[8]? = some (.int .i64 L) ∧ a.tmps[11]? = some (u) ∧ a.tmps[12]? = some (o) ∧ a.tmps[13]? = some (.int .u32 ((curW A k : Nat) : Int)) ∧ a.tmps[14]? = some (.int .i64 (k : Int)) ∧ a.defers = []
def Inv2 (w0 : World) (bd : Nat) (d : Dm) (L : Int) (u : Value) (b0 : Nat) (M3 : Nat) (m : Nat) (a : Act) (w : World) : Prop :=
  ∃ k o, m = 2 ^ scanA d - k ∧ M3 ≤ w.heap.size ∧ k ≤ 2 ^ scanA d ∧ Act2 bd L u o (scanA d) k a ∧ One w0 w bd d ∧ Strs w b0 u (allL d) ∧ Strs w M3 o (allN d k)
def FrC (bd : Nat) (L : Int) (u o : Value) (a : Act) : Prop := a.tmps.size = 135 ∧ a.tmps[5]? = some (.bool true) ∧ a.tmps[6]? = some (ptr bd) ∧ a.tmps[8]? = some (.int .i64 L) ∧ a.tmps[11]? = some (u) ∧ a.tmps[12]? = some (o) ∧ a.tmps[13]? = some (.int .u32 0) ∧ a.tmps[14]? = some (.int .i64 L) ∧ a.defers = []
def Post3 (w0 : World) (bd : Nat) (d : Dm) (L : Int) (b0 : Nat) (e : Exit) (a : Act) (w : World) : Prop :=
  e = .normal ∧ ∃ u o, FrC bd L u o a ∧ One w0 w bd d ∧ Strs w b0 u (allL d) ∧ Strs w b0 o (allL d)
def Act3' (bd : Nat) (L : Int) (u o : Value) (i : Nat) (a : Act) : Prop := a.tmps.size = 135 ∧ a.tmps[5]? = some (.bool true) ∧ a.tmps[6]? = some (ptr bd) ∧ a.tmps[8]? = some (.int .i64 L) ∧ a.tmps[11]? = some (u) ∧ a.tmps[12]? = some (o) ∧ a.tmps[13]? = some (.int .u32 0) ∧ a.tmps[14]? = some (.int .i64 L) ∧ a.tmps[17]? = some (.int .i64 (i : Int)) ∧ a.defers = []
def Inv3 (w0 w1 : World) (bd : Nat) (L : Int) (u o : Value) (M : Nat) (m : Nat) (a : Act) (w : World) : Prop :=
  ∃ i, m = M - i ∧ i ≤ M ∧ Act3' bd L u o i a ∧ Chg (fun _ => False) w1 w
def Act4 (bd : Nat) (L : Int) (u o : Value) (i j : Nat) (a : Act) : Prop := a.tmps.size = 135 ∧ a.tmps[5]? = some (.bool true) ∧ a.tmps[6]? = some (ptr bd) ∧ a.tmps[8]? = some (.int .i64 L) ∧ a.tmps[11]? = some (u) ∧ a.tmps[12]? = some (o) ∧ a.tmps[13]? = some (.int .u32 0) ∧ a.tmps[14]? = some (.int .i64 L) ∧ a.tmps[17]? = some (.int .i64 (i : Int)) ∧ a.tmps[18]? = some (.int .i64 (j : Int)) ∧ a.defers = []
def Inv4 (w1 : World) (bd : Nat) (L : Int) (u o : Value) (i : Nat) (m : Nat) (a : Act) (w : World) : Prop :=
  ∃ j, m = i - j ∧ j ≤ i ∧ Act4 bd L u o i j a ∧ Chg (fun _ => False) w1 w

set_option maxRecDepth 100000 in
set_option maxHeartbeats 4000000 in
theorem walk (s1 : Nat) (h1 : s1 < 4294967296) (v : Value) (n : Nat) (g : Nat → Act3) (w : World) (hv : ActsAt w v n g) :
    Calls Try.prog 13 #[.int .u32 (s1 : Int), v] w fun e w' => e = .returned (.bool true) ∧ Chg (fun _ => False) w w' := by
  go_enter Try.func13, Try.ntmps13
  go_wp2_with fail
  refine (shown08_any w).mono ?_
  rintro e w1 ⟨rfl, rfl⟩
  go_wp2_with fail
  refine (new_1 (Chg.refl _ w) s1 h1).mono ?_
  rintro e w2 ⟨bd, d0, rfl, hT, dn, _, dsh, _, _⟩
  go_upto_block 0 with (fail)
  refine wp_mono (Q := Post1 w bd) ?_ ?_
  · go_wp2_with fail
    refine wp_loop_ghost (Inv1 w v (min n 100) bd) (min n 100) ?_ ?_
    · exact ⟨0, d0, rfl, Nat.zero_le _, ⟨rfl, rfl, rfl, rfl, rfl, rfl⟩, hT, Nat.le_of_eq dn, by rw [dsh]; exact ⟨by decide, fun l e => by cases e⟩⟩
    · clear hT dn dsh
      rintro m ⟨tmps, ds⟩ W ⟨i, d, rfl, hi, ⟨hsz, t1, t5, t6, t7, rfl⟩, hT, hS, hbd⟩
      replace hsz : tmps.size = 135 := hsz
      dsimp only at t1 t5 t6 t7
      revert t1 t5 t6 t7
      revert hsz
      revert tmps
      refine all135 ?_
      intro u0 u1 u2 u3 u4 u5 u6 u7 u8 u9 u10 u11 u12 u13 u14 u15 u16 u17 u18 u19 u20 u21 u22 u23 u24 u25 u26 u27 u28 u29 u30 u31 u32 u33 u34 u35 u36 u37 u38 u39 u40 u41 u42 u43 u44 u45 u46 u47 u48 u49 u50 u51 u52 u53 u54 u55 u56 u57 u58 u59 u60 u61 u62 u63 u64 u65 u66 u67 u68 u69 u70 u71 u72 u73 u74 u75 u76 u77 u78 u79 u80 u81 u82 u83 u84 u85 u86 u87 u88 u89 u90 u91 u92 u93 u94 u95 u96 u97 u98 u99 u100 u101 u102 u103 u104 u105 u106 u107 u108 u109 u110 u111 u112 u113 u114 u115 u116 u117 u118 u119 u120 u121 u122 u123 u124 u125 u126 u127 u128 u129 u130 u131 u132 u133 u134 t1 t5 t6 t7
      simp only [ptr, List.getElem?_toArray, List.getElem?_cons_zero, List.getElem?_cons_succ, Option.some.injEq] at t1 t5 t6 t7
      subst t1 t5 t6 t7
      obtain ⟨p, cap, rfl⟩ := hv.is
      have hle := hv.le
      have hdn2 : d.n ≤ 100000 := by omega
      by_cases hin : i < n
      · have hin' : (i : Int) < (n : Int) := by omega
        by_cases hi1 : i < 100
        · have hi' : (i : Int) < 100 := by omega
          have hv' := hv.chg hT.chg
          obtain ⟨b, o, cap', heq, _⟩ := hv'.at_ i hin
          injection heq with heq hx hcap
          subst heq hcap
          clear hx
          obtain ⟨hb, q0, q1, q2, f1⟩ := acts3 hv' hin
          have ha := acted_1 hT (g i) f1 hdn2
          go_wp2_with fail
          refine ha.mono ?_
          rintro e5 W5 ⟨⟨v5, rfl⟩, d', hT1, hA⟩
          have hn' := acts_n hA
          have hb' := acts_bnd hA hbd (by omega)
          go_wp2_with fail
          exact ⟨min n 100 - (i + 1), by omega, i + 1, d', rfl, by omega, ⟨rfl, rfl, rfl, rfl, rfl, rfl⟩, hT1, by omega, hb'⟩
        · have hi' : ((i : Int) < 100) = False := by simp only [eq_iff_iff, iff_false]; omega
          clear hi1
          go_wp2_with fail
          exact ⟨rfl, ⟨rfl, rfl, rfl, rfl⟩, d, hT, by omega, hbd⟩
      · have hin' : ((i : Int) < (n : Int)) = False := by simp only [eq_iff_iff, iff_false]; omega
        have hin2 : (i < n) = False := by simp only [eq_iff_iff, iff_false]; omega
        have hn100 : d.n ≤ 100 := by omega
        clear hin
        go_wp2_with fail
        exact ⟨rfl, ⟨rfl, rfl, rfl, rfl⟩, d, hT, hn100, hbd⟩
  · clear hT dn dsh
    rintro e ⟨tmps, ds⟩ W ⟨rfl, ⟨hsz, t5, t6, rfl⟩, d, hT, hn, hbd⟩
    replace hsz : tmps.size = 135 := hsz
    dsimp only at t5 t6
    revert t5 t6
    revert hsz
    revert tmps
    refine all135 ?_
    intro u0 u1 u2 u3 u4 u5 u6 u7 u8 u9 u10 u11 u12 u13 u14 u15 u16 u17 u18 u19 u20 u21 u22 u23 u24 u25 u26 u27 u28 u29 u30 u31 u32 u33 u34 u35 u36 u37 u38 u39 u40 u41 u42 u43 u44 u45 u46 u47 u48 u49 u50 u51 u52 u53 u54 u55 u56 u57 u58 u59 u60 u61 u62 u63 u64 u65 u66 u67 u68 u69 u70 u71 u72 u73 u74 u75 u76 u77 u78 u79 u80 u81 u82 u83 u84 u85 u86 u87 u88 u89 u90 u91 u92 u93 u94 u95 u96 u97 u98 u99 u100 u101 u102 u103 u104 u105 u106 u107 u108 u109 u110 u111 u112 u113 u114 u115 u116 u117 u118 u119 u120 u121 u122 u123 u124 u125 u126 u127 u128 u129 u130 u131 u132 u133 u134 t5 t6
    simp only [ptr, List.getElem?_toArray, List.getElem?_cons_zero, List.getElem?_cons_succ, Option.some.injEq] at t5 t6
    subst t5 t6
    have hok := hT.md.ok
    have hA512 := bnd_A hok hbd
    have hA2 := scanA_le hok
    have hpow : 1 ≤ 2 ^ scanA d := Nat.one_le_two_pow
    have hz := sizes_1 hT
    obtain ⟨L, hL⟩ : ∃ L : Int, L = ((2 ^ scanA d : Nat) : Int) := ⟨_, rfl⟩
    obtain ⟨xa, hxa⟩ : ∃ xa : Int, ((Dint.shape d).1 : Int) = xa := ⟨_, rfl⟩
    obtain ⟨xb, hxb⟩ : ∃ xb : Int, (((Dint.shape d).2.1.getD 0 : Nat) : Int) = xb := ⟨_, rfl⟩
    rw [hxa, hxb] at hz
    have hx : (¬ xb > 0 ∧ xa = L) ∨ (xb > 0 ∧ Hid (min xa xb = L)) := by
      cases ht : d.t1 with
      | none =>
        have hl := (scan_none hok ht).1
        have hb0 : (((Dint.shape d).2.1.getD 0 : Nat) : Int) = 0 := by unfold Dint.shape; rw [ht]; rfl
        have ha0 : ((Dint.shape d).1 : Int) = L := by rw [hL, ← hl]; rfl
        exact .inl ⟨by omega, by omega⟩
      | some t =>
        have hl := (scan_some hok ht).2.2.2
        have hb0 : (((Dint.shape d).2.1.getD 0 : Nat) : Int) = (t.len : Int) := by unfold Dint.shape; rw [ht]; rfl
        have ha0 : ((Dint.shape d).1 : Int) = (d.t0.len : Int) := rfl
        have hp1 := (hok.s1 t ht).pos
        have hab := (scan_some hok ht).2.1
        have hpw : (2 : Nat) ^ scanA d ≤ 2 ^ scanB d := pow_mono hab
        refine .inr ⟨by omega, ?_⟩
        show _ = _
        rw [← hxa, ← hxb, hb0, ha0]
        rcases hl with ⟨_, e1, e2⟩ | ⟨_, e1, e2, _⟩ <;> omega
    have hlb : xa ≤ 65536 ∧ 0 ≤ xa ∧ xb ≤ 65536 ∧ 0 ≤ xb := by
      have h0 := hok.s0.pos
      have h1 : (Dint.shape d).2.1.getD 0 ≤ 65536 := by
        cases ht : d.t1 with
        | none => unfold Dint.shape; rw [ht]; exact Nat.zero_le _
        | some t => have := (hok.s1 t ht).pos; unfold Dint.shape; rw [ht]; show t.len ≤ _; omega
      have h2 : (Dint.shape d).1 = d.t0.len := rfl
      omega
    obtain ⟨xl1, xl2, xl3, xl4⟩ := hlb
    clear hxa hxb
    go_wp2_with fail
    refine hz.mono ?_
    rintro e2 W2 ⟨rfl, hT2, _⟩
    clear hz
    go_upto_if 48 with (fail)
    refine wp_mono (Q := Post2 w bd d L) ?_ ?_
    · clear hL
      rcases hx with ⟨hx1, rfl⟩ | ⟨hx1, hmin⟩
      · go_wp2_with fail
        exact ⟨rfl, ⟨rfl, rfl, rfl, rfl, rfl⟩, hT2⟩
      · go_wp2_with fail
        exact ⟨rfl, ⟨rfl, rfl, rfl, congrArg (fun z => some (Value.int .i64 z)) hmin.out, rfl⟩, hT2⟩
    · rintro e ⟨tmps, ds⟩ W3 ⟨rfl, ⟨hsz, t5, t6, t8, rfl⟩, hT3⟩
      replace hsz : tmps.size = 135 := hsz
      dsimp only at t5 t6 t8
      revert t5 t6 t8
      revert hsz
      revert tmps
      refine all135 ?_
      intro u0 u1 u2 u3 u4 u5 u6 u7 u8 u9 u10 u11 u12 u13 u14 u15 u16 u17 u18 u19 u20 u21 u22 u23 u24 u25 u26 u27 u28 u29 u30 u31 u32 u33 u34 u35 u36 u37 u38 u39 u40 u41 u42 u43 u44 u45 u46 u47 u48 u49 u50 u51 u52 u53 u54 u55 u56 u57 u58 u59 u60 u61 u62 u63 u64 u65 u66 u67 u68 u69 u70 u71 u72 u73 u74 u75 u76 u77 u78 u79 u80 u81 u82 u83 u84 u85 u86 u87 u88 u89 u90 u91 u92 u93 u94 u95 u96 u97 u98 u99 u100 u101 u102 u103 u104 u105 u106 u107 u108 u109 u110 u111 u112 u113 u114 u115 u116 u117 u118 u119 u120 u121 u122 u123 u124 u125 u126 u127 u128 u129 u130 u131 u132 u133 u134 t5 t6 t8
      simp only [ptr, List.getElem?_toArray, List.getElem?_cons_zero, List.getElem?_cons_succ, Option.some.injEq] at t5 t6 t8
      subst t5 t6 t8
      have hal := all_1 hT3 (by omega)
      have hL1 : 1 ≤ L := by rw [hL]; exact_mod_cast hpow
      have hL5 : L ≤ 512 := by rw [hL]; exact_mod_cast hA512
      have HLL := Lib.hid hL
      clear hL hT2 hx
      go_wp2_with fail
      refine hal.mono ?_
      rintro e3 W4 ⟨⟨u, rfl, hu⟩, hT4, hc34⟩
      clear hal
      go_upto_block 2 with (fail)
      refine wp_mono (Q := Post3 w bd d L W3.heap.size) ?_ ?_
      · go_wp2_with fail
        refine wp_loop_ghost (Inv2 w bd d L u W3.heap.size W4.heap.size) (2 ^ scanA d) ?_ ?_
        · have e0 : curW (scanA d) 0 = 0 := by rw [curW_eq hpow, cur_zero]
          exact ⟨0, _, by omega, Nat.le_refl _, Nat.zero_le _, ⟨rfl, rfl, rfl, rfl, rfl, rfl, by rw [e0]; rfl, rfl, rfl⟩, hT4, hu, Strs.nil _ _⟩
        · have hfoot : ∀ g, d.foot g → g < W4.heap.size := fun g hg => hT4.md.lt hg
          have hul : ∀ g, u.ownBlock = some g → g < W4.heap.size := fun g hg => (hu.lt g hg).2
          have hww : w.heap.size ≤ W4.heap.size := hT4.chg.size
          clear hT3 hT4 hu
          rintro m ⟨tmps, ds⟩ W5 ⟨k, o, rfl, hM5, hk, ⟨hsz, t5, t6, t8, t11, t12, t13, t14, rfl⟩, hT5, hu, ho⟩
          replace hsz : tmps.size = 135 := hsz
          dsimp only at t5 t6 t8 t11 t12 t13 t14
          revert t5 t6 t8 t11 t12 t13 t14
          revert hsz
          revert tmps
          refine all135 ?_
          intro u0 u1 u2 u3 u4 u5 u6 u7 u8 u9 u10 u11 u12 u13 u14 u15 u16 u17 u18 u19 u20 u21 u22 u23 u24 u25 u26 u27 u28 u29 u30 u31 u32 u33 u34 u35 u36 u37 u38 u39 u40 u41 u42 u43 u44 u45 u46 u47 u48 u49 u50 u51 u52 u53 u54 u55 u56 u57 u58 u59 u60 u61 u62 u63 u64 u65 u66 u67 u68 u69 u70 u71 u72 u73 u74 u75 u76 u77 u78 u79 u80 u81 u82 u83 u84 u85 u86 u87 u88 u89 u90 u91 u92 u93 u94 u95 u96 u97 u98 u99 u100 u101 u102 u103 u104 u105 u106 u107 u108 u109 u110 u111 u112 u113 u114 u115 u116 u117 u118 u119 u120 u121 u122 u123 u124 u125 u126 u127 u128 u129 u130 u131 u132 u133 u134 t5 t6 t8 t11 t12 t13 t14
          simp only [ptr, List.getElem?_toArray, List.getElem?_cons_zero, List.getElem?_cons_succ, Option.some.injEq] at t5 t6 t8 t11 t12 t13 t14
          subst t5 t6 t8 t11 t12 t13 t14
          have hk512 : (k : Int) ≤ 512 := by omega
          by_cases hkl : k = 2 ^ scanA d
          · have hLk : Hid ((k : Int) = L) := by show _ = _; rw [HLL.out, hkl]
            have hc0 : curW (scanA d) k = 0 := by rw [hkl, curW_full]
            have ho' : Strs W5 W3.heap.size u12 (allL d) := by rw [hkl] at ho; exact ho.lower hc34.size
            rw [hc0]
            have hk0 : ((k : Int) == 0) = false := by rw [beq_eq_false_iff_ne]; omega
            have hk1 : ¬ (k : Int) = 0 := by omega
            clear hkl hc0 hk ho hA512 hpow
            go_wp2_with fail
            exact ⟨rfl, u11, u12, ⟨rfl, rfl, rfl, rfl, rfl, rfl, rfl, congrArg (fun z => some (Value.int .i64 z)) hLk.out, rfl⟩, hT5, hu, ho'⟩
          · have hklt : k < 2 ^ scanA d := by omega
            have hn1 : d.n ≤ 100000 := by omega
            have hsc := scan_1 hT5 (curW (scanA d) k) (curW_lt32 _ _) hn1
            rw [curW_eq hklt, scanC_cur hok hklt] at hsc
            have hl1 := allN_len hok (k := k + 1) (by omega)
            rw [allN_succ, List.length_append] at hl1
            have HSU := Lib.hid (allN_succ d k)
            have hA' : (allN d k).length + (scanL d (cur (scanA d) k)).length ≤ maxLen := by unfold maxLen; omega
            have hB' : ((allN d k).length + (scanL d (cur (scanA d) k)).length) * 16 ≤ 140737488355328 := by omega
            have hcne : ¬ k = 0 → curW (scanA d) k ≠ 0 := fun h0 => curW_ne (by omega) (by omega) hklt
            rw [curW_eq hklt] at hcne ⊢
            generalize hcc : cur (scanA d) k = cc at *
            by_cases hk0 : k = 0
            · subst hk0
              clear hcne
              go_wp2_with fail
              refine hsc.mono ?_
              rintro e2 W6 ⟨⟨v2, rfl, hs2⟩, hT6, hC2⟩
              have hv2 := ho.chg hC2 (fun _ _ => id)
              have hu2 := hu.chg hC2 (fun _ _ => id)
              obtain ⟨pa, ca, rfl, hpa⟩ := hs2.is
              have hD' : W4.heap.size ≤ W6.heap.size := Nat.le_trans hM5 hC2.size
              obtain ⟨i0, hi0, hz0, hz1, hz2⟩ := info_parts str_info
              clear hsc
              go_wp2_with (at_builtin; refine wpList_append_any _ rfl (.tmp 70) (.tmp 71) 38 rfl W4.heap.size 9 i0 _ 1 16 Try.underlying38 hi0 hz0 hz1 hz2 rfl (by omega) _ _ _ rfl hv2.own W6.heap.size pa _ ca _ rfl hs2.reads (strs_one _) hA' hB' hD' ?_; intro v3 w3 hown3 hg3 hat3)
              have cG := app_chg hv2 hg3
              have hT7 := hT6.chgS cG (fun g hg h' => by have := hfoot g hg; omega) (fun g hg h' => by omega)
              have hu7 := hu2.chg cG (fun g hg h' => by have := hul g hg; omega)
              exact ⟨2 ^ scanA d - (0 + 1), by omega, 0 + 1, _, rfl, Nat.le_trans hD' cG.size, by omega, ⟨rfl, rfl, rfl, rfl, rfl, rfl, rfl, rfl, rfl⟩, hT7, hu7, Strs.mk hown3 (by rw [HSU.out]; simp) (by rw [HSU.out]; simp)⟩
            · have hb0 : ((k : Int) == 0) = false := by rw [beq_eq_false_iff_ne]; omega
              have hc1 : ((cc : Int) == 0) = false := by rw [beq_eq_false_iff_ne]; have := hcne hk0; omega
              have hc2 : ¬ (cc : Int) = 0 := by have := hcne hk0; omega
              have hc3 : ((cc : Int) != 0) = true := by rw [bne_iff_ne]; exact hc2
              have hk5 : (k : Int) < 5000 := by omega
              clear hcne
              go_wp2_with fail
              refine hsc.mono ?_
              rintro e2 W6 ⟨⟨v2, rfl, hs2⟩, hT6, hC2⟩
              have hv2 := ho.chg hC2 (fun _ _ => id)
              have hu2 := hu.chg hC2 (fun _ _ => id)
              obtain ⟨pa, ca, rfl, hpa⟩ := hs2.is
              have hD' : W4.heap.size ≤ W6.heap.size := Nat.le_trans hM5 hC2.size
              obtain ⟨i0, hi0, hz0, hz1, hz2⟩ := info_parts str_info
              clear hsc
              go_wp2_with (at_builtin; refine wpList_append_any _ rfl (.tmp 70) (.tmp 71) 38 rfl W4.heap.size 9 i0 _ 1 16 Try.underlying38 hi0 hz0 hz1 hz2 rfl (by omega) _ _ _ rfl hv2.own W6.heap.size pa _ ca _ rfl hs2.reads (strs_one _) hA' hB' hD' ?_; intro v3 w3 hown3 hg3 hat3)
              have cG := app_chg hv2 hg3
              have hT7 := hT6.chgS cG (fun g hg h' => by have := hfoot g hg; omega) (fun g hg h' => by omega)
              have hu7 := hu2.chg cG (fun g hg h' => by have := hul g hg; omega)
              exact ⟨2 ^ scanA d - (k + 1), by omega, k + 1, _, rfl, Nat.le_trans hD' cG.size, by omega, ⟨rfl, rfl, rfl, rfl, rfl, rfl, rfl, congrArg (fun z => some (Value.int .i64 z)) (by omega), rfl⟩, hT7, hu7, Strs.mk hown3 (by rw [HSU.out]; simp) (by rw [HSU.out]; simp)⟩
      · clear hT3 hT4 hu
        rintro e ⟨tmps, ds⟩ W5 ⟨rfl, u, o, ⟨hsz, t5, t6, t8, t11, t12, t13, t14, rfl⟩, hT5, hu, ho⟩
        replace hsz : tmps.size = 135 := hsz
        dsimp only at t5 t6 t8 t11 t12 t13 t14
        revert t5 t6 t8 t11 t12 t13 t14
        revert hsz
        revert tmps
        refine all135 ?_
        intro u0 u1 u2 u3 u4 u5 u6 u7 u8 u9 u10 u11 u12 u13 u14 u15 u16 u17 u18 u19 u20 u21 u22 u23 u24 u25 u26 u27 u28 u29 u30 u31 u32 u33 u34 u35 u36 u37 u38 u39 u40 u41 u42 u43 u44 u45 u46 u47 u48 u49 u50 u51 u52 u53 u54 u55 u56 u57 u58 u59 u60 u61 u62 u63 u64 u65 u66 u67 u68 u69 u70 u71 u72 u73 u74 u75 u76 u77 u78 u79 u80 u81 u82 u83 u84 u85 u86 u87 u88 u89 u90 u91 u92 u93 u94 u95 u96 u97 u98 u99 u100 u101 u102 u103 u104 u105 u106 u107 u108 u109 u110 u111 u112 u113 u114 u115 u116 u117 u118 u119 u120 u121 u122 u123 u124 u125 u126 u127 u128 u129 u130 u131 u132 u133 u134 t5 t6 t8 t11 t12 t13 t14
        simp only [ptr, List.getElem?_toArray, List.getElem?_cons_zero, List.getElem?_cons_succ, Option.some.injEq] at t5 t6 t8 t11 t12 t13 t14
        subst t5 t6 t8 t11 t12 t13 t14
        obtain ⟨pu, cu, rfl, hlu, hcu, hpu⟩ := hu.is
        have hllen : (allL d).length = d.n := by rw [(allL_perm hok).length_eq, List.length_map, hok.count]
        have hnd : (allL d).Nodup := (allL_perm hok).nodup_iff.2 hok.keys
        have HLEN := Lib.hid hllen
        have hll1 : (allL d).length ≤ 100 := by omega
        clear hllen
        go_wp2_with fail
        refine wp_loop_ghost (Inv3 w W5 bd L (.slice pu (allL d).length cu) u12 (allL d).length) (allL d).length ?_ ?_
        · exact ⟨0, rfl, Nat.zero_le _, ⟨rfl, rfl, rfl, rfl, rfl, rfl, rfl, rfl, rfl, rfl⟩, Chg.refl _ _⟩
        · rintro m ⟨tmps, ds⟩ W6 ⟨i, rfl, hi, ⟨hsz, t5, t6, t8, t11, t12, t13, t14, t17, rfl⟩, hC6⟩
          replace hsz : tmps.size = 135 := hsz
          dsimp only at t5 t6 t8 t11 t12 t13 t14 t17
          revert t5 t6 t8 t11 t12 t13 t14 t17
          revert hsz
          revert tmps
          refine all135 ?_
          intro u0 u1 u2 u3 u4 u5 u6 u7 u8 u9 u10 u11 u12 u13 u14 u15 u16 u17 u18 u19 u20 u21 u22 u23 u24 u25 u26 u27 u28 u29 u30 u31 u32 u33 u34 u35 u36 u37 u38 u39 u40 u41 u42 u43 u44 u45 u46 u47 u48 u49 u50 u51 u52 u53 u54 u55 u56 u57 u58 u59 u60 u61 u62 u63 u64 u65 u66 u67 u68 u69 u70 u71 u72 u73 u74 u75 u76 u77 u78 u79 u80 u81 u82 u83 u84 u85 u86 u87 u88 u89 u90 u91 u92 u93 u94 u95 u96 u97 u98 u99 u100 u101 u102 u103 u104 u105 u106 u107 u108 u109 u110 u111 u112 u113 u114 u115 u116 u117 u118 u119 u120 u121 u122 u123 u124 u125 u126 u127 u128 u129 u130 u131 u132 u133 u134 t5 t6 t8 t11 t12 t13 t14 t17
          simp only [ptr, List.getElem?_toArray, List.getElem?_cons_zero, List.getElem?_cons_succ, Option.some.injEq] at t5 t6 t8 t11 t12 t13 t14 t17
          subst t5 t6 t8 t11 t12 t13 t14 t17
          by_cases hlt : i < (allL d).length
          · have hlt' : (i : Int) < ((allL d).length : Int) := by omega
            have hib : (i : Int) ≤ 100 := by omega
            go_wp2_with fail
            refine wp_loop_ghost (Inv4 W5 bd L (.slice pu (allL d).length cu) u12 i) i ?_ ?_
            · exact ⟨0, rfl, Nat.zero_le _, ⟨rfl, rfl, rfl, rfl, rfl, rfl, rfl, rfl, rfl, rfl, rfl⟩, hC6⟩
            · clear hC6
              rintro m ⟨tmps, ds⟩ W7 ⟨j, rfl, hj, ⟨hsz, t5, t6, t8, t11, t12, t13, t14, t17, t18, rfl⟩, hC7⟩
              replace hsz : tmps.size = 135 := hsz
              dsimp only at t5 t6 t8 t11 t12 t13 t14 t17 t18
              revert t5 t6 t8 t11 t12 t13 t14 t17 t18
              revert hsz
              revert tmps
              refine all135 ?_
              intro u0 u1 u2 u3 u4 u5 u6 u7 u8 u9 u10 u11 u12 u13 u14 u15 u16 u17 u18 u19 u20 u21 u22 u23 u24 u25 u26 u27 u28 u29 u30 u31 u32 u33 u34 u35 u36 u37 u38 u39 u40 u41 u42 u43 u44 u45 u46 u47 u48 u49 u50 u51 u52 u53 u54 u55 u56 u57 u58 u59 u60 u61 u62 u63 u64 u65 u66 u67 u68 u69 u70 u71 u72 u73 u74 u75 u76 u77 u78 u79 u80 u81 u82 u83 u84 u85 u86 u87 u88 u89 u90 u91 u92 u93 u94 u95 u96 u97 u98 u99 u100 u101 u102 u103 u104 u105 u106 u107 u108 u109 u110 u111 u112 u113 u114 u115 u116 u117 u118 u119 u120 u121 u122 u123 u124 u125 u126 u127 u128 u129 u130 u131 u132 u133 u134 t5 t6 t8 t11 t12 t13 t14 t17 t18
              simp only [ptr, List.getElem?_toArray, List.getElem?_cons_zero, List.getElem?_cons_succ, Option.some.injEq] at t5 t6 t8 t11 t12 t13 t14 t17 t18
              subst t5 t6 t8 t11 t12 t13 t14 t17 t18
              by_cases hjl : j < i
              · have hjl' : (j : Int) < (i : Int) := by omega
                have hjb : (j : Int) ≤ 100 := by omega
                have hjn : j < (allL d).length := by omega
                have hu7 := hu.chg hC7 fun _ _ => id
                obtain ⟨gb, rfl, _, g2, g3⟩ := hu7.at_ hlt
                obtain ⟨gb', hgb, _, g4, g5⟩ := hu7.at_ hjn
                injection hgb with hgb
                injection hgb with hgb
                subst hgb
                have hne : ¬ (allL d)[i] = (allL d)[j] := fun e => (List.pairwise_iff_getElem.1 hnd) j i hjn hlt hjl e.symm
                have he2 := toList_ne hne
                have hjn' : (j : Int) < ((allL d).length : Int) := by omega
                generalize (allL d)[i] = ki at g3 hne he2
                generalize (allL d)[j] = kj at g5 hne he2
                go_wp2_with fail
                go_quiet (fail)
                go_wp2_with fail
                exact ⟨i - (j + 1), by omega, j + 1, rfl, by omega, ⟨rfl, rfl, rfl, rfl, rfl, rfl, rfl, rfl, rfl, rfl, rfl⟩, hC7.trans ((Chg.refl _ _).drewN _)⟩
              · have hjl' : ((j : Int) < (i : Int)) = False := by simp only [eq_iff_iff, iff_false]; omega
                have hjl2 : (j < i) = False := by simp only [eq_iff_iff, iff_false]; omega
                clear hjl
                go_wp2_with fail
                exact ⟨(allL d).length - (i + 1), by omega, i + 1, rfl, by omega, ⟨rfl, rfl, rfl, rfl, rfl, rfl, rfl, rfl, rfl, rfl⟩, hC7⟩
          · have hlt' : ((i : Int) < ((allL d).length : Int)) = False := by simp only [eq_iff_iff, iff_false]; omega
            have hlt2 : (i < (allL d).length) = False := by simp only [eq_iff_iff, iff_false]; omega
            have hT6 := hT5.chg0 hC6
            have hu6 := hu.chg hC6 fun _ _ => id
            have ho6 := ho.chg hC6 fun _ _ => id
            clear hlt
            go_wp2_with fail
            refine (Scan_nil 0 W6).mono ?_
            rintro e7 W7 ⟨rfl, hc7⟩
            have hT7 := hT6.chg0 hc7
            have hlen := len_1 hT7
            rw [← HLEN.out] at hlen
            go_wp2_with fail
            refine hlen.mono ?_
            rintro e8 W8 ⟨rfl, rfl⟩
            clear hlen
            have htx := Texts_any _ _ _ _ _ _ W7 (hu6.chg hc7 fun _ _ => id) (ho6.chg hc7 fun _ _ => id)
            simp only [decide_true] at htx
            go_wp2_with fail
            refine htx.mono ?_
            rintro e9 W9 ⟨rfl, hc9⟩
            clear htx
            go_wp2_with fail
            refine (All_nil W9).mono ?_
            rintro e10 W10 ⟨⟨va, rfl, hva⟩, hc10⟩
            obtain ⟨pv, cv, rfl, _⟩ := hva.is
            go_wp2_with fail
            go_ret
            exact ⟨rfl, ((hT7.chg0 hc9).chg0 hc10).chg⟩

set_option maxRecDepth 100000 in
theorem ScanOnce_walk (W : World) (a0 : Int) (w0 : (Lit.int .u32 a0).wf = true) {H : Type} {enc : TypeId × Value → H} {v : Value} {d : DataW H} {p : List MemPlace}
    (hv : Value.okWide Try.prog W .any 0 23 v) (h : DataW.Trod enc Try.prog W 0 (fun _ => true) true 23 v d p) :
    Calls Try.prog 13 #[.int .u32 a0, v] W fun e w' => e = .returned (.bool true) ∧ Chg (fun _ => False) W w' := by
  obtain ⟨s0, rfl, h0⟩ := u32_of_wf w0
  obtain ⟨n, g, hg⟩ := open_acts hv h
  exact walk s0 h0 v n g W hg

end Go.Proofs.Ythbjjjcppijcbaa.scanOnce
