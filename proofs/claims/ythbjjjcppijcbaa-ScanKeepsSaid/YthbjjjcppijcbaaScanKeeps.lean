/- The walk of ScanKeeps. -/
import Derived.Test.YthbjjjcppijcbaaKP
import Derived.Deep.LoopGhost
import Derived.Deep.CutBlock
namespace Go.Proofs.Ythbjjjcppijcbaa.scanKeeps
open Go.RowKit Pal Dint

theorem all163 {P : Array Value → Prop} (h : ∀ u0 u1 u2 u3 u4 u5 u6 u7 u8 u9 u10 u11 u12 u13 u14 u15 u16 u17 u18 u19 u20 u21 u22 u23 u24 u25 u26 u27 u28 u29 u30 u31 u32 u33 u34 u35 u36 u37 u38 u39 u40 u41 u42 u43 u44 u45 u46 u47 u48 u49 u50 u51 u52 u53 u54 u55 u56 u57 u58 u59 u60 u61 u62 u63 u64 u65 u66 u67 u68 u69 u70 u71 u72 u73 u74 u75 u76 u77 u78 u79 u80 u81 u82 u83 u84 u85 u86 u87 u88 u89 u90 u91 u92 u93 u94 u95 u96 u97 u98 u99 u100 u101 u102 u103 u104 u105 u106 u107 u108 u109 u110 u111 u112 u113 u114 u115 u116 u117 u118 u119 u120 u121 u122 u123 u124 u125 u126 u127 u128 u129 u130 u131 u132 u133 u134 u135 u136 u137 u138 u139 u140 u141 u142 u143 u144 u145 u146 u147 u148 u149 u150 u151 u152 u153 u154 u155 u156 u157 u158 u159 u160 u161 u162 : Value, P #[u0, u1, u2, u3, u4, u5, u6, u7, u8, u9, u10, u11, u12, u13, u14, u15, u16, u17, u18, u19, u20, u21, u22, u23, u24, u25, u26, u27, u28, u29, u30, u31, u32, u33, u34, u35, u36, u37, u38, u39, u40, u41, u42, u43, u44, u45, u46, u47, u48, u49, u50, u51, u52, u53, u54, u55, u56, u57, u58, u59, u60, u61, u62, u63, u64, u65, u66, u67, u68, u69, u70, u71, u72, u73, u74, u75, u76, u77, u78, u79, u80, u81, u82, u83, u84, u85, u86, u87, u88, u89, u90, u91, u92, u93, u94, u95, u96, u97, u98, u99, u100, u101, u102, u103, u104, u105, u106, u107, u108, u109, u110, u111, u112, u113, u114, u115, u116, u117, u118, u119, u120, u121, u122, u123, u124, u125, u126, u127, u128, u129, u130, u131, u132, u133, u134, u135, u136, u137, u138, u139, u140, u141, u142, u143, u144, u145, u146, u147, u148, u149, u150, u151, u152, u153, u154, u155, u156, u157, u158, u159, u160, u161, u162]) (a : Array Value) (hs : a.size = 163) : P a := by
  obtain ⟨l⟩ := a
  have g0 : l.length = 163 := hs
  clear hs
  obtain ⟨u0, l0, e0, g1⟩ := Pal.len_cons g0
  obtain ⟨u1, l1, e1, g2⟩ := Pal.len_cons g1
  obtain ⟨u2, l2, e2, g3⟩ := Pal.len_cons g2
  obtain ⟨u3, l3, e3, g4⟩ := Pal.len_cons g3
  obtain ⟨u4, l4, e4, g5⟩ := Pal.len_cons g4
  obtain ⟨u5, l5, e5, g6⟩ := Pal.len_cons g5
  obtain ⟨u6, l6, e6, g7⟩ := Pal.len_cons g6
  obtain ⟨u7, l7, e7, g8⟩ := Pal.len_cons g7
  obtain ⟨u8, l8, e8, g9⟩ := Pal.len_cons g8
  obtain ⟨u9, l9, e9, g10⟩ := Pal.len_cons g9
  obtain ⟨u10, l10, e10, g11⟩ := Pal.len_cons g10
  obtain ⟨u11, l11, e11, g12⟩ := Pal.len_cons g11
  obtain ⟨u12, l12, e12, g13⟩ := Pal.len_cons g12
  obtain ⟨u13, l13, e13, g14⟩ := Pal.len_cons g13
  obtain ⟨u14, l14, e14, g15⟩ := Pal.len_cons g14
  obtain ⟨u15, l15, e15, g16⟩ := Pal.len_cons g15
  obtain ⟨u16, l16, e16, g17⟩ := Pal.len_cons g16
  obtain ⟨u17, l17, e17, g18⟩ := Pal.len_cons g17
  obtain ⟨u18, l18, e18, g19⟩ := Pal.len_cons g18
  obtain ⟨u19, l19, e19, g20⟩ := Pal.len_cons g19
  obtain ⟨u20, l20, e20, g21⟩ := Pal.len_cons g20
  obtain ⟨u21, l21, e21, g22⟩ := Pal.len_cons g21
  obtain ⟨u22, l22, e22, g23⟩ := Pal.len_cons g22
  obtain ⟨u23, l23, e23, g24⟩ := Pal.len_cons g23
  obtain ⟨u24, l24, e24, g25⟩ := Pal.len_cons g24
  obtain ⟨u25, l25, e25, g26⟩ := Pal.len_cons g25
  obtain ⟨u26, l26, e26, g27⟩ := Pal.len_cons g26
  obtain ⟨u27, l27, e27, g28⟩ := Pal.len_cons g27
  obtain ⟨u28, l28, e28, g29⟩ := Pal.len_cons g28
  obtain ⟨u29, l29, e29, g30⟩ := Pal.len_cons g29
  obtain ⟨u30, l30, e30, g31⟩ := Pal.len_cons g30
  obtain ⟨u31, l31, e31, g32⟩ := Pal.len_cons g31
  obtain ⟨u32, l32, e32, g33⟩ := Pal.len_cons g32
  obtain ⟨u33, l33, e33, g34⟩ := Pal.len_cons g33
  obtain ⟨u34, l34, e34, g35⟩ := Pal.len_cons g34
  obtain ⟨u35, l35, e35, g36⟩ := Pal.len_cons g35
  obtain ⟨u36, l36, e36, g37⟩ := Pal.len_cons g36
  obtain ⟨u37, l37, e37, g38⟩ := Pal.len_cons g37
  obtain ⟨u38, l38, e38, g39⟩ := Pal.len_cons g38
  obtain ⟨u39, l39, e39, g40⟩ := Pal.len_cons g39
  obtain ⟨u40, l40, e40, g41⟩ := Pal.len_cons g40
  obtain ⟨u41, l41, e41, g42⟩ := Pal.len_cons g41
  obtain ⟨u42, l42, e42, g43⟩ := Pal.len_cons g42
  obtain ⟨u43, l43, e43, g44⟩ := Pal.len_cons g43
  obtain ⟨u44, l44, e44, g45⟩ := Pal.len_cons g44
  obtain ⟨u45, l45, e45, g46⟩ := Pal.len_cons g45
  obtain ⟨u46, l46, e46, g47⟩ := Pal.len_cons g46
  obtain ⟨u47, l47, e47, g48⟩ := Pal.len_cons g47
  obtain ⟨u48, l48, e48, g49⟩ := Pal.len_cons g48
  obtain ⟨u49, l49, e49, g50⟩ := Pal.len_cons g49
  obtain ⟨u50, l50, e50, g51⟩ := Pal.len_cons g50
  obtain ⟨u51, l51, e51, g52⟩ := Pal.len_cons g51
  obtain ⟨u52, l52, e52, g53⟩ := Pal.len_cons g52
  obtain ⟨u53, l53, e53, g54⟩ := Pal.len_cons g53
  obtain ⟨u54, l54, e54, g55⟩ := Pal.len_cons g54
  obtain ⟨u55, l55, e55, g56⟩ := Pal.len_cons g55
  obtain ⟨u56, l56, e56, g57⟩ := Pal.len_cons g56
  obtain ⟨u57, l57, e57, g58⟩ := Pal.len_cons g57
  obtain ⟨u58, l58, e58, g59⟩ := Pal.len_cons g58
  obtain ⟨u59, l59, e59, g60⟩ := Pal.len_cons g59
  obtain ⟨u60, l60, e60, g61⟩ := Pal.len_cons g60
  obtain ⟨u61, l61, e61, g62⟩ := Pal.len_cons g61
  obtain ⟨u62, l62, e62, g63⟩ := Pal.len_cons g62
  obtain ⟨u63, l63, e63, g64⟩ := Pal.len_cons g63
  obtain ⟨u64, l64, e64, g65⟩ := Pal.len_cons g64
  obtain ⟨u65, l65, e65, g66⟩ := Pal.len_cons g65
  obtain ⟨u66, l66, e66, g67⟩ := Pal.len_cons g66
  obtain ⟨u67, l67, e67, g68⟩ := Pal.len_cons g67
  obtain ⟨u68, l68, e68, g69⟩ := Pal.len_cons g68
  obtain ⟨u69, l69, e69, g70⟩ := Pal.len_cons g69
  obtain ⟨u70, l70, e70, g71⟩ := Pal.len_cons g70
  obtain ⟨u71, l71, e71, g72⟩ := Pal.len_cons g71
  obtain ⟨u72, l72, e72, g73⟩ := Pal.len_cons g72
  obtain ⟨u73, l73, e73, g74⟩ := Pal.len_cons g73
  obtain ⟨u74, l74, e74, g75⟩ := Pal.len_cons g74
  obtain ⟨u75, l75, e75, g76⟩ := Pal.len_cons g75
  obtain ⟨u76, l76, e76, g77⟩ := Pal.len_cons g76
  obtain ⟨u77, l77, e77, g78⟩ := Pal.len_cons g77
  obtain ⟨u78, l78, e78, g79⟩ := Pal.len_cons g78
  obtain ⟨u79, l79, e79, g80⟩ := Pal.len_cons g79
  obtain ⟨u80, l80, e80, g81⟩ := Pal.len_cons g80
  obtain ⟨u81, l81, e81, g82⟩ := Pal.len_cons g81
  obtain ⟨u82, l82, e82, g83⟩ := Pal.len_cons g82
  obtain ⟨u83, l83, e83, g84⟩ := Pal.len_cons g83
  obtain ⟨u84, l84, e84, g85⟩ := Pal.len_cons g84
  obtain ⟨u85, l85, e85, g86⟩ := Pal.len_cons g85
  obtain ⟨u86, l86, e86, g87⟩ := Pal.len_cons g86
  obtain ⟨u87, l87, e87, g88⟩ := Pal.len_cons g87
  obtain ⟨u88, l88, e88, g89⟩ := Pal.len_cons g88
  obtain ⟨u89, l89, e89, g90⟩ := Pal.len_cons g89
  obtain ⟨u90, l90, e90, g91⟩ := Pal.len_cons g90
  obtain ⟨u91, l91, e91, g92⟩ := Pal.len_cons g91
  obtain ⟨u92, l92, e92, g93⟩ := Pal.len_cons g92
  obtain ⟨u93, l93, e93, g94⟩ := Pal.len_cons g93
  obtain ⟨u94, l94, e94, g95⟩ := Pal.len_cons g94
  obtain ⟨u95, l95, e95, g96⟩ := Pal.len_cons g95
  obtain ⟨u96, l96, e96, g97⟩ := Pal.len_cons g96
  obtain ⟨u97, l97, e97, g98⟩ := Pal.len_cons g97
  obtain ⟨u98, l98, e98, g99⟩ := Pal.len_cons g98
  obtain ⟨u99, l99, e99, g100⟩ := Pal.len_cons g99
  obtain ⟨u100, l100, e100, g101⟩ := Pal.len_cons g100
  obtain ⟨u101, l101, e101, g102⟩ := Pal.len_cons g101
  obtain ⟨u102, l102, e102, g103⟩ := Pal.len_cons g102
  obtain ⟨u103, l103, e103, g104⟩ := Pal.len_cons g103
  obtain ⟨u104, l104, e104, g105⟩ := Pal.len_cons g104
  obtain ⟨u105, l105, e105, g106⟩ := Pal.len_cons g105
  obtain ⟨u106, l106, e106, g107⟩ := Pal.len_cons g106
  obtain ⟨u107, l107, e107, g108⟩ := Pal.len_cons g107
  obtain ⟨u108, l108, e108, g109⟩ := Pal.len_cons g108
  obtain ⟨u109, l109, e109, g110⟩ := Pal.len_cons g109
  obtain ⟨u110, l110, e110, g111⟩ := Pal.len_cons g110
  obtain ⟨u111, l111, e111, g112⟩ := Pal.len_cons g111
  obtain ⟨u112, l112, e112, g113⟩ := Pal.len_cons g112
  obtain ⟨u113, l113, e113, g114⟩ := Pal.len_cons g113
  obtain ⟨u114, l114, e114, g115⟩ := Pal.len_cons g114
  obtain ⟨u115, l115, e115, g116⟩ := Pal.len_cons g115
  obtain ⟨u116, l116, e116, g117⟩ := Pal.len_cons g116
  obtain ⟨u117, l117, e117, g118⟩ := Pal.len_cons g117
  obtain ⟨u118, l118, e118, g119⟩ := Pal.len_cons g118
  obtain ⟨u119, l119, e119, g120⟩ := Pal.len_cons g119
  obtain ⟨u120, l120, e120, g121⟩ := Pal.len_cons g120
  obtain ⟨u121, l121, e121, g122⟩ := Pal.len_cons g121
  obtain ⟨u122, l122, e122, g123⟩ := Pal.len_cons g122
  obtain ⟨u123, l123, e123, g124⟩ := Pal.len_cons g123
  obtain ⟨u124, l124, e124, g125⟩ := Pal.len_cons g124
  obtain ⟨u125, l125, e125, g126⟩ := Pal.len_cons g125
  obtain ⟨u126, l126, e126, g127⟩ := Pal.len_cons g126
  obtain ⟨u127, l127, e127, g128⟩ := Pal.len_cons g127
  obtain ⟨u128, l128, e128, g129⟩ := Pal.len_cons g128
  obtain ⟨u129, l129, e129, g130⟩ := Pal.len_cons g129
  obtain ⟨u130, l130, e130, g131⟩ := Pal.len_cons g130
  obtain ⟨u131, l131, e131, g132⟩ := Pal.len_cons g131
  obtain ⟨u132, l132, e132, g133⟩ := Pal.len_cons g132
  obtain ⟨u133, l133, e133, g134⟩ := Pal.len_cons g133
  obtain ⟨u134, l134, e134, g135⟩ := Pal.len_cons g134
  obtain ⟨u135, l135, e135, g136⟩ := Pal.len_cons g135
  obtain ⟨u136, l136, e136, g137⟩ := Pal.len_cons g136
  obtain ⟨u137, l137, e137, g138⟩ := Pal.len_cons g137
  obtain ⟨u138, l138, e138, g139⟩ := Pal.len_cons g138
  obtain ⟨u139, l139, e139, g140⟩ := Pal.len_cons g139
  obtain ⟨u140, l140, e140, g141⟩ := Pal.len_cons g140
  obtain ⟨u141, l141, e141, g142⟩ := Pal.len_cons g141
  obtain ⟨u142, l142, e142, g143⟩ := Pal.len_cons g142
  obtain ⟨u143, l143, e143, g144⟩ := Pal.len_cons g143
  obtain ⟨u144, l144, e144, g145⟩ := Pal.len_cons g144
  obtain ⟨u145, l145, e145, g146⟩ := Pal.len_cons g145
  obtain ⟨u146, l146, e146, g147⟩ := Pal.len_cons g146
  obtain ⟨u147, l147, e147, g148⟩ := Pal.len_cons g147
  obtain ⟨u148, l148, e148, g149⟩ := Pal.len_cons g148
  obtain ⟨u149, l149, e149, g150⟩ := Pal.len_cons g149
  obtain ⟨u150, l150, e150, g151⟩ := Pal.len_cons g150
  obtain ⟨u151, l151, e151, g152⟩ := Pal.len_cons g151
  obtain ⟨u152, l152, e152, g153⟩ := Pal.len_cons g152
  obtain ⟨u153, l153, e153, g154⟩ := Pal.len_cons g153
  obtain ⟨u154, l154, e154, g155⟩ := Pal.len_cons g154
  obtain ⟨u155, l155, e155, g156⟩ := Pal.len_cons g155
  obtain ⟨u156, l156, e156, g157⟩ := Pal.len_cons g156
  obtain ⟨u157, l157, e157, g158⟩ := Pal.len_cons g157
  obtain ⟨u158, l158, e158, g159⟩ := Pal.len_cons g158
  obtain ⟨u159, l159, e159, g160⟩ := Pal.len_cons g159
  obtain ⟨u160, l160, e160, g161⟩ := Pal.len_cons g160
  obtain ⟨u161, l161, e161, g162⟩ := Pal.len_cons g161
  obtain ⟨u162, l162, e162, g163⟩ := Pal.len_cons g162
  obtain rfl := List.eq_nil_of_length_eq_zero g163
  have e : (⟨l⟩ : Array Value) = #[u0, u1, u2, u3, u4, u5, u6, u7, u8, u9, u10, u11, u12, u13, u14, u15, u16, u17, u18, u19, u20, u21, u22, u23, u24, u25, u26, u27, u28, u29, u30, u31, u32, u33, u34, u35, u36, u37, u38, u39, u40, u41, u42, u43, u44, u45, u46, u47, u48, u49, u50, u51, u52, u53, u54, u55, u56, u57, u58, u59, u60, u61, u62, u63, u64, u65, u66, u67, u68, u69, u70, u71, u72, u73, u74, u75, u76, u77, u78, u79, u80, u81, u82, u83, u84, u85, u86, u87, u88, u89, u90, u91, u92, u93, u94, u95, u96, u97, u98, u99, u100, u101, u102, u103, u104, u105, u106, u107, u108, u109, u110, u111, u112, u113, u114, u115, u116, u117, u118, u119, u120, u121, u122, u123, u124, u125, u126, u127, u128, u129, u130, u131, u132, u133, u134, u135, u136, u137, u138, u139, u140, u141, u142, u143, u144, u145, u146, u147, u148, u149, u150, u151, u152, u153, u154, u155, u156, u157, u158, u159, u160, u161, u162] := by rw [e0, e1, e2, e3, e4, e5, e6, e7, e8, e9, e10, e11, e12, e13, e14, e15, e16, e17, e18, e19, e20, e21, e22, e23, e24, e25, e26, e27, e28, e29, e30, e31, e32, e33, e34, e35, e36, e37, e38, e39, e40, e41, e42, e43, e44, e45, e46, e47, e48, e49, e50, e51, e52, e53, e54, e55, e56, e57, e58, e59, e60, e61, e62, e63, e64, e65, e66, e67, e68, e69, e70, e71, e72, e73, e74, e75, e76, e77, e78, e79, e80, e81, e82, e83, e84, e85, e86, e87, e88, e89, e90, e91, e92, e93, e94, e95, e96, e97, e98, e99, e100, e101, e102, e103, e104, e105, e106, e107, e108, e109, e110, e111, e112, e113, e114, e115, e116, e117, e118, e119, e120, e121, e122, e123, e124, e125, e126, e127, e128, e129, e130, e131, e132, e133, e134, e135, e136, e137, e138, e139, e140, e141, e142, e143, e144, e145, e146, e147, e148, e149, e150, e151, e152, e153, e154, e155, e156, e157, e158, e159, e160, e161, e162]
  rw [e]
  exact h u0 u1 u2 u3 u4 u5 u6 u7 u8 u9 u10 u11 u12 u13 u14 u15 u16 u17 u18 u19 u20 u21 u22 u23 u24 u25 u26 u27 u28 u29 u30 u31 u32 u33 u34 u35 u36 u37 u38 u39 u40 u41 u42 u43 u44 u45 u46 u47 u48 u49 u50 u51 u52 u53 u54 u55 u56 u57 u58 u59 u60 u61 u62 u63 u64 u65 u66 u67 u68 u69 u70 u71 u72 u73 u74 u75 u76 u77 u78 u79 u80 u81 u82 u83 u84 u85 u86 u87 u88 u89 u90 u91 u92 u93 u94 u95 u96 u97 u98 u99 u100 u101 u102 u103 u104 u105 u106 u107 u108 u109 u110 u111 u112 u113 u114 u115 u116 u117 u118 u119 u120 u121 u122 u123 u124 u125 u126 u127 u128 u129 u130 u131 u132 u133 u134 u135 u136 u137 u138 u139 u140 u141 u142 u143 u144 u145 u146 u147 u148 u149 u150 u151 u152 u153 u154 u155 u156 u157 u158 u159 u160 u161 u162

def Act1 (l bt : Value) (bd i : Nat) (a : Act) : Prop := a.tmps.size = 163 ∧ a.tmps[1]? = some (l) ∧ a.tmps[2]? = some (bt) ∧ a.tmps[7]? = some (.bool true) ∧ a.tmps[8]? = some (ptr bd) ∧ a.tmps[9]? = some (.int .i64 (i : Int)) ∧ a.defers = []
def Inv1 (w0 : World) (l bt : Value) (M bd : Nat) (m : Nat) (a : Act) (w : World) : Prop :=
  ∃ i d, m = M - i ∧ i ≤ M ∧ Act1 l bt bd i a ∧ One w0 w bd d ∧ d.n ≤ i ∧ bndS (Dint.shape d) ∧ Small d
def FrA (bt : Value) (bd : Nat) (a : Act) : Prop := a.tmps.size = 163 ∧ a.tmps[2]? = some (bt) ∧ a.tmps[7]? = some (.bool true) ∧ a.tmps[8]? = some (ptr bd) ∧ a.defers = []
def Post1 (w0 : World) (bt : Value) (bd : Nat) (e : Exit) (a : Act) (w : World) : Prop :=
  e = .normal ∧ FrA bt bd a ∧ ∃ d, One w0 w bd d ∧ d.n ≤ 80 ∧ bndS (Dint.shape d) ∧ Small d
def Act2 (bt u o : Value) (bd i : Nat) (a : Act) : Prop := a.tmps.size = 163 ∧ a.tmps[2]? = some (bt) ∧ a.tmps[7]? = some (.bool true) ∧ a.tmps[8]? = some (ptr bd) ∧ a.tmps[10]? = some (u) ∧ a.tmps[11]? = some (o) ∧ a.tmps[12]? = some (.int .i64 (i : Int)) ∧ a.defers = []
def Inv2 (w0 : World) (bd : Nat) (bt u : Value) (al : List ByteArray) (d : Dm) (B : Nat) (m : Nat) (a : Act) (w : World) : Prop :=
  ∃ i o, m = al.length - i ∧ i ≤ al.length ∧ Act2 bt u o bd i a ∧ One w0 w bd d ∧ Strs w w0.heap.size u al ∧ Bls w B o (List.replicate i false) ∧ B ≤ w.heap.size
def FrB (bt u o : Value) (bd : Nat) (a : Act) : Prop := a.tmps.size = 163 ∧ a.tmps[2]? = some (bt) ∧ a.tmps[7]? = some (.bool true) ∧ a.tmps[8]? = some (ptr bd) ∧ a.tmps[10]? = some (u) ∧ a.tmps[11]? = some (o) ∧ a.defers = []
def Post2 (w0 : World) (bd : Nat) (bt u : Value) (al : List ByteArray) (d : Dm) (e : Exit) (a : Act) (w : World) : Prop :=
  e = .normal ∧ ∃ o, FrB bt u o bd a ∧ One w0 w bd d ∧ Strs w w0.heap.size u al ∧ Bls w w0.heap.size o (List.replicate al.length false) ∧ Apart d u o

def Act4 (bt u o : Value) (bd c i : Nat) (a : Act) : Prop := a.tmps.size = 163 ∧ a.tmps[2]? = some (bt) ∧ a.tmps[7]? = some (.bool true) ∧ a.tmps[8]? = some (ptr bd) ∧ a.tmps[10]? = some (u) ∧ a.tmps[11]? = some (o) ∧ a.tmps[13]? = some (.int .u32 (c : Int)) ∧ a.tmps[14]? = some (.int .i64 (i : Int)) ∧ a.defers = []
def Inv4 (w0 : World) (bd : Nat) (bt u : Value) (al : List ByteArray) (sd : Nat) (m : Nat) (a : Act) (w : World) : Prop :=
  ∃ i d o bs c, m = 4294967296 - turn c ∧ Act4 bt u o bd c i a ∧ In4 w0 bd u o al sd i (80 + min i 120) d bs c w
def Act6 (bt u o kv : Value) (bd i c k : Nat) (a : Act) : Prop := a.tmps.size = 163 ∧ a.tmps[2]? = some (bt) ∧ a.tmps[7]? = some (.bool true) ∧ a.tmps[8]? = some (ptr bd) ∧ a.tmps[10]? = some (u) ∧ a.tmps[11]? = some (o) ∧ a.tmps[14]? = some (.int .i64 (i : Int)) ∧ a.tmps[15]? = some (kv) ∧ a.tmps[16]? = some (.int .u32 (c : Int)) ∧ a.tmps[17]? = some (.int .i64 (k : Int)) ∧ a.defers = []
def Inv6 (w0 : World) (bd : Nat) (bt u o kv : Value) (al ks : List ByteArray) (d0 : Dm) (bs : List Bool) (i c B : Nat) (m : Nat) (a : Act) (w : World) : Prop :=
  ∃ k d bs', m = ks.length - k ∧ k ≤ ks.length ∧ Act6 bt u o kv bd i c k a ∧ In6 w0 bd u o kv al ks d0 d bs k B w bs'
def Act8 (bt u o kv : Value) (bd i c k j : Nat) (a : Act) : Prop := a.tmps.size = 163 ∧ a.tmps[2]? = some (bt) ∧ a.tmps[7]? = some (.bool true) ∧ a.tmps[8]? = some (ptr bd) ∧ a.tmps[10]? = some (u) ∧ a.tmps[11]? = some (o) ∧ a.tmps[14]? = some (.int .i64 (i : Int)) ∧ a.tmps[15]? = some (kv) ∧ a.tmps[16]? = some (.int .u32 (c : Int)) ∧ a.tmps[17]? = some (.int .i64 (k : Int)) ∧ a.tmps[20]? = some (.int .i64 (j : Int)) ∧ a.defers = []
def Inv8 (w1 : World) (base bd : Nat) (bt u o kv : Value) (al : List ByteArray) (x : ByteArray) (bs : List Bool) (i c k : Nat) (m : Nat) (a : Act) (w : World) : Prop :=
  ∃ j bs', m = al.length - j ∧ j ≤ al.length ∧ Act8 bt u o kv bd i c k j a ∧ Mark w1 w base o bs al x j bs'
def Act10 (bt u o : Value) (bd c i bx j : Nat) (a : Act) : Prop := a.tmps.size = 163 ∧ a.tmps[2]? = some (bt) ∧ a.tmps[7]? = some (.bool true) ∧ a.tmps[8]? = some (ptr bd) ∧ a.tmps[10]? = some (u) ∧ a.tmps[11]? = some (o) ∧ a.tmps[13]? = some (.int .u32 (c : Int)) ∧ a.tmps[14]? = some (.int .i64 (i : Int)) ∧ a.tmps[21]? = some (ptr bx) ∧ a.tmps[22]? = some (.int .i64 (j : Int)) ∧ a.defers = []
def Inv10 (w1 : World) (base bd : Nat) (bt u o : Value) (al : List ByteArray) (x : ByteArray) (bs : List Bool) (c i bx : Nat) (m : Nat) (a : Act) (w : World) : Prop :=
  ∃ j bs', m = al.length - j ∧ j ≤ al.length ∧ Act10 bt u o bd c i bx j a ∧ Mark w1 w base o bs al x j bs'
def Act12 (o : Value) (j : Nat) (a : Act) : Prop := a.tmps.size = 163 ∧ a.tmps[7]? = some (.bool true) ∧ a.tmps[11]? = some (o) ∧ a.tmps[13]? = some (.int .u32 0) ∧ a.tmps[23]? = some (.int .i64 (j : Int)) ∧ a.defers = []
def Inv12 (w1 : World) (n : Nat) (o : Value) (m : Nat) (a : Act) (w : World) : Prop :=
  ∃ j, m = n - j ∧ j ≤ n ∧ Act12 o j a ∧ Chg (fun _ => False) w1 w
def FrC (o : Value) (a : Act) : Prop := a.tmps.size = 163 ∧ a.tmps[7]? = some (.bool true) ∧ a.tmps[11]? = some (o) ∧ a.tmps[13]? = some (.int .u32 0) ∧ a.defers = []
def Post4 (w0 : World) (n : Nat) (e : Exit) (a : Act) (w : World) : Prop :=
  e = .normal ∧ ∃ o bs, FrC o a ∧ Chg (fun _ => False) w0 w ∧ Bls w w0.heap.size o bs ∧ bs.length = n ∧ ∀ j : Nat, j < n → bs[j]? ≠ some false

set_option maxRecDepth 100000 in
set_option maxHeartbeats 4000000 in
theorem walk (s1 : Nat) (h1 : s1 < 4294967296) (v : Value) (n : Nat) (g : Nat → Act3) (v2 : Value) (n2 : Nat) (g2 : Nat → Act3) (w : World) (hv : ActsAt w v n g) (hb : ActsAt w v2 n2 g2) :
    Calls Try.prog 12 #[.int .u32 (s1 : Int), v, v2] w fun e w' => e = .returned (.bool true) ∧ Chg (fun _ => False) w w' := by
  go_enter Try.func12, Try.ntmps12
  go_wp2_with fail
  refine (shown08_any w).mono ?_
  rintro e w1 ⟨rfl, rfl⟩
  go_wp2_with fail
  refine (new_1 (Chg.refl _ w) s1 h1).mono ?_
  rintro e w2 ⟨bd, d0, rfl, hT, dn, dl, dsh, _, _⟩
  go_upto_block 0 with (fail)
  refine wp_mono (Q := Post1 w v2 bd) ?_ ?_
  · go_wp2_with fail
    refine wp_loop_ghost (Inv1 w v v2 (min n 80) bd) (min n 80) ?_ ?_
    · exact ⟨0, d0, rfl, Nat.zero_le _, ⟨rfl, rfl, rfl, rfl, rfl, rfl, rfl⟩, hT, Nat.le_of_eq dn, by rw [dsh]; exact ⟨by decide, fun l e => by cases e⟩, fun k hk => by rw [dl] at hk; cases hk⟩
    · clear hT dn dl dsh
      rintro m ⟨tmps, ds⟩ W ⟨i, d, rfl, hi, ⟨hsz, t1, t2, t7, t8, t9, rfl⟩, hT, hS, hbd, hsm⟩
      replace hsz : tmps.size = 163 := hsz
      dsimp only at t1 t2 t7 t8 t9
      revert t1 t2 t7 t8 t9
      revert hsz
      revert tmps
      refine all163 ?_
      intro u0 u1 u2 u3 u4 u5 u6 u7 u8 u9 u10 u11 u12 u13 u14 u15 u16 u17 u18 u19 u20 u21 u22 u23 u24 u25 u26 u27 u28 u29 u30 u31 u32 u33 u34 u35 u36 u37 u38 u39 u40 u41 u42 u43 u44 u45 u46 u47 u48 u49 u50 u51 u52 u53 u54 u55 u56 u57 u58 u59 u60 u61 u62 u63 u64 u65 u66 u67 u68 u69 u70 u71 u72 u73 u74 u75 u76 u77 u78 u79 u80 u81 u82 u83 u84 u85 u86 u87 u88 u89 u90 u91 u92 u93 u94 u95 u96 u97 u98 u99 u100 u101 u102 u103 u104 u105 u106 u107 u108 u109 u110 u111 u112 u113 u114 u115 u116 u117 u118 u119 u120 u121 u122 u123 u124 u125 u126 u127 u128 u129 u130 u131 u132 u133 u134 u135 u136 u137 u138 u139 u140 u141 u142 u143 u144 u145 u146 u147 u148 u149 u150 u151 u152 u153 u154 u155 u156 u157 u158 u159 u160 u161 u162 t1 t2 t7 t8 t9
      simp only [ptr, List.getElem?_toArray, List.getElem?_cons_zero, List.getElem?_cons_succ, Option.some.injEq] at t1 t2 t7 t8 t9
      subst t1 t2 t7 t8 t9
      obtain ⟨p, cap, rfl⟩ := hv.is
      have hle := hv.le
      have hdn2 : d.n ≤ 100000 := by omega
      by_cases hin : i < n
      · have hin' : (i : Int) < (n : Int) := by omega
        by_cases hi1 : i < 80
        · have hi' : (i : Int) < 80 := by omega
          have hv' := hv.chg hT.chg
          obtain ⟨b, o, cap', heq, _⟩ := hv'.at_ i hin
          injection heq with heq hx hcap
          subst heq hcap
          clear hx
          obtain ⟨hb1, q0, q1, q2, f1⟩ := acts3 hv' hin
          have ha := acted_1 hT (g i) f1 hdn2
          go_wp2_with fail
          refine ha.mono ?_
          rintro e5 W5 ⟨⟨v5, rfl⟩, d', hT1, hA⟩
          have hn' := acts_n hA
          have hb' := acts_bnd hA hbd (by omega)
          go_wp2_with fail
          exact ⟨min n 80 - (i + 1), by omega, i + 1, d', rfl, by omega, ⟨rfl, rfl, rfl, rfl, rfl, rfl, rfl⟩, hT1, by omega, hb', acts_small hA hsm⟩
        · have hi' : ((i : Int) < 80) = False := by simp only [eq_iff_iff, iff_false]; omega
          clear hi1
          go_wp2_with fail
          exact ⟨rfl, ⟨rfl, rfl, rfl, rfl, rfl⟩, d, hT, by omega, hbd, hsm⟩
      · have hin' : ((i : Int) < (n : Int)) = False := by simp only [eq_iff_iff, iff_false]; omega
        have hin2 : (i < n) = False := by simp only [eq_iff_iff, iff_false]; omega
        have hn100 : d.n ≤ 80 := by omega
        clear hin
        go_wp2_with fail
        exact ⟨rfl, ⟨rfl, rfl, rfl, rfl, rfl⟩, d, hT, hn100, hbd, hsm⟩
  · clear hT dn dl dsh
    rintro e ⟨tmps, ds⟩ W ⟨rfl, ⟨hsz, t2, t7, t8, rfl⟩, d, hT, hn, hbd, hsm⟩
    replace hsz : tmps.size = 163 := hsz
    dsimp only at t2 t7 t8
    revert t2 t7 t8
    revert hsz
    revert tmps
    refine all163 ?_
    intro u0 u1 u2 u3 u4 u5 u6 u7 u8 u9 u10 u11 u12 u13 u14 u15 u16 u17 u18 u19 u20 u21 u22 u23 u24 u25 u26 u27 u28 u29 u30 u31 u32 u33 u34 u35 u36 u37 u38 u39 u40 u41 u42 u43 u44 u45 u46 u47 u48 u49 u50 u51 u52 u53 u54 u55 u56 u57 u58 u59 u60 u61 u62 u63 u64 u65 u66 u67 u68 u69 u70 u71 u72 u73 u74 u75 u76 u77 u78 u79 u80 u81 u82 u83 u84 u85 u86 u87 u88 u89 u90 u91 u92 u93 u94 u95 u96 u97 u98 u99 u100 u101 u102 u103 u104 u105 u106 u107 u108 u109 u110 u111 u112 u113 u114 u115 u116 u117 u118 u119 u120 u121 u122 u123 u124 u125 u126 u127 u128 u129 u130 u131 u132 u133 u134 u135 u136 u137 u138 u139 u140 u141 u142 u143 u144 u145 u146 u147 u148 u149 u150 u151 u152 u153 u154 u155 u156 u157 u158 u159 u160 u161 u162 t2 t7 t8
    simp only [ptr, List.getElem?_toArray, List.getElem?_cons_zero, List.getElem?_cons_succ, Option.some.injEq] at t2 t7 t8
    subst t2 t7 t8
    have hal := all_1 hT (by omega)
    go_wp2_with fail
    refine hal.mono ?_
    rintro e3 W4 ⟨⟨u, rfl, hu⟩, hT4, hc34⟩
    have hua : ∀ g, u.ownBlock = some g → ¬ d.foot g := fun g hg hf => by have := (hu.lt g hg).1; have := hT.md.lt hf; omega
    have hok := hT.md.ok
    clear hal
    have hmk := run_make_bools W4
    obtain ⟨al, hal⟩ : ∃ al, al = allL d := ⟨_, rfl⟩
    have hlen : al.length = d.n := by rw [hal, (allL_perm hT4.md.ok).length_eq, List.length_map, hT4.md.ok.count]
    rw [← hal] at hu
    replace hlen := Lib.hid hlen
    have hal80 : al.length ≤ 80 := by rw [hlen.out]; exact hn
    replace hal := Lib.hid hal
    go_upto_block 2 with (fail)
    refine wp_mono (Q := Post2 w bd u2 u al d) ?_ ?_
    · go_wp2_with fail
      have hT5 := hT4.chg0 ((Chg.refl _ _).alloc (.cells mb 4))
      have hu5 := hu.chg ((Chg.refl (fun _ => False) _).alloc (.cells mb 4)) fun _ _ => id
      have ho5 := Bls.made W4 W4.heap.size (Nat.le_refl _)
      refine wp_loop_ghost (Inv2 w bd u2 u al d W4.heap.size) al.length ?_ ?_
      · exact ⟨0, _, rfl, Nat.zero_le _, ⟨rfl, rfl, rfl, rfl, rfl, rfl, rfl, rfl⟩, hT5, hu5.lower hT.chg.size, ho5, ((Chg.refl (fun _ => False) W4).alloc _).size⟩
      · have hfoot : ∀ g, d.foot g → g < W4.heap.size := fun g hg => hT4.md.lt hg
        have hul : ∀ g, u.ownBlock = some g → g < W4.heap.size := fun g hg => (hu.lt g hg).2
        have hww : w.heap.size ≤ W4.heap.size := hT4.chg.size
        clear hmk hT hT4 hu hT5 hu5 ho5 hc34
        rintro m ⟨tmps, ds⟩ W5 ⟨i, o, rfl, hi, ⟨hsz, t2, t7, t8, t10, t11, t12, rfl⟩, hT5, hu5, ho5, hB5⟩
        replace hsz : tmps.size = 163 := hsz
        dsimp only at t2 t7 t8 t10 t11 t12
        revert t2 t7 t8 t10 t11 t12
        revert hsz
        revert tmps
        refine all163 ?_
        intro u0 u1 u2 u3 u4 u5 u6 u7 u8 u9 u10 u11 u12 u13 u14 u15 u16 u17 u18 u19 u20 u21 u22 u23 u24 u25 u26 u27 u28 u29 u30 u31 u32 u33 u34 u35 u36 u37 u38 u39 u40 u41 u42 u43 u44 u45 u46 u47 u48 u49 u50 u51 u52 u53 u54 u55 u56 u57 u58 u59 u60 u61 u62 u63 u64 u65 u66 u67 u68 u69 u70 u71 u72 u73 u74 u75 u76 u77 u78 u79 u80 u81 u82 u83 u84 u85 u86 u87 u88 u89 u90 u91 u92 u93 u94 u95 u96 u97 u98 u99 u100 u101 u102 u103 u104 u105 u106 u107 u108 u109 u110 u111 u112 u113 u114 u115 u116 u117 u118 u119 u120 u121 u122 u123 u124 u125 u126 u127 u128 u129 u130 u131 u132 u133 u134 u135 u136 u137 u138 u139 u140 u141 u142 u143 u144 u145 u146 u147 u148 u149 u150 u151 u152 u153 u154 u155 u156 u157 u158 u159 u160 u161 u162 t2 t7 t8 t10 t11 t12
        simp only [ptr, List.getElem?_toArray, List.getElem?_cons_zero, List.getElem?_cons_succ, Option.some.injEq] at t2 t7 t8 t10 t11 t12
        subst t2 t7 t8 t10 t11 t12
        obtain ⟨pu, cu, rfl, _, _, hpu⟩ := hu5.is
        by_cases hin : i < al.length
        · have hin' : (i : Int) < (al.length : Int) := by omega
          have hib : (i : Int) ≤ 80 := by omega
          clear hi
          obtain ⟨i0, hi0, hz0, hz1, hz2⟩ := info_parts bool_info
          obtain ⟨po, co, rfl, hpo⟩ := ho5.is
          have hA' : i + 1 ≤ maxLen := by unfold maxLen; omega
          have hB' : (i + 1) * 1 ≤ 140737488355328 := by omega
          have ho6 := ho5.chg ((Chg.refl (fun _ => False) _).alloc (.cells #[.bool false] 4)) fun _ _ => id
          have ho7 : (W5.alloc (.cells #[.bool false] 4)).ownsRow W4.heap.size 4 1 (.slice po i co) i (List.replicate i (Value.bool false)) := by
            have h := ho6.own
            simp only [List.length_replicate, List.map_replicate] at h
            exact h
          have hD' : W4.heap.size ≤ (W5.alloc (.cells #[.bool false] 4)).heap.size := Nat.le_trans hB5 ((Chg.refl (fun _ => False) W5).alloc _).size
          go_wp2_with (at_builtin
                       refine wpList_append_any _ rfl (.tmp 52) (.tmp 53) 71 rfl W4.heap.size 4 i0 _ 1 1 Try.underlying71 hi0 hz0 hz1 hz2 rfl (by omega) _ _ _ rfl ho7 _ (some ⟨W5.heap.size, 0, none⟩) 1 1 [.bool false] rfl (reads_one W5 4 (.bool false)) (bools_one [false]) hA' hB' hD' ?_
                       intro v3 w3 hown3 hg3 hat3)
          have cG : Chg (fun g => (Value.slice po i co).ownBlock = some g) _ w3 := Chg.of_grown hg3 fun g hgg => hgg
          have hB6 := hD'
          have hT6 := (hT5.chg0 ((Chg.refl (fun _ => False) _).alloc (.cells #[.bool false] 4))).chgS cG (fun g hg h' => by have := (ho7.lt g h').1; have := hfoot g hg; omega) (fun g hg h' => by have := (ho7.lt g h').1; omega)
          have hu6 := (hu5.chg ((Chg.refl (fun _ => False) _).alloc (.cells #[.bool false] 4)) fun _ _ => id).chg cG (fun g hg h' => by have := (ho7.lt g h').1; have := hul g hg; omega)
          exact ⟨al.length - (i + 1), by omega, i + 1, v3, rfl, by omega, ⟨rfl, rfl, rfl, rfl, rfl, rfl, rfl, rfl⟩, hT6, hu6, Bls.mk hown3 (by simp) (by simp [List.replicate_succ']), Nat.le_trans hD' cG.size⟩
        · have hin' : ((i : Int) < (al.length : Int)) = False := by simp only [eq_iff_iff, iff_false]; omega
          have hin2 : (i < al.length) = False := by simp only [eq_iff_iff, iff_false]; omega
          have hia : i = al.length := by omega
          have ho8 := ho5
          rw [hia] at ho8
          clear hin ho5
          go_wp2_with fail
          exact ⟨rfl, u11, ⟨rfl, rfl, rfl, rfl, rfl, rfl, rfl⟩, hT5, hu5, ho8.lower hww, fun g hg hf => by have := (ho8.own.lt g hg).1; have := hfoot g hf; omega, fun g hg hf => by have := (ho8.own.lt g hg).1; have := hul g hf; omega, hua⟩
    · have hK0 := Keep.zero hok hal.out
      have hdn80 := hn
      clear hmk hT hT4 hu hc34 hal hlen hua
      rintro e ⟨tmps, ds⟩ W5 ⟨rfl, o, ⟨hsz, t2, t7, t8, t10, t11, rfl⟩, hT, hu, ho, hap⟩
      replace hsz : tmps.size = 163 := hsz
      dsimp only at t2 t7 t8 t10 t11
      revert t2 t7 t8 t10 t11
      revert hsz
      revert tmps
      refine all163 ?_
      intro u0 u1 u2 u3 u4 u5 u6 u7 u8 u9 u10 u11 u12 u13 u14 u15 u16 u17 u18 u19 u20 u21 u22 u23 u24 u25 u26 u27 u28 u29 u30 u31 u32 u33 u34 u35 u36 u37 u38 u39 u40 u41 u42 u43 u44 u45 u46 u47 u48 u49 u50 u51 u52 u53 u54 u55 u56 u57 u58 u59 u60 u61 u62 u63 u64 u65 u66 u67 u68 u69 u70 u71 u72 u73 u74 u75 u76 u77 u78 u79 u80 u81 u82 u83 u84 u85 u86 u87 u88 u89 u90 u91 u92 u93 u94 u95 u96 u97 u98 u99 u100 u101 u102 u103 u104 u105 u106 u107 u108 u109 u110 u111 u112 u113 u114 u115 u116 u117 u118 u119 u120 u121 u122 u123 u124 u125 u126 u127 u128 u129 u130 u131 u132 u133 u134 u135 u136 u137 u138 u139 u140 u141 u142 u143 u144 u145 u146 u147 u148 u149 u150 u151 u152 u153 u154 u155 u156 u157 u158 u159 u160 u161 u162 t2 t7 t8 t10 t11
      simp only [ptr, List.getElem?_toArray, List.getElem?_cons_zero, List.getElem?_cons_succ, Option.some.injEq] at t2 t7 t8 t10 t11
      subst t2 t7 t8 t10 t11
      obtain ⟨pb, cb, rfl⟩ := hb.is
      have hle2 := hb.le
      obtain ⟨pu, cu, rfl, hlu, hcu, hpu⟩ := hu.is
      go_upto_block 4 with (fail)
      refine wp_mono (Q := Post4 w al.length) ?_ ?_
      · go_wp2_with fail
        refine wp_loop_ghost (Inv4 w bd (.slice pb n2 cb) (.slice pu al.length cu) al d.seed) 4294967296 ?_ ?_
        · exact ⟨0, d, _, _, 0, by rw [turn_0], ⟨rfl, rfl, rfl, rfl, rfl, rfl, rfl, rfl, rfl⟩, hT, hu, ho, hap, hK0, by omega, by rw [Nat.zero_mul]; exact Nat.zero_le _, by omega, hbd, hsm⟩
        · obtain ⟨sd, hsd⟩ : ∃ sd, d.seed = sd := ⟨_, rfl⟩
          rw [hsd]
          clear hT hu ho hap hK0 hbd hsm hsd hok
          rintro m ⟨tmps, ds⟩ W6 ⟨i, d, o, bs, c, rfl, ⟨hsz, t2, t7, t8, t10, t11, t13, t14, rfl⟩, h4⟩
          replace hsz : tmps.size = 163 := hsz
          dsimp only at t2 t7 t8 t10 t11 t13 t14
          revert t2 t7 t8 t10 t11 t13 t14
          revert hsz
          revert tmps
          refine all163 ?_
          intro u0 u1 u2 u3 u4 u5 u6 u7 u8 u9 u10 u11 u12 u13 u14 u15 u16 u17 u18 u19 u20 u21 u22 u23 u24 u25 u26 u27 u28 u29 u30 u31 u32 u33 u34 u35 u36 u37 u38 u39 u40 u41 u42 u43 u44 u45 u46 u47 u48 u49 u50 u51 u52 u53 u54 u55 u56 u57 u58 u59 u60 u61 u62 u63 u64 u65 u66 u67 u68 u69 u70 u71 u72 u73 u74 u75 u76 u77 u78 u79 u80 u81 u82 u83 u84 u85 u86 u87 u88 u89 u90 u91 u92 u93 u94 u95 u96 u97 u98 u99 u100 u101 u102 u103 u104 u105 u106 u107 u108 u109 u110 u111 u112 u113 u114 u115 u116 u117 u118 u119 u120 u121 u122 u123 u124 u125 u126 u127 u128 u129 u130 u131 u132 u133 u134 u135 u136 u137 u138 u139 u140 u141 u142 u143 u144 u145 u146 u147 u148 u149 u150 u151 u152 u153 u154 u155 u156 u157 u158 u159 u160 u161 u162 t2 t7 t8 t10 t11 t13 t14
          simp only [ptr, List.getElem?_toArray, List.getElem?_cons_zero, List.getElem?_cons_succ, Option.some.injEq] at t2 t7 t8 t10 t11 t13 t14
          subst t2 t7 t8 t10 t11 t13 t14
          obtain ⟨po, co, hoe, _⟩ := h4.bls.is
          rw [h4.keep.len] at hoe
          subst hoe
          have htc := turn_lt c
          have hfar := h4.far
          have hi3 : (i : Int) < 3000 := by omega
          have hi512 : (i : Int) ≤ 512 := by omega
          have hok := h4.T.md.ok
          have hsc := scan_1 h4.T c h4.lt (by have := h4.n; omega)
          go_wp2_with fail
          refine hsc.mono ?_
          rintro e2 W7 ⟨⟨kv, rfl, hkv⟩, hT7, hC7⟩
          obtain ⟨ks, hks⟩ : ∃ ks, ks = scanL d c := ⟨_, rfl⟩
          obtain ⟨c', hc'⟩ : ∃ c', c' = scanC d c := ⟨_, rfl⟩
          rw [← hks] at hkv
          rw [← hc']
          have hI := h4.begin6 hC7 hkv
          obtain ⟨pk, ck, rfl, hkl, hck, _⟩ := hkv.is
          unfold maxLen at hck
          replace hks := Lib.hid hks
          replace hc' := Lib.hid hc'
          clear hsc hT7 hkv
          go_wp2_with fail
          refine wp_loop_ghost (Inv6 w bd (.slice pb n2 cb) (.slice pu al.length cu) (.slice po al.length co) (.slice pk ks.length ck) al ks d bs i c' W6.heap.size) ks.length ?_ ?_
          · exact ⟨0, d, bs, rfl, Nat.zero_le _, ⟨rfl, rfl, rfl, rfl, rfl, rfl, rfl, rfl, rfl, rfl, rfl⟩, hI⟩
          · clear hI hC7
            rintro m ⟨tmps, ds⟩ W8 ⟨k, d', bs', rfl, hk, ⟨hsz, t2, t7, t8, t10, t11, t14, t15, t16, t17, rfl⟩, hI⟩
            replace hsz : tmps.size = 163 := hsz
            dsimp only at t2 t7 t8 t10 t11 t14 t15 t16 t17
            revert t2 t7 t8 t10 t11 t14 t15 t16 t17
            revert hsz
            revert tmps
            refine all163 ?_
            intro u0 u1 u2 u3 u4 u5 u6 u7 u8 u9 u10 u11 u12 u13 u14 u15 u16 u17 u18 u19 u20 u21 u22 u23 u24 u25 u26 u27 u28 u29 u30 u31 u32 u33 u34 u35 u36 u37 u38 u39 u40 u41 u42 u43 u44 u45 u46 u47 u48 u49 u50 u51 u52 u53 u54 u55 u56 u57 u58 u59 u60 u61 u62 u63 u64 u65 u66 u67 u68 u69 u70 u71 u72 u73 u74 u75 u76 u77 u78 u79 u80 u81 u82 u83 u84 u85 u86 u87 u88 u89 u90 u91 u92 u93 u94 u95 u96 u97 u98 u99 u100 u101 u102 u103 u104 u105 u106 u107 u108 u109 u110 u111 u112 u113 u114 u115 u116 u117 u118 u119 u120 u121 u122 u123 u124 u125 u126 u127 u128 u129 u130 u131 u132 u133 u134 u135 u136 u137 u138 u139 u140 u141 u142 u143 u144 u145 u146 u147 u148 u149 u150 u151 u152 u153 u154 u155 u156 u157 u158 u159 u160 u161 u162 t2 t7 t8 t10 t11 t14 t15 t16 t17
            simp only [ptr, List.getElem?_toArray, List.getElem?_cons_zero, List.getElem?_cons_succ, Option.some.injEq] at t2 t7 t8 t10 t11 t14 t15 t16 t17
            subst t2 t7 t8 t10 t11 t14 t15 t16 t17
            by_cases hkk : k < ks.length
            · have hkk' : (k : Int) < (ks.length : Int) := by omega
              have hkb : (k : Int) ≤ 9223372036854775806 := by omega
              obtain ⟨hsome, hsz12⟩ := hI.at_ h4.sm hok h4.lt hks.out hkk
              obtain ⟨x, hx⟩ : ∃ x, ks[k] = x := ⟨_, rfl⟩
              obtain ⟨gk, rfl, _, k2, k3⟩ := hI.hkv.at_ hkk
              rw [hx] at k3 hsome hsz12
              have hg := get_1 hI.T x (by omega)
              simp only [hsome] at hg
              replace hx := Lib.hid hx
              go_wp2_with fail
              refine hg.mono ?_
              rintro e5 W9 ⟨rfl, d'', hT9, hX9, hS9, hs9⟩
              have hI9 := hI.got hT9 hX9 hS9 hs9
              have hu9 := hI9.hu
              have hap := hI9.ap
              clear hg hI hT9 hX9 hS9 hs9 hsome hsz12 k2 k3
              go_wp2_with fail
              refine wp_loop_ghost (Inv8 W9 w.heap.size bd (.slice pb n2 cb) (.slice pu al.length cu) (.slice po al.length co) (.slice (some ⟨gk, 0, none⟩) ks.length ck) al x bs' i c' k) al.length ?_ ?_
              · exact ⟨0, bs', rfl, Nat.zero_le _, ⟨rfl, rfl, rfl, rfl, rfl, rfl, rfl, rfl, rfl, rfl, rfl, rfl⟩, Mark.begin hI9.bls hI9.len⟩
              · rintro m ⟨tmps, ds⟩ W10 ⟨j, bs2, rfl, hj, ⟨hsz, t2, t7, t8, t10, t11, t14, t15, t16, t17, t20, rfl⟩, hM⟩
                replace hsz : tmps.size = 163 := hsz
                dsimp only at t2 t7 t8 t10 t11 t14 t15 t16 t17 t20
                revert t2 t7 t8 t10 t11 t14 t15 t16 t17 t20
                revert hsz
                revert tmps
                refine all163 ?_
                intro u0 u1 u2 u3 u4 u5 u6 u7 u8 u9 u10 u11 u12 u13 u14 u15 u16 u17 u18 u19 u20 u21 u22 u23 u24 u25 u26 u27 u28 u29 u30 u31 u32 u33 u34 u35 u36 u37 u38 u39 u40 u41 u42 u43 u44 u45 u46 u47 u48 u49 u50 u51 u52 u53 u54 u55 u56 u57 u58 u59 u60 u61 u62 u63 u64 u65 u66 u67 u68 u69 u70 u71 u72 u73 u74 u75 u76 u77 u78 u79 u80 u81 u82 u83 u84 u85 u86 u87 u88 u89 u90 u91 u92 u93 u94 u95 u96 u97 u98 u99 u100 u101 u102 u103 u104 u105 u106 u107 u108 u109 u110 u111 u112 u113 u114 u115 u116 u117 u118 u119 u120 u121 u122 u123 u124 u125 u126 u127 u128 u129 u130 u131 u132 u133 u134 u135 u136 u137 u138 u139 u140 u141 u142 u143 u144 u145 u146 u147 u148 u149 u150 u151 u152 u153 u154 u155 u156 u157 u158 u159 u160 u161 u162 t2 t7 t8 t10 t11 t14 t15 t16 t17 t20
                simp only [ptr, List.getElem?_toArray, List.getElem?_cons_zero, List.getElem?_cons_succ, Option.some.injEq] at t2 t7 t8 t10 t11 t14 t15 t16 t17 t20
                subst t2 t7 t8 t10 t11 t14 t15 t16 t17 t20
                by_cases hjl : j < al.length
                · have hjl' : (j : Int) < (al.length : Int) := by omega
                  have hjb : (j : Int) ≤ 80 := by omega
                  have hu10 := hu9.chg hM.chg (fun g hg h' => hap.ou g h' hg)
                  obtain ⟨gu, rfl, _, m2, m3⟩ := hu10.at_ hjl
                  obtain ⟨gk', hgk, _, k4, k5⟩ := (hI9.hkv.chg hM.chg (fun g hg h' => hI9.ko g h' hg)).at_ hkk
                  injection hgk with hgk
                  injection hgk with hgk
                  subst hgk
                  rw [hx.out] at k5
                  obtain ⟨y, hy⟩ : ∃ y, al[j] = y := ⟨_, rfl⟩
                  rw [hy] at m3
                  by_cases he : y = x
                  · have hyx : al[j] = x := hy.trans he
                    rw [he] at m3
                    have he2 := toList_eq x
                    obtain ⟨gt, rfl, _, o2, o3, o4⟩ := hM.bls.at_ (k := j) (by rw [hM.len]; exact hjl)
                    have hM' := fun W' (hc : Chg (fun _ => False) W10 W') => (hM.far hc).tell
                    replace hy := Lib.hid hy
                    replace hyx := Lib.hid hyx
                    clear he
                    go_wp2_with fail
                    go_quiet (fail)
                    go_wp2_with fail
                    exact ⟨al.length - (j + 1), by omega, j + 1, _, rfl, by omega, ⟨rfl, rfl, rfl, rfl, rfl, rfl, rfl, rfl, rfl, rfl, rfl, rfl⟩, hM' _ ((Chg.refl _ _).drewN _)⟩
                  · have he2 := toList_ne he
                    have hM' := fun W' (hc : Chg (fun _ => False) W10 W') => (hM.far hc).skip hjl (by rw [hy]; exact he)
                    replace hy := Lib.hid hy
                    go_wp2_with fail
                    go_quiet (fail)
                    go_wp2_with fail
                    exact ⟨al.length - (j + 1), by omega, j + 1, _, rfl, by omega, ⟨rfl, rfl, rfl, rfl, rfl, rfl, rfl, rfl, rfl, rfl, rfl, rfl⟩, hM' _ ((Chg.refl _ _).drewN _)⟩
                · have hjl' : ((j : Int) < (al.length : Int)) = False := by simp only [eq_iff_iff, iff_false]; omega
                  have hjl2 : (j < al.length) = False := by simp only [eq_iff_iff, iff_false]; omega
                  have hje : j = al.length := by omega
                  have hI11 := hI9.told hkk (by rw [hje] at hM; rw [hx.out]; exact hM)
                  clear hjl
                  go_wp2_with fail
                  exact ⟨ks.length - (k + 1), by omega, k + 1, d'', bs2, rfl, by omega, ⟨rfl, rfl, rfl, rfl, rfl, rfl, rfl, rfl, rfl, rfl, rfl⟩, hI11⟩
            · have hkk' : ((k : Int) < (ks.length : Int)) = False := by simp only [eq_iff_iff, iff_false]; omega
              have hkk2 : (k < ks.length) = False := by simp only [eq_iff_iff, iff_false]; omega
              have hke : k = ks.length := by omega
              rw [hke] at hI
              have hend := (hI.end_ h4.keep hok h4.lt hks.out).1
              have hnx := h4.next hI hks.out
              rw [← hc'.out] at hend hnx
              clear hkk
              by_cases h0 : c' = 0
              · have hal0 := hend h0
                have hlen9 := hI.len
                have hb9 := hI.bls
                have hT9 := hI.T.chg
                clear hend hnx hI h4
                have h0' : (c' : Int) = 0 := by omega
                clear hc'
                subst h0
                go_wp2_with fail
                exact ⟨rfl, _, bs', ⟨rfl, rfl, rfl, rfl, rfl⟩, hT9, hb9, hlen9, hal0⟩
              · obtain ⟨h9, hlt9⟩ := hnx h0
                have h0' : ((c' : Int) == 0) = false := by rw [beq_eq_false_iff_ne]; omega
                have h02 : ¬ (c' : Int) = 0 := by omega
                clear hend hnx hI h4
                by_cases hin : i < n2
                · have hin' : (i : Int) < (n2 : Int) := by omega
                  by_cases hi1 : i < 120
                  · have hi' : (i : Int) < 120 := by omega
                    obtain ⟨bx, off, cap', heq, _⟩ := (hb.chg h9.T.chg).at_ i hin
                    injection heq with heq hx hcap
                    subst heq hcap
                    clear hx
                    obtain ⟨hb1, q0, q1, q2, f1⟩ := acts3 (hb.chg h9.T.chg) hin
                    obtain ⟨r, hr, hcase⟩ := mod8 (g2 i).Do
                    have hbx := Blk.new W8 28 #[.int .i64 (g2 i).Do, .string (g2 i).Key, .int .i64 (g2 i).V]
                    have hB4 := h9.chg0 ((Chg.refl _ W8).alloc (.cells #[.int .i64 (g2 i).Do, .string (g2 i).Key, .int .i64 (g2 i).V] 28))
                    have HR := Lib.hid hr
                    by_cases h5 : r = 5
                    · subst h5
                      have hu9 := hB4.hu
                      have hap := hB4.ap
                      go_wp2_with fail
                      refine wp_loop_ghost (Inv10 (W8.alloc (.cells #[.int .i64 (g2 i).Do, .string (g2 i).Key, .int .i64 (g2 i).V] 28)) w.heap.size bd (.slice (some ⟨bx, off, none⟩) n2 cb) (.slice pu al.length cu) (.slice po al.length co) al (cutS (g2 i).Key 12) bs' c' i W8.heap.size) al.length ?_ ?_
                      · exact ⟨0, bs', rfl, Nat.zero_le _, ⟨rfl, rfl, rfl, rfl, rfl, rfl, rfl, rfl, rfl, rfl, rfl⟩, Mark.begin hB4.bls hB4.keep.len⟩
                      · rintro m ⟨tmps, ds⟩ W10 ⟨j, bs2, rfl, hj, ⟨hsz, t2, t7, t8, t10, t11, t13, t14, t21, t22, rfl⟩, hM⟩
                        replace hsz : tmps.size = 163 := hsz
                        dsimp only at t2 t7 t8 t10 t11 t13 t14 t21 t22
                        revert t2 t7 t8 t10 t11 t13 t14 t21 t22
                        revert hsz
                        revert tmps
                        refine all163 ?_
                        intro u0 u1 u2 u3 u4 u5 u6 u7 u8 u9 u10 u11 u12 u13 u14 u15 u16 u17 u18 u19 u20 u21 u22 u23 u24 u25 u26 u27 u28 u29 u30 u31 u32 u33 u34 u35 u36 u37 u38 u39 u40 u41 u42 u43 u44 u45 u46 u47 u48 u49 u50 u51 u52 u53 u54 u55 u56 u57 u58 u59 u60 u61 u62 u63 u64 u65 u66 u67 u68 u69 u70 u71 u72 u73 u74 u75 u76 u77 u78 u79 u80 u81 u82 u83 u84 u85 u86 u87 u88 u89 u90 u91 u92 u93 u94 u95 u96 u97 u98 u99 u100 u101 u102 u103 u104 u105 u106 u107 u108 u109 u110 u111 u112 u113 u114 u115 u116 u117 u118 u119 u120 u121 u122 u123 u124 u125 u126 u127 u128 u129 u130 u131 u132 u133 u134 u135 u136 u137 u138 u139 u140 u141 u142 u143 u144 u145 u146 u147 u148 u149 u150 u151 u152 u153 u154 u155 u156 u157 u158 u159 u160 u161 u162 t2 t7 t8 t10 t11 t13 t14 t21 t22
                        simp only [ptr, List.getElem?_toArray, List.getElem?_cons_zero, List.getElem?_cons_succ, Option.some.injEq] at t2 t7 t8 t10 t11 t13 t14 t21 t22
                        subst t2 t7 t8 t10 t11 t13 t14 t21 t22
                        have hbx' := hbx.chg hM.chg (fun h' => by have := (h9.bls.own.lt _ h').2; omega)
                        have c0 := hbx'.cell 0
                        have c1 := hbx'.cell 1
                        have c2 := hbx'.cell 2
                        have f0 := hbx'.lt
                        simp only [List.getElem?_toArray, List.getElem?_cons_zero, List.getElem?_cons_succ] at c0 c1 c2
                        by_cases hjl : j < al.length
                        · have hjl' : (j : Int) < (al.length : Int) := by omega
                          have hjb : (j : Int) ≤ 80 := by omega
                          have hu10 := hu9.chg hM.chg (fun g hg h' => hap.ou g h' hg)
                          obtain ⟨gu, rfl, _, m2, m3⟩ := hu10.at_ hjl
                          obtain ⟨y, hy⟩ : ∃ y, al[j] = y := ⟨_, rfl⟩
                          rw [hy] at m3
                          by_cases he : y = (cutS (g2 i).Key 12)
                          · have hyx : al[j] = (cutS (g2 i).Key 12) := hy.trans he
                            rw [he] at m3
                            have he2 := toList_eq (cutS (g2 i).Key 12)
                            obtain ⟨gt, rfl, _, o2, o3, o4⟩ := hM.bls.at_ (k := j) (by rw [hM.len]; exact hjl)
                            have hM' := fun W' (hc : Chg (fun _ => False) W10 W') => (hM.far hc).tell
                            replace hy := Lib.hid hy
                            replace hyx := Lib.hid hyx
                            clear he
                            go_wp2_with fail
                            go_quiet ((go_at_call 39; exact Calls.quiet_of_same ((key8_any _ _ f1).mono fun _ _ hh => ⟨hh.1, hh.2.symm⟩)))
                            go_wp2_with fail
                            exact ⟨al.length - (j + 1), by omega, j + 1, _, rfl, by omega, ⟨rfl, rfl, rfl, rfl, rfl, rfl, rfl, rfl, rfl, rfl, rfl⟩, hM' _ ((Chg.refl _ _).drewN _)⟩
                          · have he2 := toList_ne he
                            have hM' := fun W' (hc : Chg (fun _ => False) W10 W') => (hM.far hc).skip hjl (by rw [hy]; exact he)
                            replace hy := Lib.hid hy
                            go_wp2_with fail
                            go_quiet ((go_at_call 39; exact Calls.quiet_of_same ((key8_any _ _ f1).mono fun _ _ hh => ⟨hh.1, hh.2.symm⟩)))
                            go_wp2_with fail
                            exact ⟨al.length - (j + 1), by omega, j + 1, _, rfl, by omega, ⟨rfl, rfl, rfl, rfl, rfl, rfl, rfl, rfl, rfl, rfl, rfl⟩, hM' _ ((Chg.refl _ _).drewN _)⟩
                        · have hjl' : ((j : Int) < (al.length : Int)) = False := by simp only [eq_iff_iff, iff_false]; omega
                          have hjl2 : (j < al.length) = False := by simp only [eq_iff_iff, iff_false]; omega
                          have hje : j = al.length := by omega
                          have h12 := hB4.mark hM
                          have hct : (IntKind.u64.wrap (g2 i).Do).tmod 8 = 5 ∨ (IntKind.u64.wrap (g2 i).Do).tmod 8 = 6 → ∀ j (hj : j < al.length), al[j] = cutS (g2 i).Key 12 → bs2[j]? ≠ some false := fun _ k hk e e' => (hM.no k hk e').2 (by omega) e
                          clear hjl
                          have hac := acted_far h12.T (g2 i) f1 (by have := h12.n; omega)
                          go_wp2_with fail
                          refine hac.mono ?_
                          rintro e5 W13 ⟨⟨v5, rfl⟩, d3, hT3, hF3, hA3⟩
                          have h13 := h12.acted (by omega) hT3 hF3 hA3 hct
                          clear hac
                          go_wp2_with fail
                          exact ⟨_, hlt9, i + 1, d3, _, _, c', rfl, ⟨rfl, rfl, rfl, rfl, rfl, rfl, rfl, rfl, rfl⟩, h13.wide (by omega)⟩
                    · by_cases h6 : r = 6
                      · subst h6
                        have hu9 := hB4.hu
                        have hap := hB4.ap
                        go_wp2_with fail
                        refine wp_loop_ghost (Inv10 (W8.alloc (.cells #[.int .i64 (g2 i).Do, .string (g2 i).Key, .int .i64 (g2 i).V] 28)) w.heap.size bd (.slice (some ⟨bx, off, none⟩) n2 cb) (.slice pu al.length cu) (.slice po al.length co) al (cutS (g2 i).Key 12) bs' c' i W8.heap.size) al.length ?_ ?_
                        · exact ⟨0, bs', rfl, Nat.zero_le _, ⟨rfl, rfl, rfl, rfl, rfl, rfl, rfl, rfl, rfl, rfl, rfl⟩, Mark.begin hB4.bls hB4.keep.len⟩
                        · rintro m ⟨tmps, ds⟩ W10 ⟨j, bs2, rfl, hj, ⟨hsz, t2, t7, t8, t10, t11, t13, t14, t21, t22, rfl⟩, hM⟩
                          replace hsz : tmps.size = 163 := hsz
                          dsimp only at t2 t7 t8 t10 t11 t13 t14 t21 t22
                          revert t2 t7 t8 t10 t11 t13 t14 t21 t22
                          revert hsz
                          revert tmps
                          refine all163 ?_
                          intro u0 u1 u2 u3 u4 u5 u6 u7 u8 u9 u10 u11 u12 u13 u14 u15 u16 u17 u18 u19 u20 u21 u22 u23 u24 u25 u26 u27 u28 u29 u30 u31 u32 u33 u34 u35 u36 u37 u38 u39 u40 u41 u42 u43 u44 u45 u46 u47 u48 u49 u50 u51 u52 u53 u54 u55 u56 u57 u58 u59 u60 u61 u62 u63 u64 u65 u66 u67 u68 u69 u70 u71 u72 u73 u74 u75 u76 u77 u78 u79 u80 u81 u82 u83 u84 u85 u86 u87 u88 u89 u90 u91 u92 u93 u94 u95 u96 u97 u98 u99 u100 u101 u102 u103 u104 u105 u106 u107 u108 u109 u110 u111 u112 u113 u114 u115 u116 u117 u118 u119 u120 u121 u122 u123 u124 u125 u126 u127 u128 u129 u130 u131 u132 u133 u134 u135 u136 u137 u138 u139 u140 u141 u142 u143 u144 u145 u146 u147 u148 u149 u150 u151 u152 u153 u154 u155 u156 u157 u158 u159 u160 u161 u162 t2 t7 t8 t10 t11 t13 t14 t21 t22
                          simp only [ptr, List.getElem?_toArray, List.getElem?_cons_zero, List.getElem?_cons_succ, Option.some.injEq] at t2 t7 t8 t10 t11 t13 t14 t21 t22
                          subst t2 t7 t8 t10 t11 t13 t14 t21 t22
                          have hbx' := hbx.chg hM.chg (fun h' => by have := (h9.bls.own.lt _ h').2; omega)
                          have c0 := hbx'.cell 0
                          have c1 := hbx'.cell 1
                          have c2 := hbx'.cell 2
                          have f0 := hbx'.lt
                          simp only [List.getElem?_toArray, List.getElem?_cons_zero, List.getElem?_cons_succ] at c0 c1 c2
                          by_cases hjl : j < al.length
                          · have hjl' : (j : Int) < (al.length : Int) := by omega
                            have hjb : (j : Int) ≤ 80 := by omega
                            have hu10 := hu9.chg hM.chg (fun g hg h' => hap.ou g h' hg)
                            obtain ⟨gu, rfl, _, m2, m3⟩ := hu10.at_ hjl
                            obtain ⟨y, hy⟩ : ∃ y, al[j] = y := ⟨_, rfl⟩
                            rw [hy] at m3
                            by_cases he : y = (cutS (g2 i).Key 12)
                            · have hyx : al[j] = (cutS (g2 i).Key 12) := hy.trans he
                              rw [he] at m3
                              have he2 := toList_eq (cutS (g2 i).Key 12)
                              obtain ⟨gt, rfl, _, o2, o3, o4⟩ := hM.bls.at_ (k := j) (by rw [hM.len]; exact hjl)
                              have hM' := fun W' (hc : Chg (fun _ => False) W10 W') => (hM.far hc).tell
                              replace hy := Lib.hid hy
                              replace hyx := Lib.hid hyx
                              clear he
                              go_wp2_with fail
                              go_quiet ((go_at_call 39; exact Calls.quiet_of_same ((key8_any _ _ f1).mono fun _ _ hh => ⟨hh.1, hh.2.symm⟩)))
                              go_wp2_with fail
                              exact ⟨al.length - (j + 1), by omega, j + 1, _, rfl, by omega, ⟨rfl, rfl, rfl, rfl, rfl, rfl, rfl, rfl, rfl, rfl, rfl⟩, hM' _ ((Chg.refl _ _).drewN _)⟩
                            · have he2 := toList_ne he
                              have hM' := fun W' (hc : Chg (fun _ => False) W10 W') => (hM.far hc).skip hjl (by rw [hy]; exact he)
                              replace hy := Lib.hid hy
                              go_wp2_with fail
                              go_quiet ((go_at_call 39; exact Calls.quiet_of_same ((key8_any _ _ f1).mono fun _ _ hh => ⟨hh.1, hh.2.symm⟩)))
                              go_wp2_with fail
                              exact ⟨al.length - (j + 1), by omega, j + 1, _, rfl, by omega, ⟨rfl, rfl, rfl, rfl, rfl, rfl, rfl, rfl, rfl, rfl, rfl⟩, hM' _ ((Chg.refl _ _).drewN _)⟩
                          · have hjl' : ((j : Int) < (al.length : Int)) = False := by simp only [eq_iff_iff, iff_false]; omega
                            have hjl2 : (j < al.length) = False := by simp only [eq_iff_iff, iff_false]; omega
                            have hje : j = al.length := by omega
                            have h12 := hB4.mark hM
                            have hct : (IntKind.u64.wrap (g2 i).Do).tmod 8 = 5 ∨ (IntKind.u64.wrap (g2 i).Do).tmod 8 = 6 → ∀ j (hj : j < al.length), al[j] = cutS (g2 i).Key 12 → bs2[j]? ≠ some false := fun _ k hk e e' => (hM.no k hk e').2 (by omega) e
                            clear hjl
                            have hac := acted_far h12.T (g2 i) f1 (by have := h12.n; omega)
                            go_wp2_with fail
                            refine hac.mono ?_
                            rintro e5 W13 ⟨⟨v5, rfl⟩, d3, hT3, hF3, hA3⟩
                            have h13 := h12.acted (by omega) hT3 hF3 hA3 hct
                            clear hac
                            go_wp2_with fail
                            exact ⟨_, hlt9, i + 1, d3, _, _, c', rfl, ⟨rfl, rfl, rfl, rfl, rfl, rfl, rfl, rfl, rfl⟩, h13.wide (by omega)⟩
                      · have h5' : (r == 5) = false := by rw [beq_eq_false_iff_ne]; exact h5
                        have h6' : (r == 6) = false := by rw [beq_eq_false_iff_ne]; exact h6
                        have hct : (IntKind.u64.wrap (g2 i).Do).tmod 8 = 5 ∨ (IntKind.u64.wrap (g2 i).Do).tmod 8 = 6 → ∀ j (hj : j < al.length), al[j] = cutS (g2 i).Key 12 → bs'[j]? ≠ some false := fun h => by rw [HR.out] at h; omega
                        have hac := acted_far hB4.T (g2 i) f1 (by have := hB4.n; omega)
                        go_wp2_with fail
                        refine hac.mono ?_
                        rintro e5 W13 ⟨⟨v5, rfl⟩, d3, hT3, hF3, hA3⟩
                        have h13 := hB4.acted (by omega) hT3 hF3 hA3 hct
                        clear hac
                        go_wp2_with fail
                        exact ⟨_, hlt9, i + 1, d3, _, _, c', rfl, ⟨rfl, rfl, rfl, rfl, rfl, rfl, rfl, rfl, rfl⟩, h13.wide (by omega)⟩
                  · have hi' : ((i : Int) < 120) = False := by simp only [eq_iff_iff, iff_false]; omega
                    clear hi1
                    go_wp2_with fail
                    exact ⟨_, hlt9, i + 1, d', _, _, c', rfl, ⟨rfl, rfl, rfl, rfl, rfl, rfl, rfl, rfl, rfl⟩, h9.wide (by omega)⟩
                · have hin' : ((i : Int) < (n2 : Int)) = False := by simp only [eq_iff_iff, iff_false]; omega
                  have hin2 : (i < n2) = False := by simp only [eq_iff_iff, iff_false]; omega
                  clear hin
                  go_wp2_with fail
                  exact ⟨_, hlt9, i + 1, d', _, _, c', rfl, ⟨rfl, rfl, rfl, rfl, rfl, rfl, rfl, rfl, rfl⟩, h9.wide (by omega)⟩
      · clear hT hu ho hap hK0
        rintro e ⟨tmps, ds⟩ W6 ⟨rfl, o, bs, ⟨hsz, t7, t11, t13, rfl⟩, hC, ho, hlen, hall⟩
        replace hsz : tmps.size = 163 := hsz
        dsimp only at t7 t11 t13
        revert t7 t11 t13
        revert hsz
        revert tmps
        refine all163 ?_
        intro u0 u1 u2 u3 u4 u5 u6 u7 u8 u9 u10 u11 u12 u13 u14 u15 u16 u17 u18 u19 u20 u21 u22 u23 u24 u25 u26 u27 u28 u29 u30 u31 u32 u33 u34 u35 u36 u37 u38 u39 u40 u41 u42 u43 u44 u45 u46 u47 u48 u49 u50 u51 u52 u53 u54 u55 u56 u57 u58 u59 u60 u61 u62 u63 u64 u65 u66 u67 u68 u69 u70 u71 u72 u73 u74 u75 u76 u77 u78 u79 u80 u81 u82 u83 u84 u85 u86 u87 u88 u89 u90 u91 u92 u93 u94 u95 u96 u97 u98 u99 u100 u101 u102 u103 u104 u105 u106 u107 u108 u109 u110 u111 u112 u113 u114 u115 u116 u117 u118 u119 u120 u121 u122 u123 u124 u125 u126 u127 u128 u129 u130 u131 u132 u133 u134 u135 u136 u137 u138 u139 u140 u141 u142 u143 u144 u145 u146 u147 u148 u149 u150 u151 u152 u153 u154 u155 u156 u157 u158 u159 u160 u161 u162 t7 t11 t13
        simp only [ptr, List.getElem?_toArray, List.getElem?_cons_zero, List.getElem?_cons_succ, Option.some.injEq] at t7 t11 t13
        subst t7 t11 t13
        obtain ⟨po, co, hoe, _⟩ := ho.is
        rw [hlen] at hoe
        subst hoe
        go_wp2_with fail
        refine wp_loop_ghost (Inv12 W6 al.length (.slice po al.length co)) al.length ?_ ?_
        · exact ⟨0, rfl, Nat.zero_le _, ⟨rfl, rfl, rfl, rfl, rfl, rfl⟩, Chg.refl _ _⟩
        · rintro m ⟨tmps, ds⟩ W7 ⟨j, rfl, hj, ⟨hsz, t7, t11, t13, t23, rfl⟩, hC7⟩
          replace hsz : tmps.size = 163 := hsz
          dsimp only at t7 t11 t13 t23
          revert t7 t11 t13 t23
          revert hsz
          revert tmps
          refine all163 ?_
          intro u0 u1 u2 u3 u4 u5 u6 u7 u8 u9 u10 u11 u12 u13 u14 u15 u16 u17 u18 u19 u20 u21 u22 u23 u24 u25 u26 u27 u28 u29 u30 u31 u32 u33 u34 u35 u36 u37 u38 u39 u40 u41 u42 u43 u44 u45 u46 u47 u48 u49 u50 u51 u52 u53 u54 u55 u56 u57 u58 u59 u60 u61 u62 u63 u64 u65 u66 u67 u68 u69 u70 u71 u72 u73 u74 u75 u76 u77 u78 u79 u80 u81 u82 u83 u84 u85 u86 u87 u88 u89 u90 u91 u92 u93 u94 u95 u96 u97 u98 u99 u100 u101 u102 u103 u104 u105 u106 u107 u108 u109 u110 u111 u112 u113 u114 u115 u116 u117 u118 u119 u120 u121 u122 u123 u124 u125 u126 u127 u128 u129 u130 u131 u132 u133 u134 u135 u136 u137 u138 u139 u140 u141 u142 u143 u144 u145 u146 u147 u148 u149 u150 u151 u152 u153 u154 u155 u156 u157 u158 u159 u160 u161 u162 t7 t11 t13 t23
          simp only [ptr, List.getElem?_toArray, List.getElem?_cons_zero, List.getElem?_cons_succ, Option.some.injEq] at t7 t11 t13 t23
          subst t7 t11 t13 t23
          by_cases hjl : j < al.length
          · have hjl' : (j : Int) < (al.length : Int) := by omega
            have hjb : (j : Int) ≤ 80 := by omega
            obtain ⟨gt, rfl, _, o2, o3, _⟩ := (ho.chg hC7 fun _ _ => id).at_ (k := j) (by rw [hlen]; exact hjl)
            have hbt : bs[j]'(by rw [hlen]; exact hjl) = true := by
              have := hall j hjl
              rw [List.getElem?_eq_getElem (by rw [hlen]; exact hjl)] at this
              revert this
              cases bs[j]'(by rw [hlen]; exact hjl) <;> simp
            rw [hbt] at o3
            go_wp2_with fail
            exact ⟨al.length - (j + 1), by omega, j + 1, rfl, by omega, ⟨rfl, rfl, rfl, rfl, rfl, rfl⟩, hC7⟩
          · have hjl' : ((j : Int) < (al.length : Int)) = False := by simp only [eq_iff_iff, iff_false]; omega
            have hjl2 : (j < al.length) = False := by simp only [eq_iff_iff, iff_false]; omega
            clear hjl
            go_wp2_with fail
            go_ret
            exact ⟨rfl, hC.trans hC7⟩

set_option maxRecDepth 100000 in
theorem ScanKeeps_walk (W : World) (a0 : Int) (w0 : (Lit.int .u32 a0).wf = true) {H : Type} {enc : TypeId × Value → H} {v : Value} {d : DataW H} {p : List MemPlace} {v2 : Value} {d2 : DataW H} {p2 : List MemPlace}
    (hv : Value.okWide Try.prog W .any 0 23 v) (h : DataW.Trod enc Try.prog W 0 (fun _ => true) true 23 v d p)
    (hv2 : Value.okWide Try.prog W .any 0 23 v2) (h2 : DataW.Trod enc Try.prog W 0 (fun _ => true) true 23 v2 d2 p2) :
    Calls Try.prog 12 #[.int .u32 a0, v, v2] W fun e w' => e = .returned (.bool true) ∧ Chg (fun _ => False) W w' := by
  obtain ⟨s0, rfl, h0⟩ := u32_of_wf w0
  obtain ⟨n, g, hg⟩ := open_acts hv h
  obtain ⟨n2, g2, hg2⟩ := open_acts hv2 h2
  exact walk s0 h0 v n g v2 n2 g2 W hg hg2

end Go.Proofs.Ythbjjjcppijcbaa.scanKeeps
