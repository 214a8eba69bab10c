/- The walk of DictMoves. -/
import Derived.Test.YthbjjjcppijcbaaDAint
import Derived.Test.YthbjjjcppijcbaaS7
import Derived.Deep.LoopGhost
import Derived.Laws.BytesArg
namespace Go.Proofs.Ythbjjjcppijcbaa.dictMoves
open Go.RowKit Pal Dint

/-! ### the sizes behind k new keys -/
def nextS (s : Nat × Option Nat × Nat) (i : Nat) : Nat × Option Nat × Nat := growS (stepS s 1) i
def shAt : Nat → Nat × Option Nat × Nat
  | 0 => (4, none, 0)
  | i + 1 => nextS (shAt i) i
def good (s : Nat × Option Nat × Nat) (i : Nat) : Bool :=
  match s.2.1 with
  | none => s.2.2 == 0 && decide (i ≤ s.1) && decide (4 ≤ s.1) && decide (s.1 ≤ 1024)
  | some l => decide (s.2.2 < s.1) && decide (i ≤ l) && decide (4 ≤ l) && decide (s.1 ≤ 512) && decide (l ≤ 65536)
def chk : Nat → Nat → Nat × Option Nat × Nat → Bool
  | 0, _, _ => true
  | k + 1, i, s => good s i && chk k (i + 1) (nextS s i)
theorem chk_of : ∀ (k i : Nat), chk k i (shAt i) = true → ∀ j, j < k → good (shAt (i + j)) (i + j) = true
  | 0, _, _, _, hj => by cases hj
  | k + 1, i, h, j, hj => by
    have h' : (good (shAt i) i && chk k (i + 1) (shAt (i + 1))) = true := h
    rw [Bool.and_eq_true] at h'
    cases j with
    | zero => exact h'.1
    | succ j =>
      have := chk_of k (i + 1) h'.2 j (by omega)
      rw [show i + (j + 1) = i + 1 + j by omega]
      exact this
theorem chk_all : chk 301 0 (shAt 0) = true := by decide +kernel
theorem good_at (i : Nat) (h : i ≤ 300) : good (shAt i) i = true := by
  have := chk_of 301 0 chk_all i (by omega)
  rw [Nat.zero_add] at this
  exact this

/-! ### the keys -/
def K (i : Nat) : ByteArray := ⟨#[UInt8.ofNat (i % 256), UInt8.ofNat (i / 256 % 256)]⟩
theorem K_size (i : Nat) : (K i).size = 2 := rfl
theorem K_inj {i j : Nat} (hi : i < 65536) (hj : j < 65536) (h : K i = K j) : i = j := by
  unfold K at h
  injection h with h
  injection h with h
  injection h with h1 h2
  injection h2 with h2
  have a := congrArg UInt8.toNat h1
  have b := congrArg UInt8.toNat h2
  simp only [UInt8.toNat_ofNat'] at a b
  omega

set_option maxRecDepth 100000 in
theorem conv_K (W : World) (i : Nat) (hi : i < 65536) :
    (convert 45 9 (.slice (some ⟨W.heap.size, 0, none⟩) 2 2)).run Try.prog (W.alloc (.cells #[.int .u8 ((i : Int) % 256), .int .u8 ((i : Int) / 256)] 5)) = .ok (.string (K i)) (W.alloc (.cells #[.int .u8 ((i : Int) % 256), .int .u8 ((i : Int) / 256)] 5)) := by
  have hb := Blk.new W 5 #[.int .u8 ((i : Int) % 256), .int .u8 ((i : Int) / 256)]
  have h := run_convert_bytes_arg (P := Try.prog) (W.alloc (.cells #[.int .u8 ((i : Int) % 256), .int .u8 ((i : Int) / 256)] 5)) 45 5 Try.underlying45 Try.underlying5 W.heap.size 0 2 2 [(i : Int) % 256, (i : Int) / 256] rfl (fun j hj => by
    rw [Nat.zero_add, hb.cell j]
    rcases (by omega : j = 0 ∨ j = 1) with rfl | rfl <;> rfl) 9 Try.underlying9
  rw [h]
  have e : strOfNums [(i : Int) % 256, (i : Int) / 256] = K i := by
    unfold strOfNums K
    have e1 : ((i : Int) % 256).toNat = i % 256 := by omega
    have e2 : ((i : Int) / 256).toNat = i / 256 % 256 := by omega
    simp only [List.map_cons, List.map_nil, e1, e2]
  rw [e]

structure Put (N i : Nat) (d : Dm) : Prop where
  has : ∀ j, j < i → d.look (K j) = some (.int .i64 (j : Int))
  no : ∀ j, i ≤ j → j < 65536 → d.look (K j) = none
  n : d.n = i
  sh : Dint.shape d = shAt i
theorem Put.next {N i : Nat} {d d' : Dm} (h : Put N i d) (hi : i < 1000) (hp : Puts (K i) (.int .i64 (i : Int)) d d') (hs : Dint.shape d' = if (d.look (K i)).isNone then growS (stepS (Dint.shape d) 1) d.n else stepS (Dint.shape d) 1) : Put N (i + 1) d' := by
  have hno := h.no i (Nat.le_refl _) (by omega)
  refine ⟨fun j hj => ?_, fun j hj hj2 => ?_, ?_, ?_⟩
  · rw [hp.1]
    split
    · rename_i e; rw [K_inj (by omega) (by omega) e]
    · rename_i e
      exact h.has j (by rcases Nat.lt_or_ge j i with h' | h'; exact h'; exact absurd (show K j = K i by rw [show j = i by omega]) e)
  · rw [hp.1, if_neg (fun e => by have := K_inj hj2 (by omega) e; omega)]
    exact h.no j (by omega) hj2
  · rw [hp.2, hno, h.n]; rfl
  · rw [hs, hno, h.sh, h.n]; rfl

theorem all207 {P : Array Value → Prop} (h : ∀ u0 u1 u2 u3 u4 u5 u6 u7 u8 u9 u10 u11 u12 u13 u14 u15 u16 u17 u18 u19 u20 u21 u22 u23 u24 u25 u26 u27 u28 u29 u30 u31 u32 u33 u34 u35 u36 u37 u38 u39 u40 u41 u42 u43 u44 u45 u46 u47 u48 u49 u50 u51 u52 u53 u54 u55 u56 u57 u58 u59 u60 u61 u62 u63 u64 u65 u66 u67 u68 u69 u70 u71 u72 u73 u74 u75 u76 u77 u78 u79 u80 u81 u82 u83 u84 u85 u86 u87 u88 u89 u90 u91 u92 u93 u94 u95 u96 u97 u98 u99 u100 u101 u102 u103 u104 u105 u106 u107 u108 u109 u110 u111 u112 u113 u114 u115 u116 u117 u118 u119 u120 u121 u122 u123 u124 u125 u126 u127 u128 u129 u130 u131 u132 u133 u134 u135 u136 u137 u138 u139 u140 u141 u142 u143 u144 u145 u146 u147 u148 u149 u150 u151 u152 u153 u154 u155 u156 u157 u158 u159 u160 u161 u162 u163 u164 u165 u166 u167 u168 u169 u170 u171 u172 u173 u174 u175 u176 u177 u178 u179 u180 u181 u182 u183 u184 u185 u186 u187 u188 u189 u190 u191 u192 u193 u194 u195 u196 u197 u198 u199 u200 u201 u202 u203 u204 u205 u206 : Value, P #[u0, u1, u2, u3, u4, u5, u6, u7, u8, u9, u10, u11, u12, u13, u14, u15, u16, u17, u18, u19, u20, u21, u22, u23, u24, u25, u26, u27, u28, u29, u30, u31, u32, u33, u34, u35, u36, u37, u38, u39, u40, u41, u42, u43, u44, u45, u46, u47, u48, u49, u50, u51, u52, u53, u54, u55, u56, u57, u58, u59, u60, u61, u62, u63, u64, u65, u66, u67, u68, u69, u70, u71, u72, u73, u74, u75, u76, u77, u78, u79, u80, u81, u82, u83, u84, u85, u86, u87, u88, u89, u90, u91, u92, u93, u94, u95, u96, u97, u98, u99, u100, u101, u102, u103, u104, u105, u106, u107, u108, u109, u110, u111, u112, u113, u114, u115, u116, u117, u118, u119, u120, u121, u122, u123, u124, u125, u126, u127, u128, u129, u130, u131, u132, u133, u134, u135, u136, u137, u138, u139, u140, u141, u142, u143, u144, u145, u146, u147, u148, u149, u150, u151, u152, u153, u154, u155, u156, u157, u158, u159, u160, u161, u162, u163, u164, u165, u166, u167, u168, u169, u170, u171, u172, u173, u174, u175, u176, u177, u178, u179, u180, u181, u182, u183, u184, u185, u186, u187, u188, u189, u190, u191, u192, u193, u194, u195, u196, u197, u198, u199, u200, u201, u202, u203, u204, u205, u206]) (a : Array Value) (hs : a.size = 207) : P a := by
  obtain ⟨l⟩ := a
  have g0 : l.length = 207 := hs
  clear hs
  obtain ⟨u0, l0, e0, g1⟩ := Pal.len_cons g0
  obtain ⟨u1, l1, e1, g2⟩ := Pal.len_cons g1
  obtain ⟨u2, l2, e2, g3⟩ := Pal.len_cons g2
  obtain ⟨u3, l3, e3, g4⟩ := Pal.len_cons g3
  obtain ⟨u4, l4, e4, g5⟩ := Pal.len_cons g4
  obtain ⟨u5, l5, e5, g6⟩ := Pal.len_cons g5
  obtain ⟨u6, l6, e6, g7⟩ := Pal.len_cons g6
  obtain ⟨u7, l7, e7, g8⟩ := Pal.len_cons g7
  obtain ⟨u8, l8, e8, g9⟩ := Pal.len_cons g8
  obtain ⟨u9, l9, e9, g10⟩ := Pal.len_cons g9
  obtain ⟨u10, l10, e10, g11⟩ := Pal.len_cons g10
  obtain ⟨u11, l11, e11, g12⟩ := Pal.len_cons g11
  obtain ⟨u12, l12, e12, g13⟩ := Pal.len_cons g12
  obtain ⟨u13, l13, e13, g14⟩ := Pal.len_cons g13
  obtain ⟨u14, l14, e14, g15⟩ := Pal.len_cons g14
  obtain ⟨u15, l15, e15, g16⟩ := Pal.len_cons g15
  obtain ⟨u16, l16, e16, g17⟩ := Pal.len_cons g16
  obtain ⟨u17, l17, e17, g18⟩ := Pal.len_cons g17
  obtain ⟨u18, l18, e18, g19⟩ := Pal.len_cons g18
  obtain ⟨u19, l19, e19, g20⟩ := Pal.len_cons g19
  obtain ⟨u20, l20, e20, g21⟩ := Pal.len_cons g20
  obtain ⟨u21, l21, e21, g22⟩ := Pal.len_cons g21
  obtain ⟨u22, l22, e22, g23⟩ := Pal.len_cons g22
  obtain ⟨u23, l23, e23, g24⟩ := Pal.len_cons g23
  obtain ⟨u24, l24, e24, g25⟩ := Pal.len_cons g24
  obtain ⟨u25, l25, e25, g26⟩ := Pal.len_cons g25
  obtain ⟨u26, l26, e26, g27⟩ := Pal.len_cons g26
  obtain ⟨u27, l27, e27, g28⟩ := Pal.len_cons g27
  obtain ⟨u28, l28, e28, g29⟩ := Pal.len_cons g28
  obtain ⟨u29, l29, e29, g30⟩ := Pal.len_cons g29
  obtain ⟨u30, l30, e30, g31⟩ := Pal.len_cons g30
  obtain ⟨u31, l31, e31, g32⟩ := Pal.len_cons g31
  obtain ⟨u32, l32, e32, g33⟩ := Pal.len_cons g32
  obtain ⟨u33, l33, e33, g34⟩ := Pal.len_cons g33
  obtain ⟨u34, l34, e34, g35⟩ := Pal.len_cons g34
  obtain ⟨u35, l35, e35, g36⟩ := Pal.len_cons g35
  obtain ⟨u36, l36, e36, g37⟩ := Pal.len_cons g36
  obtain ⟨u37, l37, e37, g38⟩ := Pal.len_cons g37
  obtain ⟨u38, l38, e38, g39⟩ := Pal.len_cons g38
  obtain ⟨u39, l39, e39, g40⟩ := Pal.len_cons g39
  obtain ⟨u40, l40, e40, g41⟩ := Pal.len_cons g40
  obtain ⟨u41, l41, e41, g42⟩ := Pal.len_cons g41
  obtain ⟨u42, l42, e42, g43⟩ := Pal.len_cons g42
  obtain ⟨u43, l43, e43, g44⟩ := Pal.len_cons g43
  obtain ⟨u44, l44, e44, g45⟩ := Pal.len_cons g44
  obtain ⟨u45, l45, e45, g46⟩ := Pal.len_cons g45
  obtain ⟨u46, l46, e46, g47⟩ := Pal.len_cons g46
  obtain ⟨u47, l47, e47, g48⟩ := Pal.len_cons g47
  obtain ⟨u48, l48, e48, g49⟩ := Pal.len_cons g48
  obtain ⟨u49, l49, e49, g50⟩ := Pal.len_cons g49
  obtain ⟨u50, l50, e50, g51⟩ := Pal.len_cons g50
  obtain ⟨u51, l51, e51, g52⟩ := Pal.len_cons g51
  obtain ⟨u52, l52, e52, g53⟩ := Pal.len_cons g52
  obtain ⟨u53, l53, e53, g54⟩ := Pal.len_cons g53
  obtain ⟨u54, l54, e54, g55⟩ := Pal.len_cons g54
  obtain ⟨u55, l55, e55, g56⟩ := Pal.len_cons g55
  obtain ⟨u56, l56, e56, g57⟩ := Pal.len_cons g56
  obtain ⟨u57, l57, e57, g58⟩ := Pal.len_cons g57
  obtain ⟨u58, l58, e58, g59⟩ := Pal.len_cons g58
  obtain ⟨u59, l59, e59, g60⟩ := Pal.len_cons g59
  obtain ⟨u60, l60, e60, g61⟩ := Pal.len_cons g60
  obtain ⟨u61, l61, e61, g62⟩ := Pal.len_cons g61
  obtain ⟨u62, l62, e62, g63⟩ := Pal.len_cons g62
  obtain ⟨u63, l63, e63, g64⟩ := Pal.len_cons g63
  obtain ⟨u64, l64, e64, g65⟩ := Pal.len_cons g64
  obtain ⟨u65, l65, e65, g66⟩ := Pal.len_cons g65
  obtain ⟨u66, l66, e66, g67⟩ := Pal.len_cons g66
  obtain ⟨u67, l67, e67, g68⟩ := Pal.len_cons g67
  obtain ⟨u68, l68, e68, g69⟩ := Pal.len_cons g68
  obtain ⟨u69, l69, e69, g70⟩ := Pal.len_cons g69
  obtain ⟨u70, l70, e70, g71⟩ := Pal.len_cons g70
  obtain ⟨u71, l71, e71, g72⟩ := Pal.len_cons g71
  obtain ⟨u72, l72, e72, g73⟩ := Pal.len_cons g72
  obtain ⟨u73, l73, e73, g74⟩ := Pal.len_cons g73
  obtain ⟨u74, l74, e74, g75⟩ := Pal.len_cons g74
  obtain ⟨u75, l75, e75, g76⟩ := Pal.len_cons g75
  obtain ⟨u76, l76, e76, g77⟩ := Pal.len_cons g76
  obtain ⟨u77, l77, e77, g78⟩ := Pal.len_cons g77
  obtain ⟨u78, l78, e78, g79⟩ := Pal.len_cons g78
  obtain ⟨u79, l79, e79, g80⟩ := Pal.len_cons g79
  obtain ⟨u80, l80, e80, g81⟩ := Pal.len_cons g80
  obtain ⟨u81, l81, e81, g82⟩ := Pal.len_cons g81
  obtain ⟨u82, l82, e82, g83⟩ := Pal.len_cons g82
  obtain ⟨u83, l83, e83, g84⟩ := Pal.len_cons g83
  obtain ⟨u84, l84, e84, g85⟩ := Pal.len_cons g84
  obtain ⟨u85, l85, e85, g86⟩ := Pal.len_cons g85
  obtain ⟨u86, l86, e86, g87⟩ := Pal.len_cons g86
  obtain ⟨u87, l87, e87, g88⟩ := Pal.len_cons g87
  obtain ⟨u88, l88, e88, g89⟩ := Pal.len_cons g88
  obtain ⟨u89, l89, e89, g90⟩ := Pal.len_cons g89
  obtain ⟨u90, l90, e90, g91⟩ := Pal.len_cons g90
  obtain ⟨u91, l91, e91, g92⟩ := Pal.len_cons g91
  obtain ⟨u92, l92, e92, g93⟩ := Pal.len_cons g92
  obtain ⟨u93, l93, e93, g94⟩ := Pal.len_cons g93
  obtain ⟨u94, l94, e94, g95⟩ := Pal.len_cons g94
  obtain ⟨u95, l95, e95, g96⟩ := Pal.len_cons g95
  obtain ⟨u96, l96, e96, g97⟩ := Pal.len_cons g96
  obtain ⟨u97, l97, e97, g98⟩ := Pal.len_cons g97
  obtain ⟨u98, l98, e98, g99⟩ := Pal.len_cons g98
  obtain ⟨u99, l99, e99, g100⟩ := Pal.len_cons g99
  obtain ⟨u100, l100, e100, g101⟩ := Pal.len_cons g100
  obtain ⟨u101, l101, e101, g102⟩ := Pal.len_cons g101
  obtain ⟨u102, l102, e102, g103⟩ := Pal.len_cons g102
  obtain ⟨u103, l103, e103, g104⟩ := Pal.len_cons g103
  obtain ⟨u104, l104, e104, g105⟩ := Pal.len_cons g104
  obtain ⟨u105, l105, e105, g106⟩ := Pal.len_cons g105
  obtain ⟨u106, l106, e106, g107⟩ := Pal.len_cons g106
  obtain ⟨u107, l107, e107, g108⟩ := Pal.len_cons g107
  obtain ⟨u108, l108, e108, g109⟩ := Pal.len_cons g108
  obtain ⟨u109, l109, e109, g110⟩ := Pal.len_cons g109
  obtain ⟨u110, l110, e110, g111⟩ := Pal.len_cons g110
  obtain ⟨u111, l111, e111, g112⟩ := Pal.len_cons g111
  obtain ⟨u112, l112, e112, g113⟩ := Pal.len_cons g112
  obtain ⟨u113, l113, e113, g114⟩ := Pal.len_cons g113
  obtain ⟨u114, l114, e114, g115⟩ := Pal.len_cons g114
  obtain ⟨u115, l115, e115, g116⟩ := Pal.len_cons g115
  obtain ⟨u116, l116, e116, g117⟩ := Pal.len_cons g116
  obtain ⟨u117, l117, e117, g118⟩ := Pal.len_cons g117
  obtain ⟨u118, l118, e118, g119⟩ := Pal.len_cons g118
  obtain ⟨u119, l119, e119, g120⟩ := Pal.len_cons g119
  obtain ⟨u120, l120, e120, g121⟩ := Pal.len_cons g120
  obtain ⟨u121, l121, e121, g122⟩ := Pal.len_cons g121
  obtain ⟨u122, l122, e122, g123⟩ := Pal.len_cons g122
  obtain ⟨u123, l123, e123, g124⟩ := Pal.len_cons g123
  obtain ⟨u124, l124, e124, g125⟩ := Pal.len_cons g124
  obtain ⟨u125, l125, e125, g126⟩ := Pal.len_cons g125
  obtain ⟨u126, l126, e126, g127⟩ := Pal.len_cons g126
  obtain ⟨u127, l127, e127, g128⟩ := Pal.len_cons g127
  obtain ⟨u128, l128, e128, g129⟩ := Pal.len_cons g128
  obtain ⟨u129, l129, e129, g130⟩ := Pal.len_cons g129
  obtain ⟨u130, l130, e130, g131⟩ := Pal.len_cons g130
  obtain ⟨u131, l131, e131, g132⟩ := Pal.len_cons g131
  obtain ⟨u132, l132, e132, g133⟩ := Pal.len_cons g132
  obtain ⟨u133, l133, e133, g134⟩ := Pal.len_cons g133
  obtain ⟨u134, l134, e134, g135⟩ := Pal.len_cons g134
  obtain ⟨u135, l135, e135, g136⟩ := Pal.len_cons g135
  obtain ⟨u136, l136, e136, g137⟩ := Pal.len_cons g136
  obtain ⟨u137, l137, e137, g138⟩ := Pal.len_cons g137
  obtain ⟨u138, l138, e138, g139⟩ := Pal.len_cons g138
  obtain ⟨u139, l139, e139, g140⟩ := Pal.len_cons g139
  obtain ⟨u140, l140, e140, g141⟩ := Pal.len_cons g140
  obtain ⟨u141, l141, e141, g142⟩ := Pal.len_cons g141
  obtain ⟨u142, l142, e142, g143⟩ := Pal.len_cons g142
  obtain ⟨u143, l143, e143, g144⟩ := Pal.len_cons g143
  obtain ⟨u144, l144, e144, g145⟩ := Pal.len_cons g144
  obtain ⟨u145, l145, e145, g146⟩ := Pal.len_cons g145
  obtain ⟨u146, l146, e146, g147⟩ := Pal.len_cons g146
  obtain ⟨u147, l147, e147, g148⟩ := Pal.len_cons g147
  obtain ⟨u148, l148, e148, g149⟩ := Pal.len_cons g148
  obtain ⟨u149, l149, e149, g150⟩ := Pal.len_cons g149
  obtain ⟨u150, l150, e150, g151⟩ := Pal.len_cons g150
  obtain ⟨u151, l151, e151, g152⟩ := Pal.len_cons g151
  obtain ⟨u152, l152, e152, g153⟩ := Pal.len_cons g152
  obtain ⟨u153, l153, e153, g154⟩ := Pal.len_cons g153
  obtain ⟨u154, l154, e154, g155⟩ := Pal.len_cons g154
  obtain ⟨u155, l155, e155, g156⟩ := Pal.len_cons g155
  obtain ⟨u156, l156, e156, g157⟩ := Pal.len_cons g156
  obtain ⟨u157, l157, e157, g158⟩ := Pal.len_cons g157
  obtain ⟨u158, l158, e158, g159⟩ := Pal.len_cons g158
  obtain ⟨u159, l159, e159, g160⟩ := Pal.len_cons g159
  obtain ⟨u160, l160, e160, g161⟩ := Pal.len_cons g160
  obtain ⟨u161, l161, e161, g162⟩ := Pal.len_cons g161
  obtain ⟨u162, l162, e162, g163⟩ := Pal.len_cons g162
  obtain ⟨u163, l163, e163, g164⟩ := Pal.len_cons g163
  obtain ⟨u164, l164, e164, g165⟩ := Pal.len_cons g164
  obtain ⟨u165, l165, e165, g166⟩ := Pal.len_cons g165
  obtain ⟨u166, l166, e166, g167⟩ := Pal.len_cons g166
  obtain ⟨u167, l167, e167, g168⟩ := Pal.len_cons g167
  obtain ⟨u168, l168, e168, g169⟩ := Pal.len_cons g168
  obtain ⟨u169, l169, e169, g170⟩ := Pal.len_cons g169
  obtain ⟨u170, l170, e170, g171⟩ := Pal.len_cons g170
  obtain ⟨u171, l171, e171, g172⟩ := Pal.len_cons g171
  obtain ⟨u172, l172, e172, g173⟩ := Pal.len_cons g172
  obtain ⟨u173, l173, e173, g174⟩ := Pal.len_cons g173
  obtain ⟨u174, l174, e174, g175⟩ := Pal.len_cons g174
  obtain ⟨u175, l175, e175, g176⟩ := Pal.len_cons g175
  obtain ⟨u176, l176, e176, g177⟩ := Pal.len_cons g176
  obtain ⟨u177, l177, e177, g178⟩ := Pal.len_cons g177
  obtain ⟨u178, l178, e178, g179⟩ := Pal.len_cons g178
  obtain ⟨u179, l179, e179, g180⟩ := Pal.len_cons g179
  obtain ⟨u180, l180, e180, g181⟩ := Pal.len_cons g180
  obtain ⟨u181, l181, e181, g182⟩ := Pal.len_cons g181
  obtain ⟨u182, l182, e182, g183⟩ := Pal.len_cons g182
  obtain ⟨u183, l183, e183, g184⟩ := Pal.len_cons g183
  obtain ⟨u184, l184, e184, g185⟩ := Pal.len_cons g184
  obtain ⟨u185, l185, e185, g186⟩ := Pal.len_cons g185
  obtain ⟨u186, l186, e186, g187⟩ := Pal.len_cons g186
  obtain ⟨u187, l187, e187, g188⟩ := Pal.len_cons g187
  obtain ⟨u188, l188, e188, g189⟩ := Pal.len_cons g188
  obtain ⟨u189, l189, e189, g190⟩ := Pal.len_cons g189
  obtain ⟨u190, l190, e190, g191⟩ := Pal.len_cons g190
  obtain ⟨u191, l191, e191, g192⟩ := Pal.len_cons g191
  obtain ⟨u192, l192, e192, g193⟩ := Pal.len_cons g192
  obtain ⟨u193, l193, e193, g194⟩ := Pal.len_cons g193
  obtain ⟨u194, l194, e194, g195⟩ := Pal.len_cons g194
  obtain ⟨u195, l195, e195, g196⟩ := Pal.len_cons g195
  obtain ⟨u196, l196, e196, g197⟩ := Pal.len_cons g196
  obtain ⟨u197, l197, e197, g198⟩ := Pal.len_cons g197
  obtain ⟨u198, l198, e198, g199⟩ := Pal.len_cons g198
  obtain ⟨u199, l199, e199, g200⟩ := Pal.len_cons g199
  obtain ⟨u200, l200, e200, g201⟩ := Pal.len_cons g200
  obtain ⟨u201, l201, e201, g202⟩ := Pal.len_cons g201
  obtain ⟨u202, l202, e202, g203⟩ := Pal.len_cons g202
  obtain ⟨u203, l203, e203, g204⟩ := Pal.len_cons g203
  obtain ⟨u204, l204, e204, g205⟩ := Pal.len_cons g204
  obtain ⟨u205, l205, e205, g206⟩ := Pal.len_cons g205
  obtain ⟨u206, l206, e206, g207⟩ := Pal.len_cons g206
  obtain rfl := List.eq_nil_of_length_eq_zero g207
  have e : (⟨l⟩ : Array Value) = #[u0, u1, u2, u3, u4, u5, u6, u7, u8, u9, u10, u11, u12, u13, u14, u15, u16, u17, u18, u19, u20, u21, u22, u23, u24, u25, u26, u27, u28, u29, u30, u31, u32, u33, u34, u35, u36, u37, u38, u39, u40, u41, u42, u43, u44, u45, u46, u47, u48, u49, u50, u51, u52, u53, u54, u55, u56, u57, u58, u59, u60, u61, u62, u63, u64, u65, u66, u67, u68, u69, u70, u71, u72, u73, u74, u75, u76, u77, u78, u79, u80, u81, u82, u83, u84, u85, u86, u87, u88, u89, u90, u91, u92, u93, u94, u95, u96, u97, u98, u99, u100, u101, u102, u103, u104, u105, u106, u107, u108, u109, u110, u111, u112, u113, u114, u115, u116, u117, u118, u119, u120, u121, u122, u123, u124, u125, u126, u127, u128, u129, u130, u131, u132, u133, u134, u135, u136, u137, u138, u139, u140, u141, u142, u143, u144, u145, u146, u147, u148, u149, u150, u151, u152, u153, u154, u155, u156, u157, u158, u159, u160, u161, u162, u163, u164, u165, u166, u167, u168, u169, u170, u171, u172, u173, u174, u175, u176, u177, u178, u179, u180, u181, u182, u183, u184, u185, u186, u187, u188, u189, u190, u191, u192, u193, u194, u195, u196, u197, u198, u199, u200, u201, u202, u203, u204, u205, u206] := by rw [e0, e1, e2, e3, e4, e5, e6, e7, e8, e9, e10, e11, e12, e13, e14, e15, e16, e17, e18, e19, e20, e21, e22, e23, e24, e25, e26, e27, e28, e29, e30, e31, e32, e33, e34, e35, e36, e37, e38, e39, e40, e41, e42, e43, e44, e45, e46, e47, e48, e49, e50, e51, e52, e53, e54, e55, e56, e57, e58, e59, e60, e61, e62, e63, e64, e65, e66, e67, e68, e69, e70, e71, e72, e73, e74, e75, e76, e77, e78, e79, e80, e81, e82, e83, e84, e85, e86, e87, e88, e89, e90, e91, e92, e93, e94, e95, e96, e97, e98, e99, e100, e101, e102, e103, e104, e105, e106, e107, e108, e109, e110, e111, e112, e113, e114, e115, e116, e117, e118, e119, e120, e121, e122, e123, e124, e125, e126, e127, e128, e129, e130, e131, e132, e133, e134, e135, e136, e137, e138, e139, e140, e141, e142, e143, e144, e145, e146, e147, e148, e149, e150, e151, e152, e153, e154, e155, e156, e157, e158, e159, e160, e161, e162, e163, e164, e165, e166, e167, e168, e169, e170, e171, e172, e173, e174, e175, e176, e177, e178, e179, e180, e181, e182, e183, e184, e185, e186, e187, e188, e189, e190, e191, e192, e193, e194, e195, e196, e197, e198, e199, e200, e201, e202, e203, e204, e205, e206]
  rw [e]
  exact h u0 u1 u2 u3 u4 u5 u6 u7 u8 u9 u10 u11 u12 u13 u14 u15 u16 u17 u18 u19 u20 u21 u22 u23 u24 u25 u26 u27 u28 u29 u30 u31 u32 u33 u34 u35 u36 u37 u38 u39 u40 u41 u42 u43 u44 u45 u46 u47 u48 u49 u50 u51 u52 u53 u54 u55 u56 u57 u58 u59 u60 u61 u62 u63 u64 u65 u66 u67 u68 u69 u70 u71 u72 u73 u74 u75 u76 u77 u78 u79 u80 u81 u82 u83 u84 u85 u86 u87 u88 u89 u90 u91 u92 u93 u94 u95 u96 u97 u98 u99 u100 u101 u102 u103 u104 u105 u106 u107 u108 u109 u110 u111 u112 u113 u114 u115 u116 u117 u118 u119 u120 u121 u122 u123 u124 u125 u126 u127 u128 u129 u130 u131 u132 u133 u134 u135 u136 u137 u138 u139 u140 u141 u142 u143 u144 u145 u146 u147 u148 u149 u150 u151 u152 u153 u154 u155 u156 u157 u158 u159 u160 u161 u162 u163 u164 u165 u166 u167 u168 u169 u170 u171 u172 u173 u174 u175 u176 u177 u178 u179 u180 u181 u182 u183 u184 u185 u186 u187 u188 u189 u190 u191 u192 u193 u194 u195 u196 u197 u198 u199 u200 u201 u202 u203 u204 u205 u206

def Act1 (n s : Int) (bd i : Nat) (a : Act) : Prop :=
  a.tmps.size = 207 ∧ a.tmps[1]? = some (.int .i64 n) ∧ a.tmps[2]? = some (.int .i64 s) ∧ a.tmps[7]? = some (.bool true) ∧ a.tmps[8]? = some (.pointer (some ⟨bd, 0, none⟩)) ∧ a.tmps[9]? = some (.int .i64 (i : Int)) ∧ a.defers = []
def Kept (N : Nat) (d : Dm) : Prop := (∀ j, j < N → d.look (K j) = some (.int .i64 (j : Int))) ∧ d.n = N
theorem Kept.stays {N : Nat} {d d' : Dm} (h : Kept N d) (hs : Stays d d') : Kept N d' := ⟨fun j hj => (hs.1 _).trans (h.1 j hj), hs.2.trans h.2⟩
def Act2 (n s : Int) (bd a b p q j : Nat) (x : Act) : Prop :=
  x.tmps.size = 207 ∧ x.tmps[1]? = some (.int .i64 n) ∧ x.tmps[2]? = some (.int .i64 s) ∧ x.tmps[7]? = some (.bool true) ∧ x.tmps[8]? = some (.pointer (some ⟨bd, 0, none⟩)) ∧ x.tmps[10]? = some (.int .i64 (a : Int)) ∧ x.tmps[11]? = some (.int .i64 (b : Int)) ∧
    x.tmps[12]? = some (.int .i64 (p : Int)) ∧ x.tmps[13]? = some (.int .i64 (q : Int)) ∧ x.tmps[14]? = some (.int .i64 (j : Int)) ∧ x.defers = []
/-- Moving still, or done. -/
def St (N a p : Nat) (d : Dm) (b q j m : Nat) : Prop :=
  (∃ l, Dint.shape d = (a, some l, p + q) ∧ p + q < a ∧ a ≤ 512 ∧ j ≤ q ∧ b = l ∧ 4 ≤ l ∧ N ≤ l ∧ l ≤ 65536 ∧ m = a - p - q) ∨
  (∃ c, Dint.shape d = (c, none, 0) ∧ (q = 0 ∨ (p + q = a ∧ a ≤ 512)) ∧ j ≤ 512 ∧ b = 0 ∧ 4 ≤ c ∧ N ≤ c ∧ c ≤ 65536 ∧ m = 0)
def Inv2 (w0 : World) (N : Nat) (s : Int) (bd a p : Nat) (m : Nat) (x : Act) (w : World) : Prop :=
  ∃ j b q d, St N a p d b q j m ∧ Act2 N s bd a b p q j x ∧ One w0 w bd d ∧ Kept N d
def Act3' (n s : Int) (bd a p q c i : Nat) (x : Act) : Prop :=
  x.tmps.size = 207 ∧ x.tmps[1]? = some (.int .i64 n) ∧ x.tmps[2]? = some (.int .i64 s) ∧ x.tmps[7]? = some (.bool true) ∧ x.tmps[8]? = some (.pointer (some ⟨bd, 0, none⟩)) ∧ x.tmps[10]? = some (.int .i64 (a : Int)) ∧
    x.tmps[12]? = some (.int .i64 (p : Int)) ∧ x.tmps[13]? = some (.int .i64 (q : Int)) ∧ x.tmps[16]? = some (.int .i64 (c : Int)) ∧ x.tmps[19]? = some (.int .i64 0) ∧ x.tmps[20]? = some (.int .i64 (i : Int)) ∧ x.defers = []
def Inv3 (w0 : World) (N : Nat) (s : Int) (bd a p q c : Nat) (m : Nat) (x : Act) (w : World) : Prop :=
  ∃ i d, m = N - i ∧ i ≤ N ∧ Act3' N s bd a p q c i x ∧ One w0 w bd d ∧ Kept N d
def Inv1 (w0 : World) (N : Nat) (s : Int) (bd : Nat) (m : Nat) (a : Act) (w : World) : Prop :=
  ∃ i d, m = N - i ∧ i ≤ N ∧ Act1 N s bd i a ∧ One w0 w bd d ∧ Put N i d

set_option maxRecDepth 100000 in
set_option maxHeartbeats 4000000 in
theorem walk_in (s1 : Nat) (h1 : s1 < 4294967296) (N : Nat) (hN : N ≤ 300) (s : Int) (hs1 : 1 ≤ s) (hs2 : s ≤ 50) (w : World) :
    Calls Try.prog 5 #[.int .u32 (s1 : Int), .int .i64 (N : Int), .int .i64 s] w fun e w' => e = .returned (.bool true) ∧ Chg (fun _ => False) w w' := by
  have hN0 : 0 ≤ (N : Int) := by omega
  have hN3 : (N : Int) ≤ 300 := by omega
  go_enter Try.func5, Try.ntmps5
  go_wp2_with fail
  refine (shown07_any w).mono ?_
  rintro e w1 ⟨rfl, c1⟩
  go_wp2_with fail
  refine (new_1 c1 s1 h1).mono ?_
  rintro e w2 ⟨bd, d0, rfl, hT, dn, dl, dsh, _, _⟩
  go_wp2_with fail
  have hP : Put N 0 d0 := ⟨fun j hj => absurd hj (Nat.not_lt_zero _), fun j _ _ => dl _, dn, dsh⟩
  refine wp_loop_ghost (Inv1 w N s bd) N ?_ ?_
  · exact ⟨0, d0, rfl, Nat.zero_le _, ⟨rfl, rfl, rfl, rfl, rfl, rfl, rfl⟩, hT, hP⟩
  · clear hT hP c1 dn dl dsh
    rintro m ⟨tmps, ds⟩ W ⟨i, d, rfl, hi, ⟨hsz, t1, t2, t7, t8, t9, rfl⟩, hT, hP⟩
    replace hsz : tmps.size = 207 := hsz
    dsimp only at t1 t2 t7 t8 t9
    revert t1 t2 t7 t8 t9
    revert hsz
    revert tmps
    refine all207 ?_
    intro u0 u1 u2 u3 u4 u5 u6 u7 u8 u9 u10 u11 u12 u13 u14 u15 u16 u17 u18 u19 u20 u21 u22 u23 u24 u25 u26 u27 u28 u29 u30 u31 u32 u33 u34 u35 u36 u37 u38 u39 u40 u41 u42 u43 u44 u45 u46 u47 u48 u49 u50 u51 u52 u53 u54 u55 u56 u57 u58 u59 u60 u61 u62 u63 u64 u65 u66 u67 u68 u69 u70 u71 u72 u73 u74 u75 u76 u77 u78 u79 u80 u81 u82 u83 u84 u85 u86 u87 u88 u89 u90 u91 u92 u93 u94 u95 u96 u97 u98 u99 u100 u101 u102 u103 u104 u105 u106 u107 u108 u109 u110 u111 u112 u113 u114 u115 u116 u117 u118 u119 u120 u121 u122 u123 u124 u125 u126 u127 u128 u129 u130 u131 u132 u133 u134 u135 u136 u137 u138 u139 u140 u141 u142 u143 u144 u145 u146 u147 u148 u149 u150 u151 u152 u153 u154 u155 u156 u157 u158 u159 u160 u161 u162 u163 u164 u165 u166 u167 u168 u169 u170 u171 u172 u173 u174 u175 u176 u177 u178 u179 u180 u181 u182 u183 u184 u185 u186 u187 u188 u189 u190 u191 u192 u193 u194 u195 u196 u197 u198 u199 u200 u201 u202 u203 u204 u205 u206 t1 t2 t7 t8 t9
    simp only [List.getElem?_toArray, List.getElem?_cons_zero, List.getElem?_cons_succ, Option.some.injEq] at t1 t2 t7 t8 t9
    subst t1 t2 t7 t8 t9
    by_cases hin : i < N
    · have hin' : (i : Int) < (N : Int) := by omega
      have hc := fun W => conv_K W i (by omega)
      have hks : (K i).size ≤ 9223372036854775807 := by rw [K_size]; omega
      have hno := hP.no i (Nat.le_refl _) (by omega)
      have hgs : ∀ W', One w W' bd d → _ := fun W' h => set_1 h (K i) (.int .i64 (i : Int)) hks ⟨_, rfl⟩ (by rw [hP.n]; omega)
      rw [hno] at hgs
      have HNO := Lib.hid hno
      clear hno
      go_wp2_with fail
      refine (hgs _ (hT.chg0 ((Chg.refl _ _).alloc _))).mono ?_
      rintro e5 W5 ⟨rfl, d', hT1, _, hP1, hs1⟩
      simp only [Option.isNone_none, if_true] at hs1
      have hP' := hP.next (by omega) hP1 (by rw [HNO.out]; simpa using hs1)
      clear hgs hc hs1
      go_wp2_with fail
      exact ⟨N - (i + 1), by omega, i + 1, _, rfl, by omega, ⟨rfl, rfl, rfl, rfl, rfl, rfl, rfl⟩, hT1, hP'⟩
    · have hin' : ((i : Int) < (N : Int)) = False := by simp only [eq_iff_iff, iff_false]; omega
      have hin2 : (i < N) = False := by simp only [eq_iff_iff, iff_false]; omega
      have hiN : i = N := by omega
      subst hiN
      clear hin
      have hG := good_at i hN
      rw [← hP.sh] at hG
      have hK : Kept i d := ⟨hP.has, hP.n⟩
      have hz := sizes_1 hT
      rcases hsd : Dint.shape d with ⟨a, o, p⟩
      rw [hsd] at hG hz
      obtain ⟨b, hb⟩ : ∃ b, o.getD 0 = b := ⟨_, rfl⟩
      dsimp only at hz
      rw [hb] at hz
      have hSt : ∃ m, St i a p d b 0 0 m := by
        cases o with
        | none =>
          simp only [good, Bool.and_eq_true, decide_eq_true_iff, beq_iff_eq] at hG
          obtain ⟨⟨⟨g1, g2⟩, g3⟩, g4⟩ := hG
          subst g1
          exact ⟨0, .inr ⟨a, hsd, .inl rfl, by omega, hb.symm, g3, g2, by omega, rfl⟩⟩
        | some l =>
          simp only [good, Bool.and_eq_true, decide_eq_true_iff] at hG
          obtain ⟨⟨⟨⟨g1, g2⟩, g3⟩, g4⟩, g5⟩ := hG
          exact ⟨_, .inl ⟨l, hsd, g1, g4, Nat.le_refl _, hb.symm, g3, g2, g5, rfl⟩⟩
      obtain ⟨m0, hSt⟩ := hSt
      have hap : a ≤ 65536 ∧ p ≤ 65536 := by
        rcases hSt with ⟨l, e1, e2, e3, _⟩ | ⟨c, e1, _, _, _, _, _, e7, _⟩
        · omega
        · rw [hsd] at e1; injection e1 with e1 e8; injection e8 with _ e8; omega
      have HSD := Lib.hid hsd
      clear hG hP hsd hb
      go_wp2_with fail
      refine hz.mono ?_
      rintro e8 W8 ⟨rfl, hT8, _⟩
      clear hz
      go_wp2_with fail
      refine wp_loop_ghost (Inv2 w i s bd a p) m0 ?_ ?_
      · exact ⟨0, b, 0, d, hSt, ⟨rfl, rfl, rfl, rfl, rfl, rfl, rfl, rfl, rfl, rfl, rfl⟩, hT8, hK⟩
      · clear hSt hT8 hT HSD hK
        rintro m ⟨tmps, ds⟩ V ⟨j, b, q, d, hSt, ⟨hsz, t1, t2, t7, t8, t10, t11, t12, t13, t14, rfl⟩, hT, hK⟩
        replace hsz : tmps.size = 207 := hsz
        dsimp only at t1 t2 t7 t8 t10 t11 t12 t13 t14
        revert t1 t2 t7 t8 t10 t11 t12 t13 t14
        revert hsz
        revert tmps
        refine all207 ?_
        intro u0 u1 u2 u3 u4 u5 u6 u7 u8 u9 u10 u11 u12 u13 u14 u15 u16 u17 u18 u19 u20 u21 u22 u23 u24 u25 u26 u27 u28 u29 u30 u31 u32 u33 u34 u35 u36 u37 u38 u39 u40 u41 u42 u43 u44 u45 u46 u47 u48 u49 u50 u51 u52 u53 u54 u55 u56 u57 u58 u59 u60 u61 u62 u63 u64 u65 u66 u67 u68 u69 u70 u71 u72 u73 u74 u75 u76 u77 u78 u79 u80 u81 u82 u83 u84 u85 u86 u87 u88 u89 u90 u91 u92 u93 u94 u95 u96 u97 u98 u99 u100 u101 u102 u103 u104 u105 u106 u107 u108 u109 u110 u111 u112 u113 u114 u115 u116 u117 u118 u119 u120 u121 u122 u123 u124 u125 u126 u127 u128 u129 u130 u131 u132 u133 u134 u135 u136 u137 u138 u139 u140 u141 u142 u143 u144 u145 u146 u147 u148 u149 u150 u151 u152 u153 u154 u155 u156 u157 u158 u159 u160 u161 u162 u163 u164 u165 u166 u167 u168 u169 u170 u171 u172 u173 u174 u175 u176 u177 u178 u179 u180 u181 u182 u183 u184 u185 u186 u187 u188 u189 u190 u191 u192 u193 u194 u195 u196 u197 u198 u199 u200 u201 u202 u203 u204 u205 u206 t1 t2 t7 t8 t10 t11 t12 t13 t14
        simp only [List.getElem?_toArray, List.getElem?_cons_zero, List.getElem?_cons_succ, Option.some.injEq] at t1 t2 t7 t8 t10 t11 t12 t13 t14
        subst t1 t2 t7 t8 t10 t11 t12 t13 t14
        rcases hSt with ⟨l, e1, e2, e3, e4, rfl, e5, e6, e7, rfl⟩ | ⟨c, e1, e2, e3, rfl, e5, e6, e7, rfl⟩
        · -- it moves
          have hb0 : (b : Int) > 0 := by omega
          have hj6 : (j : Int) < 600 := by omega
          have hg := step_1 hT s
          rw [e1] at hg
          obtain ⟨k, hk⟩ : ∃ k, stepN (a, some b, p + q) s = k := ⟨_, rfl⟩
          rw [hk] at hg
          have hk' : k = min s.toNat (a - (p + q)) := hk.symm
          have hk1 : (1 : Int) ≤ (k : Int) := by omega
          have hk2 : (k : Int) ≤ s := by omega
          have hk3 : k ≤ 50 := by omega
          have hq : (q : Int) ≤ 512 := by omega
          have HK := Lib.hid hk'
          have E1 := Lib.hid e1
          clear hk hk' e1
          go_wp2_with fail
          refine hg.mono ?_
          rintro e9 W9 ⟨rfl, d', hT9, _, hP9, hs9⟩
          clear hg
          have hK9 := hK.stays hP9
          have hz := sizes_1 hT9
          by_cases hmv : p + q + s.toNat < a
          · have hsh : Dint.shape d' = (a, some b, p + q + s.toNat) := by rw [hs9]; unfold stepS; dsimp only; rw [if_pos hmv]
            rw [hsh] at hz
            dsimp only [Option.getD_some] at hz
            have hkk : k = s.toNat := by rw [HK.out]; omega
            have HSH := Lib.hid hsh
            have HKK := Lib.hid hkk
            have HMV := Lib.hid hmv
            clear hs9 hsh hkk hmv
            go_wp2_with fail
            refine hz.mono ?_
            rintro e9 W10 ⟨rfl, hT10, _⟩
            clear hz
            go_wp2_with fail
            refine ⟨a - p - (q + k), by have := HKK.out; have := HMV.out; omega, j + 1, b, q + k, d', .inl ⟨b, by rw [HSH.out, HKK.out]; simp [Nat.add_assoc], by have := HKK.out; have := HMV.out; omega, e3, by omega, rfl, e5, e6, e7, rfl⟩, ⟨rfl, rfl, rfl, rfl, rfl, rfl, rfl, rfl, congrArg (fun z => some (Value.int .i64 z)) (by omega), congrArg (fun z => some (Value.int .i64 z)) (by omega), rfl⟩, hT10, hK9⟩
          · have hsh : Dint.shape d' = (b, none, 0) := by rw [hs9]; unfold stepS; dsimp only; rw [if_neg hmv]
            rw [hsh] at hz
            dsimp only [Option.getD_none] at hz
            have hkk : p + q + k = a := by rw [HK.out]; omega
            have HSH := Lib.hid hsh
            have HKK := Lib.hid hkk
            clear hs9 hsh hkk hmv
            go_wp2_with fail
            refine hz.mono ?_
            rintro e9 W10 ⟨rfl, hT10, _⟩
            clear hz
            go_wp2_with fail
            refine ⟨0, by have := HKK.out; omega, j + 1, 0, q + k, d', .inr ⟨b, HSH.out, .inr ⟨by have := HKK.out; omega, e3⟩, by omega, rfl, e5, e6, e7, rfl⟩, ⟨rfl, rfl, rfl, rfl, rfl, rfl, rfl, rfl, congrArg (fun z => some (Value.int .i64 z)) (by omega), congrArg (fun z => some (Value.int .i64 z)) (by omega), rfl⟩, hT10, hK9⟩
        · -- it is done
          have hj6 : (j : Int) < 600 := by omega
          have hz := sizes_1 hT
          rw [e1] at hz
          dsimp only [Option.getD_none] at hz
          have E1 := Lib.hid e1
          clear e1
          go_wp2_with fail
          refine hz.mono ?_
          rintro e9 W9 ⟨rfl, hT9, _⟩
          clear hz
          have hg := step_1 hT9 s
          rw [E1.out] at hg
          go_wp2_with fail
          refine hg.mono ?_
          rintro e9 W10 ⟨rfl, d', hT10, _, hP10, _⟩
          have hK10 := hK.stays hP10
          clear hg
          go_wp2_with fail
          refine wp_loop_ghost (Inv3 w i s bd a p q c) i ?_ ?_
          · exact ⟨0, d', rfl, Nat.zero_le _, ⟨rfl, rfl, rfl, rfl, rfl, rfl, rfl, rfl, rfl, rfl, rfl, rfl⟩, hT10, hK10⟩
          · clear hT hT9 hT10 hK hK10 E1
            have hbig : q ≤ 65536 := by omega
            rintro m ⟨tmps, ds⟩ V3 ⟨k, d, rfl, hki, ⟨hsz, t1, t2, t7, t8, t10, t12, t13, t16, t19, t20, rfl⟩, hT, hK⟩
            replace hsz : tmps.size = 207 := hsz
            dsimp only at t1 t2 t7 t8 t10 t12 t13 t16 t19 t20
            revert t1 t2 t7 t8 t10 t12 t13 t16 t19 t20
            revert hsz
            revert tmps
            refine all207 ?_
            intro u0 u1 u2 u3 u4 u5 u6 u7 u8 u9 u10 u11 u12 u13 u14 u15 u16 u17 u18 u19 u20 u21 u22 u23 u24 u25 u26 u27 u28 u29 u30 u31 u32 u33 u34 u35 u36 u37 u38 u39 u40 u41 u42 u43 u44 u45 u46 u47 u48 u49 u50 u51 u52 u53 u54 u55 u56 u57 u58 u59 u60 u61 u62 u63 u64 u65 u66 u67 u68 u69 u70 u71 u72 u73 u74 u75 u76 u77 u78 u79 u80 u81 u82 u83 u84 u85 u86 u87 u88 u89 u90 u91 u92 u93 u94 u95 u96 u97 u98 u99 u100 u101 u102 u103 u104 u105 u106 u107 u108 u109 u110 u111 u112 u113 u114 u115 u116 u117 u118 u119 u120 u121 u122 u123 u124 u125 u126 u127 u128 u129 u130 u131 u132 u133 u134 u135 u136 u137 u138 u139 u140 u141 u142 u143 u144 u145 u146 u147 u148 u149 u150 u151 u152 u153 u154 u155 u156 u157 u158 u159 u160 u161 u162 u163 u164 u165 u166 u167 u168 u169 u170 u171 u172 u173 u174 u175 u176 u177 u178 u179 u180 u181 u182 u183 u184 u185 u186 u187 u188 u189 u190 u191 u192 u193 u194 u195 u196 u197 u198 u199 u200 u201 u202 u203 u204 u205 u206 t1 t2 t7 t8 t10 t12 t13 t16 t19 t20
            simp only [List.getElem?_toArray, List.getElem?_cons_zero, List.getElem?_cons_succ, Option.some.injEq] at t1 t2 t7 t8 t10 t12 t13 t16 t19 t20
            subst t1 t2 t7 t8 t10 t12 t13 t16 t19 t20
            by_cases hkn : k < i
            · have hkn' : (k : Int) < (i : Int) := by omega
              have hc := fun W => conv_K W k (by omega)
              have hks : (K k).size ≤ 9223372036854775807 := by rw [K_size]; omega
              have hgs : ∀ W', One w W' bd d → _ := fun W' h => get_1 h (K k) hks
              rw [hK.1 k hkn] at hgs
              simp only [Option.getD_some, Option.isSome_some] at hgs
              go_wp2_with fail
              refine (hgs _ (hT.chg0 ((Chg.refl _ _).alloc _))).mono ?_
              rintro e5 W5 ⟨rfl, d5, hT5, _, hP5, _⟩
              have hK5 := hK.stays hP5
              clear hgs hc
              go_wp2_with fail
              exact ⟨i - (k + 1), by omega, k + 1, _, rfl, by omega, ⟨rfl, rfl, rfl, rfl, rfl, rfl, rfl, rfl, rfl, rfl, rfl, rfl⟩, hT5, hK5⟩
            · have hkn' : ((k : Int) < (i : Int)) = False := by simp only [eq_iff_iff, iff_false]; omega
              have hkn2 : (k < i) = False := by simp only [eq_iff_iff, iff_false]; omega
              have hc4 : (c : Int) ≥ 4 := by omega
              have hcn : (c : Int) ≥ (i : Int) := by omega
              clear hkn
              rcases e2 with rfl | ⟨e2, e2'⟩
              · have hl := len_1 hT
                rw [hK.2] at hl
                skip
                go_wp2_with fail
                refine (Get_nil _ _).mono ?_
                rintro e9 W11 ⟨rfl, f1⟩
                go_wp2_with fail
                refine (Sizes_nil _).mono ?_
                rintro e9 W12 ⟨rfl, rfl⟩
                have hT12 := hT.chg0 f1
                have hl2 := len_1 hT12
                rw [hK.2] at hl2
                go_wp2_with fail
                refine hl2.mono ?_
                rintro e9 W13 ⟨rfl, rfl⟩
                clear hl hl2
                go_wp2_with fail
                refine (len_nil _).mono ?_
                rintro e9 W14 ⟨rfl, rfl⟩
                go_wp2_with fail
                refine (Set_nil _ _ ⟨_, rfl⟩ _).mono ?_
                rintro e9 W15 ⟨rfl, f2⟩
                go_wp2_with fail
                refine (Delete_nil _ _).mono ?_
                rintro e9 W16 ⟨rfl, rfl⟩
                go_wp2_with fail
                refine (Step_nil _ _).mono ?_
                rintro e9 W17 ⟨rfl, f3⟩
                go_wp2_with fail
                go_ret
                exact ⟨rfl, (hT12.chg.trans f2).trans f3⟩
              · have hqa : ((q : Int) == (a : Int) - (p : Int)) = true := by rw [beq_iff_eq]; omega
                by_cases hq0 : q = 0
                · subst hq0
                  have hl := len_1 hT
                  rw [hK.2] at hl
                  skip
                  go_wp2_with fail
                  refine (Get_nil _ _).mono ?_
                  rintro e9 W11 ⟨rfl, f1⟩
                  go_wp2_with fail
                  refine (Sizes_nil _).mono ?_
                  rintro e9 W12 ⟨rfl, rfl⟩
                  have hT12 := hT.chg0 f1
                  have hl2 := len_1 hT12
                  rw [hK.2] at hl2
                  go_wp2_with fail
                  refine hl2.mono ?_
                  rintro e9 W13 ⟨rfl, rfl⟩
                  clear hl hl2
                  go_wp2_with fail
                  refine (len_nil _).mono ?_
                  rintro e9 W14 ⟨rfl, rfl⟩
                  go_wp2_with fail
                  refine (Set_nil _ _ ⟨_, rfl⟩ _).mono ?_
                  rintro e9 W15 ⟨rfl, f2⟩
                  go_wp2_with fail
                  refine (Delete_nil _ _).mono ?_
                  rintro e9 W16 ⟨rfl, rfl⟩
                  go_wp2_with fail
                  refine (Step_nil _ _).mono ?_
                  rintro e9 W17 ⟨rfl, f3⟩
                  go_wp2_with fail
                  go_ret
                  exact ⟨rfl, (hT12.chg.trans f2).trans f3⟩
                · have hqb : ((q : Int) == 0) = false := by rw [beq_eq_false_iff_ne]; omega
                  clear hq0
                  have hl := len_1 hT
                  rw [hK.2] at hl
                  skip
                  go_wp2_with fail
                  refine (Get_nil _ _).mono ?_
                  rintro e9 W11 ⟨rfl, f1⟩
                  go_wp2_with fail
                  refine (Sizes_nil _).mono ?_
                  rintro e9 W12 ⟨rfl, rfl⟩
                  have hT12 := hT.chg0 f1
                  have hl2 := len_1 hT12
                  rw [hK.2] at hl2
                  go_wp2_with fail
                  refine hl2.mono ?_
                  rintro e9 W13 ⟨rfl, rfl⟩
                  clear hl hl2
                  go_wp2_with fail
                  refine (len_nil _).mono ?_
                  rintro e9 W14 ⟨rfl, rfl⟩
                  go_wp2_with fail
                  refine (Set_nil _ _ ⟨_, rfl⟩ _).mono ?_
                  rintro e9 W15 ⟨rfl, f2⟩
                  go_wp2_with fail
                  refine (Delete_nil _ _).mono ?_
                  rintro e9 W16 ⟨rfl, rfl⟩
                  go_wp2_with fail
                  refine (Step_nil _ _).mono ?_
                  rintro e9 W17 ⟨rfl, f3⟩
                  go_wp2_with fail
                  go_ret
                  exact ⟨rfl, (hT12.chg.trans f2).trans f3⟩

end Go.Proofs.Ythbjjjcppijcbaa.dictMoves
