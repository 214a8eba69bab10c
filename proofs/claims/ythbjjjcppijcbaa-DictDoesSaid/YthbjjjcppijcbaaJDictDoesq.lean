/- Texts joined for DictDoes: DictDoes. -/
import Derived.Test.YthbjjjcppijcbaaJDictDoesp
import Derived.Deep.LoopGhost
set_option linter.unusedVariables false
set_option linter.unusedSimpArgs false

/- The walk of DictDoes. -/
namespace Go.Proofs.Ythbjjjcppijcbaa.dictDoes
open Go.RowKit Pal Dint

theorem all119 {P : Array Value → Prop} (h : ∀ u0 u1 u2 u3 u4 u5 u6 u7 u8 u9 u10 u11 u12 u13 u14 u15 u16 u17 u18 u19 u20 u21 u22 u23 u24 u25 u26 u27 u28 u29 u30 u31 u32 u33 u34 u35 u36 u37 u38 u39 u40 u41 u42 u43 u44 u45 u46 u47 u48 u49 u50 u51 u52 u53 u54 u55 u56 u57 u58 u59 u60 u61 u62 u63 u64 u65 u66 u67 u68 u69 u70 u71 u72 u73 u74 u75 u76 u77 u78 u79 u80 u81 u82 u83 u84 u85 u86 u87 u88 u89 u90 u91 u92 u93 u94 u95 u96 u97 u98 u99 u100 u101 u102 u103 u104 u105 u106 u107 u108 u109 u110 u111 u112 u113 u114 u115 u116 u117 u118 : Value, P #[u0, u1, u2, u3, u4, u5, u6, u7, u8, u9, u10, u11, u12, u13, u14, u15, u16, u17, u18, u19, u20, u21, u22, u23, u24, u25, u26, u27, u28, u29, u30, u31, u32, u33, u34, u35, u36, u37, u38, u39, u40, u41, u42, u43, u44, u45, u46, u47, u48, u49, u50, u51, u52, u53, u54, u55, u56, u57, u58, u59, u60, u61, u62, u63, u64, u65, u66, u67, u68, u69, u70, u71, u72, u73, u74, u75, u76, u77, u78, u79, u80, u81, u82, u83, u84, u85, u86, u87, u88, u89, u90, u91, u92, u93, u94, u95, u96, u97, u98, u99, u100, u101, u102, u103, u104, u105, u106, u107, u108, u109, u110, u111, u112, u113, u114, u115, u116, u117, u118]) (a : Array Value) (hs : a.size = 119) : P a := by
  obtain ⟨l⟩ := a
  have g0 : l.length = 119 := hs
  clear hs
  obtain ⟨u0, l0, e0, g1⟩ := Pal.len_cons g0
  obtain ⟨u1, l1, e1, g2⟩ := Pal.len_cons g1
  obtain ⟨u2, l2, e2, g3⟩ := Pal.len_cons g2
  obtain ⟨u3, l3, e3, g4⟩ := Pal.len_cons g3
  obtain ⟨u4, l4, e4, g5⟩ := Pal.len_cons g4
  obtain ⟨u5, l5, e5, g6⟩ := Pal.len_cons g5
  obtain ⟨u6, l6, e6, g7⟩ := Pal.len_cons g6
  obtain ⟨u7, l7, e7, g8⟩ := Pal.len_cons g7
  obtain ⟨u8, l8, e8, g9⟩ := Pal.len_cons g8
  obtain ⟨u9, l9, e9, g10⟩ := Pal.len_cons g9
  obtain ⟨u10, l10, e10, g11⟩ := Pal.len_cons g10
  obtain ⟨u11, l11, e11, g12⟩ := Pal.len_cons g11
  obtain ⟨u12, l12, e12, g13⟩ := Pal.len_cons g12
  obtain ⟨u13, l13, e13, g14⟩ := Pal.len_cons g13
  obtain ⟨u14, l14, e14, g15⟩ := Pal.len_cons g14
  obtain ⟨u15, l15, e15, g16⟩ := Pal.len_cons g15
  obtain ⟨u16, l16, e16, g17⟩ := Pal.len_cons g16
  obtain ⟨u17, l17, e17, g18⟩ := Pal.len_cons g17
  obtain ⟨u18, l18, e18, g19⟩ := Pal.len_cons g18
  obtain ⟨u19, l19, e19, g20⟩ := Pal.len_cons g19
  obtain ⟨u20, l20, e20, g21⟩ := Pal.len_cons g20
  obtain ⟨u21, l21, e21, g22⟩ := Pal.len_cons g21
  obtain ⟨u22, l22, e22, g23⟩ := Pal.len_cons g22
  obtain ⟨u23, l23, e23, g24⟩ := Pal.len_cons g23
  obtain ⟨u24, l24, e24, g25⟩ := Pal.len_cons g24
  obtain ⟨u25, l25, e25, g26⟩ := Pal.len_cons g25
  obtain ⟨u26, l26, e26, g27⟩ := Pal.len_cons g26
  obtain ⟨u27, l27, e27, g28⟩ := Pal.len_cons g27
  obtain ⟨u28, l28, e28, g29⟩ := Pal.len_cons g28
  obtain ⟨u29, l29, e29, g30⟩ := Pal.len_cons g29
  obtain ⟨u30, l30, e30, g31⟩ := Pal.len_cons g30
  obtain ⟨u31, l31, e31, g32⟩ := Pal.len_cons g31
  obtain ⟨u32, l32, e32, g33⟩ := Pal.len_cons g32
  obtain ⟨u33, l33, e33, g34⟩ := Pal.len_cons g33
  obtain ⟨u34, l34, e34, g35⟩ := Pal.len_cons g34
  obtain ⟨u35, l35, e35, g36⟩ := Pal.len_cons g35
  obtain ⟨u36, l36, e36, g37⟩ := Pal.len_cons g36
  obtain ⟨u37, l37, e37, g38⟩ := Pal.len_cons g37
  obtain ⟨u38, l38, e38, g39⟩ := Pal.len_cons g38
  obtain ⟨u39, l39, e39, g40⟩ := Pal.len_cons g39
  obtain ⟨u40, l40, e40, g41⟩ := Pal.len_cons g40
  obtain ⟨u41, l41, e41, g42⟩ := Pal.len_cons g41
  obtain ⟨u42, l42, e42, g43⟩ := Pal.len_cons g42
  obtain ⟨u43, l43, e43, g44⟩ := Pal.len_cons g43
  obtain ⟨u44, l44, e44, g45⟩ := Pal.len_cons g44
  obtain ⟨u45, l45, e45, g46⟩ := Pal.len_cons g45
  obtain ⟨u46, l46, e46, g47⟩ := Pal.len_cons g46
  obtain ⟨u47, l47, e47, g48⟩ := Pal.len_cons g47
  obtain ⟨u48, l48, e48, g49⟩ := Pal.len_cons g48
  obtain ⟨u49, l49, e49, g50⟩ := Pal.len_cons g49
  obtain ⟨u50, l50, e50, g51⟩ := Pal.len_cons g50
  obtain ⟨u51, l51, e51, g52⟩ := Pal.len_cons g51
  obtain ⟨u52, l52, e52, g53⟩ := Pal.len_cons g52
  obtain ⟨u53, l53, e53, g54⟩ := Pal.len_cons g53
  obtain ⟨u54, l54, e54, g55⟩ := Pal.len_cons g54
  obtain ⟨u55, l55, e55, g56⟩ := Pal.len_cons g55
  obtain ⟨u56, l56, e56, g57⟩ := Pal.len_cons g56
  obtain ⟨u57, l57, e57, g58⟩ := Pal.len_cons g57
  obtain ⟨u58, l58, e58, g59⟩ := Pal.len_cons g58
  obtain ⟨u59, l59, e59, g60⟩ := Pal.len_cons g59
  obtain ⟨u60, l60, e60, g61⟩ := Pal.len_cons g60
  obtain ⟨u61, l61, e61, g62⟩ := Pal.len_cons g61
  obtain ⟨u62, l62, e62, g63⟩ := Pal.len_cons g62
  obtain ⟨u63, l63, e63, g64⟩ := Pal.len_cons g63
  obtain ⟨u64, l64, e64, g65⟩ := Pal.len_cons g64
  obtain ⟨u65, l65, e65, g66⟩ := Pal.len_cons g65
  obtain ⟨u66, l66, e66, g67⟩ := Pal.len_cons g66
  obtain ⟨u67, l67, e67, g68⟩ := Pal.len_cons g67
  obtain ⟨u68, l68, e68, g69⟩ := Pal.len_cons g68
  obtain ⟨u69, l69, e69, g70⟩ := Pal.len_cons g69
  obtain ⟨u70, l70, e70, g71⟩ := Pal.len_cons g70
  obtain ⟨u71, l71, e71, g72⟩ := Pal.len_cons g71
  obtain ⟨u72, l72, e72, g73⟩ := Pal.len_cons g72
  obtain ⟨u73, l73, e73, g74⟩ := Pal.len_cons g73
  obtain ⟨u74, l74, e74, g75⟩ := Pal.len_cons g74
  obtain ⟨u75, l75, e75, g76⟩ := Pal.len_cons g75
  obtain ⟨u76, l76, e76, g77⟩ := Pal.len_cons g76
  obtain ⟨u77, l77, e77, g78⟩ := Pal.len_cons g77
  obtain ⟨u78, l78, e78, g79⟩ := Pal.len_cons g78
  obtain ⟨u79, l79, e79, g80⟩ := Pal.len_cons g79
  obtain ⟨u80, l80, e80, g81⟩ := Pal.len_cons g80
  obtain ⟨u81, l81, e81, g82⟩ := Pal.len_cons g81
  obtain ⟨u82, l82, e82, g83⟩ := Pal.len_cons g82
  obtain ⟨u83, l83, e83, g84⟩ := Pal.len_cons g83
  obtain ⟨u84, l84, e84, g85⟩ := Pal.len_cons g84
  obtain ⟨u85, l85, e85, g86⟩ := Pal.len_cons g85
  obtain ⟨u86, l86, e86, g87⟩ := Pal.len_cons g86
  obtain ⟨u87, l87, e87, g88⟩ := Pal.len_cons g87
  obtain ⟨u88, l88, e88, g89⟩ := Pal.len_cons g88
  obtain ⟨u89, l89, e89, g90⟩ := Pal.len_cons g89
  obtain ⟨u90, l90, e90, g91⟩ := Pal.len_cons g90
  obtain ⟨u91, l91, e91, g92⟩ := Pal.len_cons g91
  obtain ⟨u92, l92, e92, g93⟩ := Pal.len_cons g92
  obtain ⟨u93, l93, e93, g94⟩ := Pal.len_cons g93
  obtain ⟨u94, l94, e94, g95⟩ := Pal.len_cons g94
  obtain ⟨u95, l95, e95, g96⟩ := Pal.len_cons g95
  obtain ⟨u96, l96, e96, g97⟩ := Pal.len_cons g96
  obtain ⟨u97, l97, e97, g98⟩ := Pal.len_cons g97
  obtain ⟨u98, l98, e98, g99⟩ := Pal.len_cons g98
  obtain ⟨u99, l99, e99, g100⟩ := Pal.len_cons g99
  obtain ⟨u100, l100, e100, g101⟩ := Pal.len_cons g100
  obtain ⟨u101, l101, e101, g102⟩ := Pal.len_cons g101
  obtain ⟨u102, l102, e102, g103⟩ := Pal.len_cons g102
  obtain ⟨u103, l103, e103, g104⟩ := Pal.len_cons g103
  obtain ⟨u104, l104, e104, g105⟩ := Pal.len_cons g104
  obtain ⟨u105, l105, e105, g106⟩ := Pal.len_cons g105
  obtain ⟨u106, l106, e106, g107⟩ := Pal.len_cons g106
  obtain ⟨u107, l107, e107, g108⟩ := Pal.len_cons g107
  obtain ⟨u108, l108, e108, g109⟩ := Pal.len_cons g108
  obtain ⟨u109, l109, e109, g110⟩ := Pal.len_cons g109
  obtain ⟨u110, l110, e110, g111⟩ := Pal.len_cons g110
  obtain ⟨u111, l111, e111, g112⟩ := Pal.len_cons g111
  obtain ⟨u112, l112, e112, g113⟩ := Pal.len_cons g112
  obtain ⟨u113, l113, e113, g114⟩ := Pal.len_cons g113
  obtain ⟨u114, l114, e114, g115⟩ := Pal.len_cons g114
  obtain ⟨u115, l115, e115, g116⟩ := Pal.len_cons g115
  obtain ⟨u116, l116, e116, g117⟩ := Pal.len_cons g116
  obtain ⟨u117, l117, e117, g118⟩ := Pal.len_cons g117
  obtain ⟨u118, l118, e118, g119⟩ := Pal.len_cons g118
  obtain rfl := List.eq_nil_of_length_eq_zero g119
  have e : (⟨l⟩ : Array Value) = #[u0, u1, u2, u3, u4, u5, u6, u7, u8, u9, u10, u11, u12, u13, u14, u15, u16, u17, u18, u19, u20, u21, u22, u23, u24, u25, u26, u27, u28, u29, u30, u31, u32, u33, u34, u35, u36, u37, u38, u39, u40, u41, u42, u43, u44, u45, u46, u47, u48, u49, u50, u51, u52, u53, u54, u55, u56, u57, u58, u59, u60, u61, u62, u63, u64, u65, u66, u67, u68, u69, u70, u71, u72, u73, u74, u75, u76, u77, u78, u79, u80, u81, u82, u83, u84, u85, u86, u87, u88, u89, u90, u91, u92, u93, u94, u95, u96, u97, u98, u99, u100, u101, u102, u103, u104, u105, u106, u107, u108, u109, u110, u111, u112, u113, u114, u115, u116, u117, u118] := by rw [e0, e1, e2, e3, e4, e5, e6, e7, e8, e9, e10, e11, e12, e13, e14, e15, e16, e17, e18, e19, e20, e21, e22, e23, e24, e25, e26, e27, e28, e29, e30, e31, e32, e33, e34, e35, e36, e37, e38, e39, e40, e41, e42, e43, e44, e45, e46, e47, e48, e49, e50, e51, e52, e53, e54, e55, e56, e57, e58, e59, e60, e61, e62, e63, e64, e65, e66, e67, e68, e69, e70, e71, e72, e73, e74, e75, e76, e77, e78, e79, e80, e81, e82, e83, e84, e85, e86, e87, e88, e89, e90, e91, e92, e93, e94, e95, e96, e97, e98, e99, e100, e101, e102, e103, e104, e105, e106, e107, e108, e109, e110, e111, e112, e113, e114, e115, e116, e117, e118]
  rw [e]
  exact h u0 u1 u2 u3 u4 u5 u6 u7 u8 u9 u10 u11 u12 u13 u14 u15 u16 u17 u18 u19 u20 u21 u22 u23 u24 u25 u26 u27 u28 u29 u30 u31 u32 u33 u34 u35 u36 u37 u38 u39 u40 u41 u42 u43 u44 u45 u46 u47 u48 u49 u50 u51 u52 u53 u54 u55 u56 u57 u58 u59 u60 u61 u62 u63 u64 u65 u66 u67 u68 u69 u70 u71 u72 u73 u74 u75 u76 u77 u78 u79 u80 u81 u82 u83 u84 u85 u86 u87 u88 u89 u90 u91 u92 u93 u94 u95 u96 u97 u98 u99 u100 u101 u102 u103 u104 u105 u106 u107 u108 u109 u110 u111 u112 u113 u114 u115 u116 u117 u118
theorem mod40 (x : Int) : ∃ q : Nat, (IntKind.u64.wrap x).tmod 40 = (q : Int) ∧ q < 40 := by
  have e : IntKind.u64.wrap x = x % 18446744073709551616 := by simp [IntKind.wrap, IntKind.bits, IntKind.signed]
  have h : 0 ≤ IntKind.u64.wrap x := by rw [e]; omega
  rw [Int.tmod_eq_emod_of_nonneg h]
  exact ⟨(IntKind.u64.wrap x % 40).toNat, by omega, by omega⟩
/-- What both tell of a slot. -/
theorem both {d : Dm} {r : Rm} {w0 : World} {bd br : Nat} (hTie : Tie d r) (hTiny : Tiny d) (hn : d.n ≤ 1000) (t : Int) (q : Nat) : ∃ L code, 
    (∀ W, Half w0 W bd br d r → Calls Try.prog 29 #[.pointer (some ⟨bd, 0, none⟩), .int .i64 t, .int .i64 (q : Int)] W fun e w' => (∃ v, e = .returned (.tuple #[v, .int .i64 code]) ∧ Strs w' W.heap.size v L) ∧ Chg (fun _ => False) W w') ∧
    (∀ W, Half w0 W bd br d r → Calls Try.prog 30 #[.pointer (some ⟨br, 0, none⟩), .int .i64 t, .int .i64 (q : Int)] W fun e w' => (∃ v, e = .returned (.tuple #[v, .int .i64 code]) ∧ Strs w' W.heap.size v L) ∧ Chg (fun _ => False) W w') := by
  by_cases hin : ∃ ti : Nat, t = (ti : Int) ∧ ti < 2 ∧ q < tabLen d ti
  · obtain ⟨ti, rfl, hti, hq⟩ := hin
    refine ⟨keysAt d ti q, 0, fun W h => ?_, fun W h => ?_⟩
    · have := Bucket_in d ti q W h.one.md.dm h.one.md.ok hti hq (by omega)
      unfold ptr at this
      rw [h.one.bd] at this
      exact this
    · have hal := hTie.alike h.one.md.ok
      have hrok := hTie.ok h.one.md.ok (by omega)
      have hsz := hTie.sizes hTiny
      have hk := hal.k ti q hti hq
      rcases (by omega : ti = 0 ∨ ti = 1) with rfl | rfl
      · have := BucketR_0 r q W w0.heap.size h.rm (by rw [hal.a]; exact hq) hrok.a hrok.n hTie.sums hsz
        unfold ptr at this
        rw [h.br, hk] at this
        exact this
      · have := BucketR_1 r q W w0.heap.size h.rm (by rw [hal.b]; exact hq) hrok.b hrok.n hTie.sums hsz
        unfold ptr at this
        rw [h.br, hk] at this
        exact this
  · refine ⟨[], 2, fun W h => ?_, fun W h => ?_⟩
    · have hno : t < 0 ∨ 2 ≤ t ∨ (q : Int) < 0 ∨ (tabLen d t.toNat : Int) ≤ (q : Int) := by
        rcases Int.lt_or_le t 0 with h1 | h1
        · exact .inl h1
        · rcases Int.lt_or_le t 2 with h2 | h2
          · refine .inr (.inr (.inr ?_))
            rcases Nat.lt_or_ge q (tabLen d t.toNat) with h3 | h3
            · exact absurd ⟨t.toNat, by omega, by omega, h3⟩ hin
            · omega
          · exact .inr (.inl h2)
      have := Bucket_no d t q W h.one.md.dm hno
      unfold ptr at this
      rw [h.one.bd] at this
      exact this.mono fun e w' ⟨h1, h2⟩ => ⟨⟨_, h1, Strs.nil _ _⟩, h2⟩
    · have hal := hTie.alike h.one.md.ok
      have hno : t < 0 ∨ 1 < t ∨ (q : Int) < 0 ∨ (t = 0 ∧ (r.a : Int) ≤ (q : Int)) ∨ (t = 1 ∧ (r.b : Int) ≤ (q : Int)) := by
        rcases Int.lt_or_le t 0 with h1 | h1
        · exact .inl h1
        · rcases Int.lt_or_le 1 t with h2 | h2
          · exact .inr (.inl h2)
          · rcases (by omega : t = 0 ∨ t = 1) with rfl | rfl
            · refine .inr (.inr (.inr (.inl ⟨rfl, ?_⟩)))
              rcases Nat.lt_or_ge q (tabLen d 0) with h3 | h3
              · exact absurd ⟨0, rfl, by omega, h3⟩ hin
              · have : r.a = tabLen d 0 := hal.a
                omega
            · refine .inr (.inr (.inr (.inr ⟨rfl, ?_⟩)))
              rcases Nat.lt_or_ge q (tabLen d 1) with h3 | h3
              · exact absurd ⟨1, rfl, by omega, h3⟩ hin
              · have : r.b = tabLen d 1 := hal.b
                omega
      have := BucketR_no r t q W w0.heap.size h.rm hno
      unfold ptr at this
      rw [h.br] at this
      refine this.mono ?_
      rintro e w' ⟨h1, rfl⟩
      exact ⟨⟨_, h1, Strs.nil _ _⟩, Chg.refl _ _⟩

def Act0 (l : Value) (bd br i : Nat) (a : Act) : Prop := a.tmps.size = 119 ∧ a.tmps[1]? = some (l) ∧ a.tmps[5]? = some (.bool true) ∧ a.tmps[6]? = some (ptr bd) ∧ a.tmps[7]? = some (ptr br) ∧ a.tmps[8]? = some (.int .i64 (i : Int)) ∧ a.defers = []
def Inv0 (w0 : World) (l : Value) (M bd br : Nat) (m : Nat) (a : Act) (w : World) : Prop :=
  ∃ i d r, m = M - i ∧ i ≤ M ∧ Act0 l bd br i a ∧ Half w0 w bd br d r ∧ Tie d r ∧ d.n ≤ i ∧ Tiny d
def Act2 (l : Value) (bd br i q : Nat) (t : Int) (a : Act) : Prop := a.tmps.size = 119 ∧ a.tmps[1]? = some (l) ∧ a.tmps[5]? = some (.bool true) ∧ a.tmps[6]? = some (ptr bd) ∧ a.tmps[7]? = some (ptr br) ∧ a.tmps[8]? = some (.int .i64 (i : Int)) ∧ a.tmps[13]? = some (.int .i64 (q : Int)) ∧ a.tmps[14]? = some (.int .i64 t) ∧ a.defers = []
def Inv2 (w0 : World) (l : Value) (bd br i q : Nat) (d : Dm) (r : Rm) (m : Nat) (a : Act) (w : World) : Prop :=
  ∃ t : Int, m = (3 - t).toNat ∧ -1 ≤ t ∧ t ≤ 3 ∧ Act2 l bd br i q t a ∧ Half w0 w bd br d r

set_option maxRecDepth 100000 in
set_option maxHeartbeats 4000000 in
theorem walk (s1 : Nat) (h1 : s1 < 4294967296) (v : Value) (n : Nat) (g : Nat → Act3) (w : World) (hv : ActsAt w v n g) :
    Calls Try.prog 7 #[.int .u32 (s1 : Int), v] w fun e w' => e = .returned (.bool true) ∧ Chg (fun _ => False) w w' := by
  go_enter Try.func7, Try.ntmps7
  go_wp2_with fail
  refine (shown07_any w).mono ?_
  rintro e w1 ⟨rfl, hc1⟩
  go_wp2_with fail
  refine (new_p w1 s1 h1).mono ?_
  rintro e w2 ⟨bd, d0, rfl, hT, dn, dl, dsh, hse⟩
  go_wp2_with fail
  refine (NewR_any s1 w2).mono ?_
  rintro e w3 ⟨rfl, hR, hC⟩
  obtain ⟨hH, hTie, hTiny⟩ := half_new hT dn dl dsh hse hR hC
  obtain ⟨br, hbr⟩ : ∃ br, br = w2.heap.size := ⟨_, rfl⟩
  rw [← hbr] at hH hTie ⊢
  replace hv := hv.chg hc1
  clear hT dl dsh hse hR hC hbr
  go_wp2_with fail
  refine wp_loop_ghost (Inv0 w1 v (min n 150) bd br) (min n 150) ?_ ?_
  · exact ⟨0, d0, _, rfl, Nat.zero_le _, ⟨rfl, rfl, rfl, rfl, rfl, rfl, rfl⟩, hH, hTie, Nat.le_of_eq dn, hTiny⟩
  · clear hH hTie hTiny dn
    rintro m ⟨tmps, ds⟩ W ⟨i, d, r, rfl, hi, ⟨hsz, t1, t5, t6, t7, t8, rfl⟩, hH, hTie, hdn, hTiny⟩
    replace hsz : tmps.size = 119 := hsz
    dsimp only at t1 t5 t6 t7 t8
    revert t1 t5 t6 t7 t8
    revert hsz
    revert tmps
    refine all119 ?_
    intro u0 u1 u2 u3 u4 u5 u6 u7 u8 u9 u10 u11 u12 u13 u14 u15 u16 u17 u18 u19 u20 u21 u22 u23 u24 u25 u26 u27 u28 u29 u30 u31 u32 u33 u34 u35 u36 u37 u38 u39 u40 u41 u42 u43 u44 u45 u46 u47 u48 u49 u50 u51 u52 u53 u54 u55 u56 u57 u58 u59 u60 u61 u62 u63 u64 u65 u66 u67 u68 u69 u70 u71 u72 u73 u74 u75 u76 u77 u78 u79 u80 u81 u82 u83 u84 u85 u86 u87 u88 u89 u90 u91 u92 u93 u94 u95 u96 u97 u98 u99 u100 u101 u102 u103 u104 u105 u106 u107 u108 u109 u110 u111 u112 u113 u114 u115 u116 u117 u118 t1 t5 t6 t7 t8
    simp only [ptr, List.getElem?_toArray, List.getElem?_cons_zero, List.getElem?_cons_succ, Option.some.injEq] at t1 t5 t6 t7 t8
    subst t1 t5 t6 t7 t8
    obtain ⟨p, cap, rfl⟩ := hv.is
    have hle := hv.le
    by_cases hin : i < n
    · have hin' : (i : Int) < (n : Int) := by omega
      by_cases hi1 : i < 150
      · have hi' : (i : Int) < 150 := by omega
        have hv' := hv.chg hH.one.chg
        obtain ⟨bx, off, cap', heq, _⟩ := hv'.at_ i hin
        injection heq with heq hx hcap
        subst heq hcap
        clear hx
        obtain ⟨hb1, q0, q1, q2, f1⟩ := acts3 hv' hin
        have hdi := did_p hH hTie hTiny (g i) f1 (by omega)
        have hdn0 : d.n ≤ 150 := by omega
        go_wp2_with fail
        refine hdi.mono ?_
        rintro e5 W5 ⟨rfl, d', r', hH5, hTie5, hn5, hTiny5⟩
        obtain ⟨hb1, q0, q1, q2, f1⟩ := acts3 (hv.chg hH5.one.chg) hin
        have hsz := sizes_1 hH5.one
        clear hdi hH hTie hTiny
        go_wp2_with fail
        refine hsz.mono ?_
        rintro e6 W6 ⟨rfl, _, hC6⟩
        have hH6 := hH5.chg0 hC6
        obtain ⟨hb1, q0, q1, q2, f1⟩ := acts3 (hv.chg hH6.one.chg) hin
        obtain ⟨c0, c1, c2, c3, c4, fr, hlt0⟩ := rm_cells hH6.rm
        obtain ⟨pr, cr, hlv, _, _, _⟩ := hH6.rm.own.is
        rw [hH6.br] at c0 c1 c2 c3 c4 fr hlt0
        rw [hlv, hTie5.n] at c1
        rw [hTie5.a] at c2
        rw [hTie5.b] at c3
        rw [hTie5.at_] at c4
        have hln := fun W hW => len_1 (W := W) (w0 := w1) (bd := bd) (d := d') hW
        obtain ⟨q, hq, hq40⟩ := mod40 (g i).V
        generalize Dint.shape d' = sh at c2 c3 c4 ⊢
        obtain ⟨sa, sb, sc⟩ := sh
        dsimp only at c2 c3 c4 ⊢
        generalize sb.getD 0 = sb' at c3 ⊢
        replace hlv := Lib.hid hlv
        clear hsz hH5 hC6
        go_wp2_with fail
        go_quiet ((go_at_call 21; exact Calls.quiet_of_same ((hln _ (hH6.one.chg0 (by first | exact (Chg.refl _ _).drewN _ | exact (Chg.refl _ _).drew | exact Chg.refl _ _))).mono fun _ _ hh => ⟨hh.1, hh.2.symm⟩)))
        have hH7 := hH6.chg0 ((Chg.refl _ W6).drewN nq)
        clear hH6 hln c0 c1 c2 c3 c4 fr hlt0
        go_wp2_with fail
        refine wp_loop_ghost (Inv2 w1 (.slice (some ⟨bx, off, none⟩) n cap) bd br i q d' r') 4 ?_ ?_
        · exact ⟨-1, rfl, by omega, by omega, ⟨rfl, rfl, rfl, rfl, rfl, rfl, rfl, rfl, rfl⟩, hH7⟩
        · clear hH7 hb1 q0 q1 q2
          rintro m ⟨tmps, ds⟩ W7 ⟨t, rfl, ht1, ht2, ⟨hsz, t1, t5, t6, t7, t8, t13, t14, rfl⟩, hH7⟩
          replace hsz : tmps.size = 119 := hsz
          dsimp only at t1 t5 t6 t7 t8 t13 t14
          revert t1 t5 t6 t7 t8 t13 t14
          revert hsz
          revert tmps
          refine all119 ?_
          intro u0 u1 u2 u3 u4 u5 u6 u7 u8 u9 u10 u11 u12 u13 u14 u15 u16 u17 u18 u19 u20 u21 u22 u23 u24 u25 u26 u27 u28 u29 u30 u31 u32 u33 u34 u35 u36 u37 u38 u39 u40 u41 u42 u43 u44 u45 u46 u47 u48 u49 u50 u51 u52 u53 u54 u55 u56 u57 u58 u59 u60 u61 u62 u63 u64 u65 u66 u67 u68 u69 u70 u71 u72 u73 u74 u75 u76 u77 u78 u79 u80 u81 u82 u83 u84 u85 u86 u87 u88 u89 u90 u91 u92 u93 u94 u95 u96 u97 u98 u99 u100 u101 u102 u103 u104 u105 u106 u107 u108 u109 u110 u111 u112 u113 u114 u115 u116 u117 u118 t1 t5 t6 t7 t8 t13 t14
          simp only [ptr, List.getElem?_toArray, List.getElem?_cons_zero, List.getElem?_cons_succ, Option.some.injEq] at t1 t5 t6 t7 t8 t13 t14
          subst t1 t5 t6 t7 t8 t13 t14
          obtain ⟨L, code, hA, hB⟩ := both (w0 := w1) (bd := bd) (br := br) hTie5 hTiny5 (by omega) t q
          by_cases ht3 : t < 3
          · go_wp2_with fail
            refine (hA _ hH7).mono ?_
            rintro e8 W8 ⟨⟨v8, rfl, hs8⟩, hC8⟩
            have hH8 := hH7.chg0 hC8
            go_wp2_with fail
            refine (hB _ hH8).mono ?_
            rintro e9 W9 ⟨⟨v9, rfl, hs9⟩, hC9⟩
            have hH9 := hH8.chg0 hC9
            have htx := Texts_any v8 v9 _ _ _ _ W9 (hs8.chg hC9 fun _ _ => id) hs9
            simp only [decide_true] at htx
            clear hA hB
            go_wp2_with fail
            refine htx.mono ?_
            rintro e10 W10 ⟨rfl, hC10⟩
            clear htx
            go_wp2_with fail
            exact ⟨(3 - (t + 1)).toNat, by omega, t + 1, rfl, by omega, by omega, ⟨rfl, rfl, rfl, rfl, rfl, rfl, rfl, rfl, rfl⟩, hH9.chg0 hC10⟩
          · have ht3' : (t < 3) = False := by simp only [eq_iff_iff, iff_false]; omega
            clear hA hB ht3
            go_wp2_with fail
            exact ⟨min n 150 - (i + 1), by omega, i + 1, d', r', rfl, by omega, ⟨rfl, rfl, rfl, rfl, rfl, rfl, rfl⟩, hH7, hTie5, by omega, hTiny5⟩
      · have hi' : ((i : Int) < 150) = False := by simp only [eq_iff_iff, iff_false]; omega
        have hC := hc1.trans hH.one.chg
        clear hi1
        go_wp2_with fail
        go_ret
        exact ⟨rfl, hC⟩
    · have hin' : ((i : Int) < (n : Int)) = False := by simp only [eq_iff_iff, iff_false]; omega
      have hin2 : (i < n) = False := by simp only [eq_iff_iff, iff_false]; omega
      have hC := hc1.trans hH.one.chg
      clear hin
      go_wp2_with fail
      go_ret
      exact ⟨rfl, hC⟩

set_option maxRecDepth 100000 in
theorem DictDoes_walk (W : World) (a0 : Int) (w0 : (Lit.int .u32 a0).wf = true) {H : Type} {enc : TypeId × Value → H} {v : Value} {d : DataW H} {p : List MemPlace}
    (hv : Value.okWide Try.prog W .any 0 23 v) (h : DataW.Trod enc Try.prog W 0 (fun _ => true) true 23 v d p) :
    Calls Try.prog 7 #[.int .u32 a0, v] W fun e w' => e = .returned (.bool true) ∧ Chg (fun _ => False) W w' := by
  obtain ⟨s0, rfl, h0⟩ := u32_of_wf w0
  obtain ⟨n, g, hg⟩ := open_acts hv h
  exact walk s0 h0 v n g W hg

end Go.Proofs.Ythbjjjcppijcbaa.dictDoes
