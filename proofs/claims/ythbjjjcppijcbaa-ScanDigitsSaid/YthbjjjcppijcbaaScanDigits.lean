/- The walk of ScanDigits. -/
import Derived.Test.YthbjjjcppijcbaaS9
import Derived.Deep.LoopGhost
import Derived.Outline
namespace Go.Proofs.Ythbjjjcppijcbaa.scanDigits
open Go.RowKit Pal Dint

def other (a c more : Nat) : Nat := c % 2 ^ a ||| (more &&& (4294967295 - (2 ^ a - 1)))
theorem other_mod {a c more : Nat} (ha : a ≤ 16) : other a c more % 2 ^ a = c % 2 ^ a := by
  apply Nat.eq_of_testBit_eq
  intro i
  unfold other
  rw [Nat.testBit_mod_two_pow, Nat.testBit_or, Nat.testBit_and, Nat.testBit_mod_two_pow]
  by_cases h : i < a
  · rw [bit_high a i (by omega) (by omega)]
    have : ¬ a ≤ i := by omega
    simp [h, this]
  · simp [h]
theorem other_lt {a c more : Nat} (hc : c < 4294967296) (hm : more < 4294967296) : other a c more < 4294967296 :=
  or32 (Nat.lt_of_le_of_lt (Nat.mod_le _ _) hc) (Nat.lt_of_le_of_lt Nat.and_le_left hm)
theorem pos_of_mod {a x y : Nat} (ha : a ≤ 32) (hx : x < 4294967296) (hy : y < 4294967296) (h : x % 2 ^ a = y % 2 ^ a) : pos a x = pos a y := by
  rw [mod_cur ha hx, mod_cur ha hy] at h
  exact cur_inj a ha (pos_lt ha x) (pos_lt ha y) h
theorem other_bits {a c more : Nat} (ha : a ≤ 16) (hc : c < 4294967296) (hm : more < 4294967296) (s : Int) (hs : s = ((2 ^ a : Nat) : Int)) :
    bits BinOp.or IntKind.u32 (bits BinOp.and IntKind.u32 (c : Int) (s - 1)) (bits BinOp.andNot IntKind.u32 (more : Int) (s - 1)) = ((other a c more : Nat) : Int) := by
  have hp : (2 : Nat) ^ a ≤ 2 ^ 16 := pow_mono ha
  have h1 : 1 ≤ 2 ^ a := Nat.one_le_two_pow
  have e : s - 1 = ((2 ^ a - 1 : Nat) : Int) := by omega
  have e2 : bits BinOp.andNot IntKind.u32 (more : Int) (s - 1) = ((more &&& (4294967295 - (2 ^ a - 1)) : Nat) : Int) := by
    rw [e]
    show IntKind.u32.wrap ((BitVec.ofInt 32 (more : Int) &&& ~~~ BitVec.ofInt 32 ((2 ^ a - 1 : Nat) : Int)).toNat : Int) = _
    rw [BitVec.toNat_and, BitVec.toNat_not, ofInt_u32 _ hm, ofInt_u32 _ (by omega), IntKind.wrap_u32']
    have : more &&& (2 ^ 32 - 1 - (2 ^ a - 1)) ≤ more := Nat.and_le_left
    show ((more &&& (2 ^ 32 - 1 - (2 ^ a - 1)) : Nat) : Int) % _ = ((more &&& (2 ^ 32 - 1 - (2 ^ a - 1)) : Nat) : Int)
    omega
  rw [e2, hs, slot_bits c a hc ha, u32_or_nat _ _ (Nat.lt_of_le_of_lt (Nat.mod_le _ _) hc) (Nat.lt_of_le_of_lt Nat.and_le_left hm)]
  rfl

theorem all96 {P : Array Value → Prop} (h : ∀ u0 u1 u2 u3 u4 u5 u6 u7 u8 u9 u10 u11 u12 u13 u14 u15 u16 u17 u18 u19 u20 u21 u22 u23 u24 u25 u26 u27 u28 u29 u30 u31 u32 u33 u34 u35 u36 u37 u38 u39 u40 u41 u42 u43 u44 u45 u46 u47 u48 u49 u50 u51 u52 u53 u54 u55 u56 u57 u58 u59 u60 u61 u62 u63 u64 u65 u66 u67 u68 u69 u70 u71 u72 u73 u74 u75 u76 u77 u78 u79 u80 u81 u82 u83 u84 u85 u86 u87 u88 u89 u90 u91 u92 u93 u94 u95 : Value, P #[u0, u1, u2, u3, u4, u5, u6, u7, u8, u9, u10, u11, u12, u13, u14, u15, u16, u17, u18, u19, u20, u21, u22, u23, u24, u25, u26, u27, u28, u29, u30, u31, u32, u33, u34, u35, u36, u37, u38, u39, u40, u41, u42, u43, u44, u45, u46, u47, u48, u49, u50, u51, u52, u53, u54, u55, u56, u57, u58, u59, u60, u61, u62, u63, u64, u65, u66, u67, u68, u69, u70, u71, u72, u73, u74, u75, u76, u77, u78, u79, u80, u81, u82, u83, u84, u85, u86, u87, u88, u89, u90, u91, u92, u93, u94, u95]) (a : Array Value) (hs : a.size = 96) : P a := by
  obtain ⟨l⟩ := a
  have g0 : l.length = 96 := hs
  clear hs
  obtain ⟨u0, l0, e0, g1⟩ := Pal.len_cons g0
  obtain ⟨u1, l1, e1, g2⟩ := Pal.len_cons g1
  obtain ⟨u2, l2, e2, g3⟩ := Pal.len_cons g2
  obtain ⟨u3, l3, e3, g4⟩ := Pal.len_cons g3
  obtain ⟨u4, l4, e4, g5⟩ := Pal.len_cons g4
  obtain ⟨u5, l5, e5, g6⟩ := Pal.len_cons g5
  obtain ⟨u6, l6, e6, g7⟩ := Pal.len_cons g6
  obtain ⟨u7, l7, e7, g8⟩ := Pal.len_cons g7
  obtain ⟨u8, l8, e8, g9⟩ := Pal.len_cons g8
  obtain ⟨u9, l9, e9, g10⟩ := Pal.len_cons g9
  obtain ⟨u10, l10, e10, g11⟩ := Pal.len_cons g10
  obtain ⟨u11, l11, e11, g12⟩ := Pal.len_cons g11
  obtain ⟨u12, l12, e12, g13⟩ := Pal.len_cons g12
  obtain ⟨u13, l13, e13, g14⟩ := Pal.len_cons g13
  obtain ⟨u14, l14, e14, g15⟩ := Pal.len_cons g14
  obtain ⟨u15, l15, e15, g16⟩ := Pal.len_cons g15
  obtain ⟨u16, l16, e16, g17⟩ := Pal.len_cons g16
  obtain ⟨u17, l17, e17, g18⟩ := Pal.len_cons g17
  obtain ⟨u18, l18, e18, g19⟩ := Pal.len_cons g18
  obtain ⟨u19, l19, e19, g20⟩ := Pal.len_cons g19
  obtain ⟨u20, l20, e20, g21⟩ := Pal.len_cons g20
  obtain ⟨u21, l21, e21, g22⟩ := Pal.len_cons g21
  obtain ⟨u22, l22, e22, g23⟩ := Pal.len_cons g22
  obtain ⟨u23, l23, e23, g24⟩ := Pal.len_cons g23
  obtain ⟨u24, l24, e24, g25⟩ := Pal.len_cons g24
  obtain ⟨u25, l25, e25, g26⟩ := Pal.len_cons g25
  obtain ⟨u26, l26, e26, g27⟩ := Pal.len_cons g26
  obtain ⟨u27, l27, e27, g28⟩ := Pal.len_cons g27
  obtain ⟨u28, l28, e28, g29⟩ := Pal.len_cons g28
  obtain ⟨u29, l29, e29, g30⟩ := Pal.len_cons g29
  obtain ⟨u30, l30, e30, g31⟩ := Pal.len_cons g30
  obtain ⟨u31, l31, e31, g32⟩ := Pal.len_cons g31
  obtain ⟨u32, l32, e32, g33⟩ := Pal.len_cons g32
  obtain ⟨u33, l33, e33, g34⟩ := Pal.len_cons g33
  obtain ⟨u34, l34, e34, g35⟩ := Pal.len_cons g34
  obtain ⟨u35, l35, e35, g36⟩ := Pal.len_cons g35
  obtain ⟨u36, l36, e36, g37⟩ := Pal.len_cons g36
  obtain ⟨u37, l37, e37, g38⟩ := Pal.len_cons g37
  obtain ⟨u38, l38, e38, g39⟩ := Pal.len_cons g38
  obtain ⟨u39, l39, e39, g40⟩ := Pal.len_cons g39
  obtain ⟨u40, l40, e40, g41⟩ := Pal.len_cons g40
  obtain ⟨u41, l41, e41, g42⟩ := Pal.len_cons g41
  obtain ⟨u42, l42, e42, g43⟩ := Pal.len_cons g42
  obtain ⟨u43, l43, e43, g44⟩ := Pal.len_cons g43
  obtain ⟨u44, l44, e44, g45⟩ := Pal.len_cons g44
  obtain ⟨u45, l45, e45, g46⟩ := Pal.len_cons g45
  obtain ⟨u46, l46, e46, g47⟩ := Pal.len_cons g46
  obtain ⟨u47, l47, e47, g48⟩ := Pal.len_cons g47
  obtain ⟨u48, l48, e48, g49⟩ := Pal.len_cons g48
  obtain ⟨u49, l49, e49, g50⟩ := Pal.len_cons g49
  obtain ⟨u50, l50, e50, g51⟩ := Pal.len_cons g50
  obtain ⟨u51, l51, e51, g52⟩ := Pal.len_cons g51
  obtain ⟨u52, l52, e52, g53⟩ := Pal.len_cons g52
  obtain ⟨u53, l53, e53, g54⟩ := Pal.len_cons g53
  obtain ⟨u54, l54, e54, g55⟩ := Pal.len_cons g54
  obtain ⟨u55, l55, e55, g56⟩ := Pal.len_cons g55
  obtain ⟨u56, l56, e56, g57⟩ := Pal.len_cons g56
  obtain ⟨u57, l57, e57, g58⟩ := Pal.len_cons g57
  obtain ⟨u58, l58, e58, g59⟩ := Pal.len_cons g58
  obtain ⟨u59, l59, e59, g60⟩ := Pal.len_cons g59
  obtain ⟨u60, l60, e60, g61⟩ := Pal.len_cons g60
  obtain ⟨u61, l61, e61, g62⟩ := Pal.len_cons g61
  obtain ⟨u62, l62, e62, g63⟩ := Pal.len_cons g62
  obtain ⟨u63, l63, e63, g64⟩ := Pal.len_cons g63
  obtain ⟨u64, l64, e64, g65⟩ := Pal.len_cons g64
  obtain ⟨u65, l65, e65, g66⟩ := Pal.len_cons g65
  obtain ⟨u66, l66, e66, g67⟩ := Pal.len_cons g66
  obtain ⟨u67, l67, e67, g68⟩ := Pal.len_cons g67
  obtain ⟨u68, l68, e68, g69⟩ := Pal.len_cons g68
  obtain ⟨u69, l69, e69, g70⟩ := Pal.len_cons g69
  obtain ⟨u70, l70, e70, g71⟩ := Pal.len_cons g70
  obtain ⟨u71, l71, e71, g72⟩ := Pal.len_cons g71
  obtain ⟨u72, l72, e72, g73⟩ := Pal.len_cons g72
  obtain ⟨u73, l73, e73, g74⟩ := Pal.len_cons g73
  obtain ⟨u74, l74, e74, g75⟩ := Pal.len_cons g74
  obtain ⟨u75, l75, e75, g76⟩ := Pal.len_cons g75
  obtain ⟨u76, l76, e76, g77⟩ := Pal.len_cons g76
  obtain ⟨u77, l77, e77, g78⟩ := Pal.len_cons g77
  obtain ⟨u78, l78, e78, g79⟩ := Pal.len_cons g78
  obtain ⟨u79, l79, e79, g80⟩ := Pal.len_cons g79
  obtain ⟨u80, l80, e80, g81⟩ := Pal.len_cons g80
  obtain ⟨u81, l81, e81, g82⟩ := Pal.len_cons g81
  obtain ⟨u82, l82, e82, g83⟩ := Pal.len_cons g82
  obtain ⟨u83, l83, e83, g84⟩ := Pal.len_cons g83
  obtain ⟨u84, l84, e84, g85⟩ := Pal.len_cons g84
  obtain ⟨u85, l85, e85, g86⟩ := Pal.len_cons g85
  obtain ⟨u86, l86, e86, g87⟩ := Pal.len_cons g86
  obtain ⟨u87, l87, e87, g88⟩ := Pal.len_cons g87
  obtain ⟨u88, l88, e88, g89⟩ := Pal.len_cons g88
  obtain ⟨u89, l89, e89, g90⟩ := Pal.len_cons g89
  obtain ⟨u90, l90, e90, g91⟩ := Pal.len_cons g90
  obtain ⟨u91, l91, e91, g92⟩ := Pal.len_cons g91
  obtain ⟨u92, l92, e92, g93⟩ := Pal.len_cons g92
  obtain ⟨u93, l93, e93, g94⟩ := Pal.len_cons g93
  obtain ⟨u94, l94, e94, g95⟩ := Pal.len_cons g94
  obtain ⟨u95, l95, e95, g96⟩ := Pal.len_cons g95
  obtain rfl := List.eq_nil_of_length_eq_zero g96
  have e : (⟨l⟩ : Array Value) = #[u0, u1, u2, u3, u4, u5, u6, u7, u8, u9, u10, u11, u12, u13, u14, u15, u16, u17, u18, u19, u20, u21, u22, u23, u24, u25, u26, u27, u28, u29, u30, u31, u32, u33, u34, u35, u36, u37, u38, u39, u40, u41, u42, u43, u44, u45, u46, u47, u48, u49, u50, u51, u52, u53, u54, u55, u56, u57, u58, u59, u60, u61, u62, u63, u64, u65, u66, u67, u68, u69, u70, u71, u72, u73, u74, u75, u76, u77, u78, u79, u80, u81, u82, u83, u84, u85, u86, u87, u88, u89, u90, u91, u92, u93, u94, u95] := by rw [e0, e1, e2, e3, e4, e5, e6, e7, e8, e9, e10, e11, e12, e13, e14, e15, e16, e17, e18, e19, e20, e21, e22, e23, e24, e25, e26, e27, e28, e29, e30, e31, e32, e33, e34, e35, e36, e37, e38, e39, e40, e41, e42, e43, e44, e45, e46, e47, e48, e49, e50, e51, e52, e53, e54, e55, e56, e57, e58, e59, e60, e61, e62, e63, e64, e65, e66, e67, e68, e69, e70, e71, e72, e73, e74, e75, e76, e77, e78, e79, e80, e81, e82, e83, e84, e85, e86, e87, e88, e89, e90, e91, e92, e93, e94, e95]
  rw [e]
  exact h u0 u1 u2 u3 u4 u5 u6 u7 u8 u9 u10 u11 u12 u13 u14 u15 u16 u17 u18 u19 u20 u21 u22 u23 u24 u25 u26 u27 u28 u29 u30 u31 u32 u33 u34 u35 u36 u37 u38 u39 u40 u41 u42 u43 u44 u45 u46 u47 u48 u49 u50 u51 u52 u53 u54 u55 u56 u57 u58 u59 u60 u61 u62 u63 u64 u65 u66 u67 u68 u69 u70 u71 u72 u73 u74 u75 u76 u77 u78 u79 u80 u81 u82 u83 u84 u85 u86 u87 u88 u89 u90 u91 u92 u93 u94 u95

def LAct (l : Value) (c more : Int) (bd i : Nat) (a : Act) : Prop :=
  a.tmps.size = 96 ∧ a.tmps[1]? = some l ∧ a.tmps[2]? = some (.int .u32 c) ∧ a.tmps[3]? = some (.int .u32 more) ∧ a.tmps[9]? = some (.bool true) ∧ a.tmps[10]? = some (ptr bd) ∧ a.tmps[11]? = some (.int .i64 (i : Int)) ∧ a.defers = []
def LInv (w0 : World) (l : Value) (c more : Int) (N bd : Nat) (m : Nat) (a : Act) (w : World) : Prop :=
  ∃ i d, m = N - i ∧ i ≤ N ∧ LAct l c more bd i a ∧ One w0 w bd d ∧ d.n ≤ i

set_option maxRecDepth 100000 in
set_option maxHeartbeats 4000000 in
theorem walk (s1 : Nat) (h1 : s1 < 4294967296) (v : Value) (n : Nat) (g : Nat → Act3) (c more : Nat) (hc : c < 4294967296) (hmore : more < 4294967296) (w : World) (hv : ActsAt w v n g) :
    Calls Try.prog 11 #[.int .u32 (s1 : Int), v, .int .u32 (c : Int), .int .u32 (more : Int)] w fun e w' => e = .returned (.bool true) ∧ Chg (fun _ => False) w w' := by
  go_enter Try.func11, Try.ntmps11
  go_wp2_with fail
  refine (shown08_any w).mono ?_
  rintro e w1 ⟨rfl, rfl⟩
  go_wp2_with fail
  refine (new_1 (Chg.refl _ w) s1 h1).mono ?_
  rintro e w2 ⟨bd, d0, rfl, hT, dn, _, _, _, _⟩
  go_wp2_with fail
  refine wp_loop_ghost (LInv w v (c : Int) (more : Int) (min n 100) bd) (min n 100) ?_ ?_
  · exact ⟨0, d0, rfl, Nat.zero_le _, ⟨rfl, rfl, rfl, rfl, rfl, rfl, rfl, rfl⟩, hT, Nat.le_of_eq dn⟩
  · clear hT dn
    rintro m ⟨tmps, ds⟩ W ⟨i, d, rfl, hi, ⟨hsz, t1, t2, t3, t9, t10, t11, rfl⟩, hT, hS⟩
    replace hsz : tmps.size = 96 := hsz
    dsimp only at t1 t2 t3 t9 t10 t11
    revert t1 t2 t3 t9 t10 t11
    revert hsz
    revert tmps
    refine all96 ?_
    intro u0 u1 u2 u3 u4 u5 u6 u7 u8 u9 u10 u11 u12 u13 u14 u15 u16 u17 u18 u19 u20 u21 u22 u23 u24 u25 u26 u27 u28 u29 u30 u31 u32 u33 u34 u35 u36 u37 u38 u39 u40 u41 u42 u43 u44 u45 u46 u47 u48 u49 u50 u51 u52 u53 u54 u55 u56 u57 u58 u59 u60 u61 u62 u63 u64 u65 u66 u67 u68 u69 u70 u71 u72 u73 u74 u75 u76 u77 u78 u79 u80 u81 u82 u83 u84 u85 u86 u87 u88 u89 u90 u91 u92 u93 u94 u95 t1 t2 t3 t9 t10 t11
    simp only [ptr, List.getElem?_toArray, List.getElem?_cons_zero, List.getElem?_cons_succ, Option.some.injEq] at t1 t2 t3 t9 t10 t11
    subst t1 t2 t3 t9 t10 t11
    obtain ⟨p, cap, rfl⟩ := hv.is
    have hle := hv.le
    have hdn : d.n ≤ 1000 := by omega
    have hdn2 : d.n ≤ 100000 := by omega
    by_cases hin : i < n ∧ i < 100
    · obtain ⟨hin, hi150⟩ := hin
      have hv' := hv.chg hT.chg
      obtain ⟨b, o, cap', heq, _⟩ := hv'.at_ i hin
      injection heq with heq hx hcap
      subst heq hcap
      clear hx
      obtain ⟨hb, q0, q1, q2, f1⟩ := acts3 hv' hin
      have hin' : (i : Int) < (n : Int) := by omega
      have hi' : (i : Int) < 100 := by omega
      have ha := acted_1 hT (g i) f1 hdn2
      go_wp2_with fail
      refine ha.mono ?_
      rintro e5 W5 ⟨⟨v5, rfl⟩, d', hT1, hA⟩
      have hn' := acts_n hA
      go_wp2_with fail
      exact ⟨min n 100 - (i + 1), by omega, i + 1, d', rfl, by omega, ⟨rfl, rfl, rfl, rfl, rfl, rfl, rfl, rfl⟩, hT1, by omega⟩
    · have hs := step_1 hT 2000
      have hcases : ((i : Int) < (n : Int) ∧ ((i : Int) < 100) = False) ∨ (((i : Int) < (n : Int)) = False ∧ (i < n) = False) := by
        by_cases hlt : i < n
        · exact .inl ⟨by omega, by simp only [eq_iff_iff, iff_false]; omega⟩
        · exact .inr ⟨by simp only [eq_iff_iff, iff_false]; omega, by simp only [eq_iff_iff, iff_false]; omega⟩
      clear hin
      rcases hcases with ⟨x1, x2⟩ | ⟨x1, x2⟩
      all_goals
        go_wp2_with fail
        refine hs.mono ?_
        rintro e W2 ⟨rfl, d', hT2, _, hst, _⟩
        have hn2 : d'.n ≤ 100000 := by rw [hst.2]; exact hdn2
        have hok := hT2.md.ok
        have hz := sizes_1 hT2
        have hpos := hok.s0.pos
        clear hs hst
        cases ht : d'.t1 with
        | some t =>
          have hb : (((Dint.shape d').2.1.getD 0 : Nat) : Int) = (t.len : Int) := by unfold Dint.shape; rw [ht]; rfl
          have ha : ((Dint.shape d').1 : Int) = (d'.t0.len : Int) := rfl
          rw [hb, ha] at hz
          have hp1 := (hok.s1 t ht).pos
          have hne : ((t.len : Int) == 0) = false := by rw [beq_eq_false_iff_ne]; omega
          have hne2 : ¬ (t.len : Int) = 0 := by omega
          have hge : (d'.t0.len : Int) ≥ 4 := by omega
          have hge2 : (4 : Int) ≤ (d'.t0.len : Int) := by omega
          clear hb ha ht
          go_wp2_with fail
          refine hz.mono ?_
          rintro e3 W3 ⟨rfl, hT3, _⟩
          clear hz
          go_wp2_with fail
          go_ret
          exact ⟨rfl, hT3.chg⟩
        | none =>
          obtain ⟨hl, hA2, hA16⟩ := scan_none hok ht
          have hb : (((Dint.shape d').2.1.getD 0 : Nat) : Int) = 0 := by unfold Dint.shape; rw [ht]; rfl
          obtain ⟨S, hS'⟩ : ∃ S : Int, S = ((2 ^ scanA d' : Nat) : Int) := ⟨_, rfl⟩
          have ha : ((Dint.shape d').1 : Int) = S := by rw [hS', ← hl]; rfl
          rw [hb, ha] at hz
          have hS4 : 4 ≤ S := by omega
          have hS6 : S ≤ 65536 := by omega
          have HO := Lib.hid (other_bits (a := scanA d') hA16 hc hmore S hS')
          have hol := other_lt (a := scanA d') hc hmore
          have hsame : Hid (scanL d' (other (scanA d') c more) = scanL d' c) := by
            show _ = _
            unfold scanL
            rw [ht]
            dsimp only
            rw [other_mod hA16]
          have hsame2 : Hid (scanC d' (other (scanA d') c more) = scanC d' c) := by
            show _ = _
            unfold scanC
            rw [pos_of_mod (by omega) hol hc (other_mod hA16)]
          have hlow : (scanC d' c : Int) < S := by
            have := curW_lt (b := scanA d') (k := pos (scanA d') c + 1) (by omega) (by have := pos_lt (b := scanA d') (by omega) c; omega)
            unfold scanC
            omega
          have hCl := scanC_lt d' c
          obtain ⟨C1, hC1⟩ : ∃ C1, scanC d' c = C1 := ⟨_, rfl⟩
          rw [hC1] at hlow hCl
          have HC1 := Lib.hid hC1
          clear hC1
          have HS := Lib.hid hS'
          clear hb ha ht hl hS'
          go_wp2_with fail
          refine hz.mono ?_
          rintro e3 W3 ⟨rfl, hT3, _⟩
          clear hz
          go_wp2_with fail
          refine (scan_1 hT3 c hc hn2).mono ?_
          rintro e4 W4 ⟨⟨v4, rfl, hs4⟩, hT4, _⟩
          rw [HC1.out]
          go_wp2_with fail
          rw [HO.out]
          refine (scan_1 hT4 (other (scanA d') c more) hol hn2).mono ?_
          rintro e5 W5 ⟨⟨v5, rfl, hs5⟩, hT5, hc5⟩
          rw [hsame.out] at hs5
          rw [hsame2.out, HC1.out]
          have htx := Texts_any v4 v5 _ _ _ _ W5 (hs4.chg hc5 fun _ _ => id) hs5
          simp only [decide_true] at htx
          go_wp2_with fail
          refine htx.mono ?_
          rintro e6 W6 ⟨rfl, hc6⟩
          clear htx
          go_wp2_with fail
          go_ret
          exact ⟨rfl, (hT5.chg0 hc6).chg⟩

set_option maxRecDepth 100000 in
theorem ScanDigits_walk (W : World) (a0 : Int) (w0 : (Lit.int .u32 a0).wf = true) {H : Type} {enc : TypeId × Value → H} {v : Value} {d : DataW H} {p : List MemPlace}
    (hv : Value.okWide Try.prog W .any 0 23 v) (h : DataW.Trod enc Try.prog W 0 (fun _ => true) true 23 v d p) (c : Int) (wc : (Lit.int .u32 c).wf = true) (more : Int) (wm : (Lit.int .u32 more).wf = true) :
    Calls Try.prog 11 #[.int .u32 a0, v, .int .u32 c, .int .u32 more] W fun e w' => e = .returned (.bool true) ∧ Chg (fun _ => False) W w' := by
  obtain ⟨s0, rfl, h0⟩ := u32_of_wf w0
  obtain ⟨c0, rfl, hc0⟩ := u32_of_wf wc
  obtain ⟨m0, rfl, hm0⟩ := u32_of_wf wm
  obtain ⟨n, g, hg⟩ := open_acts hv h
  exact walk s0 h0 v n g c0 m0 hc0 hm0 W hg

end Go.Proofs.Ythbjjjcppijcbaa.scanDigits
