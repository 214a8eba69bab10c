/- Texts joined for DictDoes: RW, Sh, SS, RR. -/
import Derived.Test.YthbjjjcppijcbaaJDictDoesa
import Derived.Test.YthbjjjcppijcbaaJDictDoesc
import Derived.Test.YthbjjjcppijcbaaProg
import Derived.Deep.LoopGhost
import Derived.Deep.CutBlock
import Derived.Deep.QuietTactic
import Derived.BigQuiet
import Derived.Lib.Hide
import Derived.IntWalk
import Derived.Shelf.Sort.Plain
import Derived.Shelf.Slices.In.SortNone
import Derived.Sort.OwnSorted
import Derived.Lib.OwnBridge
import Derived.OwnWalkIn
import Derived.OrdersIn
import Derived.StillTailTactics
import Derived.RangeFuncCalls
import Derived.OrdersHeld
set_option linter.unusedVariables false
set_option linter.unusedSimpArgs false

/- Walks of the document's dict: New, Step. -/
namespace Go.Proofs.Ythbjjjcppijcbaa
open Go.RowKit Pal Dint

theorem all102 {P : Array Value → Prop} (h : ∀ u0 u1 u2 u3 u4 u5 u6 u7 u8 u9 u10 u11 u12 u13 u14 u15 u16 u17 u18 u19 u20 u21 u22 u23 u24 u25 u26 u27 u28 u29 u30 u31 u32 u33 u34 u35 u36 u37 u38 u39 u40 u41 u42 u43 u44 u45 u46 u47 u48 u49 u50 u51 u52 u53 u54 u55 u56 u57 u58 u59 u60 u61 u62 u63 u64 u65 u66 u67 u68 u69 u70 u71 u72 u73 u74 u75 u76 u77 u78 u79 u80 u81 u82 u83 u84 u85 u86 u87 u88 u89 u90 u91 u92 u93 u94 u95 u96 u97 u98 u99 u100 u101 : Value, P #[u0, u1, u2, u3, u4, u5, u6, u7, u8, u9, u10, u11, u12, u13, u14, u15, u16, u17, u18, u19, u20, u21, u22, u23, u24, u25, u26, u27, u28, u29, u30, u31, u32, u33, u34, u35, u36, u37, u38, u39, u40, u41, u42, u43, u44, u45, u46, u47, u48, u49, u50, u51, u52, u53, u54, u55, u56, u57, u58, u59, u60, u61, u62, u63, u64, u65, u66, u67, u68, u69, u70, u71, u72, u73, u74, u75, u76, u77, u78, u79, u80, u81, u82, u83, u84, u85, u86, u87, u88, u89, u90, u91, u92, u93, u94, u95, u96, u97, u98, u99, u100, u101]) (a : Array Value) (hs : a.size = 102) : P a := by
  obtain ⟨l⟩ := a
  have g0 : l.length = 102 := hs
  clear hs
  obtain ⟨u0, l0, e0, g1⟩ := Pal.len_cons g0
  obtain ⟨u1, l1, e1, g2⟩ := Pal.len_cons g1
  obtain ⟨u2, l2, e2, g3⟩ := Pal.len_cons g2
  obtain ⟨u3, l3, e3, g4⟩ := Pal.len_cons g3
  obtain ⟨u4, l4, e4, g5⟩ := Pal.len_cons g4
  obtain ⟨u5, l5, e5, g6⟩ := Pal.len_cons g5
  obtain ⟨u6, l6, e6, g7⟩ := Pal.len_cons g6
  obtain ⟨u7, l7, e7, g8⟩ := Pal.len_cons g7
  obtain ⟨u8, l8, e8, g9⟩ := Pal.len_cons g8
  obtain ⟨u9, l9, e9, g10⟩ := Pal.len_cons g9
  obtain ⟨u10, l10, e10, g11⟩ := Pal.len_cons g10
  obtain ⟨u11, l11, e11, g12⟩ := Pal.len_cons g11
  obtain ⟨u12, l12, e12, g13⟩ := Pal.len_cons g12
  obtain ⟨u13, l13, e13, g14⟩ := Pal.len_cons g13
  obtain ⟨u14, l14, e14, g15⟩ := Pal.len_cons g14
  obtain ⟨u15, l15, e15, g16⟩ := Pal.len_cons g15
  obtain ⟨u16, l16, e16, g17⟩ := Pal.len_cons g16
  obtain ⟨u17, l17, e17, g18⟩ := Pal.len_cons g17
  obtain ⟨u18, l18, e18, g19⟩ := Pal.len_cons g18
  obtain ⟨u19, l19, e19, g20⟩ := Pal.len_cons g19
  obtain ⟨u20, l20, e20, g21⟩ := Pal.len_cons g20
  obtain ⟨u21, l21, e21, g22⟩ := Pal.len_cons g21
  obtain ⟨u22, l22, e22, g23⟩ := Pal.len_cons g22
  obtain ⟨u23, l23, e23, g24⟩ := Pal.len_cons g23
  obtain ⟨u24, l24, e24, g25⟩ := Pal.len_cons g24
  obtain ⟨u25, l25, e25, g26⟩ := Pal.len_cons g25
  obtain ⟨u26, l26, e26, g27⟩ := Pal.len_cons g26
  obtain ⟨u27, l27, e27, g28⟩ := Pal.len_cons g27
  obtain ⟨u28, l28, e28, g29⟩ := Pal.len_cons g28
  obtain ⟨u29, l29, e29, g30⟩ := Pal.len_cons g29
  obtain ⟨u30, l30, e30, g31⟩ := Pal.len_cons g30
  obtain ⟨u31, l31, e31, g32⟩ := Pal.len_cons g31
  obtain ⟨u32, l32, e32, g33⟩ := Pal.len_cons g32
  obtain ⟨u33, l33, e33, g34⟩ := Pal.len_cons g33
  obtain ⟨u34, l34, e34, g35⟩ := Pal.len_cons g34
  obtain ⟨u35, l35, e35, g36⟩ := Pal.len_cons g35
  obtain ⟨u36, l36, e36, g37⟩ := Pal.len_cons g36
  obtain ⟨u37, l37, e37, g38⟩ := Pal.len_cons g37
  obtain ⟨u38, l38, e38, g39⟩ := Pal.len_cons g38
  obtain ⟨u39, l39, e39, g40⟩ := Pal.len_cons g39
  obtain ⟨u40, l40, e40, g41⟩ := Pal.len_cons g40
  obtain ⟨u41, l41, e41, g42⟩ := Pal.len_cons g41
  obtain ⟨u42, l42, e42, g43⟩ := Pal.len_cons g42
  obtain ⟨u43, l43, e43, g44⟩ := Pal.len_cons g43
  obtain ⟨u44, l44, e44, g45⟩ := Pal.len_cons g44
  obtain ⟨u45, l45, e45, g46⟩ := Pal.len_cons g45
  obtain ⟨u46, l46, e46, g47⟩ := Pal.len_cons g46
  obtain ⟨u47, l47, e47, g48⟩ := Pal.len_cons g47
  obtain ⟨u48, l48, e48, g49⟩ := Pal.len_cons g48
  obtain ⟨u49, l49, e49, g50⟩ := Pal.len_cons g49
  obtain ⟨u50, l50, e50, g51⟩ := Pal.len_cons g50
  obtain ⟨u51, l51, e51, g52⟩ := Pal.len_cons g51
  obtain ⟨u52, l52, e52, g53⟩ := Pal.len_cons g52
  obtain ⟨u53, l53, e53, g54⟩ := Pal.len_cons g53
  obtain ⟨u54, l54, e54, g55⟩ := Pal.len_cons g54
  obtain ⟨u55, l55, e55, g56⟩ := Pal.len_cons g55
  obtain ⟨u56, l56, e56, g57⟩ := Pal.len_cons g56
  obtain ⟨u57, l57, e57, g58⟩ := Pal.len_cons g57
  obtain ⟨u58, l58, e58, g59⟩ := Pal.len_cons g58
  obtain ⟨u59, l59, e59, g60⟩ := Pal.len_cons g59
  obtain ⟨u60, l60, e60, g61⟩ := Pal.len_cons g60
  obtain ⟨u61, l61, e61, g62⟩ := Pal.len_cons g61
  obtain ⟨u62, l62, e62, g63⟩ := Pal.len_cons g62
  obtain ⟨u63, l63, e63, g64⟩ := Pal.len_cons g63
  obtain ⟨u64, l64, e64, g65⟩ := Pal.len_cons g64
  obtain ⟨u65, l65, e65, g66⟩ := Pal.len_cons g65
  obtain ⟨u66, l66, e66, g67⟩ := Pal.len_cons g66
  obtain ⟨u67, l67, e67, g68⟩ := Pal.len_cons g67
  obtain ⟨u68, l68, e68, g69⟩ := Pal.len_cons g68
  obtain ⟨u69, l69, e69, g70⟩ := Pal.len_cons g69
  obtain ⟨u70, l70, e70, g71⟩ := Pal.len_cons g70
  obtain ⟨u71, l71, e71, g72⟩ := Pal.len_cons g71
  obtain ⟨u72, l72, e72, g73⟩ := Pal.len_cons g72
  obtain ⟨u73, l73, e73, g74⟩ := Pal.len_cons g73
  obtain ⟨u74, l74, e74, g75⟩ := Pal.len_cons g74
  obtain ⟨u75, l75, e75, g76⟩ := Pal.len_cons g75
  obtain ⟨u76, l76, e76, g77⟩ := Pal.len_cons g76
  obtain ⟨u77, l77, e77, g78⟩ := Pal.len_cons g77
  obtain ⟨u78, l78, e78, g79⟩ := Pal.len_cons g78
  obtain ⟨u79, l79, e79, g80⟩ := Pal.len_cons g79
  obtain ⟨u80, l80, e80, g81⟩ := Pal.len_cons g80
  obtain ⟨u81, l81, e81, g82⟩ := Pal.len_cons g81
  obtain ⟨u82, l82, e82, g83⟩ := Pal.len_cons g82
  obtain ⟨u83, l83, e83, g84⟩ := Pal.len_cons g83
  obtain ⟨u84, l84, e84, g85⟩ := Pal.len_cons g84
  obtain ⟨u85, l85, e85, g86⟩ := Pal.len_cons g85
  obtain ⟨u86, l86, e86, g87⟩ := Pal.len_cons g86
  obtain ⟨u87, l87, e87, g88⟩ := Pal.len_cons g87
  obtain ⟨u88, l88, e88, g89⟩ := Pal.len_cons g88
  obtain ⟨u89, l89, e89, g90⟩ := Pal.len_cons g89
  obtain ⟨u90, l90, e90, g91⟩ := Pal.len_cons g90
  obtain ⟨u91, l91, e91, g92⟩ := Pal.len_cons g91
  obtain ⟨u92, l92, e92, g93⟩ := Pal.len_cons g92
  obtain ⟨u93, l93, e93, g94⟩ := Pal.len_cons g93
  obtain ⟨u94, l94, e94, g95⟩ := Pal.len_cons g94
  obtain ⟨u95, l95, e95, g96⟩ := Pal.len_cons g95
  obtain ⟨u96, l96, e96, g97⟩ := Pal.len_cons g96
  obtain ⟨u97, l97, e97, g98⟩ := Pal.len_cons g97
  obtain ⟨u98, l98, e98, g99⟩ := Pal.len_cons g98
  obtain ⟨u99, l99, e99, g100⟩ := Pal.len_cons g99
  obtain ⟨u100, l100, e100, g101⟩ := Pal.len_cons g100
  obtain ⟨u101, l101, e101, g102⟩ := Pal.len_cons g101
  obtain rfl := List.eq_nil_of_length_eq_zero g102
  have e : (⟨l⟩ : Array Value) = #[u0, u1, u2, u3, u4, u5, u6, u7, u8, u9, u10, u11, u12, u13, u14, u15, u16, u17, u18, u19, u20, u21, u22, u23, u24, u25, u26, u27, u28, u29, u30, u31, u32, u33, u34, u35, u36, u37, u38, u39, u40, u41, u42, u43, u44, u45, u46, u47, u48, u49, u50, u51, u52, u53, u54, u55, u56, u57, u58, u59, u60, u61, u62, u63, u64, u65, u66, u67, u68, u69, u70, u71, u72, u73, u74, u75, u76, u77, u78, u79, u80, u81, u82, u83, u84, u85, u86, u87, u88, u89, u90, u91, u92, u93, u94, u95, u96, u97, u98, u99, u100, u101] := by rw [e0, e1, e2, e3, e4, e5, e6, e7, e8, e9, e10, e11, e12, e13, e14, e15, e16, e17, e18, e19, e20, e21, e22, e23, e24, e25, e26, e27, e28, e29, e30, e31, e32, e33, e34, e35, e36, e37, e38, e39, e40, e41, e42, e43, e44, e45, e46, e47, e48, e49, e50, e51, e52, e53, e54, e55, e56, e57, e58, e59, e60, e61, e62, e63, e64, e65, e66, e67, e68, e69, e70, e71, e72, e73, e74, e75, e76, e77, e78, e79, e80, e81, e82, e83, e84, e85, e86, e87, e88, e89, e90, e91, e92, e93, e94, e95, e96, e97, e98, e99, e100, e101]
  rw [e]
  exact h u0 u1 u2 u3 u4 u5 u6 u7 u8 u9 u10 u11 u12 u13 u14 u15 u16 u17 u18 u19 u20 u21 u22 u23 u24 u25 u26 u27 u28 u29 u30 u31 u32 u33 u34 u35 u36 u37 u38 u39 u40 u41 u42 u43 u44 u45 u46 u47 u48 u49 u50 u51 u52 u53 u54 u55 u56 u57 u58 u59 u60 u61 u62 u63 u64 u65 u66 u67 u68 u69 u70 u71 u72 u73 u74 u75 u76 u77 u78 u79 u80 u81 u82 u83 u84 u85 u86 u87 u88 u89 u90 u91 u92 u93 u94 u95 u96 u97 u98 u99 u100 u101

theorem NewR_any (seed : Nat) (w : World) : Calls Try.prog 27 #[.int .u32 (seed : Int)] w fun e w' => e = .returned (.pointer (some ⟨w.heap.size, 0, none⟩)) ∧ RmAt w' w.heap.size ⟨w.heap.size, .slice none 0 0, seed, 4, 0, 0, []⟩ ∧ Chg (fun _ => False) w w' := by
  go_enter Try.func27, Try.ntmps27
  go_wp2_with fail
  go_ret
  exact ⟨rfl, ⟨Blk.new w _ _, Nrs.nil _ _, Nat.le_refl _⟩, (Chg.refl _ w).alloc _⟩

theorem tmod_nat (a b : Nat) : (a : Int).tmod (b : Int) = ((a % b : Nat) : Int) := by
  rw [Int.tmod_eq_emod_of_nonneg (by omega)]; rfl

def Act0 (blk : Nat) (n : Int) (k : Nat) (a : Act) : Prop := a.tmps.size = 102 ∧ a.tmps[0]? = some (ptr blk) ∧ a.tmps[1]? = some (.int .i64 n) ∧ a.tmps[5]? = some (.int .i64 (k : Int)) ∧ a.defers = []
def InvS0 (w0 : World) (base : Nat) (r : Rm) (n : Int) (m : Nat) (a : Act) (w : World) : Prop :=
  ∃ k, m = r.k n - k ∧ k ≤ r.k n ∧ Act0 r.blk n k a ∧ RmAt w base (r.slots k) ∧ Chg r.foot w0 w
def ActS2 (blk : Nat) (n : Int) (k i : Nat) (a : Act) : Prop := a.tmps.size = 102 ∧ a.tmps[0]? = some (ptr blk) ∧ a.tmps[1]? = some (.int .i64 n) ∧ a.tmps[5]? = some (.int .i64 (k : Int)) ∧ a.tmps[6]? = some (.int .i64 (i : Int)) ∧ a.defers = []
def InvS2 (w0 : World) (base : Nat) (r e : Rm) (n : Int) (k : Nat) (m : Nat) (a : Act) (w : World) : Prop :=
  ∃ i, m = e.l.length - i ∧ i ≤ e.l.length ∧ ActS2 r.blk n k i a ∧ RmAt w base { e with l := part (mv e.a e.at_) i e.l } ∧ Chg r.foot w0 w
def ActS4 (blk : Nat) (n : Int) (k i : Nat) (a : Act) : Prop := a.tmps.size = 102 ∧ a.tmps[0]? = some (ptr blk) ∧ a.tmps[1]? = some (.int .i64 n) ∧ a.tmps[5]? = some (.int .i64 (k : Int)) ∧ a.tmps[7]? = some (.int .i64 (i : Int)) ∧ a.defers = []
def InvS4 (w0 : World) (base : Nat) (r e : Rm) (n : Int) (k : Nat) (m : Nat) (a : Act) (w : World) : Prop :=
  ∃ i, m = e.l.length - i ∧ i ≤ e.l.length ∧ ActS4 r.blk n k i a ∧ RmAt w base { e with l := part unN i e.l } ∧ Chg r.foot w0 w

set_option maxRecDepth 100000 in
set_option maxHeartbeats 4000000 in
theorem StepR_any (r : Rm) (n : Int) (w : World) (base : Nat) (h : RmAt w base r) (hok : r.Ok) :
    Calls Try.prog 61 #[ptr r.blk, .int .i64 n] w fun e w' => e = .returned (.int .i64 (r.k n : Int)) ∧ RmAt w' base (r.slots (r.k n)) ∧ Chg r.foot w w' := by
  unfold ptr
  go_enter Try.func61, Try.ntmps61
  go_wp2_with fail
  refine wp_loop_ghost (InvS0 w base r n) (r.k n) ?_ ?_
  · exact ⟨0, rfl, Nat.zero_le _, ⟨rfl, rfl, rfl, rfl, rfl⟩, h, Chg.refl _ _⟩
  · clear h
    rintro m ⟨tmps, ds⟩ W ⟨k, rfl, hk, ⟨hsz, t0, t1, t5, rfl⟩, hR, hC⟩
    replace hsz : tmps.size = 102 := hsz
    dsimp only at t0 t1 t5
    revert t0 t1 t5
    revert hsz
    revert tmps
    refine all102 ?_
    intro u0 u1 u2 u3 u4 u5 u6 u7 u8 u9 u10 u11 u12 u13 u14 u15 u16 u17 u18 u19 u20 u21 u22 u23 u24 u25 u26 u27 u28 u29 u30 u31 u32 u33 u34 u35 u36 u37 u38 u39 u40 u41 u42 u43 u44 u45 u46 u47 u48 u49 u50 u51 u52 u53 u54 u55 u56 u57 u58 u59 u60 u61 u62 u63 u64 u65 u66 u67 u68 u69 u70 u71 u72 u73 u74 u75 u76 u77 u78 u79 u80 u81 u82 u83 u84 u85 u86 u87 u88 u89 u90 u91 u92 u93 u94 u95 u96 u97 u98 u99 u100 u101 t0 t1 t5
    simp only [ptr, List.getElem?_toArray, List.getElem?_cons_zero, List.getElem?_cons_succ, Option.some.injEq] at t0 t1 t5
    subst t0 t1 t5
    obtain ⟨hok', hlt, heq⟩ := r.k_facts hok n hk
    obtain ⟨f1, f2, f3, f4⟩ := r.slots_foot k
    have hnx : (r.slots k).slot = r.slots (k + 1) := rfl
    have hkk : r.k n ≤ 65536 := by unfold Rm.k; have := hok.a; split <;> omega
    have hkb : (k : Int) ≤ 65536 := by omega
    obtain ⟨e, he⟩ : ∃ e, r.slots k = e := ⟨_, rfl⟩
    rw [he] at hR hok' hlt heq f1 f2 f4 hnx
    clear f4
    have hft : ∀ g, e.foot g → r.foot g := fun g hg => by rcases hg with hg | hg; exact .inl (hg.trans f1); exact .inr (f2 ▸ hg)
    obtain ⟨p, cap, hlv, hl1, hl2, _⟩ := hR.own.is
    obtain ⟨c0, c1, c2, c3, c4, fr, hlt0⟩ := rm_cells hR
    try dsimp only at c0 c1 c2 c3 c4 fr hlt0
    rw [f1] at c0 c1 c2 c3 c4 fr hlt0
    rw [hlv] at c1
    have hn6 := hok'.n
    have ha6 := hok'.a
    have ha0 := hok'.a0
    have hat6 := hok'.at_
    have hb6 := hok'.b
    by_cases hkK : k < r.k n
    · obtain ⟨hkn, hb⟩ := hlt hkK
      have hb' : (e.b : Int) > 0 := by omega
      replace hlv := Lib.hid hlv
      replace hnx := Lib.hid hnx
      replace hkK := Lib.hid hkK
      clear hlt heq hb
      go_wp2_with fail
      refine wp_loop_ghost (InvS2 w base r e n k) e.l.length ?_ ?_
      · exact ⟨0, rfl, Nat.zero_le _, ⟨rfl, rfl, rfl, rfl, rfl, rfl⟩, hR, hC⟩
      · clear hR hC c0 c1 c2 c3 c4 fr hlt0
        rintro m ⟨tmps, ds⟩ W1 ⟨i, rfl, hi, ⟨hsz, t0, t1, t5, t6, rfl⟩, hR, hC⟩
        replace hsz : tmps.size = 102 := hsz
        dsimp only at t0 t1 t5 t6
        revert t0 t1 t5 t6
        revert hsz
        revert tmps
        refine all102 ?_
        intro u0 u1 u2 u3 u4 u5 u6 u7 u8 u9 u10 u11 u12 u13 u14 u15 u16 u17 u18 u19 u20 u21 u22 u23 u24 u25 u26 u27 u28 u29 u30 u31 u32 u33 u34 u35 u36 u37 u38 u39 u40 u41 u42 u43 u44 u45 u46 u47 u48 u49 u50 u51 u52 u53 u54 u55 u56 u57 u58 u59 u60 u61 u62 u63 u64 u65 u66 u67 u68 u69 u70 u71 u72 u73 u74 u75 u76 u77 u78 u79 u80 u81 u82 u83 u84 u85 u86 u87 u88 u89 u90 u91 u92 u93 u94 u95 u96 u97 u98 u99 u100 u101 t0 t1 t5 t6
        simp only [ptr, List.getElem?_toArray, List.getElem?_cons_zero, List.getElem?_cons_succ, Option.some.injEq] at t0 t1 t5 t6
        subst t0 t1 t5 t6
        have hib : (i : Int) ≤ 1000000 := by omega
        have hown := hR.own
        dsimp only at hown
        rw [hlv.out] at hown
        obtain ⟨c0, c1, c2, c3, c4, fr, hlt0⟩ := rm_cells hR
        try dsimp only at c0 c1 c2 c3 c4 fr hlt0
        rw [f1] at c0 c1 c2 c3 c4 fr hlt0
        rw [hlv.out] at c1
        by_cases hil : i < e.l.length
        · have hil' : (i : Int) < (e.l.length : Int) := by omega
          obtain ⟨x, hx⟩ : ∃ x, e.l[i]? = some x := ⟨_, List.getElem?_eq_getElem hil⟩
          have hpx := (part_get? (mv e.a e.at_) e.l).trans hx
          obtain ⟨g, rfl, _, nk, nv, ns, nn, nf, nl⟩ := hown.at_ hpx
          have hs := hok'.sum x (List.mem_of_getElem? hx)
          have hm := tmod_nat x.sum e.a
          have ha0' : ¬ (e.a : Int) = 0 := by omega
          have hC2 := fun W2 (h : Chg r.foot W1 W2) => hC.trans h
          by_cases hmt : x.sum % e.a = e.at_
          · have hN := fun W2 (h0 : Chg (fun _ => False) W1 W2) => (hR.chg0 h0).node (r := { e with l := part (mv e.a e.at_) i e.l }) hlv.out hpx 3 (by omega) (.bool true) { x with next := true } rfl
            have hps := part_set (mv e.a e.at_) hx
            have hmx : mv e.a e.at_ x = { x with next := true } := if_pos hmt
            rw [hmx] at hps
            dsimp only at hN
            rw [hps] at hN
            have hm2 : (((x.sum % e.a : Nat) : Int) == (e.at_ : Int)) = true := by rw [hmt]; simp
            clear hmt hps hmx
            go_wp2_with fail
            go_quiet (fail)
            go_wp2_with fail
            obtain ⟨h1, h2⟩ := hN _ ((Chg.refl _ _).drewN _)
            exact ⟨e.l.length - (i + 1), by omega, i + 1, rfl, by omega, ⟨rfl, rfl, rfl, rfl, rfl, rfl⟩, h1, (hC.trans (((Chg.refl _ _).drewN _))).trans (h2.mono fun g _ hg => by rcases hg with hg | hg; exact .inl (hg.trans f1); exact .inr (f2 ▸ hg))⟩
          · have hps := part_same (mv e.a e.at_) hx (if_neg hmt)
            have hN := fun W2 (h0 : Chg (fun _ => False) W1 W2) => hR.chg0 h0
            rw [hps] at hN
            have hm2 : (((x.sum % e.a : Nat) : Int) == (e.at_ : Int)) = false := by rw [beq_eq_false_iff_ne]; omega
            clear hmt hps
            go_wp2_with fail
            go_quiet (fail)
            go_wp2_with fail
            exact ⟨e.l.length - (i + 1), by omega, i + 1, rfl, by omega, ⟨rfl, rfl, rfl, rfl, rfl, rfl⟩, hN _ ((Chg.refl _ _).drewN _), hC.trans ((Chg.refl _ _).drewN _)⟩
        · have hil' : ((i : Int) < (e.l.length : Int)) = False := by simp only [eq_iff_iff, iff_false]; omega
          have hil2 : (i < e.l.length) = False := by simp only [eq_iff_iff, iff_false]; omega
          have hie : i = e.l.length := by omega
          rw [hie, part_all] at hR
          obtain ⟨l1, hl1'⟩ : ∃ l1, l1 = e.l.map (mv e.a e.at_) := ⟨_, rfl⟩
          rw [← hl1'] at hR
          have hlen1 : l1.length = e.l.length := by rw [hl1', List.length_map]
          replace hl1' := Lib.hid hl1'
          replace hlen1 := Lib.hid hlen1
          clear hil hie hown
          go_wp2_with fail
          obtain ⟨hR2, hC2⟩ := hR.head 4 (.int .i64 ((e.at_ : Int) + 1)) { e with at_ := e.at_ + 1, l := l1 } rfl rfl rfl rfl
          have hCC : Chg r.foot w (W1.setCell ⟨r.blk, 4, none⟩ (.int .i64 ((e.at_ : Int) + 1))) := hC.trans (by rw [← f1]; exact hC2.mono fun g _ hg => hft g hg)
          dsimp only at hR2
          rw [f1] at hR2
          clear hR hC c0 c1 c2 c3 c4 fr hlt0 hC2
          generalize W1.setCell ⟨r.blk, 4, none⟩ (.int .i64 ((e.at_ : Int) + 1)) = W2 at *
          have hR := hR2
          have hC := hCC
          clear hR2 hCC
          obtain ⟨c0, c1, c2, c3, c4, fr, hlt0⟩ := rm_cells hR
          try dsimp only at c0 c1 c2 c3 c4 fr hlt0
          rw [hlv.out] at c1
          by_cases hq : e.at_ + 1 = e.a
          · have hq' : (((e.at_ + 1 : Nat) : Int) == (e.a : Int)) = true := by rw [hq]; simp
            have hslot : e.slot = { e with a := e.b, b := 0, at_ := 0, l := l1.map unN } := by unfold Rm.slot; rw [if_pos hq, hl1'.out]
            rw [hnx.out] at hslot
            replace hslot := Lib.hid hslot
            clear hq
            go_quiet (fail)
            go_wp2_with fail
            obtain ⟨hR3, hC3⟩ := (hR.chg0 ((Chg.refl _ W2).drewN _)).swap
            have hC4 : Chg r.foot w _ := (hC.trans ((Chg.refl _ W2).drewN _)).trans (hC3.mono fun g _ hg => by rcases hg with hg | hg; exact .inl hg; exact .inr (f2 ▸ hg))
            refine wp_loop_ghost (InvS4 w base r ⟨r.blk, e.lv, e.seed, e.b, 0, 0, l1⟩ n (k + 1)) l1.length ?_ ?_
            · exact ⟨0, rfl, Nat.zero_le _, ⟨rfl, rfl, rfl, rfl, rfl, rfl⟩, hR3, hC4⟩
            · clear hR hC c0 c1 c2 c3 c4 fr hlt0 hR3 hC3 hC4
              rintro m ⟨tmps, ds⟩ W1 ⟨i, rfl, hi, ⟨hsz, t0, t1, t5, t7, rfl⟩, hR, hC⟩
              replace hsz : tmps.size = 102 := hsz
              dsimp only at t0 t1 t5 t7
              revert t0 t1 t5 t7
              revert hsz
              revert tmps
              refine all102 ?_
              intro u0 u1 u2 u3 u4 u5 u6 u7 u8 u9 u10 u11 u12 u13 u14 u15 u16 u17 u18 u19 u20 u21 u22 u23 u24 u25 u26 u27 u28 u29 u30 u31 u32 u33 u34 u35 u36 u37 u38 u39 u40 u41 u42 u43 u44 u45 u46 u47 u48 u49 u50 u51 u52 u53 u54 u55 u56 u57 u58 u59 u60 u61 u62 u63 u64 u65 u66 u67 u68 u69 u70 u71 u72 u73 u74 u75 u76 u77 u78 u79 u80 u81 u82 u83 u84 u85 u86 u87 u88 u89 u90 u91 u92 u93 u94 u95 u96 u97 u98 u99 u100 u101 t0 t1 t5 t7
              simp only [ptr, List.getElem?_toArray, List.getElem?_cons_zero, List.getElem?_cons_succ, Option.some.injEq] at t0 t1 t5 t7
              subst t0 t1 t5 t7
              dsimp only at hi hR
              have hib : (i : Int) ≤ 1000000 := by have := hlen1.out; omega
              have hown := hR.own
              dsimp only at hown
              rw [hlv.out] at hown
              rw [← hlen1.out] at hown
              obtain ⟨c0, c1, c2, c3, c4, fr, hlt0⟩ := rm_cells hR
              try dsimp only at c0 c1 c2 c3 c4 fr hlt0
              rw [hlv.out] at c1
              rw [← hlen1.out] at c1
              by_cases hil : i < l1.length
              · have hil' : (i : Int) < (l1.length : Int) := by omega
                obtain ⟨x, hx⟩ : ∃ x, l1[i]? = some x := ⟨_, List.getElem?_eq_getElem hil⟩
                have hpx := (part_get? unN l1).trans hx
                obtain ⟨g, rfl, _, nk, nv, ns, nn, nf, nl⟩ := hown.at_ hpx
                obtain ⟨h1, h2⟩ := hR.node (c := cap) (n := l1.length) (by rw [hlen1.out]; exact hlv.out) hpx 3 (by omega) (.bool false) (unN x) rfl
                have hps := part_set unN hx
                dsimp only at h1
                rw [hps] at h1
                clear hps
                go_wp2_with fail
                exact ⟨l1.length - (i + 1), by omega, i + 1, rfl, hil, ⟨rfl, rfl, rfl, rfl, rfl, rfl⟩, h1, hC.trans (h2.mono fun g _ hg => by rcases hg with hg | hg; exact .inl hg; exact .inr (f2 ▸ hg))⟩
              · have hil' : ((i : Int) < (l1.length : Int)) = False := by simp only [eq_iff_iff, iff_false]; omega
                have hil2 : (i < l1.length) = False := by simp only [eq_iff_iff, iff_false]; omega
                have hie : i = l1.length := by omega
                rw [hie, part_all] at hR
                clear hil
                go_wp2_with fail
                exact ⟨r.k n - (k + 1), by have := hkK.out; omega, k + 1, rfl, hkK.out, ⟨rfl, rfl, rfl, rfl, rfl⟩, by rw [hslot.out, f1]; exact hR, hC⟩
          · have hslot : e.slot = { e with at_ := e.at_ + 1, l := l1 } := by unfold Rm.slot; rw [if_neg hq, hl1'.out]
            rw [hnx.out] at hslot
            have hq' : (((e.at_ + 1 : Nat) : Int) == (e.a : Int)) = false := by rw [beq_eq_false_iff_ne]; omega
            replace hslot := Lib.hid hslot
            clear hq
            go_quiet (fail)
            go_wp2_with fail
            exact ⟨r.k n - (k + 1), by have := hkK.out; omega, k + 1, rfl, hkK.out, ⟨rfl, rfl, rfl, rfl, rfl⟩, by rw [hslot.out, f1]; exact hR.chg0 ((Chg.refl _ _).drewN _), hC.trans ((Chg.refl _ _).drewN _)⟩
    · have hke : k = r.k n := by omega
      have hend := heq hke
      rw [hke] at he
      have hR' := hR
      rw [← he] at hR'
      clear hlt heq hkK he
      replace hke := Lib.hid hke
      by_cases hkn : (k : Int) < n
      · have hb0 : e.b = 0 := by omega
        have hb1 : ((0 : Int) < (e.b : Int)) = False := by simp only [eq_iff_iff, iff_false]; omega
        clear hend
        go_wp2_with fail
        go_ret
        exact ⟨by show Ending.returned (.int .i64 (k : Int)) = _; rw [hke.out], hR', hC⟩
      · have hkn' : ((k : Int) < n) = False := by simp only [eq_iff_iff, iff_false]; omega
        clear hkn hend
        go_wp2_with fail
        go_ret
        exact ⟨by show Ending.returned (.int .i64 (k : Int)) = _; rw [hke.out], hR', hC⟩

end Go.Proofs.Ythbjjjcppijcbaa

/-
  DERIVED: THE SHELF's CONTRACTS AT THIS DUMP, IN PLAIN WORDS (tools/lay-plain.mjs out of 'TryShelf.lean', which tools/lay-shelf.mjs wrote): THE SAME DECLARATIONS UNDER THE SAME NAMES: 'import', 'namespace', 'open', 'def', 'theorem' AND NOTHING ELSE: no command of the shelf's: FOR A HAND-IN. Each laying: the table of numbers ('.._ren') and one theorem, a field a fact of the dump's own or the kernel's comparison; each contract: ONE APPLICATION.
-/
namespace Go.Proofs
open Go.Shelf
def Try.lays190_ren : Go.Shelf.Ren := ⟨fun | 190 => 62 | 125 => 80 | 258 => 79 | 128 => 99 | 129 => 100 | 302 => 90 | 303 => 91 | 304 => 92 | 305 => 93 | 306 => 94 | 307 => 95 | 308 => 96 | 309 => 97 | 310 => 98 | 333 => 103 | 329 => 104 | 330 => 105 | 334 => 106 | 335 => 107 | 336 => 108 | 344 => 109 | n => n, fun | 31 => 38 | 9 => 9 | 3 => 3 | 46 => 30 | 0 => 0 | 51 => 22 | 53 => 127 | 4 => 4 | 183 => 138 | 182 => 137 | 131 => 32 | 5 => 5 | 218 => 146 | 222 => 150 | 228 => 152 | 229 => 153 | n => n, fun | n => n⟩
theorem Try.lays190 : Go.Proofs.Lays.n190 Try.prog Try.lays190_ren := {
  mixed := by kernel_rfl
  f125 := Try.func80.trans (congrArg some (by kernel_rfl))
  f128 := Try.func99.trans (congrArg some (by kernel_rfl))
  f129 := Try.func100.trans (congrArg some (by kernel_rfl))
  f190 := Try.func62.trans (congrArg some (by kernel_rfl))
  f258 := Try.func79.trans (congrArg some (by kernel_rfl))
  f302 := Try.func90.trans (congrArg some (by kernel_rfl))
  f303 := Try.func91.trans (congrArg some (by kernel_rfl))
  f304 := Try.func92.trans (congrArg some (by kernel_rfl))
  f305 := Try.func93.trans (congrArg some (by kernel_rfl))
  f306 := Try.func94.trans (congrArg some (by kernel_rfl))
  f307 := Try.func95.trans (congrArg some (by kernel_rfl))
  f308 := Try.func96.trans (congrArg some (by kernel_rfl))
  f309 := Try.func97.trans (congrArg some (by kernel_rfl))
  f310 := Try.func98.trans (congrArg some (by kernel_rfl))
  f329 := Try.func104.trans (congrArg some (by kernel_rfl))
  f330 := Try.func105.trans (congrArg some (by kernel_rfl))
  f333 := Try.func103.trans (congrArg some (by kernel_rfl))
  f334 := Try.func106.trans (congrArg some (by kernel_rfl))
  f335 := Try.func107.trans (congrArg some (by kernel_rfl))
  f336 := Try.func108.trans (congrArg some (by kernel_rfl))
  f344 := Try.func109.trans (congrArg some (by kernel_rfl))
  t0 := Try.underlying0
  a0 := Try.isAgg0
  z0 := Try.sizeOf0
  v0 := Try.zeroValue0
  t3 := Try.underlying3
  a3 := Try.isAgg3
  z3 := Try.sizeOf3
  v3 := Try.zeroValue3
  t4 := Try.underlying4
  a4 := Try.isAgg4
  z4 := Try.sizeOf4
  v4 := Try.zeroValue4
  t5 := Try.underlying5
  a5 := Try.isAgg5
  z5 := Try.sizeOf5
  v5 := Try.zeroValue5
  t9 := Try.underlying9
  a9 := Try.isAgg9
  z9 := Try.sizeOf9
  v9 := Try.zeroValue9
  t31 := Try.underlying38
  a31 := Try.isAgg38
  z31 := Try.sizeOf38
  v31 := Try.zeroValue38
  t46 := Try.underlying30
  a46 := Try.isAgg30
  z46 := Try.sizeOf30
  v46 := Try.zeroValue30
  t51 := Try.underlying22
  a51 := Try.isAgg22
  z51 := Try.sizeOf22
  v51 := Try.zeroValue22
  t53 := Try.underlying127
  a53 := Try.isAgg127
  z53 := Try.sizeOf127
  v53 := Try.zeroValue127
  t131 := Try.underlying32
  a131 := Try.isAgg32
  z131 := Try.sizeOf32
  v131 := Try.zeroValue32
  t182 := Try.underlying137
  a182 := Try.isAgg137
  z182 := Try.sizeOf137
  v182 := Try.zeroValue137
  t183 := Try.underlying138
  a183 := Try.isAgg138
  z183 := Try.sizeOf138
  v183 := Try.zeroValue138
  t218 := Try.underlying146
  a218 := Try.isAgg146
  z218 := Try.sizeOf146
  v218 := Try.zeroValue146
  t222 := Try.underlying150
  a222 := Try.isAgg150
  z222 := Try.sizeOf150
  v222 := Try.zeroValue150
  t228 := Try.underlying152
  a228 := Try.isAgg152
  z228 := Try.sizeOf152
  v228 := Try.zeroValue152
  t229 := Try.underlying153
  a229 := Try.isAgg153
  z229 := Try.sizeOf153
  v229 := Try.zeroValue153 }
open Go.Sort Go.RowKit in
theorem Try.slices_Sort_string (blk off cap : Nat) (ss : List (List UInt8)) (w : World) (hH : Holds encStr w blk off ss.toArray) (hblk : blk < w.heap.size) (hsz : ss.length < 4611686018427387904) :
    Calls Try.prog 62 #[.slice (some ⟨blk, off, none⟩) ss.length cap] w fun e w' =>
      e = .returned (.tuple #[]) ∧ ∃ n os, w' = grow (putRow encStr (Sort.ahead w n) blk off (ss.mergeSort fun x y => decide (x ≤ y)).toArray) os := Any.slices_Sort_string Try.lays190 blk off cap ss w hH hblk hsz
open Go.RowKit Go.Sort in
/-- .. and plain. (LAID: no walk: one application.) -/
theorem Try.slices_Sort_string_none (p : Option Addr) (cap : Nat) (w : World) :
    Calls Try.prog 62 #[.slice p 0 cap] w fun e w' => e = .returned (.tuple #[]) ∧ w' = w := Any.slices_Sort_string_none Try.lays190 p cap w
end Go.Proofs

/- Slices of texts; slices.Sort of texts. -/
namespace Go.Proofs.Ythbjjjcppijcbaa
open Go.RowKit Pal Go.Sort

theorem str_info : (Try.prog.info? 9).map (fun i => (i.zero, i.size, i.bytes)) = some (some (.string ⟨#[]⟩), 1, 16) := by kernel_rfl

/-- The value is a slice of the call's own that holds the texts l. -/
def Strs (w : World) (base : Nat) (v : Value) (l : List ByteArray) : Prop := w.ownsRow base 9 1 v l.length (l.map Value.string)

theorem Strs.nil (w : World) (base : Nat) : Strs w base (.slice none 0 0) [] := World.ownsRow_nil w base _ 1
theorem Strs.stay {w w' : World} {base : Nat} {v : Value} {l : List ByteArray} {F : Nat → Prop} (h : Strs w base v l) (hs : Stay F w w') (hn : ∀ g, v.ownBlock = some g → ¬ F g) : Strs w' base v l := own_stay h hs hn
theorem Strs.chg {w w' : World} {base : Nat} {v : Value} {l : List ByteArray} {F : Nat → Prop} (h : Strs w base v l) (hs : Chg F w w') (hn : ∀ g, v.ownBlock = some g → ¬ F g) : Strs w' base v l := own_stay h (.of_chg hs) hn
theorem Strs.lower {w : World} {base b : Nat} {v : Value} {l : List ByteArray} (h : Strs w base v l) (hb : b ≤ base) : Strs w b v l := by
  refine ⟨h.1, ?_⟩
  rcases h.2 with h0 | ⟨g, cap, cur, rfl, h1, rest⟩
  · exact .inl h0
  · exact .inr ⟨g, cap, cur, rfl, Nat.le_trans hb h1, rest⟩
theorem Strs.is {w : World} {base : Nat} {v : Value} {l : List ByteArray} (h : Strs w base v l) : ∃ p cap, v = .slice p l.length cap ∧ l.length ≤ cap ∧ cap ≤ maxLen ∧ (∀ g, p = some g → base ≤ g.block ∧ g.block < w.heap.size) := by
  rcases h.2 with ⟨rfl, h0⟩ | ⟨g, cap, cur, rfl, h1, h2, h3, h4, _⟩
  · exact ⟨none, 0, by rw [h0], by omega, by simp [maxLen], fun _ h => (by cases h)⟩
  · exact ⟨_, cap, rfl, h3, h4, fun g hg => by injection hg with hg; subst hg; exact ⟨h1, (Array.getElem?_eq_some_iff.1 h2).1⟩⟩
theorem Strs.reads {w : World} {base : Nat} {p : Option Addr} {n c : Nat} {l : List ByteArray} (h : Strs w base (.slice p n c) l) : Reads w w.heap.size 1 p l.length (l.map Value.string) := by
  have hn : n = l.length := by
    obtain ⟨_, _, e, _⟩ := h.is
    injection e
  subst hn
  exact Reads.of_own h

theorem Strs.own {w : World} {base : Nat} {v : Value} {l : List ByteArray} (h : Strs w base v l) : w.ownsRow base 9 1 v l.length (l.map Value.string) := h
theorem Strs.mk {w : World} {base n : Nat} {v : Value} {l : List ByteArray} {xs : List Value} (h : w.ownsRow base 9 1 v n xs) (hn : n = l.length) (hx : xs = l.map Value.string) : Strs w base v l := by
  subst hn; subst hx; exact h
theorem strs_one (l : List ByteArray) : ∀ u ∈ l.map Value.string, u.oneCell' = true := by
  intro u hu
  obtain ⟨x, _, rfl⟩ := List.mem_map.1 hu
  rfl

theorem Strs.at_ {w : World} {base k n c : Nat} {p : Option Addr} {l : List ByteArray} (h : Strs w base (.slice p n c) l) (hk : k < l.length) : ∃ g, p = some ⟨g, 0, none⟩ ∧ base ≤ g ∧ g < w.heap.size ∧ w.cell? ⟨g, k, none⟩ = some (.string l[k]) := by
  have h' := h
  rcases h'.2 with ⟨_, h0⟩ | ⟨g, cap, cur, he, hb, hg, _⟩
  · omega
  · injection he with he
    subst he
    have hc := World.ownsRow.cells h (g := g) rfl k (.string l[k]) (by simp [hk])
    refine ⟨g, rfl, hb, (Array.getElem?_eq_some_iff.1 hg).1, ?_⟩
    unfold Addr.add at hc
    split at hc
    · rename_i e; subst e; exact hc
    · simpa using hc
theorem toList_ne {a b : ByteArray} (h : ¬ a = b) : (a.toList == b.toList) = false := by
  rw [beq_eq_false_iff_ne]
  intro h'
  apply h
  rw [ByteArray.toList_eq, ByteArray.toList_eq] at h'
  cases a; cases b; simp_all
theorem toList_eq (a : ByteArray) : (a.toList == a.toList) = true := by simp
/-- Sorted, by their bytes. -/
def sortB (l : List ByteArray) : List ByteArray := ((l.map (·.data.toList)).mergeSort fun x y => decide (x ≤ y)).map fun x => ⟨x.toArray⟩
theorem sortB_perm (l : List ByteArray) : (sortB l).Perm l := by
  have h := (List.mergeSort_perm (l.map (·.data.toList)) fun x y => decide (x ≤ y)).map fun x => (⟨x.toArray⟩ : ByteArray)
  rw [List.map_map] at h
  have e : l.map ((fun x : List UInt8 => (⟨x.toArray⟩ : ByteArray)) ∘ (·.data.toList)) = l := by
    conv => rhs; rw [← List.map_id l]
    exact List.map_congr_left fun x _ => by simp
  rw [e] at h
  exact h
theorem sortB_length (l : List ByteArray) : (sortB l).length = l.length := (sortB_perm l).length_eq

theorem sort_any (v : Value) (l : List ByteArray) (base : Nat) (w : World) (h : Strs w base v l) (hl : l.length < 4611686018427387904) :
    Calls Try.prog 62 #[v] w fun e w' => e = .returned (.tuple #[]) ∧ Strs w' base v (sortB l) ∧ w.grownBy w' v.ownBlock := by
  rcases h.2 with ⟨rfl, h0⟩ | ⟨g, cap, cur, rfl, h1, h2, h3, h4, h5, h6⟩
  · have := List.eq_nil_of_length_eq_zero h0
    subst this
    refine (Try.slices_Sort_string_none none 0 w).mono ?_
    rintro e w' ⟨rfl, rfl⟩
    exact ⟨rfl, by simpa [sortB] using Strs.nil w' base, World.grownBy.refl _ _⟩
  · have ht : cur.toList.take (l.map (·.data.toList)).length = (l.map (·.data.toList)).map encStr := by
      rw [List.length_map, Lib.map_encStr, ← h6, Nat.mul_one]
    have hc := Try.slices_Sort_string g 0 cap (l.map (·.data.toList)) w (holds_of_block h2 ht) (Array.getElem?_eq_some_iff.1 h2).1 (by simpa using hl)
    rw [List.length_map] at hc
    refine hc.mono ?_
    rintro e w' ⟨rfl, n, os, rfl⟩
    refine ⟨rfl, ?_, grownBy_sorted _⟩
    have := ownsRow_sorted (w := w) (base := base) (g := g) (cap := cap) (n := n) (e := 9) (os := os) (cur := cur) (ss := l.map (·.data.toList)) (ts := (l.map (·.data.toList)).mergeSort fun x y => decide (x ≤ y)) (by simp) h1 h2 (by simpa using h3) h4 h5
    unfold Strs
    rw [sortB_length]
    have e : (sortB l).map Value.string = ((l.map (·.data.toList)).mergeSort fun x y => decide (x ≤ y)).map encStr := by
      unfold sortB
      rw [List.map_map]
      rfl
    rw [e]
    rw [List.length_map] at this
    exact this

end Go.Proofs.Ythbjjjcppijcbaa

/- A region that draws its order, within a round of a range over a function: as in a plain walk. -/
namespace Pal
open Go Go.RowKit

def noDefer (ops : Array Oper) : Bool := ops.toList.all fun o => match o.op with | .defer _ => false | _ => true
theorem noDefer_spec {ops : Array Oper} (h : noDefer ops = true) {i : Nat} {o : Oper} (ho : ops[i]? = some o) : ∀ c, o.op ≠ .defer c := by
  intro c hc
  have hm : o ∈ ops.toList := Array.mem_toList_iff.2 (Array.mem_of_getElem? ho)
  have := List.all_eq_true.1 h o hm
  rw [hc] at this
  cases this

section
variable {P : Program} {l n : Nat} {Q : Exit → Act → World → Prop}
theorem rowsIn_of_rows {row : String} {args : Array Value} {w : World} {R : Value → World → Prop} (h : Rows P row args w R) : RowsIn (Fence.wide.inRound l) n P row args w R := fun c cs _ =>
  let ⟨v, w', r, s⟩ := h c cs
  ⟨v, w', r, stepsIn_wide.2 s⟩

theorem wpIn_of_wp {o : Oper} {a : Act} {w : World} {K : Act → World → Prop} (hd : ∀ c, o.op ≠ .defer c) (h : o.wp P a w K Q) : o.wpIn (Fence.wide.inRound l) n P a w K Q := by
  refine ⟨fun _ _ => trivial, ?_⟩
  rw [Oper.semAt_plain _ _ _ hd]
  unfold Oper.wp at h
  generalize (execOp a.eval o).run P w = r at h ⊢
  cases r with
  | ok x w' =>
    cases x with
    | value v => exact h
    | skip => exact h
    | defer d => exact h
    | enter f args => exact ⟨fun h => (by cases h), CallsIn.inRound l (callsIn_wide.2 h)⟩
    | row row args => exact ⟨fun h => (by cases h), rowsIn_of_rows h⟩
    | round _ _ _ _ _ => exact h.elim
    | _ => exact h.elim
  | halt x w' =>
    cases x with
    | panic v => exact h
    | _ => exact h.elim

theorem wpAnyIn_of_wpAny {md : Region.Mode} {ops : Array Oper} (hd : noDefer ops = true) (hQ : ¬ LetsOut Q) : ∀ (fuel : Nat) (listed : Array Bool) (a : Act) (w : World), wpAny P md ops Q fuel listed a w → wpAnyIn (Fence.wide.inRound l) n P md ops Q fuel listed a w
  | 0, _, _, _, h => h
  | fuel + 1, listed, a, w, h => ⟨h.1, fun i hi => by
      have h2 := h.2 i hi
      unfold wpOp at h2
      unfold wpOpIn
      cases ho : ops[i]? with
      | none => rw [ho] at h2; exact wpAnyIn_of_wpAny hd hQ fuel _ _ _ h2
      | some o =>
        simp only [ho] at h2 ⊢
        split at h2
        · rename_i hw
          rw [if_pos hw]
          rcases h2 with h2 | h2
          · exact Oper.wpIn_mono (fun a' w' h3 => wpAnyIn_of_wpAny hd hQ fuel _ _ _ h3) (wpIn_of_wp (noDefer_spec hd ho) h2)
          · exact absurd h2.2 hQ
        · rename_i hw
          rw [if_neg hw]
          exact ⟨fun _ _ => trivial, wpAnyIn_of_wpAny hd hQ fuel _ _ _ h2⟩⟩

theorem wpIn_region_plain {id : Nat} {ops : Array Oper} {a : Act} {w : World} (hm : P.follows .mixedOrders = true) (hd : noDefer ops = true) (hQ : ¬ LetsOut Q)
    (h : wpAny P .any ops Q ops.size (Array.replicate ops.size false) a { w with drawn := w.drawn + 1 }) : (Code.region id ops true).wpIn (Fence.wide.inRound l) n P Q a w :=
  wpIn_region_any hm (wpAnyIn_of_wpAny hd hQ _ _ _ _ h)

/-- 'go_still_tail', in a round. -/
theorem wpIn_region_still_tail {id : Nat} {a : Act} {w : World} {ol : List Oper} (k : Nat) (hm : P.follows .mixedOrders = true) (hd : noDefer ol.toArray = true) (hQ : ¬ LetsOut Q) (hB : Region.lexTailB .any ol.toArray k = true)
    (h : wpStill P ol.toArray { w with drawn := w.drawn + 1 } (fun a' => wpList P ol.toArray Q (ol.drop k) a' { w with drawn := w.drawn + 1 }) (ol.take k) a) : (Code.region id ol.toArray true).wpIn (Fence.wide.inRound l) n P Q a w := by
  simp only [Region.lexTailB, Bool.and_eq_true, decide_eq_true_eq] at hB
  obtain ⟨⟨⟨⟨hsel, hn⟩, hs⟩, hc⟩, hlex⟩ := hB
  have hn' : k < ol.length := by simpa using hn
  have htl : (ol.take k).length = k := by simp; omega
  have hdl : (ol.drop k).length = ol.toArray.size - k := by simp
  have inv0 : HeadInv .any ol.toArray k (Array.replicate ol.toArray.size false) :=
    ⟨by simp, fun j oj _ hl => (by rw [getD_replicate_false] at hl; cases hl), fun t _ ht => getD_in (by simpa using ht) (getD_replicate_false _ _)⟩
  have H := wpAnyL_lex (md := .any) (g := ol.toArray.size - k) hsel hs hc hn (ol.take k) 0 _ a (fun j hj => by
    have hj' : j < k := by rw [htl] at hj; exact hj
    simp [hj']) (by simpa using htl) inv0 (by rw [htl]; exact hlex) h
  refine wpIn_region_plain hm hd hQ ?_
  have := wpAny_of_head (Q' := Q) (g := ol.toArray.size - k) (fun listed a' hL => by
    have := wpAny_of_seq (md := .any) (Q' := Q) (ol.drop k) k listed a' { w with drawn := w.drawn + 1 } (fun j => by simp [List.getElem?_drop]) (by rw [hdl]; exact hL.1) hL.2
    rwa [hdl] at this) _ _ _ H
  rw [htl, show k + (ol.toArray.size - k) = ol.toArray.size by omega] at this
  exact this
end

/-! ### reads taken first, S held as long as something is left -/
section
variable {P : Program} {ops : Array Oper} {Q : Exit → Act → World → Prop} {md : Region.Mode} {S : World → Prop}

/-- Number x of the region waits for number i. -/
def waitsB (md : Region.Mode) (ops : Array Oper) (x i : Nat) : Bool := match ops[x]? with
  | some o => o.after.any fun e => Region.binds md e && e.on == i
  | none => false

/-- S holds behind each operation but number x. -/
def wpAnyF (P : Program) (md : Region.Mode) (ops : Array Oper) (Q : Exit → Act → World → Prop) (S : World → Prop) (x : Nat) : Nat → Array Bool → Act → World → Prop
  | 0, listed, a, w => Region.ready md ops listed = [] ∧ Q .normal a w
  | fuel + 1, listed, a, w =>
    (Region.ready md ops listed = [] → Q .normal a w) ∧
    ∀ i ∈ Region.ready md ops listed, wpOp P ops Q i (fun a' w' => (i ≠ x → S w') ∧ wpAnyF P md ops Q S x fuel (listed.setIfInBounds i true) a' w') a w

theorem wpAny_of_wpAnyF {x : Nat} : ∀ (fuel : Nat) (listed : Array Bool) (a : Act) (w : World), wpAnyF P md ops Q S x fuel listed a w → wpAny P md ops Q fuel listed a w
  | 0, _, _, _, h => h
  | fuel + 1, _, _, _, h => ⟨h.1, fun i hi => wpOp_mono (fun _ _ h' => wpAny_of_wpAnyF fuel _ _ _ h'.2) (h.2 i hi)⟩

/-- Who came up ahead of i does not wait for i. -/
theorem not_waits {i : Nat} {listed : Array Bool} {oj : Oper} (hr : i ∈ Region.ready md ops listed) (hall : ∀ e ∈ oj.after, Region.binds md e = true → listed.getD e.on false = true) :
    ∀ e ∈ oj.after, Region.binds md e = true → e.on ≠ i := fun e he hb heq => by
  have h1 := hall e he hb
  have h0 := (mem_ready.1 hr).1
  rw [heq] at h1
  rcases Nat.lt_or_ge i listed.size with h' | h'
  · simp [h'] at h0 h1; rw [h0] at h1; cases h1
  · simp [Array.getElem?_eq_none h'] at h1

theorem wpAnyF_first {i x : Nat} {oi : Oper} {v : Value} (hi : ops[i]? = some oi) (hsel : ∀ (j : Nat) (o : Oper) cs b, ops[j]? = some o → o.op ≠ .select cs b) (hx : waitsB md ops x i = true)
    (hQ : ∀ c a w, Q (.panic c) (a.put oi.dst v) w → Q (.panic c) a w) :
    ∀ (fuel : Nat) (listed : Array Bool) (a : Act) (w : World),
      (∀ j oj, ops[j]? = some oj → j ≠ i → listed.getD j true = false → (∀ e ∈ oj.after, Region.binds md e = true → e.on ≠ i) → oi.apart ops oj = true) →
      i ∈ Region.ready md ops listed → YieldsIf P ops S oi v a → S w →
      wpAnyF P md ops Q S x fuel (listed.setIfInBounds i true) (a.put oi.dst v) w → wpAnyF P md ops Q S x (fuel + 1) listed a w
  | fuel, listed, a, w, hfree, hr, hy, hS, H => by
    refine ⟨fun h => (by rw [h] at hr; cases hr), fun j hj => ?_⟩
    by_cases hji : j = i
    · subst hji
      exact hy.wpOp hi hS ⟨fun _ => hS, H⟩
    · have hj' := ready_mono hj hji
      cases fuel with
      | zero => rw [H.1] at hj'; cases hj'
      | succ fuel =>
        obtain ⟨hjun, oj, hoj, hall⟩ := mem_ready.1 hj
        have hnw := not_waits hr hall
        have hjx : j ≠ x := fun e => by
          subst e
          unfold waitsB at hx
          rw [hoj] at hx
          obtain ⟨e, he, hb⟩ := Array.any_eq_true'.1 hx
          simp only [Bool.and_eq_true, beq_iff_eq] at hb
          exact hnw e he hb.1 hb.2
        have h2 := wpOp_putIf hoj (hfree j oj hoj hji hjun hnw) (fun cs b => hsel i oi cs b hi) (fun cs b => hsel j oj cs b hoj) hQ hy (H.2 j hj')
        have hr' : i ∈ Region.ready md ops (listed.setIfInBounds j true) := ready_mono hr (Ne.symm hji)
        refine wpOp_mono (fun a' w' h3 => ?_) h2
        obtain ⟨hy', hS', H'⟩ := h3
        rw [Array.setIfInBounds_comm _ _ (Ne.symm hji)] at H'
        exact ⟨fun _ => hS' hjx, wpAnyF_first hi hsel hx hQ fuel _ a' w' (fun k ok hk hki hun hno => by
          refine hfree k ok hk hki ?_ hno
          by_cases hjk : j = k
          · subst hjk; exact hjun
          · rw [getD_set_ne true hjk] at hun; exact hun) hr' hy' (hS' hjx) H'⟩

/-- Number i, a read, is taken first. -/
theorem wpAnyF_take (i : Nat) {x : Nat} {oi : Oper} {v : Value} {fuel : Nat} {listed : Array Bool} {a : Act} {w : World} (hi : ops[i]? = some oi)
    (hs : Region.noSelect ops = true) (hf : Region.free md ops listed i = true) (hr : (Region.ready md ops listed).contains i = true) (hx : waitsB md ops x i = true)
    (hQ : ∀ c a w, Q (.panic c) (a.put oi.dst v) w → Q (.panic c) a w) (hS : S w) (hw : Region.wanted oi (yielded ops a.tmps) = true) (hy : ∀ w, S w → (execOp a.eval oi).run P w = .ok (.value v) w)
    (h : wpAnyF P md ops Q S x fuel (listed.setIfInBounds i true) (a.put oi.dst v) w) : wpAnyF P md ops Q S x (fuel + 1) listed a w :=
  wpAnyF_first hi (Region.noSelect_spec hs) hx hQ fuel listed a w (Region.free_spec hi hf) (by simpa using hr) (.inl ⟨hw, hy⟩) hS h

/-- Number i comes up alone. -/
theorem wpAnyF_one (i : Nat) {x : Nat} {o : Oper} {fuel : Nat} {listed : Array Bool} {a : Act} {w : World} (hr : Region.ready md ops listed = [i]) (ho : ops[i]? = some o)
    (h : ∀ K : Act → World → Prop, (∀ a' w', (i ≠ x → S w') → wpAnyF P md ops Q S x fuel (listed.setIfInBounds i true) a' w' → K a' w') → if Region.wanted o (yielded ops a.tmps) = true then Oper.wp P o a w K Q else K (a.put o.dst undef) w) :
    wpAnyF P md ops Q S x (fuel + 1) listed a w := by
  refine ⟨fun h0 => (by rw [h0] at hr; cases hr), fun j hj => ?_⟩
  rw [hr] at hj
  have hj : j = i := by simpa using hj
  subst hj
  have h2 := h _ (fun a' w' h1 h2 => (⟨h1, h2⟩ : (j ≠ x → S w') ∧ wpAnyF P md ops Q S x fuel (listed.setIfInBounds j true) a' w'))
  unfold wpOp
  rw [ho]
  dsimp only
  split
  · rename_i hw; rw [if_pos hw] at h2; exact .inl h2
  · rename_i hw; rw [if_neg hw] at h2; exact h2

/-- Each of those that may come up. -/
def AllF (P : Program) (md : Region.Mode) (ops : Array Oper) (Q : Exit → Act → World → Prop) (S : World → Prop) (x fuel : Nat) (listed : Array Bool) (a : Act) (w : World) (rs : List Nat) : Prop :=
  ∀ i ∈ rs, wpOp P ops Q i (fun a' w' => (i ≠ x → S w') ∧ wpAnyF P md ops Q S x fuel (listed.setIfInBounds i true) a' w') a w
theorem AllF.nil {x fuel : Nat} {listed : Array Bool} {a : Act} {w : World} : AllF P md ops Q S x fuel listed a w [] := fun _ h => by cases h
theorem AllF.cons {x fuel : Nat} {listed : Array Bool} {a : Act} {w : World} {i : Nat} {o : Oper} {rs : List Nat} (ho : ops[i]? = some o)
    (h : ∀ K : Act → World → Prop, (∀ a' w', (i ≠ x → S w') → wpAnyF P md ops Q S x fuel (listed.setIfInBounds i true) a' w' → K a' w') → if Region.wanted o (yielded ops a.tmps) = true then Oper.wp P o a w K Q else K (a.put o.dst undef) w)
    (hs : AllF P md ops Q S x fuel listed a w rs) : AllF P md ops Q S x fuel listed a w (i :: rs) := fun j hj => by
  rcases List.mem_cons.1 hj with rfl | hj
  · have h2 := h _ (fun a' w' h1 h2 => (⟨h1, h2⟩ : (j ≠ x → S w') ∧ wpAnyF P md ops Q S x fuel (listed.setIfInBounds j true) a' w'))
    unfold wpOp
    rw [ho]
    dsimp only
    split
    · rename_i hw; rw [if_pos hw] at h2; exact .inl h2
    · rename_i hw; rw [if_neg hw] at h2; exact h2
  · exact hs j hj
theorem wpAnyF_ready {x : Nat} (rs : List Nat) {fuel : Nat} {listed : Array Bool} {a : Act} {w : World} (hr : Region.ready md ops listed = rs) (hne : rs ≠ [])
    (h : AllF P md ops Q S x fuel listed a w rs) : wpAnyF P md ops Q S x (fuel + 1) listed a w :=
  ⟨fun h0 => absurd (hr.symm.trans h0) hne, hr ▸ h⟩

theorem wpAnyF_done {x : Nat} {listed : Array Bool} {a : Act} {w : World} (hr : Region.ready md ops listed = []) (h : Q .normal a w) : ∀ fuel, wpAnyF P md ops Q S x fuel listed a w
  | 0 => ⟨hr, h⟩
  | _ + 1 => ⟨fun _ => h, by rw [hr]; simp⟩

theorem wpIn_region_held {l n id : Nat} {ol : List Oper} {a : Act} {w : World} (x : Nat) (S : World → Prop) (hm : P.follows .mixedOrders = true) (hd : noDefer ol.toArray = true) (hQ : ¬ LetsOut Q)
    (h : wpAnyF P .any ol.toArray Q S x ol.toArray.size (Array.replicate ol.toArray.size false) a w.drew) : (Code.region id ol.toArray true).wpIn (Fence.wide.inRound l) n P Q a w :=
  wpIn_region_plain hm hd hQ (wpAny_of_wpAnyF _ _ _ _ h)
theorem wp_region_heldF {id : Nat} {ol : List Oper} {a : Act} {w : World} (x : Nat) (S : World → Prop) (hm : P.follows .mixedOrders = true)
    (h : wpAnyF P .any ol.toArray Q S x ol.toArray.size (Array.replicate ol.toArray.size false) a w.drew) : (Code.region id ol.toArray true).wp P Q a w :=
  wp_region_any hm (wpAny_of_wpAnyF _ _ _ _ h)
end
end Pal
