/- The walk of ScanMoves. -/
import Derived.Test.YthbjjjcppijcbaaSM
import Derived.Test.YthbjjjcppijcbaaAI
import Derived.Deep.LoopGhost
import Derived.Deep.CutBlock
import Derived.Laws.BytesArg
namespace Go.Proofs.Ythbjjjcppijcbaa.scanMoves
open Go.RowKit Pal Dint

/-! ### the sizes behind k new keys -/
def nextS (s : Nat × Option Nat × Nat) (i : Nat) : Nat × Option Nat × Nat := growS (stepS s 1) i
def shAt : Nat → Nat × Option Nat × Nat
  | 0 => (4, none, 0)
  | i + 1 => nextS (shAt i) i
def good (s : Nat × Option Nat × Nat) : Bool := decide (s.1 ≤ 512) && (match s.2.1 with | none => true | some l => decide (s.1 ≤ l) && decide (l ≤ 512))
def chk : Nat → Nat → Nat × Option Nat × Nat → Bool
  | 0, _, _ => true
  | k + 1, i, s => good s && chk k (i + 1) (nextS s i)
theorem chk_of : ∀ (k i : Nat), chk k i (shAt i) = true → ∀ j, j < k → good (shAt (i + j)) = true
  | 0, _, _, _, hj => by cases hj
  | k + 1, i, h, j, hj => by
    have h' : (good (shAt i) && chk k (i + 1) (shAt (i + 1))) = true := h
    rw [Bool.and_eq_true] at h'
    cases j with
    | zero => exact h'.1
    | succ j =>
      have := chk_of k (i + 1) h'.2 j (by omega)
      rw [show i + (j + 1) = i + 1 + j by omega]
      exact this
theorem chk_all : chk 201 0 (shAt 0) = true := by decide +kernel
theorem good_at (i : Nat) (h : i ≤ 200) : growing (shAt i) ∧ bndS (shAt i) := by
  have := chk_of 201 0 chk_all i (by omega)
  rw [Nat.zero_add] at this
  unfold good at this
  rw [Bool.and_eq_true] at this
  obtain ⟨h1, h2⟩ := this
  have h1 := of_decide_eq_true h1
  cases hs : (shAt i).2.1 with
  | none => exact ⟨fun l e => (by rw [hs] at e; cases e), h1, fun l e => (by rw [hs] at e; cases e)⟩
  | some l =>
    rw [hs] at h2
    dsimp only at h2
    rw [Bool.and_eq_true] at h2
    have h3 := of_decide_eq_true h2.1
    have h4 := of_decide_eq_true h2.2
    exact ⟨fun l' e => (by rw [hs] at e; injection e with e; omega), h1, fun l' e => (by rw [hs] at e; injection e with e; omega)⟩

/-! ### the keys -/
def K (i : Nat) : ByteArray := ⟨#[UInt8.ofNat (97 + i % 26), UInt8.ofNat (97 + i / 26)]⟩
theorem K_size (i : Nat) : (K i).size = 2 := rfl
theorem K_inj {i j : Nat} (hi : i < 3000) (hj : j < 3000) (h : K i = K j) : i = j := by
  unfold K at h
  injection h with h
  injection h with h
  injection h with h1 h2
  injection h2 with h2
  have a := congrArg UInt8.toNat h1
  have b := congrArg UInt8.toNat h2
  simp only [UInt8.toNat_ofNat'] at a b
  omega

set_option maxRecDepth 100000 in
theorem conv_K (W : World) (i : Nat) (hi : i < 3000) :
    (convert 45 9 (.slice (some ⟨W.heap.size, 0, none⟩) 2 2)).run Try.prog (W.alloc (.cells #[.int .u8 (97 + (i : Int) % 26), .int .u8 (97 + (i : Int) / 26)] 5)) = .ok (.string (K i)) (W.alloc (.cells #[.int .u8 (97 + (i : Int) % 26), .int .u8 (97 + (i : Int) / 26)] 5)) := by
  have hb := Blk.new W 5 #[.int .u8 (97 + (i : Int) % 26), .int .u8 (97 + (i : Int) / 26)]
  have h := run_convert_bytes_arg (P := Try.prog) (W.alloc (.cells #[.int .u8 (97 + (i : Int) % 26), .int .u8 (97 + (i : Int) / 26)] 5)) 45 5 Try.underlying45 Try.underlying5 W.heap.size 0 2 2 [97 + (i : Int) % 26, 97 + (i : Int) / 26] rfl (fun j hj => by
    rw [Nat.zero_add, hb.cell j]
    rcases (by omega : j = 0 ∨ j = 1) with rfl | rfl <;> rfl) 9 Try.underlying9
  rw [h]
  have e : strOfNums [97 + (i : Int) % 26, 97 + (i : Int) / 26] = K i := by
    unfold strOfNums K
    have e1 : (97 + (i : Int) % 26).toNat = 97 + i % 26 := by omega
    have e2 : (97 + (i : Int) / 26).toNat = 97 + i / 26 := by omega
    simp only [List.map_cons, List.map_nil, e1, e2]
  rw [e]

structure Put (i : Nat) (d : Dm) : Prop where
  no : ∀ j, i ≤ j → j < 3000 → d.look (K j) = none
  n : d.n = i
  sh : Dint.shape d = shAt i
theorem Put.next {i : Nat} {d d' : Dm} (h : Put i d) (hi : i < 1000) (hp : Puts (K i) (.int .i64 (i : Int)) d d') (hs : Dint.shape d' = if (d.look (K i)).isNone then growS (stepS (Dint.shape d) 1) d.n else stepS (Dint.shape d) 1) : Put (i + 1) d' := by
  have hno := h.no i (Nat.le_refl _) (by omega)
  refine ⟨fun j hj hj2 => ?_, ?_, ?_⟩
  · rw [hp.1, if_neg (fun e => by have := K_inj hj2 (by omega) e; omega)]
    exact h.no j (by omega) hj2
  · rw [hp.2, hno, h.n]; rfl
  · rw [hs, hno, h.sh, h.n]; rfl

theorem all115 {P : Array Value → Prop} (h : ∀ u0 u1 u2 u3 u4 u5 u6 u7 u8 u9 u10 u11 u12 u13 u14 u15 u16 u17 u18 u19 u20 u21 u22 u23 u24 u25 u26 u27 u28 u29 u30 u31 u32 u33 u34 u35 u36 u37 u38 u39 u40 u41 u42 u43 u44 u45 u46 u47 u48 u49 u50 u51 u52 u53 u54 u55 u56 u57 u58 u59 u60 u61 u62 u63 u64 u65 u66 u67 u68 u69 u70 u71 u72 u73 u74 u75 u76 u77 u78 u79 u80 u81 u82 u83 u84 u85 u86 u87 u88 u89 u90 u91 u92 u93 u94 u95 u96 u97 u98 u99 u100 u101 u102 u103 u104 u105 u106 u107 u108 u109 u110 u111 u112 u113 u114 : Value, P #[u0, u1, u2, u3, u4, u5, u6, u7, u8, u9, u10, u11, u12, u13, u14, u15, u16, u17, u18, u19, u20, u21, u22, u23, u24, u25, u26, u27, u28, u29, u30, u31, u32, u33, u34, u35, u36, u37, u38, u39, u40, u41, u42, u43, u44, u45, u46, u47, u48, u49, u50, u51, u52, u53, u54, u55, u56, u57, u58, u59, u60, u61, u62, u63, u64, u65, u66, u67, u68, u69, u70, u71, u72, u73, u74, u75, u76, u77, u78, u79, u80, u81, u82, u83, u84, u85, u86, u87, u88, u89, u90, u91, u92, u93, u94, u95, u96, u97, u98, u99, u100, u101, u102, u103, u104, u105, u106, u107, u108, u109, u110, u111, u112, u113, u114]) (a : Array Value) (hs : a.size = 115) : P a := by
  obtain ⟨l⟩ := a
  have g0 : l.length = 115 := hs
  clear hs
  obtain ⟨u0, l0, e0, g1⟩ := Pal.len_cons g0
  obtain ⟨u1, l1, e1, g2⟩ := Pal.len_cons g1
  obtain ⟨u2, l2, e2, g3⟩ := Pal.len_cons g2
  obtain ⟨u3, l3, e3, g4⟩ := Pal.len_cons g3
  obtain ⟨u4, l4, e4, g5⟩ := Pal.len_cons g4
  obtain ⟨u5, l5, e5, g6⟩ := Pal.len_cons g5
  obtain ⟨u6, l6, e6, g7⟩ := Pal.len_cons g6
  obtain ⟨u7, l7, e7, g8⟩ := Pal.len_cons g7
  obtain ⟨u8, l8, e8, g9⟩ := Pal.len_cons g8
  obtain ⟨u9, l9, e9, g10⟩ := Pal.len_cons g9
  obtain ⟨u10, l10, e10, g11⟩ := Pal.len_cons g10
  obtain ⟨u11, l11, e11, g12⟩ := Pal.len_cons g11
  obtain ⟨u12, l12, e12, g13⟩ := Pal.len_cons g12
  obtain ⟨u13, l13, e13, g14⟩ := Pal.len_cons g13
  obtain ⟨u14, l14, e14, g15⟩ := Pal.len_cons g14
  obtain ⟨u15, l15, e15, g16⟩ := Pal.len_cons g15
  obtain ⟨u16, l16, e16, g17⟩ := Pal.len_cons g16
  obtain ⟨u17, l17, e17, g18⟩ := Pal.len_cons g17
  obtain ⟨u18, l18, e18, g19⟩ := Pal.len_cons g18
  obtain ⟨u19, l19, e19, g20⟩ := Pal.len_cons g19
  obtain ⟨u20, l20, e20, g21⟩ := Pal.len_cons g20
  obtain ⟨u21, l21, e21, g22⟩ := Pal.len_cons g21
  obtain ⟨u22, l22, e22, g23⟩ := Pal.len_cons g22
  obtain ⟨u23, l23, e23, g24⟩ := Pal.len_cons g23
  obtain ⟨u24, l24, e24, g25⟩ := Pal.len_cons g24
  obtain ⟨u25, l25, e25, g26⟩ := Pal.len_cons g25
  obtain ⟨u26, l26, e26, g27⟩ := Pal.len_cons g26
  obtain ⟨u27, l27, e27, g28⟩ := Pal.len_cons g27
  obtain ⟨u28, l28, e28, g29⟩ := Pal.len_cons g28
  obtain ⟨u29, l29, e29, g30⟩ := Pal.len_cons g29
  obtain ⟨u30, l30, e30, g31⟩ := Pal.len_cons g30
  obtain ⟨u31, l31, e31, g32⟩ := Pal.len_cons g31
  obtain ⟨u32, l32, e32, g33⟩ := Pal.len_cons g32
  obtain ⟨u33, l33, e33, g34⟩ := Pal.len_cons g33
  obtain ⟨u34, l34, e34, g35⟩ := Pal.len_cons g34
  obtain ⟨u35, l35, e35, g36⟩ := Pal.len_cons g35
  obtain ⟨u36, l36, e36, g37⟩ := Pal.len_cons g36
  obtain ⟨u37, l37, e37, g38⟩ := Pal.len_cons g37
  obtain ⟨u38, l38, e38, g39⟩ := Pal.len_cons g38
  obtain ⟨u39, l39, e39, g40⟩ := Pal.len_cons g39
  obtain ⟨u40, l40, e40, g41⟩ := Pal.len_cons g40
  obtain ⟨u41, l41, e41, g42⟩ := Pal.len_cons g41
  obtain ⟨u42, l42, e42, g43⟩ := Pal.len_cons g42
  obtain ⟨u43, l43, e43, g44⟩ := Pal.len_cons g43
  obtain ⟨u44, l44, e44, g45⟩ := Pal.len_cons g44
  obtain ⟨u45, l45, e45, g46⟩ := Pal.len_cons g45
  obtain ⟨u46, l46, e46, g47⟩ := Pal.len_cons g46
  obtain ⟨u47, l47, e47, g48⟩ := Pal.len_cons g47
  obtain ⟨u48, l48, e48, g49⟩ := Pal.len_cons g48
  obtain ⟨u49, l49, e49, g50⟩ := Pal.len_cons g49
  obtain ⟨u50, l50, e50, g51⟩ := Pal.len_cons g50
  obtain ⟨u51, l51, e51, g52⟩ := Pal.len_cons g51
  obtain ⟨u52, l52, e52, g53⟩ := Pal.len_cons g52
  obtain ⟨u53, l53, e53, g54⟩ := Pal.len_cons g53
  obtain ⟨u54, l54, e54, g55⟩ := Pal.len_cons g54
  obtain ⟨u55, l55, e55, g56⟩ := Pal.len_cons g55
  obtain ⟨u56, l56, e56, g57⟩ := Pal.len_cons g56
  obtain ⟨u57, l57, e57, g58⟩ := Pal.len_cons g57
  obtain ⟨u58, l58, e58, g59⟩ := Pal.len_cons g58
  obtain ⟨u59, l59, e59, g60⟩ := Pal.len_cons g59
  obtain ⟨u60, l60, e60, g61⟩ := Pal.len_cons g60
  obtain ⟨u61, l61, e61, g62⟩ := Pal.len_cons g61
  obtain ⟨u62, l62, e62, g63⟩ := Pal.len_cons g62
  obtain ⟨u63, l63, e63, g64⟩ := Pal.len_cons g63
  obtain ⟨u64, l64, e64, g65⟩ := Pal.len_cons g64
  obtain ⟨u65, l65, e65, g66⟩ := Pal.len_cons g65
  obtain ⟨u66, l66, e66, g67⟩ := Pal.len_cons g66
  obtain ⟨u67, l67, e67, g68⟩ := Pal.len_cons g67
  obtain ⟨u68, l68, e68, g69⟩ := Pal.len_cons g68
  obtain ⟨u69, l69, e69, g70⟩ := Pal.len_cons g69
  obtain ⟨u70, l70, e70, g71⟩ := Pal.len_cons g70
  obtain ⟨u71, l71, e71, g72⟩ := Pal.len_cons g71
  obtain ⟨u72, l72, e72, g73⟩ := Pal.len_cons g72
  obtain ⟨u73, l73, e73, g74⟩ := Pal.len_cons g73
  obtain ⟨u74, l74, e74, g75⟩ := Pal.len_cons g74
  obtain ⟨u75, l75, e75, g76⟩ := Pal.len_cons g75
  obtain ⟨u76, l76, e76, g77⟩ := Pal.len_cons g76
  obtain ⟨u77, l77, e77, g78⟩ := Pal.len_cons g77
  obtain ⟨u78, l78, e78, g79⟩ := Pal.len_cons g78
  obtain ⟨u79, l79, e79, g80⟩ := Pal.len_cons g79
  obtain ⟨u80, l80, e80, g81⟩ := Pal.len_cons g80
  obtain ⟨u81, l81, e81, g82⟩ := Pal.len_cons g81
  obtain ⟨u82, l82, e82, g83⟩ := Pal.len_cons g82
  obtain ⟨u83, l83, e83, g84⟩ := Pal.len_cons g83
  obtain ⟨u84, l84, e84, g85⟩ := Pal.len_cons g84
  obtain ⟨u85, l85, e85, g86⟩ := Pal.len_cons g85
  obtain ⟨u86, l86, e86, g87⟩ := Pal.len_cons g86
  obtain ⟨u87, l87, e87, g88⟩ := Pal.len_cons g87
  obtain ⟨u88, l88, e88, g89⟩ := Pal.len_cons g88
  obtain ⟨u89, l89, e89, g90⟩ := Pal.len_cons g89
  obtain ⟨u90, l90, e90, g91⟩ := Pal.len_cons g90
  obtain ⟨u91, l91, e91, g92⟩ := Pal.len_cons g91
  obtain ⟨u92, l92, e92, g93⟩ := Pal.len_cons g92
  obtain ⟨u93, l93, e93, g94⟩ := Pal.len_cons g93
  obtain ⟨u94, l94, e94, g95⟩ := Pal.len_cons g94
  obtain ⟨u95, l95, e95, g96⟩ := Pal.len_cons g95
  obtain ⟨u96, l96, e96, g97⟩ := Pal.len_cons g96
  obtain ⟨u97, l97, e97, g98⟩ := Pal.len_cons g97
  obtain ⟨u98, l98, e98, g99⟩ := Pal.len_cons g98
  obtain ⟨u99, l99, e99, g100⟩ := Pal.len_cons g99
  obtain ⟨u100, l100, e100, g101⟩ := Pal.len_cons g100
  obtain ⟨u101, l101, e101, g102⟩ := Pal.len_cons g101
  obtain ⟨u102, l102, e102, g103⟩ := Pal.len_cons g102
  obtain ⟨u103, l103, e103, g104⟩ := Pal.len_cons g103
  obtain ⟨u104, l104, e104, g105⟩ := Pal.len_cons g104
  obtain ⟨u105, l105, e105, g106⟩ := Pal.len_cons g105
  obtain ⟨u106, l106, e106, g107⟩ := Pal.len_cons g106
  obtain ⟨u107, l107, e107, g108⟩ := Pal.len_cons g107
  obtain ⟨u108, l108, e108, g109⟩ := Pal.len_cons g108
  obtain ⟨u109, l109, e109, g110⟩ := Pal.len_cons g109
  obtain ⟨u110, l110, e110, g111⟩ := Pal.len_cons g110
  obtain ⟨u111, l111, e111, g112⟩ := Pal.len_cons g111
  obtain ⟨u112, l112, e112, g113⟩ := Pal.len_cons g112
  obtain ⟨u113, l113, e113, g114⟩ := Pal.len_cons g113
  obtain ⟨u114, l114, e114, g115⟩ := Pal.len_cons g114
  obtain rfl := List.eq_nil_of_length_eq_zero g115
  have e : (⟨l⟩ : Array Value) = #[u0, u1, u2, u3, u4, u5, u6, u7, u8, u9, u10, u11, u12, u13, u14, u15, u16, u17, u18, u19, u20, u21, u22, u23, u24, u25, u26, u27, u28, u29, u30, u31, u32, u33, u34, u35, u36, u37, u38, u39, u40, u41, u42, u43, u44, u45, u46, u47, u48, u49, u50, u51, u52, u53, u54, u55, u56, u57, u58, u59, u60, u61, u62, u63, u64, u65, u66, u67, u68, u69, u70, u71, u72, u73, u74, u75, u76, u77, u78, u79, u80, u81, u82, u83, u84, u85, u86, u87, u88, u89, u90, u91, u92, u93, u94, u95, u96, u97, u98, u99, u100, u101, u102, u103, u104, u105, u106, u107, u108, u109, u110, u111, u112, u113, u114] := by rw [e0, e1, e2, e3, e4, e5, e6, e7, e8, e9, e10, e11, e12, e13, e14, e15, e16, e17, e18, e19, e20, e21, e22, e23, e24, e25, e26, e27, e28, e29, e30, e31, e32, e33, e34, e35, e36, e37, e38, e39, e40, e41, e42, e43, e44, e45, e46, e47, e48, e49, e50, e51, e52, e53, e54, e55, e56, e57, e58, e59, e60, e61, e62, e63, e64, e65, e66, e67, e68, e69, e70, e71, e72, e73, e74, e75, e76, e77, e78, e79, e80, e81, e82, e83, e84, e85, e86, e87, e88, e89, e90, e91, e92, e93, e94, e95, e96, e97, e98, e99, e100, e101, e102, e103, e104, e105, e106, e107, e108, e109, e110, e111, e112, e113, e114]
  rw [e]
  exact h u0 u1 u2 u3 u4 u5 u6 u7 u8 u9 u10 u11 u12 u13 u14 u15 u16 u17 u18 u19 u20 u21 u22 u23 u24 u25 u26 u27 u28 u29 u30 u31 u32 u33 u34 u35 u36 u37 u38 u39 u40 u41 u42 u43 u44 u45 u46 u47 u48 u49 u50 u51 u52 u53 u54 u55 u56 u57 u58 u59 u60 u61 u62 u63 u64 u65 u66 u67 u68 u69 u70 u71 u72 u73 u74 u75 u76 u77 u78 u79 u80 u81 u82 u83 u84 u85 u86 u87 u88 u89 u90 u91 u92 u93 u94 u95 u96 u97 u98 u99 u100 u101 u102 u103 u104 u105 u106 u107 u108 u109 u110 u111 u112 u113 u114

def Act1 (n : Nat) (st : Value) (bd i : Nat) (a : Act) : Prop := a.tmps.size = 115 ∧ a.tmps[1]? = some (.int .i64 (n : Int)) ∧ a.tmps[2]? = some (st) ∧ a.tmps[7]? = some (.bool true) ∧ a.tmps[8]? = some (ptr bd) ∧ a.tmps[9]? = some (.int .i64 (i : Int)) ∧ a.defers = []
def Inv1 (w0 : World) (n : Nat) (st : Value) (bd : Nat) (m : Nat) (a : Act) (w : World) : Prop :=
  ∃ i d, m = n - i ∧ i ≤ n ∧ Act1 n st bd i a ∧ One w0 w bd d ∧ Put i d
def FrA (n : Nat) (st : Value) (bd : Nat) (a : Act) : Prop := a.tmps.size = 115 ∧ a.tmps[1]? = some (.int .i64 (n : Int)) ∧ a.tmps[2]? = some (st) ∧ a.tmps[7]? = some (.bool true) ∧ a.tmps[8]? = some (ptr bd) ∧ a.defers = []
def Post1 (w0 : World) (n : Nat) (st : Value) (bd : Nat) (e : Exit) (a : Act) (w : World) : Prop :=
  e = .normal ∧ FrA n st bd a ∧ ∃ d, One w0 w bd d ∧ Put n d

/-! ### the scans -/
structure Sc (n : Nat) (d : Dm) (i k : Nat) (l : List ByteArray) : Prop where
  n : d.n = n
  le : k ≤ 2 ^ scanA d
  told : Told d (scanA d) k l
  z : i = 0 → k = 0
  pos : 0 < i → 0 < k
  far : i * 8388608 ≤ k * 2 ^ (32 - scanA d)
  gr : growing (Dint.shape d)
  bd : bndS (Dint.shape d)
theorem pow32 {a : Nat} (h : a ≤ 32) : (2 : Nat) ^ a * 2 ^ (32 - a) = 4294967296 := by
  rw [← Nat.pow_add, show a + (32 - a) = 32 by omega]
theorem Sc.i_le {n i k : Nat} {d : Dm} {l : List ByteArray} (h : Sc n d i k l) (hok : d.Ok) : i ≤ 512 := by
  have h1 := pow32 (a := scanA d) (by have := scanA_le hok; omega)
  have h2 := Nat.mul_le_mul_right (2 ^ (32 - scanA d)) h.le
  have h3 := h.far
  omega
theorem far_up {i x y c : Nat} (h : i * c ≤ x) (h' : c ≤ y) : (i + 1) * c ≤ x + y := by rw [Nat.succ_mul]; omega
theorem meas_dn {x y z : Nat} (h : x < z) (hz : z = 4294967296) (h' : 8388608 ≤ y) : 4294967296 - (x + y) < 4294967296 - x := by omega
theorem Sc.scan {n i k : Nat} {d : Dm} {l : List ByteArray} (h : Sc n d i k l) (hok : d.Ok) (hk : k < 2 ^ scanA d) :
    Sc n d (i + 1) (k + 1) (l ++ scanL d (cur (scanA d) k)) ∧ 4294967296 - (k + 1) * 2 ^ (32 - scanA d) < 4294967296 - k * 2 ^ (32 - scanA d) := by
  have hA := scanA_le hok
  have hA9 : scanA d ≤ 9 := pow_le_of (b := 9) (bnd_A hok h.bd)
  have h1 := pow32 (a := scanA d) (by omega)
  have h2 := Nat.mul_lt_mul_of_pos_right hk (Nat.two_pow_pos (32 - scanA d))
  have h3 := h.far
  have h4 : 8388608 ≤ 2 ^ (32 - scanA d) := Nat.le_trans (by decide : 8388608 ≤ 2 ^ 23) (pow_mono (a := 23) (by omega))
  have h5 : (k + 1) * 2 ^ (32 - scanA d) = k * 2 ^ (32 - scanA d) + 2 ^ (32 - scanA d) := Nat.succ_mul _ _
  refine ⟨⟨h.n, hk, h.told.scan hok hk, fun e => absurd e (Nat.succ_ne_zero _), fun _ => Nat.succ_pos _, ?_, h.gr, h.bd⟩, ?_⟩
  · rw [h5]; exact far_up h3 h4
  · rw [h5]; exact meas_dn h2 h1 h4
theorem Sc.step {n i k : Nat} {d d' : Dm} {W W' : World} {r : Int} {l : List ByteArray} (h : Sc n d i k l) (hX : Nx d d' W W') (hS : Stays d d') (hs : Dint.shape d' = stepS (Dint.shape d) r) (hok : d.Ok) :
    Sc n d' i (k * 2 ^ (scanA d' - scanA d)) l ∧ k * 2 ^ (scanA d' - scanA d) * 2 ^ (32 - scanA d') = k * 2 ^ (32 - scanA d) ∧ curW (scanA d') (k * 2 ^ (scanA d' - scanA d)) = curW (scanA d) k := by
  obtain ⟨hg, hab⟩ := growing_up hok hX.ok h.gr hs
  have hb := scanA_le hX.ok
  have e1 : k * 2 ^ (scanA d' - scanA d) * 2 ^ (32 - scanA d') = k * 2 ^ (32 - scanA d) := by
    rw [Nat.mul_assoc, ← Nat.pow_add, show scanA d' - scanA d + (32 - scanA d') = 32 - scanA d by omega]
  refine ⟨⟨hS.2.trans h.n, ?_, h.told.up hok hX.ok hS.1 hX.seed hab (by omega), fun e => by rw [h.z e, Nat.zero_mul], fun e => Nat.mul_pos (h.pos e) (Nat.two_pow_pos _), by rw [e1]; exact h.far, hg, by rw [hs]; exact bnd_step h.bd r⟩, e1, curW_up hab (by omega) k⟩
  rw [pow_up hab]
  exact Nat.mul_le_mul_right _ h.le

def Act2 (n : Nat) (st o : Value) (bd i c : Nat) (a : Act) : Prop := a.tmps.size = 115 ∧ a.tmps[1]? = some (.int .i64 (n : Int)) ∧ a.tmps[2]? = some (st) ∧ a.tmps[7]? = some (.bool true) ∧ a.tmps[8]? = some (ptr bd) ∧ a.tmps[10]? = some (o) ∧ a.tmps[11]? = some (.int .u32 (c : Int)) ∧ a.tmps[12]? = some (.int .i64 (i : Int)) ∧ a.defers = []
def Inv2 (w0 : World) (n : Nat) (st : Value) (bd : Nat) (m : Nat) (a : Act) (w : World) : Prop :=
  ∃ i k d o l, m = 4294967296 - k * 2 ^ (32 - scanA d) ∧ Act2 n st o bd i (curW (scanA d) k) a ∧ One w0 w bd d ∧ Strs w w0.heap.size o l ∧ (∀ g, o.ownBlock = some g → ¬ d.foot g) ∧ Sc n d i k l
def FrB (n : Nat) (o : Value) (a : Act) : Prop := a.tmps.size = 115 ∧ a.tmps[1]? = some (.int .i64 (n : Int)) ∧ a.tmps[7]? = some (.bool true) ∧ a.tmps[10]? = some (o) ∧ a.tmps[11]? = some (.int .u32 0) ∧ a.defers = []
def Post2 (w0 : World) (n : Nat) (e : Exit) (a : Act) (w : World) : Prop :=
  e = .normal ∧ ∃ o l, FrB n o a ∧ Chg (fun _ => False) w0 w ∧ Strs w w0.heap.size o l ∧ l.Nodup ∧ l.length = n
def Act3' (n : Nat) (o : Value) (i : Nat) (a : Act) : Prop := a.tmps.size = 115 ∧ a.tmps[1]? = some (.int .i64 (n : Int)) ∧ a.tmps[7]? = some (.bool true) ∧ a.tmps[10]? = some (o) ∧ a.tmps[11]? = some (.int .u32 0) ∧ a.tmps[15]? = some (.int .i64 (i : Int)) ∧ a.defers = []
def Inv3 (w1 : World) (n : Nat) (o : Value) (m : Nat) (a : Act) (w : World) : Prop :=
  ∃ i, m = n - i ∧ i ≤ n ∧ Act3' n o i a ∧ Chg (fun _ => False) w1 w
def Act4 (n : Nat) (o : Value) (i j : Nat) (a : Act) : Prop := a.tmps.size = 115 ∧ a.tmps[1]? = some (.int .i64 (n : Int)) ∧ a.tmps[7]? = some (.bool true) ∧ a.tmps[10]? = some (o) ∧ a.tmps[11]? = some (.int .u32 0) ∧ a.tmps[15]? = some (.int .i64 (i : Int)) ∧ a.tmps[16]? = some (.int .i64 (j : Int)) ∧ a.defers = []
def Inv4 (w1 : World) (n : Nat) (o : Value) (i : Nat) (m : Nat) (a : Act) (w : World) : Prop :=
  ∃ j, m = i - j ∧ j ≤ i ∧ Act4 n o i j a ∧ Chg (fun _ => False) w1 w

set_option maxRecDepth 100000 in
set_option maxHeartbeats 4000000 in
theorem walk_in (s1 : Nat) (h1 : s1 < 4294967296) (n : Nat) (hn : n ≤ 200) (st : Value) (ks : Nat) (g : Nat → Int) (w : World) (hv : IntsAt w st ks g) :
    Calls Try.prog 9 #[.int .u32 (s1 : Int), .int .i64 (n : Int), st] w fun e w' => e = .returned (.bool true) ∧ Chg (fun _ => False) w w' := by
  have hn0 : ¬ (n : Int) < 0 := by omega
  have hn2 : ¬ (n : Int) > 200 := by omega
  go_enter Try.func9, Try.ntmps9
  go_wp2_with fail
  refine (shown08_any w).mono ?_
  rintro e w1 ⟨rfl, rfl⟩
  go_wp2_with fail
  refine (new_1 (Chg.refl _ w) s1 h1).mono ?_
  rintro e w2 ⟨bd, d0, rfl, hT, dn, dl, dsh, _, _⟩
  clear hn0 hn2
  go_upto_block 0 with (fail)
  refine wp_mono (Q := Post1 w n st bd) ?_ ?_
  · go_wp2_with fail
    refine wp_loop_ghost (Inv1 w n st bd) n ?_ ?_
    · exact ⟨0, d0, rfl, Nat.zero_le _, ⟨rfl, rfl, rfl, rfl, rfl, rfl, rfl⟩, hT, ⟨fun j _ _ => dl _, dn, dsh⟩⟩
    · clear hT dn dl dsh
      rintro m ⟨tmps, ds⟩ W ⟨i, d, rfl, hi, ⟨hsz, t1, t2, t7, t8, t9, rfl⟩, hT, hP⟩
      replace hsz : tmps.size = 115 := hsz
      dsimp only at t1 t2 t7 t8 t9
      revert t1 t2 t7 t8 t9
      revert hsz
      revert tmps
      refine all115 ?_
      intro u0 u1 u2 u3 u4 u5 u6 u7 u8 u9 u10 u11 u12 u13 u14 u15 u16 u17 u18 u19 u20 u21 u22 u23 u24 u25 u26 u27 u28 u29 u30 u31 u32 u33 u34 u35 u36 u37 u38 u39 u40 u41 u42 u43 u44 u45 u46 u47 u48 u49 u50 u51 u52 u53 u54 u55 u56 u57 u58 u59 u60 u61 u62 u63 u64 u65 u66 u67 u68 u69 u70 u71 u72 u73 u74 u75 u76 u77 u78 u79 u80 u81 u82 u83 u84 u85 u86 u87 u88 u89 u90 u91 u92 u93 u94 u95 u96 u97 u98 u99 u100 u101 u102 u103 u104 u105 u106 u107 u108 u109 u110 u111 u112 u113 u114 t1 t2 t7 t8 t9
      simp only [ptr, List.getElem?_toArray, List.getElem?_cons_zero, List.getElem?_cons_succ, Option.some.injEq] at t1 t2 t7 t8 t9
      subst t1 t2 t7 t8 t9
      by_cases hin : i < n
      · have hin' : (i : Int) < (n : Int) := by omega
        have hib : (i : Int) ≤ 200 := by omega
        have hc := fun W => conv_K W i (by omega)
        have hks : (K i).size ≤ 9223372036854775807 := by rw [K_size]; omega
        have hno := hP.no i (Nat.le_refl _) (by omega)
        have hgs : ∀ W', One w W' bd d → _ := fun W' h => set_1 h (K i) (.int .i64 (i : Int)) hks ⟨_, rfl⟩ (by rw [hP.n]; omega)
        rw [hno] at hgs
        have HNO := Lib.hid hno
        clear hno
        go_wp2_with fail
        refine (hgs _ (hT.chg0 ((Chg.refl _ _).alloc _))).mono ?_
        rintro e5 W5 ⟨rfl, d', hT1, _, hP1, hs1⟩
        simp only [Option.isNone_none, if_true] at hs1
        have hP' := hP.next (by omega) hP1 (by rw [HNO.out]; simpa using hs1)
        clear hgs hc hs1
        go_wp2_with fail
        exact ⟨n - (i + 1), by omega, i + 1, _, rfl, by omega, ⟨rfl, rfl, rfl, rfl, rfl, rfl, rfl⟩, hT1, hP'⟩
      · have hin' : ((i : Int) < (n : Int)) = False := by simp only [eq_iff_iff, iff_false]; omega
        have hin2 : (i < n) = False := by simp only [eq_iff_iff, iff_false]; omega
        have hiN : i = n := by omega
        subst hiN
        clear hin
        go_wp2_with fail
        exact ⟨rfl, ⟨rfl, rfl, rfl, rfl, rfl, rfl⟩, d, hT, hP⟩
  · clear hT dn dl dsh
    rintro e ⟨tmps, ds⟩ W ⟨rfl, ⟨hsz, t1, t2, t7, t8, rfl⟩, d, hT, hP⟩
    replace hsz : tmps.size = 115 := hsz
    dsimp only at t1 t2 t7 t8
    revert t1 t2 t7 t8
    revert hsz
    revert tmps
    refine all115 ?_
    intro u0 u1 u2 u3 u4 u5 u6 u7 u8 u9 u10 u11 u12 u13 u14 u15 u16 u17 u18 u19 u20 u21 u22 u23 u24 u25 u26 u27 u28 u29 u30 u31 u32 u33 u34 u35 u36 u37 u38 u39 u40 u41 u42 u43 u44 u45 u46 u47 u48 u49 u50 u51 u52 u53 u54 u55 u56 u57 u58 u59 u60 u61 u62 u63 u64 u65 u66 u67 u68 u69 u70 u71 u72 u73 u74 u75 u76 u77 u78 u79 u80 u81 u82 u83 u84 u85 u86 u87 u88 u89 u90 u91 u92 u93 u94 u95 u96 u97 u98 u99 u100 u101 u102 u103 u104 u105 u106 u107 u108 u109 u110 u111 u112 u113 u114 t1 t2 t7 t8
    simp only [ptr, List.getElem?_toArray, List.getElem?_cons_zero, List.getElem?_cons_succ, Option.some.injEq] at t1 t2 t7 t8
    subst t1 t2 t7 t8
    obtain ⟨ps, cs, rfl⟩ := hv.is
    go_upto_block 2 with (fail)
    refine wp_mono (Q := Post2 w n) ?_ ?_
    · go_wp2_with fail
      refine wp_loop_ghost (Inv2 w n (.slice ps ks cs) bd) 4294967296 ?_ ?_
      · have hg := good_at n hn
        rw [← hP.sh] at hg
        have e0 : curW (scanA d) 0 = 0 := by rw [curW_eq Nat.one_le_two_pow, cur_zero]
        exact ⟨0, 0, d, _, [], by rw [Nat.zero_mul], ⟨rfl, rfl, rfl, rfl, rfl, rfl, by rw [e0]; rfl, rfl, rfl⟩, hT, Strs.nil _ _, (fun g hg => (by cases hg)), ⟨hP.n, Nat.zero_le _, Told.zero _ _, fun _ => rfl, fun h => absurd h (Nat.lt_irrefl _), Nat.le_of_eq (by rw [Nat.zero_mul, Nat.zero_mul]), hg.1, hg.2⟩⟩
      · clear hT hP
        rintro m ⟨tmps, ds⟩ W5 ⟨i, k, d, o, l, rfl, ⟨hsz, t1, t2, t7, t8, t10, t11, t12, rfl⟩, hT, ho, hap, hS⟩
        replace hsz : tmps.size = 115 := hsz
        dsimp only at t1 t2 t7 t8 t10 t11 t12
        revert t1 t2 t7 t8 t10 t11 t12
        revert hsz
        revert tmps
        refine all115 ?_
        intro u0 u1 u2 u3 u4 u5 u6 u7 u8 u9 u10 u11 u12 u13 u14 u15 u16 u17 u18 u19 u20 u21 u22 u23 u24 u25 u26 u27 u28 u29 u30 u31 u32 u33 u34 u35 u36 u37 u38 u39 u40 u41 u42 u43 u44 u45 u46 u47 u48 u49 u50 u51 u52 u53 u54 u55 u56 u57 u58 u59 u60 u61 u62 u63 u64 u65 u66 u67 u68 u69 u70 u71 u72 u73 u74 u75 u76 u77 u78 u79 u80 u81 u82 u83 u84 u85 u86 u87 u88 u89 u90 u91 u92 u93 u94 u95 u96 u97 u98 u99 u100 u101 u102 u103 u104 u105 u106 u107 u108 u109 u110 u111 u112 u113 u114 t1 t2 t7 t8 t10 t11 t12
        simp only [ptr, List.getElem?_toArray, List.getElem?_cons_zero, List.getElem?_cons_succ, Option.some.injEq] at t1 t2 t7 t8 t10 t11 t12
        subst t1 t2 t7 t8 t10 t11 t12
        have hok := hT.md.ok
        have hi512 := hS.i_le hok
        have hA2 := scanA_le hok
        by_cases hkl : k = 2 ^ scanA d
        · have hi0 : 0 < i := by
            rcases Nat.eq_zero_or_pos i with h | h
            · have h1 := hS.z h; have h2 := Nat.two_pow_pos (scanA d); omega
            · exact h
          have hc0 : curW (scanA d) k = 0 := by rw [hkl, curW_full]
          have hp := Told.all hok (a := scanA d) (l := l) (by omega) (by rw [← hkl]; exact hS.told)
          have hnd := hp.nodup_iff.2 hok.keys
          have hln : l.length = n := by rw [hp.length_eq, List.length_map, ← hok.count, hS.n]
          rw [hc0]
          have hk0 : ((i : Int) == 0) = false := by rw [beq_eq_false_iff_ne]; omega
          have hk1 : ¬ (i : Int) = 0 := by omega
          clear hkl hc0 hp hS
          go_wp2_with fail
          exact ⟨rfl, u10, l, ⟨rfl, rfl, rfl, rfl, rfl, rfl⟩, hT.chg, ho, hnd, hln⟩
        · have hle := hS.le
          have hklt : k < 2 ^ scanA d := by omega
          have hn1 : d.n ≤ 100000 := by rw [hS.n]; omega
          have hsc := scan_1 hT (curW (scanA d) k) (curW_lt32 _ _) hn1
          rw [curW_eq hklt, scanC_cur hok hklt] at hsc
          obtain ⟨hS7, hlt8⟩ := hS.scan hok hklt
          replace hlt8 := Lib.hid hlt8
          have hl1 := hS7.told.len hok
          rw [List.length_append, hS.n] at hl1
          have hA' : l.length + (scanL d (cur (scanA d) k)).length ≤ maxLen := by unfold maxLen; omega
          have hB' : (l.length + (scanL d (cur (scanA d) k)).length) * 16 ≤ 140737488355328 := by omega
          have hcne : ¬ i = 0 → curW (scanA d) k ≠ 0 := fun h0 => curW_ne (by omega) (hS.pos (by omega)) hklt
          rw [curW_eq hklt] at hcne ⊢
          generalize hcc : cur (scanA d) k = cc at *
          by_cases hi0 : i = 0
          · subst hi0
            clear hcne
            go_wp2_with fail
            refine hsc.mono ?_
            rintro e2 W6 ⟨⟨v2, rfl, hs2⟩, hT6, hC2⟩
            have hv2 := ho.chg hC2 (fun _ _ => id)
            obtain ⟨pa, ca, rfl, hpa⟩ := hs2.is
            have hD' : w.heap.size ≤ W6.heap.size := hT6.chg.size
            obtain ⟨i0, hi0, hz0, hz1, hz2⟩ := info_parts str_info
            clear hsc
            by_cases hks : 0 < ks
            · have hks' : (0 : Int) < (ks : Int) := by omega
              by_cases h100 : 0 < 100
              · have h100' : (0 : Int) < 100 := by omega
                obtain ⟨b, off, cap', heq, _⟩ := hv.at_ 0 hks
                injection heq with heq hx hcap
                subst heq hcap
                clear hx
                obtain ⟨r, hr, hr0, hr20⟩ := mod21 (g 0)
                go_wp2_with (at_builtin
                             refine wpList_append_any _ rfl (.tmp 63) (.tmp 64) 38 rfl w.heap.size 9 i0 _ 1 16 Try.underlying38 hi0 hz0 hz1 hz2 rfl (by omega) _ _ _ rfl hv2.own W6.heap.size pa _ ca _ rfl hs2.reads (strs_one _) hA' hB' hD' ?_
                             intro v3 w3 hown3 hg3 hat3
                             have cG : Chg (fun g => u10.ownBlock = some g) W6 w3 := Chg.of_grown hg3 fun g hgg => hgg
                             have hT7 := hT6.chgS cG (fun g hg h' => hap g h' hg) (fun g hg h' => by have := (hv2.lt g h').1; omega)
                             have ho7 : Strs w3 w.heap.size v3 (l ++ scanL d cc) := Strs.mk hown3 (by simp) (by simp)
                             have hap7 : ∀ g, v3.ownBlock = some g → ¬ d.foot g := fun g hg => by
                               rcases hat3 with h' | h'
                               · exact hap g (h' ▸ hg)
                               · rw [h'] at hg; injection hg with hg; intro hf; have := hT6.md.lt hf; omega
                             have hv7 := hv.chg hT7.chg
                             clear hT6 hC2 hv2 hs2 hpa hown3 hat3 cG hg3
                             obtain ⟨hb, f1⟩ := ints1 hv7 hks; rw [Nat.add_zero] at f1)
                have hst := step_1 hT7 r
                refine hst.mono ?_
                rintro e8 W8 ⟨rfl, d', hT8, hX, hSt, hsh⟩
                obtain ⟨hS8, hm8, hc8⟩ := hS7.step hX hSt hsh hok
                have ho8 := ho7.chg hX.chg hap7
                have hap8 : ∀ g, v3.ownBlock = some g → ¬ d'.foot g := fun g hg hf => by
                  rcases hX.foot g hf with h' | h'
                  · exact hap7 g hg h'
                  · have := (ho7.lt g hg).2; omega
                clear hst
                go_wp2_with fail
                exact ⟨_, by rw [hm8]; exact hlt8.out, 0 + 1, _, d', v3, _, rfl, ⟨rfl, rfl, rfl, rfl, rfl, rfl, by rw [hc8]; rfl, rfl, rfl⟩, hT8, ho8, hap8, hS8⟩
              · exact absurd (by decide : 0 < 100) h100
            · obtain rfl : ks = 0 := by omega
              clear hks
              go_wp2_with (at_builtin
                           refine wpList_append_any _ rfl (.tmp 63) (.tmp 64) 38 rfl w.heap.size 9 i0 _ 1 16 Try.underlying38 hi0 hz0 hz1 hz2 rfl (by omega) _ _ _ rfl hv2.own W6.heap.size pa _ ca _ rfl hs2.reads (strs_one _) hA' hB' hD' ?_
                           intro v3 w3 hown3 hg3 hat3
                           have cG : Chg (fun g => u10.ownBlock = some g) W6 w3 := Chg.of_grown hg3 fun g hgg => hgg
                           have hT7 := hT6.chgS cG (fun g hg h' => hap g h' hg) (fun g hg h' => by have := (hv2.lt g h').1; omega)
                           have ho7 : Strs w3 w.heap.size v3 (l ++ scanL d cc) := Strs.mk hown3 (by simp) (by simp)
                           have hap7 : ∀ g, v3.ownBlock = some g → ¬ d.foot g := fun g hg => by
                             rcases hat3 with h' | h'
                             · exact hap g (h' ▸ hg)
                             · rw [h'] at hg; injection hg with hg; intro hf; have := hT6.md.lt hf; omega
                           have hv7 := hv.chg hT7.chg
                           clear hT6 hC2 hv2 hs2 hpa hown3 hat3 cG hg3
                           clear hap)
              exact ⟨_, hlt8.out, 0 + 1, k + 1, d, v3, _, rfl, ⟨rfl, rfl, rfl, rfl, rfl, rfl, rfl, rfl, rfl⟩, hT7, ho7, hap7, hS7⟩
          · have hb0 : ((i : Int) == 0) = false := by rw [beq_eq_false_iff_ne]; omega
            have hc1 : ((cc : Int) == 0) = false := by rw [beq_eq_false_iff_ne]; have := hcne hi0; omega
            have hc2 : ¬ (cc : Int) = 0 := by have := hcne hi0; omega
            have hc3 : ((cc : Int) != 0) = true := by rw [bne_iff_ne]; exact hc2
            have hi3 : (i : Int) < 3000 := by omega
            have hi5 : (i : Int) ≤ 512 := by omega
            clear hcne
            go_wp2_with fail
            refine hsc.mono ?_
            rintro e2 W6 ⟨⟨v2, rfl, hs2⟩, hT6, hC2⟩
            have hv2 := ho.chg hC2 (fun _ _ => id)
            obtain ⟨pa, ca, rfl, hpa⟩ := hs2.is
            have hD' : w.heap.size ≤ W6.heap.size := hT6.chg.size
            obtain ⟨i0, hi0, hz0, hz1, hz2⟩ := info_parts str_info
            clear hsc
            by_cases hks : i < ks
            · have hks' : ((i : Int) : Int) < (ks : Int) := by omega
              by_cases h100 : i < 100
              · have h100' : ((i : Int) : Int) < 100 := by omega
                obtain ⟨b, off, cap', heq, _⟩ := hv.at_ i hks
                injection heq with heq hx hcap
                subst heq hcap
                clear hx
                obtain ⟨r, hr, hr0, hr20⟩ := mod21 (g i)
                go_wp2_with (at_builtin
                             refine wpList_append_any _ rfl (.tmp 63) (.tmp 64) 38 rfl w.heap.size 9 i0 _ 1 16 Try.underlying38 hi0 hz0 hz1 hz2 rfl (by omega) _ _ _ rfl hv2.own W6.heap.size pa _ ca _ rfl hs2.reads (strs_one _) hA' hB' hD' ?_
                             intro v3 w3 hown3 hg3 hat3
                             have cG : Chg (fun g => u10.ownBlock = some g) W6 w3 := Chg.of_grown hg3 fun g hgg => hgg
                             have hT7 := hT6.chgS cG (fun g hg h' => hap g h' hg) (fun g hg h' => by have := (hv2.lt g h').1; omega)
                             have ho7 : Strs w3 w.heap.size v3 (l ++ scanL d cc) := Strs.mk hown3 (by simp) (by simp)
                             have hap7 : ∀ g, v3.ownBlock = some g → ¬ d.foot g := fun g hg => by
                               rcases hat3 with h' | h'
                               · exact hap g (h' ▸ hg)
                               · rw [h'] at hg; injection hg with hg; intro hf; have := hT6.md.lt hf; omega
                             have hv7 := hv.chg hT7.chg
                             clear hT6 hC2 hv2 hs2 hpa hown3 hat3 cG hg3
                             obtain ⟨hb, f1⟩ := ints1 hv7 hks)
                have hst := step_1 hT7 r
                refine hst.mono ?_
                rintro e8 W8 ⟨rfl, d', hT8, hX, hSt, hsh⟩
                obtain ⟨hS8, hm8, hc8⟩ := hS7.step hX hSt hsh hok
                have ho8 := ho7.chg hX.chg hap7
                have hap8 : ∀ g, v3.ownBlock = some g → ¬ d'.foot g := fun g hg hf => by
                  rcases hX.foot g hf with h' | h'
                  · exact hap7 g hg h'
                  · have := (ho7.lt g hg).2; omega
                clear hst
                go_wp2_with fail
                exact ⟨_, by rw [hm8]; exact hlt8.out, i + 1, _, d', v3, _, rfl, ⟨rfl, rfl, rfl, rfl, rfl, rfl, by rw [hc8]; rfl, rfl, rfl⟩, hT8, ho8, hap8, hS8⟩
              · have h100' : ((i : Int) < 100) = False := by simp only [eq_iff_iff, iff_false]; omega
                clear h100
                go_wp2_with (at_builtin
                             refine wpList_append_any _ rfl (.tmp 63) (.tmp 64) 38 rfl w.heap.size 9 i0 _ 1 16 Try.underlying38 hi0 hz0 hz1 hz2 rfl (by omega) _ _ _ rfl hv2.own W6.heap.size pa _ ca _ rfl hs2.reads (strs_one _) hA' hB' hD' ?_
                             intro v3 w3 hown3 hg3 hat3
                             have cG : Chg (fun g => u10.ownBlock = some g) W6 w3 := Chg.of_grown hg3 fun g hgg => hgg
                             have hT7 := hT6.chgS cG (fun g hg h' => hap g h' hg) (fun g hg h' => by have := (hv2.lt g h').1; omega)
                             have ho7 : Strs w3 w.heap.size v3 (l ++ scanL d cc) := Strs.mk hown3 (by simp) (by simp)
                             have hap7 : ∀ g, v3.ownBlock = some g → ¬ d.foot g := fun g hg => by
                               rcases hat3 with h' | h'
                               · exact hap g (h' ▸ hg)
                               · rw [h'] at hg; injection hg with hg; intro hf; have := hT6.md.lt hf; omega
                             have hv7 := hv.chg hT7.chg
                             clear hT6 hC2 hv2 hs2 hpa hown3 hat3 cG hg3
                             clear hap)
                exact ⟨_, hlt8.out, i + 1, k + 1, d, v3, _, rfl, ⟨rfl, rfl, rfl, rfl, rfl, rfl, rfl, rfl, rfl⟩, hT7, ho7, hap7, hS7⟩
            · have hks' : ((i : Int) < (ks : Int)) = False := by simp only [eq_iff_iff, iff_false]; omega
              have hks2 : (i < ks) = False := by simp only [eq_iff_iff, iff_false]; omega
              clear hks
              go_wp2_with (at_builtin
                           refine wpList_append_any _ rfl (.tmp 63) (.tmp 64) 38 rfl w.heap.size 9 i0 _ 1 16 Try.underlying38 hi0 hz0 hz1 hz2 rfl (by omega) _ _ _ rfl hv2.own W6.heap.size pa _ ca _ rfl hs2.reads (strs_one _) hA' hB' hD' ?_
                           intro v3 w3 hown3 hg3 hat3
                           have cG : Chg (fun g => u10.ownBlock = some g) W6 w3 := Chg.of_grown hg3 fun g hgg => hgg
                           have hT7 := hT6.chgS cG (fun g hg h' => hap g h' hg) (fun g hg h' => by have := (hv2.lt g h').1; omega)
                           have ho7 : Strs w3 w.heap.size v3 (l ++ scanL d cc) := Strs.mk hown3 (by simp) (by simp)
                           have hap7 : ∀ g, v3.ownBlock = some g → ¬ d.foot g := fun g hg => by
                             rcases hat3 with h' | h'
                             · exact hap g (h' ▸ hg)
                             · rw [h'] at hg; injection hg with hg; intro hf; have := hT6.md.lt hf; omega
                           have hv7 := hv.chg hT7.chg
                           clear hT6 hC2 hv2 hs2 hpa hown3 hat3 cG hg3
                           clear hap)
              exact ⟨_, hlt8.out, i + 1, k + 1, d, v3, _, rfl, ⟨rfl, rfl, rfl, rfl, rfl, rfl, rfl, rfl, rfl⟩, hT7, ho7, hap7, hS7⟩
    · clear hT hP
      rintro e ⟨tmps, ds⟩ W5 ⟨rfl, o, l, ⟨hsz, t1, t7, t10, t11, rfl⟩, hT, ho, hnd, hln⟩
      replace hsz : tmps.size = 115 := hsz
      dsimp only at t1 t7 t10 t11
      revert t1 t7 t10 t11
      revert hsz
      revert tmps
      refine all115 ?_
      intro u0 u1 u2 u3 u4 u5 u6 u7 u8 u9 u10 u11 u12 u13 u14 u15 u16 u17 u18 u19 u20 u21 u22 u23 u24 u25 u26 u27 u28 u29 u30 u31 u32 u33 u34 u35 u36 u37 u38 u39 u40 u41 u42 u43 u44 u45 u46 u47 u48 u49 u50 u51 u52 u53 u54 u55 u56 u57 u58 u59 u60 u61 u62 u63 u64 u65 u66 u67 u68 u69 u70 u71 u72 u73 u74 u75 u76 u77 u78 u79 u80 u81 u82 u83 u84 u85 u86 u87 u88 u89 u90 u91 u92 u93 u94 u95 u96 u97 u98 u99 u100 u101 u102 u103 u104 u105 u106 u107 u108 u109 u110 u111 u112 u113 u114 t1 t7 t10 t11
      simp only [ptr, List.getElem?_toArray, List.getElem?_cons_zero, List.getElem?_cons_succ, Option.some.injEq] at t1 t7 t10 t11
      subst t1 t7 t10 t11
      obtain ⟨pu, cu, rfl, hlu, hcu, hpu⟩ := ho.is
      subst hln
      go_wp2_with fail
      refine wp_loop_ghost (Inv3 W5 l.length (.slice pu l.length cu)) l.length ?_ ?_
      · exact ⟨0, rfl, Nat.zero_le _, ⟨rfl, rfl, rfl, rfl, rfl, rfl, rfl⟩, Chg.refl _ _⟩
      · rintro m ⟨tmps, ds⟩ W6 ⟨i, rfl, hi, ⟨hsz, t1, t7, t10, t11, t15, rfl⟩, hC6⟩
        replace hsz : tmps.size = 115 := hsz
        dsimp only at t1 t7 t10 t11 t15
        revert t1 t7 t10 t11 t15
        revert hsz
        revert tmps
        refine all115 ?_
        intro u0 u1 u2 u3 u4 u5 u6 u7 u8 u9 u10 u11 u12 u13 u14 u15 u16 u17 u18 u19 u20 u21 u22 u23 u24 u25 u26 u27 u28 u29 u30 u31 u32 u33 u34 u35 u36 u37 u38 u39 u40 u41 u42 u43 u44 u45 u46 u47 u48 u49 u50 u51 u52 u53 u54 u55 u56 u57 u58 u59 u60 u61 u62 u63 u64 u65 u66 u67 u68 u69 u70 u71 u72 u73 u74 u75 u76 u77 u78 u79 u80 u81 u82 u83 u84 u85 u86 u87 u88 u89 u90 u91 u92 u93 u94 u95 u96 u97 u98 u99 u100 u101 u102 u103 u104 u105 u106 u107 u108 u109 u110 u111 u112 u113 u114 t1 t7 t10 t11 t15
        simp only [ptr, List.getElem?_toArray, List.getElem?_cons_zero, List.getElem?_cons_succ, Option.some.injEq] at t1 t7 t10 t11 t15
        subst t1 t7 t10 t11 t15
        by_cases hlt : i < l.length
        · have hlt' : (i : Int) < (l.length : Int) := by omega
          have hib : (i : Int) ≤ 200 := by omega
          go_wp2_with fail
          refine wp_loop_ghost (Inv4 W5 l.length (.slice pu l.length cu) i) i ?_ ?_
          · exact ⟨0, rfl, Nat.zero_le _, ⟨rfl, rfl, rfl, rfl, rfl, rfl, rfl, rfl⟩, hC6⟩
          · clear hC6
            rintro m ⟨tmps, ds⟩ W7 ⟨j, rfl, hj, ⟨hsz, t1, t7, t10, t11, t15, t16, rfl⟩, hC7⟩
            replace hsz : tmps.size = 115 := hsz
            dsimp only at t1 t7 t10 t11 t15 t16
            revert t1 t7 t10 t11 t15 t16
            revert hsz
            revert tmps
            refine all115 ?_
            intro u0 u1 u2 u3 u4 u5 u6 u7 u8 u9 u10 u11 u12 u13 u14 u15 u16 u17 u18 u19 u20 u21 u22 u23 u24 u25 u26 u27 u28 u29 u30 u31 u32 u33 u34 u35 u36 u37 u38 u39 u40 u41 u42 u43 u44 u45 u46 u47 u48 u49 u50 u51 u52 u53 u54 u55 u56 u57 u58 u59 u60 u61 u62 u63 u64 u65 u66 u67 u68 u69 u70 u71 u72 u73 u74 u75 u76 u77 u78 u79 u80 u81 u82 u83 u84 u85 u86 u87 u88 u89 u90 u91 u92 u93 u94 u95 u96 u97 u98 u99 u100 u101 u102 u103 u104 u105 u106 u107 u108 u109 u110 u111 u112 u113 u114 t1 t7 t10 t11 t15 t16
            simp only [ptr, List.getElem?_toArray, List.getElem?_cons_zero, List.getElem?_cons_succ, Option.some.injEq] at t1 t7 t10 t11 t15 t16
            subst t1 t7 t10 t11 t15 t16
            by_cases hjl : j < i
            · have hjl' : (j : Int) < (i : Int) := by omega
              have hjb : (j : Int) ≤ 200 := by omega
              have hjn : j < l.length := by omega
              have hu7 := ho.chg hC7 fun _ _ => id
              obtain ⟨gb, rfl, _, g2, g3⟩ := hu7.at_ hlt
              obtain ⟨gb', hgb, _, g4, g5⟩ := hu7.at_ hjn
              injection hgb with hgb
              injection hgb with hgb
              subst hgb
              have hne : ¬ l[i] = l[j] := fun e => (List.pairwise_iff_getElem.1 hnd) j i hjn hlt hjl e.symm
              have he2 := toList_ne hne
              have hjn' : (j : Int) < (l.length : Int) := by omega
              generalize l[i] = ki at g3 hne he2
              generalize l[j] = kj at g5 hne he2
              go_wp2_with fail
              go_quiet (fail)
              go_wp2_with fail
              exact ⟨i - (j + 1), by omega, j + 1, rfl, by omega, ⟨rfl, rfl, rfl, rfl, rfl, rfl, rfl, rfl⟩, hC7.trans ((Chg.refl _ _).drewN _)⟩
            · have hjl' : ((j : Int) < (i : Int)) = False := by simp only [eq_iff_iff, iff_false]; omega
              have hjl2 : (j < i) = False := by simp only [eq_iff_iff, iff_false]; omega
              clear hjl
              go_wp2_with fail
              exact ⟨l.length - (i + 1), by omega, i + 1, rfl, by omega, ⟨rfl, rfl, rfl, rfl, rfl, rfl, rfl⟩, hC7⟩
        · have hlt' : ((i : Int) < (l.length : Int)) = False := by simp only [eq_iff_iff, iff_false]; omega
          have hlt2 : (i < l.length) = False := by simp only [eq_iff_iff, iff_false]; omega
          have hCC := hT.trans hC6
          clear hlt
          go_wp2_with fail
          go_ret
          exact ⟨rfl, hCC⟩

set_option maxRecDepth 100000 in
set_option maxHeartbeats 4000000 in
theorem walk_out (s1 : Nat) (n : Int) (hn : n < 0 ∨ (0 ≤ n ∧ n > 200)) (st : Value) (w : World) :
    Calls Try.prog 9 #[.int .u32 (s1 : Int), .int .i64 n, st] w fun e w' => e = .returned (.bool true) ∧ Chg (fun _ => False) w w' := by
  rcases hn with hn | ⟨h1, h2⟩
  · go_enter Try.func9, Try.ntmps9
    go_wp2_with fail
    refine (shown08_any w).mono ?_
    rintro e w1 ⟨rfl, rfl⟩
    go_wp2_with fail
    go_ret
    exact ⟨rfl, Chg.refl _ _⟩
  · have h1' : ¬ n < 0 := by omega
    go_enter Try.func9, Try.ntmps9
    go_wp2_with fail
    refine (shown08_any w).mono ?_
    rintro e w1 ⟨rfl, rfl⟩
    go_wp2_with fail
    go_ret
    exact ⟨rfl, Chg.refl _ _⟩

set_option maxRecDepth 100000 in
theorem ScanMoves_walk (W : World) (a0 : Int) (w0 : (Lit.int .u32 a0).wf = true) (a1 : Int) (w1 : (Lit.int .i64 a1).wf = true) {H : Type} {enc : TypeId × Value → H} {v : Value} {d : DataW H} {p : List MemPlace}
    (hv : Value.okWide Try.prog W .any 0 61 v) (h : DataW.Trod enc Try.prog W 0 (fun _ => true) true 61 v d p) :
    Calls Try.prog 9 #[.int .u32 a0, .int .i64 a1, v] W fun e W' => e = .returned (.bool true) ∧ Chg (fun _ => False) W W' := by
  obtain ⟨s0, rfl, h0⟩ := u32_of_wf w0
  obtain ⟨n, g, hg⟩ := open_ints1 hv h
  by_cases hr : 0 ≤ a1 ∧ a1 ≤ 200
  · obtain ⟨m, rfl⟩ : ∃ m : Nat, a1 = (m : Int) := ⟨a1.toNat, by omega⟩
    exact walk_in s0 h0 m (by omega) v n g W hg
  · exact walk_out s0 a1 (by omega) v W

end Go.Proofs.Ythbjjjcppijcbaa.scanMoves
