/- The walk of DictSeeds. -/
import Derived.Test.YthbjjjcppijcbaaTWint
import Derived.Test.YthbjjjcppijcbaaS7
import Derived.Deep.LoopGhost
namespace Go.Proofs.Ythbjjjcppijcbaa.dictSeeds
open Go.RowKit Pal Dint

theorem all104 {P : Array Value → Prop} (h : ∀ u0 u1 u2 u3 u4 u5 u6 u7 u8 u9 u10 u11 u12 u13 u14 u15 u16 u17 u18 u19 u20 u21 u22 u23 u24 u25 u26 u27 u28 u29 u30 u31 u32 u33 u34 u35 u36 u37 u38 u39 u40 u41 u42 u43 u44 u45 u46 u47 u48 u49 u50 u51 u52 u53 u54 u55 u56 u57 u58 u59 u60 u61 u62 u63 u64 u65 u66 u67 u68 u69 u70 u71 u72 u73 u74 u75 u76 u77 u78 u79 u80 u81 u82 u83 u84 u85 u86 u87 u88 u89 u90 u91 u92 u93 u94 u95 u96 u97 u98 u99 u100 u101 u102 u103 : Value, P #[u0, u1, u2, u3, u4, u5, u6, u7, u8, u9, u10, u11, u12, u13, u14, u15, u16, u17, u18, u19, u20, u21, u22, u23, u24, u25, u26, u27, u28, u29, u30, u31, u32, u33, u34, u35, u36, u37, u38, u39, u40, u41, u42, u43, u44, u45, u46, u47, u48, u49, u50, u51, u52, u53, u54, u55, u56, u57, u58, u59, u60, u61, u62, u63, u64, u65, u66, u67, u68, u69, u70, u71, u72, u73, u74, u75, u76, u77, u78, u79, u80, u81, u82, u83, u84, u85, u86, u87, u88, u89, u90, u91, u92, u93, u94, u95, u96, u97, u98, u99, u100, u101, u102, u103]) (a : Array Value) (hs : a.size = 104) : P a := by
  obtain ⟨l⟩ := a
  have g0 : l.length = 104 := hs
  clear hs
  obtain ⟨u0, l0, e0, g1⟩ := Pal.len_cons g0
  obtain ⟨u1, l1, e1, g2⟩ := Pal.len_cons g1
  obtain ⟨u2, l2, e2, g3⟩ := Pal.len_cons g2
  obtain ⟨u3, l3, e3, g4⟩ := Pal.len_cons g3
  obtain ⟨u4, l4, e4, g5⟩ := Pal.len_cons g4
  obtain ⟨u5, l5, e5, g6⟩ := Pal.len_cons g5
  obtain ⟨u6, l6, e6, g7⟩ := Pal.len_cons g6
  obtain ⟨u7, l7, e7, g8⟩ := Pal.len_cons g7
  obtain ⟨u8, l8, e8, g9⟩ := Pal.len_cons g8
  obtain ⟨u9, l9, e9, g10⟩ := Pal.len_cons g9
  obtain ⟨u10, l10, e10, g11⟩ := Pal.len_cons g10
  obtain ⟨u11, l11, e11, g12⟩ := Pal.len_cons g11
  obtain ⟨u12, l12, e12, g13⟩ := Pal.len_cons g12
  obtain ⟨u13, l13, e13, g14⟩ := Pal.len_cons g13
  obtain ⟨u14, l14, e14, g15⟩ := Pal.len_cons g14
  obtain ⟨u15, l15, e15, g16⟩ := Pal.len_cons g15
  obtain ⟨u16, l16, e16, g17⟩ := Pal.len_cons g16
  obtain ⟨u17, l17, e17, g18⟩ := Pal.len_cons g17
  obtain ⟨u18, l18, e18, g19⟩ := Pal.len_cons g18
  obtain ⟨u19, l19, e19, g20⟩ := Pal.len_cons g19
  obtain ⟨u20, l20, e20, g21⟩ := Pal.len_cons g20
  obtain ⟨u21, l21, e21, g22⟩ := Pal.len_cons g21
  obtain ⟨u22, l22, e22, g23⟩ := Pal.len_cons g22
  obtain ⟨u23, l23, e23, g24⟩ := Pal.len_cons g23
  obtain ⟨u24, l24, e24, g25⟩ := Pal.len_cons g24
  obtain ⟨u25, l25, e25, g26⟩ := Pal.len_cons g25
  obtain ⟨u26, l26, e26, g27⟩ := Pal.len_cons g26
  obtain ⟨u27, l27, e27, g28⟩ := Pal.len_cons g27
  obtain ⟨u28, l28, e28, g29⟩ := Pal.len_cons g28
  obtain ⟨u29, l29, e29, g30⟩ := Pal.len_cons g29
  obtain ⟨u30, l30, e30, g31⟩ := Pal.len_cons g30
  obtain ⟨u31, l31, e31, g32⟩ := Pal.len_cons g31
  obtain ⟨u32, l32, e32, g33⟩ := Pal.len_cons g32
  obtain ⟨u33, l33, e33, g34⟩ := Pal.len_cons g33
  obtain ⟨u34, l34, e34, g35⟩ := Pal.len_cons g34
  obtain ⟨u35, l35, e35, g36⟩ := Pal.len_cons g35
  obtain ⟨u36, l36, e36, g37⟩ := Pal.len_cons g36
  obtain ⟨u37, l37, e37, g38⟩ := Pal.len_cons g37
  obtain ⟨u38, l38, e38, g39⟩ := Pal.len_cons g38
  obtain ⟨u39, l39, e39, g40⟩ := Pal.len_cons g39
  obtain ⟨u40, l40, e40, g41⟩ := Pal.len_cons g40
  obtain ⟨u41, l41, e41, g42⟩ := Pal.len_cons g41
  obtain ⟨u42, l42, e42, g43⟩ := Pal.len_cons g42
  obtain ⟨u43, l43, e43, g44⟩ := Pal.len_cons g43
  obtain ⟨u44, l44, e44, g45⟩ := Pal.len_cons g44
  obtain ⟨u45, l45, e45, g46⟩ := Pal.len_cons g45
  obtain ⟨u46, l46, e46, g47⟩ := Pal.len_cons g46
  obtain ⟨u47, l47, e47, g48⟩ := Pal.len_cons g47
  obtain ⟨u48, l48, e48, g49⟩ := Pal.len_cons g48
  obtain ⟨u49, l49, e49, g50⟩ := Pal.len_cons g49
  obtain ⟨u50, l50, e50, g51⟩ := Pal.len_cons g50
  obtain ⟨u51, l51, e51, g52⟩ := Pal.len_cons g51
  obtain ⟨u52, l52, e52, g53⟩ := Pal.len_cons g52
  obtain ⟨u53, l53, e53, g54⟩ := Pal.len_cons g53
  obtain ⟨u54, l54, e54, g55⟩ := Pal.len_cons g54
  obtain ⟨u55, l55, e55, g56⟩ := Pal.len_cons g55
  obtain ⟨u56, l56, e56, g57⟩ := Pal.len_cons g56
  obtain ⟨u57, l57, e57, g58⟩ := Pal.len_cons g57
  obtain ⟨u58, l58, e58, g59⟩ := Pal.len_cons g58
  obtain ⟨u59, l59, e59, g60⟩ := Pal.len_cons g59
  obtain ⟨u60, l60, e60, g61⟩ := Pal.len_cons g60
  obtain ⟨u61, l61, e61, g62⟩ := Pal.len_cons g61
  obtain ⟨u62, l62, e62, g63⟩ := Pal.len_cons g62
  obtain ⟨u63, l63, e63, g64⟩ := Pal.len_cons g63
  obtain ⟨u64, l64, e64, g65⟩ := Pal.len_cons g64
  obtain ⟨u65, l65, e65, g66⟩ := Pal.len_cons g65
  obtain ⟨u66, l66, e66, g67⟩ := Pal.len_cons g66
  obtain ⟨u67, l67, e67, g68⟩ := Pal.len_cons g67
  obtain ⟨u68, l68, e68, g69⟩ := Pal.len_cons g68
  obtain ⟨u69, l69, e69, g70⟩ := Pal.len_cons g69
  obtain ⟨u70, l70, e70, g71⟩ := Pal.len_cons g70
  obtain ⟨u71, l71, e71, g72⟩ := Pal.len_cons g71
  obtain ⟨u72, l72, e72, g73⟩ := Pal.len_cons g72
  obtain ⟨u73, l73, e73, g74⟩ := Pal.len_cons g73
  obtain ⟨u74, l74, e74, g75⟩ := Pal.len_cons g74
  obtain ⟨u75, l75, e75, g76⟩ := Pal.len_cons g75
  obtain ⟨u76, l76, e76, g77⟩ := Pal.len_cons g76
  obtain ⟨u77, l77, e77, g78⟩ := Pal.len_cons g77
  obtain ⟨u78, l78, e78, g79⟩ := Pal.len_cons g78
  obtain ⟨u79, l79, e79, g80⟩ := Pal.len_cons g79
  obtain ⟨u80, l80, e80, g81⟩ := Pal.len_cons g80
  obtain ⟨u81, l81, e81, g82⟩ := Pal.len_cons g81
  obtain ⟨u82, l82, e82, g83⟩ := Pal.len_cons g82
  obtain ⟨u83, l83, e83, g84⟩ := Pal.len_cons g83
  obtain ⟨u84, l84, e84, g85⟩ := Pal.len_cons g84
  obtain ⟨u85, l85, e85, g86⟩ := Pal.len_cons g85
  obtain ⟨u86, l86, e86, g87⟩ := Pal.len_cons g86
  obtain ⟨u87, l87, e87, g88⟩ := Pal.len_cons g87
  obtain ⟨u88, l88, e88, g89⟩ := Pal.len_cons g88
  obtain ⟨u89, l89, e89, g90⟩ := Pal.len_cons g89
  obtain ⟨u90, l90, e90, g91⟩ := Pal.len_cons g90
  obtain ⟨u91, l91, e91, g92⟩ := Pal.len_cons g91
  obtain ⟨u92, l92, e92, g93⟩ := Pal.len_cons g92
  obtain ⟨u93, l93, e93, g94⟩ := Pal.len_cons g93
  obtain ⟨u94, l94, e94, g95⟩ := Pal.len_cons g94
  obtain ⟨u95, l95, e95, g96⟩ := Pal.len_cons g95
  obtain ⟨u96, l96, e96, g97⟩ := Pal.len_cons g96
  obtain ⟨u97, l97, e97, g98⟩ := Pal.len_cons g97
  obtain ⟨u98, l98, e98, g99⟩ := Pal.len_cons g98
  obtain ⟨u99, l99, e99, g100⟩ := Pal.len_cons g99
  obtain ⟨u100, l100, e100, g101⟩ := Pal.len_cons g100
  obtain ⟨u101, l101, e101, g102⟩ := Pal.len_cons g101
  obtain ⟨u102, l102, e102, g103⟩ := Pal.len_cons g102
  obtain ⟨u103, l103, e103, g104⟩ := Pal.len_cons g103
  obtain rfl := List.eq_nil_of_length_eq_zero g104
  have e : (⟨l⟩ : Array Value) = #[u0, u1, u2, u3, u4, u5, u6, u7, u8, u9, u10, u11, u12, u13, u14, u15, u16, u17, u18, u19, u20, u21, u22, u23, u24, u25, u26, u27, u28, u29, u30, u31, u32, u33, u34, u35, u36, u37, u38, u39, u40, u41, u42, u43, u44, u45, u46, u47, u48, u49, u50, u51, u52, u53, u54, u55, u56, u57, u58, u59, u60, u61, u62, u63, u64, u65, u66, u67, u68, u69, u70, u71, u72, u73, u74, u75, u76, u77, u78, u79, u80, u81, u82, u83, u84, u85, u86, u87, u88, u89, u90, u91, u92, u93, u94, u95, u96, u97, u98, u99, u100, u101, u102, u103] := by rw [e0, e1, e2, e3, e4, e5, e6, e7, e8, e9, e10, e11, e12, e13, e14, e15, e16, e17, e18, e19, e20, e21, e22, e23, e24, e25, e26, e27, e28, e29, e30, e31, e32, e33, e34, e35, e36, e37, e38, e39, e40, e41, e42, e43, e44, e45, e46, e47, e48, e49, e50, e51, e52, e53, e54, e55, e56, e57, e58, e59, e60, e61, e62, e63, e64, e65, e66, e67, e68, e69, e70, e71, e72, e73, e74, e75, e76, e77, e78, e79, e80, e81, e82, e83, e84, e85, e86, e87, e88, e89, e90, e91, e92, e93, e94, e95, e96, e97, e98, e99, e100, e101, e102, e103]
  rw [e]
  exact h u0 u1 u2 u3 u4 u5 u6 u7 u8 u9 u10 u11 u12 u13 u14 u15 u16 u17 u18 u19 u20 u21 u22 u23 u24 u25 u26 u27 u28 u29 u30 u31 u32 u33 u34 u35 u36 u37 u38 u39 u40 u41 u42 u43 u44 u45 u46 u47 u48 u49 u50 u51 u52 u53 u54 u55 u56 u57 u58 u59 u60 u61 u62 u63 u64 u65 u66 u67 u68 u69 u70 u71 u72 u73 u74 u75 u76 u77 u78 u79 u80 u81 u82 u83 u84 u85 u86 u87 u88 u89 u90 u91 u92 u93 u94 u95 u96 u97 u98 u99 u100 u101 u102 u103

def SeedsAct (v : Value) (bd be i : Nat) (a : Act) : Prop :=
  a.tmps.size = 104 ∧ a.tmps[2]? = some v ∧ a.tmps[7]? = some (.bool true) ∧ a.tmps[8]? = some (ptr bd) ∧ a.tmps[9]? = some (ptr be) ∧ a.tmps[10]? = some (.int .i64 (i : Int)) ∧ a.defers = []

structure Same (i : Nat) (d e : Dm) : Prop where
  look : ∀ k, d.look k = e.look k
  n : d.n = e.n
  le : d.n ≤ i
def SeedsInv (w0 : World) (v : Value) (N bd be : Nat) (m : Nat) (a : Act) (w : World) : Prop :=
  ∃ i d e, m = N - i ∧ i ≤ N ∧ SeedsAct v bd be i a ∧ Two w0.heap.size w0 w bd be d e ∧ Same i d e

/-! ### the acts, on the one and on the other -/
section
variable {n0 : Nat} {w0 W : World} {bd be B : Nat} {d e : Dm} {t : TypeId} {cs : Array Value}
def Stays (d d' : Dm) : Prop := (∀ k, d'.look k = d.look k) ∧ d'.n = d.n
def Puts (key : ByteArray) (v : Value) (d d' : Dm) : Prop := (∀ k, d'.look k = if k = key then some v else d.look k) ∧ d'.n = if (d.look key).isNone then d.n + 1 else d.n
def Cuts (key : ByteArray) (d d' : Dm) : Prop := (∀ k, d'.look k = if k = key then none else d.look k) ∧ d'.n = if (d.look key).isSome then d.n - 1 else d.n

theorem Same.stays {i : Nat} {d e d' e' : Dm} (h : Same i d e) (hd : Stays d d') (he : Stays e e') : Same (i + 1) d' e' := ⟨fun k => by rw [hd.1, he.1, h.look], by rw [hd.2, he.2, h.n], by rw [hd.2]; have := h.le; omega⟩
theorem Same.puts {i : Nat} {d e d' e' : Dm} {key : ByteArray} {v : Value} (h : Same i d e) (hd : Puts key v d d') (he : Puts key v e e') : Same (i + 1) d' e' :=
  ⟨fun k => by rw [hd.1, he.1, h.look], by rw [hd.2, he.2, h.n, h.look], by rw [hd.2]; have := h.le; split <;> omega⟩
theorem Same.cuts {i : Nat} {d e d' e' : Dm} {key : ByteArray} (h : Same i d e) (hd : Cuts key d d') (he : Cuts key e e') : Same (i + 1) d' e' :=
  ⟨fun k => by rw [hd.1, he.1, h.look], by rw [hd.2, he.2, h.n, h.look], by rw [hd.2]; have := h.le; split <;> omega⟩

theorem set_l (h : TwoB n0 w0 W bd be d e B t cs) (key : ByteArray) (v : Value) (hk : key.size ≤ 9223372036854775807) (hv : VOk v) (hn : d.n ≤ 100000) :
    Calls Try.prog 17 #[.pointer (some ⟨bd, 0, none⟩), .string key, v] W fun r W' => r = .returned (.bool (d.look key).isNone) ∧ ∃ d', TwoB n0 w0 W' bd be d' e B t cs ∧ Puts key v d d' := by
  have := Set_i d key v W h.md.dm h.md.ok hk hv (by omega)
  rw [h.bd] at this
  exact this.mono fun r W' ⟨h1, d', h2, h3, h4, _⟩ => ⟨h1, d', h.leftB h2, h3, h4⟩
theorem set_r (h : TwoB n0 w0 W bd be d e B t cs) (key : ByteArray) (v : Value) (hk : key.size ≤ 9223372036854775807) (hv : VOk v) (hn : e.n ≤ 100000) :
    Calls Try.prog 17 #[.pointer (some ⟨be, 0, none⟩), .string key, v] W fun r W' => r = .returned (.bool (e.look key).isNone) ∧ ∃ e', TwoB n0 w0 W' bd be d e' B t cs ∧ Puts key v e e' := by
  have := Set_i e key v W h.me.dm h.me.ok hk hv (by omega)
  rw [h.be] at this
  exact this.mono fun r W' ⟨h1, d', h2, h3, h4, _⟩ => ⟨h1, d', h.rightB h2, h3, h4⟩
theorem get_l (h : TwoB n0 w0 W bd be d e B t cs) (key : ByteArray) (hk : key.size ≤ 9223372036854775807) :
    Calls Try.prog 18 #[.pointer (some ⟨bd, 0, none⟩), .string key] W fun r W' => r = .returned (.tuple #[(d.look key).getD (.int .i64 0), .bool (d.look key).isSome]) ∧ ∃ d', TwoB n0 w0 W' bd be d' e B t cs ∧ Stays d d' := by
  have := Get_i d key W h.md.dm h.md.ok hk
  rw [h.bd] at this
  exact this.mono fun r W' ⟨h1, d', h2, h3, h4, _⟩ => ⟨h1, d', h.leftB h2, h3, h4⟩
theorem get_r (h : TwoB n0 w0 W bd be d e B t cs) (key : ByteArray) (hk : key.size ≤ 9223372036854775807) :
    Calls Try.prog 18 #[.pointer (some ⟨be, 0, none⟩), .string key] W fun r W' => r = .returned (.tuple #[(e.look key).getD (.int .i64 0), .bool (e.look key).isSome]) ∧ ∃ e', TwoB n0 w0 W' bd be d e' B t cs ∧ Stays e e' := by
  have := Get_i e key W h.me.dm h.me.ok hk
  rw [h.be] at this
  exact this.mono fun r W' ⟨h1, d', h2, h3, h4, _⟩ => ⟨h1, d', h.rightB h2, h3, h4⟩
theorem del_l (h : TwoB n0 w0 W bd be d e B t cs) (key : ByteArray) (hk : key.size ≤ 9223372036854775807) (hn : d.n ≤ 100000) :
    Calls Try.prog 19 #[.pointer (some ⟨bd, 0, none⟩), .string key] W fun r W' => r = .returned (.bool (d.look key).isSome) ∧ ∃ d', TwoB n0 w0 W' bd be d' e B t cs ∧ Cuts key d d' := by
  have := Delete_i d key W h.md.dm h.md.ok hk (by omega)
  rw [h.bd] at this
  exact this.mono fun r W' ⟨h1, d', h2, h3, h4, _⟩ => ⟨h1, d', h.leftB h2, h3, h4⟩
theorem del_r (h : TwoB n0 w0 W bd be d e B t cs) (key : ByteArray) (hk : key.size ≤ 9223372036854775807) (hn : e.n ≤ 100000) :
    Calls Try.prog 19 #[.pointer (some ⟨be, 0, none⟩), .string key] W fun r W' => r = .returned (.bool (e.look key).isSome) ∧ ∃ e', TwoB n0 w0 W' bd be d e' B t cs ∧ Cuts key e e' := by
  have := Delete_i e key W h.me.dm h.me.ok hk (by omega)
  rw [h.be] at this
  exact this.mono fun r W' ⟨h1, d', h2, h3, h4, _⟩ => ⟨h1, d', h.rightB h2, h3, h4⟩
theorem step_l (h : TwoB n0 w0 W bd be d e B t cs) (n : Int) :
    Calls Try.prog 20 #[.pointer (some ⟨bd, 0, none⟩), .int .i64 n] W fun r W' => (∃ v, r = .returned v) ∧ ∃ d', TwoB n0 w0 W' bd be d' e B t cs ∧ Stays d d' := by
  have := Step_i d n W h.md.dm h.md.ok
  rw [h.bd] at this
  exact this.mono fun r W' ⟨h1, d', h2, h3, h4, _⟩ => ⟨⟨_, h1⟩, d', h.leftB h2, h3, h4⟩
theorem len_l (h : TwoB n0 w0 W bd be d e B t cs) : Calls Try.prog 21 #[.pointer (some ⟨bd, 0, none⟩)] W fun r W' => r = .returned (.int .i64 (d.n : Int)) ∧ W = W' := by
  have := len_any d W h.md.dm
  rw [h.bd] at this
  exact this
theorem len_r (h : TwoB n0 w0 W bd be d e B t cs) : Calls Try.prog 21 #[.pointer (some ⟨be, 0, none⟩)] W fun r W' => r = .returned (.int .i64 (e.n : Int)) ∧ W = W' := by
  have := len_any e W h.me.dm
  rw [h.be] at this
  exact this
end

set_option maxRecDepth 100000 in
set_option maxHeartbeats 4000000 in
theorem walk (s1 s2 : Nat) (h1 : s1 < 4294967296) (h2 : s2 < 4294967296) (v : Value) (n : Nat) (g : Nat → Act3) (w : World) (hv : ActsAt w v n g) :
    Calls Try.prog 3 #[.int .u32 (s1 : Int), .int .u32 (s2 : Int), v] w fun e w' => e = .returned (.bool true) ∧ Chg (fun _ => False) w w' := by
  go_enter Try.func3, Try.ntmps3
  go_wp2_with fail
  refine (shown07_any w).mono ?_
  rintro e w1 ⟨rfl, c1⟩
  go_wp2_with fail
  refine (New_i s1 h1 w1).mono ?_
  rintro e w2 ⟨d0, rfl, dD, dO, _, dn, dl, _, df, dc⟩
  go_wp2_with fail
  refine (New_i s2 h2 w2).mono ?_
  rintro e w3 ⟨e0, rfl, eD, eO, _, en, el, _, ef, ec⟩
  have hT : Two w.heap.size w w3 d0.blk e0.blk d0 e0 := ⟨⟨dD.chg0 ec, dO, fun g hg => Nat.le_trans c1.size (df g hg)⟩, ⟨eD, eO, fun g hg => Nat.le_trans c1.size (Nat.le_trans dc.size (ef g hg))⟩, fun g hd he => absurd (dD.lt hd) (by have := ef g he; omega), rfl, rfl, (c1.trans dc).trans ec, rfl⟩
  have hS : Same 0 d0 e0 := ⟨fun k => by rw [dl, el], by rw [dn, en], by omega⟩
  obtain ⟨bd, hbd⟩ : ∃ b, d0.blk = b := ⟨_, rfl⟩
  obtain ⟨be, hbe⟩ : ∃ b, e0.blk = b := ⟨_, rfl⟩
  rw [hbd, hbe] at hT ⊢
  clear hbd hbe dD dO dn dl df eD eO en el ef
  go_wp2_with fail
  refine wp_loop_ghost (SeedsInv w v (min n 150) bd be) (min n 150) ?_ ?_
  · exact ⟨0, d0, e0, rfl, Nat.zero_le _, ⟨rfl, rfl, rfl, rfl, rfl, rfl, rfl⟩, hT, hS⟩
  · clear hT hS c1 dc ec
    rintro m ⟨tmps, ds⟩ W ⟨i, d, e, rfl, hi, ⟨hsz, t2, t7, t8, t9, t10, rfl⟩, hT, hS⟩
    replace hsz : tmps.size = 104 := hsz
    dsimp only at t2 t7 t8 t9 t10
    revert t2 t7 t8 t9 t10
    revert hsz
    revert tmps
    refine all104 ?_
    intro u0 u1 u2 u3 u4 u5 u6 u7 u8 u9 u10 u11 u12 u13 u14 u15 u16 u17 u18 u19 u20 u21 u22 u23 u24 u25 u26 u27 u28 u29 u30 u31 u32 u33 u34 u35 u36 u37 u38 u39 u40 u41 u42 u43 u44 u45 u46 u47 u48 u49 u50 u51 u52 u53 u54 u55 u56 u57 u58 u59 u60 u61 u62 u63 u64 u65 u66 u67 u68 u69 u70 u71 u72 u73 u74 u75 u76 u77 u78 u79 u80 u81 u82 u83 u84 u85 u86 u87 u88 u89 u90 u91 u92 u93 u94 u95 u96 u97 u98 u99 u100 u101 u102 u103 t2 t7 t8 t9 t10
    simp only [ptr, List.getElem?_toArray, List.getElem?_cons_zero, List.getElem?_cons_succ, Option.some.injEq] at t2 t7 t8 t9 t10
    subst t2 t7 t8 t9 t10
    obtain ⟨p, cap, rfl⟩ := hv.is
    have hle := hv.le
    by_cases hin : i < n
    · by_cases hi150 : i < 150
      · have hv' := hv.chg hT.chg
        obtain ⟨b, o, cap', heq, hb, q0, q1, q2, f0, f1, f2⟩ := hv'.at_ i hin
        injection heq with heq hx hcap
        subst heq hcap
        clear hx
        have hin' : (i : Int) < (n : Int) := by omega
        have hi' : (i : Int) < 150 := by omega
        go_wp2_with fail
        have hTB := hT.box 28 #[Value.int IntKind.i64 (g i).Do, Value.string (g i).Key, Value.int IntKind.i64 (g i).V]
        refine (key7_any _ _ f1).mono ?_
        rintro e9 w9 ⟨rfl, rfl⟩
        have hks : (cutS (g i).Key 12).size ≤ 9223372036854775807 := Nat.le_trans (cutS_size _ _) f1
        have hle1 : d.n ≤ 100000 := by have := hS.le; omega
        have hle2 : e.n ≤ 100000 := by rw [← hS.n]; exact hle1
        have c2 := hTB.blk.cell 2
        simp only [List.getElem?_toArray, List.getElem?_cons_zero, List.getElem?_cons_succ] at c2
        have hlk := hS.look (cutS (g i).Key 12)
        obtain ⟨ov, hO⟩ : ∃ ov, (d.look (cutS (g i).Key 12)) = ov := ⟨_, rfl⟩
        obtain ⟨q, hQ⟩ : ∃ q, (d.look (cutS (g i).Key 12)).isNone = q := ⟨_, rfl⟩
        obtain ⟨q', hO2⟩ : ∃ q, (d.look (cutS (g i).Key 12)).isSome = q := ⟨_, rfl⟩
        have hov : ∃ z b, ov.getD (.int .i64 0) = .int .i64 z ∧ ov.isSome = b := by
          rw [← hO]
          cases hl : d.look (cutS (g i).Key 12) with
          | none => exact ⟨0, false, rfl, rfl⟩
          | some u =>
            obtain ⟨x, hx, _, hxv⟩ := (look_some hT.md.ok.keys).1 hl
            obtain ⟨z, hz⟩ := hT.md.ok.vok x hx
            exact ⟨z, true, by rw [← hxv, hz]; rfl, rfl⟩
        obtain ⟨z, zb, hz1, hz2⟩ := hov
        have hsl : ∀ W', TwoB w.heap.size w W' bd be d e W.heap.size 28 #[Value.int IntKind.i64 (g i).Do, Value.string (g i).Key, Value.int IntKind.i64 (g i).V] → _ := fun W' h => set_l h (cutS (g i).Key 12) (.int .i64 (g i).V) hks ⟨_, rfl⟩ hle1
        have hsr : ∀ W' d', TwoB w.heap.size w W' bd be d' e W.heap.size 28 #[Value.int IntKind.i64 (g i).Do, Value.string (g i).Key, Value.int IntKind.i64 (g i).V] → _ := fun W' d' h => set_r h (cutS (g i).Key 12) (.int .i64 (g i).V) hks ⟨_, rfl⟩ hle2
        rw [hQ] at hsl
        rw [← hlk, hQ] at hsr
        obtain ⟨r, hr, hcase⟩ := mod8 (g i).Do
        rcases hcase with rfl | rfl | rfl | rfl | rfl | rfl | rfl | rfl
        · go_wp2_with fail
          go_region_with (first
            | (go_at_call_of 17 (Value.pointer (some { block := bd, off := 0 })); refine (hsl _ (hTB.chgB ((Chg.refl _ _).drew))).mono ?_; rintro e5 W5 ⟨rfl, d', hT1, hP1⟩; have b2 := hT1.blk.cell 2; simp only [List.getElem?_toArray, List.getElem?_cons_zero, List.getElem?_cons_succ] at b2)
            | (go_at_call_of 17 (Value.pointer (some { block := be, off := 0 })); refine (hsr _ _ hT1).mono ?_; rintro e6 W6 ⟨rfl, e', hT2, hP2⟩))
          all_goals
            have hS' := hS.puts hP1 hP2
            clear hsl hsr hTB c2 q0 q1 q2 hr hT1
            have gl := len_l hT2
            have gr := len_r hT2
            rw [← hS'.n] at gr
            go_wp2_with fail
            refine gl.mono ?_
            rintro e9 w9 ⟨rfl, rfl⟩
            go_wp2_with fail
            refine gr.mono ?_
            rintro e9 w9 ⟨rfl, rfl⟩
            clear gl gr
            go_wp2_with fail
            exact ⟨min n 150 - (i + 1), by omega, i + 1, _, _, rfl, by omega, ⟨rfl, rfl, rfl, rfl, rfl, rfl, rfl⟩, hT2.toTwo, hS'⟩
        · go_wp2_with fail
          go_region_with (first
            | (go_at_call_of 17 (Value.pointer (some { block := bd, off := 0 })); refine (hsl _ (hTB.chgB ((Chg.refl _ _).drew))).mono ?_; rintro e5 W5 ⟨rfl, d', hT1, hP1⟩; have b2 := hT1.blk.cell 2; simp only [List.getElem?_toArray, List.getElem?_cons_zero, List.getElem?_cons_succ] at b2)
            | (go_at_call_of 17 (Value.pointer (some { block := be, off := 0 })); refine (hsr _ _ hT1).mono ?_; rintro e6 W6 ⟨rfl, e', hT2, hP2⟩))
          all_goals
            have hS' := hS.puts hP1 hP2
            clear hsl hsr hTB c2 q0 q1 q2 hr hT1
            have gl := len_l hT2
            have gr := len_r hT2
            rw [← hS'.n] at gr
            go_wp2_with fail
            refine gl.mono ?_
            rintro e9 w9 ⟨rfl, rfl⟩
            go_wp2_with fail
            refine gr.mono ?_
            rintro e9 w9 ⟨rfl, rfl⟩
            clear gl gr
            go_wp2_with fail
            exact ⟨min n 150 - (i + 1), by omega, i + 1, _, _, rfl, by omega, ⟨rfl, rfl, rfl, rfl, rfl, rfl, rfl⟩, hT2.toTwo, hS'⟩
        · go_wp2_with fail
          go_region_with (first
            | (go_at_call_of 17 (Value.pointer (some { block := bd, off := 0 })); refine (hsl _ (hTB.chgB ((Chg.refl _ _).drew))).mono ?_; rintro e5 W5 ⟨rfl, d', hT1, hP1⟩; have b2 := hT1.blk.cell 2; simp only [List.getElem?_toArray, List.getElem?_cons_zero, List.getElem?_cons_succ] at b2)
            | (go_at_call_of 17 (Value.pointer (some { block := be, off := 0 })); refine (hsr _ _ hT1).mono ?_; rintro e6 W6 ⟨rfl, e', hT2, hP2⟩))
          all_goals
            have hS' := hS.puts hP1 hP2
            clear hsl hsr hTB c2 q0 q1 q2 hr hT1
            have gl := len_l hT2
            have gr := len_r hT2
            rw [← hS'.n] at gr
            go_wp2_with fail
            refine gl.mono ?_
            rintro e9 w9 ⟨rfl, rfl⟩
            go_wp2_with fail
            refine gr.mono ?_
            rintro e9 w9 ⟨rfl, rfl⟩
            clear gl gr
            go_wp2_with fail
            exact ⟨min n 150 - (i + 1), by omega, i + 1, _, _, rfl, by omega, ⟨rfl, rfl, rfl, rfl, rfl, rfl, rfl⟩, hT2.toTwo, hS'⟩
        · go_wp2_with fail
          go_region_with (first
            | (go_at_call_of 17 (Value.pointer (some { block := bd, off := 0 })); refine (hsl _ (hTB.chgB ((Chg.refl _ _).drew))).mono ?_; rintro e5 W5 ⟨rfl, d', hT1, hP1⟩; have b2 := hT1.blk.cell 2; simp only [List.getElem?_toArray, List.getElem?_cons_zero, List.getElem?_cons_succ] at b2)
            | (go_at_call_of 17 (Value.pointer (some { block := be, off := 0 })); refine (hsr _ _ hT1).mono ?_; rintro e6 W6 ⟨rfl, e', hT2, hP2⟩))
          all_goals
            have hS' := hS.puts hP1 hP2
            clear hsl hsr hTB c2 q0 q1 q2 hr hT1
            have gl := len_l hT2
            have gr := len_r hT2
            rw [← hS'.n] at gr
            go_wp2_with fail
            refine gl.mono ?_
            rintro e9 w9 ⟨rfl, rfl⟩
            go_wp2_with fail
            refine gr.mono ?_
            rintro e9 w9 ⟨rfl, rfl⟩
            clear gl gr
            go_wp2_with fail
            exact ⟨min n 150 - (i + 1), by omega, i + 1, _, _, rfl, by omega, ⟨rfl, rfl, rfl, rfl, rfl, rfl, rfl⟩, hT2.toTwo, hS'⟩
        · go_wp2_with fail
          refine (get_l hTB (cutS (g i).Key 12) hks).mono ?_
          rintro e5 W5 ⟨rfl, d', hT1, hP1⟩
          rw [hO, hz1, hz2]
          go_wp2_with fail
          refine (get_r hT1 (cutS (g i).Key 12) hks).mono ?_
          rintro e6 W6 ⟨rfl, e', hT2, hP2⟩
          rw [← hlk, hO, hz1, hz2]
          have hS' := hS.stays hP1 hP2
          clear hsl hsr hTB c2 q0 q1 q2 hr hT1 hO hlk
          have gl := len_l hT2
          have gr := len_r hT2
          rw [← hS'.n] at gr
          go_wp2_with fail
          refine gl.mono ?_
          rintro e9 w9 ⟨rfl, rfl⟩
          go_wp2_with fail
          refine gr.mono ?_
          rintro e9 w9 ⟨rfl, rfl⟩
          clear gl gr
          go_wp2_with fail
          exact ⟨min n 150 - (i + 1), by omega, i + 1, _, _, rfl, by omega, ⟨rfl, rfl, rfl, rfl, rfl, rfl, rfl⟩, hT2.toTwo, hS'⟩
        · go_wp2_with fail
          refine (del_l hTB (cutS (g i).Key 12) hks hle1).mono ?_
          rintro e5 W5 ⟨rfl, d', hT1, hP1⟩
          rw [hO2]
          go_wp2_with fail
          refine (del_r hT1 (cutS (g i).Key 12) hks hle2).mono ?_
          rintro e6 W6 ⟨rfl, e', hT2, hP2⟩
          rw [← hlk, hO2]
          have hS' := hS.cuts hP1 hP2
          clear hsl hsr hTB c2 q0 q1 q2 hr hT1 hO hlk
          have gl := len_l hT2
          have gr := len_r hT2
          rw [← hS'.n] at gr
          go_wp2_with fail
          refine gl.mono ?_
          rintro e9 w9 ⟨rfl, rfl⟩
          go_wp2_with fail
          refine gr.mono ?_
          rintro e9 w9 ⟨rfl, rfl⟩
          clear gl gr
          go_wp2_with fail
          exact ⟨min n 150 - (i + 1), by omega, i + 1, _, _, rfl, by omega, ⟨rfl, rfl, rfl, rfl, rfl, rfl, rfl⟩, hT2.toTwo, hS'⟩
        · go_wp2_with fail
          refine (del_l hTB (cutS (g i).Key 12) hks hle1).mono ?_
          rintro e5 W5 ⟨rfl, d', hT1, hP1⟩
          rw [hO2]
          go_wp2_with fail
          refine (del_r hT1 (cutS (g i).Key 12) hks hle2).mono ?_
          rintro e6 W6 ⟨rfl, e', hT2, hP2⟩
          rw [← hlk, hO2]
          have hS' := hS.cuts hP1 hP2
          clear hsl hsr hTB c2 q0 q1 q2 hr hT1 hO hlk
          have gl := len_l hT2
          have gr := len_r hT2
          rw [← hS'.n] at gr
          go_wp2_with fail
          refine gl.mono ?_
          rintro e9 w9 ⟨rfl, rfl⟩
          go_wp2_with fail
          refine gr.mono ?_
          rintro e9 w9 ⟨rfl, rfl⟩
          clear gl gr
          go_wp2_with fail
          exact ⟨min n 150 - (i + 1), by omega, i + 1, _, _, rfl, by omega, ⟨rfl, rfl, rfl, rfl, rfl, rfl, rfl⟩, hT2.toTwo, hS'⟩
        · by_cases hmin : (g i).V ≤ 1000
          · go_wp2_with fail
            refine (step_l hTB _).mono ?_
            rintro e5 W5 ⟨⟨v5, rfl⟩, d', hT2, hP1⟩
            have hS' := hS.stays hP1 ⟨fun _ => rfl, rfl⟩
            clear hsl hsr hTB c2 q0 q1 q2 hr
            have gl := len_l hT2
            have gr := len_r hT2
            rw [← hS'.n] at gr
            go_wp2_with fail
            refine gl.mono ?_
            rintro e9 w9 ⟨rfl, rfl⟩
            go_wp2_with fail
            refine gr.mono ?_
            rintro e9 w9 ⟨rfl, rfl⟩
            clear gl gr
            go_wp2_with fail
            exact ⟨min n 150 - (i + 1), by omega, i + 1, _, _, rfl, by omega, ⟨rfl, rfl, rfl, rfl, rfl, rfl, rfl⟩, hT2.toTwo, hS'⟩
          · go_wp2_with fail
            refine (step_l hTB _).mono ?_
            rintro e5 W5 ⟨⟨v5, rfl⟩, d', hT2, hP1⟩
            have hS' := hS.stays hP1 ⟨fun _ => rfl, rfl⟩
            clear hsl hsr hTB c2 q0 q1 q2 hr
            have gl := len_l hT2
            have gr := len_r hT2
            rw [← hS'.n] at gr
            go_wp2_with fail
            refine gl.mono ?_
            rintro e9 w9 ⟨rfl, rfl⟩
            go_wp2_with fail
            refine gr.mono ?_
            rintro e9 w9 ⟨rfl, rfl⟩
            clear gl gr
            go_wp2_with fail
            exact ⟨min n 150 - (i + 1), by omega, i + 1, _, _, rfl, by omega, ⟨rfl, rfl, rfl, rfl, rfl, rfl, rfl⟩, hT2.toTwo, hS'⟩
      · have hin' : (i : Int) < (n : Int) := by omega
        have hi' : ((i : Int) < 150) = False := by simp only [eq_iff_iff, iff_false]; omega
        clear hi150
        go_wp2_with fail
        go_ret
        exact ⟨rfl, hT.chg⟩
    · have hin' : ((i : Int) < (n : Int)) = False := by simp only [eq_iff_iff, iff_false]; omega
      have hin2 : (i < n) = False := by simp only [eq_iff_iff, iff_false]; omega
      clear hin
      go_wp2_with fail
      go_ret
      exact ⟨rfl, hT.chg⟩

set_option maxRecDepth 100000 in
theorem DictSeeds_walk (W : World) (a0 : Int) (w0 : (Lit.int .u32 a0).wf = true) (a1 : Int) (w1 : (Lit.int .u32 a1).wf = true) {H : Type} {enc : TypeId × Value → H} {v : Value} {d : DataW H} {p : List MemPlace}
    (hv : Value.okWide Try.prog W .any 0 23 v) (h : DataW.Trod enc Try.prog W 0 (fun _ => true) true 23 v d p) :
    Calls Try.prog 3 #[.int .u32 a0, .int .u32 a1, v] W fun e w' => e = .returned (.bool true) ∧ Chg (fun _ => False) W w' := by
  obtain ⟨s0, rfl, h0⟩ := u32_of_wf w0
  obtain ⟨s1, rfl, h1⟩ := u32_of_wf w1
  obtain ⟨n, g, hg⟩ := open_acts hv h
  exact walk s0 s1 h0 h1 v n g W hg

end Go.Proofs.Ythbjjjcppijcbaa.dictSeeds
