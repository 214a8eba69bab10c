/- The walk of DictTexts. -/
import Derived.Test.YthbjjjcppijcbaaDAint
import Derived.Test.YthbjjjcppijcbaaDAstring
import Derived.Test.YthbjjjcppijcbaaS7
import Derived.Deep.LoopGhost
namespace Go.Proofs.Ythbjjjcppijcbaa.dictTexts
open Go.RowKit Pal

def nmS : Array Value := #[.string ⟨#[]⟩, .string ⟨#[97]⟩, .string ⟨#[98]⟩, .string ⟨#[97, 98]⟩]
/-- A dict of numbers, a dict of texts, the names. -/
structure Pr (w0 W : World) (bd be N : Nat) (d : Dint.Dm) (e : Dstring.Dm) : Prop where
  od : Dint.One w0 W bd d
  oe : Dstring.One w0 W be e
  apart : ∀ g, d.foot g → ¬ e.foot g
  names : Blk W N 9 nmS
  nd : ¬ d.foot N
  ne : ¬ e.foot N
structure PrB (w0 W : World) (bd be N : Nat) (d : Dint.Dm) (e : Dstring.Dm) (B : Nat) (cs : Array Value) : Prop extends Pr w0 W bd be N d e where
  blk : Blk W B 28 cs
  fd : ¬ d.foot B
  fe : ¬ e.foot B

section
variable {w0 W W' : World} {bd be N B : Nat} {d d' : Dint.Dm} {e e' : Dstring.Dm} {cs : Array Value}
theorem Pr.chg0 (h : Pr w0 W bd be N d e) (hc : Chg (fun _ => False) W W') : Pr w0 W' bd be N d e := ⟨h.od.chg0 hc, h.oe.chg0 hc, h.apart, h.names.chg hc id, h.nd, h.ne⟩
theorem Pr.left (h : Pr w0 W bd be N d e) (x : Dint.Nx d d' W W') : Pr w0 W' bd be N d' e :=
  ⟨h.od.nx x, ⟨h.oe.md.chg x.chg fun g hg hd => h.apart g hd hg, h.oe.bd, h.od.md.old rfl h.od.chg x⟩, fun g hg he => (x.foot g hg).elim (fun h1 => h.apart g h1 he) fun h2 => absurd (h.oe.md.lt he) (by omega),
    h.names.chg x.chg h.nd, fun h' => (x.foot N h').elim h.nd fun h2 => absurd h.names.lt (by omega), h.ne⟩
theorem Pr.right (h : Pr w0 W bd be N d e) (x : Dstring.Nx e e' W W') : Pr w0 W' bd be N d e' :=
  ⟨⟨h.od.md.chg x.chg fun g hg hd => h.apart g hg hd, h.od.bd, h.oe.md.old rfl h.oe.chg x⟩, h.oe.nx x, fun g hg he => (x.foot g he).elim (fun h1 => h.apart g hg h1) fun h2 => absurd (h.od.md.lt hg) (by omega),
    h.names.chg x.chg h.ne, h.nd, fun h' => (x.foot N h').elim h.ne fun h2 => absurd h.names.lt (by omega)⟩
theorem Pr.box (h : Pr w0 W bd be N d e) (cs : Array Value) : PrB w0 (W.alloc (.cells cs 28)) bd be N d e W.heap.size cs :=
  { h.chg0 ((Chg.refl _ W).alloc _) with blk := Blk.new W _ cs, fd := fun hf => Nat.lt_irrefl _ (h.od.md.lt hf), fe := fun hf => Nat.lt_irrefl _ (h.oe.md.lt hf) }
theorem PrB.chgB (h : PrB w0 W bd be N d e B cs) (hc : Chg (fun _ => False) W W') : PrB w0 W' bd be N d e B cs :=
  { h.toPr.chg0 hc with blk := h.blk.chg hc id, fd := h.fd, fe := h.fe }
theorem PrB.leftB (h : PrB w0 W bd be N d e B cs) (x : Dint.Nx d d' W W') : PrB w0 W' bd be N d' e B cs :=
  { h.toPr.left x with blk := h.blk.chg x.chg h.fd, fd := fun h' => (x.foot B h').elim h.fd fun h2 => absurd h.blk.lt (by omega), fe := h.fe }
theorem PrB.rightB (h : PrB w0 W bd be N d e B cs) (x : Dstring.Nx e e' W W') : PrB w0 W' bd be N d e' B cs :=
  { h.toPr.right x with blk := h.blk.chg x.chg h.fe, fd := h.fd, fe := fun h' => (x.foot B h').elim h.fe fun h2 => absurd h.blk.lt (by omega) }
end

/-- A place in the list of names, and the name. -/
def Pl (u s : Value) : Prop := ∃ i : Nat, i < 4 ∧ u = .int .i64 (i : Int) ∧ nmS[i]? = some s
structure Same (i : Nat) (d : Dint.Dm) (e : Dstring.Dm) : Prop where
  look : ∀ k, (d.look k = none ∧ e.look k = none) ∨ ∃ u s, Pl u s ∧ d.look k = some u ∧ e.look k = some s
  ld : d.n ≤ i
  le : e.n ≤ i
theorem Same.iff {i : Nat} {d : Dint.Dm} {e : Dstring.Dm} (h : Same i d e) (k : ByteArray) : (e.look k).isNone = (d.look k).isNone ∧ (e.look k).isSome = (d.look k).isSome := by
  rcases h.look k with ⟨h1, h2⟩ | ⟨u, s, _, h1, h2⟩ <;> rw [h1, h2] <;> exact ⟨rfl, rfl⟩
theorem Same.puts {i : Nat} {d d' : Dint.Dm} {e e' : Dstring.Dm} {key : ByteArray} {u s : Value} (h : Same i d e) (hp : Pl u s) (hd : Dint.Puts key u d d') (he : Dstring.Puts key s e e') : Same (i + 1) d' e' :=
  ⟨fun k => by
    rw [hd.1, he.1]
    split
    · exact .inr ⟨u, s, hp, rfl, rfl⟩
    · exact h.look k, by rw [hd.2]; have := h.ld; split <;> omega, by rw [he.2]; have := h.le; split <;> omega⟩
theorem Same.cuts {i : Nat} {d d' : Dint.Dm} {e e' : Dstring.Dm} {key : ByteArray} (h : Same i d e) (hd : Dint.Cuts key d d') (he : Dstring.Cuts key e e') : Same (i + 1) d' e' :=
  ⟨fun k => by
    rw [hd.1, he.1]
    split
    · exact .inl ⟨rfl, rfl⟩
    · exact h.look k, by rw [hd.2]; have := h.ld; split <;> omega, by rw [he.2]; have := h.le; split <;> omega⟩
theorem Same.next {i : Nat} {d : Dint.Dm} {e : Dstring.Dm} (h : Same i d e) : Same (i + 1) d e := ⟨h.look, by have := h.ld; omega, by have := h.le; omega⟩
theorem Same.stays {i : Nat} {d d' : Dint.Dm} {e e' : Dstring.Dm} (h : Same i d e) (hd : Dint.Stays d d') (he : Dstring.Stays e e') : Same i d' e' :=
  ⟨fun k => by rw [hd.1, he.1]; exact h.look k, by rw [hd.2]; exact h.ld, by rw [he.2]; exact h.le⟩

theorem and3 (x : Int) : ∃ i : Nat, i < 4 ∧ bits BinOp.and IntKind.i64 x 3 = (i : Int) := by
  have h : (BitVec.ofInt 64 x &&& BitVec.ofInt 64 3).toNat < 4 := by
    rw [BitVec.toNat_and]
    exact Nat.lt_of_le_of_lt Nat.and_le_right (by decide)
  refine ⟨(BitVec.ofInt 64 x &&& BitVec.ofInt 64 3).toNat, h, ?_⟩
  have e : bits BinOp.and IntKind.i64 x 3 = IntKind.i64.wrap (((BitVec.ofInt 64 x &&& BitVec.ofInt 64 3).toNat : Nat) : Int) := rfl
  rw [e]
  generalize (BitVec.ofInt 64 x &&& BitVec.ofInt 64 3).toNat = t at h ⊢
  rcases (by omega : t = 0 ∨ t = 1 ∨ t = 2 ∨ t = 3) with rfl | rfl | rfl | rfl <;> decide +kernel
theorem and3_small (i : Nat) (h : i < 4) : bits BinOp.and IntKind.i64 (i : Int) 3 = (i : Int) := by
  rcases (by omega : i = 0 ∨ i = 1 ∨ i = 2 ∨ i = 3) with rfl | rfl | rfl | rfl <;> decide +kernel
theorem nm_at (i : Nat) (h : i < 4) : ∃ s : ByteArray, nmS[i]? = some (.string s) := by
  rcases (by omega : i = 0 ∨ i = 1 ∨ i = 2 ∨ i = 3) with rfl | rfl | rfl | rfl <;> exact ⟨_, rfl⟩

theorem all108 {P : Array Value → Prop} (h : ∀ u0 u1 u2 u3 u4 u5 u6 u7 u8 u9 u10 u11 u12 u13 u14 u15 u16 u17 u18 u19 u20 u21 u22 u23 u24 u25 u26 u27 u28 u29 u30 u31 u32 u33 u34 u35 u36 u37 u38 u39 u40 u41 u42 u43 u44 u45 u46 u47 u48 u49 u50 u51 u52 u53 u54 u55 u56 u57 u58 u59 u60 u61 u62 u63 u64 u65 u66 u67 u68 u69 u70 u71 u72 u73 u74 u75 u76 u77 u78 u79 u80 u81 u82 u83 u84 u85 u86 u87 u88 u89 u90 u91 u92 u93 u94 u95 u96 u97 u98 u99 u100 u101 u102 u103 u104 u105 u106 u107 : Value, P #[u0, u1, u2, u3, u4, u5, u6, u7, u8, u9, u10, u11, u12, u13, u14, u15, u16, u17, u18, u19, u20, u21, u22, u23, u24, u25, u26, u27, u28, u29, u30, u31, u32, u33, u34, u35, u36, u37, u38, u39, u40, u41, u42, u43, u44, u45, u46, u47, u48, u49, u50, u51, u52, u53, u54, u55, u56, u57, u58, u59, u60, u61, u62, u63, u64, u65, u66, u67, u68, u69, u70, u71, u72, u73, u74, u75, u76, u77, u78, u79, u80, u81, u82, u83, u84, u85, u86, u87, u88, u89, u90, u91, u92, u93, u94, u95, u96, u97, u98, u99, u100, u101, u102, u103, u104, u105, u106, u107]) (a : Array Value) (hs : a.size = 108) : P a := by
  obtain ⟨l⟩ := a
  have g0 : l.length = 108 := hs
  clear hs
  obtain ⟨u0, l0, e0, g1⟩ := Pal.len_cons g0
  obtain ⟨u1, l1, e1, g2⟩ := Pal.len_cons g1
  obtain ⟨u2, l2, e2, g3⟩ := Pal.len_cons g2
  obtain ⟨u3, l3, e3, g4⟩ := Pal.len_cons g3
  obtain ⟨u4, l4, e4, g5⟩ := Pal.len_cons g4
  obtain ⟨u5, l5, e5, g6⟩ := Pal.len_cons g5
  obtain ⟨u6, l6, e6, g7⟩ := Pal.len_cons g6
  obtain ⟨u7, l7, e7, g8⟩ := Pal.len_cons g7
  obtain ⟨u8, l8, e8, g9⟩ := Pal.len_cons g8
  obtain ⟨u9, l9, e9, g10⟩ := Pal.len_cons g9
  obtain ⟨u10, l10, e10, g11⟩ := Pal.len_cons g10
  obtain ⟨u11, l11, e11, g12⟩ := Pal.len_cons g11
  obtain ⟨u12, l12, e12, g13⟩ := Pal.len_cons g12
  obtain ⟨u13, l13, e13, g14⟩ := Pal.len_cons g13
  obtain ⟨u14, l14, e14, g15⟩ := Pal.len_cons g14
  obtain ⟨u15, l15, e15, g16⟩ := Pal.len_cons g15
  obtain ⟨u16, l16, e16, g17⟩ := Pal.len_cons g16
  obtain ⟨u17, l17, e17, g18⟩ := Pal.len_cons g17
  obtain ⟨u18, l18, e18, g19⟩ := Pal.len_cons g18
  obtain ⟨u19, l19, e19, g20⟩ := Pal.len_cons g19
  obtain ⟨u20, l20, e20, g21⟩ := Pal.len_cons g20
  obtain ⟨u21, l21, e21, g22⟩ := Pal.len_cons g21
  obtain ⟨u22, l22, e22, g23⟩ := Pal.len_cons g22
  obtain ⟨u23, l23, e23, g24⟩ := Pal.len_cons g23
  obtain ⟨u24, l24, e24, g25⟩ := Pal.len_cons g24
  obtain ⟨u25, l25, e25, g26⟩ := Pal.len_cons g25
  obtain ⟨u26, l26, e26, g27⟩ := Pal.len_cons g26
  obtain ⟨u27, l27, e27, g28⟩ := Pal.len_cons g27
  obtain ⟨u28, l28, e28, g29⟩ := Pal.len_cons g28
  obtain ⟨u29, l29, e29, g30⟩ := Pal.len_cons g29
  obtain ⟨u30, l30, e30, g31⟩ := Pal.len_cons g30
  obtain ⟨u31, l31, e31, g32⟩ := Pal.len_cons g31
  obtain ⟨u32, l32, e32, g33⟩ := Pal.len_cons g32
  obtain ⟨u33, l33, e33, g34⟩ := Pal.len_cons g33
  obtain ⟨u34, l34, e34, g35⟩ := Pal.len_cons g34
  obtain ⟨u35, l35, e35, g36⟩ := Pal.len_cons g35
  obtain ⟨u36, l36, e36, g37⟩ := Pal.len_cons g36
  obtain ⟨u37, l37, e37, g38⟩ := Pal.len_cons g37
  obtain ⟨u38, l38, e38, g39⟩ := Pal.len_cons g38
  obtain ⟨u39, l39, e39, g40⟩ := Pal.len_cons g39
  obtain ⟨u40, l40, e40, g41⟩ := Pal.len_cons g40
  obtain ⟨u41, l41, e41, g42⟩ := Pal.len_cons g41
  obtain ⟨u42, l42, e42, g43⟩ := Pal.len_cons g42
  obtain ⟨u43, l43, e43, g44⟩ := Pal.len_cons g43
  obtain ⟨u44, l44, e44, g45⟩ := Pal.len_cons g44
  obtain ⟨u45, l45, e45, g46⟩ := Pal.len_cons g45
  obtain ⟨u46, l46, e46, g47⟩ := Pal.len_cons g46
  obtain ⟨u47, l47, e47, g48⟩ := Pal.len_cons g47
  obtain ⟨u48, l48, e48, g49⟩ := Pal.len_cons g48
  obtain ⟨u49, l49, e49, g50⟩ := Pal.len_cons g49
  obtain ⟨u50, l50, e50, g51⟩ := Pal.len_cons g50
  obtain ⟨u51, l51, e51, g52⟩ := Pal.len_cons g51
  obtain ⟨u52, l52, e52, g53⟩ := Pal.len_cons g52
  obtain ⟨u53, l53, e53, g54⟩ := Pal.len_cons g53
  obtain ⟨u54, l54, e54, g55⟩ := Pal.len_cons g54
  obtain ⟨u55, l55, e55, g56⟩ := Pal.len_cons g55
  obtain ⟨u56, l56, e56, g57⟩ := Pal.len_cons g56
  obtain ⟨u57, l57, e57, g58⟩ := Pal.len_cons g57
  obtain ⟨u58, l58, e58, g59⟩ := Pal.len_cons g58
  obtain ⟨u59, l59, e59, g60⟩ := Pal.len_cons g59
  obtain ⟨u60, l60, e60, g61⟩ := Pal.len_cons g60
  obtain ⟨u61, l61, e61, g62⟩ := Pal.len_cons g61
  obtain ⟨u62, l62, e62, g63⟩ := Pal.len_cons g62
  obtain ⟨u63, l63, e63, g64⟩ := Pal.len_cons g63
  obtain ⟨u64, l64, e64, g65⟩ := Pal.len_cons g64
  obtain ⟨u65, l65, e65, g66⟩ := Pal.len_cons g65
  obtain ⟨u66, l66, e66, g67⟩ := Pal.len_cons g66
  obtain ⟨u67, l67, e67, g68⟩ := Pal.len_cons g67
  obtain ⟨u68, l68, e68, g69⟩ := Pal.len_cons g68
  obtain ⟨u69, l69, e69, g70⟩ := Pal.len_cons g69
  obtain ⟨u70, l70, e70, g71⟩ := Pal.len_cons g70
  obtain ⟨u71, l71, e71, g72⟩ := Pal.len_cons g71
  obtain ⟨u72, l72, e72, g73⟩ := Pal.len_cons g72
  obtain ⟨u73, l73, e73, g74⟩ := Pal.len_cons g73
  obtain ⟨u74, l74, e74, g75⟩ := Pal.len_cons g74
  obtain ⟨u75, l75, e75, g76⟩ := Pal.len_cons g75
  obtain ⟨u76, l76, e76, g77⟩ := Pal.len_cons g76
  obtain ⟨u77, l77, e77, g78⟩ := Pal.len_cons g77
  obtain ⟨u78, l78, e78, g79⟩ := Pal.len_cons g78
  obtain ⟨u79, l79, e79, g80⟩ := Pal.len_cons g79
  obtain ⟨u80, l80, e80, g81⟩ := Pal.len_cons g80
  obtain ⟨u81, l81, e81, g82⟩ := Pal.len_cons g81
  obtain ⟨u82, l82, e82, g83⟩ := Pal.len_cons g82
  obtain ⟨u83, l83, e83, g84⟩ := Pal.len_cons g83
  obtain ⟨u84, l84, e84, g85⟩ := Pal.len_cons g84
  obtain ⟨u85, l85, e85, g86⟩ := Pal.len_cons g85
  obtain ⟨u86, l86, e86, g87⟩ := Pal.len_cons g86
  obtain ⟨u87, l87, e87, g88⟩ := Pal.len_cons g87
  obtain ⟨u88, l88, e88, g89⟩ := Pal.len_cons g88
  obtain ⟨u89, l89, e89, g90⟩ := Pal.len_cons g89
  obtain ⟨u90, l90, e90, g91⟩ := Pal.len_cons g90
  obtain ⟨u91, l91, e91, g92⟩ := Pal.len_cons g91
  obtain ⟨u92, l92, e92, g93⟩ := Pal.len_cons g92
  obtain ⟨u93, l93, e93, g94⟩ := Pal.len_cons g93
  obtain ⟨u94, l94, e94, g95⟩ := Pal.len_cons g94
  obtain ⟨u95, l95, e95, g96⟩ := Pal.len_cons g95
  obtain ⟨u96, l96, e96, g97⟩ := Pal.len_cons g96
  obtain ⟨u97, l97, e97, g98⟩ := Pal.len_cons g97
  obtain ⟨u98, l98, e98, g99⟩ := Pal.len_cons g98
  obtain ⟨u99, l99, e99, g100⟩ := Pal.len_cons g99
  obtain ⟨u100, l100, e100, g101⟩ := Pal.len_cons g100
  obtain ⟨u101, l101, e101, g102⟩ := Pal.len_cons g101
  obtain ⟨u102, l102, e102, g103⟩ := Pal.len_cons g102
  obtain ⟨u103, l103, e103, g104⟩ := Pal.len_cons g103
  obtain ⟨u104, l104, e104, g105⟩ := Pal.len_cons g104
  obtain ⟨u105, l105, e105, g106⟩ := Pal.len_cons g105
  obtain ⟨u106, l106, e106, g107⟩ := Pal.len_cons g106
  obtain ⟨u107, l107, e107, g108⟩ := Pal.len_cons g107
  obtain rfl := List.eq_nil_of_length_eq_zero g108
  have e : (⟨l⟩ : Array Value) = #[u0, u1, u2, u3, u4, u5, u6, u7, u8, u9, u10, u11, u12, u13, u14, u15, u16, u17, u18, u19, u20, u21, u22, u23, u24, u25, u26, u27, u28, u29, u30, u31, u32, u33, u34, u35, u36, u37, u38, u39, u40, u41, u42, u43, u44, u45, u46, u47, u48, u49, u50, u51, u52, u53, u54, u55, u56, u57, u58, u59, u60, u61, u62, u63, u64, u65, u66, u67, u68, u69, u70, u71, u72, u73, u74, u75, u76, u77, u78, u79, u80, u81, u82, u83, u84, u85, u86, u87, u88, u89, u90, u91, u92, u93, u94, u95, u96, u97, u98, u99, u100, u101, u102, u103, u104, u105, u106, u107] := by rw [e0, e1, e2, e3, e4, e5, e6, e7, e8, e9, e10, e11, e12, e13, e14, e15, e16, e17, e18, e19, e20, e21, e22, e23, e24, e25, e26, e27, e28, e29, e30, e31, e32, e33, e34, e35, e36, e37, e38, e39, e40, e41, e42, e43, e44, e45, e46, e47, e48, e49, e50, e51, e52, e53, e54, e55, e56, e57, e58, e59, e60, e61, e62, e63, e64, e65, e66, e67, e68, e69, e70, e71, e72, e73, e74, e75, e76, e77, e78, e79, e80, e81, e82, e83, e84, e85, e86, e87, e88, e89, e90, e91, e92, e93, e94, e95, e96, e97, e98, e99, e100, e101, e102, e103, e104, e105, e106, e107]
  rw [e]
  exact h u0 u1 u2 u3 u4 u5 u6 u7 u8 u9 u10 u11 u12 u13 u14 u15 u16 u17 u18 u19 u20 u21 u22 u23 u24 u25 u26 u27 u28 u29 u30 u31 u32 u33 u34 u35 u36 u37 u38 u39 u40 u41 u42 u43 u44 u45 u46 u47 u48 u49 u50 u51 u52 u53 u54 u55 u56 u57 u58 u59 u60 u61 u62 u63 u64 u65 u66 u67 u68 u69 u70 u71 u72 u73 u74 u75 u76 u77 u78 u79 u80 u81 u82 u83 u84 u85 u86 u87 u88 u89 u90 u91 u92 u93 u94 u95 u96 u97 u98 u99 u100 u101 u102 u103 u104 u105 u106 u107

def LAct (v : Value) (bd be N i : Nat) (a : Act) : Prop :=
  a.tmps.size = 108 ∧ a.tmps[1]? = some v ∧ a.tmps[5]? = some (.bool true) ∧ a.tmps[6]? = some (.slice (some ⟨N, 0, none⟩) 4 4) ∧ a.tmps[7]? = some (.pointer (some ⟨bd, 0, none⟩)) ∧ a.tmps[8]? = some (.pointer (some ⟨be, 0, none⟩)) ∧ a.tmps[9]? = some (.int .i64 (i : Int)) ∧ a.defers = []
def LInv (w0 : World) (v : Value) (K bd be N : Nat) (m : Nat) (a : Act) (w : World) : Prop :=
  ∃ i d e, m = K - i ∧ i ≤ K ∧ LAct v bd be N i a ∧ Pr w0 w bd be N d e ∧ Same i d e

set_option maxRecDepth 100000 in
set_option maxHeartbeats 4000000 in
theorem walk (s1 : Nat) (h1 : s1 < 4294967296) (v : Value) (n : Nat) (g : Nat → Act3) (w : World) (hv : ActsAt w v n g) :
    Calls Try.prog 4 #[.int .u32 (s1 : Int), v] w fun e w' => e = .returned (.bool true) ∧ Chg (fun _ => False) w w' := by
  go_enter Try.func4, Try.ntmps4
  go_wp2_with fail
  refine (shown07_any w).mono ?_
  rintro e w1 ⟨rfl, c1⟩
  go_wp2_with fail
  have hN : Blk (w1.alloc (Obj.cells nmS 9)) w1.heap.size 9 nmS := Blk.new _ _ _
  have cN : Chg (fun _ => False) w (w1.alloc (Obj.cells nmS 9)) := c1.alloc _
  refine (Dint.new_1 cN s1 h1).mono ?_
  rintro e w2 ⟨bd, d0, rfl, od, dn, dl, _, df, dc⟩
  go_wp2_with fail
  refine (Dstring.new_1 od.chg s1 h1).mono ?_
  rintro e w3 ⟨be, e0, rfl, oe, en, el, _, ef, ec⟩
  have hT : Pr w w3 bd be w1.heap.size d0 e0 := ⟨od.chg0 ec, oe, fun g hd he => absurd (od.md.lt hd) (by have := ef g he; omega), (hN.chg dc id).chg ec id, fun h => absurd (df _ h) (by simp), fun h => absurd (ef _ h) (by have := hN.lt; have := dc.size; omega)⟩
  have hS : Same 0 d0 e0 := ⟨fun k => .inl ⟨dl k, el k⟩, by omega, by omega⟩
  generalize w1.heap.size = N at hT ⊢
  clear od oe dn dl df dc en el ef ec cN
  go_wp2_with fail
  refine wp_loop_ghost (LInv w v (min n 100) bd be N) (min n 100) ?_ ?_
  · exact ⟨0, d0, e0, rfl, Nat.zero_le _, ⟨rfl, rfl, rfl, rfl, rfl, rfl, rfl, rfl⟩, hT, hS⟩
  · clear hT hS c1
    rintro m ⟨tmps, ds⟩ W ⟨i, d, e, rfl, hi, ⟨hsz, t1, t5, t6, t7, t8, t9, rfl⟩, hT, hS⟩
    replace hsz : tmps.size = 108 := hsz
    dsimp only at t1 t5 t6 t7 t8 t9
    revert t1 t5 t6 t7 t8 t9
    revert hsz
    revert tmps
    refine all108 ?_
    intro u0 u1 u2 u3 u4 u5 u6 u7 u8 u9 u10 u11 u12 u13 u14 u15 u16 u17 u18 u19 u20 u21 u22 u23 u24 u25 u26 u27 u28 u29 u30 u31 u32 u33 u34 u35 u36 u37 u38 u39 u40 u41 u42 u43 u44 u45 u46 u47 u48 u49 u50 u51 u52 u53 u54 u55 u56 u57 u58 u59 u60 u61 u62 u63 u64 u65 u66 u67 u68 u69 u70 u71 u72 u73 u74 u75 u76 u77 u78 u79 u80 u81 u82 u83 u84 u85 u86 u87 u88 u89 u90 u91 u92 u93 u94 u95 u96 u97 u98 u99 u100 u101 u102 u103 u104 u105 u106 u107 t1 t5 t6 t7 t8 t9
    simp only [List.getElem?_toArray, List.getElem?_cons_zero, List.getElem?_cons_succ, Option.some.injEq] at t1 t5 t6 t7 t8 t9
    subst t1 t5 t6 t7 t8 t9
    obtain ⟨p, cap, rfl⟩ := hv.is
    have hle := hv.le
    by_cases hin : i < n
    · by_cases hi150 : i < 100
      · have hv' := hv.chg hT.od.chg
        obtain ⟨b, o, cap', heq, hb, q0, q1, q2, f0, f1, f2⟩ := hv'.at_ i hin
        injection heq with heq hx hcap
        subst heq hcap
        clear hx
        have hin' : (i : Int) < (n : Int) := by omega
        have hi' : (i : Int) < 100 := by omega
        go_wp2_with fail
        have hTB := hT.box #[Value.int IntKind.i64 (g i).Do, Value.string (g i).Key, Value.int IntKind.i64 (g i).V]
        refine (key7_any _ _ f1).mono ?_
        rintro e9 w9 ⟨rfl, rfl⟩
        have hks : (cutS (g i).Key 12).size ≤ 9223372036854775807 := Nat.le_trans (cutS_size _ _) f1
        have hd1 : d.n ≤ 100000 := by have := hS.ld; omega
        have he1 : e.n ≤ 100000 := by have := hS.le; omega
        have c2 := hTB.blk.cell 2
        have c0 := hTB.blk.cell 0
        simp only [List.getElem?_toArray, List.getElem?_cons_zero, List.getElem?_cons_succ] at c2 c0
        obtain ⟨r, hr, hcase⟩ := mod8 (g i).Do
        obtain ⟨j0, hj0, hb0⟩ := and3 (g i).V
        obtain ⟨s0, hs0⟩ := nm_at j0 hj0
        have nc0 := hTB.names.cell j0
        rw [hs0] at nc0
        have hj04 : (j0 : Int) < 4 := by omega
        have HS0 := Lib.hid hs0
        clear hs0
        have hlk := hS.iff (cutS (g i).Key 12)
        obtain ⟨q, hQ⟩ : ∃ q, (d.look (cutS (g i).Key 12)).isNone = q := ⟨_, rfl⟩
        obtain ⟨q', hQ'⟩ : ∃ q, (d.look (cutS (g i).Key 12)).isSome = q := ⟨_, rfl⟩
        have HQ := Lib.hid hQ
        have HQ' := Lib.hid hQ'
        have HQ2 := Lib.hid (hlk.1.trans hQ)
        have HQ2' := Lib.hid (hlk.2.trans hQ')
        clear hQ hQ' hlk
        have hsl : ∀ W', PrB w W' bd be N d e W.heap.size #[Value.int IntKind.i64 (g i).Do, Value.string (g i).Key, Value.int IntKind.i64 (g i).V] → _ := fun W' h => Dint.set_1 h.od (cutS (g i).Key 12) (.int .i64 (j0 : Int)) hks ⟨_, rfl⟩ hd1
        have hsr : ∀ W' d', PrB w W' bd be N d' e W.heap.size #[Value.int IntKind.i64 (g i).Do, Value.string (g i).Key, Value.int IntKind.i64 (g i).V] → _ := fun W' d' h => Dstring.set_1 h.oe (cutS (g i).Key 12) (.string s0) hks ⟨_, rfl⟩ he1
        rw [HQ.out] at hsl
        rw [HQ2.out] at hsr
        by_cases h4 : r < 4
        · go_wp2_with fail
          go_region_with (first
            | (go_at_call 17; refine (hsl _ (hTB.chgB ((Chg.refl _ _).drew))).mono ?_; rintro e5 W5 ⟨rfl, d', _, x1, hP1, _⟩; have hT1 := (hTB.chgB ((Chg.refl _ _).drew)).leftB x1; have b2 := hT1.blk.cell 2; have nc1 := hT1.names.cell j0; rw [HS0.out] at nc1; simp only [List.getElem?_toArray, List.getElem?_cons_zero, List.getElem?_cons_succ] at b2)
            | (go_at_call 23; refine (hsr _ _ hT1).mono ?_; rintro e6 W6 ⟨rfl, e', _, x2, hP2, _⟩; have hT2 := hT1.rightB x2))
          all_goals
            have hS2 := hS.puts ⟨j0, hj0, rfl, HS0.out⟩ hP1 hP2
            clear hsl hsr hT1 hb0 nc0 hj04 h4
            have nb := hT2.names
            clear hTB hT hS c0 c2 q0 q1 q2
            rcases hS2.look (cutS (g i).Key 12) with ⟨l1, l2⟩ | ⟨u, s, ⟨j, hj, rfl, hjs⟩, l1, l2⟩
            · have g1 := Dint.get_1 hT2.od (cutS (g i).Key 12) hks
              rw [l1] at g1
              clear l1
              simp only [Option.getD_none, Option.isSome_none] at g1
              go_wp2_with fail
              refine g1.mono ?_
              rintro e5 W5 ⟨rfl, d5, _, x5, p5, _⟩
              have hT5 := hT2.leftB x5
              have g2 := Dstring.get_1 hT5.oe (cutS (g i).Key 12) hks
              rw [l2] at g2
              clear l2 g1
              simp only [Option.getD_none, Option.isSome_none] at g2
              go_wp2_with fail
              refine g2.mono ?_
              rintro e6 W6 ⟨rfl, d6, _, x6, p6, _⟩
              have hT6 := hT5.rightB x6
              clear g2 hr
              go_wp2_with fail
              exact ⟨min n 100 - (i + 1), by omega, i + 1, _, _, rfl, by omega, ⟨rfl, rfl, rfl, rfl, rfl, rfl, rfl, rfl⟩, hT6.toPr, hS2.stays p5 p6⟩
            · obtain ⟨ss, hss⟩ := nm_at j hj
              rw [hjs] at hss
              injection hss with hss
              subst hss
              have g1 := Dint.get_1 hT2.od (cutS (g i).Key 12) hks
              rw [l1] at g1
              clear l1
              simp only [Option.getD_some, Option.isSome_some] at g1
              go_wp2_with fail
              refine g1.mono ?_
              rintro e5 W5 ⟨rfl, d5, _, x5, p5, _⟩
              have hT5 := hT2.leftB x5
              have g2 := Dstring.get_1 hT5.oe (cutS (g i).Key 12) hks
              rw [l2] at g2
              clear l2 g1
              simp only [Option.getD_some, Option.isSome_some] at g2
              go_wp2_with fail
              refine g2.mono ?_
              rintro e6 W6 ⟨rfl, d6, _, x6, p6, _⟩
              have hT6 := hT5.rightB x6
              have nc := hT6.names.cell j
              rw [hjs] at nc
              have hb3 := and3_small j hj
              have hj4 : (j : Int) < 4 := by omega
              clear g2 hjs hr
              go_wp2_with fail
              exact ⟨min n 100 - (i + 1), by omega, i + 1, _, _, rfl, by omega, ⟨rfl, rfl, rfl, rfl, rfl, rfl, rfl, rfl⟩, hT6.toPr, hS2.stays p5 p6⟩
        · clear hsl hsr hb0 nc0 hj04
          by_cases h6 : 5 < r
          · go_wp2_with fail
            have g8 := Dint.del_1 hTB.od (cutS (g i).Key 12) hks hd1
            rw [HQ'.out] at g8
            refine g8.mono ?_
            rintro e5 W5 ⟨rfl, d', _, x1, hP1, _⟩
            have hT1 := hTB.leftB x1
            have g9 := Dstring.del_1 hT1.oe (cutS (g i).Key 12) hks he1
            rw [HQ2'.out] at g9
            clear g8
            go_wp2_with fail
            refine g9.mono ?_
            rintro e6 W6 ⟨rfl, e', _, x2, hP2, _⟩
            have hT2 := hT1.rightB x2
            have hS2 := hS.cuts hP1 hP2
            clear g9 hT1 h4 h6
            have nb := hT2.names
            clear hTB hT hS c0 c2 q0 q1 q2
            rcases hS2.look (cutS (g i).Key 12) with ⟨l1, l2⟩ | ⟨u, s, ⟨j, hj, rfl, hjs⟩, l1, l2⟩
            · have g1 := Dint.get_1 hT2.od (cutS (g i).Key 12) hks
              rw [l1] at g1
              clear l1
              simp only [Option.getD_none, Option.isSome_none] at g1
              go_wp2_with fail
              refine g1.mono ?_
              rintro e5 W5 ⟨rfl, d5, _, x5, p5, _⟩
              have hT5 := hT2.leftB x5
              have g2 := Dstring.get_1 hT5.oe (cutS (g i).Key 12) hks
              rw [l2] at g2
              clear l2 g1
              simp only [Option.getD_none, Option.isSome_none] at g2
              go_wp2_with fail
              refine g2.mono ?_
              rintro e6 W6 ⟨rfl, d6, _, x6, p6, _⟩
              have hT6 := hT5.rightB x6
              clear g2 hr
              go_wp2_with fail
              exact ⟨min n 100 - (i + 1), by omega, i + 1, _, _, rfl, by omega, ⟨rfl, rfl, rfl, rfl, rfl, rfl, rfl, rfl⟩, hT6.toPr, hS2.stays p5 p6⟩
            · obtain ⟨ss, hss⟩ := nm_at j hj
              rw [hjs] at hss
              injection hss with hss
              subst hss
              have g1 := Dint.get_1 hT2.od (cutS (g i).Key 12) hks
              rw [l1] at g1
              clear l1
              simp only [Option.getD_some, Option.isSome_some] at g1
              go_wp2_with fail
              refine g1.mono ?_
              rintro e5 W5 ⟨rfl, d5, _, x5, p5, _⟩
              have hT5 := hT2.leftB x5
              have g2 := Dstring.get_1 hT5.oe (cutS (g i).Key 12) hks
              rw [l2] at g2
              clear l2 g1
              simp only [Option.getD_some, Option.isSome_some] at g2
              go_wp2_with fail
              refine g2.mono ?_
              rintro e6 W6 ⟨rfl, d6, _, x6, p6, _⟩
              have hT6 := hT5.rightB x6
              have nc := hT6.names.cell j
              rw [hjs] at nc
              have hb3 := and3_small j hj
              have hj4 : (j : Int) < 4 := by omega
              clear g2 hjs hr
              go_wp2_with fail
              exact ⟨min n 100 - (i + 1), by omega, i + 1, _, _, rfl, by omega, ⟨rfl, rfl, rfl, rfl, rfl, rfl, rfl, rfl⟩, hT6.toPr, hS2.stays p5 p6⟩
          · have hT2 := hTB
            have hS2 := hS.next
            have nb := hT2.names
            clear hTB hT hS c2
            rcases hS2.look (cutS (g i).Key 12) with ⟨l1, l2⟩ | ⟨u, s, ⟨j, hj, rfl, hjs⟩, l1, l2⟩
            · have g1 := Dint.get_1 hT2.od (cutS (g i).Key 12) hks
              rw [l1] at g1
              clear l1
              simp only [Option.getD_none, Option.isSome_none] at g1
              go_wp2_with fail
              refine g1.mono ?_
              rintro e5 W5 ⟨rfl, d5, _, x5, p5, _⟩
              have hT5 := hT2.leftB x5
              have g2 := Dstring.get_1 hT5.oe (cutS (g i).Key 12) hks
              rw [l2] at g2
              clear l2 g1
              simp only [Option.getD_none, Option.isSome_none] at g2
              go_wp2_with fail
              refine g2.mono ?_
              rintro e6 W6 ⟨rfl, d6, _, x6, p6, _⟩
              have hT6 := hT5.rightB x6
              clear g2 hr
              go_wp2_with fail
              exact ⟨min n 100 - (i + 1), by omega, i + 1, _, _, rfl, by omega, ⟨rfl, rfl, rfl, rfl, rfl, rfl, rfl, rfl⟩, hT6.toPr, hS2.stays p5 p6⟩
            · obtain ⟨ss, hss⟩ := nm_at j hj
              rw [hjs] at hss
              injection hss with hss
              subst hss
              have g1 := Dint.get_1 hT2.od (cutS (g i).Key 12) hks
              rw [l1] at g1
              clear l1
              simp only [Option.getD_some, Option.isSome_some] at g1
              go_wp2_with fail
              refine g1.mono ?_
              rintro e5 W5 ⟨rfl, d5, _, x5, p5, _⟩
              have hT5 := hT2.leftB x5
              have g2 := Dstring.get_1 hT5.oe (cutS (g i).Key 12) hks
              rw [l2] at g2
              clear l2 g1
              simp only [Option.getD_some, Option.isSome_some] at g2
              go_wp2_with fail
              refine g2.mono ?_
              rintro e6 W6 ⟨rfl, d6, _, x6, p6, _⟩
              have hT6 := hT5.rightB x6
              have nc := hT6.names.cell j
              rw [hjs] at nc
              have hb3 := and3_small j hj
              have hj4 : (j : Int) < 4 := by omega
              clear g2 hjs hr
              go_wp2_with fail
              exact ⟨min n 100 - (i + 1), by omega, i + 1, _, _, rfl, by omega, ⟨rfl, rfl, rfl, rfl, rfl, rfl, rfl, rfl⟩, hT6.toPr, hS2.stays p5 p6⟩
      · have hin' : (i : Int) < (n : Int) := by omega
        have hi' : ((i : Int) < 100) = False := by simp only [eq_iff_iff, iff_false]; omega
        clear hi150
        go_wp2_with fail
        go_ret
        exact ⟨rfl, hT.od.chg⟩
    · have hin' : ((i : Int) < (n : Int)) = False := by simp only [eq_iff_iff, iff_false]; omega
      have hin2 : (i < n) = False := by simp only [eq_iff_iff, iff_false]; omega
      clear hin
      go_wp2_with fail
      go_ret
      exact ⟨rfl, hT.od.chg⟩

set_option maxRecDepth 100000 in
theorem DictTexts_walk (W : World) (a0 : Int) (w0 : (Lit.int .u32 a0).wf = true) {H : Type} {enc : TypeId × Value → H} {v : Value} {d : DataW H} {p : List MemPlace}
    (hv : Value.okWide Try.prog W .any 0 23 v) (h : DataW.Trod enc Try.prog W 0 (fun _ => true) true 23 v d p) :
    Calls Try.prog 4 #[.int .u32 a0, v] W fun e w' => e = .returned (.bool true) ∧ Chg (fun _ => False) W w' := by
  obtain ⟨s0, rfl, h0⟩ := u32_of_wf w0
  obtain ⟨n, g, hg⟩ := open_acts hv h
  exact walk s0 h0 v n g W hg

end Go.Proofs.Ythbjjjcppijcbaa.dictTexts
