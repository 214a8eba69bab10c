/- Texts joined for DictDoes: RB. -/
import Derived.Test.YthbjjjcppijcbaaJDictDoesf
set_option linter.unusedVariables false
set_option linter.unusedSimpArgs false

/- The walk of the document's Bucket. -/
namespace Go.Proofs.Ythbjjjcppijcbaa
open Go.RowKit Pal Dint
attribute [local go_sem ↓] Go.wp_at_zero Go.wp_at_succ

def Rm.sz (r : Rm) (ti : Nat) : Nat := if ti = 1 then r.b else r.a
def inT (ti sz si : Nat) (x : Nr) : Bool := (x.next == decide (ti = 1)) && decide (x.sum % sz = si)
def Rm.bk (r : Rm) (ti si : Nat) : List ByteArray := sortI ((r.l.filter (inT ti (r.sz ti) si)).map (·.key))
theorem sortI_snoc (l : List ByteArray) (k : ByteArray) : sortI (l ++ [k]) = insB k (sortI l) := by unfold sortI; rw [List.foldl_append]; rfl
theorem insB_len (k : ByteArray) (l : List ByteArray) : (insB k l).length = l.length + 1 := (insB_perm k l).length_eq
theorem fold_mem : ∀ (l o : List ByteArray), (l.foldl (fun o k => insB k o) o).Perm (o ++ l)
  | [], o => by simp
  | k :: l, o => (fold_mem l (insB k o)).trans (((insB_perm k o).append_right l).trans (by rw [List.cons_append]; exact List.perm_middle.symm))
theorem sortI_perm (l : List ByteArray) : (sortI l).Perm l := fold_mem l []
theorem inT_iff {ti sz si : Nat} {x : Nr} : inT ti sz si x = true ↔ x.next = decide (ti = 1) ∧ x.sum % sz = si := by unfold inT; rw [Bool.and_eq_true, beq_iff_eq, decide_eq_true_iff]
theorem sortI_len (l : List ByteArray) : (sortI l).length = l.length := (sortI_perm l).length_eq

theorem all99 {P : Array Value → Prop} (h : ∀ u0 u1 u2 u3 u4 u5 u6 u7 u8 u9 u10 u11 u12 u13 u14 u15 u16 u17 u18 u19 u20 u21 u22 u23 u24 u25 u26 u27 u28 u29 u30 u31 u32 u33 u34 u35 u36 u37 u38 u39 u40 u41 u42 u43 u44 u45 u46 u47 u48 u49 u50 u51 u52 u53 u54 u55 u56 u57 u58 u59 u60 u61 u62 u63 u64 u65 u66 u67 u68 u69 u70 u71 u72 u73 u74 u75 u76 u77 u78 u79 u80 u81 u82 u83 u84 u85 u86 u87 u88 u89 u90 u91 u92 u93 u94 u95 u96 u97 u98 : Value, P #[u0, u1, u2, u3, u4, u5, u6, u7, u8, u9, u10, u11, u12, u13, u14, u15, u16, u17, u18, u19, u20, u21, u22, u23, u24, u25, u26, u27, u28, u29, u30, u31, u32, u33, u34, u35, u36, u37, u38, u39, u40, u41, u42, u43, u44, u45, u46, u47, u48, u49, u50, u51, u52, u53, u54, u55, u56, u57, u58, u59, u60, u61, u62, u63, u64, u65, u66, u67, u68, u69, u70, u71, u72, u73, u74, u75, u76, u77, u78, u79, u80, u81, u82, u83, u84, u85, u86, u87, u88, u89, u90, u91, u92, u93, u94, u95, u96, u97, u98]) (a : Array Value) (hs : a.size = 99) : P a := by
  obtain ⟨l⟩ := a
  have g0 : l.length = 99 := hs
  clear hs
  obtain ⟨u0, l0, e0, g1⟩ := Pal.len_cons g0
  obtain ⟨u1, l1, e1, g2⟩ := Pal.len_cons g1
  obtain ⟨u2, l2, e2, g3⟩ := Pal.len_cons g2
  obtain ⟨u3, l3, e3, g4⟩ := Pal.len_cons g3
  obtain ⟨u4, l4, e4, g5⟩ := Pal.len_cons g4
  obtain ⟨u5, l5, e5, g6⟩ := Pal.len_cons g5
  obtain ⟨u6, l6, e6, g7⟩ := Pal.len_cons g6
  obtain ⟨u7, l7, e7, g8⟩ := Pal.len_cons g7
  obtain ⟨u8, l8, e8, g9⟩ := Pal.len_cons g8
  obtain ⟨u9, l9, e9, g10⟩ := Pal.len_cons g9
  obtain ⟨u10, l10, e10, g11⟩ := Pal.len_cons g10
  obtain ⟨u11, l11, e11, g12⟩ := Pal.len_cons g11
  obtain ⟨u12, l12, e12, g13⟩ := Pal.len_cons g12
  obtain ⟨u13, l13, e13, g14⟩ := Pal.len_cons g13
  obtain ⟨u14, l14, e14, g15⟩ := Pal.len_cons g14
  obtain ⟨u15, l15, e15, g16⟩ := Pal.len_cons g15
  obtain ⟨u16, l16, e16, g17⟩ := Pal.len_cons g16
  obtain ⟨u17, l17, e17, g18⟩ := Pal.len_cons g17
  obtain ⟨u18, l18, e18, g19⟩ := Pal.len_cons g18
  obtain ⟨u19, l19, e19, g20⟩ := Pal.len_cons g19
  obtain ⟨u20, l20, e20, g21⟩ := Pal.len_cons g20
  obtain ⟨u21, l21, e21, g22⟩ := Pal.len_cons g21
  obtain ⟨u22, l22, e22, g23⟩ := Pal.len_cons g22
  obtain ⟨u23, l23, e23, g24⟩ := Pal.len_cons g23
  obtain ⟨u24, l24, e24, g25⟩ := Pal.len_cons g24
  obtain ⟨u25, l25, e25, g26⟩ := Pal.len_cons g25
  obtain ⟨u26, l26, e26, g27⟩ := Pal.len_cons g26
  obtain ⟨u27, l27, e27, g28⟩ := Pal.len_cons g27
  obtain ⟨u28, l28, e28, g29⟩ := Pal.len_cons g28
  obtain ⟨u29, l29, e29, g30⟩ := Pal.len_cons g29
  obtain ⟨u30, l30, e30, g31⟩ := Pal.len_cons g30
  obtain ⟨u31, l31, e31, g32⟩ := Pal.len_cons g31
  obtain ⟨u32, l32, e32, g33⟩ := Pal.len_cons g32
  obtain ⟨u33, l33, e33, g34⟩ := Pal.len_cons g33
  obtain ⟨u34, l34, e34, g35⟩ := Pal.len_cons g34
  obtain ⟨u35, l35, e35, g36⟩ := Pal.len_cons g35
  obtain ⟨u36, l36, e36, g37⟩ := Pal.len_cons g36
  obtain ⟨u37, l37, e37, g38⟩ := Pal.len_cons g37
  obtain ⟨u38, l38, e38, g39⟩ := Pal.len_cons g38
  obtain ⟨u39, l39, e39, g40⟩ := Pal.len_cons g39
  obtain ⟨u40, l40, e40, g41⟩ := Pal.len_cons g40
  obtain ⟨u41, l41, e41, g42⟩ := Pal.len_cons g41
  obtain ⟨u42, l42, e42, g43⟩ := Pal.len_cons g42
  obtain ⟨u43, l43, e43, g44⟩ := Pal.len_cons g43
  obtain ⟨u44, l44, e44, g45⟩ := Pal.len_cons g44
  obtain ⟨u45, l45, e45, g46⟩ := Pal.len_cons g45
  obtain ⟨u46, l46, e46, g47⟩ := Pal.len_cons g46
  obtain ⟨u47, l47, e47, g48⟩ := Pal.len_cons g47
  obtain ⟨u48, l48, e48, g49⟩ := Pal.len_cons g48
  obtain ⟨u49, l49, e49, g50⟩ := Pal.len_cons g49
  obtain ⟨u50, l50, e50, g51⟩ := Pal.len_cons g50
  obtain ⟨u51, l51, e51, g52⟩ := Pal.len_cons g51
  obtain ⟨u52, l52, e52, g53⟩ := Pal.len_cons g52
  obtain ⟨u53, l53, e53, g54⟩ := Pal.len_cons g53
  obtain ⟨u54, l54, e54, g55⟩ := Pal.len_cons g54
  obtain ⟨u55, l55, e55, g56⟩ := Pal.len_cons g55
  obtain ⟨u56, l56, e56, g57⟩ := Pal.len_cons g56
  obtain ⟨u57, l57, e57, g58⟩ := Pal.len_cons g57
  obtain ⟨u58, l58, e58, g59⟩ := Pal.len_cons g58
  obtain ⟨u59, l59, e59, g60⟩ := Pal.len_cons g59
  obtain ⟨u60, l60, e60, g61⟩ := Pal.len_cons g60
  obtain ⟨u61, l61, e61, g62⟩ := Pal.len_cons g61
  obtain ⟨u62, l62, e62, g63⟩ := Pal.len_cons g62
  obtain ⟨u63, l63, e63, g64⟩ := Pal.len_cons g63
  obtain ⟨u64, l64, e64, g65⟩ := Pal.len_cons g64
  obtain ⟨u65, l65, e65, g66⟩ := Pal.len_cons g65
  obtain ⟨u66, l66, e66, g67⟩ := Pal.len_cons g66
  obtain ⟨u67, l67, e67, g68⟩ := Pal.len_cons g67
  obtain ⟨u68, l68, e68, g69⟩ := Pal.len_cons g68
  obtain ⟨u69, l69, e69, g70⟩ := Pal.len_cons g69
  obtain ⟨u70, l70, e70, g71⟩ := Pal.len_cons g70
  obtain ⟨u71, l71, e71, g72⟩ := Pal.len_cons g71
  obtain ⟨u72, l72, e72, g73⟩ := Pal.len_cons g72
  obtain ⟨u73, l73, e73, g74⟩ := Pal.len_cons g73
  obtain ⟨u74, l74, e74, g75⟩ := Pal.len_cons g74
  obtain ⟨u75, l75, e75, g76⟩ := Pal.len_cons g75
  obtain ⟨u76, l76, e76, g77⟩ := Pal.len_cons g76
  obtain ⟨u77, l77, e77, g78⟩ := Pal.len_cons g77
  obtain ⟨u78, l78, e78, g79⟩ := Pal.len_cons g78
  obtain ⟨u79, l79, e79, g80⟩ := Pal.len_cons g79
  obtain ⟨u80, l80, e80, g81⟩ := Pal.len_cons g80
  obtain ⟨u81, l81, e81, g82⟩ := Pal.len_cons g81
  obtain ⟨u82, l82, e82, g83⟩ := Pal.len_cons g82
  obtain ⟨u83, l83, e83, g84⟩ := Pal.len_cons g83
  obtain ⟨u84, l84, e84, g85⟩ := Pal.len_cons g84
  obtain ⟨u85, l85, e85, g86⟩ := Pal.len_cons g85
  obtain ⟨u86, l86, e86, g87⟩ := Pal.len_cons g86
  obtain ⟨u87, l87, e87, g88⟩ := Pal.len_cons g87
  obtain ⟨u88, l88, e88, g89⟩ := Pal.len_cons g88
  obtain ⟨u89, l89, e89, g90⟩ := Pal.len_cons g89
  obtain ⟨u90, l90, e90, g91⟩ := Pal.len_cons g90
  obtain ⟨u91, l91, e91, g92⟩ := Pal.len_cons g91
  obtain ⟨u92, l92, e92, g93⟩ := Pal.len_cons g92
  obtain ⟨u93, l93, e93, g94⟩ := Pal.len_cons g93
  obtain ⟨u94, l94, e94, g95⟩ := Pal.len_cons g94
  obtain ⟨u95, l95, e95, g96⟩ := Pal.len_cons g95
  obtain ⟨u96, l96, e96, g97⟩ := Pal.len_cons g96
  obtain ⟨u97, l97, e97, g98⟩ := Pal.len_cons g97
  obtain ⟨u98, l98, e98, g99⟩ := Pal.len_cons g98
  obtain rfl := List.eq_nil_of_length_eq_zero g99
  have e : (⟨l⟩ : Array Value) = #[u0, u1, u2, u3, u4, u5, u6, u7, u8, u9, u10, u11, u12, u13, u14, u15, u16, u17, u18, u19, u20, u21, u22, u23, u24, u25, u26, u27, u28, u29, u30, u31, u32, u33, u34, u35, u36, u37, u38, u39, u40, u41, u42, u43, u44, u45, u46, u47, u48, u49, u50, u51, u52, u53, u54, u55, u56, u57, u58, u59, u60, u61, u62, u63, u64, u65, u66, u67, u68, u69, u70, u71, u72, u73, u74, u75, u76, u77, u78, u79, u80, u81, u82, u83, u84, u85, u86, u87, u88, u89, u90, u91, u92, u93, u94, u95, u96, u97, u98] := by rw [e0, e1, e2, e3, e4, e5, e6, e7, e8, e9, e10, e11, e12, e13, e14, e15, e16, e17, e18, e19, e20, e21, e22, e23, e24, e25, e26, e27, e28, e29, e30, e31, e32, e33, e34, e35, e36, e37, e38, e39, e40, e41, e42, e43, e44, e45, e46, e47, e48, e49, e50, e51, e52, e53, e54, e55, e56, e57, e58, e59, e60, e61, e62, e63, e64, e65, e66, e67, e68, e69, e70, e71, e72, e73, e74, e75, e76, e77, e78, e79, e80, e81, e82, e83, e84, e85, e86, e87, e88, e89, e90, e91, e92, e93, e94, e95, e96, e97, e98]
  rw [e]
  exact h u0 u1 u2 u3 u4 u5 u6 u7 u8 u9 u10 u11 u12 u13 u14 u15 u16 u17 u18 u19 u20 u21 u22 u23 u24 u25 u26 u27 u28 u29 u30 u31 u32 u33 u34 u35 u36 u37 u38 u39 u40 u41 u42 u43 u44 u45 u46 u47 u48 u49 u50 u51 u52 u53 u54 u55 u56 u57 u58 u59 u60 u61 u62 u63 u64 u65 u66 u67 u68 u69 u70 u71 u72 u73 u74 u75 u76 u77 u78 u79 u80 u81 u82 u83 u84 u85 u86 u87 u88 u89 u90 u91 u92 u93 u94 u95 u96 u97 u98
def ActB0 (blk ti si sz : Nat) (o : Value) (i : Nat) (a : Act) : Prop := a.tmps.size = 99 ∧ a.tmps[0]? = some (ptr blk) ∧ a.tmps[1]? = some (.int .i64 (ti : Int)) ∧ a.tmps[2]? = some (.int .i64 (si : Int)) ∧ a.tmps[8]? = some (.int .i64 (sz : Int)) ∧ a.tmps[9]? = some (o) ∧ a.tmps[10]? = some (.int .i64 (i : Int)) ∧ a.defers = []
def InvB0 (w0 : World) (r : Rm) (ti si sz : Nat) (m : Nat) (a : Act) (w : World) : Prop :=
  ∃ i o, m = r.l.length - i ∧ i ≤ r.l.length ∧ ActB0 r.blk ti si sz o i a ∧ Chg (fun _ => False) w0 w ∧ Strs w w0.heap.size o (sortI (((r.l.take i).filter (inT ti sz si)).map (·.key)))
def ActB2 (blk ti si sz : Nat) (o : Value) (i bx k : Nat) (a : Act) : Prop := a.tmps.size = 99 ∧ a.tmps[0]? = some (ptr blk) ∧ a.tmps[1]? = some (.int .i64 (ti : Int)) ∧ a.tmps[2]? = some (.int .i64 (si : Int)) ∧ a.tmps[8]? = some (.int .i64 (sz : Int)) ∧ a.tmps[9]? = some (o) ∧ a.tmps[10]? = some (.int .i64 (i : Int)) ∧ a.tmps[11]? = some (ptr bx) ∧ a.tmps[12]? = some (.int .i64 (k : Int)) ∧ a.defers = []
def InvB2 (r : Rm) (ti si sz : Nat) (ol : List ByteArray) (key : ByteArray) (o : Value) (i bx : Nat) (w1 : World) (m : Nat) (a : Act) (w : World) : Prop :=
  ∃ k, m = ol.length - k ∧ k ≤ ol.length ∧ ActB2 r.blk ti si sz o i bx k a ∧ Chg (fun _ => False) w1 w ∧ ∀ (j : Nat) (h : j < ol.length), j < k → ltB ol[j] key
def PostB2 (r : Rm) (ti si sz : Nat) (ol : List ByteArray) (key : ByteArray) (o : Value) (i bx : Nat) (w1 : World) (e : Exit) (a : Act) (w : World) : Prop :=
  e = .normal ∧ ∃ k, ActB2 r.blk ti si sz o i bx k a ∧ k ≤ ol.length ∧ Chg (fun _ => False) w1 w ∧ (∀ (j : Nat) (h : j < ol.length), j < k → ltB ol[j] key) ∧ ∀ h : k < ol.length, ¬ ltB ol[k] key

set_option maxRecDepth 100000 in
set_option maxHeartbeats 4000000 in
theorem BucketR_0 (r : Rm) (si : Nat) (w : World) (base : Nat) (h : RmAt w base r) (hsi : si < r.a) (ha6 : r.a ≤ 65536) (hn : r.l.length ≤ 1000000) (hsum : ∀ x ∈ r.l, x.sum < 4294967296) (hkey : ∀ x ∈ r.l, x.key.size ≤ 9223372036854775807) :
    Calls Try.prog 30 #[ptr r.blk, .int .i64 ((0 : Nat) : Int), .int .i64 (si : Int)] w fun e w' => (∃ v, e = .returned (.tuple #[v, .int .i64 0]) ∧ Strs w' w.heap.size v (r.bk 0 si)) ∧ Chg (fun _ => False) w w' := by
  have hR := h
  obtain ⟨p, cap, hlv, hl1, hl2, _⟩ := h.own.is
  obtain ⟨c0, c1, c2, c3, c4, fr, hlt0⟩ := rm_cells hR
  rw [hlv] at c1
  replace hlv := Lib.hid hlv
  have hs0 : (0 : Int) ≤ (si : Int) := by omega
  have hs1 : ((si : Int) < 0) = False := by simp only [eq_iff_iff, iff_false]; omega
  have hs2 : ((si : Int) ≥ (r.a : Int)) = False := by simp only [eq_iff_iff, iff_false]; omega
  have hs3 : (si : Int) < (r.a : Int) := by omega
  have holsz : ∀ {i : Nat} (k : ByteArray), k ∈ sortI (((r.l.take i).filter (inT 0 r.a si)).map (·.key)) → k.size ≤ 9223372036854775807 := fun {i} k hk => by
    obtain ⟨x, hx, rfl⟩ := List.mem_map.1 ((sortI_perm _).mem_iff.1 hk)
    exact hkey x (List.mem_of_mem_take (List.mem_filter.1 hx).1)
  unfold ptr
  go_enter Try.func30, Try.ntmps30
  go_wp2_with fail
  refine wp_loop_ghost (InvB0 w r 0 si r.a) r.l.length ?_ ?_
  · exact ⟨0, _, rfl, Nat.zero_le _, ⟨rfl, rfl, rfl, rfl, rfl, rfl, rfl, rfl⟩, Chg.refl _ _, Strs.nil _ _⟩
  · clear c0 c1 c2 c3 c4 fr hlt0
    rintro m ⟨tmps, ds⟩ W ⟨i, o, rfl, hi, ⟨hsz, t0, t1, t2, t8, t9, t10, rfl⟩, hC, ho⟩
    replace hsz : tmps.size = 99 := hsz
    dsimp only at t0 t1 t2 t8 t9 t10
    revert t0 t1 t2 t8 t9 t10
    revert hsz
    revert tmps
    refine all99 ?_
    intro u0 u1 u2 u3 u4 u5 u6 u7 u8 u9 u10 u11 u12 u13 u14 u15 u16 u17 u18 u19 u20 u21 u22 u23 u24 u25 u26 u27 u28 u29 u30 u31 u32 u33 u34 u35 u36 u37 u38 u39 u40 u41 u42 u43 u44 u45 u46 u47 u48 u49 u50 u51 u52 u53 u54 u55 u56 u57 u58 u59 u60 u61 u62 u63 u64 u65 u66 u67 u68 u69 u70 u71 u72 u73 u74 u75 u76 u77 u78 u79 u80 u81 u82 u83 u84 u85 u86 u87 u88 u89 u90 u91 u92 u93 u94 u95 u96 u97 u98 t0 t1 t2 t8 t9 t10
    simp only [ptr, List.getElem?_toArray, List.getElem?_cons_zero, List.getElem?_cons_succ, Option.some.injEq] at t0 t1 t2 t8 t9 t10
    subst t0 t1 t2 t8 t9 t10
    have hR := h.chg0 hC
    obtain ⟨c0, c1, c2, c3, c4, fr, hlt0⟩ := rm_cells hR
    rw [hlv.out] at c1
    have hib : (i : Int) ≤ 1000000 := by omega
    by_cases hil : i < r.l.length
    · have hil' : (i : Int) < (r.l.length : Int) := by omega
      obtain ⟨x, hx⟩ : ∃ x, r.l[i]? = some x := ⟨_, List.getElem?_eq_getElem hil⟩
      have hown := hR.own
      rw [hlv.out] at hown
      obtain ⟨g, rfl, _, nk, nv, ns, nn, nf, nl⟩ := hown.at_ hx
      have hxm := List.mem_of_getElem? hx
      have hs := hsum x hxm
      have hksz := hkey x hxm
      have hm := tmod_nat x.sum r.a
      have hsz1 : ¬ (r.a : Int) = 0 := by omega
      have htk : r.l.take (i + 1) = r.l.take i ++ [x] := by rw [List.take_add_one, hx]; rfl
      have hbx := Blk.new W 104 #[.string x.key, .int .i64 x.v, .int .u32 (x.sum : Int), .bool x.next]
      have hCb : Chg (fun _ => False) W (W.alloc (.cells #[.string x.key, .int .i64 x.v, .int .u32 (x.sum : Int), .bool x.next] 104)) := (Chg.refl _ W).alloc _
      obtain ⟨ol, hol⟩ : ∃ ol, ol = sortI (((r.l.take i).filter (inT 0 r.a si)).map (·.key)) := ⟨_, rfl⟩
      rw [← hol] at ho
      have hllo : ol.length ≤ i := by
        rw [hol, sortI_len, List.length_map]
        exact Nat.le_trans (List.length_filter_le _ _) (by rw [List.length_take]; omega)
      by_cases hq : inT 0 r.a si x = true
      · have hnew : sortI (((r.l.take (i + 1)).filter (inT 0 r.a si)).map (·.key)) = insB x.key ol := by
          rw [htk, List.filter_append, List.map_append, hol]
          rw [show ([x].filter (inT 0 r.a si)) = [x] by simp [hq]]
          exact sortI_snoc _ _
        have hqn : x.next = false := (inT_iff.1 hq).1
        have hqs : x.sum % r.a = si := (inT_iff.1 hq).2
        have hmt : (((x.sum % r.a : Nat) : Int) != (si : Int)) = false := by rw [hqs]; simp
        have hmt2 : ((x.sum % r.a : Nat) : Int) = (si : Int) := by rw [hqs]
        rw [hqn] at nn hbx hCb
        replace hqn := Lib.hid hqn
        replace hol := Lib.hid hol
        have hllo' := Lib.hid hllo
        clear hq hqs htk hx hllo
        obtain ⟨po, co, rfl, hlo1, hlo2, _⟩ := ho.is
        unfold maxLen at hlo2
        go_upto_block 2 with (fail)
        refine wp_mono (Q := PostB2 r 0 si r.a ol x.key (.slice po ol.length co) i W.heap.size (W.alloc (.cells #[.string x.key, .int .i64 x.v, .int .u32 (x.sum : Int), .bool false] 104))) ?_ ?_
        · go_wp2_with fail
          refine wp_loop_ghost (InvB2 r 0 si r.a ol x.key (.slice po ol.length co) i W.heap.size (W.alloc (.cells #[.string x.key, .int .i64 x.v, .int .u32 (x.sum : Int), .bool false] 104))) ol.length ?_ ?_
          · exact ⟨0, rfl, Nat.zero_le _, ⟨rfl, rfl, rfl, rfl, rfl, rfl, rfl, rfl, rfl, rfl⟩, Chg.refl _ _, fun j _ h => absurd h (Nat.not_lt_zero _)⟩
          · rintro m ⟨tmps, ds⟩ W3 ⟨k, rfl, hk, ⟨hsz, t0, t1, t2, t8, t9, t10, t11, t12, rfl⟩, hC3, hlt⟩
            replace hsz : tmps.size = 99 := hsz
            dsimp only at t0 t1 t2 t8 t9 t10 t11 t12
            revert t0 t1 t2 t8 t9 t10 t11 t12
            revert hsz
            revert tmps
            refine all99 ?_
            intro u0 u1 u2 u3 u4 u5 u6 u7 u8 u9 u10 u11 u12 u13 u14 u15 u16 u17 u18 u19 u20 u21 u22 u23 u24 u25 u26 u27 u28 u29 u30 u31 u32 u33 u34 u35 u36 u37 u38 u39 u40 u41 u42 u43 u44 u45 u46 u47 u48 u49 u50 u51 u52 u53 u54 u55 u56 u57 u58 u59 u60 u61 u62 u63 u64 u65 u66 u67 u68 u69 u70 u71 u72 u73 u74 u75 u76 u77 u78 u79 u80 u81 u82 u83 u84 u85 u86 u87 u88 u89 u90 u91 u92 u93 u94 u95 u96 u97 u98 t0 t1 t2 t8 t9 t10 t11 t12
            simp only [ptr, List.getElem?_toArray, List.getElem?_cons_zero, List.getElem?_cons_succ, Option.some.injEq] at t0 t1 t2 t8 t9 t10 t11 t12
            subst t0 t1 t2 t8 t9 t10 t11 t12
            have hkb : (k : Int) ≤ 1000000 := by have := hllo'.out; omega
            have hb3 := hbx.chg hC3 id
            have k0 := hb3.cell 0
            have k00 := hb3.lt
            simp only [List.getElem?_toArray, List.getElem?_cons_zero] at k0
            by_cases hkl : k < ol.length
            · have hkl' : (k : Int) < (ol.length : Int) := by omega
              obtain ⟨go, rfl, _, e2, e3⟩ := ((ho.chg hCb fun _ _ => id).chg hC3 fun _ _ => id).at_ hkl
              have hsz' : ol[k].size ≤ 9223372036854775807 := holsz _ (by rw [← hol.out]; exact List.getElem_mem hkl)
              obtain ⟨y, hy⟩ : ∃ y, ol[k] = y := ⟨_, rfl⟩
              rw [hy] at e3 hsz'
              have hls := fun W' => less_any y x.key W' hsz' hksz
              replace hlt := Lib.hid hlt
              by_cases hle : ltB y x.key
              · simp only [hle, decide_true] at hls
                have hlt' : Hid (∀ (j : Nat) (h : j < ol.length), j < k + 1 → ltB ol[j] x.key) := fun j h hj => by
                  by_cases e : j = k
                  · subst e; rw [hy]; exact hle
                  · exact hlt.out j h (by omega)
                replace hy := Lib.hid hy
                clear hle
                go_wp2_with fail
                go_quiet ((go_at_call 63; exact Calls.quiet_of (hls _)))
                go_wp2_with fail
                exact ⟨ol.length - (k + 1), by omega, k + 1, rfl, by omega, ⟨rfl, rfl, rfl, rfl, rfl, rfl, rfl, rfl, rfl, rfl⟩, hC3.trans ((Chg.refl _ _).drewN _), hlt'.out⟩
              · simp only [hle, decide_false] at hls
                have hno : Hid (∀ h : k < ol.length, ¬ ltB ol[k] x.key) := fun _ => by rw [hy]; exact hle
                replace hy := Lib.hid hy
                clear hle
                go_wp2_with fail
                go_quiet ((go_at_call 63; exact Calls.quiet_of (hls _)))
                go_wp2_with fail
                exact ⟨rfl, k, ⟨rfl, rfl, rfl, rfl, rfl, rfl, rfl, rfl, rfl, rfl⟩, hk, hC3.trans ((Chg.refl _ _).drewN _), hlt.out, hno.out⟩
            · have hkl' : ((k : Int) < (ol.length : Int)) = False := by simp only [eq_iff_iff, iff_false]; omega
              have hkl2 : (k < ol.length) = False := by simp only [eq_iff_iff, iff_false]; omega
              have hno : Hid (∀ h : k < ol.length, ¬ ltB ol[k] x.key) := fun h => absurd h hkl
              replace hlt := Lib.hid hlt
              clear hkl
              go_wp2_with fail
              go_quiet (fail)
              go_wp2_with fail
              exact ⟨rfl, k, ⟨rfl, rfl, rfl, rfl, rfl, rfl, rfl, rfl, rfl, rfl⟩, hk, hC3.trans ((Chg.refl _ _).drewN _), hlt.out, hno.out⟩
        · rintro e ⟨tmps, ds⟩ W4 ⟨rfl, k, ⟨hsz, t0, t1, t2, t8, t9, t10, t11, t12, rfl⟩, hk, hC3, hlt, hnl⟩
          replace hsz : tmps.size = 99 := hsz
          dsimp only at t0 t1 t2 t8 t9 t10 t11 t12
          revert t0 t1 t2 t8 t9 t10 t11 t12
          revert hsz
          revert tmps
          refine all99 ?_
          intro u0 u1 u2 u3 u4 u5 u6 u7 u8 u9 u10 u11 u12 u13 u14 u15 u16 u17 u18 u19 u20 u21 u22 u23 u24 u25 u26 u27 u28 u29 u30 u31 u32 u33 u34 u35 u36 u37 u38 u39 u40 u41 u42 u43 u44 u45 u46 u47 u48 u49 u50 u51 u52 u53 u54 u55 u56 u57 u58 u59 u60 u61 u62 u63 u64 u65 u66 u67 u68 u69 u70 u71 u72 u73 u74 u75 u76 u77 u78 u79 u80 u81 u82 u83 u84 u85 u86 u87 u88 u89 u90 u91 u92 u93 u94 u95 u96 u97 u98 t0 t1 t2 t8 t9 t10 t11 t12
          simp only [ptr, List.getElem?_toArray, List.getElem?_cons_zero, List.getElem?_cons_succ, Option.some.injEq] at t0 t1 t2 t8 t9 t10 t11 t12
          subst t0 t1 t2 t8 t9 t10 t11 t12
          rw [insB_at x.key ol k hk hlt hnl] at hnew
          have ho4 := (ho.chg hCb fun _ _ => id).chg hC3 fun _ _ => id
          have hC4 : Chg (fun _ => False) w W4 := hC.trans (hCb.trans hC3)
          have hWW := hC4.size
          have hbx4 := hbx.chg hC3 id
          have hgen : ∀ W', Chg (fun _ => False) W4 W' → W'.cell? ⟨W.heap.size, 0, none⟩ = some (.string x.key) := fun W' hc => (hbx4.chg hc id).cell 0
          have hblt := hbx4.lt
          have hrO : ∀ W', Chg (fun _ => False) W4 W' → Reads W' W4.heap.size 1 po k ((ol.take k).map Value.string) := fun W' hc => by
            have := (ho4.reads.take (k := k) hk).chg (S := fun _ => False) hc (Nat.le_refl _) (fun _ _ => id)
            rw [Nat.mul_one, ← List.map_take] at this
            exact this
          have hrT := ho4.reads.cut (k := k) (cap := co) hk hlo1
          rw [Nat.mul_one, ← List.map_drop] at hrT
          have hkc : (k : Int) ≤ (co : Int) := by omega
          have hkc2 : (k : Int) ≤ (ol.length : Int) := by omega
          have hkc3 : (0 : Int) ≤ (k : Int) := by omega
          have hi1 := hllo'.out
          have hA1 : 0 + k ≤ maxLen := by unfold maxLen; omega
          have hB1 : (0 + k) * 16 ≤ 140737488355328 := by omega
          have hA2 : 0 + k + 1 ≤ maxLen := by unfold maxLen; omega
          have hB2 : (0 + k + 1) * 16 ≤ 140737488355328 := by omega
          have hA3 : 0 + k + 1 + (ol.length - k) ≤ maxLen := by unfold maxLen; omega
          have hB3 : (0 + k + 1 + (ol.length - k)) * 16 ≤ 140737488355328 := by omega
          obtain ⟨j0, hj0, hy0, hy1, hy2⟩ := info_parts str_info
          have hlo : Hid ((sortI (((r.l.take (i + 1)).filter (inT 0 r.a si)).map (·.key))).length = 0 + k + 1 + (ol.length - k)) := by show _ = _; rw [hnew]; simp; omega
          replace hnew := Lib.hid hnew
          clear hlt hnl hC3 hC hCb hbx hR c0 c1 c2 c3 c4 fr hlt0 hown nk nv ns nn nf nl ho
          by_cases hcap : co = k
          · rw [if_pos hcap] at hrT
            go_wp2_with fail
            go_region_held3 (fun w' => w'.cell? ⟨W.heap.size, 0, none⟩ = some (.string x.key)) (first | exact hgen _ (Chg.refl _ _).drew | exact hgen _ ((Chg.refl _ _).alloc _).drew | exact hgen _ hc6 | exact hgen _ (hc6.alloc _) | exact hgen _ (hc6.alloc _).drew | exact hgen _ hc7 | fail)
              (first
                | (refine step_append_any _ (by rfl) (.tmp 84) (.tmp 87) 38 (by rfl) w.heap.size 9 j0 _ 1 16 Try.underlying38 hj0 hy0 hy1 hy2 rfl (by omega) _ _ _ (by rfl) (Strs.nil _ w.heap.size).own W4.heap.size po k _ ((ol.take k).map Value.string) (by rfl) (hrO _ (by first | exact (Chg.refl _ _).drew | exact ((Chg.refl _ _).alloc _).drew)) (strs_one _) hA1 hB1 (by first | exact hWW | exact Nat.le_trans hWW (by simp)) ?_; intro v6 w6 hown6 hg6 hat6; have hc6 : Chg (fun _ => False) W4 w6 := (show Chg (fun _ => False) W4 _ from (by first | exact (Chg.refl _ _).drew | exact ((Chg.refl _ _).alloc _).drew)).trans (Chg.of_grown hg6 (fun g h => by cases h)); have hS6 : ∀ W', Chg (fun _ => False) w6 W' → W'.ownsRow w.heap.size 9 1 v6 _ _ := fun W' hc => own_stay hown6 (.of_chg hc) (fun _ _ => id); have hv6 : ∀ g, v6.ownBlock = some g → W4.heap.size ≤ g := fun g hg => by rcases hat6 with h | h; (rw [h] at hg; cases hg); (rw [h] at hg; injection hg with hg; rw [← hg]; simp))
                | (first
        | (refine step_append_any _ (by rfl) (.tmp 88) (.tmp 91) 38 (by rfl) w.heap.size 9 j0 _ 1 16 Try.underlying38 hj0 hy0 hy1 hy2 rfl (by omega) _ _ _ (by rfl) (hS6 _ ((Chg.refl _ _).alloc _)) (w6.alloc (.cells #[.string x.key] 9)).heap.size (some ⟨w6.heap.size, 0, none⟩) 1 1 [Value.string x.key] (by rfl) (reads_block w6 9 #[.string x.key] 1 1 rfl) (strs_one [x.key]) hA2 hB2 (Nat.le_trans hWW (by first | exact hc6.size | exact (hc6.alloc _).size)) ?_; intro v7 w7 hown7 hg7 hat7; have hc7 : Chg (fun _ => False) W4 w7 := (show Chg (fun _ => False) W4 _ from (by first | exact hc6 | exact (hc6.alloc _) | exact (hc6.alloc _).drew)).trans' (Chg.of_grown hg7 (fun g h => h)) (fun g hl h' => by have := hv6 g h'; omega))
        | (refine step_append_any _ (by rfl) (.tmp 88) (.tmp 91) 38 (by rfl) w.heap.size 9 j0 _ 1 16 Try.underlying38 hj0 hy0 hy1 hy2 rfl (by omega) _ _ _ (by rfl) (hS6 _ (Chg.refl _ _)) (W4.alloc (.cells #[.string x.key] 9)).heap.size (some ⟨W4.heap.size, 0, none⟩) 1 1 [Value.string x.key] (by rfl) ((reads_block W4 9 #[.string x.key] 1 1 rfl).chg (S := fun _ => False) (((Chg.refl _ _).drew).trans (Chg.of_grown hg6 (fun g h => by cases h))) (Nat.le_refl _) (fun _ _ => id)) (strs_one [x.key]) hA2 hB2 (Nat.le_trans hWW (by first | exact hc6.size | exact (hc6.alloc _).size)) ?_; intro v7 w7 hown7 hg7 hat7; have hc7 : Chg (fun _ => False) W4 w7 := (show Chg (fun _ => False) W4 _ from (by first | exact hc6 | exact (hc6.alloc _) | exact (hc6.alloc _).drew)).trans' (Chg.of_grown hg7 (fun g h => h)) (fun g hl h' => by have := hv6 g h'; omega)))
                | fail)
            all_goals
              go_wp2_with (at_builtin; refine wpList_append_any _ rfl (.tmp 93) (.tmp 96) 38 rfl w.heap.size 9 j0 _ 1 16 Try.underlying38 hj0 hy0 hy1 hy2 rfl (by omega) _ _ _ rfl hown7 W4.heap.size _ (ol.length - k) _ ((ol.drop k).map Value.string) rfl (hrT.chg (S := fun _ => False) hc7 (Nat.le_refl _) (fun _ _ => id)) (strs_one _) hA3 hB3 (Nat.le_trans hWW hc7.size) ?_; intro v8 w8 hown8 hg8 hat8)
              have hv7 : ∀ g, v7.ownBlock = some g → W4.heap.size ≤ g := fun g hg => by
                rcases hat7 with h | h
                · rw [h] at hg; exact hv6 g hg
                · rw [h] at hg
                  injection hg with hg
                  rw [← hg]
                  first | exact hc6.size | exact Nat.le_trans hc6.size (by simp)
              have hc8 : Chg (fun _ => False) W4 w8 := hc7.trans' (Chg.of_grown hg8 (fun g h => h)) (fun g hl h' => by have := hv7 g h'; omega)
              exact ⟨r.l.length - (i + 1), by omega, i + 1, v8, rfl, by omega, ⟨rfl, rfl, rfl, rfl, rfl, rfl, rfl, rfl⟩, hC4.trans hc8, Strs.mk hown8 (by rw [hlo.out]; rfl) (by rw [hnew.out]; simp)⟩
          · rw [if_neg hcap] at hrT
            try rw [Nat.mul_one] at hrT
            go_wp2_with fail
            go_region_held3 (fun w' => w'.cell? ⟨W.heap.size, 0, none⟩ = some (.string x.key)) (first | exact hgen _ (Chg.refl _ _).drew | exact hgen _ ((Chg.refl _ _).alloc _).drew | exact hgen _ hc6 | exact hgen _ (hc6.alloc _) | exact hgen _ (hc6.alloc _).drew | exact hgen _ hc7 | fail)
              (first
                | (refine step_append_any _ (by rfl) (.tmp 84) (.tmp 87) 38 (by rfl) w.heap.size 9 j0 _ 1 16 Try.underlying38 hj0 hy0 hy1 hy2 rfl (by omega) _ _ _ (by rfl) (Strs.nil _ w.heap.size).own W4.heap.size po k _ ((ol.take k).map Value.string) (by rfl) (hrO _ (by first | exact (Chg.refl _ _).drew | exact ((Chg.refl _ _).alloc _).drew)) (strs_one _) hA1 hB1 (by first | exact hWW | exact Nat.le_trans hWW (by simp)) ?_; intro v6 w6 hown6 hg6 hat6; have hc6 : Chg (fun _ => False) W4 w6 := (show Chg (fun _ => False) W4 _ from (by first | exact (Chg.refl _ _).drew | exact ((Chg.refl _ _).alloc _).drew)).trans (Chg.of_grown hg6 (fun g h => by cases h)); have hS6 : ∀ W', Chg (fun _ => False) w6 W' → W'.ownsRow w.heap.size 9 1 v6 _ _ := fun W' hc => own_stay hown6 (.of_chg hc) (fun _ _ => id); have hv6 : ∀ g, v6.ownBlock = some g → W4.heap.size ≤ g := fun g hg => by rcases hat6 with h | h; (rw [h] at hg; cases hg); (rw [h] at hg; injection hg with hg; rw [← hg]; simp))
                | (first
                  | (refine step_append_any _ (by rfl) (.tmp 88) (.tmp 91) 38 (by rfl) w.heap.size 9 j0 _ 1 16 Try.underlying38 hj0 hy0 hy1 hy2 rfl (by omega) _ _ _ (by rfl) (hS6 _ ((Chg.refl _ _).alloc _)) (w6.alloc (.cells #[.string x.key] 9)).heap.size (some ⟨w6.heap.size, 0, none⟩) 1 1 [Value.string x.key] (by rfl) (reads_block w6 9 #[.string x.key] 1 1 rfl) (strs_one [x.key]) hA2 hB2 (Nat.le_trans hWW (by first | exact hc6.size | exact (hc6.alloc _).size)) ?_; intro v7 w7 hown7 hg7 hat7; have hc7 : Chg (fun _ => False) W4 w7 := (show Chg (fun _ => False) W4 _ from (by first | exact hc6 | exact (hc6.alloc _) | exact (hc6.alloc _).drew)).trans' (Chg.of_grown hg7 (fun g h => h)) (fun g hl h' => by have := hv6 g h'; omega))
                  | (refine step_append_any _ (by rfl) (.tmp 88) (.tmp 91) 38 (by rfl) w.heap.size 9 j0 _ 1 16 Try.underlying38 hj0 hy0 hy1 hy2 rfl (by omega) _ _ _ (by rfl) (hS6 _ (Chg.refl _ _)) (W4.alloc (.cells #[.string x.key] 9)).heap.size (some ⟨W4.heap.size, 0, none⟩) 1 1 [Value.string x.key] (by rfl) ((reads_block W4 9 #[.string x.key] 1 1 rfl).chg (S := fun _ => False) (((Chg.refl _ _).drew).trans (Chg.of_grown hg6 (fun g h => by cases h))) (Nat.le_refl _) (fun _ _ => id)) (strs_one [x.key]) hA2 hB2 (Nat.le_trans hWW (by first | exact hc6.size | exact (hc6.alloc _).size)) ?_; intro v7 w7 hown7 hg7 hat7; have hc7 : Chg (fun _ => False) W4 w7 := (show Chg (fun _ => False) W4 _ from (by first | exact hc6 | exact (hc6.alloc _) | exact (hc6.alloc _).drew)).trans' (Chg.of_grown hg7 (fun g h => h)) (fun g hl h' => by have := hv6 g h'; omega)))
                | fail)
            all_goals
              go_wp2_with (at_builtin; refine wpList_append_any _ rfl (.tmp 93) (.tmp 96) 38 rfl w.heap.size 9 j0 _ 1 16 Try.underlying38 hj0 hy0 hy1 hy2 rfl (by omega) _ _ _ rfl hown7 W4.heap.size _ (ol.length - k) _ ((ol.drop k).map Value.string) rfl (hrT.chg (S := fun _ => False) hc7 (Nat.le_refl _) (fun _ _ => id)) (strs_one _) hA3 hB3 (Nat.le_trans hWW hc7.size) ?_; intro v8 w8 hown8 hg8 hat8)
              have hv7 : ∀ g, v7.ownBlock = some g → W4.heap.size ≤ g := fun g hg => by
                rcases hat7 with h | h
                · rw [h] at hg; exact hv6 g hg
                · rw [h] at hg
                  injection hg with hg
                  rw [← hg]
                  first | exact hc6.size | exact Nat.le_trans hc6.size (by simp)
              have hc8 : Chg (fun _ => False) W4 w8 := hc7.trans' (Chg.of_grown hg8 (fun g h => h)) (fun g hl h' => by have := hv7 g h'; omega)
              exact ⟨r.l.length - (i + 1), by omega, i + 1, v8, rfl, by omega, ⟨rfl, rfl, rfl, rfl, rfl, rfl, rfl, rfl⟩, hC4.trans hc8, Strs.mk hown8 (by rw [hlo.out]; rfl) (by rw [hnew.out]; simp)⟩
      · have hsame : ((r.l.take (i + 1)).filter (inT 0 r.a si)).map (·.key) = ((r.l.take i).filter (inT 0 r.a si)).map (·.key) := by
          rw [htk, List.filter_append, show ([x].filter (inT 0 r.a si)) = [] by simp [hq], List.append_nil]
        have ho' := ho.chg hCb fun _ _ => id
        rw [hol, ← hsame] at ho'
        replace hsame := Lib.hid hsame
        replace hol := Lib.hid hol
        have hC' := hC.trans hCb
        by_cases hqn : x.next = true
        · rw [hqn] at nn hbx ho' hC' hCb
          clear hqn hq htk hx hllo ho
          go_wp2_with fail
          exact ⟨r.l.length - (i + 1), by omega, i + 1, _, rfl, by omega, ⟨rfl, rfl, rfl, rfl, rfl, rfl, rfl, rfl⟩, hC', ho'⟩
        · have hqn' : x.next = false := by cases h : x.next <;> simp_all
          have hqs : x.sum % r.a ≠ si := fun e => hq (inT_iff.2 ⟨hqn', e⟩)
          have hmt : (((x.sum % r.a : Nat) : Int) != (si : Int)) = true := by rw [bne_iff_ne]; omega
          have hmt2 : ¬ ((x.sum % r.a : Nat) : Int) = (si : Int) := by omega
          rw [hqn'] at nn hbx ho' hC' hCb
          clear hqn hqn' hq hqs htk hx hllo ho
          go_wp2_with fail
          exact ⟨r.l.length - (i + 1), by omega, i + 1, _, rfl, by omega, ⟨rfl, rfl, rfl, rfl, rfl, rfl, rfl, rfl⟩, hC', ho'⟩
    · have hil' : ((i : Int) < (r.l.length : Int)) = False := by simp only [eq_iff_iff, iff_false]; omega
      have hil2 : (i < r.l.length) = False := by simp only [eq_iff_iff, iff_false]; omega
      have hie : i = r.l.length := by omega
      rw [hie, List.take_length] at ho
      clear hil
      go_wp2_with fail
      go_ret2
      exact ⟨⟨_, rfl, by unfold Rm.bk Rm.sz; exact ho⟩, hC⟩

set_option maxRecDepth 100000 in
set_option maxHeartbeats 4000000 in
theorem BucketR_1 (r : Rm) (si : Nat) (w : World) (base : Nat) (h : RmAt w base r) (hsi : si < r.b) (ha6 : r.b ≤ 65536) (hn : r.l.length ≤ 1000000) (hsum : ∀ x ∈ r.l, x.sum < 4294967296) (hkey : ∀ x ∈ r.l, x.key.size ≤ 9223372036854775807) :
    Calls Try.prog 30 #[ptr r.blk, .int .i64 ((1 : Nat) : Int), .int .i64 (si : Int)] w fun e w' => (∃ v, e = .returned (.tuple #[v, .int .i64 0]) ∧ Strs w' w.heap.size v (r.bk 1 si)) ∧ Chg (fun _ => False) w w' := by
  have hR := h
  obtain ⟨p, cap, hlv, hl1, hl2, _⟩ := h.own.is
  obtain ⟨c0, c1, c2, c3, c4, fr, hlt0⟩ := rm_cells hR
  rw [hlv] at c1
  replace hlv := Lib.hid hlv
  have hs0 : (0 : Int) ≤ (si : Int) := by omega
  have hs1 : ((si : Int) < 0) = False := by simp only [eq_iff_iff, iff_false]; omega
  have hs2 : ((si : Int) ≥ (r.b : Int)) = False := by simp only [eq_iff_iff, iff_false]; omega
  have hs3 : (si : Int) < (r.b : Int) := by omega
  have holsz : ∀ {i : Nat} (k : ByteArray), k ∈ sortI (((r.l.take i).filter (inT 1 r.b si)).map (·.key)) → k.size ≤ 9223372036854775807 := fun {i} k hk => by
    obtain ⟨x, hx, rfl⟩ := List.mem_map.1 ((sortI_perm _).mem_iff.1 hk)
    exact hkey x (List.mem_of_mem_take (List.mem_filter.1 hx).1)
  unfold ptr
  go_enter Try.func30, Try.ntmps30
  go_wp2_with fail
  refine wp_loop_ghost (InvB0 w r 1 si r.b) r.l.length ?_ ?_
  · exact ⟨0, _, rfl, Nat.zero_le _, ⟨rfl, rfl, rfl, rfl, rfl, rfl, rfl, rfl⟩, Chg.refl _ _, Strs.nil _ _⟩
  · clear c0 c1 c2 c3 c4 fr hlt0
    rintro m ⟨tmps, ds⟩ W ⟨i, o, rfl, hi, ⟨hsz, t0, t1, t2, t8, t9, t10, rfl⟩, hC, ho⟩
    replace hsz : tmps.size = 99 := hsz
    dsimp only at t0 t1 t2 t8 t9 t10
    revert t0 t1 t2 t8 t9 t10
    revert hsz
    revert tmps
    refine all99 ?_
    intro u0 u1 u2 u3 u4 u5 u6 u7 u8 u9 u10 u11 u12 u13 u14 u15 u16 u17 u18 u19 u20 u21 u22 u23 u24 u25 u26 u27 u28 u29 u30 u31 u32 u33 u34 u35 u36 u37 u38 u39 u40 u41 u42 u43 u44 u45 u46 u47 u48 u49 u50 u51 u52 u53 u54 u55 u56 u57 u58 u59 u60 u61 u62 u63 u64 u65 u66 u67 u68 u69 u70 u71 u72 u73 u74 u75 u76 u77 u78 u79 u80 u81 u82 u83 u84 u85 u86 u87 u88 u89 u90 u91 u92 u93 u94 u95 u96 u97 u98 t0 t1 t2 t8 t9 t10
    simp only [ptr, List.getElem?_toArray, List.getElem?_cons_zero, List.getElem?_cons_succ, Option.some.injEq] at t0 t1 t2 t8 t9 t10
    subst t0 t1 t2 t8 t9 t10
    have hR := h.chg0 hC
    obtain ⟨c0, c1, c2, c3, c4, fr, hlt0⟩ := rm_cells hR
    rw [hlv.out] at c1
    have hib : (i : Int) ≤ 1000000 := by omega
    by_cases hil : i < r.l.length
    · have hil' : (i : Int) < (r.l.length : Int) := by omega
      obtain ⟨x, hx⟩ : ∃ x, r.l[i]? = some x := ⟨_, List.getElem?_eq_getElem hil⟩
      have hown := hR.own
      rw [hlv.out] at hown
      obtain ⟨g, rfl, _, nk, nv, ns, nn, nf, nl⟩ := hown.at_ hx
      have hxm := List.mem_of_getElem? hx
      have hs := hsum x hxm
      have hksz := hkey x hxm
      have hm := tmod_nat x.sum r.b
      have hsz1 : ¬ (r.b : Int) = 0 := by omega
      have htk : r.l.take (i + 1) = r.l.take i ++ [x] := by rw [List.take_add_one, hx]; rfl
      have hbx := Blk.new W 104 #[.string x.key, .int .i64 x.v, .int .u32 (x.sum : Int), .bool x.next]
      have hCb : Chg (fun _ => False) W (W.alloc (.cells #[.string x.key, .int .i64 x.v, .int .u32 (x.sum : Int), .bool x.next] 104)) := (Chg.refl _ W).alloc _
      obtain ⟨ol, hol⟩ : ∃ ol, ol = sortI (((r.l.take i).filter (inT 1 r.b si)).map (·.key)) := ⟨_, rfl⟩
      rw [← hol] at ho
      have hllo : ol.length ≤ i := by
        rw [hol, sortI_len, List.length_map]
        exact Nat.le_trans (List.length_filter_le _ _) (by rw [List.length_take]; omega)
      by_cases hq : inT 1 r.b si x = true
      · have hnew : sortI (((r.l.take (i + 1)).filter (inT 1 r.b si)).map (·.key)) = insB x.key ol := by
          rw [htk, List.filter_append, List.map_append, hol]
          rw [show ([x].filter (inT 1 r.b si)) = [x] by simp [hq]]
          exact sortI_snoc _ _
        have hqn : x.next = true := (inT_iff.1 hq).1
        have hqs : x.sum % r.b = si := (inT_iff.1 hq).2
        have hmt : (((x.sum % r.b : Nat) : Int) != (si : Int)) = false := by rw [hqs]; simp
        have hmt2 : ((x.sum % r.b : Nat) : Int) = (si : Int) := by rw [hqs]
        rw [hqn] at nn hbx hCb
        replace hqn := Lib.hid hqn
        replace hol := Lib.hid hol
        have hllo' := Lib.hid hllo
        clear hq hqs htk hx hllo
        obtain ⟨po, co, rfl, hlo1, hlo2, _⟩ := ho.is
        unfold maxLen at hlo2
        go_upto_block 2 with (fail)
        refine wp_mono (Q := PostB2 r 1 si r.b ol x.key (.slice po ol.length co) i W.heap.size (W.alloc (.cells #[.string x.key, .int .i64 x.v, .int .u32 (x.sum : Int), .bool true] 104))) ?_ ?_
        · go_wp2_with fail
          refine wp_loop_ghost (InvB2 r 1 si r.b ol x.key (.slice po ol.length co) i W.heap.size (W.alloc (.cells #[.string x.key, .int .i64 x.v, .int .u32 (x.sum : Int), .bool true] 104))) ol.length ?_ ?_
          · exact ⟨0, rfl, Nat.zero_le _, ⟨rfl, rfl, rfl, rfl, rfl, rfl, rfl, rfl, rfl, rfl⟩, Chg.refl _ _, fun j _ h => absurd h (Nat.not_lt_zero _)⟩
          · rintro m ⟨tmps, ds⟩ W3 ⟨k, rfl, hk, ⟨hsz, t0, t1, t2, t8, t9, t10, t11, t12, rfl⟩, hC3, hlt⟩
            replace hsz : tmps.size = 99 := hsz
            dsimp only at t0 t1 t2 t8 t9 t10 t11 t12
            revert t0 t1 t2 t8 t9 t10 t11 t12
            revert hsz
            revert tmps
            refine all99 ?_
            intro u0 u1 u2 u3 u4 u5 u6 u7 u8 u9 u10 u11 u12 u13 u14 u15 u16 u17 u18 u19 u20 u21 u22 u23 u24 u25 u26 u27 u28 u29 u30 u31 u32 u33 u34 u35 u36 u37 u38 u39 u40 u41 u42 u43 u44 u45 u46 u47 u48 u49 u50 u51 u52 u53 u54 u55 u56 u57 u58 u59 u60 u61 u62 u63 u64 u65 u66 u67 u68 u69 u70 u71 u72 u73 u74 u75 u76 u77 u78 u79 u80 u81 u82 u83 u84 u85 u86 u87 u88 u89 u90 u91 u92 u93 u94 u95 u96 u97 u98 t0 t1 t2 t8 t9 t10 t11 t12
            simp only [ptr, List.getElem?_toArray, List.getElem?_cons_zero, List.getElem?_cons_succ, Option.some.injEq] at t0 t1 t2 t8 t9 t10 t11 t12
            subst t0 t1 t2 t8 t9 t10 t11 t12
            have hkb : (k : Int) ≤ 1000000 := by have := hllo'.out; omega
            have hb3 := hbx.chg hC3 id
            have k0 := hb3.cell 0
            have k00 := hb3.lt
            simp only [List.getElem?_toArray, List.getElem?_cons_zero] at k0
            by_cases hkl : k < ol.length
            · have hkl' : (k : Int) < (ol.length : Int) := by omega
              obtain ⟨go, rfl, _, e2, e3⟩ := ((ho.chg hCb fun _ _ => id).chg hC3 fun _ _ => id).at_ hkl
              have hsz' : ol[k].size ≤ 9223372036854775807 := holsz _ (by rw [← hol.out]; exact List.getElem_mem hkl)
              obtain ⟨y, hy⟩ : ∃ y, ol[k] = y := ⟨_, rfl⟩
              rw [hy] at e3 hsz'
              have hls := fun W' => less_any y x.key W' hsz' hksz
              replace hlt := Lib.hid hlt
              by_cases hle : ltB y x.key
              · simp only [hle, decide_true] at hls
                have hlt' : Hid (∀ (j : Nat) (h : j < ol.length), j < k + 1 → ltB ol[j] x.key) := fun j h hj => by
                  by_cases e : j = k
                  · subst e; rw [hy]; exact hle
                  · exact hlt.out j h (by omega)
                replace hy := Lib.hid hy
                clear hle
                go_wp2_with fail
                go_quiet ((go_at_call 63; exact Calls.quiet_of (hls _)))
                go_wp2_with fail
                exact ⟨ol.length - (k + 1), by omega, k + 1, rfl, by omega, ⟨rfl, rfl, rfl, rfl, rfl, rfl, rfl, rfl, rfl, rfl⟩, hC3.trans ((Chg.refl _ _).drewN _), hlt'.out⟩
              · simp only [hle, decide_false] at hls
                have hno : Hid (∀ h : k < ol.length, ¬ ltB ol[k] x.key) := fun _ => by rw [hy]; exact hle
                replace hy := Lib.hid hy
                clear hle
                go_wp2_with fail
                go_quiet ((go_at_call 63; exact Calls.quiet_of (hls _)))
                go_wp2_with fail
                exact ⟨rfl, k, ⟨rfl, rfl, rfl, rfl, rfl, rfl, rfl, rfl, rfl, rfl⟩, hk, hC3.trans ((Chg.refl _ _).drewN _), hlt.out, hno.out⟩
            · have hkl' : ((k : Int) < (ol.length : Int)) = False := by simp only [eq_iff_iff, iff_false]; omega
              have hkl2 : (k < ol.length) = False := by simp only [eq_iff_iff, iff_false]; omega
              have hno : Hid (∀ h : k < ol.length, ¬ ltB ol[k] x.key) := fun h => absurd h hkl
              replace hlt := Lib.hid hlt
              clear hkl
              go_wp2_with fail
              go_quiet (fail)
              go_wp2_with fail
              exact ⟨rfl, k, ⟨rfl, rfl, rfl, rfl, rfl, rfl, rfl, rfl, rfl, rfl⟩, hk, hC3.trans ((Chg.refl _ _).drewN _), hlt.out, hno.out⟩
        · rintro e ⟨tmps, ds⟩ W4 ⟨rfl, k, ⟨hsz, t0, t1, t2, t8, t9, t10, t11, t12, rfl⟩, hk, hC3, hlt, hnl⟩
          replace hsz : tmps.size = 99 := hsz
          dsimp only at t0 t1 t2 t8 t9 t10 t11 t12
          revert t0 t1 t2 t8 t9 t10 t11 t12
          revert hsz
          revert tmps
          refine all99 ?_
          intro u0 u1 u2 u3 u4 u5 u6 u7 u8 u9 u10 u11 u12 u13 u14 u15 u16 u17 u18 u19 u20 u21 u22 u23 u24 u25 u26 u27 u28 u29 u30 u31 u32 u33 u34 u35 u36 u37 u38 u39 u40 u41 u42 u43 u44 u45 u46 u47 u48 u49 u50 u51 u52 u53 u54 u55 u56 u57 u58 u59 u60 u61 u62 u63 u64 u65 u66 u67 u68 u69 u70 u71 u72 u73 u74 u75 u76 u77 u78 u79 u80 u81 u82 u83 u84 u85 u86 u87 u88 u89 u90 u91 u92 u93 u94 u95 u96 u97 u98 t0 t1 t2 t8 t9 t10 t11 t12
          simp only [ptr, List.getElem?_toArray, List.getElem?_cons_zero, List.getElem?_cons_succ, Option.some.injEq] at t0 t1 t2 t8 t9 t10 t11 t12
          subst t0 t1 t2 t8 t9 t10 t11 t12
          rw [insB_at x.key ol k hk hlt hnl] at hnew
          have ho4 := (ho.chg hCb fun _ _ => id).chg hC3 fun _ _ => id
          have hC4 : Chg (fun _ => False) w W4 := hC.trans (hCb.trans hC3)
          have hWW := hC4.size
          have hbx4 := hbx.chg hC3 id
          have hgen : ∀ W', Chg (fun _ => False) W4 W' → W'.cell? ⟨W.heap.size, 0, none⟩ = some (.string x.key) := fun W' hc => (hbx4.chg hc id).cell 0
          have hblt := hbx4.lt
          have hrO : ∀ W', Chg (fun _ => False) W4 W' → Reads W' W4.heap.size 1 po k ((ol.take k).map Value.string) := fun W' hc => by
            have := (ho4.reads.take (k := k) hk).chg (S := fun _ => False) hc (Nat.le_refl _) (fun _ _ => id)
            rw [Nat.mul_one, ← List.map_take] at this
            exact this
          have hrT := ho4.reads.cut (k := k) (cap := co) hk hlo1
          rw [Nat.mul_one, ← List.map_drop] at hrT
          have hkc : (k : Int) ≤ (co : Int) := by omega
          have hkc2 : (k : Int) ≤ (ol.length : Int) := by omega
          have hkc3 : (0 : Int) ≤ (k : Int) := by omega
          have hi1 := hllo'.out
          have hA1 : 0 + k ≤ maxLen := by unfold maxLen; omega
          have hB1 : (0 + k) * 16 ≤ 140737488355328 := by omega
          have hA2 : 0 + k + 1 ≤ maxLen := by unfold maxLen; omega
          have hB2 : (0 + k + 1) * 16 ≤ 140737488355328 := by omega
          have hA3 : 0 + k + 1 + (ol.length - k) ≤ maxLen := by unfold maxLen; omega
          have hB3 : (0 + k + 1 + (ol.length - k)) * 16 ≤ 140737488355328 := by omega
          obtain ⟨j0, hj0, hy0, hy1, hy2⟩ := info_parts str_info
          have hlo : Hid ((sortI (((r.l.take (i + 1)).filter (inT 1 r.b si)).map (·.key))).length = 0 + k + 1 + (ol.length - k)) := by show _ = _; rw [hnew]; simp; omega
          replace hnew := Lib.hid hnew
          clear hlt hnl hC3 hC hCb hbx hR c0 c1 c2 c3 c4 fr hlt0 hown nk nv ns nn nf nl ho
          by_cases hcap : co = k
          · rw [if_pos hcap] at hrT
            go_wp2_with fail
            go_region_held3 (fun w' => w'.cell? ⟨W.heap.size, 0, none⟩ = some (.string x.key)) (first | exact hgen _ (Chg.refl _ _).drew | exact hgen _ ((Chg.refl _ _).alloc _).drew | exact hgen _ hc6 | exact hgen _ (hc6.alloc _) | exact hgen _ (hc6.alloc _).drew | exact hgen _ hc7 | fail)
              (first
                | (refine step_append_any _ (by rfl) (.tmp 84) (.tmp 87) 38 (by rfl) w.heap.size 9 j0 _ 1 16 Try.underlying38 hj0 hy0 hy1 hy2 rfl (by omega) _ _ _ (by rfl) (Strs.nil _ w.heap.size).own W4.heap.size po k _ ((ol.take k).map Value.string) (by rfl) (hrO _ (by first | exact (Chg.refl _ _).drew | exact ((Chg.refl _ _).alloc _).drew)) (strs_one _) hA1 hB1 (by first | exact hWW | exact Nat.le_trans hWW (by simp)) ?_; intro v6 w6 hown6 hg6 hat6; have hc6 : Chg (fun _ => False) W4 w6 := (show Chg (fun _ => False) W4 _ from (by first | exact (Chg.refl _ _).drew | exact ((Chg.refl _ _).alloc _).drew)).trans (Chg.of_grown hg6 (fun g h => by cases h)); have hS6 : ∀ W', Chg (fun _ => False) w6 W' → W'.ownsRow w.heap.size 9 1 v6 _ _ := fun W' hc => own_stay hown6 (.of_chg hc) (fun _ _ => id); have hv6 : ∀ g, v6.ownBlock = some g → W4.heap.size ≤ g := fun g hg => by rcases hat6 with h | h; (rw [h] at hg; cases hg); (rw [h] at hg; injection hg with hg; rw [← hg]; simp))
                | (first
        | (refine step_append_any _ (by rfl) (.tmp 88) (.tmp 91) 38 (by rfl) w.heap.size 9 j0 _ 1 16 Try.underlying38 hj0 hy0 hy1 hy2 rfl (by omega) _ _ _ (by rfl) (hS6 _ ((Chg.refl _ _).alloc _)) (w6.alloc (.cells #[.string x.key] 9)).heap.size (some ⟨w6.heap.size, 0, none⟩) 1 1 [Value.string x.key] (by rfl) (reads_block w6 9 #[.string x.key] 1 1 rfl) (strs_one [x.key]) hA2 hB2 (Nat.le_trans hWW (by first | exact hc6.size | exact (hc6.alloc _).size)) ?_; intro v7 w7 hown7 hg7 hat7; have hc7 : Chg (fun _ => False) W4 w7 := (show Chg (fun _ => False) W4 _ from (by first | exact hc6 | exact (hc6.alloc _) | exact (hc6.alloc _).drew)).trans' (Chg.of_grown hg7 (fun g h => h)) (fun g hl h' => by have := hv6 g h'; omega))
        | (refine step_append_any _ (by rfl) (.tmp 88) (.tmp 91) 38 (by rfl) w.heap.size 9 j0 _ 1 16 Try.underlying38 hj0 hy0 hy1 hy2 rfl (by omega) _ _ _ (by rfl) (hS6 _ (Chg.refl _ _)) (W4.alloc (.cells #[.string x.key] 9)).heap.size (some ⟨W4.heap.size, 0, none⟩) 1 1 [Value.string x.key] (by rfl) ((reads_block W4 9 #[.string x.key] 1 1 rfl).chg (S := fun _ => False) (((Chg.refl _ _).drew).trans (Chg.of_grown hg6 (fun g h => by cases h))) (Nat.le_refl _) (fun _ _ => id)) (strs_one [x.key]) hA2 hB2 (Nat.le_trans hWW (by first | exact hc6.size | exact (hc6.alloc _).size)) ?_; intro v7 w7 hown7 hg7 hat7; have hc7 : Chg (fun _ => False) W4 w7 := (show Chg (fun _ => False) W4 _ from (by first | exact hc6 | exact (hc6.alloc _) | exact (hc6.alloc _).drew)).trans' (Chg.of_grown hg7 (fun g h => h)) (fun g hl h' => by have := hv6 g h'; omega)))
                | fail)
            all_goals
              go_wp2_with (at_builtin; refine wpList_append_any _ rfl (.tmp 93) (.tmp 96) 38 rfl w.heap.size 9 j0 _ 1 16 Try.underlying38 hj0 hy0 hy1 hy2 rfl (by omega) _ _ _ rfl hown7 W4.heap.size _ (ol.length - k) _ ((ol.drop k).map Value.string) rfl (hrT.chg (S := fun _ => False) hc7 (Nat.le_refl _) (fun _ _ => id)) (strs_one _) hA3 hB3 (Nat.le_trans hWW hc7.size) ?_; intro v8 w8 hown8 hg8 hat8)
              have hv7 : ∀ g, v7.ownBlock = some g → W4.heap.size ≤ g := fun g hg => by
                rcases hat7 with h | h
                · rw [h] at hg; exact hv6 g hg
                · rw [h] at hg
                  injection hg with hg
                  rw [← hg]
                  first | exact hc6.size | exact Nat.le_trans hc6.size (by simp)
              have hc8 : Chg (fun _ => False) W4 w8 := hc7.trans' (Chg.of_grown hg8 (fun g h => h)) (fun g hl h' => by have := hv7 g h'; omega)
              exact ⟨r.l.length - (i + 1), by omega, i + 1, v8, rfl, by omega, ⟨rfl, rfl, rfl, rfl, rfl, rfl, rfl, rfl⟩, hC4.trans hc8, Strs.mk hown8 (by rw [hlo.out]; rfl) (by rw [hnew.out]; simp)⟩
          · rw [if_neg hcap] at hrT
            try rw [Nat.mul_one] at hrT
            go_wp2_with fail
            go_region_held3 (fun w' => w'.cell? ⟨W.heap.size, 0, none⟩ = some (.string x.key)) (first | exact hgen _ (Chg.refl _ _).drew | exact hgen _ ((Chg.refl _ _).alloc _).drew | exact hgen _ hc6 | exact hgen _ (hc6.alloc _) | exact hgen _ (hc6.alloc _).drew | exact hgen _ hc7 | fail)
              (first
                | (refine step_append_any _ (by rfl) (.tmp 84) (.tmp 87) 38 (by rfl) w.heap.size 9 j0 _ 1 16 Try.underlying38 hj0 hy0 hy1 hy2 rfl (by omega) _ _ _ (by rfl) (Strs.nil _ w.heap.size).own W4.heap.size po k _ ((ol.take k).map Value.string) (by rfl) (hrO _ (by first | exact (Chg.refl _ _).drew | exact ((Chg.refl _ _).alloc _).drew)) (strs_one _) hA1 hB1 (by first | exact hWW | exact Nat.le_trans hWW (by simp)) ?_; intro v6 w6 hown6 hg6 hat6; have hc6 : Chg (fun _ => False) W4 w6 := (show Chg (fun _ => False) W4 _ from (by first | exact (Chg.refl _ _).drew | exact ((Chg.refl _ _).alloc _).drew)).trans (Chg.of_grown hg6 (fun g h => by cases h)); have hS6 : ∀ W', Chg (fun _ => False) w6 W' → W'.ownsRow w.heap.size 9 1 v6 _ _ := fun W' hc => own_stay hown6 (.of_chg hc) (fun _ _ => id); have hv6 : ∀ g, v6.ownBlock = some g → W4.heap.size ≤ g := fun g hg => by rcases hat6 with h | h; (rw [h] at hg; cases hg); (rw [h] at hg; injection hg with hg; rw [← hg]; simp))
                | (first
                  | (refine step_append_any _ (by rfl) (.tmp 88) (.tmp 91) 38 (by rfl) w.heap.size 9 j0 _ 1 16 Try.underlying38 hj0 hy0 hy1 hy2 rfl (by omega) _ _ _ (by rfl) (hS6 _ ((Chg.refl _ _).alloc _)) (w6.alloc (.cells #[.string x.key] 9)).heap.size (some ⟨w6.heap.size, 0, none⟩) 1 1 [Value.string x.key] (by rfl) (reads_block w6 9 #[.string x.key] 1 1 rfl) (strs_one [x.key]) hA2 hB2 (Nat.le_trans hWW (by first | exact hc6.size | exact (hc6.alloc _).size)) ?_; intro v7 w7 hown7 hg7 hat7; have hc7 : Chg (fun _ => False) W4 w7 := (show Chg (fun _ => False) W4 _ from (by first | exact hc6 | exact (hc6.alloc _) | exact (hc6.alloc _).drew)).trans' (Chg.of_grown hg7 (fun g h => h)) (fun g hl h' => by have := hv6 g h'; omega))
                  | (refine step_append_any _ (by rfl) (.tmp 88) (.tmp 91) 38 (by rfl) w.heap.size 9 j0 _ 1 16 Try.underlying38 hj0 hy0 hy1 hy2 rfl (by omega) _ _ _ (by rfl) (hS6 _ (Chg.refl _ _)) (W4.alloc (.cells #[.string x.key] 9)).heap.size (some ⟨W4.heap.size, 0, none⟩) 1 1 [Value.string x.key] (by rfl) ((reads_block W4 9 #[.string x.key] 1 1 rfl).chg (S := fun _ => False) (((Chg.refl _ _).drew).trans (Chg.of_grown hg6 (fun g h => by cases h))) (Nat.le_refl _) (fun _ _ => id)) (strs_one [x.key]) hA2 hB2 (Nat.le_trans hWW (by first | exact hc6.size | exact (hc6.alloc _).size)) ?_; intro v7 w7 hown7 hg7 hat7; have hc7 : Chg (fun _ => False) W4 w7 := (show Chg (fun _ => False) W4 _ from (by first | exact hc6 | exact (hc6.alloc _) | exact (hc6.alloc _).drew)).trans' (Chg.of_grown hg7 (fun g h => h)) (fun g hl h' => by have := hv6 g h'; omega)))
                | fail)
            all_goals
              go_wp2_with (at_builtin; refine wpList_append_any _ rfl (.tmp 93) (.tmp 96) 38 rfl w.heap.size 9 j0 _ 1 16 Try.underlying38 hj0 hy0 hy1 hy2 rfl (by omega) _ _ _ rfl hown7 W4.heap.size _ (ol.length - k) _ ((ol.drop k).map Value.string) rfl (hrT.chg (S := fun _ => False) hc7 (Nat.le_refl _) (fun _ _ => id)) (strs_one _) hA3 hB3 (Nat.le_trans hWW hc7.size) ?_; intro v8 w8 hown8 hg8 hat8)
              have hv7 : ∀ g, v7.ownBlock = some g → W4.heap.size ≤ g := fun g hg => by
                rcases hat7 with h | h
                · rw [h] at hg; exact hv6 g hg
                · rw [h] at hg
                  injection hg with hg
                  rw [← hg]
                  first | exact hc6.size | exact Nat.le_trans hc6.size (by simp)
              have hc8 : Chg (fun _ => False) W4 w8 := hc7.trans' (Chg.of_grown hg8 (fun g h => h)) (fun g hl h' => by have := hv7 g h'; omega)
              exact ⟨r.l.length - (i + 1), by omega, i + 1, v8, rfl, by omega, ⟨rfl, rfl, rfl, rfl, rfl, rfl, rfl, rfl⟩, hC4.trans hc8, Strs.mk hown8 (by rw [hlo.out]; rfl) (by rw [hnew.out]; simp)⟩
      · have hsame : ((r.l.take (i + 1)).filter (inT 1 r.b si)).map (·.key) = ((r.l.take i).filter (inT 1 r.b si)).map (·.key) := by
          rw [htk, List.filter_append, show ([x].filter (inT 1 r.b si)) = [] by simp [hq], List.append_nil]
        have ho' := ho.chg hCb fun _ _ => id
        rw [hol, ← hsame] at ho'
        replace hsame := Lib.hid hsame
        replace hol := Lib.hid hol
        have hC' := hC.trans hCb
        by_cases hqn : x.next = false
        · rw [hqn] at nn hbx ho' hC' hCb
          clear hqn hq htk hx hllo ho
          go_wp2_with fail
          exact ⟨r.l.length - (i + 1), by omega, i + 1, _, rfl, by omega, ⟨rfl, rfl, rfl, rfl, rfl, rfl, rfl, rfl⟩, hC', ho'⟩
        · have hqn' : x.next = true := by cases h : x.next <;> simp_all
          have hqs : x.sum % r.b ≠ si := fun e => hq (inT_iff.2 ⟨hqn', e⟩)
          have hmt : (((x.sum % r.b : Nat) : Int) != (si : Int)) = true := by rw [bne_iff_ne]; omega
          have hmt2 : ¬ ((x.sum % r.b : Nat) : Int) = (si : Int) := by omega
          rw [hqn'] at nn hbx ho' hC' hCb
          clear hqn hqn' hq hqs htk hx hllo ho
          go_wp2_with fail
          exact ⟨r.l.length - (i + 1), by omega, i + 1, _, rfl, by omega, ⟨rfl, rfl, rfl, rfl, rfl, rfl, rfl, rfl⟩, hC', ho'⟩
    · have hil' : ((i : Int) < (r.l.length : Int)) = False := by simp only [eq_iff_iff, iff_false]; omega
      have hil2 : (i < r.l.length) = False := by simp only [eq_iff_iff, iff_false]; omega
      have hie : i = r.l.length := by omega
      rw [hie, List.take_length] at ho
      clear hil
      go_wp2_with fail
      go_ret2
      exact ⟨⟨_, rfl, by unfold Rm.bk Rm.sz; exact ho⟩, hC⟩

theorem BucketR_no (r : Rm) (ti si : Int) (w : World) (base : Nat) (h : RmAt w base r) (hno : ti < 0 ∨ 1 < ti ∨ si < 0 ∨ (ti = 0 ∧ (r.a : Int) ≤ si) ∨ (ti = 1 ∧ (r.b : Int) ≤ si)) :
    Calls Try.prog 30 #[ptr r.blk, .int .i64 ti, .int .i64 si] w fun e w' => e = .returned (.tuple #[.slice none 0 0, .int .i64 2]) ∧ w = w' := by
  obtain ⟨c0, c1, c2, c3, c4, fr, hlt0⟩ := rm_cells h
  unfold ptr
  by_cases h1 : ti = 1
  · subst h1
    rcases (by omega : si < 0 ∨ (¬ si < 0 ∧ (r.b : Int) ≤ si)) with h2 | ⟨h2, h3⟩
    · go_enter Try.func30, Try.ntmps30
      go_wp2
      go_ret2
      exact ⟨rfl, rfl⟩
    · have h4 : si ≥ (r.b : Int) := h3
      go_enter Try.func30, Try.ntmps30
      go_wp2
      go_ret2
      exact ⟨rfl, rfl⟩
  · have h1' : (ti == 1) = false := by rw [beq_eq_false_iff_ne]; exact h1
    rcases (by omega : ti < 0 ∨ (¬ ti < 0 ∧ ti > 1) ∨ (¬ ti < 0 ∧ ¬ ti > 1 ∧ si < 0) ∨ (¬ ti < 0 ∧ ¬ ti > 1 ∧ ¬ si < 0 ∧ si ≥ (r.a : Int))) with h2 | ⟨h2, h3⟩ | ⟨h2, h3, h4⟩ | ⟨h2, h3, h4, h5⟩
    all_goals
      go_enter Try.func30, Try.ntmps30
      go_wp2
      go_ret2
      exact ⟨rfl, rfl⟩

end Go.Proofs.Ythbjjjcppijcbaa
