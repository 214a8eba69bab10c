/- The walk of DictKeys. -/
import Derived.Test.YthbjjjcppijcbaaDAint
import Derived.Test.YthbjjjcppijcbaaS7
import Derived.Test.YthbjjjcppijcbaaBK3int
import Derived.Deep.LoopGhost
import Derived.Outline
namespace Go.Proofs.Ythbjjjcppijcbaa.dictKeys
open Go.RowKit Pal Dint

theorem buckets_1 {w0 W : World} {bd : Nat} {d : Dm} (h : One w0 W bd d) (hn : d.n ≤ 1000) :
    Calls Try.prog 32 #[.pointer (some ⟨bd, 0, none⟩)] W fun e W' => (∃ v, e = .returned v ∧ Strs W' W.heap.size v (allKeys d)) ∧ One w0 W' bd d ∧ Chg (fun _ => False) W W' := by
  have := buckets_any d W h.md.dm h.md.ok (by omega)
  rw [h.bd] at this
  exact this.mono fun r W' ⟨h1, h2⟩ => ⟨h1, h.chg0 h2, h2⟩

/-- How often a key is one of the first j. -/
def cnt (l : List ByteArray) (k : ByteArray) (j : Nat) : Nat := ((l.take j).filter fun x => decide (x = k)).length
theorem cnt_succ (l : List ByteArray) (k : ByteArray) (j : Nat) (h : j < l.length) : cnt l k (j + 1) = cnt l k j + if l[j] = k then 1 else 0 := by
  unfold cnt
  rw [List.take_succ_eq_append_getElem h, List.filter_append, List.length_append]
  congr 1
  by_cases e : l[j] = k <;> simp [e]
theorem cnt_le (l : List ByteArray) (k : ByteArray) (j : Nat) : cnt l k j ≤ j := by
  unfold cnt
  exact Nat.le_trans (List.length_filter_le _ _) (List.length_take_le _ _)
theorem filter_one : ∀ (l : List ByteArray), l.Nodup → ∀ k, k ∈ l → (l.filter fun x => decide (x = k)).length = 1
  | [], _, _, h => by cases h
  | a :: l, hn, k, h => by
    rw [List.nodup_cons] at hn
    by_cases e : a = k
    · subst e
      have : (l.filter fun x => decide (x = a)) = [] := by
        rw [List.filter_eq_nil_iff]
        intro x hx h'
        exact hn.1 (of_decide_eq_true h' ▸ hx)
      rw [List.filter_cons_of_pos (by simp), this]; rfl
    · rcases List.mem_cons.1 h with h | h
      · exact absurd h.symm e
      · rw [List.filter_cons_of_neg (by simpa using e)]
        exact filter_one l hn.2 k h
theorem cnt_all {d : Dm} (hok : d.Ok) (k : ByteArray) : cnt (allKeys d) k (allKeys d).length = if (d.look k).isSome then 1 else 0 := by
  unfold cnt
  rw [List.take_length]
  have hp := allKeys_perm d
  rw [(hp.filter _).length_eq]
  have hk := hok.keys
  cases hl : d.look k with
  | none =>
    have hno := look_none.1 hl
    have : ((d.nodes.map (·.key)).filter fun x => decide (x = k)) = [] := by
      rw [List.filter_eq_nil_iff]
      intro x hx
      obtain ⟨y, hy, rfl⟩ := List.mem_map.1 hx
      simpa using hno y hy
    rw [this]; rfl
  | some v =>
    obtain ⟨x, hx, rfl, _⟩ := (look_some hk).1 hl
    have hm : x.key ∈ d.nodes.map (·.key) := List.mem_map.2 ⟨x, hx, rfl⟩
    exact filter_one _ hk x.key hm
theorem allKeys_length {d : Dm} (hok : d.Ok) : (allKeys d).length = d.n := by
  rw [(allKeys_perm d).length_eq, List.length_map, hok.count]

theorem acts_lt {w : World} {b o cap n : Nat} {g : Nat → Act3} (h : ActsAt w (.slice (some ⟨b, o, none⟩) n cap) n g) {i : Nat} (hi : i < n) : b < w.heap.size := by
  obtain ⟨b', o', cap', heq, h1, h2, _⟩ := h.at_ i hi
  injection heq with heq
  injection heq with heq
  injection heq with e1 e2
  subst e1
  exact h1
theorem acts_do {w : World} {b o cap n : Nat} {g : Nat → Act3} (h : ActsAt w (.slice (some ⟨b, o, none⟩) n cap) n g) {i : Nat} (hi : i < n) : w.cell? ⟨b, o + i * 3, none⟩ = some (.int .i64 (g i).Do) := by
  obtain ⟨b', o', cap', heq, _, h2, _⟩ := h.at_ i hi
  injection heq with heq
  injection heq with heq
  injection heq with e1 e2
  subst e1 e2
  exact h2

theorem all87 {P : Array Value → Prop} (h : ∀ u0 u1 u2 u3 u4 u5 u6 u7 u8 u9 u10 u11 u12 u13 u14 u15 u16 u17 u18 u19 u20 u21 u22 u23 u24 u25 u26 u27 u28 u29 u30 u31 u32 u33 u34 u35 u36 u37 u38 u39 u40 u41 u42 u43 u44 u45 u46 u47 u48 u49 u50 u51 u52 u53 u54 u55 u56 u57 u58 u59 u60 u61 u62 u63 u64 u65 u66 u67 u68 u69 u70 u71 u72 u73 u74 u75 u76 u77 u78 u79 u80 u81 u82 u83 u84 u85 u86 : Value, P #[u0, u1, u2, u3, u4, u5, u6, u7, u8, u9, u10, u11, u12, u13, u14, u15, u16, u17, u18, u19, u20, u21, u22, u23, u24, u25, u26, u27, u28, u29, u30, u31, u32, u33, u34, u35, u36, u37, u38, u39, u40, u41, u42, u43, u44, u45, u46, u47, u48, u49, u50, u51, u52, u53, u54, u55, u56, u57, u58, u59, u60, u61, u62, u63, u64, u65, u66, u67, u68, u69, u70, u71, u72, u73, u74, u75, u76, u77, u78, u79, u80, u81, u82, u83, u84, u85, u86]) (a : Array Value) (hs : a.size = 87) : P a := by
  obtain ⟨l⟩ := a
  have g0 : l.length = 87 := hs
  clear hs
  obtain ⟨u0, l0, e0, g1⟩ := Pal.len_cons g0
  obtain ⟨u1, l1, e1, g2⟩ := Pal.len_cons g1
  obtain ⟨u2, l2, e2, g3⟩ := Pal.len_cons g2
  obtain ⟨u3, l3, e3, g4⟩ := Pal.len_cons g3
  obtain ⟨u4, l4, e4, g5⟩ := Pal.len_cons g4
  obtain ⟨u5, l5, e5, g6⟩ := Pal.len_cons g5
  obtain ⟨u6, l6, e6, g7⟩ := Pal.len_cons g6
  obtain ⟨u7, l7, e7, g8⟩ := Pal.len_cons g7
  obtain ⟨u8, l8, e8, g9⟩ := Pal.len_cons g8
  obtain ⟨u9, l9, e9, g10⟩ := Pal.len_cons g9
  obtain ⟨u10, l10, e10, g11⟩ := Pal.len_cons g10
  obtain ⟨u11, l11, e11, g12⟩ := Pal.len_cons g11
  obtain ⟨u12, l12, e12, g13⟩ := Pal.len_cons g12
  obtain ⟨u13, l13, e13, g14⟩ := Pal.len_cons g13
  obtain ⟨u14, l14, e14, g15⟩ := Pal.len_cons g14
  obtain ⟨u15, l15, e15, g16⟩ := Pal.len_cons g15
  obtain ⟨u16, l16, e16, g17⟩ := Pal.len_cons g16
  obtain ⟨u17, l17, e17, g18⟩ := Pal.len_cons g17
  obtain ⟨u18, l18, e18, g19⟩ := Pal.len_cons g18
  obtain ⟨u19, l19, e19, g20⟩ := Pal.len_cons g19
  obtain ⟨u20, l20, e20, g21⟩ := Pal.len_cons g20
  obtain ⟨u21, l21, e21, g22⟩ := Pal.len_cons g21
  obtain ⟨u22, l22, e22, g23⟩ := Pal.len_cons g22
  obtain ⟨u23, l23, e23, g24⟩ := Pal.len_cons g23
  obtain ⟨u24, l24, e24, g25⟩ := Pal.len_cons g24
  obtain ⟨u25, l25, e25, g26⟩ := Pal.len_cons g25
  obtain ⟨u26, l26, e26, g27⟩ := Pal.len_cons g26
  obtain ⟨u27, l27, e27, g28⟩ := Pal.len_cons g27
  obtain ⟨u28, l28, e28, g29⟩ := Pal.len_cons g28
  obtain ⟨u29, l29, e29, g30⟩ := Pal.len_cons g29
  obtain ⟨u30, l30, e30, g31⟩ := Pal.len_cons g30
  obtain ⟨u31, l31, e31, g32⟩ := Pal.len_cons g31
  obtain ⟨u32, l32, e32, g33⟩ := Pal.len_cons g32
  obtain ⟨u33, l33, e33, g34⟩ := Pal.len_cons g33
  obtain ⟨u34, l34, e34, g35⟩ := Pal.len_cons g34
  obtain ⟨u35, l35, e35, g36⟩ := Pal.len_cons g35
  obtain ⟨u36, l36, e36, g37⟩ := Pal.len_cons g36
  obtain ⟨u37, l37, e37, g38⟩ := Pal.len_cons g37
  obtain ⟨u38, l38, e38, g39⟩ := Pal.len_cons g38
  obtain ⟨u39, l39, e39, g40⟩ := Pal.len_cons g39
  obtain ⟨u40, l40, e40, g41⟩ := Pal.len_cons g40
  obtain ⟨u41, l41, e41, g42⟩ := Pal.len_cons g41
  obtain ⟨u42, l42, e42, g43⟩ := Pal.len_cons g42
  obtain ⟨u43, l43, e43, g44⟩ := Pal.len_cons g43
  obtain ⟨u44, l44, e44, g45⟩ := Pal.len_cons g44
  obtain ⟨u45, l45, e45, g46⟩ := Pal.len_cons g45
  obtain ⟨u46, l46, e46, g47⟩ := Pal.len_cons g46
  obtain ⟨u47, l47, e47, g48⟩ := Pal.len_cons g47
  obtain ⟨u48, l48, e48, g49⟩ := Pal.len_cons g48
  obtain ⟨u49, l49, e49, g50⟩ := Pal.len_cons g49
  obtain ⟨u50, l50, e50, g51⟩ := Pal.len_cons g50
  obtain ⟨u51, l51, e51, g52⟩ := Pal.len_cons g51
  obtain ⟨u52, l52, e52, g53⟩ := Pal.len_cons g52
  obtain ⟨u53, l53, e53, g54⟩ := Pal.len_cons g53
  obtain ⟨u54, l54, e54, g55⟩ := Pal.len_cons g54
  obtain ⟨u55, l55, e55, g56⟩ := Pal.len_cons g55
  obtain ⟨u56, l56, e56, g57⟩ := Pal.len_cons g56
  obtain ⟨u57, l57, e57, g58⟩ := Pal.len_cons g57
  obtain ⟨u58, l58, e58, g59⟩ := Pal.len_cons g58
  obtain ⟨u59, l59, e59, g60⟩ := Pal.len_cons g59
  obtain ⟨u60, l60, e60, g61⟩ := Pal.len_cons g60
  obtain ⟨u61, l61, e61, g62⟩ := Pal.len_cons g61
  obtain ⟨u62, l62, e62, g63⟩ := Pal.len_cons g62
  obtain ⟨u63, l63, e63, g64⟩ := Pal.len_cons g63
  obtain ⟨u64, l64, e64, g65⟩ := Pal.len_cons g64
  obtain ⟨u65, l65, e65, g66⟩ := Pal.len_cons g65
  obtain ⟨u66, l66, e66, g67⟩ := Pal.len_cons g66
  obtain ⟨u67, l67, e67, g68⟩ := Pal.len_cons g67
  obtain ⟨u68, l68, e68, g69⟩ := Pal.len_cons g68
  obtain ⟨u69, l69, e69, g70⟩ := Pal.len_cons g69
  obtain ⟨u70, l70, e70, g71⟩ := Pal.len_cons g70
  obtain ⟨u71, l71, e71, g72⟩ := Pal.len_cons g71
  obtain ⟨u72, l72, e72, g73⟩ := Pal.len_cons g72
  obtain ⟨u73, l73, e73, g74⟩ := Pal.len_cons g73
  obtain ⟨u74, l74, e74, g75⟩ := Pal.len_cons g74
  obtain ⟨u75, l75, e75, g76⟩ := Pal.len_cons g75
  obtain ⟨u76, l76, e76, g77⟩ := Pal.len_cons g76
  obtain ⟨u77, l77, e77, g78⟩ := Pal.len_cons g77
  obtain ⟨u78, l78, e78, g79⟩ := Pal.len_cons g78
  obtain ⟨u79, l79, e79, g80⟩ := Pal.len_cons g79
  obtain ⟨u80, l80, e80, g81⟩ := Pal.len_cons g80
  obtain ⟨u81, l81, e81, g82⟩ := Pal.len_cons g81
  obtain ⟨u82, l82, e82, g83⟩ := Pal.len_cons g82
  obtain ⟨u83, l83, e83, g84⟩ := Pal.len_cons g83
  obtain ⟨u84, l84, e84, g85⟩ := Pal.len_cons g84
  obtain ⟨u85, l85, e85, g86⟩ := Pal.len_cons g85
  obtain ⟨u86, l86, e86, g87⟩ := Pal.len_cons g86
  obtain rfl := List.eq_nil_of_length_eq_zero g87
  have e : (⟨l⟩ : Array Value) = #[u0, u1, u2, u3, u4, u5, u6, u7, u8, u9, u10, u11, u12, u13, u14, u15, u16, u17, u18, u19, u20, u21, u22, u23, u24, u25, u26, u27, u28, u29, u30, u31, u32, u33, u34, u35, u36, u37, u38, u39, u40, u41, u42, u43, u44, u45, u46, u47, u48, u49, u50, u51, u52, u53, u54, u55, u56, u57, u58, u59, u60, u61, u62, u63, u64, u65, u66, u67, u68, u69, u70, u71, u72, u73, u74, u75, u76, u77, u78, u79, u80, u81, u82, u83, u84, u85, u86] := by rw [e0, e1, e2, e3, e4, e5, e6, e7, e8, e9, e10, e11, e12, e13, e14, e15, e16, e17, e18, e19, e20, e21, e22, e23, e24, e25, e26, e27, e28, e29, e30, e31, e32, e33, e34, e35, e36, e37, e38, e39, e40, e41, e42, e43, e44, e45, e46, e47, e48, e49, e50, e51, e52, e53, e54, e55, e56, e57, e58, e59, e60, e61, e62, e63, e64, e65, e66, e67, e68, e69, e70, e71, e72, e73, e74, e75, e76, e77, e78, e79, e80, e81, e82, e83, e84, e85, e86]
  rw [e]
  exact h u0 u1 u2 u3 u4 u5 u6 u7 u8 u9 u10 u11 u12 u13 u14 u15 u16 u17 u18 u19 u20 u21 u22 u23 u24 u25 u26 u27 u28 u29 u30 u31 u32 u33 u34 u35 u36 u37 u38 u39 u40 u41 u42 u43 u44 u45 u46 u47 u48 u49 u50 u51 u52 u53 u54 u55 u56 u57 u58 u59 u60 u61 u62 u63 u64 u65 u66 u67 u68 u69 u70 u71 u72 u73 u74 u75 u76 u77 u78 u79 u80 u81 u82 u83 u84 u85 u86

def LAct (l : Value) (bd i : Nat) (a : Act) : Prop :=
  a.tmps.size = 87 ∧ a.tmps[1]? = some l ∧ a.tmps[5]? = some (.bool true) ∧ a.tmps[6]? = some (ptr bd) ∧ a.tmps[7]? = some (.int .i64 (i : Int)) ∧ a.defers = []
def LInv (w0 : World) (l : Value) (N bd : Nat) (m : Nat) (a : Act) (w : World) : Prop :=
  ∃ i d, m = N - i ∧ i ≤ N ∧ LAct l bd i a ∧ One w0 w bd d ∧ d.n ≤ i

set_option maxRecDepth 100000 in
set_option maxHeartbeats 4000000 in
theorem walk (s1 : Nat) (h1 : s1 < 4294967296) (v : Value) (n : Nat) (g : Nat → Act3) (w : World) (hv : ActsAt w v n g) :
    Calls Try.prog 8 #[.int .u32 (s1 : Int), v] w fun e w' => e = .returned (.bool true) ∧ Chg (fun _ => False) w w' := by
  go_enter Try.func8, Try.ntmps8
  go_wp2_with fail
  refine (shown07_any w).mono ?_
  rintro e w1 ⟨rfl, c1⟩
  go_wp2_with fail
  refine (new_1 c1 s1 h1).mono ?_
  rintro e w2 ⟨bd, d0, rfl, hT, dn, _, _, _, _⟩
  go_wp2_with fail
  refine wp_loop_ghost (LInv w v (min n 100) bd) (min n 100) ?_ ?_
  · exact ⟨0, d0, rfl, Nat.zero_le _, ⟨rfl, rfl, rfl, rfl, rfl, rfl⟩, hT, Nat.le_of_eq dn⟩
  · clear hT c1 dn
    rintro m ⟨tmps, ds⟩ W ⟨i, d, rfl, hi, ⟨hsz, t1, t5, t6, t7, rfl⟩, hT, hS⟩
    replace hsz : tmps.size = 87 := hsz
    dsimp only at t1 t5 t6 t7
    revert t1 t5 t6 t7
    revert hsz
    revert tmps
    refine all87 ?_
    intro u0 u1 u2 u3 u4 u5 u6 u7 u8 u9 u10 u11 u12 u13 u14 u15 u16 u17 u18 u19 u20 u21 u22 u23 u24 u25 u26 u27 u28 u29 u30 u31 u32 u33 u34 u35 u36 u37 u38 u39 u40 u41 u42 u43 u44 u45 u46 u47 u48 u49 u50 u51 u52 u53 u54 u55 u56 u57 u58 u59 u60 u61 u62 u63 u64 u65 u66 u67 u68 u69 u70 u71 u72 u73 u74 u75 u76 u77 u78 u79 u80 u81 u82 u83 u84 u85 u86 t1 t5 t6 t7
    simp only [ptr, List.getElem?_toArray, List.getElem?_cons_zero, List.getElem?_cons_succ, Option.some.injEq] at t1 t5 t6 t7
    subst t1 t5 t6 t7
    obtain ⟨p, cap, rfl⟩ := hv.is
    have hle := hv.le
    have hdn : d.n ≤ 1000 := by omega
    have hdn2 : d.n ≤ 100000 := by omega
    by_cases hin : i < n
    · by_cases hi150 : i < 100
      · have hv' := hv.chg hT.chg
        obtain ⟨b, o, cap', heq, hb, q0, q1, q2, f0, f1, f2⟩ := hv'.at_ i hin
        injection heq with heq hx hcap
        subst heq hcap
        clear hx
        have hin' : (i : Int) < (n : Int) := by omega
        have hi' : (i : Int) < 100 := by omega
        have hks : (cutS (g i).Key 12).size ≤ 9223372036854775807 := Nat.le_trans (cutS_size _ _) f1
        obtain ⟨r, hr, hcase⟩ := mod8 (g i).Do
        obtain ⟨K, hK⟩ : ∃ K, cutS (g i).Key 12 = K := ⟨_, rfl⟩
        by_cases h5 : r < 4
        · go_wp2_with fail
          refine (key7_any _ _ f1).mono ?_
          rintro e9 w9 ⟨rfl, rfl⟩
          rw [hK] at hks ⊢
          have HK := Lib.hid hK
          clear hK
          go_wp2_with fail
          refine (set_1 hT K (.int .i64 (g i).V) hks ⟨_, rfl⟩ hdn2).mono ?_
          rintro e5 W5 ⟨rfl, d', hT1, _, hP1, _⟩
          have hn' : d'.n ≤ i + 1 := by rw [hP1.2]; split <;> omega
          have hlk : d'.look K = some (.int .i64 (g i).V) := by rw [hP1.1, if_pos rfl]
          have HLK := Lib.hid hlk
          clear hlk hdn hdn2
          go_wp2_with fail
          refine (buckets_1 hT1 (by omega)).mono ?_
          rintro e6 W6 ⟨⟨u, rfl, hs⟩, hT2, hC2⟩
          have hl := len_1 hT2
          have q6 := acts_do (hv.chg hT2.chg) hin
          have hb6 : b < W6.heap.size := by have := hT.chg.size; exact acts_lt (hv.chg hT2.chg) hin
          obtain ⟨pu, cu, rfl, hlu, hcu, hpu⟩ := hs.is
          have hlen := allKeys_length hT1.md.ok
          rw [hlen]
          have HLEN := Lib.hid hlen
          clear hlen
          go_wp2_with fail
          refine hl.mono ?_
          rintro e7 w7 ⟨rfl, rfl⟩
          clear hl
          have hct := cnt_all hT1.md.ok K
          rw [HLEN.out, HLK.out] at hct
          have HCT := Lib.hid hct
          clear hct
          go_wp2_with fail
          go_loop [10, 11] (fun c j => ∃ q : Nat, q ≤ d'.n ∧ j = .int .i64 q ∧ c = .int .i64 (cnt (allKeys d') K q : Nat)) (fun _ j => d'.n - (intOf j).toNat)
          case atStart => exact ⟨0, Nat.zero_le _, rfl, rfl⟩
          case round =>
            obtain ⟨q, hq, rfl, rfl⟩ := hrel
            have hcl := cnt_le (allKeys d') K q
            have hqb : (q : Int) ≤ 1000 := by omega
            have hcb : ((cnt (allKeys d') K q : Nat) : Int) ≤ 1000 := by omega
            by_cases hlt : q < d'.n
            · have hlt' : (q : Int) < (d'.n : Int) := by omega
              have hqq : q < (allKeys d').length := by rw [HLEN.out]; exact hlt
              obtain ⟨gb, rfl, hg1, hg2, hg3⟩ := hs.at_ hqq
              have hsu := cnt_succ (allKeys d') K q hqq
              generalize (allKeys d')[q] = kq at hg3 hsu
              by_cases he : kq = K
              · subst he
                rw [if_pos rfl] at hsu
                have HSU := Lib.hid hsu
                clear hsu
                go_wp2_with fail
                go_round
                case rel => exact ⟨q + 1, by omega, by go_num, by rw [HSU.out]; go_num⟩
                case measure => simp [intOf]; omega
              · rw [if_neg he] at hsu
                have he2 := toList_ne he
                have HSU := Lib.hid hsu
                clear hsu
                go_wp2_with fail
                go_round
                case rel => exact ⟨q + 1, by omega, by go_num, by rw [HSU.out]; go_num⟩
                case measure => simp [intOf]; omega
            · have hge : ((q : Int) < (d'.n : Int)) = False := by simp only [eq_iff_iff, iff_false]; omega
              have hqn : q = d'.n := by omega
              have hc1 : cnt (allKeys d') K q = 1 := by rw [hqn, HCT.out]; rfl
              rw [hc1]
              clear hlt hq hc1 hcl hcb
              go_wp2_with fail
              exact ⟨min n 100 - (i + 1), by omega, i + 1, d', rfl, by omega, ⟨rfl, rfl, rfl, rfl, rfl, rfl⟩, hT2, hn'⟩
        · go_wp2_with fail
          refine (key7_any _ _ f1).mono ?_
          rintro e9 w9 ⟨rfl, rfl⟩
          rw [hK] at hks ⊢
          have HK := Lib.hid hK
          clear hK
          go_wp2_with fail
          refine (del_1 hT K hks hdn2).mono ?_
          rintro e5 W5 ⟨rfl, d', hT1, _, hP1, _⟩
          have hn' : d'.n ≤ i + 1 := by rw [hP1.2]; split <;> omega
          have hlk : d'.look K = none := by rw [hP1.1, if_pos rfl]
          have HLK := Lib.hid hlk
          clear hlk hdn hdn2
          go_wp2_with fail
          refine (buckets_1 hT1 (by omega)).mono ?_
          rintro e6 W6 ⟨⟨u, rfl, hs⟩, hT2, hC2⟩
          have hl := len_1 hT2
          have q6 := acts_do (hv.chg hT2.chg) hin
          have hb6 : b < W6.heap.size := by have := hT.chg.size; exact acts_lt (hv.chg hT2.chg) hin
          obtain ⟨pu, cu, rfl, hlu, hcu, hpu⟩ := hs.is
          have hlen := allKeys_length hT1.md.ok
          rw [hlen]
          have HLEN := Lib.hid hlen
          clear hlen
          go_wp2_with fail
          refine hl.mono ?_
          rintro e7 w7 ⟨rfl, rfl⟩
          clear hl
          have hct := cnt_all hT1.md.ok K
          rw [HLEN.out, HLK.out] at hct
          have HCT := Lib.hid hct
          clear hct
          go_wp2_with fail
          go_loop [10, 11] (fun c j => ∃ q : Nat, q ≤ d'.n ∧ j = .int .i64 q ∧ c = .int .i64 (cnt (allKeys d') K q : Nat)) (fun _ j => d'.n - (intOf j).toNat)
          case atStart => exact ⟨0, Nat.zero_le _, rfl, rfl⟩
          case round =>
            obtain ⟨q, hq, rfl, rfl⟩ := hrel
            have hcl := cnt_le (allKeys d') K q
            have hqb : (q : Int) ≤ 1000 := by omega
            have hcb : ((cnt (allKeys d') K q : Nat) : Int) ≤ 1000 := by omega
            by_cases hlt : q < d'.n
            · have hlt' : (q : Int) < (d'.n : Int) := by omega
              have hqq : q < (allKeys d').length := by rw [HLEN.out]; exact hlt
              obtain ⟨gb, rfl, hg1, hg2, hg3⟩ := hs.at_ hqq
              have hsu := cnt_succ (allKeys d') K q hqq
              generalize (allKeys d')[q] = kq at hg3 hsu
              by_cases he : kq = K
              · subst he
                rw [if_pos rfl] at hsu
                have HSU := Lib.hid hsu
                clear hsu
                go_wp2_with fail
                go_round
                case rel => exact ⟨q + 1, by omega, by go_num, by rw [HSU.out]; go_num⟩
                case measure => simp [intOf]; omega
              · rw [if_neg he] at hsu
                have he2 := toList_ne he
                have HSU := Lib.hid hsu
                clear hsu
                go_wp2_with fail
                go_round
                case rel => exact ⟨q + 1, by omega, by go_num, by rw [HSU.out]; go_num⟩
                case measure => simp [intOf]; omega
            · have hge : ((q : Int) < (d'.n : Int)) = False := by simp only [eq_iff_iff, iff_false]; omega
              have hqn : q = d'.n := by omega
              have hc1 : cnt (allKeys d') K q = 0 := by rw [hqn, HCT.out]; rfl
              rw [hc1]
              clear hlt hq hc1 hcl hcb
              go_wp2_with fail
              exact ⟨min n 100 - (i + 1), by omega, i + 1, d', rfl, by omega, ⟨rfl, rfl, rfl, rfl, rfl, rfl⟩, hT2, hn'⟩
      · have hin' : (i : Int) < (n : Int) := by omega
        have hi' : ((i : Int) < 100) = False := by simp only [eq_iff_iff, iff_false]; omega
        clear hi150
        go_wp2_with fail
        go_ret
        exact ⟨rfl, hT.chg⟩
    · have hin' : ((i : Int) < (n : Int)) = False := by simp only [eq_iff_iff, iff_false]; omega
      have hin2 : (i < n) = False := by simp only [eq_iff_iff, iff_false]; omega
      clear hin
      go_wp2_with fail
      go_ret
      exact ⟨rfl, hT.chg⟩

set_option maxRecDepth 100000 in
theorem DictKeys_walk (W : World) (a0 : Int) (w0 : (Lit.int .u32 a0).wf = true) {H : Type} {enc : TypeId × Value → H} {v : Value} {d : DataW H} {p : List MemPlace}
    (hv : Value.okWide Try.prog W .any 0 23 v) (h : DataW.Trod enc Try.prog W 0 (fun _ => true) true 23 v d p) :
    Calls Try.prog 8 #[.int .u32 a0, v] W fun e w' => e = .returned (.bool true) ∧ Chg (fun _ => False) W w' := by
  obtain ⟨s0, rfl, h0⟩ := u32_of_wf w0
  obtain ⟨n, g, hg⟩ := open_acts hv h
  exact walk s0 h0 v n g W hg

end Go.Proofs.Ythbjjjcppijcbaa.dictKeys
