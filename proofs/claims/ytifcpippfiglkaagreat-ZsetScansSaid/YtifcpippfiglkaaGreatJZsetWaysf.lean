/- Texts joined for ZsetWays: BD, SKP, IT. -/
import Derived.Test.YtifcpippfiglkaaGreatJZsetWaysa
import Derived.Test.YtifcpippfiglkaaGreatJZsetWayse
import Derived.Test.YtifcpippfiglkaaGreatProg
import Derived.WalkKit
import Derived.Lib.Hide
import Derived.Deep.QuietTactic
import Derived.BigQuiet
import Derived.Deep.LoopGhost
import Derived.Deep.RegionHeld3
import Derived.Deep.DrawnRows
import Derived.Sort.Walk0
import Derived.Laws.Cover1
import Derived.Below
import Derived.RangeFuncOwn
set_option linter.unusedVariables false
set_option linter.unusedSimpArgs false

/- Entries in order: bound.Less. -/
namespace Go.Proofs.YtifcpippfiglkaaGreat
open Go.RowKit Pal
attribute [local go_sem ↓] Go.wp_at_zero Go.wp_at_succ

structure En where
  m : ByteArray
  s : Int
def En.val (e : En) : Value := .agg #[.string e.m, .int .i64 e.s]
def ltE (a b : En) : Prop := a.s < b.s ∨ (a.s = b.s ∧ ltB a.m b.m)
instance (a b : En) : Decidable (ltE a b) := inferInstanceAs (Decidable (_ ∨ _))
def cmpI (a b : Int) : Int := if a < b then -1 else if b < a then 1 else 0
def cmpS (a b : ByteArray) : Int := if ltB a b then -1 else if ltB b a then 1 else 0
theorem bytesLess_ltB (a b : ByteArray) : Op.bytesLess a.toList b.toList = decide (ltB a b) := by
  rw [Go.Proofs.bytesLess_eq, ByteArray.toList_eq, ByteArray.toList_eq]; rfl
theorem toListE (a : ByteArray) : (a.toList == a.toList) = true := by simp
theorem toListN {a b : ByteArray} (h : ¬ a = b) : (a.toList == b.toList) = false := by
  rw [beq_eq_false_iff_ne]
  intro h'
  apply h
  rw [ByteArray.toList_eq, ByteArray.toList_eq] at h'
  cases a; cases b; simp_all

theorem isNaN_i (a : Int) (w : World) : Calls Tryz.prog 79 #[.int .i64 a] w fun e w' => e = .returned (.bool false) ∧ w = w' := by
  go_enter Tryz.func79, Tryz.ntmps79
  go_wp2
  go_ret
  exact ⟨rfl, rfl⟩
theorem isNaN_s (a : ByteArray) (w : World) : Calls Tryz.prog 80 #[.string a] w fun e w' => e = .returned (.bool false) ∧ w = w' := by
  go_enter Tryz.func80, Tryz.ntmps80
  go_wp2
  go_ret
  exact ⟨rfl, rfl⟩
theorem cmp_i (a b : Int) (w : World) : Calls Tryz.prog 61 #[.int .i64 a, .int .i64 b] w fun e w' => e = .returned (.int .i64 (cmpI a b)) ∧ w = w' := by
  rcases Int.lt_trichotomy a b with h | h | h
  · have e : cmpI a b = -1 := by unfold cmpI; rw [if_pos h]
    rw [e]
    go_enter Tryz.func61, Tryz.ntmps61
    go_wp2_with (go_at_call 79; refine (isNaN_i _ _).mono ?_; rintro e w' ⟨rfl, rfl⟩)
    go_ret
    exact ⟨rfl, rfl⟩
  · have e : cmpI a b = 0 := by unfold cmpI; rw [if_neg (by omega), if_neg (by omega)]
    rw [e]
    subst h
    go_enter Tryz.func61, Tryz.ntmps61
    go_wp2_with (go_at_call 79; refine (isNaN_i _ _).mono ?_; rintro e w' ⟨rfl, rfl⟩)
    go_ret
    exact ⟨rfl, rfl⟩
  · have e : cmpI a b = 1 := by unfold cmpI; rw [if_neg (by omega), if_pos h]
    have h1 : ¬ a < b := by omega
    have h2 : a > b := h
    rw [e]
    go_enter Tryz.func61, Tryz.ntmps61
    go_wp2_with (go_at_call 79; refine (isNaN_i _ _).mono ?_; rintro e w' ⟨rfl, rfl⟩)
    go_ret
    exact ⟨rfl, rfl⟩
theorem cmp_s (a b : ByteArray) (w : World) : Calls Tryz.prog 62 #[.string a, .string b] w fun e w' => e = .returned (.int .i64 (cmpS a b)) ∧ w = w' := by
  have hb := bytesLess_ltB a b
  by_cases h1 : ltB a b
  · have e : cmpS a b = -1 := by unfold cmpS; rw [if_pos h1]
    rw [decide_eq_true h1] at hb
    rw [e]
    clear h1
    go_enter Tryz.func62, Tryz.ntmps62
    go_wp2_with (go_at_call 80; refine (isNaN_s _ _).mono ?_; rintro e w' ⟨rfl, rfl⟩)
    go_ret
    exact ⟨rfl, rfl⟩
  · rw [decide_eq_false h1] at hb
    by_cases h2 : a = b
    · have e : cmpS a b = 0 := by unfold cmpS; rw [if_neg h1, if_neg (by rw [← h2]; exact ltB_irrefl a)]
      have he := toListE a
      rw [e]
      subst h2
      clear h1 e
      go_enter Tryz.func62, Tryz.ntmps62
      go_wp2_with (go_at_call 80; refine (isNaN_s _ _).mono ?_; rintro e w' ⟨rfl, rfl⟩)
      go_ret
      exact ⟨rfl, rfl⟩
    · have e : cmpS a b = 1 := by unfold cmpS; rw [if_neg h1, if_pos (ltB_total h1 h2)]
      have he := toListN h2
      rw [e]
      clear h1 h2 e
      go_enter Tryz.func62, Tryz.ntmps62
      go_wp2_with (go_at_call 80; refine (isNaN_s _ _).mono ?_; rintro e w' ⟨rfl, rfl⟩)
      go_ret
      exact ⟨rfl, rfl⟩

theorem all18 {P : Array Value → Prop} (h : ∀ u0 u1 u2 u3 u4 u5 u6 u7 u8 u9 u10 u11 u12 u13 u14 u15 u16 u17 : Value, P #[u0, u1, u2, u3, u4, u5, u6, u7, u8, u9, u10, u11, u12, u13, u14, u15, u16, u17]) (a : Array Value) (hs : a.size = 18) : P a := by
  obtain ⟨l⟩ := a
  have g0 : l.length = 18 := hs
  clear hs
  obtain ⟨u0, l0, e0, g1⟩ := Pal.len_cons g0
  obtain ⟨u1, l1, e1, g2⟩ := Pal.len_cons g1
  obtain ⟨u2, l2, e2, g3⟩ := Pal.len_cons g2
  obtain ⟨u3, l3, e3, g4⟩ := Pal.len_cons g3
  obtain ⟨u4, l4, e4, g5⟩ := Pal.len_cons g4
  obtain ⟨u5, l5, e5, g6⟩ := Pal.len_cons g5
  obtain ⟨u6, l6, e6, g7⟩ := Pal.len_cons g6
  obtain ⟨u7, l7, e7, g8⟩ := Pal.len_cons g7
  obtain ⟨u8, l8, e8, g9⟩ := Pal.len_cons g8
  obtain ⟨u9, l9, e9, g10⟩ := Pal.len_cons g9
  obtain ⟨u10, l10, e10, g11⟩ := Pal.len_cons g10
  obtain ⟨u11, l11, e11, g12⟩ := Pal.len_cons g11
  obtain ⟨u12, l12, e12, g13⟩ := Pal.len_cons g12
  obtain ⟨u13, l13, e13, g14⟩ := Pal.len_cons g13
  obtain ⟨u14, l14, e14, g15⟩ := Pal.len_cons g14
  obtain ⟨u15, l15, e15, g16⟩ := Pal.len_cons g15
  obtain ⟨u16, l16, e16, g17⟩ := Pal.len_cons g16
  obtain ⟨u17, l17, e17, g18⟩ := Pal.len_cons g17
  obtain rfl := List.eq_nil_of_length_eq_zero g18
  have e : (⟨l⟩ : Array Value) = #[u0, u1, u2, u3, u4, u5, u6, u7, u8, u9, u10, u11, u12, u13, u14, u15, u16, u17] := by rw [e0, e1, e2, e3, e4, e5, e6, e7, e8, e9, e10, e11, e12, e13, e14, e15, e16, e17]
  rw [e]
  exact h u0 u1 u2 u3 u4 u5 u6 u7 u8 u9 u10 u11 u12 u13 u14 u15 u16 u17
def ActO (b i : Nat) (a : Act) : Prop := a.tmps.size = 18 ∧ a.tmps[3]? = some (.int .i64 0) ∧ a.tmps[6]? = some (.slice (some ⟨b, 0, none⟩) 2 2) ∧ a.tmps[7]? = some (.int .i64 2) ∧ a.tmps[8]? = some (.int .i64 (i : Int)) ∧ a.defers = []
def InvO (w0 : World) (b : Nat) (x y : Int) (m : Nat) (a : Act) (w : World) : Prop :=
  ∃ i, m = 2 - i ∧ i ≤ 2 ∧ ActO b i a ∧ w0 = w ∧ (0 < i → x = 0) ∧ (1 < i → y = 0)
def orI (x y : Int) : Int := if x = 0 then y else x
set_option maxHeartbeats 400000 in
theorem or_any (x y : Int) (b : Nat) (w : World) (hb : Blk w b 3 #[.int .i64 x, .int .i64 y]) :
    Calls Tryz.prog 60 #[.slice (some ⟨b, 0, none⟩) 2 2] w fun e w' => e = .returned (.int .i64 (orI x y)) ∧ w = w' := by
  have c0 := hb.cell 0
  have c1 := hb.cell 1
  have hl := hb.lt
  simp only [List.getElem?_toArray, List.getElem?_cons_zero, List.getElem?_cons_succ] at c0 c1
  go_enter Tryz.func60, Tryz.ntmps60
  go_wp2_with fail
  refine wp_loop_ghost (InvO w b x y) 2 ?_ ?_
  · exact ⟨0, rfl, by omega, ⟨rfl, rfl, rfl, rfl, rfl, rfl⟩, rfl, fun h => by omega, fun h => by omega⟩
  · rintro m ⟨tmps, ds⟩ W ⟨i, rfl, hi, ⟨hsz, t3, t6, t7, t8, rfl⟩, rfl, hx, hy⟩
    replace hsz : tmps.size = 18 := hsz
    dsimp only at t3 t6 t7 t8
    revert t3 t6 t7 t8
    revert hsz
    revert tmps
    refine all18 ?_
    intro u0 u1 u2 u3 u4 u5 u6 u7 u8 u9 u10 u11 u12 u13 u14 u15 u16 u17 t3 t6 t7 t8
    simp only [List.getElem?_toArray, List.getElem?_cons_zero, List.getElem?_cons_succ, Option.some.injEq] at t3 t6 t7 t8
    subst t3 t6 t7 t8
    rcases (by omega : i = 0 ∨ i = 1 ∨ i = 2) with rfl | rfl | rfl
    · by_cases h0 : x = 0
      · subst h0
        go_wp2_with fail
        exact ⟨1, by omega, 1, rfl, by omega, ⟨rfl, rfl, rfl, rfl, rfl, rfl⟩, rfl, fun _ => rfl, fun h => by omega⟩
      · have e : Hid (orI x y = x) := if_neg h0
        have h1 : (x != 0) = true := by rw [bne_iff_ne]; exact h0
        go_wp2_with fail
        go_ret
        exact ⟨by rw [e.out]; rfl, rfl⟩
    · have hx := hx (by omega)
      subst hx
      by_cases h0 : y = 0
      · subst h0
        go_wp2_with fail
        exact ⟨2, rfl, by omega, ⟨rfl, rfl, rfl, rfl, rfl, rfl⟩, rfl, fun _ => rfl, fun _ => rfl⟩
      · have h1 : (y != 0) = true := by rw [bne_iff_ne]; exact h0
        go_wp2_with fail
        go_ret
        exact ⟨rfl, rfl⟩
    · have hx := hx (by omega)
      subst hx
      have hy := hy (by omega)
      subst hy
      go_wp2_with fail
      go_ret
      exact ⟨rfl, rfl⟩

theorem orI_lt (a b : En) : orI (cmpI a.s b.s) (cmpS a.m b.m) < 0 ↔ ltE a b := by
  unfold orI cmpI cmpS ltE
  rcases Int.lt_trichotomy a.s b.s with h | h | h
  · rw [if_pos h, if_neg (by decide : ¬ (-1 : Int) = 0)]
    exact ⟨fun _ => .inl h, fun _ => by decide⟩
  · have n1 : ¬ a.s < b.s := by omega
    have n2 : ¬ b.s < a.s := by omega
    rw [if_neg n1, if_neg n2, if_pos rfl]
    by_cases h1 : ltB a.m b.m
    · rw [if_pos h1]; exact ⟨fun _ => .inr ⟨h, h1⟩, fun _ => by decide⟩
    · rw [if_neg h1]
      refine ⟨fun h' => ?_, fun h' => h'.elim (fun h' => by omega) fun h' => absurd h'.2 h1⟩
      split at h' <;> omega
  · have n1 : ¬ a.s < b.s := by omega
    rw [if_neg n1, if_pos h, if_neg (by decide : ¬ (1 : Int) = 0)]
    exact ⟨fun h' => absurd h' (by decide), fun h' => h'.elim (fun h' => by omega) fun h' => by omega⟩
def SL (B : Nat) (a b : En) (w : World) : Prop := w.cell? ⟨B, 0, none⟩ = some (.string a.m) ∧ w.cell? ⟨B, 1, none⟩ = some (.int .i64 a.s) ∧ w.cell? ⟨B + 1, 0, none⟩ = some (.string b.m) ∧ w.cell? ⟨B + 1, 1, none⟩ = some (.int .i64 b.s)
set_option maxHeartbeats 1000000 in
theorem less_E (a b : En) (w : World) : Calls Tryz.prog 42 #[a.val, b.val] w fun e w' => e = .returned (.bool (decide (ltE a b))) ∧ Chg (fun _ => False) w w' := by
  have hx : Blk ((w.alloc (.cells #[.string a.m, .int .i64 a.s] 54)).alloc (.cells #[.string b.m, .int .i64 b.s] 54)) w.heap.size 54 #[.string a.m, .int .i64 a.s] := (Blk.new w _ _).alloc _
  have hy : Blk ((w.alloc (.cells #[.string a.m, .int .i64 a.s] 54)).alloc (.cells #[.string b.m, .int .i64 b.s] 54)) (w.heap.size + 1) 54 #[.string b.m, .int .i64 b.s] := by
    have := Blk.new (w.alloc (.cells #[.string a.m, .int .i64 a.s] 54)) 54 #[.string b.m, .int .i64 b.s]
    rw [World.size_alloc] at this
    exact this
  have hC : Chg (fun _ => False) w ((w.alloc (.cells #[.string a.m, .int .i64 a.s] 54)).alloc (.cells #[.string b.m, .int .i64 b.s] 54)) := ((Chg.refl _ w).alloc _).alloc _
  unfold En.val
  go_enter Tryz.func42, Tryz.ntmps42
  go_wp2_with fail
  generalize (w.alloc (.cells #[.string a.m, .int .i64 a.s] 54)).alloc (.cells #[.string b.m, .int .i64 b.s] 54) = W at *
  have hS : ∀ W', Chg (fun _ => False) W W' → W'.cell? ⟨w.heap.size, 0, none⟩ = some (.string a.m) ∧ W'.cell? ⟨w.heap.size, 1, none⟩ = some (.int .i64 a.s) ∧ W'.cell? ⟨w.heap.size + 1, 0, none⟩ = some (.string b.m) ∧ W'.cell? ⟨w.heap.size + 1, 1, none⟩ = some (.int .i64 b.s) := fun W' hc =>
    ⟨(hx.chg hc id).cell 0, (hx.chg hc id).cell 1, (hy.chg hc id).cell 0, (hy.chg hc id).cell 1⟩
  have hor := fun W' => or_any (cmpI a.s b.s) (cmpS a.m b.m) W.heap.size W'
  go_region_held3 (fun W' => W'.cell? ⟨w.heap.size, 0, none⟩ = some (.string a.m) ∧ W'.cell? ⟨w.heap.size, 1, none⟩ = some (.int .i64 a.s) ∧ W'.cell? ⟨w.heap.size + 1, 0, none⟩ = some (.string b.m) ∧ W'.cell? ⟨w.heap.size + 1, 1, none⟩ = some (.int .i64 b.s)) (first | exact hS _ (Chg.refl _ _).drew | exact hS _ ((Chg.refl _ _).alloc _).drew | fail)
    (first
      | (go_at_call 61; refine (cmp_i _ _ _).mono ?_; rintro e9 w9 ⟨rfl, rfl⟩)
      | (go_at_call 62; refine (cmp_s _ _ _).mono ?_; rintro e9 w9 ⟨rfl, rfl⟩)
      | (go_at_call 60; refine (hor _ ((Blk.new W _ _).drew)).mono ?_; rintro e9 w9 ⟨rfl, rfl⟩)
      | fail)
  all_goals
    go_wp2_with fail
    go_ret
    refine ⟨?_, hC.trans ((Chg.refl _ _).alloc _).drew⟩
    show Ending.returned (.bool (decide (orI (cmpI a.s b.s) (cmpS a.m b.m) < 0))) = _
    rw [decide_eq_decide.2 (orI_lt a b)]

end Go.Proofs.YtifcpippfiglkaaGreat

/- Lists of levels, in plain words: where a link goes, how far it is. -/
namespace Pal.Skip

/-- Does the node of position q (from 1 on) have a link of level i? -/
def ab (lv : List Nat) (i q : Nat) : Prop := 1 ≤ q ∧ q ≤ lv.length ∧ i < lv.getD (q - 1) 0
instance (lv : List Nat) (i q : Nat) : Decidable (ab lv i q) := inferInstanceAs (Decidable (_ ∧ _ ∧ _))
/-- The first of m positions behind p that has one. -/
def find (lv : List Nat) (i p : Nat) : Nat → Option Nat
  | 0 => none
  | m + 1 => match find lv i p m with
    | some q => some q
    | none => if ab lv i (p + m + 1) then some (p + m + 1) else none
def nxt (lv : List Nat) (i p : Nat) : Option Nat := find lv i p (lv.length - p)
def span (lv : List Nat) (i p : Nat) : Nat := match nxt lv i p with
  | some q => q - p
  | none => lv.length - p
/-- The last position up to k that has one, or 0. -/
def prev (lv : List Nat) (i : Nat) : Nat → Nat
  | 0 => 0
  | k + 1 => if ab lv i (k + 1) then k + 1 else prev lv i k

theorem find_some {lv : List Nat} {i p : Nat} : ∀ {m q : Nat}, find lv i p m = some q ↔ p < q ∧ q ≤ p + m ∧ ab lv i q ∧ ∀ r, p < r → r < q → ¬ ab lv i r
  | 0, q => by
    unfold find
    constructor
    · intro h; cases h
    · rintro ⟨h1, h2, _⟩; omega
  | m + 1, q => by
    unfold find
    cases h : find lv i p m with
    | some q' =>
      obtain ⟨h1, h2, h3, h4⟩ := find_some.1 h
      dsimp only
      constructor
      · intro e; injection e with e; subst e; exact ⟨h1, by omega, h3, h4⟩
      · rintro ⟨g1, g2, g3, g4⟩
        rcases Nat.lt_trichotomy q q' with h' | h' | h'
        · exact absurd g3 (h4 q g1 h')
        · rw [h']
        · exact absurd h3 (g4 q' h1 h')
    | none =>
      have hn : ∀ r, p < r → r ≤ p + m → ¬ ab lv i r := by
        intro r h1 h2 h3
        -- the least such
        have : ∃ s, p < s ∧ s ≤ r ∧ ab lv i s ∧ ∀ t, p < t → t < s → ¬ ab lv i t := by
          clear h
          induction r using Nat.strongRecOn with
          | _ r ih =>
            by_cases hx : ∃ t, p < t ∧ t < r ∧ ab lv i t
            · obtain ⟨t, t1, t2, t3⟩ := hx
              obtain ⟨s, s1, s2, s3, s4⟩ := ih t t2 t1 (by omega) t3
              exact ⟨s, s1, by omega, s3, s4⟩
            · exact ⟨r, h1, Nat.le_refl _, h3, fun t t1 t2 t3 => hx ⟨t, t1, t2, t3⟩⟩
        obtain ⟨s, s1, s2, s3, s4⟩ := this
        have := (find_some (m := m) (q := s)).2 ⟨s1, by omega, s3, s4⟩
        rw [h] at this
        cases this
      dsimp only
      split
      · rename_i ha
        constructor
        · intro e; injection e with e; subst e; exact ⟨by omega, by omega, ha, fun r h1 h2 => hn r h1 (by omega)⟩
        · rintro ⟨g1, g2, g3, g4⟩
          rcases Nat.lt_or_ge q (p + m + 1) with h' | h'
          · exact absurd g3 (hn q g1 (by omega))
          · rw [show q = p + m + 1 by omega]
      · rename_i ha
        constructor
        · intro e; cases e
        · rintro ⟨g1, g2, g3, g4⟩
          rcases Nat.lt_or_ge q (p + m + 1) with h' | h'
          · exact absurd g3 (hn q g1 (by omega))
          · rw [show q = p + m + 1 by omega] at g3; exact absurd g3 ha
theorem nxt_some {lv : List Nat} {i p q : Nat} : nxt lv i p = some q ↔ p < q ∧ ab lv i q ∧ ∀ r, p < r → r < q → ¬ ab lv i r := by
  unfold nxt
  rw [find_some]
  constructor
  · rintro ⟨h1, _, h2, h3⟩; exact ⟨h1, h2, h3⟩
  · rintro ⟨h1, h2, h3⟩; exact ⟨h1, by have := h2.2.1; omega, h2, h3⟩
theorem nxt_none {lv : List Nat} {i p : Nat} : nxt lv i p = none ↔ ∀ r, p < r → ¬ ab lv i r := by
  constructor
  · intro h r h1 h2
    have : ∃ s, p < s ∧ ab lv i s ∧ ∀ t, p < t → t < s → ¬ ab lv i t := by
      clear h
      induction r using Nat.strongRecOn with
      | _ r ih =>
        by_cases hx : ∃ t, p < t ∧ t < r ∧ ab lv i t
        · obtain ⟨t, t1, t2, t3⟩ := hx
          exact ih t t2 t1 t3
        · exact ⟨r, h1, h2, fun t t1 t2 t3 => hx ⟨t, t1, t2, t3⟩⟩
    obtain ⟨s, s1, s2, s3⟩ := this
    have := nxt_some.2 ⟨s1, s2, s3⟩
    rw [h] at this
    cases this
  · intro h
    cases hx : nxt lv i p with
    | none => rfl
    | some q => exact absurd (nxt_some.1 hx).2.1 (h q (nxt_some.1 hx).1)
theorem prev_spec (lv : List Nat) (i : Nat) : ∀ k, prev lv i k ≤ k ∧ (prev lv i k = 0 ∨ ab lv i (prev lv i k)) ∧ ∀ r, prev lv i k < r → r ≤ k → ¬ ab lv i r
  | 0 => ⟨Nat.le_refl _, .inl rfl, fun r h1 h2 => by have h1 : 0 < r := h1; omega⟩
  | k + 1 => by
    obtain ⟨h1, h2, h3⟩ := prev_spec lv i k
    unfold prev
    split
    · rename_i h
      exact ⟨Nat.le_refl _, .inr h, fun r g1 g2 => by omega⟩
    · rename_i h
      refine ⟨by omega, h2, fun r g1 g2 => ?_⟩
      rcases Nat.lt_or_ge k r with g3 | g3
      · rw [show r = k + 1 by omega]; exact h
      · exact h3 r g1 g3
theorem prev_eq {lv : List Nat} {i k p : Nat} (h1 : p ≤ k) (h2 : p = 0 ∨ ab lv i p) (h3 : ∀ r, p < r → r ≤ k → ¬ ab lv i r) : prev lv i k = p := by
  obtain ⟨g1, g2, g3⟩ := prev_spec lv i k
  rcases Nat.lt_trichotomy (prev lv i k) p with h | h | h
  · rcases h2 with h2 | h2
    · omega
    · exact absurd h2 (g3 p h h1)
  · exact h
  · rcases g2 with g2 | g2
    · omega
    · exact absurd g2 (h3 _ h g1)
theorem ab_up {lv : List Nat} {i j q : Nat} (h : i ≤ j) (ha : ab lv j q) : ab lv i q := ⟨ha.1, ha.2.1, Nat.lt_of_le_of_lt h ha.2.2⟩
/-- A step along a level, as long as it goes to k at most. -/
theorem walk_on {lv : List Nat} {i k p q : Nat} (hn : nxt lv i p = some q) (hq : q ≤ k) : (q = 0 ∨ ab lv i q) ∧ p < q ∧ q ≤ k :=
  ⟨.inr (nxt_some.1 hn).2.1, (nxt_some.1 hn).1, hq⟩
theorem walk_end {lv : List Nat} {i k p : Nat} (hp : p = 0 ∨ ab lv i p) (hk : p ≤ k) (hn : ∀ q, nxt lv i p = some q → k < q) : prev lv i k = p := by
  refine prev_eq hk hp fun r h1 h2 h3 => ?_
  cases hx : nxt lv i p with
  | none => exact nxt_none.1 hx r h1 h3
  | some q =>
    have h4 := hn q hx
    exact (nxt_some.1 hx).2.2 r h1 (by omega) h3
theorem span_some {lv : List Nat} {i p q : Nat} (h : nxt lv i p = some q) : p + span lv i p = q := by
  unfold span; rw [h]
  have := (nxt_some.1 h).1
  dsimp only
  omega
theorem span_none {lv : List Nat} {i p : Nat} (h : nxt lv i p = none) : span lv i p = lv.length - p := by
  unfold span; rw [h]

/-! ### a node put in behind the first k -/
def ins (lv : List Nat) (k l : Nat) : List Nat := lv.take k ++ l :: lv.drop k
theorem ins_len {lv : List Nat} {k : Nat} (h : k ≤ lv.length) (l : Nat) : (ins lv k l).length = lv.length + 1 := by
  unfold ins; rw [List.length_append, List.length_cons, List.length_take, List.length_drop]; omega
theorem ins_get {lv : List Nat} {k : Nat} (h : k ≤ lv.length) (l j : Nat) : (ins lv k l).getD j 0 = if j < k then lv.getD j 0 else if j = k then l else lv.getD (j - 1) 0 := by
  unfold ins
  rw [List.getD_eq_getElem?_getD, List.getD_eq_getElem?_getD, List.getD_eq_getElem?_getD]
  split
  · rename_i hj
    rw [List.getElem?_append_left (by rw [List.length_take]; omega), List.getElem?_take_of_lt hj]
  · rename_i hj
    rw [List.getElem?_append_right (by rw [List.length_take]; omega), List.length_take, Nat.min_eq_left h]
    split
    · rename_i e; rw [e, Nat.sub_self]; rfl
    · rename_i e
      obtain ⟨m, hm⟩ : ∃ m, j - k = m + 1 := ⟨j - k - 1, by omega⟩
      rw [hm, List.getElem?_cons_succ, List.getElem?_drop, show k + m = j - 1 by omega]
theorem ins_ab {lv : List Nat} {k : Nat} (h : k ≤ lv.length) (l i q : Nat) : ab (ins lv k l) i q ↔ if q ≤ k then ab lv i q else if q = k + 1 then i < l else ab lv i (q - 1) := by
  unfold ab
  rw [ins_len h, ins_get h]
  by_cases h1 : q ≤ k
  · rw [if_pos h1]
    by_cases h0 : 1 ≤ q
    · rw [if_pos (by omega)]
      exact ⟨fun ⟨a, _, c⟩ => ⟨a, by omega, c⟩, fun ⟨a, _, c⟩ => ⟨a, by omega, c⟩⟩
    · exact ⟨fun ⟨a, _⟩ => absurd a h0, fun ⟨a, _⟩ => absurd a h0⟩
  · rw [if_neg h1, if_neg (by omega : ¬ q - 1 < k)]
    by_cases h2 : q = k + 1
    · rw [if_pos h2, if_pos (by omega)]
      exact ⟨fun ⟨_, _, c⟩ => c, fun c => ⟨by omega, by omega, c⟩⟩
    · rw [if_neg h2, if_neg (by omega)]
      exact ⟨fun ⟨_, b, c⟩ => ⟨by omega, by omega, c⟩, fun ⟨_, b, c⟩ => ⟨by omega, by omega, c⟩⟩
/-- A position behind the new node is one more. -/
def up (k q : Nat) : Nat := if q ≤ k then q else q + 1
/-- Links of nodes that are not the last ahead of the new one. -/
theorem ins_nxt_far {lv : List Nat} {k : Nat} (h : k ≤ lv.length) {l i p q : Nat} (hn : nxt lv i p = some q) (hq : q ≤ k) : nxt (ins lv k l) i p = some q := by
  obtain ⟨h1, h2, h3⟩ := nxt_some.1 hn
  refine nxt_some.2 ⟨h1, (ins_ab h l i q).2 (by rw [if_pos hq]; exact h2), fun r g1 g2 g3 => ?_⟩
  rw [ins_ab h, if_pos (by omega)] at g3
  exact h3 r g1 g2 g3
/-- Of the last ones: with a link to the new one, .. -/
theorem ins_nxt_new {lv : List Nat} {k : Nat} (h : k ≤ lv.length) {l i p : Nat} (hp : p ≤ k) (hn : ∀ q, nxt lv i p = some q → k < q) (hl : i < l) : nxt (ins lv k l) i p = some (k + 1) := by
  refine nxt_some.2 ⟨by omega, (ins_ab h l i _).2 (by rw [if_neg (by omega), if_pos rfl]; exact hl), fun r g1 g2 g3 => ?_⟩
  rw [ins_ab h, if_pos (by omega)] at g3
  cases hx : nxt lv i p with
  | none => exact nxt_none.1 hx r g1 g3
  | some q => exact (nxt_some.1 hx).2.2 r g1 (by have := hn q hx; omega) g3
/-- .. or over it. -/
theorem ins_nxt_over {lv : List Nat} {k : Nat} (h : k ≤ lv.length) {l i p : Nat} (hp : p ≤ k) (hn : ∀ q, nxt lv i p = some q → k < q) (hl : l ≤ i) : nxt (ins lv k l) i p = (nxt lv i p).map (· + 1) := by
  cases hx : nxt lv i p with
  | none =>
    rw [Option.map_none, nxt_none]
    intro r g1 g3
    rw [ins_ab h] at g3
    split at g3
    · exact nxt_none.1 hx r g1 g3
    · split at g3
      · omega
      · exact nxt_none.1 hx (r - 1) (by omega) g3
  | some q =>
    have hq := hn q hx
    obtain ⟨h1, h2, h3⟩ := nxt_some.1 hx
    rw [Option.map_some, nxt_some]
    refine ⟨by omega, (ins_ab h l i _).2 (by rw [if_neg (by omega), if_neg (by omega)]; exact h2), fun r g1 g2 g3 => ?_⟩
    rw [ins_ab h] at g3
    split at g3
    · exact h3 r g1 (by omega) g3
    · split at g3
      · omega
      · exact h3 (r - 1) (by omega) (by omega) g3
/-- Links of the new node, and of those behind it. -/
theorem ins_nxt_behind {lv : List Nat} {k : Nat} (h : k ≤ lv.length) {l i p : Nat} (hp : k ≤ p) : nxt (ins lv k l) i (p + 1) = (nxt lv i p).map (· + 1) := by
  cases hx : nxt lv i p with
  | none =>
    rw [Option.map_none, nxt_none]
    intro r g1 g3
    rw [ins_ab h, if_neg (by omega), if_neg (by omega)] at g3
    exact nxt_none.1 hx (r - 1) (by omega) g3
  | some q =>
    obtain ⟨h1, h2, h3⟩ := nxt_some.1 hx
    rw [Option.map_some, nxt_some]
    refine ⟨by omega, (ins_ab h l i _).2 (by rw [if_neg (by omega), if_neg (by omega)]; exact h2), fun r g1 g2 g3 => ?_⟩
    rw [ins_ab h, if_neg (by omega), if_neg (by omega)] at g3
    exact h3 (r - 1) (by omega) (by omega) g3
/-- The link of the last one ahead goes where that of the k'th position goes. -/
theorem nxt_prev {lv : List Nat} {i k : Nat} : nxt lv i (prev lv i k) = nxt lv i k := by
  obtain ⟨h1, h2, h3⟩ := prev_spec lv i k
  cases hx : nxt lv i k with
  | none =>
    rw [nxt_none]
    intro r g1 g2
    rcases Nat.lt_or_ge k r with g | g
    · exact nxt_none.1 hx r g g2
    · exact h3 r g1 g g2
  | some q =>
    obtain ⟨g1, g2, g3⟩ := nxt_some.1 hx
    rw [nxt_some]
    refine ⟨by omega, g2, fun r f1 f2 f3 => ?_⟩
    rcases Nat.lt_or_ge k r with g | g
    · exact g3 r g f2 f3
    · exact h3 r f1 g f3

/-! ### spans behind an insertion -/
theorem span_far {lv : List Nat} {k : Nat} (h : k ≤ lv.length) {l i p q : Nat} (hn : nxt lv i p = some q) (hq : q ≤ k) : span (ins lv k l) i p = span lv i p := by
  unfold span
  rw [ins_nxt_far h hn hq, hn]
theorem span_new {lv : List Nat} {k : Nat} (h : k ≤ lv.length) {l i p : Nat} (hp : p ≤ k) (hn : ∀ q, nxt lv i p = some q → k < q) (hl : i < l) : span (ins lv k l) i p = k - p + 1 := by
  unfold span
  rw [ins_nxt_new h hp hn hl]
  dsimp only
  omega
theorem span_over {lv : List Nat} {k : Nat} (h : k ≤ lv.length) {l i p : Nat} (hp : p ≤ k) (hn : ∀ q, nxt lv i p = some q → k < q) (hl : l ≤ i) : span (ins lv k l) i p = span lv i p + 1 := by
  unfold span
  rw [ins_nxt_over h hp hn hl]
  cases hx : nxt lv i p with
  | none => rw [Option.map_none]; dsimp only; rw [ins_len h]; omega
  | some q => rw [Option.map_some]; have := hn q hx; dsimp only; omega
theorem span_behind {lv : List Nat} {k : Nat} (h : k ≤ lv.length) {l i p : Nat} (hp : k ≤ p) : span (ins lv k l) i (p + 1) = span lv i p := by
  unfold span
  rw [ins_nxt_behind h hp]
  cases hx : nxt lv i p with
  | none => rw [Option.map_none]; dsimp only; rw [ins_len h]; omega
  | some q => rw [Option.map_some]; dsimp only; omega
/-- The new node's span: that of the last one ahead, less the way to it. -/
theorem span_own {lv : List Nat} {k : Nat} (h : k ≤ lv.length) {l i : Nat} : (span (ins lv k l) i (k + 1) : Int) = (span lv i (prev lv i k) : Int) - ((k : Int) - (prev lv i k : Int)) := by
  rw [span_behind h (Nat.le_refl _)]
  obtain ⟨h1, h2, h3⟩ := prev_spec lv i k
  have hn := nxt_prev (lv := lv) (i := i) (k := k)
  unfold span
  rw [hn]
  cases hx : nxt lv i k with
  | none => dsimp only; omega
  | some q => have := (nxt_some.1 hx).1; dsimp only; omega

/-! ### a node taken out -/
def del (lv : List Nat) (k : Nat) : List Nat := lv.take k ++ lv.drop (k + 1)
theorem del_ins {lv : List Nat} {k : Nat} (h : k < lv.length) : lv = ins (del lv k) k (lv.getD k 0) ∧ k ≤ (del lv k).length := by
  have hl : (lv.take k).length = k := by rw [List.length_take]; omega
  constructor
  · unfold ins del
    rw [List.take_append_of_le_length (by omega), List.take_take, Nat.min_self, List.drop_append, List.drop_eq_nil_of_le (by omega), List.nil_append, hl, Nat.sub_self, List.drop_zero]
    have := List.take_append_drop k lv
    rw [List.drop_eq_getElem_cons h] at this
    rw [List.getD_eq_getElem?_getD, List.getElem?_eq_getElem h]
    exact this.symm
  · unfold del; rw [List.length_append, hl]; omega

/-! ### the greatest level -/
def top (lv : List Nat) : Nat := lv.foldr max 0
theorem top_le {lv : List Nat} : ∀ l ∈ lv, l ≤ top lv := by
  induction lv with
  | nil => intro l h; cases h
  | cons x t ih =>
    intro l h
    have e : top (x :: t) = max x (top t) := rfl
    rw [e]
    rcases List.mem_cons.1 h with rfl | h
    · omega
    · have := ih l h; omega
theorem top_mem {lv : List Nat} : top lv = 0 ∨ top lv ∈ lv := by
  induction lv with
  | nil => exact .inl rfl
  | cons x t ih =>
    have e : top (x :: t) = max x (top t) := rfl
    rw [e]
    rcases Nat.le_total x (top t) with h | h
    · rw [Nat.max_eq_right h]
      rcases ih with h' | h'
      · exact .inl h'
      · exact .inr (List.mem_cons_of_mem _ h')
    · rw [Nat.max_eq_left h]; exact .inr List.mem_cons_self
theorem ab_mem {lv : List Nat} {i : Nat} : (∃ q, ab lv i q) ↔ ∃ l ∈ lv, i < l := by
  constructor
  · rintro ⟨q, h1, h2, h3⟩
    rw [List.getD_eq_getElem?_getD, List.getElem?_eq_getElem (by omega)] at h3
    exact ⟨_, List.getElem_mem (by omega), h3⟩
  · rintro ⟨l, hl, h⟩
    obtain ⟨j, hj, rfl⟩ := List.mem_iff_getElem.1 hl
    exact ⟨j + 1, by omega, by omega, by rw [Nat.add_sub_cancel, List.getD_eq_getElem?_getD, List.getElem?_eq_getElem hj]; exact h⟩
theorem nxt_top {lv : List Nat} {i : Nat} : nxt lv i 0 = none ↔ top lv ≤ i := by
  rw [nxt_none]
  constructor
  · intro h
    rcases Nat.lt_or_ge i (top lv) with h' | h'
    · rcases top_mem (lv := lv) with h2 | h2
      · omega
      · obtain ⟨q, hq⟩ := ab_mem.2 ⟨_, h2, h'⟩
        exact absurd hq (h q hq.1)
    · exact h'
  · intro h q _ hq
    obtain ⟨l, hl, h'⟩ := ab_mem.1 ⟨q, hq⟩
    have := top_le l hl
    omega
end Pal.Skip

/- The law of a range over an iterator that has its contract, for a caller whose invariant speaks of cells. -/
namespace Pal
open Go Go.RowKit

/-- All cells outside F stay. -/
structure Stay (F : Nat → Prop) (w w' : World) : Prop where
  os : w'.os = w.os
  tape : w'.tape = w.tape
  output : w'.output = w.output
  size : w.heap.size ≤ w'.heap.size
  same : ∀ g, ¬ F g → ∀ cs t f, w.heap[g]? = some (Obj.cells cs t f) → w'.heap[g]? = some (Obj.cells cs t f)

section
variable {F G : Nat → Prop} {a b c w w' : World}
theorem Stay.refl (F : Nat → Prop) (w : World) : Stay F w w := ⟨rfl, rfl, rfl, Nat.le_refl _, fun _ _ _ _ _ h => h⟩
theorem Stay.trans (h : Stay F a b) (k : Stay F b c) : Stay F a c :=
  ⟨k.os.trans h.os, k.tape.trans h.tape, k.output.trans h.output, Nat.le_trans h.size k.size, fun g hg cs t f e => k.same g hg _ _ _ (h.same g hg _ _ _ e)⟩
theorem Stay.of_chg (h : Chg F w w') : Stay F w w' := ⟨h.os, h.tape, h.output, h.size, fun _ hg _ _ _ e => h.same e hg⟩
theorem Stay.mono (h : Stay F w w') (hs : ∀ g, g < w.heap.size → F g → G g) : Stay G w w' :=
  ⟨h.os, h.tape, h.output, h.size, fun g hg _ _ _ e => h.same g (fun hf => hg (hs g (Array.getElem?_eq_some_iff.1 e).1 hf)) _ _ _ e⟩
theorem Stay.trans' (h : Stay F a b) (k : Stay G b c) (hs : ∀ g, g < a.heap.size → G g → F g) : Stay F a c :=
  ⟨k.os.trans h.os, k.tape.trans h.tape, k.output.trans h.output, Nat.le_trans h.size k.size, fun g hg cs t f e =>
    k.same g (fun hG => hg (hs g (Array.getElem?_eq_some_iff.1 e).1 hG)) _ _ _ (h.same g hg _ _ _ e)⟩
theorem Stay.alloc (F : Nat → Prop) (w : World) (o : Obj) : Stay F w (w.alloc o) := .of_chg ((Chg.refl F w).alloc o)
theorem Stay.put {l : Nat} {o : Obj} (h : w.heap[l]? = some o) (ho : o.isCells = false) (o' : Obj) : Stay F w (w.putObj l o') :=
  ⟨rfl, rfl, rfl, by simp, fun g _ cs t f e => (World.putObj_heap_other (fun e' => by subst e'; rw [h] at e; cases e; cases ho)).trans e⟩
theorem Chg.of_stay (h : Stay F w w') (k : KeepsOthers w w') : Chg F w w' :=
  ⟨h.os, h.tape, h.output, h.size, fun g hg hn => by
    obtain ⟨o, ho⟩ : ∃ o, w.heap[g]? = some o := ⟨_, Array.getElem?_eq_getElem hg⟩
    cases o with
    | cells cs t f => rw [h.same g hn _ _ _ ho, ho]
    | _ => rw [k.same g _ ho rfl, ho]⟩
theorem Blk.stay {g : Nat} {t : TypeId} {cs : Array Value} (h : Blk w g t cs) (hs : Stay F w w') (hn : ¬ F g) : Blk w' g t cs := hs.same g hn _ _ _ h
theorem KeepC.of_stay (h : Stay (fun _ => False) w w') : KeepC w w' := ⟨h.size, fun g c t f e => h.same g id _ _ _ e⟩
theorem own_stay {base n size : Nat} {e : TypeId} {v : Value} {xs : List Value} (h : w.ownsRow base e size v n xs) (hs : Stay F w w') (hn : ∀ g, v.ownBlock = some g → ¬ F g) : w'.ownsRow base e size v n xs := by
  refine ⟨h.1, ?_⟩
  rcases h.2 with h0 | ⟨g, cap, cur, rfl, hb, hg, rest⟩
  · exact .inl h0
  · exact .inr ⟨g, cap, cur, rfl, hb, hs.same g (hn g rfl) _ _ _ hg, rest⟩
theorem others_chg (h : Chg F w w') (hF : ∀ k o, w.heap[k]? = some o → o.isCells = false → ¬ F k) : KeepsOthers w w' :=
  ⟨h.size, fun k o hk ho => h.same hk (hF k o hk ho)⟩
end

/-- An iterator: it hands out items; It0 r: what it needs at the start, r being all items; It r: what it keeps, where r is still to come; F: the blocks that these speak of; G: those that it writes. -/
structure IterSpec {α : Type} (P : Program) (gf : Nat) (lb : Array Value) (enc : α → Array Value) (F G : Nat → Prop) (It0 It : List α → World → Prop) : Prop where
  cells : ∀ r W k, It0 r W → F k → ∃ cs t f, W.heap[k]? = some (Obj.cells cs t f)
  sub : ∀ k, G k → F k
  far0 : ∀ r W W', It0 r W → W.heap.size ≤ W'.heap.size → (∀ k, F k → W'.heap[k]? = W.heap[k]?) → It0 r W'
  far : ∀ r W W', It r W → W.heap.size ≤ W'.heap.size → (∀ k, F k → W'.heap[k]? = W.heap[k]?) → It r W'
  call : ∀ (l : Nat) (I : List α → World → Prop) (Ix : World → Prop), (∀ r W W', I r W → Chg G W W' → I r W') → (∀ W W', Ix W → Chg G W W' → Ix W') →
    (∀ x r W, I (x :: r) W → It (x :: r) W → YieldAt Fence.wide 2 P l (enc x) W fun e W' => W.heap.size ≤ W'.heap.size ∧ (∀ k, F k → W'.heap[k]? = W.heap[k]?) ∧ ((e = .returned (.bool true) ∧ I r W') ∨ (e = .returned (.bool false) ∧ Ix W'))) →
    ∀ c W, I c W → It0 c W → Calls P gf (#[.func (.yield l) #[] #[]] ++ lb) W fun e W' => (∃ v, e = .returned v) ∧ (I [] W' ∨ Ix W')

/-- How a round may end. -/
def rPost {α : Type} (F : Nat → Prop) (I : List α → World → Prop) (Ix : Code → World → Prop) (r : List α) (W : World) : Exit → Act → World → Prop
  | .normal, _, W' => KeepsOthers W W' ∧ (∀ k, F k → W'.heap[k]? = W.heap[k]?) ∧ I r W'
  | .ret, _, W' => KeepsOthers W W' ∧ (∀ k, F k → W'.heap[k]? = W.heap[k]?) ∧ Ix .ret W'
  | .exit id, _, W' => KeepsOthers W W' ∧ (∀ k, F k → W'.heap[k]? = W.heap[k]?) ∧ Ix (.exit id) W'
  | .goto t, _, W' => KeepsOthers W W' ∧ (∀ k, F k → W'.heap[k]? = W.heap[k]?) ∧ Ix (.goto t) W'
  | .panic _, _, _ => False
  | .outgrown, _, _ => False

section
variable {P : Program} {α : Type}

theorem wp_range_it {g : Operand} {ps : Array Tmp} {assign body : Code} {Q : Exit → Act → World → Prop} {a : Act} {w : World} (gf : Nat) (lb : Array Value)
    (hg : a.eval g = .func (.func gf) #[] lb) (eg : Proofs.Enters P gf) {enc : α → Array Value} {F G : Nat → Prop} {It0 It : List α → World → Prop} (hit : IterSpec P gf lb enc F G It0 It) (hps : ∀ x, (enc x).size = ps.size)
    (I : List α → World → Prop) (hI : ∀ r W W', I r W → Stay G W W' → I r W') (Ix : Code → World → Prop) (hIx : ∀ c W W', Ix c W → Stay G W W' → Ix c W') (c : List α) (h0 : I c w) (hit0 : It0 c w) (a₁ : α → Act)
    (hassign : ∀ l x W (K : Act → World → Prop), K (a₁ x) W → assign.wpIn (Fence.wide.inRound l) 2 P (Exit.then K (fun _ _ _ => False)) { tmps := (ps.zip (enc x)).foldl (fun t (p, v) => t.setIfInBounds p v) a.tmps, defers := [] } W)
    (hbody : ∀ l x r W, I (x :: r) W → It (x :: r) W → w.heap.size ≤ W.heap.size → body.wpIn (Fence.wide.inRound l) 2 P (rPost F I Ix r W) (a₁ x) W)
    (hdone : ∀ D W, w.heap.size ≤ D → I [] W → KeepsOthers w W → W.heap[D]? = some (.deferred (some [])) → Q .normal { a with defers := { target := .collected D, args := #[] } :: a.defers } W)
    (hstop : ∀ D c W, w.heap.size ≤ D → Ix c W → KeepsOthers w W → W.heap[D]? = some (.deferred (some [])) → c.wp P Q { a with defers := { target := .collected D, args := #[] } :: a.defers } W) :
    (Code.rangeFunc g ps assign body).wp P Q a w := by
  have hlF : ∀ k, F k → k < w.heap.size := fun k hk => by
    obtain ⟨cs, t, f, e⟩ := hit.cells _ _ k hit0 hk
    exact (Array.getElem?_eq_some_iff.1 e).1
  have keep : ∀ {A B : World}, KeepsOthers w A → Chg G A B → KeepsOthers w B := fun hA hc =>
    ⟨Nat.le_trans hA.size hc.size, fun k o hk ho => hc.same (hA.same k o hk ho) fun hF => by
      obtain ⟨cs, t, f, e⟩ := hit.cells _ _ k hit0 (hit.sub k hF)
      rw [e] at hk; cases hk; cases ho⟩
  refine wp_range gf lb hg eg fun fn rec hrec => ?_
  obtain ⟨D, hD⟩ : ∃ D, w.heap.size = D := ⟨_, rfl⟩
  rw [hD]
  have hK1 : KeepsOthers w ((w.alloc (.deferred (some []))).alloc (.loop (rec .ready none))) := (KeepsOthers.alloc w _).trans (KeepsOthers.alloc _ _)
  have hS1 : Stay G w ((w.alloc (.deferred (some []))).alloc (.loop (rec .ready none))) := (Stay.alloc G w _).trans (Stay.alloc G _ _)
  have hL1 : ((w.alloc (.deferred (some []))).alloc (.loop (rec .ready none))).heap[D + 1]? = some (.loop (rec .ready none)) := by
    have := World.alloc_heap_new (w.alloc (.deferred (some []))) (.loop (rec .ready none))
    rwa [World.size_alloc, hD] at this
  have hD1 : ((w.alloc (.deferred (some []))).alloc (.loop (rec .ready none))).heap[D]? = some (.deferred (some [])) := by
    rw [← hD]
    exact (Below.heap_alloc _ _ _ (by simp)).trans (World.alloc_heap_new _ _)
  have hF1 : ∀ k, F k → ((w.alloc (.deferred (some []))).alloc (.loop (rec .ready none))).heap[k]? = w.heap[k]? := fun k hk => by
    have := hlF k hk
    exact (Below.heap_alloc _ _ _ (by simp; omega)).trans (Below.heap_alloc _ _ _ this)
  have hIt1 := hit.far0 _ _ _ hit0 hS1.size hF1
  have hI1 := hI _ _ _ h0 hS1
  generalize (w.alloc (.deferred (some []))).alloc (.loop (rec .ready none)) = W1 at hK1 hS1 hL1 hD1 hF1 hIt1 hI1 ⊢
  have hle : ∀ {W : World}, KeepsOthers w W → D ≤ W.heap.size := fun h => by rw [← hD]; exact h.size
  refine (hit.call (D + 1)
    (fun r W => I r W ∧ W.heap[D + 1]? = some (.loop (rec .ready none)) ∧ W.heap[D]? = some (.deferred (some [])) ∧ KeepsOthers w W)
    (fun W => ∃ c, Ix c W ∧ W.heap[D + 1]? = some (.loop (rec .done (some c))) ∧ W.heap[D]? = some (.deferred (some [])) ∧ KeepsOthers w W)
    ?_ ?_ ?_ c W1 ⟨hI1, hL1, hD1, hK1⟩ hIt1).mono ?_
  · rintro r A B ⟨h1, h2, h3, h4⟩ hc
    exact ⟨hI _ _ _ h1 (.of_chg hc), hc.same h2 (fun h => by have := hlF _ (hit.sub _ h); omega), hc.same h3 (fun h => by have := hlF _ (hit.sub _ h); omega), keep h4 hc⟩
  · rintro A B ⟨k, h1, h2, h3, h4⟩ hc
    exact ⟨k, hIx _ _ _ h1 (.of_chg hc), hc.same h2 (fun h => by have := hlF _ (hit.sub _ h); omega), hc.same h3 (fun h => by have := hlF _ (hit.sub _ h); omega), keep h4 hc⟩
  · rintro x r W ⟨h1, h2, h3, h4⟩ hIt
    have hlt : D + 1 < W.heap.size := (Array.getElem?_eq_some_iff.1 h2).1
    refine yield_body hrec h2 (hps x) (hassign _ x W) h2 ?_
    have hp : Stay G W (W.putObj (D + 1) (.loop (rec .busy none))) := .put h2 rfl _
    have hpF : ∀ k, F k → (W.putObj (D + 1) (.loop (rec .busy none))).heap[k]? = W.heap[k]? := fun k hk => World.putObj_heap_other (by have := hlF k hk; omega)
    have hb := hbody (D + 1) x r _ (hI _ _ _ h1 hp) (hit.far _ _ _ hIt hp.size hpF) (Nat.le_trans h4.size hp.size)
    have g2 : (W.putObj (D + 1) (.loop (rec .busy none))).heap[D + 1]? = some (.loop (rec .busy none)) := World.putObj_heap_same hlt
    have g3 : (W.putObj (D + 1) (.loop (rec .busy none))).heap[D]? = some (.deferred (some [])) := (World.putObj_heap_other (by omega)).trans h3
    have g4 : KeepsOthers w (W.putObj (D + 1) (.loop (rec .busy none))) := ⟨by simpa using h4.size, fun k o hk ho => (World.putObj_heap_other (by have := (Array.getElem?_eq_some_iff.1 hk).1; omega)).trans (h4.same k o hk ho)⟩
    have hsz : W.heap.size ≤ (W.putObj (D + 1) (.loop (rec .busy none))).heap.size := hp.size
    generalize W.putObj (D + 1) (.loop (rec .busy none)) = V at hb hpF g2 g3 g4 hsz
    have fin : ∀ (st : Option Code) (k : LoopState) (V' : World), KeepsOthers V V' → (∀ k, F k → V'.heap[k]? = V.heap[k]?) →
        V'.heap[D + 1]? = some (.loop (rec .busy none)) ∧ W.heap.size ≤ (V'.putObj (D + 1) (.loop (rec k st))).heap.size ∧ (∀ j, F j → (V'.putObj (D + 1) (.loop (rec k st))).heap[j]? = W.heap[j]?) ∧ Stay G V' (V'.putObj (D + 1) (.loop (rec k st))) ∧
        (V'.putObj (D + 1) (.loop (rec k st))).heap[D + 1]? = some (.loop (rec k st)) ∧ (V'.putObj (D + 1) (.loop (rec k st))).heap[D]? = some (.deferred (some [])) ∧ KeepsOthers w (V'.putObj (D + 1) (.loop (rec k st))) := by
      intro st k V' hK hFs
      have e := hK.same _ _ g2 rfl
      have e3 := hK.same _ _ g3 rfl
      have e4 := g4.trans hK
      refine ⟨e, by simpa using Nat.le_trans hsz hK.size, fun j hj => ((World.putObj_heap_other (by have := hlF j hj; omega)).trans (hFs j hj)).trans (hpF j hj), .put e rfl _, World.putObj_heap_same (Array.getElem?_eq_some_iff.1 e).1, (World.putObj_heap_other (by omega)).trans e3,
        ⟨by simpa using e4.size, fun k o hk ho => (World.putObj_heap_other (by have := (Array.getElem?_eq_some_iff.1 hk).1; omega)).trans (e4.same k o hk ho)⟩⟩
    refine wpIn_mono hb ?_
    rintro e a2 V' hq
    cases e with
    | normal =>
      obtain ⟨q1, q2, q3⟩ := hq
      obtain ⟨f1, f2, f3, f4, f5, f6, f7⟩ := fin none .ready V' q1 q2
      exact ⟨f1, f2, f3, .inl ⟨rfl, hI _ _ _ q3 f4, f5, f6, f7⟩⟩
    | ret =>
      obtain ⟨q1, q2, q3⟩ := hq
      obtain ⟨f1, f2, f3, f4, f5, f6, f7⟩ := fin (some .ret) .done V' q1 q2
      exact ⟨f1, f2, f3, .inr ⟨rfl, _, hIx _ _ _ q3 f4, f5, f6, f7⟩⟩
    | exit id =>
      obtain ⟨q1, q2, q3⟩ := hq
      obtain ⟨f1, f2, f3, f4, f5, f6, f7⟩ := fin (some (.exit id)) .done V' q1 q2
      exact ⟨f1, f2, f3, .inr ⟨rfl, _, hIx _ _ _ q3 f4, f5, f6, f7⟩⟩
    | goto t =>
      obtain ⟨q1, q2, q3⟩ := hq
      obtain ⟨f1, f2, f3, f4, f5, f6, f7⟩ := fin (some (.goto t)) .done V' q1 q2
      exact ⟨f1, f2, f3, .inr ⟨rfl, _, hIx _ _ _ q3 f4, f5, f6, f7⟩⟩
    | panic ch => exact hq.elim
    | outgrown => exact hq.elim
  · rintro e W ⟨⟨v, rfl⟩, ⟨h1, h2, h3, h4⟩ | ⟨k, h1, h2, h3, h4⟩⟩
    · have g4 : KeepsOthers w (W.putObj (D + 1) (.loop (rec .exhausted none))) := ⟨by simpa using h4.size, fun k o hk ho => (World.putObj_heap_other (by have := (Array.getElem?_eq_some_iff.1 hk).1; omega)).trans (h4.same k o hk ho)⟩
      exact ⟨⟨_, rfl⟩, .inl ⟨h2, hdone D _ (Nat.le_of_eq hD) (hI _ _ _ h1 (.put h2 rfl _)) g4 ((World.putObj_heap_other (by omega)).trans h3)⟩⟩
    · have g4 : KeepsOthers w (W.putObj (D + 1) (.loop (rec .exhausted (some k)))) := ⟨by simpa using h4.size, fun k o hk ho => (World.putObj_heap_other (by have := (Array.getElem?_eq_some_iff.1 hk).1; omega)).trans (h4.same k o hk ho)⟩
      exact ⟨⟨_, rfl⟩, .inr ⟨k, h2, hstop D k _ (Nat.le_of_eq hD) (hIx _ _ _ h1 (.put h2 rfl _)) g4 ((World.putObj_heap_other (by omega)).trans h3)⟩⟩
end
end Pal
