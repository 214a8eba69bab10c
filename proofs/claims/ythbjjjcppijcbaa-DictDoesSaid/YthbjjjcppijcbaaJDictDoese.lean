/- Texts joined for DictDoes: RX. -/
import Derived.Test.YthbjjjcppijcbaaJDictDoesb
import Derived.Test.YthbjjjcppijcbaaJDictDoesc
import Derived.Test.YthbjjjcppijcbaaJDictDoesd
import Derived.Deep.RegionHeld3
import Derived.Deep.DrawnRows
import Derived.Deep.AppendLies
set_option linter.unusedVariables false
set_option linter.unusedSimpArgs false

/- Walks of the document's dict: at, Get, Set, Delete. -/
namespace Go.Proofs.Ythbjjjcppijcbaa
open Go.RowKit Pal Dint
attribute [local go_sem ↓] Go.wp_at_zero Go.wp_at_succ

theorem all26 {P : Array Value → Prop} (h : ∀ u0 u1 u2 u3 u4 u5 u6 u7 u8 u9 u10 u11 u12 u13 u14 u15 u16 u17 u18 u19 u20 u21 u22 u23 u24 u25 : Value, P #[u0, u1, u2, u3, u4, u5, u6, u7, u8, u9, u10, u11, u12, u13, u14, u15, u16, u17, u18, u19, u20, u21, u22, u23, u24, u25]) (a : Array Value) (hs : a.size = 26) : P a := by
  obtain ⟨l⟩ := a
  have g0 : l.length = 26 := hs
  clear hs
  obtain ⟨u0, l0, e0, g1⟩ := Pal.len_cons g0
  obtain ⟨u1, l1, e1, g2⟩ := Pal.len_cons g1
  obtain ⟨u2, l2, e2, g3⟩ := Pal.len_cons g2
  obtain ⟨u3, l3, e3, g4⟩ := Pal.len_cons g3
  obtain ⟨u4, l4, e4, g5⟩ := Pal.len_cons g4
  obtain ⟨u5, l5, e5, g6⟩ := Pal.len_cons g5
  obtain ⟨u6, l6, e6, g7⟩ := Pal.len_cons g6
  obtain ⟨u7, l7, e7, g8⟩ := Pal.len_cons g7
  obtain ⟨u8, l8, e8, g9⟩ := Pal.len_cons g8
  obtain ⟨u9, l9, e9, g10⟩ := Pal.len_cons g9
  obtain ⟨u10, l10, e10, g11⟩ := Pal.len_cons g10
  obtain ⟨u11, l11, e11, g12⟩ := Pal.len_cons g11
  obtain ⟨u12, l12, e12, g13⟩ := Pal.len_cons g12
  obtain ⟨u13, l13, e13, g14⟩ := Pal.len_cons g13
  obtain ⟨u14, l14, e14, g15⟩ := Pal.len_cons g14
  obtain ⟨u15, l15, e15, g16⟩ := Pal.len_cons g15
  obtain ⟨u16, l16, e16, g17⟩ := Pal.len_cons g16
  obtain ⟨u17, l17, e17, g18⟩ := Pal.len_cons g17
  obtain ⟨u18, l18, e18, g19⟩ := Pal.len_cons g18
  obtain ⟨u19, l19, e19, g20⟩ := Pal.len_cons g19
  obtain ⟨u20, l20, e20, g21⟩ := Pal.len_cons g20
  obtain ⟨u21, l21, e21, g22⟩ := Pal.len_cons g21
  obtain ⟨u22, l22, e22, g23⟩ := Pal.len_cons g22
  obtain ⟨u23, l23, e23, g24⟩ := Pal.len_cons g23
  obtain ⟨u24, l24, e24, g25⟩ := Pal.len_cons g24
  obtain ⟨u25, l25, e25, g26⟩ := Pal.len_cons g25
  obtain rfl := List.eq_nil_of_length_eq_zero g26
  have e : (⟨l⟩ : Array Value) = #[u0, u1, u2, u3, u4, u5, u6, u7, u8, u9, u10, u11, u12, u13, u14, u15, u16, u17, u18, u19, u20, u21, u22, u23, u24, u25] := by rw [e0, e1, e2, e3, e4, e5, e6, e7, e8, e9, e10, e11, e12, e13, e14, e15, e16, e17, e18, e19, e20, e21, e22, e23, e24, e25]
  rw [e]
  exact h u0 u1 u2 u3 u4 u5 u6 u7 u8 u9 u10 u11 u12 u13 u14 u15 u16 u17 u18 u19 u20 u21 u22 u23 u24 u25

/-- What the loads of Set's last statement read. -/
def S8 (blk : Nat) (seed b : Int) (lv : Value) (w : World) : Prop := w.cell? ⟨blk, 0, none⟩ = some (.int .u32 seed) ∧ w.cell? ⟨blk, 3, none⟩ = some (.int .i64 b) ∧ w.cell? ⟨blk, 1, none⟩ = some lv
theorem reads_block (W : World) (e : TypeId) (cs : Array Value) (n size : Nat) (h : cs.toList.length = n * size) : Reads (W.alloc (.cells cs e)) (W.alloc (.cells cs e)).heap.size size (some ⟨W.heap.size, 0, none⟩) n cs.toList := by
  refine ⟨h, fun _ => ⟨_, rfl, (Blk.new W e cs).lt, fun j u hu => ?_⟩⟩
  rw [add_addr, (Blk.new W e cs).cell]
  simpa using hu

def ActA (blk : Nat) (key : ByteArray) (i : Nat) (a : Act) : Prop := a.tmps.size = 26 ∧ a.tmps[0]? = some (ptr blk) ∧ a.tmps[1]? = some (.string key) ∧ a.tmps[5]? = some (.int .i64 (i : Int)) ∧ a.defers = []
def InvA (w0 : World) (r : Rm) (key : ByteArray) (m : Nat) (a : Act) (w : World) : Prop :=
  ∃ i, m = r.l.length - i ∧ i ≤ r.l.length ∧ ActA r.blk key i a ∧ w0 = w ∧ ∀ (j : Nat) x, j < i → r.l[j]? = some x → x.key ≠ key
/-- Where a key's node is. -/
def Found (r : Rm) (key : ByteArray) (v : Value) : Prop :=
  (∃ (i : Nat) (x : Nr), r.l[i]? = some x ∧ x.key = key ∧ v = .int .i64 (i : Int)) ∨ ((∀ x ∈ r.l, x.key ≠ key) ∧ v = .int .i64 (-1))

set_option maxRecDepth 100000 in
set_option maxHeartbeats 1000000 in
theorem atR_any (r : Rm) (key : ByteArray) (w : World) (base : Nat) (hR : RmAt w base r) (hn : r.l.length ≤ 1000000) :
    Calls Try.prog 76 #[ptr r.blk, .string key] w fun e w' => w = w' ∧ ((∃ (i : Nat) (x : Nr), r.l[i]? = some x ∧ x.key = key ∧ e = .returned (.int .i64 (i : Int))) ∨ ((∀ x ∈ r.l, x.key ≠ key) ∧ e = .returned (.int .i64 (-1)))) := by
  obtain ⟨p, cap, hlv, hl1, hl2, _⟩ := hR.own.is
  obtain ⟨c0, c1, c2, c3, c4, fr, hlt0⟩ := rm_cells hR
  try dsimp only at c0 c1 c2 c3 c4 fr hlt0
  rw [hlv] at c1
  have hown := hR.own
  rw [hlv] at hown
  clear hlv
  unfold ptr
  go_enter Try.func76, Try.ntmps76
  go_wp2_with fail
  refine wp_loop_ghost (InvA w r key) r.l.length ?_ ?_
  · exact ⟨0, rfl, Nat.zero_le _, ⟨rfl, rfl, rfl, rfl, rfl⟩, rfl, fun j x h => absurd h (Nat.not_lt_zero _)⟩
  · rintro m ⟨tmps, ds⟩ W ⟨i, rfl, hi, ⟨hsz, t0, t1, t5, rfl⟩, rfl, hno⟩
    replace hsz : tmps.size = 26 := hsz
    dsimp only at t0 t1 t5
    revert t0 t1 t5
    revert hsz
    revert tmps
    refine all26 ?_
    intro u0 u1 u2 u3 u4 u5 u6 u7 u8 u9 u10 u11 u12 u13 u14 u15 u16 u17 u18 u19 u20 u21 u22 u23 u24 u25 t0 t1 t5
    simp only [ptr, List.getElem?_toArray, List.getElem?_cons_zero, List.getElem?_cons_succ, Option.some.injEq] at t0 t1 t5
    subst t0 t1 t5
    have hib : (i : Int) ≤ 1000000 := by omega
    by_cases hil : i < r.l.length
    · have hil' : (i : Int) < (r.l.length : Int) := by omega
      obtain ⟨x, hx⟩ : ∃ x, r.l[i]? = some x := ⟨_, List.getElem?_eq_getElem hil⟩
      obtain ⟨g, rfl, _, nk, nv, ns, nn, nf, nl⟩ := hown.at_ hx
      replace hno := Lib.hid hno
      by_cases hk : x.key = key
      · have hx' := Lib.hid hx
        have hk' := Lib.hid hk
        rw [hk] at nk
        have he2 := toList_eq key
        clear hx hk
        go_wp2_with fail
        go_ret
        exact ⟨rfl, .inl ⟨i, x, hx'.out, hk'.out, rfl⟩⟩
      · have he2 := toList_ne hk
        have hnx : ∀ (j : Nat) y, j < i + 1 → r.l[j]? = some y → y.key ≠ key := fun j y hj hy => by
          by_cases e : j = i
          · subst e
            rw [hx] at hy
            injection hy with hy
            subst hy
            exact hk
          · exact hno.out j y (by omega) hy
        replace hnx := Lib.hid hnx
        clear hx
        go_wp2_with fail
        exact ⟨r.l.length - (i + 1), by omega, i + 1, rfl, by omega, ⟨rfl, rfl, rfl, rfl, rfl⟩, rfl, hnx.out⟩
    · have hil' : ((i : Int) < (r.l.length : Int)) = False := by simp only [eq_iff_iff, iff_false]; omega
      have hil2 : (i < r.l.length) = False := by simp only [eq_iff_iff, iff_false]; omega
      have hall : ∀ x ∈ r.l, x.key ≠ key := fun x hx => by
        obtain ⟨j, hj, rfl⟩ := List.mem_iff_getElem.1 hx
        exact hno j _ (by omega) (List.getElem?_eq_getElem hj)
      replace hall := Lib.hid hall
      clear hil hno
      go_wp2_with fail
      go_ret
      exact ⟨rfl, .inr ⟨hall.out, rfl⟩⟩

/-- What a call makes of a dict. -/
structure RmNx (r r' : Rm) (base : Nat) (w w' : World) : Prop where
  at_ : RmAt w' base r'
  blk : r'.blk = r.blk
  chg : Chg r.foot w w'
  foot : ∀ g, r'.foot g → r.foot g ∨ w.heap.size ≤ g

set_option maxRecDepth 100000 in
set_option maxHeartbeats 1000000 in
theorem GetR_any (r : Rm) (key : ByteArray) (w : World) (base : Nat) (h : RmAt w base r) (hok : r.Ok) :
    Calls Try.prog 59 #[ptr r.blk, .string key] w fun e w' => ((∃ y ∈ (r.slots (r.k 1)).l, y.key = key ∧ e = .returned (.tuple #[.int .i64 y.v, .bool true])) ∨ ((∀ x ∈ (r.slots (r.k 1)).l, x.key ≠ key) ∧ e = .returned (.tuple #[.int .i64 0, .bool false]))) ∧ RmNx r (r.slots (r.k 1)) base w w' := by
  have hk1 := r.k_facts hok 1 (Nat.le_refl _)
  obtain ⟨f1, f2, f3, f4⟩ := r.slots_foot (r.k 1)
  obtain ⟨e, he⟩ : ∃ e, r.slots (r.k 1) = e := ⟨_, rfl⟩
  have hst := StepR_any r 1 w base h hok
  rw [he] at hst hk1 f1 f2 f3 f4
  have hft : ∀ g, e.foot g → r.foot g := fun g hg => by rcases hg with hg | hg; exact .inl (hg.trans f1); exact .inr (f2 ▸ hg)
  have hE := hk1.1
  have hEn := hE.n
  rw [he]
  have hnx : ∀ w', RmAt w' base e → Chg r.foot w w' → RmNx r e base w w' := fun w' h1 h2 => ⟨h1, f1, h2, fun g hg => .inl (hft g hg)⟩
  clear he hk1
  unfold ptr at hst ⊢
  go_enter Try.func59, Try.ntmps59
  go_wp2_with fail
  refine hst.mono ?_
  rintro e1 w1 ⟨rfl, hR, hC⟩
  have hat := atR_any e key w1 base hR hEn
  unfold ptr at hat
  rw [f1] at hat
  clear hst
  go_wp2_with fail
  refine hat.mono ?_
  rintro e2 w2 ⟨rfl, hcase⟩
  clear hat
  obtain ⟨p, cap, hlv, hl1, hl2, _⟩ := hR.own.is
  obtain ⟨c0, c1, c2, c3, c4, fr, hlt0⟩ := rm_cells hR
  try dsimp only at c0 c1 c2 c3 c4 fr hlt0
  rw [f1] at c0 c1 c2 c3 c4 fr hlt0
  rw [hlv] at c1
  replace hlv := Lib.hid hlv
  replace hnx := hnx _ hR hC
  rcases hcase with ⟨i, x, hx, hk, rfl⟩ | ⟨hno, rfl⟩
  · have hil : i < e.l.length := (List.getElem?_eq_some_iff.1 hx).1
    have hil' : (i : Int) < (e.l.length : Int) := by omega
    have hi0 : ¬ (i : Int) < 0 := by omega
    have hi1 : (0 : Int) ≤ (i : Int) := by omega
    have hown := hR.own
    rw [hlv.out] at hown
    obtain ⟨g, rfl, _, nk, nv, ns, nn, nf, nl⟩ := hown.at_ hx
    replace hx := Lib.hid (List.mem_of_getElem? hx)
    replace hk := Lib.hid hk
    go_wp2_with fail
    go_ret2
    exact ⟨.inl ⟨x, hx.out, hk.out, rfl⟩, hnx⟩
  · replace hno := Lib.hid hno
    go_wp2_with fail
    go_ret2
    exact ⟨.inr ⟨hno.out, rfl⟩, hnx⟩

def Rm.grow (r : Rm) : Rm := if r.b = 0 ∧ r.a ≤ r.l.length ∧ r.a < 65536 then { r with b := sizeFor (2 * (r.l.length : Int)) } else r

set_option maxRecDepth 100000 in
set_option maxHeartbeats 2000000 in
theorem SetR_any (r : Rm) (key : ByteArray) (v : Int) (w : World) (base : Nat) (h : RmAt w base r) (hok : r.Ok) (hks : key.size ≤ 9223372036854775807) (hn : r.l.length < 1000000) :
    Calls Try.prog 58 #[ptr r.blk, .string key, .int .i64 v] w fun e w' => ∃ r', RmNx r r' base w w' ∧
      ((∃ (i : Nat) (x : Nr), (r.slots (r.k 1)).l[i]? = some x ∧ x.key = key ∧ e = .returned (.bool false) ∧ r' = { r.slots (r.k 1) with l := (r.slots (r.k 1)).l.set i { x with v := v } }) ∨
       ((∀ x ∈ (r.slots (r.k 1)).l, x.key ≠ key) ∧ e = .returned (.bool true) ∧ ∃ lv, r' = { (r.slots (r.k 1)).grow with lv := lv, l := (r.slots (r.k 1)).l ++ [⟨key, v, sumN r.seed key.data.toList, decide (0 < (r.slots (r.k 1)).grow.b)⟩] })) := by
  have hk1 := r.k_facts hok 1 (Nat.le_refl _)
  obtain ⟨f1, f2, f3, f4⟩ := r.slots_foot (r.k 1)
  obtain ⟨e, he⟩ : ∃ e, r.slots (r.k 1) = e := ⟨_, rfl⟩
  have hst := StepR_any r 1 w base h hok
  rw [he] at hst hk1 f1 f2 f3 f4
  have hft : ∀ g, e.foot g → r.foot g := fun g hg => by rcases hg with hg | hg; exact .inl (hg.trans f1); exact .inr (f2 ▸ hg)
  have hE := hk1.1
  have hEn := hE.n
  rw [he]
  clear he hk1
  unfold ptr at hst ⊢
  go_enter Try.func58, Try.ntmps58
  go_wp2_with fail
  refine hst.mono ?_
  rintro e1 w1 ⟨rfl, hR, hC⟩
  have hat := atR_any e key w1 base hR hEn
  unfold ptr at hat
  rw [f1] at hat
  clear hst
  go_wp2_with fail
  refine hat.mono ?_
  rintro e2 w2 ⟨rfl, hcase⟩
  clear hat
  obtain ⟨p, cap, hlv, hl1, hl2, _⟩ := hR.own.is
  obtain ⟨c0, c1, c2, c3, c4, fr, hlt0⟩ := rm_cells hR
  try dsimp only at c0 c1 c2 c3 c4 fr hlt0
  rw [f1] at c0 c1 c2 c3 c4 fr hlt0
  rw [hlv] at c1
  replace hlv := Lib.hid hlv
  rcases hcase with ⟨i, x, hx, hk, rfl⟩ | ⟨hno, rfl⟩
  · have hil : i < e.l.length := (List.getElem?_eq_some_iff.1 hx).1
    have hil' : (i : Int) < (e.l.length : Int) := by omega
    have hi0 : ¬ (i : Int) < 0 := by omega
    have hi1 : (0 : Int) ≤ (i : Int) := by omega
    have hown := hR.own
    rw [hlv.out] at hown
    obtain ⟨g, rfl, _, nk, nv, ns, nn, nf, nl⟩ := hown.at_ hx
    obtain ⟨h1, h2⟩ := hR.node hlv.out hx 1 (by omega) (.int .i64 v) { x with v := v } rfl
    replace hx := Lib.hid hx
    replace hk := Lib.hid hk
    go_wp2_with fail
    go_ret
    exact ⟨_, ⟨h1, f1, hC.trans (h2.mono fun g _ hg => hft g hg), fun g hg => .inl (hft g hg)⟩, .inl ⟨i, x, hx.out, hk.out, rfl, rfl⟩⟩
  · replace hno := Lib.hid hno
    have ha6 := hE.a
    have hn6 : (e.l.length : Int) ≤ 1000000 := by omega
    obtain ⟨q, HQ⟩ : ∃ q, Hid (sumN r.seed key.data.toList = q) := ⟨_, rfl⟩
    have hq : q < 4294967296 := by rw [← HQ.out]; exact sumN_lt _ _
    have hsm := fun W => sumR_any e.seed key W hE.seed hks
    rw [f3, HQ.out] at hsm
    rw [f3] at c0
    clear f4 hn
    go_wp2_with fail
    by_cases hb0 : e.b = 0
    · have hbb : ((e.b : Int) == 0) = true := by rw [hb0]; rfl
      by_cases hl0 : e.a ≤ e.l.length
      · have hla : (e.l.length : Int) ≥ (e.a : Int) := by omega
        by_cases ha0 : e.a < 65536
        · have haa : (e.a : Int) < 65536 := by omega
          have hgr : e.grow = { e with b := sizeFor (2 * (e.l.length : Int)) } := by unfold Rm.grow; rw [if_pos ⟨hb0, hl0, ha0⟩]
          have hsz := fun W => sizeForR_any (2 * (e.l.length : Int)) W
          obtain ⟨bb, hbbe⟩ : ∃ bb, sizeFor (2 * (e.l.length : Int)) = bb := ⟨_, rfl⟩
          rw [hbbe] at hgr hsz
          obtain ⟨e2, he2⟩ : ∃ e2, e2 = { e with b := bb } := ⟨_, rfl⟩
          rw [← he2] at hgr
          have hN := fun W (h0 : Chg (fun _ => False) w1 W) => (hR.chg0 h0).head 3 (.int .i64 (bb : Int)) e2 (by rw [he2]) (by rw [he2]) (by rw [he2]) (by rw [he2]; rfl)
          rw [f1] at hN
          have hbl : e2.b = bb := by rw [he2]
          have hll : e2.l = e.l := by rw [he2]
          have hft2 : ∀ g, e2.foot g → r.foot g := fun g hg => hft g (by rw [he2] at hg; exact hg)
          have f12 : e2.blk = r.blk := by rw [he2]; exact f1
          have f32 : e2.seed = r.seed := by rw [he2]; exact f3
          have hlv2 : e2.lv = Value.slice p e2.l.length cap := by rw [hll, he2]; exact hlv.out
          replace hgr := Lib.hid hgr
          replace hlv2 := Lib.hid hlv2
          replace he2 := Lib.hid he2
          replace hbl := Lib.hid hbl
          replace hll := Lib.hid hll
          clear hbbe hb0 hl0 ha0
          go_quiet (fail)
          go_wp2_with fail
          refine (hsz _).mono ?_
          rintro e8 w8 ⟨rfl, rfl⟩
          clear hsz
          go_wp2_with fail
          obtain ⟨hR8, hc8⟩ := hN _ ((Chg.refl _ w1).drewN nq)
          have hC8 := (hC.trans ((Chg.refl _ w1).drewN nq)).trans (hc8.mono fun g _ hg => hft g hg)
          clear hR hC c0 c1 c2 c3 c4 fr hlt0 hN hft
          generalize (w1.drewN nq).setCell ⟨r.blk, 3, none⟩ (.int .i64 (bb : Int)) = W8 at *
          have hft := hft2
          replace f1 := f12
          replace f3 := f32
          replace hlv := hlv2
          rw [← hll.out] at hn6
          have hR := hR8
          obtain ⟨c0, c1, c2, c3, c4, fr, hlt0⟩ := rm_cells hR
          try dsimp only at c0 c1 c2 c3 c4 fr hlt0
          rw [f1] at c0 c1 c2 c3 c4 fr hlt0
          rw [f3] at c0
          rw [hlv.out] at c1
          obtain ⟨i0, hi0, hz0, hz1, hz2⟩ := info_parts nr_info
          have hRD := hR8.chg0 (((Chg.refl _ W8).alloc (.cells #[.string key, .int .i64 v, .int .u32 (q : Int), .bool (decide (0 < e2.b))] 104))).drew
          have hownD := hRD.own.own
          rw [hlv.out] at hownD
          have hrD : Reads (W8.alloc (.cells #[.string key, .int .i64 v, .int .u32 (q : Int), .bool (decide (0 < e2.b))] 104)).drew (W8.alloc (.cells #[.string key, .int .i64 v, .int .u32 (q : Int), .bool (decide (0 < e2.b))] 104)).drew.heap.size 4 (some ⟨W8.heap.size, 0, none⟩) 1 (nrCells [⟨key, v, q, (decide (0 < e2.b))⟩]) := reads_block W8 104 #[.string key, .int .i64 v, .int .u32 (q : Int), .bool (decide (0 < e2.b))] 1 4 rfl
          have hA' : e2.l.length + 1 ≤ maxLen := by unfold maxLen; omega
          have hB' : (e2.l.length + 1) * 32 ≤ 140737488355328 := by omega
          have hD' : base ≤ (W8.alloc (.cells #[.string key, .int .i64 v, .int .u32 (q : Int), .bool (decide (0 < e2.b))] 104)).drew.heap.size := Nat.le_trans hRD.ge (Nat.le_of_lt hRD.hd.lt)
          have hkeep : ∀ w', (W8.alloc (.cells #[.string key, .int .i64 v, .int .u32 (q : Int), .bool (decide (0 < e2.b))] 104)).drew.grownBy w' (Value.slice p e2.l.length cap).ownBlock → w'.cell? ⟨r.blk, 0, none⟩ = some (.int .u32 (r.seed : Int)) ∧ w'.cell? ⟨r.blk, 3, none⟩ = some (.int .i64 (e2.b : Int)) ∧ w'.cell? ⟨r.blk, 1, none⟩ = some (.slice p e2.l.length cap) ∧ w'.frozen? ⟨r.blk, 1, none⟩ = false ∧ r.blk < w'.heap.size := fun w' hg => by
            have hb := hRD.hd.chg (Chg.of_grown (S := fun g => (Value.slice p e2.l.length cap).ownBlock = some g) hg fun g hgg => hgg) (by have := hRD.ne; rw [hlv.out] at this; exact this)
            try dsimp only at hb
            rw [f1] at hb
            refine ⟨?_, hb.cell 3, ?_, hb.frozen 1, hb.lt⟩
            · have := hb.cell 0
              simp only [rmCells, f3, List.getElem?_toArray, List.getElem?_cons_zero] at this
              exact this
            · have := hb.cell 1
              simp only [rmCells, hlv.out, List.getElem?_toArray, List.getElem?_cons_zero, List.getElem?_cons_succ] at this
              exact this
          have hSW : S8 r.blk (r.seed : Int) (e2.b : Int) (.slice p e2.l.length cap) W8.drew := ⟨c0, c3, c1⟩
          have hSD : S8 r.blk (r.seed : Int) (e2.b : Int) (.slice p e2.l.length cap) (W8.alloc (.cells #[.string key, .int .i64 v, .int .u32 (q : Int), .bool (decide (0 < e2.b))] 104)).drew := ⟨(World.cell?_alloc_lt _ _ _ hlt0).trans c0, (World.cell?_alloc_lt _ _ _ hlt0).trans c3, (World.cell?_alloc_lt _ _ _ hlt0).trans c1⟩
          refine wp_region_heldF 23 (S8 r.blk (r.seed : Int) (e2.b : Int) (.slice p e2.l.length cap)) (by kernel_rfl) ?_
          simp only [List.size_toArray, List.length_cons, List.length_nil, Nat.reduceAdd, Array.replicate_succ, Array.replicate_zero, List.push_toArray, List.nil_append, List.cons_append]
          refine wpAnyF_take 0 (v := .pointer (some ⟨r.blk, 0, none⟩)) rfl (by kernel_rfl) (by kernel_rfl) (by kernel_rfl) (by kernel_rfl) (fun _ _ _ h => h) hSW (by rfl) ?_ ?_
          · rintro W ⟨y0, y3, y1⟩
            go_simp
          simp only [Act.put, List.setIfInBounds_toArray, List.set_cons_zero, List.set_cons_succ]
          refine wpAnyF_take 1 (v := .pointer (some ⟨r.blk, 0, none⟩)) rfl (by kernel_rfl) (by kernel_rfl) (by kernel_rfl) (by kernel_rfl) (fun _ _ _ h => h) hSW (by rfl) ?_ ?_
          · rintro W ⟨y0, y3, y1⟩
            go_simp
          simp only [Act.put, List.setIfInBounds_toArray, List.set_cons_zero, List.set_cons_succ]
          refine wpAnyF_take 2 (v := .pointer (some ⟨r.blk, 0, none⟩)) rfl (by kernel_rfl) (by kernel_rfl) (by kernel_rfl) (by kernel_rfl) (fun _ _ _ h => h) hSW (by rfl) ?_ ?_
          · rintro W ⟨y0, y3, y1⟩
            go_simp
          simp only [Act.put, List.setIfInBounds_toArray, List.set_cons_zero, List.set_cons_succ]
          refine wpAnyF_take 3 (v := .pointer (some ⟨r.blk, 1, none⟩)) rfl (by kernel_rfl) (by kernel_rfl) (by kernel_rfl) (by kernel_rfl) (fun _ _ _ h => h) hSW (by rfl) ?_ ?_
          · rintro W ⟨y0, y3, y1⟩
            go_simp
          simp only [Act.put, List.setIfInBounds_toArray, List.set_cons_zero, List.set_cons_succ]
          refine wpAnyF_take 4 (v := .slice p e2.l.length cap) rfl (by kernel_rfl) (by kernel_rfl) (by kernel_rfl) (by kernel_rfl) (fun _ _ _ h => h) hSW (by rfl) ?_ ?_
          · rintro W ⟨y0, y3, y1⟩
            go_simp
          simp only [Act.put, List.setIfInBounds_toArray, List.set_cons_zero, List.set_cons_succ]
          refine wpAnyF_take 5 (v := .string key) rfl (by kernel_rfl) (by kernel_rfl) (by kernel_rfl) (by kernel_rfl) (fun _ _ _ h => h) hSW (by rfl) ?_ ?_
          · rintro W ⟨y0, y3, y1⟩
            go_simp
          simp only [Act.put, List.setIfInBounds_toArray, List.set_cons_zero, List.set_cons_succ]
          refine wpAnyF_take 6 (v := .int .i64 v) rfl (by kernel_rfl) (by kernel_rfl) (by kernel_rfl) (by kernel_rfl) (fun _ _ _ h => h) hSW (by rfl) ?_ ?_
          · rintro W ⟨y0, y3, y1⟩
            go_simp
          simp only [Act.put, List.setIfInBounds_toArray, List.set_cons_zero, List.set_cons_succ]
          refine wpAnyF_take 7 (v := .pointer (some ⟨r.blk, 0, none⟩)) rfl (by kernel_rfl) (by kernel_rfl) (by kernel_rfl) (by kernel_rfl) (fun _ _ _ h => h) hSW (by rfl) ?_ ?_
          · rintro W ⟨y0, y3, y1⟩
            go_simp
          simp only [Act.put, List.setIfInBounds_toArray, List.set_cons_zero, List.set_cons_succ]
          refine wpAnyF_take 8 (v := .pointer (some ⟨r.blk, 0, none⟩)) rfl (by kernel_rfl) (by kernel_rfl) (by kernel_rfl) (by kernel_rfl) (fun _ _ _ h => h) hSW (by rfl) ?_ ?_
          · rintro W ⟨y0, y3, y1⟩
            go_simp
          simp only [Act.put, List.setIfInBounds_toArray, List.set_cons_zero, List.set_cons_succ]
          refine wpAnyF_take 9 (v := .pointer (some ⟨r.blk, 0, none⟩)) rfl (by kernel_rfl) (by kernel_rfl) (by kernel_rfl) (by kernel_rfl) (fun _ _ _ h => h) hSW (by rfl) ?_ ?_
          · rintro W ⟨y0, y3, y1⟩
            go_simp
          simp only [Act.put, List.setIfInBounds_toArray, List.set_cons_zero, List.set_cons_succ]
          refine wpAnyF_take 10 (v := .int .u32 (r.seed : Int)) rfl (by kernel_rfl) (by kernel_rfl) (by kernel_rfl) (by kernel_rfl) (fun _ _ _ h => h) hSW (by rfl) ?_ ?_
          · rintro W ⟨y0, y3, y1⟩
            go_simp
          simp only [Act.put, List.setIfInBounds_toArray, List.set_cons_zero, List.set_cons_succ]
          refine wpAnyF_take 11 (v := .string key) rfl (by kernel_rfl) (by kernel_rfl) (by kernel_rfl) (by kernel_rfl) (fun _ _ _ h => h) hSW (by rfl) ?_ ?_
          · rintro W ⟨y0, y3, y1⟩
            go_simp
          simp only [Act.put, List.setIfInBounds_toArray, List.set_cons_zero, List.set_cons_succ]
          refine wpAnyF_take 13 (v := .pointer (some ⟨r.blk, 0, none⟩)) rfl (by kernel_rfl) (by kernel_rfl) (by kernel_rfl) (by kernel_rfl) (fun _ _ _ h => h) hSW (by rfl) ?_ ?_
          · rintro W ⟨y0, y3, y1⟩
            go_simp
          simp only [Act.put, List.setIfInBounds_toArray, List.set_cons_zero, List.set_cons_succ]
          refine wpAnyF_take 14 (v := .pointer (some ⟨r.blk, 0, none⟩)) rfl (by kernel_rfl) (by kernel_rfl) (by kernel_rfl) (by kernel_rfl) (fun _ _ _ h => h) hSW (by rfl) ?_ ?_
          · rintro W ⟨y0, y3, y1⟩
            go_simp
          simp only [Act.put, List.setIfInBounds_toArray, List.set_cons_zero, List.set_cons_succ]
          refine wpAnyF_take 15 (v := .pointer (some ⟨r.blk, 3, none⟩)) rfl (by kernel_rfl) (by kernel_rfl) (by kernel_rfl) (by kernel_rfl) (fun _ _ _ h => h) hSW (by rfl) ?_ ?_
          · rintro W ⟨y0, y3, y1⟩
            go_simp
          simp only [Act.put, List.setIfInBounds_toArray, List.set_cons_zero, List.set_cons_succ]
          refine wpAnyF_take 16 (v := .int .i64 (e2.b : Int)) rfl (by kernel_rfl) (by kernel_rfl) (by kernel_rfl) (by kernel_rfl) (fun _ _ _ h => h) hSW (by rfl) ?_ ?_
          · rintro W ⟨y0, y3, y1⟩
            go_simp
          simp only [Act.put, List.setIfInBounds_toArray, List.set_cons_zero, List.set_cons_succ]
          refine wpAnyF_take 17 (v := .bool (decide (0 < e2.b))) rfl (by kernel_rfl) (by kernel_rfl) (by kernel_rfl) (by kernel_rfl) (fun _ _ _ h => h) hSW (by rfl) ?_ ?_
          · rintro W ⟨y0, y3, y1⟩
            go_simp
          simp only [Act.put, List.setIfInBounds_toArray, List.set_cons_zero, List.set_cons_succ]
          refine wpAnyF_one 12 (by kernel_rfl) rfl (fun K hK => ?_)
          go_simp
          refine (hsm _).mono ?_
          rintro e9 w9 ⟨rfl, rfl⟩
          refine hK _ _ (fun _ => hSW) ?_
          clear hK K
          refine wpAnyF_take 18 (v := .agg #[.string key, .int .i64 v, .int .u32 (q : Int), .bool (decide (0 < e2.b))]) rfl (by kernel_rfl) (by kernel_rfl) (by kernel_rfl) (by kernel_rfl) (fun _ _ _ h => h) hSW (by rfl) ?_ ?_
          · rintro W ⟨y0, y3, y1⟩
            go_simp
          simp only [Act.put, List.setIfInBounds_toArray, List.set_cons_zero, List.set_cons_succ]
          refine wpAnyF_one 19 (by kernel_rfl) rfl (fun K hK => ?_)
          go_simp
          refine hK _ _ (fun _ => hSD) ?_
          clear hK K
          refine wpAnyF_one 20 (by kernel_rfl) rfl (fun K hK => ?_)
          refine step_append_any _ (by rfl) (.tmp 61) (.tmp 76) 53 (by rfl) base 104 i0 _ 4 32 Try.underlying53 hi0 hz0 hz1 hz2 rfl (by omega) (.slice p e2.l.length cap) e2.l.length (nrCells e2.l) (by rfl) hownD (W8.alloc (.cells #[.string key, .int .i64 v, .int .u32 (q : Int), .bool (decide (0 < e2.b))] 104)).drew.heap.size (some ⟨W8.heap.size, 0, none⟩) 1 1 (nrCells [⟨key, v, q, (decide (0 < e2.b))⟩]) (by rfl) hrD (nr_one [⟨key, v, q, (decide (0 < e2.b))⟩]) hA' hB' hD' ?_
          intro v3 w3 hown3 hg3 hat3
          obtain ⟨g3, cp3, rfl⟩ := ownsRow_succ hown3
          obtain ⟨k30, k33, k31, k3f, k3l⟩ := hkeep _ hg3
          have hS3 : S8 r.blk (r.seed : Int) (e2.b : Int) (.slice p e2.l.length cap) w3 := ⟨k30, k33, k31⟩
          refine hK _ _ (fun _ => hS3) ?_
          clear hK K
          refine wpAnyF_one 21 (by kernel_rfl) rfl (fun K hK => ?_)
          go_simp
          refine hK _ _ (fun _ => hS3) ?_
          clear hK K
          refine wpAnyF_one 22 (by kernel_rfl) rfl (fun K hK => ?_)
          go_simp
          refine hK _ _ (fun _ => hS3) ?_
          clear hK K
          refine wpAnyF_one 23 (by kernel_rfl) rfl (fun K hK => ?_)
          go_simp
          refine hK _ _ (fun h => absurd rfl h) ?_
          clear hK K
          refine wpAnyF_done (by kernel_rfl) ?_ _
          obtain ⟨h9, hC9⟩ := hRD.appended (x := ⟨key, v, q, (decide (0 < e2.b))⟩) (by rw [hlv.out]; exact hg3) hown3
          rw [f1] at h9 hC9
          have hCw := hC8.trans ((((Chg.refl _ W8).alloc _).drew).trans (hC9.mono fun g _ hg => hft g hg))
          have hft9 : ∀ g, (Value.slice (some ⟨g3, 0, none⟩) (e2.l.length + 1) cp3).ownBlock = some g → r.foot g ∨ w.heap.size ≤ g := fun g hg => by
            rcases hat3 with h' | h'
            · rw [h', ← hlv.out] at hg
              exact .inl (hft g (.inr hg))
            · rw [h'] at hg
              injection hg with hg
              rw [← hg]
              exact .inr (Nat.le_trans hC8.size (by simp))
          go_wp2_with fail
          go_ret
          exact ⟨_, ⟨h9, rfl, hCw, fun g hg => by rcases hg with hg | hg; exact .inl (.inl hg); exact hft9 g hg⟩, .inr ⟨hno.out, rfl, _, by rw [hgr.out, HQ.out, f1, ← hll.out]⟩⟩
        · have haa : decide ((e.a : Int) < 65536) = false := by rw [decide_eq_false_iff_not]; omega
          have haa2 : decide (e.a < 65536) = false := by rw [decide_eq_false_iff_not]; exact ha0
          have haa3 : ((e.a : Int) < 65536) = False := by simp only [eq_iff_iff, iff_false]; omega
          have haa4 : (e.a < 65536) = False := by simp only [eq_iff_iff, iff_false]; exact ha0
          have hgr : e.grow = e := by unfold Rm.grow; rw [if_neg (fun h => ha0 h.2.2)]
          replace hgr := Lib.hid hgr
          clear hb0 hl0 ha0
          go_quiet (fail)
          go_wp2_with fail
          have hR8 := hR.chg0 ((Chg.refl _ w1).drewN nq)
          have hC8 := hC.trans ((Chg.refl _ w1).drewN nq)
          clear hR hC c0 c1 c2 c3 c4 fr hlt0
          generalize w1.drewN nq = W8 at *
          have hR := hR8
          obtain ⟨c0, c1, c2, c3, c4, fr, hlt0⟩ := rm_cells hR
          try dsimp only at c0 c1 c2 c3 c4 fr hlt0
          rw [f1] at c0 c1 c2 c3 c4 fr hlt0
          rw [f3] at c0
          rw [hlv.out] at c1
          obtain ⟨i0, hi0, hz0, hz1, hz2⟩ := info_parts nr_info
          have hRD := hR8.chg0 (((Chg.refl _ W8).alloc (.cells #[.string key, .int .i64 v, .int .u32 (q : Int), .bool (decide (0 < e.b))] 104))).drew
          have hownD := hRD.own.own
          rw [hlv.out] at hownD
          have hrD : Reads (W8.alloc (.cells #[.string key, .int .i64 v, .int .u32 (q : Int), .bool (decide (0 < e.b))] 104)).drew (W8.alloc (.cells #[.string key, .int .i64 v, .int .u32 (q : Int), .bool (decide (0 < e.b))] 104)).drew.heap.size 4 (some ⟨W8.heap.size, 0, none⟩) 1 (nrCells [⟨key, v, q, (decide (0 < e.b))⟩]) := reads_block W8 104 #[.string key, .int .i64 v, .int .u32 (q : Int), .bool (decide (0 < e.b))] 1 4 rfl
          have hA' : e.l.length + 1 ≤ maxLen := by unfold maxLen; omega
          have hB' : (e.l.length + 1) * 32 ≤ 140737488355328 := by omega
          have hD' : base ≤ (W8.alloc (.cells #[.string key, .int .i64 v, .int .u32 (q : Int), .bool (decide (0 < e.b))] 104)).drew.heap.size := Nat.le_trans hRD.ge (Nat.le_of_lt hRD.hd.lt)
          have hkeep : ∀ w', (W8.alloc (.cells #[.string key, .int .i64 v, .int .u32 (q : Int), .bool (decide (0 < e.b))] 104)).drew.grownBy w' (Value.slice p e.l.length cap).ownBlock → w'.cell? ⟨r.blk, 0, none⟩ = some (.int .u32 (r.seed : Int)) ∧ w'.cell? ⟨r.blk, 3, none⟩ = some (.int .i64 (e.b : Int)) ∧ w'.cell? ⟨r.blk, 1, none⟩ = some (.slice p e.l.length cap) ∧ w'.frozen? ⟨r.blk, 1, none⟩ = false ∧ r.blk < w'.heap.size := fun w' hg => by
            have hb := hRD.hd.chg (Chg.of_grown (S := fun g => (Value.slice p e.l.length cap).ownBlock = some g) hg fun g hgg => hgg) (by have := hRD.ne; rw [hlv.out] at this; exact this)
            try dsimp only at hb
            rw [f1] at hb
            refine ⟨?_, hb.cell 3, ?_, hb.frozen 1, hb.lt⟩
            · have := hb.cell 0
              simp only [rmCells, f3, List.getElem?_toArray, List.getElem?_cons_zero] at this
              exact this
            · have := hb.cell 1
              simp only [rmCells, hlv.out, List.getElem?_toArray, List.getElem?_cons_zero, List.getElem?_cons_succ] at this
              exact this
          have hSW : S8 r.blk (r.seed : Int) (e.b : Int) (.slice p e.l.length cap) W8.drew := ⟨c0, c3, c1⟩
          have hSD : S8 r.blk (r.seed : Int) (e.b : Int) (.slice p e.l.length cap) (W8.alloc (.cells #[.string key, .int .i64 v, .int .u32 (q : Int), .bool (decide (0 < e.b))] 104)).drew := ⟨(World.cell?_alloc_lt _ _ _ hlt0).trans c0, (World.cell?_alloc_lt _ _ _ hlt0).trans c3, (World.cell?_alloc_lt _ _ _ hlt0).trans c1⟩
          refine wp_region_heldF 23 (S8 r.blk (r.seed : Int) (e.b : Int) (.slice p e.l.length cap)) (by kernel_rfl) ?_
          simp only [List.size_toArray, List.length_cons, List.length_nil, Nat.reduceAdd, Array.replicate_succ, Array.replicate_zero, List.push_toArray, List.nil_append, List.cons_append]
          refine wpAnyF_take 0 (v := .pointer (some ⟨r.blk, 0, none⟩)) rfl (by kernel_rfl) (by kernel_rfl) (by kernel_rfl) (by kernel_rfl) (fun _ _ _ h => h) hSW (by rfl) ?_ ?_
          · rintro W ⟨y0, y3, y1⟩
            go_simp
          simp only [Act.put, List.setIfInBounds_toArray, List.set_cons_zero, List.set_cons_succ]
          refine wpAnyF_take 1 (v := .pointer (some ⟨r.blk, 0, none⟩)) rfl (by kernel_rfl) (by kernel_rfl) (by kernel_rfl) (by kernel_rfl) (fun _ _ _ h => h) hSW (by rfl) ?_ ?_
          · rintro W ⟨y0, y3, y1⟩
            go_simp
          simp only [Act.put, List.setIfInBounds_toArray, List.set_cons_zero, List.set_cons_succ]
          refine wpAnyF_take 2 (v := .pointer (some ⟨r.blk, 0, none⟩)) rfl (by kernel_rfl) (by kernel_rfl) (by kernel_rfl) (by kernel_rfl) (fun _ _ _ h => h) hSW (by rfl) ?_ ?_
          · rintro W ⟨y0, y3, y1⟩
            go_simp
          simp only [Act.put, List.setIfInBounds_toArray, List.set_cons_zero, List.set_cons_succ]
          refine wpAnyF_take 3 (v := .pointer (some ⟨r.blk, 1, none⟩)) rfl (by kernel_rfl) (by kernel_rfl) (by kernel_rfl) (by kernel_rfl) (fun _ _ _ h => h) hSW (by rfl) ?_ ?_
          · rintro W ⟨y0, y3, y1⟩
            go_simp
          simp only [Act.put, List.setIfInBounds_toArray, List.set_cons_zero, List.set_cons_succ]
          refine wpAnyF_take 4 (v := .slice p e.l.length cap) rfl (by kernel_rfl) (by kernel_rfl) (by kernel_rfl) (by kernel_rfl) (fun _ _ _ h => h) hSW (by rfl) ?_ ?_
          · rintro W ⟨y0, y3, y1⟩
            go_simp
          simp only [Act.put, List.setIfInBounds_toArray, List.set_cons_zero, List.set_cons_succ]
          refine wpAnyF_take 5 (v := .string key) rfl (by kernel_rfl) (by kernel_rfl) (by kernel_rfl) (by kernel_rfl) (fun _ _ _ h => h) hSW (by rfl) ?_ ?_
          · rintro W ⟨y0, y3, y1⟩
            go_simp
          simp only [Act.put, List.setIfInBounds_toArray, List.set_cons_zero, List.set_cons_succ]
          refine wpAnyF_take 6 (v := .int .i64 v) rfl (by kernel_rfl) (by kernel_rfl) (by kernel_rfl) (by kernel_rfl) (fun _ _ _ h => h) hSW (by rfl) ?_ ?_
          · rintro W ⟨y0, y3, y1⟩
            go_simp
          simp only [Act.put, List.setIfInBounds_toArray, List.set_cons_zero, List.set_cons_succ]
          refine wpAnyF_take 7 (v := .pointer (some ⟨r.blk, 0, none⟩)) rfl (by kernel_rfl) (by kernel_rfl) (by kernel_rfl) (by kernel_rfl) (fun _ _ _ h => h) hSW (by rfl) ?_ ?_
          · rintro W ⟨y0, y3, y1⟩
            go_simp
          simp only [Act.put, List.setIfInBounds_toArray, List.set_cons_zero, List.set_cons_succ]
          refine wpAnyF_take 8 (v := .pointer (some ⟨r.blk, 0, none⟩)) rfl (by kernel_rfl) (by kernel_rfl) (by kernel_rfl) (by kernel_rfl) (fun _ _ _ h => h) hSW (by rfl) ?_ ?_
          · rintro W ⟨y0, y3, y1⟩
            go_simp
          simp only [Act.put, List.setIfInBounds_toArray, List.set_cons_zero, List.set_cons_succ]
          refine wpAnyF_take 9 (v := .pointer (some ⟨r.blk, 0, none⟩)) rfl (by kernel_rfl) (by kernel_rfl) (by kernel_rfl) (by kernel_rfl) (fun _ _ _ h => h) hSW (by rfl) ?_ ?_
          · rintro W ⟨y0, y3, y1⟩
            go_simp
          simp only [Act.put, List.setIfInBounds_toArray, List.set_cons_zero, List.set_cons_succ]
          refine wpAnyF_take 10 (v := .int .u32 (r.seed : Int)) rfl (by kernel_rfl) (by kernel_rfl) (by kernel_rfl) (by kernel_rfl) (fun _ _ _ h => h) hSW (by rfl) ?_ ?_
          · rintro W ⟨y0, y3, y1⟩
            go_simp
          simp only [Act.put, List.setIfInBounds_toArray, List.set_cons_zero, List.set_cons_succ]
          refine wpAnyF_take 11 (v := .string key) rfl (by kernel_rfl) (by kernel_rfl) (by kernel_rfl) (by kernel_rfl) (fun _ _ _ h => h) hSW (by rfl) ?_ ?_
          · rintro W ⟨y0, y3, y1⟩
            go_simp
          simp only [Act.put, List.setIfInBounds_toArray, List.set_cons_zero, List.set_cons_succ]
          refine wpAnyF_take 13 (v := .pointer (some ⟨r.blk, 0, none⟩)) rfl (by kernel_rfl) (by kernel_rfl) (by kernel_rfl) (by kernel_rfl) (fun _ _ _ h => h) hSW (by rfl) ?_ ?_
          · rintro W ⟨y0, y3, y1⟩
            go_simp
          simp only [Act.put, List.setIfInBounds_toArray, List.set_cons_zero, List.set_cons_succ]
          refine wpAnyF_take 14 (v := .pointer (some ⟨r.blk, 0, none⟩)) rfl (by kernel_rfl) (by kernel_rfl) (by kernel_rfl) (by kernel_rfl) (fun _ _ _ h => h) hSW (by rfl) ?_ ?_
          · rintro W ⟨y0, y3, y1⟩
            go_simp
          simp only [Act.put, List.setIfInBounds_toArray, List.set_cons_zero, List.set_cons_succ]
          refine wpAnyF_take 15 (v := .pointer (some ⟨r.blk, 3, none⟩)) rfl (by kernel_rfl) (by kernel_rfl) (by kernel_rfl) (by kernel_rfl) (fun _ _ _ h => h) hSW (by rfl) ?_ ?_
          · rintro W ⟨y0, y3, y1⟩
            go_simp
          simp only [Act.put, List.setIfInBounds_toArray, List.set_cons_zero, List.set_cons_succ]
          refine wpAnyF_take 16 (v := .int .i64 (e.b : Int)) rfl (by kernel_rfl) (by kernel_rfl) (by kernel_rfl) (by kernel_rfl) (fun _ _ _ h => h) hSW (by rfl) ?_ ?_
          · rintro W ⟨y0, y3, y1⟩
            go_simp
          simp only [Act.put, List.setIfInBounds_toArray, List.set_cons_zero, List.set_cons_succ]
          refine wpAnyF_take 17 (v := .bool (decide (0 < e.b))) rfl (by kernel_rfl) (by kernel_rfl) (by kernel_rfl) (by kernel_rfl) (fun _ _ _ h => h) hSW (by rfl) ?_ ?_
          · rintro W ⟨y0, y3, y1⟩
            go_simp
          simp only [Act.put, List.setIfInBounds_toArray, List.set_cons_zero, List.set_cons_succ]
          refine wpAnyF_one 12 (by kernel_rfl) rfl (fun K hK => ?_)
          go_simp
          refine (hsm _).mono ?_
          rintro e9 w9 ⟨rfl, rfl⟩
          refine hK _ _ (fun _ => hSW) ?_
          clear hK K
          refine wpAnyF_take 18 (v := .agg #[.string key, .int .i64 v, .int .u32 (q : Int), .bool (decide (0 < e.b))]) rfl (by kernel_rfl) (by kernel_rfl) (by kernel_rfl) (by kernel_rfl) (fun _ _ _ h => h) hSW (by rfl) ?_ ?_
          · rintro W ⟨y0, y3, y1⟩
            go_simp
          simp only [Act.put, List.setIfInBounds_toArray, List.set_cons_zero, List.set_cons_succ]
          refine wpAnyF_one 19 (by kernel_rfl) rfl (fun K hK => ?_)
          go_simp
          refine hK _ _ (fun _ => hSD) ?_
          clear hK K
          refine wpAnyF_one 20 (by kernel_rfl) rfl (fun K hK => ?_)
          refine step_append_any _ (by rfl) (.tmp 61) (.tmp 76) 53 (by rfl) base 104 i0 _ 4 32 Try.underlying53 hi0 hz0 hz1 hz2 rfl (by omega) (.slice p e.l.length cap) e.l.length (nrCells e.l) (by rfl) hownD (W8.alloc (.cells #[.string key, .int .i64 v, .int .u32 (q : Int), .bool (decide (0 < e.b))] 104)).drew.heap.size (some ⟨W8.heap.size, 0, none⟩) 1 1 (nrCells [⟨key, v, q, (decide (0 < e.b))⟩]) (by rfl) hrD (nr_one [⟨key, v, q, (decide (0 < e.b))⟩]) hA' hB' hD' ?_
          intro v3 w3 hown3 hg3 hat3
          obtain ⟨g3, cp3, rfl⟩ := ownsRow_succ hown3
          obtain ⟨k30, k33, k31, k3f, k3l⟩ := hkeep _ hg3
          have hS3 : S8 r.blk (r.seed : Int) (e.b : Int) (.slice p e.l.length cap) w3 := ⟨k30, k33, k31⟩
          refine hK _ _ (fun _ => hS3) ?_
          clear hK K
          refine wpAnyF_one 21 (by kernel_rfl) rfl (fun K hK => ?_)
          go_simp
          refine hK _ _ (fun _ => hS3) ?_
          clear hK K
          refine wpAnyF_one 22 (by kernel_rfl) rfl (fun K hK => ?_)
          go_simp
          refine hK _ _ (fun _ => hS3) ?_
          clear hK K
          refine wpAnyF_one 23 (by kernel_rfl) rfl (fun K hK => ?_)
          go_simp
          refine hK _ _ (fun h => absurd rfl h) ?_
          clear hK K
          refine wpAnyF_done (by kernel_rfl) ?_ _
          obtain ⟨h9, hC9⟩ := hRD.appended (x := ⟨key, v, q, (decide (0 < e.b))⟩) (by rw [hlv.out]; exact hg3) hown3
          rw [f1] at h9 hC9
          have hCw := hC8.trans ((((Chg.refl _ W8).alloc _).drew).trans (hC9.mono fun g _ hg => hft g hg))
          have hft9 : ∀ g, (Value.slice (some ⟨g3, 0, none⟩) (e.l.length + 1) cp3).ownBlock = some g → r.foot g ∨ w.heap.size ≤ g := fun g hg => by
            rcases hat3 with h' | h'
            · rw [h', ← hlv.out] at hg
              exact .inl (hft g (.inr hg))
            · rw [h'] at hg
              injection hg with hg
              rw [← hg]
              exact .inr (Nat.le_trans hC8.size (by simp))
          go_wp2_with fail
          go_ret
          exact ⟨_, ⟨h9, rfl, hCw, fun g hg => by rcases hg with hg | hg; exact .inl (.inl hg); exact hft9 g hg⟩, .inr ⟨hno.out, rfl, _, by rw [hgr.out, HQ.out, f1]⟩⟩
      · have hla : decide ((e.l.length : Int) ≥ (e.a : Int)) = false := by rw [decide_eq_false_iff_not]; omega
        have hla2 : decide ((e.a : Int) ≤ (e.l.length : Int)) = false := by rw [decide_eq_false_iff_not]; omega
        have hla3 : decide (e.a ≤ e.l.length) = false := by rw [decide_eq_false_iff_not]; exact hl0
        have hla4 : (e.a ≤ e.l.length) = False := by simp only [eq_iff_iff, iff_false]; exact hl0
        have hla5 : ((e.a : Int) ≤ (e.l.length : Int)) = False := by simp only [eq_iff_iff, iff_false]; omega
        have hgr : e.grow = e := by unfold Rm.grow; rw [if_neg (fun h => hl0 h.2.1)]
        replace hgr := Lib.hid hgr
        clear hb0 hl0
        go_quiet (fail)
        go_wp2_with fail
        have hR8 := hR.chg0 ((Chg.refl _ w1).drewN nq)
        have hC8 := hC.trans ((Chg.refl _ w1).drewN nq)
        clear hR hC c0 c1 c2 c3 c4 fr hlt0
        generalize w1.drewN nq = W8 at *
        have hR := hR8
        obtain ⟨c0, c1, c2, c3, c4, fr, hlt0⟩ := rm_cells hR
        try dsimp only at c0 c1 c2 c3 c4 fr hlt0
        rw [f1] at c0 c1 c2 c3 c4 fr hlt0
        rw [f3] at c0
        rw [hlv.out] at c1
        obtain ⟨i0, hi0, hz0, hz1, hz2⟩ := info_parts nr_info
        have hRD := hR8.chg0 (((Chg.refl _ W8).alloc (.cells #[.string key, .int .i64 v, .int .u32 (q : Int), .bool (decide (0 < e.b))] 104))).drew
        have hownD := hRD.own.own
        rw [hlv.out] at hownD
        have hrD : Reads (W8.alloc (.cells #[.string key, .int .i64 v, .int .u32 (q : Int), .bool (decide (0 < e.b))] 104)).drew (W8.alloc (.cells #[.string key, .int .i64 v, .int .u32 (q : Int), .bool (decide (0 < e.b))] 104)).drew.heap.size 4 (some ⟨W8.heap.size, 0, none⟩) 1 (nrCells [⟨key, v, q, (decide (0 < e.b))⟩]) := reads_block W8 104 #[.string key, .int .i64 v, .int .u32 (q : Int), .bool (decide (0 < e.b))] 1 4 rfl
        have hA' : e.l.length + 1 ≤ maxLen := by unfold maxLen; omega
        have hB' : (e.l.length + 1) * 32 ≤ 140737488355328 := by omega
        have hD' : base ≤ (W8.alloc (.cells #[.string key, .int .i64 v, .int .u32 (q : Int), .bool (decide (0 < e.b))] 104)).drew.heap.size := Nat.le_trans hRD.ge (Nat.le_of_lt hRD.hd.lt)
        have hkeep : ∀ w', (W8.alloc (.cells #[.string key, .int .i64 v, .int .u32 (q : Int), .bool (decide (0 < e.b))] 104)).drew.grownBy w' (Value.slice p e.l.length cap).ownBlock → w'.cell? ⟨r.blk, 0, none⟩ = some (.int .u32 (r.seed : Int)) ∧ w'.cell? ⟨r.blk, 3, none⟩ = some (.int .i64 (e.b : Int)) ∧ w'.cell? ⟨r.blk, 1, none⟩ = some (.slice p e.l.length cap) ∧ w'.frozen? ⟨r.blk, 1, none⟩ = false ∧ r.blk < w'.heap.size := fun w' hg => by
          have hb := hRD.hd.chg (Chg.of_grown (S := fun g => (Value.slice p e.l.length cap).ownBlock = some g) hg fun g hgg => hgg) (by have := hRD.ne; rw [hlv.out] at this; exact this)
          try dsimp only at hb
          rw [f1] at hb
          refine ⟨?_, hb.cell 3, ?_, hb.frozen 1, hb.lt⟩
          · have := hb.cell 0
            simp only [rmCells, f3, List.getElem?_toArray, List.getElem?_cons_zero] at this
            exact this
          · have := hb.cell 1
            simp only [rmCells, hlv.out, List.getElem?_toArray, List.getElem?_cons_zero, List.getElem?_cons_succ] at this
            exact this
        have hSW : S8 r.blk (r.seed : Int) (e.b : Int) (.slice p e.l.length cap) W8.drew := ⟨c0, c3, c1⟩
        have hSD : S8 r.blk (r.seed : Int) (e.b : Int) (.slice p e.l.length cap) (W8.alloc (.cells #[.string key, .int .i64 v, .int .u32 (q : Int), .bool (decide (0 < e.b))] 104)).drew := ⟨(World.cell?_alloc_lt _ _ _ hlt0).trans c0, (World.cell?_alloc_lt _ _ _ hlt0).trans c3, (World.cell?_alloc_lt _ _ _ hlt0).trans c1⟩
        refine wp_region_heldF 23 (S8 r.blk (r.seed : Int) (e.b : Int) (.slice p e.l.length cap)) (by kernel_rfl) ?_
        simp only [List.size_toArray, List.length_cons, List.length_nil, Nat.reduceAdd, Array.replicate_succ, Array.replicate_zero, List.push_toArray, List.nil_append, List.cons_append]
        refine wpAnyF_take 0 (v := .pointer (some ⟨r.blk, 0, none⟩)) rfl (by kernel_rfl) (by kernel_rfl) (by kernel_rfl) (by kernel_rfl) (fun _ _ _ h => h) hSW (by rfl) ?_ ?_
        · rintro W ⟨y0, y3, y1⟩
          go_simp
        simp only [Act.put, List.setIfInBounds_toArray, List.set_cons_zero, List.set_cons_succ]
        refine wpAnyF_take 1 (v := .pointer (some ⟨r.blk, 0, none⟩)) rfl (by kernel_rfl) (by kernel_rfl) (by kernel_rfl) (by kernel_rfl) (fun _ _ _ h => h) hSW (by rfl) ?_ ?_
        · rintro W ⟨y0, y3, y1⟩
          go_simp
        simp only [Act.put, List.setIfInBounds_toArray, List.set_cons_zero, List.set_cons_succ]
        refine wpAnyF_take 2 (v := .pointer (some ⟨r.blk, 0, none⟩)) rfl (by kernel_rfl) (by kernel_rfl) (by kernel_rfl) (by kernel_rfl) (fun _ _ _ h => h) hSW (by rfl) ?_ ?_
        · rintro W ⟨y0, y3, y1⟩
          go_simp
        simp only [Act.put, List.setIfInBounds_toArray, List.set_cons_zero, List.set_cons_succ]
        refine wpAnyF_take 3 (v := .pointer (some ⟨r.blk, 1, none⟩)) rfl (by kernel_rfl) (by kernel_rfl) (by kernel_rfl) (by kernel_rfl) (fun _ _ _ h => h) hSW (by rfl) ?_ ?_
        · rintro W ⟨y0, y3, y1⟩
          go_simp
        simp only [Act.put, List.setIfInBounds_toArray, List.set_cons_zero, List.set_cons_succ]
        refine wpAnyF_take 4 (v := .slice p e.l.length cap) rfl (by kernel_rfl) (by kernel_rfl) (by kernel_rfl) (by kernel_rfl) (fun _ _ _ h => h) hSW (by rfl) ?_ ?_
        · rintro W ⟨y0, y3, y1⟩
          go_simp
        simp only [Act.put, List.setIfInBounds_toArray, List.set_cons_zero, List.set_cons_succ]
        refine wpAnyF_take 5 (v := .string key) rfl (by kernel_rfl) (by kernel_rfl) (by kernel_rfl) (by kernel_rfl) (fun _ _ _ h => h) hSW (by rfl) ?_ ?_
        · rintro W ⟨y0, y3, y1⟩
          go_simp
        simp only [Act.put, List.setIfInBounds_toArray, List.set_cons_zero, List.set_cons_succ]
        refine wpAnyF_take 6 (v := .int .i64 v) rfl (by kernel_rfl) (by kernel_rfl) (by kernel_rfl) (by kernel_rfl) (fun _ _ _ h => h) hSW (by rfl) ?_ ?_
        · rintro W ⟨y0, y3, y1⟩
          go_simp
        simp only [Act.put, List.setIfInBounds_toArray, List.set_cons_zero, List.set_cons_succ]
        refine wpAnyF_take 7 (v := .pointer (some ⟨r.blk, 0, none⟩)) rfl (by kernel_rfl) (by kernel_rfl) (by kernel_rfl) (by kernel_rfl) (fun _ _ _ h => h) hSW (by rfl) ?_ ?_
        · rintro W ⟨y0, y3, y1⟩
          go_simp
        simp only [Act.put, List.setIfInBounds_toArray, List.set_cons_zero, List.set_cons_succ]
        refine wpAnyF_take 8 (v := .pointer (some ⟨r.blk, 0, none⟩)) rfl (by kernel_rfl) (by kernel_rfl) (by kernel_rfl) (by kernel_rfl) (fun _ _ _ h => h) hSW (by rfl) ?_ ?_
        · rintro W ⟨y0, y3, y1⟩
          go_simp
        simp only [Act.put, List.setIfInBounds_toArray, List.set_cons_zero, List.set_cons_succ]
        refine wpAnyF_take 9 (v := .pointer (some ⟨r.blk, 0, none⟩)) rfl (by kernel_rfl) (by kernel_rfl) (by kernel_rfl) (by kernel_rfl) (fun _ _ _ h => h) hSW (by rfl) ?_ ?_
        · rintro W ⟨y0, y3, y1⟩
          go_simp
        simp only [Act.put, List.setIfInBounds_toArray, List.set_cons_zero, List.set_cons_succ]
        refine wpAnyF_take 10 (v := .int .u32 (r.seed : Int)) rfl (by kernel_rfl) (by kernel_rfl) (by kernel_rfl) (by kernel_rfl) (fun _ _ _ h => h) hSW (by rfl) ?_ ?_
        · rintro W ⟨y0, y3, y1⟩
          go_simp
        simp only [Act.put, List.setIfInBounds_toArray, List.set_cons_zero, List.set_cons_succ]
        refine wpAnyF_take 11 (v := .string key) rfl (by kernel_rfl) (by kernel_rfl) (by kernel_rfl) (by kernel_rfl) (fun _ _ _ h => h) hSW (by rfl) ?_ ?_
        · rintro W ⟨y0, y3, y1⟩
          go_simp
        simp only [Act.put, List.setIfInBounds_toArray, List.set_cons_zero, List.set_cons_succ]
        refine wpAnyF_take 13 (v := .pointer (some ⟨r.blk, 0, none⟩)) rfl (by kernel_rfl) (by kernel_rfl) (by kernel_rfl) (by kernel_rfl) (fun _ _ _ h => h) hSW (by rfl) ?_ ?_
        · rintro W ⟨y0, y3, y1⟩
          go_simp
        simp only [Act.put, List.setIfInBounds_toArray, List.set_cons_zero, List.set_cons_succ]
        refine wpAnyF_take 14 (v := .pointer (some ⟨r.blk, 0, none⟩)) rfl (by kernel_rfl) (by kernel_rfl) (by kernel_rfl) (by kernel_rfl) (fun _ _ _ h => h) hSW (by rfl) ?_ ?_
        · rintro W ⟨y0, y3, y1⟩
          go_simp
        simp only [Act.put, List.setIfInBounds_toArray, List.set_cons_zero, List.set_cons_succ]
        refine wpAnyF_take 15 (v := .pointer (some ⟨r.blk, 3, none⟩)) rfl (by kernel_rfl) (by kernel_rfl) (by kernel_rfl) (by kernel_rfl) (fun _ _ _ h => h) hSW (by rfl) ?_ ?_
        · rintro W ⟨y0, y3, y1⟩
          go_simp
        simp only [Act.put, List.setIfInBounds_toArray, List.set_cons_zero, List.set_cons_succ]
        refine wpAnyF_take 16 (v := .int .i64 (e.b : Int)) rfl (by kernel_rfl) (by kernel_rfl) (by kernel_rfl) (by kernel_rfl) (fun _ _ _ h => h) hSW (by rfl) ?_ ?_
        · rintro W ⟨y0, y3, y1⟩
          go_simp
        simp only [Act.put, List.setIfInBounds_toArray, List.set_cons_zero, List.set_cons_succ]
        refine wpAnyF_take 17 (v := .bool (decide (0 < e.b))) rfl (by kernel_rfl) (by kernel_rfl) (by kernel_rfl) (by kernel_rfl) (fun _ _ _ h => h) hSW (by rfl) ?_ ?_
        · rintro W ⟨y0, y3, y1⟩
          go_simp
        simp only [Act.put, List.setIfInBounds_toArray, List.set_cons_zero, List.set_cons_succ]
        refine wpAnyF_one 12 (by kernel_rfl) rfl (fun K hK => ?_)
        go_simp
        refine (hsm _).mono ?_
        rintro e9 w9 ⟨rfl, rfl⟩
        refine hK _ _ (fun _ => hSW) ?_
        clear hK K
        refine wpAnyF_take 18 (v := .agg #[.string key, .int .i64 v, .int .u32 (q : Int), .bool (decide (0 < e.b))]) rfl (by kernel_rfl) (by kernel_rfl) (by kernel_rfl) (by kernel_rfl) (fun _ _ _ h => h) hSW (by rfl) ?_ ?_
        · rintro W ⟨y0, y3, y1⟩
          go_simp
        simp only [Act.put, List.setIfInBounds_toArray, List.set_cons_zero, List.set_cons_succ]
        refine wpAnyF_one 19 (by kernel_rfl) rfl (fun K hK => ?_)
        go_simp
        refine hK _ _ (fun _ => hSD) ?_
        clear hK K
        refine wpAnyF_one 20 (by kernel_rfl) rfl (fun K hK => ?_)
        refine step_append_any _ (by rfl) (.tmp 61) (.tmp 76) 53 (by rfl) base 104 i0 _ 4 32 Try.underlying53 hi0 hz0 hz1 hz2 rfl (by omega) (.slice p e.l.length cap) e.l.length (nrCells e.l) (by rfl) hownD (W8.alloc (.cells #[.string key, .int .i64 v, .int .u32 (q : Int), .bool (decide (0 < e.b))] 104)).drew.heap.size (some ⟨W8.heap.size, 0, none⟩) 1 1 (nrCells [⟨key, v, q, (decide (0 < e.b))⟩]) (by rfl) hrD (nr_one [⟨key, v, q, (decide (0 < e.b))⟩]) hA' hB' hD' ?_
        intro v3 w3 hown3 hg3 hat3
        obtain ⟨g3, cp3, rfl⟩ := ownsRow_succ hown3
        obtain ⟨k30, k33, k31, k3f, k3l⟩ := hkeep _ hg3
        have hS3 : S8 r.blk (r.seed : Int) (e.b : Int) (.slice p e.l.length cap) w3 := ⟨k30, k33, k31⟩
        refine hK _ _ (fun _ => hS3) ?_
        clear hK K
        refine wpAnyF_one 21 (by kernel_rfl) rfl (fun K hK => ?_)
        go_simp
        refine hK _ _ (fun _ => hS3) ?_
        clear hK K
        refine wpAnyF_one 22 (by kernel_rfl) rfl (fun K hK => ?_)
        go_simp
        refine hK _ _ (fun _ => hS3) ?_
        clear hK K
        refine wpAnyF_one 23 (by kernel_rfl) rfl (fun K hK => ?_)
        go_simp
        refine hK _ _ (fun h => absurd rfl h) ?_
        clear hK K
        refine wpAnyF_done (by kernel_rfl) ?_ _
        obtain ⟨h9, hC9⟩ := hRD.appended (x := ⟨key, v, q, (decide (0 < e.b))⟩) (by rw [hlv.out]; exact hg3) hown3
        rw [f1] at h9 hC9
        have hCw := hC8.trans ((((Chg.refl _ W8).alloc _).drew).trans (hC9.mono fun g _ hg => hft g hg))
        have hft9 : ∀ g, (Value.slice (some ⟨g3, 0, none⟩) (e.l.length + 1) cp3).ownBlock = some g → r.foot g ∨ w.heap.size ≤ g := fun g hg => by
          rcases hat3 with h' | h'
          · rw [h', ← hlv.out] at hg
            exact .inl (hft g (.inr hg))
          · rw [h'] at hg
            injection hg with hg
            rw [← hg]
            exact .inr (Nat.le_trans hC8.size (by simp))
        go_wp2_with fail
        go_ret
        exact ⟨_, ⟨h9, rfl, hCw, fun g hg => by rcases hg with hg | hg; exact .inl (.inl hg); exact hft9 g hg⟩, .inr ⟨hno.out, rfl, _, by rw [hgr.out, HQ.out, f1]⟩⟩
    · have hbb : ((e.b : Int) == 0) = false := by rw [beq_eq_false_iff_ne]; omega
      have hgr : e.grow = e := by unfold Rm.grow; rw [if_neg (fun h => hb0 h.1)]
      replace hgr := Lib.hid hgr
      clear hb0
      go_quiet (fail)
      go_wp2_with fail
      have hR8 := hR.chg0 ((Chg.refl _ w1).drewN nq)
      have hC8 := hC.trans ((Chg.refl _ w1).drewN nq)
      clear hR hC c0 c1 c2 c3 c4 fr hlt0
      generalize w1.drewN nq = W8 at *
      have hR := hR8
      obtain ⟨c0, c1, c2, c3, c4, fr, hlt0⟩ := rm_cells hR
      try dsimp only at c0 c1 c2 c3 c4 fr hlt0
      rw [f1] at c0 c1 c2 c3 c4 fr hlt0
      rw [f3] at c0
      rw [hlv.out] at c1
      obtain ⟨i0, hi0, hz0, hz1, hz2⟩ := info_parts nr_info
      have hRD := hR8.chg0 (((Chg.refl _ W8).alloc (.cells #[.string key, .int .i64 v, .int .u32 (q : Int), .bool (decide (0 < e.b))] 104))).drew
      have hownD := hRD.own.own
      rw [hlv.out] at hownD
      have hrD : Reads (W8.alloc (.cells #[.string key, .int .i64 v, .int .u32 (q : Int), .bool (decide (0 < e.b))] 104)).drew (W8.alloc (.cells #[.string key, .int .i64 v, .int .u32 (q : Int), .bool (decide (0 < e.b))] 104)).drew.heap.size 4 (some ⟨W8.heap.size, 0, none⟩) 1 (nrCells [⟨key, v, q, (decide (0 < e.b))⟩]) := reads_block W8 104 #[.string key, .int .i64 v, .int .u32 (q : Int), .bool (decide (0 < e.b))] 1 4 rfl
      have hA' : e.l.length + 1 ≤ maxLen := by unfold maxLen; omega
      have hB' : (e.l.length + 1) * 32 ≤ 140737488355328 := by omega
      have hD' : base ≤ (W8.alloc (.cells #[.string key, .int .i64 v, .int .u32 (q : Int), .bool (decide (0 < e.b))] 104)).drew.heap.size := Nat.le_trans hRD.ge (Nat.le_of_lt hRD.hd.lt)
      have hkeep : ∀ w', (W8.alloc (.cells #[.string key, .int .i64 v, .int .u32 (q : Int), .bool (decide (0 < e.b))] 104)).drew.grownBy w' (Value.slice p e.l.length cap).ownBlock → w'.cell? ⟨r.blk, 0, none⟩ = some (.int .u32 (r.seed : Int)) ∧ w'.cell? ⟨r.blk, 3, none⟩ = some (.int .i64 (e.b : Int)) ∧ w'.cell? ⟨r.blk, 1, none⟩ = some (.slice p e.l.length cap) ∧ w'.frozen? ⟨r.blk, 1, none⟩ = false ∧ r.blk < w'.heap.size := fun w' hg => by
        have hb := hRD.hd.chg (Chg.of_grown (S := fun g => (Value.slice p e.l.length cap).ownBlock = some g) hg fun g hgg => hgg) (by have := hRD.ne; rw [hlv.out] at this; exact this)
        try dsimp only at hb
        rw [f1] at hb
        refine ⟨?_, hb.cell 3, ?_, hb.frozen 1, hb.lt⟩
        · have := hb.cell 0
          simp only [rmCells, f3, List.getElem?_toArray, List.getElem?_cons_zero] at this
          exact this
        · have := hb.cell 1
          simp only [rmCells, hlv.out, List.getElem?_toArray, List.getElem?_cons_zero, List.getElem?_cons_succ] at this
          exact this
      have hSW : S8 r.blk (r.seed : Int) (e.b : Int) (.slice p e.l.length cap) W8.drew := ⟨c0, c3, c1⟩
      have hSD : S8 r.blk (r.seed : Int) (e.b : Int) (.slice p e.l.length cap) (W8.alloc (.cells #[.string key, .int .i64 v, .int .u32 (q : Int), .bool (decide (0 < e.b))] 104)).drew := ⟨(World.cell?_alloc_lt _ _ _ hlt0).trans c0, (World.cell?_alloc_lt _ _ _ hlt0).trans c3, (World.cell?_alloc_lt _ _ _ hlt0).trans c1⟩
      refine wp_region_heldF 23 (S8 r.blk (r.seed : Int) (e.b : Int) (.slice p e.l.length cap)) (by kernel_rfl) ?_
      simp only [List.size_toArray, List.length_cons, List.length_nil, Nat.reduceAdd, Array.replicate_succ, Array.replicate_zero, List.push_toArray, List.nil_append, List.cons_append]
      refine wpAnyF_take 0 (v := .pointer (some ⟨r.blk, 0, none⟩)) rfl (by kernel_rfl) (by kernel_rfl) (by kernel_rfl) (by kernel_rfl) (fun _ _ _ h => h) hSW (by rfl) ?_ ?_
      · rintro W ⟨y0, y3, y1⟩
        go_simp
      simp only [Act.put, List.setIfInBounds_toArray, List.set_cons_zero, List.set_cons_succ]
      refine wpAnyF_take 1 (v := .pointer (some ⟨r.blk, 0, none⟩)) rfl (by kernel_rfl) (by kernel_rfl) (by kernel_rfl) (by kernel_rfl) (fun _ _ _ h => h) hSW (by rfl) ?_ ?_
      · rintro W ⟨y0, y3, y1⟩
        go_simp
      simp only [Act.put, List.setIfInBounds_toArray, List.set_cons_zero, List.set_cons_succ]
      refine wpAnyF_take 2 (v := .pointer (some ⟨r.blk, 0, none⟩)) rfl (by kernel_rfl) (by kernel_rfl) (by kernel_rfl) (by kernel_rfl) (fun _ _ _ h => h) hSW (by rfl) ?_ ?_
      · rintro W ⟨y0, y3, y1⟩
        go_simp
      simp only [Act.put, List.setIfInBounds_toArray, List.set_cons_zero, List.set_cons_succ]
      refine wpAnyF_take 3 (v := .pointer (some ⟨r.blk, 1, none⟩)) rfl (by kernel_rfl) (by kernel_rfl) (by kernel_rfl) (by kernel_rfl) (fun _ _ _ h => h) hSW (by rfl) ?_ ?_
      · rintro W ⟨y0, y3, y1⟩
        go_simp
      simp only [Act.put, List.setIfInBounds_toArray, List.set_cons_zero, List.set_cons_succ]
      refine wpAnyF_take 4 (v := .slice p e.l.length cap) rfl (by kernel_rfl) (by kernel_rfl) (by kernel_rfl) (by kernel_rfl) (fun _ _ _ h => h) hSW (by rfl) ?_ ?_
      · rintro W ⟨y0, y3, y1⟩
        go_simp
      simp only [Act.put, List.setIfInBounds_toArray, List.set_cons_zero, List.set_cons_succ]
      refine wpAnyF_take 5 (v := .string key) rfl (by kernel_rfl) (by kernel_rfl) (by kernel_rfl) (by kernel_rfl) (fun _ _ _ h => h) hSW (by rfl) ?_ ?_
      · rintro W ⟨y0, y3, y1⟩
        go_simp
      simp only [Act.put, List.setIfInBounds_toArray, List.set_cons_zero, List.set_cons_succ]
      refine wpAnyF_take 6 (v := .int .i64 v) rfl (by kernel_rfl) (by kernel_rfl) (by kernel_rfl) (by kernel_rfl) (fun _ _ _ h => h) hSW (by rfl) ?_ ?_
      · rintro W ⟨y0, y3, y1⟩
        go_simp
      simp only [Act.put, List.setIfInBounds_toArray, List.set_cons_zero, List.set_cons_succ]
      refine wpAnyF_take 7 (v := .pointer (some ⟨r.blk, 0, none⟩)) rfl (by kernel_rfl) (by kernel_rfl) (by kernel_rfl) (by kernel_rfl) (fun _ _ _ h => h) hSW (by rfl) ?_ ?_
      · rintro W ⟨y0, y3, y1⟩
        go_simp
      simp only [Act.put, List.setIfInBounds_toArray, List.set_cons_zero, List.set_cons_succ]
      refine wpAnyF_take 8 (v := .pointer (some ⟨r.blk, 0, none⟩)) rfl (by kernel_rfl) (by kernel_rfl) (by kernel_rfl) (by kernel_rfl) (fun _ _ _ h => h) hSW (by rfl) ?_ ?_
      · rintro W ⟨y0, y3, y1⟩
        go_simp
      simp only [Act.put, List.setIfInBounds_toArray, List.set_cons_zero, List.set_cons_succ]
      refine wpAnyF_take 9 (v := .pointer (some ⟨r.blk, 0, none⟩)) rfl (by kernel_rfl) (by kernel_rfl) (by kernel_rfl) (by kernel_rfl) (fun _ _ _ h => h) hSW (by rfl) ?_ ?_
      · rintro W ⟨y0, y3, y1⟩
        go_simp
      simp only [Act.put, List.setIfInBounds_toArray, List.set_cons_zero, List.set_cons_succ]
      refine wpAnyF_take 10 (v := .int .u32 (r.seed : Int)) rfl (by kernel_rfl) (by kernel_rfl) (by kernel_rfl) (by kernel_rfl) (fun _ _ _ h => h) hSW (by rfl) ?_ ?_
      · rintro W ⟨y0, y3, y1⟩
        go_simp
      simp only [Act.put, List.setIfInBounds_toArray, List.set_cons_zero, List.set_cons_succ]
      refine wpAnyF_take 11 (v := .string key) rfl (by kernel_rfl) (by kernel_rfl) (by kernel_rfl) (by kernel_rfl) (fun _ _ _ h => h) hSW (by rfl) ?_ ?_
      · rintro W ⟨y0, y3, y1⟩
        go_simp
      simp only [Act.put, List.setIfInBounds_toArray, List.set_cons_zero, List.set_cons_succ]
      refine wpAnyF_take 13 (v := .pointer (some ⟨r.blk, 0, none⟩)) rfl (by kernel_rfl) (by kernel_rfl) (by kernel_rfl) (by kernel_rfl) (fun _ _ _ h => h) hSW (by rfl) ?_ ?_
      · rintro W ⟨y0, y3, y1⟩
        go_simp
      simp only [Act.put, List.setIfInBounds_toArray, List.set_cons_zero, List.set_cons_succ]
      refine wpAnyF_take 14 (v := .pointer (some ⟨r.blk, 0, none⟩)) rfl (by kernel_rfl) (by kernel_rfl) (by kernel_rfl) (by kernel_rfl) (fun _ _ _ h => h) hSW (by rfl) ?_ ?_
      · rintro W ⟨y0, y3, y1⟩
        go_simp
      simp only [Act.put, List.setIfInBounds_toArray, List.set_cons_zero, List.set_cons_succ]
      refine wpAnyF_take 15 (v := .pointer (some ⟨r.blk, 3, none⟩)) rfl (by kernel_rfl) (by kernel_rfl) (by kernel_rfl) (by kernel_rfl) (fun _ _ _ h => h) hSW (by rfl) ?_ ?_
      · rintro W ⟨y0, y3, y1⟩
        go_simp
      simp only [Act.put, List.setIfInBounds_toArray, List.set_cons_zero, List.set_cons_succ]
      refine wpAnyF_take 16 (v := .int .i64 (e.b : Int)) rfl (by kernel_rfl) (by kernel_rfl) (by kernel_rfl) (by kernel_rfl) (fun _ _ _ h => h) hSW (by rfl) ?_ ?_
      · rintro W ⟨y0, y3, y1⟩
        go_simp
      simp only [Act.put, List.setIfInBounds_toArray, List.set_cons_zero, List.set_cons_succ]
      refine wpAnyF_take 17 (v := .bool (decide (0 < e.b))) rfl (by kernel_rfl) (by kernel_rfl) (by kernel_rfl) (by kernel_rfl) (fun _ _ _ h => h) hSW (by rfl) ?_ ?_
      · rintro W ⟨y0, y3, y1⟩
        go_simp
      simp only [Act.put, List.setIfInBounds_toArray, List.set_cons_zero, List.set_cons_succ]
      refine wpAnyF_one 12 (by kernel_rfl) rfl (fun K hK => ?_)
      go_simp
      refine (hsm _).mono ?_
      rintro e9 w9 ⟨rfl, rfl⟩
      refine hK _ _ (fun _ => hSW) ?_
      clear hK K
      refine wpAnyF_take 18 (v := .agg #[.string key, .int .i64 v, .int .u32 (q : Int), .bool (decide (0 < e.b))]) rfl (by kernel_rfl) (by kernel_rfl) (by kernel_rfl) (by kernel_rfl) (fun _ _ _ h => h) hSW (by rfl) ?_ ?_
      · rintro W ⟨y0, y3, y1⟩
        go_simp
      simp only [Act.put, List.setIfInBounds_toArray, List.set_cons_zero, List.set_cons_succ]
      refine wpAnyF_one 19 (by kernel_rfl) rfl (fun K hK => ?_)
      go_simp
      refine hK _ _ (fun _ => hSD) ?_
      clear hK K
      refine wpAnyF_one 20 (by kernel_rfl) rfl (fun K hK => ?_)
      refine step_append_any _ (by rfl) (.tmp 61) (.tmp 76) 53 (by rfl) base 104 i0 _ 4 32 Try.underlying53 hi0 hz0 hz1 hz2 rfl (by omega) (.slice p e.l.length cap) e.l.length (nrCells e.l) (by rfl) hownD (W8.alloc (.cells #[.string key, .int .i64 v, .int .u32 (q : Int), .bool (decide (0 < e.b))] 104)).drew.heap.size (some ⟨W8.heap.size, 0, none⟩) 1 1 (nrCells [⟨key, v, q, (decide (0 < e.b))⟩]) (by rfl) hrD (nr_one [⟨key, v, q, (decide (0 < e.b))⟩]) hA' hB' hD' ?_
      intro v3 w3 hown3 hg3 hat3
      obtain ⟨g3, cp3, rfl⟩ := ownsRow_succ hown3
      obtain ⟨k30, k33, k31, k3f, k3l⟩ := hkeep _ hg3
      have hS3 : S8 r.blk (r.seed : Int) (e.b : Int) (.slice p e.l.length cap) w3 := ⟨k30, k33, k31⟩
      refine hK _ _ (fun _ => hS3) ?_
      clear hK K
      refine wpAnyF_one 21 (by kernel_rfl) rfl (fun K hK => ?_)
      go_simp
      refine hK _ _ (fun _ => hS3) ?_
      clear hK K
      refine wpAnyF_one 22 (by kernel_rfl) rfl (fun K hK => ?_)
      go_simp
      refine hK _ _ (fun _ => hS3) ?_
      clear hK K
      refine wpAnyF_one 23 (by kernel_rfl) rfl (fun K hK => ?_)
      go_simp
      refine hK _ _ (fun h => absurd rfl h) ?_
      clear hK K
      refine wpAnyF_done (by kernel_rfl) ?_ _
      obtain ⟨h9, hC9⟩ := hRD.appended (x := ⟨key, v, q, (decide (0 < e.b))⟩) (by rw [hlv.out]; exact hg3) hown3
      rw [f1] at h9 hC9
      have hCw := hC8.trans ((((Chg.refl _ W8).alloc _).drew).trans (hC9.mono fun g _ hg => hft g hg))
      have hft9 : ∀ g, (Value.slice (some ⟨g3, 0, none⟩) (e.l.length + 1) cp3).ownBlock = some g → r.foot g ∨ w.heap.size ≤ g := fun g hg => by
        rcases hat3 with h' | h'
        · rw [h', ← hlv.out] at hg
          exact .inl (hft g (.inr hg))
        · rw [h'] at hg
          injection hg with hg
          rw [← hg]
          exact .inr (Nat.le_trans hC8.size (by simp))
      go_wp2_with fail
      go_ret
      exact ⟨_, ⟨h9, rfl, hCw, fun g hg => by rcases hg with hg | hg; exact .inl (.inl hg); exact hft9 g hg⟩, .inr ⟨hno.out, rfl, _, by rw [hgr.out, HQ.out, f1]⟩⟩

end Go.Proofs.Ythbjjjcppijcbaa
