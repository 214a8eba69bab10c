/- Texts joined for ZsetWays: SKM, SKO, PKP, RR. -/
import Derived.Test.YtifcpippfiglkaaGreatJZsetWaysa
import Derived.Test.YtifcpippfiglkaaGreatJZsetWaysf
import Derived.Test.YtifcpippfiglkaaGreatProg
import Derived.OwnWalkIn
import Derived.OrdersIn
import Derived.StillTailTactics
import Derived.RangeFuncCalls
import Derived.OrdersHeld
set_option linter.unusedVariables false
set_option linter.unusedSimpArgs false

/- Skip lists in memory. -/
namespace Go.Proofs.YtifcpippfiglkaaGreat
open Go.RowKit Pal Pal.Skip

/-- A node: its block, its entry, its level. -/
structure Sn where
  blk : Nat
  key : ByteArray
  score : Int
  lvl : Nat
/-- What is told of a skip list's cells: positions 0 (the head), 1, .. -/
structure Sv where
  blk : Nat
  ns : List Sn
  ok : Nat → Nat → Prop
  to : Nat → Nat → Value
  sp : Nat → Nat → Int
  bk : Nat → Value
  last : Value
  top : Nat
  n : Int
def pt (g : Nat) : Value := .pointer (some ⟨g, 0, none⟩)
def atP (blk : Nat) (ns : List Sn) : Nat → Nat
  | 0 => blk
  | p + 1 => (ns.map (·.blk)).getD p 0
def Sv.at_ (v : Sv) (p : Nat) : Nat := atP v.blk v.ns p
def tyP (p : Nat) : TypeId := if p = 0 then 134 else 132
def szP (p : Nat) : Nat := if p = 0 then 71 else 68
structure IsNd (cs : Array Value) (v : Sv) (p : Nat) : Prop where
  size : cs.size = szP p
  link : ∀ i, i < 32 → v.ok p i → cs[2 + i * 2]? = some (v.to p i) ∧ cs[2 + i * 2 + 1]? = some (.int .i64 (v.sp p i))
  ent : ∀ x, 1 ≤ p → v.ns[p - 1]? = some x → cs[0]? = some (.string x.key) ∧ cs[1]? = some (.int .i64 x.score) ∧ cs[66]? = some (.int .i64 (x.lvl : Int)) ∧ cs[67]? = some (v.bk p)
  hd : p = 0 → cs[68]? = some v.last ∧ cs[69]? = some (.int .i64 (v.top : Int)) ∧ cs[70]? = some (.int .i64 v.n)
structure SvAt (w : World) (base : Nat) (v : Sv) : Prop where
  nd : ∀ p, p ≤ v.ns.length → ∃ cs, Blk w (v.at_ p) (tyP p) cs ∧ IsNd cs v p
  inj : ∀ p q, p ≤ v.ns.length → q ≤ v.ns.length → v.at_ p = v.at_ q → p = q
  ge : ∀ p, p ≤ v.ns.length → base ≤ v.at_ p
def Sv.foot (v : Sv) (g : Nat) : Prop := ∃ p, p ≤ v.ns.length ∧ g = v.at_ p

section
variable {w w' : World} {base : Nat} {v : Sv}
theorem SvAt.chg {F : Nat → Prop} (h : SvAt w base v) (hc : Chg F w w') (hn : ∀ g, v.foot g → ¬ F g) : SvAt w' base v :=
  ⟨fun p hp => by obtain ⟨cs, hb, hi⟩ := h.nd p hp; exact ⟨cs, hb.chg hc (hn _ ⟨p, hp, rfl⟩), hi⟩, h.inj, h.ge⟩
theorem SvAt.chg0 (h : SvAt w base v) (hc : Chg (fun _ => False) w w') : SvAt w' base v := h.chg hc fun _ _ => id
theorem SvAt.keep (h : SvAt w base v) (k : KeepC w w') : SvAt w' base v :=
  ⟨fun p hp => by obtain ⟨cs, hb, hi⟩ := h.nd p hp; exact ⟨cs, hb.keep k, hi⟩, h.inj, h.ge⟩
theorem SvAt.lt (h : SvAt w base v) {g : Nat} (hg : v.foot g) : base ≤ g ∧ g < w.heap.size := by
  obtain ⟨p, hp, rfl⟩ := hg
  obtain ⟨cs, hb, _⟩ := h.nd p hp
  exact ⟨h.ge p hp, hb.lt⟩
theorem SvAt.mono {b : Nat} (h : SvAt w base v) (hb : b ≤ base) : SvAt w b v := ⟨h.nd, h.inj, fun p hp => Nat.le_trans hb (h.ge p hp)⟩
/-- Another view of the same cells. -/
theorem SvAt.view {u : Sv} (h : SvAt w base v) (hb : u.blk = v.blk) (hns : u.ns = v.ns) (hl : ∀ p i, p ≤ v.ns.length → i < 32 → u.ok p i → v.ok p i ∧ v.to p i = u.to p i ∧ v.sp p i = u.sp p i)
    (hk : ∀ p, 1 ≤ p → p ≤ v.ns.length → v.bk p = u.bk p) (h1 : v.last = u.last) (h2 : v.top = u.top) (h3 : v.n = u.n) : SvAt w base u := by
  have ha : ∀ p, u.at_ p = v.at_ p := fun p => by unfold Sv.at_; rw [hb, hns]
  refine ⟨fun p hp => ?_, fun p q hp hq e => ?_, fun p hp => ?_⟩
  · rw [hns] at hp
    obtain ⟨cs, hc, hi⟩ := h.nd p hp
    refine ⟨cs, by rw [ha]; exact hc, hi.size, fun i h32 ho => ?_, fun x h1p hx => ?_, fun e => ?_⟩
    · obtain ⟨a, b, c⟩ := hl p i hp h32 ho
      rw [← b, ← c]; exact hi.link i h32 a
    · rw [← hk p h1p hp]; exact hi.ent x h1p (by rw [← hns]; exact hx)
    · rw [← h1, ← h2, ← h3]; exact hi.hd e
  · rw [hns] at hp hq; rw [ha, ha] at e; exact h.inj p q hp hq e
  · rw [hns] at hp; rw [ha]; exact h.ge p hp

/-! ### reads -/
theorem SvAt.fr (h : SvAt w base v) {p : Nat} (hp : p ≤ v.ns.length) (i : Nat) : w.frozen? ⟨v.at_ p, i, none⟩ = false := by
  obtain ⟨cs, hb, _⟩ := h.nd p hp; exact hb.frozen i
theorem SvAt.has (h : SvAt w base v) {p : Nat} (hp : p ≤ v.ns.length) {i : Nat} (hi : i < szP p) : ∃ u, w.cell? ⟨v.at_ p, i, none⟩ = some u := by
  obtain ⟨cs, hb, hn⟩ := h.nd p hp
  exact ⟨cs[i]'(by rw [hn.size]; exact hi), (hb.cell i).trans (Array.getElem?_eq_getElem _)⟩
theorem SvAt.to_ (h : SvAt w base v) {p i : Nat} (hp : p ≤ v.ns.length) (hi : i < 32) (ho : v.ok p i) : w.cell? ⟨v.at_ p, 2 + i * 2, none⟩ = some (v.to p i) := by
  obtain ⟨cs, hb, hn⟩ := h.nd p hp; exact (hb.cell _).trans (hn.link i hi ho).1
theorem SvAt.sp_ (h : SvAt w base v) {p i : Nat} (hp : p ≤ v.ns.length) (hi : i < 32) (ho : v.ok p i) : w.cell? ⟨v.at_ p, 2 + i * 2 + 1, none⟩ = some (.int .i64 (v.sp p i)) := by
  obtain ⟨cs, hb, hn⟩ := h.nd p hp; exact (hb.cell _).trans (hn.link i hi ho).2
theorem SvAt.ent (h : SvAt w base v) {p : Nat} {x : Sn} (hx : v.ns[p]? = some x) : w.cell? ⟨x.blk, 0, none⟩ = some (.string x.key) ∧ w.cell? ⟨x.blk, 1, none⟩ = some (.int .i64 x.score) ∧
    w.cell? ⟨x.blk, 66, none⟩ = some (.int .i64 (x.lvl : Int)) ∧ w.cell? ⟨x.blk, 67, none⟩ = some (v.bk (p + 1)) ∧ x.blk < w.heap.size ∧ v.at_ (p + 1) = x.blk := by
  have hl := (List.getElem?_eq_some_iff.1 hx).1
  obtain ⟨cs, hb, hn⟩ := h.nd (p + 1) hl
  have e : v.at_ (p + 1) = x.blk := by
    show (v.ns.map (·.blk)).getD p 0 = _
    rw [List.getD_eq_getElem?_getD, List.getElem?_map, hx]; rfl
  rw [e] at hb
  obtain ⟨a, b, c, d⟩ := hn.ent x (by omega) hx
  exact ⟨(hb.cell _).trans a, (hb.cell _).trans b, (hb.cell _).trans c, (hb.cell _).trans d, hb.lt, e⟩
theorem SvAt.head (h : SvAt w base v) : w.cell? ⟨v.blk, 68, none⟩ = some v.last ∧ w.cell? ⟨v.blk, 69, none⟩ = some (.int .i64 (v.top : Int)) ∧ w.cell? ⟨v.blk, 70, none⟩ = some (.int .i64 v.n) ∧ v.blk < w.heap.size ∧ (∀ i, w.frozen? ⟨v.blk, i, none⟩ = false) := by
  obtain ⟨cs, hb, hn⟩ := h.nd 0 (Nat.zero_le _)
  obtain ⟨a, b, c⟩ := hn.hd rfl
  exact ⟨(hb.cell _).trans a, (hb.cell _).trans b, (hb.cell _).trans c, hb.lt, hb.frozen⟩

/-! ### stores -/
theorem SvAt.store {u : Sv} (h : SvAt w base v) {p j : Nat} (hp : p ≤ v.ns.length) (x : Value) (hb : u.blk = v.blk) (hns : u.ns = v.ns)
    (hq : ∀ q, q ≤ v.ns.length → q ≠ p → ∀ cs, IsNd cs v q → IsNd cs u q) (hpp : ∀ cs, IsNd cs v p → IsNd (cs.setIfInBounds j x) u p) :
    SvAt (w.setCell ⟨v.at_ p, j, none⟩ x) base u ∧ Chg v.foot w (w.setCell ⟨v.at_ p, j, none⟩ x) := by
  have ha : ∀ p, u.at_ p = v.at_ p := fun p => by unfold Sv.at_; rw [hb, hns]
  refine ⟨⟨fun q hq' => ?_, fun q r hq hr e => ?_, fun q hq => ?_⟩, Chg.store (S := v.foot) (Chg.refl _ w) ⟨p, hp, rfl⟩ j x⟩
  · rw [hns] at hq'
    obtain ⟨cs, hc, hn⟩ := h.nd q hq'
    rw [ha]
    by_cases e : q = p
    · subst e
      exact ⟨_, hc.set j x, hpp cs hn⟩
    · exact ⟨cs, hc.far (fun e2 => e (h.inj q p hq' hp e2)) x, hq q hq' e cs hn⟩
  · rw [hns] at hq hr; rw [ha, ha] at e; exact h.inj q r hq hr e
  · rw [hns] at hq; rw [ha]; exact h.ge q hq
theorem set_same {cs : Array Value} {j : Nat} (x : Value) (h : j < cs.size) : (cs.setIfInBounds j x)[j]? = some x := by rw [Array.getElem?_setIfInBounds, if_pos rfl, if_pos h]
theorem set_other {cs : Array Value} {j k : Nat} (x : Value) (h : j ≠ k) : (cs.setIfInBounds j x)[k]? = cs[k]? := by rw [Array.getElem?_setIfInBounds, if_neg h]
theorem szP_le (p : Nat) : 68 ≤ szP p := by unfold szP; split <;> omega
def up2 {α : Type} (f : Nat → Nat → α) (p i : Nat) (x : α) : Nat → Nat → α := fun q j => if q = p ∧ j = i then x else f q j
theorem up2_same {α : Type} (f : Nat → Nat → α) (p i : Nat) (x : α) : up2 f p i x p i = x := if_pos ⟨rfl, rfl⟩
theorem up2_other {α : Type} (f : Nat → Nat → α) {p i q j : Nat} (x : α) (h : ¬ (q = p ∧ j = i)) : up2 f p i x q j = f q j := if_neg h
/-- A link is written, both its cells. -/
theorem SvAt.setLink (h : SvAt w base v) {p i : Nat} (hp : p ≤ v.ns.length) (hi : i < 32) (x : Value) (n : Int) :
    SvAt ((w.setCell ⟨v.at_ p, 2 + i * 2, none⟩ x).setCell ⟨v.at_ p, 2 + i * 2 + 1, none⟩ (.int .i64 n)) base { v with ok := fun q j => (q = p ∧ j = i) ∨ v.ok q j, to := up2 v.to p i x, sp := up2 v.sp p i n } ∧
      Chg v.foot w ((w.setCell ⟨v.at_ p, 2 + i * 2, none⟩ x).setCell ⟨v.at_ p, 2 + i * 2 + 1, none⟩ (.int .i64 n)) := by
  have hz := szP_le p
  obtain ⟨h1, c1⟩ := h.store (j := 2 + i * 2) (u := { v with ok := fun q j => ¬ (q = p ∧ j = i) ∧ v.ok q j, to := up2 v.to p i x, sp := up2 v.sp p i n }) hp x rfl rfl
    (fun q _ hne cs hc => ⟨hc.size, fun j hj ho => by
      show _ = some (up2 v.to p i x q j) ∧ _ = some (Value.int .i64 (up2 v.sp p i n q j))
      rw [up2_other _ _ ho.1, up2_other _ _ ho.1]; exact hc.link j hj ho.2, hc.ent, hc.hd⟩)
    (fun cs hc => ⟨by simpa using hc.size, fun j hj ho => by
      show _ = some (up2 v.to p i x p j) ∧ _ = some (Value.int .i64 (up2 v.sp p i n p j))
      have hne : j ≠ i := fun e => ho.1 ⟨rfl, e⟩
      rw [up2_other _ _ ho.1, up2_other _ _ ho.1, set_other _ (by omega), set_other _ (by omega)]; exact hc.link j hj ho.2,
      fun y h1 hy => by rw [set_other _ (by omega), set_other _ (by omega), set_other _ (by omega), set_other _ (by omega)]; exact hc.ent y h1 hy,
      fun e => by rw [set_other _ (by omega), set_other _ (by omega), set_other _ (by omega)]; exact hc.hd e⟩)
  have hcell : (w.setCell ⟨v.at_ p, 2 + i * 2, none⟩ x).cell? ⟨v.at_ p, 2 + i * 2, none⟩ = some x := by
    obtain ⟨cs, hb, hn⟩ := h.nd p hp
    rw [(hb.set _ x).cell]
    exact set_same x (by rw [hn.size]; omega)
  have hx : ∀ cs, Blk (w.setCell ⟨v.at_ p, 2 + i * 2, none⟩ x) (v.at_ p) (tyP p) cs → cs[2 + i * 2]? = some x := fun cs hb => by rw [← hb.cell]; exact hcell
  clear hcell
  obtain ⟨cs0, hb0, hn0⟩ := h1.nd p hp
  have hx0 := hx cs0 hb0
  generalize w.setCell ⟨v.at_ p, 2 + i * 2, none⟩ x = w1 at h1 c1 hb0
  have ha : ∀ q, ({ v with ok := fun q j => ¬ (q = p ∧ j = i) ∧ v.ok q j, to := up2 v.to p i x, sp := up2 v.sp p i n } : Sv).at_ q = v.at_ q := fun q => rfl
  refine ⟨⟨fun q hq => ?_, h1.inj, h1.ge⟩, c1.trans (Chg.store (S := v.foot) (Chg.refl _ w1) ⟨p, hp, rfl⟩ _ _)⟩
  by_cases e : q = p
  · subst e
    refine ⟨_, hb0.set (2 + i * 2 + 1) (.int .i64 n), by simpa using hn0.size, fun j hj ho => ?_, fun y hy1 hy => ?_, fun e => ?_⟩
    · show _ = some (up2 v.to q i x q j) ∧ _ = some (Value.int .i64 (up2 v.sp q i n q j))
      by_cases hji : j = i
      · subst hji
        rw [up2_same, up2_same, set_other _ (by omega), set_same _ (by rw [hn0.size]; omega)]
        exact ⟨hx0, rfl⟩
      · rw [set_other _ (by omega), set_other _ (by omega)]
        rcases ho with ho | ho
        · exact absurd ho.2 hji
        · exact hn0.link j hj ⟨fun hh => hji hh.2, ho⟩
    · rw [set_other _ (by omega), set_other _ (by omega), set_other _ (by omega), set_other _ (by omega)]; exact hn0.ent y hy1 hy
    · rw [set_other _ (by omega), set_other _ (by omega), set_other _ (by omega)]; exact hn0.hd e
  · obtain ⟨cs, hb, hn⟩ := h1.nd q hq
    refine ⟨cs, hb.far (fun e2 => e (h1.inj q p hq hp e2)) _, hn.size, fun j hj ho => ?_, hn.ent, hn.hd⟩
    rcases ho with ho | ho
    · exact absurd ho.1 e
    · exact hn.link j hj ⟨fun hh => e hh.1, ho⟩
/-- A link's span is written. -/
theorem SvAt.setSp (h : SvAt w base v) {p i : Nat} (hp : p ≤ v.ns.length) (hi : i < 32) (n : Int) :
    SvAt (w.setCell ⟨v.at_ p, 2 + i * 2 + 1, none⟩ (.int .i64 n)) base { v with sp := up2 v.sp p i n } ∧ Chg v.foot w (w.setCell ⟨v.at_ p, 2 + i * 2 + 1, none⟩ (.int .i64 n)) := by
  have hz := szP_le p
  exact h.store (j := 2 + i * 2 + 1) (u := { v with sp := up2 v.sp p i n }) hp _ rfl rfl
    (fun q _ hne cs hc => ⟨hc.size, fun j hj ho => by
      show _ ∧ _ = some (Value.int .i64 (up2 v.sp p i n q j))
      rw [up2_other _ _ (fun e => hne e.1)]; exact hc.link j hj ho, hc.ent, hc.hd⟩)
    (fun cs hc => ⟨by simpa using hc.size, fun j hj ho => by
      show _ ∧ _ = some (Value.int .i64 (up2 v.sp p i n p j))
      by_cases hji : j = i
      · subst hji
        rw [up2_same, set_other _ (by omega), set_same _ (by rw [hc.size]; omega)]
        exact ⟨(hc.link j hj ho).1, rfl⟩
      · rw [up2_other _ _ (fun e => hji e.2), set_other _ (by omega), set_other _ (by omega)]; exact hc.link j hj ho,
      fun y h1 hy => by rw [set_other _ (by omega), set_other _ (by omega), set_other _ (by omega), set_other _ (by omega)]; exact hc.ent y h1 hy,
      fun e => by rw [set_other _ (by omega), set_other _ (by omega), set_other _ (by omega)]; exact hc.hd e⟩)
theorem SvAt.setBk (h : SvAt w base v) {p : Nat} (hp1 : 1 ≤ p) (hp : p ≤ v.ns.length) (x : Value) :
    SvAt (w.setCell ⟨v.at_ p, 67, none⟩ x) base { v with bk := fun q => if q = p then x else v.bk q } ∧ Chg v.foot w (w.setCell ⟨v.at_ p, 67, none⟩ x) := by
  have hz := szP_le p
  exact h.store (j := 67) (u := { v with bk := fun q => if q = p then x else v.bk q }) hp _ rfl rfl
    (fun q _ hne cs hc => ⟨hc.size, hc.link, fun y h1 hy => by
      show _ ∧ _ ∧ _ ∧ _ = some (if q = p then x else v.bk q)
      rw [if_neg hne]; exact hc.ent y h1 hy, hc.hd⟩)
    (fun cs hc => ⟨by simpa using hc.size, fun j hj ho => by rw [set_other _ (by omega), set_other _ (by omega)]; exact hc.link j hj ho,
      fun y h1 hy => by
        show _ ∧ _ ∧ _ ∧ _ = some (if p = p then x else v.bk p)
        rw [if_pos rfl, set_other _ (by omega), set_other _ (by omega), set_other _ (by omega), set_same _ (by rw [hc.size]; omega)]
        obtain ⟨a, b, c, _⟩ := hc.ent y h1 hy
        exact ⟨a, b, c, rfl⟩,
      fun e => by omega⟩)
theorem SvAt.setHd (h : SvAt w base v) (j : Nat) (x : Value) (u : Sv) (hb : u.blk = v.blk) (hns : u.ns = v.ns) (ho : u.ok = v.ok) (ht : u.to = v.to) (hs : u.sp = v.sp) (hk : u.bk = v.bk)
    (hj : (j = 68 ∧ u.last = x ∧ u.top = v.top ∧ u.n = v.n) ∨ (j = 69 ∧ u.last = v.last ∧ .int .i64 (u.top : Int) = x ∧ u.n = v.n) ∨ (j = 70 ∧ u.last = v.last ∧ u.top = v.top ∧ .int .i64 u.n = x)) :
    SvAt (w.setCell ⟨v.blk, j, none⟩ x) base u ∧ Chg v.foot w (w.setCell ⟨v.blk, j, none⟩ x) := by
  have hj3 : 68 ≤ j ∧ j < 71 := by rcases hj with hj | hj | hj <;> omega
  refine h.store (p := 0) (j := j) (u := u) (Nat.zero_le _) x hb hns (fun q _ hne cs hc => ⟨hc.size, ?_, ?_, fun e => absurd e hne⟩) (fun cs hc => ⟨by simpa using hc.size, ?_, ?_, fun e => ?_⟩)
  · rw [ho, ht, hs]; exact hc.link
  · rw [hns, hk]; exact hc.ent
  · rw [ho, ht, hs]; intro i hi h1; rw [set_other _ (by omega), set_other _ (by omega)]; exact hc.link i hi h1
  · intro y h1 _; omega
  · obtain ⟨a, b, c⟩ := hc.hd rfl
    have hz := hc.size
    have hz2 : szP 0 = 71 := rfl
    rcases hj with ⟨rfl, e1, e2, e3⟩ | ⟨rfl, e1, e2, e3⟩ | ⟨rfl, e1, e2, e3⟩
    · rw [set_same _ (by omega), set_other _ (by omega), set_other _ (by omega), e1, e2, e3]; exact ⟨rfl, b, c⟩
    · rw [set_same _ (by omega), set_other _ (by omega), set_other _ (by omega), e1, e2, e3]; exact ⟨a, rfl, c⟩
    · rw [set_same _ (by omega), set_other _ (by omega), set_other _ (by omega), e1, e2, e3]; exact ⟨a, b, rfl⟩
end

/-! ### a list as it is between calls -/
structure Sk where
  blk : Nat
  ns : List Sn
def Sk.lv (s : Sk) : List Nat := s.ns.map (·.lvl)
def Sk.n (s : Sk) : Nat := s.ns.length
def Sk.at_ (s : Sk) (p : Nat) : Nat := atP s.blk s.ns p
def Sk.go (s : Sk) : Option Nat → Value
  | none => .pointer none
  | some q => pt (s.at_ q)
/-- The node of a position, if it is one (not the head). -/
def Sk.nd (s : Sk) (p : Nat) : Value := if p = 0 then .pointer none else pt (s.at_ p)
def Sk.view (s : Sk) : Sv where
  blk := s.blk
  ns := s.ns
  ok p i := (p = 0 ∧ i < top s.lv) ∨ ab s.lv i p
  to p i := s.go (nxt s.lv i p)
  sp p i := (span s.lv i p : Int)
  bk p := s.nd (p - 1)
  last := s.nd s.n
  top := top s.lv
  n := (s.n : Int)
structure SkAt (w : World) (base : Nat) (s : Sk) : Prop where
  v : SvAt w base s.view
  lo : ∀ x ∈ s.ns, 1 ≤ x.lvl ∧ x.lvl ≤ 32
def Sk.foot (s : Sk) (g : Nat) : Prop := s.view.foot g
section
variable {w w' : World} {base : Nat} {s : Sk}
theorem SkAt.chg {F : Nat → Prop} (h : SkAt w base s) (hc : Chg F w w') (hn : ∀ g, s.foot g → ¬ F g) : SkAt w' base s := ⟨h.v.chg hc hn, h.lo⟩
theorem SkAt.chg0 (h : SkAt w base s) (hc : Chg (fun _ => False) w w') : SkAt w' base s := h.chg hc fun _ _ => id
theorem SkAt.keep (h : SkAt w base s) (k : KeepC w w') : SkAt w' base s := ⟨h.v.keep k, h.lo⟩
theorem SkAt.lt (h : SkAt w base s) {g : Nat} (hg : s.foot g) : base ≤ g ∧ g < w.heap.size := h.v.lt hg
theorem SkAt.top_le (h : SkAt w base s) : top s.lv ≤ 32 := by
  rcases top_mem (lv := s.lv) with e | e
  · omega
  · obtain ⟨x, hx, e2⟩ := List.mem_map.1 e
    have := h.lo x hx
    omega
theorem Sk.lv_len (s : Sk) : s.lv.length = s.n := by unfold Sk.lv Sk.n; simp
theorem SkAt.lv_pos (h : SkAt w base s) {p : Nat} (h1 : 1 ≤ p) (hp : p ≤ s.n) : ab s.lv 0 p := by
  refine ⟨h1, by rw [s.lv_len]; exact hp, ?_⟩
  unfold Sk.lv
  rw [List.getD_eq_getElem?_getD, List.getElem?_map, List.getElem?_eq_getElem (by unfold Sk.n at hp; omega)]
  exact (h.lo _ (List.getElem_mem _)).1
theorem SkAt.link (h : SkAt w base s) {p i : Nat} (hp : p = 0 ∨ ab s.lv i p) (hi : i < top s.lv) :
    w.cell? ⟨s.at_ p, 2 + i * 2, none⟩ = some (s.go (nxt s.lv i p)) ∧ w.cell? ⟨s.at_ p, 2 + i * 2 + 1, none⟩ = some (.int .i64 (span s.lv i p : Int)) := by
  have hp' : p ≤ s.ns.length := by
    rcases hp with rfl | hp
    · exact Nat.zero_le _
    · have := hp.2.1; rw [s.lv_len] at this; exact this
  have ho : s.view.ok p i := by
    rcases hp with rfl | hp
    · exact .inl ⟨rfl, hi⟩
    · exact .inr hp
  have := h.top_le
  exact ⟨h.v.to_ hp' (by omega) ho, h.v.sp_ hp' (by omega) ho⟩
theorem SkAt.node (h : SkAt w base s) {p : Nat} {x : Sn} (hx : s.ns[p]? = some x) : w.cell? ⟨x.blk, 0, none⟩ = some (.string x.key) ∧ w.cell? ⟨x.blk, 1, none⟩ = some (.int .i64 x.score) ∧
    w.cell? ⟨x.blk, 66, none⟩ = some (.int .i64 (x.lvl : Int)) ∧ w.cell? ⟨x.blk, 67, none⟩ = some (s.nd p) ∧ x.blk < w.heap.size ∧ s.at_ (p + 1) = x.blk := by
  exact h.v.ent hx
theorem SkAt.head (h : SkAt w base s) : w.cell? ⟨s.blk, 68, none⟩ = some (s.nd s.n) ∧ w.cell? ⟨s.blk, 69, none⟩ = some (.int .i64 (top s.lv : Int)) ∧ w.cell? ⟨s.blk, 70, none⟩ = some (.int .i64 (s.n : Int)) ∧ s.blk < w.heap.size ∧ (∀ i, w.frozen? ⟨s.blk, i, none⟩ = false) := h.v.head
end
/-- The nodes and the places of a path, as far as level m. -/
def Sk.nodesL (s : Sk) (k m : Nat) : List Value := (List.range 32).map fun j => if m ≤ j ∧ j < top s.lv then pt (s.at_ (prev s.lv j k)) else .pointer none
def Sk.placesL (s : Sk) (k m : Nat) : List Value := (List.range 32).map fun j => if m ≤ j ∧ j < top s.lv then .int .i64 (prev s.lv j k : Int) else .int .i64 0
theorem map_set {α : Type} (f g : Nat → α) (n i : Nat) (x : α) (hx : g i = x) (h : ∀ j, j ≠ i → g j = f j) : ((List.range n).map f).set i x = (List.range n).map g := by
  apply List.ext_getElem?
  intro j
  rw [List.getElem?_set, List.getElem?_map, List.getElem?_map, List.length_map, List.length_range]
  by_cases e : i = j
  · subst e
    rw [if_pos rfl]
    split
    · rw [List.getElem?_range ‹_›]; rw [Option.map_some, hx]
    · rw [List.getElem?_eq_none (by rw [List.length_range]; omega)]; rfl
  · rw [if_neg e]
    rcases Nat.lt_or_ge j n with h' | h'
    · rw [List.getElem?_range h', Option.map_some, Option.map_some, h j (fun e2 => e e2.symm)]
    · rw [List.getElem?_eq_none (by rw [List.length_range]; omega)]; rfl
theorem Sk.nodesL_set (s : Sk) (k : Nat) {m : Nat} (hm : m < top s.lv) : (s.nodesL k (m + 1)).set m (pt (s.at_ (prev s.lv m k))) = s.nodesL k m := by
  refine map_set _ _ _ _ _ (if_pos ⟨Nat.le_refl _, hm⟩) fun j hj => ?_
  by_cases h : m ≤ j ∧ j < top s.lv
  · rw [if_pos h, if_pos (by omega)]
  · rw [if_neg h, if_neg (by omega)]
theorem Sk.placesL_set (s : Sk) (k : Nat) {m : Nat} (hm : m < top s.lv) : (s.placesL k (m + 1)).set m (.int .i64 (prev s.lv m k : Int)) = s.placesL k m := by
  refine map_set _ _ _ _ _ (if_pos ⟨Nat.le_refl _, hm⟩) fun j hj => ?_
  by_cases h : m ≤ j ∧ j < top s.lv
  · rw [if_pos h, if_pos (by omega)]
  · rw [if_neg h, if_neg (by omega)]
theorem Sk.nodesL_top (s : Sk) (k : Nat) : s.nodesL k (top s.lv) = List.replicate 32 (.pointer none) := by
  unfold Sk.nodesL
  rw [List.map_congr_left (g := fun _ => Value.pointer none) (fun j _ => if_neg (by omega)), List.map_const', List.length_range]
theorem Sk.placesL_top (s : Sk) (k : Nat) : s.placesL k (top s.lv) = List.replicate 32 (.int .i64 0) := by
  unfold Sk.placesL
  rw [List.map_congr_left (g := fun _ => Value.int .i64 0) (fun j _ => if_neg (by omega)), List.map_const', List.length_range]
theorem Sk.nodesL_get (s : Sk) (k : Nat) {j : Nat} (hj : j < top s.lv) (h32 : j < 32) : (s.nodesL k 0)[j]? = some (pt (s.at_ (prev s.lv j k))) := by
  unfold Sk.nodesL
  rw [List.getElem?_map, List.getElem?_range h32, Option.map_some, if_pos ⟨Nat.zero_le _, hj⟩]
theorem Sk.placesL_get (s : Sk) (k : Nat) {j : Nat} (hj : j < top s.lv) (h32 : j < 32) : (s.placesL k 0)[j]? = some (.int .i64 (prev s.lv j k : Int)) := by
  unfold Sk.placesL
  rw [List.getElem?_map, List.getElem?_range h32, Option.map_some, if_pos ⟨Nat.zero_le _, hj⟩]
theorem Sk.nodesL_one (s : Sk) (k m : Nat) : ∀ v ∈ s.nodesL k m, v.oneCell' = true := by
  intro v hv
  obtain ⟨j, _, rfl⟩ := List.mem_map.1 hv
  split <;> rfl
theorem Sk.placesL_one (s : Sk) (k m : Nat) : ∀ v ∈ s.placesL k m, v.oneCell' = true := by
  intro v hv
  obtain ⟨j, _, rfl⟩ := List.mem_map.1 hv
  split <;> rfl
theorem prev_zero_top {lv : List Nat} {k : Nat} : prev lv (top lv) k = 0 := by
  refine prev_eq (Nat.zero_le _) (.inl rfl) fun r h1 _ h3 => ?_
  exact nxt_none.1 (nxt_top.2 (Nat.le_refl _)) r h1 h3
end Go.Proofs.YtifcpippfiglkaaGreat

/- Entries in order: how many stand ahead. -/
namespace Go.Proofs.YtifcpippfiglkaaGreat
open Go.RowKit Pal Pal.Skip

theorem ltE_irrefl (a : En) : ¬ ltE a a := by
  rintro (h | ⟨_, h⟩)
  · omega
  · exact ltB_irrefl _ h
theorem ltE_trans {a b c : En} (h : ltE a b) (k : ltE b c) : ltE a c := by
  rcases h with h | ⟨h1, h2⟩ <;> rcases k with k | ⟨k1, k2⟩
  · exact .inl (by omega)
  · exact .inl (by omega)
  · exact .inl (by omega)
  · exact .inr ⟨by omega, ltB_trans h2 k2⟩
theorem ltE_total {a b : En} (h : ¬ ltE a b) (hne : a ≠ b) : ltE b a := by
  by_cases h1 : a.s = b.s
  · refine .inr ⟨h1.symm, ltB_total (fun hl => h (.inr ⟨h1, hl⟩)) (fun e => hne ?_)⟩
    cases a; cases b
    simp only at h1 e
    rw [h1, e]
  · by_cases h2 : a.s < b.s
    · exact absurd (.inl h2) h
    · exact .inl (by omega)
instance : DecidableEq En := fun a b => decidable_of_iff (a.m.data = b.m.data ∧ a.s = b.s) ⟨fun h => by
    obtain ⟨⟨x⟩, s⟩ := a
    obtain ⟨⟨y⟩, t⟩ := b
    obtain ⟨h1, h2⟩ := h
    simp only at h1 h2
    rw [h1, h2], fun h => by rw [h]; exact ⟨rfl, rfl⟩⟩
def ahead (l : List En) (e : En) : Nat := (l.takeWhile fun x => decide (ltE x e)).length
theorem ahead_le (l : List En) (e : En) : ahead l e ≤ l.length := (List.takeWhile_sublist _).length_le
theorem ahead_cons (x : En) (l : List En) (e : En) : ahead (x :: l) e = if ltE x e then ahead l e + 1 else 0 := by
  unfold ahead
  rw [List.takeWhile_cons]
  by_cases h : ltE x e
  · rw [if_pos (by simpa using h), if_pos h, List.length_cons]
  · rw [if_neg (by simpa using h), if_neg h]; rfl
theorem ahead_lt : ∀ {l : List En} {e : En}, l.Pairwise ltE → ∀ {j : Nat} {x : En}, l[j]? = some x → (ltE x e ↔ j < ahead l e)
  | y :: l, e, hs, j, x, hx => by
    rw [List.pairwise_cons] at hs
    rw [ahead_cons]
    cases j with
    | zero =>
      rw [List.getElem?_cons_zero] at hx
      injection hx with hx
      subst hx
      by_cases h : ltE y e
      · rw [if_pos h]; exact ⟨fun _ => Nat.succ_pos _, fun _ => h⟩
      · rw [if_neg h]; exact ⟨fun h' => absurd h' h, fun h' => absurd h' (Nat.lt_irrefl _)⟩
    | succ j =>
      rw [List.getElem?_cons_succ] at hx
      have ih := ahead_lt (e := e) hs.2 hx
      by_cases h : ltE y e
      · rw [if_pos h, ih]; omega
      · rw [if_neg h]
        exact ⟨fun h' => absurd (ltE_trans (hs.1 x (List.mem_of_getElem? hx)) h') h, fun h' => by omega⟩
/-- It is there where it would stand, or nowhere. -/
theorem ahead_mem {l : List En} {e : En} (hs : l.Pairwise ltE) : e ∈ l ↔ l[ahead l e]? = some e := by
  constructor
  · intro h
    obtain ⟨j, hj, rfl⟩ := List.mem_iff_getElem.1 h
    have hx := List.getElem?_eq_getElem hj
    have h1 : ¬ j < ahead l l[j] := fun h' => ltE_irrefl _ ((ahead_lt hs hx).2 h')
    have h2 : ¬ ahead l l[j] < j := by
      intro h'
      have hk : ahead l l[j] < l.length := by omega
      have hy := List.getElem?_eq_getElem hk
      have h3 := (List.pairwise_iff_getElem.1 hs) _ _ hk hj h'
      have := (ahead_lt hs hy).1 h3
      omega
    have : ahead l l[j] = j := by omega
    rw [this]; exact hx
  · exact List.mem_of_getElem?
/-- In order still, with one put where it would stand. -/
theorem ahead_ins {l : List En} {e : En} (hs : l.Pairwise ltE) (hn : e ∉ l) : (l.take (ahead l e) ++ e :: l.drop (ahead l e)).Pairwise ltE := by
  induction l with
  | nil => simp [ahead]
  | cons x l ih =>
    rw [List.pairwise_cons] at hs
    rw [ahead_cons]
    by_cases h : ltE x e
    · rw [if_pos h, List.take_succ_cons, List.drop_succ_cons, List.cons_append, List.pairwise_cons]
      refine ⟨fun y hy => ?_, ih hs.2 (fun h' => hn (List.mem_cons_of_mem _ h'))⟩
      rcases List.mem_append.1 hy with hy | hy
      · exact hs.1 y (List.mem_of_mem_take hy)
      · rcases List.mem_cons.1 hy with rfl | hy
        · exact h
        · exact hs.1 y (List.mem_of_mem_drop hy)
    · rw [if_neg h, List.take_zero, List.drop_zero, List.nil_append, List.pairwise_cons]
      have hx : ltE e x := ltE_total h (fun e2 => hn (by rw [e2]; exact List.mem_cons_self))
      refine ⟨fun y hy => ?_, List.pairwise_cons.2 hs⟩
      rcases List.mem_cons.1 hy with rfl | hy
      · exact hx
      · exact ltE_trans hx (hs.1 y hy)

def Sn.en (x : Sn) : En := ⟨x.key, x.score⟩
def Sk.es (s : Sk) : List En := s.ns.map Sn.en
theorem Sk.es_len (s : Sk) : s.es.length = s.n := by unfold Sk.es Sk.n; simp
theorem Sk.es_get (s : Sk) (j : Nat) : s.es[j]? = (s.ns[j]?).map Sn.en := by unfold Sk.es; simp
section
variable {w : World} {base : Nat} {s : Sk}
theorem SkAt.prev0 (h : SkAt w base s) {k : Nat} (hk : k ≤ s.n) : prev s.lv 0 k = k :=
  prev_eq (Nat.le_refl _) (by rcases Nat.eq_zero_or_pos k with e | e; exact .inl e; exact .inr (h.lv_pos e hk)) fun r h1 h2 => absurd h2 (by omega)
theorem SkAt.nxt0 (h : SkAt w base s) (k : Nat) : nxt s.lv 0 k = if k < s.n then some (k + 1) else none := by
  split
  · rename_i hk
    exact nxt_some.2 ⟨Nat.lt_succ_self _, h.lv_pos (by omega) hk, fun r h1 h2 => by omega⟩
  · rename_i hk
    exact nxt_none.2 fun r h1 h2 => by have := h2.2.1; rw [s.lv_len] at this; omega
theorem SkAt.top0 (h : SkAt w base s) : top s.lv = 0 ↔ s.n = 0 := by
  have h2 := nxt_top (lv := s.lv) (i := 0)
  rw [h.nxt0 0] at h2
  constructor
  · intro e
    have := h2.2 (by omega)
    split at this
    · cases this
    · omega
  · intro e
    have := h2.1 (by rw [if_neg (by omega)])
    omega
end
end Go.Proofs.YtifcpippfiglkaaGreat

/- Packs, in plain words: their bytes. -/
namespace Go.Proofs.YtifcpippfiglkaaGreat
open Go.RowKit Pal

/-! ### a score's bytes -/
def u64N (s : Int) : Nat := (s % 18446744073709551616).toNat
def be8 (s : Int) : List UInt8 := (List.range 8).map fun i => UInt8.ofNat (u64N s / 2 ^ (8 * (7 - i)))
theorem be8_len (s : Int) : (be8 s).length = 8 := rfl
theorem u64N_lt (s : Int) : u64N s < 18446744073709551616 := by unfold u64N; omega
/-- What is read of i bytes. -/
def acc8 (f : Nat → Nat) : Nat → Nat
  | 0 => 0
  | i + 1 => acc8 f i * 256 + f i
theorem acc8_lt {f : Nat → Nat} (hf : ∀ i, f i < 256) : ∀ i, acc8 f i < 256 ^ i
  | 0 => by simp [acc8]
  | i + 1 => by
    have := acc8_lt hf i
    have := hf i
    unfold acc8
    rw [Nat.pow_succ]
    omega
theorem acc8_be (s : Int) : acc8 (fun i => u64N s / 2 ^ (8 * (7 - i)) % 256) 8 = u64N s := by
  have := u64N_lt s
  generalize u64N s = u at this
  simp only [acc8, Nat.reduceSub, Nat.reduceMul, Nat.reducePow, Nat.zero_mul, Nat.zero_add, Nat.sub_zero, Nat.sub_self, Nat.mul_zero, Nat.div_one]
  omega
theorem wrap_u64N {s : Int} (h1 : -9223372036854775808 ≤ s) (h2 : s ≤ 9223372036854775807) : IntKind.i64.wrap (u64N s : Int) = s := by
  unfold u64N
  simp only [IntKind.wrap, IntKind.bits, IntKind.signed]
  rw [Int.toNat_of_nonneg (by omega)]
  simp
  omega
def EnOk (e : En) : Prop := e.m.size ≤ 64 ∧ -9223372036854775808 ≤ e.s ∧ e.s ≤ 9223372036854775807

/-! ### an entry's bytes -/
def encE (e : En) : List UInt8 := UInt8.ofNat e.m.size :: (e.m.data.toList ++ (be8 e.s ++ [UInt8.ofNat (e.m.size + 9)]))
theorem size_toList (b : ByteArray) : b.data.toList.length = b.size := Array.length_toList
theorem encE_len (e : En) : (encE e).length = e.m.size + 10 := by
  unfold encE
  rw [List.length_cons, List.length_append, List.length_append, be8_len, size_toList]; rfl
theorem encE_mem {e : En} {j : Nat} (hj : j < e.m.size) : (encE e)[1 + j]? = e.m.data.toList[j]? := by
  unfold encE
  rw [Nat.add_comm 1 j, List.getElem?_cons_succ, List.getElem?_append_left (by rw [size_toList]; exact hj)]
theorem encE_be {e : En} {j : Nat} (hj : j < 8) : (encE e)[1 + e.m.size + j]? = some (UInt8.ofNat (u64N e.s / 2 ^ (8 * (7 - j)))) := by
  unfold encE
  rw [show 1 + e.m.size + j = e.m.size + j + 1 by omega, List.getElem?_cons_succ, List.getElem?_append_right (by rw [size_toList]; omega), size_toList, Nat.add_sub_cancel_left,
    List.getElem?_append_left (by rw [be8_len]; exact hj)]
  unfold be8
  rw [List.getElem?_map, List.getElem?_range hj]; rfl
theorem encE_end (e : En) : (encE e)[e.m.size + 9]? = some (UInt8.ofNat (e.m.size + 9)) := by
  unfold encE
  rw [show e.m.size + 9 = e.m.size + 8 + 1 by omega, List.getElem?_cons_succ, List.getElem?_append_right (by rw [size_toList]; omega), size_toList, Nat.add_sub_cancel_left,
    List.getElem?_append_right (by rw [be8_len]; omega), be8_len]; rfl

/-! ### a pack's bytes -/
def enc2 (n : Nat) : List UInt8 := [UInt8.ofNat (n / 256), UInt8.ofNat n]
def encs (l : List En) : List UInt8 := l.flatMap encE
def enc (l : List En) : List UInt8 := enc2 l.length ++ encs l
def pk (l : List En) : ByteArray := ⟨(enc l).toArray⟩
def offE (l : List En) (k : Nat) : Nat := 2 + (encs (l.take k)).length
structure POk (l : List En) : Prop where
  len : l.length ≤ 200
  ok : ∀ e ∈ l, EnOk e
theorem pk_size (l : List En) : (pk l).size = 2 + (encs l).length := by
  show ((enc l).toArray).size = _
  unfold enc enc2
  simp
  omega
theorem pk_toList (l : List En) : (pk l).data.toList = enc l := by unfold pk; simp
theorem encs_append (a b : List En) : encs (a ++ b) = encs a ++ encs b := List.flatMap_append
theorem offE_zero (l : List En) : offE l 0 = 2 := rfl
theorem offE_end (l : List En) : offE l l.length = (pk l).size := by unfold offE; rw [pk_size, List.take_length]
theorem offE_succ {l : List En} {k : Nat} {e : En} (h : l[k]? = some e) : offE l (k + 1) = offE l k + (e.m.size + 10) := by
  unfold offE
  have hk := (List.getElem?_eq_some_iff.1 h).1
  rw [List.getElem?_eq_getElem hk] at h
  injection h with h
  rw [List.take_succ_eq_append_getElem hk, encs_append, List.length_append, h]
  have : (encs [e]).length = e.m.size + 10 := by unfold encs; rw [List.flatMap_cons, List.flatMap_nil, List.append_nil, encE_len]
  omega
theorem enc_split {l : List En} {k : Nat} {e : En} (h : l[k]? = some e) : enc l = (enc2 l.length ++ encs (l.take k)) ++ (encE e ++ encs (l.drop (k + 1))) := by
  have hk := (List.getElem?_eq_some_iff.1 h).1
  rw [List.getElem?_eq_getElem hk] at h
  injection h with h
  unfold enc
  have e1 : encs l = encs (l.take k) ++ (encE e ++ encs (l.drop (k + 1))) := by
    conv => lhs; rw [← List.take_append_drop k l, List.drop_eq_getElem_cons hk, encs_append]
    rw [h]
    show _ ++ (encs (e :: _)) = _
    unfold encs
    rw [List.flatMap_cons]
  rw [e1, List.append_assoc]
theorem enc_at {l : List En} {k j : Nat} {e : En} (h : l[k]? = some e) (hj : j < e.m.size + 10) : (enc l)[offE l k + j]? = (encE e)[j]? := by
  have hl : (enc2 l.length ++ encs (l.take k)).length = offE l k := by unfold offE enc2; simp; omega
  rw [enc_split h, List.getElem?_append_right (by omega), hl, Nat.add_sub_cancel_left, List.getElem?_append_left (by rw [encE_len]; exact hj)]
theorem offE_lt {l : List En} {k : Nat} {e : En} (h : l[k]? = some e) : offE l k + (e.m.size + 10) ≤ (pk l).size := by
  have hl : (enc2 l.length ++ encs (l.take k)).length = offE l k := by unfold offE enc2; simp; omega
  have : (pk l).size = (enc l).length := by rw [← size_toList, pk_toList]
  rw [this, enc_split h]
  simp only [List.length_append] at hl ⊢
  rw [encE_len]
  omega
theorem encs_len_le {l : List En} (h : ∀ e ∈ l, EnOk e) : (encs l).length ≤ l.length * 74 := by
  induction l with
  | nil => simp [encs]
  | cons x l ih =>
    have h1 := ih fun e he => h e (List.mem_cons_of_mem _ he)
    have h2 := (h x List.mem_cons_self).1
    have : encs (x :: l) = encE x ++ encs l := rfl
    rw [this, List.length_append, encE_len, List.length_cons]
    omega
theorem pk_le {l : List En} (h : POk l) : (pk l).size ≤ 14802 := by
  have := encs_len_le h.ok
  have := h.len
  rw [pk_size]; omega
/-- A byte. -/
theorem pk_get {l : List En} {i : Nat} (hi : i < (pk l).size) : (enc l)[i]? = some ((pk l)[i]'hi) := by
  rw [← pk_toList]
  show _ = some ((pk l).data[i]'hi)
  rw [List.getElem?_eq_getElem (by rw [size_toList]; exact hi)]
  rfl
theorem pk_first {l : List En} {k : Nat} {e : En} (h : l[k]? = some e) (ho : e.m.size ≤ 64) (hi : offE l k < (pk l).size) : ((pk l)[offE l k]'hi).toNat = e.m.size := by
  have := pk_get hi
  have h2 := enc_at h (j := 0) (by omega)
  rw [Nat.add_zero, this] at h2
  have h3 : (encE e)[0]? = some (UInt8.ofNat e.m.size) := rfl
  rw [h3] at h2
  injection h2 with h2
  rw [h2, UInt8.toNat_ofNat']
  omega
theorem pk_last {l : List En} {k : Nat} {e : En} (h : l[k]? = some e) (ho : e.m.size ≤ 64) (hi : offE l k + (e.m.size + 9) < (pk l).size) : ((pk l)[offE l k + (e.m.size + 9)]'hi).toNat = e.m.size + 9 := by
  have := pk_get hi
  have h2 := enc_at h (j := e.m.size + 9) (by omega)
  rw [this, encE_end] at h2
  injection h2 with h2
  rw [h2, UInt8.toNat_ofNat']
  omega
theorem pk_be {l : List En} {k j : Nat} {e : En} (h : l[k]? = some e) (hj : j < 8) (hi : offE l k + 1 + e.m.size + j < (pk l).size) : ((pk l)[offE l k + 1 + e.m.size + j]'hi).toNat = u64N e.s / 2 ^ (8 * (7 - j)) % 256 := by
  have := pk_get hi
  have h2 := enc_at h (j := 1 + e.m.size + j) (by omega)
  rw [← Nat.add_assoc, ← Nat.add_assoc, this, encE_be hj] at h2
  injection h2 with h2
  rw [h2, UInt8.toNat_ofNat']
theorem pk_extract {l : List En} {k : Nat} {e : En} (h : l[k]? = some e) : (pk l).extract (offE l k + 1) (offE l k + 1 + e.m.size) = e.m := by
  have hle := offE_lt h
  have h1 : ((pk l).extract (offE l k + 1) (offE l k + 1 + e.m.size)).data.toList = e.m.data.toList := by
    rw [ByteArray.data_extract, Array.toList_extract, pk_toList]
    apply List.ext_getElem?
    intro j
    rw [List.extract_eq_take_drop, List.getElem?_take, Nat.add_sub_cancel_left]
    by_cases hj : j < e.m.size
    · rw [if_pos hj, List.getElem?_drop, Nat.add_assoc, enc_at h (by omega), encE_mem hj]
    · rw [if_neg hj, List.getElem?_eq_none (by rw [size_toList]; omega)]
  generalize (pk l).extract (offE l k + 1) (offE l k + 1 + e.m.size) = x at h1
  obtain ⟨⟨x⟩⟩ := x
  obtain ⟨⟨⟨y⟩⟩, z⟩ := e
  simp only at h1
  rw [h1]
end Go.Proofs.YtifcpippfiglkaaGreat

/- A region that draws its order, within a round of a range over a function: as in a plain walk. -/
namespace Pal
open Go Go.RowKit

def noDefer (ops : Array Oper) : Bool := ops.toList.all fun o => match o.op with | .defer _ => false | _ => true
theorem noDefer_spec {ops : Array Oper} (h : noDefer ops = true) {i : Nat} {o : Oper} (ho : ops[i]? = some o) : ∀ c, o.op ≠ .defer c := by
  intro c hc
  have hm : o ∈ ops.toList := Array.mem_toList_iff.2 (Array.mem_of_getElem? ho)
  have := List.all_eq_true.1 h o hm
  rw [hc] at this
  cases this

section
variable {P : Program} {l n : Nat} {Q : Exit → Act → World → Prop}
theorem rowsIn_of_rows {row : String} {args : Array Value} {w : World} {R : Value → World → Prop} (h : Rows P row args w R) : RowsIn (Fence.wide.inRound l) n P row args w R := fun c cs _ =>
  let ⟨v, w', r, s⟩ := h c cs
  ⟨v, w', r, stepsIn_wide.2 s⟩

theorem wpIn_of_wp {o : Oper} {a : Act} {w : World} {K : Act → World → Prop} (hd : ∀ c, o.op ≠ .defer c) (h : o.wp P a w K Q) : o.wpIn (Fence.wide.inRound l) n P a w K Q := by
  refine ⟨fun _ _ => trivial, ?_⟩
  rw [Oper.semAt_plain _ _ _ hd]
  unfold Oper.wp at h
  generalize (execOp a.eval o).run P w = r at h ⊢
  cases r with
  | ok x w' =>
    cases x with
    | value v => exact h
    | skip => exact h
    | defer d => exact h
    | enter f args => exact ⟨fun h => (by cases h), CallsIn.inRound l (callsIn_wide.2 h)⟩
    | row row args => exact ⟨fun h => (by cases h), rowsIn_of_rows h⟩
    | round _ _ _ _ _ => exact h.elim
    | _ => exact h.elim
  | halt x w' =>
    cases x with
    | panic v => exact h
    | _ => exact h.elim

theorem wpAnyIn_of_wpAny {md : Region.Mode} {ops : Array Oper} (hd : noDefer ops = true) (hQ : ¬ LetsOut Q) : ∀ (fuel : Nat) (listed : Array Bool) (a : Act) (w : World), wpAny P md ops Q fuel listed a w → wpAnyIn (Fence.wide.inRound l) n P md ops Q fuel listed a w
  | 0, _, _, _, h => h
  | fuel + 1, listed, a, w, h => ⟨h.1, fun i hi => by
      have h2 := h.2 i hi
      unfold wpOp at h2
      unfold wpOpIn
      cases ho : ops[i]? with
      | none => rw [ho] at h2; exact wpAnyIn_of_wpAny hd hQ fuel _ _ _ h2
      | some o =>
        simp only [ho] at h2 ⊢
        split at h2
        · rename_i hw
          rw [if_pos hw]
          rcases h2 with h2 | h2
          · exact Oper.wpIn_mono (fun a' w' h3 => wpAnyIn_of_wpAny hd hQ fuel _ _ _ h3) (wpIn_of_wp (noDefer_spec hd ho) h2)
          · exact absurd h2.2 hQ
        · rename_i hw
          rw [if_neg hw]
          exact ⟨fun _ _ => trivial, wpAnyIn_of_wpAny hd hQ fuel _ _ _ h2⟩⟩

theorem wpIn_region_plain {id : Nat} {ops : Array Oper} {a : Act} {w : World} (hm : P.follows .mixedOrders = true) (hd : noDefer ops = true) (hQ : ¬ LetsOut Q)
    (h : wpAny P .any ops Q ops.size (Array.replicate ops.size false) a { w with drawn := w.drawn + 1 }) : (Code.region id ops true).wpIn (Fence.wide.inRound l) n P Q a w :=
  wpIn_region_any hm (wpAnyIn_of_wpAny hd hQ _ _ _ _ h)

/-- 'go_still_tail', in a round. -/
theorem wpIn_region_still_tail {id : Nat} {a : Act} {w : World} {ol : List Oper} (k : Nat) (hm : P.follows .mixedOrders = true) (hd : noDefer ol.toArray = true) (hQ : ¬ LetsOut Q) (hB : Region.lexTailB .any ol.toArray k = true)
    (h : wpStill P ol.toArray { w with drawn := w.drawn + 1 } (fun a' => wpList P ol.toArray Q (ol.drop k) a' { w with drawn := w.drawn + 1 }) (ol.take k) a) : (Code.region id ol.toArray true).wpIn (Fence.wide.inRound l) n P Q a w := by
  simp only [Region.lexTailB, Bool.and_eq_true, decide_eq_true_eq] at hB
  obtain ⟨⟨⟨⟨hsel, hn⟩, hs⟩, hc⟩, hlex⟩ := hB
  have hn' : k < ol.length := by simpa using hn
  have htl : (ol.take k).length = k := by simp; omega
  have hdl : (ol.drop k).length = ol.toArray.size - k := by simp
  have inv0 : HeadInv .any ol.toArray k (Array.replicate ol.toArray.size false) :=
    ⟨by simp, fun j oj _ hl => (by rw [getD_replicate_false] at hl; cases hl), fun t _ ht => getD_in (by simpa using ht) (getD_replicate_false _ _)⟩
  have H := wpAnyL_lex (md := .any) (g := ol.toArray.size - k) hsel hs hc hn (ol.take k) 0 _ a (fun j hj => by
    have hj' : j < k := by rw [htl] at hj; exact hj
    simp [hj']) (by simpa using htl) inv0 (by rw [htl]; exact hlex) h
  refine wpIn_region_plain hm hd hQ ?_
  have := wpAny_of_head (Q' := Q) (g := ol.toArray.size - k) (fun listed a' hL => by
    have := wpAny_of_seq (md := .any) (Q' := Q) (ol.drop k) k listed a' { w with drawn := w.drawn + 1 } (fun j => by simp [List.getElem?_drop]) (by rw [hdl]; exact hL.1) hL.2
    rwa [hdl] at this) _ _ _ H
  rw [htl, show k + (ol.toArray.size - k) = ol.toArray.size by omega] at this
  exact this
end

/-! ### reads taken first, S held as long as something is left -/
section
variable {P : Program} {ops : Array Oper} {Q : Exit → Act → World → Prop} {md : Region.Mode} {S : World → Prop}

/-- Number x of the region waits for number i. -/
def waitsB (md : Region.Mode) (ops : Array Oper) (x i : Nat) : Bool := match ops[x]? with
  | some o => o.after.any fun e => Region.binds md e && e.on == i
  | none => false

/-- S holds behind each operation but number x. -/
def wpAnyF (P : Program) (md : Region.Mode) (ops : Array Oper) (Q : Exit → Act → World → Prop) (S : World → Prop) (x : Nat) : Nat → Array Bool → Act → World → Prop
  | 0, listed, a, w => Region.ready md ops listed = [] ∧ Q .normal a w
  | fuel + 1, listed, a, w =>
    (Region.ready md ops listed = [] → Q .normal a w) ∧
    ∀ i ∈ Region.ready md ops listed, wpOp P ops Q i (fun a' w' => (i ≠ x → S w') ∧ wpAnyF P md ops Q S x fuel (listed.setIfInBounds i true) a' w') a w

theorem wpAny_of_wpAnyF {x : Nat} : ∀ (fuel : Nat) (listed : Array Bool) (a : Act) (w : World), wpAnyF P md ops Q S x fuel listed a w → wpAny P md ops Q fuel listed a w
  | 0, _, _, _, h => h
  | fuel + 1, _, _, _, h => ⟨h.1, fun i hi => wpOp_mono (fun _ _ h' => wpAny_of_wpAnyF fuel _ _ _ h'.2) (h.2 i hi)⟩

/-- Who came up ahead of i does not wait for i. -/
theorem not_waits {i : Nat} {listed : Array Bool} {oj : Oper} (hr : i ∈ Region.ready md ops listed) (hall : ∀ e ∈ oj.after, Region.binds md e = true → listed.getD e.on false = true) :
    ∀ e ∈ oj.after, Region.binds md e = true → e.on ≠ i := fun e he hb heq => by
  have h1 := hall e he hb
  have h0 := (mem_ready.1 hr).1
  rw [heq] at h1
  rcases Nat.lt_or_ge i listed.size with h' | h'
  · simp [h'] at h0 h1; rw [h0] at h1; cases h1
  · simp [Array.getElem?_eq_none h'] at h1

theorem wpAnyF_first {i x : Nat} {oi : Oper} {v : Value} (hi : ops[i]? = some oi) (hsel : ∀ (j : Nat) (o : Oper) cs b, ops[j]? = some o → o.op ≠ .select cs b) (hx : waitsB md ops x i = true)
    (hQ : ∀ c a w, Q (.panic c) (a.put oi.dst v) w → Q (.panic c) a w) :
    ∀ (fuel : Nat) (listed : Array Bool) (a : Act) (w : World),
      (∀ j oj, ops[j]? = some oj → j ≠ i → listed.getD j true = false → (∀ e ∈ oj.after, Region.binds md e = true → e.on ≠ i) → oi.apart ops oj = true) →
      i ∈ Region.ready md ops listed → YieldsIf P ops S oi v a → S w →
      wpAnyF P md ops Q S x fuel (listed.setIfInBounds i true) (a.put oi.dst v) w → wpAnyF P md ops Q S x (fuel + 1) listed a w
  | fuel, listed, a, w, hfree, hr, hy, hS, H => by
    refine ⟨fun h => (by rw [h] at hr; cases hr), fun j hj => ?_⟩
    by_cases hji : j = i
    · subst hji
      exact hy.wpOp hi hS ⟨fun _ => hS, H⟩
    · have hj' := ready_mono hj hji
      cases fuel with
      | zero => rw [H.1] at hj'; cases hj'
      | succ fuel =>
        obtain ⟨hjun, oj, hoj, hall⟩ := mem_ready.1 hj
        have hnw := not_waits hr hall
        have hjx : j ≠ x := fun e => by
          subst e
          unfold waitsB at hx
          rw [hoj] at hx
          obtain ⟨e, he, hb⟩ := Array.any_eq_true'.1 hx
          simp only [Bool.and_eq_true, beq_iff_eq] at hb
          exact hnw e he hb.1 hb.2
        have h2 := wpOp_putIf hoj (hfree j oj hoj hji hjun hnw) (fun cs b => hsel i oi cs b hi) (fun cs b => hsel j oj cs b hoj) hQ hy (H.2 j hj')
        have hr' : i ∈ Region.ready md ops (listed.setIfInBounds j true) := ready_mono hr (Ne.symm hji)
        refine wpOp_mono (fun a' w' h3 => ?_) h2
        obtain ⟨hy', hS', H'⟩ := h3
        rw [Array.setIfInBounds_comm _ _ (Ne.symm hji)] at H'
        exact ⟨fun _ => hS' hjx, wpAnyF_first hi hsel hx hQ fuel _ a' w' (fun k ok hk hki hun hno => by
          refine hfree k ok hk hki ?_ hno
          by_cases hjk : j = k
          · subst hjk; exact hjun
          · rw [getD_set_ne true hjk] at hun; exact hun) hr' hy' (hS' hjx) H'⟩

/-- Number i, a read, is taken first. -/
theorem wpAnyF_take (i : Nat) {x : Nat} {oi : Oper} {v : Value} {fuel : Nat} {listed : Array Bool} {a : Act} {w : World} (hi : ops[i]? = some oi)
    (hs : Region.noSelect ops = true) (hf : Region.free md ops listed i = true) (hr : (Region.ready md ops listed).contains i = true) (hx : waitsB md ops x i = true)
    (hQ : ∀ c a w, Q (.panic c) (a.put oi.dst v) w → Q (.panic c) a w) (hS : S w) (hw : Region.wanted oi (yielded ops a.tmps) = true) (hy : ∀ w, S w → (execOp a.eval oi).run P w = .ok (.value v) w)
    (h : wpAnyF P md ops Q S x fuel (listed.setIfInBounds i true) (a.put oi.dst v) w) : wpAnyF P md ops Q S x (fuel + 1) listed a w :=
  wpAnyF_first hi (Region.noSelect_spec hs) hx hQ fuel listed a w (Region.free_spec hi hf) (by simpa using hr) (.inl ⟨hw, hy⟩) hS h

/-- Number i comes up alone. -/
theorem wpAnyF_one (i : Nat) {x : Nat} {o : Oper} {fuel : Nat} {listed : Array Bool} {a : Act} {w : World} (hr : Region.ready md ops listed = [i]) (ho : ops[i]? = some o)
    (h : ∀ K : Act → World → Prop, (∀ a' w', (i ≠ x → S w') → wpAnyF P md ops Q S x fuel (listed.setIfInBounds i true) a' w' → K a' w') → if Region.wanted o (yielded ops a.tmps) = true then Oper.wp P o a w K Q else K (a.put o.dst undef) w) :
    wpAnyF P md ops Q S x (fuel + 1) listed a w := by
  refine ⟨fun h0 => (by rw [h0] at hr; cases hr), fun j hj => ?_⟩
  rw [hr] at hj
  have hj : j = i := by simpa using hj
  subst hj
  have h2 := h _ (fun a' w' h1 h2 => (⟨h1, h2⟩ : (j ≠ x → S w') ∧ wpAnyF P md ops Q S x fuel (listed.setIfInBounds j true) a' w'))
  unfold wpOp
  rw [ho]
  dsimp only
  split
  · rename_i hw; rw [if_pos hw] at h2; exact .inl h2
  · rename_i hw; rw [if_neg hw] at h2; exact h2

/-- Each of those that may come up. -/
def AllF (P : Program) (md : Region.Mode) (ops : Array Oper) (Q : Exit → Act → World → Prop) (S : World → Prop) (x fuel : Nat) (listed : Array Bool) (a : Act) (w : World) (rs : List Nat) : Prop :=
  ∀ i ∈ rs, wpOp P ops Q i (fun a' w' => (i ≠ x → S w') ∧ wpAnyF P md ops Q S x fuel (listed.setIfInBounds i true) a' w') a w
theorem AllF.nil {x fuel : Nat} {listed : Array Bool} {a : Act} {w : World} : AllF P md ops Q S x fuel listed a w [] := fun _ h => by cases h
theorem AllF.cons {x fuel : Nat} {listed : Array Bool} {a : Act} {w : World} {i : Nat} {o : Oper} {rs : List Nat} (ho : ops[i]? = some o)
    (h : ∀ K : Act → World → Prop, (∀ a' w', (i ≠ x → S w') → wpAnyF P md ops Q S x fuel (listed.setIfInBounds i true) a' w' → K a' w') → if Region.wanted o (yielded ops a.tmps) = true then Oper.wp P o a w K Q else K (a.put o.dst undef) w)
    (hs : AllF P md ops Q S x fuel listed a w rs) : AllF P md ops Q S x fuel listed a w (i :: rs) := fun j hj => by
  rcases List.mem_cons.1 hj with rfl | hj
  · have h2 := h _ (fun a' w' h1 h2 => (⟨h1, h2⟩ : (j ≠ x → S w') ∧ wpAnyF P md ops Q S x fuel (listed.setIfInBounds j true) a' w'))
    unfold wpOp
    rw [ho]
    dsimp only
    split
    · rename_i hw; rw [if_pos hw] at h2; exact .inl h2
    · rename_i hw; rw [if_neg hw] at h2; exact h2
  · exact hs j hj
theorem wpAnyF_ready {x : Nat} (rs : List Nat) {fuel : Nat} {listed : Array Bool} {a : Act} {w : World} (hr : Region.ready md ops listed = rs) (hne : rs ≠ [])
    (h : AllF P md ops Q S x fuel listed a w rs) : wpAnyF P md ops Q S x (fuel + 1) listed a w :=
  ⟨fun h0 => absurd (hr.symm.trans h0) hne, hr ▸ h⟩

theorem wpAnyF_done {x : Nat} {listed : Array Bool} {a : Act} {w : World} (hr : Region.ready md ops listed = []) (h : Q .normal a w) : ∀ fuel, wpAnyF P md ops Q S x fuel listed a w
  | 0 => ⟨hr, h⟩
  | _ + 1 => ⟨fun _ => h, by rw [hr]; simp⟩

theorem wpIn_region_held {l n id : Nat} {ol : List Oper} {a : Act} {w : World} (x : Nat) (S : World → Prop) (hm : P.follows .mixedOrders = true) (hd : noDefer ol.toArray = true) (hQ : ¬ LetsOut Q)
    (h : wpAnyF P .any ol.toArray Q S x ol.toArray.size (Array.replicate ol.toArray.size false) a w.drew) : (Code.region id ol.toArray true).wpIn (Fence.wide.inRound l) n P Q a w :=
  wpIn_region_plain hm hd hQ (wpAny_of_wpAnyF _ _ _ _ h)
theorem wp_region_heldF {id : Nat} {ol : List Oper} {a : Act} {w : World} (x : Nat) (S : World → Prop) (hm : P.follows .mixedOrders = true)
    (h : wpAnyF P .any ol.toArray Q S x ol.toArray.size (Array.replicate ol.toArray.size false) a w.drew) : (Code.region id ol.toArray true).wp P Q a w :=
  wp_region_any hm (wpAny_of_wpAnyF _ _ _ _ h)
end
end Pal
