/- A slot's chain turned: what the dict keeps. -/
import Derived.Test.YthbjjjcppijcbaaDP3int
namespace Go.Proofs.Ythbjjjcppijcbaa.Dint
open Go.RowKit Pal

/-- One slot's chain is c, the number is n. -/
def Dm.upd (d : Dm) (ti : Nat) (t : Tb) (i : Nat) (c : Ch) (n : Nat) : Dm := { d.setTab ti (t.set i c) with n := n }
/-- All other nodes. -/
def Dm.rest (d : Dm) (ti : Nat) (t : Tb) (i : Nat) : List Nd := (d.setTab ti (t.set i [])).nodes

theorem upd_nodes (d : Dm) (ti : Nat) (t : Tb) (i : Nat) (c : Ch) (n : Nat) : (d.upd ti t i c n).nodes = (d.setTab ti (t.set i c)).nodes := rfl
theorem upd_perm {d : Dm} {ti : Nat} {t : Tb} (ht : d.tab ti = some t) {i : Nat} (hi : i < t.len) (c : Ch) (n : Nat) : (d.upd ti t i c n).nodes.Perm (c ++ d.rest ti t i) := setTab_perm ht hi c
theorem rest_perm {d : Dm} {ti : Nat} {t : Tb} (ht : d.tab ti = some t) {i : Nat} (hi : i < t.len) : d.nodes.Perm (t.at i ++ d.rest ti t i) := tab_perm ht hi

theorem setTab_t0 {d : Dm} {ti : Nat} {t : Tb} (ht : d.tab ti = some t) (i : Nat) (c : Ch) : (d.setTab ti (t.set i c)).t0.len = d.t0.len ∧ (d.setTab ti (t.set i c)).t1.map Tb.len = d.t1.map Tb.len ∧ (d.setTab ti (t.set i c)).blk = d.blk ∧ (d.setTab ti (t.set i c)).seed = d.seed ∧ (d.setTab ti (t.set i c)).at_ = d.at_ ∧ (d.setTab ti (t.set i c)).n = d.n := by
  unfold Dm.tab at ht
  unfold Dm.setTab
  split at ht
  · rename_i h0
    injection ht with ht
    subst ht
    rw [if_pos h0]
    exact ⟨Tb.set_len _ _ _, rfl, rfl, rfl, rfl, rfl⟩
  · rename_i h0
    rw [if_neg h0]
    exact ⟨rfl, by rw [ht]; simp [Tb.set_len], rfl, rfl, rfl, rfl⟩

theorem upd_ok {d : Dm} (h : d.Ok) {ti : Nat} {t : Tb} (ht : d.tab ti = some t) {i : Nat} (hi : i < t.len) {c : Ch} {n : Nat} (hin : ∀ x ∈ c, x.sum % t.len = i) (hm : ti = 0 → i < d.at_ → c = [])
    (hs : ∀ x ∈ c, x.sum = sumN d.seed x.key.data.toList) (hv : ∀ x ∈ c, VOk x.v) (hk : ((c ++ d.rest ti t i).map (·.key)).Nodup) (hn : n = (c ++ d.rest ti t i).length) : (d.upd ti t i c n).Ok := by
  have hp := upd_perm ht hi c n
  have hr := rest_perm ht hi
  obtain ⟨e0, e1, e2, e3, e4, e5⟩ := setTab_t0 ht i c
  have hmem : ∀ x ∈ (d.upd ti t i c n).nodes, x ∈ c ∨ x ∈ d.nodes := fun x hx => by
    rcases List.mem_append.1 (hp.mem_iff.1 hx) with h | h
    · exact .inl h
    · exact .inr (hr.mem_iff.2 (List.mem_append.2 (.inr h)))
  have hsum : ∀ x ∈ (d.upd ti t i c n).nodes, x.sum = sumN (d.upd ti t i c n).seed x.key.data.toList := fun x hx => by
    have e : (d.upd ti t i c n).seed = d.seed := e3
    rw [e]
    exact (hmem x hx).elim (hs x) (h.sums x)
  have hvok : ∀ x ∈ (d.upd ti t i c n).nodes, VOk x.v := fun x hx => (hmem x hx).elim (hv x) (h.vok x)
  have hkeys : ((d.upd ti t i c n).nodes.map (·.key)).Nodup := (hp.map _).nodup_iff.2 hk
  have hcount : (d.upd ti t i c n).n = (d.upd ti t i c n).nodes.length := by rw [hp.length_eq]; exact hn
  have hsz := (tab_ok h ht).1
  have htin := (tab_ok h ht).2.1
  have hinset : ∀ j x, j < (t.set i c).len → x ∈ (t.set i c).at j → x.sum % (t.set i c).len = j := fun j x hj hx => by
    rw [Tb.set_len] at hj ⊢
    rw [Tb.set_at hi] at hx
    split at hx
    · rename_i e; rw [← e]; exact hin x hx
    · exact htin j x hj hx
  unfold Dm.tab at ht
  by_cases h0 : ti = 0
  · rw [if_pos h0] at ht
    injection ht with ht
    have eu : d.upd ti t i c n = { d with t0 := t.set i c, n := n } := by unfold Dm.upd Dm.setTab; rw [if_pos h0]
    rw [eu] at hsum hvok hkeys hcount ⊢
    refine { seed := h.seed, s0 := hsz.set i c, s1 := h.s1, in0 := hinset, in1 := h.in1, sums := hsum, keys := hkeys, vok := hvok, count := hcount, atlt := fun u hu => ?_, at0 := h.at0, moved := fun j hj => ?_ }
    · show d.at_ < (t.set i c).len
      rw [Tb.set_len, ← ht]; exact h.atlt u hu
    · show (t.set i c).at j = []
      have hj : j < d.at_ := hj
      rw [Tb.set_at hi]
      split
      · rename_i e; exact hm h0 (by omega)
      · rw [← ht]; exact h.moved j hj
  · rw [if_neg h0] at ht
    have eu : d.upd ti t i c n = { d with t1 := some (t.set i c), n := n } := by unfold Dm.upd Dm.setTab; rw [if_neg h0]
    rw [eu] at hsum hvok hkeys hcount ⊢
    refine { seed := h.seed, s0 := h.s0, s1 := fun u hu => ?_, in0 := h.in0, in1 := fun u hu => ?_, sums := hsum, keys := hkeys, vok := hvok, count := hcount, atlt := fun u hu => h.atlt t ht, at0 := fun e => (by cases e), moved := h.moved }
    · injection hu with hu; subst hu; exact hsz.set i c
    · injection hu with hu; subst hu; exact hinset

/-- A dict whose number is written. -/
theorem DmAt.num {w w' : World} {d : Dm} (h : DmAt w d) (n : Nat) (hc : Chg (fun g => g = d.blk) w w') (hh : Blk w' d.blk 76 ((dmCells d).setIfInBounds 4 (.int .i64 (n : Int)))) : DmAt w' { d with n := n } :=
  h.head hc (by exact hh) rfl rfl

/-! ### chains that are turned in memory -/
theorem chAt_setv {W : World} (v : Value) (x : Nd) (post : Ch) : ∀ (pre : Ch), chAt W (pre ++ x :: post) → ((pre ++ x :: post).map (·.blk)).Nodup → chAt (W.setCell ⟨x.blk, 2, none⟩ v) (pre ++ { x with v := v } :: post)
  | [], ⟨h1, h2⟩, hn => by
    refine ⟨?_, h2.chg ((Chg.refl (fun g => g = x.blk) W).store rfl 2 v) fun y hy e => ?_⟩
    · exact h1.set 2 v
    · simp only [List.nil_append, List.map_cons, List.nodup_cons] at hn
      exact hn.1 (List.mem_map.2 ⟨y, hy, e⟩)
  | y :: pre, ⟨h1, h2⟩, hn => by
    simp only [List.cons_append, List.map_cons, List.nodup_cons] at hn
    refine ⟨?_, chAt_setv v x post pre h2 hn.2⟩
    have hne : y.blk ≠ x.blk := fun e => hn.1 (List.mem_map.2 ⟨x, by simp, e.symm⟩)
    have := h1.far (p := ⟨x.blk, 2, none⟩) hne v
    have e : hd (pre ++ x :: post) = hd (pre ++ { x with v := v } :: post) := by cases pre <;> rfl
    exact e ▸ this

theorem chAt_cut {W : World} (y x : Nd) (post : Ch) : ∀ (pre : Ch), chAt W (pre ++ y :: x :: post) → ((pre ++ y :: x :: post).map (·.blk)).Nodup → chAt (W.setCell ⟨y.blk, 3, none⟩ (hd post)) (pre ++ y :: post)
  | [], ⟨h1, h2⟩, hn => by
    refine ⟨h1.set 3 (hd post), h2.2.chg ((Chg.refl (fun g => g = y.blk) W).store rfl 3 (hd post)) fun z hz e => ?_⟩
    simp only [List.nil_append, List.map_cons, List.nodup_cons] at hn
    exact hn.1 (List.mem_cons.2 (.inr (List.mem_map.2 ⟨z, hz, e⟩)))
  | z :: pre, ⟨h1, h2⟩, hn => by
    simp only [List.cons_append, List.map_cons, List.nodup_cons] at hn
    refine ⟨?_, chAt_cut y x post pre h2 hn.2⟩
    have hne : z.blk ≠ y.blk := fun e => hn.1 (List.mem_map.2 ⟨y, by simp, e.symm⟩)
    have := h1.far (p := ⟨y.blk, 3, none⟩) hne (hd post)
    have e : hd (pre ++ y :: x :: post) = hd (pre ++ y :: post) := by cases pre <;> rfl
    exact e ▸ this

theorem tbCells_same {t : Tb} {i : Nat} (hi : i < t.len) {c : Ch} (e : hd c = hd (t.at i)) : tbCells (t.set i c) = tbCells t := by
  rw [tbCells_set, e]
  apply Array.ext_getElem?
  intro j
  by_cases h : i = j
  · subst h; rw [Array.getElem?_setIfInBounds_self_of_lt (by rw [tbCells_size]; exact hi), tbCells_get hi]
  · rw [Array.getElem?_setIfInBounds_ne h]

theorem nodup_at {W : World} {d : Dm} (h : DmAt W d) {ti : Nat} {t : Tb} (ht : d.tab ti = some t) {i : Nat} (hi : i < t.len) (c : Ch) (hc : (c.map (·.blk)).Sublist ((t.at i).map (·.blk))) : ((c ++ d.rest ti t i).map (·.blk)).Nodup := by
  have hn : ((t.at i ++ d.rest ti t i).map (·.blk)).Nodup := ((rest_perm ht hi).map _).nodup_iff.1 h.nodup
  rw [List.map_append] at hn ⊢
  exact hn.sublist (hc.append_right _)

end Go.Proofs.Ythbjjjcppijcbaa.Dint
