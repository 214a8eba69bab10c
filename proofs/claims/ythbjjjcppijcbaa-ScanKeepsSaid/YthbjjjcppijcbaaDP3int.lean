/- A dict of which one slot is turned: plainly, and in memory. -/
import Derived.Test.YthbjjjcppijcbaaDPint
namespace Go.Proofs.Ythbjjjcppijcbaa.Dint
open Go.RowKit Pal

/-- The two tables by their number. -/
def Dm.tab (d : Dm) (i : Nat) : Option Tb := if i = 0 then some d.t0 else d.t1
def Dm.setTab (d : Dm) (ti : Nat) (t : Tb) : Dm := if ti = 0 then { d with t0 := t } else { d with t1 := some t }

theorem tab0 (d : Dm) : d.tab 0 = some d.t0 := rfl
theorem tab_ok {d : Dm} (h : d.Ok) {i : Nat} {t : Tb} (ht : d.tab i = some t) : t.Sized ∧ (∀ j x, j < t.len → x ∈ t.at j → x.sum % t.len = j) ∧ ∀ x ∈ t.nodes, x ∈ d.nodes := by
  unfold Dm.tab at ht
  split at ht
  · injection ht with ht; subst ht; exact ⟨h.s0, h.in0, fun x hx => mem_nodes0 hx⟩
  · exact ⟨h.s1 t ht, h.in1 t ht, fun x hx => mem_nodes1 ht hx⟩
theorem tab_at {w : World} {d : Dm} (h : DmAt w d) {i : Nat} {t : Tb} (ht : d.tab i = some t) : tbAt w t := by
  unfold Dm.tab at ht
  split at ht
  · injection ht with ht; subst ht; exact h.a0
  · exact h.a1 t ht
theorem tab_foot {d : Dm} {i : Nat} {t : Tb} (ht : d.tab i = some t) : d.foot t.blk := by
  unfold Dm.tab at ht
  split at ht
  · injection ht with ht; subst ht; exact .inr (.inl rfl)
  · exact .inr (.inr (.inl ⟨t, ht, rfl⟩))
theorem tab_nodes {d : Dm} {i : Nat} {t : Tb} (ht : d.tab i = some t) {x : Nd} (hx : x ∈ t.nodes) : x ∈ d.nodes := by
  unfold Dm.tab at ht
  split at ht
  · injection ht with ht; subst ht; exact mem_nodes0 hx
  · exact mem_nodes1 ht hx

theorem setTab_perm {d : Dm} {ti : Nat} {t : Tb} (ht : d.tab ti = some t) {i : Nat} (hi : i < t.len) (c : Ch) :
    ((d.setTab ti (t.set i c)).nodes).Perm (c ++ (d.setTab ti (t.set i [])).nodes) := by
  have h1 := nodes_set_perm t hi c
  have h2 := nodes_set_perm t hi []
  rw [List.append_nil] at h2
  have h3 : ((t.set i c).nodes ++ t.at i).Perm ((c ++ (t.set i []).nodes) ++ t.at i) := by
    refine h1.trans ((h2.symm.append_right c).trans ?_)
    rw [List.append_assoc, List.append_assoc]
    refine (List.Perm.append_left _ List.perm_append_comm).trans ?_
    rw [← List.append_assoc, ← List.append_assoc]
    exact List.perm_append_comm.append_right _
  have h4 := (List.perm_append_right_iff _).1 h3
  unfold Dm.setTab Dm.nodes Dm.nodes1
  by_cases e : ti = 0
  · simp only [if_pos e]
    rw [← List.append_assoc]
    exact h4.append_right _
  · simp only [if_neg e]
    refine (List.Perm.append_left _ h4).trans ?_
    rw [← List.append_assoc, ← List.append_assoc]
    exact List.perm_append_comm.append_right _
theorem tab_perm {d : Dm} {ti : Nat} {t : Tb} (ht : d.tab ti = some t) {i : Nat} (hi : i < t.len) : d.nodes.Perm (t.at i ++ (d.setTab ti (t.set i [])).nodes) := by
  have h := setTab_perm ht hi (t.at i)
  have e : t.set i (t.at i) = t := by
    unfold Tb.set
    have : t.slots.set i (t.at i) = t.slots := by
      apply List.ext_getElem?
      intro j
      rw [List.getElem?_set]
      split
      · rename_i e; subst e; rw [Tb.at_lt hi]; simp; exact hi
      · rfl
    rw [this]
  rw [e] at h
  have e2 : d.setTab ti t = d := by
    unfold Dm.tab at ht
    unfold Dm.setTab
    split at ht
    · rename_i h0; injection ht with ht; subst ht; rw [if_pos h0]
    · rename_i h0; rw [if_neg h0, ← ht]
  rw [e2] at h
  exact h

/-- One slot's chain has turned. -/
theorem upd_slot {W W' : World} {d : Dm} {S : Nat → Prop} (h : DmAt W d) {ti : Nat} {t : Tb} (ht : d.tab ti = some t) {i : Nat} (hi : i < t.len) (c : Ch) (hc : Chg S W W')
    (hS : ∀ g, S g → g = t.blk ∨ (∃ y ∈ t.at i, g = y.blk) ∨ ¬ d.foot g) (hT : Blk W' t.blk 81 (tbCells (t.set i c))) (hch : chAt W' c) (hnd : ((d.setTab ti (t.set i c)).nodes.map (·.blk)).Nodup) :
    DmAt W' (d.setTab ti (t.set i c)) := by
  have hta := tab_at h ht
  have hp := tab_perm ht hi
  have hn : ((t.at i ++ (d.setTab ti (t.set i [])).nodes).map (·.blk)).Nodup := (hp.map _).nodup_iff.1 h.nodup
  rw [List.map_append, List.nodup_append] at hn
  have hmem : ∀ y ∈ t.at i, y ∈ d.nodes := fun y hy => hp.mem_iff.2 (List.mem_append.2 (.inl hy))
  have hblk : ¬ S d.blk := fun hs => by
    rcases hS _ hs with e | ⟨y, hy, e⟩ | e
    · exact hta.1.ne_type h.hd (by decide) e.symm
    · exact (h.nd_ne (hmem y hy)).1 e.symm
    · exact e (.inl rfl)
  -- another node's block is untouched
  have hoth : ∀ x, x ∈ (d.setTab ti (t.set i [])).nodes → ¬ S x.blk := fun x hx hs => by
    have hxd : x ∈ d.nodes := hp.mem_iff.2 (List.mem_append.2 (.inr hx))
    rcases hS _ hs with e | ⟨y, hy, e⟩ | e
    · obtain ⟨nx, hb⟩ := h.node hxd; exact hb.ne_type hta.1 (by decide) e
    · exact hn.2.2 _ (List.mem_map.2 ⟨y, hy, rfl⟩) _ (List.mem_map.2 ⟨x, hx, rfl⟩) e.symm
    · exact e (.inr (.inr (.inr ⟨x, hxd, rfl⟩)))
  have hslots : ∀ c' ∈ (t.set i c).slots, chAt W' c' := fun c' hc' => by
    have hc2 : c' ∈ t.slots.set i c := hc'
    obtain ⟨j, hj, rfl⟩ := List.mem_iff_getElem.1 hc2
    rw [List.getElem_set]
    split
    · exact hch
    · rename_i hne
      have hj' : j < t.len := by simpa [Tb.len] using hj
      have e2 := Tb.at_lt hj'
      rw [List.getElem?_eq_getElem hj'] at e2
      injection e2 with e2
      have := (hta.2 _ (Tb.at_mem hj')).chg hc fun x hx => hoth x (by
        have : x ∈ (t.set i []).nodes := mem_nodes.2 ⟨j, by rw [Tb.set_len]; exact hj', by rw [Tb.set_at hi, if_neg hne]; exact hx⟩
        unfold Dm.setTab Dm.nodes Dm.nodes1
        split
        · exact List.mem_append.2 (.inl this)
        · exact List.mem_append.2 (.inr this))
      rw [← e2] at this
      exact this
  have hval : tbVal (t.set i c) = tbVal t := by unfold tbVal; rw [Tb.set_len]; rfl
  unfold Dm.tab at ht
  by_cases e0 : ti = 0
  · rw [if_pos e0] at ht
    injection ht with ht
    have es : d.setTab ti (t.set i c) = { d with t0 := t.set i c } := by unfold Dm.setTab; rw [if_pos e0]
    have es2 : (d.setTab ti (t.set i [])).nodes1 = d.nodes1 := by unfold Dm.setTab; rw [if_pos e0]; rfl
    rw [es] at hnd ⊢
    refine { hd := ?_, a0 := ⟨hT, hslots⟩, a1 := fun u hu => ?_, ne := fun u hu => by subst ht; exact h.ne u hu, nodup := hnd }
    · have := h.hd.chg hc hblk
      have ev : dmCells { d with t0 := t.set i c } = dmCells d := by unfold dmCells; dsimp only; rw [hval, ht]
      rw [ev]; exact this
    · have hu' : d.t1 = some u := hu
      refine (h.a1 u hu').chg hc (fun hs => ?_) fun x hx => hoth x ?_
      · rcases hS _ hs with e | ⟨y, hy, e⟩ | e
        · exact h.ne u hu' (by rw [ht]; exact e.symm)
        · exact ((h.nd_ne (hmem y hy)).2.2 u hu') e.symm
        · exact e (.inr (.inr (.inl ⟨u, hu', rfl⟩)))
      · unfold Dm.nodes; rw [es2]; unfold Dm.nodes1; rw [hu']; exact List.mem_append.2 (.inr hx)
  · rw [if_neg e0] at ht
    have es : d.setTab ti (t.set i c) = { d with t1 := some (t.set i c) } := by unfold Dm.setTab; rw [if_neg e0]
    have es2 : (d.setTab ti (t.set i [])).t0 = d.t0 := by unfold Dm.setTab; rw [if_neg e0]
    rw [es] at hnd ⊢
    refine { hd := ?_, a0 := ?_, a1 := fun u hu => ?_, ne := fun u hu => ?_, nodup := hnd }
    · have := h.hd.chg hc hblk
      have ev : dmCells { d with t1 := some (t.set i c) } = dmCells d := by unfold dmCells t1Val; dsimp only; rw [hval, ht]
      rw [ev]; exact this
    · refine h.a0.chg hc (fun hs => ?_) fun x hx => hoth x ?_
      · rcases hS _ hs with e | ⟨y, hy, e⟩ | e
        · exact h.ne t ht e
        · exact ((h.nd_ne (hmem y hy)).2.1) e.symm
        · exact e (.inr (.inl rfl))
      · unfold Dm.nodes; rw [es2]; exact List.mem_append.2 (.inl hx)
    · injection hu with hu; subst hu; exact ⟨hT, hslots⟩
    · injection hu with hu; subst hu; exact h.ne t ht

end Go.Proofs.Ythbjjjcppijcbaa.Dint
