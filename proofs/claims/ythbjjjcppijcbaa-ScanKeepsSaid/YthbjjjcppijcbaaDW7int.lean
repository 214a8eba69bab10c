/- Contracts of dict's Set. -/
import Derived.Test.YthbjjjcppijcbaaDW6int
import Derived.Test.YthbjjjcppijcbaaDP4int
namespace Go.Proofs.Ythbjjjcppijcbaa.Dint
open Go.RowKit Pal

/-- Sizes and place. -/
def shape (d : Dm) : Nat × Option Nat × Nat := (d.t0.len, d.t1.map Tb.len, d.at_)
def growS (s : Nat × Option Nat × Nat) (n : Nat) : Nat × Option Nat × Nat := if s.2.1 = none ∧ s.1 ≤ n ∧ s.1 < 65536 then (s.1, some (sizeFor (2 * n : Nat)), s.2.2) else s
def shrinkS (s : Nat × Option Nat × Nat) (n : Nat) : Nat × Option Nat × Nat := if s.2.1 = none ∧ 4 < s.1 ∧ 8 * n < s.1 then (s.1, some (sizeFor (n : Nat)), s.2.2) else s

structure SetPost (d : Dm) (key : ByteArray) (v : Value) (w : World) (e : Ending) (w' : World) (d' : Dm) : Prop where
  dm : DmAt w' d'
  ok : d'.Ok
  blk : d'.blk = d.blk
  seed : d'.seed = d.seed
  chg : Chg d.foot w w'
  foot : ∀ g, d'.foot g → d.foot g ∨ w.heap.size ≤ g
  what : (e = .returned (.bool false) ∧ (∃ x r, d.nodes.Perm (x :: r) ∧ x.key = key ∧ d'.nodes.Perm ({ x with v := v } :: r)) ∧ shape d' = shape (stepD d 1)) ∨
    (e = .returned (.bool true) ∧ (∀ x ∈ d.nodes, x.key ≠ key) ∧ (∃ x, x.key = key ∧ x.v = v ∧ d'.nodes.Perm (x :: d.nodes)) ∧ shape d' = growS (shape (stepD d 1)) d.n)

/-- One thing is written anew. -/
theorem upd_setv {W : World} {e : Dm} (h : DmAt W e) (hok : e.Ok) {ti : Nat} {t : Tb} (ht : e.tab ti = some t) {i : Nat} (hi : i < t.len) {pre post : Ch} {x : Nd} (hat : t.at i = pre ++ x :: post) {v : Value} (hv : VOk v) :
    ∃ d', DmAt (W.setCell ⟨x.blk, 2, none⟩ v) d' ∧ d'.Ok ∧ d'.blk = e.blk ∧ d'.seed = e.seed ∧ (∀ g, d'.foot g → e.foot g) ∧ (∃ r, e.nodes.Perm (x :: r) ∧ d'.nodes.Perm ({ x with v := v } :: r)) ∧ shape d' = shape e := by
  have hta := tab_at h ht
  obtain ⟨hsz, hin, hmem⟩ := tab_ok hok ht
  obtain ⟨e0, e1, e2, e3, e4, e5⟩ := setTab_t0 ht i (pre ++ { x with v := v } :: post)
  have hxt : x ∈ t.nodes := mem_nodes.2 ⟨i, hi, by rw [hat]; simp⟩
  have hxn := hmem x hxt
  have hp0 := rest_perm ht hi
  have hp1 := upd_perm ht hi (pre ++ { x with v := v } :: post) e.n
  have hn : ((pre ++ x :: post).map (·.blk)).Nodup := by
    have := ((hp0.map (·.blk)).nodup_iff.1 h.nodup)
    rw [List.map_append, List.nodup_append] at this
    rw [← hat]; exact this.1
  have hX := (hta.2 _ (Tb.at_mem hi)).node hat
  have hch : chAt (W.setCell ⟨x.blk, 2, none⟩ v) (pre ++ { x with v := v } :: post) := chAt_setv v x post pre (by rw [← hat]; exact hta.2 _ (Tb.at_mem hi)) hn
  have hC : Chg (fun g => g = x.blk) W (W.setCell ⟨x.blk, 2, none⟩ v) := Chg.store (S := fun g => g = x.blk) (Chg.refl _ W) rfl 2 v
  have hmapb : (pre ++ { x with v := v } :: post).map (·.blk) = (t.at i).map (·.blk) := by rw [hat]; simp
  have hmapk : (pre ++ { x with v := v } :: post).map (·.key) = (t.at i).map (·.key) := by rw [hat]; simp
  have hdm : DmAt (W.setCell ⟨x.blk, 2, none⟩ v) (e.setTab ti (t.set i (pre ++ { x with v := v } :: post))) := by
    refine upd_slot h ht hi _ hC (fun g hg => .inr (.inl ⟨x, by rw [hat]; simp, hg⟩)) ?_ hch ?_
    · rw [tbCells_same hi (by rw [hat]; cases pre <;> rfl)]
      exact hta.1.far (p := ⟨x.blk, 2, none⟩) (fun h' => hX.ne_type hta.1 (by decide) h'.symm) v
    · exact (hp1.map _).nodup_iff.2 (nodup_at h ht hi _ (by rw [hmapb]; exact List.Sublist.refl _))
  have hu : e.upd ti t i (pre ++ { x with v := v } :: post) e.n = e.setTab ti (t.set i (pre ++ { x with v := v } :: post)) := by
    unfold Dm.upd; rw [← e5]
  have hsub : ∀ y ∈ pre ++ { x with v := v } :: post, y = { x with v := v } ∨ y ∈ t.at i := fun y hy => by
    rw [hat]
    simp only [List.mem_append, List.mem_cons] at hy ⊢
    rcases hy with h' | h' | h'
    · exact .inr (.inl h')
    · exact .inl h'
    · exact .inr (.inr (.inr h'))
  have hinn : ∀ y ∈ t.at i, y ∈ e.nodes := fun y hy => hmem y (mem_nodes.2 ⟨i, hi, hy⟩)
  refine ⟨e.setTab ti (t.set i (pre ++ { x with v := v } :: post)), hdm, ?_, e2, e3, ?_, ⟨pre ++ post ++ e.rest ti t i, ?_, ?_⟩, ?_⟩
  · rw [← hu]
    refine upd_ok hok ht hi (fun y hy => ?_) (fun h0 hlt => ?_) (fun y hy => ?_) (fun y hy => ?_) ?_ ?_
    · rcases hsub y hy with rfl | h'
      · exact hin i x hi (by rw [hat]; simp)
      · exact hin i y hi h'
    · have ht0 : t = e.t0 := by unfold Dm.tab at ht; rw [if_pos h0] at ht; injection ht with ht; exact ht.symm
      have := hok.moved i hlt
      rw [← ht0, hat] at this
      cases pre <;> cases this
    · rcases hsub y hy with rfl | h'
      · exact hok.sums x hxn
      · exact hok.sums y (hinn y h')
    · rcases hsub y hy with rfl | h'
      · exact hv
      · exact hok.vok y (hinn y h')
    · rw [List.map_append, hmapk, ← List.map_append]
      exact ((hp0.map (·.key)).nodup_iff.1 hok.keys)
    · have := hp0.length_eq
      rw [hok.count, this, hat]; simp
  · intro g hg
    rcases hg with rfl | rfl | ⟨u, hu', rfl⟩ | ⟨y, hy, rfl⟩
    · exact .inl e2
    · unfold Dm.setTab
      split
      · rename_i h0
        have ht0 : t = e.t0 := by unfold Dm.tab at ht; rw [if_pos h0] at ht; injection ht with ht; exact ht.symm
        exact .inr (.inl (by rw [← ht0]; rfl))
      · exact .inr (.inl rfl)
    · unfold Dm.setTab at hu'
      split at hu'
      · exact .inr (.inr (.inl ⟨u, hu', rfl⟩))
      · rename_i h0
        injection hu' with hu'
        have ht1 : e.t1 = some t := by unfold Dm.tab at ht; rw [if_neg h0] at ht; exact ht
        exact .inr (.inr (.inl ⟨t, ht1, by rw [← hu']; rfl⟩))
    · have hy' := hp1.mem_iff.1 hy
      rcases List.mem_append.1 hy' with h' | h'
      · rcases hsub y h' with rfl | h''
        · exact .inr (.inr (.inr ⟨x, hxn, rfl⟩))
        · exact .inr (.inr (.inr ⟨y, hinn y h'', rfl⟩))
      · exact .inr (.inr (.inr ⟨y, hp0.mem_iff.2 (List.mem_append.2 (.inr h')), rfl⟩))
  · refine hp0.trans ?_
    rw [hat, List.append_assoc, List.append_assoc]
    exact List.perm_middle
  · refine hp1.trans ?_
    rw [List.append_assoc, List.append_assoc]
    exact List.perm_middle
  · show ((e.setTab ti _).t0.len, (e.setTab ti _).t1.map Tb.len, (e.setTab ti _).at_) = (e.t0.len, e.t1.map Tb.len, e.at_)
    rw [e0, e1, e4]

end Go.Proofs.Ythbjjjcppijcbaa.Dint
