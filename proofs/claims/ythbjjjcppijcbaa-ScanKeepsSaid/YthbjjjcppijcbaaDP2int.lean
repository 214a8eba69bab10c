/- A dict in the middle of a step, in memory. -/
import Derived.Test.YthbjjjcppijcbaaDPint
namespace Go.Proofs.Ythbjjjcppijcbaa.Dint
open Go.RowKit Pal

/-- The nodes c of the slot that is moved lie in no other place. -/
structure Dis (e : Dm) (t : Tb) (c : Ch) : Prop where
  d0 : ∀ x ∈ c, ∀ y ∈ (e.t0.set e.at_ []).nodes, y.blk ≠ x.blk
  d1 : ∀ x ∈ c, ∀ y ∈ t.nodes, y.blk ≠ x.blk
  nod : (c.map (·.blk)).Nodup

theorem DmAt.dis {w : World} {e : Dm} (h : DmAt w e) (hok : e.Ok) {t : Tb} (ht : e.t1 = some t) : Dis e t (e.t0.at e.at_) := by
  have hlt := hok.atlt t ht
  have hp := nodes_set_perm e.t0 hlt []
  rw [List.append_nil] at hp
  have hn := h.nodup
  unfold Dm.nodes Dm.nodes1 at hn
  rw [ht] at hn
  have hn2 : (((e.t0.set e.at_ []).nodes ++ e.t0.at e.at_ ++ t.nodes).map (·.blk)).Nodup := ((hp.append_right t.nodes).map _).nodup_iff.2 hn
  rw [List.map_append, List.map_append, List.nodup_append] at hn2
  obtain ⟨h12, h3, hd⟩ := hn2
  rw [List.nodup_append] at h12
  obtain ⟨h1, h2, hd2⟩ := h12
  refine ⟨fun x hx y hy => ?_, fun x hx y hy => ?_, h2⟩
  · exact hd2 _ (List.mem_map.2 ⟨y, hy, rfl⟩) _ (List.mem_map.2 ⟨x, hx, rfl⟩)
  · exact fun e' => hd _ (List.mem_append.2 (.inr (List.mem_map.2 ⟨x, hx, rfl⟩))) _ (List.mem_map.2 ⟨y, hy, rfl⟩) e'.symm

structure Mid (e : Dm) (t' : Tb) (W : World) : Prop where
  hd : Blk W e.blk 76 (dmCells e)
  tb0 : Blk W e.t0.blk 81 (tbCells e.t0)
  oth : ∀ i, i < e.t0.len → i ≠ e.at_ → chAt W (e.t0.at i)
  t1 : tbAt W t'
  ne : e.t0.blk ≠ t'.blk

theorem DmAt.mid {w : World} {e : Dm} (h : DmAt w e) {t : Tb} (ht : e.t1 = some t) : Mid e t w :=
  ⟨h.hd, h.a0.1, fun _ hi _ => h.a0.2 _ (Tb.at_mem hi), h.a1 t ht, h.ne t ht⟩

theorem Mid.chg {e : Dm} {t' : Tb} {w w' : World} {S : Nat → Prop} (h : Mid e t' w) (hc : Chg S w w') (h1 : ¬ S e.blk) (h2 : ¬ S e.t0.blk) (h3 : ∀ i, i < e.t0.len → i ≠ e.at_ → ∀ x ∈ e.t0.at i, ¬ S x.blk)
    (h4 : ¬ S t'.blk) (h5 : ∀ x ∈ t'.nodes, ¬ S x.blk) : Mid e t' w' :=
  ⟨h.hd.chg hc h1, h.tb0.chg hc h2, fun i hi hne => (h.oth i hi hne).chg hc (h3 i hi hne), h.t1.chg hc h4 h5, h.ne⟩
theorem Mid.chg0 {e : Dm} {t' : Tb} {w w' : World} (h : Mid e t' w) (hc : Chg (fun _ => False) w w') : Mid e t' w' := h.chg hc id id (fun _ _ _ _ _ => id) id fun _ _ => id

theorem Mid.keep {e : Dm} {t' : Tb} {w w' : World} (h : Mid e t' w) (k : KeepC w w') : Mid e t' w' :=
  ⟨h.hd.keep k, h.tb0.keep k, fun i hi hne => (h.oth i hi hne).keep k, h.t1.keep k, h.ne⟩

theorem mem_set_nodes {t : Tb} {i : Nat} (hi : i < t.len) {j : Nat} (hj : j < t.len) (hne : j ≠ i) {x : Nd} (hx : x ∈ t.at j) : x ∈ (t.set i []).nodes :=
  mem_nodes.2 ⟨j, by rw [Tb.set_len]; exact hj, by rw [Tb.set_at hi, if_neg (fun h => hne h.symm)]; exact hx⟩

/-- A node is put. -/
theorem mid_put {e : Dm} {t t' : Tb} {W : World} {x : Nd} {r : Ch} (h : Mid e t' W) (hlt : e.at_ < e.t0.len) (hpos : 0 < t'.len) (hx : Blk W x.blk 83 (ndCells x (hd r))) (hr : chAt W r)
    (hd0 : ∀ y ∈ (e.t0.set e.at_ []).nodes, y.blk ≠ x.blk) (hd1 : ∀ y ∈ t'.nodes, y.blk ≠ x.blk) (hdr : ∀ y ∈ r, y.blk ≠ x.blk) :
    ∀ W', (W.setCell ⟨x.blk, 3, none⟩ (hd (t'.at (x.sum % t'.len)))).setCell ⟨t'.blk, x.sum % t'.len, none⟩ (ptr x.blk) = W' →
      Mid e (push t' x) W' ∧ chAt W' r ∧ Chg (fun g => g = x.blk ∨ g = t'.blk) W W' := by
  rintro W' rfl
  have hi : x.sum % t'.len < t'.len := Nat.mod_lt _ hpos
  have hC : Chg (fun g => g = x.blk ∨ g = t'.blk) W ((W.setCell ⟨x.blk, 3, none⟩ (hd (t'.at (x.sum % t'.len)))).setCell ⟨t'.blk, x.sum % t'.len, none⟩ (ptr x.blk)) :=
    ((Chg.refl _ W).store (.inl rfl) 3 _).store (.inr rfl) _ _
  have hxt : x.blk ≠ t'.blk := hx.ne_type h.t1.1 (by decide)
  have hnt : ∀ y ∈ t'.nodes, y.blk ≠ t'.blk := fun y hy => by obtain ⟨nx, hb⟩ := h.t1.node hy; exact hb.ne_type h.t1.1 (by decide)
  have hsl : ∀ y ∈ t'.at (x.sum % t'.len), y ∈ t'.nodes := fun y hy => mem_nodes.2 ⟨_, hi, hy⟩
  have hch : ∀ c : Ch, chAt W c → (∀ y ∈ c, y.blk ≠ x.blk) → chAt ((W.setCell ⟨x.blk, 3, none⟩ (hd (t'.at (x.sum % t'.len)))).setCell ⟨t'.blk, x.sum % t'.len, none⟩ (ptr x.blk)) c := fun c hc hne => by
    refine hc.chg hC fun y hy hS => ?_
    rcases hS with hS | hS
    · exact hne y hy hS
    · -- a node's block is no table's
      obtain ⟨pre, post, rfl⟩ := List.append_of_mem hy
      exact (hc.node rfl).ne_type h.t1.1 (by decide) hS
  refine ⟨⟨?_, ?_, ?_, ⟨?_, ?_⟩, h.ne⟩, hch r hr hdr, hC⟩
  · exact h.hd.chg hC (by rintro (e' | e'); exact hx.ne_type h.hd (by decide) e'.symm; exact h.t1.1.ne_type h.hd (by decide) e'.symm)
  · exact h.tb0.chg hC (by rintro (e' | e'); exact hx.ne_type h.tb0 (by decide) e'.symm; exact h.ne e')
  · exact fun i hi' hne => hch _ (h.oth i hi' hne) fun y hy => hd0 y (mem_set_nodes hlt hi' hne hy)
  · have hb := (h.t1.1.far (p := ⟨x.blk, 3, none⟩) (fun e' => hxt e'.symm) (hd (t'.at (x.sum % t'.len)))).set (x.sum % t'.len) (ptr x.blk)
    have e1 : tbCells (push t' x) = (tbCells t').setIfInBounds (x.sum % t'.len) (ptr x.blk) := tbCells_set _ _ _
    rw [e1]; exact hb
  · intro c hc
    have hc' : c ∈ t'.slots.set (x.sum % t'.len) (x :: t'.at (x.sum % t'.len)) := hc
    rcases List.mem_or_eq_of_mem_set hc' with hc | rfl
    · exact hch c (h.t1.2 c hc) fun y hy => hd1 y (List.mem_flatten.2 ⟨c, hc, hy⟩)
    · refine ⟨?_, hch _ (h.t1.2 _ (Tb.at_mem hi)) fun y hy => hd1 y (hsl y hy)⟩
      have hb := (hx.set 3 (hd (t'.at (x.sum % t'.len)))).far (p := ⟨t'.blk, x.sum % t'.len, none⟩) hxt (ptr x.blk)
      have e1 : (ndCells x (hd r)).setIfInBounds 3 (hd (t'.at (x.sum % t'.len))) = ndCells x (hd (t'.at (x.sum % t'.len))) := rfl
      rw [e1] at hb
      exact hb

/-- The slot's cell cleared, the place moved on: the dict behind it, while it still moves. -/
theorem mid_next {e : Dm} {t t' : Tb} {W W' : World} (h : Mid e t' W) (hok : e.Ok) (ht : e.t1 = some t) (ht' : t' = (e.t0.at e.at_).foldl push t) (hnl : e.at_ + 1 ≠ e.t0.len) (hnd : (e.nodes.map (·.blk)).Nodup)
    (hc : Chg (fun g => g = e.blk ∨ g = e.t0.blk) W W') (h1 : Blk W' e.blk 76 ((dmCells e).setIfInBounds 3 (.int .i64 ((e.at_ + 1 : Nat) : Int)))) (h2 : Blk W' e.t0.blk 81 ((tbCells e.t0).setIfInBounds e.at_ (.pointer none))) :
    DmAt W' (moveSlot e) := by
  have hlt := hok.atlt t ht
  have hp := moveSlot_perm hok
  have em : moveSlot e = { e with t0 := e.t0.set e.at_ [], t1 := some t', at_ := e.at_ + 1 } := by unfold moveSlot; rw [ht, ht']; simp [hnl]
  have hnn : (((moveSlot e).nodes).map (·.blk)).Nodup := (hp.map _).nodup_iff.2 hnd
  have hch : ∀ c : Ch, chAt W c → chAt W' c := fun c hcc => hcc.chg hc fun y hy hS => by
    obtain ⟨pre, post, rfl⟩ := List.append_of_mem hy
    have hb := hcc.node rfl
    rcases hS with hS | hS
    · exact hb.ne_type h.hd (by decide) hS
    · exact hb.ne_type h.tb0 (by decide) hS
  have hvt : tbVal t' = tbVal t := by unfold tbVal; rw [ht', fold_len, fold_blk]
  rw [em] at hnn ⊢
  refine { hd := ?_, a0 := ⟨?_, ?_⟩, a1 := ?_, ne := ?_, nodup := hnn }
  · have e1 : (dmCells e).setIfInBounds 3 (.int .i64 ((e.at_ + 1 : Nat) : Int)) = dmCells { e with t0 := e.t0.set e.at_ [], t1 := some t', at_ := e.at_ + 1 } := by
      simp [dmCells, t1Val, ht, hvt]
      unfold tbVal Tb.set Tb.len; simp
    rw [← e1]; exact h1
  · show Blk W' e.t0.blk _ _
    rw [tbCells_set]; exact h2
  · intro c hcm
    have hcm' : c ∈ e.t0.slots.set e.at_ [] := hcm
    obtain ⟨i, hi, rfl⟩ := List.mem_iff_getElem.1 hcm'
    rw [List.getElem_set]
    split
    · trivial
    · rename_i hne
      have hi' : i < e.t0.len := by simpa [Tb.len] using hi
      have := h.oth i hi' (fun e' => hne e'.symm)
      have e2 := Tb.at_lt hi'
      rw [List.getElem?_eq_getElem hi'] at e2
      injection e2 with e2
      have h3 := hch _ this
      rw [← e2] at h3
      exact h3
  · intro u hu
    injection hu with hu
    subst hu
    refine ⟨h.t1.1.chg hc ?_, fun c hcm => hch c (h.t1.2 c hcm)⟩
    rintro (e' | e')
    · exact h.t1.1.ne_type h.hd (by decide) e'
    · exact h.ne e'.symm
  · intro u hu
    injection hu with hu
    subst hu
    exact h.ne

/-- The last slot: the second table is the first one. -/
theorem mid_last {e : Dm} {t t' : Tb} {W W' : World} (h : Mid e t' W) (hok : e.Ok) (ht : e.t1 = some t) (ht' : t' = (e.t0.at e.at_).foldl push t) (hl : e.at_ + 1 = e.t0.len) (hnd : (e.nodes.map (·.blk)).Nodup)
    (hc : Chg (fun g => g = e.blk ∨ g = e.t0.blk) W W') (h1 : Blk W' e.blk 76 #[.int .u32 (e.seed : Int), tbVal t, .slice none 0 0, .int .i64 0, .int .i64 (e.n : Int)]) :
    DmAt W' (moveSlot e) := by
  have hp := moveSlot_perm hok
  have em : moveSlot e = { e with t0 := t', t1 := none, at_ := 0 } := by unfold moveSlot; rw [ht, ht']; simp [hl]
  have hnn : (((moveSlot e).nodes).map (·.blk)).Nodup := (hp.map _).nodup_iff.2 hnd
  have hch : ∀ c : Ch, chAt W c → chAt W' c := fun c hcc => hcc.chg hc fun y hy hS => by
    obtain ⟨pre, post, rfl⟩ := List.append_of_mem hy
    have hb := hcc.node rfl
    rcases hS with hS | hS
    · exact hb.ne_type h.hd (by decide) hS
    · exact hb.ne_type h.tb0 (by decide) hS
  have hvt : tbVal t' = tbVal t := by unfold tbVal; rw [ht', fold_len, fold_blk]
  rw [em] at hnn ⊢
  refine { hd := ?_, a0 := ⟨?_, fun c hcm => hch c (h.t1.2 c hcm)⟩, a1 := fun u hu => (by cases hu), ne := fun u hu => (by cases hu), nodup := hnn }
  · unfold dmCells t1Val; dsimp only; rw [hvt]; exact h1
  · refine h.t1.1.chg hc ?_
    rintro (e' | e')
    · exact h.t1.1.ne_type h.hd (by decide) e'
    · exact h.ne e'.symm

end Go.Proofs.Ythbjjjcppijcbaa.Dint
