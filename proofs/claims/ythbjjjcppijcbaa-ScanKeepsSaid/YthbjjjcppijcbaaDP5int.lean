/- A node put in, a node cut out. -/
import Derived.Test.YthbjjjcppijcbaaDW7int
namespace Go.Proofs.Ythbjjjcppijcbaa.Dint
open Go.RowKit Pal

theorem upd_shape {e : Dm} {ti : Nat} {t : Tb} (ht : e.tab ti = some t) (i : Nat) (c : Ch) (n : Nat) : shape (e.upd ti t i c n) = shape e := by
  obtain ⟨e0, e1, e2, e3, e4, e5⟩ := setTab_t0 ht i c
  show ((e.setTab ti _).t0.len, (e.setTab ti _).t1.map Tb.len, (e.setTab ti _).at_) = (e.t0.len, e.t1.map Tb.len, e.at_)
  rw [e0, e1, e4]
theorem upd_foot {e : Dm} {ti : Nat} {t : Tb} (ht : e.tab ti = some t) {i : Nat} (hi : i < t.len) (c : Ch) (n : Nat) {g : Nat} (hg : (e.upd ti t i c n).foot g) : e.foot g ∨ ∃ y ∈ c, g = y.blk := by
  obtain ⟨e0, e1, e2, e3, e4, e5⟩ := setTab_t0 ht i c
  rcases hg with rfl | rfl | ⟨u, hu', rfl⟩ | ⟨y, hy, rfl⟩
  · exact .inl (.inl e2)
  · refine .inl ?_
    show e.foot (e.setTab ti (t.set i c)).t0.blk
    unfold Dm.setTab
    split
    · rename_i h0
      have ht0 : t = e.t0 := by unfold Dm.tab at ht; rw [if_pos h0] at ht; injection ht with ht; exact ht.symm
      exact .inr (.inl (by rw [← ht0]; rfl))
    · exact .inr (.inl rfl)
  · refine .inl ?_
    have hu' : (e.setTab ti (t.set i c)).t1 = some u := hu'
    unfold Dm.setTab at hu'
    split at hu'
    · exact .inr (.inr (.inl ⟨u, hu', rfl⟩))
    · rename_i h0
      injection hu' with hu'
      have ht1 : e.t1 = some t := by unfold Dm.tab at ht; rw [if_neg h0] at ht; exact ht
      exact .inr (.inr (.inl ⟨t, ht1, by rw [← hu']; rfl⟩))
  · rcases List.mem_append.1 ((upd_perm ht hi c n).mem_iff.1 hy) with h' | h'
    · exact .inr ⟨y, h', rfl⟩
    · exact .inl (.inr (.inr (.inr ⟨y, (rest_perm ht hi).mem_iff.2 (List.mem_append.2 (.inr h')), rfl⟩)))
theorem upd_at {W : World} {e : Dm} {ti : Nat} {t : Tb} {i : Nat} {c : Ch} (n : Nat) {W' : World} (h : DmAt W (e.setTab ti (t.set i c))) (hc : Chg (fun g => g = e.blk) W W') (hb : (e.setTab ti (t.set i c)).blk = e.blk)
    (hh : Blk W' e.blk 76 ((dmCells (e.setTab ti (t.set i c))).setIfInBounds 4 (.int .i64 (n : Int)))) : DmAt W' (e.upd ti t i c n) :=
  h.num n (by rw [hb]; exact hc) (by rw [hb]; exact hh)
theorem upd_cells {e : Dm} {ti : Nat} {t : Tb} (ht : e.tab ti = some t) (i : Nat) (c : Ch) : dmCells (e.setTab ti (t.set i c)) = dmCells e := by
  have hval : tbVal (t.set i c) = tbVal t := by unfold tbVal; rw [Tb.set_len]; rfl
  unfold Dm.tab at ht
  unfold Dm.setTab
  split at ht
  · rename_i h0; injection ht with ht; rw [if_pos h0]; unfold dmCells; dsimp only; rw [hval, ht]
  · rename_i h0; rw [if_neg h0]; unfold dmCells t1Val; dsimp only; rw [hval, ht]

/-- A node is put in: told when its pointers are written. -/
theorem upd_push {W : World} {e : Dm} (h : DmAt W e) (hok : e.Ok) {ti : Nat} {t : Tb} (ht : e.tab ti = some t) (hti : ti = 0 → e.t1 = none) {x : Nd} {nx : Value} (hx : Blk W x.blk 83 (ndCells x nx)) (hnew : ¬ e.foot x.blk)
    (hs : x.sum = sumN e.seed x.key.data.toList) (hv : VOk x.v) (hno : ∀ y ∈ e.nodes, y.key ≠ x.key) {W' : World}
    (hW : (W.setCell ⟨x.blk, 3, none⟩ (hd (t.at (x.sum % t.len)))).setCell ⟨t.blk, x.sum % t.len, none⟩ (ptr x.blk) = W') :
    ∃ d', (∀ W2, Chg (fun g => g = e.blk) W' W2 → Blk W2 e.blk 76 ((dmCells e).setIfInBounds 4 (.int .i64 ((e.n : Int) + 1))) → DmAt W2 d') ∧ Blk W' e.blk 76 (dmCells e) ∧ Chg (fun g => g = t.blk ∨ g = x.blk) W W' ∧
      d'.Ok ∧ d'.blk = e.blk ∧ d'.seed = e.seed ∧ (∀ g, d'.foot g → e.foot g ∨ g = x.blk) ∧ d'.nodes.Perm (x :: e.nodes) ∧ shape d' = shape e := by
  subst hW
  have hta := tab_at h ht
  obtain ⟨hsz, hin, hmem⟩ := tab_ok hok ht
  have hi : x.sum % t.len < t.len := Nat.mod_lt _ (by have := hsz.pos; omega)
  obtain ⟨e0, e1, e2, e3, e4, e5⟩ := setTab_t0 ht (x.sum % t.len) (x :: t.at (x.sum % t.len))
  have hp0 := rest_perm ht hi
  have hp1 := upd_perm ht hi (x :: t.at (x.sum % t.len)) (e.n + 1)
  have hxt : x.blk ≠ t.blk := hx.ne_type hta.1 (by decide)
  have hinn : ∀ y ∈ t.at (x.sum % t.len), y ∈ e.nodes := fun y hy => hmem y (mem_nodes.2 ⟨_, hi, hy⟩)
  have hC : Chg (fun g => g = t.blk ∨ g = x.blk) W ((W.setCell ⟨x.blk, 3, none⟩ (hd (t.at (x.sum % t.len)))).setCell ⟨t.blk, x.sum % t.len, none⟩ (ptr x.blk)) :=
    Chg.store (S := fun g => g = t.blk ∨ g = x.blk) (Chg.store (S := fun g => g = t.blk ∨ g = x.blk) (Chg.refl _ W) (.inr rfl) 3 _) (.inl rfl) _ _
  have hT := (hta.1.far (p := ⟨x.blk, 3, none⟩) (fun e' => hxt e'.symm) (hd (t.at (x.sum % t.len)))).set (x.sum % t.len) (ptr x.blk)
  have hnodeblk : ∀ y ∈ e.nodes, y.blk ≠ x.blk ∧ y.blk ≠ t.blk := fun y hy => ⟨fun e' => hnew (e' ▸ .inr (.inr (.inr ⟨y, hy, rfl⟩))), by obtain ⟨nx', hb⟩ := h.node hy; exact hb.ne_type hta.1 (by decide)⟩
  have hch : chAt ((W.setCell ⟨x.blk, 3, none⟩ (hd (t.at (x.sum % t.len)))).setCell ⟨t.blk, x.sum % t.len, none⟩ (ptr x.blk)) (x :: t.at (x.sum % t.len)) := by
    refine ⟨?_, (hta.2 _ (Tb.at_mem hi)).chg hC fun y hy hS => ?_⟩
    · have hb := (hx.set 3 (hd (t.at (x.sum % t.len)))).far (p := ⟨t.blk, x.sum % t.len, none⟩) hxt (ptr x.blk)
      exact hb
    · have := hnodeblk y (hinn y hy)
      rcases hS with h' | h'
      · exact this.2 h'
      · exact this.1 h'
  have hndb : ((x :: t.at (x.sum % t.len) ++ e.rest ti t (x.sum % t.len)).map (·.blk)).Nodup := by
    rw [List.cons_append, List.map_cons, List.nodup_cons]
    refine ⟨fun hm => ?_, (hp0.map (·.blk)).nodup_iff.1 h.nodup⟩
    obtain ⟨y, hy, hyb⟩ := List.mem_map.1 hm
    exact (hnodeblk y (hp0.mem_iff.2 hy)).1 hyb
  have hndk : ((x :: t.at (x.sum % t.len) ++ e.rest ti t (x.sum % t.len)).map (·.key)).Nodup := by
    rw [List.cons_append, List.map_cons, List.nodup_cons]
    refine ⟨fun hm => ?_, (hp0.map (·.key)).nodup_iff.1 hok.keys⟩
    obtain ⟨y, hy, hyb⟩ := List.mem_map.1 hm
    exact hno y (hp0.mem_iff.2 hy) hyb
  have hdm : DmAt ((W.setCell ⟨x.blk, 3, none⟩ (hd (t.at (x.sum % t.len)))).setCell ⟨t.blk, x.sum % t.len, none⟩ (ptr x.blk)) (e.setTab ti (t.set (x.sum % t.len) (x :: t.at (x.sum % t.len)))) := by
    refine upd_slot h ht hi _ hC (fun g hg => ?_) ?_ hch ?_
    · rcases hg with h' | h'
      · exact .inl h'
      · exact .inr (.inr (by rw [h']; exact hnew))
    · rw [tbCells_set]; exact hT
    · exact (hp1.map _).nodup_iff.2 hndb
  refine ⟨e.upd ti t (x.sum % t.len) (x :: t.at (x.sum % t.len)) (e.n + 1), fun W2 hc2 hb2 => upd_at _ hdm hc2 e2 (by rw [upd_cells ht]; exact hb2), ?_, hC, ?_, e2, e3, ?_, ?_, upd_shape ht _ _ _⟩
  · have := hdm.hd
    rw [upd_cells ht, e2] at this
    exact this
  · refine upd_ok hok ht hi (fun y hy => ?_) (fun h0 hlt => ?_) (fun y hy => ?_) (fun y hy => ?_) hndk ?_
    · rcases List.mem_cons.1 hy with rfl | h'
      · rfl
      · exact hin _ y hi h'
    · have := hok.at0 (hti h0); omega
    · rcases List.mem_cons.1 hy with rfl | h'
      · exact hs
      · exact hok.sums y (hinn y h')
    · rcases List.mem_cons.1 hy with rfl | h'
      · exact hv
      · exact hok.vok y (hinn y h')
    · have := hp0.length_eq
      rw [hok.count, this]; simp
  · intro g hg
    rcases upd_foot ht hi _ _ hg with h' | ⟨y, hy, rfl⟩
    · exact .inl h'
    · rcases List.mem_cons.1 hy with rfl | h'
      · exact .inr rfl
      · exact .inl (.inr (.inr (.inr ⟨y, hinn y h', rfl⟩)))
  · refine hp1.trans ?_
    rw [List.cons_append]
    exact List.Perm.cons x hp0.symm

/-- A node is cut out: told when the pointer to it is turned. -/
theorem upd_cut {W : World} {e : Dm} (h : DmAt W e) (hok : e.Ok) {ti : Nat} {t : Tb} (ht : e.tab ti = some t) {i : Nat} (hi : i < t.len) {pre post : Ch} {x : Nd} (hat : t.at i = pre ++ x :: post) {W' : World} (hW : W.setCell (loc t i pre) (hd post) = W') :
    ∃ d', (∀ W2, Chg (fun g => g = e.blk) W' W2 → Blk W2 e.blk 76 ((dmCells e).setIfInBounds 4 (.int .i64 ((e.n : Int) - 1))) → DmAt W2 d') ∧ Blk W' e.blk 76 (dmCells e) ∧ Chg e.foot W W' ∧ 1 ≤ e.n ∧
      d'.Ok ∧ d'.blk = e.blk ∧ d'.seed = e.seed ∧ (∀ g, d'.foot g → e.foot g) ∧ e.nodes.Perm (x :: d'.nodes) ∧ shape d' = shape e := by
  subst hW
  have hta := tab_at h ht
  obtain ⟨hsz, hin, hmem⟩ := tab_ok hok ht
  obtain ⟨e0, e1, e2, e3, e4, e5⟩ := setTab_t0 ht i (pre ++ post)
  have hp0 := rest_perm ht hi
  have hp1 := upd_perm ht hi (pre ++ post) (e.n - 1)
  have hchain := hta.2 _ (Tb.at_mem hi)
  have hinn : ∀ y ∈ t.at i, y ∈ e.nodes := fun y hy => hmem y (mem_nodes.2 ⟨_, hi, hy⟩)
  have hsub : (pre ++ post).Sublist (t.at i) := by rw [hat]; exact List.Sublist.append_left (List.sublist_cons_self x post) pre
  have hndb := nodup_at h ht hi (pre ++ post) (hsub.map _)
  have hn : ((t.at i).map (·.blk)).Nodup := by
    have := ((hp0.map (·.blk)).nodup_iff.1 h.nodup)
    rw [List.map_append, List.nodup_append] at this
    exact this.1
  have hall : e.nodes.Perm (x :: (pre ++ post ++ e.rest ti t i)) := by
    refine hp0.trans ?_
    rw [hat, List.append_assoc, List.append_assoc]
    exact List.perm_middle
  have hcnt : e.n = (pre ++ post ++ e.rest ti t i).length + 1 := by rw [hok.count, hall.length_eq]; rfl
  have main : DmAt (W.setCell (loc t i pre) (hd post)) (e.setTab ti (t.set i (pre ++ post))) ∧ Chg e.foot W (W.setCell (loc t i pre) (hd post)) := by
    rcases List.eq_nil_or_concat pre with rfl | ⟨p, y, hpy⟩
    · rw [loc_nil]
      have hC : Chg (fun g => g = t.blk) W (W.setCell ⟨t.blk, i, none⟩ (hd post)) := Chg.store (S := fun g => g = t.blk) (Chg.refl _ W) rfl _ _
      rw [hat, List.nil_append] at hchain
      refine ⟨upd_slot h ht hi _ hC (fun g hg => .inl hg) ?_ ?_ ((hp1.map _).nodup_iff.2 hndb), hC.mono fun g _ hg => hg ▸ tab_foot ht⟩
      · rw [tbCells_set]; exact hta.1.set i (hd post)
      · refine chAt.chg hC hchain.2 fun y hy hS => ?_
        obtain ⟨nx, hb⟩ := hta.node (mem_nodes.2 ⟨i, hi, by rw [hat]; exact List.mem_cons_of_mem x hy⟩ : y ∈ t.nodes)
        exact hb.ne_type hta.1 (by decide) hS
    · rw [List.concat_eq_append] at hpy
      subst hpy
      rw [loc_snoc]
      rw [List.append_assoc] at hat
      have hyn : y ∈ t.at i := by rw [hat]; simp
      obtain ⟨nx, hyb⟩ := hta.node (mem_nodes.2 ⟨i, hi, hyn⟩ : y ∈ t.nodes)
      have hC : Chg (fun g => g = y.blk) W (W.setCell ⟨y.blk, 3, none⟩ (hd post)) := Chg.store (S := fun g => g = y.blk) (Chg.refl _ W) rfl _ _
      rw [hat] at hchain hn
      refine ⟨upd_slot h ht hi _ hC (fun g hg => .inr (.inl ⟨y, hyn, hg⟩)) ?_ ?_ ((hp1.map _).nodup_iff.2 hndb), hC.mono fun g _ hg => hg ▸ .inr (.inr (.inr ⟨y, hinn y hyn, rfl⟩))⟩
      · rw [tbCells_same hi (by rw [hat]; cases p <;> rfl)]
        exact hta.1.far (p := ⟨y.blk, 3, none⟩) (fun h' => hyb.ne_type hta.1 (by decide) h'.symm) _
      · have := chAt_cut y x post p hchain hn
        rw [List.append_assoc]; exact this
  obtain ⟨hdm, hC⟩ := main
  refine ⟨e.upd ti t i (pre ++ post) (e.n - 1), fun W2 hc2 hb2 => upd_at _ hdm hc2 e2 (by rw [upd_cells ht, Int.ofNat_sub (by omega)]; exact hb2), ?_, hC, by omega, ?_, e2, e3, ?_, ?_, upd_shape ht _ _ _⟩
  · have := hdm.hd
    rw [upd_cells ht, e2] at this
    exact this
  · refine upd_ok hok ht hi (fun y hy => hin i y hi (hsub.subset hy)) (fun h0 hlt => ?_) (fun y hy => hok.sums y (hinn y (hsub.subset hy))) (fun y hy => hok.vok y (hinn y (hsub.subset hy))) ?_ (by omega)
    · have ht0 : t = e.t0 := by unfold Dm.tab at ht; rw [if_pos h0] at ht; injection ht with ht; exact ht.symm
      have := hok.moved i hlt
      rw [← ht0, hat] at this
      cases pre <;> cases this
    · have := (hall.map (·.key)).nodup_iff.1 hok.keys
      rw [List.map_cons, List.nodup_cons] at this
      exact this.2
  · intro g hg
    rcases upd_foot ht hi _ _ hg with h' | ⟨y, hy, rfl⟩
    · exact h'
    · exact .inr (.inr (.inr ⟨y, hinn y (hsub.subset hy), rfl⟩))
  · exact hall.trans (List.Perm.cons x hp1.symm)

end Go.Proofs.Ythbjjjcppijcbaa.Dint
