/- Texts joined for ZsetWays: DP2int64, DW4int64, DP3int64. -/
import Derived.Test.YtifcpippfiglkaaGreatJZsetWaysb
set_option linter.unusedVariables false
set_option linter.unusedSimpArgs false

/- A dict in the middle of a step, in memory. -/
namespace Go.Proofs.YtifcpippfiglkaaGreat.Dint64
open Go.RowKit Pal

/-- The nodes c of the slot that is moved lie in no other place. -/
structure Dis (e : Dm) (t : Tb) (c : Ch) : Prop where
  d0 : ∀ x ∈ c, ∀ y ∈ (e.t0.set e.at_ []).nodes, y.blk ≠ x.blk
  d1 : ∀ x ∈ c, ∀ y ∈ t.nodes, y.blk ≠ x.blk
  nod : (c.map (·.blk)).Nodup

theorem DmAt.dis {w : World} {e : Dm} (h : DmAt w e) (hok : e.Ok) {t : Tb} (ht : e.t1 = some t) : Dis e t (e.t0.at e.at_) := by
  have hlt := hok.atlt t ht
  have hp := nodes_set_perm e.t0 hlt []
  rw [List.append_nil] at hp
  have hn := h.nodup
  unfold Dm.nodes Dm.nodes1 at hn
  rw [ht] at hn
  have hn2 : (((e.t0.set e.at_ []).nodes ++ e.t0.at e.at_ ++ t.nodes).map (·.blk)).Nodup := ((hp.append_right t.nodes).map _).nodup_iff.2 hn
  rw [List.map_append, List.map_append, List.nodup_append] at hn2
  obtain ⟨h12, h3, hd⟩ := hn2
  rw [List.nodup_append] at h12
  obtain ⟨h1, h2, hd2⟩ := h12
  refine ⟨fun x hx y hy => ?_, fun x hx y hy => ?_, h2⟩
  · exact hd2 _ (List.mem_map.2 ⟨y, hy, rfl⟩) _ (List.mem_map.2 ⟨x, hx, rfl⟩)
  · exact fun e' => hd _ (List.mem_append.2 (.inr (List.mem_map.2 ⟨x, hx, rfl⟩))) _ (List.mem_map.2 ⟨y, hy, rfl⟩) e'.symm

structure Mid (e : Dm) (t' : Tb) (W : World) : Prop where
  hd : Blk W e.blk 138 (dmCells e)
  tb0 : Blk W e.t0.blk 158 (tbCells e.t0)
  oth : ∀ i, i < e.t0.len → i ≠ e.at_ → chAt W (e.t0.at i)
  t1 : tbAt W t'
  ne : e.t0.blk ≠ t'.blk

theorem DmAt.mid {w : World} {e : Dm} (h : DmAt w e) {t : Tb} (ht : e.t1 = some t) : Mid e t w :=
  ⟨h.hd, h.a0.1, fun _ hi _ => h.a0.2 _ (Tb.at_mem hi), h.a1 t ht, h.ne t ht⟩

theorem Mid.chg {e : Dm} {t' : Tb} {w w' : World} {S : Nat → Prop} (h : Mid e t' w) (hc : Chg S w w') (h1 : ¬ S e.blk) (h2 : ¬ S e.t0.blk) (h3 : ∀ i, i < e.t0.len → i ≠ e.at_ → ∀ x ∈ e.t0.at i, ¬ S x.blk)
    (h4 : ¬ S t'.blk) (h5 : ∀ x ∈ t'.nodes, ¬ S x.blk) : Mid e t' w' :=
  ⟨h.hd.chg hc h1, h.tb0.chg hc h2, fun i hi hne => (h.oth i hi hne).chg hc (h3 i hi hne), h.t1.chg hc h4 h5, h.ne⟩
theorem Mid.chg0 {e : Dm} {t' : Tb} {w w' : World} (h : Mid e t' w) (hc : Chg (fun _ => False) w w') : Mid e t' w' := h.chg hc id id (fun _ _ _ _ _ => id) id fun _ _ => id

theorem Mid.keep {e : Dm} {t' : Tb} {w w' : World} (h : Mid e t' w) (k : KeepC w w') : Mid e t' w' :=
  ⟨h.hd.keep k, h.tb0.keep k, fun i hi hne => (h.oth i hi hne).keep k, h.t1.keep k, h.ne⟩

theorem mem_set_nodes {t : Tb} {i : Nat} (hi : i < t.len) {j : Nat} (hj : j < t.len) (hne : j ≠ i) {x : Nd} (hx : x ∈ t.at j) : x ∈ (t.set i []).nodes :=
  mem_nodes.2 ⟨j, by rw [Tb.set_len]; exact hj, by rw [Tb.set_at hi, if_neg (fun h => hne h.symm)]; exact hx⟩

/-- A node is put. -/
theorem mid_put {e : Dm} {t t' : Tb} {W : World} {x : Nd} {r : Ch} (h : Mid e t' W) (hlt : e.at_ < e.t0.len) (hpos : 0 < t'.len) (hx : Blk W x.blk 160 (ndCells x (hd r))) (hr : chAt W r)
    (hd0 : ∀ y ∈ (e.t0.set e.at_ []).nodes, y.blk ≠ x.blk) (hd1 : ∀ y ∈ t'.nodes, y.blk ≠ x.blk) (hdr : ∀ y ∈ r, y.blk ≠ x.blk) :
    ∀ W', (W.setCell ⟨x.blk, 3, none⟩ (hd (t'.at (x.sum % t'.len)))).setCell ⟨t'.blk, x.sum % t'.len, none⟩ (ptr x.blk) = W' →
      Mid e (push t' x) W' ∧ chAt W' r ∧ Chg (fun g => g = x.blk ∨ g = t'.blk) W W' := by
  rintro W' rfl
  have hi : x.sum % t'.len < t'.len := Nat.mod_lt _ hpos
  have hC : Chg (fun g => g = x.blk ∨ g = t'.blk) W ((W.setCell ⟨x.blk, 3, none⟩ (hd (t'.at (x.sum % t'.len)))).setCell ⟨t'.blk, x.sum % t'.len, none⟩ (ptr x.blk)) :=
    ((Chg.refl _ W).store (.inl rfl) 3 _).store (.inr rfl) _ _
  have hxt : x.blk ≠ t'.blk := hx.ne_type h.t1.1 (by decide)
  have hnt : ∀ y ∈ t'.nodes, y.blk ≠ t'.blk := fun y hy => by obtain ⟨nx, hb⟩ := h.t1.node hy; exact hb.ne_type h.t1.1 (by decide)
  have hsl : ∀ y ∈ t'.at (x.sum % t'.len), y ∈ t'.nodes := fun y hy => mem_nodes.2 ⟨_, hi, hy⟩
  have hch : ∀ c : Ch, chAt W c → (∀ y ∈ c, y.blk ≠ x.blk) → chAt ((W.setCell ⟨x.blk, 3, none⟩ (hd (t'.at (x.sum % t'.len)))).setCell ⟨t'.blk, x.sum % t'.len, none⟩ (ptr x.blk)) c := fun c hc hne => by
    refine hc.chg hC fun y hy hS => ?_
    rcases hS with hS | hS
    · exact hne y hy hS
    · -- a node's block is no table's
      obtain ⟨pre, post, rfl⟩ := List.append_of_mem hy
      exact (hc.node rfl).ne_type h.t1.1 (by decide) hS
  refine ⟨⟨?_, ?_, ?_, ⟨?_, ?_⟩, h.ne⟩, hch r hr hdr, hC⟩
  · exact h.hd.chg hC (by rintro (e' | e'); exact hx.ne_type h.hd (by decide) e'.symm; exact h.t1.1.ne_type h.hd (by decide) e'.symm)
  · exact h.tb0.chg hC (by rintro (e' | e'); exact hx.ne_type h.tb0 (by decide) e'.symm; exact h.ne e')
  · exact fun i hi' hne => hch _ (h.oth i hi' hne) fun y hy => hd0 y (mem_set_nodes hlt hi' hne hy)
  · have hb := (h.t1.1.far (p := ⟨x.blk, 3, none⟩) (fun e' => hxt e'.symm) (hd (t'.at (x.sum % t'.len)))).set (x.sum % t'.len) (ptr x.blk)
    have e1 : tbCells (push t' x) = (tbCells t').setIfInBounds (x.sum % t'.len) (ptr x.blk) := tbCells_set _ _ _
    rw [e1]; exact hb
  · intro c hc
    have hc' : c ∈ t'.slots.set (x.sum % t'.len) (x :: t'.at (x.sum % t'.len)) := hc
    rcases List.mem_or_eq_of_mem_set hc' with hc | rfl
    · exact hch c (h.t1.2 c hc) fun y hy => hd1 y (List.mem_flatten.2 ⟨c, hc, hy⟩)
    · refine ⟨?_, hch _ (h.t1.2 _ (Tb.at_mem hi)) fun y hy => hd1 y (hsl y hy)⟩
      have hb := (hx.set 3 (hd (t'.at (x.sum % t'.len)))).far (p := ⟨t'.blk, x.sum % t'.len, none⟩) hxt (ptr x.blk)
      have e1 : (ndCells x (hd r)).setIfInBounds 3 (hd (t'.at (x.sum % t'.len))) = ndCells x (hd (t'.at (x.sum % t'.len))) := rfl
      rw [e1] at hb
      exact hb

/-- The slot's cell cleared, the place moved on: the dict behind it, while it still moves. -/
theorem mid_next {e : Dm} {t t' : Tb} {W W' : World} (h : Mid e t' W) (hok : e.Ok) (ht : e.t1 = some t) (ht' : t' = (e.t0.at e.at_).foldl push t) (hnl : e.at_ + 1 ≠ e.t0.len) (hnd : (e.nodes.map (·.blk)).Nodup)
    (hc : Chg (fun g => g = e.blk ∨ g = e.t0.blk) W W') (h1 : Blk W' e.blk 138 ((dmCells e).setIfInBounds 3 (.int .i64 ((e.at_ + 1 : Nat) : Int)))) (h2 : Blk W' e.t0.blk 158 ((tbCells e.t0).setIfInBounds e.at_ (.pointer none))) :
    DmAt W' (moveSlot e) := by
  have hlt := hok.atlt t ht
  have hp := moveSlot_perm hok
  have em : moveSlot e = { e with t0 := e.t0.set e.at_ [], t1 := some t', at_ := e.at_ + 1 } := by unfold moveSlot; rw [ht, ht']; simp [hnl]
  have hnn : (((moveSlot e).nodes).map (·.blk)).Nodup := (hp.map _).nodup_iff.2 hnd
  have hch : ∀ c : Ch, chAt W c → chAt W' c := fun c hcc => hcc.chg hc fun y hy hS => by
    obtain ⟨pre, post, rfl⟩ := List.append_of_mem hy
    have hb := hcc.node rfl
    rcases hS with hS | hS
    · exact hb.ne_type h.hd (by decide) hS
    · exact hb.ne_type h.tb0 (by decide) hS
  have hvt : tbVal t' = tbVal t := by unfold tbVal; rw [ht', fold_len, fold_blk]
  rw [em] at hnn ⊢
  refine { hd := ?_, a0 := ⟨?_, ?_⟩, a1 := ?_, ne := ?_, nodup := hnn }
  · have e1 : (dmCells e).setIfInBounds 3 (.int .i64 ((e.at_ + 1 : Nat) : Int)) = dmCells { e with t0 := e.t0.set e.at_ [], t1 := some t', at_ := e.at_ + 1 } := by
      simp [dmCells, t1Val, ht, hvt]
      unfold tbVal Tb.set Tb.len; simp
    rw [← e1]; exact h1
  · show Blk W' e.t0.blk _ _
    rw [tbCells_set]; exact h2
  · intro c hcm
    have hcm' : c ∈ e.t0.slots.set e.at_ [] := hcm
    obtain ⟨i, hi, rfl⟩ := List.mem_iff_getElem.1 hcm'
    rw [List.getElem_set]
    split
    · trivial
    · rename_i hne
      have hi' : i < e.t0.len := by simpa [Tb.len] using hi
      have := h.oth i hi' (fun e' => hne e'.symm)
      have e2 := Tb.at_lt hi'
      rw [List.getElem?_eq_getElem hi'] at e2
      injection e2 with e2
      have h3 := hch _ this
      rw [← e2] at h3
      exact h3
  · intro u hu
    injection hu with hu
    subst hu
    refine ⟨h.t1.1.chg hc ?_, fun c hcm => hch c (h.t1.2 c hcm)⟩
    rintro (e' | e')
    · exact h.t1.1.ne_type h.hd (by decide) e'
    · exact h.ne e'.symm
  · intro u hu
    injection hu with hu
    subst hu
    exact h.ne

/-- The last slot: the second table is the first one. -/
theorem mid_last {e : Dm} {t t' : Tb} {W W' : World} (h : Mid e t' W) (hok : e.Ok) (ht : e.t1 = some t) (ht' : t' = (e.t0.at e.at_).foldl push t) (hl : e.at_ + 1 = e.t0.len) (hnd : (e.nodes.map (·.blk)).Nodup)
    (hc : Chg (fun g => g = e.blk ∨ g = e.t0.blk) W W') (h1 : Blk W' e.blk 138 #[.int .u32 (e.seed : Int), tbVal t, .slice none 0 0, .int .i64 0, .int .i64 (e.n : Int)]) :
    DmAt W' (moveSlot e) := by
  have hp := moveSlot_perm hok
  have em : moveSlot e = { e with t0 := t', t1 := none, at_ := 0 } := by unfold moveSlot; rw [ht, ht']; simp [hl]
  have hnn : (((moveSlot e).nodes).map (·.blk)).Nodup := (hp.map _).nodup_iff.2 hnd
  have hch : ∀ c : Ch, chAt W c → chAt W' c := fun c hcc => hcc.chg hc fun y hy hS => by
    obtain ⟨pre, post, rfl⟩ := List.append_of_mem hy
    have hb := hcc.node rfl
    rcases hS with hS | hS
    · exact hb.ne_type h.hd (by decide) hS
    · exact hb.ne_type h.tb0 (by decide) hS
  have hvt : tbVal t' = tbVal t := by unfold tbVal; rw [ht', fold_len, fold_blk]
  rw [em] at hnn ⊢
  refine { hd := ?_, a0 := ⟨?_, fun c hcm => hch c (h.t1.2 c hcm)⟩, a1 := fun u hu => (by cases hu), ne := fun u hu => (by cases hu), nodup := hnn }
  · unfold dmCells t1Val; dsimp only; rw [hvt]; exact h1
  · refine h.t1.1.chg hc ?_
    rintro (e' | e')
    · exact h.t1.1.ne_type h.hd (by decide) e'
    · exact h.ne e'.symm

end Go.Proofs.YtifcpippfiglkaaGreat.Dint64

/- Contract of dict.Step. -/
namespace Go.Proofs.YtifcpippfiglkaaGreat.Dint64
open Go.RowKit Pal
attribute [local go_sem] Oper.semAt_some

theorem all80 {P : Array Value → Prop} (h : ∀ u0 u1 u2 u3 u4 u5 u6 u7 u8 u9 u10 u11 u12 u13 u14 u15 u16 u17 u18 u19 u20 u21 u22 u23 u24 u25 u26 u27 u28 u29 u30 u31 u32 u33 u34 u35 u36 u37 u38 u39 u40 u41 u42 u43 u44 u45 u46 u47 u48 u49 u50 u51 u52 u53 u54 u55 u56 u57 u58 u59 u60 u61 u62 u63 u64 u65 u66 u67 u68 u69 u70 u71 u72 u73 u74 u75 u76 u77 u78 u79 : Value, P #[u0, u1, u2, u3, u4, u5, u6, u7, u8, u9, u10, u11, u12, u13, u14, u15, u16, u17, u18, u19, u20, u21, u22, u23, u24, u25, u26, u27, u28, u29, u30, u31, u32, u33, u34, u35, u36, u37, u38, u39, u40, u41, u42, u43, u44, u45, u46, u47, u48, u49, u50, u51, u52, u53, u54, u55, u56, u57, u58, u59, u60, u61, u62, u63, u64, u65, u66, u67, u68, u69, u70, u71, u72, u73, u74, u75, u76, u77, u78, u79]) (a : Array Value) (hs : a.size = 80) : P a := by
  obtain ⟨l⟩ := a
  have g0 : l.length = 80 := hs
  clear hs
  obtain ⟨u0, l0, e0, g1⟩ := Pal.len_cons g0
  obtain ⟨u1, l1, e1, g2⟩ := Pal.len_cons g1
  obtain ⟨u2, l2, e2, g3⟩ := Pal.len_cons g2
  obtain ⟨u3, l3, e3, g4⟩ := Pal.len_cons g3
  obtain ⟨u4, l4, e4, g5⟩ := Pal.len_cons g4
  obtain ⟨u5, l5, e5, g6⟩ := Pal.len_cons g5
  obtain ⟨u6, l6, e6, g7⟩ := Pal.len_cons g6
  obtain ⟨u7, l7, e7, g8⟩ := Pal.len_cons g7
  obtain ⟨u8, l8, e8, g9⟩ := Pal.len_cons g8
  obtain ⟨u9, l9, e9, g10⟩ := Pal.len_cons g9
  obtain ⟨u10, l10, e10, g11⟩ := Pal.len_cons g10
  obtain ⟨u11, l11, e11, g12⟩ := Pal.len_cons g11
  obtain ⟨u12, l12, e12, g13⟩ := Pal.len_cons g12
  obtain ⟨u13, l13, e13, g14⟩ := Pal.len_cons g13
  obtain ⟨u14, l14, e14, g15⟩ := Pal.len_cons g14
  obtain ⟨u15, l15, e15, g16⟩ := Pal.len_cons g15
  obtain ⟨u16, l16, e16, g17⟩ := Pal.len_cons g16
  obtain ⟨u17, l17, e17, g18⟩ := Pal.len_cons g17
  obtain ⟨u18, l18, e18, g19⟩ := Pal.len_cons g18
  obtain ⟨u19, l19, e19, g20⟩ := Pal.len_cons g19
  obtain ⟨u20, l20, e20, g21⟩ := Pal.len_cons g20
  obtain ⟨u21, l21, e21, g22⟩ := Pal.len_cons g21
  obtain ⟨u22, l22, e22, g23⟩ := Pal.len_cons g22
  obtain ⟨u23, l23, e23, g24⟩ := Pal.len_cons g23
  obtain ⟨u24, l24, e24, g25⟩ := Pal.len_cons g24
  obtain ⟨u25, l25, e25, g26⟩ := Pal.len_cons g25
  obtain ⟨u26, l26, e26, g27⟩ := Pal.len_cons g26
  obtain ⟨u27, l27, e27, g28⟩ := Pal.len_cons g27
  obtain ⟨u28, l28, e28, g29⟩ := Pal.len_cons g28
  obtain ⟨u29, l29, e29, g30⟩ := Pal.len_cons g29
  obtain ⟨u30, l30, e30, g31⟩ := Pal.len_cons g30
  obtain ⟨u31, l31, e31, g32⟩ := Pal.len_cons g31
  obtain ⟨u32, l32, e32, g33⟩ := Pal.len_cons g32
  obtain ⟨u33, l33, e33, g34⟩ := Pal.len_cons g33
  obtain ⟨u34, l34, e34, g35⟩ := Pal.len_cons g34
  obtain ⟨u35, l35, e35, g36⟩ := Pal.len_cons g35
  obtain ⟨u36, l36, e36, g37⟩ := Pal.len_cons g36
  obtain ⟨u37, l37, e37, g38⟩ := Pal.len_cons g37
  obtain ⟨u38, l38, e38, g39⟩ := Pal.len_cons g38
  obtain ⟨u39, l39, e39, g40⟩ := Pal.len_cons g39
  obtain ⟨u40, l40, e40, g41⟩ := Pal.len_cons g40
  obtain ⟨u41, l41, e41, g42⟩ := Pal.len_cons g41
  obtain ⟨u42, l42, e42, g43⟩ := Pal.len_cons g42
  obtain ⟨u43, l43, e43, g44⟩ := Pal.len_cons g43
  obtain ⟨u44, l44, e44, g45⟩ := Pal.len_cons g44
  obtain ⟨u45, l45, e45, g46⟩ := Pal.len_cons g45
  obtain ⟨u46, l46, e46, g47⟩ := Pal.len_cons g46
  obtain ⟨u47, l47, e47, g48⟩ := Pal.len_cons g47
  obtain ⟨u48, l48, e48, g49⟩ := Pal.len_cons g48
  obtain ⟨u49, l49, e49, g50⟩ := Pal.len_cons g49
  obtain ⟨u50, l50, e50, g51⟩ := Pal.len_cons g50
  obtain ⟨u51, l51, e51, g52⟩ := Pal.len_cons g51
  obtain ⟨u52, l52, e52, g53⟩ := Pal.len_cons g52
  obtain ⟨u53, l53, e53, g54⟩ := Pal.len_cons g53
  obtain ⟨u54, l54, e54, g55⟩ := Pal.len_cons g54
  obtain ⟨u55, l55, e55, g56⟩ := Pal.len_cons g55
  obtain ⟨u56, l56, e56, g57⟩ := Pal.len_cons g56
  obtain ⟨u57, l57, e57, g58⟩ := Pal.len_cons g57
  obtain ⟨u58, l58, e58, g59⟩ := Pal.len_cons g58
  obtain ⟨u59, l59, e59, g60⟩ := Pal.len_cons g59
  obtain ⟨u60, l60, e60, g61⟩ := Pal.len_cons g60
  obtain ⟨u61, l61, e61, g62⟩ := Pal.len_cons g61
  obtain ⟨u62, l62, e62, g63⟩ := Pal.len_cons g62
  obtain ⟨u63, l63, e63, g64⟩ := Pal.len_cons g63
  obtain ⟨u64, l64, e64, g65⟩ := Pal.len_cons g64
  obtain ⟨u65, l65, e65, g66⟩ := Pal.len_cons g65
  obtain ⟨u66, l66, e66, g67⟩ := Pal.len_cons g66
  obtain ⟨u67, l67, e67, g68⟩ := Pal.len_cons g67
  obtain ⟨u68, l68, e68, g69⟩ := Pal.len_cons g68
  obtain ⟨u69, l69, e69, g70⟩ := Pal.len_cons g69
  obtain ⟨u70, l70, e70, g71⟩ := Pal.len_cons g70
  obtain ⟨u71, l71, e71, g72⟩ := Pal.len_cons g71
  obtain ⟨u72, l72, e72, g73⟩ := Pal.len_cons g72
  obtain ⟨u73, l73, e73, g74⟩ := Pal.len_cons g73
  obtain ⟨u74, l74, e74, g75⟩ := Pal.len_cons g74
  obtain ⟨u75, l75, e75, g76⟩ := Pal.len_cons g75
  obtain ⟨u76, l76, e76, g77⟩ := Pal.len_cons g76
  obtain ⟨u77, l77, e77, g78⟩ := Pal.len_cons g77
  obtain ⟨u78, l78, e78, g79⟩ := Pal.len_cons g78
  obtain ⟨u79, l79, e79, g80⟩ := Pal.len_cons g79
  obtain rfl := List.eq_nil_of_length_eq_zero g80
  have e : (⟨l⟩ : Array Value) = #[u0, u1, u2, u3, u4, u5, u6, u7, u8, u9, u10, u11, u12, u13, u14, u15, u16, u17, u18, u19, u20, u21, u22, u23, u24, u25, u26, u27, u28, u29, u30, u31, u32, u33, u34, u35, u36, u37, u38, u39, u40, u41, u42, u43, u44, u45, u46, u47, u48, u49, u50, u51, u52, u53, u54, u55, u56, u57, u58, u59, u60, u61, u62, u63, u64, u65, u66, u67, u68, u69, u70, u71, u72, u73, u74, u75, u76, u77, u78, u79] := by rw [e0, e1, e2, e3, e4, e5, e6, e7, e8, e9, e10, e11, e12, e13, e14, e15, e16, e17, e18, e19, e20, e21, e22, e23, e24, e25, e26, e27, e28, e29, e30, e31, e32, e33, e34, e35, e36, e37, e38, e39, e40, e41, e42, e43, e44, e45, e46, e47, e48, e49, e50, e51, e52, e53, e54, e55, e56, e57, e58, e59, e60, e61, e62, e63, e64, e65, e66, e67, e68, e69, e70, e71, e72, e73, e74, e75, e76, e77, e78, e79]
  rw [e]
  exact h u0 u1 u2 u3 u4 u5 u6 u7 u8 u9 u10 u11 u12 u13 u14 u15 u16 u17 u18 u19 u20 u21 u22 u23 u24 u25 u26 u27 u28 u29 u30 u31 u32 u33 u34 u35 u36 u37 u38 u39 u40 u41 u42 u43 u44 u45 u46 u47 u48 u49 u50 u51 u52 u53 u54 u55 u56 u57 u58 u59 u60 u61 u62 u63 u64 u65 u66 u67 u68 u69 u70 u71 u72 u73 u74 u75 u76 u77 u78 u79

/-- The frame of Step at the head of its loop. -/
def StepAct (d : Dm) (n : Int) (B j : Nat) (Ds : List Nat) (a : Act) : Prop :=
  a.tmps.size = 80 ∧ a.tmps[0]? = some (ptr d.blk) ∧ a.tmps[1]? = some (.int .i64 n) ∧ a.tmps[2]? = some (ptr B) ∧ a.tmps[5]? = some (.int .i64 (j : Int)) ∧ a.defers = marks Ds

def StepInv (d : Dm) (n : Int) (w0 : World) (m : Nat) (a : Act) (w : World) : Prop :=
  ∃ (j : Nat) (Ds : List Nat), m = stepK d n - j ∧ j ≤ stepK d n ∧ StepAct d n w0.heap.size j Ds a ∧ DmAt w (moveN d j) ∧ Blk w w0.heap.size 96 #[ptr d.blk] ∧ Marked w w0.heap.size Ds ∧ Chg d.foot w0 w

set_option maxRecDepth 100000 in
set_option maxHeartbeats 1000000 in
theorem Step_any (d : Dm) (n : Int) (w : World) (h : DmAt w d) (hok : d.Ok) :
    Calls Tryz.prog 86 #[ptr d.blk, .int .i64 n] w fun e w' => e = .returned (.int .i64 (stepK d n : Int)) ∧ DmAt w' (stepD d n) ∧ Chg d.foot w w' := by
  refine calls_of_wp_marks Tryz.func86 rfl ?_
  simp only [Tryz.ntmps86, List.size_toArray, List.length_cons, List.length_nil, Nat.reduceAdd, Nat.reduceSub, Array.replicate_succ, Array.replicate_zero, List.push_toArray, List.append_toArray, List.nil_append, List.cons_append]
  have hlt := h.hd.lt
  unfold ptr
  go_wp2_with fail
  refine wp_loop_ghost (StepInv d n w) (stepK d n) ?_ ?_
  · exact ⟨0, [], rfl, Nat.zero_le _, ⟨rfl, rfl, rfl, rfl, rfl, rfl⟩, h.chg0 ((Chg.refl _ w).alloc _), Blk.new w _ _, Marked.nil _ _, (Chg.refl _ w).alloc _⟩
  · rintro m ⟨tmps, ds⟩ W ⟨j, Ds, rfl, hj, ⟨hsz, h0, h1, h2, h5, rfl⟩, hD, hB, hM, hC⟩
    replace hsz : tmps.size = 80 := hsz
    dsimp only at h0 h1 h2 h5
    revert h0 h1 h2 h5
    revert hsz
    revert tmps
    refine all80 ?_
    intro u0 u1 u2 u3 u4 u5 u6 u7 u8 u9 u10 u11 u12 u13 u14 u15 u16 u17 u18 u19 u20 u21 u22 u23 u24 u25 u26 u27 u28 u29 u30 u31 u32 u33 u34 u35 u36 u37 u38 u39 u40 u41 u42 u43 u44 u45 u46 u47 u48 u49 u50 u51 u52 u53 u54 u55 u56 u57 u58 u59 u60 u61 u62 u63 u64 u65 u66 u67 u68 u69 u70 u71 u72 u73 u74 u75 u76 u77 u78 u79 h0 h1 h2 h5
    have hE := moveN_ok hok j
    have hblk := (moveN_blk d j).1
    obtain ⟨e, he⟩ : ∃ e, Hid (moveN d j = e) := ⟨_, rfl⟩
    rw [he.out] at hD hE hblk
    rw [← hblk] at h0 hB
    simp only [ptr, List.getElem?_toArray, List.getElem?_cons_zero, List.getElem?_cons_succ, Option.some.injEq] at h0 h1 h2 h5
    subst h0 h1 h2 h5
    have hB0 := hB.cell 0
    simp only [ptr, List.getElem?_toArray, List.getElem?_cons_zero] at hB0
    have HBE := Lib.hid hblk
    clear hblk
    by_cases hjn : (j : Int) < n
    · have hmv : ∀ W, DmAt W e → _ := fun W h => isMoving_any e W h
      unfold ptr at hmv
      cases ht : e.t1 with
      | none =>
        rw [ht] at hmv
        have hk : j = stepK d n := by
          unfold stepK at hj ⊢
          have := he.out
          cases hd : d.t1 with
          | none => rw [hd] at hj; simp at hj ⊢; exact hj
          | some u =>
            rw [hd] at hj
            simp only [Option.isSome_some, if_true] at hj ⊢
            rcases Nat.lt_or_ge (d.at_ + j) d.t0.len with hlt2 | hge2
            · have := (moveN_at hok hd j hlt2).1
              rw [he.out, ht] at this
              cases this
            · have := hok.atlt u hd
              omega
        have HK := Lib.hid hk
        have hfin : DmAt W (stepD d n) := by unfold stepD; rw [← hk, he.out]; exact hD
        clear ht hk
        go_wp2_with (go_at_call 93; refine (hmv _ hD).mono ?_; rintro e w' ⟨rfl, rfl⟩)
        refine bodyPostM_marks (w0 := w) (fun _ => results_tmp rfl _ _ _) Ds W hM fun w' hc' => ⟨by rw [← HK.out]; rfl, ?_, ?_⟩
        · exact hfin.chg hc' fun g hg h' => Nat.lt_irrefl _ (Nat.lt_of_lt_of_le (h.lt (moveN_foot hok _ hg)) h')
        · exact hC.trans' hc' fun g hg h' => absurd hg (Nat.not_lt.2 h')
      | some t =>
        rw [ht] at hmv
        have hlt0 := hE.atlt t ht
        obtain ⟨c0, c1, c2, c3, c4, cf, clt⟩ := dm_cells hD
        have ct := hD.a0.1.cell e.at_
        rw [tbCells_get hlt0] at ct
        have hlti : (e.at_ : Int) < (e.t0.len : Int) := by omega
        obtain ⟨q, HQ⟩ : ∃ q, Hid (hd (e.t0.at e.at_) = .pointer q) := by cases e.t0.at e.at_ <;> exact ⟨_, rfl⟩
        rw [HQ.out] at ct
        have HT := Lib.hid ht
        rw [ht] at c2
        simp only [t1Val, tbVal] at c1 c2
        clear ht
        go_wp2_with (go_at_call 93; refine (hmv _ hD).mono ?_; rintro e w' ⟨rfl, rfl⟩)
        go_still_tail 11, (by kernel_rfl)
        go_wp2_with (go_at_call 97; refine (chain_any _ _).mono ?_; rintro e w' ⟨rfl, rfl⟩)
        have hA : Chg (fun _ => False) W (W.alloc (Obj.cells #[Value.pointer q] 158)).drew := ((Chg.refl _ W).alloc _).drew
        have hbox : Blk (W.alloc (Obj.cells #[Value.pointer q] 158)).drew W.heap.size 158 #[Value.pointer q] := (Blk.new W _ _).drew
        have hD1 := hD.chg0 hA
        have hB1 := hB.chg hA id
        have hM1 := hM.chg hA fun _ _ _ => id
        have hC1 := hC.trans' hA fun _ _ h => h.elim
        have hs1 : W.heap.size < (W.alloc (Obj.cells #[Value.pointer q] 158)).drew.heap.size := by simp
        have hsW := hC.size
        have hlow : w.heap.size < W.heap.size := hB.lt
        generalize (W.alloc (Obj.cells #[Value.pointer q] 158)).drew = W1 at hA hbox hD1 hB1 hM1 hC1 hs1 ⊢
        obtain ⟨cb, hcb⟩ : ∃ cb, W.heap.size = cb := ⟨_, rfl⟩
        rw [hcb] at hbox hs1 hsW hlow ⊢
        rw [← HQ.out] at hbox
        have hcbn : ∀ g, d.foot g → g ≠ cb := fun g hg h' => by have := h.lt hg; omega
        have hfoot : ∀ g, e.foot g → d.foot g := fun g hg => moveN_foot hok j (by rw [he.out]; exact hg)
        clear hA c0 c1 c2 c3 c4 cf clt ct hmv hB0 hcb hD hB hM hC
        have hdis := hD1.dis hE HT.out
        have hnd := hD1.nodup
        have hmid := hD1.mid HT.out
        have hpos : 0 < t.len := by have := (hE.s1 t HT.out).pos; omega
        refine wp_range 105 #[ptr cb] rfl (enters_of Tryz.func105 (by kernel_rfl) rfl) (fun fn rec hrec => ?_)
        refine (chain1_any (W1.heap.size + 1) cb
          (fun r V => (∃ pre, pre ++ r = e.t0.at e.at_ ∧ Mid e (pre.foldl push t) V) ∧ chAt V r ∧ Blk V cb 158 #[hd r] ∧ V.heap[W1.heap.size + 1]? = some (.loop (rec .ready none)) ∧ V.heap[W1.heap.size]? = some (.deferred (some [])) ∧ Marked V w.heap.size Ds ∧ Blk V w.heap.size 96 #[ptr e.blk] ∧ Chg d.foot w V)
          (fun r V => (∃ pre, pre ++ r = e.t0.at e.at_ ∧ Mid e (pre.foldl push t) V) ∧ chAt V r ∧ (∃ v, Blk V cb 158 #[v]) ∧ V.heap[W1.heap.size + 1]? = some (.loop (rec .ready none)) ∧ V.heap[W1.heap.size]? = some (.deferred (some [])) ∧ Marked V w.heap.size Ds ∧ Blk V w.heap.size 96 #[ptr e.blk] ∧ Chg d.foot w V)
          (fun _ => False) ?_ ?_ ?_ (e.t0.at e.at_) _ ?_).mono ?_
        · rintro r V ⟨_, _, hb, _⟩
          exact hb.cell 0
        · rintro x r V ⟨⟨pre, hpre, hm⟩, ⟨hx, hr⟩, hb, hl, hDf, hMk, hBx, hCx⟩
          refine ⟨hx.cell 3, ?_⟩
          refine yield_body hrec hl rfl (fun K hK => by gi_wp2; exact hK) hl ?_
          have kc := KeepC.put_loop hl (Obj.loop (rec LoopState.busy none))
          have hxc : x ∈ e.t0.at e.at_ := by rw [← hpre]; simp
          have hxn : x ∈ e.nodes := mem_nodes0 (mem_nodes.2 ⟨_, hlt0, hxc⟩)
          have hxs : x.sum < 4294967296 := hE.sum_lt hxn
          have hfs := fold_sized pre (hE.s1 t HT.out)
          have hvt : tbVal (pre.foldl push t) = tbVal t := by unfold tbVal; rw [fold_len, fold_blk]
          have hp : 0 < (pre.foldl push t).len := by rw [fold_len]; exact hpos
          have hcn := hdis.nod
          rw [← hpre, List.map_append, List.map_cons] at hcn
          have hcn2 := (List.nodup_append.1 hcn).2.1
          have hd1 : ∀ y ∈ (pre.foldl push t).nodes, y.blk ≠ x.blk := fun y hy => by
            have hy' := (fold_push_perm pre hpos).mem_iff.1 hy
            rcases List.mem_append.1 hy' with hy' | hy'
            · exact (List.nodup_append.1 hcn).2.2 _ (List.mem_map.2 ⟨y, hy', rfl⟩) _ (by simp)
            · exact hdis.d1 x hxc y hy'
          have hdr : ∀ y ∈ r, y.blk ≠ x.blk := fun y hy h' => by
            rw [List.nodup_cons] at hcn2
            exact hcn2.1 (h' ▸ List.mem_map.2 ⟨y, hy, rfl⟩)
          have htb : Hid ((pre.foldl push t).blk = t.blk) := fold_blk _ _
          have hft : d.foot t.blk := hfoot _ (.inr (.inr (.inl ⟨t, HT.out, rfl⟩)))
          have hfx : d.foot x.blk := hfoot _ (.inr (.inr (.inr ⟨x, hxn, rfl⟩)))
          have hsp : Hid ((pre ++ [x]).foldl push t = push (pre.foldl push t) x) := by show _ = _; rw [List.foldl_append]; rfl
          have HP : Hid (pre ++ x :: r = e.t0.at e.at_) := hpre
          have m2 := hm.keep kc
          have r2 := hr.keep kc
          have x2 := hx.keep kc
          have b2 := hb.keep kc
          have B2 := hBx.keep kc
          have g3 : (V.putObj (W1.heap.size + 1) (Obj.loop (rec LoopState.busy none))).heap[W1.heap.size + 1]? = some (.loop (rec .busy none)) := World.putObj_heap_same (Array.getElem?_eq_some_iff.1 hl).1
          have g4 : (V.putObj (W1.heap.size + 1) (Obj.loop (rec LoopState.busy none))).heap[W1.heap.size]? = some (.deferred (some [])) := (World.putObj_heap_other (by omega)).trans hDf
          have g5 : Chg d.foot w (V.putObj (W1.heap.size + 1) (Obj.loop (rec LoopState.busy none))) := hCx.put (by omega) _
          have g6 : Marked (V.putObj (W1.heap.size + 1) (Obj.loop (rec LoopState.busy none))) w.heap.size Ds := ⟨hMk.1, fun D hDD => ⟨(hMk.2 D hDD).1, (World.putObj_heap_other (fun h' => by have := (hMk.2 D hDD).2; rw [h', hl] at this; cases this)).trans (hMk.2 D hDD).2⟩⟩
          generalize V.putObj (W1.heap.size + 1) (Obj.loop (rec LoopState.busy none)) = V1 at m2 r2 x2 b2 B2 g3 g4 g5 g6 ⊢
          generalize pre.foldl push t = t' at hfs hvt hp hd1 htb hsp m2
          clear hm hr hx hb hl hDf hMk hBx hCx kc hpre hcn hcn2 hxc
          have k0 := B2.cell 0
          have k1 := m2.hd.cell 2
          simp only [dmCells, ptr, List.getElem?_toArray, List.getElem?_cons_zero, List.getElem?_cons_succ] at k0 k1
          rw [HT.out] at k1
          simp only [t1Val] at k1
          rw [← hvt] at k1
          have hlt1 := m2.hd.lt
          have hltB := B2.lt
          simp only [tbVal] at k1
          clear hvt
          unfold ptr
          gi_wp2
          refine ⟨trivial, ?_⟩
          have kA := KeepC.alloc V1 (Obj.cells #[Value.pointer (some { block := x.blk, off := 0 })] 158)
          have cn := (Blk.new V1 158 #[Value.pointer (some { block := x.blk, off := 0 })]).cell 0
          simp only [List.getElem?_toArray, List.getElem?_cons_zero] at cn
          have m3 := m2.keep kA
          have r3 := r2.keep kA
          have x3 := x2.keep kA
          have b3 := b2.keep kA
          have B3 := B2.keep kA
          have i3 := (Below.heap_alloc V1 (Obj.cells #[Value.pointer (some { block := x.blk, off := 0 })] 158) _ (Array.getElem?_eq_some_iff.1 g3).1).trans g3
          have i4 := (Below.heap_alloc V1 (Obj.cells #[Value.pointer (some { block := x.blk, off := 0 })] 158) _ (Array.getElem?_eq_some_iff.1 g4).1).trans g4
          have i5 := g5.alloc (Obj.cells #[Value.pointer (some { block := x.blk, off := 0 })] 158)
          have i6 : Marked (V1.alloc (Obj.cells #[Value.pointer (some { block := x.blk, off := 0 })] 158)) w.heap.size Ds := ⟨g6.1, fun D hDD => ⟨(g6.2 D hDD).1, (Below.heap_alloc _ _ _ (Array.getElem?_eq_some_iff.1 (g6.2 D hDD).2).1).trans (g6.2 D hDD).2⟩⟩
          generalize V1.alloc (Obj.cells #[Value.pointer (some { block := x.blk, off := 0 })] 158) = V2 at cn m3 r3 x3 b3 B3 i3 i4 i5 i6 ⊢
          refine (CallsIn.inRound _ (callsIn_wide.2 (put_any t' x _ V1.heap.size V2 hfs hxs m3.t1.1 x3 cn))).mono ?_
          rintro e4 V3 ⟨⟨v4, rfl⟩, hV3⟩
          obtain ⟨m4, r4, c4⟩ := mid_put (t := t) m3 hlt0 hp x3 r3 (fun y hy => hdis.d0 x (by rw [← HP.out]; simp) y hy) hd1 hdr V3 hV3
          gi_wp2
          have l3 : V3.heap[W1.heap.size + 1]? = some (.loop (rec .busy none)) := c4.same i3 (by rintro (h' | h'); exact x3.ne_loop i3 h'.symm; exact m3.t1.1.ne_loop i3 h'.symm)
          have kp := KeepC.put_loop l3 (Obj.loop (rec LoopState.ready none))
          have d3 : V3.heap[W1.heap.size]? = some (.deferred (some [])) := c4.same i4 (by rintro (h' | h'); exact x3.ne_def i4 h'.symm; exact m3.t1.1.ne_def i4 h'.symm)
          have c5 : Chg d.foot w V3 := i5.trans' c4 (by rintro g _ (h' | h'); exact h' ▸ hfx; exact (h'.trans htb.out) ▸ hft)
          have n5 : Marked V3 w.heap.size Ds := i6.chg c4 (by rintro D o hDD (h' | h'); exact x3.ne_def hDD h'.symm; exact m3.t1.1.ne_def hDD h'.symm)
          refine ⟨l3, .inl ⟨rfl, ⟨pre ++ [x], by rw [← HP.out]; simp, ?_⟩, r4.keep kp, ⟨_, Blk.keep (b3.chg c4 (by rintro (h' | h'); exact x3.ne_type b3 (by decide) h'.symm; exact hcbn _ hft (h'.trans htb.out).symm)) kp⟩, ?_, ?_, ?_, ?_, ?_⟩⟩
          · rw [hsp.out]; exact m4.keep kp
          · exact World.putObj_heap_same (Array.getElem?_eq_some_iff.1 l3).1
          · exact (World.putObj_heap_other (by omega)).trans d3
          · exact ⟨n5.1, fun D hDD => ⟨(n5.2 D hDD).1, (World.putObj_heap_other (fun h' => by have := (n5.2 D hDD).2; rw [h', l3] at this; cases this)).trans (n5.2 D hDD).2⟩⟩
          · exact Blk.keep (B3.chg c4 (by rintro (h' | h'); exact x3.ne_type B3 (by decide) h'.symm; exact m3.t1.1.ne_type B3 (by decide) h'.symm)) kp
          · exact c5.put (by omega) _
        · rintro r V ⟨⟨pre, hpre, hm⟩, hr, ⟨v, hb⟩, hl, hDf, hMk, hBx, hCx⟩
          have hcs : Chg (fun g => g = cb) V (V.setCell ⟨cb, 0, none⟩ (hd r)) := (Chg.refl (fun g => g = cb) V).store rfl 0 _
          have hnt : ∀ y ∈ (pre.foldl push t).nodes, y.blk ≠ cb := fun y hy h' => by
            obtain ⟨nx, hb'⟩ := hm.t1.node hy
            exact hb'.ne_type hb (by decide) h'
          have hch : ∀ c : Ch, chAt V c → chAt (V.setCell ⟨cb, 0, none⟩ (hd r)) c := fun c hcc => hcc.chg hcs fun y hy h' => by
            obtain ⟨p1, p2, rfl⟩ := List.append_of_mem hy
            exact (hcc.node rfl).ne_type hb (by decide) h'
          refine ⟨⟨v, hb.cell 0⟩, hb.frozen 0, ⟨pre, hpre, ⟨hm.hd.chg hcs (hm.hd.ne_type hb (by decide)), hm.tb0.chg hcs (hcbn _ (hfoot _ (.inr (.inl rfl)))), fun i hi hne => hch _ (hm.oth i hi hne), ⟨hm.t1.1.chg hcs ?_, fun c hc => hch c (hm.t1.2 c hc)⟩, hm.ne⟩⟩, hch r hr, hb.set 0 _, ?_, ?_, ?_, ?_, ?_⟩
          · rw [fold_blk]; exact hcbn _ (hfoot _ (.inr (.inr (.inl ⟨t, HT.out, rfl⟩))))
          · exact hcs.same hl (fun h' => hb.ne_loop hl h'.symm)
          · exact hcs.same hDf (fun h' => hb.ne_def hDf h'.symm)
          · exact hMk.chg hcs fun D o hDD h' => hb.ne_def hDD h'.symm
          · exact hBx.chg hcs (hBx.ne_type hb (by decide))
          · exact hCx.store_new (by omega) 0 _
        · have kd := (KeepC.alloc W1 (.deferred (some []))).trans (KeepC.alloc _ (.loop (rec .ready none)))
          refine ⟨⟨[], rfl, hmid.keep kd⟩, (hD1.a0.2 _ (Tb.at_mem hlt0)).keep kd, hbox.keep kd, ?_, ?_, ?_, hB1.keep kd, (hC1.alloc _).alloc _⟩
          · have := World.alloc_heap_new (W1.alloc (.deferred (some []))) (.loop (rec .ready none))
            rwa [World.size_alloc] at this
          · exact (Below.heap_alloc _ _ _ (by simp)).trans (World.alloc_heap_new _ _)
          · exact ⟨hM1.1, fun D hDD => ⟨(hM1.2 D hDD).1, by
              have hx := (hM1.2 D hDD).2
              have hlt' := (Array.getElem?_eq_some_iff.1 hx).1
              exact (Below.heap_alloc _ _ _ (by simp; omega)).trans ((Below.heap_alloc _ _ _ hlt').trans hx)⟩⟩
        · rintro e5 V ⟨⟨v, rfl⟩, (⟨⟨pre, hpre, hm⟩, _, _, hl, hDf, hMk, hBx, hCx⟩ | hF)⟩
          case inr => exact hF.elim
          rw [List.append_nil] at hpre
          subst hpre
          refine ⟨⟨_, rfl⟩, .inl ⟨hl, ?_⟩⟩
          have kp := KeepC.put_loop hl (Obj.loop (rec LoopState.exhausted none))
          have m2 := hm.keep kp
          have B2 := hBx.keep kp
          have g4 : (V.putObj (W1.heap.size + 1) (Obj.loop (rec LoopState.exhausted none))).heap[W1.heap.size]? = some (.deferred (some [])) := (World.putObj_heap_other (by omega)).trans hDf
          have g5 : Chg d.foot w (V.putObj (W1.heap.size + 1) (Obj.loop (rec LoopState.exhausted none))) := hCx.put (by omega) _
          have g6 : Marked (V.putObj (W1.heap.size + 1) (Obj.loop (rec LoopState.exhausted none))) w.heap.size (W1.heap.size :: Ds) := by
            refine Marked.cons ⟨hMk.1, fun D hDD => ⟨(hMk.2 D hDD).1, (World.putObj_heap_other (fun h' => by have := (hMk.2 D hDD).2; rw [h', hl] at this; cases this)).trans (hMk.2 D hDD).2⟩⟩ g4 (by omega) fun hin => ?_
            have := (Array.getElem?_eq_some_iff.1 (hM1.2 _ hin).2).1
            omega
          generalize V.putObj (W1.heap.size + 1) (Obj.loop (rec LoopState.exhausted none)) = V1 at m2 B2 g4 g5 g6 ⊢
          clear hm hl hDf hMk hBx hCx kp hD1 hB1 hM1 hC1 hbox hmid hrec g4
          have k0 := B2.cell 0
          have k1 := m2.hd.cell 1
          have k2 := m2.hd.cell 2
          have k3 := m2.hd.cell 3
          have kf1 := m2.hd.frozen 1
          have kf2 := m2.hd.frozen 2
          have kf3 := m2.hd.frozen 3
          simp only [dmCells, ptr, tbVal, List.getElem?_toArray, List.getElem?_cons_zero, List.getElem?_cons_succ] at k0 k1 k2 k3
          rw [HT.out] at k2
          simp only [t1Val, tbVal] at k2
          have ct := m2.tb0.cell e.at_
          rw [tbCells_get hlt0, HQ.out] at ct
          have cf := m2.tb0.frozen e.at_
          have hne1 : e.blk ≠ e.t0.blk := m2.hd.ne_type m2.tb0 (by decide)
          have hne2 : e.t0.blk ≠ e.blk := fun h' => hne1 h'.symm
          have hne3 : w.heap.size ≠ e.t0.blk := B2.ne_type m2.tb0 (by decide)
          have hne4 : w.heap.size ≠ e.blk := B2.ne_type m2.hd (by decide)
          have hat : e.at_ ≤ 65536 := by have := hE.s0.pos; omega
          have hjb : j ≤ 65536 := by
            have h0 := hok.s0.pos
            unfold stepK at hj
            split at hj <;> omega
          have hjs : j + 1 ≤ stepK d n := by
            unfold stepK
            have hd1 : ∃ u, d.t1 = some u := by
              cases hdt : d.t1 with
              | some u => exact ⟨u, rfl⟩
              | none =>
                have : ∀ k, moveN d k = d := fun k => by
                  induction k with
                  | zero => rfl
                  | succ k ih => show moveSlot (moveN d k) = d; rw [ih]; unfold moveSlot; rw [hdt]
                have h9 := he.out
                rw [this] at h9
                rw [← h9, hdt] at HT
                cases HT.out
            obtain ⟨u, hu⟩ := hd1
            rw [hu]
            simp only [Option.isSome_some, if_true]
            have h9 : d.at_ + j < d.t0.len := by
              rcases Nat.lt_or_ge (d.at_ + j) d.t0.len with h9 | h9
              · exact h9
              · have hall := moveN_all hok hu
                have h0 := hok.atlt u hu
                have hjj : j = d.t0.len - d.at_ := by
                  unfold stepK at hj
                  rw [hu] at hj
                  simp only [Option.isSome_some, if_true] at hj
                  omega
                rw [← hjj, he.out, HT.out] at hall
                cases hall.1
            omega
          go_wp2_with fail
          go_still_tail 10, (by kernel_rfl)
          go_wp2_with fail
          have n1 := ((m2.hd.far (p := ⟨e.t0.blk, e.at_, none⟩) hne1 (.pointer none)).set 3 (.int .i64 ((e.at_ : Int) + 1))).drew
          have n2 := (((m2.tb0.set e.at_ (.pointer none))).far (p := ⟨e.blk, 3, none⟩) hne2 (.int .i64 ((e.at_ : Int) + 1))).drew
          have n3 := ((B2.far (p := ⟨e.t0.blk, e.at_, none⟩) hne3 (.pointer none)).far (p := ⟨e.blk, 3, none⟩) hne4 (.int .i64 ((e.at_ : Int) + 1))).drew
          have n4 : Chg (fun g => g = e.blk ∨ g = e.t0.blk) V1 ((V1.setCell { block := e.t0.blk, off := e.at_ } (Value.pointer none)).setCell { block := e.blk, off := 3 } (Value.int IntKind.i64 ((e.at_ : Int) + 1))).drew :=
            (((Chg.refl _ V1).store (.inr rfl) _ _).store (.inl rfl) _ _).drew
          generalize ((V1.setCell { block := e.t0.blk, off := e.at_ } (Value.pointer none)).setCell { block := e.blk, off := 3 } (Value.int IntKind.i64 ((e.at_ : Int) + 1))).drew = V2 at n1 n2 n3 n4 ⊢
          clear k0 k1 k2 k3 kf1 kf2 kf3 ct cf
          have k0 := n3.cell 0
          have k1 := n1.cell 1
          have k2 := n1.cell 2
          have k3 := n1.cell 3
          have kf1 := n1.frozen 1
          have kf2 := n1.frozen 2
          have kf3 := n1.frozen 3
          simp [dmCells, ptr, tbVal] at k0 k1 k2 k3
          rw [HT.out] at k2
          simp only [t1Val, tbVal] at k2
          have hfe : d.foot e.blk := hfoot _ (.inl rfl)
          have hft0 : d.foot e.t0.blk := hfoot _ (.inr (.inl rfl))
          have q5 : Chg d.foot w V2 := g5.trans' n4 (by rintro g _ (h' | h'); exact h' ▸ hfe; exact h' ▸ hft0)
          have q6 : Marked V2 w.heap.size (W1.heap.size :: Ds) := g6.chg n4 (by rintro D o hDD (h' | h'); exact m2.hd.ne_def hDD h'.symm; exact m2.tb0.ne_def hDD h'.symm)
          by_cases hl : e.at_ + 1 = e.t0.len
          · have hb : ((e.at_ : Int) + 1 == (e.t0.len : Int)) = true := by rw [beq_iff_eq]; omega
            have HL := Lib.hid hl
            clear hl
            go_quiet (fail)
            go_wp2_with fail
            have p1 := n1.drewN nq
            have p3 := n3.drewN nq
            go_region
            go_wp2_with fail
            have r1 := (((n1.drewN (nq + 1)).set 1 (.slice (some ⟨t.blk, 0, none⟩) t.len t.len)).set 2 (.slice none 0 0)).set 3 (.int .i64 0)
            have r4 : Chg (fun g => g = e.blk) V2 ((((V2.drewN (nq + 1)).setCell { block := e.blk, off := 1 } (Value.slice (some { block := t.blk, off := 0 }) t.len t.len)).setCell { block := e.blk, off := 2 } (Value.slice none 0 0)).setCell { block := e.blk, off := 3 } (Value.int IntKind.i64 0)) :=
              (((Chg.refl (fun g => g = e.blk) V2).drewN (nq + 1)).store rfl 1 _).store rfl 2 _ |>.store rfl 3 _
            generalize (((V2.drewN (nq + 1)).setCell { block := e.blk, off := 1 } (Value.slice (some { block := t.blk, off := 0 }) t.len t.len)).setCell { block := e.blk, off := 2 } (Value.slice none 0 0)).setCell { block := e.blk, off := 3 } (Value.int IntKind.i64 0) = V3 at r1 r4 ⊢
            refine ⟨stepK d n - (j + 1), by omega, j + 1, W1.heap.size :: Ds, rfl, hjs, ⟨rfl, congrArg (fun b => some (ptr b)) HBE.out, rfl, rfl, congrArg some (int_eq (by omega)), rfl⟩, ?_, by rw [← HBE.out]; exact n3.chg r4 hne4, q6.chg r4 (fun D o hDD h' => n1.ne_def hDD h'.symm), q5.trans' r4 (fun g _ h' => h' ▸ hfe)⟩
            have e9 : moveN d (j + 1) = moveSlot e := by show moveSlot (moveN d j) = _; rw [he.out]
            rw [e9]
            refine mid_last m2 hE HT.out rfl HL.out hnd (n4.trans' r4 (fun g _ h' => .inl h')) ?_
            simpa [dmCells, tbVal] using r1
          · have hb : ((e.at_ : Int) + 1 == (e.t0.len : Int)) = false := by rw [beq_eq_false_iff_ne]; omega
            have HL := Lib.hid hl
            clear hl
            go_quiet (fail)
            go_wp2_with fail
            have hdr : ∀ k, Chg (fun _ => False) V2 (V2.drewN k) := fun k => (Chg.refl _ V2).drewN k
            refine ⟨stepK d n - (j + 1), by omega, j + 1, W1.heap.size :: Ds, rfl, hjs, ⟨rfl, congrArg (fun b => some (ptr b)) HBE.out, rfl, rfl, congrArg some (int_eq (by omega)), rfl⟩, ?_, by rw [← HBE.out]; exact n3.drewN _, q6.chg (hdr _) (fun _ _ _ => id), q5.drewN _⟩
            have e9 : moveN d (j + 1) = moveSlot e := by show moveSlot (moveN d j) = _; rw [he.out]
            rw [e9]
            refine DmAt.chg0 ?_ (hdr _)
            refine mid_next m2 hE HT.out rfl HL.out hnd n4 ?_ n2
            rw [show ((e.at_ + 1 : Nat) : Int) = (e.at_ : Int) + 1 by omega]
            exact n1
    · have hk : j = stepK d n := by
        unfold stepK at hj ⊢
        by_cases hd : d.t1.isSome = true
        · rw [if_pos hd] at hj ⊢; omega
        · rw [if_neg hd] at hj ⊢; omega
      have HK := Lib.hid hk
      have hfin : DmAt W (stepD d n) := by unfold stepD; rw [← hk, he.out]; exact hD
      clear hk
      go_wp2_with fail
      refine bodyPostM_marks (w0 := w) (fun _ => results_tmp rfl _ _ _) Ds W hM fun w' hc' => ⟨by rw [← HK.out]; rfl, ?_, ?_⟩
      · exact hfin.chg hc' fun g hg h' => Nat.lt_irrefl _ (Nat.lt_of_lt_of_le (h.lt (moveN_foot hok _ hg)) h')
      · exact hC.trans' hc' fun g hg h' => absurd hg (Nat.not_lt.2 h')

set_option maxHeartbeats 400000 in
theorem Step_nil (n : Int) (w : World) :
    Calls Tryz.prog 86 #[.pointer none, .int .i64 n] w fun e w' => e = .returned (.int .i64 0) ∧ Chg (fun _ => False) w w' := by
  go_enter Tryz.func86, Tryz.ntmps86
  go_wp2
  go_ret
  exact ⟨rfl, (Chg.refl _ w).alloc _⟩

end Go.Proofs.YtifcpippfiglkaaGreat.Dint64

/- A dict of which one slot is turned: plainly, and in memory. -/
namespace Go.Proofs.YtifcpippfiglkaaGreat.Dint64
open Go.RowKit Pal

/-- The two tables by their number. -/
def Dm.tab (d : Dm) (i : Nat) : Option Tb := if i = 0 then some d.t0 else d.t1
def Dm.setTab (d : Dm) (ti : Nat) (t : Tb) : Dm := if ti = 0 then { d with t0 := t } else { d with t1 := some t }

theorem tab0 (d : Dm) : d.tab 0 = some d.t0 := rfl
theorem tab_ok {d : Dm} (h : d.Ok) {i : Nat} {t : Tb} (ht : d.tab i = some t) : t.Sized ∧ (∀ j x, j < t.len → x ∈ t.at j → x.sum % t.len = j) ∧ ∀ x ∈ t.nodes, x ∈ d.nodes := by
  unfold Dm.tab at ht
  split at ht
  · injection ht with ht; subst ht; exact ⟨h.s0, h.in0, fun x hx => mem_nodes0 hx⟩
  · exact ⟨h.s1 t ht, h.in1 t ht, fun x hx => mem_nodes1 ht hx⟩
theorem tab_at {w : World} {d : Dm} (h : DmAt w d) {i : Nat} {t : Tb} (ht : d.tab i = some t) : tbAt w t := by
  unfold Dm.tab at ht
  split at ht
  · injection ht with ht; subst ht; exact h.a0
  · exact h.a1 t ht
theorem tab_foot {d : Dm} {i : Nat} {t : Tb} (ht : d.tab i = some t) : d.foot t.blk := by
  unfold Dm.tab at ht
  split at ht
  · injection ht with ht; subst ht; exact .inr (.inl rfl)
  · exact .inr (.inr (.inl ⟨t, ht, rfl⟩))
theorem tab_nodes {d : Dm} {i : Nat} {t : Tb} (ht : d.tab i = some t) {x : Nd} (hx : x ∈ t.nodes) : x ∈ d.nodes := by
  unfold Dm.tab at ht
  split at ht
  · injection ht with ht; subst ht; exact mem_nodes0 hx
  · exact mem_nodes1 ht hx

theorem setTab_perm {d : Dm} {ti : Nat} {t : Tb} (ht : d.tab ti = some t) {i : Nat} (hi : i < t.len) (c : Ch) :
    ((d.setTab ti (t.set i c)).nodes).Perm (c ++ (d.setTab ti (t.set i [])).nodes) := by
  have h1 := nodes_set_perm t hi c
  have h2 := nodes_set_perm t hi []
  rw [List.append_nil] at h2
  have h3 : ((t.set i c).nodes ++ t.at i).Perm ((c ++ (t.set i []).nodes) ++ t.at i) := by
    refine h1.trans ((h2.symm.append_right c).trans ?_)
    rw [List.append_assoc, List.append_assoc]
    refine (List.Perm.append_left _ List.perm_append_comm).trans ?_
    rw [← List.append_assoc, ← List.append_assoc]
    exact List.perm_append_comm.append_right _
  have h4 := (List.perm_append_right_iff _).1 h3
  unfold Dm.setTab Dm.nodes Dm.nodes1
  by_cases e : ti = 0
  · simp only [if_pos e]
    rw [← List.append_assoc]
    exact h4.append_right _
  · simp only [if_neg e]
    refine (List.Perm.append_left _ h4).trans ?_
    rw [← List.append_assoc, ← List.append_assoc]
    exact List.perm_append_comm.append_right _
theorem tab_perm {d : Dm} {ti : Nat} {t : Tb} (ht : d.tab ti = some t) {i : Nat} (hi : i < t.len) : d.nodes.Perm (t.at i ++ (d.setTab ti (t.set i [])).nodes) := by
  have h := setTab_perm ht hi (t.at i)
  have e : t.set i (t.at i) = t := by
    unfold Tb.set
    have : t.slots.set i (t.at i) = t.slots := by
      apply List.ext_getElem?
      intro j
      rw [List.getElem?_set]
      split
      · rename_i e; subst e; rw [Tb.at_lt hi]; simp; exact hi
      · rfl
    rw [this]
  rw [e] at h
  have e2 : d.setTab ti t = d := by
    unfold Dm.tab at ht
    unfold Dm.setTab
    split at ht
    · rename_i h0; injection ht with ht; subst ht; rw [if_pos h0]
    · rename_i h0; rw [if_neg h0, ← ht]
  rw [e2] at h
  exact h

/-- One slot's chain has turned. -/
theorem upd_slot {W W' : World} {d : Dm} {S : Nat → Prop} (h : DmAt W d) {ti : Nat} {t : Tb} (ht : d.tab ti = some t) {i : Nat} (hi : i < t.len) (c : Ch) (hc : Chg S W W')
    (hS : ∀ g, S g → g = t.blk ∨ (∃ y ∈ t.at i, g = y.blk) ∨ ¬ d.foot g) (hT : Blk W' t.blk 158 (tbCells (t.set i c))) (hch : chAt W' c) (hnd : ((d.setTab ti (t.set i c)).nodes.map (·.blk)).Nodup) :
    DmAt W' (d.setTab ti (t.set i c)) := by
  have hta := tab_at h ht
  have hp := tab_perm ht hi
  have hn : ((t.at i ++ (d.setTab ti (t.set i [])).nodes).map (·.blk)).Nodup := (hp.map _).nodup_iff.1 h.nodup
  rw [List.map_append, List.nodup_append] at hn
  have hmem : ∀ y ∈ t.at i, y ∈ d.nodes := fun y hy => hp.mem_iff.2 (List.mem_append.2 (.inl hy))
  have hblk : ¬ S d.blk := fun hs => by
    rcases hS _ hs with e | ⟨y, hy, e⟩ | e
    · exact hta.1.ne_type h.hd (by decide) e.symm
    · exact (h.nd_ne (hmem y hy)).1 e.symm
    · exact e (.inl rfl)
  -- another node's block is untouched
  have hoth : ∀ x, x ∈ (d.setTab ti (t.set i [])).nodes → ¬ S x.blk := fun x hx hs => by
    have hxd : x ∈ d.nodes := hp.mem_iff.2 (List.mem_append.2 (.inr hx))
    rcases hS _ hs with e | ⟨y, hy, e⟩ | e
    · obtain ⟨nx, hb⟩ := h.node hxd; exact hb.ne_type hta.1 (by decide) e
    · exact hn.2.2 _ (List.mem_map.2 ⟨y, hy, rfl⟩) _ (List.mem_map.2 ⟨x, hx, rfl⟩) e.symm
    · exact e (.inr (.inr (.inr ⟨x, hxd, rfl⟩)))
  have hslots : ∀ c' ∈ (t.set i c).slots, chAt W' c' := fun c' hc' => by
    have hc2 : c' ∈ t.slots.set i c := hc'
    obtain ⟨j, hj, rfl⟩ := List.mem_iff_getElem.1 hc2
    rw [List.getElem_set]
    split
    · exact hch
    · rename_i hne
      have hj' : j < t.len := by simpa [Tb.len] using hj
      have e2 := Tb.at_lt hj'
      rw [List.getElem?_eq_getElem hj'] at e2
      injection e2 with e2
      have := (hta.2 _ (Tb.at_mem hj')).chg hc fun x hx => hoth x (by
        have : x ∈ (t.set i []).nodes := mem_nodes.2 ⟨j, by rw [Tb.set_len]; exact hj', by rw [Tb.set_at hi, if_neg hne]; exact hx⟩
        unfold Dm.setTab Dm.nodes Dm.nodes1
        split
        · exact List.mem_append.2 (.inl this)
        · exact List.mem_append.2 (.inr this))
      rw [← e2] at this
      exact this
  have hval : tbVal (t.set i c) = tbVal t := by unfold tbVal; rw [Tb.set_len]; rfl
  unfold Dm.tab at ht
  by_cases e0 : ti = 0
  · rw [if_pos e0] at ht
    injection ht with ht
    have es : d.setTab ti (t.set i c) = { d with t0 := t.set i c } := by unfold Dm.setTab; rw [if_pos e0]
    have es2 : (d.setTab ti (t.set i [])).nodes1 = d.nodes1 := by unfold Dm.setTab; rw [if_pos e0]; rfl
    rw [es] at hnd ⊢
    refine { hd := ?_, a0 := ⟨hT, hslots⟩, a1 := fun u hu => ?_, ne := fun u hu => by subst ht; exact h.ne u hu, nodup := hnd }
    · have := h.hd.chg hc hblk
      have ev : dmCells { d with t0 := t.set i c } = dmCells d := by unfold dmCells; dsimp only; rw [hval, ht]
      rw [ev]; exact this
    · have hu' : d.t1 = some u := hu
      refine (h.a1 u hu').chg hc (fun hs => ?_) fun x hx => hoth x ?_
      · rcases hS _ hs with e | ⟨y, hy, e⟩ | e
        · exact h.ne u hu' (by rw [ht]; exact e.symm)
        · exact ((h.nd_ne (hmem y hy)).2.2 u hu') e.symm
        · exact e (.inr (.inr (.inl ⟨u, hu', rfl⟩)))
      · unfold Dm.nodes; rw [es2]; unfold Dm.nodes1; rw [hu']; exact List.mem_append.2 (.inr hx)
  · rw [if_neg e0] at ht
    have es : d.setTab ti (t.set i c) = { d with t1 := some (t.set i c) } := by unfold Dm.setTab; rw [if_neg e0]
    have es2 : (d.setTab ti (t.set i [])).t0 = d.t0 := by unfold Dm.setTab; rw [if_neg e0]
    rw [es] at hnd ⊢
    refine { hd := ?_, a0 := ?_, a1 := fun u hu => ?_, ne := fun u hu => ?_, nodup := hnd }
    · have := h.hd.chg hc hblk
      have ev : dmCells { d with t1 := some (t.set i c) } = dmCells d := by unfold dmCells t1Val; dsimp only; rw [hval, ht]
      rw [ev]; exact this
    · refine h.a0.chg hc (fun hs => ?_) fun x hx => hoth x ?_
      · rcases hS _ hs with e | ⟨y, hy, e⟩ | e
        · exact h.ne t ht e
        · exact ((h.nd_ne (hmem y hy)).2.1) e.symm
        · exact e (.inr (.inl rfl))
      · unfold Dm.nodes; rw [es2]; exact List.mem_append.2 (.inl hx)
    · injection hu with hu; subst hu; exact ⟨hT, hslots⟩
    · injection hu with hu; subst hu; exact h.ne t ht

end Go.Proofs.YtifcpippfiglkaaGreat.Dint64
