/- Texts joined for ZsetWays: ZP, ZP2, ZE, ZP3, ZP4, ZP5, ZL, OWint64, TWint64, DAint64, BZint64, LS, LT, LU, LV. -/
import Derived.Test.YtifcpippfiglkaaGreatJZsetWayse
import Derived.Test.YtifcpippfiglkaaGreatJZsetWaysk
import Derived.Test.YtifcpippfiglkaaGreatJZsetWaysm
import Derived.Lib.LazyBuf
import Derived.Deep.RegionHeld3
set_option linter.unusedVariables false
set_option linter.unusedSimpArgs false

/- zset: packed sets. -/
namespace Go.Proofs.YtifcpippfiglkaaGreat
open Go.RowKit Pal
attribute [local go_sem] Oper.semAt_some

set_option maxRecDepth 100000 in
set_option maxHeartbeats 1000000 in
theorem clone_any (v : Value) (l : List En) (w : World) (h : EntsR w v l) (hl : l.length ≤ 100000) : Calls Tryz.prog 158 #[v] w (RgPost w l) := by
  obtain ⟨i0, hi0, hz0, hz1, hz2⟩ := info_parts ent_info
  obtain ⟨p, c, rfl, h1, h2, h3⟩ := h
  have hnil := fun w => run_eql_slice_nil (P := Tryz.prog) w 43 54 p l.length c Tryz.underlying43
  cases p with
  | none =>
    have h0 : l = [] := by
      rcases Nat.eq_zero_or_pos l.length with h0 | h0
      · exact List.eq_nil_of_length_eq_zero h0
      · obtain ⟨ad, e, _⟩ := h3.2 h0; cases e
    subst h0
    simp only [Option.isNone_none, List.length_nil] at hnil ⊢
    go_enter Tryz.func158, Tryz.ntmps158
    go_wp2_with fail
    go_ret
    exact ⟨⟨_, rfl, Ents.nil _ _⟩, Chg.refl _ _⟩
  | some ad =>
    simp only [Option.isNone_some] at hnil
    have k1 : 0 + l.length ≤ maxLen := by unfold maxLen; omega
    have k2 : (0 + l.length) * 24 ≤ 140737488355328 := by omega
    go_enter Tryz.func158, Tryz.ntmps158
    have hown : (w.alloc (.cells #[] 54)).ownsRow w.heap.size 54 2 (.slice (some ⟨w.heap.size, 0, none⟩) 0 0) 0 [] :=
      ⟨rfl, .inr ⟨w.heap.size, 0, #[], rfl, Nat.le_refl _, World.alloc_heap_new w _, Nat.le_refl _, Nat.zero_le _, rfl, rfl⟩⟩
    have hr : Reads (w.alloc (.cells #[] 54)) w.heap.size 2 (some ad) l.length (l.flatMap En.cells) := h3.alloc (Nat.le_refl _) _
    have hsz : w.heap.size ≤ (w.alloc (.cells #[] 54)).heap.size := by simp
    go_wp2_with (at_builtin; refine wpList_append_any _ rfl (.tmp 5) (.tmp 6) 43 rfl w.heap.size 54 i0 _ 2 24 Tryz.underlying43 hi0 hz0 hz1 hz2 rfl (by omega) _ 0 [] rfl hown w.heap.size (some ad) l.length c _ rfl hr (ents_one l) k1 k2 hsz ?_; intro v1 w1 hown1 hg1 _)
    go_ret
    refine ⟨⟨_, rfl, Ents.mk hown1 (Nat.zero_add _) (by simp)⟩, ((Chg.refl _ w).alloc _).trans' (app_chg hown hg1) fun g hl h => by omega⟩

/-- A part of a list, as places that there are. -/
def sub (l : List En) (i j : Int) : List En := (l.drop (clampN l.length i)).take (max (clampN l.length i) (clampN l.length j) - clampN l.length i)
def cutL (l : List En) (f m : Nat) : List En := l.take f ++ l.drop (f + m)
theorem POk.sub' {l l' : List En} (h : POk l) (hl : l'.length ≤ l.length) (hs : ∀ e ∈ l', e ∈ l) : POk l' := ⟨Nat.le_trans hl h.len, fun e he => h.ok e (hs e he)⟩
theorem cutL_zero (l : List En) (f : Nat) : cutL l f 0 = l := by unfold cutL; rw [Nat.add_zero, List.take_append_drop]
theorem cutL_len {l : List En} {f m : Nat} (h : f + m ≤ l.length) : (cutL l f m).length = l.length - m := by unfold cutL; rw [List.length_append, List.length_take, List.length_drop]; omega
theorem cutL_mem {l : List En} {f m : Nat} : ∀ e ∈ cutL l f m, e ∈ l := fun e he => by
  unfold cutL at he
  rcases List.mem_append.1 he with h | h
  · exact List.mem_of_mem_take h
  · exact List.mem_of_mem_drop h
theorem cutL_succ {l : List En} {f m : Nat} (h : f + m < l.length) : (cutL l f m).take f ++ (cutL l f m).drop (f + 1) = cutL l f (m + 1) := by
  have hl : (l.take f).length = f := by rw [List.length_take]; omega
  unfold cutL
  rw [List.take_append_of_le_length (by omega), List.take_take, Nat.min_self, List.drop_append, List.drop_eq_nil_of_le (by omega), List.nil_append, hl, Nat.add_sub_cancel_left, List.drop_drop, Nat.add_assoc]
structure PkAt (w : World) (b : Nat) (es : List En) : Prop where
  b : Blk w b 75 #[.string (pk es)]
  ok : POk es
section
variable {w : World} {b : Nat} {es : List En}
theorem PkAt.chg {w' : World} {S : Nat → Prop} (h : PkAt w b es) (hc : Chg S w w') (hn : ¬ S b) : PkAt w' b es := ⟨h.b.chg hc hn, h.ok⟩
theorem PkAt.cell (h : PkAt w b es) : w.cell? ⟨b, 0, none⟩ = some (.string (pk es)) := by have := h.b.cell 0; simpa using this
theorem p_entries (h : PkAt w b es) : Calls Tryz.prog 157 #[pt b] w (RgPost w es) := by
  have he := fun w => entries_any es h.ok w
  unfold EntPost at he
  have c0 := h.cell
  have l0 := h.b.lt
  unfold pt
  go_enter Tryz.func157, Tryz.ntmps157
  go_wp2_with (go_at_call 166; refine (he _).mono ?_; rintro r w1 ⟨⟨v, rfl, hv⟩, hC⟩)
  go_ret
  exact ⟨⟨_, rfl, hv⟩, hC⟩
theorem p_len (h : PkAt w b es) : Calls Tryz.prog 149 #[pt b] w fun r w' => r = .returned (.int .i64 (es.length : Int)) ∧ Chg (fun _ => False) w w' := by
  have he := p_entries h
  unfold RgPost at he
  unfold pt at he ⊢
  go_enter Tryz.func149, Tryz.ntmps149
  go_wp2_with (go_at_call 157; refine he.mono ?_; rintro r w1 ⟨⟨v, rfl, hv⟩, hC⟩; obtain ⟨p, c, rfl, _, _, _⟩ := hv.is)
  go_ret
  exact ⟨rfl, hC⟩
theorem p_bytes (h : PkAt w b es) : Calls Tryz.prog 151 #[pt b] w fun r w' => r = .returned (.int .i64 ((pk es).size : Int)) ∧ w = w' := by
  have c0 := h.cell
  have l0 := h.b.lt
  have hsz := pk_le h.ok
  unfold pt
  go_enter Tryz.func151, Tryz.ntmps151
  go_wp2_with fail
  go_ret
  exact ⟨rfl, rfl⟩
set_option maxRecDepth 100000 in
set_option maxHeartbeats 1000000 in
theorem p_range (h : PkAt w b es) (i j : Int) : Calls Tryz.prog 150 #[pt b, .int .i64 i, .int .i64 j] w (RgPost w (sub es i j)) := by
  have he := p_entries h
  have hlen := h.ok.len
  have hwi := fun w => within3_any i j es.length w (by omega)
  have hc1 : clampN es.length i ≤ es.length := Nat.min_le_right _ _
  have hc2 : clampN es.length j ≤ es.length := Nat.min_le_right _ _
  unfold RgPost at he
  unfold pt at he ⊢
  have hcl := fun v w h => clone_any v (sub es i j) w h (by unfold sub; rw [List.length_take, List.length_drop]; omega)
  unfold sub at hcl ⊢
  generalize clampN es.length i = f at *
  have ht2 : max f (clampN es.length j) ≤ es.length := by omega
  have ht1 : f ≤ max f (clampN es.length j) := by omega
  generalize max f (clampN es.length j) = t at *
  have x1 : (f : Int) ≤ (t : Int) := by omega
  have x2 : (t : Int) ≤ 200 := by omega
  clear hc2
  go_enter Tryz.func150, Tryz.ntmps150
  go_wp2_with (first | (go_at_call 157; refine he.mono ?_; rintro r w1 ⟨⟨v, rfl, hv⟩, hC⟩; have hvr := hv.r; obtain ⟨p, c, rfl, hpc, hpm, hpg⟩ := hv.is) | (go_at_call 155; refine (hwi _).mono ?_; rintro r w2 ⟨rfl, rfl⟩) | fail)
  all_goals
    have hvr' := hvr
    unfold maxLen at hpm
    first
      | refine (hcl _ _ (hvr'.part ht1 ht2 (p.map fun x => x.add (f * 2)) (fun _ => rfl) (c - f) ⟨by omega, by unfold maxLen; omega⟩)).mono ?_
      | refine (hcl _ _ (hvr'.part ht1 ht2 p (fun h => by omega) 0 ⟨by omega, Nat.zero_le _⟩)).mono ?_
    rintro r w3 ⟨⟨v, rfl, hv3⟩, hC3⟩
    go_wp2_with fail
    go_ret
    exact ⟨⟨_, rfl, hv3.lower hC.size⟩, hC.trans hC3⟩
set_option maxRecDepth 100000 in
set_option maxHeartbeats 1000000 in
theorem p_cut (h : PkAt w b es) (i j : Int) : Calls Tryz.prog 148 #[pt b, .int .i64 i, .int .i64 j] w fun r w' => r = .returned (.int .i64 ((max (clampN es.length i) (clampN es.length j) - clampN es.length i : Nat) : Int)) ∧ PkAt w' b (cutL es (clampN es.length i) (max (clampN es.length i) (clampN es.length j) - clampN es.length i)) ∧ Chg (fun g => g = b) w w' := by
  have he := p_len h
  have hlen := h.ok.len
  have hwi := fun w => within3_any i j es.length w (by omega)
  have hc1 : clampN es.length i ≤ es.length := Nat.min_le_right _ _
  have hc2 : clampN es.length j ≤ es.length := Nat.min_le_right _ _
  unfold pt at he ⊢
  generalize clampN es.length i = f at *
  have ht2 : max f (clampN es.length j) ≤ es.length := by omega
  have ht1 : f ≤ max f (clampN es.length j) := by omega
  generalize max f (clampN es.length j) = t at *
  have x1 : (f : Int) ≤ (t : Int) := by omega
  have x2 : (t : Int) ≤ 200 := by omega
  clear hc2
  go_enter Tryz.func148, Tryz.ntmps148
  go_wp2_with (first | (go_at_call 149; refine he.mono ?_; rintro r w1 ⟨rfl, hC⟩) | (go_at_call 155; refine (hwi _).mono ?_; rintro r w2 ⟨rfl, rfl⟩) | fail)
  clear he hwi
  go_loopg [18] (t - f) (fun k v W => ∃ m : Nat, v = .int .i64 (m : Int) ∧ k = t - f - m ∧ m ≤ t - f ∧ PkAt W b (cutL es f m) ∧ Chg (fun g => g = b) w W)
  case atStart => exact ⟨0, rfl, rfl, Nat.zero_le _, by rw [cutL_zero]; exact h.chg hC id, hC.mono fun _ _ h => h.elim⟩
  case round =>
    clear hC
    obtain ⟨m, rfl, rfl, hm, hP, hC1⟩ := hrel
    by_cases hmt : m < t - f
    · have h1 : (m : Int) < (t : Int) - (f : Int) := by omega
      have hfm : f + m < es.length := by omega
      have hcl := cutL_len (l := es) (f := f) (m := m) (by omega)
      have hdel := fun w => delete_pk (cutL es f m) hP.ok f (by omega) w
      rw [cutL_succ hfm] at hdel
      have hok2 : POk (cutL es f (m + 1)) := h.ok.sub' (by rw [cutL_len (by omega)]; omega) cutL_mem
      have c0 := hP.cell
      have l0 := hP.b.lt
      have m3 : (m : Int) ≤ 200 := by omega
      have HB := Lib.hid hP.b
      generalize pk (cutL es f m) = q at *
      generalize hq2 : pk (cutL es f (m + 1)) = q2 at *
      replace hq2 := Lib.hid hq2
      replace hcl := Lib.hid hcl
      go_wp2_with (go_at_call 156; refine (hdel _).mono ?_; rintro r w3 ⟨rfl, hC3⟩; have hb3 := HB.out.chg hC3 id; have d0 := hb3.cell 0; have df := hb3.frozen 0; have dl := hb3.lt; simp only [List.getElem?_toArray, List.getElem?_cons_zero] at d0)
      go_roundg (t - f - (m + 1))
      case rel =>
        refine ⟨m + 1, int_eq (by omega), rfl, by omega, ⟨?_, hok2⟩, (hC1.trans (hC3.mono fun _ _ h => h.elim)).store rfl 0 _⟩
        rw [hq2.out]
        exact hb3.set 0 _
      case measure => omega
    · obtain rfl : m = t - f := by omega
      have h1 : ¬ ((t - f : Nat) : Int) < (t : Int) - (f : Int) := by omega
      clear hmt hm
      go_wp2_with fail
      go_ret
      exact ⟨ret_int' (by omega), hP, hC1⟩
end
end Go.Proofs.YtifcpippfiglkaaGreat

/- zset: packed sets: score, put, drop. -/
namespace Go.Proofs.YtifcpippfiglkaaGreat
open Go.RowKit Pal
attribute [local go_sem] Oper.semAt_some

def lookE (l : List En) (m : ByteArray) : Option Int := (l.find? fun e => decide (e.m = m)).map (·.s)
theorem findI_spec : ∀ (l : List En) (m : ByteArray) (o : Nat), (∃ k e, l[k]? = some e ∧ e.m = m ∧ findI l m o = ((o + k : Nat) : Int) ∧ lookE l m = some e.s) ∨ (lookE l m = none ∧ findI l m o = -1 ∧ ∀ e ∈ l, e.m ≠ m)
  | [], m, o => .inr ⟨rfl, rfl, fun _ h => by cases h⟩
  | e :: l, m, o => by
    by_cases h : e.m = m
    · refine .inl ⟨0, e, rfl, h, ?_, ?_⟩
      · show (if e.m = m then (o : Int) else _) = _
        rw [if_pos h]; rfl
      · unfold lookE; rw [List.find?_cons_of_pos (by simpa using h)]; rfl
    · have e1 : findI (e :: l) m o = findI l m (o + 1) := if_neg h
      have e2 : lookE (e :: l) m = lookE l m := by unfold lookE; rw [List.find?_cons_of_neg (by simpa using h)]
      rw [e1, e2]
      rcases findI_spec l m (o + 1) with ⟨k, x, h1, h2, h3, h4⟩ | ⟨h1, h2, h3⟩
      · exact .inl ⟨k + 1, x, by simpa using h1, h2, by rw [h3]; congr 1; omega, h4⟩
      · exact .inr ⟨h1, h2, fun y hy => by
          rcases List.mem_cons.1 hy with rfl | hy
          · exact h
          · exact h3 y hy⟩
theorem ent_lies (W W' : World) (hc : Chg (fun _ => False) (W.alloc (.cells #[.string ⟨#[]⟩, .int .i64 0] 54)) W') : W'.cell? ⟨W.heap.size, 0, none⟩ = some (.string ⟨#[]⟩) ∧ W'.cell? ⟨W.heap.size, 1, none⟩ = some (.int .i64 0) ∧ (∀ i, W'.frozen? ⟨W.heap.size, i, none⟩ = false) ∧ W.heap.size < W'.heap.size := by
  have hb := (Blk.new W 54 #[.string ⟨#[]⟩, .int .i64 0]).chg hc id
  exact ⟨hb.cell 0, hb.cell 1, hb.frozen, hb.lt⟩
section
variable {w : World} {b : Nat} {es : List En}
set_option maxRecDepth 100000 in
set_option maxHeartbeats 1000000 in
theorem p_score (h : PkAt w b es) (m : ByteArray) : Calls Tryz.prog 154 #[pt b, .string m] w fun r w' => r = .returned (.tuple #[.int .i64 ((lookE es m).getD 0), .bool (lookE es m).isSome]) ∧ Chg (fun _ => False) w w' := by
  have hfi := fun w => find_any es h.ok m w
  have hgen : ∀ W', Chg (fun _ => False) w W' → W'.cell? ⟨b, 0, none⟩ = some (.string (pk es)) := fun W' hc => (h.chg hc id).cell
  have c0 := h.cell
  have l0 := h.b.lt
  unfold pt
  rcases findI_spec es m 0 with ⟨k, e, h1, h2, h3, h4⟩ | ⟨h1, h2, h3⟩
  · have hg := fun w => get_yes es h.ok k e h1 w
    rw [h3, Nat.zero_add] at hfi
    rw [h4]
    unfold En.val at hg
    clear h1 h2 h3 h4
    go_enter Tryz.func154, Tryz.ntmps154
    go_wp2_with fail
    go_region_held3 (fun W' => W'.cell? ⟨b, 0, none⟩ = some (.string (pk es))) (first | exact hgen _ (Chg.refl _ _).drew | exact hgen _ ((Chg.refl _ _).alloc _).drew | exact hgen _ ((Chg.refl _ _).drew.alloc _) | exact hgen _ hc5 | exact hgen _ (hc5.alloc _) | exact hgen _ hc6 | exact hgen _ (hc6.alloc _) | exact hgen _ (Chg.setCell (Chg.setCell hc6 (p := ⟨w5.heap.size, 0, none⟩) (fun h => by have := hc5.size; simp at h; omega) _) (p := ⟨w5.heap.size, 1, none⟩) (fun h => by have := hc5.size; simp at h; omega) _) | exact hgen _ (Chg.setCell (Chg.setCell hc6 (p := ⟨w.heap.size, 0, none⟩) (fun h => by simp at h) _) (p := ⟨w.heap.size, 1, none⟩) (fun h => by simp at h) _) | fail) (first | (go_at_call 159; refine (hfi _).mono ?_; rintro r w5 ⟨rfl, hc5'⟩; have hc5 : Chg (fun _ => False) w w5 := (show Chg (fun _ => False) w _ from (by first | exact (Chg.refl _ _).drew | exact ((Chg.refl _ _).alloc _).drew | exact (Chg.refl _ _).drew.alloc _)).trans hc5'; (first | (have q5 := ent_lies w w5 ((Chg.refl _ _).drew.trans hc5'); obtain ⟨a0, a1, a2, a3⟩ := q5) | skip)) | (go_at_call 162; refine (hg _).mono ?_; rintro r w6 ⟨rfl, hc6'⟩; have hc6 : Chg (fun _ => False) w w6 := (show Chg (fun _ => False) w _ from (by first | exact hc5 | exact hc5.alloc _)).trans hc6'; (first | (have q6 := ent_lies w5 w6 hc6'; obtain ⟨d0, d1, d2, d3⟩ := q6) | (have q6 := ent_lies w w6 (((Chg.refl _ _).drew.trans hc5').trans hc6'); obtain ⟨d0, d1, d2, d3⟩ := q6) | skip)) | fail)
    all_goals
      go_wp2_with fail
      go_ret2
      first
        | exact ⟨rfl, hc6.alloc _⟩
        | exact ⟨rfl, Chg.setCell (Chg.setCell hc6 (p := ⟨w5.heap.size, 0, none⟩) (fun h => by have := hc5.size; simp at h; omega) _) (p := ⟨w5.heap.size, 1, none⟩) (fun h => by have := hc5.size; simp at h; omega) _⟩
        | exact ⟨rfl, Chg.setCell (Chg.setCell hc6 (p := ⟨w.heap.size, 0, none⟩) (fun h => by simp at h) _) (p := ⟨w.heap.size, 1, none⟩) (fun h => by simp at h) _⟩
  · have hg := fun w => get_no es h.ok (-1) (.inl (by omega)) w
    rw [h2] at hfi
    rw [h1]
    unfold entZ at hg
    clear h1 h2 h3
    go_enter Tryz.func154, Tryz.ntmps154
    go_wp2_with fail
    go_region_held3 (fun W' => W'.cell? ⟨b, 0, none⟩ = some (.string (pk es))) (first | exact hgen _ (Chg.refl _ _).drew | exact hgen _ ((Chg.refl _ _).alloc _).drew | exact hgen _ ((Chg.refl _ _).drew.alloc _) | exact hgen _ hc5 | exact hgen _ (hc5.alloc _) | exact hgen _ hc6 | exact hgen _ (hc6.alloc _) | exact hgen _ (Chg.setCell (Chg.setCell hc6 (p := ⟨w5.heap.size, 0, none⟩) (fun h => by have := hc5.size; simp at h; omega) _) (p := ⟨w5.heap.size, 1, none⟩) (fun h => by have := hc5.size; simp at h; omega) _) | exact hgen _ (Chg.setCell (Chg.setCell hc6 (p := ⟨w.heap.size, 0, none⟩) (fun h => by simp at h) _) (p := ⟨w.heap.size, 1, none⟩) (fun h => by simp at h) _) | fail) (first | (go_at_call 159; refine (hfi _).mono ?_; rintro r w5 ⟨rfl, hc5'⟩; have hc5 : Chg (fun _ => False) w w5 := (show Chg (fun _ => False) w _ from (by first | exact (Chg.refl _ _).drew | exact ((Chg.refl _ _).alloc _).drew | exact (Chg.refl _ _).drew.alloc _)).trans hc5'; (first | (have q5 := ent_lies w w5 ((Chg.refl _ _).drew.trans hc5'); obtain ⟨a0, a1, a2, a3⟩ := q5) | skip)) | (go_at_call 162; refine (hg _).mono ?_; rintro r w6 ⟨rfl, hc6'⟩; have hc6 : Chg (fun _ => False) w w6 := (show Chg (fun _ => False) w _ from (by first | exact hc5 | exact hc5.alloc _)).trans hc6'; (first | (have q6 := ent_lies w5 w6 hc6'; obtain ⟨d0, d1, d2, d3⟩ := q6) | (have q6 := ent_lies w w6 (((Chg.refl _ _).drew.trans hc5').trans hc6'); obtain ⟨d0, d1, d2, d3⟩ := q6) | skip)) | fail)
    all_goals
      go_wp2_with fail
      go_ret2
      first
        | exact ⟨rfl, hc6.alloc _⟩
        | exact ⟨rfl, Chg.setCell (Chg.setCell hc6 (p := ⟨w5.heap.size, 0, none⟩) (fun h => by have := hc5.size; simp at h; omega) _) (p := ⟨w5.heap.size, 1, none⟩) (fun h => by have := hc5.size; simp at h; omega) _⟩
        | exact ⟨rfl, Chg.setCell (Chg.setCell hc6 (p := ⟨w.heap.size, 0, none⟩) (fun h => by simp at h) _) (p := ⟨w.heap.size, 1, none⟩) (fun h => by simp at h) _⟩

end
end Go.Proofs.YtifcpippfiglkaaGreat

/- Sets of entries, in plain words: in order, of different members. -/
namespace Go.Proofs.YtifcpippfiglkaaGreat
open Go.RowKit Pal

theorem En.ext' {a b : En} (h1 : a.m = b.m) (h2 : a.s = b.s) : a = b := by cases a; cases b; simp_all
structure Zok (es : List En) : Prop where
  so : es.Pairwise ltE
  nd : (es.map (·.m)).Nodup
  ok : ∀ e ∈ es, EnOk e
  n : es.length ≤ 400
theorem lookE_some {l : List En} (nd : (l.map (·.m)).Nodup) {m : ByteArray} {s : Int} : lookE l m = some s ↔ (⟨m, s⟩ : En) ∈ l := by
  unfold lookE
  rw [Option.map_eq_some_iff]
  constructor
  · rintro ⟨e, h1, rfl⟩
    have h2 := List.find?_some h1
    have h3 : e.m = m := by simpa using h2
    subst h3
    exact List.mem_of_find?_eq_some h1
  · intro h
    cases hf : l.find? (fun e => decide (e.m = m)) with
    | none => exact absurd (List.find?_eq_none.1 hf _ h) (by simp)
    | some e =>
      have h1 := List.mem_of_find?_eq_some hf
      have h2 : e.m = m := by simpa using List.find?_some hf
      refine ⟨e, rfl, ?_⟩
      have : e = ⟨m, s⟩ := by
        clear hf
        induction l with
        | nil => cases h
        | cons x l ih =>
          rw [List.map_cons, List.nodup_cons] at nd
          rcases List.mem_cons.1 h with h | h <;> rcases List.mem_cons.1 h1 with h1 | h1
          · rw [h1, h]
          · exact absurd (List.mem_map.2 ⟨e, h1, by rw [h2, ← h]⟩) nd.1
          · exact absurd (List.mem_map.2 ⟨⟨m, s⟩, h, by rw [← h1, h2]⟩) nd.1
          · exact ih nd.2 h h1
      rw [this]
theorem lookE_none {l : List En} {m : ByteArray} : lookE l m = none ↔ m ∉ l.map (·.m) := by
  unfold lookE
  rw [Option.map_eq_none_iff, List.find?_eq_none]
  constructor
  · intro h h2
    obtain ⟨e, he, rfl⟩ := List.mem_map.1 h2
    exact h e he (by simp)
  · intro h e he
    simp only [decide_eq_true_eq]
    intro e2
    exact h (List.mem_map.2 ⟨e, he, e2⟩)
/-- One put where it stands. -/
def insE (l : List En) (e : En) : List En := l.take (ahead l e) ++ e :: l.drop (ahead l e)
def delE (l : List En) (k : Nat) : List En := l.take k ++ l.drop (k + 1)
theorem insE_perm (l : List En) (e : En) : (insE l e).Perm (e :: l) := by
  unfold insE
  have h := List.perm_middle (a := e) (l₁ := l.take (ahead l e)) (l₂ := l.drop (ahead l e))
  rwa [List.take_append_drop] at h
theorem delE_perm {l : List En} {k : Nat} {e : En} (h : l[k]? = some e) : l.Perm (e :: delE l k) := by
  have hk := (List.getElem?_eq_some_iff.1 h).1
  have e1 : l = l.take k ++ e :: l.drop (k + 1) := by
    conv => lhs; rw [← List.take_append_drop k l, List.drop_eq_getElem_cons hk]
    rw [List.getElem?_eq_getElem hk] at h
    injection h with h
    rw [h]
  unfold delE
  conv => lhs; rw [e1]
  exact List.perm_middle
theorem delE_sub (l : List En) (k : Nat) : (delE l k).Sublist l := by
  unfold delE
  conv => rhs; rw [← List.take_append_drop k l]
  refine List.Sublist.append (List.Sublist.refl _) ?_
  rw [← List.drop_drop]
  exact List.drop_sublist _ _
theorem cutL_sub (l : List En) (f m : Nat) : (cutL l f m).Sublist l := by
  unfold cutL
  conv => rhs; rw [← List.take_append_drop f l]
  refine List.Sublist.append (List.Sublist.refl _) ?_
  rw [← List.drop_drop]
  exact List.drop_sublist _ _
theorem Zok.sub {l l' : List En} (h : Zok l) (hs : l'.Sublist l) : Zok l' :=
  ⟨h.so.sublist hs, (hs.map _).nodup h.nd, fun e he => h.ok e (hs.mem he), Nat.le_trans hs.length_le h.n⟩
theorem Zok.ins {l : List En} (h : Zok l) {e : En} (hn : e.m ∉ l.map (·.m)) (he : EnOk e) (hl : l.length < 400) : Zok (insE l e) := by
  have hp := insE_perm l e
  have hne : e ∉ l := fun h2 => hn (List.mem_map.2 ⟨e, h2, rfl⟩)
  refine ⟨ahead_ins h.so hne, ?_, fun x hx => ?_, ?_⟩
  · rw [(hp.map _).nodup_iff, List.map_cons, List.nodup_cons]; exact ⟨hn, h.nd⟩
  · rcases List.mem_cons.1 (hp.mem_iff.1 hx) with rfl | hx
    · exact he
    · exact h.ok x hx
  · rw [hp.length_eq, List.length_cons]; omega
theorem lookE_ins {l : List En} {e : En} (nd : (l.map (·.m)).Nodup) (hn : e.m ∉ l.map (·.m)) (m : ByteArray) : lookE (insE l e) m = if m = e.m then some e.s else lookE l m := by
  have hp := insE_perm l e
  have nd2 : ((insE l e).map (·.m)).Nodup := by rw [(hp.map _).nodup_iff, List.map_cons, List.nodup_cons]; exact ⟨hn, nd⟩
  split
  · rename_i h
    rw [lookE_some nd2, hp.mem_iff, h]
    exact List.mem_cons_self
  · rename_i h
    apply Option.ext
    intro s
    rw [lookE_some nd2, lookE_some nd, hp.mem_iff, List.mem_cons]
    exact ⟨fun h2 => h2.elim (fun e2 => absurd (by rw [← e2]) h) id, .inr⟩
theorem lookE_del {l : List En} {k : Nat} {e : En} (nd : (l.map (·.m)).Nodup) (he : l[k]? = some e) (m : ByteArray) : lookE (delE l k) m = if m = e.m then none else lookE l m := by
  have hp := delE_perm he
  have nd3 := (hp.map (·.m)).nodup_iff.1 nd
  rw [List.map_cons, List.nodup_cons] at nd3
  split
  · rename_i h
    rw [lookE_none, h]; exact nd3.1
  · rename_i h
    apply Option.ext
    intro s
    rw [lookE_some nd3.2, lookE_some nd, hp.mem_iff, List.mem_cons]
    exact ⟨.inr, fun h2 => h2.elim (fun e2 => absurd (by rw [← e2]) h) id⟩
/-- A member that is there stands where its entry would. -/
theorem look_at {l : List En} (h : Zok l) {m : ByteArray} {s : Int} (hl : lookE l m = some s) : l[ahead l ⟨m, s⟩]? = some ⟨m, s⟩ := (ahead_mem h.so).1 ((lookE_some h.nd).1 hl)
theorem findI_at {l : List En} (h : Zok l) {m : ByteArray} {s : Int} (hl : lookE l m = some s) : findI l m 0 = (ahead l ⟨m, s⟩ : Int) := by
  rcases findI_spec l m 0 with ⟨k, e, h1, h2, h3, h4⟩ | ⟨h1, _, _⟩
  · rw [h3, Nat.zero_add]
    rw [hl] at h4
    injection h4 with h4
    have he : e = ⟨m, s⟩ := En.ext' h2 h4.symm
    rw [he] at h1
    have h5 := look_at h hl
    have hk := (List.getElem?_eq_some_iff.1 h1).1
    have ha := (List.getElem?_eq_some_iff.1 h5).1
    have : k = ahead l ⟨m, s⟩ := by
      rw [List.getElem?_eq_getElem hk] at h1
      rw [List.getElem?_eq_getElem ha] at h5
      injection h1 with h1
      injection h5 with h5
      rcases Nat.lt_trichotomy k (ahead l ⟨m, s⟩) with h6 | h6 | h6
      · have := (List.pairwise_iff_getElem.1 h.so) _ _ hk ha h6
        rw [h1, h5] at this
        exact absurd this (ltE_irrefl _)
      · exact h6
      · have := (List.pairwise_iff_getElem.1 h.so) _ _ ha hk h6
        rw [h1, h5] at this
        exact absurd this (ltE_irrefl _)
    rw [← this]
  · rw [h1] at hl; cases hl
end Go.Proofs.YtifcpippfiglkaaGreat

/- zset: packed sets: drop. -/
namespace Go.Proofs.YtifcpippfiglkaaGreat
open Go.RowKit Pal
attribute [local go_sem] Oper.semAt_some
section
variable {w : World} {b : Nat} {es : List En}
set_option maxRecDepth 100000 in
set_option maxHeartbeats 1000000 in
theorem p_drop (h : PkAt w b es) (e : En) (k : Nat) (hk : k < es.length) (hfk : findI es e.m 0 = (k : Int)) : Calls Tryz.prog 152 #[pt b, e.val] w fun r w' => (∃ v, r = .returned v) ∧ PkAt w' b (es.take k ++ es.drop (k + 1)) ∧ Chg (fun g => g = b) w w' := by
  have hfi := fun w => find_any es h.ok e.m w
  rw [hfk] at hfi
  have hdel := fun w => delete_pk es h.ok k hk w
  have hok2 : POk (es.take k ++ es.drop (k + 1)) := h.ok.sub' (by rw [List.length_append, List.length_take, List.length_drop]; omega) (fun x hx => by
    rcases List.mem_append.1 hx with h | h
    · exact List.mem_of_mem_take h
    · exact List.mem_of_mem_drop h)
  have HB := Lib.hid h.b
  have c0 := h.cell
  have l0 := h.b.lt
  clear hfk hk
  generalize hq : pk es = q at *
  generalize hq2 : pk (es.take k ++ es.drop (k + 1)) = q2 at *
  replace hq2 := Lib.hid hq2
  clear hq
  unfold pt En.val
  go_enter Tryz.func152, Tryz.ntmps152
  go_wp2_with fail
  have hbe := Blk.new w 54 #[.string e.m, .int .i64 e.s]
  have hbw := HB.out.alloc (.cells #[.string e.m, .int .i64 e.s] 54)
  have hC1 := (Chg.refl (fun _ => False) w).alloc (.cells #[.string e.m, .int .i64 e.s] 54)
  generalize w.alloc (.cells #[.string e.m, .int .i64 e.s] 54) = w2 at hbe hbw hC1 ⊢
  generalize w.heap.size = B at hbe ⊢
  have hgen : ∀ W', Chg (fun _ => False) w2 W' → W'.cell? ⟨b, 0, none⟩ = some (.string q) ∧ W'.cell? ⟨B, 0, none⟩ = some (.string e.m) := fun W' hc => ⟨by have := (hbw.chg hc id).cell 0; simpa using this, by have := (hbe.chg hc id).cell 0; simpa using this⟩
  obtain ⟨x1, x2⟩ := hgen w2 (Chg.refl _ _)
  go_region_with (first | (go_at_call 159; refine (hfi _).mono ?_; rintro r w5 ⟨rfl, hc5'⟩; have hc5 : Chg (fun _ => False) w2 w5 := (Chg.refl _ _).drew.trans hc5'; obtain ⟨y1, y2⟩ := hgen w5 hc5) | (go_at_call 156; refine (hdel _).mono ?_; rintro r w6 ⟨rfl, hc6⟩; have hb6 := hbw.chg (hc5.trans hc6) id; have z1 := hb6.cell 0; have zf := hb6.frozen 0; have zl := hb6.lt; simp only [List.getElem?_toArray, List.getElem?_cons_zero] at z1) | fail)
  all_goals
    go_wp2_with fail
    go_end0
    refine ⟨⟨_, rfl⟩, ⟨?_, hok2⟩, Chg.store (S := fun g => g = b) ((hC1.trans (hc5.trans hc6)).mono fun _ _ h => h.elim) rfl 0 _⟩
    rw [hq2.out]
    exact hb6.set 0 _
end
end Go.Proofs.YtifcpippfiglkaaGreat

/- zset: packed sets: put. -/
namespace Go.Proofs.YtifcpippfiglkaaGreat
open Go.RowKit Pal
attribute [local go_sem] Oper.semAt_some

section
variable {w : World} {b : Nat} {es : List En}
set_option maxRecDepth 100000 in
theorem put1_any (e x : En) (i A B : Nat) (v : Value) (W : World) (hA : Blk W A 54 #[.string e.m, .int .i64 e.s]) (hB : Blk W B 43 #[v]) (l : List En) (hv : EntsR W v l) (hx : l[i]? = some x) :
    Calls Tryz.prog 160 #[.int .i64 (i : Int), pt A, pt B] W fun r W' => r = .returned (.bool (decide (ltE e x))) ∧ Chg (fun _ => False) W W' := by
  obtain ⟨g, o, c, rfl, h1, h2, h3, k0, k1⟩ := hv.at_ hx
  have a0 := hA.cell 0
  have a1 := hA.cell 1
  have b0 := hB.cell 0
  have la := hA.lt
  have lb := hB.lt
  simp only [List.getElem?_toArray, List.getElem?_cons_zero, List.getElem?_cons_succ] at a0 a1 b0
  have hi := (List.getElem?_eq_some_iff.1 hx).1
  have hi' : (i : Int) < (l.length : Int) := by omega
  have hi0 : 0 ≤ (i : Int) := by omega
  have hless := fun W => less_E e x W
  unfold En.val at hless
  unfold pt maxLen at *
  clear hx hv hA hB
  go_enter Tryz.func160, Tryz.ntmps160
  go_wp2_with fail
  go_still_tail 5, (by kernel_rfl)
  go_wp2_with (go_at_call 42; refine (hless _).mono ?_; rintro r w1 ⟨rfl, hC⟩)
  go_ret
  exact ⟨rfl, (Chg.refl _ _).drew.trans hC⟩
theorem ahead_turn {l : List En} {e : En} (hs : l.Pairwise ltE) (hn : e ∉ l) {t : Nat} {x : En} (hx : l[t]? = some x) : decide (ltE e x) = decide (ahead l e ≤ t) := by
  have h := ahead_lt (e := e) hs hx
  rw [decide_eq_decide]
  constructor
  · intro h1
    rcases Nat.lt_or_ge t (ahead l e) with h2 | h2
    · exact absurd (ltE_trans h1 (h.2 h2)) (ltE_irrefl _)
    · exact h2
  · intro h1
    exact ltE_total (fun h2 => by have := h.1 h2; omega) (fun e2 => hn (by rw [← e2]; exact List.mem_of_getElem? hx))
end
end Go.Proofs.YtifcpippfiglkaaGreat

/- zset: packed sets: put. -/
namespace Go.Proofs.YtifcpippfiglkaaGreat
open Go.RowKit Pal
attribute [local go_sem] Oper.semAt_some

section
variable {w : World} {b : Nat} {es : List En}
set_option maxRecDepth 100000 in
set_option maxHeartbeats 1000000 in
theorem p_put (h : PkAt w b es) (e : En) (lv : Int) (hs : es.Pairwise ltE) (hn : e ∉ es) (h200 : es.length < 200) (hx : EnOk e) : Calls Tryz.prog 153 #[pt b, e.val, .int .i64 lv] w fun r w' => (∃ v, r = .returned v) ∧ PkAt w' b (es.take (ahead es e) ++ e :: es.drop (ahead es e)) ∧ Chg (fun g => g = b) w w' := by
  have hkl := ahead_le es e
  have hins := fun w => insert_pk es h.ok (ahead es e) hkl h200 e hx w
  have hok2 : POk (es.take (ahead es e) ++ e :: es.drop (ahead es e)) := ⟨by rw [List.length_append, List.length_cons, List.length_take, List.length_drop]; omega, fun x hx2 => by
    rcases List.mem_append.1 hx2 with h2 | h2
    · exact h.ok.ok x (List.mem_of_mem_take h2)
    · rcases List.mem_cons.1 h2 with rfl | h2
      · exact hx
      · exact h.ok.ok x (List.mem_of_mem_drop h2)⟩
  have hent := fun w (h : PkAt w b es) => p_entries h
  have hsr : ∀ (A B : Nat) (v : Value) (W : World), Blk W A 54 #[.string e.m, .int .i64 e.s] → Blk W B 43 #[v] → EntsR W v es → _ := fun A B v W hA hB hv =>
    search_any 160 #[pt A, pt B] es.length (ahead es e) (fun t => decide (ahead es e ≤ t)) W (enters_of Tryz.func160 (by kernel_rfl) rfl) (by omega) hkl (fun t ht => decide_eq_false (by omega)) (fun t ht _ => decide_eq_true ht)
      (fun i W' hi hc => by
        have := put1_any e es[i] i A B v W' (hA.chg hc id) (hB.chg hc id) es (hv.chg0 hc) (List.getElem?_eq_getElem hi)
        rw [ahead_turn hs hn (List.getElem?_eq_getElem hi)] at this
        exact this)
  have HB := Lib.hid h.b
  generalize hq2 : pk (es.take (ahead es e) ++ e :: es.drop (ahead es e)) = q2 at *
  replace hq2 := Lib.hid hq2
  generalize ahead es e = k at *
  unfold RgPost at hent
  unfold fnv at hsr
  unfold pt En.val at *
  go_enter Tryz.func153, Tryz.ntmps153
  go_wp2_with (first | (go_at_call 157; refine (hent _ (h.chg ((Chg.refl (fun _ => False) w).alloc _) id)).mono ?_; rintro r w1 ⟨⟨v, rfl, hv⟩, hC⟩; obtain ⟨p, c, rfl, _, _, _⟩ := hv.is) | (go_at_call 58; refine (hsr w.heap.size w1.heap.size _ _ (((Blk.new w 54 #[.string e.m, .int .i64 e.s]).chg hC id).alloc _) (Blk.new w1 43 _) (hv.r.chg0 ((Chg.refl _ w1).alloc _))).mono ?_; rintro r w2 ⟨rfl, hC2⟩) | fail)
  have hC3 : Chg (fun _ => False) w w2 := ((((Chg.refl _ w).alloc _).trans hC).alloc _).trans hC2
  have hbw := HB.out.chg hC3 id
  have hbe := ((((Blk.new w 54 #[.string e.m, .int .i64 e.s]).chg hC id).alloc _).chg hC2 id)
  have c0 := hbw.cell 0
  have e0 := hbe.cell 0
  have e1 := hbe.cell 1
  have l0 := hbw.lt
  have l1 := hbe.lt
  simp only [List.getElem?_toArray, List.getElem?_cons_zero, List.getElem?_cons_succ] at c0 e0 e1
  clear hsr hent hv
  go_region_with (first | (go_at_call 161; refine (hins _).mono ?_; rintro r w4 ⟨rfl, hC4'⟩; have hC4 : Chg (fun _ => False) w2 w4 := (Chg.refl _ _).drew.trans hC4'; have hb4 := hbw.chg hC4 id; have d0 := hb4.cell 0; have df := hb4.frozen 0; have dl := hb4.lt; simp only [List.getElem?_toArray, List.getElem?_cons_zero] at d0) | fail)
  all_goals
    go_wp2_with fail
    go_end0
    refine ⟨⟨_, rfl⟩, ⟨?_, hok2⟩, Chg.store (S := fun g => g = b) ((hC3.trans hC4).mono fun _ _ h => h.elim) rfl 0 _⟩
    rw [hq2.out]
    exact hb4.set 0 _
end
end Go.Proofs.YtifcpippfiglkaaGreat

/- pack.New. -/
namespace Go.Proofs.YtifcpippfiglkaaGreat
open Go.RowKit Pal
attribute [local go_sem] Oper.semAt_some

set_option maxRecDepth 100000 in
theorem packNew_any (w : World) : Calls Tryz.prog 35 #[] w fun r w' => r = .returned (.string (pk [])) ∧ Chg (fun _ => False) w w' := by
  have hh : ∀ w, Calls Tryz.prog 52 #[.int .i64 0] w fun r w' => r = .returned (.slice (some ⟨w.heap.size, 0, none⟩) 2 2) ∧ w.alloc (.cells #[.int .u8 0, .int .u8 0] 5) = w' := fun w => head_any 0 w (by omega)
  have hb := Blk.new w 5 #[.int .u8 0, .int .u8 0]
  have hbk := Go.run_convert_bytes_back (P := Tryz.prog) (w.alloc (.cells #[.int .u8 0, .int .u8 0] 5)) 61 9 5 ⟨w.heap.size, 0, none⟩ 2 [0, 0] Tryz.underlying61 Tryz.underlying5 Tryz.underlying9 (fun j hj => by
    have hj : j < 2 := hj
    rw [addr_add', Nat.zero_add, hb.cell]
    match j, hj with
    | 0, _ => rfl
    | 1, _ => rfl)
  have e : (⟨([0, 0] : List UInt8).toArray⟩ : ByteArray) = pk [] := rfl
  rw [e] at hbk
  simp only [List.length_cons, List.length_nil, Nat.reduceAdd, Nat.reduceDiv, Nat.reduceMod] at hbk
  clear hb e
  go_enter Tryz.func35, Tryz.ntmps35
  go_wp2_with (go_at_call 52; refine (hh _).mono ?_; rintro r w1 ⟨rfl, rfl⟩)
  go_ret
  exact ⟨rfl, (Chg.refl _ _).alloc _⟩
end Go.Proofs.YtifcpippfiglkaaGreat

/- A dict of one's own: nobody else's blocks. -/
namespace Go.Proofs.YtifcpippfiglkaaGreat.Dint64
open Go.RowKit Pal

/-- The dict lies in blocks that are newer than n. -/
structure Mine (n : Nat) (w : World) (d : Dm) : Prop where
  dm : DmAt w d
  ok : d.Ok
  new : ∀ g, d.foot g → n ≤ g

theorem Mine.nx {n : Nat} {w w' : World} {d d' : Dm} (h : Mine n w d) (hn : n ≤ w.heap.size) (x : Nx d d' w w') : Mine n w' d' :=
  ⟨x.dm, x.ok, fun g hg => (x.foot g hg).elim (h.new g) fun h' => Nat.le_trans hn h'⟩
theorem Mine.chg {n : Nat} {w w' : World} {d : Dm} {S : Nat → Prop} (h : Mine n w d) (hc : Chg S w w') (hs : ∀ g, d.foot g → ¬ S g) : Mine n w' d := ⟨h.dm.chg hc hs, h.ok, h.new⟩
theorem Mine.chg0 {n : Nat} {w w' : World} {d : Dm} (h : Mine n w d) (hc : Chg (fun _ => False) w w') : Mine n w' d := ⟨h.dm.chg0 hc, h.ok, h.new⟩
theorem Mine.lt {n : Nat} {w : World} {d : Dm} (h : Mine n w d) {g : Nat} (hg : d.foot g) : g < w.heap.size := h.dm.lt hg
/-- What lay before the dict stays. -/
theorem Mine.old {n : Nat} {w0 w w' : World} {d d' : Dm} (h : Mine n w d) (hn : w0.heap.size = n) (hc : Chg (fun _ => False) w0 w) (x : Nx d d' w w') : Chg (fun _ => False) w0 w' :=
  hc.trans' x.chg fun g hg h' => absurd (h.new g h') (by omega)

end Go.Proofs.YtifcpippfiglkaaGreat.Dint64

/- Two dicts beside each other. -/
namespace Go.Proofs.YtifcpippfiglkaaGreat.Dint64
open Go.RowKit Pal

structure One (w0 W : World) (bd : Nat) (d : Dm) : Prop where
  md : Mine w0.heap.size W d
  bd : d.blk = bd
  chg : Chg (fun _ => False) w0 W
section
variable {w0 W W' : World} {bd : Nat} {d d' : Dm}
theorem One.chg0 (h : One w0 W bd d) (hc : Chg (fun _ => False) W W') : One w0 W' bd d := ⟨h.md.chg0 hc, h.bd, h.chg.trans hc⟩
theorem One.nx (h : One w0 W bd d) (x : Nx d d' W W') : One w0 W' bd d' := ⟨h.md.nx h.chg.size x, x.blk.trans h.bd, h.md.old rfl h.chg x⟩
end
structure Two (n0 : Nat) (w0 W : World) (bd be : Nat) (d e : Dm) : Prop where
  md : Mine n0 W d
  me : Mine n0 W e
  apart : ∀ g, d.foot g → ¬ e.foot g
  bd : d.blk = bd
  be : e.blk = be
  chg : Chg (fun _ => False) w0 W
  n0 : w0.heap.size = n0
/-- .. and a block that is nobody's. -/
structure TwoB (n0 : Nat) (w0 W : World) (bd be : Nat) (d e : Dm) (B : Nat) (t : TypeId) (cs : Array Value) : Prop extends Two n0 w0 W bd be d e where
  blk : Blk W B t cs
  fd : ¬ d.foot B
  fe : ¬ e.foot B

section
variable {n0 : Nat} {w0 W W' : World} {bd be B : Nat} {d e d' e' : Dm} {t : TypeId} {cs : Array Value}
theorem Two.chg0 (h : Two n0 w0 W bd be d e) (hc : Chg (fun _ => False) W W') : Two n0 w0 W' bd be d e :=
  ⟨h.md.chg0 hc, h.me.chg0 hc, h.apart, h.bd, h.be, h.chg.trans hc, h.n0⟩
theorem Two.left (h : Two n0 w0 W bd be d e) (x : Nx d d' W W') : Two n0 w0 W' bd be d' e :=
  ⟨h.md.nx (by rw [← h.n0]; exact h.chg.size) x, h.me.chg x.chg fun g hg hd => h.apart g hd hg, fun g hg he => (x.foot g hg).elim (fun h1 => h.apart g h1 he) fun h2 => absurd (h.me.lt he) (by omega), x.blk.trans h.bd, h.be, h.md.old h.n0 h.chg x, h.n0⟩
theorem Two.right (h : Two n0 w0 W bd be d e) (x : Nx e e' W W') : Two n0 w0 W' bd be d e' :=
  ⟨h.md.chg x.chg fun g hg he => h.apart g hg he, h.me.nx (by rw [← h.n0]; exact h.chg.size) x, fun g hg he => (x.foot g he).elim (fun h1 => h.apart g hg h1) fun h2 => absurd (h.md.lt hg) (by omega), h.bd, x.blk.trans h.be, h.me.old h.n0 h.chg x, h.n0⟩
theorem Two.box (h : Two n0 w0 W bd be d e) (t : TypeId) (cs : Array Value) : TwoB n0 w0 (W.alloc (.cells cs t)) bd be d e W.heap.size t cs :=
  { h.chg0 ((Chg.refl _ W).alloc _) with blk := Blk.new W t cs, fd := fun hf => Nat.lt_irrefl _ (h.md.lt hf), fe := fun hf => Nat.lt_irrefl _ (h.me.lt hf) }
theorem TwoB.chgB (h : TwoB n0 w0 W bd be d e B t cs) (hc : Chg (fun _ => False) W W') : TwoB n0 w0 W' bd be d e B t cs :=
  { h.toTwo.chg0 hc with blk := h.blk.chg hc id, fd := h.fd, fe := h.fe }
theorem TwoB.leftB (h : TwoB n0 w0 W bd be d e B t cs) (x : Nx d d' W W') : TwoB n0 w0 W' bd be d' e B t cs :=
  { h.toTwo.left x with blk := h.blk.chg x.chg h.fd, fd := fun h' => (x.foot B h').elim h.fd fun h2 => absurd h.blk.lt (by omega), fe := h.fe }
theorem TwoB.rightB (h : TwoB n0 w0 W bd be d e B t cs) (x : Nx e e' W W') : TwoB n0 w0 W' bd be d e' B t cs :=
  { h.toTwo.right x with blk := h.blk.chg x.chg h.fe, fd := h.fd, fe := fun h' => (x.foot B h').elim h.fe fun h2 => absurd h.blk.lt (by omega) }
end

end Go.Proofs.YtifcpippfiglkaaGreat.Dint64

/- The acts of dicts, told for one dict of one's own. -/
namespace Go.Proofs.YtifcpippfiglkaaGreat.Dint64
open Go.RowKit Pal

def Stays (d d' : Dm) : Prop := (∀ k, d'.look k = d.look k) ∧ d'.n = d.n
def Puts (key : ByteArray) (v : Value) (d d' : Dm) : Prop := (∀ k, d'.look k = if k = key then some v else d.look k) ∧ d'.n = if (d.look key).isNone then d.n + 1 else d.n
def Cuts (key : ByteArray) (d d' : Dm) : Prop := (∀ k, d'.look k = if k = key then none else d.look k) ∧ d'.n = if (d.look key).isSome then d.n - 1 else d.n

section
variable {w0 W : World} {bd : Nat} {d : Dm}
theorem set_1 (h : One w0 W bd d) (key : ByteArray) (v : Value) (hk : key.size ≤ 9223372036854775807) (hv : VOk v) (hn : d.n ≤ 100000) :
    Calls Tryz.prog 76 #[.pointer (some ⟨bd, 0, none⟩), .string key, v] W fun r W' => r = .returned (.bool (d.look key).isNone) ∧ ∃ d', One w0 W' bd d' ∧ Nx d d' W W' ∧ Puts key v d d' ∧ shape d' = if (d.look key).isNone then growS (stepS (shape d) 1) d.n else stepS (shape d) 1 := by
  have := Set_i d key v W h.md.dm h.md.ok hk hv (by omega)
  rw [h.bd] at this
  exact this.mono fun r W' ⟨h1, d', h2, h3, h4, h5⟩ => ⟨h1, d', h.nx h2, h2, ⟨h3, h4⟩, h5⟩
theorem get_1 (h : One w0 W bd d) (key : ByteArray) (hk : key.size ≤ 9223372036854775807) :
    Calls Tryz.prog 73 #[.pointer (some ⟨bd, 0, none⟩), .string key] W fun r W' => r = .returned (.tuple #[(d.look key).getD (.int .i64 0), .bool (d.look key).isSome]) ∧ ∃ d', One w0 W' bd d' ∧ Nx d d' W W' ∧ Stays d d' ∧ shape d' = stepS (shape d) 1 := by
  have := Get_i d key W h.md.dm h.md.ok hk
  rw [h.bd] at this
  exact this.mono fun r W' ⟨h1, d', h2, h3, h4, h5⟩ => ⟨h1, d', h.nx h2, h2, ⟨h3, h4⟩, h5⟩
theorem del_1 (h : One w0 W bd d) (key : ByteArray) (hk : key.size ≤ 9223372036854775807) (hn : d.n ≤ 100000) :
    Calls Tryz.prog 180 #[.pointer (some ⟨bd, 0, none⟩), .string key] W fun r W' => r = .returned (.bool (d.look key).isSome) ∧ ∃ d', One w0 W' bd d' ∧ Nx d d' W W' ∧ Cuts key d d' ∧ shape d' = if (d.look key).isSome then shrinkS (stepS (shape d) 1) (d.n - 1) else stepS (shape d) 1 := by
  have := Delete_i d key W h.md.dm h.md.ok hk (by omega)
  rw [h.bd] at this
  exact this.mono fun r W' ⟨h1, d', h2, h3, h4, h5⟩ => ⟨h1, d', h.nx h2, h2, ⟨h3, h4⟩, h5⟩
theorem step_1 (h : One w0 W bd d) (n : Int) :
    Calls Tryz.prog 86 #[.pointer (some ⟨bd, 0, none⟩), .int .i64 n] W fun r W' => r = .returned (.int .i64 (stepN (shape d) n : Int)) ∧ ∃ d', One w0 W' bd d' ∧ Nx d d' W W' ∧ Stays d d' ∧ shape d' = stepS (shape d) n := by
  have := Step_i d n W h.md.dm h.md.ok
  rw [h.bd] at this
  exact this.mono fun r W' ⟨h1, d', h2, h3, h4, h5⟩ => ⟨h1, d', h.nx h2, h2, ⟨h3, h4⟩, h5⟩

-- Tryz.func191
theorem len_1 (h : One w0 W bd d) : Calls Tryz.prog 191 #[.pointer (some ⟨bd, 0, none⟩)] W fun r W' => r = .returned (.int .i64 (d.n : Int)) ∧ W = W' := by
  have := len_any d W h.md.dm
  rw [h.bd] at this
  exact this

-- Tryz.func68
theorem sizes_1 (h : One w0 W bd d) : Calls Tryz.prog 68 #[.pointer (some ⟨bd, 0, none⟩)] W fun r W' => r = .returned (.tuple #[.int .i64 ((shape d).1 : Int), .int .i64 (((shape d).2.1.getD 0 : Nat) : Int), .int .i64 ((shape d).2.2 : Int)]) ∧ One w0 W' bd d ∧ Chg (fun _ => False) W W' := by
  have := Sizes_i d W h.md.dm
  rw [h.bd] at this
  exact this.mono fun r W' ⟨h1, h2⟩ => ⟨h1, h.chg0 h2, h2⟩

theorem new_1 {w0 W : World} (hc : Chg (fun _ => False) w0 W) (seed : Nat) (hs : seed < 4294967296) :
    Calls Tryz.prog 54 #[.int .u32 (seed : Int)] W fun e W' => ∃ bd d, e = .returned (.pointer (some ⟨bd, 0, none⟩)) ∧ One w0 W' bd d ∧ d.n = 0 ∧ (∀ k, d.look k = none) ∧ shape d = (4, none, 0) ∧ (∀ g, d.foot g → W.heap.size ≤ g) ∧ Chg (fun _ => False) W W' :=
  (New_i seed hs W).mono fun e W' ⟨d, h1, h2, h3, _, h4, h5, h6, h7, h8⟩ => ⟨d.blk, d, h1, ⟨⟨h2, h3, fun g hg => Nat.le_trans hc.size (h7 g hg)⟩, rfl, hc.trans h8⟩, h4, h5, h6, h7, h8⟩
end

end Go.Proofs.YtifcpippfiglkaaGreat.Dint64

/- A dict's sizes while it has few keys. -/
namespace Go.Proofs.YtifcpippfiglkaaGreat.Dint64
open Go.RowKit Pal

def bndZ (s : Nat × Option Nat × Nat) : Prop := s.1 ≤ 1024 ∧ ∀ l, s.2.1 = some l → l ≤ 1024
theorem sizeFor_1024 {n : Int} (h : n ≤ 1024) : sizeFor n ≤ 1024 := by
  obtain ⟨k, h2, h16, e, hlt, _⟩ := sizeFor_spec n
  rw [e]
  rcases Nat.lt_or_ge k 11 with h' | h'
  · exact pow_mono (b := 10) (by omega)
  · have := hlt 10 (by omega) (by omega)
    have e9 : ((2 ^ 10 : Nat) : Int) = 1024 := rfl
    omega
theorem bz_step {s : Nat × Option Nat × Nat} (h : bndZ s) (n : Int) : bndZ (stepS s n) := by
  unfold stepS
  obtain ⟨s0, s1, s2⟩ := s
  cases s1 with
  | none => exact h
  | some l =>
    dsimp only
    split
    · exact ⟨h.1, fun l' e => h.2 l' e⟩
    · exact ⟨h.2 l rfl, fun l' e => (by cases e)⟩
theorem bz_grow {s : Nat × Option Nat × Nat} (h : bndZ s) {n : Nat} (hn : n ≤ 512) : bndZ (growS s n) := by
  unfold growS
  split
  · exact ⟨h.1, fun l e => by injection e with e; rw [← e]; exact sizeFor_1024 (by omega)⟩
  · exact h
theorem bz_shrink {s : Nat × Option Nat × Nat} (h : bndZ s) {n : Nat} (hn : n ≤ 512) : bndZ (shrinkS s n) := by
  unfold shrinkS
  split
  · exact ⟨h.1, fun l e => by injection e with e; rw [← e]; exact sizeFor_1024 (by omega)⟩
  · exact h
theorem bz_ite {p : Prop} [Decidable p] {a b : Nat × Option Nat × Nat} (ha : bndZ a) (hb : bndZ b) : bndZ (if p then a else b) := by
  split <;> assumption
end Go.Proofs.YtifcpippfiglkaaGreat.Dint64

/- zset: listed sets in memory. -/
namespace Go.Proofs.YtifcpippfiglkaaGreat
open Go.RowKit Pal

structure Ls where
  blk : Nat
  s : Sk
  d : Dint64.Dm
def Ls.foot (x : Ls) (g : Nat) : Prop := g = x.blk ∨ x.s.foot g ∨ x.d.foot g
structure LsAt (w : World) (base : Nat) (x : Ls) (es : List En) : Prop where
  b : Blk w x.blk 98 #[pt x.s.blk, pt x.d.blk]
  sk : SkAt w base x.s
  dm : Dint64.DmAt w x.d
  ok : x.d.Ok
  eq : x.s.es = es
  look : ∀ m, x.d.look m = (lookE es m).map (Value.int .i64)
  dn : x.d.n = es.length
  bz : Dint64.bndZ (Dint64.shape x.d)
  ge : base ≤ x.blk ∧ ∀ g, x.d.foot g → base ≤ g
theorem sk_ty {w : World} {base : Nat} {s : Sk} (h : SkAt w base s) {g : Nat} (hg : s.foot g) : ∃ t cs, Blk w g t cs ∧ (t = 134 ∨ t = 132) := by
  obtain ⟨p, hp, rfl⟩ := hg
  obtain ⟨cs, hb, _⟩ := h.v.nd p hp
  refine ⟨_, _, hb, ?_⟩
  unfold tyP
  split
  · exact .inl rfl
  · exact .inr rfl
theorem dm_ty {w : World} {d : Dint64.Dm} (h : Dint64.DmAt w d) {g : Nat} (hg : d.foot g) : ∃ t cs, Blk w g t cs ∧ (t = 138 ∨ t = 158 ∨ t = 160) := by
  rcases hg with rfl | rfl | ⟨t, ht, rfl⟩ | ⟨x, hx, rfl⟩
  · exact ⟨_, _, h.hd, .inl rfl⟩
  · exact ⟨_, _, h.a0.1, .inr (.inl rfl)⟩
  · exact ⟨_, _, (h.a1 t ht).1, .inr (.inl rfl)⟩
  · obtain ⟨nx, hb⟩ := h.node hx
    exact ⟨_, _, hb, .inr (.inr rfl)⟩
theorem sk_dm {w : World} {base : Nat} {s : Sk} {d : Dint64.Dm} (h1 : SkAt w base s) (h2 : Dint64.DmAt w d) {g : Nat} (hg : s.foot g) : ¬ d.foot g := by
  intro hd
  obtain ⟨t, cs, hb, ht⟩ := sk_ty h1 hg
  obtain ⟨t', cs', hb', ht'⟩ := dm_ty h2 hd
  refine hb.ne_type hb' ?_ rfl
  rcases ht with rfl | rfl <;> rcases ht' with rfl | rfl | rfl <;> decide
section
variable {w w' : World} {base : Nat} {x : Ls} {es : List En}
theorem LsAt.b_sk (h : LsAt w base x es) : ¬ x.s.foot x.blk := by
  intro hg
  obtain ⟨t, cs, hb, ht⟩ := sk_ty h.sk hg
  refine h.b.ne_type hb ?_ rfl
  rcases ht with rfl | rfl <;> decide
theorem LsAt.b_dm (h : LsAt w base x es) : ¬ x.d.foot x.blk := by
  intro hg
  obtain ⟨t, cs, hb, ht⟩ := dm_ty h.dm hg
  refine h.b.ne_type hb ?_ rfl
  rcases ht with rfl | rfl | rfl <;> decide
theorem LsAt.chg {S : Nat → Prop} (h : LsAt w base x es) (hc : Chg S w w') (hn : ∀ g, x.foot g → ¬ S g) : LsAt w' base x es :=
  { h with b := h.b.chg hc (hn _ (.inl rfl)), sk := h.sk.chg hc fun g hg => hn _ (.inr (.inl hg)), dm := h.dm.chg hc fun g hg => hn _ (.inr (.inr hg)) }
theorem LsAt.chg0 (h : LsAt w base x es) (hc : Chg (fun _ => False) w w') : LsAt w' base x es := h.chg hc fun _ _ => id
theorem LsAt.lt (h : LsAt w base x es) {g : Nat} (hg : x.foot g) : base ≤ g ∧ g < w.heap.size := by
  rcases hg with rfl | hg | hg
  · exact ⟨h.ge.1, h.b.lt⟩
  · exact h.sk.lt hg
  · exact ⟨h.ge.2 g hg, h.dm.lt hg⟩
end
end Go.Proofs.YtifcpippfiglkaaGreat

/- zset: listed sets: score, put, drop. -/
namespace Go.Proofs.YtifcpippfiglkaaGreat
open Go.RowKit Pal
attribute [local go_sem] Oper.semAt_some

structure Lx (base : Nat) (x x' : Ls) (es' : List En) (w w' : World) : Prop where
  at_ : LsAt w' base x' es'
  blk : x'.blk = x.blk
  seed : x'.d.seed = x.d.seed
  chg : Chg x.foot w w'
  foot : ∀ g, x'.foot g → x.foot g ∨ w.heap.size ≤ g
section
variable {w w' : World} {base : Nat} {x : Ls} {es : List En}
theorem LsAt.dict (h : LsAt w base x es) {d' : Dint64.Dm} {es' : List En} (hn : Dint64.Nx x.d d' w w') (he : x.s.es = es') (hl : ∀ m, d'.look m = (lookE es' m).map (Value.int .i64)) (hd : d'.n = es'.length) (hz : Dint64.bndZ (Dint64.shape d')) : Lx base x { x with d := d' } es' w w' where
  at_ := { b := by
             have := h.b.chg hn.chg h.b_dm
             rw [← hn.blk] at this; exact this
           sk := h.sk.chg hn.chg fun g hg => sk_dm h.sk h.dm hg
           dm := hn.dm
           ok := hn.ok
           eq := he
           look := hl
           dn := hd
           bz := hz
           ge := ⟨h.ge.1, fun g hg => (hn.foot g hg).elim (h.ge.2 g) fun h2 => by have := (h.lt (.inl rfl)); omega⟩ }
  blk := rfl
  seed := hn.seed
  chg := hn.chg.mono fun g _ hg => .inr (.inr hg)
  foot := fun g hg => by
    rcases hg with hg | hg | hg
    · exact .inl (.inl hg)
    · exact .inl (.inr (.inl hg))
    · exact (hn.foot g hg).imp (fun h => .inr (.inr h)) id
theorem LsAt.cells (h : LsAt w base x es) : w.cell? ⟨x.blk, 0, none⟩ = some (pt x.s.blk) ∧ w.cell? ⟨x.blk, 1, none⟩ = some (pt x.d.blk) ∧ x.blk < w.heap.size := by
  have h0 := h.b.cell 0
  have h1 := h.b.cell 1
  exact ⟨by simpa using h0, by simpa using h1, h.b.lt⟩
def LxPost (base : Nat) (x : Ls) (es' : List En) (v : Option Value) (w : World) (r : Ending) (w' : World) : Prop := (∃ u, r = .returned u ∧ ∀ y, v = some y → u = y) ∧ ∃ x', Lx base x x' es' w w'
theorem getD_int (o : Option Int) : (o.map (Value.int .i64)).getD (.int .i64 0) = .int .i64 (o.getD 0) := by cases o <;> rfl
theorem isSome_int (o : Option Int) : (o.map (Value.int .i64)).isSome = o.isSome := by cases o <;> rfl
set_option maxRecDepth 100000 in
theorem l_score (h : LsAt w base x es) (m : ByteArray) (hm : m.size ≤ 9223372036854775807) : Calls Tryz.prog 51 #[pt x.blk, .string m] w (LxPost base x es (some (.tuple #[.int .i64 ((lookE es m).getD 0), .bool (lookE es m).isSome])) w) := by
  obtain ⟨c0, c1, l0⟩ := h.cells
  have hg := Dint64.Get_i x.d m w h.dm h.ok hm
  rw [h.look m, getD_int, isSome_int] at hg
  unfold Dint64.ptr at hg
  unfold pt at *
  clear hm
  go_enter Tryz.func51, Tryz.ntmps51
  go_wp2_with (go_at_call 73; refine hg.mono ?_; rintro r w1 ⟨rfl, d', hn, hl, hd, hz⟩)
  go_ret2
  exact ⟨⟨_, rfl, fun y hy => by injection hy⟩, _, h.dict hn h.eq (fun k => by rw [hl, h.look]) (hd.trans h.dn) (by rw [hz]; exact Dint64.bz_step h.bz _)⟩
end
end Go.Proofs.YtifcpippfiglkaaGreat

/- zset: listed sets: put, drop. -/
namespace Go.Proofs.YtifcpippfiglkaaGreat
open Go.RowKit Pal
attribute [local go_sem] Oper.semAt_some

theorem put_foot_inv {s : Sk} {k : Nat} {y : Sn} {g : Nat} (hk : k ≤ s.n) (h : (s.put k y).foot g) : s.foot g ∨ g = y.blk := by
  obtain ⟨p, hp, rfl⟩ := h
  have hp : p ≤ (s.put k y).n := hp
  rw [Sk.put_n hk] at hp
  show s.foot ((s.put k y).at_ p) ∨ (s.put k y).at_ p = y.blk
  rw [Sk.put_at hk]
  split
  · exact .inl ⟨p, by show p ≤ s.n; omega, rfl⟩
  · split
    · exact .inr rfl
    · exact .inl ⟨p - 1, by show p - 1 ≤ s.n; omega, rfl⟩
section
variable {w : World} {base : Nat} {x : Ls} {es : List En}
set_option maxRecDepth 100000 in
set_option maxHeartbeats 1000000 in
theorem l_put (h : LsAt w base x es) (hz : Zok es) (e : En) (l : Nat) (hl : 1 ≤ l ∧ l ≤ 32) (hne : e.m ∉ es.map (·.m)) (he : EnOk e) : Calls Tryz.prog 55 #[pt x.blk, e.val, .int .i64 (l : Int)] w (LxPost base x (insE es e) none w) := by
  obtain ⟨c0, c1, l0⟩ := h.cells
  have hlen : x.s.n = es.length := by rw [← h.eq, x.s.es_len]
  have hn4 := hz.n
  have hem : e ∉ x.s.es := by rw [h.eq]; exact fun h2 => hne (List.mem_map.2 ⟨e, h2, rfl⟩)
  have hi := fun w (hs : SkAt w base x.s) => insert_any x.s e l w base hs (by rw [h.eq]; exact hz.so) (by omega) hem hl
  have hse := fun w (hd : Dint64.DmAt w x.d) => Dint64.Set_i x.d e.m (.int .i64 e.s) w hd h.ok (by have := he.1; omega) ⟨_, rfl⟩ (by rw [h.dn]; omega)
  have hno : lookE es e.m = none := lookE_none.2 hne
  have hlk : x.d.look e.m = none := by rw [h.look, hno]; rfl
  rw [hlk] at hse
  have hk : ahead x.s.es e ≤ x.s.n := by have := ahead_le x.s.es e; rwa [x.s.es_len] at this
  have HX := Lib.hid h.b
  unfold InsPost at hi
  unfold Dint64.ptr at hse
  unfold pt En.val at *
  go_enter Tryz.func55, Tryz.ntmps55
  go_wp2_with fail
  have hbe := Blk.new w 54 #[.string e.m, .int .i64 e.s]
  have hC1 := (Chg.refl (fun _ => False) w).alloc (.cells #[.string e.m, .int .i64 e.s] 54)
  have hS1 := h.chg0 hC1
  have hB : w.heap.size ≤ w.heap.size := Nat.le_refl _
  generalize hw2 : w.alloc (.cells #[.string e.m, .int .i64 e.s] 54) = w2 at hbe hC1 hS1 ⊢
  have e0 := hbe.cell 0
  have e1 := hbe.cell 1
  have el := hbe.lt
  obtain ⟨d0, d1, l1⟩ := hS1.cells
  simp only [List.getElem?_toArray, List.getElem?_cons_zero, List.getElem?_cons_succ] at e0 e1
  unfold pt at d0 d1
  clear hw2 c0 c1
  go_still_tail 6, (by kernel_rfl)
  go_wp2_with (go_at_call 75; refine (hi _ (hS1.sk.chg0 (Chg.refl _ _).drew)).mono ?_; rintro r w3 ⟨rfl, g, hg, hsk, hc3⟩)
  have hc3' : Chg x.s.foot w2 w3 := (Chg.refl _ _).drew.trans hc3
  have hxs : ∀ g, x.s.foot g → g < w.heap.size := fun g hg => (h.sk.lt hg).2
  have hb3 := hS1.b.chg hc3' hS1.b_sk
  have hbe3 := hbe.chg hc3' (fun hf => by have := hxs _ hf; omega)
  have hd3 := hS1.dm.chg hc3' fun g hg hf => sk_dm hS1.sk hS1.dm hf hg
  have f1 := hb3.cell 1
  have g0 := hbe3.cell 0
  have g1 := hbe3.cell 1
  have l3 := hb3.lt
  have l4 := hbe3.lt
  simp only [List.getElem?_toArray, List.getElem?_cons_zero, List.getElem?_cons_succ] at f1 g0 g1
  unfold pt at f1
  clear e0 e1 el d0 d1 l1 hi
  go_still_tail 8, (by kernel_rfl)
  go_wp2_with (go_at_call 76; refine (hse _ (hd3.chg0 (Chg.refl _ _).drew)).mono ?_; rintro r w5 ⟨rfl, d', hn5, hl5, hdn5, hz5⟩)
  go_end0
  have hs1 := hC1.size
  have hs3 := hc3'.size
  have hg' : w.heap.size ≤ g := Nat.le_trans hs1 hg
  have hc5 : Chg x.d.foot w3 w5 := (Chg.refl _ _).drew.trans hn5.chg
  have hs5 := hc5.size
  have hfb : ∀ g, d'.foot g → x.d.foot g ∨ w.heap.size ≤ g := fun g hg => (hn5.foot g hg).imp id fun h2 => by have h2 : w3.heap.size ≤ g := h2; omega
  refine ⟨⟨_, rfl, nofun⟩, ⟨x.blk, x.s.put (ahead x.s.es e) ⟨g, e.m, e.s, l⟩, d'⟩, ?_, rfl, hn5.seed, ?_, ?_⟩
  · refine ⟨?_, hsk.chg hc5 fun g hg => sk_dm hsk hd3 hg, hn5.dm, hn5.ok, ?_, fun m => ?_, ?_, ?_, h.ge.1, fun g hg => ?_⟩
    · have := hb3.chg hc5 h.b_dm
      show Blk w5 x.blk _ #[pt x.s.blk, pt d'.blk]
      rw [hn5.blk]; exact this
    · rw [Sk.put_es, h.eq]; rfl
    · show d'.look m = _
      rw [hl5, lookE_ins hz.nd hne, h.look]
      split
      · rfl
      · rfl
    · show d'.n = _
      rw [hdn5, h.dn, (insE_perm es e).length_eq]; rfl
    · show Dint64.bndZ (Dint64.shape d')
      rw [hz5]
      exact Dint64.bz_ite (Dint64.bz_grow (Dint64.bz_step h.bz _) (by rw [h.dn]; omega)) (Dint64.bz_step h.bz _)
    · rcases hfb g hg with h2 | h2
      · exact h.ge.2 g h2
      · have := (h.lt (.inl rfl)).1
        have := (h.lt (.inl rfl)).2
        omega
  · refine (((hC1.mono fun _ _ h => h.elim).trans' hc3' fun g _ hg => .inr (.inl hg)).trans' hc5 fun g _ hg => .inr (.inr hg))
  · rintro g (hg | hg | hg)
    · exact .inl (.inl hg)
    · rcases put_foot_inv hk hg with h2 | h2
      · exact .inl (.inr (.inl h2))
      · exact .inr (by rw [h2]; exact hg')
    · exact (hfb g hg).imp (fun h => .inr (.inr h)) id
end
end Go.Proofs.YtifcpippfiglkaaGreat

/- zset: listed sets: drop. -/
namespace Go.Proofs.YtifcpippfiglkaaGreat
open Go.RowKit Pal
attribute [local go_sem] Oper.semAt_some

section
variable {w : World} {base : Nat} {x : Ls} {es : List En}
set_option maxRecDepth 100000 in
set_option maxHeartbeats 1000000 in
theorem l_drop (h : LsAt w base x es) (hz : Zok es) (e : En) (he : e ∈ es) : Calls Tryz.prog 179 #[pt x.blk, e.val] w (LxPost base x (delE es (ahead es e)) none w) := by
  obtain ⟨c0, c1, l0⟩ := h.cells
  have hlen : x.s.n = es.length := by rw [← h.eq, x.s.es_len]
  have hn4 := hz.n
  have hi := fun w (hs : SkAt w base x.s) => delete_any x.s e w base hs (by rw [h.eq]; exact hz.so) (by omega) (by rw [h.eq]; exact he)
  have hlk : x.d.look e.m = some (.int .i64 e.s) := by rw [h.look, (lookE_some hz.nd).2 (show (⟨e.m, e.s⟩ : En) ∈ es from he)]; rfl
  have hde := fun w (hd : Dint64.DmAt w x.d) => Dint64.Delete_i x.d e.m w hd h.ok (by have := (hz.ok e he).1; omega) (by rw [h.dn]; omega)
  rw [hlk] at hde
  have hat : es[ahead es e]? = some e := look_at hz ((lookE_some hz.nd).2 (show (⟨e.m, e.s⟩ : En) ∈ es from he))
  have hk : ahead x.s.es e < x.s.n := by rw [h.eq, hlen]; exact (List.getElem?_eq_some_iff.1 hat).1
  have HX := Lib.hid h.b
  unfold DelPost' at hi
  unfold Dint64.ptr at hde
  unfold pt En.val at *
  go_enter Tryz.func179, Tryz.ntmps179
  go_wp2_with fail
  have hbe := Blk.new w 54 #[.string e.m, .int .i64 e.s]
  have hC1 := (Chg.refl (fun _ => False) w).alloc (.cells #[.string e.m, .int .i64 e.s] 54)
  have hS1 := h.chg0 hC1
  generalize hw2 : w.alloc (.cells #[.string e.m, .int .i64 e.s] 54) = w2 at hbe hC1 hS1 ⊢
  have e0 := hbe.cell 0
  have e1 := hbe.cell 1
  have el := hbe.lt
  obtain ⟨d0, d1, l1⟩ := hS1.cells
  simp only [List.getElem?_toArray, List.getElem?_cons_zero, List.getElem?_cons_succ] at e0 e1
  unfold pt at d0 d1
  clear hw2 c0 c1
  go_still_tail 5, (by kernel_rfl)
  go_wp2_with (go_at_call 184; refine (hi _ (hS1.sk.chg0 (Chg.refl _ _).drew)).mono ?_; rintro r w3 ⟨rfl, hsk, hc3⟩)
  have hc3' : Chg x.s.foot w2 w3 := (Chg.refl _ _).drew.trans hc3
  have hxs : ∀ g, x.s.foot g → g < w.heap.size := fun g hg => (h.sk.lt hg).2
  have hb3 := hS1.b.chg hc3' hS1.b_sk
  have hbe3 := hbe.chg hc3' (fun hf => by have := hxs _ hf; omega)
  have hd3 := hS1.dm.chg hc3' fun g hg hf => sk_dm hS1.sk hS1.dm hf hg
  have f1 := hb3.cell 1
  have g0 := hbe3.cell 0
  have g1 := hbe3.cell 1
  have l3 := hb3.lt
  have l4 := hbe3.lt
  simp only [List.getElem?_toArray, List.getElem?_cons_zero, List.getElem?_cons_succ] at f1 g0 g1
  unfold pt at f1
  clear e0 e1 el d0 d1 l1 hi
  go_still_tail 6, (by kernel_rfl)
  go_wp2_with (go_at_call 180; refine (hde _ (hd3.chg0 (Chg.refl _ _).drew)).mono ?_; rintro r w5 ⟨rfl, d', hn5, hl5, hdn5, hz5⟩)
  go_end0
  have hs1 := hC1.size
  have hs3 := hc3'.size
  have hc5 : Chg x.d.foot w3 w5 := (Chg.refl _ _).drew.trans hn5.chg
  have hfb : ∀ g, d'.foot g → x.d.foot g ∨ w.heap.size ≤ g := fun g hg => (hn5.foot g hg).imp id fun h2 => by have h2 : w3.heap.size ≤ g := h2; omega
  refine ⟨⟨_, rfl, nofun⟩, ⟨x.blk, x.s.cut (ahead x.s.es e), d'⟩, ?_, rfl, hn5.seed, ?_, ?_⟩
  · refine ⟨?_, hsk.chg hc5 fun g hg => sk_dm hsk hd3 hg, hn5.dm, hn5.ok, ?_, fun m => ?_, ?_, ?_, h.ge.1, fun g hg => ?_⟩
    · have := hb3.chg hc5 h.b_dm
      show Blk w5 x.blk _ #[pt x.s.blk, pt d'.blk]
      rw [hn5.blk]; exact this
    · rw [Sk.cut_es, h.eq]; rfl
    · show d'.look m = _
      rw [hl5, lookE_del hz.nd hat, h.look]
      split
      · rfl
      · rfl
    · show d'.n = _
      rw [hdn5, h.dn]
      show es.length - 1 = _
      have := (delE_perm hat).length_eq
      rw [List.length_cons] at this
      omega
    · show Dint64.bndZ (Dint64.shape d')
      rw [hz5]
      exact Dint64.bz_ite (Dint64.bz_shrink (Dint64.bz_step h.bz _) (by rw [h.dn]; omega)) (Dint64.bz_step h.bz _)
    · rcases hfb g hg with h2 | h2
      · exact h.ge.2 g h2
      · have := (h.lt (.inl rfl)).1
        have := (h.lt (.inl rfl)).2
        omega
  · refine (((hC1.mono fun _ _ h => h.elim).trans' hc3' fun g _ hg => .inr (.inl hg)).trans' hc5 fun g _ hg => .inr (.inr hg))
  · rintro g (hg | hg | hg)
    · exact .inl (.inl hg)
    · exact .inl (.inr (.inl (cut_foot hk hg)))
    · exact (hfb g hg).imp (fun h => .inr (.inr h)) id
end
end Go.Proofs.YtifcpippfiglkaaGreat
