/- Texts joined for ZsetDoes: RZB, ZD, ZM, RZC, RG, ZsetDoes. -/
import Derived.Test.YtifcpippfiglkaaGreatJZsetDoesa
import Derived.Test.YtifcpippfiglkaaGreatJZsetDoesb
import Derived.Test.YtifcpippfiglkaaGreatJZsetWaysa
import Derived.Test.YtifcpippfiglkaaGreatJZsetWaysq
import Derived.Deep.RegionHeld3
set_option linter.unusedVariables false
set_option linter.unusedSimpArgs false

/- palioref11: Add whole, Cut. -/
namespace Go.Proofs.YtifcpippfiglkaaGreat
open Go.RowKit Pal
attribute [local go_sem] Oper.semAt_some

section
variable {w0 W W' W1 : World} {rb : Nat} {es l1 : List En} {is : Bool} {E M : Nat} {v v1 : Value}
set_option maxRecDepth 100000 in
set_option maxHeartbeats 4000000 in
theorem rf_add_no (h : Rf w0 W rb es is E M v) (m : ByteArray) (s lv : Int) (e : Int) (he : addNo es m lv = some e) : Calls Tryz.prog 37 #[pt rb, .string m, .int .i64 s, .int .i64 lv] W (RPost w0 rb es is E M (.tuple #[.bool false, .int .i64 e]) W) := by
  unfold addNo at he
  have HH := Lib.hid h
  obtain ⟨c0, _, _, _, l0, f0, _⟩ := h.cells
  by_cases h1 : 64 < m.size ∨ lv < 1 ∨ 32 < lv
  · rw [if_pos h1] at he
    injection he with he
    subst he
    have hcs : (64 : Int) < (m.size : Int) ∨ (¬ (64 : Int) < (m.size : Int) ∧ lv < 1) ∨ (¬ (64 : Int) < (m.size : Int) ∧ ¬ lv < 1 ∧ 32 < lv) := by omega
    clear h1 h
    unfold pt
    rcases hcs with g1 | ⟨g1, g2⟩ | ⟨g1, g2, g3⟩
    · go_enter Tryz.func37, Tryz.ntmps37
      go_wp2_with fail
      go_ret2
      exact ⟨rfl, v, HH.out, Chg.refl _ _⟩
    · go_enter Tryz.func37, Tryz.ntmps37
      go_wp2_with fail
      go_ret2
      exact ⟨rfl, v, HH.out, Chg.refl _ _⟩
    · go_enter Tryz.func37, Tryz.ntmps37
      go_wp2_with fail
      go_ret2
      exact ⟨rfl, v, HH.out, Chg.refl _ _⟩
  · rw [if_neg h1] at he
    by_cases h4 : lookE es m = none ∧ es.length = 400
    · rw [if_pos h4] at he
      injection he with he
      subst he
      obtain ⟨h5, h6⟩ := h4
      have h2' : ¬ (64 : Int) < (m.size : Int) := by omega
      have h3 : ¬ lv < 1 := by omega
      have h3' : ¬ 32 < lv := by omega
      have hfi := fun W' (hc : Chg (fun _ => False) W W') => findR_any v es m W' ((h.chg0 hc).own.r) (by omega)
      rw [findI_no h5] at hfi
      obtain ⟨vp, vc, hvv, _, _⟩ := h.val
      rw [h6] at hvv
      subst hvv
      unfold pt
      clear h5 h h1
      go_enter Tryz.func37, Tryz.ntmps37
      go_wp2_with (go_at_call 25; refine (hfi _ (Chg.refl _ _)).mono ?_; rintro r9 w1 ⟨rfl, rfl⟩)
      go_ret2
      exact ⟨rfl, _, HH.out, Chg.refl _ _⟩
    · rw [if_neg h4] at he; cases he
theorem rf_add (h : Rf w0 W rb es is E M v) (m : ByteArray) (s lv : Int) (hs : -9223372036854775808 ≤ s ∧ s ≤ 9223372036854775807) : Calls Tryz.prog 37 #[pt rb, .string m, .int .i64 s, .int .i64 lv] W (RPost w0 rb (addL es m s lv) (addI es m s lv E M is) E M (.tuple #[.bool (addR es m lv).1, .int .i64 (addR es m lv).2]) W) := by
  unfold addL addI addR
  cases he : addNo es m lv with
  | some e => exact rf_add_no h m s lv e he
  | none =>
    dsimp only
    cases hl : lookE es m with
    | none => exact rf_add_none h m s lv hs he hl _ rfl
    | some so => exact rf_add_some h m s lv hs he so hl _ rfl
theorem clampN_eq (n : Nat) (i : Int) : max 0 (min i (n : Int)) = ((clampN n i : Nat) : Int) := by unfold clampN; omega
set_option maxRecDepth 100000 in
set_option maxHeartbeats 4000000 in
theorem rf_cut (h : Rf w0 W rb es is E M v) (i j : Int) : Calls Tryz.prog 39 #[pt rb, .int .i64 i, .int .i64 j] W (RPost w0 rb (cutL es (clampN es.length i) (cutN es.length i j)) is E M (.int .i64 (cutN es.length i j : Int)) W) := by
  obtain ⟨i0, hi0, hz0, hz1, hz2⟩ := info_parts ent_info
  have HH := Lib.hid h
  have hn4 := h.ok.n
  have hzc := h.ok.cut (clampN es.length i) (cutN es.length i j)
  obtain ⟨c0, _, _, _, l0, f0, _⟩ := h.cells
  have hr := h.own.r
  obtain ⟨p, c, hv, h1, h2⟩ := h.val
  subst hv
  have e1 := clampN_eq es.length i
  have hc1 : clampN es.length i ≤ es.length := Nat.min_le_right _ _
  have hc2 : clampN es.length j ≤ es.length := Nat.min_le_right _ _
  have e2 : max ((clampN es.length i : Nat) : Int) (min j (es.length : Int)) = ((max (clampN es.length i) (clampN es.length j) : Nat) : Int) := by unfold clampN; omega
  unfold cutN cutL at *
  generalize clampN es.length i = f at *
  have ht2 : max f (clampN es.length j) ≤ es.length := by omega
  have ht1 : f ≤ max f (clampN es.length j) := by omega
  generalize max f (clampN es.length j) = t at *
  have x1 : (f : Int) ≤ (t : Int) := by omega
  have x2 : (t : Int) ≤ (es.length : Int) := by omega
  have x3 : (es.length : Int) ≤ (c : Int) := by omega
  have x4 : (es.length : Int) ≤ 400 := by omega
  have hA := (hr.take (k := f) (by omega) ⟨by omega, h2⟩).read
  have hB1 := fun A hA c' hc => (hr.drop (k := t) ht2 rfl A hA c' hc).read
  have m1 : 0 + f ≤ maxLen := by unfold maxLen; omega
  have m2 : (0 + f) * 24 ≤ 140737488355328 := by omega
  have m3 : 0 + f + (es.length - t) ≤ maxLen := by unfold maxLen; omega
  have m4 : (0 + f + (es.length - t)) * 24 ≤ 140737488355328 := by omega
  have hft : f + (t - f) = t := by omega
  rw [hft] at hzc ⊢
  have hfin : ∀ (v2 : Value) (w2 : World), w2.ownsRow W.heap.size 54 2 v2 (0 + f + (es.length - t)) ([] ++ (es.take f).flatMap En.cells ++ (es.drop t).flatMap En.cells) → Ents w2 W.heap.size v2 (es.take f ++ es.drop t) := fun v2 w2 h => Ents.mk h (by rw [List.length_append, List.length_take, List.length_drop]; omega) (by rw [List.nil_append, List.flatMap_append])
  replace hfin := Lib.hid hfin
  unfold maxLen at h2
  clear h hr hft hc2
  unfold pt
  by_cases hcap : c = t
  · have e0 : es.length - t = 0 := by omega
    have hB2 := hB1 p (fun h => by omega) 0 ⟨by omega, Nat.zero_le _⟩
    subst hcap
    rw [e0] at hB2 hfin m3 m4
    clear hB1
    go_enter Tryz.func39, Tryz.ntmps39
    go_wp2_with (first
      | (at_builtin; refine wpList_append_any _ rfl (.tmp 25) (.tmp 31) 43 rfl W.heap.size 54 i0 _ 2 24 Tryz.underlying43 hi0 hz0 hz1 hz2 rfl (by omega) _ 0 [] rfl (World.ownsRow_nil W W.heap.size _ 2) W.heap.size p f _ _ rfl hA (ents_one _) m1 m2 (Nat.le_refl _) ?_; intro v1 w1 hown1 hg1 _; have hC1 : Chg (fun _ => False) W w1 := Chg.of_grown hg1 (fun g h => by cases h); obtain ⟨d0, _, _, _, dl, df, _⟩ := (HH.out.chg0 hC1).cells)
      | (at_builtin; refine wpList_append_any _ rfl (.tmp 34) (.tmp 40) 43 rfl W.heap.size 54 i0 _ 2 24 Tryz.underlying43 hi0 hz0 hz1 hz2 rfl (by omega) _ (0 + f) _ rfl hown1 W.heap.size p 0 _ _ rfl (hB2.chg hC1 (Nat.le_refl _) fun _ _ => id) (ents_one _) m3 m4 hC1.size ?_; intro v2 w2 hown2 hg2 _; have hC2 : Chg (fun _ => False) W w2 := hC1.trans' (app_chg hown1 hg2) (fun g hl h => by omega); have hv2 := hfin.out v2 w2 hown2; obtain ⟨p2, q2, hv2e, _, _, _⟩ := hv2.is; generalize (es.take f ++ es.drop c).length = n2 at hv2e; subst hv2e; obtain ⟨y0, _, _, _, yl, yf, _⟩ := (HH.out.chg0 hC2).cells)
      | fail)
    go_ret
    obtain ⟨hR, hc⟩ := HH.out.store hC2 hv2 hzc
    exact ⟨ret_int' (by omega), _, hR, hc⟩
  · have hB2 := hB1 _ (fun _ => rfl) (c - t) ⟨by omega, by unfold maxLen; omega⟩
    clear hB1
    go_enter Tryz.func39, Tryz.ntmps39
    go_wp2_with (first
      | (at_builtin; refine wpList_append_any _ rfl (.tmp 25) (.tmp 31) 43 rfl W.heap.size 54 i0 _ 2 24 Tryz.underlying43 hi0 hz0 hz1 hz2 rfl (by omega) _ 0 [] rfl (World.ownsRow_nil W W.heap.size _ 2) W.heap.size p f _ _ rfl hA (ents_one _) m1 m2 (Nat.le_refl _) ?_; intro v1 w1 hown1 hg1 _; have hC1 : Chg (fun _ => False) W w1 := Chg.of_grown hg1 (fun g h => by cases h); obtain ⟨d0, _, _, _, dl, df, _⟩ := (HH.out.chg0 hC1).cells)
      | (at_builtin; refine wpList_append_any _ rfl (.tmp 34) (.tmp 40) 43 rfl W.heap.size 54 i0 _ 2 24 Tryz.underlying43 hi0 hz0 hz1 hz2 rfl (by omega) _ (0 + f) _ rfl hown1 W.heap.size (p.map fun x => x.add (t * 2)) (es.length - t) _ _ rfl (hB2.chg hC1 (Nat.le_refl _) fun _ _ => id) (ents_one _) m3 m4 hC1.size ?_; intro v2 w2 hown2 hg2 _; have hC2 : Chg (fun _ => False) W w2 := hC1.trans' (app_chg hown1 hg2) (fun g hl h => by omega); have hv2 := hfin.out v2 w2 hown2; obtain ⟨p2, q2, hv2e, _, _, _⟩ := hv2.is; generalize (es.take f ++ es.drop t).length = n2 at hv2e; subst hv2e; obtain ⟨y0, _, _, _, yl, yf, _⟩ := (HH.out.chg0 hC2).cells)
      | fail)
    go_ret
    obtain ⟨hR, hc⟩ := HH.out.store hC2 hv2 hzc
    exact ⟨ret_int' (by omega), _, hR, hc⟩
end
end Go.Proofs.YtifcpippfiglkaaGreat

/- did: an act, on a set and on the document's. -/
namespace Go.Proofs.YtifcpippfiglkaaGreat
open Go.RowKit Pal
attribute [local go_sem] Oper.semAt_some

structure SR (w0 W : World) (b : Nat) (z : Zs) (rb : Nat) (v : Value) (es es2 : List En) (is is2 : Bool) (E M : Nat) : Prop where
  s : Ow w0 W b z es is E M
  r : Rf w0 W rb es2 is2 E M v
section
variable {w0 W W' : World} {b rb : Nat} {z z' : Zs} {v v' : Value} {es es2 es' : List En} {is is2 is' : Bool} {E M : Nat}
theorem SR.no (h : SR w0 W b z rb v es es2 is is2 E M) : ¬ z.foot rb ∧ ∀ g, v.ownBlock = some g → ¬ z.foot g := by
  constructor
  · intro hf
    obtain ⟨t, cs, hb, ht⟩ := zs_ty h.s.at_ hf
    refine h.r.b.ne_type hb ?_ rfl
    rcases ht with rfl | rfl | rfl | rfl | rfl | rfl | rfl | rfl <;> decide
  · intro g hg hf
    obtain ⟨t, cs, hb, ht⟩ := zs_ty h.s.at_ hf
    exact hb.not_own h.r.own (by rcases ht with rfl | rfl | rfl | rfl | rfl | rfl | rfl | rfl <;> decide) hg
theorem SR.chg0 (h : SR w0 W b z rb v es es2 is is2 E M) (hc : Chg (fun _ => False) W W') : SR w0 W' b z rb v es es2 is is2 E M := ⟨h.s.chg0 hc, h.r.chg0 hc⟩
theorem SR.one (h : SR w0 W b z rb v es es2 is is2 E M) (h' : Ow w0 W' b z' es' is' E M) (hn : Nz z z' W W') : SR w0 W' b z' rb v es' es2 is' is2 E M :=
  ⟨h', h.r.keep hn.chg h.no.1 h.no.2⟩
theorem SR.two (h : SR w0 W b z rb v es es2 is is2 E M) (h' : Rf w0 W' rb es' is' E M v') (hc : Chg (fun g => g = rb) W W') : SR w0 W' b z rb v' es es' is is' E M :=
  ⟨h.s.keep hc (fun g hg e => h.no.1 (e ▸ hg)) (fun g e => e ▸ h.r.ge), h'⟩
def DidPost (w0 W : World) (z0 : Zs) (b rb E M : Nat) (r : Ending) (W' : World) : Prop := r = .returned (.bool true) ∧ (∃ z v es is, SR w0 W' b z rb v es es is is E M) ∧ Chg (fun g => z0.foot g ∨ g = rb) W W'
set_option maxRecDepth 100000 in
set_option maxHeartbeats 8000000 in
theorem did11_any (h : SR w0 W b z rb v es es is is E M) (x : Act6) (hx : x.Ok) : Calls Tryz.prog 18 #[pt b, pt rb, .agg #[.int .i64 x.Do, .string x.M, .int .i64 x.S, .int .i64 x.L, .int .i64 x.F, .int .i64 x.T]] W (DidPost w0 W z b rb E M) := by
  have HS := Lib.hid h
  have hks : (cutS x.M 70).size ≤ 9223372036854775807 := Nat.le_trans (cutS_size _ _) hx.m
  have hna := fun W => name_any x.M W hx.m
  have wS := bounds_i64 hx.s
  generalize cutS x.M 70 = m at *
  obtain ⟨r, hr, hcase⟩ := mod8 x.Do
  have hza := fun W z (h : Ow w0 W b z es is E M) => ow_add h m x.S x.L hks wS
  have hra := fun W v (h : Rf w0 W rb es is E M v) => rf_add h m x.S x.L wS
  have hzr := fun W z (h : Ow w0 W b z es is E M) => ow_remove h m hks
  have hrr := fun W v (h : Rf w0 W rb es is E M v) => rf_remove h m
  have hzc := fun W z (h : Ow w0 W b z es is E M) => ow_cut h x.F x.T
  have hrc := fun W v (h : Rf w0 W rb es is E M v) => rf_cut h x.F x.T
  unfold RPost at hra hrr hrc
  unfold pt at *
  have hb1 := Blk.new W 30 #[.int .i64 x.Do, .string x.M, .int .i64 x.S, .int .i64 x.L, .int .i64 x.F, .int .i64 x.T]
  have hcl : ∀ W', Blk W' W.heap.size 30 #[.int .i64 x.Do, .string x.M, .int .i64 x.S, .int .i64 x.L, .int .i64 x.F, .int .i64 x.T] → W'.cell? ⟨W.heap.size, 1, none⟩ = some (.string x.M) ∧ W'.cell? ⟨W.heap.size, 2, none⟩ = some (.int .i64 x.S) ∧ W'.cell? ⟨W.heap.size, 3, none⟩ = some (.int .i64 x.L) ∧ W'.cell? ⟨W.heap.size, 4, none⟩ = some (.int .i64 x.F) ∧ W'.cell? ⟨W.heap.size, 5, none⟩ = some (.int .i64 x.T) := fun W' h => ⟨by have := h.cell 1; simpa using this, by have := h.cell 2; simpa using this, by have := h.cell 3; simpa using this, by have := h.cell 4; simpa using this, by have := h.cell 5; simpa using this⟩
  generalize (addR es m x.L).1 = rA at hza hra
  generalize (addR es m x.L).2 = rE at hza hra
  generalize addL es m x.S x.L = esA at hza hra
  generalize addI es m x.S x.L E M is = isA at hza hra
  generalize cutN es.length x.F x.T = cn at hzc hrc
  clear h hx wS
  rcases hcase with rfl | rfl | rfl | rfl | rfl | rfl | rfl | rfl
  · go_enter Tryz.func18, Tryz.ntmps18
    go_wp2_with fail
    go_region_held3 (fun W' => W'.cell? ⟨W.heap.size, 1, none⟩ = some (.string x.M) ∧ W'.cell? ⟨W.heap.size, 2, none⟩ = some (.int .i64 x.S) ∧ W'.cell? ⟨W.heap.size, 3, none⟩ = some (.int .i64 x.L) ∧ W'.cell? ⟨W.heap.size, 4, none⟩ = some (.int .i64 x.F) ∧ W'.cell? ⟨W.heap.size, 5, none⟩ = some (.int .i64 x.T)) (first | exact hcl _ hb1.drew | exact hcl _ hb3 | fail) (first | (go_at_call 12; refine (hna _).mono ?_; rintro r9 w9 ⟨rfl, rfl⟩) | (go_at_call 13; refine (hza _ _ (HS.out.chg0 ((Chg.refl (fun _ => False) W).alloc (.cells #[.int .i64 x.Do, .string x.M, .int .i64 x.S, .int .i64 x.L, .int .i64 x.F, .int .i64 x.T] 30)).drew).s).mono ?_; rintro r9 w3 ⟨rfl, z3, k3, n3⟩; have hS3 := (HS.out.chg0 ((Chg.refl (fun _ => False) W).alloc (.cells #[.int .i64 x.Do, .string x.M, .int .i64 x.S, .int .i64 x.L, .int .i64 x.F, .int .i64 x.T] 30)).drew).one k3 n3; have hb3 := hb1.drew.chg n3.chg (fun hf => by have := (HS.out.s.lt hf).2; omega)) | fail)
    go_wp2_with fail
    go_region_held3 (fun W' => W'.cell? ⟨W.heap.size, 1, none⟩ = some (.string x.M) ∧ W'.cell? ⟨W.heap.size, 2, none⟩ = some (.int .i64 x.S) ∧ W'.cell? ⟨W.heap.size, 3, none⟩ = some (.int .i64 x.L) ∧ W'.cell? ⟨W.heap.size, 4, none⟩ = some (.int .i64 x.F) ∧ W'.cell? ⟨W.heap.size, 5, none⟩ = some (.int .i64 x.T)) (first | exact hcl _ hb3.drew | exact hcl _ hb4 | fail) (first | (go_at_call 12; refine (hna _).mono ?_; rintro r9 w9 ⟨rfl, rfl⟩) | (go_at_call 37; refine (hra _ _ (hS3.chg0 (Chg.refl _ _).drew).r).mono ?_; rintro r9 w4 ⟨rfl, v4, k4, n4⟩; have hS4 := (hS3.chg0 (Chg.refl _ _).drew).two k4 n4; have hb4 := hb3.drew.chg n4 (fun e => by have := HS.out.r.b.lt; omega)) | fail)
    go_wp2_with fail
    go_ret
    refine ⟨by simp, ⟨_, _, _, _, hS4⟩, ?_⟩
    have hcz := (((Chg.refl (fun _ => False) W).alloc (.cells #[.int .i64 x.Do, .string x.M, .int .i64 x.S, .int .i64 x.L, .int .i64 x.F, .int .i64 x.T] 30)).drew.mono (S' := fun g => z.foot g ∨ g = rb) (fun _ _ h => h.elim)).trans (n3.chg.mono fun _ _ h => .inl h)
    first | exact hcz.trans (n4.mono fun _ _ h => .inr h) | exact (hcz.trans (Chg.refl _ _).drew).trans (n4.mono fun _ _ h => .inr h)

  · go_enter Tryz.func18, Tryz.ntmps18
    go_wp2_with fail
    go_region_held3 (fun W' => W'.cell? ⟨W.heap.size, 1, none⟩ = some (.string x.M) ∧ W'.cell? ⟨W.heap.size, 2, none⟩ = some (.int .i64 x.S) ∧ W'.cell? ⟨W.heap.size, 3, none⟩ = some (.int .i64 x.L) ∧ W'.cell? ⟨W.heap.size, 4, none⟩ = some (.int .i64 x.F) ∧ W'.cell? ⟨W.heap.size, 5, none⟩ = some (.int .i64 x.T)) (first | exact hcl _ hb1.drew | exact hcl _ hb3 | fail) (first | (go_at_call 12; refine (hna _).mono ?_; rintro r9 w9 ⟨rfl, rfl⟩) | (go_at_call 13; refine (hza _ _ (HS.out.chg0 ((Chg.refl (fun _ => False) W).alloc (.cells #[.int .i64 x.Do, .string x.M, .int .i64 x.S, .int .i64 x.L, .int .i64 x.F, .int .i64 x.T] 30)).drew).s).mono ?_; rintro r9 w3 ⟨rfl, z3, k3, n3⟩; have hS3 := (HS.out.chg0 ((Chg.refl (fun _ => False) W).alloc (.cells #[.int .i64 x.Do, .string x.M, .int .i64 x.S, .int .i64 x.L, .int .i64 x.F, .int .i64 x.T] 30)).drew).one k3 n3; have hb3 := hb1.drew.chg n3.chg (fun hf => by have := (HS.out.s.lt hf).2; omega)) | fail)
    go_wp2_with fail
    go_region_held3 (fun W' => W'.cell? ⟨W.heap.size, 1, none⟩ = some (.string x.M) ∧ W'.cell? ⟨W.heap.size, 2, none⟩ = some (.int .i64 x.S) ∧ W'.cell? ⟨W.heap.size, 3, none⟩ = some (.int .i64 x.L) ∧ W'.cell? ⟨W.heap.size, 4, none⟩ = some (.int .i64 x.F) ∧ W'.cell? ⟨W.heap.size, 5, none⟩ = some (.int .i64 x.T)) (first | exact hcl _ hb3.drew | exact hcl _ hb4 | fail) (first | (go_at_call 12; refine (hna _).mono ?_; rintro r9 w9 ⟨rfl, rfl⟩) | (go_at_call 37; refine (hra _ _ (hS3.chg0 (Chg.refl _ _).drew).r).mono ?_; rintro r9 w4 ⟨rfl, v4, k4, n4⟩; have hS4 := (hS3.chg0 (Chg.refl _ _).drew).two k4 n4; have hb4 := hb3.drew.chg n4 (fun e => by have := HS.out.r.b.lt; omega)) | fail)
    go_wp2_with fail
    go_ret
    refine ⟨by simp, ⟨_, _, _, _, hS4⟩, ?_⟩
    have hcz := (((Chg.refl (fun _ => False) W).alloc (.cells #[.int .i64 x.Do, .string x.M, .int .i64 x.S, .int .i64 x.L, .int .i64 x.F, .int .i64 x.T] 30)).drew.mono (S' := fun g => z.foot g ∨ g = rb) (fun _ _ h => h.elim)).trans (n3.chg.mono fun _ _ h => .inl h)
    first | exact hcz.trans (n4.mono fun _ _ h => .inr h) | exact (hcz.trans (Chg.refl _ _).drew).trans (n4.mono fun _ _ h => .inr h)

  · go_enter Tryz.func18, Tryz.ntmps18
    go_wp2_with fail
    go_region_held3 (fun W' => W'.cell? ⟨W.heap.size, 1, none⟩ = some (.string x.M) ∧ W'.cell? ⟨W.heap.size, 2, none⟩ = some (.int .i64 x.S) ∧ W'.cell? ⟨W.heap.size, 3, none⟩ = some (.int .i64 x.L) ∧ W'.cell? ⟨W.heap.size, 4, none⟩ = some (.int .i64 x.F) ∧ W'.cell? ⟨W.heap.size, 5, none⟩ = some (.int .i64 x.T)) (first | exact hcl _ hb1.drew | exact hcl _ hb3 | fail) (first | (go_at_call 12; refine (hna _).mono ?_; rintro r9 w9 ⟨rfl, rfl⟩) | (go_at_call 13; refine (hza _ _ (HS.out.chg0 ((Chg.refl (fun _ => False) W).alloc (.cells #[.int .i64 x.Do, .string x.M, .int .i64 x.S, .int .i64 x.L, .int .i64 x.F, .int .i64 x.T] 30)).drew).s).mono ?_; rintro r9 w3 ⟨rfl, z3, k3, n3⟩; have hS3 := (HS.out.chg0 ((Chg.refl (fun _ => False) W).alloc (.cells #[.int .i64 x.Do, .string x.M, .int .i64 x.S, .int .i64 x.L, .int .i64 x.F, .int .i64 x.T] 30)).drew).one k3 n3; have hb3 := hb1.drew.chg n3.chg (fun hf => by have := (HS.out.s.lt hf).2; omega)) | fail)
    go_wp2_with fail
    go_region_held3 (fun W' => W'.cell? ⟨W.heap.size, 1, none⟩ = some (.string x.M) ∧ W'.cell? ⟨W.heap.size, 2, none⟩ = some (.int .i64 x.S) ∧ W'.cell? ⟨W.heap.size, 3, none⟩ = some (.int .i64 x.L) ∧ W'.cell? ⟨W.heap.size, 4, none⟩ = some (.int .i64 x.F) ∧ W'.cell? ⟨W.heap.size, 5, none⟩ = some (.int .i64 x.T)) (first | exact hcl _ hb3.drew | exact hcl _ hb4 | fail) (first | (go_at_call 12; refine (hna _).mono ?_; rintro r9 w9 ⟨rfl, rfl⟩) | (go_at_call 37; refine (hra _ _ (hS3.chg0 (Chg.refl _ _).drew).r).mono ?_; rintro r9 w4 ⟨rfl, v4, k4, n4⟩; have hS4 := (hS3.chg0 (Chg.refl _ _).drew).two k4 n4; have hb4 := hb3.drew.chg n4 (fun e => by have := HS.out.r.b.lt; omega)) | fail)
    go_wp2_with fail
    go_ret
    refine ⟨by simp, ⟨_, _, _, _, hS4⟩, ?_⟩
    have hcz := (((Chg.refl (fun _ => False) W).alloc (.cells #[.int .i64 x.Do, .string x.M, .int .i64 x.S, .int .i64 x.L, .int .i64 x.F, .int .i64 x.T] 30)).drew.mono (S' := fun g => z.foot g ∨ g = rb) (fun _ _ h => h.elim)).trans (n3.chg.mono fun _ _ h => .inl h)
    first | exact hcz.trans (n4.mono fun _ _ h => .inr h) | exact (hcz.trans (Chg.refl _ _).drew).trans (n4.mono fun _ _ h => .inr h)

  · go_enter Tryz.func18, Tryz.ntmps18
    go_wp2_with fail
    go_region_held3 (fun W' => W'.cell? ⟨W.heap.size, 1, none⟩ = some (.string x.M) ∧ W'.cell? ⟨W.heap.size, 2, none⟩ = some (.int .i64 x.S) ∧ W'.cell? ⟨W.heap.size, 3, none⟩ = some (.int .i64 x.L) ∧ W'.cell? ⟨W.heap.size, 4, none⟩ = some (.int .i64 x.F) ∧ W'.cell? ⟨W.heap.size, 5, none⟩ = some (.int .i64 x.T)) (first | exact hcl _ hb1.drew | exact hcl _ hb3 | fail) (first | (go_at_call 12; refine (hna _).mono ?_; rintro r9 w9 ⟨rfl, rfl⟩) | (go_at_call 13; refine (hza _ _ (HS.out.chg0 ((Chg.refl (fun _ => False) W).alloc (.cells #[.int .i64 x.Do, .string x.M, .int .i64 x.S, .int .i64 x.L, .int .i64 x.F, .int .i64 x.T] 30)).drew).s).mono ?_; rintro r9 w3 ⟨rfl, z3, k3, n3⟩; have hS3 := (HS.out.chg0 ((Chg.refl (fun _ => False) W).alloc (.cells #[.int .i64 x.Do, .string x.M, .int .i64 x.S, .int .i64 x.L, .int .i64 x.F, .int .i64 x.T] 30)).drew).one k3 n3; have hb3 := hb1.drew.chg n3.chg (fun hf => by have := (HS.out.s.lt hf).2; omega)) | fail)
    go_wp2_with fail
    go_region_held3 (fun W' => W'.cell? ⟨W.heap.size, 1, none⟩ = some (.string x.M) ∧ W'.cell? ⟨W.heap.size, 2, none⟩ = some (.int .i64 x.S) ∧ W'.cell? ⟨W.heap.size, 3, none⟩ = some (.int .i64 x.L) ∧ W'.cell? ⟨W.heap.size, 4, none⟩ = some (.int .i64 x.F) ∧ W'.cell? ⟨W.heap.size, 5, none⟩ = some (.int .i64 x.T)) (first | exact hcl _ hb3.drew | exact hcl _ hb4 | fail) (first | (go_at_call 12; refine (hna _).mono ?_; rintro r9 w9 ⟨rfl, rfl⟩) | (go_at_call 37; refine (hra _ _ (hS3.chg0 (Chg.refl _ _).drew).r).mono ?_; rintro r9 w4 ⟨rfl, v4, k4, n4⟩; have hS4 := (hS3.chg0 (Chg.refl _ _).drew).two k4 n4; have hb4 := hb3.drew.chg n4 (fun e => by have := HS.out.r.b.lt; omega)) | fail)
    go_wp2_with fail
    go_ret
    refine ⟨by simp, ⟨_, _, _, _, hS4⟩, ?_⟩
    have hcz := (((Chg.refl (fun _ => False) W).alloc (.cells #[.int .i64 x.Do, .string x.M, .int .i64 x.S, .int .i64 x.L, .int .i64 x.F, .int .i64 x.T] 30)).drew.mono (S' := fun g => z.foot g ∨ g = rb) (fun _ _ h => h.elim)).trans (n3.chg.mono fun _ _ h => .inl h)
    first | exact hcz.trans (n4.mono fun _ _ h => .inr h) | exact (hcz.trans (Chg.refl _ _).drew).trans (n4.mono fun _ _ h => .inr h)

  · go_enter Tryz.func18, Tryz.ntmps18
    go_wp2_with fail
    go_region_held3 (fun W' => W'.cell? ⟨W.heap.size, 1, none⟩ = some (.string x.M) ∧ W'.cell? ⟨W.heap.size, 2, none⟩ = some (.int .i64 x.S) ∧ W'.cell? ⟨W.heap.size, 3, none⟩ = some (.int .i64 x.L) ∧ W'.cell? ⟨W.heap.size, 4, none⟩ = some (.int .i64 x.F) ∧ W'.cell? ⟨W.heap.size, 5, none⟩ = some (.int .i64 x.T)) (first | exact hcl _ hb1.drew | exact hcl _ hb3 | fail) (first | (go_at_call 12; refine (hna _).mono ?_; rintro r9 w9 ⟨rfl, rfl⟩) | (go_at_call 13; refine (hza _ _ (HS.out.chg0 ((Chg.refl (fun _ => False) W).alloc (.cells #[.int .i64 x.Do, .string x.M, .int .i64 x.S, .int .i64 x.L, .int .i64 x.F, .int .i64 x.T] 30)).drew).s).mono ?_; rintro r9 w3 ⟨rfl, z3, k3, n3⟩; have hS3 := (HS.out.chg0 ((Chg.refl (fun _ => False) W).alloc (.cells #[.int .i64 x.Do, .string x.M, .int .i64 x.S, .int .i64 x.L, .int .i64 x.F, .int .i64 x.T] 30)).drew).one k3 n3; have hb3 := hb1.drew.chg n3.chg (fun hf => by have := (HS.out.s.lt hf).2; omega)) | fail)
    go_wp2_with fail
    go_region_held3 (fun W' => W'.cell? ⟨W.heap.size, 1, none⟩ = some (.string x.M) ∧ W'.cell? ⟨W.heap.size, 2, none⟩ = some (.int .i64 x.S) ∧ W'.cell? ⟨W.heap.size, 3, none⟩ = some (.int .i64 x.L) ∧ W'.cell? ⟨W.heap.size, 4, none⟩ = some (.int .i64 x.F) ∧ W'.cell? ⟨W.heap.size, 5, none⟩ = some (.int .i64 x.T)) (first | exact hcl _ hb3.drew | exact hcl _ hb4 | fail) (first | (go_at_call 12; refine (hna _).mono ?_; rintro r9 w9 ⟨rfl, rfl⟩) | (go_at_call 37; refine (hra _ _ (hS3.chg0 (Chg.refl _ _).drew).r).mono ?_; rintro r9 w4 ⟨rfl, v4, k4, n4⟩; have hS4 := (hS3.chg0 (Chg.refl _ _).drew).two k4 n4; have hb4 := hb3.drew.chg n4 (fun e => by have := HS.out.r.b.lt; omega)) | fail)
    go_wp2_with fail
    go_ret
    refine ⟨by simp, ⟨_, _, _, _, hS4⟩, ?_⟩
    have hcz := (((Chg.refl (fun _ => False) W).alloc (.cells #[.int .i64 x.Do, .string x.M, .int .i64 x.S, .int .i64 x.L, .int .i64 x.F, .int .i64 x.T] 30)).drew.mono (S' := fun g => z.foot g ∨ g = rb) (fun _ _ h => h.elim)).trans (n3.chg.mono fun _ _ h => .inl h)
    first | exact hcz.trans (n4.mono fun _ _ h => .inr h) | exact (hcz.trans (Chg.refl _ _).drew).trans (n4.mono fun _ _ h => .inr h)

  · go_enter Tryz.func18, Tryz.ntmps18
    go_wp2_with fail
    go_region_held3 (fun W' => W'.cell? ⟨W.heap.size, 1, none⟩ = some (.string x.M) ∧ W'.cell? ⟨W.heap.size, 2, none⟩ = some (.int .i64 x.S) ∧ W'.cell? ⟨W.heap.size, 3, none⟩ = some (.int .i64 x.L) ∧ W'.cell? ⟨W.heap.size, 4, none⟩ = some (.int .i64 x.F) ∧ W'.cell? ⟨W.heap.size, 5, none⟩ = some (.int .i64 x.T)) (first | exact hcl _ hb1.drew | exact hcl _ hb3 | exact hcl _ hb4 | fail) (first | (go_at_call 12; refine (hna _).mono ?_; rintro r9 w9 ⟨rfl, rfl⟩) | (go_at_call 38; refine (hrr _ _ (hS3).r).mono ?_; rintro r9 w4 ⟨rfl, v4, k4, n4⟩; have hS4 := (hS3).two k4 n4; have hb4 := hb3.chg n4 (fun e => by have := HS.out.r.b.lt; omega)) | (go_at_call 14; refine (hzr _ _ (HS.out.chg0 ((Chg.refl (fun _ => False) W).alloc (.cells #[.int .i64 x.Do, .string x.M, .int .i64 x.S, .int .i64 x.L, .int .i64 x.F, .int .i64 x.T] 30)).drew).s).mono ?_; rintro r9 w3 ⟨rfl, z3, k3, n3⟩; have hS3 := (HS.out.chg0 ((Chg.refl (fun _ => False) W).alloc (.cells #[.int .i64 x.Do, .string x.M, .int .i64 x.S, .int .i64 x.L, .int .i64 x.F, .int .i64 x.T] 30)).drew).one k3 n3; have hb3 := hb1.drew.chg n3.chg (fun hf => by have := (HS.out.s.lt hf).2; omega)) | fail)
    go_wp2_with fail
    go_ret
    refine ⟨by simp, ⟨_, _, _, _, hS4⟩, ?_⟩
    have hcz := (((Chg.refl (fun _ => False) W).alloc (.cells #[.int .i64 x.Do, .string x.M, .int .i64 x.S, .int .i64 x.L, .int .i64 x.F, .int .i64 x.T] 30)).drew.mono (S' := fun g => z.foot g ∨ g = rb) (fun _ _ h => h.elim)).trans (n3.chg.mono fun _ _ h => .inl h)
    first | exact hcz.trans (n4.mono fun _ _ h => .inr h) | exact (hcz.trans (Chg.refl _ _).drew).trans (n4.mono fun _ _ h => .inr h)

  · go_enter Tryz.func18, Tryz.ntmps18
    go_wp2_with fail
    go_region_held3 (fun W' => W'.cell? ⟨W.heap.size, 1, none⟩ = some (.string x.M) ∧ W'.cell? ⟨W.heap.size, 2, none⟩ = some (.int .i64 x.S) ∧ W'.cell? ⟨W.heap.size, 3, none⟩ = some (.int .i64 x.L) ∧ W'.cell? ⟨W.heap.size, 4, none⟩ = some (.int .i64 x.F) ∧ W'.cell? ⟨W.heap.size, 5, none⟩ = some (.int .i64 x.T)) (first | exact hcl _ hb1.drew | exact hcl _ hb3 | exact hcl _ hb4 | fail) (first | (go_at_call 12; refine (hna _).mono ?_; rintro r9 w9 ⟨rfl, rfl⟩) | (go_at_call 38; refine (hrr _ _ (hS3).r).mono ?_; rintro r9 w4 ⟨rfl, v4, k4, n4⟩; have hS4 := (hS3).two k4 n4; have hb4 := hb3.chg n4 (fun e => by have := HS.out.r.b.lt; omega)) | (go_at_call 14; refine (hzr _ _ (HS.out.chg0 ((Chg.refl (fun _ => False) W).alloc (.cells #[.int .i64 x.Do, .string x.M, .int .i64 x.S, .int .i64 x.L, .int .i64 x.F, .int .i64 x.T] 30)).drew).s).mono ?_; rintro r9 w3 ⟨rfl, z3, k3, n3⟩; have hS3 := (HS.out.chg0 ((Chg.refl (fun _ => False) W).alloc (.cells #[.int .i64 x.Do, .string x.M, .int .i64 x.S, .int .i64 x.L, .int .i64 x.F, .int .i64 x.T] 30)).drew).one k3 n3; have hb3 := hb1.drew.chg n3.chg (fun hf => by have := (HS.out.s.lt hf).2; omega)) | fail)
    go_wp2_with fail
    go_ret
    refine ⟨by simp, ⟨_, _, _, _, hS4⟩, ?_⟩
    have hcz := (((Chg.refl (fun _ => False) W).alloc (.cells #[.int .i64 x.Do, .string x.M, .int .i64 x.S, .int .i64 x.L, .int .i64 x.F, .int .i64 x.T] 30)).drew.mono (S' := fun g => z.foot g ∨ g = rb) (fun _ _ h => h.elim)).trans (n3.chg.mono fun _ _ h => .inl h)
    first | exact hcz.trans (n4.mono fun _ _ h => .inr h) | exact (hcz.trans (Chg.refl _ _).drew).trans (n4.mono fun _ _ h => .inr h)

  · go_enter Tryz.func18, Tryz.ntmps18
    go_wp2_with fail
    go_region_held3 (fun W' => W'.cell? ⟨W.heap.size, 1, none⟩ = some (.string x.M) ∧ W'.cell? ⟨W.heap.size, 2, none⟩ = some (.int .i64 x.S) ∧ W'.cell? ⟨W.heap.size, 3, none⟩ = some (.int .i64 x.L) ∧ W'.cell? ⟨W.heap.size, 4, none⟩ = some (.int .i64 x.F) ∧ W'.cell? ⟨W.heap.size, 5, none⟩ = some (.int .i64 x.T)) (first | exact hcl _ hb1.drew | exact hcl _ hb3 | exact hcl _ hb4 | fail) (first | (go_at_call 39; refine (hrc _ _ (hS3).r).mono ?_; rintro r9 w4 ⟨rfl, v4, k4, n4⟩; have hS4 := (hS3).two k4 n4; have hb4 := hb3.chg n4 (fun e => by have := HS.out.r.b.lt; omega)) | (go_at_call 28; refine (hzc _ _ (HS.out.chg0 ((Chg.refl (fun _ => False) W).alloc (.cells #[.int .i64 x.Do, .string x.M, .int .i64 x.S, .int .i64 x.L, .int .i64 x.F, .int .i64 x.T] 30)).drew).s).mono ?_; rintro r9 w3 ⟨rfl, z3, k3, n3⟩; have hS3 := (HS.out.chg0 ((Chg.refl (fun _ => False) W).alloc (.cells #[.int .i64 x.Do, .string x.M, .int .i64 x.S, .int .i64 x.L, .int .i64 x.F, .int .i64 x.T] 30)).drew).one k3 n3; have hb3 := hb1.drew.chg n3.chg (fun hf => by have := (HS.out.s.lt hf).2; omega)) | fail)
    go_wp2_with fail
    go_ret
    refine ⟨by simp, ⟨_, _, _, _, hS4⟩, ?_⟩
    have hcz := (((Chg.refl (fun _ => False) W).alloc (.cells #[.int .i64 x.Do, .string x.M, .int .i64 x.S, .int .i64 x.L, .int .i64 x.F, .int .i64 x.T] 30)).drew.mono (S' := fun g => z.foot g ∨ g = rb) (fun _ _ h => h.elim)).trans (n3.chg.mono fun _ _ h => .inl h)
    first | exact hcz.trans (n4.mono fun _ _ h => .inr h) | exact (hcz.trans (Chg.refl _ _).drew).trans (n4.mono fun _ _ h => .inr h)

end
end Go.Proofs.YtifcpippfiglkaaGreat

/- made: a set, and the document's, behind acts. -/
namespace Go.Proofs.YtifcpippfiglkaaGreat
open Go.RowKit Pal
attribute [local go_sem] Oper.semAt_some
theorem Ents.nz {W W' : World} {B base : Nat} {u : Value} {l es : List En} {z : Zs} (h : Ents W B u l) (hz : ZsAt W base z es) (hc : Chg z.foot W W') : Ents W' B u l := h.chg hc fun g hg hf => by
  obtain ⟨t, cs, hb, ht⟩ := zs_ty hz hf
  exact hb.not_own h (by rcases ht with rfl | rfl | rfl | rfl | rfl | rfl | rfl | rfl <;> decide) hg
def MadePost (w0 W' : World) (b rb E M : Nat) : Prop := ∃ z u es is, SR w0 W' b z rb u es es is is E M
def MInv (wb : World) (b rb E M n : Nat) (k : Nat) (iv : Value) (W : World) : Prop := ∃ (i : Nat) (z : Zs) (v : Value) (es : List En) (is : Bool), iv = .int .i64 (i : Int) ∧ k = min n 100 - i ∧ i ≤ min n 100 ∧ SR wb W b z rb v es es is is E M
set_option maxRecDepth 100000 in
set_option maxHeartbeats 4000000 in
theorem made11_any (A0 A1 : Int) (seed : Nat) (hs : seed < 4294967296) (v : Value) (n : Nat) (g : Nat → Act6) (w : World) (hv : ActsZ w v n g) :
    Calls Tryz.prog 29 #[.agg #[.int .i64 A0, .int .i64 A1], .int .u32 (seed : Int), v] w fun r w' => ∃ b rb, r = .returned (.tuple #[pt b, pt rb]) ∧ MadePost w w' b rb (clampL 200 A0) (clampL 64 A1) := by
  obtain ⟨wb, hwb⟩ : ∃ wb, wb = w.alloc (.cells #[.int .i64 A0, .int .i64 A1] 23) := ⟨_, rfl⟩
  have hCb := (Chg.refl (fun _ => False) w).alloc (.cells #[.int .i64 A0, .int .i64 A1] 23)
  have hx1 := Blk.new w 23 #[.int .i64 A0, .int .i64 A1]
  rw [← hwb] at hCb hx1
  have hg1 : ∀ W', Chg (fun _ => False) wb W' → W'.cell? ⟨w.heap.size, 0, none⟩ = some (.int .i64 A0) ∧ W'.cell? ⟨w.heap.size, 1, none⟩ = some (.int .i64 A1) ∧ w.heap.size < W'.heap.size := fun W' hc => ⟨by have := (hx1.chg hc id).cell 0; simpa using this, by have := (hx1.chg hc id).cell 1; simpa using this, (hx1.chg hc id).lt⟩
  have hn1 := ow_new hCb A0 A1 seed hs
  have hn2 := fun (W : World) (hc : Chg (fun _ => False) w W) => rf_new hc A0 A1
  generalize clampL 200 A0 = E at *
  generalize clampL 64 A1 = M at *
  unfold pt at hn1 hn2
  obtain ⟨x0, x1, x2⟩ := hg1 wb (Chg.refl _ _)
  clear hx1
  go_enter Tryz.func29, Tryz.ntmps29
  go_wp2_with (first | (go_at_call 11; rw [← hwb]; refine hn1.mono ?_; rintro r w2 ⟨b, z0, rfl, h0, hC2, _⟩; obtain ⟨y0, y1, y2⟩ := hg1 _ hC2) | (go_at_call 17; refine (hn2 _ h0.chg).mono ?_; rintro r w3 ⟨rb, rfl, k0, hC3, _⟩) | fail)
  have hT0 : SR w w3 b z0 rb (.slice none 0 0) [] [] false false E M := ⟨h0.chg0 hC3, k0⟩
  clear hn1 hn2 h0 k0 hC2 hC3 x0 x1 x2 y0 y1 y2 hg1 hwb hCb hs
  go_loopg [10] (min n 100) (MInv w b rb E M n)
  case atStart => exact ⟨0, z0, _, [], false, rfl, rfl, Nat.zero_le _, hT0⟩
  case round =>
    clear hT0
    obtain ⟨i, z, u, es, is, rfl, rfl, hi, hT⟩ := hrel
    obtain ⟨p, cap, rfl⟩ := hv.is
    have hle := hv.le
    by_cases hin : i < n
    · by_cases hi100 : i < 100
      · obtain ⟨gb, o, cap', heq, gl, hc6, hk6⟩ := (hv.chg hT.s.chg).at_ i hin
        injection heq with heq hx hcap
        subst heq hcap
        clear hx
        obtain ⟨q0, q1, q2, q3, q4, q5⟩ := hc6
        generalize g i = x at *
        have hd := did11_any hT x hk6
        have i1' : (i : Int) < (n : Int) := by omega
        have i2' : (i : Int) < 100 := by omega
        unfold DidPost at hd
        unfold pt at hd
        clear hk6 hle hT
        go_wp2_with (first | (go_at_call 18; refine hd.mono ?_; rintro r9 w9 ⟨rfl, ⟨z9, v9, es9, is9, hT9⟩, _⟩) | fail)
        go_roundg (min n 100 - (i + 1))
        case measure => omega
        case rel => exact ⟨i + 1, _, _, _, _, int_eq (by omega), rfl, by omega, hT9⟩
      · have i1' : (i : Int) < (n : Int) := by omega
        have i2' : ¬ (i : Int) < 100 := by omega
        go_wp2_with fail
        go_ret2
        exact ⟨b, rb, rfl, z, u, es, is, hT⟩
    · have i1' : ¬ (i : Int) < (n : Int) := by omega
      go_wp2_with fail
      go_ret2
      exact ⟨b, rb, rfl, z, u, es, is, hT⟩
theorem dropM_insE {l : List En} {e : En} (h : e.m ∉ l.map (·.m)) : dropM (insE l e) e.m = l := by
  have hn : ∀ x ∈ l, x.m ≠ e.m := fun x hx e2 => h (by rw [← e2]; exact List.mem_map.2 ⟨x, hx, rfl⟩)
  unfold insE dropM
  rw [List.filter_append, List.filter_cons_of_neg (by simp), filter_id fun x hx => decide_eq_true (hn x (List.mem_of_mem_take hx)), filter_id fun x hx => decide_eq_true (hn x (List.mem_of_mem_drop hx)), List.take_append_drop]
end Go.Proofs.YtifcpippfiglkaaGreat

/- palioref11: Range, Encoding, Bytes. -/
namespace Go.Proofs.YtifcpippfiglkaaGreat
open Go.RowKit Pal
attribute [local go_sem] Oper.semAt_some

section
variable {w0 W W' W1 : World} {rb : Nat} {es l1 : List En} {is : Bool} {E M : Nat} {v v1 : Value}
theorem rf_encoding (h : Rf w0 W rb es is E M v) : Calls Tryz.prog 22 #[pt rb] W fun r W' => r = .returned (.string (encZ is)) ∧ W = W' := by
  obtain ⟨_, _, _, c3, l0, _, _⟩ := h.cells
  unfold pt
  cases is
  · go_enter Tryz.func22, Tryz.ntmps22
    go_wp2_with fail
    go_ret
    exact ⟨rfl, rfl⟩
  · go_enter Tryz.func22, Tryz.ntmps22
    go_wp2_with fail
    go_ret
    exact ⟨rfl, rfl⟩
set_option maxRecDepth 100000 in
set_option maxHeartbeats 1000000 in
theorem rf_range (h : Rf w0 W rb es is E M v) (i j : Int) : Calls Tryz.prog 21 #[pt rb, .int .i64 i, .int .i64 j] W fun r W' => (∃ u, r = .returned u ∧ EntsR W u (sub es i j)) ∧ W = W' := by
  obtain ⟨c0, _, _, _, l0, _, _⟩ := h.cells
  have hr := h.own.r
  have hn4 := h.ok.n
  obtain ⟨p, c, hv, h1, h2⟩ := h.val
  subst hv
  have e1 := clampN_eq es.length i
  have hc1 : clampN es.length i ≤ es.length := Nat.min_le_right _ _
  have hc2 : clampN es.length j ≤ es.length := Nat.min_le_right _ _
  have e2 : max ((clampN es.length i : Nat) : Int) (min j (es.length : Int)) = ((max (clampN es.length i) (clampN es.length j) : Nat) : Int) := by unfold clampN; omega
  unfold sub
  generalize clampN es.length i = f at *
  have ht2 : max f (clampN es.length j) ≤ es.length := by omega
  have ht1 : f ≤ max f (clampN es.length j) := by omega
  generalize max f (clampN es.length j) = t at *
  have x1 : (f : Int) ≤ (t : Int) := by omega
  have x2 : (t : Int) ≤ (es.length : Int) := by omega
  have x3 : (es.length : Int) ≤ (c : Int) := by omega
  have x4 : (es.length : Int) ≤ 400 := by omega
  have h2' := h2
  unfold maxLen at h2'
  have hA := fun A hA c' hc' => hr.part ht1 ht2 A hA c' hc'
  unfold pt
  clear h hr hc2 hc1
  by_cases hcap : c = f
  · have hB := Lib.hid (hA p (fun h => by omega) 0 ⟨by omega, Nat.zero_le _⟩)
    have e0 : t - f = 0 := by omega
    have e3 : t = f := by omega
    subst e3
    subst hcap
    rw [Nat.sub_self] at hB
    clear hA e0
    go_enter Tryz.func21, Tryz.ntmps21
    go_wp2_with fail
    go_ret
    refine ⟨⟨_, rfl, ?_⟩, rfl⟩
    first | exact hB.out | (have := hB.out; simp at this ⊢; exact this)
  · have hB := Lib.hid (hA (p.map fun x => x.add (f * 2)) (fun _ => rfl) (c - f) ⟨by omega, by unfold maxLen; omega⟩)
    clear hA
    go_enter Tryz.func21, Tryz.ntmps21
    go_wp2_with fail
    go_ret
    exact ⟨⟨_, rfl, hB.out⟩, rfl⟩
def bytesR (is : Bool) (l : List En) : Nat := if is then 64 * l.length + 2 * sumM l else 2 + 10 * l.length + sumM l
theorem bytesR_eq (es : List En) (is : Bool) : bytesZ es is = bytesR is es := rfl
set_option maxRecDepth 100000 in
set_option maxHeartbeats 2000000 in
theorem rf_bytes (h : Rf w0 W rb es is E M v) : Calls Tryz.prog 24 #[pt rb] W fun r W' => r = .returned (.int .i64 (bytesZ es is : Int)) ∧ W = W' := by
  obtain ⟨c0, _, _, c3, l0, _, _⟩ := h.cells
  have hr := h.own.r
  have hn4 := h.ok.n
  have hm : ∀ e ∈ es, e.m.size ≤ 64 := fun e he => (h.ok.ok e he).1
  obtain ⟨p, c, hv, h1, h2⟩ := h.val
  subst hv
  have h4 : (es.length : Int) ≤ 400 := by omega
  rw [bytesR_eq]
  unfold pt
  clear h
  cases is
  · go_enter Tryz.func24, Tryz.ntmps24
    go_wp2_with fail
    go_loopg [3, 4] es.length (fun k a iv W' => ∃ i : Nat, iv = .int .i64 (i : Int) ∧ k = es.length - i ∧ i ≤ es.length ∧ W = W' ∧ ∃ n : Nat, a = .int .i64 (n : Int) ∧ Hid (n = bytesR false (es.take i)) ∧ n ≤ 100000 * i + 10)
    case atStart => exact ⟨0, rfl, rfl, Nat.zero_le _, rfl, _, rfl, rfl, by simp [bytesR, sumM]⟩
    case round =>
      obtain ⟨i, rfl, rfl, hi, rfl, n, rfl, hn, hnb⟩ := hrel
      by_cases hil : i < es.length
      · have h3 : (i : Int) < (es.length : Int) := by omega
        have hx := List.getElem?_eq_getElem hil
        generalize es[i] = e at hx
        have hst := sumM_take hx
        have hem := hm e (List.mem_of_getElem? hx)
        obtain ⟨b, o, c', he, k1, k2, k3, d0, d1⟩ := hr.at_ hx
        injection he with he1 he2 he3
        subst he1
        subst he3
        have b1 : (n : Int) ≤ 100000000 := by omega
        have b2 : (e.m.size : Int) ≤ 64 := by omega
        have hlt : (es.take (i + 1)).length = (es.take i).length + 1 := by rw [List.length_take, List.length_take]; omega
        have hst' := Lib.hid hst
        have hlt' := Lib.hid hlt
        clear hst hlt hx he2
        go_wp2_with fail
        go_roundg (es.length - (i + 1))
        case rel =>
          refine ⟨i + 1, int_eq (by omega), rfl, by omega, rfl, (n + 10 + e.m.size), int_eq (by omega), ?_, by omega⟩
          have hn := hn.out
          show (n + 10 + e.m.size) = bytesR false (es.take (i + 1))
          unfold bytesR at hn ⊢
          simp only [Bool.false_eq_true, if_false, if_true] at hn ⊢
          rw [hst'.out, hlt'.out]
          omega
        case measure => omega
      · obtain rfl : i = es.length := by omega
        have h3 : ¬ (es.length : Int) < (es.length : Int) := by omega
        rw [List.take_length] at hn
        have b1 : (n : Int) ≤ 100000000 := by omega
        go_wp2_with fail
        go_ret
        exact ⟨by rw [← hn.out]; rfl, rfl⟩
  · go_enter Tryz.func24, Tryz.ntmps24
    go_wp2_with fail
    go_loopg [3, 4] es.length (fun k a iv W' => ∃ i : Nat, iv = .int .i64 (i : Int) ∧ k = es.length - i ∧ i ≤ es.length ∧ W = W' ∧ ∃ n : Nat, a = .int .i64 (n : Int) ∧ Hid (n = bytesR true (es.take i)) ∧ n ≤ 100000 * i + 10)
    case atStart => exact ⟨0, rfl, rfl, Nat.zero_le _, rfl, _, rfl, rfl, by simp [bytesR, sumM]⟩
    case round =>
      obtain ⟨i, rfl, rfl, hi, rfl, n, rfl, hn, hnb⟩ := hrel
      by_cases hil : i < es.length
      · have h3 : (i : Int) < (es.length : Int) := by omega
        have hx := List.getElem?_eq_getElem hil
        generalize es[i] = e at hx
        have hst := sumM_take hx
        have hem := hm e (List.mem_of_getElem? hx)
        obtain ⟨b, o, c', he, k1, k2, k3, d0, d1⟩ := hr.at_ hx
        injection he with he1 he2 he3
        subst he1
        subst he3
        have b1 : (n : Int) ≤ 100000000 := by omega
        have b2 : (e.m.size : Int) ≤ 64 := by omega
        have hlt : (es.take (i + 1)).length = (es.take i).length + 1 := by rw [List.length_take, List.length_take]; omega
        have hst' := Lib.hid hst
        have hlt' := Lib.hid hlt
        clear hst hlt hx he2
        go_wp2_with fail
        go_roundg (es.length - (i + 1))
        case rel =>
          refine ⟨i + 1, int_eq (by omega), rfl, by omega, rfl, (n + 64 + 2 * e.m.size), int_eq (by omega), ?_, by omega⟩
          have hn := hn.out
          show (n + 64 + 2 * e.m.size) = bytesR true (es.take (i + 1))
          unfold bytesR at hn ⊢
          simp only [Bool.false_eq_true, if_false, if_true] at hn ⊢
          rw [hst'.out, hlt'.out]
          omega
        case measure => omega
      · obtain rfl : i = es.length := by omega
        have h3 : ¬ (es.length : Int) < (es.length : Int) := by omega
        rw [List.take_length] at hn
        have b1 : (n : Int) ≤ 100000000 := by omega
        go_wp2_with fail
        go_ret
        exact ⟨by rw [← hn.out]; rfl, rfl⟩
end
end Go.Proofs.YtifcpippfiglkaaGreat

/- palioref05.Same, of lists that are the same. -/
namespace Go.Proofs.YtifcpippfiglkaaGreat
open Go.RowKit Pal
attribute [local go_sem] Oper.semAt_some

set_option maxRecDepth 100000 in
set_option maxHeartbeats 1000000 in
theorem same_any (v v2 : Value) (l : List En) (w : World) (h : EntsR w v l) (h' : EntsR w v2 l) (hl : l.length ≤ 1000) : Calls Tryz.prog 19 #[v, v2] w fun r w' => r = .returned (.bool true) ∧ Chg (fun _ => False) w w' := by
  have h0 := h
  have h0' := h'
  obtain ⟨p, c, rfl, h1, h2, _⟩ := h
  obtain ⟨p', c', rfl, h1', h2', _⟩ := h'
  go_enter Tryz.func19, Tryz.ntmps19
  go_wp2_with fail
  go_loopg [5] l.length (fun k v W => ∃ i : Nat, v = .int .i64 (i : Int) ∧ k = l.length - i ∧ i ≤ l.length ∧ Chg (fun _ => False) w W)
  case atStart => exact ⟨0, rfl, rfl, Nat.zero_le _, Chg.refl _ _⟩
  case round =>
    obtain ⟨i, rfl, rfl, hi, hC⟩ := hrel
    by_cases hil : i < l.length
    · have h3 : (i : Int) < (l.length : Int) := by omega
      have hx := List.getElem?_eq_getElem hil
      generalize l[i] = e at hx
      obtain ⟨b, o, c1, he, k1, k2, k3, d0, d1⟩ := (h0.chg0 hC).at_ hx
      injection he with he1 he2 he3
      subst he1
      subst he3
      obtain ⟨b', o', c2, he', k1', k2', k3', d0', d1'⟩ := (h0'.chg0 hC).at_ hx
      injection he' with he1' he2' he3'
      subst he1'
      subst he3'
      have hil2 : (l.length : Int) ≤ 1000 := by omega
      have hb := toListE e.m
      clear hx he2 he2' h0 h0'
      go_wp2_with fail
      go_still_tail 8, (by kernel_rfl)
      go_wp2_with fail
      go_roundg (l.length - (i + 1))
      case rel => exact ⟨i + 1, int_eq (by omega), rfl, by omega, hC.drew⟩
      case measure => omega
    · obtain rfl : i = l.length := by omega
      have h3 : ¬ (l.length : Int) < (l.length : Int) := by omega
      go_wp2_with fail
      go_ret
      exact ⟨rfl, hC⟩
end Go.Proofs.YtifcpippfiglkaaGreat

/- The walk of ZsetDoes. -/
namespace Go.Proofs.YtifcpippfiglkaaGreat.zsetDoes
open Go.RowKit Pal
attribute [local go_sem] Oper.semAt_some

set_option maxRecDepth 100000 in
set_option maxHeartbeats 16000000 in
theorem walk (A0 A1 : Int) (seed : Nat) (hs : seed < 4294967296) (v : Value) (n : Nat) (g : Nat → Act6) (w : World) (hv : ActsZ w v n g) :
    Calls Tryz.prog 4 #[.agg #[.int .i64 A0, .int .i64 A1], .int .u32 (seed : Int), v] w fun e w' => e = .returned (.bool true) ∧ Chg (fun _ => False) w w' := by
  have hsh := fun w => shown11_any w
  obtain ⟨wb, hwb⟩ : ∃ wb, wb = w.alloc (.cells #[.int .i64 A0, .int .i64 A1] 23) := ⟨_, rfl⟩
  have hCb := (Chg.refl (fun _ => False) w).alloc (.cells #[.int .i64 A0, .int .i64 A1] 23)
  have hx1 := Blk.new w 23 #[.int .i64 A0, .int .i64 A1]
  rw [← hwb] at hCb hx1
  have hg1 : ∀ W', Chg (fun _ => False) wb W' → W'.cell? ⟨w.heap.size, 0, none⟩ = some (.int .i64 A0) ∧ W'.cell? ⟨w.heap.size, 1, none⟩ = some (.int .i64 A1) ∧ w.heap.size < W'.heap.size := fun W' hc => ⟨by have := (hx1.chg hc id).cell 0; simpa using this, by have := (hx1.chg hc id).cell 1; simpa using this, (hx1.chg hc id).lt⟩
  have hn1 := fun W (hc : Chg (fun _ => False) wb W) => ow_new hc A0 A1 seed hs
  have hn2 := fun W (hc : Chg (fun _ => False) wb W) => rf_new hc A0 A1
  have hCw : ∀ W', Chg (fun _ => False) wb W' → Chg (fun _ => False) w W' := fun W' hc => hCb.trans hc
  generalize clampL 200 A0 = E at *
  generalize clampL 64 A1 = M at *
  unfold pt at hn1 hn2
  clear hx1
  go_enter Tryz.func4, Tryz.ntmps4
  go_wp2_with (first | (go_at_call 10; rw [← hwb]; refine (hsh _).mono ?_; rintro r w1 ⟨rfl, hC1⟩; obtain ⟨x0, x1, x2⟩ := hg1 _ hC1) | (go_at_call 11; refine (hn1 _ hC1).mono ?_; rintro r w2 ⟨b, z0, rfl, h0, hC2, _⟩; obtain ⟨y0, y1, y2⟩ := hg1 _ (hC1.trans hC2)) | (go_at_call 17; refine (hn2 _ h0.chg).mono ?_; rintro r w3 ⟨rb, rfl, k0, hC3, _⟩) | fail)
  have hT0 : SR wb w3 b z0 rb (.slice none 0 0) [] [] false false E M := ⟨h0.chg0 hC3, k0⟩
  clear hn1 hn2 h0 k0 hC2 hC3 x0 x1 x2 y0 y1 y2 hg1 hwb hCb hs hsh hC1
  go_loopg [10] (min n 100) (MInv wb b rb E M n)
  case atStart => exact ⟨0, z0, _, [], false, rfl, rfl, Nat.zero_le _, hT0⟩
  case round =>
    clear hT0
    obtain ⟨i, z, u, es, is, rfl, rfl, hi, hT⟩ := hrel
    obtain ⟨p, cap, rfl⟩ := hv.is
    have hle := hv.le
    by_cases hin : i < n
    · by_cases hi100 : i < 100
      · obtain ⟨gb, o, cap', heq, gl, hc6, hk6⟩ := (hv.chg (hCw _ hT.s.chg)).at_ i hin
        injection heq with heq hx hcap
        subst heq hcap
        clear hx
        obtain ⟨q0, q1, q2, q3, q4, q5⟩ := hc6
        generalize g i = x at *
        have hks : (cutS x.M 70).size ≤ 9223372036854775807 := Nat.le_trans (cutS_size _ _) hk6.m
        have hna := fun W => name_any x.M W hk6.m
        generalize cutS x.M 70 = m at *
        have hd := did11_any (hT.chg0 ((Chg.refl (fun _ => False) wr).alloc (.cells #[.int .i64 x.Do, .string x.M, .int .i64 x.S, .int .i64 x.L, .int .i64 x.F, .int .i64 x.T] 30))) x hk6
        have i1' : (i : Int) < (n : Int) := by omega
        have i2' : (i : Int) < 100 := by omega
        have hzl : ∀ g, z.foot g → g < wr.heap.size := fun g hg => (hT.s.lt hg).2
        have hrl : rb < wr.heap.size := hT.r.b.lt
        unfold DidPost at hd
        unfold pt at hd
        clear hk6 hle hT
        go_wp2_with (first | (go_at_call 18; refine hd.mono ?_; rintro r9 w9 ⟨rfl, ⟨z9, v9, es9, is9, hT9⟩, hC9⟩) | fail)
        clear hd
        have hb9 : Blk w9 wr.heap.size 30 #[.int .i64 x.Do, .string x.M, .int .i64 x.S, .int .i64 x.L, .int .i64 x.F, .int .i64 x.T] := (Blk.new wr 30 #[.int .i64 x.Do, .string x.M, .int .i64 x.S, .int .i64 x.L, .int .i64 x.F, .int .i64 x.T]).chg hC9 (fun h => h.elim (fun h => by have := hzl _ h; omega) fun h => by omega)
        obtain ⟨p9, c9, hv9, _, _⟩ := hT9.r.val
        subst hv9
        have hcl : ∀ W', Rf wb W' rb es9 is9 E M (.slice p9 es9.length c9) → Blk W' wr.heap.size 30 #[.int .i64 x.Do, .string x.M, .int .i64 x.S, .int .i64 x.L, .int .i64 x.F, .int .i64 x.T] → W'.cell? ⟨rb, 0, none⟩ = some (.slice p9 es9.length c9) ∧ W'.cell? ⟨wr.heap.size, 4, none⟩ = some (.int .i64 x.F) ∧ W'.cell? ⟨wr.heap.size, 5, none⟩ = some (.int .i64 x.T) ∧ W'.cell? ⟨wr.heap.size, 1, none⟩ = some (.string x.M) ∧ wr.heap.size < W'.heap.size := fun W' h1 h2 => ⟨h1.cells.1, by have := h2.cell 4; simpa using this, by have := h2.cell 5; simpa using this, by have := h2.cell 1; simpa using this, h2.lt⟩
        have hS : ∀ W', Chg (fun _ => False) w9 W' → W'.cell? ⟨rb, 0, none⟩ = some (.slice p9 es9.length c9) ∧ W'.cell? ⟨wr.heap.size, 4, none⟩ = some (.int .i64 x.F) ∧ W'.cell? ⟨wr.heap.size, 5, none⟩ = some (.int .i64 x.T) ∧ W'.cell? ⟨wr.heap.size, 1, none⟩ = some (.string x.M) := fun W' hc => by
          obtain ⟨k1, k2, k3, k4, _⟩ := hcl W' (hT9.r.chg0 hc) (hb9.chg hc id)
          exact ⟨k1, k2, k3, k4⟩
        have hn9 := hT9.s.len
        have hn94 : (es9.length : Int) ≤ 400 := by omega
        have hsl : (sub es9 x.F x.T).length ≤ 1000 := by have := (sub_sub es9 x.F x.T).length_le; omega
        have hlen := fun W z l is (h : Ow wb W b z l is E M) => ow_len h
        have hrg : ∀ l W z is, Ow wb W b z l is E M → Calls Tryz.prog 20 #[pt b, .int .i64 0, .int .i64 (l.length : Int)] W (RgPost W l) := fun l W z is h => by
          have := ow_range h 0 (l.length : Int)
          rw [sub_all] at this
          exact this
        have hrn := fun W z l is (h : Ow wb W b z l is E M) => ow_range h x.F x.T
        have hrr := fun W (h : Rf wb W rb es9 is9 E M (.slice p9 es9.length c9)) => rf_range h x.F x.T
        have hen := fun W z l is (h : Ow wb W b z l is E M) => ow_encoding h
        have hre := fun W (h : Rf wb W rb es9 is9 E M (.slice p9 es9.length c9)) => rf_encoding h
        have hby := fun W z l is (h : Ow wb W b z l is E M) => ow_bytes h
        have hrb := fun W (h : Rf wb W rb es9 is9 E M (.slice p9 es9.length c9)) => rf_bytes h
        have hsm := fun l W u u' (h : EntsR W u l) (h' : EntsR W u' l) (hn : l.length ≤ 1000) => same_any u u' l W h h' hn
        have hfn := fun W (h : EntsR W (.slice p9 es9.length c9) es9) => findR_any _ es9 m W h (by omega)
        have hrk := fun W z is (h : Ow wb W b z es9 is E M) => ow_rank h m hks
        have hsc := fun W z is (h : Ow wb W b z es9 is E M) => ow_score h m hks
        have hz9 := hT9.s.at_.ok
        unfold RgPost at hrg hrn
        unfold pt at hlen hrg hrn hrr hen hre hby hrb hrk hsc
        obtain ⟨f0, f1, f2, f3, f4⟩ := hcl w9 hT9.r hb9
        have frl := hT9.r.b.lt
        go_wp2_with fail
        go_region_held3 (fun W' => W'.cell? ⟨rb, 0, none⟩ = some (.slice p9 es9.length c9) ∧ W'.cell? ⟨wr.heap.size, 4, none⟩ = some (.int .i64 x.F) ∧ W'.cell? ⟨wr.heap.size, 5, none⟩ = some (.int .i64 x.T) ∧ W'.cell? ⟨wr.heap.size, 1, none⟩ = some (.string x.M)) (first | exact hS _ (Chg.refl _ _).drew | exact hS _ hc8 | exact hS _ hc7 | exact hS _ hc5 | exact hS _ hc4 | exact hS _ hc3 | exact hS _ hc2 | exact hS _ hc1 | fail)
          (first | (go_at_call 24; refine (hrb _ (hT9.r.chg0 hc8)).mono ?_; rintro r9 w10 ⟨rfl, rfl⟩) | (go_at_call 23; refine (hby _ _ _ _ (hT9.s.chg0 hc7)).mono ?_; rintro r9 w8 ⟨rfl, C8⟩; have hc8 := hc7.trans C8) | (go_at_call 22; refine (hre _ (hT9.r.chg0 hc7)).mono ?_; rintro r9 w10 ⟨rfl, rfl⟩) | (go_at_call 15; refine (hen _ _ _ _ (hT9.s.chg0 hc7)).mono ?_; rintro r9 w10 ⟨rfl, rfl⟩) | (go_at_call 19; refine (hsm (sub es9 x.F x.T) _ _ _ e5.r e6 hsl).mono ?_; rintro r9 w7 ⟨rfl, C7⟩; have hc7 := hc5.trans C7) | (go_at_call 21; refine (hrr _ (hT9.r.chg0 hc5)).mono ?_; rintro r9 w6 ⟨⟨u6, rfl, e6⟩, rfl⟩) | (go_at_call 20; refine (hrn _ _ _ _ (hT9.s.chg0 hc4)).mono ?_; rintro r9 w5 ⟨⟨u5, rfl, e5⟩, C5⟩; have hc5 := hc4.trans C5) | (go_at_call 19; refine (hsm es9 _ _ _ e3.r ((hT9.r.chg0 hc3).own.r) (by omega)).mono ?_; rintro r9 w4 ⟨rfl, C4⟩; have hc4 := hc3.trans C4) | (go_at_call 20; refine (hrg es9 _ _ _ (hT9.s.chg0 hc2)).mono ?_; rintro r9 w3 ⟨⟨u3, rfl, e3⟩, C3⟩; have hc3 := hc2.trans C3) | (go_at_call 16; refine (hlen _ _ _ _ (hT9.s.chg0 hc1)).mono ?_; rintro r9 w2 ⟨rfl, C2⟩; have hc2 := hc1.trans C2) | (go_at_call 16; refine (hlen _ _ _ _ (hT9.s.chg0 (Chg.refl _ _).drew)).mono ?_; rintro r9 w1 ⟨rfl, C1⟩; have hc1 := (Chg.refl (fun _ => False) w9).drew.trans C1) | fail)
        have hcd := hc8.trans (Chg.refl (fun _ => False) _).drew
        have hTd := hT9.chg0 hcd
        have hbd := hb9.chg hcd id
        obtain ⟨g0, g1, g2, g3, g4⟩ := hcl _ (hT9.r.chg0 hc8) (hb9.chg hc8 id)
        have grl := (hT9.r.chg0 hc8).b.lt
        have hnf : ¬ z9.foot wr.heap.size := fun hf => by
          obtain ⟨t, cs, hb, ht⟩ := zs_ty hT9.s.at_ hf
          refine hb9.ne_type hb ?_ rfl
          rcases ht with rfl | rfl | rfl | rfl | rfl | rfl | rfl | rfl <;> decide
        clear hlen hrg hrn hrr hen hre hby hrb hsm e3 e5 e6 C1 C2 C3 C4 C5 C7 C8 hc1 hc2 hc3 hc4 hc5 hc7 f0 f1 f2 f3 f4 frl hsl
        cases hl : lookE es9 m with
        | none =>
          rw [findI_no hl] at hfn
          unfold rankE at hrk
          rw [hl] at hrk hsc
          simp only [Option.getD_none, Option.isSome_none] at hrk hsc
          clear hl
          go_wp2_with fail
          go_region_held3 (fun W' => W'.cell? ⟨rb, 0, none⟩ = some (.slice p9 es9.length c9) ∧ W'.cell? ⟨wr.heap.size, 4, none⟩ = some (.int .i64 x.F) ∧ W'.cell? ⟨wr.heap.size, 5, none⟩ = some (.int .i64 x.T) ∧ W'.cell? ⟨wr.heap.size, 1, none⟩ = some (.string x.M)) (first | exact hS _ (hc8.trans (Chg.refl _ _).drew) | fail) (first | (go_at_call 12; refine (hna _).mono ?_; rintro r9 w10 ⟨rfl, rfl⟩) | (go_at_call 25; refine (hfn _ (hT9.r.chg0 (hc8.trans (Chg.refl _ _).drew)).own.r).mono ?_; rintro r9 w10 ⟨rfl, rfl⟩) | fail)
          go_wp2_with (first | (go_at_call 12; refine (hna _).mono ?_; rintro r9 w10 ⟨rfl, rfl⟩) | (go_at_call 27; refine (hsc _ _ _ hT11.s).mono ?_; rintro r9 w12 ⟨rfl, z12, k12, n12⟩; have hT12 := hT11.one k12 n12; obtain ⟨y0, y1, y2, y3, y4, _, _⟩ := hT12.r.cells) | (go_at_call 26; refine (hrk _ _ _ hTd.s).mono ?_; rintro r9 w11 ⟨rfl, z11, k11, n11⟩; have hT11 := hTd.one k11 n11; have hb11 := hbd.chg n11.chg (fun hf => hnf hf); obtain ⟨_, _, _, t1, t2⟩ := hcl _ hT11.r hb11) | fail)
          go_roundg (min n 100 - (i + 1))
          case measure => omega
          case rel => exact ⟨i + 1, z12, _, es9, is9, int_eq (by omega), rfl, by omega, hT12⟩
        | some so =>
          have hat := look_at hz9 hl
          have hk0 := (List.getElem?_eq_some_iff.1 hat).1
          rw [findI_at hz9 hl] at hfn
          unfold rankE at hrk
          rw [hl] at hrk hsc
          simp only [Option.getD_some, Option.isSome_some] at hrk hsc
          generalize ahead es9 ⟨m, so⟩ = k at *
          have k0 : ¬ (k : Int) < 0 := by omega
          have k1 : (0 : Int) ≤ (k : Int) := by omega
          have k2 : (k : Int) < (es9.length : Int) := by omega
          clear hl
          go_wp2_with fail
          go_region_held3 (fun W' => W'.cell? ⟨rb, 0, none⟩ = some (.slice p9 es9.length c9) ∧ W'.cell? ⟨wr.heap.size, 4, none⟩ = some (.int .i64 x.F) ∧ W'.cell? ⟨wr.heap.size, 5, none⟩ = some (.int .i64 x.T) ∧ W'.cell? ⟨wr.heap.size, 1, none⟩ = some (.string x.M)) (first | exact hS _ (hc8.trans (Chg.refl _ _).drew) | fail) (first | (go_at_call 12; refine (hna _).mono ?_; rintro r9 w10 ⟨rfl, rfl⟩) | (go_at_call 25; refine (hfn _ (hT9.r.chg0 (hc8.trans (Chg.refl _ _).drew)).own.r).mono ?_; rintro r9 w10 ⟨rfl, rfl⟩) | fail)
          go_wp2_with (first | (go_at_call 12; refine (hna _).mono ?_; rintro r9 w10 ⟨rfl, rfl⟩) | (go_at_call 27; refine (hsc _ _ _ hT11.s).mono ?_; rintro r9 w12 ⟨rfl, z12, k12, n12⟩; have hT12 := hT11.one k12 n12; obtain ⟨y0, y1, y2, y3, y4, _, _⟩ := hT12.r.cells; obtain ⟨eb, eo, ec, ee, _, _, el, _, e1⟩ := hT12.r.own.r.at_ hat; injection ee with ee _ ee2; subst ee; subst ee2) | (go_at_call 26; refine (hrk _ _ _ hTd.s).mono ?_; rintro r9 w11 ⟨rfl, z11, k11, n11⟩; have hT11 := hTd.one k11 n11; have hb11 := hbd.chg n11.chg (fun hf => hnf hf); obtain ⟨_, _, _, t1, t2⟩ := hcl _ hT11.r hb11) | fail)
          go_roundg (min n 100 - (i + 1))
          case measure => omega
          case rel => exact ⟨i + 1, z12, _, es9, is9, int_eq (by omega), rfl, by omega, hT12⟩
      · have i1' : (i : Int) < (n : Int) := by omega
        have i2' : ¬ (i : Int) < 100 := by omega
        go_wp2_with fail
        go_ret
        exact ⟨rfl, hCw _ hT.s.chg⟩
    · have i1' : ¬ (i : Int) < (n : Int) := by omega
      go_wp2_with fail
      go_ret
      exact ⟨rfl, hCw _ hT.s.chg⟩
set_option maxRecDepth 100000 in
theorem ZsetDoes_walk (W : World) {H : Type} {enc : TypeId × Value → H} {v0 : Value} {d0 : DataW H} {p0 : List MemPlace} (hv0 : Value.okWide Tryz.prog W .any 0 23 v0) (h0 : DataW.Trod enc Tryz.prog W 0 (fun _ => true) true 23 v0 d0 p0)
    (a1 : Int) (w1 : (Lit.int .u32 a1).wf = true) {v : Value} {d : DataW H} {p : List MemPlace} (hv : Value.okWide Tryz.prog W .any 0 25 v) (h : DataW.Trod enc Tryz.prog W 0 (fun _ => true) true 25 v d p) :
    Calls Tryz.prog 4 #[v0, .int .u32 a1, v] W fun e w' => e = .returned (.bool true) ∧ Chg (fun _ => False) W w' := by
  obtain ⟨A0, A1, rfl, _, _⟩ := open_limits hv0 h0
  obtain ⟨s1, rfl, k1⟩ := u32_of_wf w1
  obtain ⟨n, g, hg⟩ := open_actsZ hv h
  exact walk A0 A1 s1 k1 v n g W hg
end Go.Proofs.YtifcpippfiglkaaGreat.zsetDoes
