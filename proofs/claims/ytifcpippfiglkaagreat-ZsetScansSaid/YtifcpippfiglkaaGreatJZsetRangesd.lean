/- Texts joined for ZsetRanges: RZB, RZC, RMB, ZBM, ZBT, RBI. -/
import Derived.Test.YtifcpippfiglkaaGreatJZsetRangesa
import Derived.Test.YtifcpippfiglkaaGreatJZsetRangesb
import Derived.Test.YtifcpippfiglkaaGreatJZsetRangesc
import Derived.Test.YtifcpippfiglkaaGreatJZsetWaysj
import Derived.WalkMore
set_option linter.unusedVariables false
set_option linter.unusedSimpArgs false

/- palioref11: Add whole, Cut. -/
namespace Go.Proofs.YtifcpippfiglkaaGreat
open Go.RowKit Pal
attribute [local go_sem] Oper.semAt_some

section
variable {w0 W W' W1 : World} {rb : Nat} {es l1 : List En} {is : Bool} {E M : Nat} {v v1 : Value}
set_option maxRecDepth 100000 in
set_option maxHeartbeats 4000000 in
theorem rf_add_no (h : Rf w0 W rb es is E M v) (m : ByteArray) (s lv : Int) (e : Int) (he : addNo es m lv = some e) : Calls Tryz.prog 37 #[pt rb, .string m, .int .i64 s, .int .i64 lv] W (RPost w0 rb es is E M (.tuple #[.bool false, .int .i64 e]) W) := by
  unfold addNo at he
  have HH := Lib.hid h
  obtain ⟨c0, _, _, _, l0, f0, _⟩ := h.cells
  by_cases h1 : 64 < m.size ∨ lv < 1 ∨ 32 < lv
  · rw [if_pos h1] at he
    injection he with he
    subst he
    have hcs : (64 : Int) < (m.size : Int) ∨ (¬ (64 : Int) < (m.size : Int) ∧ lv < 1) ∨ (¬ (64 : Int) < (m.size : Int) ∧ ¬ lv < 1 ∧ 32 < lv) := by omega
    clear h1 h
    unfold pt
    rcases hcs with g1 | ⟨g1, g2⟩ | ⟨g1, g2, g3⟩
    · go_enter Tryz.func37, Tryz.ntmps37
      go_wp2_with fail
      go_ret2
      exact ⟨rfl, v, HH.out, Chg.refl _ _⟩
    · go_enter Tryz.func37, Tryz.ntmps37
      go_wp2_with fail
      go_ret2
      exact ⟨rfl, v, HH.out, Chg.refl _ _⟩
    · go_enter Tryz.func37, Tryz.ntmps37
      go_wp2_with fail
      go_ret2
      exact ⟨rfl, v, HH.out, Chg.refl _ _⟩
  · rw [if_neg h1] at he
    by_cases h4 : lookE es m = none ∧ es.length = 400
    · rw [if_pos h4] at he
      injection he with he
      subst he
      obtain ⟨h5, h6⟩ := h4
      have h2' : ¬ (64 : Int) < (m.size : Int) := by omega
      have h3 : ¬ lv < 1 := by omega
      have h3' : ¬ 32 < lv := by omega
      have hfi := fun W' (hc : Chg (fun _ => False) W W') => findR_any v es m W' ((h.chg0 hc).own.r) (by omega)
      rw [findI_no h5] at hfi
      obtain ⟨vp, vc, hvv, _, _⟩ := h.val
      rw [h6] at hvv
      subst hvv
      unfold pt
      clear h5 h h1
      go_enter Tryz.func37, Tryz.ntmps37
      go_wp2_with (go_at_call 25; refine (hfi _ (Chg.refl _ _)).mono ?_; rintro r9 w1 ⟨rfl, rfl⟩)
      go_ret2
      exact ⟨rfl, _, HH.out, Chg.refl _ _⟩
    · rw [if_neg h4] at he; cases he
theorem rf_add (h : Rf w0 W rb es is E M v) (m : ByteArray) (s lv : Int) (hs : -9223372036854775808 ≤ s ∧ s ≤ 9223372036854775807) : Calls Tryz.prog 37 #[pt rb, .string m, .int .i64 s, .int .i64 lv] W (RPost w0 rb (addL es m s lv) (addI es m s lv E M is) E M (.tuple #[.bool (addR es m lv).1, .int .i64 (addR es m lv).2]) W) := by
  unfold addL addI addR
  cases he : addNo es m lv with
  | some e => exact rf_add_no h m s lv e he
  | none =>
    dsimp only
    cases hl : lookE es m with
    | none => exact rf_add_none h m s lv hs he hl _ rfl
    | some so => exact rf_add_some h m s lv hs he so hl _ rfl
theorem clampN_eq (n : Nat) (i : Int) : max 0 (min i (n : Int)) = ((clampN n i : Nat) : Int) := by unfold clampN; omega
set_option maxRecDepth 100000 in
set_option maxHeartbeats 4000000 in
theorem rf_cut (h : Rf w0 W rb es is E M v) (i j : Int) : Calls Tryz.prog 39 #[pt rb, .int .i64 i, .int .i64 j] W (RPost w0 rb (cutL es (clampN es.length i) (cutN es.length i j)) is E M (.int .i64 (cutN es.length i j : Int)) W) := by
  obtain ⟨i0, hi0, hz0, hz1, hz2⟩ := info_parts ent_info
  have HH := Lib.hid h
  have hn4 := h.ok.n
  have hzc := h.ok.cut (clampN es.length i) (cutN es.length i j)
  obtain ⟨c0, _, _, _, l0, f0, _⟩ := h.cells
  have hr := h.own.r
  obtain ⟨p, c, hv, h1, h2⟩ := h.val
  subst hv
  have e1 := clampN_eq es.length i
  have hc1 : clampN es.length i ≤ es.length := Nat.min_le_right _ _
  have hc2 : clampN es.length j ≤ es.length := Nat.min_le_right _ _
  have e2 : max ((clampN es.length i : Nat) : Int) (min j (es.length : Int)) = ((max (clampN es.length i) (clampN es.length j) : Nat) : Int) := by unfold clampN; omega
  unfold cutN cutL at *
  generalize clampN es.length i = f at *
  have ht2 : max f (clampN es.length j) ≤ es.length := by omega
  have ht1 : f ≤ max f (clampN es.length j) := by omega
  generalize max f (clampN es.length j) = t at *
  have x1 : (f : Int) ≤ (t : Int) := by omega
  have x2 : (t : Int) ≤ (es.length : Int) := by omega
  have x3 : (es.length : Int) ≤ (c : Int) := by omega
  have x4 : (es.length : Int) ≤ 400 := by omega
  have hA := (hr.take (k := f) (by omega) ⟨by omega, h2⟩).read
  have hB1 := fun A hA c' hc => (hr.drop (k := t) ht2 rfl A hA c' hc).read
  have m1 : 0 + f ≤ maxLen := by unfold maxLen; omega
  have m2 : (0 + f) * 24 ≤ 140737488355328 := by omega
  have m3 : 0 + f + (es.length - t) ≤ maxLen := by unfold maxLen; omega
  have m4 : (0 + f + (es.length - t)) * 24 ≤ 140737488355328 := by omega
  have hft : f + (t - f) = t := by omega
  rw [hft] at hzc ⊢
  have hfin : ∀ (v2 : Value) (w2 : World), w2.ownsRow W.heap.size 54 2 v2 (0 + f + (es.length - t)) ([] ++ (es.take f).flatMap En.cells ++ (es.drop t).flatMap En.cells) → Ents w2 W.heap.size v2 (es.take f ++ es.drop t) := fun v2 w2 h => Ents.mk h (by rw [List.length_append, List.length_take, List.length_drop]; omega) (by rw [List.nil_append, List.flatMap_append])
  replace hfin := Lib.hid hfin
  unfold maxLen at h2
  clear h hr hft hc2
  unfold pt
  by_cases hcap : c = t
  · have e0 : es.length - t = 0 := by omega
    have hB2 := hB1 p (fun h => by omega) 0 ⟨by omega, Nat.zero_le _⟩
    subst hcap
    rw [e0] at hB2 hfin m3 m4
    clear hB1
    go_enter Tryz.func39, Tryz.ntmps39
    go_wp2_with (first
      | (at_builtin; refine wpList_append_any _ rfl (.tmp 25) (.tmp 31) 43 rfl W.heap.size 54 i0 _ 2 24 Tryz.underlying43 hi0 hz0 hz1 hz2 rfl (by omega) _ 0 [] rfl (World.ownsRow_nil W W.heap.size _ 2) W.heap.size p f _ _ rfl hA (ents_one _) m1 m2 (Nat.le_refl _) ?_; intro v1 w1 hown1 hg1 _; have hC1 : Chg (fun _ => False) W w1 := Chg.of_grown hg1 (fun g h => by cases h); obtain ⟨d0, _, _, _, dl, df, _⟩ := (HH.out.chg0 hC1).cells)
      | (at_builtin; refine wpList_append_any _ rfl (.tmp 34) (.tmp 40) 43 rfl W.heap.size 54 i0 _ 2 24 Tryz.underlying43 hi0 hz0 hz1 hz2 rfl (by omega) _ (0 + f) _ rfl hown1 W.heap.size p 0 _ _ rfl (hB2.chg hC1 (Nat.le_refl _) fun _ _ => id) (ents_one _) m3 m4 hC1.size ?_; intro v2 w2 hown2 hg2 _; have hC2 : Chg (fun _ => False) W w2 := hC1.trans' (app_chg hown1 hg2) (fun g hl h => by omega); have hv2 := hfin.out v2 w2 hown2; obtain ⟨p2, q2, hv2e, _, _, _⟩ := hv2.is; generalize (es.take f ++ es.drop c).length = n2 at hv2e; subst hv2e; obtain ⟨y0, _, _, _, yl, yf, _⟩ := (HH.out.chg0 hC2).cells)
      | fail)
    go_ret
    obtain ⟨hR, hc⟩ := HH.out.store hC2 hv2 hzc
    exact ⟨ret_int' (by omega), _, hR, hc⟩
  · have hB2 := hB1 _ (fun _ => rfl) (c - t) ⟨by omega, by unfold maxLen; omega⟩
    clear hB1
    go_enter Tryz.func39, Tryz.ntmps39
    go_wp2_with (first
      | (at_builtin; refine wpList_append_any _ rfl (.tmp 25) (.tmp 31) 43 rfl W.heap.size 54 i0 _ 2 24 Tryz.underlying43 hi0 hz0 hz1 hz2 rfl (by omega) _ 0 [] rfl (World.ownsRow_nil W W.heap.size _ 2) W.heap.size p f _ _ rfl hA (ents_one _) m1 m2 (Nat.le_refl _) ?_; intro v1 w1 hown1 hg1 _; have hC1 : Chg (fun _ => False) W w1 := Chg.of_grown hg1 (fun g h => by cases h); obtain ⟨d0, _, _, _, dl, df, _⟩ := (HH.out.chg0 hC1).cells)
      | (at_builtin; refine wpList_append_any _ rfl (.tmp 34) (.tmp 40) 43 rfl W.heap.size 54 i0 _ 2 24 Tryz.underlying43 hi0 hz0 hz1 hz2 rfl (by omega) _ (0 + f) _ rfl hown1 W.heap.size (p.map fun x => x.add (t * 2)) (es.length - t) _ _ rfl (hB2.chg hC1 (Nat.le_refl _) fun _ _ => id) (ents_one _) m3 m4 hC1.size ?_; intro v2 w2 hown2 hg2 _; have hC2 : Chg (fun _ => False) W w2 := hC1.trans' (app_chg hown1 hg2) (fun g hl h => by omega); have hv2 := hfin.out v2 w2 hown2; obtain ⟨p2, q2, hv2e, _, _, _⟩ := hv2.is; generalize (es.take f ++ es.drop t).length = n2 at hv2e; subst hv2e; obtain ⟨y0, _, _, _, yl, yf, _⟩ := (HH.out.chg0 hC2).cells)
      | fail)
    go_ret
    obtain ⟨hR, hc⟩ := HH.out.store hC2 hv2 hzc
    exact ⟨ret_int' (by omega), _, hR, hc⟩
end
end Go.Proofs.YtifcpippfiglkaaGreat

/- palioref11: Range, Encoding, Bytes. -/
namespace Go.Proofs.YtifcpippfiglkaaGreat
open Go.RowKit Pal
attribute [local go_sem] Oper.semAt_some

section
variable {w0 W W' W1 : World} {rb : Nat} {es l1 : List En} {is : Bool} {E M : Nat} {v v1 : Value}
theorem rf_encoding (h : Rf w0 W rb es is E M v) : Calls Tryz.prog 22 #[pt rb] W fun r W' => r = .returned (.string (encZ is)) ∧ W = W' := by
  obtain ⟨_, _, _, c3, l0, _, _⟩ := h.cells
  unfold pt
  cases is
  · go_enter Tryz.func22, Tryz.ntmps22
    go_wp2_with fail
    go_ret
    exact ⟨rfl, rfl⟩
  · go_enter Tryz.func22, Tryz.ntmps22
    go_wp2_with fail
    go_ret
    exact ⟨rfl, rfl⟩
set_option maxRecDepth 100000 in
set_option maxHeartbeats 1000000 in
theorem rf_range (h : Rf w0 W rb es is E M v) (i j : Int) : Calls Tryz.prog 21 #[pt rb, .int .i64 i, .int .i64 j] W fun r W' => (∃ u, r = .returned u ∧ EntsR W u (sub es i j)) ∧ W = W' := by
  obtain ⟨c0, _, _, _, l0, _, _⟩ := h.cells
  have hr := h.own.r
  have hn4 := h.ok.n
  obtain ⟨p, c, hv, h1, h2⟩ := h.val
  subst hv
  have e1 := clampN_eq es.length i
  have hc1 : clampN es.length i ≤ es.length := Nat.min_le_right _ _
  have hc2 : clampN es.length j ≤ es.length := Nat.min_le_right _ _
  have e2 : max ((clampN es.length i : Nat) : Int) (min j (es.length : Int)) = ((max (clampN es.length i) (clampN es.length j) : Nat) : Int) := by unfold clampN; omega
  unfold sub
  generalize clampN es.length i = f at *
  have ht2 : max f (clampN es.length j) ≤ es.length := by omega
  have ht1 : f ≤ max f (clampN es.length j) := by omega
  generalize max f (clampN es.length j) = t at *
  have x1 : (f : Int) ≤ (t : Int) := by omega
  have x2 : (t : Int) ≤ (es.length : Int) := by omega
  have x3 : (es.length : Int) ≤ (c : Int) := by omega
  have x4 : (es.length : Int) ≤ 400 := by omega
  have h2' := h2
  unfold maxLen at h2'
  have hA := fun A hA c' hc' => hr.part ht1 ht2 A hA c' hc'
  unfold pt
  clear h hr hc2 hc1
  by_cases hcap : c = f
  · have hB := Lib.hid (hA p (fun h => by omega) 0 ⟨by omega, Nat.zero_le _⟩)
    have e0 : t - f = 0 := by omega
    have e3 : t = f := by omega
    subst e3
    subst hcap
    rw [Nat.sub_self] at hB
    clear hA e0
    go_enter Tryz.func21, Tryz.ntmps21
    go_wp2_with fail
    go_ret
    refine ⟨⟨_, rfl, ?_⟩, rfl⟩
    first | exact hB.out | (have := hB.out; simp at this ⊢; exact this)
  · have hB := Lib.hid (hA (p.map fun x => x.add (f * 2)) (fun _ => rfl) (c - f) ⟨by omega, by unfold maxLen; omega⟩)
    clear hA
    go_enter Tryz.func21, Tryz.ntmps21
    go_wp2_with fail
    go_ret
    exact ⟨⟨_, rfl, hB.out⟩, rfl⟩
def bytesR (is : Bool) (l : List En) : Nat := if is then 64 * l.length + 2 * sumM l else 2 + 10 * l.length + sumM l
theorem bytesR_eq (es : List En) (is : Bool) : bytesZ es is = bytesR is es := rfl
set_option maxRecDepth 100000 in
set_option maxHeartbeats 2000000 in
theorem rf_bytes (h : Rf w0 W rb es is E M v) : Calls Tryz.prog 24 #[pt rb] W fun r W' => r = .returned (.int .i64 (bytesZ es is : Int)) ∧ W = W' := by
  obtain ⟨c0, _, _, c3, l0, _, _⟩ := h.cells
  have hr := h.own.r
  have hn4 := h.ok.n
  have hm : ∀ e ∈ es, e.m.size ≤ 64 := fun e he => (h.ok.ok e he).1
  obtain ⟨p, c, hv, h1, h2⟩ := h.val
  subst hv
  have h4 : (es.length : Int) ≤ 400 := by omega
  rw [bytesR_eq]
  unfold pt
  clear h
  cases is
  · go_enter Tryz.func24, Tryz.ntmps24
    go_wp2_with fail
    go_loopg [3, 4] es.length (fun k a iv W' => ∃ i : Nat, iv = .int .i64 (i : Int) ∧ k = es.length - i ∧ i ≤ es.length ∧ W = W' ∧ ∃ n : Nat, a = .int .i64 (n : Int) ∧ Hid (n = bytesR false (es.take i)) ∧ n ≤ 100000 * i + 10)
    case atStart => exact ⟨0, rfl, rfl, Nat.zero_le _, rfl, _, rfl, rfl, by simp [bytesR, sumM]⟩
    case round =>
      obtain ⟨i, rfl, rfl, hi, rfl, n, rfl, hn, hnb⟩ := hrel
      by_cases hil : i < es.length
      · have h3 : (i : Int) < (es.length : Int) := by omega
        have hx := List.getElem?_eq_getElem hil
        generalize es[i] = e at hx
        have hst := sumM_take hx
        have hem := hm e (List.mem_of_getElem? hx)
        obtain ⟨b, o, c', he, k1, k2, k3, d0, d1⟩ := hr.at_ hx
        injection he with he1 he2 he3
        subst he1
        subst he3
        have b1 : (n : Int) ≤ 100000000 := by omega
        have b2 : (e.m.size : Int) ≤ 64 := by omega
        have hlt : (es.take (i + 1)).length = (es.take i).length + 1 := by rw [List.length_take, List.length_take]; omega
        have hst' := Lib.hid hst
        have hlt' := Lib.hid hlt
        clear hst hlt hx he2
        go_wp2_with fail
        go_roundg (es.length - (i + 1))
        case rel =>
          refine ⟨i + 1, int_eq (by omega), rfl, by omega, rfl, (n + 10 + e.m.size), int_eq (by omega), ?_, by omega⟩
          have hn := hn.out
          show (n + 10 + e.m.size) = bytesR false (es.take (i + 1))
          unfold bytesR at hn ⊢
          simp only [Bool.false_eq_true, if_false, if_true] at hn ⊢
          rw [hst'.out, hlt'.out]
          omega
        case measure => omega
      · obtain rfl : i = es.length := by omega
        have h3 : ¬ (es.length : Int) < (es.length : Int) := by omega
        rw [List.take_length] at hn
        have b1 : (n : Int) ≤ 100000000 := by omega
        go_wp2_with fail
        go_ret
        exact ⟨by rw [← hn.out]; rfl, rfl⟩
  · go_enter Tryz.func24, Tryz.ntmps24
    go_wp2_with fail
    go_loopg [3, 4] es.length (fun k a iv W' => ∃ i : Nat, iv = .int .i64 (i : Int) ∧ k = es.length - i ∧ i ≤ es.length ∧ W = W' ∧ ∃ n : Nat, a = .int .i64 (n : Int) ∧ Hid (n = bytesR true (es.take i)) ∧ n ≤ 100000 * i + 10)
    case atStart => exact ⟨0, rfl, rfl, Nat.zero_le _, rfl, _, rfl, rfl, by simp [bytesR, sumM]⟩
    case round =>
      obtain ⟨i, rfl, rfl, hi, rfl, n, rfl, hn, hnb⟩ := hrel
      by_cases hil : i < es.length
      · have h3 : (i : Int) < (es.length : Int) := by omega
        have hx := List.getElem?_eq_getElem hil
        generalize es[i] = e at hx
        have hst := sumM_take hx
        have hem := hm e (List.mem_of_getElem? hx)
        obtain ⟨b, o, c', he, k1, k2, k3, d0, d1⟩ := hr.at_ hx
        injection he with he1 he2 he3
        subst he1
        subst he3
        have b1 : (n : Int) ≤ 100000000 := by omega
        have b2 : (e.m.size : Int) ≤ 64 := by omega
        have hlt : (es.take (i + 1)).length = (es.take i).length + 1 := by rw [List.length_take, List.length_take]; omega
        have hst' := Lib.hid hst
        have hlt' := Lib.hid hlt
        clear hst hlt hx he2
        go_wp2_with fail
        go_roundg (es.length - (i + 1))
        case rel =>
          refine ⟨i + 1, int_eq (by omega), rfl, by omega, rfl, (n + 64 + 2 * e.m.size), int_eq (by omega), ?_, by omega⟩
          have hn := hn.out
          show (n + 64 + 2 * e.m.size) = bytesR true (es.take (i + 1))
          unfold bytesR at hn ⊢
          simp only [Bool.false_eq_true, if_false, if_true] at hn ⊢
          rw [hst'.out, hlt'.out]
          omega
        case measure => omega
      · obtain rfl : i = es.length := by omega
        have h3 : ¬ (es.length : Int) < (es.length : Int) := by omega
        rw [List.take_length] at hn
        have b1 : (n : Int) ≤ 100000000 := by omega
        go_wp2_with fail
        go_ret
        exact ⟨by rw [← hn.out]; rfl, rfl⟩
end
end Go.Proofs.YtifcpippfiglkaaGreat

/- palioref11: Members. -/
namespace Go.Proofs.YtifcpippfiglkaaGreat
open Go.RowKit Pal
attribute [local go_sem] Oper.semAt_some
def memE (es : List En) (f t : Ed) : List En := es.filter fun e => inS e.m f t
theorem memE_snoc {es : List En} {i : Nat} {x : En} {f t : Ed} (h : es[i]? = some x) : memE (es.take (i + 1)) f t = memE (es.take i) f t ++ if inS x.m f t then [x] else [] := by
  unfold memE
  rw [List.take_add_one, h, List.filter_append]
  congr 1
  show [x].filter _ = _
  rw [List.filter_cons, List.filter_nil]
section
variable {w0 W : World} {rb : Nat} {es : List En} {is : Bool} {E M : Nat} {v : Value}
set_option maxRecDepth 100000 in
set_option maxHeartbeats 4000000 in
theorem rf_members (h : Rf w0 W rb es is E M v) (f t : Ed) (hin9 : ∀ x ∈ es, ∀ w, Calls Tryz.prog 49 #[.string x.m, .agg f.cs, .agg t.cs] w fun r w' => r = .returned (.bool (inS x.m f t)) ∧ Chg (fun _ => False) w w') :
    Calls Tryz.prog 33 #[pt rb, .agg f.cs, .agg t.cs] W (RgPost W (memE es f t)) := by
  obtain ⟨i0, hi0, hz0, hz1, hz2⟩ := info_parts ent_info
  have hn4 := h.ok.n
  have h400 : (es.length : Int) ≤ 400 := by omega
  obtain ⟨W4, hW4⟩ : ∃ W4, W4 = (W.alloc (.cells f.cs 68)).alloc (.cells t.cs 68) := ⟨_, rfl⟩
  have hC0 := ((Chg.refl (fun _ => False) W).alloc (.cells f.cs 68)).alloc (.cells t.cs 68)
  have x0 := (Blk.new W 68 f.cs).alloc (.cells t.cs 68)
  have x1 := Blk.new (W.alloc (.cells f.cs 68)) 68 t.cs
  rw [World.size_alloc] at x1
  rw [← hW4] at hC0 x0 x1
  have hr := h.own.r
  obtain ⟨p, c, hv, c1, c2⟩ := h.val
  subst hv
  have HR := Lib.hid h
  unfold Ed.cs at *
  have hbx : ∀ W', Chg (fun _ => False) W4 W' → W'.cell? ⟨W.heap.size, 0, none⟩ = some (.string f.N) ∧ W'.cell? ⟨W.heap.size, 1, none⟩ = some (.bool f.O) ∧ W'.cell? ⟨W.heap.size, 2, none⟩ = some (.int .i64 f.I) ∧ W'.cell? ⟨W.heap.size + 1, 0, none⟩ = some (.string t.N) ∧ W'.cell? ⟨W.heap.size + 1, 1, none⟩ = some (.bool t.O) ∧ W'.cell? ⟨W.heap.size + 1, 2, none⟩ = some (.int .i64 t.I) ∧ W.heap.size + 1 < W'.heap.size := fun W' hc => ⟨by have := (x0.chg hc id).cell 0; simpa using this, by have := (x0.chg hc id).cell 1; simpa using this, by have := (x0.chg hc id).cell 2; simpa using this, by have := (x1.chg hc id).cell 0; simpa using this, by have := (x1.chg hc id).cell 1; simpa using this, by have := (x1.chg hc id).cell 2; simpa using this, (x1.chg hc id).lt⟩
  have hWW := hC0.size
  unfold RgPost pt
  clear x0 x1 h
  go_enter Tryz.func33, Tryz.ntmps33
  go_wp2_with fail
  rw [← hW4]
  clear hW4
  go_loopg [7, 8] es.length (fun k a iv W' => ∃ i : Nat, iv = .int .i64 (i : Int) ∧ k = es.length - i ∧ i ≤ es.length ∧ Ents W' W4.heap.size a (memE (es.take i) f t) ∧ Chg (fun _ => False) W4 W')
  case atStart => exact ⟨0, rfl, rfl, Nat.zero_le _, Ents.nil _ _, Chg.refl _ _⟩
  case round =>
    obtain ⟨i, rfl, rfl, hi, hE, hC⟩ := hrel
    obtain ⟨r0, _, _, _, rl, _, _⟩ := (HR.out.chg0 (hC0.trans hC)).cells
    by_cases hil : i < es.length
    · have h3 : (i : Int) < (es.length : Int) := by omega
      have hx := List.getElem?_eq_getElem hil
      generalize es[i] = x at hx
      have hsn := memE_snoc (f := f) (t := t) hx
      have hin := hin9 x (List.mem_of_getElem? hx)
      obtain ⟨eb, eo, ec, ee, g1, g2, el, d0, d1⟩ := (hr.chg0 (hC0.trans hC)).at_ hx
      injection ee with ee5 _ ee6
      subst ee5
      subst ee6
      obtain ⟨y0, y1, y2, y3, y4, y5, y6⟩ := hbx _ hC
      have hml : (memE (es.take i) f t).length ≤ 400 := by
        unfold memE
        have := (List.filter_sublist (p := fun e : En => inS e.m f t) (l := es.take i)).length_le
        rw [List.length_take] at this
        omega
      have HSN := Lib.hid hsn
      have HXX := Lib.hid hx
      clear hsn hx
      obtain ⟨q, hq⟩ : ∃ q, inS x.m f t = q := ⟨_, rfl⟩
      rw [hq] at hin
      replace hq := Lib.hid hq
      generalize hml2 : (memE (es.take i) f t).length = nl at *
      replace hml2 := Lib.hid hml2
      cases q with
      | false =>
        go_wp2_with fail
        go_still_tail 10, (by kernel_rfl)
        go_wp2_with (go_at_call 49; refine (hin _).mono ?_; rintro r9 w1 ⟨rfl, C1⟩)
        go_roundg (es.length - (i + 1))
        case measure => omega
        case rel =>
          have hc1 := (Chg.refl (fun _ => False) wr).drew.trans C1
          refine ⟨i + 1, int_eq (by omega), rfl, by omega, ?_, hC.trans hc1⟩
          rw [HSN.out, hq.out, if_neg (by simp), List.append_nil]
          exact hE.chg0 hc1
      | true =>
        have m1 : nl + 1 ≤ maxLen := by unfold maxLen; omega
        have m2 : (nl + 1) * 24 ≤ 140737488355328 := by omega
        have hone : ∀ u ∈ [Value.string x.m, Value.int .i64 x.s], u.oneCell' = true := by
          intro u hu
          rcases List.mem_cons.1 hu with rfl | hu
          · rfl
          · rw [List.mem_singleton] at hu; rw [hu]; rfl
        have hS9 : ∀ W', Chg (fun _ => False) wr W' → W'.cell? ⟨rb, 0, none⟩ = some (.slice (some ⟨eb, eo, none⟩) es.length c) ∧ W'.cell? ⟨eb, eo + i * 2, none⟩ = some (.string x.m) ∧ W'.cell? ⟨eb, eo + i * 2 + 1, none⟩ = some (.int .i64 x.s) ∧ rb < W'.heap.size ∧ eb < W'.heap.size := fun W' hc => by
          obtain ⟨k1, _, _, _, k5, _, _⟩ := (HR.out.chg0 ((hC0.trans hC).trans hc)).cells
          obtain ⟨eb', eo', ec', ee', _, _, el', f0, f1⟩ := (hr.chg0 ((hC0.trans hC).trans hc)).at_ HXX.out
          injection ee' with ee1 _ ee2
          injection ee1 with ee1
          injection ee1 with ee3 ee4
          subst ee3 ee4
          exact ⟨k1, f0, f1, k5, el'⟩
        go_wp2_with fail
        go_still_tail 10, (by kernel_rfl)
        go_wp2_with (first
          | (go_at_call 49; refine (hin _).mono ?_; rintro r9 w1 ⟨rfl, C1⟩; have hc1 := (Chg.refl (fun _ => False) wr).drew.trans C1; obtain ⟨z0, z1, z2, z3, z4⟩ := hS9 _ hc1)
          | (at_builtin; refine wpList_append_any _ rfl (.tmp 29) (.tmp 37) 43 rfl W4.heap.size 54 i0 _ 2 24 Tryz.underlying43 hi0 hz0 hz1 hz2 rfl (by omega) _ nl _ rfl (by rw [← hml2.out]; exact (hE.chg0 (hc1.alloc _))) (w1.alloc (.cells #[.string x.m, .int .i64 x.s] 54)).heap.size (some ⟨w1.heap.size, 0, none⟩) 1 1 [.string x.m, .int .i64 x.s] rfl (reads_ent w1 x) hone m1 m2 (Nat.le_trans (hC.trans hc1).size (by simp)) ?_; intro v2 w2 hown2 hg2 _)
          | fail)
        have hown : Ents (w1.alloc (.cells #[.string x.m, .int .i64 x.s] 54)) W4.heap.size _ (memE (es.take i) f t) := hE.chg0 (hc1.alloc _)
        have hCf : Chg (fun _ => False) W4 w2 := ((hC.trans hc1).alloc (.cells #[.string x.m, .int .i64 x.s] 54)).trans' (app_chg hown hg2) (fun g hg h => by omega)
        go_roundg (es.length - (i + 1))
        case measure => omega
        case rel =>
          refine ⟨i + 1, int_eq (by omega), rfl, by omega, ?_, hCf⟩
          rw [HSN.out, hq.out, if_pos rfl]
          exact Ents.mk hown2 (by rw [List.length_append, hml2.out]; rfl) (by rw [flat_snoc])
    · obtain rfl : i = es.length := by omega
      have h3 : ¬ (es.length : Int) < (es.length : Int) := by omega
      rw [List.take_length] at hE
      go_wp2_with fail
      go_ret
      exact ⟨⟨_, rfl, hE.lower hWW⟩, hC0.trans hC⟩
end
end Go.Proofs.YtifcpippfiglkaaGreat

/- zset: Members. -/
namespace Go.Proofs.YtifcpippfiglkaaGreat
open Go.RowKit Pal
attribute [local go_sem] Oper.semAt_some
theorem memE_app (pre : List En) (x : En) (f t : Ed) : memE (pre ++ [x]) f t = memE pre f t ++ if inS x.m f t then [x] else [] := by
  unfold memE
  rw [List.filter_append]
  congr 1
  show [x].filter _ = _
  rw [List.filter_cons, List.filter_nil]
theorem memE_le (pre : List En) (f t : Ed) : (memE pre f t).length ≤ pre.length := (List.filter_sublist (p := fun e : En => inS e.m f t) (l := pre)).length_le
/-- What the rounds keep. -/
structure MbI (es : List En) (f t : Ed) (w0 : World) (fb OB M : Nat) (r : List En) (W : World) : Prop where
  ex : ∃ v pre, pre ++ r = es ∧ Blk W OB 43 #[v] ∧ Blk W fb 68 f.cs ∧ Blk W (fb + 1) 68 t.cs ∧ Ents W M v (memE pre f t)
  st : Stay (fun _ => False) w0 W
  M : M ≤ W.heap.size
section
variable {w : World} {base : Nat} {z : Zs} {es : List En}
set_option maxRecDepth 100000 in
set_option maxHeartbeats 4000000 in
theorem z_members (h : ZsAt w base z es) (f t : Ed) : Calls Tryz.prog 32 #[pt z.blk, .agg f.cs, .agg t.cs] w (RgPost w (memE es f t)) := by
  have hea := fun w' (hc : Chg (fun _ => False) w w') => z_each (h.chg0 hc)
  have hn4 := h.ok.n
  have hin := fun x w => inS_any x f t w
  obtain ⟨i0, hi0, hz0, hz1, hz2⟩ := info_parts ent_info
  unfold EachPost pt fnv at hea
  unfold pt
  have hC0 : Chg (fun _ => False) w (((w.alloc (.cells f.cs 68)).alloc (.cells t.cs 68)).alloc (.cells #[.slice none 0 0] 43)) := (((Chg.refl _ w).alloc _).alloc _).alloc _
  refine calls_of_wp_marks Tryz.func32 rfl ?_
  simp only [Tryz.ntmps32, List.size_toArray, List.length_cons, List.length_nil, Nat.reduceAdd, Nat.reduceSub, Array.replicate_succ, Array.replicate_zero, List.push_toArray, List.append_toArray, List.nil_append, List.cons_append]
  unfold Ed.cs at *
  go_wp2_with fail
  go_step3
  go_wp2_with fail
  go_step3
  go_wp2_with (go_at_call 47; refine (hea _ hC0).mono ?_; rintro e w' ⟨⟨v0, a, rfl, hIt, hFk⟩, hC⟩)
  have hb0 := (((Blk.new w 68 #[.string f.N, .bool f.O, .int .i64 f.I]).alloc (.cells #[.string t.N, .bool t.O, .int .i64 t.I] 68)).alloc (.cells #[.slice none 0 0] 43)).chg hC id
  have hb1 := ((Blk.new (w.alloc (.cells #[.string f.N, .bool f.O, .int .i64 f.I] 68)) 68 #[.string t.N, .bool t.O, .int .i64 t.I]).alloc (.cells #[.slice none 0 0] 43)).chg hC id
  have hb2 := (Blk.new ((w.alloc (.cells #[.string f.N, .bool f.O, .int .i64 f.I] 68)).alloc (.cells #[.string t.N, .bool t.O, .int .i64 t.I] 68)) 43 #[.slice none 0 0]).chg hC id
  have hS : Chg (fun _ => False) w w' := hC0.trans hC
  simp only [World.size_alloc] at hb0 hb1 hb2 hFk hIt ⊢
  have l2 := hb2.lt
  generalize hB9 : w.heap.size + 1 + 1 + 1 = B9 at hIt hFk
  clear hC hC0 hea
  have hlen := hn4
  have hit0 := hIt
  refine wp_range_al 81 #[pt a] rfl (enters_of Tryz.func81 (by kernel_rfl) rfl) (values_spec v0 B9 a es (by omega)) (fun _ => rfl)
    (MbI es f t w w.heap.size (w.heap.size + 1 + 1) w'.heap.size) ?_ (fun _ _ => False) (fun _ _ _ h => h.elim) es ?_ hIt (fun x => .cells #[.string x.m, .int .i64 x.s] 54) _ (fun l x W g hg K hK => by simp only [En.val, En.cells]; gi_wp2; exact hK) ?_ ?_ (fun _ _ _ _ h => h.elim)
  · rintro r W W' ⟨⟨v, pre, h1, h2, h3, h4, h5⟩, h6, h7⟩ hs
    exact ⟨⟨v, pre, h1, h2.stay hs id, h3.stay hs id, h4.stay hs id, own_stay h5 hs fun _ _ => id⟩, h6.trans' hs fun g hg h' => h', Nat.le_trans h7 hs.size⟩
  · exact ⟨⟨_, [], rfl, hb2, hb0, hb1, Ents.nil _ _⟩, .of_chg hS, Nat.le_refl _⟩
  · rintro l x r W g ⟨⟨v, pre, h1, h2, hf2, ht2, h4⟩, h5, h6⟩ ⟨hE, _⟩ hle hg ⟨W₀, ⟨⟨v1, pre0, _, q2, _, _, q4⟩, _, _⟩, qs, qg⟩
    have hgb : Blk W g 54 #[.string x.m, .int .i64 x.s] := hg
    have hv0 : v1 = v := by
      have e1 := (q2.stay qs id).symm.trans h2
      injection e1 with e1
      injection e1 with e1
      injection e1 with e1
      injection e1 with e1
    subst hv0
    have hown9 : v1.ownBlock ≠ some g := fun e => by have := (q4.lt g e).2; omega
    clear q2 q4 qs qg
    have hpl : pre.length ≤ 1000 := by
      have : pre.length ≤ es.length := by rw [← h1]; simp
      omega
    have hml := memE_le pre f t
    obtain ⟨pa, cp, rfl, hcp1, hcp2, _⟩ := h4.is
    have k0 := h2.cell 0
    have kf := h2.frozen 0
    have f0 := hf2.cell 0
    have f1 := hf2.cell 1
    have f2 := hf2.cell 2
    have t0 := ht2.cell 0
    have t1 := ht2.cell 1
    have t2 := ht2.cell 2
    have g0 := hgb.cell 0
    have g1 := hgb.cell 1
    unfold Ed.cs at f0 f1 f2 t0 t1 t2
    simp only [List.getElem?_toArray, List.getElem?_cons_zero, List.getElem?_cons_succ] at k0 f0 f1 f2 t0 t1 t2 g0 g1
    have l0 := h2.lt
    have l1 := hf2.lt
    have l2 := ht2.lt
    have l3 := hgb.lt
    have hsn := memE_app pre x f t
    have hin := fun w => hin x.m w
    obtain ⟨q, hq⟩ : ∃ q, inS x.m f t = q := ⟨_, rfl⟩
    rw [hq] at hin hsn
    have HSN := Lib.hid hsn
    have H1 := Lib.hid h1
    have hlt9 : ∀ k, vlF v0 a k → k < w'.heap.size ∧ k ≠ w.heap.size + 1 + 1 := fun k hk => by have := hFk k hk; omega
    clear h1 hsn hS hb0 hb1 hb2 hIt hit0 hFk hq hE hg
    cases q with
    | false =>
      gi_wp2
      refine ⟨trivial, CallsIn.inRound _ (callsIn_wide.2 ((hin _).mono ?_))⟩
      rintro r9 w1 ⟨rfl, C1⟩
      gi_wp2
      refine ⟨KeepsOthers.of_chg0 C1, fun k hk => C1.block k (by have := hlt9 k hk; omega) id, ⟨⟨_, pre ++ [x], by rw [← H1.out]; simp, h2.chg C1 id, hf2.chg C1 id, ht2.chg C1 id, ?_⟩, h5.trans' (.of_chg C1) (fun g hg h' => h'), Nat.le_trans h6 C1.size⟩⟩
      rw [HSN.out, if_neg (by simp), List.append_nil]
      exact h4.chg0 C1
    | true =>
      have hlen2 : (memE pre f t).length + 1 ≤ maxLen := by unfold maxLen; omega
      have hlen3 : ((memE pre f t).length + 1) * 24 ≤ 140737488355328 := by omega
      have hone : ∀ u ∈ [Value.string x.m, Value.int .i64 x.s], u.oneCell' = true := by
        intro u hu
        rcases List.mem_cons.1 hu with rfl | hu
        · rfl
        · rw [List.mem_singleton] at hu; rw [hu]; rfl
      have hk9 : ∀ w1, Chg (fun _ => False) W w1 → w1.cell? ⟨w.heap.size + 1 + 1, 0, none⟩ = some (.slice pa (memE pre f t).length cp) ∧ w1.cell? ⟨g, 0, none⟩ = some (.string x.m) ∧ w1.cell? ⟨g, 1, none⟩ = some (.int .i64 x.s) ∧ w.heap.size + 1 + 1 < w1.heap.size ∧ g < w1.heap.size := fun w1 hc => by
        have b0 := (h2.chg hc id).cell 0
        have b1 := (hgb.chg hc id).cell 0
        have b2 := (hgb.chg hc id).cell 1
        simp only [List.getElem?_toArray, List.getElem?_cons_zero, List.getElem?_cons_succ] at b0 b1 b2
        exact ⟨b0, b1, b2, (h2.chg hc id).lt, (hgb.chg hc id).lt⟩
      gi_wp2
      refine ⟨trivial, CallsIn.inRound _ (callsIn_wide.2 ((hin _).mono ?_))⟩
      rintro r9 w1 ⟨rfl, C1⟩
      obtain ⟨m0, m1, m2, m3, m4⟩ := hk9 w1 C1
      have hown0 : (w1.alloc (Obj.cells #[.string x.m, .int .i64 x.s] 54)).ownsRow w'.heap.size 54 2 (.slice pa (memE pre f t).length cp) (memE pre f t).length ((memE pre f t).flatMap En.cells) := (h4.chg0 C1).chg0 ((Chg.refl _ _).alloc _)
      have hrd := reads_ent w1 x
      have hM1 : w'.heap.size ≤ (w1.alloc (Obj.cells #[.string x.m, .int .i64 x.s] 54)).heap.size := Nat.le_trans h6 (Nat.le_trans C1.size (by simp))
      gi_wp2_with (with_reducible refine wpListIn_append_any rfl (.tmp 18) (.tmp 20) 43 rfl w'.heap.size 54 i0 _ 2 24 Tryz.underlying43 hi0 hz0 hz1 hz2 rfl (by omega) (.slice pa (memE pre f t).length cp) (memE pre f t).length _ rfl hown0 (w1.alloc (Obj.cells #[.string x.m, .int .i64 x.s] 54)).heap.size (some ⟨w1.heap.size, 0, none⟩) 1 1 [Value.string x.m, Value.int .i64 x.s] rfl hrd hone hlen2 hlen3 hM1 ?_)
      intro v2 w2 hown2 hg2 _
      obtain ⟨g1', cp1, rfl⟩ := ownsRow_succ hown2
      have a1 := app_chg hown0 hg2
      have a2 := app_keeps hown0 hg2
      have b0 : Blk w2 (w.heap.size + 1 + 1) 43 #[.slice pa (memE pre f t).length cp] := Blk.chg ((h2.chg C1 id).alloc _) a1 (by omega)
      have b1 : Blk w2 w.heap.size 68 f.cs := Blk.chg ((hf2.chg C1 id).alloc _) a1 (by omega)
      have b2 : Blk w2 (w.heap.size + 1) 68 t.cs := Blk.chg ((ht2.chg C1 id).alloc _) a1 (by omega)
      have c0 := b0.cell 0
      have f0 := b0.frozen 0
      simp only [List.getElem?_toArray, List.getElem?_cons_zero] at c0
      have n0 := b0.lt
      gi_wp2_with fail
      have a3 : Chg (fun k => k = w.heap.size + 1 + 1 ∨ w'.heap.size ≤ k) W (w2.setCell ⟨w.heap.size + 1 + 1, 0, none⟩ (.slice (some ⟨g1', 0, none⟩) ((memE pre f t).length + 1) cp1)) :=
        (((C1.mono fun _ _ h => h.elim).alloc _).trans' a1 fun _ _ h => .inr h).store (.inl rfl) 0 _
      refine ⟨((((KeepsOthers.of_chg0 C1).trans (KeepsOthers.alloc _ _)).trans a2).trans (KeepsOthers.setCell _ _ _)), fun k hk => a3.block k (by have := hlt9 k hk; omega) (by have := hlt9 k hk; omega), ⟨⟨_, pre ++ [x], by rw [← H1.out]; simp, b0.set 0 _, b1.far (show w.heap.size ≠ w.heap.size + 1 + 1 by omega) _, b2.far (show w.heap.size + 1 ≠ w.heap.size + 1 + 1 by omega) _, ?_⟩, h5.trans' (.of_chg a3) (fun g hg h' => by omega), Nat.le_trans h6 a3.size⟩⟩
      have h9 := own_stay (F := fun k => k = w.heap.size + 1 + 1) hown2 (.of_chg ((Chg.refl (fun k => k = w.heap.size + 1 + 1) w2).store rfl 0 (.slice (some ⟨g1', 0, none⟩) ((memE pre f t).length + 1) cp1))) (fun g hg h' => by have := (hown2.lt g hg).1; omega)
      rw [HSN.out, if_pos trivial]
      exact Ents.mk h9 (by rw [List.length_append]; rfl) (by rw [flat_snoc])
  · rintro D W hD ⟨⟨v, pre, h1, h2, h3, h4, h5⟩, h6, h7⟩ hO hDd
    rw [List.append_nil] at h1
    subst h1
    have hC : Chg (fun _ => False) w W := .of_stay h6 ((KeepsOthers.of_chg0 hS).trans hO)
    have hwD : w.heap.size ≤ D := Nat.le_trans hS.size hD
    have k0 := h2.cell 0
    simp only [List.getElem?_toArray, List.getElem?_cons_zero] at k0
    have l0 := h2.lt
    clear hb0 hb1 hb2 hIt hit0 hFk
    have hWs := hS.size
    go_wp2_with fail
    try rw [Exit.noGoto_ret]
    refine bodyPostM_ret (D := D) (v := v) rfl hDd (by simp [results, Tryz.results32, go_sem]) ⟨⟨v, rfl, ?_⟩, ?_⟩
    · exact Ents.lower (h5.stay (Stay.put (F := fun _ => False) hDd rfl _) fun _ _ => id) hWs
    · exact hC.put (by omega) _
end
end Go.Proofs.YtifcpippfiglkaaGreat

/- zset: Between. -/
namespace Go.Proofs.YtifcpippfiglkaaGreat
open Go.RowKit Pal
attribute [local go_sem] Oper.semAt_some

def leastB : Bd := ⟨0, false, -1⟩
def mostB : Bd := ⟨0, false, 1⟩
theorem in_most (x : Int) (f : Bd) : inB x f mostB = loB x f := by unfold inB hiB mostB; simp
theorem in_least (x : Int) (t : Bd) : inB x leastB t = hiB x t := by unfold inB loB leastB; simp
def fromE (es : List En) (f : Bd) : Nat := (es.takeWhile fun e => !loB e.s f).length
def upE (es : List En) (t : Bd) : Nat := (es.takeWhile fun e => hiB e.s t).length
theorem loB_mono {x y : Int} {f : Bd} (h : x ≤ y) (hx : loB x f = true) : loB y f = true := by
  unfold loB at *
  simp only [Bool.or_eq_true, decide_eq_true_eq, Bool.and_eq_true] at hx ⊢
  rcases hx with hx | ⟨h1, hx | ⟨h2, h3⟩⟩
  · exact .inl hx
  · exact .inr ⟨h1, .inl (by omega)⟩
  · by_cases he : y = f.N
    · exact .inr ⟨h1, .inr ⟨he, h3⟩⟩
    · exact .inr ⟨h1, .inl (by omega)⟩
theorem hiB_mono {x y : Int} {f : Bd} (h : x ≤ y) (hx : hiB y f = true) : hiB x f = true := by
  unfold hiB at *
  simp only [Bool.or_eq_true, decide_eq_true_eq, Bool.and_eq_true] at hx ⊢
  rcases hx with hx | ⟨h1, hx | ⟨h2, h3⟩⟩
  · exact .inl hx
  · exact .inr ⟨h1, .inl (by omega)⟩
  · by_cases he : x = f.N
    · exact .inr ⟨h1, .inr ⟨he, h3⟩⟩
    · exact .inr ⟨h1, .inl (by omega)⟩
theorem sc_mono {es : List En} (hs : es.Pairwise ltE) {i j : Nat} {x y : En} (hi : es[i]? = some x) (hj : es[j]? = some y) (h : i ≤ j) : x.s ≤ y.s := by
  rcases Nat.lt_or_ge i j with h1 | h1
  · obtain ⟨hi1, rfl⟩ := List.getElem?_eq_some_iff.1 hi
    obtain ⟨hj1, rfl⟩ := List.getElem?_eq_some_iff.1 hj
    rcases (List.pairwise_iff_getElem.1 hs) i j hi1 hj1 h1 with h2 | ⟨h2, _⟩ <;> omega
  · have : i = j := by omega
    subst this
    rw [hi] at hj
    injection hj with hj
    rw [hj]; exact Int.le_refl _
/-- How far a property reaches that holds ahead of a place and not behind. -/
theorem tw_lt {α : Type} {p : α → Bool} : ∀ {l : List α} {j : Nat} {x : α}, l[j]? = some x → j < (l.takeWhile p).length → p x = true
  | y :: l, 0, x, h, hl => by
    rw [List.takeWhile_cons] at hl
    injection h with h
    subst h
    split at hl
    · assumption
    · simp at hl
  | y :: l, j + 1, x, h, hl => by
    rw [List.takeWhile_cons] at hl
    split at hl
    · exact tw_lt (l := l) (by simpa using h) (by simpa using hl)
    · simp at hl
theorem tw_at {α : Type} {p : α → Bool} : ∀ {l : List α} {x : α}, l[(l.takeWhile p).length]? = some x → p x = false
  | y :: l, x, h => by
    rw [List.takeWhile_cons] at h
    split at h
    · exact tw_at (l := l) (by simpa using h)
    · rename_i h2
      simp only [List.length_nil, List.getElem?_cons_zero, Option.some.injEq] at h
      subst h
      simpa using h2
theorem tw_le {α : Type} (p : α → Bool) (l : List α) : (l.takeWhile p).length ≤ l.length := (List.takeWhile_sublist _).length_le
theorem from_ge {es : List En} (hs : es.Pairwise ltE) {f : Bd} {j : Nat} {x : En} (hx : es[j]? = some x) (h : fromE es f ≤ j) : loB x.s f = true := by
  have hl := tw_le (fun e : En => !loB e.s f) es
  have hj := (List.getElem?_eq_some_iff.1 hx).1
  have hk : fromE es f < es.length := by unfold fromE at h ⊢; omega
  have h2 := tw_at (p := fun e : En => !loB e.s f) (l := es) (x := es[fromE es f]) (List.getElem?_eq_getElem hk)
  exact loB_mono (sc_mono hs (List.getElem?_eq_getElem hk) hx h) (by simpa using h2)
theorem up_ge {es : List En} (hs : es.Pairwise ltE) {t : Bd} {j : Nat} {x : En} (hx : es[j]? = some x) (h : upE es t ≤ j) : hiB x.s t = false := by
  have hl := tw_le (fun e : En => hiB e.s t) es
  have hj := (List.getElem?_eq_some_iff.1 hx).1
  have hk : upE es t < es.length := by unfold upE at h ⊢; omega
  have h2 := tw_at (p := fun e : En => hiB e.s t) (l := es) (x := es[upE es t]) (List.getElem?_eq_getElem hk)
  cases hh : hiB x.s t with
  | false => rfl
  | true =>
    have := hiB_mono (sc_mono hs (List.getElem?_eq_getElem hk) hx h) hh
    rw [this] at h2
    cases h2
section
variable {w0 W : World} {b : Nat} {z : Zs} {es : List En} {is : Bool} {E M : Nat}
set_option maxRecDepth 100000 in
theorem bt1_any (e : En) (f t : Bd) (A B : Nat) (w : World) (hA : Blk w A 65 f.cs) (hB : Blk w B 65 t.cs) : Calls Tryz.prog 43 #[e.val, pt A, pt B] w fun r w' => r = .returned (.bool (!inB e.s f t)) ∧ Chg (fun _ => False) w w' := by
  have hin := fun w => in_any e.s f t w
  unfold Bd.cs En.val pt at *
  have a0 := hA.cell 0
  have a1 := hA.cell 1
  have a2 := hA.cell 2
  have b0 := hB.cell 0
  have b1 := hB.cell 1
  have b2 := hB.cell 2
  have la := hA.lt
  have lb := hB.lt
  simp only [List.getElem?_toArray, List.getElem?_cons_zero, List.getElem?_cons_succ] at a0 a1 a2 b0 b1 b2
  generalize inB e.s f t = q at *
  clear hA hB
  go_enter Tryz.func43, Tryz.ntmps43
  go_wp2_with (go_at_call 44; refine (hin _).mono ?_; rintro r w1 ⟨rfl, hC⟩)
  go_ret
  exact ⟨rfl, ((Chg.refl _ _).alloc _).trans hC⟩
set_option maxRecDepth 100000 in
theorem bt2_any (e : En) (f t : Bd) (A B : Nat) (w : World) (hA : Blk w A 65 f.cs) (hB : Blk w B 65 t.cs) : Calls Tryz.prog 45 #[e.val, pt A, pt B] w fun r w' => r = .returned (.bool (inB e.s f t)) ∧ Chg (fun _ => False) w w' := by
  have hin := fun w => in_any e.s f t w
  unfold Bd.cs En.val pt at *
  have a0 := hA.cell 0
  have a1 := hA.cell 1
  have a2 := hA.cell 2
  have b0 := hB.cell 0
  have b1 := hB.cell 1
  have b2 := hB.cell 2
  have la := hA.lt
  have lb := hB.lt
  simp only [List.getElem?_toArray, List.getElem?_cons_zero, List.getElem?_cons_succ] at a0 a1 a2 b0 b1 b2
  generalize inB e.s f t = q at *
  clear hA hB
  go_enter Tryz.func45, Tryz.ntmps45
  go_wp2_with (go_at_call 44; refine (hin _).mono ?_; rintro r w1 ⟨rfl, hC⟩)
  go_ret
  exact ⟨rfl, ((Chg.refl _ _).alloc _).trans hC⟩
set_option maxRecDepth 100000 in
set_option maxHeartbeats 2000000 in
theorem ow_between (h : Ow w0 W b z es is E M) (f t : Bd) : Calls Tryz.prog 30 #[pt b, .agg f.cs, .agg t.cs] W fun r W' => r = .returned (.tuple #[.int .i64 (fromE es f : Int), .int .i64 ((max (fromE es f) (upE es t) : Nat) : Int)]) ∧ Chg (fun _ => False) W W' := by
  have hs := h.at_.ok.so
  obtain ⟨W4, hW4⟩ : ∃ W4, W4 = (((W.alloc (.cells f.cs 65)).alloc (.cells t.cs 65)).alloc (.cells leastB.cs 65)).alloc (.cells mostB.cs 65) := ⟨_, rfl⟩
  have hC0 := ((((Chg.refl (fun _ => False) W).alloc (.cells f.cs 65)).alloc (.cells t.cs 65)).alloc (.cells leastB.cs 65)).alloc (.cells mostB.cs 65)
  have x0 := (((Blk.new W 65 f.cs).alloc (.cells t.cs 65)).alloc (.cells leastB.cs 65)).alloc (.cells mostB.cs 65)
  have x1 := ((Blk.new (W.alloc (.cells f.cs 65)) 65 t.cs).alloc (.cells leastB.cs 65)).alloc (.cells mostB.cs 65)
  have x2 := (Blk.new ((W.alloc (.cells f.cs 65)).alloc (.cells t.cs 65)) 65 leastB.cs).alloc (.cells mostB.cs 65)
  have x3 := Blk.new (((W.alloc (.cells f.cs 65)).alloc (.cells t.cs 65)).alloc (.cells leastB.cs 65)) 65 mostB.cs
  simp only [World.size_alloc] at x1 x2 x3
  rw [← hW4] at hC0 x0 x1 x2 x3
  have p1 := fun (W' : World) (hc : Chg (fun _ => False) W4 W') => place_any 43 #[pt W.heap.size, pt (W.heap.size + 1 + 1 + 1)] (fun e => !inB e.s f mostB) (enters_of Tryz.func43 (by kernel_rfl) rfl) (h.chg0 (hC0.trans hc)).at_
    (fun e he W'' hc' => bt1_any e f mostB _ _ W'' (x0.chg (hc.trans hc') id) (x3.chg (hc.trans hc') id)) (fromE es f) (tw_le _ _)
    (fun j e he hj => by rw [in_most]; exact tw_lt (p := fun e : En => !loB e.s f) he hj) (fun j e he hj => by rw [in_most, from_ge hs he hj]; rfl)
  have p2 := fun (W' : World) (hc : Chg (fun _ => False) W4 W') => place_any 45 #[pt (W.heap.size + 1 + 1), pt (W.heap.size + 1)] (fun e => inB e.s leastB t) (enters_of Tryz.func45 (by kernel_rfl) rfl) (h.chg0 (hC0.trans hc)).at_
    (fun e he W'' hc' => bt2_any e leastB t _ _ W'' (x2.chg (hc.trans hc') id) (x1.chg (hc.trans hc') id)) (upE es t) (tw_le _ _)
    (fun j e he hj => by rw [in_least]; exact tw_lt (p := fun e : En => hiB e.s t) he hj) (fun j e he hj => by rw [in_least]; exact up_ge hs he hj)
  rw [h.blk] at p1 p2
  unfold fnv pt at *
  generalize fromE es f = A at *
  generalize upE es t = B at *
  have hcf : f.cs = #[.int .i64 f.N, .bool f.O, .int .i64 f.I] := rfl
  have hct : t.cs = #[.int .i64 t.N, .bool t.O, .int .i64 t.I] := rfl
  have hcl : leastB.cs = #[.int .i64 0, .bool false, .int .i64 (-1)] := rfl
  have hcm : mostB.cs = #[.int .i64 0, .bool false, .int .i64 1] := rfl
  rw [hcf, hct, hcl, hcm] at hW4
  rw [hcf, hct]
  rw [show ((max A B : Nat) : Int) = max (A : Int) (B : Int) by omega]
  clear x0 x1 x2 x3 hcf hct hcl hcm h hs
  go_enter Tryz.func30, Tryz.ntmps30
  go_wp2_with (first | (go_at_call 40; refine (p2 _ C1).mono ?_; rintro r9 w2 ⟨rfl, C2⟩) | (go_at_call 40; rw [← hW4]; refine (p1 _ (Chg.refl _ _)).mono ?_; rintro r9 w1 ⟨rfl, C1⟩) | fail)
  go_ret2
  exact ⟨rfl, hC0.trans (C1.trans C2)⟩
end
end Go.Proofs.YtifcpippfiglkaaGreat

/- palioref09.In. -/
namespace Go.Proofs.YtifcpippfiglkaaGreat
open Go.RowKit Pal
attribute [local go_sem] Oper.semAt_some
theorem lo_cases (x N I : Int) (O : Bool) : (I < 0 ∧ loB x ⟨N, O, I⟩ = true) ∨ (¬ I < 0 ∧ (I == 0) = false ∧ loB x ⟨N, O, I⟩ = false) ∨ (I = 0 ∧ N < x ∧ loB x ⟨N, O, I⟩ = true) ∨ (I = 0 ∧ ¬ N < x ∧ x = N ∧ O = true ∧ loB x ⟨N, O, I⟩ = false) ∨ (I = 0 ∧ ¬ N < x ∧ x = N ∧ O = false ∧ loB x ⟨N, O, I⟩ = true) ∨ (I = 0 ∧ ¬ N < x ∧ (x == N) = false ∧ loB x ⟨N, O, I⟩ = false) := by
  unfold loB
  rcases Int.lt_trichotomy I 0 with h | h | h
  · exact .inl ⟨h, by simp [h]⟩
  · subst h
    rcases Int.lt_trichotomy N x with h | h | h
    · exact .inr (.inr (.inl ⟨rfl, h, by simp [h]⟩))
    · subst h
      cases O
      · exact .inr (.inr (.inr (.inr (.inl ⟨rfl, by omega, rfl, rfl, by simp⟩))))
      · exact .inr (.inr (.inr (.inl ⟨rfl, by omega, rfl, rfl, by simp⟩)))
    · have h2 : ¬ x = N := by omega
      have h3 : ¬ N < x := by omega
      exact .inr (.inr (.inr (.inr (.inr ⟨rfl, h3, by simpa using h2, by simp [h2, h3]⟩))))
  · have h2 : ¬ I = 0 := by omega
    have h3 : ¬ I < 0 := by omega
    exact .inr (.inl ⟨h3, by simpa using h2, by simp [h2, h3]⟩)
theorem hi_cases (x N I : Int) (O : Bool) : (0 < I ∧ hiB x ⟨N, O, I⟩ = true) ∨ (¬ 0 < I ∧ (I == 0) = false ∧ hiB x ⟨N, O, I⟩ = false) ∨ (I = 0 ∧ x < N ∧ hiB x ⟨N, O, I⟩ = true) ∨ (I = 0 ∧ ¬ x < N ∧ x = N ∧ O = true ∧ hiB x ⟨N, O, I⟩ = false) ∨ (I = 0 ∧ ¬ x < N ∧ x = N ∧ O = false ∧ hiB x ⟨N, O, I⟩ = true) ∨ (I = 0 ∧ ¬ x < N ∧ (x == N) = false ∧ hiB x ⟨N, O, I⟩ = false) := by
  unfold hiB
  rcases Int.lt_trichotomy I 0 with h | h | h
  · have h2 : ¬ I = 0 := by omega
    have h3 : ¬ 0 < I := by omega
    exact .inr (.inl ⟨h3, by simpa using h2, by simp [h2, h3]⟩)
  · subst h
    rcases Int.lt_trichotomy x N with h | h | h
    · exact .inr (.inr (.inl ⟨rfl, h, by simp [h]⟩))
    · subst h
      cases O
      · exact .inr (.inr (.inr (.inr (.inl ⟨rfl, by omega, rfl, rfl, by simp⟩))))
      · exact .inr (.inr (.inr (.inl ⟨rfl, by omega, rfl, rfl, by simp⟩)))
    · have h2 : ¬ x = N := by omega
      have h3 : ¬ x < N := by omega
      exact .inr (.inr (.inr (.inr (.inr ⟨rfl, h3, by simpa using h2, by simp [h2, h3]⟩))))
  · exact .inl ⟨h, by simp [h]⟩
set_option maxRecDepth 100000 in
set_option maxHeartbeats 8000000 in
theorem in9_any (x : Int) (f t : Bd) (w : World) : Calls Tryz.prog 46 #[.int .i64 x, .agg f.cs, .agg t.cs] w fun r w' => r = .returned (.bool (inB x f t)) ∧ Chg (fun _ => False) w w' := by
  obtain ⟨N, O, I⟩ := f
  obtain ⟨N2, O2, I2⟩ := t
  have h1 := lo_cases x N I O
  have h2 := hi_cases x N2 I2 O2
  unfold inB Bd.cs
  dsimp only
  rcases h1 with ⟨a1, a2⟩ | ⟨a1, a2, a3⟩ | ⟨rfl, a1, a2⟩ | ⟨rfl, a1, rfl, rfl, a2⟩ | ⟨rfl, a1, rfl, rfl, a2⟩ | ⟨rfl, a1, a2, a3⟩ <;>
  rcases h2 with ⟨b1, b2⟩ | ⟨b1, b2, b3⟩ | ⟨rfl, b1, b2⟩ | ⟨rfl, b1, rfl, rfl, b2⟩ | ⟨rfl, b1, rfl, rfl, b2⟩ | ⟨rfl, b1, b2, b3⟩ <;>
  · first | rw [a2] | rw [a3]
    first | rw [b2] | rw [b3]
    go_enter Tryz.func46, Tryz.ntmps46
    go_wp2_with fail
    go_ret
    exact ⟨by first | rfl | simp, ((Chg.refl _ _).alloc _).alloc _⟩
end Go.Proofs.YtifcpippfiglkaaGreat
