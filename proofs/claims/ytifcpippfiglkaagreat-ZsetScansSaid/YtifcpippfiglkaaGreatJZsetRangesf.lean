/- Texts joined for ZsetRanges: RBS, ZD, ZM, ZRA, RG, ZsetRanges. -/
import Derived.Test.YtifcpippfiglkaaGreatJZsetRangesa
import Derived.Test.YtifcpippfiglkaaGreatJZsetRangesb
import Derived.Test.YtifcpippfiglkaaGreatJZsetRangesd
import Derived.Test.YtifcpippfiglkaaGreatJZsetRangese
import Derived.Test.YtifcpippfiglkaaGreatJZsetWaysa
import Derived.Test.YtifcpippfiglkaaGreatJZsetWaysq
import Derived.Deep.Cut
import Derived.Deep.CutRange
import Derived.Deep.RegionHeld3
set_option linter.unusedVariables false
set_option linter.unusedSimpArgs false

/- palioref09.InEdge. -/
namespace Go.Proofs.YtifcpippfiglkaaGreat
open Go.RowKit Pal
attribute [local go_sem] Oper.semAt_some
theorem loS_cases (x N : ByteArray) (I : Int) (O : Bool) : (I < 0 ∧ loS x ⟨N, O, I⟩ = true) ∨ (¬ I < 0 ∧ (I == 0) = false ∧ loS x ⟨N, O, I⟩ = false) ∨ (I = 0 ∧ decide (ltB N x) = true ∧ loS x ⟨N, O, I⟩ = true) ∨ (I = 0 ∧ decide (ltB N x) = false ∧ (x.toList == N.toList) = true ∧ O = true ∧ loS x ⟨N, O, I⟩ = false) ∨ (I = 0 ∧ decide (ltB N x) = false ∧ (x.toList == N.toList) = true ∧ O = false ∧ loS x ⟨N, O, I⟩ = true) ∨ (I = 0 ∧ decide (ltB N x) = false ∧ (x.toList == N.toList) = false ∧ loS x ⟨N, O, I⟩ = false) := by
  unfold loS
  rcases Int.lt_trichotomy I 0 with h | h | h
  · exact .inl ⟨h, by simp [h]⟩
  · subst h
    rcases triS N x with h | h | h
    · exact .inr (.inr (.inl ⟨rfl, decide_eq_true h, by simp [h]⟩))
    · subst h
      have n1 := ltB_irrefl N
      cases O
      · exact .inr (.inr (.inr (.inr (.inl ⟨rfl, decide_eq_false n1, toListE N, rfl, by simp⟩))))
      · exact .inr (.inr (.inr (.inl ⟨rfl, decide_eq_false n1, toListE N, rfl, by simp [n1]⟩)))
    · have n1 : ¬ ltB N x := fun h2 => ltB_irrefl _ (ltB_trans h2 h)
      have n2 : ¬ x = N := fun h2 => ltB_irrefl _ (h2 ▸ h)
      exact .inr (.inr (.inr (.inr (.inr ⟨rfl, decide_eq_false n1, toListN n2, by simp [n1, n2]⟩))))
  · have h2 : ¬ I = 0 := by omega
    have h3 : ¬ I < 0 := by omega
    exact .inr (.inl ⟨h3, by simpa using h2, by simp [h2, h3]⟩)
theorem hiS_cases (x N : ByteArray) (I : Int) (O : Bool) : (0 < I ∧ hiS x ⟨N, O, I⟩ = true) ∨ (¬ 0 < I ∧ (I == 0) = false ∧ hiS x ⟨N, O, I⟩ = false) ∨ (I = 0 ∧ decide (ltB x N) = true ∧ hiS x ⟨N, O, I⟩ = true) ∨ (I = 0 ∧ decide (ltB x N) = false ∧ (x.toList == N.toList) = true ∧ O = true ∧ hiS x ⟨N, O, I⟩ = false) ∨ (I = 0 ∧ decide (ltB x N) = false ∧ (x.toList == N.toList) = true ∧ O = false ∧ hiS x ⟨N, O, I⟩ = true) ∨ (I = 0 ∧ decide (ltB x N) = false ∧ (x.toList == N.toList) = false ∧ hiS x ⟨N, O, I⟩ = false) := by
  unfold hiS
  rcases Int.lt_trichotomy I 0 with h | h | h
  · have h2 : ¬ I = 0 := by omega
    have h3 : ¬ 0 < I := by omega
    exact .inr (.inl ⟨h3, by simpa using h2, by simp [h2, h3]⟩)
  · subst h
    rcases triS x N with h | h | h
    · exact .inr (.inr (.inl ⟨rfl, decide_eq_true h, by simp [h]⟩))
    · subst h
      have n1 := ltB_irrefl x
      cases O
      · exact .inr (.inr (.inr (.inr (.inl ⟨rfl, decide_eq_false n1, toListE x, rfl, by simp⟩))))
      · exact .inr (.inr (.inr (.inl ⟨rfl, decide_eq_false n1, toListE x, rfl, by simp [n1]⟩)))
    · have n1 : ¬ ltB x N := fun h2 => ltB_irrefl _ (ltB_trans h2 h)
      have n2 : ¬ x = N := fun h2 => ltB_irrefl _ (h2 ▸ h)
      exact .inr (.inr (.inr (.inr (.inr ⟨rfl, decide_eq_false n1, toListN n2, by simp [n1, n2]⟩))))
  · exact .inl ⟨h, by simp [h]⟩
set_option maxRecDepth 100000 in
set_option maxHeartbeats 16000000 in
theorem inS9_any (x : ByteArray) (f t : Ed) (w : World) (hx : x.size ≤ 9223372036854775807) (hf : f.N.size ≤ 9223372036854775807) (ht : t.N.size ≤ 9223372036854775807) : Calls Tryz.prog 49 #[.string x, .agg f.cs, .agg t.cs] w fun r w' => r = .returned (.bool (inS x f t)) ∧ Chg (fun _ => False) w w' := by
  obtain ⟨W2, hW2⟩ : ∃ W2, W2 = (w.alloc (.cells f.cs 68)).alloc (.cells t.cs 68) := ⟨_, rfl⟩
  have hC0 := ((Chg.refl (fun _ => False) w).alloc (.cells f.cs 68)).alloc (.cells t.cs 68)
  have hx1 := (Blk.new w 68 f.cs).alloc (.cells t.cs 68)
  have hx2 := Blk.new (w.alloc (.cells f.cs 68)) 68 t.cs
  rw [World.size_alloc] at hx2
  rw [← hW2] at hC0 hx1 hx2
  obtain ⟨N, O, I⟩ := f
  obtain ⟨N2, O2, I2⟩ := t
  have h1 := loS_cases x N I O
  have h2 := hiS_cases x N2 I2 O2
  have l1 := fun w => less7_any N x w hf hx
  have l2 := fun w => less7_any x N2 w hx ht
  unfold inS Ed.cs at *
  dsimp only at *
  have hS : ∀ W', Chg (fun _ => False) W2 W' → W'.cell? ⟨w.heap.size, 0, none⟩ = some (.string N) ∧ W'.cell? ⟨w.heap.size, 1, none⟩ = some (.bool O) ∧ W'.cell? ⟨w.heap.size, 2, none⟩ = some (.int .i64 I) ∧ W'.cell? ⟨w.heap.size + 1, 0, none⟩ = some (.string N2) ∧ W'.cell? ⟨w.heap.size + 1, 1, none⟩ = some (.bool O2) ∧ W'.cell? ⟨w.heap.size + 1, 2, none⟩ = some (.int .i64 I2) := fun W' hc => ⟨by have := (hx1.chg hc id).cell 0; simpa using this, by have := (hx1.chg hc id).cell 1; simpa using this, by have := (hx1.chg hc id).cell 2; simpa using this, by have := (hx2.chg hc id).cell 0; simpa using this, by have := (hx2.chg hc id).cell 1; simpa using this, by have := (hx2.chg hc id).cell 2; simpa using this⟩
  clear hx1 hx2
  obtain ⟨d1, hd1⟩ : ∃ d, decide (ltB N x) = d := ⟨_, rfl⟩
  obtain ⟨d2, hd2⟩ : ∃ d, decide (ltB x N2) = d := ⟨_, rfl⟩
  rw [hd1] at l1 h1
  rw [hd2] at l2 h2
  clear hd1 hd2
  obtain ⟨s0, s1, s2, _⟩ := hS _ (Chg.refl _ W2)
  go_enter Tryz.func49, Tryz.ntmps49
  go_upto_region 1 with fail
  rw [← hW2]
  clear hW2
  go_cut [7] from 9 to 33 (fun s wx => s = .bool (loS x ⟨N, O, I⟩) ∧ Chg (fun _ => False) W2 wx)
  case first =>
    clear h2 l2 hS
    rcases h1 with ⟨a1, a2⟩ | ⟨a1, a2, a3⟩ | ⟨rfl, rfl, a2⟩ | ⟨rfl, rfl, a1, rfl, a2⟩ | ⟨rfl, rfl, a1, rfl, a2⟩ | ⟨rfl, rfl, a2, a3⟩ <;>
    · go_wp2_with (first | (go_at_call 67; refine (l1 _).mono ?_; rintro r9 w1 ⟨rfl, k1, rfl⟩) | fail)
      go_meet
      first | rw [a2] | rw [a3]
      exact ⟨by first | rfl | simp, by first | exact Chg.refl _ _ | exact (Chg.refl _ _).drewN _⟩
  case rest =>
    obtain ⟨rfl, hC1⟩ := hcut
    obtain ⟨_, _, _, q0, q1, q2⟩ := hS _ hC1
    clear s0 s1 s2
    generalize hlo : loS x ⟨N, O, I⟩ = lo
    replace hlo := Lib.hid hlo
    go_upto_region 2 with fail
    go_cut [8] from 34 to 58 (fun s wx => s = .bool (hiS x ⟨N2, O2, I2⟩) ∧ Chg (fun _ => False) W2 wx)
    case first =>
      clear h1 l1 hS
      rcases h2 with ⟨a1, a2⟩ | ⟨a1, a2, a3⟩ | ⟨rfl, rfl, a2⟩ | ⟨rfl, rfl, a1, rfl, a2⟩ | ⟨rfl, rfl, a1, rfl, a2⟩ | ⟨rfl, rfl, a2, a3⟩ <;>
      · go_wp2_with (first | (go_at_call 67; refine (l2 _).mono ?_; rintro r9 w1 ⟨rfl, k1, rfl⟩) | fail)
        go_meet
        first | rw [a2] | rw [a3]
        exact ⟨by first | rfl | simp, by first | exact hC1 | exact hC1.trans ((Chg.refl _ _).drewN _)⟩
    case rest =>
      obtain ⟨rfl, hC2⟩ := hcut
      generalize hhi : hiS x ⟨N2, O2, I2⟩ = hi
      replace hhi := Lib.hid hhi
      cases lo <;>
      · go_wp2_with fail
        go_ret
        exact ⟨by rw [hlo.out, hhi.out]; rfl, hC0.trans hC2⟩
end Go.Proofs.YtifcpippfiglkaaGreat

/- did: an act, on a set and on the document's. -/
namespace Go.Proofs.YtifcpippfiglkaaGreat
open Go.RowKit Pal
attribute [local go_sem] Oper.semAt_some

structure SR (w0 W : World) (b : Nat) (z : Zs) (rb : Nat) (v : Value) (es es2 : List En) (is is2 : Bool) (E M : Nat) : Prop where
  s : Ow w0 W b z es is E M
  r : Rf w0 W rb es2 is2 E M v
section
variable {w0 W W' : World} {b rb : Nat} {z z' : Zs} {v v' : Value} {es es2 es' : List En} {is is2 is' : Bool} {E M : Nat}
theorem SR.no (h : SR w0 W b z rb v es es2 is is2 E M) : ¬ z.foot rb ∧ ∀ g, v.ownBlock = some g → ¬ z.foot g := by
  constructor
  · intro hf
    obtain ⟨t, cs, hb, ht⟩ := zs_ty h.s.at_ hf
    refine h.r.b.ne_type hb ?_ rfl
    rcases ht with rfl | rfl | rfl | rfl | rfl | rfl | rfl | rfl <;> decide
  · intro g hg hf
    obtain ⟨t, cs, hb, ht⟩ := zs_ty h.s.at_ hf
    exact hb.not_own h.r.own (by rcases ht with rfl | rfl | rfl | rfl | rfl | rfl | rfl | rfl <;> decide) hg
theorem SR.chg0 (h : SR w0 W b z rb v es es2 is is2 E M) (hc : Chg (fun _ => False) W W') : SR w0 W' b z rb v es es2 is is2 E M := ⟨h.s.chg0 hc, h.r.chg0 hc⟩
theorem SR.one (h : SR w0 W b z rb v es es2 is is2 E M) (h' : Ow w0 W' b z' es' is' E M) (hn : Nz z z' W W') : SR w0 W' b z' rb v es' es2 is' is2 E M :=
  ⟨h', h.r.keep hn.chg h.no.1 h.no.2⟩
theorem SR.two (h : SR w0 W b z rb v es es2 is is2 E M) (h' : Rf w0 W' rb es' is' E M v') (hc : Chg (fun g => g = rb) W W') : SR w0 W' b z rb v' es es' is is' E M :=
  ⟨h.s.keep hc (fun g hg e => h.no.1 (e ▸ hg)) (fun g e => e ▸ h.r.ge), h'⟩
def DidPost (w0 W : World) (z0 : Zs) (b rb E M : Nat) (r : Ending) (W' : World) : Prop := r = .returned (.bool true) ∧ (∃ z v es is, SR w0 W' b z rb v es es is is E M) ∧ Chg (fun g => z0.foot g ∨ g = rb) W W'
set_option maxRecDepth 100000 in
set_option maxHeartbeats 8000000 in
theorem did11_any (h : SR w0 W b z rb v es es is is E M) (x : Act6) (hx : x.Ok) : Calls Tryz.prog 18 #[pt b, pt rb, .agg #[.int .i64 x.Do, .string x.M, .int .i64 x.S, .int .i64 x.L, .int .i64 x.F, .int .i64 x.T]] W (DidPost w0 W z b rb E M) := by
  have HS := Lib.hid h
  have hks : (cutS x.M 70).size ≤ 9223372036854775807 := Nat.le_trans (cutS_size _ _) hx.m
  have hna := fun W => name_any x.M W hx.m
  have wS := bounds_i64 hx.s
  generalize cutS x.M 70 = m at *
  obtain ⟨r, hr, hcase⟩ := mod8 x.Do
  have hza := fun W z (h : Ow w0 W b z es is E M) => ow_add h m x.S x.L hks wS
  have hra := fun W v (h : Rf w0 W rb es is E M v) => rf_add h m x.S x.L wS
  have hzr := fun W z (h : Ow w0 W b z es is E M) => ow_remove h m hks
  have hrr := fun W v (h : Rf w0 W rb es is E M v) => rf_remove h m
  have hzc := fun W z (h : Ow w0 W b z es is E M) => ow_cut h x.F x.T
  have hrc := fun W v (h : Rf w0 W rb es is E M v) => rf_cut h x.F x.T
  unfold RPost at hra hrr hrc
  unfold pt at *
  have hb1 := Blk.new W 30 #[.int .i64 x.Do, .string x.M, .int .i64 x.S, .int .i64 x.L, .int .i64 x.F, .int .i64 x.T]
  have hcl : ∀ W', Blk W' W.heap.size 30 #[.int .i64 x.Do, .string x.M, .int .i64 x.S, .int .i64 x.L, .int .i64 x.F, .int .i64 x.T] → W'.cell? ⟨W.heap.size, 1, none⟩ = some (.string x.M) ∧ W'.cell? ⟨W.heap.size, 2, none⟩ = some (.int .i64 x.S) ∧ W'.cell? ⟨W.heap.size, 3, none⟩ = some (.int .i64 x.L) ∧ W'.cell? ⟨W.heap.size, 4, none⟩ = some (.int .i64 x.F) ∧ W'.cell? ⟨W.heap.size, 5, none⟩ = some (.int .i64 x.T) := fun W' h => ⟨by have := h.cell 1; simpa using this, by have := h.cell 2; simpa using this, by have := h.cell 3; simpa using this, by have := h.cell 4; simpa using this, by have := h.cell 5; simpa using this⟩
  generalize (addR es m x.L).1 = rA at hza hra
  generalize (addR es m x.L).2 = rE at hza hra
  generalize addL es m x.S x.L = esA at hza hra
  generalize addI es m x.S x.L E M is = isA at hza hra
  generalize cutN es.length x.F x.T = cn at hzc hrc
  clear h hx wS
  rcases hcase with rfl | rfl | rfl | rfl | rfl | rfl | rfl | rfl
  · go_enter Tryz.func18, Tryz.ntmps18
    go_wp2_with fail
    go_region_held3 (fun W' => W'.cell? ⟨W.heap.size, 1, none⟩ = some (.string x.M) ∧ W'.cell? ⟨W.heap.size, 2, none⟩ = some (.int .i64 x.S) ∧ W'.cell? ⟨W.heap.size, 3, none⟩ = some (.int .i64 x.L) ∧ W'.cell? ⟨W.heap.size, 4, none⟩ = some (.int .i64 x.F) ∧ W'.cell? ⟨W.heap.size, 5, none⟩ = some (.int .i64 x.T)) (first | exact hcl _ hb1.drew | exact hcl _ hb3 | fail) (first | (go_at_call 12; refine (hna _).mono ?_; rintro r9 w9 ⟨rfl, rfl⟩) | (go_at_call 13; refine (hza _ _ (HS.out.chg0 ((Chg.refl (fun _ => False) W).alloc (.cells #[.int .i64 x.Do, .string x.M, .int .i64 x.S, .int .i64 x.L, .int .i64 x.F, .int .i64 x.T] 30)).drew).s).mono ?_; rintro r9 w3 ⟨rfl, z3, k3, n3⟩; have hS3 := (HS.out.chg0 ((Chg.refl (fun _ => False) W).alloc (.cells #[.int .i64 x.Do, .string x.M, .int .i64 x.S, .int .i64 x.L, .int .i64 x.F, .int .i64 x.T] 30)).drew).one k3 n3; have hb3 := hb1.drew.chg n3.chg (fun hf => by have := (HS.out.s.lt hf).2; omega)) | fail)
    go_wp2_with fail
    go_region_held3 (fun W' => W'.cell? ⟨W.heap.size, 1, none⟩ = some (.string x.M) ∧ W'.cell? ⟨W.heap.size, 2, none⟩ = some (.int .i64 x.S) ∧ W'.cell? ⟨W.heap.size, 3, none⟩ = some (.int .i64 x.L) ∧ W'.cell? ⟨W.heap.size, 4, none⟩ = some (.int .i64 x.F) ∧ W'.cell? ⟨W.heap.size, 5, none⟩ = some (.int .i64 x.T)) (first | exact hcl _ hb3.drew | exact hcl _ hb4 | fail) (first | (go_at_call 12; refine (hna _).mono ?_; rintro r9 w9 ⟨rfl, rfl⟩) | (go_at_call 37; refine (hra _ _ (hS3.chg0 (Chg.refl _ _).drew).r).mono ?_; rintro r9 w4 ⟨rfl, v4, k4, n4⟩; have hS4 := (hS3.chg0 (Chg.refl _ _).drew).two k4 n4; have hb4 := hb3.drew.chg n4 (fun e => by have := HS.out.r.b.lt; omega)) | fail)
    go_wp2_with fail
    go_ret
    refine ⟨by simp, ⟨_, _, _, _, hS4⟩, ?_⟩
    have hcz := (((Chg.refl (fun _ => False) W).alloc (.cells #[.int .i64 x.Do, .string x.M, .int .i64 x.S, .int .i64 x.L, .int .i64 x.F, .int .i64 x.T] 30)).drew.mono (S' := fun g => z.foot g ∨ g = rb) (fun _ _ h => h.elim)).trans (n3.chg.mono fun _ _ h => .inl h)
    first | exact hcz.trans (n4.mono fun _ _ h => .inr h) | exact (hcz.trans (Chg.refl _ _).drew).trans (n4.mono fun _ _ h => .inr h)

  · go_enter Tryz.func18, Tryz.ntmps18
    go_wp2_with fail
    go_region_held3 (fun W' => W'.cell? ⟨W.heap.size, 1, none⟩ = some (.string x.M) ∧ W'.cell? ⟨W.heap.size, 2, none⟩ = some (.int .i64 x.S) ∧ W'.cell? ⟨W.heap.size, 3, none⟩ = some (.int .i64 x.L) ∧ W'.cell? ⟨W.heap.size, 4, none⟩ = some (.int .i64 x.F) ∧ W'.cell? ⟨W.heap.size, 5, none⟩ = some (.int .i64 x.T)) (first | exact hcl _ hb1.drew | exact hcl _ hb3 | fail) (first | (go_at_call 12; refine (hna _).mono ?_; rintro r9 w9 ⟨rfl, rfl⟩) | (go_at_call 13; refine (hza _ _ (HS.out.chg0 ((Chg.refl (fun _ => False) W).alloc (.cells #[.int .i64 x.Do, .string x.M, .int .i64 x.S, .int .i64 x.L, .int .i64 x.F, .int .i64 x.T] 30)).drew).s).mono ?_; rintro r9 w3 ⟨rfl, z3, k3, n3⟩; have hS3 := (HS.out.chg0 ((Chg.refl (fun _ => False) W).alloc (.cells #[.int .i64 x.Do, .string x.M, .int .i64 x.S, .int .i64 x.L, .int .i64 x.F, .int .i64 x.T] 30)).drew).one k3 n3; have hb3 := hb1.drew.chg n3.chg (fun hf => by have := (HS.out.s.lt hf).2; omega)) | fail)
    go_wp2_with fail
    go_region_held3 (fun W' => W'.cell? ⟨W.heap.size, 1, none⟩ = some (.string x.M) ∧ W'.cell? ⟨W.heap.size, 2, none⟩ = some (.int .i64 x.S) ∧ W'.cell? ⟨W.heap.size, 3, none⟩ = some (.int .i64 x.L) ∧ W'.cell? ⟨W.heap.size, 4, none⟩ = some (.int .i64 x.F) ∧ W'.cell? ⟨W.heap.size, 5, none⟩ = some (.int .i64 x.T)) (first | exact hcl _ hb3.drew | exact hcl _ hb4 | fail) (first | (go_at_call 12; refine (hna _).mono ?_; rintro r9 w9 ⟨rfl, rfl⟩) | (go_at_call 37; refine (hra _ _ (hS3.chg0 (Chg.refl _ _).drew).r).mono ?_; rintro r9 w4 ⟨rfl, v4, k4, n4⟩; have hS4 := (hS3.chg0 (Chg.refl _ _).drew).two k4 n4; have hb4 := hb3.drew.chg n4 (fun e => by have := HS.out.r.b.lt; omega)) | fail)
    go_wp2_with fail
    go_ret
    refine ⟨by simp, ⟨_, _, _, _, hS4⟩, ?_⟩
    have hcz := (((Chg.refl (fun _ => False) W).alloc (.cells #[.int .i64 x.Do, .string x.M, .int .i64 x.S, .int .i64 x.L, .int .i64 x.F, .int .i64 x.T] 30)).drew.mono (S' := fun g => z.foot g ∨ g = rb) (fun _ _ h => h.elim)).trans (n3.chg.mono fun _ _ h => .inl h)
    first | exact hcz.trans (n4.mono fun _ _ h => .inr h) | exact (hcz.trans (Chg.refl _ _).drew).trans (n4.mono fun _ _ h => .inr h)

  · go_enter Tryz.func18, Tryz.ntmps18
    go_wp2_with fail
    go_region_held3 (fun W' => W'.cell? ⟨W.heap.size, 1, none⟩ = some (.string x.M) ∧ W'.cell? ⟨W.heap.size, 2, none⟩ = some (.int .i64 x.S) ∧ W'.cell? ⟨W.heap.size, 3, none⟩ = some (.int .i64 x.L) ∧ W'.cell? ⟨W.heap.size, 4, none⟩ = some (.int .i64 x.F) ∧ W'.cell? ⟨W.heap.size, 5, none⟩ = some (.int .i64 x.T)) (first | exact hcl _ hb1.drew | exact hcl _ hb3 | fail) (first | (go_at_call 12; refine (hna _).mono ?_; rintro r9 w9 ⟨rfl, rfl⟩) | (go_at_call 13; refine (hza _ _ (HS.out.chg0 ((Chg.refl (fun _ => False) W).alloc (.cells #[.int .i64 x.Do, .string x.M, .int .i64 x.S, .int .i64 x.L, .int .i64 x.F, .int .i64 x.T] 30)).drew).s).mono ?_; rintro r9 w3 ⟨rfl, z3, k3, n3⟩; have hS3 := (HS.out.chg0 ((Chg.refl (fun _ => False) W).alloc (.cells #[.int .i64 x.Do, .string x.M, .int .i64 x.S, .int .i64 x.L, .int .i64 x.F, .int .i64 x.T] 30)).drew).one k3 n3; have hb3 := hb1.drew.chg n3.chg (fun hf => by have := (HS.out.s.lt hf).2; omega)) | fail)
    go_wp2_with fail
    go_region_held3 (fun W' => W'.cell? ⟨W.heap.size, 1, none⟩ = some (.string x.M) ∧ W'.cell? ⟨W.heap.size, 2, none⟩ = some (.int .i64 x.S) ∧ W'.cell? ⟨W.heap.size, 3, none⟩ = some (.int .i64 x.L) ∧ W'.cell? ⟨W.heap.size, 4, none⟩ = some (.int .i64 x.F) ∧ W'.cell? ⟨W.heap.size, 5, none⟩ = some (.int .i64 x.T)) (first | exact hcl _ hb3.drew | exact hcl _ hb4 | fail) (first | (go_at_call 12; refine (hna _).mono ?_; rintro r9 w9 ⟨rfl, rfl⟩) | (go_at_call 37; refine (hra _ _ (hS3.chg0 (Chg.refl _ _).drew).r).mono ?_; rintro r9 w4 ⟨rfl, v4, k4, n4⟩; have hS4 := (hS3.chg0 (Chg.refl _ _).drew).two k4 n4; have hb4 := hb3.drew.chg n4 (fun e => by have := HS.out.r.b.lt; omega)) | fail)
    go_wp2_with fail
    go_ret
    refine ⟨by simp, ⟨_, _, _, _, hS4⟩, ?_⟩
    have hcz := (((Chg.refl (fun _ => False) W).alloc (.cells #[.int .i64 x.Do, .string x.M, .int .i64 x.S, .int .i64 x.L, .int .i64 x.F, .int .i64 x.T] 30)).drew.mono (S' := fun g => z.foot g ∨ g = rb) (fun _ _ h => h.elim)).trans (n3.chg.mono fun _ _ h => .inl h)
    first | exact hcz.trans (n4.mono fun _ _ h => .inr h) | exact (hcz.trans (Chg.refl _ _).drew).trans (n4.mono fun _ _ h => .inr h)

  · go_enter Tryz.func18, Tryz.ntmps18
    go_wp2_with fail
    go_region_held3 (fun W' => W'.cell? ⟨W.heap.size, 1, none⟩ = some (.string x.M) ∧ W'.cell? ⟨W.heap.size, 2, none⟩ = some (.int .i64 x.S) ∧ W'.cell? ⟨W.heap.size, 3, none⟩ = some (.int .i64 x.L) ∧ W'.cell? ⟨W.heap.size, 4, none⟩ = some (.int .i64 x.F) ∧ W'.cell? ⟨W.heap.size, 5, none⟩ = some (.int .i64 x.T)) (first | exact hcl _ hb1.drew | exact hcl _ hb3 | fail) (first | (go_at_call 12; refine (hna _).mono ?_; rintro r9 w9 ⟨rfl, rfl⟩) | (go_at_call 13; refine (hza _ _ (HS.out.chg0 ((Chg.refl (fun _ => False) W).alloc (.cells #[.int .i64 x.Do, .string x.M, .int .i64 x.S, .int .i64 x.L, .int .i64 x.F, .int .i64 x.T] 30)).drew).s).mono ?_; rintro r9 w3 ⟨rfl, z3, k3, n3⟩; have hS3 := (HS.out.chg0 ((Chg.refl (fun _ => False) W).alloc (.cells #[.int .i64 x.Do, .string x.M, .int .i64 x.S, .int .i64 x.L, .int .i64 x.F, .int .i64 x.T] 30)).drew).one k3 n3; have hb3 := hb1.drew.chg n3.chg (fun hf => by have := (HS.out.s.lt hf).2; omega)) | fail)
    go_wp2_with fail
    go_region_held3 (fun W' => W'.cell? ⟨W.heap.size, 1, none⟩ = some (.string x.M) ∧ W'.cell? ⟨W.heap.size, 2, none⟩ = some (.int .i64 x.S) ∧ W'.cell? ⟨W.heap.size, 3, none⟩ = some (.int .i64 x.L) ∧ W'.cell? ⟨W.heap.size, 4, none⟩ = some (.int .i64 x.F) ∧ W'.cell? ⟨W.heap.size, 5, none⟩ = some (.int .i64 x.T)) (first | exact hcl _ hb3.drew | exact hcl _ hb4 | fail) (first | (go_at_call 12; refine (hna _).mono ?_; rintro r9 w9 ⟨rfl, rfl⟩) | (go_at_call 37; refine (hra _ _ (hS3.chg0 (Chg.refl _ _).drew).r).mono ?_; rintro r9 w4 ⟨rfl, v4, k4, n4⟩; have hS4 := (hS3.chg0 (Chg.refl _ _).drew).two k4 n4; have hb4 := hb3.drew.chg n4 (fun e => by have := HS.out.r.b.lt; omega)) | fail)
    go_wp2_with fail
    go_ret
    refine ⟨by simp, ⟨_, _, _, _, hS4⟩, ?_⟩
    have hcz := (((Chg.refl (fun _ => False) W).alloc (.cells #[.int .i64 x.Do, .string x.M, .int .i64 x.S, .int .i64 x.L, .int .i64 x.F, .int .i64 x.T] 30)).drew.mono (S' := fun g => z.foot g ∨ g = rb) (fun _ _ h => h.elim)).trans (n3.chg.mono fun _ _ h => .inl h)
    first | exact hcz.trans (n4.mono fun _ _ h => .inr h) | exact (hcz.trans (Chg.refl _ _).drew).trans (n4.mono fun _ _ h => .inr h)

  · go_enter Tryz.func18, Tryz.ntmps18
    go_wp2_with fail
    go_region_held3 (fun W' => W'.cell? ⟨W.heap.size, 1, none⟩ = some (.string x.M) ∧ W'.cell? ⟨W.heap.size, 2, none⟩ = some (.int .i64 x.S) ∧ W'.cell? ⟨W.heap.size, 3, none⟩ = some (.int .i64 x.L) ∧ W'.cell? ⟨W.heap.size, 4, none⟩ = some (.int .i64 x.F) ∧ W'.cell? ⟨W.heap.size, 5, none⟩ = some (.int .i64 x.T)) (first | exact hcl _ hb1.drew | exact hcl _ hb3 | fail) (first | (go_at_call 12; refine (hna _).mono ?_; rintro r9 w9 ⟨rfl, rfl⟩) | (go_at_call 13; refine (hza _ _ (HS.out.chg0 ((Chg.refl (fun _ => False) W).alloc (.cells #[.int .i64 x.Do, .string x.M, .int .i64 x.S, .int .i64 x.L, .int .i64 x.F, .int .i64 x.T] 30)).drew).s).mono ?_; rintro r9 w3 ⟨rfl, z3, k3, n3⟩; have hS3 := (HS.out.chg0 ((Chg.refl (fun _ => False) W).alloc (.cells #[.int .i64 x.Do, .string x.M, .int .i64 x.S, .int .i64 x.L, .int .i64 x.F, .int .i64 x.T] 30)).drew).one k3 n3; have hb3 := hb1.drew.chg n3.chg (fun hf => by have := (HS.out.s.lt hf).2; omega)) | fail)
    go_wp2_with fail
    go_region_held3 (fun W' => W'.cell? ⟨W.heap.size, 1, none⟩ = some (.string x.M) ∧ W'.cell? ⟨W.heap.size, 2, none⟩ = some (.int .i64 x.S) ∧ W'.cell? ⟨W.heap.size, 3, none⟩ = some (.int .i64 x.L) ∧ W'.cell? ⟨W.heap.size, 4, none⟩ = some (.int .i64 x.F) ∧ W'.cell? ⟨W.heap.size, 5, none⟩ = some (.int .i64 x.T)) (first | exact hcl _ hb3.drew | exact hcl _ hb4 | fail) (first | (go_at_call 12; refine (hna _).mono ?_; rintro r9 w9 ⟨rfl, rfl⟩) | (go_at_call 37; refine (hra _ _ (hS3.chg0 (Chg.refl _ _).drew).r).mono ?_; rintro r9 w4 ⟨rfl, v4, k4, n4⟩; have hS4 := (hS3.chg0 (Chg.refl _ _).drew).two k4 n4; have hb4 := hb3.drew.chg n4 (fun e => by have := HS.out.r.b.lt; omega)) | fail)
    go_wp2_with fail
    go_ret
    refine ⟨by simp, ⟨_, _, _, _, hS4⟩, ?_⟩
    have hcz := (((Chg.refl (fun _ => False) W).alloc (.cells #[.int .i64 x.Do, .string x.M, .int .i64 x.S, .int .i64 x.L, .int .i64 x.F, .int .i64 x.T] 30)).drew.mono (S' := fun g => z.foot g ∨ g = rb) (fun _ _ h => h.elim)).trans (n3.chg.mono fun _ _ h => .inl h)
    first | exact hcz.trans (n4.mono fun _ _ h => .inr h) | exact (hcz.trans (Chg.refl _ _).drew).trans (n4.mono fun _ _ h => .inr h)

  · go_enter Tryz.func18, Tryz.ntmps18
    go_wp2_with fail
    go_region_held3 (fun W' => W'.cell? ⟨W.heap.size, 1, none⟩ = some (.string x.M) ∧ W'.cell? ⟨W.heap.size, 2, none⟩ = some (.int .i64 x.S) ∧ W'.cell? ⟨W.heap.size, 3, none⟩ = some (.int .i64 x.L) ∧ W'.cell? ⟨W.heap.size, 4, none⟩ = some (.int .i64 x.F) ∧ W'.cell? ⟨W.heap.size, 5, none⟩ = some (.int .i64 x.T)) (first | exact hcl _ hb1.drew | exact hcl _ hb3 | exact hcl _ hb4 | fail) (first | (go_at_call 12; refine (hna _).mono ?_; rintro r9 w9 ⟨rfl, rfl⟩) | (go_at_call 38; refine (hrr _ _ (hS3).r).mono ?_; rintro r9 w4 ⟨rfl, v4, k4, n4⟩; have hS4 := (hS3).two k4 n4; have hb4 := hb3.chg n4 (fun e => by have := HS.out.r.b.lt; omega)) | (go_at_call 14; refine (hzr _ _ (HS.out.chg0 ((Chg.refl (fun _ => False) W).alloc (.cells #[.int .i64 x.Do, .string x.M, .int .i64 x.S, .int .i64 x.L, .int .i64 x.F, .int .i64 x.T] 30)).drew).s).mono ?_; rintro r9 w3 ⟨rfl, z3, k3, n3⟩; have hS3 := (HS.out.chg0 ((Chg.refl (fun _ => False) W).alloc (.cells #[.int .i64 x.Do, .string x.M, .int .i64 x.S, .int .i64 x.L, .int .i64 x.F, .int .i64 x.T] 30)).drew).one k3 n3; have hb3 := hb1.drew.chg n3.chg (fun hf => by have := (HS.out.s.lt hf).2; omega)) | fail)
    go_wp2_with fail
    go_ret
    refine ⟨by simp, ⟨_, _, _, _, hS4⟩, ?_⟩
    have hcz := (((Chg.refl (fun _ => False) W).alloc (.cells #[.int .i64 x.Do, .string x.M, .int .i64 x.S, .int .i64 x.L, .int .i64 x.F, .int .i64 x.T] 30)).drew.mono (S' := fun g => z.foot g ∨ g = rb) (fun _ _ h => h.elim)).trans (n3.chg.mono fun _ _ h => .inl h)
    first | exact hcz.trans (n4.mono fun _ _ h => .inr h) | exact (hcz.trans (Chg.refl _ _).drew).trans (n4.mono fun _ _ h => .inr h)

  · go_enter Tryz.func18, Tryz.ntmps18
    go_wp2_with fail
    go_region_held3 (fun W' => W'.cell? ⟨W.heap.size, 1, none⟩ = some (.string x.M) ∧ W'.cell? ⟨W.heap.size, 2, none⟩ = some (.int .i64 x.S) ∧ W'.cell? ⟨W.heap.size, 3, none⟩ = some (.int .i64 x.L) ∧ W'.cell? ⟨W.heap.size, 4, none⟩ = some (.int .i64 x.F) ∧ W'.cell? ⟨W.heap.size, 5, none⟩ = some (.int .i64 x.T)) (first | exact hcl _ hb1.drew | exact hcl _ hb3 | exact hcl _ hb4 | fail) (first | (go_at_call 12; refine (hna _).mono ?_; rintro r9 w9 ⟨rfl, rfl⟩) | (go_at_call 38; refine (hrr _ _ (hS3).r).mono ?_; rintro r9 w4 ⟨rfl, v4, k4, n4⟩; have hS4 := (hS3).two k4 n4; have hb4 := hb3.chg n4 (fun e => by have := HS.out.r.b.lt; omega)) | (go_at_call 14; refine (hzr _ _ (HS.out.chg0 ((Chg.refl (fun _ => False) W).alloc (.cells #[.int .i64 x.Do, .string x.M, .int .i64 x.S, .int .i64 x.L, .int .i64 x.F, .int .i64 x.T] 30)).drew).s).mono ?_; rintro r9 w3 ⟨rfl, z3, k3, n3⟩; have hS3 := (HS.out.chg0 ((Chg.refl (fun _ => False) W).alloc (.cells #[.int .i64 x.Do, .string x.M, .int .i64 x.S, .int .i64 x.L, .int .i64 x.F, .int .i64 x.T] 30)).drew).one k3 n3; have hb3 := hb1.drew.chg n3.chg (fun hf => by have := (HS.out.s.lt hf).2; omega)) | fail)
    go_wp2_with fail
    go_ret
    refine ⟨by simp, ⟨_, _, _, _, hS4⟩, ?_⟩
    have hcz := (((Chg.refl (fun _ => False) W).alloc (.cells #[.int .i64 x.Do, .string x.M, .int .i64 x.S, .int .i64 x.L, .int .i64 x.F, .int .i64 x.T] 30)).drew.mono (S' := fun g => z.foot g ∨ g = rb) (fun _ _ h => h.elim)).trans (n3.chg.mono fun _ _ h => .inl h)
    first | exact hcz.trans (n4.mono fun _ _ h => .inr h) | exact (hcz.trans (Chg.refl _ _).drew).trans (n4.mono fun _ _ h => .inr h)

  · go_enter Tryz.func18, Tryz.ntmps18
    go_wp2_with fail
    go_region_held3 (fun W' => W'.cell? ⟨W.heap.size, 1, none⟩ = some (.string x.M) ∧ W'.cell? ⟨W.heap.size, 2, none⟩ = some (.int .i64 x.S) ∧ W'.cell? ⟨W.heap.size, 3, none⟩ = some (.int .i64 x.L) ∧ W'.cell? ⟨W.heap.size, 4, none⟩ = some (.int .i64 x.F) ∧ W'.cell? ⟨W.heap.size, 5, none⟩ = some (.int .i64 x.T)) (first | exact hcl _ hb1.drew | exact hcl _ hb3 | exact hcl _ hb4 | fail) (first | (go_at_call 39; refine (hrc _ _ (hS3).r).mono ?_; rintro r9 w4 ⟨rfl, v4, k4, n4⟩; have hS4 := (hS3).two k4 n4; have hb4 := hb3.chg n4 (fun e => by have := HS.out.r.b.lt; omega)) | (go_at_call 28; refine (hzc _ _ (HS.out.chg0 ((Chg.refl (fun _ => False) W).alloc (.cells #[.int .i64 x.Do, .string x.M, .int .i64 x.S, .int .i64 x.L, .int .i64 x.F, .int .i64 x.T] 30)).drew).s).mono ?_; rintro r9 w3 ⟨rfl, z3, k3, n3⟩; have hS3 := (HS.out.chg0 ((Chg.refl (fun _ => False) W).alloc (.cells #[.int .i64 x.Do, .string x.M, .int .i64 x.S, .int .i64 x.L, .int .i64 x.F, .int .i64 x.T] 30)).drew).one k3 n3; have hb3 := hb1.drew.chg n3.chg (fun hf => by have := (HS.out.s.lt hf).2; omega)) | fail)
    go_wp2_with fail
    go_ret
    refine ⟨by simp, ⟨_, _, _, _, hS4⟩, ?_⟩
    have hcz := (((Chg.refl (fun _ => False) W).alloc (.cells #[.int .i64 x.Do, .string x.M, .int .i64 x.S, .int .i64 x.L, .int .i64 x.F, .int .i64 x.T] 30)).drew.mono (S' := fun g => z.foot g ∨ g = rb) (fun _ _ h => h.elim)).trans (n3.chg.mono fun _ _ h => .inl h)
    first | exact hcz.trans (n4.mono fun _ _ h => .inr h) | exact (hcz.trans (Chg.refl _ _).drew).trans (n4.mono fun _ _ h => .inr h)

end
end Go.Proofs.YtifcpippfiglkaaGreat

/- made: a set, and the document's, behind acts. -/
namespace Go.Proofs.YtifcpippfiglkaaGreat
open Go.RowKit Pal
attribute [local go_sem] Oper.semAt_some
theorem Ents.nz {W W' : World} {B base : Nat} {u : Value} {l es : List En} {z : Zs} (h : Ents W B u l) (hz : ZsAt W base z es) (hc : Chg z.foot W W') : Ents W' B u l := h.chg hc fun g hg hf => by
  obtain ⟨t, cs, hb, ht⟩ := zs_ty hz hf
  exact hb.not_own h (by rcases ht with rfl | rfl | rfl | rfl | rfl | rfl | rfl | rfl <;> decide) hg
def MadePost (w0 W' : World) (b rb E M : Nat) : Prop := ∃ z u es is, SR w0 W' b z rb u es es is is E M
def MInv (wb : World) (b rb E M n : Nat) (k : Nat) (iv : Value) (W : World) : Prop := ∃ (i : Nat) (z : Zs) (v : Value) (es : List En) (is : Bool), iv = .int .i64 (i : Int) ∧ k = min n 100 - i ∧ i ≤ min n 100 ∧ SR wb W b z rb v es es is is E M
set_option maxRecDepth 100000 in
set_option maxHeartbeats 4000000 in
theorem made11_any (A0 A1 : Int) (seed : Nat) (hs : seed < 4294967296) (v : Value) (n : Nat) (g : Nat → Act6) (w : World) (hv : ActsZ w v n g) :
    Calls Tryz.prog 29 #[.agg #[.int .i64 A0, .int .i64 A1], .int .u32 (seed : Int), v] w fun r w' => ∃ b rb, r = .returned (.tuple #[pt b, pt rb]) ∧ MadePost w w' b rb (clampL 200 A0) (clampL 64 A1) := by
  obtain ⟨wb, hwb⟩ : ∃ wb, wb = w.alloc (.cells #[.int .i64 A0, .int .i64 A1] 23) := ⟨_, rfl⟩
  have hCb := (Chg.refl (fun _ => False) w).alloc (.cells #[.int .i64 A0, .int .i64 A1] 23)
  have hx1 := Blk.new w 23 #[.int .i64 A0, .int .i64 A1]
  rw [← hwb] at hCb hx1
  have hg1 : ∀ W', Chg (fun _ => False) wb W' → W'.cell? ⟨w.heap.size, 0, none⟩ = some (.int .i64 A0) ∧ W'.cell? ⟨w.heap.size, 1, none⟩ = some (.int .i64 A1) ∧ w.heap.size < W'.heap.size := fun W' hc => ⟨by have := (hx1.chg hc id).cell 0; simpa using this, by have := (hx1.chg hc id).cell 1; simpa using this, (hx1.chg hc id).lt⟩
  have hn1 := ow_new hCb A0 A1 seed hs
  have hn2 := fun (W : World) (hc : Chg (fun _ => False) w W) => rf_new hc A0 A1
  generalize clampL 200 A0 = E at *
  generalize clampL 64 A1 = M at *
  unfold pt at hn1 hn2
  obtain ⟨x0, x1, x2⟩ := hg1 wb (Chg.refl _ _)
  clear hx1
  go_enter Tryz.func29, Tryz.ntmps29
  go_wp2_with (first | (go_at_call 11; rw [← hwb]; refine hn1.mono ?_; rintro r w2 ⟨b, z0, rfl, h0, hC2, _⟩; obtain ⟨y0, y1, y2⟩ := hg1 _ hC2) | (go_at_call 17; refine (hn2 _ h0.chg).mono ?_; rintro r w3 ⟨rb, rfl, k0, hC3, _⟩) | fail)
  have hT0 : SR w w3 b z0 rb (.slice none 0 0) [] [] false false E M := ⟨h0.chg0 hC3, k0⟩
  clear hn1 hn2 h0 k0 hC2 hC3 x0 x1 x2 y0 y1 y2 hg1 hwb hCb hs
  go_loopg [10] (min n 100) (MInv w b rb E M n)
  case atStart => exact ⟨0, z0, _, [], false, rfl, rfl, Nat.zero_le _, hT0⟩
  case round =>
    clear hT0
    obtain ⟨i, z, u, es, is, rfl, rfl, hi, hT⟩ := hrel
    obtain ⟨p, cap, rfl⟩ := hv.is
    have hle := hv.le
    by_cases hin : i < n
    · by_cases hi100 : i < 100
      · obtain ⟨gb, o, cap', heq, gl, hc6, hk6⟩ := (hv.chg hT.s.chg).at_ i hin
        injection heq with heq hx hcap
        subst heq hcap
        clear hx
        obtain ⟨q0, q1, q2, q3, q4, q5⟩ := hc6
        generalize g i = x at *
        have hd := did11_any hT x hk6
        have i1' : (i : Int) < (n : Int) := by omega
        have i2' : (i : Int) < 100 := by omega
        unfold DidPost at hd
        unfold pt at hd
        clear hk6 hle hT
        go_wp2_with (first | (go_at_call 18; refine hd.mono ?_; rintro r9 w9 ⟨rfl, ⟨z9, v9, es9, is9, hT9⟩, _⟩) | fail)
        go_roundg (min n 100 - (i + 1))
        case measure => omega
        case rel => exact ⟨i + 1, _, _, _, _, int_eq (by omega), rfl, by omega, hT9⟩
      · have i1' : (i : Int) < (n : Int) := by omega
        have i2' : ¬ (i : Int) < 100 := by omega
        go_wp2_with fail
        go_ret2
        exact ⟨b, rb, rfl, z, u, es, is, hT⟩
    · have i1' : ¬ (i : Int) < (n : Int) := by omega
      go_wp2_with fail
      go_ret2
      exact ⟨b, rb, rfl, z, u, es, is, hT⟩
theorem dropM_insE {l : List En} {e : En} (h : e.m ∉ l.map (·.m)) : dropM (insE l e) e.m = l := by
  have hn : ∀ x ∈ l, x.m ≠ e.m := fun x hx e2 => h (by rw [← e2]; exact List.mem_map.2 ⟨x, hx, rfl⟩)
  unfold insE dropM
  rw [List.filter_append, List.filter_cons_of_neg (by simp), filter_id fun x hx => decide_eq_true (hn x (List.mem_of_mem_take hx)), filter_id fun x hx => decide_eq_true (hn x (List.mem_of_mem_drop hx)), List.take_append_drop]
end Go.Proofs.YtifcpippfiglkaaGreat

/- Bounds and edges handed in; Members of a set that stays its owner's. -/
namespace Go.Proofs.YtifcpippfiglkaaGreat
open Go.RowKit Pal Go.ChangeShapes Go.WideShapes
theorem trod_b {H : Type} {enc : TypeId × Value → H} {P : Program} {w : World} {base : Nat} {spare : Nat → Bool} {held : Bool} {n : Nat} {t : TypeId} {v : Value} {y : DataW H × List MemPlace} (ht : P.underlying t = some .bool) (h : DataW.trod enc P w base spare held n t [v] = some y) : ∃ b, v = .bool b := by
  obtain ⟨k, h1, _⟩ := DataW.trod_bool ht h
  simp only [List.cons.injEq, and_true] at h1
  exact ⟨k, h1⟩
set_option maxRecDepth 100000 in
theorem open_bound {H : Type} {enc : TypeId × Value → H} {w : World} {v : Value} {d : DataW H} {p : List MemPlace}
    (hv : Value.okWide Tryz.prog w .any 0 65 v) (h : DataW.Trod enc Tryz.prog w 0 (fun _ => true) true 65 v d p) : ∃ b : Bd, v = .agg b.cs := by
  obtain ⟨c0, c1, c2, y0, y1, y2, n, rfl, _, _, hy0, hy1, hy2⟩ := Go.Joins.open_agg3 Tryz.underlying65 (by kernel_rfl) (by kernel_rfl) hv h
  obtain ⟨k0, rfl, _⟩ := trod_i Tryz.underlying2 hy0
  obtain ⟨k1, rfl⟩ := trod_b Tryz.underlying4 hy1
  obtain ⟨k2, rfl, _⟩ := trod_i Tryz.underlying3 hy2
  exact ⟨⟨k0, k1, k2⟩, rfl⟩
set_option maxRecDepth 100000 in
theorem open_edge {H : Type} {enc : TypeId × Value → H} {w : World} {v : Value} {d : DataW H} {p : List MemPlace}
    (hv : Value.okWide Tryz.prog w .any 0 68 v) (h : DataW.Trod enc Tryz.prog w 0 (fun _ => true) true 68 v d p) : ∃ b : Ed, v = .agg b.cs ∧ b.N.size ≤ 9223372036854775807 := by
  obtain ⟨c0, c1, c2, y0, y1, y2, n, rfl, _, _, hy0, hy1, hy2⟩ := Go.Joins.open_agg3 Tryz.underlying68 (by kernel_rfl) (by kernel_rfl) hv h
  obtain ⟨k0, rfl, h0⟩ := trod_s Tryz.underlying9 hy0
  obtain ⟨k1, rfl⟩ := trod_b Tryz.underlying4 hy1
  obtain ⟨k2, rfl, _⟩ := trod_i Tryz.underlying3 hy2
  exact ⟨⟨k0, k1, k2⟩, rfl, h0⟩
section
variable {w0 W : World} {b : Nat} {z : Zs} {es : List En} {is : Bool} {E M : Nat}
theorem ow_members (h : Ow w0 W b z es is E M) (f t : Ed) : Calls Tryz.prog 32 #[pt b, .agg f.cs, .agg t.cs] W (RgPost W (memE es f t)) := h.blk ▸ z_members h.at_ f t
end
end Go.Proofs.YtifcpippfiglkaaGreat

/- palioref05.Same, of lists that are the same. -/
namespace Go.Proofs.YtifcpippfiglkaaGreat
open Go.RowKit Pal
attribute [local go_sem] Oper.semAt_some

set_option maxRecDepth 100000 in
set_option maxHeartbeats 1000000 in
theorem same_any (v v2 : Value) (l : List En) (w : World) (h : EntsR w v l) (h' : EntsR w v2 l) (hl : l.length ≤ 1000) : Calls Tryz.prog 19 #[v, v2] w fun r w' => r = .returned (.bool true) ∧ Chg (fun _ => False) w w' := by
  have h0 := h
  have h0' := h'
  obtain ⟨p, c, rfl, h1, h2, _⟩ := h
  obtain ⟨p', c', rfl, h1', h2', _⟩ := h'
  go_enter Tryz.func19, Tryz.ntmps19
  go_wp2_with fail
  go_loopg [5] l.length (fun k v W => ∃ i : Nat, v = .int .i64 (i : Int) ∧ k = l.length - i ∧ i ≤ l.length ∧ Chg (fun _ => False) w W)
  case atStart => exact ⟨0, rfl, rfl, Nat.zero_le _, Chg.refl _ _⟩
  case round =>
    obtain ⟨i, rfl, rfl, hi, hC⟩ := hrel
    by_cases hil : i < l.length
    · have h3 : (i : Int) < (l.length : Int) := by omega
      have hx := List.getElem?_eq_getElem hil
      generalize l[i] = e at hx
      obtain ⟨b, o, c1, he, k1, k2, k3, d0, d1⟩ := (h0.chg0 hC).at_ hx
      injection he with he1 he2 he3
      subst he1
      subst he3
      obtain ⟨b', o', c2, he', k1', k2', k3', d0', d1'⟩ := (h0'.chg0 hC).at_ hx
      injection he' with he1' he2' he3'
      subst he1'
      subst he3'
      have hil2 : (l.length : Int) ≤ 1000 := by omega
      have hb := toListE e.m
      clear hx he2 he2' h0 h0'
      go_wp2_with fail
      go_still_tail 8, (by kernel_rfl)
      go_wp2_with fail
      go_roundg (l.length - (i + 1))
      case rel => exact ⟨i + 1, int_eq (by omega), rfl, by omega, hC.drew⟩
      case measure => omega
    · obtain rfl : i = l.length := by omega
      have h3 : ¬ (l.length : Int) < (l.length : Int) := by omega
      go_wp2_with fail
      go_ret
      exact ⟨rfl, hC⟩
end Go.Proofs.YtifcpippfiglkaaGreat

/- The walk of ZsetRanges. -/
namespace Go.Proofs.YtifcpippfiglkaaGreat.zsetRanges
open Go.RowKit Pal
attribute [local go_sem] Oper.semAt_some

set_option maxRecDepth 100000 in
set_option maxHeartbeats 16000000 in
theorem walk (A0 A1 : Int) (seed : Nat) (hs : seed < 4294967296) (v : Value) (n : Nat) (g : Nat → Act6) (f t : Bd) (p q : Ed) (hp : p.N.size ≤ 9223372036854775807) (hq : q.N.size ≤ 9223372036854775807) (w : World) (hv : ActsZ w v n g) :
    Calls Tryz.prog 8 #[.agg #[.int .i64 A0, .int .i64 A1], .int .u32 (seed : Int), v, .agg f.cs, .agg t.cs, .agg p.cs, .agg q.cs] w fun e w' => e = .returned (.bool true) ∧ Chg (fun _ => False) w w' := by
  have hsh := fun w => shown11_any w
  obtain ⟨wb, hwb⟩ : ∃ wb, wb = ((((w.alloc (.cells #[.int .i64 A0, .int .i64 A1] 23)).alloc (.cells f.cs 65)).alloc (.cells t.cs 65)).alloc (.cells p.cs 68)).alloc (.cells q.cs 68) := ⟨_, rfl⟩
  have hCb := (((((Chg.refl (fun _ => False) w).alloc (.cells #[.int .i64 A0, .int .i64 A1] 23)).alloc (.cells f.cs 65)).alloc (.cells t.cs 65)).alloc (.cells p.cs 68)).alloc (.cells q.cs 68)
  have x0 := ((((Blk.new w 23 #[.int .i64 A0, .int .i64 A1]).alloc (.cells f.cs 65)).alloc (.cells t.cs 65)).alloc (.cells p.cs 68)).alloc (.cells q.cs 68)
  have x1 := (((Blk.new (w.alloc (.cells #[.int .i64 A0, .int .i64 A1] 23)) 65 f.cs).alloc (.cells t.cs 65)).alloc (.cells p.cs 68)).alloc (.cells q.cs 68)
  have x2 := ((Blk.new ((w.alloc (.cells #[.int .i64 A0, .int .i64 A1] 23)).alloc (.cells f.cs 65)) 65 t.cs).alloc (.cells p.cs 68)).alloc (.cells q.cs 68)
  have x3 := (Blk.new (((w.alloc (.cells #[.int .i64 A0, .int .i64 A1] 23)).alloc (.cells f.cs 65)).alloc (.cells t.cs 65)) 68 p.cs).alloc (.cells q.cs 68)
  have x4 := Blk.new ((((w.alloc (.cells #[.int .i64 A0, .int .i64 A1] 23)).alloc (.cells f.cs 65)).alloc (.cells t.cs 65)).alloc (.cells p.cs 68)) 68 q.cs
  simp only [World.size_alloc] at x1 x2 x3 x4
  rw [← hwb] at hCb x0 x1 x2 x3 x4
  have hCm : ∀ W, Chg (fun _ => False) wb W → Chg (fun _ => False) w W := fun W hc => hCb.trans hc
  have hmd := fun (W : World) (hc : Chg (fun _ => False) wb W) => made11_any A0 A1 seed hs v n g W (hv.chg (hCb.trans hc))
  generalize clampL 200 A0 = E at *
  generalize clampL 64 A1 = M at *
  have hbt := fun W b z es is w0 (h : Ow w0 W b z es is E M) => ow_between h f t
  have hrb := fun W rb es is w0 u (h : Rf w0 W rb es is E M u) => rf_between h f t
  have hmb := fun W b z es is w0 (h : Ow w0 W b z es is E M) => ow_members h p q
  have hrm := fun W rb es is w0 u (h : Rf w0 W rb es is E M u) => rf_members h p q (fun x hx w => inS9_any x.m p q w (by have := (h.ok.ok x hx).1; omega) hp hq)
  have hsm := fun l W u u' (h : EntsR W u l) (h' : EntsR W u' l) (hn : l.length ≤ 1000) => same_any u u' l W h h' hn
  unfold RgPost at hmb hrm
  unfold pt at hmd hbt hrb hmb hrm
  unfold Bd.cs Ed.cs at *
  have hg0 : ∀ W', Chg (fun _ => False) wb W' → W'.cell? ⟨w.heap.size, 0, none⟩ = some (.int .i64 A0) ∧ W'.cell? ⟨w.heap.size, 1, none⟩ = some (.int .i64 A1) ∧ w.heap.size < W'.heap.size := fun W' hc => ⟨by have := (x0.chg hc id).cell 0; simpa using this, by have := (x0.chg hc id).cell 1; simpa using this, (x0.chg hc id).lt⟩
  have hg1 : ∀ W', Chg (fun _ => False) wb W' → W'.cell? ⟨w.heap.size + 1, 0, none⟩ = some (.int .i64 f.N) ∧ W'.cell? ⟨w.heap.size + 1, 1, none⟩ = some (.bool f.O) ∧ W'.cell? ⟨w.heap.size + 1, 2, none⟩ = some (.int .i64 f.I) ∧ W'.cell? ⟨w.heap.size + 1 + 1, 0, none⟩ = some (.int .i64 t.N) ∧ W'.cell? ⟨w.heap.size + 1 + 1, 1, none⟩ = some (.bool t.O) ∧ W'.cell? ⟨w.heap.size + 1 + 1, 2, none⟩ = some (.int .i64 t.I) ∧ w.heap.size + 1 + 1 < W'.heap.size := fun W' hc => ⟨by have := (x1.chg hc id).cell 0; simpa using this, by have := (x1.chg hc id).cell 1; simpa using this, by have := (x1.chg hc id).cell 2; simpa using this, by have := (x2.chg hc id).cell 0; simpa using this, by have := (x2.chg hc id).cell 1; simpa using this, by have := (x2.chg hc id).cell 2; simpa using this, (x2.chg hc id).lt⟩
  have hg3 : ∀ W', Chg (fun _ => False) wb W' → W'.cell? ⟨w.heap.size + 1 + 1 + 1, 0, none⟩ = some (.string p.N) ∧ W'.cell? ⟨w.heap.size + 1 + 1 + 1, 1, none⟩ = some (.bool p.O) ∧ W'.cell? ⟨w.heap.size + 1 + 1 + 1, 2, none⟩ = some (.int .i64 p.I) ∧ W'.cell? ⟨w.heap.size + 1 + 1 + 1 + 1, 0, none⟩ = some (.string q.N) ∧ W'.cell? ⟨w.heap.size + 1 + 1 + 1 + 1, 1, none⟩ = some (.bool q.O) ∧ W'.cell? ⟨w.heap.size + 1 + 1 + 1 + 1, 2, none⟩ = some (.int .i64 q.I) := fun W' hc => ⟨by have := (x3.chg hc id).cell 0; simpa using this, by have := (x3.chg hc id).cell 1; simpa using this, by have := (x3.chg hc id).cell 2; simpa using this, by have := (x4.chg hc id).cell 0; simpa using this, by have := (x4.chg hc id).cell 1; simpa using this, by have := (x4.chg hc id).cell 2; simpa using this⟩
  have hl4 : ∀ W', Chg (fun _ => False) wb W' → w.heap.size + 1 + 1 + 1 + 1 < W'.heap.size := fun W' hc => (x4.chg hc id).lt
  clear x0 x1 x2 x3 x4 hCb
  go_enter Tryz.func8, Tryz.ntmps8
  go_wp2_with (first
    | (go_at_call 10; rw [← hwb]; refine (hsh _).mono ?_; rintro r w0' ⟨rfl, hC0⟩; obtain ⟨y0, y1, y2⟩ := hg0 _ hC0)
    | (go_at_call 29; refine (hmd _ hC0).mono ?_; rintro r w1 ⟨b, rb, rfl, z1, u0, es, is0, hSR⟩; have H1 := hSR.s; have R1 := hSR.r; have c1 := hC0.trans H1.chg; obtain ⟨z0, z1, z2, z3, z4, z5, z6⟩ := hg1 _ c1; have hbt1 := hbt _ _ _ _ _ _ H1)
    | (go_at_call 30; refine hbt1.mono ?_; rintro r w2 ⟨rfl, C2⟩; have H2 := H1.chg0 C2; have R2 := R1.chg0 C2; have c2 := c1.trans C2; obtain ⟨q0, q1, q2, q3, q4, q5, q6⟩ := hg1 _ c2; have hrb2 := hrb _ _ _ _ _ _ R2)
    | (go_at_call 31; refine hrb2.mono ?_; rintro r w3 ⟨rfl, C3⟩; have H3 := H2.chg0 C3; have R3 := R2.chg0 C3; have c3 := c2.trans C3)
    | fail)
  have hn4 := H3.at_.ok.n
  have hml : (memE es p q).length ≤ 1000 := by have := memE_le es p q; omega
  have hS : ∀ W', Chg (fun _ => False) w3 W' → _ := fun W' hc => hg3 W' (c3.trans hc)
  clear hbt hrb hg0 hg1 hmd hsh hSR hbt1 hrb2 y0 y1 y2 z0 z1 z2 z3 z4 z5 z6 q0 q1 q2 q3 q4 q5 q6 hs hv H1 H2 R1 R2
  have hl5 := hl4 _ c3
  obtain ⟨y0, y1, y2, y3, y4, y5⟩ := hg3 _ c3
  go_wp2_with fail
  go_region_held3 (fun W' => W'.cell? ⟨w.heap.size + 1 + 1 + 1, 0, none⟩ = some (.string p.N) ∧ W'.cell? ⟨w.heap.size + 1 + 1 + 1, 1, none⟩ = some (.bool p.O) ∧ W'.cell? ⟨w.heap.size + 1 + 1 + 1, 2, none⟩ = some (.int .i64 p.I) ∧ W'.cell? ⟨w.heap.size + 1 + 1 + 1 + 1, 0, none⟩ = some (.string q.N) ∧ W'.cell? ⟨w.heap.size + 1 + 1 + 1 + 1, 1, none⟩ = some (.bool q.O) ∧ W'.cell? ⟨w.heap.size + 1 + 1 + 1 + 1, 2, none⟩ = some (.int .i64 q.I)) (first | exact hS _ (Chg.refl _ _).drew | exact hS _ hc6 | exact hS _ hc5 | exact hS _ hc4 | fail)
    (first
    | (go_at_call 19; refine (hsm (memE es p q) _ _ _ (e4.chg0 C5).r e5.r hml).mono ?_; rintro r9 w6 ⟨rfl, C6⟩; have hc6 := hc5.trans C6)
    | (go_at_call 33; refine (hrm _ _ _ _ _ _ (R3.chg0 hc4)).mono ?_; rintro r9 w5 ⟨⟨u5, rfl, e5⟩, C5⟩; have hc5 := hc4.trans C5)
    | (go_at_call 32; refine (hmb _ _ _ _ _ _ (H3.chg0 (Chg.refl _ _).drew)).mono ?_; rintro r9 w4 ⟨⟨u4, rfl, e4⟩, C4⟩; have hc4 := (Chg.refl (fun _ => False) w3).drew.trans C4)
    | fail)
  go_wp2_with fail
  go_ret
  exact ⟨rfl, hCm _ (c3.trans hc6)⟩
set_option maxRecDepth 100000 in
theorem ZsetRanges_walk (W : World) {H : Type} {enc : TypeId × Value → H} {v0 : Value} {d0 : DataW H} {p0 : List MemPlace} (hv0 : Value.okWide Tryz.prog W .any 0 23 v0) (h0 : DataW.Trod enc Tryz.prog W 0 (fun _ => true) true 23 v0 d0 p0)
    (a1 : Int) (w1 : (Lit.int .u32 a1).wf = true) {v : Value} {d : DataW H} {p : List MemPlace} (hv : Value.okWide Tryz.prog W .any 0 25 v) (h : DataW.Trod enc Tryz.prog W 0 (fun _ => true) true 25 v d p)
    {v3 : Value} {d3 : DataW H} {p3 : List MemPlace} (hv3 : Value.okWide Tryz.prog W .any 0 65 v3) (h3 : DataW.Trod enc Tryz.prog W 0 (fun _ => true) true 65 v3 d3 p3)
    {v4 : Value} {d4 : DataW H} {p4 : List MemPlace} (hv4 : Value.okWide Tryz.prog W .any 0 65 v4) (h4 : DataW.Trod enc Tryz.prog W 0 (fun _ => true) true 65 v4 d4 p4)
    {v5 : Value} {d5 : DataW H} {p5 : List MemPlace} (hv5 : Value.okWide Tryz.prog W .any 0 68 v5) (h5 : DataW.Trod enc Tryz.prog W 0 (fun _ => true) true 68 v5 d5 p5)
    {v6 : Value} {d6 : DataW H} {p6 : List MemPlace} (hv6 : Value.okWide Tryz.prog W .any 0 68 v6) (h6 : DataW.Trod enc Tryz.prog W 0 (fun _ => true) true 68 v6 d6 p6) :
    Calls Tryz.prog 8 #[v0, .int .u32 a1, v, v3, v4, v5, v6] W fun e w' => e = .returned (.bool true) ∧ Chg (fun _ => False) W w' := by
  obtain ⟨A0, A1, rfl, _, _⟩ := open_limits hv0 h0
  obtain ⟨s1, rfl, k1⟩ := u32_of_wf w1
  obtain ⟨n, g, hg⟩ := open_actsZ hv h
  obtain ⟨f, rfl⟩ := open_bound hv3 h3
  obtain ⟨t, rfl⟩ := open_bound hv4 h4
  obtain ⟨e1, rfl, n1⟩ := open_edge hv5 h5
  obtain ⟨e2, rfl, n2⟩ := open_edge hv6 h6
  exact walk A0 A1 s1 k1 v n g f t e1 e2 n1 n2 W hg
end Go.Proofs.YtifcpippfiglkaaGreat.zsetRanges
