/- Texts joined for ZsetWays: ZQ, ZAC. -/
import Derived.Test.YtifcpippfiglkaaGreatJZsetWaysb
import Derived.Test.YtifcpippfiglkaaGreatJZsetWayse
import Derived.Test.YtifcpippfiglkaaGreatJZsetWaysp
import Derived.Lib.SmallJoins
set_option linter.unusedVariables false
set_option linter.unusedSimpArgs false

/- zset: the page of contracts, for one set of one's own. -/
namespace Go.Proofs.YtifcpippfiglkaaGreat
open Go.RowKit Pal
attribute [local go_sem] Oper.semAt_some

structure Ow (w0 W : World) (b : Nat) (z : Zs) (es : List En) (is : Bool) (E M : Nat) : Prop where
  at_ : ZsAt W w0.heap.size z es
  blk : z.blk = b
  is : z.f.is = is
  E : z.E = E
  M : z.M = M
  chg : Chg (fun _ => False) w0 W
structure Nz (z z' : Zs) (W W' : World) : Prop where
  chg : Chg z.foot W W'
  foot : ∀ g, z'.foot g → z.foot g ∨ W.heap.size ≤ g
section
variable {w0 W W' : World} {b : Nat} {z : Zs} {es es' : List En} {is : Bool} {E M : Nat}
theorem Ow.chg0 (h : Ow w0 W b z es is E M) (hc : Chg (fun _ => False) W W') : Ow w0 W' b z es is E M := ⟨h.at_.chg0 hc, h.blk, h.is, h.E, h.M, h.chg.trans hc⟩
theorem Ow.keep {S : Nat → Prop} (h : Ow w0 W b z es is E M) (hc : Chg S W W') (hn : ∀ g, z.foot g → ¬ S g) (h0 : ∀ g, S g → w0.heap.size ≤ g) : Ow w0 W' b z es is E M :=
  ⟨h.at_.chg hc hn, h.blk, h.is, h.E, h.M, h.chg.trans' hc fun g hg hs => by have := h0 g hs; omega⟩
theorem Ow.lt (h : Ow w0 W b z es is E M) {g : Nat} (hg : z.foot g) : w0.heap.size ≤ g ∧ g < W.heap.size := h.at_.lt hg
theorem Ow.len (h : Ow w0 W b z es is E M) : es.length ≤ 400 := h.at_.ok.n
theorem Ow.step (h : Ow w0 W b z es is E M) {is' : Bool} {v : Value} {r : Ending} (hp : ZPost w0.heap.size z es' is' (some v) W r W') : r = .returned v ∧ ∃ z', Ow w0 W' b z' es' is' E M ∧ Nz z z' W W' := by
  obtain ⟨⟨u, rfl, hu⟩, z', hZ, hi⟩ := hp
  obtain rfl := hu _ rfl
  exact ⟨rfl, z', ⟨hZ.at_, hZ.blk.trans h.blk, hi, hZ.E.trans h.E, hZ.M.trans h.M, h.chg.trans' hZ.chg fun g hg hf => by have := (h.lt hf).1; omega⟩, hZ.chg, hZ.foot⟩
theorem ow_new (hc : Chg (fun _ => False) w0 W) (E0 M0 : Int) (seed : Nat) (hs : seed < 4294967296) : Calls Tryz.prog 11 #[.agg #[.int .i64 E0, .int .i64 M0], .int .u32 (seed : Int)] W fun r W' => ∃ b z, r = .returned (pt b) ∧ Ow w0 W' b z [] false (clampL 200 E0) (clampL 64 M0) ∧ Chg (fun _ => False) W W' ∧ ∀ g, z.foot g → W.heap.size ≤ g := by
  refine (z_new E0 M0 seed hs W).mono ?_
  rintro r W' ⟨z, rfl, h1, h2, h3, h4, h5, h6⟩
  refine ⟨z.blk, z, rfl, ⟨⟨h1.b, ?_, Nat.le_trans hc.size h1.ge, h1.ok, h1.lim⟩, rfl, h2, h3, h4, hc.trans h6⟩, h6, fun g hg => (h1.lt hg).1⟩
  have hf := h1.f
  unfold FmAt at hf ⊢
  split at hf
  · exact ⟨hf.1, Nat.le_trans hc.size hf.2⟩
  · exact LsAt.lower hf hc.size
theorem ow_add (h : Ow w0 W b z es is E M) (m : ByteArray) (s lv : Int) (hm : m.size ≤ 9223372036854775807) (hs : -9223372036854775808 ≤ s ∧ s ≤ 9223372036854775807) : Calls Tryz.prog 13 #[pt b, .string m, .int .i64 s, .int .i64 lv] W fun r W' => r = .returned (.tuple #[.bool (addR es m lv).1, .int .i64 (addR es m lv).2]) ∧ ∃ z', Ow w0 W' b z' (addL es m s lv) (addI es m s lv E M is) E M ∧ Nz z z' W W' := by
  have := z_add h.at_ m s lv hm hs
  rw [h.E, h.M, h.is, h.blk] at this
  exact this.mono fun r W' hp => h.step hp
theorem ow_remove (h : Ow w0 W b z es is E M) (m : ByteArray) (hm : m.size ≤ 9223372036854775807) : Calls Tryz.prog 14 #[pt b, .string m] W fun r W' => r = .returned (.bool (lookE es m).isSome) ∧ ∃ z', Ow w0 W' b z' (dropM es m) is E M ∧ Nz z z' W W' := by
  have := z_remove h.at_ m hm
  rw [h.is, h.blk] at this
  exact this.mono fun r W' hp => h.step hp
def cutN (n : Nat) (i j : Int) : Nat := max (clampN n i) (clampN n j) - clampN n i
theorem ow_cut (h : Ow w0 W b z es is E M) (i j : Int) : Calls Tryz.prog 28 #[pt b, .int .i64 i, .int .i64 j] W fun r W' => r = .returned (.int .i64 (cutN es.length i j : Int)) ∧ ∃ z', Ow w0 W' b z' (cutL es (clampN es.length i) (cutN es.length i j)) is E M ∧ Nz z z' W W' := by
  have := z_cut h.at_ i j
  rw [h.is, h.blk] at this
  exact this.mono fun r W' hp => h.step hp
theorem ow_score (h : Ow w0 W b z es is E M) (m : ByteArray) (hm : m.size ≤ 9223372036854775807) : Calls Tryz.prog 27 #[pt b, .string m] W fun r W' => r = .returned (.tuple #[.int .i64 ((lookE es m).getD 0), .bool (lookE es m).isSome]) ∧ ∃ z', Ow w0 W' b z' es is E M ∧ Nz z z' W W' := by
  have := z_score h.at_ m hm
  rw [h.is, h.blk] at this
  exact this.mono fun r W' hp => h.step hp
theorem ow_rank (h : Ow w0 W b z es is E M) (m : ByteArray) (hm : m.size ≤ 9223372036854775807) : Calls Tryz.prog 26 #[pt b, .string m] W fun r W' => r = .returned (.tuple #[.int .i64 (rankE es m : Int), .bool (lookE es m).isSome]) ∧ ∃ z', Ow w0 W' b z' es is E M ∧ Nz z z' W W' := by
  have := z_rank h.at_ m hm
  rw [h.is, h.blk] at this
  exact this.mono fun r W' hp => h.step hp
theorem ow_len (h : Ow w0 W b z es is E M) : Calls Tryz.prog 16 #[pt b] W fun r W' => r = .returned (.int .i64 (es.length : Int)) ∧ Chg (fun _ => False) W W' := h.blk ▸ z_len h.at_
theorem ow_range (h : Ow w0 W b z es is E M) (i j : Int) : Calls Tryz.prog 20 #[pt b, .int .i64 i, .int .i64 j] W (RgPost W (sub es i j)) := h.blk ▸ z_range h.at_ i j
def encZ (is : Bool) : ByteArray := if is then ⟨#[115, 107, 105, 112, 108, 105, 115, 116]⟩ else ⟨#[108, 105, 115, 116, 112, 97, 99, 107]⟩
theorem ow_encoding (h : Ow w0 W b z es is E M) : Calls Tryz.prog 15 #[pt b] W fun r W' => r = .returned (.string (encZ is)) ∧ W = W' := by
  have := z_encoding h.at_
  rw [h.is, h.blk] at this
  exact this
theorem ow_bytes (h : Ow w0 W b z es is E M) : Calls Tryz.prog 23 #[pt b] W fun r W' => r = .returned (.int .i64 (bytesZ es is : Int)) ∧ Chg (fun _ => False) W W' := by
  have := z_bytes h.at_
  rw [h.is, h.blk] at this
  exact this
end
theorem sh1 : addL [] ⟨#[97]⟩ 1 1 = [⟨⟨#[97]⟩, 1⟩] ∧ addI [] ⟨#[97]⟩ 1 1 (clampL 200 2) (clampL 64 9) false = false ∧ addR [] ⟨#[97]⟩ 1 = (true, 0) := by decide +kernel
theorem sh2 : addL [⟨⟨#[97]⟩, 1⟩] ⟨#[98]⟩ 0 1 = [⟨⟨#[98]⟩, 0⟩, ⟨⟨#[97]⟩, 1⟩] ∧ addI [⟨⟨#[97]⟩, 1⟩] ⟨#[98]⟩ 0 1 (clampL 200 2) (clampL 64 9) false = false ∧ addR [⟨⟨#[97]⟩, 1⟩] ⟨#[98]⟩ 1 = (true, 0) := by decide +kernel
theorem sh3 : rankE [⟨⟨#[98]⟩, 0⟩, ⟨⟨#[97]⟩, 1⟩] ⟨#[97]⟩ = 1 ∧ lookE [⟨⟨#[98]⟩, 0⟩, ⟨⟨#[97]⟩, 1⟩] ⟨#[97]⟩ = some 1 ∧ lookE [⟨⟨#[98]⟩, 0⟩, ⟨⟨#[97]⟩, 1⟩] ⟨#[99]⟩ = none ∧ bytesZ [⟨⟨#[98]⟩, 0⟩, ⟨⟨#[97]⟩, 1⟩] false = 24 := by decide +kernel
set_option maxRecDepth 100000 in
set_option maxHeartbeats 2000000 in
theorem shown11_any (w : World) : Calls Tryz.prog 10 #[] w fun r w' => r = .returned (.bool true) ∧ Chg (fun _ => False) w w' := by
  have hnew := ow_new (Chg.refl (fun _ => False) w) 2 9 7 (by omega)
  obtain ⟨a1, a2, a3⟩ := sh1
  obtain ⟨b1, b2, b3⟩ := sh2
  obtain ⟨d1, d2, d3, d4⟩ := sh3
  have ha := fun W b z (h : Ow w W b z [] false (clampL 200 2) (clampL 64 9)) => ow_add h ⟨#[97]⟩ 1 1 (by decide) (by omega)
  have hb := fun W b z (h : Ow w W b z [⟨⟨#[97]⟩, 1⟩] false (clampL 200 2) (clampL 64 9)) => ow_add h ⟨#[98]⟩ 0 1 (by decide) (by omega)
  rw [a1, a2, a3] at ha
  rw [b1, b2, b3] at hb
  have hr := fun W b z (h : Ow w W b z [⟨⟨#[98]⟩, 0⟩, ⟨⟨#[97]⟩, 1⟩] false (clampL 200 2) (clampL 64 9)) => ow_rank h ⟨#[97]⟩ (by decide)
  have hs := fun W b z (h : Ow w W b z [⟨⟨#[98]⟩, 0⟩, ⟨⟨#[97]⟩, 1⟩] false (clampL 200 2) (clampL 64 9)) => ow_score h ⟨#[99]⟩ (by decide)
  have he := fun W b z (h : Ow w W b z [⟨⟨#[98]⟩, 0⟩, ⟨⟨#[97]⟩, 1⟩] false (clampL 200 2) (clampL 64 9)) => ow_encoding h
  have hy := fun W b z (h : Ow w W b z [⟨⟨#[98]⟩, 0⟩, ⟨⟨#[97]⟩, 1⟩] false (clampL 200 2) (clampL 64 9)) => ow_bytes h
  rw [d1, d2] at hr
  rw [d3] at hs
  rw [d4] at hy
  unfold encZ at he
  simp only [Option.getD_none, Option.isSome_none, Option.isSome_some, Bool.false_eq_true, if_false, Int.cast_ofNat_Int] at hr hs he hy
  clear a1 a2 a3 b1 b2 b3 d1 d2 d3 d4
  unfold pt at *
  go_enter Tryz.func10, Tryz.ntmps10
  go_wp2_with (first
    | (go_at_call 11; refine hnew.mono ?_; rintro r w1 ⟨b, z0, rfl, h0, _, _⟩)
    | (go_at_call 13; refine (hb _ _ _ h1).mono ?_; rintro r w3 ⟨rfl, z2, h2, n2⟩)
    | (go_at_call 13; refine (ha _ _ _ h0).mono ?_; rintro r w2 ⟨rfl, z1, h1, n1⟩)
    | (go_at_call 26; refine (hr _ _ _ h2).mono ?_; rintro r w4 ⟨rfl, z3, h3, n3⟩)
    | (go_at_call 27; refine (hs _ _ _ h3).mono ?_; rintro r w5 ⟨rfl, z4, h4, n4⟩)
    | (go_at_call 15; refine (he _ _ _ h4).mono ?_; rintro r w6 ⟨rfl, rfl⟩)
    | (go_at_call 23; refine (hy _ _ _ h4).mono ?_; rintro r w7 ⟨rfl, hC7⟩)
    | fail)
  go_ret
  exact ⟨rfl, h4.chg.trans hC7⟩
end Go.Proofs.YtifcpippfiglkaaGreat

/- zset's acts: a slice of structs of six fields, read; limits. -/
namespace Go.Proofs.YtifcpippfiglkaaGreat
open Go.RowKit Pal Go.ChangeShapes Go.WideShapes Go.Deep

structure Act6 where
  Do : Int
  M : ByteArray
  S : Int
  L : Int
  F : Int
  T : Int
structure Act6.Ok (x : Act6) : Prop where
  d : (Lit.int .i64 x.Do).wf = true
  m : x.M.size ≤ maxLen
  s : (Lit.int .i64 x.S).wf = true
  l : (Lit.int .i64 x.L).wf = true
  f : (Lit.int .i64 x.F).wf = true
  t : (Lit.int .i64 x.T).wf = true
structure Cells6 (w : World) (b o : Nat) (x : Act6) : Prop where
  c0 : w.cell? ⟨b, o, none⟩ = some (.int .i64 x.Do)
  c1 : w.cell? ⟨b, o + 1, none⟩ = some (.string x.M)
  c2 : w.cell? ⟨b, o + 2, none⟩ = some (.int .i64 x.S)
  c3 : w.cell? ⟨b, o + 3, none⟩ = some (.int .i64 x.L)
  c4 : w.cell? ⟨b, o + 4, none⟩ = some (.int .i64 x.F)
  c5 : w.cell? ⟨b, o + 5, none⟩ = some (.int .i64 x.T)
structure ActsZ (w : World) (v : Value) (n : Nat) (g : Nat → Act6) : Prop where
  is : ∃ p cap, v = .slice p n cap
  le : n ≤ maxLen
  at_ : ∀ i, i < n → ∃ b o cap, v = .slice (some ⟨b, o, none⟩) n cap ∧ b < w.heap.size ∧ Cells6 w b (o + i * 6) (g i) ∧ (g i).Ok
theorem ActsZ.chg {w w' : World} {v : Value} {n : Nat} {g : Nat → Act6} (h : ActsZ w v n g) (hc : Chg (fun _ => False) w w') : ActsZ w' v n g where
  is := h.is
  le := h.le
  at_ := fun i hi => by
    obtain ⟨b, o, cap, h1, h2, h3, h4⟩ := h.at_ i hi
    exact ⟨b, o, cap, h1, Nat.lt_of_lt_of_le h2 hc.size, ⟨by rw [Chg.cell hc h2 id]; exact h3.c0, by rw [Chg.cell hc h2 id]; exact h3.c1, by rw [Chg.cell hc h2 id]; exact h3.c2, by rw [Chg.cell hc h2 id]; exact h3.c3, by rw [Chg.cell hc h2 id]; exact h3.c4, by rw [Chg.cell hc h2 id]; exact h3.c5⟩, h4⟩
theorem pick_lt6 {n : Nat} {p : Nat → Act6 → Prop} (h : ∀ i, i < n → ∃ x, p i x) : ∃ f : Nat → Act6, ∀ i, i < n → p i (f i) := by
  classical
  refine ⟨fun i => if hi : i < n then Classical.choose (h i hi) else ⟨0, ⟨#[]⟩, 0, 0, 0, 0⟩, fun i hi => ?_⟩
  simp only [dif_pos hi]
  exact Classical.choose_spec (h i hi)
set_option maxRecDepth 100000 in
theorem open_actsZ {H : Type} {enc : TypeId × Value → H} {w : World} {v : Value} {d : DataW H} {p : List MemPlace}
    (hv : Value.okWide Tryz.prog w .any 0 25 v) (h : DataW.Trod enc Tryz.prog w 0 (fun _ => true) true 25 v d p) :
    ∃ n g, ActsZ w v n g := by
  obtain ⟨a0, len0, cap0, rfl⟩ := okWide_slice Tryz.underlying25 hv
  obtain ⟨fuel, hf'⟩ := h
  rcases open_slice_fields Tryz.underlying25 Tryz.underlying30 (by kernel_rfl) (by kernel_rfl) hf' with ⟨hc, hx⟩ | ⟨a, len, cap, m, D, Pl, hc, _, hl, hm, hmm, hx, hall⟩
  · simp only [Value.cells, List.cons.injEq, and_true] at hc
    exact ⟨0, fun _ => ⟨0, ⟨#[]⟩, 0, 0, 0, 0⟩, ⟨_, _, hc⟩, Nat.zero_le _, fun i hi => absurd hi (Nat.not_lt_zero _)⟩
  · simp only [Value.cells, List.cons.injEq, and_true] at hc
    simp only [if_true] at hmm
    subst hmm
    rcases Nat.eq_zero_or_pos len with h0 | hpos
    · subst h0
      exact ⟨0, fun _ => ⟨0, ⟨#[]⟩, 0, 0, 0, 0⟩, ⟨_, _, hc⟩, Nat.zero_le _, fun i hi => absurd hi (Nat.not_lt_zero _)⟩
    have hsp : a.spot = none := by
      obtain ⟨ys, n, _, _, _, hj⟩ := hall 0 (by omega)
      obtain ⟨v0, y0, c0, _, t0⟩ := hj 0 _ rfl
      have := World.cell?_spot c0
      rw [Nat.zero_mul] at this
      exact this
    obtain ⟨b, o, sp⟩ := a
    have hsp : sp = none := hsp
    subst hsp
    have key : ∀ i, i < len → ∃ x : Act6, b < w.heap.size ∧ Cells6 w b (o + i * 6) x ∧ x.Ok := fun i hi => by
      obtain ⟨ys, n, _, _, _, hj⟩ := hall i (by omega)
      obtain ⟨v0, y0, c0, _, t0⟩ := hj 0 _ rfl
      obtain ⟨v1, y1, c1, _, t1⟩ := hj 1 _ rfl
      obtain ⟨v2, y2, c2, _, t2⟩ := hj 2 _ rfl
      obtain ⟨v3, y3, c3, _, t3⟩ := hj 3 _ rfl
      obtain ⟨v4, y4, c4, _, t4⟩ := hj 4 _ rfl
      obtain ⟨v5, y5, c5, _, t5⟩ := hj 5 _ rfl
      obtain ⟨k0, rfl, w0⟩ := trod_i Tryz.underlying3 t0
      obtain ⟨k1, rfl, w1⟩ := trod_s Tryz.underlying9 t1
      obtain ⟨k2, rfl, w2⟩ := trod_i Tryz.underlying2 t2
      obtain ⟨k3, rfl, w3⟩ := trod_i Tryz.underlying3 t3
      obtain ⟨k4, rfl, w4⟩ := trod_i Tryz.underlying3 t4
      obtain ⟨k5, rfl, w5⟩ := trod_i Tryz.underlying3 t5
      rw [addr_add] at c0 c1 c2 c3 c4 c5
      exact ⟨⟨k0, k1, k2, k3, k4, k5⟩, block_lt' c0, ⟨c0, c1, c2, c3, c4, c5⟩, ⟨w0, w1, w2, w3, w4, w5⟩⟩
    obtain ⟨g, hg⟩ := pick_lt6 key
    refine ⟨len, g, ⟨_, _, hc⟩, Nat.le_trans hl hm, fun i hi => ?_⟩
    obtain ⟨h1, h2⟩ := hg i hi
    exact ⟨b, o, m, hc, h1, h2⟩
set_option maxRecDepth 100000 in
theorem open_limits {H : Type} {enc : TypeId × Value → H} {w : World} {v : Value} {d : DataW H} {p : List MemPlace}
    (hv : Value.okWide Tryz.prog w .any 0 23 v) (h : DataW.Trod enc Tryz.prog w 0 (fun _ => true) true 23 v d p) : ∃ a b, v = .agg #[.int .i64 a, .int .i64 b] ∧ (Lit.int .i64 a).wf = true ∧ (Lit.int .i64 b).wf = true := by
  obtain ⟨c0, c1, y0, y1, n, rfl, _, _, hy0, hy1⟩ := Go.Joins.open_agg2 Tryz.underlying23 (by kernel_rfl) (by kernel_rfl) hv h
  obtain ⟨k0, rfl, w0⟩ := trod_i Tryz.underlying3 hy0
  obtain ⟨k1, rfl, w1⟩ := trod_i Tryz.underlying3 hy1
  exact ⟨k0, k1, rfl, w0, w1⟩
set_option maxRecDepth 100000 in
theorem name_any (s : ByteArray) (w : World) (hs : s.size ≤ 9223372036854775807) :
    Calls Tryz.prog 12 #[.string s] w fun e w' => e = .returned (.string (cutS s 70)) ∧ w = w' := by
  by_cases h : 70 < s.size
  · have H : Hid (cutS s 70 = s.extract 0 70) := if_pos h
    have hm : min (s.size : Int) 70 = 70 := by omega
    go_enter Tryz.func12, Tryz.ntmps12
    go_wp2
    go_ret
    exact ⟨by rw [H.out]; rfl, rfl⟩
  · have H : Hid (cutS s 70 = s) := if_neg h
    have hm : min (s.size : Int) 70 = s.size := by omega
    go_enter Tryz.func12, Tryz.ntmps12
    go_wp2
    go_ret
    exact ⟨by rw [H.out]; simp, rfl⟩
end Go.Proofs.YtifcpippfiglkaaGreat
