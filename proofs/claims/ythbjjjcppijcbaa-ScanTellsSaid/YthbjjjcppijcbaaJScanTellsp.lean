/- Texts joined for ScanTells: RP, S11, RS, RV, AI, AU, ScanTells. -/
import Derived.Test.YthbjjjcppijcbaaJScanTellsn
import Derived.Test.YthbjjjcppijcbaaJScanTellso
import Derived.Deep.LoopGhost
set_option linter.unusedVariables false
set_option linter.unusedSimpArgs false

/- The two dicts side by side. -/
namespace Go.Proofs.Ythbjjjcppijcbaa
open Go.RowKit Pal Dint

def SetD (key : ByteArray) (v : Int) (d d' : Dm) : Prop := Puts key (.int .i64 v) d d' ∧ Dint.shape d' = (if (d.look key).isNone then growS (stepS (Dint.shape d) 1) d.n else stepS (Dint.shape d) 1) ∧ ∀ k, d'.in1 k ↔ (stepD d 1).in1 k ∨ (k = key ∧ d'.t1.isSome = true ∧ d.look key = none)
def DelD (key : ByteArray) (d d' : Dm) : Prop := Cuts key d d' ∧ Dint.shape d' = (if (d.look key).isSome then shrinkS (stepS (Dint.shape d) 1) (d.n - 1) else stepS (Dint.shape d) 1) ∧ ∀ k, d'.in1 k ↔ (stepD d 1).in1 k ∧ k ≠ key
def SetM (key : ByteArray) (v : Int) (r r' : Rm) (b : Bool) : Prop :=
  (∃ (i : Nat) (x : Nr), (r.slots (r.k 1)).l[i]? = some x ∧ x.key = key ∧ b = false ∧ r' = { r.slots (r.k 1) with l := (r.slots (r.k 1)).l.set i { x with v := v } }) ∨
  ((∀ x ∈ (r.slots (r.k 1)).l, x.key ≠ key) ∧ b = true ∧ ∃ lv, r' = { (r.slots (r.k 1)).grow with lv := lv, l := (r.slots (r.k 1)).l ++ [⟨key, v, sumN r.seed key.data.toList, decide (0 < (r.slots (r.k 1)).grow.b)⟩] })
def DelM (key : ByteArray) (r r' : Rm) (b : Bool) : Prop :=
  (∃ (i : Nat) (x : Nr), (r.slots (r.k 1)).l[i]? = some x ∧ x.key = key ∧ b = true ∧ ∃ lv, r' = ({ r.slots (r.k 1) with lv := lv, l := (r.slots (r.k 1)).l.take i ++ (r.slots (r.k 1)).l.drop (i + 1) } : Rm).shrink) ∨
  ((∀ x ∈ (r.slots (r.k 1)).l, x.key ≠ key) ∧ b = false ∧ r' = r.slots (r.k 1))
theorem step_facts {d : Dm} (hok : d.Ok) (n : Int) : (stepD d n).Ok ∧ (stepD d n).look = d.look ∧ (stepD d n).seed = d.seed ∧ (stepD d n).n = d.n ∧ Dint.shape (stepD d n) = stepS (Dint.shape d) n :=
  ⟨moveN_ok hok _, funext fun k => look_perm hok.keys (moveN_perm hok _) k, (moveN_blk d _).2.1, (moveN_blk d _).2.2, stepD_shape hok n⟩
theorem tie_set {d d' : Dm} {r r' : Rm} {key : ByteArray} {v : Int} {b : Bool} (h : Tie d r) (hok : d.Ok) (hok' : d'.Ok) (hn : d.n ≤ 1000000) (hse : d'.seed = d.seed) (hD : SetD key v d d') (hM : SetM key v r r' b) : Tie d' r' ∧ b = (d.look key).isNone := by
  obtain ⟨s1, s2, s3, s4, s5⟩ := step_facts hok 1
  have h1 := h.step hok hn 1
  obtain ⟨hp, hs, hin⟩ := hD
  rcases hM with ⟨i, x, hx, hk, rfl, rfl⟩ | ⟨hno, rfl, lv, rfl⟩
  · have hsm : (d.look key).isSome = true := by rw [← s2]; exact h1.found.1 ⟨x, List.mem_of_getElem? hx, hk⟩
    obtain ⟨u, hu⟩ := Option.isSome_iff_exists.1 hsm
    rw [hu] at hs hin
    refine ⟨h1.set (d0 := d) s2.symm (hse.trans s3.symm) hp s4.symm (by rw [hs, s5]; rfl) (fun k => ?_) hx hk, by rw [hu]; rfl⟩
    rw [hin k]
    exact ⟨fun h => h.elim id fun h => (by cases h.2.2), .inl⟩
  · have hnn : d.look key = none := by
      cases hl : d.look key with
      | none => rfl
      | some u =>
        obtain ⟨x, hx, hk⟩ := h1.has key (by rw [s2, hl]; rfl)
        exact absurd hk (hno x hx)
    obtain ⟨g1, g2, g3, g4⟩ := h1.grow s1
    have hs' : Dint.shape d' = growS (Dint.shape (stepD d 1)) (stepD d 1).n := by rw [hs, hnn, s5, s4]; rfl
    have hsd : (r.slots (r.k 1)).seed = r.seed := (r.slots_foot _).2.2.1
    have := h1.add (d0 := d) (lv := lv) hok' s2.symm (hse.trans s3.symm) hp s4.symm hno (by rw [hs']; exact g1) (by rw [hs']; exact g2) (by rw [hs']; exact g3) g4 hin
    rw [hsd] at this
    exact ⟨this, by rw [hnn]; rfl⟩
theorem tie_del {d d' : Dm} {r r' : Rm} {key : ByteArray} {b : Bool} (h : Tie d r) (hok : d.Ok) (hn : d.n ≤ 1000000) (hse : d'.seed = d.seed) (hD : DelD key d d') (hM : DelM key r r' b) : Tie d' r' ∧ b = (d.look key).isSome := by
  obtain ⟨s1, s2, s3, s4, s5⟩ := step_facts hok 1
  have h1 := h.step hok hn 1
  obtain ⟨hp, hs, hin⟩ := hD
  rcases hM with ⟨i, x, hx, hk, rfl, lv, rfl⟩ | ⟨hno, rfl, rfl⟩
  · have hsm : (d.look key).isSome = true := by rw [← s2]; exact h1.found.1 ⟨x, List.mem_of_getElem? hx, hk⟩
    rw [hsm, if_pos rfl, ← s5, ← s4] at hs
    exact ⟨h1.del (d0 := d) s1 s2.symm (hse.trans s3.symm) hp s4.symm hs hin hx hk, hsm.symm⟩
  · have hnn : d.look key = none := by
      cases hl : d.look key with
      | none => rfl
      | some u =>
        obtain ⟨x, hx, hk⟩ := h1.has key (by rw [s2, hl]; rfl)
        exact absurd hk (hno x hx)
    rw [hnn] at hs
    refine ⟨⟨h1.seed.trans (s3.trans hse.symm), ?_, ?_, ?_, ?_, h1.keys, fun x hx => ?_, fun k hk => ?_⟩, by rw [hnn]; rfl⟩
    · rw [h1.a, s5]; rw [hs]; rfl
    · rw [h1.b, s5]; rw [hs]; rfl
    · rw [h1.at_, s5]; rw [hs]; rfl
    · rw [h1.n, s4, hp.2, hnn]; rfl
    · obtain ⟨g1, g2, g3⟩ := h1.node x hx
      refine ⟨by rw [hp.1, if_neg (hno x hx), ← s2]; exact g1, by rw [hse, ← s3]; exact g2, ?_⟩
      rw [hin, g3]
      exact ⟨fun h => ⟨h, hno x hx⟩, fun h => h.1⟩
    · rw [hp.1] at hk
      split at hk
      · cases hk
      · exact h1.has k (by rw [s2]; exact hk)

/-! ### side by side in memory -/
structure Half (w0 W : World) (bd br : Nat) (d : Dm) (r : Rm) : Prop where
  one : One w0 W bd d
  rm : RmAt W w0.heap.size r
  br : r.blk = br
  ap : ∀ g, r.foot g → ¬ d.foot g
section
variable {w0 W W' : World} {bd br : Nat} {d d' : Dm} {r r' : Rm}
theorem Half.chg0 (h : Half w0 W bd br d r) (hc : Chg (fun _ => False) W W') : Half w0 W' bd br d r := ⟨h.one.chg0 hc, h.rm.chg0 hc, h.br, h.ap⟩
theorem Half.left (h : Half w0 W bd br d r) (h1 : One w0 W' bd d') (hx : Nx d d' W W') : Half w0 W' bd br d' r :=
  ⟨h1, h.rm.chg hx.chg (fun g hg hd => h.ap g hg hd), h.br, fun g hg hd => by
    rcases hx.foot g hd with h' | h'
    · exact h.ap g hg h'
    · have := (h.rm.lt hg).2; omega⟩
theorem Half.right (h : Half w0 W bd br d r) (hx : RmNx r r' w0.heap.size W W') : Half w0 W' bd br d r' :=
  ⟨h.one.chgS hx.chg (fun g hd hg => h.ap g hg hd) (fun g hlt hg => by have := (h.rm.lt hg).1; omega), hx.at_, hx.blk.trans h.br, fun g hg hd => by
    rcases hx.foot g hg with h' | h'
    · exact h.ap g h' hd
    · have := h.one.md.lt hd; omega⟩
end
theorem Tie.sums {d : Dm} {r : Rm} (h : Tie d r) : ∀ x ∈ r.l, x.sum < 4294967296 := fun x hx => by rw [(h.node x hx).2.1]; exact sumN_lt _ _
theorem Tie.sizes {d : Dm} {r : Rm} (h : Tie d r) (hs : ∀ k, (d.look k).isSome = true → k.size ≤ 12) : ∀ x ∈ r.l, x.key.size ≤ 9223372036854775807 := fun x hx => by
  have := hs x.key (by rw [(h.node x hx).1]; rfl)
  omega

end Go.Proofs.Ythbjjjcppijcbaa

/- Acts, with what they leave alone. -/
namespace Go.Proofs.Ythbjjjcppijcbaa
open Go.RowKit Pal Dint

/-- What a call on d leaves alone. -/
structure Far (d d' : Dm) (w w' : World) : Prop where
  seed : d'.seed = d.seed
  chg : Chg d.foot w w'
  foot : ∀ g, d'.foot g → d.foot g ∨ w.heap.size ≤ g
theorem far_of {d d' : Dm} {w w1 w' : World} (h : Nx d d' w1 w') (hc : Chg (fun _ => False) w w1) : Far d d' w w' :=
  ⟨h.seed, (hc.mono fun _ _ h => h.elim).trans h.chg, fun g hg => (h.foot g hg).imp id (Nat.le_trans hc.size)⟩

set_option maxRecDepth 100000 in
set_option maxHeartbeats 2000000 in
theorem acted_far {w0 W : World} {bd : Nat} {d : Dm} (h : One w0 W bd d) (x : Act3) (hk : x.Key.size ≤ 9223372036854775807) (hn : d.n ≤ 100000) :
    Calls Try.prog 35 #[.pointer (some ⟨bd, 0, none⟩), .agg #[.int .i64 x.Do, .string x.Key, .int .i64 x.V]] W fun e W' => (∃ v, e = .returned v) ∧ ∃ d', One w0 W' bd d' ∧ Far d d' W W' ∧ Acts x d d' := by
  have hks : (cutS x.Key 12).size ≤ 9223372036854775807 := Nat.le_trans (cutS_size _ _) hk
  obtain ⟨r, hr, hcase⟩ := mod8 x.Do
  have hbx := Blk.new W 28 #[.int .i64 x.Do, .string x.Key, .int .i64 x.V]
  have hc1 : Chg (fun _ => False) W (W.alloc (Obj.cells #[.int .i64 x.Do, .string x.Key, .int .i64 x.V] 28)) := (Chg.refl _ W).alloc _
  have ho := h.chg0 hc1
  have c0 := hbx.cell 0
  have c1 := hbx.cell 1
  have c2 := hbx.cell 2
  have f0 := hbx.lt
  simp only [List.getElem?_toArray, List.getElem?_cons_zero, List.getElem?_cons_succ] at c0 c1 c2
  have HR := Lib.hid hr
  rcases hcase with rfl | rfl | rfl | rfl | rfl | rfl | rfl | rfl
  · go_enter Try.func35, Try.ntmps35
    go_wp2_with fail
    go_region_with (first
      | (go_at_call 39; refine (key8_any _ _ hk).mono ?_; rintro e9 w9 ⟨rfl, rfl⟩)
      | (go_at_call 17; refine (set_1 (ho.chg0 ((Chg.refl _ _).drew)) (cutS x.Key 12) (.int .i64 x.V) hks ⟨_, rfl⟩ hn).mono ?_; rintro e5 W5 ⟨rfl, d', hT1, hN1, hP1, hs1⟩))
    all_goals
      go_wp2_with fail
      go_end0
      exact ⟨⟨_, rfl⟩, d', hT1, far_of hN1 (by first | exact hc1 | exact hc1.trans ((Chg.refl _ _).drew)), by unfold Acts; rw [HR.out]; exact .inl ⟨by decide, hP1, hs1⟩⟩
  · go_enter Try.func35, Try.ntmps35
    go_wp2_with fail
    go_region_with (first
      | (go_at_call 39; refine (key8_any _ _ hk).mono ?_; rintro e9 w9 ⟨rfl, rfl⟩)
      | (go_at_call 17; refine (set_1 (ho.chg0 ((Chg.refl _ _).drew)) (cutS x.Key 12) (.int .i64 x.V) hks ⟨_, rfl⟩ hn).mono ?_; rintro e5 W5 ⟨rfl, d', hT1, hN1, hP1, hs1⟩))
    all_goals
      go_wp2_with fail
      go_end0
      exact ⟨⟨_, rfl⟩, d', hT1, far_of hN1 (by first | exact hc1 | exact hc1.trans ((Chg.refl _ _).drew)), by unfold Acts; rw [HR.out]; exact .inl ⟨by decide, hP1, hs1⟩⟩
  · go_enter Try.func35, Try.ntmps35
    go_wp2_with fail
    go_region_with (first
      | (go_at_call 39; refine (key8_any _ _ hk).mono ?_; rintro e9 w9 ⟨rfl, rfl⟩)
      | (go_at_call 17; refine (set_1 (ho.chg0 ((Chg.refl _ _).drew)) (cutS x.Key 12) (.int .i64 x.V) hks ⟨_, rfl⟩ hn).mono ?_; rintro e5 W5 ⟨rfl, d', hT1, hN1, hP1, hs1⟩))
    all_goals
      go_wp2_with fail
      go_end0
      exact ⟨⟨_, rfl⟩, d', hT1, far_of hN1 (by first | exact hc1 | exact hc1.trans ((Chg.refl _ _).drew)), by unfold Acts; rw [HR.out]; exact .inl ⟨by decide, hP1, hs1⟩⟩
  · go_enter Try.func35, Try.ntmps35
    go_wp2_with fail
    go_region_with (first
      | (go_at_call 39; refine (key8_any _ _ hk).mono ?_; rintro e9 w9 ⟨rfl, rfl⟩)
      | (go_at_call 17; refine (set_1 (ho.chg0 ((Chg.refl _ _).drew)) (cutS x.Key 12) (.int .i64 x.V) hks ⟨_, rfl⟩ hn).mono ?_; rintro e5 W5 ⟨rfl, d', hT1, hN1, hP1, hs1⟩))
    all_goals
      go_wp2_with fail
      go_end0
      exact ⟨⟨_, rfl⟩, d', hT1, far_of hN1 (by first | exact hc1 | exact hc1.trans ((Chg.refl _ _).drew)), by unfold Acts; rw [HR.out]; exact .inl ⟨by decide, hP1, hs1⟩⟩
  · go_enter Try.func35, Try.ntmps35
    go_wp2_with fail
    refine (key8_any _ _ hk).mono ?_
    rintro e9 w9 ⟨rfl, rfl⟩
    go_wp2_with fail
    refine (get_1 ho (cutS x.Key 12) hks).mono ?_
    rintro e5 W5 ⟨rfl, d', hT1, hN1, hP1, hs1⟩
    go_wp2_with fail
    go_end0
    exact ⟨⟨_, rfl⟩, d', hT1, far_of hN1 (by first | exact hc1 | exact hc1.trans ((Chg.refl _ _).drew)), by unfold Acts; rw [HR.out]; exact .inr (.inl ⟨rfl, hP1, hs1⟩)⟩
  · go_enter Try.func35, Try.ntmps35
    go_wp2_with fail
    refine (key8_any _ _ hk).mono ?_
    rintro e9 w9 ⟨rfl, rfl⟩
    go_wp2_with fail
    refine (del_1 ho (cutS x.Key 12) hks hn).mono ?_
    rintro e5 W5 ⟨rfl, d', hT1, hN1, hP1, hs1⟩
    go_wp2_with fail
    go_end0
    exact ⟨⟨_, rfl⟩, d', hT1, far_of hN1 (by first | exact hc1 | exact hc1.trans ((Chg.refl _ _).drew)), by unfold Acts; rw [HR.out]; exact .inr (.inr (.inl ⟨.inl rfl, hP1, hs1⟩))⟩
  · go_enter Try.func35, Try.ntmps35
    go_wp2_with fail
    refine (key8_any _ _ hk).mono ?_
    rintro e9 w9 ⟨rfl, rfl⟩
    go_wp2_with fail
    refine (del_1 ho (cutS x.Key 12) hks hn).mono ?_
    rintro e5 W5 ⟨rfl, d', hT1, hN1, hP1, hs1⟩
    go_wp2_with fail
    go_end0
    exact ⟨⟨_, rfl⟩, d', hT1, far_of hN1 (by first | exact hc1 | exact hc1.trans ((Chg.refl _ _).drew)), by unfold Acts; rw [HR.out]; exact .inr (.inr (.inl ⟨.inr rfl, hP1, hs1⟩))⟩
  · go_enter Try.func35, Try.ntmps35
    go_wp2_with fail
    refine (step_1 ho (min x.V 100)).mono ?_
    rintro e5 W5 ⟨rfl, d', hT1, hN1, hP1, hs1⟩
    go_wp2_with fail
    go_end0
    exact ⟨⟨_, rfl⟩, d', hT1, far_of hN1 (by first | exact hc1 | exact hc1.trans ((Chg.refl _ _).drew)), by unfold Acts; rw [HR.out]; exact .inr (.inr (.inr ⟨rfl, hP1, hs1⟩))⟩

end Go.Proofs.Ythbjjjcppijcbaa

/- An act on both dicts. -/
namespace Go.Proofs.Ythbjjjcppijcbaa
open Go.RowKit Pal Dint

def ActP (x : Act3) (d d' : Dm) : Prop :=
  ((IntKind.u64.wrap x.Do).tmod 8 < 4 ∧ SetD (cutS x.Key 12) x.V d d') ∨ ((IntKind.u64.wrap x.Do).tmod 8 = 4 ∧ d' = stepD d 1) ∨
  (((IntKind.u64.wrap x.Do).tmod 8 = 5 ∨ (IntKind.u64.wrap x.Do).tmod 8 = 6) ∧ DelD (cutS x.Key 12) d d') ∨ ((IntKind.u64.wrap x.Do).tmod 8 = 7 ∧ d' = stepD d (min x.V 100))
def ModP (x : Act3) (r r' : Rm) : Prop :=
  ((IntKind.u64.wrap x.Do).tmod 8 < 4 ∧ ∃ b, SetM (cutS x.Key 12) x.V r r' b) ∨ ((IntKind.u64.wrap x.Do).tmod 8 = 4 ∧ r' = r.slots (r.k 1)) ∨
  (((IntKind.u64.wrap x.Do).tmod 8 = 5 ∨ (IntKind.u64.wrap x.Do).tmod 8 = 6) ∧ ∃ b, DelM (cutS x.Key 12) r r' b) ∨ ((IntKind.u64.wrap x.Do).tmod 8 = 7 ∧ r' = r.slots (r.k (min x.V 100)))
theorem tie_acts {d d' : Dm} {r r' : Rm} {x : Act3} (h : Tie d r) (hok : d.Ok) (hok' : d'.Ok) (hn : d.n ≤ 1000000) (hse : d'.seed = d.seed) (hA : ActP x d d') (hM : ModP x r r') : Tie d' r' := by
  unfold ActP at hA
  unfold ModP at hM
  generalize (IntKind.u64.wrap x.Do).tmod 8 = m at hA hM
  rcases hA with ⟨h1, hA⟩ | ⟨h1, rfl⟩ | ⟨h1, hA⟩ | ⟨h1, rfl⟩ <;> rcases hM with ⟨h2, b, hM⟩ | ⟨h2, rfl⟩ | ⟨h2, b, hM⟩ | ⟨h2, rfl⟩ <;> first | omega | exact (tie_set h hok hok' hn hse hA hM).1 | exact (tie_del h hok hn hse hA hM).1 | exact h.step hok hn _
/-- Bounds behind an act. -/
theorem actP_acts {d d' : Dm} {x : Act3} (hok : d.Ok) (hA : ActP x d d') : Acts x d d' := by
  obtain ⟨s1, s2, s3, s4, s5⟩ := step_facts hok 1
  obtain ⟨t1, t2, t3, t4, t5⟩ := step_facts hok (min x.V 100)
  rcases hA with ⟨h1, h2, h3, _⟩ | ⟨h1, rfl⟩ | ⟨h1, h2, h3, _⟩ | ⟨h1, rfl⟩
  · exact .inl ⟨h1, h2, h3⟩
  · exact .inr (.inl ⟨h1, ⟨fun k => by rw [s2], s4⟩, s5⟩)
  · exact .inr (.inr (.inl ⟨h1, h2, h3⟩))
  · exact .inr (.inr (.inr ⟨h1, ⟨fun k => by rw [t2], t4⟩, t5⟩))

set_option maxRecDepth 100000 in
set_option maxHeartbeats 2000000 in
theorem acted_p {w0 W : World} {bd : Nat} {d : Dm} (h : One w0 W bd d) (x : Act3) (hk : x.Key.size ≤ 9223372036854775807) (hn : d.n ≤ 100000) :
    Calls Try.prog 35 #[.pointer (some ⟨bd, 0, none⟩), .agg #[.int .i64 x.Do, .string x.Key, .int .i64 x.V]] W fun e W' => (∃ v, e = .returned v) ∧ ∃ d', One w0 W' bd d' ∧ Far d d' W W' ∧ ActP x d d' := by
  have hks : (cutS x.Key 12).size ≤ 9223372036854775807 := Nat.le_trans (cutS_size _ _) hk
  obtain ⟨rr, hr, hcase⟩ := mod8 x.Do
  have hbx := Blk.new W 28 #[.int .i64 x.Do, .string x.Key, .int .i64 x.V]
  have hc1 : Chg (fun _ => False) W (W.alloc (Obj.cells #[.int .i64 x.Do, .string x.Key, .int .i64 x.V] 28)) := (Chg.refl _ W).alloc _
  have ho := h.chg0 hc1
  have c0 := hbx.cell 0
  have c1 := hbx.cell 1
  have c2 := hbx.cell 2
  have f0 := hbx.lt
  simp only [List.getElem?_toArray, List.getElem?_cons_zero, List.getElem?_cons_succ] at c0 c1 c2
  have HR := Lib.hid hr
  rcases hcase with rfl | rfl | rfl | rfl | rfl | rfl | rfl | rfl
  · go_enter Try.func35, Try.ntmps35
    go_wp2_with fail
    go_region_with (first
      | (go_at_call 39; refine (key8_any _ _ hk).mono ?_; rintro e9 w9 ⟨rfl, rfl⟩)
      | (go_at_call 17; refine (set_p (ho.chg0 ((Chg.refl _ _).drew)) (cutS x.Key 12) (.int .i64 x.V) hks ⟨_, rfl⟩ hn).mono ?_; rintro e5 W5 ⟨rfl, d', hT1, hN1, hP1, hs1, hi1⟩))
    all_goals
      go_wp2_with fail
      go_end0
      exact ⟨⟨_, rfl⟩, d', hT1, far_of hN1 (by first | exact hc1 | exact hc1.trans ((Chg.refl _ _).drew)), by unfold ActP; rw [HR.out]; exact .inl ⟨by decide, hP1, hs1, hi1⟩⟩
  · go_enter Try.func35, Try.ntmps35
    go_wp2_with fail
    go_region_with (first
      | (go_at_call 39; refine (key8_any _ _ hk).mono ?_; rintro e9 w9 ⟨rfl, rfl⟩)
      | (go_at_call 17; refine (set_p (ho.chg0 ((Chg.refl _ _).drew)) (cutS x.Key 12) (.int .i64 x.V) hks ⟨_, rfl⟩ hn).mono ?_; rintro e5 W5 ⟨rfl, d', hT1, hN1, hP1, hs1, hi1⟩))
    all_goals
      go_wp2_with fail
      go_end0
      exact ⟨⟨_, rfl⟩, d', hT1, far_of hN1 (by first | exact hc1 | exact hc1.trans ((Chg.refl _ _).drew)), by unfold ActP; rw [HR.out]; exact .inl ⟨by decide, hP1, hs1, hi1⟩⟩
  · go_enter Try.func35, Try.ntmps35
    go_wp2_with fail
    go_region_with (first
      | (go_at_call 39; refine (key8_any _ _ hk).mono ?_; rintro e9 w9 ⟨rfl, rfl⟩)
      | (go_at_call 17; refine (set_p (ho.chg0 ((Chg.refl _ _).drew)) (cutS x.Key 12) (.int .i64 x.V) hks ⟨_, rfl⟩ hn).mono ?_; rintro e5 W5 ⟨rfl, d', hT1, hN1, hP1, hs1, hi1⟩))
    all_goals
      go_wp2_with fail
      go_end0
      exact ⟨⟨_, rfl⟩, d', hT1, far_of hN1 (by first | exact hc1 | exact hc1.trans ((Chg.refl _ _).drew)), by unfold ActP; rw [HR.out]; exact .inl ⟨by decide, hP1, hs1, hi1⟩⟩
  · go_enter Try.func35, Try.ntmps35
    go_wp2_with fail
    go_region_with (first
      | (go_at_call 39; refine (key8_any _ _ hk).mono ?_; rintro e9 w9 ⟨rfl, rfl⟩)
      | (go_at_call 17; refine (set_p (ho.chg0 ((Chg.refl _ _).drew)) (cutS x.Key 12) (.int .i64 x.V) hks ⟨_, rfl⟩ hn).mono ?_; rintro e5 W5 ⟨rfl, d', hT1, hN1, hP1, hs1, hi1⟩))
    all_goals
      go_wp2_with fail
      go_end0
      exact ⟨⟨_, rfl⟩, d', hT1, far_of hN1 (by first | exact hc1 | exact hc1.trans ((Chg.refl _ _).drew)), by unfold ActP; rw [HR.out]; exact .inl ⟨by decide, hP1, hs1, hi1⟩⟩
  · go_enter Try.func35, Try.ntmps35
    go_wp2_with fail
    refine (key8_any _ _ hk).mono ?_
    rintro e9 w9 ⟨rfl, rfl⟩
    go_wp2_with fail
    refine (get_p ho (cutS x.Key 12) hks).mono ?_
    rintro e5 W5 ⟨rfl, hT1, hN1⟩
    go_wp2_with fail
    go_end0
    exact ⟨⟨_, rfl⟩, _, hT1, far_of hN1 (by first | exact hc1 | exact hc1.trans ((Chg.refl _ _).drew)), by unfold ActP; rw [HR.out]; exact .inr (.inl ⟨rfl, rfl⟩)⟩
  · go_enter Try.func35, Try.ntmps35
    go_wp2_with fail
    refine (key8_any _ _ hk).mono ?_
    rintro e9 w9 ⟨rfl, rfl⟩
    go_wp2_with fail
    refine (del_p ho (cutS x.Key 12) hks hn).mono ?_
    rintro e5 W5 ⟨rfl, d', hT1, hN1, hP1, hs1, hi1⟩
    go_wp2_with fail
    go_end0
    exact ⟨⟨_, rfl⟩, d', hT1, far_of hN1 (by first | exact hc1 | exact hc1.trans ((Chg.refl _ _).drew)), by unfold ActP; rw [HR.out]; exact .inr (.inr (.inl ⟨.inl rfl, hP1, hs1, hi1⟩))⟩
  · go_enter Try.func35, Try.ntmps35
    go_wp2_with fail
    refine (key8_any _ _ hk).mono ?_
    rintro e9 w9 ⟨rfl, rfl⟩
    go_wp2_with fail
    refine (del_p ho (cutS x.Key 12) hks hn).mono ?_
    rintro e5 W5 ⟨rfl, d', hT1, hN1, hP1, hs1, hi1⟩
    go_wp2_with fail
    go_end0
    exact ⟨⟨_, rfl⟩, d', hT1, far_of hN1 (by first | exact hc1 | exact hc1.trans ((Chg.refl _ _).drew)), by unfold ActP; rw [HR.out]; exact .inr (.inr (.inl ⟨.inr rfl, hP1, hs1, hi1⟩))⟩
  · go_enter Try.func35, Try.ntmps35
    go_wp2_with fail
    refine (step_p ho (min x.V 100)).mono ?_
    rintro e5 W5 ⟨rfl, hT1, hN1⟩
    go_wp2_with fail
    go_end0
    exact ⟨⟨_, rfl⟩, _, hT1, far_of hN1 (by first | exact hc1 | exact hc1.trans ((Chg.refl _ _).drew)), by unfold ActP; rw [HR.out]; exact .inr (.inr (.inr ⟨rfl, rfl⟩))⟩

theorem RmNx.ahead {r r' : Rm} {base : Nat} {w w1 w' : World} (h : RmNx r r' base w1 w') (hc : Chg (fun _ => False) w w1) : RmNx r r' base w w' :=
  ⟨h.at_, h.blk, (hc.mono fun _ _ h => h.elim).trans h.chg, fun g hg => (h.foot g hg).imp id (Nat.le_trans hc.size)⟩
theorem setM_any (r : Rm) (key : ByteArray) (v : Int) (w : World) (base : Nat) (h : RmAt w base r) (hok : r.Ok) (hks : key.size ≤ 9223372036854775807) (hn : r.l.length < 1000000) :
    Calls Try.prog 58 #[ptr r.blk, .string key, .int .i64 v] w fun e w' => ∃ b r', e = .returned (.bool b) ∧ RmNx r r' base w w' ∧ SetM key v r r' b := by
  refine (SetR_any r key v w base h hok hks hn).mono ?_
  rintro e w' ⟨r', h1, ⟨i, x, h2, h3, rfl, h5⟩ | ⟨h2, rfl, lv, h3⟩⟩
  · exact ⟨false, r', rfl, h1, .inl ⟨i, x, h2, h3, rfl, h5⟩⟩
  · exact ⟨true, r', rfl, h1, .inr ⟨h2, rfl, lv, h3⟩⟩
theorem delM_any (r : Rm) (key : ByteArray) (w : World) (base : Nat) (h : RmAt w base r) (hok : r.Ok) :
    Calls Try.prog 60 #[ptr r.blk, .string key] w fun e w' => ∃ b r', e = .returned (.bool b) ∧ RmNx r r' base w w' ∧ DelM key r r' b := by
  refine (DeleteR_any r key w base h hok).mono ?_
  rintro e w' ⟨r', h1, ⟨i, x, h2, h3, rfl, lv, h5⟩ | ⟨h2, rfl, h3⟩⟩
  · exact ⟨true, r', rfl, h1, .inl ⟨i, x, h2, h3, rfl, lv, h5⟩⟩
  · exact ⟨false, r', rfl, h1, .inr ⟨h2, rfl, h3⟩⟩
theorem stepM_any (r : Rm) (n : Int) (w : World) (base : Nat) (h : RmAt w base r) (hok : r.Ok) :
    Calls Try.prog 61 #[ptr r.blk, .int .i64 n] w fun e w' => e = .returned (.int .i64 (r.k n : Int)) ∧ RmNx r (r.slots (r.k n)) base w w' := by
  refine (StepR_any r n w base h hok).mono ?_
  rintro e w' ⟨h1, h2, h3⟩
  obtain ⟨f1, f2, _⟩ := r.slots_foot (r.k n)
  exact ⟨h1, h2, f1, h3, fun g hg => .inl (by rcases hg with hg | hg; exact .inl (hg.trans f1); exact .inr (f2 ▸ hg))⟩

set_option maxRecDepth 100000 in
set_option maxHeartbeats 2000000 in
theorem modeled_p (r : Rm) (x : Act3) (W : World) (base : Nat) (h : RmAt W base r) (hok : r.Ok) (hk : x.Key.size ≤ 9223372036854775807) (hn : r.l.length < 1000000) :
    Calls Try.prog 36 #[ptr r.blk, .agg #[.int .i64 x.Do, .string x.Key, .int .i64 x.V]] W fun e W' => (∃ v, e = .returned v) ∧ ∃ r', RmNx r r' base W W' ∧ ModP x r r' := by
  have hks : (cutS x.Key 12).size ≤ 9223372036854775807 := Nat.le_trans (cutS_size _ _) hk
  obtain ⟨rr, hr, hcase⟩ := mod8 x.Do
  have hbx := Blk.new W 28 #[.int .i64 x.Do, .string x.Key, .int .i64 x.V]
  have hc1 : Chg (fun _ => False) W (W.alloc (Obj.cells #[.int .i64 x.Do, .string x.Key, .int .i64 x.V] 28)) := (Chg.refl _ W).alloc _
  have ho := h.chg0 hc1
  have c0 := hbx.cell 0
  have c1 := hbx.cell 1
  have c2 := hbx.cell 2
  have f0 := hbx.lt
  simp only [List.getElem?_toArray, List.getElem?_cons_zero, List.getElem?_cons_succ] at c0 c1 c2
  have HR := Lib.hid hr
  rcases hcase with rfl | rfl | rfl | rfl | rfl | rfl | rfl | rfl
  · go_enter Try.func36, Try.ntmps36
    go_wp2_with fail
    go_region_with (first
      | (go_at_call 39; refine (key8_any _ _ hk).mono ?_; rintro e9 w9 ⟨rfl, rfl⟩)
      | (go_at_call 58; refine (setM_any r (cutS x.Key 12) x.V _ base (ho.chg0 ((Chg.refl _ _).drew)) hok hks hn).mono ?_; rintro e5 W5 ⟨b, r', rfl, hN1, hM1⟩))
    all_goals
      go_wp2_with fail
      go_end0
      exact ⟨⟨_, rfl⟩, r', hN1.ahead (by first | exact hc1 | exact hc1.trans ((Chg.refl _ _).drew)), by unfold ModP; rw [HR.out]; exact .inl ⟨by decide, b, hM1⟩⟩
  · go_enter Try.func36, Try.ntmps36
    go_wp2_with fail
    go_region_with (first
      | (go_at_call 39; refine (key8_any _ _ hk).mono ?_; rintro e9 w9 ⟨rfl, rfl⟩)
      | (go_at_call 58; refine (setM_any r (cutS x.Key 12) x.V _ base (ho.chg0 ((Chg.refl _ _).drew)) hok hks hn).mono ?_; rintro e5 W5 ⟨b, r', rfl, hN1, hM1⟩))
    all_goals
      go_wp2_with fail
      go_end0
      exact ⟨⟨_, rfl⟩, r', hN1.ahead (by first | exact hc1 | exact hc1.trans ((Chg.refl _ _).drew)), by unfold ModP; rw [HR.out]; exact .inl ⟨by decide, b, hM1⟩⟩
  · go_enter Try.func36, Try.ntmps36
    go_wp2_with fail
    go_region_with (first
      | (go_at_call 39; refine (key8_any _ _ hk).mono ?_; rintro e9 w9 ⟨rfl, rfl⟩)
      | (go_at_call 58; refine (setM_any r (cutS x.Key 12) x.V _ base (ho.chg0 ((Chg.refl _ _).drew)) hok hks hn).mono ?_; rintro e5 W5 ⟨b, r', rfl, hN1, hM1⟩))
    all_goals
      go_wp2_with fail
      go_end0
      exact ⟨⟨_, rfl⟩, r', hN1.ahead (by first | exact hc1 | exact hc1.trans ((Chg.refl _ _).drew)), by unfold ModP; rw [HR.out]; exact .inl ⟨by decide, b, hM1⟩⟩
  · go_enter Try.func36, Try.ntmps36
    go_wp2_with fail
    go_region_with (first
      | (go_at_call 39; refine (key8_any _ _ hk).mono ?_; rintro e9 w9 ⟨rfl, rfl⟩)
      | (go_at_call 58; refine (setM_any r (cutS x.Key 12) x.V _ base (ho.chg0 ((Chg.refl _ _).drew)) hok hks hn).mono ?_; rintro e5 W5 ⟨b, r', rfl, hN1, hM1⟩))
    all_goals
      go_wp2_with fail
      go_end0
      exact ⟨⟨_, rfl⟩, r', hN1.ahead (by first | exact hc1 | exact hc1.trans ((Chg.refl _ _).drew)), by unfold ModP; rw [HR.out]; exact .inl ⟨by decide, b, hM1⟩⟩
  · go_enter Try.func36, Try.ntmps36
    go_wp2_with fail
    refine (key8_any _ _ hk).mono ?_
    rintro e9 w9 ⟨rfl, rfl⟩
    go_wp2_with fail
    refine (GetR_any r (cutS x.Key 12) _ base ho hok).mono ?_
    rintro e5 W5 ⟨hv, hN1⟩
    obtain ⟨v5, rfl⟩ : ∃ v5, e5 = .returned v5 := by rcases hv with ⟨y, _, _, rfl⟩ | ⟨_, rfl⟩ <;> exact ⟨_, rfl⟩
    go_wp2_with fail
    go_end0
    exact ⟨⟨_, rfl⟩, _, hN1.ahead (by first | exact hc1 | exact hc1.trans ((Chg.refl _ _).drew)), by unfold ModP; rw [HR.out]; exact .inr (.inl ⟨rfl, rfl⟩)⟩
  · go_enter Try.func36, Try.ntmps36
    go_wp2_with fail
    refine (key8_any _ _ hk).mono ?_
    rintro e9 w9 ⟨rfl, rfl⟩
    go_wp2_with fail
    refine (delM_any r (cutS x.Key 12) _ base ho hok).mono ?_
    rintro e5 W5 ⟨b, r', rfl, hN1, hM1⟩
    go_wp2_with fail
    go_end0
    exact ⟨⟨_, rfl⟩, r', hN1.ahead (by first | exact hc1 | exact hc1.trans ((Chg.refl _ _).drew)), by unfold ModP; rw [HR.out]; exact .inr (.inr (.inl ⟨.inl rfl, b, hM1⟩))⟩
  · go_enter Try.func36, Try.ntmps36
    go_wp2_with fail
    refine (key8_any _ _ hk).mono ?_
    rintro e9 w9 ⟨rfl, rfl⟩
    go_wp2_with fail
    refine (delM_any r (cutS x.Key 12) _ base ho hok).mono ?_
    rintro e5 W5 ⟨b, r', rfl, hN1, hM1⟩
    go_wp2_with fail
    go_end0
    exact ⟨⟨_, rfl⟩, r', hN1.ahead (by first | exact hc1 | exact hc1.trans ((Chg.refl _ _).drew)), by unfold ModP; rw [HR.out]; exact .inr (.inr (.inl ⟨.inr rfl, b, hM1⟩))⟩
  · go_enter Try.func36, Try.ntmps36
    go_wp2_with fail
    refine (stepM_any r (min x.V 100) _ base ho hok).mono ?_
    rintro e5 W5 ⟨rfl, hN1⟩
    go_wp2_with fail
    go_end0
    exact ⟨⟨_, rfl⟩, _, hN1.ahead (by first | exact hc1 | exact hc1.trans ((Chg.refl _ _).drew)), by unfold ModP; rw [HR.out]; exact .inr (.inr (.inr ⟨rfl, rfl⟩))⟩

end Go.Proofs.Ythbjjjcppijcbaa

/- The begin of both dicts; small keys. -/
namespace Go.Proofs.Ythbjjjcppijcbaa
open Go.RowKit Pal Dint

def Tiny (d : Dm) : Prop := ∀ k, (d.look k).isSome = true → k.size ≤ 12
theorem cutS_tiny (s : ByteArray) : (cutS s 12).size ≤ 12 := by
  unfold cutS
  split
  · rw [ByteArray.size_extract]; omega
  · omega
theorem Tiny.look {d d' : Dm} (h : Tiny d) (hl : ∀ k, d'.look k = d.look k) : Tiny d' := fun k hk => h k (by rw [← hl]; exact hk)
theorem Tiny.puts {d d' : Dm} {s : ByteArray} {v : Value} (h : Tiny d) (hp : Puts (cutS s 12) v d d') : Tiny d' := by
  intro k hk
  rw [hp.1] at hk
  split at hk
  · rename_i e; rw [e]; exact cutS_tiny _
  · exact h k hk
theorem Tiny.cuts {d d' : Dm} {s : ByteArray} (h : Tiny d) (hp : Cuts s d d') : Tiny d' := by
  intro k hk
  rw [hp.1] at hk
  split at hk
  · cases hk
  · exact h k hk
theorem new_p (w : World) (seed : Nat) (hs : seed < 4294967296) :
    Calls Try.prog 15 #[.int .u32 (seed : Int)] w fun e W' => ∃ bd d, e = .returned (.pointer (some ⟨bd, 0, none⟩)) ∧ One w W' bd d ∧ d.n = 0 ∧ (∀ k, d.look k = none) ∧ Dint.shape d = (4, none, 0) ∧ d.seed = seed :=
  (New_i seed hs w).mono fun e W' ⟨d, h1, h2, h3, hse, h4, h5, h6, h7, h8⟩ => ⟨d.blk, d, h1, ⟨⟨h2, h3, h7⟩, rfl, h8⟩, h4, h5, h6, hse⟩
theorem RmAt.lower {w : World} {base b : Nat} {r : Rm} (h : RmAt w base r) (hb : b ≤ base) : RmAt w b r := ⟨h.hd, h.own.lower hb, Nat.le_trans hb h.ge⟩
/-- Both dicts, made. -/
theorem half_new {w W W' : World} {bd seed : Nat} {d : Dm} (h : One w W bd d) (hn : d.n = 0) (hl : ∀ k, d.look k = none) (hs : Dint.shape d = (4, none, 0)) (hse : d.seed = seed)
    (hr : RmAt W' W.heap.size ⟨W.heap.size, .slice none 0 0, seed, 4, 0, 0, []⟩) (hc : Chg (fun _ => False) W W') :
    Half w W' bd W.heap.size d ⟨W.heap.size, .slice none 0 0, seed, 4, 0, 0, []⟩ ∧ Tie d ⟨W.heap.size, .slice none 0 0, seed, 4, 0, 0, []⟩ ∧ Tiny d :=
  ⟨⟨h.chg0 hc, hr.lower h.chg.size, rfl, fun g hg hd => by
    have := h.md.lt hd
    rcases hg with hg | hg
    · have hg : g = W.heap.size := hg
      omega
    · cases hg⟩, Tie.new hn hl hs hse, fun k hk => by rw [hl] at hk; cases hk⟩
theorem Half.moved {w0 W W' : World} {bd br : Nat} {d d' : Dm} {r : Rm} (h : Half w0 W bd br d r) (h1 : One w0 W' bd d') (hc : Chg d.foot W W') (hf : ∀ g, d'.foot g → d.foot g ∨ W.heap.size ≤ g) : Half w0 W' bd br d' r :=
  ⟨h1, h.rm.chg hc (fun g hg hd => h.ap g hg hd), h.br, fun g hg hd => by
    rcases hf g hd with h' | h'
    · exact h.ap g hg h'
    · have := (h.rm.lt hg).2; omega⟩

end Go.Proofs.Ythbjjjcppijcbaa

/- A slice of whole numbers, read. -/
namespace Go.Proofs.Ythbjjjcppijcbaa
open Go.RowKit Pal Go.ChangeShapes Go.WideShapes Go.Deep

/-- The value is a slice of n whole numbers. -/
structure IntsAt (w : World) (v : Value) (n : Nat) (g : Nat → Int) : Prop where
  is : ∃ p cap, v = .slice p n cap
  le : n ≤ maxLen
  at_ : ∀ i, i < n → ∃ b o cap, v = .slice (some ⟨b, o, none⟩) n cap ∧ b < w.heap.size ∧ w.cell? ⟨b, o + i, none⟩ = some (.int .i64 (g i)) ∧ (Lit.int .i64 (g i)).wf = true
theorem IntsAt.chg {w w' : World} {v : Value} {n : Nat} {g : Nat → Int} (h : IntsAt w v n g) (hc : Chg (fun _ => False) w w') : IntsAt w' v n g where
  is := h.is
  le := h.le
  at_ := fun i hi => by
    obtain ⟨b, o, cap, h1, h2, h3, h4⟩ := h.at_ i hi
    exact ⟨b, o, cap, h1, Nat.lt_of_lt_of_le h2 hc.size, by rw [Chg.cell hc h2 id]; exact h3, h4⟩
theorem ints1 {w : World} {b o cap n : Nat} {g : Nat → Int} (h : IntsAt w (.slice (some ⟨b, o, none⟩) n cap) n g) {i : Nat} (hi : i < n) : b < w.heap.size ∧ w.cell? ⟨b, o + i, none⟩ = some (.int .i64 (g i)) := by
  obtain ⟨b', o', cap', heq, h1, h2, _⟩ := h.at_ i hi
  injection heq with heq
  injection heq with heq
  injection heq with e1 e2
  subst e1 e2
  exact ⟨h1, h2⟩
theorem pick_int {n : Nat} {p : Nat → Int → Prop} (h : ∀ i, i < n → ∃ x, p i x) : ∃ f : Nat → Int, ∀ i, i < n → p i (f i) := by
  classical
  refine ⟨fun i => if hi : i < n then Classical.choose (h i hi) else 0, fun i hi => ?_⟩
  simp only [dif_pos hi]
  exact Classical.choose_spec (h i hi)

set_option maxRecDepth 100000 in
theorem open_ints1 {H : Type} {enc : TypeId × Value → H} {w : World} {v : Value} {d : DataW H} {p : List MemPlace}
    (hv : Value.okWide Try.prog w .any 0 61 v) (h : DataW.Trod enc Try.prog w 0 (fun _ => true) true 61 v d p) :
    ∃ n g, IntsAt w v n g := by
  obtain ⟨a0, len0, cap0, rfl⟩ := okWide_slice Try.underlying61 hv
  obtain ⟨fuel, hf'⟩ := h
  rcases open_slice Try.underlying61 hf' with ⟨hc, hx⟩ | ⟨a, len, cap, m, n, D, Pl, hc, _, hl, hm, hmm, hx, hi⟩
  · simp only [Value.cells, List.cons.injEq, and_true] at hc
    exact ⟨0, fun _ => 0, ⟨_, _, hc⟩, Nat.zero_le _, fun i hi => absurd hi (Nat.not_lt_zero _)⟩
  · simp only [Value.cells, List.cons.injEq, and_true] at hc
    simp only [if_true] at hmm
    subst hmm
    rcases Nat.eq_zero_or_pos len with h0 | hpos
    · subst h0
      exact ⟨0, fun _ => 0, ⟨_, _, hc⟩, Nat.zero_le _, fun i hi => absurd hi (Nat.not_lt_zero _)⟩
    have hC : Try.prog.cellsOf 3 = 1 := by kernel_rfl
    have hcell : ∀ i, i < len → ∃ x : Int, w.cell? (a.add i) = some (.int .i64 x) ∧ (Lit.int .i64 x).wf = true := fun i hil => by
      obtain ⟨cs', hcs, ht⟩ := hi i (by omega)
      rw [hC] at hcs
      obtain ⟨_, hcl, hat⟩ := World.cells?_some hcs
      match cs', hcl with
      | [c0], _ =>
        have h1 := hat 0 (by omega)
        obtain ⟨k, rfl, wf⟩ := trod_i Try.underlying3 ht
        rw [Nat.mul_one, Go.Deep.add_add, Nat.add_zero] at h1
        exact ⟨k, by simpa using h1, wf⟩
    have hsp : a.spot = none := by
      obtain ⟨x, c0, _⟩ := hcell 0 hpos
      exact World.cell?_spot c0
    obtain ⟨b, o, sp⟩ := a
    have hsp : sp = none := hsp
    subst hsp
    obtain ⟨g, hg⟩ := pick_int hcell
    refine ⟨len, g, ⟨_, _, hc⟩, Nat.le_trans hl hm, fun i hi => ?_⟩
    obtain ⟨h1, h2⟩ := hg i hi
    rw [addr_add] at h1
    exact ⟨b, o, m, hc, block_lt' h1, h1, h2⟩
theorem mod21 (x : Int) : ∃ r : Int, (IntKind.u64.wrap x).tmod 21 = r ∧ 0 ≤ r ∧ r ≤ 20 := by
  refine ⟨_, rfl, ?_⟩
  have h : 0 ≤ IntKind.u64.wrap x := by
    have e : IntKind.u64.wrap x = x % 18446744073709551616 := by simp [IntKind.wrap, IntKind.bits, IntKind.signed]
    rw [e]; omega
  rw [Int.tmod_eq_emod_of_nonneg h]
  omega

end Go.Proofs.Ythbjjjcppijcbaa

/- A slice of words, read. -/
namespace Go.Proofs.Ythbjjjcppijcbaa
open Go.RowKit Pal Go.ChangeShapes Go.WideShapes Go.Deep

/-- The value is a slice of n whole numbers. -/
structure UintsAt (w : World) (v : Value) (n : Nat) (g : Nat → Int) : Prop where
  is : ∃ p cap, v = .slice p n cap
  le : n ≤ maxLen
  at_ : ∀ i, i < n → ∃ b o cap, v = .slice (some ⟨b, o, none⟩) n cap ∧ b < w.heap.size ∧ w.cell? ⟨b, o + i, none⟩ = some (.int .u32 (g i)) ∧ (Lit.int .u32 (g i)).wf = true
theorem UintsAt.chg {w w' : World} {v : Value} {n : Nat} {g : Nat → Int} (h : UintsAt w v n g) (hc : Chg (fun _ => False) w w') : UintsAt w' v n g where
  is := h.is
  le := h.le
  at_ := fun i hi => by
    obtain ⟨b, o, cap, h1, h2, h3, h4⟩ := h.at_ i hi
    exact ⟨b, o, cap, h1, Nat.lt_of_lt_of_le h2 hc.size, by rw [Chg.cell hc h2 id]; exact h3, h4⟩
theorem uints1 {w : World} {b o cap n : Nat} {g : Nat → Int} (h : UintsAt w (.slice (some ⟨b, o, none⟩) n cap) n g) {i : Nat} (hi : i < n) : b < w.heap.size ∧ w.cell? ⟨b, o + i, none⟩ = some (.int .u32 (g i)) := by
  obtain ⟨b', o', cap', heq, h1, h2, _⟩ := h.at_ i hi
  injection heq with heq
  injection heq with heq
  injection heq with e1 e2
  subst e1 e2
  exact ⟨h1, h2⟩
theorem trod_u {H : Type} {enc : TypeId × Value → H} {P : Program} {w : World} {base : Nat} {spare : Nat → Bool} {held : Bool} {n : Nat} {t : TypeId} {v : Value} {y : DataW H × List MemPlace} (ht : P.underlying t = some (.int .u32)) (h : DataW.trod enc P w base spare held n t [v] = some y) : ∃ k, v = .int .u32 k ∧ (Lit.int .u32 k).wf = true := by
  obtain ⟨k, h1, _, h3⟩ := DataW.trod_int ht h
  simp only [List.cons.injEq, and_true] at h1
  exact ⟨k, h1, h3⟩
set_option maxRecDepth 100000 in
theorem open_uints1 {H : Type} {enc : TypeId × Value → H} {w : World} {v : Value} {d : DataW H} {p : List MemPlace}
    (hv : Value.okWide Try.prog w .any 0 65 v) (h : DataW.Trod enc Try.prog w 0 (fun _ => true) true 65 v d p) :
    ∃ n g, UintsAt w v n g := by
  obtain ⟨a0, len0, cap0, rfl⟩ := okWide_slice Try.underlying65 hv
  obtain ⟨fuel, hf'⟩ := h
  rcases open_slice Try.underlying65 hf' with ⟨hc, hx⟩ | ⟨a, len, cap, m, n, D, Pl, hc, _, hl, hm, hmm, hx, hi⟩
  · simp only [Value.cells, List.cons.injEq, and_true] at hc
    exact ⟨0, fun _ => 0, ⟨_, _, hc⟩, Nat.zero_le _, fun i hi => absurd hi (Nat.not_lt_zero _)⟩
  · simp only [Value.cells, List.cons.injEq, and_true] at hc
    simp only [if_true] at hmm
    subst hmm
    rcases Nat.eq_zero_or_pos len with h0 | hpos
    · subst h0
      exact ⟨0, fun _ => 0, ⟨_, _, hc⟩, Nat.zero_le _, fun i hi => absurd hi (Nat.not_lt_zero _)⟩
    have hC : Try.prog.cellsOf 22 = 1 := by kernel_rfl
    have hcell : ∀ i, i < len → ∃ x : Int, w.cell? (a.add i) = some (.int .u32 x) ∧ (Lit.int .u32 x).wf = true := fun i hil => by
      obtain ⟨cs', hcs, ht⟩ := hi i (by omega)
      rw [hC] at hcs
      obtain ⟨_, hcl, hat⟩ := World.cells?_some hcs
      match cs', hcl with
      | [c0], _ =>
        have h1 := hat 0 (by omega)
        obtain ⟨k, rfl, wf⟩ := trod_u Try.underlying22 ht
        rw [Nat.mul_one, Go.Deep.add_add, Nat.add_zero] at h1
        exact ⟨k, by simpa using h1, wf⟩
    have hsp : a.spot = none := by
      obtain ⟨x, c0, _⟩ := hcell 0 hpos
      exact World.cell?_spot c0
    obtain ⟨b, o, sp⟩ := a
    have hsp : sp = none := hsp
    subst hsp
    obtain ⟨g, hg⟩ := pick_int hcell
    refine ⟨len, g, ⟨_, _, hc⟩, Nat.le_trans hl hm, fun i hi => ?_⟩
    obtain ⟨h1, h2⟩ := hg i hi
    rw [addr_add] at h1
    exact ⟨b, o, m, hc, block_lt' h1, h1, h2⟩

end Go.Proofs.Ythbjjjcppijcbaa

/- The walk of ScanTells. -/
namespace Go.Proofs.Ythbjjjcppijcbaa.scanTells
open Go.RowKit Pal Dint

theorem all73 {P : Array Value → Prop} (h : ∀ u0 u1 u2 u3 u4 u5 u6 u7 u8 u9 u10 u11 u12 u13 u14 u15 u16 u17 u18 u19 u20 u21 u22 u23 u24 u25 u26 u27 u28 u29 u30 u31 u32 u33 u34 u35 u36 u37 u38 u39 u40 u41 u42 u43 u44 u45 u46 u47 u48 u49 u50 u51 u52 u53 u54 u55 u56 u57 u58 u59 u60 u61 u62 u63 u64 u65 u66 u67 u68 u69 u70 u71 u72 : Value, P #[u0, u1, u2, u3, u4, u5, u6, u7, u8, u9, u10, u11, u12, u13, u14, u15, u16, u17, u18, u19, u20, u21, u22, u23, u24, u25, u26, u27, u28, u29, u30, u31, u32, u33, u34, u35, u36, u37, u38, u39, u40, u41, u42, u43, u44, u45, u46, u47, u48, u49, u50, u51, u52, u53, u54, u55, u56, u57, u58, u59, u60, u61, u62, u63, u64, u65, u66, u67, u68, u69, u70, u71, u72]) (a : Array Value) (hs : a.size = 73) : P a := by
  obtain ⟨l⟩ := a
  have g0 : l.length = 73 := hs
  clear hs
  obtain ⟨u0, l0, e0, g1⟩ := Pal.len_cons g0
  obtain ⟨u1, l1, e1, g2⟩ := Pal.len_cons g1
  obtain ⟨u2, l2, e2, g3⟩ := Pal.len_cons g2
  obtain ⟨u3, l3, e3, g4⟩ := Pal.len_cons g3
  obtain ⟨u4, l4, e4, g5⟩ := Pal.len_cons g4
  obtain ⟨u5, l5, e5, g6⟩ := Pal.len_cons g5
  obtain ⟨u6, l6, e6, g7⟩ := Pal.len_cons g6
  obtain ⟨u7, l7, e7, g8⟩ := Pal.len_cons g7
  obtain ⟨u8, l8, e8, g9⟩ := Pal.len_cons g8
  obtain ⟨u9, l9, e9, g10⟩ := Pal.len_cons g9
  obtain ⟨u10, l10, e10, g11⟩ := Pal.len_cons g10
  obtain ⟨u11, l11, e11, g12⟩ := Pal.len_cons g11
  obtain ⟨u12, l12, e12, g13⟩ := Pal.len_cons g12
  obtain ⟨u13, l13, e13, g14⟩ := Pal.len_cons g13
  obtain ⟨u14, l14, e14, g15⟩ := Pal.len_cons g14
  obtain ⟨u15, l15, e15, g16⟩ := Pal.len_cons g15
  obtain ⟨u16, l16, e16, g17⟩ := Pal.len_cons g16
  obtain ⟨u17, l17, e17, g18⟩ := Pal.len_cons g17
  obtain ⟨u18, l18, e18, g19⟩ := Pal.len_cons g18
  obtain ⟨u19, l19, e19, g20⟩ := Pal.len_cons g19
  obtain ⟨u20, l20, e20, g21⟩ := Pal.len_cons g20
  obtain ⟨u21, l21, e21, g22⟩ := Pal.len_cons g21
  obtain ⟨u22, l22, e22, g23⟩ := Pal.len_cons g22
  obtain ⟨u23, l23, e23, g24⟩ := Pal.len_cons g23
  obtain ⟨u24, l24, e24, g25⟩ := Pal.len_cons g24
  obtain ⟨u25, l25, e25, g26⟩ := Pal.len_cons g25
  obtain ⟨u26, l26, e26, g27⟩ := Pal.len_cons g26
  obtain ⟨u27, l27, e27, g28⟩ := Pal.len_cons g27
  obtain ⟨u28, l28, e28, g29⟩ := Pal.len_cons g28
  obtain ⟨u29, l29, e29, g30⟩ := Pal.len_cons g29
  obtain ⟨u30, l30, e30, g31⟩ := Pal.len_cons g30
  obtain ⟨u31, l31, e31, g32⟩ := Pal.len_cons g31
  obtain ⟨u32, l32, e32, g33⟩ := Pal.len_cons g32
  obtain ⟨u33, l33, e33, g34⟩ := Pal.len_cons g33
  obtain ⟨u34, l34, e34, g35⟩ := Pal.len_cons g34
  obtain ⟨u35, l35, e35, g36⟩ := Pal.len_cons g35
  obtain ⟨u36, l36, e36, g37⟩ := Pal.len_cons g36
  obtain ⟨u37, l37, e37, g38⟩ := Pal.len_cons g37
  obtain ⟨u38, l38, e38, g39⟩ := Pal.len_cons g38
  obtain ⟨u39, l39, e39, g40⟩ := Pal.len_cons g39
  obtain ⟨u40, l40, e40, g41⟩ := Pal.len_cons g40
  obtain ⟨u41, l41, e41, g42⟩ := Pal.len_cons g41
  obtain ⟨u42, l42, e42, g43⟩ := Pal.len_cons g42
  obtain ⟨u43, l43, e43, g44⟩ := Pal.len_cons g43
  obtain ⟨u44, l44, e44, g45⟩ := Pal.len_cons g44
  obtain ⟨u45, l45, e45, g46⟩ := Pal.len_cons g45
  obtain ⟨u46, l46, e46, g47⟩ := Pal.len_cons g46
  obtain ⟨u47, l47, e47, g48⟩ := Pal.len_cons g47
  obtain ⟨u48, l48, e48, g49⟩ := Pal.len_cons g48
  obtain ⟨u49, l49, e49, g50⟩ := Pal.len_cons g49
  obtain ⟨u50, l50, e50, g51⟩ := Pal.len_cons g50
  obtain ⟨u51, l51, e51, g52⟩ := Pal.len_cons g51
  obtain ⟨u52, l52, e52, g53⟩ := Pal.len_cons g52
  obtain ⟨u53, l53, e53, g54⟩ := Pal.len_cons g53
  obtain ⟨u54, l54, e54, g55⟩ := Pal.len_cons g54
  obtain ⟨u55, l55, e55, g56⟩ := Pal.len_cons g55
  obtain ⟨u56, l56, e56, g57⟩ := Pal.len_cons g56
  obtain ⟨u57, l57, e57, g58⟩ := Pal.len_cons g57
  obtain ⟨u58, l58, e58, g59⟩ := Pal.len_cons g58
  obtain ⟨u59, l59, e59, g60⟩ := Pal.len_cons g59
  obtain ⟨u60, l60, e60, g61⟩ := Pal.len_cons g60
  obtain ⟨u61, l61, e61, g62⟩ := Pal.len_cons g61
  obtain ⟨u62, l62, e62, g63⟩ := Pal.len_cons g62
  obtain ⟨u63, l63, e63, g64⟩ := Pal.len_cons g63
  obtain ⟨u64, l64, e64, g65⟩ := Pal.len_cons g64
  obtain ⟨u65, l65, e65, g66⟩ := Pal.len_cons g65
  obtain ⟨u66, l66, e66, g67⟩ := Pal.len_cons g66
  obtain ⟨u67, l67, e67, g68⟩ := Pal.len_cons g67
  obtain ⟨u68, l68, e68, g69⟩ := Pal.len_cons g68
  obtain ⟨u69, l69, e69, g70⟩ := Pal.len_cons g69
  obtain ⟨u70, l70, e70, g71⟩ := Pal.len_cons g70
  obtain ⟨u71, l71, e71, g72⟩ := Pal.len_cons g71
  obtain ⟨u72, l72, e72, g73⟩ := Pal.len_cons g72
  obtain rfl := List.eq_nil_of_length_eq_zero g73
  have e : (⟨l⟩ : Array Value) = #[u0, u1, u2, u3, u4, u5, u6, u7, u8, u9, u10, u11, u12, u13, u14, u15, u16, u17, u18, u19, u20, u21, u22, u23, u24, u25, u26, u27, u28, u29, u30, u31, u32, u33, u34, u35, u36, u37, u38, u39, u40, u41, u42, u43, u44, u45, u46, u47, u48, u49, u50, u51, u52, u53, u54, u55, u56, u57, u58, u59, u60, u61, u62, u63, u64, u65, u66, u67, u68, u69, u70, u71, u72] := by rw [e0, e1, e2, e3, e4, e5, e6, e7, e8, e9, e10, e11, e12, e13, e14, e15, e16, e17, e18, e19, e20, e21, e22, e23, e24, e25, e26, e27, e28, e29, e30, e31, e32, e33, e34, e35, e36, e37, e38, e39, e40, e41, e42, e43, e44, e45, e46, e47, e48, e49, e50, e51, e52, e53, e54, e55, e56, e57, e58, e59, e60, e61, e62, e63, e64, e65, e66, e67, e68, e69, e70, e71, e72]
  rw [e]
  exact h u0 u1 u2 u3 u4 u5 u6 u7 u8 u9 u10 u11 u12 u13 u14 u15 u16 u17 u18 u19 u20 u21 u22 u23 u24 u25 u26 u27 u28 u29 u30 u31 u32 u33 u34 u35 u36 u37 u38 u39 u40 u41 u42 u43 u44 u45 u46 u47 u48 u49 u50 u51 u52 u53 u54 u55 u56 u57 u58 u59 u60 u61 u62 u63 u64 u65 u66 u67 u68 u69 u70 u71 u72
theorem tiny_acts {d d' : Dm} {x : Act3} (h : Tiny d) (hA : Acts x d d') : Tiny d' := by
  rcases hA with ⟨_, hp, _⟩ | ⟨_, hp, _⟩ | ⟨_, hp, _⟩ | ⟨_, hp, _⟩
  · exact h.puts hp
  · exact h.look hp.1
  · exact h.cuts hp
  · exact h.look hp.1

def Act0 (l cs : Value) (bd br i : Nat) (a : Act) : Prop := a.tmps.size = 73 ∧ a.tmps[1]? = some (l) ∧ a.tmps[2]? = some (cs) ∧ a.tmps[7]? = some (.bool true) ∧ a.tmps[8]? = some (ptr bd) ∧ a.tmps[9]? = some (ptr br) ∧ a.tmps[10]? = some (.int .i64 (i : Int)) ∧ a.defers = []
def Inv0 (w0 : World) (l cs : Value) (M bd br : Nat) (m : Nat) (a : Act) (w : World) : Prop :=
  ∃ i d r, m = M - i ∧ i ≤ M ∧ Act0 l cs bd br i a ∧ Half w0 w bd br d r ∧ Tie d r ∧ d.n ≤ i ∧ Tiny d

set_option maxRecDepth 100000 in
set_option maxHeartbeats 4000000 in
theorem walk (s1 : Nat) (h1 : s1 < 4294967296) (v : Value) (n : Nat) (g : Nat → Act3) (v2 : Value) (n2 : Nat) (g2 : Nat → Int) (w : World) (hv : ActsAt w v n g) (hb : UintsAt w v2 n2 g2) :
    Calls Try.prog 10 #[.int .u32 (s1 : Int), v, v2] w fun e w' => e = .returned (.bool true) ∧ Chg (fun _ => False) w w' := by
  go_enter Try.func10, Try.ntmps10
  go_wp2_with fail
  refine (shown08_any w).mono ?_
  rintro e w1 ⟨rfl, rfl⟩
  go_wp2_with fail
  refine (new_p w s1 h1).mono ?_
  rintro e w2 ⟨bd, d0, rfl, hT, dn, dl, dsh, hse⟩
  go_wp2_with fail
  refine (NewR_any s1 w2).mono ?_
  rintro e w3 ⟨rfl, hR, hC⟩
  obtain ⟨hH, hTie, hTiny⟩ := half_new hT dn dl dsh hse hR hC
  obtain ⟨br, hbr⟩ : ∃ br, br = w2.heap.size := ⟨_, rfl⟩
  rw [← hbr] at hH hTie ⊢
  clear hT dl dsh hse hR hC hbr
  go_wp2_with fail
  refine wp_loop_ghost (Inv0 w v v2 (min n 100) bd br) (min n 100) ?_ ?_
  · exact ⟨0, d0, _, rfl, Nat.zero_le _, ⟨rfl, rfl, rfl, rfl, rfl, rfl, rfl, rfl⟩, hH, hTie, Nat.le_of_eq dn, hTiny⟩
  · clear hH hTie hTiny dn
    rintro m ⟨tmps, ds⟩ W ⟨i, d, r, rfl, hi, ⟨hsz, t1, t2, t7, t8, t9, t10, rfl⟩, hH, hTie, hdn, hTiny⟩
    replace hsz : tmps.size = 73 := hsz
    dsimp only at t1 t2 t7 t8 t9 t10
    revert t1 t2 t7 t8 t9 t10
    revert hsz
    revert tmps
    refine all73 ?_
    intro u0 u1 u2 u3 u4 u5 u6 u7 u8 u9 u10 u11 u12 u13 u14 u15 u16 u17 u18 u19 u20 u21 u22 u23 u24 u25 u26 u27 u28 u29 u30 u31 u32 u33 u34 u35 u36 u37 u38 u39 u40 u41 u42 u43 u44 u45 u46 u47 u48 u49 u50 u51 u52 u53 u54 u55 u56 u57 u58 u59 u60 u61 u62 u63 u64 u65 u66 u67 u68 u69 u70 u71 u72 t1 t2 t7 t8 t9 t10
    simp only [ptr, List.getElem?_toArray, List.getElem?_cons_zero, List.getElem?_cons_succ, Option.some.injEq] at t1 t2 t7 t8 t9 t10
    subst t1 t2 t7 t8 t9 t10
    obtain ⟨p, cap, rfl⟩ := hv.is
    obtain ⟨p2, cap2, rfl⟩ := hb.is
    have hle := hv.le
    have hle2 := hb.le
    by_cases hin : i < n
    · have hin' : (i : Int) < (n : Int) := by omega
      by_cases hi1 : i < 100
      · have hi' : (i : Int) < 100 := by omega
        have hv' := hv.chg hH.one.chg
        obtain ⟨bx, off, cap', heq, _⟩ := hv'.at_ i hin
        injection heq with heq hx hcap
        subst heq hcap
        clear hx
        obtain ⟨hb1, q0, q1, q2, f1⟩ := acts3 hv' hin
        have hok := hH.one.md.ok
        have hac := acted_p hH.one (g i) f1 (by omega)
        go_wp2_with fail
        refine hac.mono ?_
        rintro e5 W5 ⟨⟨v5, rfl⟩, d', hT1, hF1, hA1⟩
        have hH1 := hH.moved hT1 hF1.chg hF1.foot
        have hok' := hT1.md.ok
        obtain ⟨hb1, q0, q1, q2, f1⟩ := acts3 (hv.chg hH1.one.chg) hin
        have hmo := modeled_p r (g i) W5 w.heap.size hH1.rm (hTie.ok hok (by omega)) f1 (by rw [hTie.n]; omega)
        unfold ptr at hmo
        rw [hH1.br] at hmo
        clear hac
        go_wp2_with fail
        refine hmo.mono ?_
        rintro e6 W6 ⟨⟨v6, rfl⟩, r', hx6, hM6⟩
        have hH2 := hH1.right hx6
        have hTie' := tie_acts hTie hok hok' (by omega) hF1.seed hA1 hM6
        have hA2 := actP_acts hok hA1
        have hn' := acts_n hA2
        have hTiny' := tiny_acts hTiny hA2
        have hdn' : d'.n ≤ 100000 := by omega
        have hdn6 : d'.n ≤ 1000000 := by omega
        have hlen6 : r'.l.length ≤ 1000000 := by rw [hTie'.n]; omega
        have hsums := hTie'.sums
        have hsizes := hTie'.sizes hTiny'
        have hal := hTie'.alike hok'
        clear hmo hH hH1 hTie hTiny hA1 hA2 hM6 hx6 hF1 hT1 hok
        by_cases hiu : i < n2
        · have hiu' : (i : Int) < (n2 : Int) := by omega
          obtain ⟨bu, ou, capu, heq, _, _, hwf⟩ := (hb.chg hH2.one.chg).at_ i hiu
          injection heq with heq hx hcap
          subst heq hcap
          clear hx
          obtain ⟨u1, u2⟩ := uints1 (hb.chg hH2.one.chg) hiu
          obtain ⟨c, hce, hc32⟩ := u32_of_wf hwf
          rw [hce] at u2
          have hsc := scan_1 hH2.one c hc32 hdn'
          have hsr := fun W (hW : RmAt W w.heap.size r') => ScanR_any d' r' c W w.heap.size hW hok' hal hc32 hlen6 hdn6 hsums hsizes
          unfold ptr at hsr
          rw [hH2.br] at hsr
          go_wp2_with fail
          refine hsc.mono ?_
          rintro e7 W7 ⟨⟨v7, rfl, hs7⟩, _, hC7⟩
          have hH3 := hH2.chg0 hC7
          clear hsc
          go_wp2_with fail
          refine (hsr _ hH3.rm).mono ?_
          rintro e8 W8 ⟨⟨v8, rfl, hs8⟩, hC8⟩
          have hH4 := hH3.chg0 hC8
          clear hsr
          have htx := Texts_any v7 v8 _ _ _ _ W8 (hs7.chg hC8 fun _ _ => id) hs8
          simp only [decide_true] at htx
          go_wp2_with fail
          refine htx.mono ?_
          rintro e9 W9 ⟨rfl, hC9⟩
          clear htx
          go_wp2_with fail
          exact ⟨min n 100 - (i + 1), by omega, i + 1, d', r', rfl, by omega, ⟨rfl, rfl, rfl, rfl, rfl, rfl, rfl, rfl⟩, hH4.chg0 hC9, hTie', by omega, hTiny'⟩
        · have hiu' : ((i : Int) < (n2 : Int)) = False := by simp only [eq_iff_iff, iff_false]; omega
          have hiu2 : (i < n2) = False := by simp only [eq_iff_iff, iff_false]; omega
          have hc32 : 0 < 4294967296 := by omega
          clear hiu
          have hsc := scan_1 hH2.one 0 hc32 hdn'
          have hsr := fun W (hW : RmAt W w.heap.size r') => ScanR_any d' r' 0 W w.heap.size hW hok' hal hc32 hlen6 hdn6 hsums hsizes
          unfold ptr at hsr
          rw [hH2.br] at hsr
          go_wp2_with fail
          refine hsc.mono ?_
          rintro e7 W7 ⟨⟨v7, rfl, hs7⟩, _, hC7⟩
          have hH3 := hH2.chg0 hC7
          clear hsc
          go_wp2_with fail
          refine (hsr _ hH3.rm).mono ?_
          rintro e8 W8 ⟨⟨v8, rfl, hs8⟩, hC8⟩
          have hH4 := hH3.chg0 hC8
          clear hsr
          have htx := Texts_any v7 v8 _ _ _ _ W8 (hs7.chg hC8 fun _ _ => id) hs8
          simp only [decide_true] at htx
          go_wp2_with fail
          refine htx.mono ?_
          rintro e9 W9 ⟨rfl, hC9⟩
          clear htx
          go_wp2_with fail
          exact ⟨min n 100 - (i + 1), by omega, i + 1, d', r', rfl, by omega, ⟨rfl, rfl, rfl, rfl, rfl, rfl, rfl, rfl⟩, hH4.chg0 hC9, hTie', by omega, hTiny'⟩
      · have hi' : ((i : Int) < 100) = False := by simp only [eq_iff_iff, iff_false]; omega
        have hC := hH.one.chg
        clear hi1
        go_wp2_with fail
        go_ret
        exact ⟨rfl, hC⟩
    · have hin' : ((i : Int) < (n : Int)) = False := by simp only [eq_iff_iff, iff_false]; omega
      have hin2 : (i < n) = False := by simp only [eq_iff_iff, iff_false]; omega
      have hC := hH.one.chg
      clear hin
      go_wp2_with fail
      go_ret
      exact ⟨rfl, hC⟩

set_option maxRecDepth 100000 in
theorem ScanTells_walk (W : World) (a0 : Int) (w0 : (Lit.int .u32 a0).wf = true) {H : Type} {enc : TypeId × Value → H} {v : Value} {d : DataW H} {p : List MemPlace} {v2 : Value} {d2 : DataW H} {p2 : List MemPlace}
    (hv : Value.okWide Try.prog W .any 0 23 v) (h : DataW.Trod enc Try.prog W 0 (fun _ => true) true 23 v d p)
    (hv2 : Value.okWide Try.prog W .any 0 65 v2) (h2 : DataW.Trod enc Try.prog W 0 (fun _ => true) true 65 v2 d2 p2) :
    Calls Try.prog 10 #[.int .u32 a0, v, v2] W fun e w' => e = .returned (.bool true) ∧ Chg (fun _ => False) W w' := by
  obtain ⟨s0, rfl, h0⟩ := u32_of_wf w0
  obtain ⟨n, g, hg⟩ := open_acts hv h
  obtain ⟨n2, g2, hg2⟩ := open_uints1 hv2 h2
  exact walk s0 h0 v n g v2 n2 g2 W hg hg2

end Go.Proofs.Ythbjjjcppijcbaa.scanTells
