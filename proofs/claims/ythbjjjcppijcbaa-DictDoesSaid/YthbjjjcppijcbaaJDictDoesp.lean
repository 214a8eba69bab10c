/- Texts joined for DictDoes: RP, S11, RS, RV, S7, RD. -/
import Derived.Test.YthbjjjcppijcbaaJDictDoesl
import Derived.Test.YthbjjjcppijcbaaJDictDoesn
import Derived.Test.YthbjjjcppijcbaaJDictDoeso
set_option linter.unusedVariables false
set_option linter.unusedSimpArgs false

/- The two dicts side by side. -/
namespace Go.Proofs.Ythbjjjcppijcbaa
open Go.RowKit Pal Dint

def SetD (key : ByteArray) (v : Int) (d d' : Dm) : Prop := Puts key (.int .i64 v) d d' ∧ Dint.shape d' = (if (d.look key).isNone then growS (stepS (Dint.shape d) 1) d.n else stepS (Dint.shape d) 1) ∧ ∀ k, d'.in1 k ↔ (stepD d 1).in1 k ∨ (k = key ∧ d'.t1.isSome = true ∧ d.look key = none)
def DelD (key : ByteArray) (d d' : Dm) : Prop := Cuts key d d' ∧ Dint.shape d' = (if (d.look key).isSome then shrinkS (stepS (Dint.shape d) 1) (d.n - 1) else stepS (Dint.shape d) 1) ∧ ∀ k, d'.in1 k ↔ (stepD d 1).in1 k ∧ k ≠ key
def SetM (key : ByteArray) (v : Int) (r r' : Rm) (b : Bool) : Prop :=
  (∃ (i : Nat) (x : Nr), (r.slots (r.k 1)).l[i]? = some x ∧ x.key = key ∧ b = false ∧ r' = { r.slots (r.k 1) with l := (r.slots (r.k 1)).l.set i { x with v := v } }) ∨
  ((∀ x ∈ (r.slots (r.k 1)).l, x.key ≠ key) ∧ b = true ∧ ∃ lv, r' = { (r.slots (r.k 1)).grow with lv := lv, l := (r.slots (r.k 1)).l ++ [⟨key, v, sumN r.seed key.data.toList, decide (0 < (r.slots (r.k 1)).grow.b)⟩] })
def DelM (key : ByteArray) (r r' : Rm) (b : Bool) : Prop :=
  (∃ (i : Nat) (x : Nr), (r.slots (r.k 1)).l[i]? = some x ∧ x.key = key ∧ b = true ∧ ∃ lv, r' = ({ r.slots (r.k 1) with lv := lv, l := (r.slots (r.k 1)).l.take i ++ (r.slots (r.k 1)).l.drop (i + 1) } : Rm).shrink) ∨
  ((∀ x ∈ (r.slots (r.k 1)).l, x.key ≠ key) ∧ b = false ∧ r' = r.slots (r.k 1))
theorem step_facts {d : Dm} (hok : d.Ok) (n : Int) : (stepD d n).Ok ∧ (stepD d n).look = d.look ∧ (stepD d n).seed = d.seed ∧ (stepD d n).n = d.n ∧ Dint.shape (stepD d n) = stepS (Dint.shape d) n :=
  ⟨moveN_ok hok _, funext fun k => look_perm hok.keys (moveN_perm hok _) k, (moveN_blk d _).2.1, (moveN_blk d _).2.2, stepD_shape hok n⟩
theorem tie_set {d d' : Dm} {r r' : Rm} {key : ByteArray} {v : Int} {b : Bool} (h : Tie d r) (hok : d.Ok) (hok' : d'.Ok) (hn : d.n ≤ 1000000) (hse : d'.seed = d.seed) (hD : SetD key v d d') (hM : SetM key v r r' b) : Tie d' r' ∧ b = (d.look key).isNone := by
  obtain ⟨s1, s2, s3, s4, s5⟩ := step_facts hok 1
  have h1 := h.step hok hn 1
  obtain ⟨hp, hs, hin⟩ := hD
  rcases hM with ⟨i, x, hx, hk, rfl, rfl⟩ | ⟨hno, rfl, lv, rfl⟩
  · have hsm : (d.look key).isSome = true := by rw [← s2]; exact h1.found.1 ⟨x, List.mem_of_getElem? hx, hk⟩
    obtain ⟨u, hu⟩ := Option.isSome_iff_exists.1 hsm
    rw [hu] at hs hin
    refine ⟨h1.set (d0 := d) s2.symm (hse.trans s3.symm) hp s4.symm (by rw [hs, s5]; rfl) (fun k => ?_) hx hk, by rw [hu]; rfl⟩
    rw [hin k]
    exact ⟨fun h => h.elim id fun h => (by cases h.2.2), .inl⟩
  · have hnn : d.look key = none := by
      cases hl : d.look key with
      | none => rfl
      | some u =>
        obtain ⟨x, hx, hk⟩ := h1.has key (by rw [s2, hl]; rfl)
        exact absurd hk (hno x hx)
    obtain ⟨g1, g2, g3, g4⟩ := h1.grow s1
    have hs' : Dint.shape d' = growS (Dint.shape (stepD d 1)) (stepD d 1).n := by rw [hs, hnn, s5, s4]; rfl
    have hsd : (r.slots (r.k 1)).seed = r.seed := (r.slots_foot _).2.2.1
    have := h1.add (d0 := d) (lv := lv) hok' s2.symm (hse.trans s3.symm) hp s4.symm hno (by rw [hs']; exact g1) (by rw [hs']; exact g2) (by rw [hs']; exact g3) g4 hin
    rw [hsd] at this
    exact ⟨this, by rw [hnn]; rfl⟩
theorem tie_del {d d' : Dm} {r r' : Rm} {key : ByteArray} {b : Bool} (h : Tie d r) (hok : d.Ok) (hn : d.n ≤ 1000000) (hse : d'.seed = d.seed) (hD : DelD key d d') (hM : DelM key r r' b) : Tie d' r' ∧ b = (d.look key).isSome := by
  obtain ⟨s1, s2, s3, s4, s5⟩ := step_facts hok 1
  have h1 := h.step hok hn 1
  obtain ⟨hp, hs, hin⟩ := hD
  rcases hM with ⟨i, x, hx, hk, rfl, lv, rfl⟩ | ⟨hno, rfl, rfl⟩
  · have hsm : (d.look key).isSome = true := by rw [← s2]; exact h1.found.1 ⟨x, List.mem_of_getElem? hx, hk⟩
    rw [hsm, if_pos rfl, ← s5, ← s4] at hs
    exact ⟨h1.del (d0 := d) s1 s2.symm (hse.trans s3.symm) hp s4.symm hs hin hx hk, hsm.symm⟩
  · have hnn : d.look key = none := by
      cases hl : d.look key with
      | none => rfl
      | some u =>
        obtain ⟨x, hx, hk⟩ := h1.has key (by rw [s2, hl]; rfl)
        exact absurd hk (hno x hx)
    rw [hnn] at hs
    refine ⟨⟨h1.seed.trans (s3.trans hse.symm), ?_, ?_, ?_, ?_, h1.keys, fun x hx => ?_, fun k hk => ?_⟩, by rw [hnn]; rfl⟩
    · rw [h1.a, s5]; rw [hs]; rfl
    · rw [h1.b, s5]; rw [hs]; rfl
    · rw [h1.at_, s5]; rw [hs]; rfl
    · rw [h1.n, s4, hp.2, hnn]; rfl
    · obtain ⟨g1, g2, g3⟩ := h1.node x hx
      refine ⟨by rw [hp.1, if_neg (hno x hx), ← s2]; exact g1, by rw [hse, ← s3]; exact g2, ?_⟩
      rw [hin, g3]
      exact ⟨fun h => ⟨h, hno x hx⟩, fun h => h.1⟩
    · rw [hp.1] at hk
      split at hk
      · cases hk
      · exact h1.has k (by rw [s2]; exact hk)

/-! ### side by side in memory -/
structure Half (w0 W : World) (bd br : Nat) (d : Dm) (r : Rm) : Prop where
  one : One w0 W bd d
  rm : RmAt W w0.heap.size r
  br : r.blk = br
  ap : ∀ g, r.foot g → ¬ d.foot g
section
variable {w0 W W' : World} {bd br : Nat} {d d' : Dm} {r r' : Rm}
theorem Half.chg0 (h : Half w0 W bd br d r) (hc : Chg (fun _ => False) W W') : Half w0 W' bd br d r := ⟨h.one.chg0 hc, h.rm.chg0 hc, h.br, h.ap⟩
theorem Half.left (h : Half w0 W bd br d r) (h1 : One w0 W' bd d') (hx : Nx d d' W W') : Half w0 W' bd br d' r :=
  ⟨h1, h.rm.chg hx.chg (fun g hg hd => h.ap g hg hd), h.br, fun g hg hd => by
    rcases hx.foot g hd with h' | h'
    · exact h.ap g hg h'
    · have := (h.rm.lt hg).2; omega⟩
theorem Half.right (h : Half w0 W bd br d r) (hx : RmNx r r' w0.heap.size W W') : Half w0 W' bd br d r' :=
  ⟨h.one.chgS hx.chg (fun g hd hg => h.ap g hg hd) (fun g hlt hg => by have := (h.rm.lt hg).1; omega), hx.at_, hx.blk.trans h.br, fun g hg hd => by
    rcases hx.foot g hg with h' | h'
    · exact h.ap g h' hd
    · have := h.one.md.lt hd; omega⟩
end
theorem Tie.sums {d : Dm} {r : Rm} (h : Tie d r) : ∀ x ∈ r.l, x.sum < 4294967296 := fun x hx => by rw [(h.node x hx).2.1]; exact sumN_lt _ _
theorem Tie.sizes {d : Dm} {r : Rm} (h : Tie d r) (hs : ∀ k, (d.look k).isSome = true → k.size ≤ 12) : ∀ x ∈ r.l, x.key.size ≤ 9223372036854775807 := fun x hx => by
  have := hs x.key (by rw [(h.node x hx).1]; rfl)
  omega

end Go.Proofs.Ythbjjjcppijcbaa

/- Acts, with what they leave alone. -/
namespace Go.Proofs.Ythbjjjcppijcbaa
open Go.RowKit Pal Dint

/-- What a call on d leaves alone. -/
structure Far (d d' : Dm) (w w' : World) : Prop where
  seed : d'.seed = d.seed
  chg : Chg d.foot w w'
  foot : ∀ g, d'.foot g → d.foot g ∨ w.heap.size ≤ g
theorem far_of {d d' : Dm} {w w1 w' : World} (h : Nx d d' w1 w') (hc : Chg (fun _ => False) w w1) : Far d d' w w' :=
  ⟨h.seed, (hc.mono fun _ _ h => h.elim).trans h.chg, fun g hg => (h.foot g hg).imp id (Nat.le_trans hc.size)⟩

set_option maxRecDepth 100000 in
set_option maxHeartbeats 2000000 in
theorem acted_far {w0 W : World} {bd : Nat} {d : Dm} (h : One w0 W bd d) (x : Act3) (hk : x.Key.size ≤ 9223372036854775807) (hn : d.n ≤ 100000) :
    Calls Try.prog 35 #[.pointer (some ⟨bd, 0, none⟩), .agg #[.int .i64 x.Do, .string x.Key, .int .i64 x.V]] W fun e W' => (∃ v, e = .returned v) ∧ ∃ d', One w0 W' bd d' ∧ Far d d' W W' ∧ Acts x d d' := by
  have hks : (cutS x.Key 12).size ≤ 9223372036854775807 := Nat.le_trans (cutS_size _ _) hk
  obtain ⟨r, hr, hcase⟩ := mod8 x.Do
  have hbx := Blk.new W 28 #[.int .i64 x.Do, .string x.Key, .int .i64 x.V]
  have hc1 : Chg (fun _ => False) W (W.alloc (Obj.cells #[.int .i64 x.Do, .string x.Key, .int .i64 x.V] 28)) := (Chg.refl _ W).alloc _
  have ho := h.chg0 hc1
  have c0 := hbx.cell 0
  have c1 := hbx.cell 1
  have c2 := hbx.cell 2
  have f0 := hbx.lt
  simp only [List.getElem?_toArray, List.getElem?_cons_zero, List.getElem?_cons_succ] at c0 c1 c2
  have HR := Lib.hid hr
  rcases hcase with rfl | rfl | rfl | rfl | rfl | rfl | rfl | rfl
  · go_enter Try.func35, Try.ntmps35
    go_wp2_with fail
    go_region_with (first
      | (go_at_call 39; refine (key8_any _ _ hk).mono ?_; rintro e9 w9 ⟨rfl, rfl⟩)
      | (go_at_call 17; refine (set_1 (ho.chg0 ((Chg.refl _ _).drew)) (cutS x.Key 12) (.int .i64 x.V) hks ⟨_, rfl⟩ hn).mono ?_; rintro e5 W5 ⟨rfl, d', hT1, hN1, hP1, hs1⟩))
    all_goals
      go_wp2_with fail
      go_end0
      exact ⟨⟨_, rfl⟩, d', hT1, far_of hN1 (by first | exact hc1 | exact hc1.trans ((Chg.refl _ _).drew)), by unfold Acts; rw [HR.out]; exact .inl ⟨by decide, hP1, hs1⟩⟩
  · go_enter Try.func35, Try.ntmps35
    go_wp2_with fail
    go_region_with (first
      | (go_at_call 39; refine (key8_any _ _ hk).mono ?_; rintro e9 w9 ⟨rfl, rfl⟩)
      | (go_at_call 17; refine (set_1 (ho.chg0 ((Chg.refl _ _).drew)) (cutS x.Key 12) (.int .i64 x.V) hks ⟨_, rfl⟩ hn).mono ?_; rintro e5 W5 ⟨rfl, d', hT1, hN1, hP1, hs1⟩))
    all_goals
      go_wp2_with fail
      go_end0
      exact ⟨⟨_, rfl⟩, d', hT1, far_of hN1 (by first | exact hc1 | exact hc1.trans ((Chg.refl _ _).drew)), by unfold Acts; rw [HR.out]; exact .inl ⟨by decide, hP1, hs1⟩⟩
  · go_enter Try.func35, Try.ntmps35
    go_wp2_with fail
    go_region_with (first
      | (go_at_call 39; refine (key8_any _ _ hk).mono ?_; rintro e9 w9 ⟨rfl, rfl⟩)
      | (go_at_call 17; refine (set_1 (ho.chg0 ((Chg.refl _ _).drew)) (cutS x.Key 12) (.int .i64 x.V) hks ⟨_, rfl⟩ hn).mono ?_; rintro e5 W5 ⟨rfl, d', hT1, hN1, hP1, hs1⟩))
    all_goals
      go_wp2_with fail
      go_end0
      exact ⟨⟨_, rfl⟩, d', hT1, far_of hN1 (by first | exact hc1 | exact hc1.trans ((Chg.refl _ _).drew)), by unfold Acts; rw [HR.out]; exact .inl ⟨by decide, hP1, hs1⟩⟩
  · go_enter Try.func35, Try.ntmps35
    go_wp2_with fail
    go_region_with (first
      | (go_at_call 39; refine (key8_any _ _ hk).mono ?_; rintro e9 w9 ⟨rfl, rfl⟩)
      | (go_at_call 17; refine (set_1 (ho.chg0 ((Chg.refl _ _).drew)) (cutS x.Key 12) (.int .i64 x.V) hks ⟨_, rfl⟩ hn).mono ?_; rintro e5 W5 ⟨rfl, d', hT1, hN1, hP1, hs1⟩))
    all_goals
      go_wp2_with fail
      go_end0
      exact ⟨⟨_, rfl⟩, d', hT1, far_of hN1 (by first | exact hc1 | exact hc1.trans ((Chg.refl _ _).drew)), by unfold Acts; rw [HR.out]; exact .inl ⟨by decide, hP1, hs1⟩⟩
  · go_enter Try.func35, Try.ntmps35
    go_wp2_with fail
    refine (key8_any _ _ hk).mono ?_
    rintro e9 w9 ⟨rfl, rfl⟩
    go_wp2_with fail
    refine (get_1 ho (cutS x.Key 12) hks).mono ?_
    rintro e5 W5 ⟨rfl, d', hT1, hN1, hP1, hs1⟩
    go_wp2_with fail
    go_end0
    exact ⟨⟨_, rfl⟩, d', hT1, far_of hN1 (by first | exact hc1 | exact hc1.trans ((Chg.refl _ _).drew)), by unfold Acts; rw [HR.out]; exact .inr (.inl ⟨rfl, hP1, hs1⟩)⟩
  · go_enter Try.func35, Try.ntmps35
    go_wp2_with fail
    refine (key8_any _ _ hk).mono ?_
    rintro e9 w9 ⟨rfl, rfl⟩
    go_wp2_with fail
    refine (del_1 ho (cutS x.Key 12) hks hn).mono ?_
    rintro e5 W5 ⟨rfl, d', hT1, hN1, hP1, hs1⟩
    go_wp2_with fail
    go_end0
    exact ⟨⟨_, rfl⟩, d', hT1, far_of hN1 (by first | exact hc1 | exact hc1.trans ((Chg.refl _ _).drew)), by unfold Acts; rw [HR.out]; exact .inr (.inr (.inl ⟨.inl rfl, hP1, hs1⟩))⟩
  · go_enter Try.func35, Try.ntmps35
    go_wp2_with fail
    refine (key8_any _ _ hk).mono ?_
    rintro e9 w9 ⟨rfl, rfl⟩
    go_wp2_with fail
    refine (del_1 ho (cutS x.Key 12) hks hn).mono ?_
    rintro e5 W5 ⟨rfl, d', hT1, hN1, hP1, hs1⟩
    go_wp2_with fail
    go_end0
    exact ⟨⟨_, rfl⟩, d', hT1, far_of hN1 (by first | exact hc1 | exact hc1.trans ((Chg.refl _ _).drew)), by unfold Acts; rw [HR.out]; exact .inr (.inr (.inl ⟨.inr rfl, hP1, hs1⟩))⟩
  · go_enter Try.func35, Try.ntmps35
    go_wp2_with fail
    refine (step_1 ho (min x.V 100)).mono ?_
    rintro e5 W5 ⟨rfl, d', hT1, hN1, hP1, hs1⟩
    go_wp2_with fail
    go_end0
    exact ⟨⟨_, rfl⟩, d', hT1, far_of hN1 (by first | exact hc1 | exact hc1.trans ((Chg.refl _ _).drew)), by unfold Acts; rw [HR.out]; exact .inr (.inr (.inr ⟨rfl, hP1, hs1⟩))⟩

end Go.Proofs.Ythbjjjcppijcbaa

/- An act on both dicts. -/
namespace Go.Proofs.Ythbjjjcppijcbaa
open Go.RowKit Pal Dint

def ActP (x : Act3) (d d' : Dm) : Prop :=
  ((IntKind.u64.wrap x.Do).tmod 8 < 4 ∧ SetD (cutS x.Key 12) x.V d d') ∨ ((IntKind.u64.wrap x.Do).tmod 8 = 4 ∧ d' = stepD d 1) ∨
  (((IntKind.u64.wrap x.Do).tmod 8 = 5 ∨ (IntKind.u64.wrap x.Do).tmod 8 = 6) ∧ DelD (cutS x.Key 12) d d') ∨ ((IntKind.u64.wrap x.Do).tmod 8 = 7 ∧ d' = stepD d (min x.V 100))
def ModP (x : Act3) (r r' : Rm) : Prop :=
  ((IntKind.u64.wrap x.Do).tmod 8 < 4 ∧ ∃ b, SetM (cutS x.Key 12) x.V r r' b) ∨ ((IntKind.u64.wrap x.Do).tmod 8 = 4 ∧ r' = r.slots (r.k 1)) ∨
  (((IntKind.u64.wrap x.Do).tmod 8 = 5 ∨ (IntKind.u64.wrap x.Do).tmod 8 = 6) ∧ ∃ b, DelM (cutS x.Key 12) r r' b) ∨ ((IntKind.u64.wrap x.Do).tmod 8 = 7 ∧ r' = r.slots (r.k (min x.V 100)))
theorem tie_acts {d d' : Dm} {r r' : Rm} {x : Act3} (h : Tie d r) (hok : d.Ok) (hok' : d'.Ok) (hn : d.n ≤ 1000000) (hse : d'.seed = d.seed) (hA : ActP x d d') (hM : ModP x r r') : Tie d' r' := by
  unfold ActP at hA
  unfold ModP at hM
  generalize (IntKind.u64.wrap x.Do).tmod 8 = m at hA hM
  rcases hA with ⟨h1, hA⟩ | ⟨h1, rfl⟩ | ⟨h1, hA⟩ | ⟨h1, rfl⟩ <;> rcases hM with ⟨h2, b, hM⟩ | ⟨h2, rfl⟩ | ⟨h2, b, hM⟩ | ⟨h2, rfl⟩ <;> first | omega | exact (tie_set h hok hok' hn hse hA hM).1 | exact (tie_del h hok hn hse hA hM).1 | exact h.step hok hn _
/-- Bounds behind an act. -/
theorem actP_acts {d d' : Dm} {x : Act3} (hok : d.Ok) (hA : ActP x d d') : Acts x d d' := by
  obtain ⟨s1, s2, s3, s4, s5⟩ := step_facts hok 1
  obtain ⟨t1, t2, t3, t4, t5⟩ := step_facts hok (min x.V 100)
  rcases hA with ⟨h1, h2, h3, _⟩ | ⟨h1, rfl⟩ | ⟨h1, h2, h3, _⟩ | ⟨h1, rfl⟩
  · exact .inl ⟨h1, h2, h3⟩
  · exact .inr (.inl ⟨h1, ⟨fun k => by rw [s2], s4⟩, s5⟩)
  · exact .inr (.inr (.inl ⟨h1, h2, h3⟩))
  · exact .inr (.inr (.inr ⟨h1, ⟨fun k => by rw [t2], t4⟩, t5⟩))

set_option maxRecDepth 100000 in
set_option maxHeartbeats 2000000 in
theorem acted_p {w0 W : World} {bd : Nat} {d : Dm} (h : One w0 W bd d) (x : Act3) (hk : x.Key.size ≤ 9223372036854775807) (hn : d.n ≤ 100000) :
    Calls Try.prog 35 #[.pointer (some ⟨bd, 0, none⟩), .agg #[.int .i64 x.Do, .string x.Key, .int .i64 x.V]] W fun e W' => (∃ v, e = .returned v) ∧ ∃ d', One w0 W' bd d' ∧ Far d d' W W' ∧ ActP x d d' := by
  have hks : (cutS x.Key 12).size ≤ 9223372036854775807 := Nat.le_trans (cutS_size _ _) hk
  obtain ⟨rr, hr, hcase⟩ := mod8 x.Do
  have hbx := Blk.new W 28 #[.int .i64 x.Do, .string x.Key, .int .i64 x.V]
  have hc1 : Chg (fun _ => False) W (W.alloc (Obj.cells #[.int .i64 x.Do, .string x.Key, .int .i64 x.V] 28)) := (Chg.refl _ W).alloc _
  have ho := h.chg0 hc1
  have c0 := hbx.cell 0
  have c1 := hbx.cell 1
  have c2 := hbx.cell 2
  have f0 := hbx.lt
  simp only [List.getElem?_toArray, List.getElem?_cons_zero, List.getElem?_cons_succ] at c0 c1 c2
  have HR := Lib.hid hr
  rcases hcase with rfl | rfl | rfl | rfl | rfl | rfl | rfl | rfl
  · go_enter Try.func35, Try.ntmps35
    go_wp2_with fail
    go_region_with (first
      | (go_at_call 39; refine (key8_any _ _ hk).mono ?_; rintro e9 w9 ⟨rfl, rfl⟩)
      | (go_at_call 17; refine (set_p (ho.chg0 ((Chg.refl _ _).drew)) (cutS x.Key 12) (.int .i64 x.V) hks ⟨_, rfl⟩ hn).mono ?_; rintro e5 W5 ⟨rfl, d', hT1, hN1, hP1, hs1, hi1⟩))
    all_goals
      go_wp2_with fail
      go_end0
      exact ⟨⟨_, rfl⟩, d', hT1, far_of hN1 (by first | exact hc1 | exact hc1.trans ((Chg.refl _ _).drew)), by unfold ActP; rw [HR.out]; exact .inl ⟨by decide, hP1, hs1, hi1⟩⟩
  · go_enter Try.func35, Try.ntmps35
    go_wp2_with fail
    go_region_with (first
      | (go_at_call 39; refine (key8_any _ _ hk).mono ?_; rintro e9 w9 ⟨rfl, rfl⟩)
      | (go_at_call 17; refine (set_p (ho.chg0 ((Chg.refl _ _).drew)) (cutS x.Key 12) (.int .i64 x.V) hks ⟨_, rfl⟩ hn).mono ?_; rintro e5 W5 ⟨rfl, d', hT1, hN1, hP1, hs1, hi1⟩))
    all_goals
      go_wp2_with fail
      go_end0
      exact ⟨⟨_, rfl⟩, d', hT1, far_of hN1 (by first | exact hc1 | exact hc1.trans ((Chg.refl _ _).drew)), by unfold ActP; rw [HR.out]; exact .inl ⟨by decide, hP1, hs1, hi1⟩⟩
  · go_enter Try.func35, Try.ntmps35
    go_wp2_with fail
    go_region_with (first
      | (go_at_call 39; refine (key8_any _ _ hk).mono ?_; rintro e9 w9 ⟨rfl, rfl⟩)
      | (go_at_call 17; refine (set_p (ho.chg0 ((Chg.refl _ _).drew)) (cutS x.Key 12) (.int .i64 x.V) hks ⟨_, rfl⟩ hn).mono ?_; rintro e5 W5 ⟨rfl, d', hT1, hN1, hP1, hs1, hi1⟩))
    all_goals
      go_wp2_with fail
      go_end0
      exact ⟨⟨_, rfl⟩, d', hT1, far_of hN1 (by first | exact hc1 | exact hc1.trans ((Chg.refl _ _).drew)), by unfold ActP; rw [HR.out]; exact .inl ⟨by decide, hP1, hs1, hi1⟩⟩
  · go_enter Try.func35, Try.ntmps35
    go_wp2_with fail
    go_region_with (first
      | (go_at_call 39; refine (key8_any _ _ hk).mono ?_; rintro e9 w9 ⟨rfl, rfl⟩)
      | (go_at_call 17; refine (set_p (ho.chg0 ((Chg.refl _ _).drew)) (cutS x.Key 12) (.int .i64 x.V) hks ⟨_, rfl⟩ hn).mono ?_; rintro e5 W5 ⟨rfl, d', hT1, hN1, hP1, hs1, hi1⟩))
    all_goals
      go_wp2_with fail
      go_end0
      exact ⟨⟨_, rfl⟩, d', hT1, far_of hN1 (by first | exact hc1 | exact hc1.trans ((Chg.refl _ _).drew)), by unfold ActP; rw [HR.out]; exact .inl ⟨by decide, hP1, hs1, hi1⟩⟩
  · go_enter Try.func35, Try.ntmps35
    go_wp2_with fail
    refine (key8_any _ _ hk).mono ?_
    rintro e9 w9 ⟨rfl, rfl⟩
    go_wp2_with fail
    refine (get_p ho (cutS x.Key 12) hks).mono ?_
    rintro e5 W5 ⟨rfl, hT1, hN1⟩
    go_wp2_with fail
    go_end0
    exact ⟨⟨_, rfl⟩, _, hT1, far_of hN1 (by first | exact hc1 | exact hc1.trans ((Chg.refl _ _).drew)), by unfold ActP; rw [HR.out]; exact .inr (.inl ⟨rfl, rfl⟩)⟩
  · go_enter Try.func35, Try.ntmps35
    go_wp2_with fail
    refine (key8_any _ _ hk).mono ?_
    rintro e9 w9 ⟨rfl, rfl⟩
    go_wp2_with fail
    refine (del_p ho (cutS x.Key 12) hks hn).mono ?_
    rintro e5 W5 ⟨rfl, d', hT1, hN1, hP1, hs1, hi1⟩
    go_wp2_with fail
    go_end0
    exact ⟨⟨_, rfl⟩, d', hT1, far_of hN1 (by first | exact hc1 | exact hc1.trans ((Chg.refl _ _).drew)), by unfold ActP; rw [HR.out]; exact .inr (.inr (.inl ⟨.inl rfl, hP1, hs1, hi1⟩))⟩
  · go_enter Try.func35, Try.ntmps35
    go_wp2_with fail
    refine (key8_any _ _ hk).mono ?_
    rintro e9 w9 ⟨rfl, rfl⟩
    go_wp2_with fail
    refine (del_p ho (cutS x.Key 12) hks hn).mono ?_
    rintro e5 W5 ⟨rfl, d', hT1, hN1, hP1, hs1, hi1⟩
    go_wp2_with fail
    go_end0
    exact ⟨⟨_, rfl⟩, d', hT1, far_of hN1 (by first | exact hc1 | exact hc1.trans ((Chg.refl _ _).drew)), by unfold ActP; rw [HR.out]; exact .inr (.inr (.inl ⟨.inr rfl, hP1, hs1, hi1⟩))⟩
  · go_enter Try.func35, Try.ntmps35
    go_wp2_with fail
    refine (step_p ho (min x.V 100)).mono ?_
    rintro e5 W5 ⟨rfl, hT1, hN1⟩
    go_wp2_with fail
    go_end0
    exact ⟨⟨_, rfl⟩, _, hT1, far_of hN1 (by first | exact hc1 | exact hc1.trans ((Chg.refl _ _).drew)), by unfold ActP; rw [HR.out]; exact .inr (.inr (.inr ⟨rfl, rfl⟩))⟩

theorem RmNx.ahead {r r' : Rm} {base : Nat} {w w1 w' : World} (h : RmNx r r' base w1 w') (hc : Chg (fun _ => False) w w1) : RmNx r r' base w w' :=
  ⟨h.at_, h.blk, (hc.mono fun _ _ h => h.elim).trans h.chg, fun g hg => (h.foot g hg).imp id (Nat.le_trans hc.size)⟩
theorem setM_any (r : Rm) (key : ByteArray) (v : Int) (w : World) (base : Nat) (h : RmAt w base r) (hok : r.Ok) (hks : key.size ≤ 9223372036854775807) (hn : r.l.length < 1000000) :
    Calls Try.prog 58 #[ptr r.blk, .string key, .int .i64 v] w fun e w' => ∃ b r', e = .returned (.bool b) ∧ RmNx r r' base w w' ∧ SetM key v r r' b := by
  refine (SetR_any r key v w base h hok hks hn).mono ?_
  rintro e w' ⟨r', h1, ⟨i, x, h2, h3, rfl, h5⟩ | ⟨h2, rfl, lv, h3⟩⟩
  · exact ⟨false, r', rfl, h1, .inl ⟨i, x, h2, h3, rfl, h5⟩⟩
  · exact ⟨true, r', rfl, h1, .inr ⟨h2, rfl, lv, h3⟩⟩
theorem delM_any (r : Rm) (key : ByteArray) (w : World) (base : Nat) (h : RmAt w base r) (hok : r.Ok) :
    Calls Try.prog 60 #[ptr r.blk, .string key] w fun e w' => ∃ b r', e = .returned (.bool b) ∧ RmNx r r' base w w' ∧ DelM key r r' b := by
  refine (DeleteR_any r key w base h hok).mono ?_
  rintro e w' ⟨r', h1, ⟨i, x, h2, h3, rfl, lv, h5⟩ | ⟨h2, rfl, h3⟩⟩
  · exact ⟨true, r', rfl, h1, .inl ⟨i, x, h2, h3, rfl, lv, h5⟩⟩
  · exact ⟨false, r', rfl, h1, .inr ⟨h2, rfl, h3⟩⟩
theorem stepM_any (r : Rm) (n : Int) (w : World) (base : Nat) (h : RmAt w base r) (hok : r.Ok) :
    Calls Try.prog 61 #[ptr r.blk, .int .i64 n] w fun e w' => e = .returned (.int .i64 (r.k n : Int)) ∧ RmNx r (r.slots (r.k n)) base w w' := by
  refine (StepR_any r n w base h hok).mono ?_
  rintro e w' ⟨h1, h2, h3⟩
  obtain ⟨f1, f2, _⟩ := r.slots_foot (r.k n)
  exact ⟨h1, h2, f1, h3, fun g hg => .inl (by rcases hg with hg | hg; exact .inl (hg.trans f1); exact .inr (f2 ▸ hg))⟩

set_option maxRecDepth 100000 in
set_option maxHeartbeats 2000000 in
theorem modeled_p (r : Rm) (x : Act3) (W : World) (base : Nat) (h : RmAt W base r) (hok : r.Ok) (hk : x.Key.size ≤ 9223372036854775807) (hn : r.l.length < 1000000) :
    Calls Try.prog 36 #[ptr r.blk, .agg #[.int .i64 x.Do, .string x.Key, .int .i64 x.V]] W fun e W' => (∃ v, e = .returned v) ∧ ∃ r', RmNx r r' base W W' ∧ ModP x r r' := by
  have hks : (cutS x.Key 12).size ≤ 9223372036854775807 := Nat.le_trans (cutS_size _ _) hk
  obtain ⟨rr, hr, hcase⟩ := mod8 x.Do
  have hbx := Blk.new W 28 #[.int .i64 x.Do, .string x.Key, .int .i64 x.V]
  have hc1 : Chg (fun _ => False) W (W.alloc (Obj.cells #[.int .i64 x.Do, .string x.Key, .int .i64 x.V] 28)) := (Chg.refl _ W).alloc _
  have ho := h.chg0 hc1
  have c0 := hbx.cell 0
  have c1 := hbx.cell 1
  have c2 := hbx.cell 2
  have f0 := hbx.lt
  simp only [List.getElem?_toArray, List.getElem?_cons_zero, List.getElem?_cons_succ] at c0 c1 c2
  have HR := Lib.hid hr
  rcases hcase with rfl | rfl | rfl | rfl | rfl | rfl | rfl | rfl
  · go_enter Try.func36, Try.ntmps36
    go_wp2_with fail
    go_region_with (first
      | (go_at_call 39; refine (key8_any _ _ hk).mono ?_; rintro e9 w9 ⟨rfl, rfl⟩)
      | (go_at_call 58; refine (setM_any r (cutS x.Key 12) x.V _ base (ho.chg0 ((Chg.refl _ _).drew)) hok hks hn).mono ?_; rintro e5 W5 ⟨b, r', rfl, hN1, hM1⟩))
    all_goals
      go_wp2_with fail
      go_end0
      exact ⟨⟨_, rfl⟩, r', hN1.ahead (by first | exact hc1 | exact hc1.trans ((Chg.refl _ _).drew)), by unfold ModP; rw [HR.out]; exact .inl ⟨by decide, b, hM1⟩⟩
  · go_enter Try.func36, Try.ntmps36
    go_wp2_with fail
    go_region_with (first
      | (go_at_call 39; refine (key8_any _ _ hk).mono ?_; rintro e9 w9 ⟨rfl, rfl⟩)
      | (go_at_call 58; refine (setM_any r (cutS x.Key 12) x.V _ base (ho.chg0 ((Chg.refl _ _).drew)) hok hks hn).mono ?_; rintro e5 W5 ⟨b, r', rfl, hN1, hM1⟩))
    all_goals
      go_wp2_with fail
      go_end0
      exact ⟨⟨_, rfl⟩, r', hN1.ahead (by first | exact hc1 | exact hc1.trans ((Chg.refl _ _).drew)), by unfold ModP; rw [HR.out]; exact .inl ⟨by decide, b, hM1⟩⟩
  · go_enter Try.func36, Try.ntmps36
    go_wp2_with fail
    go_region_with (first
      | (go_at_call 39; refine (key8_any _ _ hk).mono ?_; rintro e9 w9 ⟨rfl, rfl⟩)
      | (go_at_call 58; refine (setM_any r (cutS x.Key 12) x.V _ base (ho.chg0 ((Chg.refl _ _).drew)) hok hks hn).mono ?_; rintro e5 W5 ⟨b, r', rfl, hN1, hM1⟩))
    all_goals
      go_wp2_with fail
      go_end0
      exact ⟨⟨_, rfl⟩, r', hN1.ahead (by first | exact hc1 | exact hc1.trans ((Chg.refl _ _).drew)), by unfold ModP; rw [HR.out]; exact .inl ⟨by decide, b, hM1⟩⟩
  · go_enter Try.func36, Try.ntmps36
    go_wp2_with fail
    go_region_with (first
      | (go_at_call 39; refine (key8_any _ _ hk).mono ?_; rintro e9 w9 ⟨rfl, rfl⟩)
      | (go_at_call 58; refine (setM_any r (cutS x.Key 12) x.V _ base (ho.chg0 ((Chg.refl _ _).drew)) hok hks hn).mono ?_; rintro e5 W5 ⟨b, r', rfl, hN1, hM1⟩))
    all_goals
      go_wp2_with fail
      go_end0
      exact ⟨⟨_, rfl⟩, r', hN1.ahead (by first | exact hc1 | exact hc1.trans ((Chg.refl _ _).drew)), by unfold ModP; rw [HR.out]; exact .inl ⟨by decide, b, hM1⟩⟩
  · go_enter Try.func36, Try.ntmps36
    go_wp2_with fail
    refine (key8_any _ _ hk).mono ?_
    rintro e9 w9 ⟨rfl, rfl⟩
    go_wp2_with fail
    refine (GetR_any r (cutS x.Key 12) _ base ho hok).mono ?_
    rintro e5 W5 ⟨hv, hN1⟩
    obtain ⟨v5, rfl⟩ : ∃ v5, e5 = .returned v5 := by rcases hv with ⟨y, _, _, rfl⟩ | ⟨_, rfl⟩ <;> exact ⟨_, rfl⟩
    go_wp2_with fail
    go_end0
    exact ⟨⟨_, rfl⟩, _, hN1.ahead (by first | exact hc1 | exact hc1.trans ((Chg.refl _ _).drew)), by unfold ModP; rw [HR.out]; exact .inr (.inl ⟨rfl, rfl⟩)⟩
  · go_enter Try.func36, Try.ntmps36
    go_wp2_with fail
    refine (key8_any _ _ hk).mono ?_
    rintro e9 w9 ⟨rfl, rfl⟩
    go_wp2_with fail
    refine (delM_any r (cutS x.Key 12) _ base ho hok).mono ?_
    rintro e5 W5 ⟨b, r', rfl, hN1, hM1⟩
    go_wp2_with fail
    go_end0
    exact ⟨⟨_, rfl⟩, r', hN1.ahead (by first | exact hc1 | exact hc1.trans ((Chg.refl _ _).drew)), by unfold ModP; rw [HR.out]; exact .inr (.inr (.inl ⟨.inl rfl, b, hM1⟩))⟩
  · go_enter Try.func36, Try.ntmps36
    go_wp2_with fail
    refine (key8_any _ _ hk).mono ?_
    rintro e9 w9 ⟨rfl, rfl⟩
    go_wp2_with fail
    refine (delM_any r (cutS x.Key 12) _ base ho hok).mono ?_
    rintro e5 W5 ⟨b, r', rfl, hN1, hM1⟩
    go_wp2_with fail
    go_end0
    exact ⟨⟨_, rfl⟩, r', hN1.ahead (by first | exact hc1 | exact hc1.trans ((Chg.refl _ _).drew)), by unfold ModP; rw [HR.out]; exact .inr (.inr (.inl ⟨.inr rfl, b, hM1⟩))⟩
  · go_enter Try.func36, Try.ntmps36
    go_wp2_with fail
    refine (stepM_any r (min x.V 100) _ base ho hok).mono ?_
    rintro e5 W5 ⟨rfl, hN1⟩
    go_wp2_with fail
    go_end0
    exact ⟨⟨_, rfl⟩, _, hN1.ahead (by first | exact hc1 | exact hc1.trans ((Chg.refl _ _).drew)), by unfold ModP; rw [HR.out]; exact .inr (.inr (.inr ⟨rfl, rfl⟩))⟩

end Go.Proofs.Ythbjjjcppijcbaa

/- The begin of both dicts; small keys. -/
namespace Go.Proofs.Ythbjjjcppijcbaa
open Go.RowKit Pal Dint

def Tiny (d : Dm) : Prop := ∀ k, (d.look k).isSome = true → k.size ≤ 12
theorem cutS_tiny (s : ByteArray) : (cutS s 12).size ≤ 12 := by
  unfold cutS
  split
  · rw [ByteArray.size_extract]; omega
  · omega
theorem Tiny.look {d d' : Dm} (h : Tiny d) (hl : ∀ k, d'.look k = d.look k) : Tiny d' := fun k hk => h k (by rw [← hl]; exact hk)
theorem Tiny.puts {d d' : Dm} {s : ByteArray} {v : Value} (h : Tiny d) (hp : Puts (cutS s 12) v d d') : Tiny d' := by
  intro k hk
  rw [hp.1] at hk
  split at hk
  · rename_i e; rw [e]; exact cutS_tiny _
  · exact h k hk
theorem Tiny.cuts {d d' : Dm} {s : ByteArray} (h : Tiny d) (hp : Cuts s d d') : Tiny d' := by
  intro k hk
  rw [hp.1] at hk
  split at hk
  · cases hk
  · exact h k hk
theorem new_p (w : World) (seed : Nat) (hs : seed < 4294967296) :
    Calls Try.prog 15 #[.int .u32 (seed : Int)] w fun e W' => ∃ bd d, e = .returned (.pointer (some ⟨bd, 0, none⟩)) ∧ One w W' bd d ∧ d.n = 0 ∧ (∀ k, d.look k = none) ∧ Dint.shape d = (4, none, 0) ∧ d.seed = seed :=
  (New_i seed hs w).mono fun e W' ⟨d, h1, h2, h3, hse, h4, h5, h6, h7, h8⟩ => ⟨d.blk, d, h1, ⟨⟨h2, h3, h7⟩, rfl, h8⟩, h4, h5, h6, hse⟩
theorem RmAt.lower {w : World} {base b : Nat} {r : Rm} (h : RmAt w base r) (hb : b ≤ base) : RmAt w b r := ⟨h.hd, h.own.lower hb, Nat.le_trans hb h.ge⟩
/-- Both dicts, made. -/
theorem half_new {w W W' : World} {bd seed : Nat} {d : Dm} (h : One w W bd d) (hn : d.n = 0) (hl : ∀ k, d.look k = none) (hs : Dint.shape d = (4, none, 0)) (hse : d.seed = seed)
    (hr : RmAt W' W.heap.size ⟨W.heap.size, .slice none 0 0, seed, 4, 0, 0, []⟩) (hc : Chg (fun _ => False) W W') :
    Half w W' bd W.heap.size d ⟨W.heap.size, .slice none 0 0, seed, 4, 0, 0, []⟩ ∧ Tie d ⟨W.heap.size, .slice none 0 0, seed, 4, 0, 0, []⟩ ∧ Tiny d :=
  ⟨⟨h.chg0 hc, hr.lower h.chg.size, rfl, fun g hg hd => by
    have := h.md.lt hd
    rcases hg with hg | hg
    · have hg : g = W.heap.size := hg
      omega
    · cases hg⟩, Tie.new hn hl hs hse, fun k hk => by rw [hl] at hk; cases hk⟩
theorem Half.moved {w0 W W' : World} {bd br : Nat} {d d' : Dm} {r : Rm} (h : Half w0 W bd br d r) (h1 : One w0 W' bd d') (hc : Chg d.foot W W') (hf : ∀ g, d'.foot g → d.foot g ∨ W.heap.size ≤ g) : Half w0 W' bd br d' r :=
  ⟨h1, h.rm.chg hc (fun g hg hd => h.ap g hg hd), h.br, fun g hg hd => by
    rcases hf g hd with h' | h'
    · exact h.ap g hg h'
    · have := (h.rm.lt hg).2; omega⟩

end Go.Proofs.Ythbjjjcppijcbaa

/- The functions of paliolaw07 that its statements share. -/
namespace Go.Proofs.Ythbjjjcppijcbaa
open Go.RowKit Pal Dint

set_option maxHeartbeats 400000 in
theorem key7_any (s : ByteArray) (w : World) (hs : s.size ≤ 9223372036854775807) :
    Calls Try.prog 16 #[.string s] w fun e w' => e = .returned (.string (cutS s 12)) ∧ w = w' := by
  by_cases h : 12 < s.size
  · have H : Hid (cutS s 12 = s.extract 0 12) := if_pos h
    have hm : min (s.size : Int) 12 = 12 := by omega
    go_enter Try.func16, Try.ntmps16
    go_wp2
    go_ret
    exact ⟨by rw [H.out]; rfl, rfl⟩
  · have H : Hid (cutS s 12 = s) := if_neg h
    have hm : min (s.size : Int) 12 = s.size := by omega
    go_enter Try.func16, Try.ntmps16
    go_wp2
    go_ret
    exact ⟨by rw [H.out]; simp, rfl⟩

/-- A dict, and a block b that is not its own, behind a call. -/
theorem mine_next {n : Nat} {w0 W W' : World} {d d' : Dm} {b : Nat} {t : TypeId} {cs : Array Value} (h : Mine n W d) (hn : w0.heap.size = n) (hc : Chg (fun _ => False) w0 W) (hb : Blk W b t cs) (hf : ¬ d.foot b) (x : Nx d d' W W') :
    Mine n W' d' ∧ Chg (fun _ => False) w0 W' ∧ Blk W' b t cs ∧ ¬ d'.foot b :=
  ⟨h.nx (by have := hc.size; omega) x, h.old hn hc x, hb.chg x.chg hf, fun h' => (x.foot b h').elim hf fun h'' => absurd hb.lt (by omega)⟩

set_option maxRecDepth 100000 in
set_option maxHeartbeats 1000000 in
theorem shown07_any (w : World) : Calls Try.prog 14 #[] w fun e w' => e = .returned (.bool true) ∧ Chg (fun _ => False) w w' := by
  go_enter Try.func14, Try.ntmps14
  go_wp2_with fail
  refine (New_i 7 (by omega) _).mono ?_
  rintro e w0 ⟨d0, rfl, hD, hOk, _, hn0, hl0, hs0, hf0, hc0⟩
  unfold ptr
  go_wp2_with fail
  have B0 : Blk (w0.alloc (Obj.cells #[Value.string ⟨#[97]⟩, .string ⟨#[98]⟩, .string ⟨#[99]⟩, .string ⟨#[100]⟩, .string ⟨#[101]⟩] 9)) w0.heap.size 9 #[Value.string ⟨#[97]⟩, .string ⟨#[98]⟩, .string ⟨#[99]⟩, .string ⟨#[100]⟩, .string ⟨#[101]⟩] := Blk.new _ _ _
  have C0 : Chg (fun _ => False) w (w0.alloc (Obj.cells #[Value.string ⟨#[97]⟩, .string ⟨#[98]⟩, .string ⟨#[99]⟩, .string ⟨#[100]⟩, .string ⟨#[101]⟩] 9)) := hc0.alloc _
  have m0 : Mine w.heap.size (w0.alloc (Obj.cells #[Value.string ⟨#[97]⟩, .string ⟨#[98]⟩, .string ⟨#[99]⟩, .string ⟨#[100]⟩, .string ⟨#[101]⟩] 9)) d0 := ⟨hD.chg0 ((Chg.refl _ _).alloc _), hOk, hf0⟩
  have f0 : ¬ d0.foot w0.heap.size := fun h => Nat.lt_irrefl _ (hD.lt h)
  generalize w0.alloc (Obj.cells #[Value.string ⟨#[97]⟩, .string ⟨#[98]⟩, .string ⟨#[99]⟩, .string ⟨#[100]⟩, .string ⟨#[101]⟩] 9) = W0 at B0 C0 m0 ⊢
  obtain ⟨b, hb⟩ : ∃ b, w0.heap.size = b := ⟨_, rfl⟩
  rw [hb] at B0 f0 ⊢
  have N0 := Lib.hid hn0
  have L0 := Lib.hid hl0
  have S0 := Lib.hid hs0
  obtain ⟨db, D0⟩ : ∃ db, Hid (d0.blk = db) := ⟨_, rfl⟩
  rw [D0.out]
  clear hD hOk hf0 hc0 hb hn0 hl0 hs0
  refine wp_loop_rounds 6 ?_
  rw [rounds_succ]
  have q0 := B0.cell 0
  simp only [List.getElem?_toArray, List.getElem?_cons_zero, List.getElem?_cons_succ] at q0
  have g0 := Set_i d0 ⟨#[97]⟩ (.int .i64 0) W0 m0.dm m0.ok (by decide) ⟨_, rfl⟩ (by rw [N0.out]; decide)
  have E0 : d0.look ⟨#[97]⟩ = none := by exact L0.out _
  rw [E0, D0.out] at g0
  unfold ptr at g0
  clear E0
  go_wp2_with fail
  refine g0.mono ?_
  clear q0 g0
  rintro e W1 ⟨rfl, d1, x1, hl1, hn1, hs1⟩
  obtain ⟨m1, C1, B1, f1⟩ := mine_next m0 rfl C0 B0 f0 x1
  have L1 := Lib.hid hl1
  have N1 : Hid (d1.n = 1) := hn1.trans (by rw [N0.out]; rfl)
  have S1 : Hid (Dint.shape d1 = (4, none, 0)) := hs1.trans (by rw [S0.out, N0.out]; decide +kernel)
  have D1 : Hid (d1.blk = db) := x1.blk.trans D0.out
  clear hl1 hn1 hs1 x1 m0 C0 B0 f0 N0 S0 D0
  go_wp2_with fail
  rw [rounds_succ]
  have q1 := B1.cell 1
  simp only [List.getElem?_toArray, List.getElem?_cons_zero, List.getElem?_cons_succ] at q1
  have g1 := Set_i d1 ⟨#[98]⟩ (.int .i64 1) W1 m1.dm m1.ok (by decide) ⟨_, rfl⟩ (by rw [N1.out]; decide)
  have E1 : d1.look ⟨#[98]⟩ = none := by rw [L1.out, if_neg (by decide)]; exact L0.out _
  rw [E1, D1.out] at g1
  unfold ptr at g1
  clear E1
  go_wp2_with fail
  refine g1.mono ?_
  clear q1 g1
  rintro e W2 ⟨rfl, d2, x2, hl2, hn2, hs2⟩
  obtain ⟨m2, C2, B2, f2⟩ := mine_next m1 rfl C1 B1 f1 x2
  have L2 := Lib.hid hl2
  have N2 : Hid (d2.n = 2) := hn2.trans (by rw [N1.out]; rfl)
  have S2 : Hid (Dint.shape d2 = (4, none, 0)) := hs2.trans (by rw [S1.out, N1.out]; decide +kernel)
  have D2 : Hid (d2.blk = db) := x2.blk.trans D1.out
  clear hl2 hn2 hs2 x2 m1 C1 B1 f1 N1 S1 D1
  go_wp2_with fail
  rw [rounds_succ]
  have q2 := B2.cell 2
  simp only [List.getElem?_toArray, List.getElem?_cons_zero, List.getElem?_cons_succ] at q2
  have g2 := Set_i d2 ⟨#[99]⟩ (.int .i64 2) W2 m2.dm m2.ok (by decide) ⟨_, rfl⟩ (by rw [N2.out]; decide)
  have E2 : d2.look ⟨#[99]⟩ = none := by rw [L2.out, if_neg (by decide)]; rw [L1.out, if_neg (by decide)]; exact L0.out _
  rw [E2, D2.out] at g2
  unfold ptr at g2
  clear E2
  go_wp2_with fail
  refine g2.mono ?_
  clear q2 g2
  rintro e W3 ⟨rfl, d3, x3, hl3, hn3, hs3⟩
  obtain ⟨m3, C3, B3, f3⟩ := mine_next m2 rfl C2 B2 f2 x3
  have L3 := Lib.hid hl3
  have N3 : Hid (d3.n = 3) := hn3.trans (by rw [N2.out]; rfl)
  have S3 : Hid (Dint.shape d3 = (4, none, 0)) := hs3.trans (by rw [S2.out, N2.out]; decide +kernel)
  have D3 : Hid (d3.blk = db) := x3.blk.trans D2.out
  clear hl3 hn3 hs3 x3 m2 C2 B2 f2 N2 S2 D2
  go_wp2_with fail
  rw [rounds_succ]
  have q3 := B3.cell 3
  simp only [List.getElem?_toArray, List.getElem?_cons_zero, List.getElem?_cons_succ] at q3
  have g3 := Set_i d3 ⟨#[100]⟩ (.int .i64 3) W3 m3.dm m3.ok (by decide) ⟨_, rfl⟩ (by rw [N3.out]; decide)
  have E3 : d3.look ⟨#[100]⟩ = none := by rw [L3.out, if_neg (by decide)]; rw [L2.out, if_neg (by decide)]; rw [L1.out, if_neg (by decide)]; exact L0.out _
  rw [E3, D3.out] at g3
  unfold ptr at g3
  clear E3
  go_wp2_with fail
  refine g3.mono ?_
  clear q3 g3
  rintro e W4 ⟨rfl, d4, x4, hl4, hn4, hs4⟩
  obtain ⟨m4, C4, B4, f4⟩ := mine_next m3 rfl C3 B3 f3 x4
  have L4 := Lib.hid hl4
  have N4 : Hid (d4.n = 4) := hn4.trans (by rw [N3.out]; rfl)
  have S4 : Hid (Dint.shape d4 = (4, none, 0)) := hs4.trans (by rw [S3.out, N3.out]; decide +kernel)
  have D4 : Hid (d4.blk = db) := x4.blk.trans D3.out
  clear hl4 hn4 hs4 x4 m3 C3 B3 f3 N3 S3 D3
  go_wp2_with fail
  rw [rounds_succ]
  have q4 := B4.cell 4
  simp only [List.getElem?_toArray, List.getElem?_cons_zero, List.getElem?_cons_succ] at q4
  have g4 := Set_i d4 ⟨#[101]⟩ (.int .i64 4) W4 m4.dm m4.ok (by decide) ⟨_, rfl⟩ (by rw [N4.out]; decide)
  have E4 : d4.look ⟨#[101]⟩ = none := by rw [L4.out, if_neg (by decide)]; rw [L3.out, if_neg (by decide)]; rw [L2.out, if_neg (by decide)]; rw [L1.out, if_neg (by decide)]; exact L0.out _
  rw [E4, D4.out] at g4
  unfold ptr at g4
  clear E4
  go_wp2_with fail
  refine g4.mono ?_
  clear q4 g4
  rintro e W5 ⟨rfl, d5, x5, hl5, hn5, hs5⟩
  obtain ⟨m5, C5, B5, f5⟩ := mine_next m4 rfl C4 B4 f4 x5
  have L5 := Lib.hid hl5
  have N5 : Hid (d5.n = 5) := hn5.trans (by rw [N4.out]; rfl)
  have S5 : Hid (Dint.shape d5 = (4, some 8, 0)) := hs5.trans (by rw [S4.out, N4.out]; decide +kernel)
  have D5 : Hid (d5.blk = db) := x5.blk.trans D4.out
  clear hl5 hn5 hs5 x5 m4 C4 B4 f4 N4 S4 D4
  go_wp2_with fail
  rw [rounds_succ]
  go_wp2_with fail
  have g5 := Sizes_i d5 W5 m5.dm
  rw [S5.out, D5.out] at g5
  unfold ptr at g5
  refine g5.mono ?_
  clear g5
  rintro e W6 ⟨rfl, c6⟩
  have m6 := m5.chg0 c6
  have C6 := C5.trans c6
  clear m5 C5 B5 f5
  have g6 := Get_i d5 ⟨#[99]⟩ W6 m6.dm m6.ok (by decide)
  have E6 : d5.look ⟨#[99]⟩ = some (.int .i64 2) := by rw [L5.out, if_neg (by decide)]; rw [L4.out, if_neg (by decide)]; rw [L3.out, if_pos rfl]
  rw [E6, D5.out] at g6
  unfold ptr at g6
  clear E6
  simp only [Option.getD_some, Option.getD, Option.isSome_some, Int.ofNat_eq_natCast] at *
  go_wp2_with fail
  refine g6.mono ?_
  clear g6
  rintro e W7 ⟨rfl, d7, x7, hl7, hn7, hs7⟩
  have m7 := m6.nx C6.size x7
  have C7 := m6.old rfl C6 x7
  have g7 := len_any d7 W7 m7.dm
  rw [hn7, N5.out, x7.blk, D5.out] at g7
  unfold ptr at g7
  clear hl7 hn7 hs7 x7
  go_wp2_with fail
  refine g7.mono ?_
  rintro e W8 ⟨rfl, rfl⟩
  go_wp2_with fail
  go_ret
  exact ⟨rfl, C7⟩

end Go.Proofs.Ythbjjjcppijcbaa

/- An act on both dicts: the same is told. -/
namespace Go.Proofs.Ythbjjjcppijcbaa
open Go.RowKit Pal Dint
attribute [local go_sem ↓] Go.wp_at_zero Go.wp_at_succ

set_option maxRecDepth 100000 in
set_option maxHeartbeats 4000000 in
theorem did_p {w0 W : World} {bd br : Nat} {d : Dm} {r : Rm} (h : Half w0 W bd br d r) (hTie : Tie d r) (hTiny : Tiny d) (x : Act3) (hk : x.Key.size ≤ 9223372036854775807) (hn : d.n ≤ 100000) :
    Calls Try.prog 28 #[.pointer (some ⟨bd, 0, none⟩), .pointer (some ⟨br, 0, none⟩), .agg #[.int .i64 x.Do, .string x.Key, .int .i64 x.V]] W fun e W' => e = .returned (.bool true) ∧ ∃ d' r', Half w0 W' bd br d' r' ∧ Tie d' r' ∧ d'.n ≤ d.n + 1 ∧ Tiny d' := by
  have hks : (cutS x.Key 12).size ≤ 9223372036854775807 := Nat.le_trans (cutS_size _ _) hk
  obtain ⟨rr, hr, hcase⟩ := mod8 x.Do
  have hbx := Blk.new W 28 #[.int .i64 x.Do, .string x.Key, .int .i64 x.V]
  have hc1 : Chg (fun _ => False) W (W.alloc (Obj.cells #[.int .i64 x.Do, .string x.Key, .int .i64 x.V] 28)) := (Chg.refl _ W).alloc _
  have hB := h.chg0 hc1
  have hok := h.one.md.ok
  have hn6 : d.n ≤ 1000000 := by omega
  have hrok := hTie.ok hok hn6
  have hrn : r.l.length < 1000000 := by rw [hTie.n]; omega
  have hgen : ∀ W', Chg d.foot (W.alloc (Obj.cells #[.int .i64 x.Do, .string x.Key, .int .i64 x.V] 28)) W' → W'.cell? ⟨W.heap.size, 0, none⟩ = some (.int .i64 x.Do) ∧ W'.cell? ⟨W.heap.size, 1, none⟩ = some (.string x.Key) ∧ W'.cell? ⟨W.heap.size, 2, none⟩ = some (.int .i64 x.V) := fun W' hc => by
    have hb := hbx.chg hc (fun hf => Nat.lt_irrefl _ (h.one.md.lt hf))
    exact ⟨hb.cell 0, hb.cell 1, hb.cell 2⟩
  have hgen2 : ∀ {W'} W'', Chg d.foot (W.alloc (Obj.cells #[.int .i64 x.Do, .string x.Key, .int .i64 x.V] 28)) W' → Chg r.foot W' W'' → W''.cell? ⟨W.heap.size, 0, none⟩ = some (.int .i64 x.Do) ∧ W''.cell? ⟨W.heap.size, 1, none⟩ = some (.string x.Key) ∧ W''.cell? ⟨W.heap.size, 2, none⟩ = some (.int .i64 x.V) := fun {W'} W'' hc hc' => by
    have hb := (hbx.chg hc (fun hf => Nat.lt_irrefl _ (h.one.md.lt hf))).chg hc' (fun hf => by have := (h.rm.lt hf).2; omega)
    exact ⟨hb.cell 0, hb.cell 1, hb.cell 2⟩
  have hset := fun W' (hW : RmAt W' w0.heap.size r) => setM_any r (cutS x.Key 12) x.V W' w0.heap.size hW hrok hks hrn
  have hdel := fun W' (hW : RmAt W' w0.heap.size r) => delM_any r (cutS x.Key 12) W' w0.heap.size hW hrok
  have hget := fun W' (hW : RmAt W' w0.heap.size r) => GetR_any r (cutS x.Key 12) W' w0.heap.size hW hrok
  have hstp := fun W' (hW : RmAt W' w0.heap.size r) => stepM_any r (min x.V 100) W' w0.heap.size hW hrok
  rw [hTie.k hok] at hstp
  unfold ptr at hset hdel hget hstp
  rw [h.br] at hset hdel hget hstp
  obtain ⟨c0, c1, c2⟩ := hgen _ (Chg.refl _ _)
  have f0 := hbx.lt
  obtain ⟨s1, s2, s3, s4, s5⟩ := step_facts hok 1
  rcases hcase with rfl | rfl | rfl | rfl | rfl | rfl | rfl | rfl
  · go_enter Try.func28, Try.ntmps28
    go_wp2_with fail
    go_region_held3 (fun w' => w'.cell? ⟨W.heap.size, 0, none⟩ = some (.int .i64 x.Do) ∧ w'.cell? ⟨W.heap.size, 1, none⟩ = some (.string x.Key) ∧ w'.cell? ⟨W.heap.size, 2, none⟩ = some (.int .i64 x.V)) (first | exact hgen _ ((Chg.refl d.foot _).drew) | exact hgen _ hc5 | exact hgen2 _ hc5 hc6 | fail)
      (first
        | (go_at_call 16; refine (key7_any _ _ hk).mono ?_; rintro e9 w9 ⟨rfl, rfl⟩)
        | (go_at_call 17; refine (set_p (hB.chg0 ((Chg.refl _ _).drew)).one (cutS x.Key 12) (.int .i64 x.V) hks ⟨_, rfl⟩ hn).mono ?_; rintro e5 W5 ⟨rfl, d', hT1, hN1, hP1, hs1, hi1⟩; have hB5 := (hB.chg0 ((Chg.refl _ _).drew)).left hT1 hN1; have hc5 : Chg d.foot (W.alloc (Obj.cells #[.int .i64 x.Do, .string x.Key, .int .i64 x.V] 28)) W5 := ((Chg.refl _ _).drew).trans hN1.chg)
        | (go_at_call 58; refine (hset W5 hB5.rm).mono ?_; rintro e6 W6 ⟨b, r', rfl, hN2, hM2⟩; have hc6 := hN2.chg; obtain ⟨hTie', hb⟩ := tie_set hTie hok hT1.md.ok hn6 hN1.seed ⟨hP1, hs1, hi1⟩ hM2; subst hb)
        | fail)
    all_goals
      go_wp2_with fail
      go_ret
      exact ⟨by simp, d', r', hB5.right hN2, hTie', by rw [hP1.2]; split <;> omega, hTiny.puts hP1⟩
  · go_enter Try.func28, Try.ntmps28
    go_wp2_with fail
    go_region_held3 (fun w' => w'.cell? ⟨W.heap.size, 0, none⟩ = some (.int .i64 x.Do) ∧ w'.cell? ⟨W.heap.size, 1, none⟩ = some (.string x.Key) ∧ w'.cell? ⟨W.heap.size, 2, none⟩ = some (.int .i64 x.V)) (first | exact hgen _ ((Chg.refl d.foot _).drew) | exact hgen _ hc5 | exact hgen2 _ hc5 hc6 | fail)
      (first
        | (go_at_call 16; refine (key7_any _ _ hk).mono ?_; rintro e9 w9 ⟨rfl, rfl⟩)
        | (go_at_call 17; refine (set_p (hB.chg0 ((Chg.refl _ _).drew)).one (cutS x.Key 12) (.int .i64 x.V) hks ⟨_, rfl⟩ hn).mono ?_; rintro e5 W5 ⟨rfl, d', hT1, hN1, hP1, hs1, hi1⟩; have hB5 := (hB.chg0 ((Chg.refl _ _).drew)).left hT1 hN1; have hc5 : Chg d.foot (W.alloc (Obj.cells #[.int .i64 x.Do, .string x.Key, .int .i64 x.V] 28)) W5 := ((Chg.refl _ _).drew).trans hN1.chg)
        | (go_at_call 58; refine (hset W5 hB5.rm).mono ?_; rintro e6 W6 ⟨b, r', rfl, hN2, hM2⟩; have hc6 := hN2.chg; obtain ⟨hTie', hb⟩ := tie_set hTie hok hT1.md.ok hn6 hN1.seed ⟨hP1, hs1, hi1⟩ hM2; subst hb)
        | fail)
    all_goals
      go_wp2_with fail
      go_ret
      exact ⟨by simp, d', r', hB5.right hN2, hTie', by rw [hP1.2]; split <;> omega, hTiny.puts hP1⟩
  · go_enter Try.func28, Try.ntmps28
    go_wp2_with fail
    go_region_held3 (fun w' => w'.cell? ⟨W.heap.size, 0, none⟩ = some (.int .i64 x.Do) ∧ w'.cell? ⟨W.heap.size, 1, none⟩ = some (.string x.Key) ∧ w'.cell? ⟨W.heap.size, 2, none⟩ = some (.int .i64 x.V)) (first | exact hgen _ ((Chg.refl d.foot _).drew) | exact hgen _ hc5 | exact hgen2 _ hc5 hc6 | fail)
      (first
        | (go_at_call 16; refine (key7_any _ _ hk).mono ?_; rintro e9 w9 ⟨rfl, rfl⟩)
        | (go_at_call 17; refine (set_p (hB.chg0 ((Chg.refl _ _).drew)).one (cutS x.Key 12) (.int .i64 x.V) hks ⟨_, rfl⟩ hn).mono ?_; rintro e5 W5 ⟨rfl, d', hT1, hN1, hP1, hs1, hi1⟩; have hB5 := (hB.chg0 ((Chg.refl _ _).drew)).left hT1 hN1; have hc5 : Chg d.foot (W.alloc (Obj.cells #[.int .i64 x.Do, .string x.Key, .int .i64 x.V] 28)) W5 := ((Chg.refl _ _).drew).trans hN1.chg)
        | (go_at_call 58; refine (hset W5 hB5.rm).mono ?_; rintro e6 W6 ⟨b, r', rfl, hN2, hM2⟩; have hc6 := hN2.chg; obtain ⟨hTie', hb⟩ := tie_set hTie hok hT1.md.ok hn6 hN1.seed ⟨hP1, hs1, hi1⟩ hM2; subst hb)
        | fail)
    all_goals
      go_wp2_with fail
      go_ret
      exact ⟨by simp, d', r', hB5.right hN2, hTie', by rw [hP1.2]; split <;> omega, hTiny.puts hP1⟩
  · go_enter Try.func28, Try.ntmps28
    go_wp2_with fail
    go_region_held3 (fun w' => w'.cell? ⟨W.heap.size, 0, none⟩ = some (.int .i64 x.Do) ∧ w'.cell? ⟨W.heap.size, 1, none⟩ = some (.string x.Key) ∧ w'.cell? ⟨W.heap.size, 2, none⟩ = some (.int .i64 x.V)) (first | exact hgen _ ((Chg.refl d.foot _).drew) | exact hgen _ hc5 | exact hgen2 _ hc5 hc6 | fail)
      (first
        | (go_at_call 16; refine (key7_any _ _ hk).mono ?_; rintro e9 w9 ⟨rfl, rfl⟩)
        | (go_at_call 17; refine (set_p (hB.chg0 ((Chg.refl _ _).drew)).one (cutS x.Key 12) (.int .i64 x.V) hks ⟨_, rfl⟩ hn).mono ?_; rintro e5 W5 ⟨rfl, d', hT1, hN1, hP1, hs1, hi1⟩; have hB5 := (hB.chg0 ((Chg.refl _ _).drew)).left hT1 hN1; have hc5 : Chg d.foot (W.alloc (Obj.cells #[.int .i64 x.Do, .string x.Key, .int .i64 x.V] 28)) W5 := ((Chg.refl _ _).drew).trans hN1.chg)
        | (go_at_call 58; refine (hset W5 hB5.rm).mono ?_; rintro e6 W6 ⟨b, r', rfl, hN2, hM2⟩; have hc6 := hN2.chg; obtain ⟨hTie', hb⟩ := tie_set hTie hok hT1.md.ok hn6 hN1.seed ⟨hP1, hs1, hi1⟩ hM2; subst hb)
        | fail)
    all_goals
      go_wp2_with fail
      go_ret
      exact ⟨by simp, d', r', hB5.right hN2, hTie', by rw [hP1.2]; split <;> omega, hTiny.puts hP1⟩
  · have hst := hTie.step hok hn6 1
    have hT2 : Tiny (stepD d 1) := hTiny.look (fun k => by rw [s2])
    have hg : ∀ W', RmAt W' w0.heap.size r → Calls Try.prog 59 #[.pointer (some ⟨br, 0, none⟩), .string (cutS x.Key 12)] W' fun e w' => e = .returned (.tuple #[(d.look (cutS x.Key 12)).getD (.int .i64 0), .bool (d.look (cutS x.Key 12)).isSome]) ∧ RmNx r (r.slots (r.k 1)) w0.heap.size W' w' := fun W' hW => by
      refine (hget W' hW).mono ?_
      rintro e w' ⟨⟨y, hy, hyk, rfl⟩ | ⟨hno, rfl⟩, hx⟩
      · have := (hst.node y hy).1
        rw [s2, hyk] at this
        rw [this]; exact ⟨rfl, hx⟩
      · have : d.look (cutS x.Key 12) = none := by
          cases hl : d.look (cutS x.Key 12) with
          | none => rfl
          | some u =>
            obtain ⟨y, hy, hyk⟩ := hst.has (cutS x.Key 12) (by rw [s2, hl]; rfl)
            exact absurd hyk (hno y hy)
        rw [this]; exact ⟨rfl, hx⟩
    obtain ⟨z, hz⟩ : ∃ z : Int, (d.look (cutS x.Key 12)).getD (.int .i64 0) = .int .i64 z := by
      cases hl : d.look (cutS x.Key 12) with
      | none => exact ⟨0, rfl⟩
      | some u =>
        obtain ⟨y, hy, hyk⟩ := hTie.has (cutS x.Key 12) (by rw [hl]; rfl)
        have := (hTie.node y hy).1
        rw [hyk, hl] at this
        injection this with this
        exact ⟨y.v, this⟩
    obtain ⟨b, hb⟩ : ∃ b, (d.look (cutS x.Key 12)).isSome = b := ⟨_, rfl⟩
    have hgd := get_p hB.one (cutS x.Key 12) hks
    rw [hz, hb] at hg hgd
    go_enter Try.func28, Try.ntmps28
    go_wp2_with fail
    refine (key7_any _ _ hk).mono ?_
    rintro e9 w9 ⟨rfl, rfl⟩
    go_wp2_with fail
    refine hgd.mono ?_
    rintro e5 W5 ⟨rfl, hT1, hN1⟩
    have hB5 := hB.left hT1 hN1
    obtain ⟨d0, d1, d2⟩ := hgen _ hN1.chg
    clear hgd
    go_wp2_with fail
    refine (key7_any _ _ hk).mono ?_
    rintro e9 w9 ⟨rfl, rfl⟩
    go_wp2_with fail
    refine (hg _ hB5.rm).mono ?_
    rintro e6 W6 ⟨rfl, hN2⟩
    go_wp2_with fail
    go_ret
    exact ⟨by simp, _, _, hB5.right hN2, hst, by omega, hT2⟩
  · go_enter Try.func28, Try.ntmps28
    go_wp2_with fail
    go_region_held3 (fun w' => w'.cell? ⟨W.heap.size, 0, none⟩ = some (.int .i64 x.Do) ∧ w'.cell? ⟨W.heap.size, 1, none⟩ = some (.string x.Key) ∧ w'.cell? ⟨W.heap.size, 2, none⟩ = some (.int .i64 x.V)) (first | exact hgen _ ((Chg.refl d.foot _).drew) | exact hgen _ hc5 | exact hgen2 _ hc5 hc6 | fail)
      (first
        | (go_at_call 16; refine (key7_any _ _ hk).mono ?_; rintro e9 w9 ⟨rfl, rfl⟩)
        | (go_at_call 19; refine (del_p (hB.chg0 ((Chg.refl _ _).drew)).one (cutS x.Key 12) hks hn).mono ?_; rintro e5 W5 ⟨rfl, d', hT1, hN1, hP1, hs1, hi1⟩; have hB5 := (hB.chg0 ((Chg.refl _ _).drew)).left hT1 hN1; have hc5 : Chg d.foot (W.alloc (Obj.cells #[.int .i64 x.Do, .string x.Key, .int .i64 x.V] 28)) W5 := ((Chg.refl _ _).drew).trans hN1.chg)
        | (go_at_call 60; refine (hdel W5 hB5.rm).mono ?_; rintro e6 W6 ⟨b, r', rfl, hN2, hM2⟩; have hc6 := hN2.chg; obtain ⟨hTie', hb⟩ := tie_del hTie hok hn6 hN1.seed ⟨hP1, hs1, hi1⟩ hM2; subst hb)
        | fail)
    all_goals
      go_wp2_with fail
      go_ret
      exact ⟨by simp, d', r', hB5.right hN2, hTie', by rw [hP1.2]; split <;> omega, hTiny.cuts hP1⟩
  · go_enter Try.func28, Try.ntmps28
    go_wp2_with fail
    go_region_held3 (fun w' => w'.cell? ⟨W.heap.size, 0, none⟩ = some (.int .i64 x.Do) ∧ w'.cell? ⟨W.heap.size, 1, none⟩ = some (.string x.Key) ∧ w'.cell? ⟨W.heap.size, 2, none⟩ = some (.int .i64 x.V)) (first | exact hgen _ ((Chg.refl d.foot _).drew) | exact hgen _ hc5 | exact hgen2 _ hc5 hc6 | fail)
      (first
        | (go_at_call 16; refine (key7_any _ _ hk).mono ?_; rintro e9 w9 ⟨rfl, rfl⟩)
        | (go_at_call 19; refine (del_p (hB.chg0 ((Chg.refl _ _).drew)).one (cutS x.Key 12) hks hn).mono ?_; rintro e5 W5 ⟨rfl, d', hT1, hN1, hP1, hs1, hi1⟩; have hB5 := (hB.chg0 ((Chg.refl _ _).drew)).left hT1 hN1; have hc5 : Chg d.foot (W.alloc (Obj.cells #[.int .i64 x.Do, .string x.Key, .int .i64 x.V] 28)) W5 := ((Chg.refl _ _).drew).trans hN1.chg)
        | (go_at_call 60; refine (hdel W5 hB5.rm).mono ?_; rintro e6 W6 ⟨b, r', rfl, hN2, hM2⟩; have hc6 := hN2.chg; obtain ⟨hTie', hb⟩ := tie_del hTie hok hn6 hN1.seed ⟨hP1, hs1, hi1⟩ hM2; subst hb)
        | fail)
    all_goals
      go_wp2_with fail
      go_ret
      exact ⟨by simp, d', r', hB5.right hN2, hTie', by rw [hP1.2]; split <;> omega, hTiny.cuts hP1⟩
  · have hst := hTie.step hok hn6 (min x.V 100)
    rw [hTie.k hok] at hst
    obtain ⟨t1, t2, t3, t4, t5⟩ := step_facts hok (min x.V 100)
    have hT2 : Tiny (stepD d (min x.V 100)) := hTiny.look (fun k => by rw [t2])
    have hsd := step_p hB.one (min x.V 100)
    go_enter Try.func28, Try.ntmps28
    go_wp2_with fail
    refine hsd.mono ?_
    rintro e5 W5 ⟨rfl, hT1, hN1⟩
    have hB5 := hB.left hT1 hN1
    clear hsd
    go_wp2_with fail
    refine (hstp _ hB5.rm).mono ?_
    rintro e6 W6 ⟨rfl, hN2⟩
    go_wp2_with fail
    go_ret
    exact ⟨by simp, _, _, hB5.right hN2, hst, by omega, hT2⟩

end Go.Proofs.Ythbjjjcppijcbaa
