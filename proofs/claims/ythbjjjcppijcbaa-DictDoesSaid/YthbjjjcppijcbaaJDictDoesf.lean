/- Texts joined for DictDoes: RY, RL. -/
import Derived.Test.YthbjjjcppijcbaaJDictDoese
import Derived.IntWalk
set_option linter.unusedVariables false
set_option linter.unusedSimpArgs false

/- The walk of the document's dict: Delete. -/
namespace Go.Proofs.Ythbjjjcppijcbaa
open Go.RowKit Pal Dint

theorem nrCells_take (l : List Nr) (i : Nat) : nrCells (l.take i) = (nrCells l).take (i * 4) := by
  induction l generalizing i with
  | nil => simp [nrCells]
  | cons x l ih =>
    cases i with
    | zero => simp [nrCells]
    | succ i =>
      rw [List.take_succ_cons, nrCells_cons, nrCells_cons, ih, show (i + 1) * 4 = x.cells.length + i * 4 by simp [Nr.cells]; omega, List.take_length_add_append]
theorem nrCells_drop (l : List Nr) (i : Nat) : nrCells (l.drop i) = (nrCells l).drop (i * 4) := by
  induction l generalizing i with
  | nil => simp [nrCells]
  | cons x l ih =>
    cases i with
    | zero => simp
    | succ i =>
      rw [List.drop_succ_cons, nrCells_cons, ih, show (i + 1) * 4 = x.cells.length + i * 4 by simp [Nr.cells]; omega, List.drop_length_add_append]
theorem _root_.Pal.Reads.take {w : World} {B size n k : Nat} {A : Option Addr} {xs : List Value} (h : Reads w B size A n xs) (hk : k ≤ n) : Reads w B size A k (xs.take (k * size)) := by
  refine ⟨by rw [List.length_take, h.1]; exact Nat.min_eq_left (Nat.mul_le_mul_right size hk), fun h0 => ?_⟩
  obtain ⟨ad, e, hb, hc⟩ := h.2 (by omega)
  refine ⟨ad, e, hb, fun j u hu => hc j u ?_⟩
  rw [List.getElem?_take] at hu
  split at hu
  · exact hu
  · cases hu

/-- Another list. -/
theorem RmAt.relist {w : World} {base b1 : Nat} {r : Rm} {v7 : Value} {l' : List Nr} (h : RmAt w base r) (ho : Nrs w b1 v7 l') (hb : base ≤ b1) : RmAt (w.setCell ⟨r.blk, 1, none⟩ v7) base { r with lv := v7, l := l' } ∧ Chg (fun g => g = r.blk) w (w.setCell ⟨r.blk, 1, none⟩ v7) := by
  have hC : Chg (fun g => g = r.blk) w (w.setCell ⟨r.blk, 1, none⟩ v7) := Chg.store (S := fun g => g = r.blk) (Chg.refl _ w) rfl 1 v7
  exact ⟨⟨h.hd.set 1 v7, (ho.lower hb).chg hC fun g hg e => by subst e; exact Blk.not_own h.hd ho (by decide) hg, h.ge⟩, hC⟩

def Rm.shrink (r : Rm) : Rm := if r.b = 0 ∧ 4 < r.a ∧ 8 * r.l.length < r.a then { r with b := sizeFor (r.l.length : Int) } else r

set_option maxRecDepth 100000 in
set_option maxHeartbeats 2000000 in
theorem DeleteR_any (r : Rm) (key : ByteArray) (w : World) (base : Nat) (h : RmAt w base r) (hok : r.Ok) :
    Calls Try.prog 60 #[ptr r.blk, .string key] w fun e w' => ∃ r', RmNx r r' base w w' ∧
      ((∃ (i : Nat) (x : Nr), (r.slots (r.k 1)).l[i]? = some x ∧ x.key = key ∧ e = .returned (.bool true) ∧ ∃ lv, r' = ({ r.slots (r.k 1) with lv := lv, l := (r.slots (r.k 1)).l.take i ++ (r.slots (r.k 1)).l.drop (i + 1) } : Rm).shrink) ∨
       ((∀ x ∈ (r.slots (r.k 1)).l, x.key ≠ key) ∧ e = .returned (.bool false) ∧ r' = r.slots (r.k 1))) := by
  have hk1 := r.k_facts hok 1 (Nat.le_refl _)
  obtain ⟨f1, f2, f3, f4⟩ := r.slots_foot (r.k 1)
  obtain ⟨e, he⟩ : ∃ e, r.slots (r.k 1) = e := ⟨_, rfl⟩
  have hst := StepR_any r 1 w base h hok
  rw [he] at hst hk1 f1 f2 f3 f4
  have hft : ∀ g, e.foot g → r.foot g := fun g hg => by rcases hg with hg | hg; exact .inl (hg.trans f1); exact .inr (f2 ▸ hg)
  have hE := hk1.1
  have hEn := hE.n
  rw [he]
  clear he hk1 f4
  unfold ptr at hst ⊢
  go_enter Try.func60, Try.ntmps60
  go_wp2_with fail
  refine hst.mono ?_
  rintro e1 w1 ⟨rfl, hR, hC⟩
  have hat := atR_any e key w1 base hR hEn
  unfold ptr at hat
  rw [f1] at hat
  clear hst
  go_wp2_with fail
  refine hat.mono ?_
  rintro e2 w2 ⟨rfl, hcase⟩
  clear hat
  obtain ⟨p, cap, hlv, hl1, hl2, _⟩ := hR.own.is
  obtain ⟨c0, c1, c2, c3, c4, fr, hlt0⟩ := rm_cells hR
  try dsimp only at c0 c1 c2 c3 c4 fr hlt0
  rw [f1] at c0 c1 c2 c3 c4 fr hlt0
  rw [hlv] at c1
  replace hlv := Lib.hid hlv
  rcases hcase with ⟨i, x, hx, hk, rfl⟩ | ⟨hno, rfl⟩
  · have hil : i < e.l.length := (List.getElem?_eq_some_iff.1 hx).1
    have hil' : (i : Int) < (e.l.length : Int) := by omega
    have hi0 : ¬ (i : Int) < 0 := by omega
    have hi1 : (0 : Int) ≤ (i : Int) := by omega
    have hown := hR.own
    rw [hlv.out] at hown
    obtain ⟨g, rfl, _, nk, nv, ns, nn, nf, nl⟩ := hown.at_ hx
    replace hx := Lib.hid hx
    replace hk := Lib.hid hk
    have ha6 := hE.a
    obtain ⟨i0, hi00, hz0, hz1, hz2⟩ := info_parts nr_info
    have hic : (i : Int) ≤ (cap : Int) := by omega
    have hi2 : (i : Int) + 1 ≤ (e.l.length : Int) := by omega
    have hn6 : (e.l.length : Int) ≤ 1000000 := by omega
    have hr1 := (Reads.of_own hown.own).take (k := i) (Nat.le_of_lt hil)
    rw [← nrCells_take] at hr1
    have hr2 := (Reads.of_own hown.own).cut (k := i + 1) (cap := cap) (by omega) hl1
    rw [← nrCells_drop] at hr2
    have hA1 : 0 + i ≤ maxLen := by unfold maxLen; omega
    have hB1 : (0 + i) * 32 ≤ 140737488355328 := by omega
    have hA2 : 0 + i + (e.l.length - (i + 1)) ≤ maxLen := by unfold maxLen; omega
    have hB2 : (0 + i + (e.l.length - (i + 1))) * 32 ≤ 140737488355328 := by omega
    obtain ⟨l2, hl2e⟩ : ∃ l2, l2 = e.l.take i ++ e.l.drop (i + 1) := ⟨_, rfl⟩
    have hlen7 : 0 + i + (e.l.length - (i + 1)) = l2.length := by
      rw [hl2e, List.length_append, List.length_take, List.length_drop, Nat.min_eq_left (Nat.le_of_lt hil), Nat.zero_add]
    have hnr7 : nrCells (e.l.take i) ++ nrCells (e.l.drop (i + 1)) = nrCells l2 := by rw [hl2e, nrCells_app]
    replace hl2e := Lib.hid hl2e
    by_cases hcap : cap = i + 1
    · rw [if_pos hcap] at hr2
      go_wp2_with (first | (at_builtin; refine wpList_append_any _ rfl (.tmp 14) (.tmp 20) 53 rfl w1.heap.size 104 i0 _ 4 32 Try.underlying53 hi00 hz0 hz1 hz2 rfl (by omega) _ _ _ rfl (Nrs.nil w1 w1.heap.size).own w1.heap.size (some ⟨g, 0, none⟩) i _ (nrCells (e.l.take i)) rfl hr1 (nr_one _) hA1 hB1 (Nat.le_refl _) ?_; intro v6 w6 hown6 hg6 hat6; have hC6 : Chg (fun _ => False) w1 w6 := Chg.of_grown hg6 (fun g h => by cases h); have hR6 := hR.chg0 hC6; obtain ⟨d0, d1, d2, d3, d4, dfr, dl0⟩ := rm_cells hR6; rw [f1] at d0 d1 d2 d3 d4 dfr dl0; rw [hlv.out] at d1; have hr3 := hr2.chg hC6 (Nat.le_refl _) (fun _ _ => id)) | (at_builtin; refine wpList_append_any _ rfl (.tmp 23) (.tmp 30) 53 rfl w1.heap.size 104 i0 _ 4 32 Try.underlying53 hi00 hz0 hz1 hz2 rfl (by omega) _ _ _ rfl hown6 w1.heap.size _ (e.l.length - (i + 1)) _ (nrCells (e.l.drop (i + 1))) rfl hr3 (nr_one _) hA2 hB2 hC6.size ?_; intro v7 w7 hown7 hg7 hat7; obtain ⟨p7, c7, rfl, hb7, hb8, _⟩ := (Nrs.mk (l := l2) hown7 hlen7 (by rw [← hnr7]; simp [nrCells])).is; have hC7 : Chg (fun g => v6.ownBlock = some g) w6 w7 := Chg.of_grown hg7 (fun g h => h); have hR7 := hR6.chg hC7 (fun g hg h' => by have := (hown6.lt g h').1; have := (hR.lt hg).2; omega); obtain ⟨x0, x1, x2, x3, x4, xfr, xl0⟩ := rm_cells hR7; rw [f1] at x0 x1 x2 x3 x4 xfr xl0; rw [hlv.out] at x1) | fail)
      obtain ⟨hR8, hc8⟩ := hR7.relist (Nrs.mk (l := l2) hown7 hlen7 (by rw [← hnr7]; simp [nrCells])) (Nat.le_trans hR.ge (Nat.le_of_lt hR.hd.lt))
      rw [f1] at hR8 hc8
      have hC8 : Chg r.foot w _ := ((hC.trans (hC6.mono fun _ _ h => h.elim)).trans' hC7 (fun g hg h' => by have := (hown6.lt g h').1; have := hC.size; omega)).trans (hc8.mono fun g _ hg => .inl hg)
      have hft7 : ∀ g, (Value.slice p7 l2.length c7).ownBlock = some g → w.heap.size ≤ g := fun g hg => Nat.le_trans hC.size (hown7.lt g hg).1
      obtain ⟨e2, he2⟩ : ∃ e2, e2 = ({ blk := r.blk, lv := Value.slice p7 l2.length c7, seed := e.seed, a := e.a, b := e.b, at_ := e.at_, l := l2 } : Rm) := ⟨_, rfl⟩
      rw [← he2] at hR8
      have hfin : ∀ r', r' = e2.shrink → ∃ lv, r' = ({ e with lv := lv, l := e.l.take i ++ e.l.drop (i + 1) } : Rm).shrink := fun r' hr' => ⟨Value.slice p7 l2.length c7, by rw [hr', he2, f1, hl2e.out]⟩
      have g1 : e2.blk = r.blk := by rw [he2]
      have hlv2 : e2.lv = Value.slice p7 e2.l.length c7 := by rw [he2]
      have hft8 : ∀ g, e2.foot g → r.foot g ∨ w.heap.size ≤ g := fun g hg => by
        rw [he2] at hg
        rcases hg with hg | hg
        · exact .inl (.inl hg)
        · exact .inr (hft7 g hg)
      have hl8 : e2.l.length ≤ 1000000 := by rw [he2]; show l2.length ≤ 1000000; rw [← hlen7]; omega
      have hb8 : e2.b = e.b := by rw [he2]
      have ha8 : e2.a ≤ 65536 := by rw [he2]; exact hE.a
      have hcl1 : (Value.slice p7 l2.length c7) = e2.lv := by rw [he2]
      clear he2 hown7 hlen7 hown6 hg6 hg7 hR7 hC7 hR6 hC6 x0 x1 x2 x3 x4 xfr xl0 d0 d1 d2 d3 d4 dfr dl0 hr1 hr2 hr3 hA1 hB1 hA2 hB2 hown nk nv ns nn nf nl c0 c1 c2 c3 c4 fr hlt0 hft7 hat6 hat7 hR hC
      generalize w7.setCell ⟨r.blk, 1, none⟩ (Value.slice p7 l2.length c7) = W8 at *
      have hR := hR8
      obtain ⟨c0, c1, c2, c3, c4, fr, hlt0⟩ := rm_cells hR
      rw [g1] at c0 c1 c2 c3 c4 fr hlt0
      rw [hlv2] at c1
      replace hb8 := Lib.hid hb8
      replace hcl1 := Lib.hid hcl1
      replace hlv2 := Lib.hid hlv2
      have hw8 : IntKind.i64.wrap (8 * (e2.l.length : Int)) = 8 * (e2.l.length : Int) := IntWalk.i64_in _ (by omega)
      by_cases hb0 : e2.b = 0
      · have hbb : ((e2.b : Int) == 0) = true := by rw [hb0]; rfl
        by_cases h4 : 4 < e2.a
        · have h4' : (e2.a : Int) > 4 := by omega
          by_cases h9 : 8 * e2.l.length < e2.a
          · have h9' : 8 * (e2.l.length : Int) < (e2.a : Int) := by omega
            have hgr : e2.shrink = { e2 with b := sizeFor (e2.l.length : Int) } := by unfold Rm.shrink; rw [if_pos ⟨hb0, h4, h9⟩]
            replace hgr := Lib.hid hgr
            have hN := fun W (h0 : Chg (fun _ => False) W8 W) => (hR.chg0 h0).head 3 (.int .i64 (sizeFor (e2.l.length : Int) : Int)) { e2 with b := sizeFor (e2.l.length : Int) } rfl rfl rfl rfl
            rw [g1] at hN
            clear hb0 h4 h9
            go_quiet (fail)
            go_wp2_with fail
            refine (sizeForR_any _ _).mono ?_
            rintro e8 w8 ⟨rfl, rfl⟩
            go_wp2_with fail
            go_ret
            obtain ⟨h1, h2⟩ := hN _ ((Chg.refl _ W8).drewN nq)
            refine ⟨_, ⟨h1, rfl, (hC8.trans ((Chg.refl _ W8).drewN nq)).trans' h2 (fun g hg h' => ?_), fun g hg => hft8 g (by rcases hg with hg | hg; exact .inl (hg.trans g1.symm); exact .inr hg)⟩, .inl ⟨i, x, hx.out, hk.out, rfl, hfin _ (by rw [hgr.out, g1])⟩⟩
            rcases hft8 g h' with h3 | h3
            · exact h3
            · omega
          · have h9f : decide (8 * (e2.l.length : Int) < (e2.a : Int)) = false := by rw [decide_eq_false_iff_not]; omega
            have h9f2 : (8 * (e2.l.length : Int) < (e2.a : Int)) = False := by simp only [eq_iff_iff, iff_false]; omega
            have h9f3 : decide (8 * e2.l.length < e2.a) = false := by rw [decide_eq_false_iff_not]; omega
            have h9f4 : (8 * e2.l.length < e2.a) = False := by simp only [eq_iff_iff, iff_false]; omega
            have hgr : e2.shrink = e2 := by unfold Rm.shrink; rw [if_neg (fun h => h9 h.2.2)]
            replace hgr := Lib.hid hgr
            clear hb0 h4 h9
            go_quiet (fail)
            go_wp2_with fail
            go_ret
            exact ⟨_, ⟨hR.chg0 ((Chg.refl _ W8).drewN nq), g1, hC8.trans ((Chg.refl _ W8).drewN nq), hft8⟩, .inl ⟨i, x, hx.out, hk.out, rfl, hfin _ hgr.out.symm⟩⟩
        · have h4f : decide ((4 : Int) < (e2.a : Int)) = false := by rw [decide_eq_false_iff_not]; omega
          have h4f2 : ((4 : Int) < (e2.a : Int)) = False := by simp only [eq_iff_iff, iff_false]; omega
          have h4f3 : decide (4 < e2.a) = false := by rw [decide_eq_false_iff_not]; omega
          have h4f4 : (4 < e2.a) = False := by simp only [eq_iff_iff, iff_false]; omega
          have hgr : e2.shrink = e2 := by unfold Rm.shrink; rw [if_neg (fun h => h4 h.2.1)]
          replace hgr := Lib.hid hgr
          clear hb0 h4
          go_quiet (fail)
          go_wp2_with fail
          go_ret
          exact ⟨_, ⟨hR.chg0 ((Chg.refl _ W8).drewN nq), g1, hC8.trans ((Chg.refl _ W8).drewN nq), hft8⟩, .inl ⟨i, x, hx.out, hk.out, rfl, hfin _ hgr.out.symm⟩⟩
      · have hbb : ((e2.b : Int) == 0) = false := by rw [beq_eq_false_iff_ne]; omega
        have hgr : e2.shrink = e2 := by unfold Rm.shrink; rw [if_neg (fun h => hb0 h.1)]
        replace hgr := Lib.hid hgr
        clear hb0
        go_quiet (fail)
        go_wp2_with fail
        go_ret
        exact ⟨_, ⟨hR.chg0 ((Chg.refl _ W8).drewN nq), g1, hC8.trans ((Chg.refl _ W8).drewN nq), hft8⟩, .inl ⟨i, x, hx.out, hk.out, rfl, hfin _ hgr.out.symm⟩⟩
    · rw [if_neg hcap] at hr2
      simp only [Option.map_some, add_addr] at hr2
      go_wp2_with (first | (at_builtin; refine wpList_append_any _ rfl (.tmp 14) (.tmp 20) 53 rfl w1.heap.size 104 i0 _ 4 32 Try.underlying53 hi00 hz0 hz1 hz2 rfl (by omega) _ _ _ rfl (Nrs.nil w1 w1.heap.size).own w1.heap.size (some ⟨g, 0, none⟩) i _ (nrCells (e.l.take i)) rfl hr1 (nr_one _) hA1 hB1 (Nat.le_refl _) ?_; intro v6 w6 hown6 hg6 hat6; have hC6 : Chg (fun _ => False) w1 w6 := Chg.of_grown hg6 (fun g h => by cases h); have hR6 := hR.chg0 hC6; obtain ⟨d0, d1, d2, d3, d4, dfr, dl0⟩ := rm_cells hR6; rw [f1] at d0 d1 d2 d3 d4 dfr dl0; rw [hlv.out] at d1; have hr3 := hr2.chg hC6 (Nat.le_refl _) (fun _ _ => id)) | (at_builtin; refine wpList_append_any _ rfl (.tmp 23) (.tmp 30) 53 rfl w1.heap.size 104 i0 _ 4 32 Try.underlying53 hi00 hz0 hz1 hz2 rfl (by omega) _ _ _ rfl hown6 w1.heap.size _ (e.l.length - (i + 1)) _ (nrCells (e.l.drop (i + 1))) rfl hr3 (nr_one _) hA2 hB2 hC6.size ?_; intro v7 w7 hown7 hg7 hat7; obtain ⟨p7, c7, rfl, hb7, hb8, _⟩ := (Nrs.mk (l := l2) hown7 hlen7 (by rw [← hnr7]; simp [nrCells])).is; have hC7 : Chg (fun g => v6.ownBlock = some g) w6 w7 := Chg.of_grown hg7 (fun g h => h); have hR7 := hR6.chg hC7 (fun g hg h' => by have := (hown6.lt g h').1; have := (hR.lt hg).2; omega); obtain ⟨x0, x1, x2, x3, x4, xfr, xl0⟩ := rm_cells hR7; rw [f1] at x0 x1 x2 x3 x4 xfr xl0; rw [hlv.out] at x1) | fail)
      obtain ⟨hR8, hc8⟩ := hR7.relist (Nrs.mk (l := l2) hown7 hlen7 (by rw [← hnr7]; simp [nrCells])) (Nat.le_trans hR.ge (Nat.le_of_lt hR.hd.lt))
      rw [f1] at hR8 hc8
      have hC8 : Chg r.foot w _ := ((hC.trans (hC6.mono fun _ _ h => h.elim)).trans' hC7 (fun g hg h' => by have := (hown6.lt g h').1; have := hC.size; omega)).trans (hc8.mono fun g _ hg => .inl hg)
      have hft7 : ∀ g, (Value.slice p7 l2.length c7).ownBlock = some g → w.heap.size ≤ g := fun g hg => Nat.le_trans hC.size (hown7.lt g hg).1
      obtain ⟨e2, he2⟩ : ∃ e2, e2 = ({ blk := r.blk, lv := Value.slice p7 l2.length c7, seed := e.seed, a := e.a, b := e.b, at_ := e.at_, l := l2 } : Rm) := ⟨_, rfl⟩
      rw [← he2] at hR8
      have hfin : ∀ r', r' = e2.shrink → ∃ lv, r' = ({ e with lv := lv, l := e.l.take i ++ e.l.drop (i + 1) } : Rm).shrink := fun r' hr' => ⟨Value.slice p7 l2.length c7, by rw [hr', he2, f1, hl2e.out]⟩
      have g1 : e2.blk = r.blk := by rw [he2]
      have hlv2 : e2.lv = Value.slice p7 e2.l.length c7 := by rw [he2]
      have hft8 : ∀ g, e2.foot g → r.foot g ∨ w.heap.size ≤ g := fun g hg => by
        rw [he2] at hg
        rcases hg with hg | hg
        · exact .inl (.inl hg)
        · exact .inr (hft7 g hg)
      have hl8 : e2.l.length ≤ 1000000 := by rw [he2]; show l2.length ≤ 1000000; rw [← hlen7]; omega
      have hb8 : e2.b = e.b := by rw [he2]
      have ha8 : e2.a ≤ 65536 := by rw [he2]; exact hE.a
      have hcl1 : (Value.slice p7 l2.length c7) = e2.lv := by rw [he2]
      clear he2 hown7 hlen7 hown6 hg6 hg7 hR7 hC7 hR6 hC6 x0 x1 x2 x3 x4 xfr xl0 d0 d1 d2 d3 d4 dfr dl0 hr1 hr2 hr3 hA1 hB1 hA2 hB2 hown nk nv ns nn nf nl c0 c1 c2 c3 c4 fr hlt0 hft7 hat6 hat7 hR hC
      generalize w7.setCell ⟨r.blk, 1, none⟩ (Value.slice p7 l2.length c7) = W8 at *
      have hR := hR8
      obtain ⟨c0, c1, c2, c3, c4, fr, hlt0⟩ := rm_cells hR
      rw [g1] at c0 c1 c2 c3 c4 fr hlt0
      rw [hlv2] at c1
      replace hb8 := Lib.hid hb8
      replace hcl1 := Lib.hid hcl1
      replace hlv2 := Lib.hid hlv2
      have hw8 : IntKind.i64.wrap (8 * (e2.l.length : Int)) = 8 * (e2.l.length : Int) := IntWalk.i64_in _ (by omega)
      by_cases hb0 : e2.b = 0
      · have hbb : ((e2.b : Int) == 0) = true := by rw [hb0]; rfl
        by_cases h4 : 4 < e2.a
        · have h4' : (e2.a : Int) > 4 := by omega
          by_cases h9 : 8 * e2.l.length < e2.a
          · have h9' : 8 * (e2.l.length : Int) < (e2.a : Int) := by omega
            have hgr : e2.shrink = { e2 with b := sizeFor (e2.l.length : Int) } := by unfold Rm.shrink; rw [if_pos ⟨hb0, h4, h9⟩]
            replace hgr := Lib.hid hgr
            have hN := fun W (h0 : Chg (fun _ => False) W8 W) => (hR.chg0 h0).head 3 (.int .i64 (sizeFor (e2.l.length : Int) : Int)) { e2 with b := sizeFor (e2.l.length : Int) } rfl rfl rfl rfl
            rw [g1] at hN
            clear hb0 h4 h9
            go_quiet (fail)
            go_wp2_with fail
            refine (sizeForR_any _ _).mono ?_
            rintro e8 w8 ⟨rfl, rfl⟩
            go_wp2_with fail
            go_ret
            obtain ⟨h1, h2⟩ := hN _ ((Chg.refl _ W8).drewN nq)
            refine ⟨_, ⟨h1, rfl, (hC8.trans ((Chg.refl _ W8).drewN nq)).trans' h2 (fun g hg h' => ?_), fun g hg => hft8 g (by rcases hg with hg | hg; exact .inl (hg.trans g1.symm); exact .inr hg)⟩, .inl ⟨i, x, hx.out, hk.out, rfl, hfin _ (by rw [hgr.out, g1])⟩⟩
            rcases hft8 g h' with h3 | h3
            · exact h3
            · omega
          · have h9f : decide (8 * (e2.l.length : Int) < (e2.a : Int)) = false := by rw [decide_eq_false_iff_not]; omega
            have h9f2 : (8 * (e2.l.length : Int) < (e2.a : Int)) = False := by simp only [eq_iff_iff, iff_false]; omega
            have h9f3 : decide (8 * e2.l.length < e2.a) = false := by rw [decide_eq_false_iff_not]; omega
            have h9f4 : (8 * e2.l.length < e2.a) = False := by simp only [eq_iff_iff, iff_false]; omega
            have hgr : e2.shrink = e2 := by unfold Rm.shrink; rw [if_neg (fun h => h9 h.2.2)]
            replace hgr := Lib.hid hgr
            clear hb0 h4 h9
            go_quiet (fail)
            go_wp2_with fail
            go_ret
            exact ⟨_, ⟨hR.chg0 ((Chg.refl _ W8).drewN nq), g1, hC8.trans ((Chg.refl _ W8).drewN nq), hft8⟩, .inl ⟨i, x, hx.out, hk.out, rfl, hfin _ hgr.out.symm⟩⟩
        · have h4f : decide ((4 : Int) < (e2.a : Int)) = false := by rw [decide_eq_false_iff_not]; omega
          have h4f2 : ((4 : Int) < (e2.a : Int)) = False := by simp only [eq_iff_iff, iff_false]; omega
          have h4f3 : decide (4 < e2.a) = false := by rw [decide_eq_false_iff_not]; omega
          have h4f4 : (4 < e2.a) = False := by simp only [eq_iff_iff, iff_false]; omega
          have hgr : e2.shrink = e2 := by unfold Rm.shrink; rw [if_neg (fun h => h4 h.2.1)]
          replace hgr := Lib.hid hgr
          clear hb0 h4
          go_quiet (fail)
          go_wp2_with fail
          go_ret
          exact ⟨_, ⟨hR.chg0 ((Chg.refl _ W8).drewN nq), g1, hC8.trans ((Chg.refl _ W8).drewN nq), hft8⟩, .inl ⟨i, x, hx.out, hk.out, rfl, hfin _ hgr.out.symm⟩⟩
      · have hbb : ((e2.b : Int) == 0) = false := by rw [beq_eq_false_iff_ne]; omega
        have hgr : e2.shrink = e2 := by unfold Rm.shrink; rw [if_neg (fun h => hb0 h.1)]
        replace hgr := Lib.hid hgr
        clear hb0
        go_quiet (fail)
        go_wp2_with fail
        go_ret
        exact ⟨_, ⟨hR.chg0 ((Chg.refl _ W8).drewN nq), g1, hC8.trans ((Chg.refl _ W8).drewN nq), hft8⟩, .inl ⟨i, x, hx.out, hk.out, rfl, hfin _ hgr.out.symm⟩⟩
  · replace hno := Lib.hid hno
    go_wp2_with fail
    go_ret
    exact ⟨_, ⟨hR, f1, hC, fun g hg => .inl (hft g hg)⟩, .inr ⟨hno.out, rfl, rfl⟩⟩

end Go.Proofs.Ythbjjjcppijcbaa

/- Less; lists in order. -/
namespace Go.Proofs.Ythbjjjcppijcbaa
open Go.RowKit Pal Dint

def ltB (a b : ByteArray) : Prop := a.data.toList < b.data.toList
instance (a b : ByteArray) : Decidable (ltB a b) := inferInstanceAs (Decidable (a.data.toList < b.data.toList))
theorem lt_app (p s t : List UInt8) : p ++ s < p ++ t ↔ s < t := by
  induction p with
  | nil => rfl
  | cons x p ih => rw [List.cons_append, List.cons_append, List.cons_lt_cons_iff, ih]; simp
theorem ltB_at {a b : ByteArray} {i : Nat} (h : a.data.toList.take i = b.data.toList.take i) (ha : i < a.size) (hb : i < b.size) (hne : a[i] ≠ b[i]) : ltB a b ↔ a[i] < b[i] := by
  have e1 : a.data.toList = a.data.toList.take i ++ a[i] :: a.data.toList.drop (i + 1) := by
    have := List.take_append_drop i a.data.toList
    rw [List.drop_eq_getElem_cons (by simpa using ha)] at this
    exact this.symm
  have e2 : b.data.toList = b.data.toList.take i ++ b[i] :: b.data.toList.drop (i + 1) := by
    have := List.take_append_drop i b.data.toList
    rw [List.drop_eq_getElem_cons (by simpa using hb)] at this
    exact this.symm
  unfold ltB
  rw [e1, e2, h, lt_app, List.cons_lt_cons_iff]
  constructor
  · rintro (h | ⟨h, _⟩)
    · exact h
    · exact absurd h hne
  · exact .inl
theorem ltB_len {a b : ByteArray} {i : Nat} (h : a.data.toList.take i = b.data.toList.take i) (hi : i = a.size ∨ i = b.size) (ha : i ≤ a.size) (hb : i ≤ b.size) : ltB a b ↔ a.size < b.size := by
  have la : a.data.toList.length = a.size := Array.length_toList
  have lb : b.data.toList.length = b.size := Array.length_toList
  have e1 := List.take_append_drop i a.data.toList
  have e2 := List.take_append_drop i b.data.toList
  unfold ltB
  rw [← e1, ← e2, h, lt_app]
  rcases hi with hi | hi
  · have : a.data.toList.drop i = [] := List.drop_eq_nil_of_le (by omega)
    rw [this]
    cases hd : b.data.toList.drop i with
    | nil =>
      have := congrArg List.length hd
      rw [List.length_drop, List.length_nil] at this
      simp; omega
    | cons y t =>
      have := congrArg List.length hd
      rw [List.length_drop, List.length_cons] at this
      simp; omega
  · have : b.data.toList.drop i = [] := List.drop_eq_nil_of_le (by omega)
    rw [this]
    constructor
    · intro h; simp at h
    · intro h; omega

theorem all37 {P : Array Value → Prop} (h : ∀ u0 u1 u2 u3 u4 u5 u6 u7 u8 u9 u10 u11 u12 u13 u14 u15 u16 u17 u18 u19 u20 u21 u22 u23 u24 u25 u26 u27 u28 u29 u30 u31 u32 u33 u34 u35 u36 : Value, P #[u0, u1, u2, u3, u4, u5, u6, u7, u8, u9, u10, u11, u12, u13, u14, u15, u16, u17, u18, u19, u20, u21, u22, u23, u24, u25, u26, u27, u28, u29, u30, u31, u32, u33, u34, u35, u36]) (a : Array Value) (hs : a.size = 37) : P a := by
  obtain ⟨l⟩ := a
  have g0 : l.length = 37 := hs
  clear hs
  obtain ⟨u0, l0, e0, g1⟩ := Pal.len_cons g0
  obtain ⟨u1, l1, e1, g2⟩ := Pal.len_cons g1
  obtain ⟨u2, l2, e2, g3⟩ := Pal.len_cons g2
  obtain ⟨u3, l3, e3, g4⟩ := Pal.len_cons g3
  obtain ⟨u4, l4, e4, g5⟩ := Pal.len_cons g4
  obtain ⟨u5, l5, e5, g6⟩ := Pal.len_cons g5
  obtain ⟨u6, l6, e6, g7⟩ := Pal.len_cons g6
  obtain ⟨u7, l7, e7, g8⟩ := Pal.len_cons g7
  obtain ⟨u8, l8, e8, g9⟩ := Pal.len_cons g8
  obtain ⟨u9, l9, e9, g10⟩ := Pal.len_cons g9
  obtain ⟨u10, l10, e10, g11⟩ := Pal.len_cons g10
  obtain ⟨u11, l11, e11, g12⟩ := Pal.len_cons g11
  obtain ⟨u12, l12, e12, g13⟩ := Pal.len_cons g12
  obtain ⟨u13, l13, e13, g14⟩ := Pal.len_cons g13
  obtain ⟨u14, l14, e14, g15⟩ := Pal.len_cons g14
  obtain ⟨u15, l15, e15, g16⟩ := Pal.len_cons g15
  obtain ⟨u16, l16, e16, g17⟩ := Pal.len_cons g16
  obtain ⟨u17, l17, e17, g18⟩ := Pal.len_cons g17
  obtain ⟨u18, l18, e18, g19⟩ := Pal.len_cons g18
  obtain ⟨u19, l19, e19, g20⟩ := Pal.len_cons g19
  obtain ⟨u20, l20, e20, g21⟩ := Pal.len_cons g20
  obtain ⟨u21, l21, e21, g22⟩ := Pal.len_cons g21
  obtain ⟨u22, l22, e22, g23⟩ := Pal.len_cons g22
  obtain ⟨u23, l23, e23, g24⟩ := Pal.len_cons g23
  obtain ⟨u24, l24, e24, g25⟩ := Pal.len_cons g24
  obtain ⟨u25, l25, e25, g26⟩ := Pal.len_cons g25
  obtain ⟨u26, l26, e26, g27⟩ := Pal.len_cons g26
  obtain ⟨u27, l27, e27, g28⟩ := Pal.len_cons g27
  obtain ⟨u28, l28, e28, g29⟩ := Pal.len_cons g28
  obtain ⟨u29, l29, e29, g30⟩ := Pal.len_cons g29
  obtain ⟨u30, l30, e30, g31⟩ := Pal.len_cons g30
  obtain ⟨u31, l31, e31, g32⟩ := Pal.len_cons g31
  obtain ⟨u32, l32, e32, g33⟩ := Pal.len_cons g32
  obtain ⟨u33, l33, e33, g34⟩ := Pal.len_cons g33
  obtain ⟨u34, l34, e34, g35⟩ := Pal.len_cons g34
  obtain ⟨u35, l35, e35, g36⟩ := Pal.len_cons g35
  obtain ⟨u36, l36, e36, g37⟩ := Pal.len_cons g36
  obtain rfl := List.eq_nil_of_length_eq_zero g37
  have e : (⟨l⟩ : Array Value) = #[u0, u1, u2, u3, u4, u5, u6, u7, u8, u9, u10, u11, u12, u13, u14, u15, u16, u17, u18, u19, u20, u21, u22, u23, u24, u25, u26, u27, u28, u29, u30, u31, u32, u33, u34, u35, u36] := by rw [e0, e1, e2, e3, e4, e5, e6, e7, e8, e9, e10, e11, e12, e13, e14, e15, e16, e17, e18, e19, e20, e21, e22, e23, e24, e25, e26, e27, e28, e29, e30, e31, e32, e33, e34, e35, e36]
  rw [e]
  exact h u0 u1 u2 u3 u4 u5 u6 u7 u8 u9 u10 u11 u12 u13 u14 u15 u16 u17 u18 u19 u20 u21 u22 u23 u24 u25 u26 u27 u28 u29 u30 u31 u32 u33 u34 u35 u36
def ActL (a b : ByteArray) (i : Nat) (x : Act) : Prop := x.tmps.size = 37 ∧ x.tmps[0]? = some (.string a) ∧ x.tmps[1]? = some (.string b) ∧ x.tmps[5]? = some (.int .i64 (i : Int)) ∧ x.defers = []
def InvL (w0 : World) (a b : ByteArray) (m : Nat) (x : Act) (w : World) : Prop :=
  ∃ i, m = a.size - i ∧ i ≤ a.size ∧ i ≤ b.size ∧ ActL a b i x ∧ (∃ n, w = w0.drewN n) ∧ a.data.toList.take i = b.data.toList.take i

set_option maxRecDepth 100000 in
set_option maxHeartbeats 1000000 in
theorem less_any (a b : ByteArray) (w : World) (ha : a.size ≤ 9223372036854775807) (hb : b.size ≤ 9223372036854775807) :
    Calls Try.prog 63 #[.string a, .string b] w fun e w' => e = .returned (.bool (decide (ltB a b))) ∧ ∃ n, w' = w.drewN n := by
  go_enter Try.func63, Try.ntmps63
  go_wp2_with fail
  refine wp_loop_ghost (InvL w a b) a.size ?_ ?_
  · exact ⟨0, rfl, Nat.zero_le _, Nat.zero_le _, ⟨rfl, rfl, rfl, rfl, rfl⟩, ⟨0, rfl⟩, rfl⟩
  · rintro m ⟨tmps, ds⟩ W ⟨i, rfl, hia, hib, ⟨hsz, t0, t1, t5, rfl⟩, ⟨n, rfl⟩, ht⟩
    replace hsz : tmps.size = 37 := hsz
    dsimp only at t0 t1 t5
    revert t0 t1 t5
    revert hsz
    revert tmps
    refine all37 ?_
    intro u0 u1 u2 u3 u4 u5 u6 u7 u8 u9 u10 u11 u12 u13 u14 u15 u16 u17 u18 u19 u20 u21 u22 u23 u24 u25 u26 u27 u28 u29 u30 u31 u32 u33 u34 u35 u36 t0 t1 t5
    simp only [ptr, List.getElem?_toArray, List.getElem?_cons_zero, List.getElem?_cons_succ, Option.some.injEq] at t0 t1 t5
    subst t0 t1 t5
    by_cases h1 : i < a.size
    · have h1' : (i : Int) < (a.size : Int) := by omega
      by_cases h2 : i < b.size
      · have h2' : (i : Int) < (b.size : Int) := by omega
        have ta := take_snoc a i h1
        have tb := take_snoc b i h2
        by_cases he : a[i] = b[i]
        · have ht' : Hid (a.data.toList.take (i + 1) = b.data.toList.take (i + 1)) := by show _ = _; rw [ta, tb, ht, he]
          have hb1 : ((a[i].toNat : Int) != (b[i].toNat : Int)) = false := by rw [he]; simp
          clear ta tb he ht
          go_wp2_with fail
          go_quiet (fail)
          go_wp2_with fail
          exact ⟨a.size - (i + 1), by omega, i + 1, rfl, by omega, by omega, ⟨rfl, rfl, rfl, rfl, rfl⟩, ⟨_, rfl⟩, ht'.out⟩
        · have hl := ltB_at ht h1 h2 he
          have hb1 : ((a[i].toNat : Int) != (b[i].toNat : Int)) = true := by
            rw [bne_iff_ne]
            intro e
            exact he (UInt8.toNat_inj.1 (by omega))
          have hd : decide (a[i].toNat < b[i].toNat) = decide (ltB a b) := by
            rw [decide_eq_decide, hl, UInt8.lt_iff_toNat_lt]
          replace hd := Lib.hid hd
          replace hl := Lib.hid hl
          clear ta tb he ht
          go_wp2_with fail
          go_quiet (fail)
          go_wp2_with fail
          go_quiet (fail)
          go_wp2_with fail
          go_ret
          exact ⟨by show Ending.returned (.bool (decide (a[i].toNat < b[i].toNat))) = _; rw [hd.out], _, by rw [World.drewN_drewN, World.drewN_drewN]⟩
      · have hl := ltB_len ht (.inr (by omega)) hia hib
        have h2' : ((i : Int) < (b.size : Int)) = False := by simp only [eq_iff_iff, iff_false]; omega
        have h22 : (i < b.size) = False := by simp only [eq_iff_iff, iff_false]; omega
        have hd : decide (a.size < b.size) = decide (ltB a b) := by rw [decide_eq_decide, hl]
        replace hd := Lib.hid hd
        replace hl := Lib.hid hl
        clear h2
        go_wp2_with fail
        go_ret
        exact ⟨by show Ending.returned (.bool (decide (a.size < b.size))) = _; rw [hd.out], _, rfl⟩
    · have hl := ltB_len ht (.inl (by omega)) hia hib
      have h1' : ((i : Int) < (a.size : Int)) = False := by simp only [eq_iff_iff, iff_false]; omega
      have h12 : (i < a.size) = False := by simp only [eq_iff_iff, iff_false]; omega
      have hd : decide (a.size < b.size) = decide (ltB a b) := by rw [decide_eq_decide, hl]
      replace hd := Lib.hid hd
      replace hl := Lib.hid hl
      clear h1
      go_wp2_with fail
      go_ret
      exact ⟨by show Ending.returned (.bool (decide (a.size < b.size))) = _; rw [hd.out], _, rfl⟩

/-! ### put in order -/
def insB (k : ByteArray) : List ByteArray → List ByteArray
  | [] => [k]
  | x :: l => if ltB x k then x :: insB k l else k :: x :: l
theorem insB_at (k : ByteArray) : ∀ (l : List ByteArray) (i : Nat), i ≤ l.length → (∀ j (h : j < l.length), j < i → ltB l[j] k) → (∀ h : i < l.length, ¬ ltB l[i] k) → insB k l = l.take i ++ k :: l.drop i
  | [], i, hi, _, _ => by simp [insB]
  | x :: l, 0, _, _, h => by
    unfold insB
    rw [if_neg (show ¬ ltB x k from h (by simp))]
    rfl
  | x :: l, i + 1, hi, h1, h2 => by
    unfold insB
    rw [if_pos (show ltB x k from h1 0 (by simp) (by omega)), insB_at k l i (by simpa using hi) (fun j h hj => h1 (j + 1) (by simpa using h) (by omega)) (fun h => h2 (by simpa using h))]
    rfl
theorem insB_perm (k : ByteArray) : ∀ l, (insB k l).Perm (k :: l)
  | [] => List.Perm.refl _
  | x :: l => by
    unfold insB
    split
    · exact ((insB_perm k l).cons x).trans (List.Perm.swap k x l)
    · exact List.Perm.refl _
theorem ltB_irrefl (a : ByteArray) : ¬ ltB a a := List.lt_irrefl _
theorem ltB_trans {a b c : ByteArray} (h : ltB a b) (h' : ltB b c) : ltB a c := List.lt_trans h h'
theorem ltB_total {a b : ByteArray} (h : ¬ ltB a b) (hne : a ≠ b) : ltB b a := by
  unfold ltB at h ⊢
  rcases List.le_total a.data.toList b.data.toList with h1 | h1
  · rcases (List.le_iff_lt_or_eq).1 h1 with h2 | h2
    · exact absurd h2 h
    · exfalso; apply hne; cases a; cases b; simp_all
  · rcases (List.le_iff_lt_or_eq).1 h1 with h2 | h2
    · exact h2
    · exfalso; apply hne; cases a; cases b; simp_all
theorem insB_sorted (k : ByteArray) : ∀ l : List ByteArray, l.Pairwise ltB → k ∉ l → (insB k l).Pairwise ltB
  | [], _, _ => by simp [insB]
  | x :: l, h, hk => by
    rw [List.pairwise_cons] at h
    unfold insB
    split
    · rename_i hx
      rw [List.pairwise_cons]
      refine ⟨fun y hy => ?_, insB_sorted k l h.2 (fun h' => hk (List.mem_cons_of_mem _ h'))⟩
      rcases List.mem_cons.1 ((insB_perm k l).mem_iff.1 hy) with rfl | h'
      · exact hx
      · exact h.1 y h'
    · rename_i hx
      have hkx := ltB_total hx (fun e => hk (by rw [e]; exact List.mem_cons_self))
      rw [List.pairwise_cons, List.pairwise_cons]
      refine ⟨fun y hy => ?_, h⟩
      rcases List.mem_cons.1 hy with rfl | h'
      · exact hkx
      · exact ltB_trans hkx (h.1 y h')
theorem sorted_eq : ∀ (l m : List ByteArray), l.Pairwise ltB → m.Pairwise ltB → l.Perm m → l = m
  | [], m, _, _, h => (List.nil_perm.1 h).symm
  | x :: l, [], _, _, h => absurd h.length_eq (by simp)
  | x :: l, y :: m, hl, hm, h => by
    rw [List.pairwise_cons] at hl hm
    have hxy : x = y := by
      rcases List.mem_cons.1 (h.mem_iff.1 List.mem_cons_self) with h1 | h1
      · exact h1
      · rcases List.mem_cons.1 (h.mem_iff.2 List.mem_cons_self) with h2 | h2
        · exact h2.symm
        · exact absurd (ltB_trans (hl.1 y h2) (hm.1 x h1)) (ltB_irrefl _)
    subst hxy
    rw [sorted_eq l m hl.2 hm.2 ((List.perm_cons x).1 h)]
def sortI (l : List ByteArray) : List ByteArray := l.foldl (fun o k => insB k o) []
theorem fold_ins : ∀ (l o : List ByteArray), o.Pairwise ltB → (o ++ l).Nodup → (l.foldl (fun o k => insB k o) o).Pairwise ltB ∧ (l.foldl (fun o k => insB k o) o).Perm (o ++ l)
  | [], o, h, _ => ⟨h, by simp⟩
  | k :: l, o, h, hn => by
    have hko : k ∉ o := fun hk => by
      rw [List.nodup_append] at hn
      exact hn.2.2 k hk k List.mem_cons_self rfl
    have hp := insB_perm k o
    have hp2 : (insB k o ++ l).Perm (o ++ k :: l) := (hp.append_right l).trans (by rw [List.cons_append]; exact List.perm_middle.symm)
    obtain ⟨h1, h2⟩ := fold_ins l (insB k o) (insB_sorted k o h hko) (hp2.nodup_iff.2 hn)
    exact ⟨h1, h2.trans hp2⟩
theorem sortB_sorted {l : List ByteArray} (h : l.Nodup) : (sortB l).Pairwise ltB := by
  have h1 := List.pairwise_mergeSort (le := fun x y : List UInt8 => decide (x ≤ y)) (fun a b c => by simpa using fun h h' => List.le_trans h h') (fun a b => by simpa using List.le_total a b) (l.map (·.data.toList))
  have hnd : (sortB l).Nodup := (sortB_perm l).nodup_iff.2 h
  unfold sortB at hnd ⊢
  rw [List.pairwise_map]
  unfold List.Nodup at hnd
  rw [List.pairwise_map] at hnd
  refine (h1.and hnd).imp fun {a b} hab => ?_
  obtain ⟨h2, h3⟩ := hab
  unfold ltB
  have h2 : a ≤ b := by simpa using h2
  rcases (List.le_iff_lt_or_eq).1 h2 with h4 | h4
  · simpa using h4
  · exact absurd (by rw [h4]) h3
theorem sortI_eq {l m : List ByteArray} (h : l.Nodup) (hp : l.Perm m) : sortI l = sortB m := by
  obtain ⟨h1, h2⟩ := fold_ins l [] List.Pairwise.nil (by simpa using h)
  exact sorted_eq _ _ h1 (sortB_sorted (hp.nodup_iff.1 h)) ((show (sortI l).Perm l from h2).trans (hp.trans (sortB_perm m).symm))

end Go.Proofs.Ythbjjjcppijcbaa
