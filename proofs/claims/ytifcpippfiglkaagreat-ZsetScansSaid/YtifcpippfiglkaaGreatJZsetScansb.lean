/- Texts joined for ZsetScans: SC3int64, SC4int64. -/
import Derived.Test.YtifcpippfiglkaaGreatJZsetScansa
import Derived.Stop.RegionWithIn
import Derived.Outline
set_option linter.unusedVariables false
set_option linter.unusedSimpArgs false

/- The iterator over the slots of a great table that one of a small table is parted into. -/
namespace Go.Proofs.YtifcpippfiglkaaGreat.Dint64
open Go.RowKit Pal
attribute [local go_sem] Oper.semAt_some

def slF (B1 Bg Bs : Nat) (k : Nat) : Prop := k = B1 ∨ k = Bg ∨ k = Bs
structure slB (B1 Bg Bs : Nat) (s g : Int) (u : Nat) (W : World) : Prop where
  b1 : Blk W B1 24 #[.int .u32 (u : Int)]
  bg : Blk W Bg 3 #[.int .i64 g]
  bs : Blk W Bs 3 #[.int .i64 s]
def slIt0 (a b B1 Bg Bs : Nat) (s g : Int) (r : List (Nat × Nat)) (W : World) : Prop := ∃ u, u < 4294967296 ∧ slB B1 Bg Bs s g u W ∧ r = slotsP a b (pos b u)
def slIt (B1 Bg Bs : Nat) (s g : Int) (_ : List (Nat × Nat)) (W : World) : Prop := ∃ u, slB B1 Bg Bs s g u W
theorem slB.far {B1 Bg Bs u : Nat} {s g : Int} {W W' : World} (h : slB B1 Bg Bs s g u W) (hF : ∀ k, slF B1 Bg Bs k → W'.heap[k]? = W.heap[k]?) : slB B1 Bg Bs s g u W' :=
  ⟨(hF _ (.inl rfl)).trans h.b1, (hF _ (.inr (.inl rfl))).trans h.bg, (hF _ (.inr (.inr rfl))).trans h.bs⟩
def slEnc (x : Nat × Nat) : Array Value := #[.int .i64 (x.1 : Int), .int .u32 (x.2 : Int)]

set_option maxRecDepth 100000 in
set_option maxHeartbeats 2000000 in
theorem slots_spec (a b B1 Bg Bs : Nat) (s g : Int) (hab : a ≤ b) (hb : b ≤ 16) (hs : s = ((2 ^ a : Nat) : Int)) (hg : g = ((2 ^ b : Nat) : Int)) (n1 : B1 ≠ Bg) (n2 : B1 ≠ Bs) :
    IterSpec Tryz.prog 84 #[.pointer (some ⟨B1, 0, none⟩), .pointer (some ⟨Bg, 0, none⟩), .pointer (some ⟨Bs, 0, none⟩)] slEnc (slF B1 Bg Bs) (fun k => k = B1) (slIt0 a b B1 Bg Bs s g) (slIt B1 Bg Bs s g) where
  cells := by
    rintro r W k ⟨u, _, h, _⟩ (rfl | rfl | rfl)
    · exact ⟨_, _, _, h.b1⟩
    · exact ⟨_, _, _, h.bg⟩
    · exact ⟨_, _, _, h.bs⟩
  sub := fun _ h => .inl h
  far0 := by
    rintro r W W' ⟨u, h1, h2, h3⟩ _ hF
    exact ⟨u, h1, h2.far hF, h3⟩
  far := by
    rintro r W W' ⟨u, h⟩ _ hF
    exact ⟨u, h.far hF⟩
  call := by
    intro l I Ix hI hIx hY c0 W h0 hit0
    have hp : (2 : Nat) ^ b ≤ 2 ^ 16 := pow_mono hb
    have h1p : 1 ≤ 2 ^ b := Nat.one_le_two_pow
    have hg1 : 1 ≤ g := by omega
    have hg2 : g ≤ 65536 := by omega
    have hmask := fun w => mask_any g w hg1 hg2
    have hnext := fun c w (hc : c < 4294967296) => next_any c b g w hg hc hb
    have hwithin := fun w => withinC_any a b s g w hab hb hs hg
    refine (callsIn_wide (n := 3)).1 ?_
    refine callsIn_of_wp Tryz.func84 rfl trivial ?_ rfl
    simp only [Tryz.ntmps84, List.size_toArray, List.length_cons, List.length_nil, Nat.reduceAdd, Nat.reduceSub, Array.replicate_succ, Array.replicate_zero, List.push_toArray, List.append_toArray, List.nil_append, List.cons_append]
    gi_wp2
    gi_loopw [5] (fun _ wr => ∃ n, ∃ r : List (Nat × Nat), r.length = n ∧ I r wr ∧ slIt0 a b B1 Bg Bs s g r wr) (fun _ wr => leastOf fun n => ∃ r : List (Nat × Nat), r.length = n ∧ I r wr ∧ slIt0 a b B1 Bg Bs s g r wr)
    case atStart => exact ⟨_, c0, rfl, h0, hit0⟩
    case round =>
      obtain ⟨⟨r, hr, hJr, u, hu, hB, hru⟩, _⟩ := leastOf_spec hrel
      have HR := Lib.hid hr
      have HRU := Lib.hid hru
      have c1 := hB.b1.cell 0
      have cg := hB.bg.cell 0
      have cs := hB.bs.cell 0
      have f1 := hB.b1.frozen 0
      simp only [List.getElem?_toArray, List.getElem?_cons_zero] at c1 cg cs
      have l1 := hB.b1.lt
      have lg := hB.bg.lt
      have ls := hB.bs.lt
      have hat : Hid (wrap64 (bits BinOp.and IntKind.u32 (u : Int) (g - 1)) = ((cur b (pos b u) : Nat) : Int)) := by
        show _ = _
        rw [hg, slot_bits u b hu hb, mod_cur (by omega) hu]
        have := cur_lt b (pos b u) (by omega) (pos_lt (by omega) u)
        exact IntWalk.wrap64_in _ ⟨by omega, by omega⟩
      have hnx : Hid (nextD u b = curW b (pos b u + 1)) := nextD_curW (by omega) u
      clear hr hrel hru hs hg
      gi_wp2
      refine wpIn_wide.2 ?_
      go_quiet ((go_at_call 70; exact Calls.quiet_of_same ((hmask _).mono fun _ _ hh => ⟨hh.1, hh.2.symm⟩)))
      have hdr : Chg (fun _ => False) wr (wr.drewN nq) := (Chg.refl _ wr).drewN nq
      have hB1 := hB.b1.chg hdr id
      gi_wp2_with fail
      refine ⟨trivial, ?_⟩
      refine (callsIn_wide.2 (hnext u _ hu)).mono ?_
      rintro e w' ⟨rfl, rfl⟩
      gi_wp2_with fail
      rw [hat.out, hnx.out]
      have hk1 : pos b u < 2 ^ b := pos_lt (by omega) u
      generalize hk : pos b u = k at *
      have hst : Chg (fun j => j = B1) (wr.drewN nq) ((wr.drewN nq).setCell ⟨B1, 0, none⟩ (.int .u32 (curW b (k + 1) : Int))) := (Chg.refl (fun j => j = B1) _).store rfl 0 _
      have hJ1 : I r ((wr.drewN nq).setCell ⟨B1, 0, none⟩ (.int .u32 (curW b (k + 1) : Int))) := hI _ _ _ (hI _ _ _ hJr (hdr.mono fun _ _ h => h.elim)) hst
      have hB2 : slB B1 Bg Bs s g (curW b (k + 1)) ((wr.drewN nq).setCell ⟨B1, 0, none⟩ (.int .u32 (curW b (k + 1) : Int))) :=
        ⟨hB1.set 0 _, (hB.bg.chg hdr id).chg hst (fun h => n1 h.symm), (hB.bs.chg hdr id).chg hst (fun h => n2 h.symm)⟩
      generalize (wr.drewN nq).setCell ⟨B1, 0, none⟩ (.int .u32 (curW b (k + 1) : Int)) = W1 at hst hJ1 hB2 ⊢
      clear c1 cg cs f1 l1 lg ls hB1 hB hJr hat hnx hu
      have hru := HRU.out
      rw [slotsP_cons] at hru
      have hkk := low_curW hab (by omega : b ≤ 32) (show k + 1 ≤ 2 ^ b by omega)
      have hpu : ¬ (k + 1) % 2 ^ (b - a) = 0 → pos b (curW b (k + 1)) = k + 1 := fun hz => by
        refine pos_curW (by omega) ?_
        rcases Nat.lt_or_ge (k + 1) (2 ^ b) with h' | h'
        · exact h'
        · have e : k + 1 = 2 ^ b := by omega
          rw [e, pow_up hab, Nat.mul_mod_left] at hz
          exact absurd rfl hz
      have hwz := within_zero (a := a) (b := b) (c := curW b (k + 1)) hab
      rw [Nat.mod_eq_of_lt (curW_lt (by omega) (by omega)), hkk] at hwz
      have hba : Hid (bits BinOp.and IntKind.u32 (curW b (k + 1) : Int) ((2 ^ b - 2 ^ a : Nat) : Int) = ((curW b (k + 1) &&& (2 ^ b - 2 ^ a) : Nat) : Int)) := u32_and_nat _ _ (curW_lt32 _ _) (Nat.lt_of_le_of_lt (Nat.sub_le _ _) (by omega))
      obtain ⟨rest, hrest⟩ : ∃ rest, (if (k + 1) % 2 ^ (b - a) = 0 then [] else slotsP a b (k + 1)) = rest := ⟨_, rfl⟩
      rw [hrest] at hru
      have HREST := Lib.hid hrest
      have HRU2 := Lib.hid hru
      rw [hru] at hJ1
      have hIt1 : slIt B1 Bg Bs s g ((cur b k, curW b (k + 1)) :: rest) W1.drew := ⟨_, hB2.b1, hB2.bg, hB2.bs⟩
      have hJd : I ((cur b k, curW b (k + 1)) :: rest) W1.drew := hI _ _ _ hJ1 ((Chg.refl _ W1).drew)
      obtain ⟨fn, tmps, assign, body, hy, hR⟩ := hY _ _ _ hJd hIt1
      have hu' : curW b (k + 1) < 4294967296 := curW_lt32 _ _
      have hlb : curW b (k + 1) < 2 ^ b := curW_lt (by omega) (by omega)
      generalize hq : curW b (k + 1) = u' at *
      generalize cur b k = at' at *
      have d1 := hB2.b1.drew.cell 0
      simp only [List.getElem?_toArray, List.getElem?_cons_zero] at d1
      simp only [slEnc] at hy
      clear hru hrest hk hk1 hst hdr hJd hIt1 hJ1
      refine wpIn_region_any (by kernel_rfl) ?_
      change wpAnyIn _ _ _ _ _ _ _ _ _ (World.drew _)
      simp only [List.size_toArray, List.length_cons, List.length_nil, Nat.reduceAdd, Array.replicate_succ, Array.replicate_zero, List.push_toArray, List.nil_append, List.cons_append]
      refine wpAnyIn_take (i := 0) (v := .func (.yield l) #[] #[]) rfl rfl (by kernel_rfl) (by kernel_rfl) (by kernel_rfl) (fun _ _ _ h => h) ⟨Or.inl ⟨by rfl, ?_⟩, fun _ => rfl⟩ ?_
      · intro w; go_simp
      refine wpAnyIn_take (i := 1) (v := .int .i64 (at' : Int)) rfl rfl (by kernel_rfl) (by kernel_rfl) (by kernel_rfl) (fun _ _ _ h => h) ⟨Or.inl ⟨by rfl, ?_⟩, fun _ => rfl⟩ ?_
      · intro w; go_simp
      refine wpAnyIn_ready (rs := [2]) (by kernel_rfl) (by simp) (AllReadyIn.cons rfl (fun K hK => ?_) AllReadyIn.nil)
      go_simp
      refine hK _ _ ?_
      clear hK K
      refine wpAnyIn_ready (rs := [3]) (by kernel_rfl) (by simp) (AllReadyIn.cons rfl (fun K hK => ?_) AllReadyIn.nil)
      go_simp
      refine hR.mono ?_
      rintro e W3 ⟨hsz, hF, ⟨rfl, hJ3⟩ | ⟨rfl, hx3⟩⟩
      · refine hK _ _ ?_
        clear hK K
        have hB3 := hB2.far (W' := W3) (fun k hk => hF k hk)
        have e1 := hB3.b1.cell 0
        have eg := hB3.bg.cell 0
        have es := hB3.bs.cell 0
        simp only [List.getElem?_toArray, List.getElem?_cons_zero] at e1 eg es
        repeat' (first
          | (refine wpAnyIn_done ?_ ?_ _; decide +kernel)
          | (refine wpAnyIn_ready (rs := [4]) ?_ ?_ ?_; decide +kernel; simp; refine (AllReadyIn.cons rfl (fun K hK => ?_) AllReadyIn.nil) <;> (go_simp; first | (refine hK _ _ ?_; clear hK K) | (refine ⟨trivial, ?_⟩; refine hK _ _ ?_; clear hK K) | (refine ⟨trivial, ?_⟩; refine (callsIn_wide.2 (hwithin _)).mono ?_; rintro e w' ⟨rfl, rfl⟩; refine hK _ _ ?_; clear hK K)))
          | (refine wpAnyIn_ready (rs := [5]) ?_ ?_ ?_; decide +kernel; simp; refine (AllReadyIn.cons rfl (fun K hK => ?_) AllReadyIn.nil) <;> (go_simp; first | (refine hK _ _ ?_; clear hK K) | (refine ⟨trivial, ?_⟩; refine hK _ _ ?_; clear hK K) | (refine ⟨trivial, ?_⟩; refine (callsIn_wide.2 (hwithin _)).mono ?_; rintro e w' ⟨rfl, rfl⟩; refine hK _ _ ?_; clear hK K)))
          | (refine wpAnyIn_ready (rs := [6, 7, 8]) ?_ ?_ ?_; decide +kernel; simp; refine (AllReadyIn.cons rfl (fun K hK => ?_) (AllReadyIn.cons rfl (fun K hK => ?_) (AllReadyIn.cons rfl (fun K hK => ?_) AllReadyIn.nil))) <;> (go_simp; first | (refine hK _ _ ?_; clear hK K) | (refine ⟨trivial, ?_⟩; refine hK _ _ ?_; clear hK K) | (refine ⟨trivial, ?_⟩; refine (callsIn_wide.2 (hwithin _)).mono ?_; rintro e w' ⟨rfl, rfl⟩; refine hK _ _ ?_; clear hK K)))
          | (refine wpAnyIn_ready (rs := [7, 8]) ?_ ?_ ?_; decide +kernel; simp; refine (AllReadyIn.cons rfl (fun K hK => ?_) (AllReadyIn.cons rfl (fun K hK => ?_) AllReadyIn.nil)) <;> (go_simp; first | (refine hK _ _ ?_; clear hK K) | (refine ⟨trivial, ?_⟩; refine hK _ _ ?_; clear hK K) | (refine ⟨trivial, ?_⟩; refine (callsIn_wide.2 (hwithin _)).mono ?_; rintro e w' ⟨rfl, rfl⟩; refine hK _ _ ?_; clear hK K)))
          | (refine wpAnyIn_ready (rs := [6, 8]) ?_ ?_ ?_; decide +kernel; simp; refine (AllReadyIn.cons rfl (fun K hK => ?_) (AllReadyIn.cons rfl (fun K hK => ?_) AllReadyIn.nil)) <;> (go_simp; first | (refine hK _ _ ?_; clear hK K) | (refine ⟨trivial, ?_⟩; refine hK _ _ ?_; clear hK K) | (refine ⟨trivial, ?_⟩; refine (callsIn_wide.2 (hwithin _)).mono ?_; rintro e w' ⟨rfl, rfl⟩; refine hK _ _ ?_; clear hK K)))
          | (refine wpAnyIn_ready (rs := [6, 7]) ?_ ?_ ?_; decide +kernel; simp; refine (AllReadyIn.cons rfl (fun K hK => ?_) (AllReadyIn.cons rfl (fun K hK => ?_) AllReadyIn.nil)) <;> (go_simp; first | (refine hK _ _ ?_; clear hK K) | (refine ⟨trivial, ?_⟩; refine hK _ _ ?_; clear hK K) | (refine ⟨trivial, ?_⟩; refine (callsIn_wide.2 (hwithin _)).mono ?_; rintro e w' ⟨rfl, rfl⟩; refine hK _ _ ?_; clear hK K)))
          | (refine wpAnyIn_ready (rs := [6, 9]) ?_ ?_ ?_; decide +kernel; simp; refine (AllReadyIn.cons rfl (fun K hK => ?_) (AllReadyIn.cons rfl (fun K hK => ?_) AllReadyIn.nil)) <;> (go_simp; first | (refine hK _ _ ?_; clear hK K) | (refine ⟨trivial, ?_⟩; refine hK _ _ ?_; clear hK K) | (refine ⟨trivial, ?_⟩; refine (callsIn_wide.2 (hwithin _)).mono ?_; rintro e w' ⟨rfl, rfl⟩; refine hK _ _ ?_; clear hK K)))
          | (refine wpAnyIn_ready (rs := [6]) ?_ ?_ ?_; decide +kernel; simp; refine (AllReadyIn.cons rfl (fun K hK => ?_) AllReadyIn.nil) <;> (go_simp; first | (refine hK _ _ ?_; clear hK K) | (refine ⟨trivial, ?_⟩; refine hK _ _ ?_; clear hK K) | (refine ⟨trivial, ?_⟩; refine (callsIn_wide.2 (hwithin _)).mono ?_; rintro e w' ⟨rfl, rfl⟩; refine hK _ _ ?_; clear hK K)))
          | (refine wpAnyIn_ready (rs := [7]) ?_ ?_ ?_; decide +kernel; simp; refine (AllReadyIn.cons rfl (fun K hK => ?_) AllReadyIn.nil) <;> (go_simp; first | (refine hK _ _ ?_; clear hK K) | (refine ⟨trivial, ?_⟩; refine hK _ _ ?_; clear hK K) | (refine ⟨trivial, ?_⟩; refine (callsIn_wide.2 (hwithin _)).mono ?_; rintro e w' ⟨rfl, rfl⟩; refine hK _ _ ?_; clear hK K)))
          | (refine wpAnyIn_ready (rs := [8]) ?_ ?_ ?_; decide +kernel; simp; refine (AllReadyIn.cons rfl (fun K hK => ?_) AllReadyIn.nil) <;> (go_simp; first | (refine hK _ _ ?_; clear hK K) | (refine ⟨trivial, ?_⟩; refine hK _ _ ?_; clear hK K) | (refine ⟨trivial, ?_⟩; refine (callsIn_wide.2 (hwithin _)).mono ?_; rintro e w' ⟨rfl, rfl⟩; refine hK _ _ ?_; clear hK K)))
          | (refine wpAnyIn_ready (rs := [9]) ?_ ?_ ?_; decide +kernel; simp; refine (AllReadyIn.cons rfl (fun K hK => ?_) AllReadyIn.nil) <;> (go_simp; first | (refine hK _ _ ?_; clear hK K) | (refine ⟨trivial, ?_⟩; refine hK _ _ ?_; clear hK K) | (refine ⟨trivial, ?_⟩; refine (callsIn_wide.2 (hwithin _)).mono ?_; rintro e w' ⟨rfl, rfl⟩; refine hK _ _ ?_; clear hK K)))
          | (refine wpAnyIn_ready (rs := [10]) ?_ ?_ ?_; decide +kernel; simp; refine (AllReadyIn.cons rfl (fun K hK => ?_) AllReadyIn.nil) <;> (go_simp; first | (refine hK _ _ ?_; clear hK K) | (refine ⟨trivial, ?_⟩; refine hK _ _ ?_; clear hK K) | (refine ⟨trivial, ?_⟩; refine (callsIn_wide.2 (hwithin _)).mono ?_; rintro e w' ⟨rfl, rfl⟩; refine hK _ _ ?_; clear hK K)))
          | (refine wpAnyIn_ready (rs := [11]) ?_ ?_ ?_; decide +kernel; simp; refine (AllReadyIn.cons rfl (fun K hK => ?_) AllReadyIn.nil) <;> (go_simp; first | (refine hK _ _ ?_; clear hK K) | (refine ⟨trivial, ?_⟩; refine hK _ _ ?_; clear hK K) | (refine ⟨trivial, ?_⟩; refine (callsIn_wide.2 (hwithin _)).mono ?_; rintro e w' ⟨rfl, rfl⟩; refine hK _ _ ?_; clear hK K)))
          | (refine wpAnyIn_ready (rs := [12]) ?_ ?_ ?_; decide +kernel; simp; refine (AllReadyIn.cons rfl (fun K hK => ?_) AllReadyIn.nil) <;> (go_simp; first | (refine hK _ _ ?_; clear hK K) | (refine ⟨trivial, ?_⟩; refine hK _ _ ?_; clear hK K) | (refine ⟨trivial, ?_⟩; refine (callsIn_wide.2 (hwithin _)).mono ?_; rintro e w' ⟨rfl, rfl⟩; refine hK _ _ ?_; clear hK K))))
        all_goals
          rw [hba.out]
          by_cases hz : (k + 1) % 2 ^ (b - a) = 0
          · have hr0 := HREST.out
            rw [if_pos hz] at hr0
            rw [hwz.2 hz]
            subst hr0
            gi_wp2
            refine bodyPost_ret (results_none rfl _ _ _) rfl ?_
            exact ⟨⟨_, rfl⟩, .inl hJ3⟩
          · have hr0 := HREST.out
            rw [if_neg hz] at hr0
            have hwne : (((u' &&& (2 ^ b - 2 ^ a) : Nat) : Int) == 0) = false := by
              rw [beq_eq_false_iff_ne]
              intro e
              exact hz (hwz.1 (by omega))
            rw [hwne]
            have HPU := Lib.hid (hpu hz)
            have HR0 := Lib.hid hr0
            clear hpu hr0 hwz hwne hba
            have hIt3 : slIt0 a b B1 Bg Bs s g rest W3 := ⟨u', hu', hB3, by rw [HPU.out]; exact HR0.out.symm⟩
            gi_wp2
            go_roundw
            case rel => exact ⟨_, rest, rfl, hJ3, hIt3⟩
            case measure =>
              rw [← HR.out]
              refine Nat.lt_of_le_of_lt ((leastOf_spec ⟨_, rest, rfl, hJ3, hIt3⟩).2 _ ⟨rest, rfl, hJ3, hIt3⟩) ?_
              rw [HRU2.out]
              exact Nat.lt_succ_self _
      · refine hK _ _ ?_
        clear hK K
        have hB3 := hB2.far (W' := W3) (fun k hk => hF k hk)
        have e1 := hB3.b1.cell 0
        have eg := hB3.bg.cell 0
        have es := hB3.bs.cell 0
        simp only [List.getElem?_toArray, List.getElem?_cons_zero] at e1 eg es
        repeat' (first
          | (refine wpAnyIn_done ?_ ?_ _; decide +kernel)
          | (refine wpAnyIn_ready (rs := [4]) ?_ ?_ ?_; decide +kernel; simp; refine (AllReadyIn.cons rfl (fun K hK => ?_) AllReadyIn.nil) <;> (go_simp; first | (refine hK _ _ ?_; clear hK K) | (refine ⟨trivial, ?_⟩; refine hK _ _ ?_; clear hK K) | (refine ⟨trivial, ?_⟩; refine (callsIn_wide.2 (hwithin _)).mono ?_; rintro e w' ⟨rfl, rfl⟩; refine hK _ _ ?_; clear hK K)))
          | (refine wpAnyIn_ready (rs := [5]) ?_ ?_ ?_; decide +kernel; simp; refine (AllReadyIn.cons rfl (fun K hK => ?_) AllReadyIn.nil) <;> (go_simp; first | (refine hK _ _ ?_; clear hK K) | (refine ⟨trivial, ?_⟩; refine hK _ _ ?_; clear hK K) | (refine ⟨trivial, ?_⟩; refine (callsIn_wide.2 (hwithin _)).mono ?_; rintro e w' ⟨rfl, rfl⟩; refine hK _ _ ?_; clear hK K)))
          | (refine wpAnyIn_ready (rs := [6, 7, 8]) ?_ ?_ ?_; decide +kernel; simp; refine (AllReadyIn.cons rfl (fun K hK => ?_) (AllReadyIn.cons rfl (fun K hK => ?_) (AllReadyIn.cons rfl (fun K hK => ?_) AllReadyIn.nil))) <;> (go_simp; first | (refine hK _ _ ?_; clear hK K) | (refine ⟨trivial, ?_⟩; refine hK _ _ ?_; clear hK K) | (refine ⟨trivial, ?_⟩; refine (callsIn_wide.2 (hwithin _)).mono ?_; rintro e w' ⟨rfl, rfl⟩; refine hK _ _ ?_; clear hK K)))
          | (refine wpAnyIn_ready (rs := [7, 8]) ?_ ?_ ?_; decide +kernel; simp; refine (AllReadyIn.cons rfl (fun K hK => ?_) (AllReadyIn.cons rfl (fun K hK => ?_) AllReadyIn.nil)) <;> (go_simp; first | (refine hK _ _ ?_; clear hK K) | (refine ⟨trivial, ?_⟩; refine hK _ _ ?_; clear hK K) | (refine ⟨trivial, ?_⟩; refine (callsIn_wide.2 (hwithin _)).mono ?_; rintro e w' ⟨rfl, rfl⟩; refine hK _ _ ?_; clear hK K)))
          | (refine wpAnyIn_ready (rs := [6, 8]) ?_ ?_ ?_; decide +kernel; simp; refine (AllReadyIn.cons rfl (fun K hK => ?_) (AllReadyIn.cons rfl (fun K hK => ?_) AllReadyIn.nil)) <;> (go_simp; first | (refine hK _ _ ?_; clear hK K) | (refine ⟨trivial, ?_⟩; refine hK _ _ ?_; clear hK K) | (refine ⟨trivial, ?_⟩; refine (callsIn_wide.2 (hwithin _)).mono ?_; rintro e w' ⟨rfl, rfl⟩; refine hK _ _ ?_; clear hK K)))
          | (refine wpAnyIn_ready (rs := [6, 7]) ?_ ?_ ?_; decide +kernel; simp; refine (AllReadyIn.cons rfl (fun K hK => ?_) (AllReadyIn.cons rfl (fun K hK => ?_) AllReadyIn.nil)) <;> (go_simp; first | (refine hK _ _ ?_; clear hK K) | (refine ⟨trivial, ?_⟩; refine hK _ _ ?_; clear hK K) | (refine ⟨trivial, ?_⟩; refine (callsIn_wide.2 (hwithin _)).mono ?_; rintro e w' ⟨rfl, rfl⟩; refine hK _ _ ?_; clear hK K)))
          | (refine wpAnyIn_ready (rs := [6, 9]) ?_ ?_ ?_; decide +kernel; simp; refine (AllReadyIn.cons rfl (fun K hK => ?_) (AllReadyIn.cons rfl (fun K hK => ?_) AllReadyIn.nil)) <;> (go_simp; first | (refine hK _ _ ?_; clear hK K) | (refine ⟨trivial, ?_⟩; refine hK _ _ ?_; clear hK K) | (refine ⟨trivial, ?_⟩; refine (callsIn_wide.2 (hwithin _)).mono ?_; rintro e w' ⟨rfl, rfl⟩; refine hK _ _ ?_; clear hK K)))
          | (refine wpAnyIn_ready (rs := [6]) ?_ ?_ ?_; decide +kernel; simp; refine (AllReadyIn.cons rfl (fun K hK => ?_) AllReadyIn.nil) <;> (go_simp; first | (refine hK _ _ ?_; clear hK K) | (refine ⟨trivial, ?_⟩; refine hK _ _ ?_; clear hK K) | (refine ⟨trivial, ?_⟩; refine (callsIn_wide.2 (hwithin _)).mono ?_; rintro e w' ⟨rfl, rfl⟩; refine hK _ _ ?_; clear hK K)))
          | (refine wpAnyIn_ready (rs := [7]) ?_ ?_ ?_; decide +kernel; simp; refine (AllReadyIn.cons rfl (fun K hK => ?_) AllReadyIn.nil) <;> (go_simp; first | (refine hK _ _ ?_; clear hK K) | (refine ⟨trivial, ?_⟩; refine hK _ _ ?_; clear hK K) | (refine ⟨trivial, ?_⟩; refine (callsIn_wide.2 (hwithin _)).mono ?_; rintro e w' ⟨rfl, rfl⟩; refine hK _ _ ?_; clear hK K)))
          | (refine wpAnyIn_ready (rs := [8]) ?_ ?_ ?_; decide +kernel; simp; refine (AllReadyIn.cons rfl (fun K hK => ?_) AllReadyIn.nil) <;> (go_simp; first | (refine hK _ _ ?_; clear hK K) | (refine ⟨trivial, ?_⟩; refine hK _ _ ?_; clear hK K) | (refine ⟨trivial, ?_⟩; refine (callsIn_wide.2 (hwithin _)).mono ?_; rintro e w' ⟨rfl, rfl⟩; refine hK _ _ ?_; clear hK K)))
          | (refine wpAnyIn_ready (rs := [9]) ?_ ?_ ?_; decide +kernel; simp; refine (AllReadyIn.cons rfl (fun K hK => ?_) AllReadyIn.nil) <;> (go_simp; first | (refine hK _ _ ?_; clear hK K) | (refine ⟨trivial, ?_⟩; refine hK _ _ ?_; clear hK K) | (refine ⟨trivial, ?_⟩; refine (callsIn_wide.2 (hwithin _)).mono ?_; rintro e w' ⟨rfl, rfl⟩; refine hK _ _ ?_; clear hK K)))
          | (refine wpAnyIn_ready (rs := [10]) ?_ ?_ ?_; decide +kernel; simp; refine (AllReadyIn.cons rfl (fun K hK => ?_) AllReadyIn.nil) <;> (go_simp; first | (refine hK _ _ ?_; clear hK K) | (refine ⟨trivial, ?_⟩; refine hK _ _ ?_; clear hK K) | (refine ⟨trivial, ?_⟩; refine (callsIn_wide.2 (hwithin _)).mono ?_; rintro e w' ⟨rfl, rfl⟩; refine hK _ _ ?_; clear hK K)))
          | (refine wpAnyIn_ready (rs := [11]) ?_ ?_ ?_; decide +kernel; simp; refine (AllReadyIn.cons rfl (fun K hK => ?_) AllReadyIn.nil) <;> (go_simp; first | (refine hK _ _ ?_; clear hK K) | (refine ⟨trivial, ?_⟩; refine hK _ _ ?_; clear hK K) | (refine ⟨trivial, ?_⟩; refine (callsIn_wide.2 (hwithin _)).mono ?_; rintro e w' ⟨rfl, rfl⟩; refine hK _ _ ?_; clear hK K)))
          | (refine wpAnyIn_ready (rs := [12]) ?_ ?_ ?_; decide +kernel; simp; refine (AllReadyIn.cons rfl (fun K hK => ?_) AllReadyIn.nil) <;> (go_simp; first | (refine hK _ _ ?_; clear hK K) | (refine ⟨trivial, ?_⟩; refine hK _ _ ?_; clear hK K) | (refine ⟨trivial, ?_⟩; refine (callsIn_wide.2 (hwithin _)).mono ?_; rintro e w' ⟨rfl, rfl⟩; refine hK _ _ ?_; clear hK K))))
        all_goals
          gi_wp2
          refine bodyPost_ret (results_none rfl _ _ _) rfl ?_
          exact ⟨⟨_, rfl⟩, .inr hx3⟩
end Go.Proofs.YtifcpippfiglkaaGreat.Dint64

/- Scan of a dict that is not moving. -/
namespace Go.Proofs.YtifcpippfiglkaaGreat.Dint64
open Go.RowKit Pal
attribute [local go_sem] Oper.semAt_some

theorem tab0_len (d : Dm) : tabLen d 0 = d.t0.len := rfl
theorem slot_in {a c : Nat} : c % 2 ^ a < 2 ^ a := Nat.mod_lt _ Nat.one_le_two_pow

set_option maxRecDepth 100000 in
set_option maxHeartbeats 2000000 in
theorem Scan_still (d : Dm) (a c : Nat) (w : World) (h : DmAt w d) (hok : d.Ok) (hn : d.n < 1000000) (ht : d.t1 = none) (ha : d.t0.len = 2 ^ a) (ha16 : a ≤ 16) (hc : c < 4294967296) :
    Calls Tryz.prog 50 #[ptr d.blk, .int .u32 (c : Int)] w fun e w' => (∃ v, e = .returned (.tuple #[v, .int .u32 (curW a (pos a c + 1) : Int)]) ∧ Strs w' w.heap.size v (keysAt d 0 (c % 2 ^ a))) ∧ Chg (fun _ => False) w w' := by
  have hbx : Blk (w.alloc (.cells #[ptr d.blk] 96)) w.heap.size 96 #[ptr d.blk] := Blk.new w _ _
  have hc0 : Chg (fun _ => False) w (w.alloc (.cells #[ptr d.blk] 96)) := (Chg.refl _ w).alloc _
  have hz := Sizes_any d _ (h.chg0 hc0)
  rw [ht, ha] at hz
  have h1p : 1 ≤ 2 ^ a := Nat.one_le_two_pow
  have hp : (2 : Nat) ^ a ≤ 2 ^ 16 := pow_mono ha16
  obtain ⟨g, hg⟩ : ∃ g : Int, g = ((2 ^ a : Nat) : Int) := ⟨_, rfl⟩
  have hg1 : 1 ≤ g := by omega
  have hg2 : g ≤ 65536 := by omega
  have hg0 : (g == 0) = false := by rw [beq_eq_false_iff_ne]; omega
  have hmask := fun w => mask_any g w hg1 hg2
  have hnext := fun w => next_any c a g w hg hc ha16
  have hga := fun B W (hC : Chg (fun _ => False) w W) hB hBl => gathered_any d 0 (c % 2 ^ a) B W (h.chg0 hC) hok (by omega) (by rw [tab0_len, ha]; exact slot_in) hn hB hBl
  have hat : Hid (IntKind.i64.wrap (bits BinOp.and IntKind.u32 (c : Int) (g - 1)) = ((c % 2 ^ a : Nat) : Int)) := by
    show _ = _
    rw [hg, slot_bits c a hc ha16]
    have := slot_in (a := a) (c := c)
    exact IntWalk.i64_in _ ⟨by omega, by omega⟩
  have hnx : Hid (nextD c a = curW a (pos a c + 1)) := nextD_curW (by omega) c
  rw [← hg] at hz
  simp only [Option.map_none, Option.getD_none] at hz
  clear ht ha hg
  generalize c % 2 ^ a = si at *
  unfold ptr at *
  go_enter Tryz.func50, Tryz.ntmps50
  go_wp2_with fail
  refine hz.mono ?_
  rintro e w1 ⟨rfl, hc1⟩
  have hb1 := hbx.chg hc1 id
  have hC1 := hc0.trans hc1
  have k0 := hb1.cell 0
  simp only [List.getElem?_toArray, List.getElem?_cons_zero] at k0
  have l0 := hb1.lt
  clear hz hbx hc0 hc1
  go_wp2_with fail
  refine wp_region_heldF 12 (fun W => Blk W w.heap.size 96 #[.pointer (some ⟨d.blk, 0, none⟩)]) (by kernel_rfl) ?_
  simp only [List.size_toArray, List.length_cons, List.length_nil, Nat.reduceAdd, Array.replicate_succ, Array.replicate_zero, List.push_toArray, List.nil_append, List.cons_append]
  refine wpAnyF_take 0 (v := .pointer (some ⟨d.blk, 0, none⟩)) rfl (by kernel_rfl) (by kernel_rfl) (by kernel_rfl) (by kernel_rfl) (fun _ _ _ h => h) hb1.drew (by rfl) ?_ ?_
  · intro W hS
    have k := hS.cell 0
    simp only [List.getElem?_toArray, List.getElem?_cons_zero] at k
    go_simp
  refine wpAnyF_take 1 (v := .int .u32 (c : Int)) rfl (by kernel_rfl) (by kernel_rfl) (by kernel_rfl) (by kernel_rfl) (fun _ _ _ h => h) hb1.drew (by rfl) ?_ ?_
  · intro W hS
    go_simp
  refine wpAnyF_take 2 (v := .int .i64 g) rfl (by kernel_rfl) (by kernel_rfl) (by kernel_rfl) (by kernel_rfl) (fun _ _ _ h => h) hb1.drew (by rfl) ?_ ?_
  · intro W hS
    go_simp
  refine wpAnyF_take 8 (v := .int .u32 (c : Int)) rfl (by kernel_rfl) (by kernel_rfl) (by kernel_rfl) (by kernel_rfl) (fun _ _ _ h => h) hb1.drew (by rfl) ?_ ?_
  · intro W hS
    go_simp
  refine wpAnyF_take 9 (v := .int .i64 g) rfl (by kernel_rfl) (by kernel_rfl) (by kernel_rfl) (by kernel_rfl) (fun _ _ _ h => h) hb1.drew (by rfl) ?_ ?_
  · intro W hS
    go_simp
  refine wpAnyF_one 3 (by kernel_rfl) rfl (fun K hK => ?_)
  go_simp
  refine (hmask _).mono ?_
  rintro e w' ⟨rfl, rfl⟩
  refine hK _ _ (fun _ => hb1.drew) ?_
  clear hK K
  refine wpAnyF_take 4 (v := .int .u32 (bits BinOp.and IntKind.u32 (c : Int) (g - 1))) rfl (by kernel_rfl) (by kernel_rfl) (by kernel_rfl) (by kernel_rfl) (fun _ _ _ h => h) hb1.drew (by rfl) ?_ ?_
  · intro W hS
    go_simp
  refine wpAnyF_take 5 (v := .int .i64 (IntKind.i64.wrap (bits BinOp.and IntKind.u32 (c : Int) (g - 1)))) rfl (by kernel_rfl) (by kernel_rfl) (by kernel_rfl) (by kernel_rfl) (fun _ _ _ h => h) hb1.drew (by rfl) ?_ ?_
  · intro W hS
    go_simp
  rw [hat.out]
  refine wpAnyF_one 6 (by kernel_rfl) rfl (fun K hK => ?_)
  go_simp
  have hcA : Chg (fun _ => False) w1 (w1.alloc (Obj.cells #[Value.int IntKind.i64 (si : Int)] 3)).drew := ((Chg.refl _ w1).alloc _).drew
  have hbA : Blk (w1.alloc (Obj.cells #[Value.int IntKind.i64 (si : Int)] 3)).drew w1.heap.size 3 #[.int .i64 (si : Int)] := (Blk.new w1 _ _).drew
  refine hK _ _ (fun _ => hb1.chg hcA id) ?_
  clear hK K
  refine wpAnyF_one 7 (by kernel_rfl) rfl (fun K hK => ?_)
  go_simp
  refine (hga _ _ (hC1.trans hcA) (hbA.cell 0) hbA.lt).mono ?_
  rintro e W2 ⟨⟨v, rfl, hs⟩, hc2⟩
  refine hK _ _ (fun _ => (hb1.chg hcA id).chg hc2 id) ?_
  clear hK K
  refine wpAnyF_one 10 (by kernel_rfl) rfl (fun K hK => ?_)
  go_simp
  refine (hnext _).mono ?_
  rintro e w' ⟨rfl, rfl⟩
  refine hK _ _ (fun _ => (hb1.chg hcA id).chg hc2 id) ?_
  clear hK K
  refine wpAnyF_one 11 (by kernel_rfl) rfl (fun K hK => ?_)
  go_simp
  refine hK _ _ (fun _ => (hb1.chg hcA id).chg hc2 id) ?_
  clear hK K
  refine wpAnyF_one 12 (by kernel_rfl) rfl (fun K hK => ?_)
  go_simp
  refine hK _ _ (fun h => absurd rfl h) ?_
  clear hK K
  refine wpAnyF_done (by kernel_rfl) ?_ _
  rw [hnx.out]
  go_wp2_with fail
  go_ret2
  exact ⟨⟨v, rfl, hs.lower (Nat.le_trans hC1.size hcA.size)⟩, (hC1.trans hcA).trans hc2⟩

end Go.Proofs.YtifcpippfiglkaaGreat.Dint64
