/- Which keys a scan tells. -/
import Derived.Test.YthbjjjcppijcbaaSPint
namespace Go.Proofs.Ythbjjjcppijcbaa.Dint
open Go.RowKit Pal

theorem scan_perm {d : Dm} (hok : d.Ok) (c : Nat) (hc : c < 4294967296) :
    ∃ ns ng : List Nd, d.nodes.Perm (ns ++ ng) ∧ (scanL d c).Perm ((ns.filter (fun x => decide (pos (scanA d) x.sum = pos (scanA d) c)) ++ ng.filter (fun x => decide (pos (scanA d) x.sum = pos (scanA d) c ∧ pos (scanB d) c ≤ pos (scanB d) x.sum))).map (·.key)) := by
  cases ht : d.t1 with
  | none =>
    obtain ⟨h1, h2, h3⟩ := scan_none hok ht
    refine ⟨d.t0.nodes, [], ?_, ?_⟩
    · unfold Dm.nodes Dm.nodes1; rw [ht]
    · have e : scanL d c = keysAt d 0 (c % 2 ^ scanA d) := by unfold scanL; rw [ht]
      rw [e, List.filter_nil, List.append_nil, mod_cur (by omega) hc, ← at_pos (by omega) h1 hok.in0 (fun x hx => hok.sum_lt (mem_nodes0 hx)) (pos_lt (by omega) c)]
      exact keysAt_perm (tab0 d)
  | some t =>
    obtain ⟨h2, hab, h16, hcase⟩ := scan_some hok ht
    have e : scanL d c = keysAt d (scanT d) (c % 2 ^ scanA d) ++ (slotsP (scanA d) (scanB d) (pos (scanB d) c)).flatMap fun x => keysAt d (1 - scanT d) x.1 := by unfold scanL; rw [ht]
    rw [e, mod_cur (by omega) hc]
    have key : ∀ (s g : Tb), d.tab (scanT d) = some s → d.tab (1 - scanT d) = some g → s.len = 2 ^ scanA d → g.len = 2 ^ scanB d →
        (keysAt d (scanT d) (cur (scanA d) (pos (scanA d) c)) ++ (slotsP (scanA d) (scanB d) (pos (scanB d) c)).flatMap fun x => keysAt d (1 - scanT d) x.1).Perm
          ((s.nodes.filter (fun x => decide (pos (scanA d) x.sum = pos (scanA d) c)) ++ g.nodes.filter (fun x => decide (pos (scanA d) x.sum = pos (scanA d) c ∧ pos (scanB d) c ≤ pos (scanB d) x.sum))).map (·.key)) := by
      intro s g hs hg ls lg
      obtain ⟨_, ins, ms⟩ := tab_ok hok hs
      obtain ⟨_, ing, mg⟩ := tab_ok hok hg
      rw [List.map_append]
      refine List.Perm.append ?_ ?_
      · rw [← at_pos (by omega) ls ins (fun x hx => hok.sum_lt (ms x hx)) (pos_lt (by omega) c)]
        exact keysAt_perm hs
      · refine (flatMap_perm _ (g := fun x : Nat × Nat => (g.at x.1).map (·.key)) fun x _ => keysAt_perm hg).trans ?_
        rw [← List.map_flatMap]
        have := slotsP_perm (k := pos (scanB d) c) hab (by omega : scanB d ≤ 32) (pos_lt (by omega) c) lg ing (fun x hx => hok.sum_lt (mg x hx))
        rw [← pos_down hab (by omega)] at this
        exact this.map _
    rcases hcase with ⟨e1, l0, l1⟩ | ⟨e1, l1, l0, _⟩
    · refine ⟨d.t0.nodes, t.nodes, ?_, ?_⟩
      · unfold Dm.nodes Dm.nodes1; rw [ht]
      · exact key d.t0 t (by rw [e1]; rfl) (by rw [e1]; exact ht) l0 l1
    · refine ⟨t.nodes, d.t0.nodes, ?_, ?_⟩
      · unfold Dm.nodes Dm.nodes1; rw [ht]; exact List.perm_append_comm
      · exact key t d.t0 (by rw [e1]; exact ht) (by rw [e1]; rfl) l1 l0

/-- A told key is there. -/
theorem scan_mem {d : Dm} (hok : d.Ok) {c : Nat} (hc : c < 4294967296) {k : ByteArray} (h : k ∈ scanL d c) : ∃ x ∈ d.nodes, x.key = k := by
  obtain ⟨ns, ng, h1, h2⟩ := scan_perm hok c hc
  obtain ⟨x, hx, rfl⟩ := List.mem_map.1 (h2.mem_iff.1 h)
  refine ⟨x, h1.mem_iff.2 ?_, rfl⟩
  rcases List.mem_append.1 hx with hx | hx
  · exact List.mem_append.2 (.inl (List.mem_filter.1 hx).1)
  · exact List.mem_append.2 (.inr (List.mem_filter.1 hx).1)
/-- What stands from the cursor on, in its slot, is told. -/
theorem scan_tells {d : Dm} (hok : d.Ok) {c : Nat} (hc : c < 4294967296) {x : Nd} (hx : x ∈ d.nodes) (h1 : pos (scanA d) x.sum = pos (scanA d) c) (h2 : turn c ≤ turn x.sum) : x.key ∈ scanL d c := by
  obtain ⟨ns, ng, g1, g2⟩ := scan_perm hok c hc
  refine g2.mem_iff.2 (List.mem_map.2 ⟨x, ?_, rfl⟩)
  have hp : pos (scanB d) c ≤ pos (scanB d) x.sum := Nat.div_le_div_right h2
  rcases List.mem_append.1 (g1.mem_iff.1 hx) with h | h
  · exact List.mem_append.2 (.inl (List.mem_filter.2 ⟨h, by simpa using h1⟩))
  · exact List.mem_append.2 (.inr (List.mem_filter.2 ⟨h, by simp [h1, hp]⟩))
/-- From a slot's begin on each key of the slot is told once. -/
theorem scan_once {d : Dm} (hok : d.Ok) {q : Nat} (hq : q < 2 ^ scanA d) : (scanL d (cur (scanA d) q)).Perm ((d.nodes.filter fun x => decide (pos (scanA d) x.sum = q)).map (·.key)) := by
  obtain ⟨ha2, ha⟩ := scanA_le hok
  obtain ⟨ns, ng, g1, g2⟩ := scan_perm hok (cur (scanA d) q) (cur_lt32 _ _)
  rw [pos_cur (by omega) hq] at g2
  refine g2.trans ?_
  have e : ng.filter (fun x => decide (pos (scanA d) x.sum = q ∧ pos (scanB d) (cur (scanA d) q) ≤ pos (scanB d) x.sum)) = ng.filter (fun x => decide (pos (scanA d) x.sum = q)) := by
    apply List.filter_congr
    intro x _
    rw [decide_eq_decide]
    refine ⟨fun h => h.1, fun h => ⟨h, ?_⟩⟩
    have hab : scanA d ≤ scanB d ∧ scanB d ≤ 16 := by
      cases ht : d.t1 with
      | none => have : scanB d = scanA d := by unfold scanA scanB; rw [ht]
                omega
      | some t => have := scan_some hok ht; omega
    rw [pos_down hab.1 (by omega)] at h
    rw [← cur_up hab.1 (by omega), pos_cur (by omega) (by rw [pow_up hab.1]; exact Nat.mul_lt_mul_of_pos_right hq Nat.one_le_two_pow), ← h]
    exact Nat.div_mul_le_self _ _
  rw [e, ← List.filter_append]
  exact (g1.filter _).symm.map _

end Go.Proofs.Ythbjjjcppijcbaa.Dint
