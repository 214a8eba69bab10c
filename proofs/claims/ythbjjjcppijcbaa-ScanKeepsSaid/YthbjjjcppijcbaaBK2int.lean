/- Bucket of a dict where there is no such slot. -/
import Derived.Test.YthbjjjcppijcbaaBKint
namespace Go.Proofs.Ythbjjjcppijcbaa.Dint
open Go.RowKit Pal
attribute [local go_sem] Oper.semAt_some

def tabLen (d : Dm) (ti : Nat) : Nat := ((d.tab ti).map Tb.len).getD 0

set_option maxRecDepth 100000 in
set_option maxHeartbeats 1000000 in
theorem Bucket_no (d : Dm) (ti si : Int) (w : World) (h : DmAt w d) (hb : ti < 0 ∨ 2 ≤ ti ∨ si < 0 ∨ (tabLen d ti.toNat : Int) ≤ si) :
    Calls Try.prog 29 #[ptr d.blk, .int .i64 ti, .int .i64 si] w fun e w' => e = .returned (.tuple #[.slice none 0 0, .int .i64 2]) ∧ Chg (fun _ => False) w w' := by
  obtain ⟨c0, c1, c2, c3, c4, hf, hlt⟩ := dm_cells h
  unfold ptr
  by_cases h1 : ti < 0
  · refine calls_of_wp_marks Try.func29 rfl ?_
    simp only [Try.ntmps29, List.size_toArray, List.length_cons, List.length_nil, Nat.reduceAdd, Nat.reduceSub, Array.replicate_succ, Array.replicate_zero, List.push_toArray, List.append_toArray, List.nil_append, List.cons_append]
    go_wp2_with fail
    exact ⟨_, (by simp [results, Try.results29, go_sem]), rfl, Chg.refl _ _⟩
  by_cases h2 : ti ≥ 2
  · refine calls_of_wp_marks Try.func29 rfl ?_
    simp only [Try.ntmps29, List.size_toArray, List.length_cons, List.length_nil, Nat.reduceAdd, Nat.reduceSub, Array.replicate_succ, Array.replicate_zero, List.push_toArray, List.append_toArray, List.nil_append, List.cons_append]
    go_wp2_with fail
    exact ⟨_, (by simp [results, Try.results29, go_sem]), rfl, Chg.refl _ _⟩
  by_cases h3 : si < 0
  · refine calls_of_wp_marks Try.func29 rfl ?_
    simp only [Try.ntmps29, List.size_toArray, List.length_cons, List.length_nil, Nat.reduceAdd, Nat.reduceSub, Array.replicate_succ, Array.replicate_zero, List.push_toArray, List.append_toArray, List.nil_append, List.cons_append]
    go_wp2_with fail
    exact ⟨_, (by simp [results, Try.results29, go_sem]), rfl, Chg.refl _ _⟩
  · obtain ⟨k, rfl⟩ : ∃ k : Nat, ti = (k : Int) := ⟨ti.toNat, by omega⟩
    have hk : k < 2 := by omega
    have h6 : 0 ≤ (k : Int) := by omega
    have h7 : (k : Int) < 2 := by omega
    have h8 : si ≥ (tabLen d k : Int) := by
      rcases hb with hb | hb | hb | hb
      · omega
      · omega
      · omega
      · simpa using hb
    have hcell : ∃ p c, w.cell? ⟨d.blk, 1 + k, none⟩ = some (.slice p (tabLen d k) c) := by
      rcases (by omega : k = 0 ∨ k = 1) with rfl | rfl
      · exact ⟨_, _, c1⟩
      · unfold tabLen Dm.tab
        cases ht : d.t1 with
        | none => rw [ht] at c2; exact ⟨_, _, c2⟩
        | some t => rw [ht] at c2; exact ⟨_, _, c2⟩
    obtain ⟨p, c, hcell⟩ := hcell
    clear hb c0 c1 c2 c3 c4
    generalize tabLen d k = n at hcell h8
    refine calls_of_wp_marks Try.func29 rfl ?_
    simp only [Try.ntmps29, List.size_toArray, List.length_cons, List.length_nil, Nat.reduceAdd, Nat.reduceSub, Array.replicate_succ, Array.replicate_zero, List.push_toArray, List.append_toArray, List.nil_append, List.cons_append]
    go_wp2_with fail
    exact ⟨_, (by simp [results, Try.results29, go_sem]), rfl, Chg.refl _ _⟩

end Go.Proofs.Ythbjjjcppijcbaa.Dint
