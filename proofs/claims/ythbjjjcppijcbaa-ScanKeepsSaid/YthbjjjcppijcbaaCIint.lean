/- The iterator over a chain, as an iterator with its contract. -/
import Derived.Test.YthbjjjcppijcbaaDW2int
import Derived.Test.YthbjjjcppijcbaaIT
namespace Go.Proofs.Ythbjjjcppijcbaa.Dint
open Go.RowKit Pal

theorem chAt_suffix {w : World} : ∀ {pre r : Ch}, chAt w (pre ++ r) → chAt w r
  | [], _, h => h
  | _ :: pre, _, h => chAt_suffix (pre := pre) h.2
theorem chAt_mem {w : World} {c : Ch} (h : chAt w c) {x : Nd} (hx : x ∈ c) : ∃ nx, Blk w x.blk 83 (ndCells x nx) := by
  obtain ⟨pre, post, rfl⟩ := List.append_of_mem hx
  exact ⟨_, h.node rfl⟩
theorem chAt_same {w w' : World} : ∀ {c : Ch}, chAt w c → (∀ x ∈ c, w'.heap[x.blk]? = w.heap[x.blk]?) → chAt w' c
  | [], _, _ => trivial
  | x :: _, ⟨h1, h2⟩, h => ⟨(h x (by simp)).trans h1, chAt_same h2 fun y hy => h y (by simp [hy])⟩

def chF (B : Nat) (c : Ch) (g : Nat) : Prop := g = B ∨ ∃ x ∈ c, g = x.blk
def chIt (B : Nat) (c : Ch) (r : Ch) (W : World) : Prop := (∃ pre, pre ++ r = c) ∧ Blk W B 81 #[hd r] ∧ chAt W c

theorem chain_spec (B : Nat) (c : Ch) : IterSpec Try.prog 73 #[ptr B] (fun x : Nd => #[ptr x.blk]) (chF B c) (fun g => g = B) (chIt B c) (chIt B c) where
  sub := fun _ h => .inl h
  cells := by
    rintro r W k ⟨_, hb, hc⟩ (rfl | ⟨x, hx, rfl⟩)
    · exact ⟨_, _, _, hb⟩
    · obtain ⟨nx, h⟩ := chAt_mem hc hx
      exact ⟨_, _, _, h⟩
  far0 := by
    rintro r W W' ⟨hp, hb, hc⟩ _ hF
    exact ⟨hp, (hF B (.inl rfl)).trans hb, chAt_same hc fun x hx => hF _ (.inr ⟨x, hx, rfl⟩)⟩
  far := by
    rintro r W W' ⟨hp, hb, hc⟩ _ hF
    exact ⟨hp, (hF B (.inl rfl)).trans hb, chAt_same hc fun x hx => hF _ (.inr ⟨x, hx, rfl⟩)⟩
  call := by
    intro l I Ix hI hIx hY c0 W h0 hit0
    refine (chain1_any l B (fun r W => I r W ∧ chIt B c r W) (fun r W => I r W ∧ (∃ pre, pre ++ r = c) ∧ (∃ v, Blk W B 81 #[v]) ∧ chAt W c) Ix ?_ ?_ ?_ c0 W ⟨h0, hit0⟩).mono ?_
    · rintro r W ⟨_, _, hb, _⟩
      exact hb.cell 0
    · rintro x r W ⟨hi, hp, hb, hc⟩
      have hc' := hp
      obtain ⟨pre, hpre⟩ := hc'
      have hsuf : chAt W (x :: r) := chAt_suffix (pre := pre) (by rw [hpre]; exact hc)
      refine ⟨hsuf.1.cell 3, ?_⟩
      obtain ⟨fn, tmps, assign, body, hy, hR⟩ := hY x r W hi ⟨hp, hb, hc⟩
      refine ⟨fn, tmps, assign, body, hy, hR.mono ?_⟩
      rintro e W' ⟨_, hF, ⟨rfl, hi'⟩ | ⟨rfl, hx'⟩⟩
      · exact .inl ⟨rfl, hi', ⟨pre ++ [x], by simp [hpre]⟩, ⟨_, (hF B (.inl rfl)).trans hb⟩, chAt_same hc fun x hx => hF _ (.inr ⟨x, hx, rfl⟩)⟩
      · exact .inr ⟨rfl, hx'⟩
    · rintro r W ⟨hi, hp, ⟨v, hb⟩, hc⟩
      have hs : Chg (fun g => g = B) W (W.setCell ⟨B, 0, none⟩ (hd r)) := (Chg.refl (fun g => g = B) W).store rfl 0 _
      refine ⟨⟨v, hb.cell 0⟩, hb.frozen 0, hI _ _ _ hi hs, hp, hb.set 0 _, hc.chg hs fun y hy h' => ?_⟩
      obtain ⟨nx, hy'⟩ := chAt_mem hc hy
      exact hy'.ne_type hb (by decide) h'
    · rintro e W' ⟨hv, ⟨h, _⟩ | h⟩
      · exact ⟨hv, .inl h⟩
      · exact ⟨hv, .inr h⟩

end Go.Proofs.Ythbjjjcppijcbaa.Dint
