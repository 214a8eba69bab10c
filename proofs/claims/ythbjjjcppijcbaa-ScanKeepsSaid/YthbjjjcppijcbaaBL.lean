/- Slices of bools of the call's own. -/
import Derived.Test.YthbjjjcppijcbaaProg
import Derived.Test.YthbjjjcppijcbaaST
import Derived.Test.YthbjjjcppijcbaaDWint
import Derived.Laws.OwnMore
import Derived.Deep.Onto
namespace Go.Proofs.Ythbjjjcppijcbaa
open Go.RowKit Pal

theorem bool_info : (Try.prog.info? 4).map (fun i => (i.zero, i.size, i.bytes)) = some (some (.bool false), 1, 1) := by kernel_rfl

/-- The value is a slice of the call's own that holds the bools l. -/
def Bls (w : World) (base : Nat) (v : Value) (l : List Bool) : Prop := w.ownsRow base 4 1 v l.length (l.map Value.bool)

theorem Bls.chg {w w' : World} {base : Nat} {v : Value} {l : List Bool} {F : Nat → Prop} (h : Bls w base v l) (hs : Chg F w w') (hn : ∀ g, v.ownBlock = some g → ¬ F g) : Bls w' base v l := own_stay h (.of_chg hs) hn
theorem Bls.is {w : World} {base : Nat} {v : Value} {l : List Bool} (h : Bls w base v l) : ∃ p cap, v = .slice p l.length cap ∧ l.length ≤ cap ∧ cap ≤ maxLen ∧ (∀ g, p = some g → base ≤ g.block ∧ g.block < w.heap.size) := by
  rcases h.2 with ⟨rfl, h0⟩ | ⟨g, cap, cur, rfl, h1, h2, h3, h4, _⟩
  · exact ⟨none, 0, by rw [h0], by omega, by simp [maxLen], fun _ h => (by cases h)⟩
  · exact ⟨_, cap, rfl, h3, h4, fun g hg => by injection hg with hg; subst hg; exact ⟨h1, (Array.getElem?_eq_some_iff.1 h2).1⟩⟩
theorem Bls.lower {w : World} {base b : Nat} {v : Value} {l : List Bool} (h : Bls w base v l) (hb : b ≤ base) : Bls w b v l := World.ownsRow.mono h hb
theorem Bls.own {w : World} {base : Nat} {v : Value} {l : List Bool} (h : Bls w base v l) : w.ownsRow base 4 1 v l.length (l.map Value.bool) := h
theorem Bls.mk {w : World} {base n : Nat} {v : Value} {l : List Bool} {xs : List Value} (h : w.ownsRow base 4 1 v n xs) (hn : n = l.length) (hx : xs = l.map Value.bool) : Bls w base v l := by
  subst hn; subst hx; exact h
theorem Bls.at_ {w : World} {base k n c : Nat} {p : Option Addr} {l : List Bool} (h : Bls w base (.slice p n c) l) (hk : k < l.length) : ∃ g, p = some ⟨g, 0, none⟩ ∧ base ≤ g ∧ g < w.heap.size ∧ w.cell? ⟨g, k, none⟩ = some (.bool l[k]) ∧ w.frozen? ⟨g, k, none⟩ = false := by
  have h' := h
  rcases h'.2 with ⟨_, h0⟩ | ⟨g, cap, cur, he, hb, hg, _⟩
  · omega
  · injection he with he hn hc
    subst he hn hc
    have hc := World.ownsRow.cells h (g := g) rfl k (.bool l[k]) (by simp [hk])
    refine ⟨g, rfl, hb, (Array.getElem?_eq_some_iff.1 hg).1, ?_, World.ownsRow.frozenAt h k⟩
    unfold Addr.add at hc
    split at hc
    · rename_i e; subst e; exact hc
    · simpa using hc
theorem Bls.set {w : World} {base n c g : Nat} {l : List Bool} (h : Bls w base (.slice (some ⟨g, 0, none⟩) n c) l) (k : Nat) (b : Bool) : Bls (w.setCell ⟨g, k, none⟩ (.bool b)) base (.slice (some ⟨g, 0, none⟩) n c) (l.set k b) ∧ Chg (fun x => x = g) w (w.setCell ⟨g, k, none⟩ (.bool b)) := by
  have hn : n = l.length := by
    obtain ⟨_, _, e, _⟩ := h.is
    injection e
  subst hn
  obtain ⟨h1, h2⟩ := World.ownsRow.stored h k (.bool b)
  exact ⟨Bls.mk h1 (by simp) (by rw [List.map_set]), .of_grown h2 fun g' e => by injection e with e; exact e.symm⟩

/-- make([]bool, 0, 100) -/
def mb : Array Value := madeCells (Value.bool false).cells 100
theorem run_make_bools (w : World) : (Instr.makeSlice 71 (.int .i64 0) (.int .i64 100)).run Try.prog w = .ok (.slice (some ⟨w.heap.size, 0, none⟩) 0 100) (w.alloc (.cells mb 4)) := by
  obtain ⟨i0, hi, hz0, hz1, hz2⟩ := info_parts bool_info
  have hr := run_make (P := Try.prog) w 71 4 i0 (.bool false) Try.underlying71 hi hz0 .i64 .i64 0 100 (by omega) (by omega) (by rw [hz2]; omega) (by omega)
  rw [hr]
  unfold mb
  rw [hz1]
  rfl
theorem Bls.made (w : World) (base : Nat) (hb : base ≤ w.heap.size) : Bls (w.alloc (.cells mb 4)) base (.slice (some ⟨w.heap.size, 0, none⟩) 0 100) [] :=
  World.ownsRow_made w mb 100 hb (by decide) (by unfold mb; rw [size_madeCells])
theorem bools_one (l : List Bool) : ∀ u ∈ l.map Value.bool, u.oneCell' = true := by
  intro u hu
  obtain ⟨x, _, rfl⟩ := List.mem_map.1 hu
  rfl
theorem reads_one (W : World) (e : TypeId) (x : Value) : Reads (W.alloc (.cells #[x] e)) (W.alloc (.cells #[x] e)).heap.size 1 (some ⟨W.heap.size, 0, none⟩) 1 [x] := by
  refine ⟨rfl, fun _ => ⟨_, rfl, (Blk.new W e #[x]).lt, fun j u hu => ?_⟩⟩
  cases j with
  | zero =>
    have h := (Blk.new W e #[x]).cell 0
    simp only [List.getElem?_cons_zero, Option.some.injEq] at hu
    subst hu
    exact h
  | succ j => simp at hu

end Go.Proofs.Ythbjjjcppijcbaa
