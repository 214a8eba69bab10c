/- Scans of a dict of one's own; loops of acts. -/
import Derived.Test.YthbjjjcppijcbaaS8
import Derived.Test.YthbjjjcppijcbaaTX
import Derived.Test.YthbjjjcppijcbaaSP2int
namespace Go.Proofs.Ythbjjjcppijcbaa
open Go.RowKit Pal Dint

theorem scan_1 {w0 W : World} {bd : Nat} {d : Dm} (h : One w0 W bd d) (c : Nat) (hc : c < 4294967296) (hn : d.n ≤ 100000) :
    Calls Try.prog 34 #[.pointer (some ⟨bd, 0, none⟩), .int .u32 (c : Int)] W fun e W' => (∃ v, e = .returned (.tuple #[v, .int .u32 (scanC d c : Int)]) ∧ Strs W' W.heap.size v (scanL d c)) ∧ One w0 W' bd d ∧ Chg (fun _ => False) W W' := by
  have := Scan_i d c W h.md.dm h.md.ok (by omega) hc
  rw [h.bd] at this
  exact this.mono fun r W' ⟨h1, h2⟩ => ⟨h1, h.chg0 h2, h2⟩
theorem scanC_lt (d : Dm) (c : Nat) : scanC d c < 4294967296 := curW_lt32 _ _
theorem acts_n {x : Act3} {d d' : Dm} (h : Acts x d d') : d'.n ≤ d.n + 1 := by
  rcases h with ⟨_, ⟨_, h⟩, _⟩ | ⟨_, ⟨_, h⟩, _⟩ | ⟨_, ⟨_, h⟩, _⟩ | ⟨_, ⟨_, h⟩, _⟩
  · rw [h]; split <;> omega
  · omega
  · rw [h]; split <;> omega
  · omega
theorem acts3 {w : World} {b o cap n : Nat} {g : Nat → Act3} (h : ActsAt w (.slice (some ⟨b, o, none⟩) n cap) n g) {i : Nat} (hi : i < n) :
    b < w.heap.size ∧ w.cell? ⟨b, o + i * 3, none⟩ = some (.int .i64 (g i).Do) ∧ w.cell? ⟨b, o + i * 3 + 1, none⟩ = some (.string (g i).Key) ∧ w.cell? ⟨b, o + i * 3 + 2, none⟩ = some (.int .i64 (g i).V) ∧ (g i).Key.size ≤ 9223372036854775807 := by
  obtain ⟨b', o', cap', heq, h1, h2, h3, h4, _, h5, _⟩ := h.at_ i hi
  injection heq with heq
  injection heq with heq
  injection heq with e1 e2
  subst e1 e2
  exact ⟨h1, h2, h3, h4, h5⟩

end Go.Proofs.Ythbjjjcppijcbaa
