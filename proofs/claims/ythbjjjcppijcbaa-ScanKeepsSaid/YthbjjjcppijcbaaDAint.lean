/- The acts of dicts, told for one dict of one's own. -/
import Derived.Test.YthbjjjcppijcbaaTWint
namespace Go.Proofs.Ythbjjjcppijcbaa.Dint
open Go.RowKit Pal

def Stays (d d' : Dm) : Prop := (∀ k, d'.look k = d.look k) ∧ d'.n = d.n
def Puts (key : ByteArray) (v : Value) (d d' : Dm) : Prop := (∀ k, d'.look k = if k = key then some v else d.look k) ∧ d'.n = if (d.look key).isNone then d.n + 1 else d.n
def Cuts (key : ByteArray) (d d' : Dm) : Prop := (∀ k, d'.look k = if k = key then none else d.look k) ∧ d'.n = if (d.look key).isSome then d.n - 1 else d.n

section
variable {w0 W : World} {bd : Nat} {d : Dm}
theorem set_1 (h : One w0 W bd d) (key : ByteArray) (v : Value) (hk : key.size ≤ 9223372036854775807) (hv : VOk v) (hn : d.n ≤ 100000) :
    Calls Try.prog 17 #[.pointer (some ⟨bd, 0, none⟩), .string key, v] W fun r W' => r = .returned (.bool (d.look key).isNone) ∧ ∃ d', One w0 W' bd d' ∧ Nx d d' W W' ∧ Puts key v d d' ∧ shape d' = if (d.look key).isNone then growS (stepS (shape d) 1) d.n else stepS (shape d) 1 := by
  have := Set_i d key v W h.md.dm h.md.ok hk hv (by omega)
  rw [h.bd] at this
  exact this.mono fun r W' ⟨h1, d', h2, h3, h4, h5⟩ => ⟨h1, d', h.nx h2, h2, ⟨h3, h4⟩, h5⟩
theorem get_1 (h : One w0 W bd d) (key : ByteArray) (hk : key.size ≤ 9223372036854775807) :
    Calls Try.prog 18 #[.pointer (some ⟨bd, 0, none⟩), .string key] W fun r W' => r = .returned (.tuple #[(d.look key).getD (.int .i64 0), .bool (d.look key).isSome]) ∧ ∃ d', One w0 W' bd d' ∧ Nx d d' W W' ∧ Stays d d' ∧ shape d' = stepS (shape d) 1 := by
  have := Get_i d key W h.md.dm h.md.ok hk
  rw [h.bd] at this
  exact this.mono fun r W' ⟨h1, d', h2, h3, h4, h5⟩ => ⟨h1, d', h.nx h2, h2, ⟨h3, h4⟩, h5⟩
theorem del_1 (h : One w0 W bd d) (key : ByteArray) (hk : key.size ≤ 9223372036854775807) (hn : d.n ≤ 100000) :
    Calls Try.prog 19 #[.pointer (some ⟨bd, 0, none⟩), .string key] W fun r W' => r = .returned (.bool (d.look key).isSome) ∧ ∃ d', One w0 W' bd d' ∧ Nx d d' W W' ∧ Cuts key d d' ∧ shape d' = if (d.look key).isSome then shrinkS (stepS (shape d) 1) (d.n - 1) else stepS (shape d) 1 := by
  have := Delete_i d key W h.md.dm h.md.ok hk (by omega)
  rw [h.bd] at this
  exact this.mono fun r W' ⟨h1, d', h2, h3, h4, h5⟩ => ⟨h1, d', h.nx h2, h2, ⟨h3, h4⟩, h5⟩
theorem step_1 (h : One w0 W bd d) (n : Int) :
    Calls Try.prog 20 #[.pointer (some ⟨bd, 0, none⟩), .int .i64 n] W fun r W' => r = .returned (.int .i64 (stepN (shape d) n : Int)) ∧ ∃ d', One w0 W' bd d' ∧ Nx d d' W W' ∧ Stays d d' ∧ shape d' = stepS (shape d) n := by
  have := Step_i d n W h.md.dm h.md.ok
  rw [h.bd] at this
  exact this.mono fun r W' ⟨h1, d', h2, h3, h4, h5⟩ => ⟨h1, d', h.nx h2, h2, ⟨h3, h4⟩, h5⟩

-- Try.func21
theorem len_1 (h : One w0 W bd d) : Calls Try.prog 21 #[.pointer (some ⟨bd, 0, none⟩)] W fun r W' => r = .returned (.int .i64 (d.n : Int)) ∧ W = W' := by
  have := len_any d W h.md.dm
  rw [h.bd] at this
  exact this

-- Try.func26
theorem sizes_1 (h : One w0 W bd d) : Calls Try.prog 26 #[.pointer (some ⟨bd, 0, none⟩)] W fun r W' => r = .returned (.tuple #[.int .i64 ((shape d).1 : Int), .int .i64 (((shape d).2.1.getD 0 : Nat) : Int), .int .i64 ((shape d).2.2 : Int)]) ∧ One w0 W' bd d ∧ Chg (fun _ => False) W W' := by
  have := Sizes_i d W h.md.dm
  rw [h.bd] at this
  exact this.mono fun r W' ⟨h1, h2⟩ => ⟨h1, h.chg0 h2, h2⟩

theorem new_1 {w0 W : World} (hc : Chg (fun _ => False) w0 W) (seed : Nat) (hs : seed < 4294967296) :
    Calls Try.prog 15 #[.int .u32 (seed : Int)] W fun e W' => ∃ bd d, e = .returned (.pointer (some ⟨bd, 0, none⟩)) ∧ One w0 W' bd d ∧ d.n = 0 ∧ (∀ k, d.look k = none) ∧ shape d = (4, none, 0) ∧ (∀ g, d.foot g → W.heap.size ≤ g) ∧ Chg (fun _ => False) W W' :=
  (New_i seed hs W).mono fun e W' ⟨d, h1, h2, h3, _, h4, h5, h6, h7, h8⟩ => ⟨d.blk, d, h1, ⟨⟨h2, h3, fun g hg => Nat.le_trans hc.size (h7 g hg)⟩, rfl, hc.trans h8⟩, h4, h5, h6, h7, h8⟩
end

end Go.Proofs.Ythbjjjcppijcbaa.Dint
