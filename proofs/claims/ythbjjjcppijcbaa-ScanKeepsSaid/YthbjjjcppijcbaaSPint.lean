/- What a scan tells, in plain words. -/
import Derived.Test.YthbjjjcppijcbaaSC5int
namespace Go.Proofs.Ythbjjjcppijcbaa.Dint
open Go.RowKit Pal

/-- The digits of the lesser table's size. -/
def scanA (d : Dm) : Nat := match d.t1 with
  | none => Nat.log2 d.t0.len
  | some t => Nat.log2 (if t.len < d.t0.len then t.len else d.t0.len)
def scanB (d : Dm) : Nat := match d.t1 with
  | none => Nat.log2 d.t0.len
  | some t => Nat.log2 (if t.len < d.t0.len then d.t0.len else t.len)
def scanT (d : Dm) : Nat := match d.t1 with
  | none => 0
  | some t => if t.len < d.t0.len then 1 else 0
def scanC (d : Dm) (c : Nat) : Nat := curW (scanA d) (pos (scanA d) c + 1)
def scanL (d : Dm) (c : Nat) : List ByteArray := match d.t1 with
  | none => keysAt d 0 (c % 2 ^ scanA d)
  | some _ => keysAt d (scanT d) (c % 2 ^ scanA d) ++ (slotsP (scanA d) (scanB d) (pos (scanB d) c)).flatMap fun x => keysAt d (1 - scanT d) x.1

theorem pow_le_of {a b : Nat} (h : 2 ^ a ≤ 2 ^ b) : a ≤ b := by
  rcases Nat.lt_or_ge b a with h' | h'
  · have : 2 ^ b < 2 ^ a := Nat.pow_lt_pow_right (by omega) h'
    omega
  · exact h'
theorem scan_none {d : Dm} (hok : d.Ok) (ht : d.t1 = none) : d.t0.len = 2 ^ scanA d ∧ 2 ≤ scanA d ∧ scanA d ≤ 16 := by
  obtain ⟨k, h2, h16, e⟩ := hok.s0
  have : scanA d = k := by unfold scanA; rw [ht, e]; exact Nat.log2_two_pow
  rw [this]; exact ⟨e, h2, h16⟩
theorem scan_some {d : Dm} (hok : d.Ok) {t : Tb} (ht : d.t1 = some t) : 2 ≤ scanA d ∧ scanA d ≤ scanB d ∧ scanB d ≤ 16 ∧
    ((scanT d = 0 ∧ d.t0.len = 2 ^ scanA d ∧ t.len = 2 ^ scanB d) ∨ (scanT d = 1 ∧ t.len = 2 ^ scanA d ∧ d.t0.len = 2 ^ scanB d ∧ t.len < d.t0.len)) := by
  obtain ⟨k, h2, h16, e⟩ := hok.s0
  obtain ⟨j, g2, g16, f⟩ := hok.s1 t ht
  by_cases hlt : t.len < d.t0.len
  · have a1 : scanA d = j := by unfold scanA; rw [ht]; dsimp only; rw [if_pos hlt, f]; exact Nat.log2_two_pow
    have b1 : scanB d = k := by unfold scanB; rw [ht]; dsimp only; rw [if_pos hlt, e]; exact Nat.log2_two_pow
    have t1 : scanT d = 1 := by unfold scanT; rw [ht]; dsimp only; rw [if_pos hlt]
    rw [a1, b1, t1]
    exact ⟨g2, pow_le_of (by omega), h16, .inr ⟨rfl, f, e, hlt⟩⟩
  · have a1 : scanA d = k := by unfold scanA; rw [ht]; dsimp only; rw [if_neg hlt, e]; exact Nat.log2_two_pow
    have b1 : scanB d = j := by unfold scanB; rw [ht]; dsimp only; rw [if_neg hlt, f]; exact Nat.log2_two_pow
    have t1 : scanT d = 0 := by unfold scanT; rw [ht]; dsimp only; rw [if_neg hlt]
    rw [a1, b1, t1]
    exact ⟨h2, pow_le_of (by omega), g16, .inl ⟨rfl, e, f⟩⟩
theorem scanA_le {d : Dm} (hok : d.Ok) : 2 ≤ scanA d ∧ scanA d ≤ 16 := by
  cases ht : d.t1 with
  | none => have := scan_none hok ht; omega
  | some t => have := scan_some hok ht; omega

/-- Scan, whether the dict moves or not. -/
theorem Scan_i (d : Dm) (c : Nat) (w : World) (h : DmAt w d) (hok : d.Ok) (hn : d.n < 1000000) (hc : c < 4294967296) :
    Calls Try.prog 34 #[ptr d.blk, .int .u32 (c : Int)] w fun e w' => (∃ v, e = .returned (.tuple #[v, .int .u32 (scanC d c : Int)]) ∧ Strs w' w.heap.size v (scanL d c)) ∧ Chg (fun _ => False) w w' := by
  cases ht : d.t1 with
  | none =>
    obtain ⟨h1, _, h3⟩ := scan_none hok ht
    have := Scan_still d (scanA d) c w h hok hn ht h1 h3 hc
    have e : scanL d c = keysAt d 0 (c % 2 ^ scanA d) := by unfold scanL; rw [ht]
    rw [e]
    exact this
  | some t =>
    obtain ⟨_, h2, h3, h4⟩ := scan_some hok ht
    have := Scan_mv d t (scanA d) (scanB d) c (scanT d) w h hok hn ht h2 h3 hc h4
    have e : scanL d c = keysAt d (scanT d) (c % 2 ^ scanA d) ++ (slotsP (scanA d) (scanB d) (pos (scanB d) c)).flatMap fun x => keysAt d (1 - scanT d) x.1 := by unfold scanL; rw [ht]
    rw [e]
    exact this

/-! ### slots as filters -/
theorem flat_filter {α : Type} (f : α → Nat) : ∀ (ls : List (List α)) (off i : Nat), (∀ j x, x ∈ ls.getD j [] → f x = off + j) → ls.flatten.filter (fun x => decide (f x = off + i)) = ls.getD i []
  | [], _, _, _ => by simp
  | l :: ls, off, i, h => by
    rw [List.flatten_cons, List.filter_append]
    have h0 : ∀ x ∈ l, f x = off := fun x hx => by simpa using h 0 x (by simpa using hx)
    have hs : ∀ j x, x ∈ ls.getD j [] → f x = off + 1 + j := fun j x hx => by
      have := h (j + 1) x (by simpa using hx)
      omega
    cases i with
    | zero =>
      have e1 : l.filter (fun x => decide (f x = off + 0)) = l := List.filter_eq_self.2 fun x hx => by simpa using h0 x hx
      have e2 : ls.flatten.filter (fun x => decide (f x = off + 0)) = [] := by
        rw [List.filter_eq_nil_iff]
        intro x hx h'
        obtain ⟨c, hc, hxc⟩ := List.mem_flatten.1 hx
        obtain ⟨j, hj, rfl⟩ := List.mem_iff_getElem.1 hc
        have := hs j x (by rw [List.getD_eq_getElem?_getD, List.getElem?_eq_getElem hj]; exact hxc)
        have h'' := of_decide_eq_true h'
        omega
      rw [e1, e2, List.append_nil]; rfl
    | succ i =>
      have e1 : l.filter (fun x => decide (f x = off + (i + 1))) = [] := by
        rw [List.filter_eq_nil_iff]
        intro x hx h'
        have h'' := of_decide_eq_true h'
        have := h0 x hx
        omega
      rw [e1, List.nil_append]
      have := flat_filter f ls (off + 1) i hs
      rw [show off + 1 + i = off + (i + 1) by omega] at this
      rw [this]; rfl
theorem at_filter {t : Tb} (hin : ∀ i x, i < t.len → x ∈ t.at i → x.sum % t.len = i) (i : Nat) : t.nodes.filter (fun x => decide (x.sum % t.len = i)) = t.at i := by
  have := flat_filter (fun x : Nd => x.sum % t.len) t.slots 0 i (fun j x hx => by
    rw [Nat.zero_add]
    refine hin j x ?_ hx
    rcases Nat.lt_or_ge j t.slots.length with h | h
    · exact h
    · rw [List.getD_eq_getElem?_getD, List.getElem?_eq_none h] at hx; cases hx)
  rw [Nat.zero_add] at this
  exact this
theorem mod_pos {b s k : Nat} (hb : b ≤ 32) (hs : s < 4294967296) (hk : k < 2 ^ b) : s % 2 ^ b = cur b k ↔ pos b s = k := by
  rw [mod_cur hb hs]
  constructor
  · exact fun h => cur_inj b hb (pos_lt hb s) hk h
  · rintro rfl; rfl
theorem at_pos {t : Tb} {b k : Nat} (hb : b ≤ 32) (hl : t.len = 2 ^ b) (hin : ∀ i x, i < t.len → x ∈ t.at i → x.sum % t.len = i) (hs : ∀ x ∈ t.nodes, x.sum < 4294967296) (hk : k < 2 ^ b) :
    t.at (cur b k) = t.nodes.filter (fun x => decide (pos b x.sum = k)) := by
  rw [← at_filter hin]
  apply List.filter_congr
  intro x hx
  rw [hl, decide_eq_decide]
  exact mod_pos hb (hs x hx) hk
theorem filter_split {α : Type} (f : α → Nat) (k m : Nat) : ∀ l : List α, (l.filter (fun x => decide (f x = k)) ++ l.filter (fun x => decide (k + 1 ≤ f x ∧ f x < k + 1 + m))).Perm (l.filter (fun x => decide (k ≤ f x ∧ f x < k + (m + 1))))
  | [] => List.Perm.refl _
  | x :: l => by
    have ih := filter_split f k m l
    by_cases h1 : f x = k
    · have h2 : ¬ (k + 1 ≤ f x ∧ f x < k + 1 + m) := by omega
      have h3 : k ≤ f x ∧ f x < k + (m + 1) := by omega
      rw [List.filter_cons_of_pos (by simpa using h1), List.filter_cons_of_neg (by simpa using h2), List.filter_cons_of_pos (by simpa using h3), List.cons_append]
      exact ih.cons x
    · by_cases h2 : k + 1 ≤ f x ∧ f x < k + 1 + m
      · have h3 : k ≤ f x ∧ f x < k + (m + 1) := by omega
        rw [List.filter_cons_of_neg (by simpa using h1), List.filter_cons_of_pos (by simpa using h2), List.filter_cons_of_pos (by simpa using h3)]
        exact List.perm_middle.trans (ih.cons x)
      · have h3 : ¬ (k ≤ f x ∧ f x < k + (m + 1)) := by omega
        rw [List.filter_cons_of_neg (by simpa using h1), List.filter_cons_of_neg (by simpa using h2), List.filter_cons_of_neg (by simpa using h3)]
        exact ih
theorem slotsM_perm {t : Tb} {b : Nat} (hb : b ≤ 32) (hl : t.len = 2 ^ b) (hin : ∀ i x, i < t.len → x ∈ t.at i → x.sum % t.len = i) (hs : ∀ x ∈ t.nodes, x.sum < 4294967296) :
    ∀ m k, k + m ≤ 2 ^ b → ((slotsM b k m).flatMap fun x => t.at x.1).Perm (t.nodes.filter (fun x => decide (k ≤ pos b x.sum ∧ pos b x.sum < k + m)))
  | 0, k, _ => by
    have e : t.nodes.filter (fun x => decide (k ≤ pos b x.sum ∧ pos b x.sum < k + 0)) = [] := by
      rw [List.filter_eq_nil_iff]
      intro x _ h
      have := of_decide_eq_true h
      omega
    rw [e]; exact List.Perm.refl _
  | m + 1, k, h => by
    rw [slotsM_succ, List.flatMap_cons, at_pos hb hl hin hs (by omega)]
    exact (List.Perm.append_left _ (slotsM_perm hb hl hin hs m (k + 1) (by omega))).trans (filter_split (fun x : Nd => pos b x.sum) k m t.nodes)

theorem slotsP_perm {t : Tb} {a b k : Nat} (hab : a ≤ b) (hb : b ≤ 32) (hk : k < 2 ^ b) (hl : t.len = 2 ^ b) (hin : ∀ i x, i < t.len → x ∈ t.at i → x.sum % t.len = i) (hs : ∀ x ∈ t.nodes, x.sum < 4294967296) :
    ((slotsP a b k).flatMap fun x => t.at x.1).Perm (t.nodes.filter (fun x => decide (pos a x.sum = k / 2 ^ (b - a) ∧ k ≤ pos b x.sum))) := by
  have h1 : 0 < 2 ^ (b - a) := Nat.one_le_two_pow
  have hd := Nat.div_add_mod k (2 ^ (b - a))
  have hm := Nat.mod_lt k h1
  have h2 : k / 2 ^ (b - a) < 2 ^ a := by rw [Nat.div_lt_iff_lt_mul h1, ← pow_up hab]; exact hk
  have h3 : (k / 2 ^ (b - a) + 1) * 2 ^ (b - a) ≤ 2 ^ a * 2 ^ (b - a) := Nat.mul_le_mul_right _ h2
  rw [← pow_up hab] at h3
  have h4 : k + (2 ^ (b - a) - k % 2 ^ (b - a)) = (k / 2 ^ (b - a) + 1) * 2 ^ (b - a) := by
    rw [Nat.add_mul, Nat.one_mul, Nat.mul_comm (k / _)]; omega
  refine (slotsM_perm hb hl hin hs _ _ (by omega)).trans ?_
  rw [h4]
  have e : t.nodes.filter (fun x => decide (k ≤ pos b x.sum ∧ pos b x.sum < (k / 2 ^ (b - a) + 1) * 2 ^ (b - a))) = t.nodes.filter (fun x => decide (pos a x.sum = k / 2 ^ (b - a) ∧ k ≤ pos b x.sum)) := by
    apply List.filter_congr
    intro x _
    rw [decide_eq_decide, pos_down hab hb]
    have e1 : pos b x.sum / 2 ^ (b - a) < k / 2 ^ (b - a) + 1 ↔ pos b x.sum < (k / 2 ^ (b - a) + 1) * 2 ^ (b - a) := Nat.div_lt_iff_lt_mul h1
    constructor
    · rintro ⟨g1, g2⟩
      have := Nat.div_le_div_right (c := 2 ^ (b - a)) g1
      have := e1.2 g2
      exact ⟨by omega, g1⟩
    · rintro ⟨g1, g2⟩
      exact ⟨g2, e1.1 (by omega)⟩
  rw [e]

end Go.Proofs.Ythbjjjcppijcbaa.Dint
