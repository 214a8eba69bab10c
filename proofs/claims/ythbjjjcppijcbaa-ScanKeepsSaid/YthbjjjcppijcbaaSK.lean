/- What a scan tells while a dict changes, in plain words. -/
import Derived.Test.YthbjjjcppijcbaaS11
import Derived.Test.YthbjjjcppijcbaaSM
namespace Go.Proofs.Ythbjjjcppijcbaa
open Go.RowKit Pal Dint

/-- The turned hash of a key. -/
def kturn (seed : Nat) (k : ByteArray) : Nat := turn (sumN seed k.data.toList)
theorem kturn_of {d : Dm} (hok : d.Ok) {x : Nd} (hx : x ∈ d.nodes) : kturn d.seed x.key = turn x.sum := congrArg turn (hok.sums x hx).symm
theorem turn_cur {b k : Nat} (hb : b ≤ 32) (hk : k < 2 ^ b) : turn (cur b k) = k * 2 ^ (32 - b) := turn_turn _ (mul_lt b k hb hk)
/-- Where the cursor goes. -/
theorem next_turn {d : Dm} (hok : d.Ok) (c : Nat) :
    (pos (scanA d) c + 1 = 2 ^ scanA d ∧ scanC d c = 0) ∨ (pos (scanA d) c + 1 < 2 ^ scanA d ∧ scanC d c ≠ 0 ∧ turn (scanC d c) = (pos (scanA d) c + 1) * 2 ^ (32 - scanA d)) := by
  have hA := scanA_le hok
  have hp := pos_lt (b := scanA d) (by omega) c
  unfold scanC
  rcases Nat.lt_or_ge (pos (scanA d) c + 1) (2 ^ scanA d) with h | h
  · exact .inr ⟨h, curW_ne (by omega) (Nat.succ_pos _) h, by rw [curW_eq h, turn_cur (by omega) h]⟩
  · have e : pos (scanA d) c + 1 = 2 ^ scanA d := by omega
    exact .inl ⟨e, by rw [e, curW_full]⟩
theorem turn_up {x S u i : Nat} (hS : 0 < S) (hu : u ∣ S) (hi : i * u ≤ x) : (i + 1) * u ≤ (x / S + 1) * S := by
  obtain ⟨m, rfl⟩ := hu
  have h1 : x < (x / (u * m) + 1) * (u * m) := by
    have := Nat.lt_mul_div_succ x hS
    rw [Nat.mul_comm]; exact this
  have h2 : (x / (u * m) + 1) * (u * m) = ((x / (u * m) + 1) * m) * u := by rw [Nat.mul_comm u m, Nat.mul_assoc]
  rw [h2] at h1 ⊢
  have h3 : i * u < ((x / (u * m) + 1) * m) * u := Nat.lt_of_le_of_lt hi h1
  exact Nat.mul_le_mul_right u (Nat.lt_of_mul_lt_mul_right h3)
theorem next_far {d : Dm} (hok : d.Ok) (hb : bndS (Dint.shape d)) {c i : Nat} (hi : i * 8388608 ≤ turn c) (h : scanC d c ≠ 0) : (i + 1) * 8388608 ≤ turn (scanC d c) ∧ turn c < turn (scanC d c) := by
  have hA9 : scanA d ≤ 9 := pow_le_of (b := 9) (bnd_A hok hb)
  rcases next_turn hok c with ⟨_, h0⟩ | ⟨_, _, h2⟩
  · exact absurd h0 h
  · rw [h2]
    refine ⟨turn_up (Nat.two_pow_pos _) ?_ hi, ?_⟩
    · rw [show (8388608 : Nat) = 2 ^ 23 by decide]
      exact Nat.pow_dvd_pow 2 (by omega)
    · have := Nat.lt_mul_div_succ (turn c) (Nat.two_pow_pos (32 - scanA d))
      rw [Nat.mul_comm]; exact this

/-- Of the keys al, those that are not told yet stand in the dict, from the cursor on. -/
structure Keep (sd : Nat) (d : Dm) (al : List ByteArray) (to : List Bool) (c : Nat) : Prop where
  seed : d.seed = sd
  len : to.length = al.length
  k : ∀ j (h : j < al.length), to[j]? = some false → (d.look al[j]).isSome = true ∧ turn c ≤ kturn sd al[j]
theorem Keep.stays {seed c : Nat} {d d' : Dm} {al : List ByteArray} {to : List Bool} (h : Keep seed d al to c) (hs : Stays d d') (hse : d'.seed = d.seed) : Keep seed d' al to c :=
  ⟨hse.trans h.seed, h.len, fun j hj ht => by rw [hs.1]; exact h.k j hj ht⟩
theorem look_mem {d : Dm} {k : ByteArray} (h : (d.look k).isSome = true) : ∃ x ∈ d.nodes, x.key = k := by
  obtain ⟨x, hx, e⟩ := List.mem_map.1 (mem_keys.2 h)
  exact ⟨x, hx, e⟩
/-- A scan, with its keys told. -/
theorem Keep.scan {seed c : Nat} {d : Dm} {al : List ByteArray} {to to' : List Bool} (h : Keep seed d al to c) (hok : d.Ok) (hc : c < 4294967296) (hlen : to'.length = al.length)
    (ht : ∀ j (hj : j < al.length), to'[j]? = some false → to[j]? = some false ∧ al[j] ∉ scanL d c) :
    (scanC d c = 0 → ∀ j, j < al.length → to'[j]? ≠ some false) ∧ (scanC d c ≠ 0 → Keep seed d al to' (scanC d c)) := by
  have key : ∀ j (hj : j < al.length), to'[j]? = some false → (d.look al[j]).isSome = true ∧ ∃ x ∈ d.nodes, x.key = al[j] ∧ turn c ≤ turn x.sum ∧ pos (scanA d) x.sum ≠ pos (scanA d) c := fun j hj hf => by
    obtain ⟨h1, h2⟩ := ht j hj hf
    obtain ⟨h3, h4⟩ := h.k j hj h1
    obtain ⟨x, hx, e⟩ := look_mem h3
    rw [← e, ← h.seed, kturn_of hok hx] at h4
    exact ⟨h3, x, hx, e, h4, fun hp => h2 (by rw [← e]; exact scan_tells hok hc hx hp h4)⟩
  have hA := scanA_le hok
  constructor
  · intro h0 j hj hf
    obtain ⟨_, x, hx, _, h4, h5⟩ := key j hj hf
    have h6 : pos (scanA d) c ≤ pos (scanA d) x.sum := Nat.div_le_div_right h4
    have h7 := pos_lt (b := scanA d) (by omega) x.sum
    rcases next_turn hok c with ⟨h8, _⟩ | ⟨_, h8, _⟩
    · omega
    · exact h8 h0
  · intro h0
    refine ⟨h.seed, hlen, fun j hj hf => ?_⟩
    obtain ⟨h3, x, hx, e, h4, h5⟩ := key j hj hf
    refine ⟨h3, ?_⟩
    have h6 : pos (scanA d) c ≤ pos (scanA d) x.sum := Nat.div_le_div_right h4
    rcases next_turn hok c with ⟨_, h8⟩ | ⟨_, _, h8⟩
    · exact absurd h8 h0
    · rw [h8, ← e, ← h.seed, kturn_of hok hx]
      have h9 : pos (scanA d) c + 1 ≤ pos (scanA d) x.sum := by omega
      refine Nat.le_trans (Nat.mul_le_mul_right _ h9) ?_
      exact Nat.div_mul_le_self _ _
/-- An act, with the key that it takes away told. -/
theorem Keep.acts {seed c : Nat} {d d' : Dm} {x : Act3} {al : List ByteArray} {to to' : List Bool} (h : Keep seed d al to c) (ha : Acts x d d') (hse : d'.seed = d.seed) (hlen : to'.length = al.length)
    (h1 : ∀ j : Nat, to'[j]? = some false → to[j]? = some false)
    (h2 : (IntKind.u64.wrap x.Do).tmod 8 = 5 ∨ (IntKind.u64.wrap x.Do).tmod 8 = 6 → ∀ j (hj : j < al.length), al[j] = cutS x.Key 12 → to'[j]? ≠ some false) : Keep seed d' al to' c := by
  refine ⟨hse.trans h.seed, hlen, fun j hj hf => ?_⟩
  obtain ⟨h3, h4⟩ := h.k j hj (h1 j hf)
  refine ⟨?_, h4⟩
  rcases ha with ⟨_, ⟨h5, _⟩, _⟩ | ⟨_, h5, _⟩ | ⟨hd, ⟨h5, _⟩, _⟩ | ⟨_, h5, _⟩
  · rw [h5]; split
    · rfl
    · exact h3
  · rw [h5.1]; exact h3
  · rw [h5, if_neg (fun e => h2 hd j hj e hf)]; exact h3
  · rw [h5.1]; exact h3

end Go.Proofs.Ythbjjjcppijcbaa
