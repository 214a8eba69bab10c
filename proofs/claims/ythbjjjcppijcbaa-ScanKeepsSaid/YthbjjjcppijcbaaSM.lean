/- Scans while a dict moves, in plain words. -/
import Derived.Test.YthbjjjcppijcbaaS10
namespace Go.Proofs.Ythbjjjcppijcbaa
open Go.RowKit Pal Dint

/-- The place of a key's hash. -/
def kpos (seed a : Nat) (k : ByteArray) : Nat := pos a (sumN seed k.data.toList)
theorem filter_map_congr {α β : Type} (f : α → β) (p : α → Bool) (q : β → Bool) : ∀ l : List α, (∀ x ∈ l, p x = q (f x)) → (l.filter p).map f = (l.map f).filter q
  | [], _ => rfl
  | x :: l, h => by
    have hx := h x (by simp)
    have ih := filter_map_congr f p q l fun y hy => h y (by simp [hy])
    rw [List.map_cons, List.filter_cons, List.filter_cons, ← hx]
    cases hp : p x with
    | true => rw [if_pos rfl, if_pos rfl, List.map_cons, ih]
    | false => rw [if_neg (by simp), if_neg (by simp), ih]
theorem kpos_of {d : Dm} (hok : d.Ok) (a : Nat) {x : Nd} (hx : x ∈ d.nodes) : kpos d.seed a x.key = pos a x.sum := congrArg (pos a) (hok.sums x hx).symm
theorem filter_keys_eq {d : Dm} (hok : d.Ok) (a q : Nat) : (d.nodes.filter fun x => decide (pos a x.sum = q)).map (·.key) = (d.nodes.map (·.key)).filter fun k => decide (kpos d.seed a k = q) :=
  filter_map_congr (fun x : Nd => x.key) (fun x => decide (pos a x.sum = q)) (fun k => decide (kpos d.seed a k = q)) d.nodes fun x hx => by
    have := kpos_of hok a hx
    generalize kpos d.seed a x.key = y at this
    rw [this]
theorem mem_keys {d : Dm} {k : ByteArray} : k ∈ d.nodes.map (·.key) ↔ (d.look k).isSome = true := by
  constructor
  · intro h
    obtain ⟨x, hx, rfl⟩ := List.mem_map.1 h
    cases hl : d.look x.key with
    | none => exact absurd rfl (look_none.1 hl x hx)
    | some v => rfl
  · intro h
    obtain ⟨v, hv⟩ := Option.isSome_iff_exists.1 h
    unfold Dm.look at hv
    rw [Option.map_eq_some_iff] at hv
    obtain ⟨x, h1, _⟩ := hv
    exact List.mem_map.2 ⟨x, List.mem_of_find?_eq_some h1, by simpa using List.find?_some h1⟩
theorem keys_perm {d d' : Dm} (hok : d.Ok) (hok' : d'.Ok) (h : ∀ k, d'.look k = d.look k) : (d'.nodes.map (·.key)).Perm (d.nodes.map (·.key)) := by
  refine (List.perm_ext_iff_of_nodup hok'.keys hok.keys).2 fun k => ?_
  rw [mem_keys, mem_keys, h]

/-- The keys told, where the scan has come to place k of 2^a. -/
def Told (d : Dm) (a k : Nat) (l : List ByteArray) : Prop := l.Perm ((d.nodes.map (·.key)).filter fun x => decide (kpos d.seed a x < k))
theorem Told.zero (d : Dm) (a : Nat) : Told d a 0 [] := by
  unfold Told
  have e : (d.nodes.map (·.key)).filter (fun x => decide (kpos d.seed a x < 0)) = [] := by
    rw [List.filter_eq_nil_iff]
    intro x _ h
    exact absurd (of_decide_eq_true h) (Nat.not_lt_zero _)
  rw [e]
theorem Told.scan {d : Dm} (hok : d.Ok) {k : Nat} {l : List ByteArray} (h : Told d (scanA d) k l) (hk : k < 2 ^ scanA d) : Told d (scanA d) (k + 1) (l ++ scanL d (cur (scanA d) k)) := by
  unfold Told at *
  have h2 := scan_once hok hk
  rw [filter_keys_eq hok] at h2
  exact (h.append h2).trans (filter_lt_succ (fun x => kpos d.seed (scanA d) x) k _)
theorem Told.up {d d' : Dm} (hok : d.Ok) (hok' : d'.Ok) (hl : ∀ k, d'.look k = d.look k) (hs : d'.seed = d.seed) {a b k : Nat} (hab : a ≤ b) (hb : b ≤ 32) {l : List ByteArray} (h : Told d a k l) : Told d' b (k * 2 ^ (b - a)) l := by
  unfold Told at *
  rw [hs]
  refine (h.trans ?_).trans ((keys_perm hok hok' hl).filter _).symm
  have e : (d.nodes.map (·.key)).filter (fun x => decide (kpos d.seed a x < k)) = (d.nodes.map (·.key)).filter (fun x => decide (kpos d.seed b x < k * 2 ^ (b - a))) := by
    apply List.filter_congr
    intro x _
    rw [decide_eq_decide]
    unfold kpos
    rw [pos_down hab hb]
    exact Nat.div_lt_iff_lt_mul Nat.one_le_two_pow
  rw [e]
theorem Told.all {d : Dm} (hok : d.Ok) {a : Nat} (ha : a ≤ 32) {l : List ByteArray} (h : Told d a (2 ^ a) l) : l.Perm (d.nodes.map (·.key)) := by
  unfold Told at h
  have e : (d.nodes.map (·.key)).filter (fun x => decide (kpos d.seed a x < 2 ^ a)) = d.nodes.map (·.key) := List.filter_eq_self.2 fun x _ => decide_eq_true (pos_lt ha _)
  rw [e] at h
  exact h
theorem Told.len {d : Dm} (hok : d.Ok) {a k : Nat} {l : List ByteArray} (h : Told d a k l) : l.length ≤ d.n := by
  unfold Told at h
  rw [h.length_eq, hok.count]
  exact Nat.le_trans (List.length_filter_le _ _) (by simp)

/-! ### growing dicts -/
def growing (s : Nat × Option Nat × Nat) : Prop := ∀ l, s.2.1 = some l → s.1 ≤ l
theorem growing_step {s : Nat × Option Nat × Nat} (h : growing s) (n : Int) : growing (stepS s n) ∧ s.1 ≤ (stepS s n).1 := by
  unfold stepS
  obtain ⟨s0, s1, s2⟩ := s
  cases s1 with
  | none => exact ⟨h, Nat.le_refl _⟩
  | some l =>
    dsimp only
    split
    · exact ⟨fun l' e => h l' e, Nat.le_refl _⟩
    · exact ⟨fun l' e => (by cases e), h l rfl⟩
theorem growing_A {d : Dm} (hok : d.Ok) (h : growing (Dint.shape d)) : 2 ^ scanA d = (Dint.shape d).1 := by
  cases ht : d.t1 with
  | none => exact (scan_none hok ht).1.symm
  | some t =>
    have h1 := (scan_some hok ht).2.2.2
    have h2 : d.t0.len ≤ t.len := h t.len (by unfold Dint.shape; rw [ht]; rfl)
    show _ = d.t0.len
    rcases h1 with ⟨_, h, _⟩ | ⟨_, _, _, h⟩ <;> omega
theorem growing_up {d d' : Dm} (hok : d.Ok) (hok' : d'.Ok) (h : growing (Dint.shape d)) {n : Int} (hs : Dint.shape d' = stepS (Dint.shape d) n) : growing (Dint.shape d') ∧ scanA d ≤ scanA d' := by
  obtain ⟨h1, h2⟩ := growing_step h n
  rw [← hs] at h1 h2
  refine ⟨h1, pow_le_of ?_⟩
  rw [growing_A hok h, growing_A hok' h1]
  exact h2

end Go.Proofs.Ythbjjjcppijcbaa
