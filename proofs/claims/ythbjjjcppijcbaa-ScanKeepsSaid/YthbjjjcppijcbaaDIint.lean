/- Dicts told by what they hold: the contracts in one page. -/
import Derived.Test.YthbjjjcppijcbaaDW9int
namespace Go.Proofs.Ythbjjjcppijcbaa.Dint
open Go.RowKit Pal

def Dm.look (d : Dm) (k : ByteArray) : Option Value := (d.nodes.find? fun x => decide (x.key = k)).map (·.v)
theorem look_none {d : Dm} {k : ByteArray} : d.look k = none ↔ ∀ x ∈ d.nodes, x.key ≠ k := by
  unfold Dm.look
  simp
theorem nodup_keys_eq : ∀ {l : List Nd}, (l.map (·.key)).Nodup → ∀ {x y : Nd}, x ∈ l → y ∈ l → x.key = y.key → x = y
  | [], _, _, _, hx, _, _ => by cases hx
  | z :: l, hn, x, y, hx, hy, e => by
    rw [List.map_cons, List.nodup_cons] at hn
    rcases List.mem_cons.1 hx with h1 | h1 <;> rcases List.mem_cons.1 hy with h2 | h2
    · rw [h1, h2]
    · exact absurd (List.mem_map.2 ⟨y, h2, by rw [← e, h1]⟩) hn.1
    · exact absurd (List.mem_map.2 ⟨x, h1, by rw [e, h2]⟩) hn.1
    · exact nodup_keys_eq hn.2 h1 h2 e
theorem look_of {d : Dm} (hk : (d.nodes.map (·.key)).Nodup) {x : Nd} (hx : x ∈ d.nodes) : d.look x.key = some x.v := by
  unfold Dm.look
  cases h : d.nodes.find? (fun y => decide (y.key = x.key)) with
  | none => rw [List.find?_eq_none] at h; exact absurd (h x hx) (by simp)
  | some y =>
    have h1 := List.mem_of_find?_eq_some h
    have h2 := List.find?_some h
    rw [nodup_keys_eq hk h1 hx (by simpa using h2)]; rfl
theorem look_some {d : Dm} (hk : (d.nodes.map (·.key)).Nodup) {k : ByteArray} {v : Value} : d.look k = some v ↔ ∃ x ∈ d.nodes, x.key = k ∧ x.v = v := by
  constructor
  · intro h
    unfold Dm.look at h
    rw [Option.map_eq_some_iff] at h
    obtain ⟨x, h1, h2⟩ := h
    exact ⟨x, List.mem_of_find?_eq_some h1, by simpa using List.find?_some h1, h2⟩
  · rintro ⟨x, hx, rfl, rfl⟩
    exact look_of hk hx
theorem look_ext {d d' : Dm} (hk : (d.nodes.map (·.key)).Nodup) (hk' : (d'.nodes.map (·.key)).Nodup) {k : ByteArray} (h : ∀ v, (∃ x ∈ d'.nodes, x.key = k ∧ x.v = v) ↔ ∃ x ∈ d.nodes, x.key = k ∧ x.v = v) : d'.look k = d.look k := by
  apply Option.ext
  intro v
  rw [look_some hk, look_some hk']
  exact h v
theorem look_perm {d d' : Dm} (hk : (d.nodes.map (·.key)).Nodup) (h : d'.nodes.Perm d.nodes) (k : ByteArray) : d'.look k = d.look k :=
  look_ext hk ((h.map _).nodup_iff.2 hk) fun v => ⟨fun ⟨x, hx, e⟩ => ⟨x, h.mem_iff.1 hx, e⟩, fun ⟨x, hx, e⟩ => ⟨x, h.mem_iff.2 hx, e⟩⟩
theorem look_put {d d' : Dm} {x : Nd} {v : Value} {r : List Nd} (hk : (d.nodes.map (·.key)).Nodup) (hk' : (d'.nodes.map (·.key)).Nodup) (hp : d.nodes.Perm (x :: r)) (hp' : d'.nodes.Perm ({ x with v := v } :: r)) (k : ByteArray) :
    d'.look k = if k = x.key then some v else d.look k := by
  split
  · rename_i e
    exact (look_some hk').2 ⟨_, hp'.mem_iff.2 (List.mem_cons_self), e.symm, rfl⟩
  · rename_i e
    refine look_ext hk hk' fun u => ⟨?_, ?_⟩
    · rintro ⟨y, hy, h1, h2⟩
      rcases List.mem_cons.1 (hp'.mem_iff.1 hy) with rfl | h
      · exact absurd h1.symm e
      · exact ⟨y, hp.mem_iff.2 (List.mem_cons_of_mem _ h), h1, h2⟩
    · rintro ⟨y, hy, h1, h2⟩
      rcases List.mem_cons.1 (hp.mem_iff.1 hy) with rfl | h
      · exact absurd h1.symm e
      · exact ⟨y, hp'.mem_iff.2 (List.mem_cons_of_mem _ h), h1, h2⟩
theorem look_new {d d' : Dm} {x : Nd} (hk : (d.nodes.map (·.key)).Nodup) (hk' : (d'.nodes.map (·.key)).Nodup) (hp' : d'.nodes.Perm (x :: d.nodes)) (k : ByteArray) :
    d'.look k = if k = x.key then some x.v else d.look k := by
  split
  · rename_i e
    exact (look_some hk').2 ⟨_, hp'.mem_iff.2 (List.mem_cons_self), e.symm, rfl⟩
  · rename_i e
    refine look_ext hk hk' fun u => ⟨?_, ?_⟩
    · rintro ⟨y, hy, h1, h2⟩
      rcases List.mem_cons.1 (hp'.mem_iff.1 hy) with rfl | h
      · exact absurd h1.symm e
      · exact ⟨y, h, h1, h2⟩
    · rintro ⟨y, hy, h1, h2⟩
      exact ⟨y, hp'.mem_iff.2 (List.mem_cons_of_mem _ hy), h1, h2⟩
theorem look_del {d d' : Dm} {x : Nd} (hk : (d.nodes.map (·.key)).Nodup) (hp : d.nodes.Perm (x :: d'.nodes)) (k : ByteArray) :
    d'.look k = if k = x.key then none else d.look k := by
  have hk2 := (hp.map (·.key)).nodup_iff.1 hk
  rw [List.map_cons, List.nodup_cons] at hk2
  split
  · rename_i e
    rw [look_none]
    intro y hy h
    exact hk2.1 (List.mem_map.2 ⟨y, hy, h.trans e⟩)
  · rename_i e
    refine look_ext hk hk2.2 fun u => ⟨?_, ?_⟩
    · rintro ⟨y, hy, h1, h2⟩
      exact ⟨y, hp.mem_iff.2 (List.mem_cons_of_mem _ hy), h1, h2⟩
    · rintro ⟨y, hy, h1, h2⟩
      rcases List.mem_cons.1 (hp.mem_iff.1 hy) with rfl | h
      · exact absurd h1.symm e
      · exact ⟨y, h, h1, h2⟩

/-! ### sizes -/
def stepN (s : Nat × Option Nat × Nat) (n : Int) : Nat := if s.2.1.isSome then min n.toNat (s.1 - s.2.2) else 0
def stepS (s : Nat × Option Nat × Nat) (n : Int) : Nat × Option Nat × Nat :=
  match s.2.1 with
  | none => s
  | some l => if s.2.2 + n.toNat < s.1 then (s.1, some l, s.2.2 + n.toNat) else (l, none, 0)
theorem stepK_shape (d : Dm) (n : Int) : stepK d n = stepN (shape d) n := by
  unfold stepK stepN shape
  cases d.t1 <;> rfl
theorem moveN_t1 {d : Dm} {t : Tb} (h : d.Ok) (ht : d.t1 = some t) : ∀ k, d.at_ + k < d.t0.len → (moveN d k).t1.map Tb.len = some t.len
  | 0, _ => by show d.t1.map Tb.len = _; rw [ht]; rfl
  | k + 1, hk => by
    have ih := moveN_t1 h ht k (by omega)
    obtain ⟨h1, h2, h3⟩ := moveN_at h ht k (by omega)
    obtain ⟨t', ht'⟩ := Option.isSome_iff_exists.1 h1
    have hne : ¬ (moveN d k).at_ + 1 = (moveN d k).t0.len := by omega
    have e : moveN d (k + 1) = { moveN d k with t0 := (moveN d k).t0.set (moveN d k).at_ [], t1 := some (((moveN d k).t0.at (moveN d k).at_).foldl push t'), at_ := (moveN d k).at_ + 1 } := by
      show moveSlot (moveN d k) = _
      unfold moveSlot; rw [ht']; simp [hne]
    rw [e]
    rw [ht'] at ih
    show some (Tb.len _) = _
    rw [fold_len]
    exact ih
theorem stepD_shape {d : Dm} (h : d.Ok) (n : Int) : shape (stepD d n) = stepS (shape d) n := by
  cases ht : d.t1 with
  | none =>
    have e : stepD d n = d := by unfold stepD stepK; rw [ht]; rfl
    rw [e]; unfold stepS shape; rw [ht]; rfl
  | some t =>
    have hlt := h.atlt t ht
    have hk : stepK d n = min n.toNat (d.t0.len - d.at_) := by unfold stepK; rw [ht]; rfl
    unfold stepS
    have e1 : (shape d).2.1 = some t.len := by unfold shape; rw [ht]; rfl
    have e2 : (shape d).1 = d.t0.len := rfl
    have e3 : (shape d).2.2 = d.at_ := rfl
    rw [e1, e2, e3]
    dsimp only
    by_cases hc : d.at_ + n.toNat < d.t0.len
    · rw [if_pos hc]
      have hk' : stepK d n = n.toNat := by rw [hk]; omega
      obtain ⟨h1, h2, h3⟩ := moveN_at h ht n.toNat hc
      have h4 := moveN_t1 h ht n.toNat hc
      unfold stepD shape
      rw [hk', h2, h3, h4]
    · rw [if_neg hc]
      have hk' : stepK d n = d.t0.len - d.at_ := by rw [hk]; omega
      obtain ⟨h1, h2⟩ := moveN_all h ht
      have h3 := (moveN_ok h (d.t0.len - d.at_)).at0 h1
      unfold stepD shape
      rw [hk', h1, h2, h3]; rfl

/-! ### the contracts -/
structure Nx (d d' : Dm) (w w' : World) : Prop where
  dm : DmAt w' d'
  ok : d'.Ok
  blk : d'.blk = d.blk
  seed : d'.seed = d.seed
  chg : Chg d.foot w w'
  foot : ∀ g, d'.foot g → d.foot g ∨ w.heap.size ≤ g

theorem Nx.step {d : Dm} {n : Int} {w w' : World} (hok : d.Ok) (h : DmAt w' (stepD d n)) (hc : Chg d.foot w w') : Nx d (stepD d n) w w' ∧ (∀ k, (stepD d n).look k = d.look k) ∧ (stepD d n).n = d.n :=
  ⟨⟨h, moveN_ok hok _, (moveN_blk d _).1, (moveN_blk d _).2.1, hc, fun g hg => .inl (moveN_foot hok _ hg)⟩, fun k => look_perm hok.keys (moveN_perm hok _) k, (moveN_blk d _).2.2⟩

theorem Get_i (d : Dm) (key : ByteArray) (w : World) (h : DmAt w d) (hok : d.Ok) (hk : key.size ≤ 9223372036854775807) :
    Calls Try.prog 18 #[ptr d.blk, .string key] w fun e w' => e = .returned (.tuple #[(d.look key).getD (.int .i64 0), .bool (d.look key).isSome]) ∧ ∃ d', Nx d d' w w' ∧ (∀ k, d'.look k = d.look k) ∧ d'.n = d.n ∧ shape d' = stepS (shape d) 1 := by
  refine (Get_any d key w h hok hk).mono ?_
  rintro e w' ⟨h1, h2, h3⟩
  obtain ⟨h4, h5, h6⟩ := Nx.step hok h2 h3
  refine ⟨?_, stepD d 1, h4, h5, h6, stepD_shape hok 1⟩
  rcases h1 with ⟨x, hx, rfl, rfl⟩ | ⟨hno, rfl⟩
  · rw [look_of hok.keys hx]; rfl
  · rw [look_none.2 hno]; rfl

theorem Set_i (d : Dm) (key : ByteArray) (v : Value) (w : World) (h : DmAt w d) (hok : d.Ok) (hk : key.size ≤ 9223372036854775807) (hv : VOk v) (hn : d.n < 1152921504606846976) :
    Calls Try.prog 17 #[ptr d.blk, .string key, v] w fun e w' => e = .returned (.bool (d.look key).isNone) ∧ ∃ d', Nx d d' w w' ∧ (∀ k, d'.look k = if k = key then some v else d.look k) ∧
      d'.n = (if (d.look key).isNone then d.n + 1 else d.n) ∧ shape d' = if (d.look key).isNone then growS (stepS (shape d) 1) d.n else stepS (shape d) 1 := by
  refine (Set_any d key v w h hok hk hv hn).mono ?_
  rintro e w' ⟨d', ⟨h1, h2, h3, h4, h5, h6, h7⟩⟩
  have hnx : Nx d d' w w' := ⟨h1, h2, h3, h4, h5, h6⟩
  rw [stepD_shape hok 1] at h7
  rcases h7 with ⟨rfl, ⟨x, r, g1, rfl, g3⟩, g4⟩ | ⟨rfl, hno, ⟨x, rfl, rfl, g3⟩, g4⟩
  · have hx := look_of hok.keys (g1.mem_iff.2 (List.mem_cons_self) : x ∈ d.nodes)
    rw [hx]
    refine ⟨rfl, d', hnx, look_put hok.keys h2.keys g1 g3, ?_, g4⟩
    rw [h2.count, hok.count, g1.length_eq, g3.length_eq]; rfl
  · rw [look_none.2 hno]
    refine ⟨rfl, d', hnx, look_new hok.keys h2.keys g3, ?_, g4⟩
    rw [h2.count, hok.count, g3.length_eq]; rfl

theorem Delete_i (d : Dm) (key : ByteArray) (w : World) (h : DmAt w d) (hok : d.Ok) (hk : key.size ≤ 9223372036854775807) (hn : d.n < 1152921504606846976) :
    Calls Try.prog 19 #[ptr d.blk, .string key] w fun e w' => e = .returned (.bool (d.look key).isSome) ∧ ∃ d', Nx d d' w w' ∧ (∀ k, d'.look k = if k = key then none else d.look k) ∧
      d'.n = (if (d.look key).isSome then d.n - 1 else d.n) ∧ shape d' = if (d.look key).isSome then shrinkS (stepS (shape d) 1) (d.n - 1) else stepS (shape d) 1 := by
  refine (Delete_any d key w h hok hk hn).mono ?_
  rintro e w' ⟨d', ⟨h1, h2, h3, h4, h5, h6, h7⟩⟩
  have hnx : Nx d d' w w' := ⟨h1, h2, h3, h4, h5, h6⟩
  rw [stepD_shape hok 1] at h7
  rcases h7 with ⟨rfl, hno, g3, g4⟩ | ⟨rfl, ⟨x, rfl, g1⟩, g4⟩
  · have hl := look_none.2 hno
    rw [hl]
    refine ⟨rfl, d', hnx, fun k => ?_, ?_, g4⟩
    · rw [look_perm hok.keys g3]
      split
      · rename_i e; rw [e]; exact hl
      · rfl
    · rw [h2.count, hok.count, g3.length_eq]; rfl
  · have hx := look_of hok.keys (g1.mem_iff.2 (List.mem_cons_self) : x ∈ d.nodes)
    have hdn : d'.n = d.n - 1 := by rw [h2.count, hok.count, g1.length_eq]; rfl
    rw [hx]
    refine ⟨rfl, d', hnx, look_del hok.keys g1, hdn, ?_⟩
    rw [g4, hdn]; rfl

theorem Step_i (d : Dm) (n : Int) (w : World) (h : DmAt w d) (hok : d.Ok) :
    Calls Try.prog 20 #[ptr d.blk, .int .i64 n] w fun e w' => e = .returned (.int .i64 (stepN (shape d) n : Int)) ∧ ∃ d', Nx d d' w w' ∧ (∀ k, d'.look k = d.look k) ∧ d'.n = d.n ∧ shape d' = stepS (shape d) n := by
  refine (Step_any d n w h hok).mono ?_
  rintro e w' ⟨h1, h2, h3⟩
  obtain ⟨h4, h5, h6⟩ := Nx.step hok h2 h3
  exact ⟨by rw [h1, stepK_shape], stepD d n, h4, h5, h6, stepD_shape hok n⟩

theorem New_i (seed : Nat) (hs : seed < 4294967296) (w : World) :
    Calls Try.prog 15 #[.int .u32 (seed : Int)] w fun e w' => ∃ d, e = .returned (ptr d.blk) ∧ DmAt w' d ∧ d.Ok ∧ d.seed = seed ∧ d.n = 0 ∧ (∀ k, d.look k = none) ∧ shape d = (4, none, 0) ∧ (∀ g, d.foot g → w.heap.size ≤ g) ∧ Chg (fun _ => False) w w' := by
  refine (New_any seed w).mono ?_
  rintro e w' ⟨b, c, rfl, h1, h2, h3, h4⟩
  have hat : ∀ i, (newDm b c seed).t0.at i = [] := fun i => by
    unfold Tb.at newDm
    dsimp only
    rw [List.getD_eq_getElem?_getD, List.getElem?_replicate]
    split <;> rfl
  refine ⟨newDm b c seed, rfl, h1, ?_, rfl, rfl, fun k => rfl, rfl, fun g hg => ?_, h4⟩
  · exact { seed := hs, s0 := ⟨2, by omega, by omega, rfl⟩, s1 := fun _ e => (by cases e), in0 := fun i x _ hx => (by rw [hat i] at hx; cases hx), in1 := fun _ e => (by cases e), sums := fun x hx => (by cases hx), keys := List.nodup_nil, vok := fun x hx => (by cases hx), count := rfl, atlt := fun _ e => (by cases e), at0 := fun _ => rfl, moved := fun i hi => (by cases hi) }
  · rcases hg with rfl | rfl | ⟨t, ht, rfl⟩ | ⟨x, hx, rfl⟩
    · exact h2
    · exact h3
    · cases ht
    · cases hx

-- Try.func26
theorem Sizes_i (d : Dm) (w : World) (h : DmAt w d) :
    Calls Try.prog 26 #[ptr d.blk] w fun e w' => e = .returned (.tuple #[.int .i64 ((shape d).1 : Int), .int .i64 (((shape d).2.1.getD 0 : Nat) : Int), .int .i64 ((shape d).2.2 : Int)]) ∧ Chg (fun _ => False) w w' := Sizes_any d w h

end Go.Proofs.Ythbjjjcppijcbaa.Dint
