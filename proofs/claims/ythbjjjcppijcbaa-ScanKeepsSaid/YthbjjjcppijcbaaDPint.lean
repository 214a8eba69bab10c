/- A dict's plain steps: nodes put into a table, a slot moved. -/
import Derived.Test.YthbjjjcppijcbaaDMint
namespace Go.Proofs.Ythbjjjcppijcbaa.Dint
open Go.RowKit Pal

def Tb.Sized (t : Tb) : Prop := ∃ k, 2 ≤ k ∧ k ≤ 16 ∧ t.len = 2 ^ k
theorem Tb.Sized.pos {t : Tb} (h : t.Sized) : 4 ≤ t.len ∧ t.len ≤ 65536 := by
  obtain ⟨k, h2, h16, e⟩ := h
  have h3 : (2 : Nat) ^ 2 ≤ 2 ^ k := pow_mono h2
  have h4 : (2 : Nat) ^ k ≤ 2 ^ 16 := pow_mono h16
  omega
theorem Tb.Sized.set {t : Tb} (h : t.Sized) (i : Nat) (c : Ch) : (t.set i c).Sized := by
  obtain ⟨k, h2, h16, e⟩ := h
  exact ⟨k, h2, h16, by rw [Tb.set_len]; exact e⟩

def push (t : Tb) (x : Nd) : Tb := t.set (x.sum % t.len) (x :: t.at (x.sum % t.len))
theorem push_len (t : Tb) (x : Nd) : (push t x).len = t.len := Tb.set_len _ _ _
theorem push_blk (t : Tb) (x : Nd) : (push t x).blk = t.blk := rfl
theorem push_sized {t : Tb} (h : t.Sized) (x : Nd) : (push t x).Sized := h.set _ _
theorem fold_len : ∀ (c : Ch) (t : Tb), (c.foldl push t).len = t.len
  | [], _ => rfl
  | x :: c, t => (fold_len c (push t x)).trans (push_len t x)
theorem fold_blk : ∀ (c : Ch) (t : Tb), (c.foldl push t).blk = t.blk
  | [], _ => rfl
  | x :: c, t => (fold_blk c (push t x)).trans (push_blk t x)
theorem fold_sized : ∀ (c : Ch) {t : Tb}, t.Sized → (c.foldl push t).Sized
  | [], _, h => h
  | x :: c, _, h => fold_sized c (push_sized h x)

theorem flatten_set_perm {α : Type} : ∀ (l : List (List α)) (i : Nat) (c : List α), i < l.length → ((l.set i c).flatten ++ l.getD i []).Perm (l.flatten ++ c)
  | [], _, _, h => by cases h
  | a :: l, 0, c, _ => by
    simp only [List.set_cons_zero, List.flatten_cons, List.getD_cons_zero, List.append_assoc]
    exact (List.perm_append_comm).trans ((List.perm_append_comm.append_right c).trans (by rw [List.append_assoc]))
  | a :: l, i + 1, c, h => by
    simp only [List.set_cons_succ, List.flatten_cons, List.getD_cons_succ, List.append_assoc]
    exact List.Perm.append_left a (flatten_set_perm l i c (by simpa using h))
theorem nodes_set_perm (t : Tb) {i : Nat} (h : i < t.len) (c : Ch) : ((t.set i c).nodes ++ t.at i).Perm (t.nodes ++ c) := flatten_set_perm t.slots i c h
theorem nodes_push_perm {t : Tb} (h : 0 < t.len) (x : Nd) : (push t x).nodes.Perm (x :: t.nodes) := by
  have := nodes_set_perm t (Nat.mod_lt x.sum h) (x :: t.at (x.sum % t.len))
  have h2 : (t.nodes ++ x :: t.at (x.sum % t.len)).Perm ((x :: t.nodes) ++ t.at (x.sum % t.len)) := by
    exact List.perm_middle (a := x) (l₁ := t.nodes) (l₂ := t.at (x.sum % t.len))
  exact (List.perm_append_right_iff _).1 (this.trans h2)
theorem fold_push_perm : ∀ (c : Ch) {t : Tb}, 0 < t.len → (c.foldl push t).nodes.Perm (c ++ t.nodes)
  | [], _, _ => List.Perm.refl _
  | x :: c, t, h => by
    have h1 := fold_push_perm c (t := push t x) (by rw [push_len]; exact h)
    have h2 := List.Perm.append_left c (nodes_push_perm h x)
    exact (h1.trans h2).trans (List.perm_middle (a := x) (l₁ := c) (l₂ := t.nodes))

/-- One slot moved (while the dict moves). -/
def moveSlot (d : Dm) : Dm :=
  match d.t1 with
  | none => d
  | some t =>
    if d.at_ + 1 = d.t0.len then { d with t0 := (d.t0.at d.at_).foldl push t, t1 := none, at_ := 0 }
    else { d with t0 := d.t0.set d.at_ [], t1 := some ((d.t0.at d.at_).foldl push t), at_ := d.at_ + 1 }
def moveN (d : Dm) : Nat → Dm
  | 0 => d
  | k + 1 => moveSlot (moveN d k)
/-- How many slots are moved by a step of n. -/
def stepK (d : Dm) (n : Int) : Nat := if d.t1.isSome then min n.toNat (d.t0.len - d.at_) else 0
def stepD (d : Dm) (n : Int) : Dm := moveN d (stepK d n)

/-- What a dict keeps, told of its datum alone. -/
structure Dm.Ok (d : Dm) : Prop where
  seed : d.seed < 4294967296
  s0 : d.t0.Sized
  s1 : ∀ t, d.t1 = some t → t.Sized
  in0 : ∀ i x, i < d.t0.len → x ∈ d.t0.at i → x.sum % d.t0.len = i
  in1 : ∀ t, d.t1 = some t → ∀ i x, i < t.len → x ∈ t.at i → x.sum % t.len = i
  sums : ∀ x ∈ d.nodes, x.sum = sumN d.seed x.key.data.toList
  keys : (d.nodes.map (·.key)).Nodup
  vok : ∀ x ∈ d.nodes, VOk x.v
  count : d.n = d.nodes.length
  atlt : ∀ t, d.t1 = some t → d.at_ < d.t0.len
  at0 : d.t1 = none → d.at_ = 0
  moved : ∀ i, i < d.at_ → d.t0.at i = []

theorem Dm.Ok.sum_lt {d : Dm} (h : d.Ok) {x : Nd} (hx : x ∈ d.nodes) : x.sum < 4294967296 := by rw [h.sums x hx]; exact sumN_lt _ _

theorem mem_push {t : Tb} (h : 0 < t.len) {x y : Nd} : y ∈ (push t x).nodes ↔ y = x ∨ y ∈ t.nodes := by
  rw [(nodes_push_perm h x).mem_iff]; simp
theorem in_push {t : Tb} (h0 : 0 < t.len) (h : ∀ i x, i < t.len → x ∈ t.at i → x.sum % t.len = i) (x : Nd) : ∀ i y, i < (push t x).len → y ∈ (push t x).at i → y.sum % (push t x).len = i := by
  intro i y hi hy
  rw [push_len] at hi ⊢
  unfold push at hy
  rw [Tb.set_at (Nat.mod_lt _ h0)] at hy
  split at hy
  · rename_i e
    rcases List.mem_cons.1 hy with rfl | hy
    · exact e
    · rw [← e]; exact h _ _ (Nat.mod_lt _ h0) hy
  · exact h i y hi hy
theorem in_fold : ∀ (c : Ch) {t : Tb}, 0 < t.len → (∀ i x, i < t.len → x ∈ t.at i → x.sum % t.len = i) → ∀ i y, i < (c.foldl push t).len → y ∈ (c.foldl push t).at i → y.sum % (c.foldl push t).len = i
  | [], _, _, h => h
  | x :: c, t, h0, h => in_fold c (t := push t x) (by rw [push_len]; exact h0) (in_push h0 h x)

theorem moveSlot_perm {d : Dm} (h : d.Ok) : (moveSlot d).nodes.Perm d.nodes := by
  unfold moveSlot
  split
  · exact List.Perm.refl _
  · rename_i t ht
    have hlt := h.atlt t ht
    have hp := fold_push_perm (d.t0.at d.at_) (t := t) (by have := (h.s1 t ht).pos; omega)
    have hs := nodes_set_perm d.t0 hlt []
    rw [List.append_nil] at hs
    split
    · rename_i hl
      have e : (d.t0.set d.at_ []).nodes = [] := by
        rw [List.eq_nil_iff_forall_not_mem]
        intro x hx
        obtain ⟨i, hi, hxi⟩ := mem_nodes.1 hx
        rw [Tb.set_len] at hi
        rw [Tb.set_at hlt] at hxi
        split at hxi
        · cases hxi
        · rw [h.moved i (by omega)] at hxi; cases hxi
      rw [e, List.nil_append] at hs
      have e2 : (({ d with t0 := (d.t0.at d.at_).foldl push t, t1 := none, at_ := 0 } : Dm)).nodes = ((d.t0.at d.at_).foldl push t).nodes := by
        unfold Dm.nodes Dm.nodes1; simp
      rw [e2]
      refine hp.trans ?_
      unfold Dm.nodes Dm.nodes1
      rw [ht]
      exact hs.append_right _
    · have e2 : (({ d with t0 := d.t0.set d.at_ [], t1 := some ((d.t0.at d.at_).foldl push t), at_ := d.at_ + 1 } : Dm)).nodes = (d.t0.set d.at_ []).nodes ++ ((d.t0.at d.at_).foldl push t).nodes := rfl
      rw [e2]
      refine (List.Perm.append_left _ hp).trans ?_
      rw [← List.append_assoc]
      unfold Dm.nodes Dm.nodes1
      rw [ht]
      exact hs.append_right _

theorem moveSlot_ok {d : Dm} (h : d.Ok) : (moveSlot d).Ok := by
  have hp := moveSlot_perm h
  have hseed : (moveSlot d).seed = d.seed := by unfold moveSlot; split <;> try rfl
                                                split <;> rfl
  have hn : (moveSlot d).n = d.n := by unfold moveSlot; split <;> try rfl
                                       split <;> rfl
  have hsums : ∀ x ∈ (moveSlot d).nodes, x.sum = sumN (moveSlot d).seed x.key.data.toList := fun x hx => by rw [hseed]; exact h.sums x (hp.mem_iff.1 hx)
  have hkeys : ((moveSlot d).nodes.map (·.key)).Nodup := (hp.map _).nodup_iff.2 h.keys
  have hvok : ∀ x ∈ (moveSlot d).nodes, VOk x.v := fun x hx => h.vok x (hp.mem_iff.1 hx)
  have hcount : (moveSlot d).n = (moveSlot d).nodes.length := by rw [hn, hp.length_eq]; exact h.count
  cases ht : d.t1 with
  | none =>
    have : moveSlot d = d := by unfold moveSlot; rw [ht]
    rw [this]; exact h
  | some t =>
    have hlt := h.atlt t ht
    have hpos : 0 < t.len := by have := (h.s1 t ht).pos; omega
    have hfs := fold_sized (d.t0.at d.at_) (h.s1 t ht)
    have hfi := in_fold (d.t0.at d.at_) hpos (h.in1 t ht)
    by_cases hl : d.at_ + 1 = d.t0.len
    · have e : moveSlot d = { d with t0 := (d.t0.at d.at_).foldl push t, t1 := none, at_ := 0 } := by unfold moveSlot; rw [ht]; simp [hl]
      rw [e] at hsums hkeys hcount hvok ⊢
      exact { seed := h.seed, s0 := hfs, s1 := fun _ h => (by cases h), in0 := hfi, in1 := fun _ h => (by cases h), sums := hsums, keys := hkeys, vok := hvok, count := hcount, atlt := fun _ h => (by cases h), at0 := fun _ => rfl, moved := fun i hi => (by cases hi) }
    · have e : moveSlot d = { d with t0 := d.t0.set d.at_ [], t1 := some ((d.t0.at d.at_).foldl push t), at_ := d.at_ + 1 } := by unfold moveSlot; rw [ht]; simp [hl]
      rw [e] at hsums hkeys hcount hvok ⊢
      refine { seed := h.seed, s0 := h.s0.set _ _, s1 := ?_, in0 := ?_, in1 := ?_, sums := hsums, keys := hkeys, vok := hvok, count := hcount, atlt := ?_, at0 := fun h => (by cases h), moved := ?_ }
      · intro t' ht'; injection ht' with ht'; subst ht'; exact hfs
      · intro i x hi hx
        show x.sum % (d.t0.set d.at_ []).len = i
        rw [Tb.set_len]
        have hi' : i < d.t0.len := by have := Tb.set_len d.t0 d.at_ []; simp only [] at hi; omega
        have hx' : x ∈ (d.t0.set d.at_ []).at i := hx
        rw [Tb.set_at hlt] at hx'
        split at hx'
        · cases hx'
        · exact h.in0 i x hi' hx'
      · intro t' ht'; injection ht' with ht'; subst ht'; exact hfi
      · intro t' _
        show d.at_ + 1 < (d.t0.set d.at_ []).len
        rw [Tb.set_len]; omega
      · intro i hi
        show (d.t0.set d.at_ []).at i = []
        have hi : i < d.at_ + 1 := hi
        rw [Tb.set_at hlt]
        split
        · rfl
        · exact h.moved i (by omega)

theorem moveN_ok {d : Dm} (h : d.Ok) : ∀ k, (moveN d k).Ok
  | 0 => h
  | k + 1 => moveSlot_ok (moveN_ok h k)
theorem moveN_perm {d : Dm} (h : d.Ok) : ∀ k, (moveN d k).nodes.Perm d.nodes
  | 0 => List.Perm.refl _
  | k + 1 => (moveSlot_perm (moveN_ok h k)).trans (moveN_perm h k)
theorem moveSlot_blk (d : Dm) : (moveSlot d).blk = d.blk ∧ (moveSlot d).seed = d.seed ∧ (moveSlot d).n = d.n := by
  unfold moveSlot; split
  · exact ⟨rfl, rfl, rfl⟩
  · split <;> exact ⟨rfl, rfl, rfl⟩
theorem moveN_blk (d : Dm) : ∀ k, (moveN d k).blk = d.blk ∧ (moveN d k).seed = d.seed ∧ (moveN d k).n = d.n
  | 0 => ⟨rfl, rfl, rfl⟩
  | k + 1 => by
    obtain ⟨h1, h2, h3⟩ := moveSlot_blk (moveN d k)
    obtain ⟨g1, g2, g3⟩ := moveN_blk d k
    exact ⟨h1.trans g1, h2.trans g2, h3.trans g3⟩
theorem moveSlot_foot {d : Dm} (h : d.Ok) {g : Nat} (hg : (moveSlot d).foot g) : d.foot g := by
  have hp := moveSlot_perm h
  have hb := (moveSlot_blk d).1
  have hnd : ∀ x, x ∈ (moveSlot d).nodes → x ∈ d.nodes := fun x hx => hp.mem_iff.1 hx
  rcases hg with rfl | rfl | ⟨t, ht, rfl⟩ | ⟨x, hx, rfl⟩
  · exact .inl hb
  · unfold moveSlot
    split
    · exact .inr (.inl rfl)
    · rename_i t ht
      split
      · exact .inr (.inr (.inl ⟨t, ht, fold_blk _ _⟩))
      · exact .inr (.inl rfl)
  · unfold moveSlot at ht
    split at ht
    · exact .inr (.inr (.inl ⟨t, ht, rfl⟩))
    · rename_i t' ht'
      split at ht
      · cases ht
      · injection ht with ht
        rw [← ht]
        exact .inr (.inr (.inl ⟨t', ht', fold_blk _ _⟩))
  · exact .inr (.inr (.inr ⟨x, hnd x hx, rfl⟩))
theorem moveN_foot {d : Dm} (h : d.Ok) : ∀ (k : Nat) {g : Nat}, (moveN d k).foot g → d.foot g
  | 0, _, hg => hg
  | k + 1, _, hg => moveN_foot h k (moveSlot_foot (moveN_ok h k) hg)
/-- While it moves: the first slots. -/
theorem moveN_at {d : Dm} {t : Tb} (h : d.Ok) (ht : d.t1 = some t) : ∀ k, d.at_ + k < d.t0.len → ((moveN d k).t1.isSome = true ∧ (moveN d k).at_ = d.at_ + k ∧ (moveN d k).t0.len = d.t0.len)
  | 0, _ => ⟨by simp [moveN, ht], rfl, rfl⟩
  | k + 1, hk => by
    obtain ⟨h1, h2, h3⟩ := moveN_at h ht k (by omega)
    obtain ⟨t', ht'⟩ := Option.isSome_iff_exists.1 h1
    have hne : ¬ (moveN d k).at_ + 1 = (moveN d k).t0.len := by omega
    have e : moveN d (k + 1) = { moveN d k with t0 := (moveN d k).t0.set (moveN d k).at_ [], t1 := some (((moveN d k).t0.at (moveN d k).at_).foldl push t'), at_ := (moveN d k).at_ + 1 } := by
      show moveSlot (moveN d k) = _
      unfold moveSlot; rw [ht']; simp [hne]
    rw [e]
    refine ⟨rfl, ?_, ?_⟩
    · show (moveN d k).at_ + 1 = d.at_ + (k + 1); omega
    · show ((moveN d k).t0.set _ _).len = _; rw [Tb.set_len]; exact h3
/-- All slots moved: it moves no more. -/
theorem moveN_all {d : Dm} {t : Tb} (h : d.Ok) (ht : d.t1 = some t) : (moveN d (d.t0.len - d.at_)).t1 = none ∧ (moveN d (d.t0.len - d.at_)).t0.len = t.len := by
  have hlt := h.atlt t ht
  obtain ⟨k, hk⟩ : ∃ k, d.t0.len - d.at_ = k + 1 := ⟨d.t0.len - d.at_ - 1, by omega⟩
  rw [hk]
  obtain ⟨h1, h2, h3⟩ := moveN_at h ht k (by omega)
  obtain ⟨t', ht'⟩ := Option.isSome_iff_exists.1 h1
  have hl : (moveN d k).at_ + 1 = (moveN d k).t0.len := by omega
  have e : moveN d (k + 1) = { moveN d k with t0 := ((moveN d k).t0.at (moveN d k).at_).foldl push t', t1 := none, at_ := 0 } := by
    show moveSlot (moveN d k) = _
    unfold moveSlot; rw [ht']; simp [hl]
  rw [e]
  refine ⟨rfl, ?_⟩
  show (List.foldl push t' _).len = t.len
  rw [fold_len]
  have key : ∀ j, d.at_ + j < d.t0.len → ∀ t'', (moveN d j).t1 = some t'' → t''.len = t.len := by
    intro j
    induction j with
    | zero => intro _ t'' h''; have h'' : d.t1 = some t'' := h''; rw [ht] at h''; injection h'' with h''; rw [h'']
    | succ j ih =>
      intro hj t'' h''
      obtain ⟨g1, g2, g3⟩ := moveN_at h ht j (by omega)
      obtain ⟨u, hu⟩ := Option.isSome_iff_exists.1 g1
      have hne : ¬ (moveN d j).at_ + 1 = (moveN d j).t0.len := by omega
      have e : moveN d (j + 1) = { moveN d j with t0 := (moveN d j).t0.set (moveN d j).at_ [], t1 := some (((moveN d j).t0.at (moveN d j).at_).foldl push u), at_ := (moveN d j).at_ + 1 } := by
        show moveSlot (moveN d j) = _
        unfold moveSlot; rw [hu]; simp [hne]
      rw [e] at h''
      injection h'' with h''
      rw [← h'', fold_len]
      exact ih (by omega) u hu
  exact key k (by omega) t' ht'

end Go.Proofs.Ythbjjjcppijcbaa.Dint
