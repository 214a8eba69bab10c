/- A dict in memory, told by a plain datum with its blocks. -/
import Derived.Test.YthbjjjcppijcbaaProg
import Derived.Test.YthbjjjcppijcbaaRF
import Derived.Test.YthbjjjcppijcbaaHM
namespace Go.Proofs.Ythbjjjcppijcbaa.Dint
open Go.RowKit Pal

/-- What a thing may be. -/
def VOk (v : Value) : Prop := ∃ n : Int, v = .int .i64 n
/-- A node: its block, its hash, key and thing. -/
structure Nd where
  blk : Nat
  sum : Nat
  key : ByteArray
  v : Value

abbrev Ch := List Nd
def ptr (b : Nat) : Value := .pointer (some ⟨b, 0, none⟩)
def hd : Ch → Value
  | [] => .pointer none
  | x :: _ => ptr x.blk
def ndCells (x : Nd) (nx : Value) : Array Value := #[.int .u32 (x.sum : Int), .string x.key, x.v, nx]
def chAt (w : World) : Ch → Prop
  | [] => True
  | x :: r => Blk w x.blk 83 (ndCells x (hd r)) ∧ chAt w r

structure Tb where
  blk : Nat
  slots : List Ch

def Tb.len (t : Tb) : Nat := t.slots.length
def Tb.at (t : Tb) (i : Nat) : Ch := t.slots.getD i []
def Tb.set (t : Tb) (i : Nat) (c : Ch) : Tb := { t with slots := t.slots.set i c }
def Tb.nodes (t : Tb) : List Nd := t.slots.flatten
def tbCells (t : Tb) : Array Value := (t.slots.map hd).toArray
def tbVal (t : Tb) : Value := .slice (some ⟨t.blk, 0, none⟩) t.len t.len
def tbAt (w : World) (t : Tb) : Prop := Blk w t.blk 81 (tbCells t) ∧ ∀ c ∈ t.slots, chAt w c

structure Dm where
  blk : Nat
  seed : Nat
  t0 : Tb
  t1 : Option Tb
  at_ : Nat
  n : Nat

def Dm.nodes1 (d : Dm) : List Nd := match d.t1 with | none => [] | some t => t.nodes
def Dm.nodes (d : Dm) : List Nd := d.t0.nodes ++ d.nodes1
def t1Val : Option Tb → Value
  | none => .slice none 0 0
  | some t => tbVal t
def dmCells (d : Dm) : Array Value := #[.int .u32 (d.seed : Int), tbVal d.t0, t1Val d.t1, .int .i64 (d.at_ : Int), .int .i64 (d.n : Int)]
/-- The blocks of a dict. -/
def Dm.foot (d : Dm) (g : Nat) : Prop := g = d.blk ∨ g = d.t0.blk ∨ (∃ t, d.t1 = some t ∧ g = t.blk) ∨ ∃ x ∈ d.nodes, g = x.blk

structure DmAt (w : World) (d : Dm) : Prop where
  hd : Blk w d.blk 76 (dmCells d)
  a0 : tbAt w d.t0
  a1 : ∀ t, d.t1 = some t → tbAt w t
  ne : ∀ t, d.t1 = some t → d.t0.blk ≠ t.blk
  nodup : (d.nodes.map (·.blk)).Nodup

/-! ### lists -/
theorem Tb.at_lt {t : Tb} {i : Nat} (h : i < t.len) : t.slots[i]? = some (t.at i) := by
  unfold Tb.at; rw [List.getD_eq_getElem?_getD]; unfold Tb.len at h; rw [List.getElem?_eq_getElem h]; rfl
theorem Tb.at_mem {t : Tb} {i : Nat} (h : i < t.len) : t.at i ∈ t.slots := List.mem_of_getElem? (Tb.at_lt h)
theorem Tb.set_len (t : Tb) (i : Nat) (c : Ch) : (t.set i c).len = t.len := by simp [Tb.set, Tb.len]
theorem Tb.set_at {t : Tb} {i : Nat} (h : i < t.len) (c : Ch) (j : Nat) : (t.set i c).at j = if i = j then c else t.at j := by
  unfold Tb.at Tb.set Tb.len at *
  simp only [List.getD_eq_getElem?_getD, List.getElem?_set]
  by_cases e : i = j
  · subst e; simp [h]
  · simp [e]
theorem tbCells_get {t : Tb} {i : Nat} (h : i < t.len) : (tbCells t)[i]? = some (hd (t.at i)) := by
  unfold tbCells; simp [Tb.at_lt h]
theorem tbCells_set (t : Tb) (i : Nat) (c : Ch) : tbCells (t.set i c) = (tbCells t).setIfInBounds i (hd c) := by
  unfold tbCells Tb.set; simp [List.map_set]
theorem tbCells_size (t : Tb) : (tbCells t).size = t.len := by simp [tbCells, Tb.len]
theorem mem_nodes {t : Tb} {x : Nd} : x ∈ t.nodes ↔ ∃ i, i < t.len ∧ x ∈ t.at i := by
  unfold Tb.nodes; rw [List.mem_flatten]
  constructor
  · rintro ⟨c, hc, hx⟩
    obtain ⟨i, hi, rfl⟩ := List.mem_iff_getElem.1 hc
    exact ⟨i, hi, by have := Tb.at_lt (t := t) hi; rw [List.getElem?_eq_getElem hi] at this; injection this with this; rw [← this]; exact hx⟩
  · rintro ⟨i, hi, hx⟩; exact ⟨_, Tb.at_mem hi, hx⟩

/-! ### chains in memory -/
theorem chAt.chg {S : Nat → Prop} {w w' : World} (hc : Chg S w w') : ∀ {c : Ch}, chAt w c → (∀ x ∈ c, ¬ S x.blk) → chAt w' c
  | [], _, _ => trivial
  | _ :: _, ⟨h1, h2⟩, hS => ⟨h1.chg hc (hS _ (by simp)), chAt.chg hc h2 (fun x hx => hS x (by simp [hx]))⟩
theorem chAt.node {w : World} : ∀ {c : Ch} {pre : Ch} {x : Nd} {post : Ch}, chAt w c → c = pre ++ x :: post → Blk w x.blk 83 (ndCells x (hd post))
  | _, [], _, _, h, rfl => h.1
  | _, _ :: pre, _, _, h, rfl => chAt.node (pre := pre) h.2 rfl
theorem tbAt.chg {S : Nat → Prop} {w w' : World} {t : Tb} (hc : Chg S w w') (h : tbAt w t) (ht : ¬ S t.blk) (hS : ∀ x ∈ t.nodes, ¬ S x.blk) : tbAt w' t :=
  ⟨h.1.chg hc ht, fun c hcm => (h.2 c hcm).chg hc fun x hx => hS x (List.mem_flatten.2 ⟨c, hcm, hx⟩)⟩
theorem DmAt.chg {S : Nat → Prop} {w w' : World} {d : Dm} (h : DmAt w d) (hc : Chg S w w') (hS : ∀ g, d.foot g → ¬ S g) : DmAt w' d where
  hd := h.hd.chg hc (hS _ (.inl rfl))
  a0 := h.a0.chg hc (hS _ (.inr (.inl rfl))) fun x hx => hS _ (.inr (.inr (.inr ⟨x, by simp [Dm.nodes, hx], rfl⟩)))
  a1 := fun t ht => (h.a1 t ht).chg hc (hS _ (.inr (.inr (.inl ⟨t, ht, rfl⟩)))) fun x hx => hS _ (.inr (.inr (.inr ⟨x, by simp [Dm.nodes, Dm.nodes1, ht, hx], rfl⟩)))
  ne := h.ne
  nodup := h.nodup
theorem DmAt.chg0 {w w' : World} {d : Dm} (h : DmAt w d) (hc : Chg (fun _ => False) w w') : DmAt w' d := h.chg hc fun _ _ => id
theorem tbAt.node {w : World} {t : Tb} (h : tbAt w t) {x : Nd} (hx : x ∈ t.nodes) : ∃ nx, Blk w x.blk 83 (ndCells x nx) := by
  obtain ⟨c, hc, hxc⟩ := List.mem_flatten.1 hx
  obtain ⟨pre, post, rfl⟩ := List.append_of_mem hxc
  exact ⟨_, (h.2 _ hc).node rfl⟩
theorem DmAt.node {w : World} {d : Dm} (h : DmAt w d) {x : Nd} (hx : x ∈ d.nodes) : ∃ nx, Blk w x.blk 83 (ndCells x nx) := by
  unfold Dm.nodes Dm.nodes1 at hx
  rcases List.mem_append.1 hx with h0 | h1
  · exact h.a0.node h0
  · split at h1
    · cases h1
    · rename_i t ht; exact (h.a1 t ht).node h1
theorem DmAt.lt {w : World} {d : Dm} (h : DmAt w d) {g : Nat} (hg : d.foot g) : g < w.heap.size := by
  rcases hg with rfl | rfl | ⟨t, ht, rfl⟩ | ⟨x, hx, rfl⟩
  · exact h.hd.lt
  · exact h.a0.1.lt
  · exact (h.a1 t ht).1.lt
  · obtain ⟨nx, hb⟩ := h.node hx; exact hb.lt

theorem chAt.keep {w w' : World} (k : KeepC w w') : ∀ {c : Ch}, chAt w c → chAt w' c
  | [], _ => trivial
  | _ :: _, ⟨h1, h2⟩ => ⟨h1.keep k, chAt.keep k h2⟩
theorem tbAt.keep {w w' : World} {t : Tb} (h : tbAt w t) (k : KeepC w w') : tbAt w' t := ⟨h.1.keep k, fun c hc => (h.2 c hc).keep k⟩
theorem DmAt.keep {w w' : World} {d : Dm} (h : DmAt w d) (k : KeepC w w') : DmAt w' d where
  hd := h.hd.keep k
  a0 := h.a0.keep k
  a1 := fun t ht => (h.a1 t ht).keep k
  ne := h.ne
  nodup := h.nodup

/-! ### blocks of different kinds differ -/
theorem DmAt.t0_ne {w : World} {d : Dm} (h : DmAt w d) : d.t0.blk ≠ d.blk := h.a0.1.ne_type h.hd (by decide)
theorem DmAt.t1_ne {w : World} {d : Dm} (h : DmAt w d) {t : Tb} (ht : d.t1 = some t) : t.blk ≠ d.blk := (h.a1 t ht).1.ne_type h.hd (by decide)
theorem DmAt.nd_ne {w : World} {d : Dm} (h : DmAt w d) {x : Nd} (hx : x ∈ d.nodes) : x.blk ≠ d.blk ∧ x.blk ≠ d.t0.blk ∧ ∀ t, d.t1 = some t → x.blk ≠ t.blk := by
  obtain ⟨nx, hb⟩ := h.node hx
  exact ⟨hb.ne_type h.hd (by decide), hb.ne_type h.a0.1 (by decide), fun t ht => hb.ne_type (h.a1 t ht).1 (by decide)⟩
theorem mem_nodes0 {d : Dm} {x : Nd} (h : x ∈ d.t0.nodes) : x ∈ d.nodes := List.mem_append.2 (.inl h)
theorem mem_nodes1 {d : Dm} {t : Tb} (ht : d.t1 = some t) {x : Nd} (h : x ∈ t.nodes) : x ∈ d.nodes := by
  unfold Dm.nodes Dm.nodes1; rw [ht]; exact List.mem_append.2 (.inr h)
/-- A dict whose struct alone is written. -/
theorem DmAt.head {w w' : World} {d d' : Dm} (h : DmAt w d) (hc : Chg (fun g => g = d.blk) w w') (hh : Blk w' d'.blk 76 (dmCells d')) (e0 : d'.t0 = d.t0) (e1 : d'.t1 = d.t1) : DmAt w' d' where
  hd := hh
  a0 := by rw [e0]; exact h.a0.chg hc h.t0_ne fun x hx => (h.nd_ne (mem_nodes0 hx)).1
  a1 := fun t ht => by
    rw [e1] at ht
    exact (h.a1 t ht).chg hc (h.t1_ne ht) fun x hx => (h.nd_ne (mem_nodes1 ht hx)).1
  ne := fun t ht => by rw [e1] at ht; rw [e0]; exact h.ne t ht
  nodup := by
    have : d'.nodes = d.nodes := by unfold Dm.nodes Dm.nodes1; rw [e0, e1]
    rw [this]; exact h.nodup

end Go.Proofs.Ythbjjjcppijcbaa.Dint
