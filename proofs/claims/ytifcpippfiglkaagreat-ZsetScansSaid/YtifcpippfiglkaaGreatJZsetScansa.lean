/- Texts joined for ZsetScans: CIint64, Sh, SS, BKint64, BK2int64, BK3int64, CM, SCint64, SC2int64. -/
import Derived.Test.YtifcpippfiglkaaGreatJZsetWaysa
import Derived.Test.YtifcpippfiglkaaGreatJZsetWaysb
import Derived.Test.YtifcpippfiglkaaGreatJZsetWayse
import Derived.Test.YtifcpippfiglkaaGreatJZsetWaysf
import Derived.Test.YtifcpippfiglkaaGreatJZsetWaysg
import Derived.Test.YtifcpippfiglkaaGreatJZsetWaysi
import Derived.Test.YtifcpippfiglkaaGreatProg
import Derived.Shelf.Strconv.Itoa0
import Derived.Shelf.Sort.Plain
import Derived.Shelf.Slices.In.SortNone
import Derived.Sort.OwnSorted
import Derived.Lib.OwnBridge
import Derived.Stop.RegionWithIn
import Derived.Outline
import Derived.Laws.BitsAllLaws
set_option linter.unusedVariables false
set_option linter.unusedSimpArgs false

/- The iterator over a chain, as an iterator with its contract. -/
namespace Go.Proofs.YtifcpippfiglkaaGreat.Dint64
open Go.RowKit Pal

theorem chAt_suffix {w : World} : ∀ {pre r : Ch}, chAt w (pre ++ r) → chAt w r
  | [], _, h => h
  | _ :: pre, _, h => chAt_suffix (pre := pre) h.2
theorem chAt_mem {w : World} {c : Ch} (h : chAt w c) {x : Nd} (hx : x ∈ c) : ∃ nx, Blk w x.blk 160 (ndCells x nx) := by
  obtain ⟨pre, post, rfl⟩ := List.append_of_mem hx
  exact ⟨_, h.node rfl⟩
theorem chAt_same {w w' : World} : ∀ {c : Ch}, chAt w c → (∀ x ∈ c, w'.heap[x.blk]? = w.heap[x.blk]?) → chAt w' c
  | [], _, _ => trivial
  | x :: _, ⟨h1, h2⟩, h => ⟨(h x (by simp)).trans h1, chAt_same h2 fun y hy => h y (by simp [hy])⟩

def chF (B : Nat) (c : Ch) (g : Nat) : Prop := g = B ∨ ∃ x ∈ c, g = x.blk
def chIt (B : Nat) (c : Ch) (r : Ch) (W : World) : Prop := (∃ pre, pre ++ r = c) ∧ Blk W B 158 #[hd r] ∧ chAt W c

theorem chain_spec (B : Nat) (c : Ch) : IterSpec Tryz.prog 105 #[ptr B] (fun x : Nd => #[ptr x.blk]) (chF B c) (fun g => g = B) (chIt B c) (chIt B c) where
  sub := fun _ h => .inl h
  cells := by
    rintro r W k ⟨_, hb, hc⟩ (rfl | ⟨x, hx, rfl⟩)
    · exact ⟨_, _, _, hb⟩
    · obtain ⟨nx, h⟩ := chAt_mem hc hx
      exact ⟨_, _, _, h⟩
  far0 := by
    rintro r W W' ⟨hp, hb, hc⟩ _ hF
    exact ⟨hp, (hF B (.inl rfl)).trans hb, chAt_same hc fun x hx => hF _ (.inr ⟨x, hx, rfl⟩)⟩
  far := by
    rintro r W W' ⟨hp, hb, hc⟩ _ hF
    exact ⟨hp, (hF B (.inl rfl)).trans hb, chAt_same hc fun x hx => hF _ (.inr ⟨x, hx, rfl⟩)⟩
  call := by
    intro l I Ix hI hIx hY c0 W h0 hit0
    refine (chain1_any l B (fun r W => I r W ∧ chIt B c r W) (fun r W => I r W ∧ (∃ pre, pre ++ r = c) ∧ (∃ v, Blk W B 158 #[v]) ∧ chAt W c) Ix ?_ ?_ ?_ c0 W ⟨h0, hit0⟩).mono ?_
    · rintro r W ⟨_, _, hb, _⟩
      exact hb.cell 0
    · rintro x r W ⟨hi, hp, hb, hc⟩
      have hc' := hp
      obtain ⟨pre, hpre⟩ := hc'
      have hsuf : chAt W (x :: r) := chAt_suffix (pre := pre) (by rw [hpre]; exact hc)
      refine ⟨hsuf.1.cell 3, ?_⟩
      obtain ⟨fn, tmps, assign, body, hy, hR⟩ := hY x r W hi ⟨hp, hb, hc⟩
      refine ⟨fn, tmps, assign, body, hy, hR.mono ?_⟩
      rintro e W' ⟨_, hF, ⟨rfl, hi'⟩ | ⟨rfl, hx'⟩⟩
      · exact .inl ⟨rfl, hi', ⟨pre ++ [x], by simp [hpre]⟩, ⟨_, (hF B (.inl rfl)).trans hb⟩, chAt_same hc fun x hx => hF _ (.inr ⟨x, hx, rfl⟩)⟩
      · exact .inr ⟨rfl, hx'⟩
    · rintro r W ⟨hi, hp, ⟨v, hb⟩, hc⟩
      have hs : Chg (fun g => g = B) W (W.setCell ⟨B, 0, none⟩ (hd r)) := (Chg.refl (fun g => g = B) W).store rfl 0 _
      refine ⟨⟨v, hb.cell 0⟩, hb.frozen 0, hI _ _ _ hi hs, hp, hb.set 0 _, hc.chg hs fun y hy h' => ?_⟩
      obtain ⟨nx, hy'⟩ := chAt_mem hc hy
      exact hy'.ne_type hb (by decide) h'
    · rintro e W' ⟨hv, ⟨h, _⟩ | h⟩
      · exact ⟨hv, .inl h⟩
      · exact ⟨hv, .inr h⟩

end Go.Proofs.YtifcpippfiglkaaGreat.Dint64

/-
  DERIVED: THE SHELF's CONTRACTS AT THIS DUMP, IN PLAIN WORDS (tools/lay-plain.mjs out of 'TryzShelf.lean', which tools/lay-shelf.mjs wrote): THE SAME DECLARATIONS UNDER THE SAME NAMES: 'import', 'namespace', 'open', 'def', 'theorem' AND NOTHING ELSE: no command of the shelf's: FOR A HAND-IN. Each laying: the table of numbers ('.._ren') and one theorem, a field a fact of the dump's own or the kernel's comparison; each contract: ONE APPLICATION.
-/
namespace Go.Proofs
open Go.Shelf
def Tryz.lays129_ren : Go.Shelf.Ren := ⟨fun | 129 => 122 | n => n, fun | 53 => 203 | 3 => 3 | 4 => 4 | 46 => 32 | 5 => 5 | 9 => 9 | n => n, fun | n => n⟩
theorem Tryz.lays129 : Go.Proofs.Lays.n129 Tryz.prog Tryz.lays129_ren := {
  mixed := by kernel_rfl
  f129 := Tryz.func122.trans (congrArg some (by kernel_rfl))
  t3 := Tryz.underlying3
  a3 := Tryz.isAgg3
  z3 := Tryz.sizeOf3
  v3 := Tryz.zeroValue3
  t4 := Tryz.underlying4
  a4 := Tryz.isAgg4
  z4 := Tryz.sizeOf4
  v4 := Tryz.zeroValue4
  t5 := Tryz.underlying5
  a5 := Tryz.isAgg5
  z5 := Tryz.sizeOf5
  v5 := Tryz.zeroValue5
  t9 := Tryz.underlying9
  a9 := Tryz.isAgg9
  z9 := Tryz.sizeOf9
  v9 := Tryz.zeroValue9
  t46 := Tryz.underlying32
  a46 := Tryz.isAgg32
  z46 := Tryz.sizeOf32
  v46 := Tryz.zeroValue32
  t53 := Tryz.underlying203
  a53 := Tryz.isAgg203
  z53 := Tryz.sizeOf203
  v53 := Tryz.zeroValue203 }
/-- bits.Len64: "Len64 returns the minimum number of bits required to represent x; the result is 0 for x == 0.": IT RETURNS 'Lib.bitLen x'; the world is as it was. ('h0', 'h1': x is a uint64.) (LAID: no walk: one application.) -/
theorem Tryz.bits_Len64 (x : Int) (w : World) (h0 : 0 ≤ x) (h1 : x ≤ 18446744073709551615) :
    Calls Tryz.prog 122 #[.int .u64 x] w fun e w' => e = .returned (.int .i64 (Lib.bitLen x.toNat)) ∧ w' = w := Any.bits_Len64 Tryz.lays129 x w h0 h1
def Tryz.lays190_ren : Go.Shelf.Ren := ⟨fun | 190 => 98 | 125 => 107 | 258 => 106 | 128 => 121 | 129 => 122 | 302 => 112 | 303 => 113 | 304 => 114 | 305 => 115 | 306 => 116 | 307 => 117 | 308 => 118 | 309 => 119 | 310 => 120 | 333 => 126 | 329 => 127 | 330 => 128 | 334 => 129 | 335 => 130 | 336 => 80 | 344 => 131 | n => n, fun | 31 => 92 | 9 => 9 | 3 => 3 | 46 => 32 | 0 => 0 | 51 => 24 | 53 => 203 | 4 => 4 | 183 => 196 | 182 => 195 | 131 => 49 | 5 => 5 | 218 => 207 | 222 => 211 | 228 => 213 | 229 => 62 | n => n, fun | n => n⟩
theorem Tryz.lays190 : Go.Proofs.Lays.n190 Tryz.prog Tryz.lays190_ren := {
  mixed := by kernel_rfl
  f125 := Tryz.func107.trans (congrArg some (by kernel_rfl))
  f128 := Tryz.func121.trans (congrArg some (by kernel_rfl))
  f129 := Tryz.func122.trans (congrArg some (by kernel_rfl))
  f190 := Tryz.func98.trans (congrArg some (by kernel_rfl))
  f258 := Tryz.func106.trans (congrArg some (by kernel_rfl))
  f302 := Tryz.func112.trans (congrArg some (by kernel_rfl))
  f303 := Tryz.func113.trans (congrArg some (by kernel_rfl))
  f304 := Tryz.func114.trans (congrArg some (by kernel_rfl))
  f305 := Tryz.func115.trans (congrArg some (by kernel_rfl))
  f306 := Tryz.func116.trans (congrArg some (by kernel_rfl))
  f307 := Tryz.func117.trans (congrArg some (by kernel_rfl))
  f308 := Tryz.func118.trans (congrArg some (by kernel_rfl))
  f309 := Tryz.func119.trans (congrArg some (by kernel_rfl))
  f310 := Tryz.func120.trans (congrArg some (by kernel_rfl))
  f329 := Tryz.func127.trans (congrArg some (by kernel_rfl))
  f330 := Tryz.func128.trans (congrArg some (by kernel_rfl))
  f333 := Tryz.func126.trans (congrArg some (by kernel_rfl))
  f334 := Tryz.func129.trans (congrArg some (by kernel_rfl))
  f335 := Tryz.func130.trans (congrArg some (by kernel_rfl))
  f336 := Tryz.func80.trans (congrArg some (by kernel_rfl))
  f344 := Tryz.func131.trans (congrArg some (by kernel_rfl))
  t0 := Tryz.underlying0
  a0 := Tryz.isAgg0
  z0 := Tryz.sizeOf0
  v0 := Tryz.zeroValue0
  t3 := Tryz.underlying3
  a3 := Tryz.isAgg3
  z3 := Tryz.sizeOf3
  v3 := Tryz.zeroValue3
  t4 := Tryz.underlying4
  a4 := Tryz.isAgg4
  z4 := Tryz.sizeOf4
  v4 := Tryz.zeroValue4
  t5 := Tryz.underlying5
  a5 := Tryz.isAgg5
  z5 := Tryz.sizeOf5
  v5 := Tryz.zeroValue5
  t9 := Tryz.underlying9
  a9 := Tryz.isAgg9
  z9 := Tryz.sizeOf9
  v9 := Tryz.zeroValue9
  t31 := Tryz.underlying92
  a31 := Tryz.isAgg92
  z31 := Tryz.sizeOf92
  v31 := Tryz.zeroValue92
  t46 := Tryz.underlying32
  a46 := Tryz.isAgg32
  z46 := Tryz.sizeOf32
  v46 := Tryz.zeroValue32
  t51 := Tryz.underlying24
  a51 := Tryz.isAgg24
  z51 := Tryz.sizeOf24
  v51 := Tryz.zeroValue24
  t53 := Tryz.underlying203
  a53 := Tryz.isAgg203
  z53 := Tryz.sizeOf203
  v53 := Tryz.zeroValue203
  t131 := Tryz.underlying49
  a131 := Tryz.isAgg49
  z131 := Tryz.sizeOf49
  v131 := Tryz.zeroValue49
  t182 := Tryz.underlying195
  a182 := Tryz.isAgg195
  z182 := Tryz.sizeOf195
  v182 := Tryz.zeroValue195
  t183 := Tryz.underlying196
  a183 := Tryz.isAgg196
  z183 := Tryz.sizeOf196
  v183 := Tryz.zeroValue196
  t218 := Tryz.underlying207
  a218 := Tryz.isAgg207
  z218 := Tryz.sizeOf207
  v218 := Tryz.zeroValue207
  t222 := Tryz.underlying211
  a222 := Tryz.isAgg211
  z222 := Tryz.sizeOf211
  v222 := Tryz.zeroValue211
  t228 := Tryz.underlying213
  a228 := Tryz.isAgg213
  z228 := Tryz.sizeOf213
  v228 := Tryz.zeroValue213
  t229 := Tryz.underlying62
  a229 := Tryz.isAgg62
  z229 := Tryz.sizeOf62
  v229 := Tryz.zeroValue62 }
open Go.Sort Go.RowKit in
theorem Tryz.slices_Sort_string (blk off cap : Nat) (ss : List (List UInt8)) (w : World) (hH : Holds encStr w blk off ss.toArray) (hblk : blk < w.heap.size) (hsz : ss.length < 4611686018427387904) :
    Calls Tryz.prog 98 #[.slice (some ⟨blk, off, none⟩) ss.length cap] w fun e w' =>
      e = .returned (.tuple #[]) ∧ ∃ n os, w' = grow (putRow encStr (Sort.ahead w n) blk off (ss.mergeSort fun x y => decide (x ≤ y)).toArray) os := Any.slices_Sort_string Tryz.lays190 blk off cap ss w hH hblk hsz
open Go.RowKit Go.Sort in
/-- .. and plain. (LAID: no walk: one application.) -/
theorem Tryz.slices_Sort_string_none (p : Option Addr) (cap : Nat) (w : World) :
    Calls Tryz.prog 98 #[.slice p 0 cap] w fun e w' => e = .returned (.tuple #[]) ∧ w' = w := Any.slices_Sort_string_none Tryz.lays190 p cap w
end Go.Proofs

/- Slices of texts; slices.Sort of texts. -/
namespace Go.Proofs.YtifcpippfiglkaaGreat
open Go.RowKit Pal Go.Sort

theorem str_info : (Tryz.prog.info? 9).map (fun i => (i.zero, i.size, i.bytes)) = some (some (.string ⟨#[]⟩), 1, 16) := by kernel_rfl

/-- The value is a slice of the call's own that holds the texts l. -/
def Strs (w : World) (base : Nat) (v : Value) (l : List ByteArray) : Prop := w.ownsRow base 9 1 v l.length (l.map Value.string)

theorem Strs.nil (w : World) (base : Nat) : Strs w base (.slice none 0 0) [] := World.ownsRow_nil w base _ 1
theorem Strs.stay {w w' : World} {base : Nat} {v : Value} {l : List ByteArray} {F : Nat → Prop} (h : Strs w base v l) (hs : Stay F w w') (hn : ∀ g, v.ownBlock = some g → ¬ F g) : Strs w' base v l := own_stay h hs hn
theorem Strs.chg {w w' : World} {base : Nat} {v : Value} {l : List ByteArray} {F : Nat → Prop} (h : Strs w base v l) (hs : Chg F w w') (hn : ∀ g, v.ownBlock = some g → ¬ F g) : Strs w' base v l := own_stay h (.of_chg hs) hn
theorem Strs.lower {w : World} {base b : Nat} {v : Value} {l : List ByteArray} (h : Strs w base v l) (hb : b ≤ base) : Strs w b v l := by
  refine ⟨h.1, ?_⟩
  rcases h.2 with h0 | ⟨g, cap, cur, rfl, h1, rest⟩
  · exact .inl h0
  · exact .inr ⟨g, cap, cur, rfl, Nat.le_trans hb h1, rest⟩
theorem Strs.is {w : World} {base : Nat} {v : Value} {l : List ByteArray} (h : Strs w base v l) : ∃ p cap, v = .slice p l.length cap ∧ l.length ≤ cap ∧ cap ≤ maxLen ∧ (∀ g, p = some g → base ≤ g.block ∧ g.block < w.heap.size) := by
  rcases h.2 with ⟨rfl, h0⟩ | ⟨g, cap, cur, rfl, h1, h2, h3, h4, _⟩
  · exact ⟨none, 0, by rw [h0], by omega, by simp [maxLen], fun _ h => (by cases h)⟩
  · exact ⟨_, cap, rfl, h3, h4, fun g hg => by injection hg with hg; subst hg; exact ⟨h1, (Array.getElem?_eq_some_iff.1 h2).1⟩⟩
theorem Strs.reads {w : World} {base : Nat} {p : Option Addr} {n c : Nat} {l : List ByteArray} (h : Strs w base (.slice p n c) l) : Reads w w.heap.size 1 p l.length (l.map Value.string) := by
  have hn : n = l.length := by
    obtain ⟨_, _, e, _⟩ := h.is
    injection e
  subst hn
  exact Reads.of_own h

theorem Strs.own {w : World} {base : Nat} {v : Value} {l : List ByteArray} (h : Strs w base v l) : w.ownsRow base 9 1 v l.length (l.map Value.string) := h
theorem Strs.mk {w : World} {base n : Nat} {v : Value} {l : List ByteArray} {xs : List Value} (h : w.ownsRow base 9 1 v n xs) (hn : n = l.length) (hx : xs = l.map Value.string) : Strs w base v l := by
  subst hn; subst hx; exact h
theorem strs_one (l : List ByteArray) : ∀ u ∈ l.map Value.string, u.oneCell' = true := by
  intro u hu
  obtain ⟨x, _, rfl⟩ := List.mem_map.1 hu
  rfl

theorem Strs.at_ {w : World} {base k n c : Nat} {p : Option Addr} {l : List ByteArray} (h : Strs w base (.slice p n c) l) (hk : k < l.length) : ∃ g, p = some ⟨g, 0, none⟩ ∧ base ≤ g ∧ g < w.heap.size ∧ w.cell? ⟨g, k, none⟩ = some (.string l[k]) := by
  have h' := h
  rcases h'.2 with ⟨_, h0⟩ | ⟨g, cap, cur, he, hb, hg, _⟩
  · omega
  · injection he with he
    subst he
    have hc := World.ownsRow.cells h (g := g) rfl k (.string l[k]) (by simp [hk])
    refine ⟨g, rfl, hb, (Array.getElem?_eq_some_iff.1 hg).1, ?_⟩
    unfold Addr.add at hc
    split at hc
    · rename_i e; subst e; exact hc
    · simpa using hc
theorem toList_ne {a b : ByteArray} (h : ¬ a = b) : (a.toList == b.toList) = false := by
  rw [beq_eq_false_iff_ne]
  intro h'
  apply h
  rw [ByteArray.toList_eq, ByteArray.toList_eq] at h'
  cases a; cases b; simp_all
theorem toList_eq (a : ByteArray) : (a.toList == a.toList) = true := by simp
/-- Sorted, by their bytes. -/
def sortB (l : List ByteArray) : List ByteArray := ((l.map (·.data.toList)).mergeSort fun x y => decide (x ≤ y)).map fun x => ⟨x.toArray⟩
theorem sortB_perm (l : List ByteArray) : (sortB l).Perm l := by
  have h := (List.mergeSort_perm (l.map (·.data.toList)) fun x y => decide (x ≤ y)).map fun x => (⟨x.toArray⟩ : ByteArray)
  rw [List.map_map] at h
  have e : l.map ((fun x : List UInt8 => (⟨x.toArray⟩ : ByteArray)) ∘ (·.data.toList)) = l := by
    conv => rhs; rw [← List.map_id l]
    exact List.map_congr_left fun x _ => by simp
  rw [e] at h
  exact h
theorem sortB_length (l : List ByteArray) : (sortB l).length = l.length := (sortB_perm l).length_eq

theorem sort_any (v : Value) (l : List ByteArray) (base : Nat) (w : World) (h : Strs w base v l) (hl : l.length < 4611686018427387904) :
    Calls Tryz.prog 98 #[v] w fun e w' => e = .returned (.tuple #[]) ∧ Strs w' base v (sortB l) ∧ w.grownBy w' v.ownBlock := by
  rcases h.2 with ⟨rfl, h0⟩ | ⟨g, cap, cur, rfl, h1, h2, h3, h4, h5, h6⟩
  · have := List.eq_nil_of_length_eq_zero h0
    subst this
    refine (Tryz.slices_Sort_string_none none 0 w).mono ?_
    rintro e w' ⟨rfl, rfl⟩
    exact ⟨rfl, by simpa [sortB] using Strs.nil w' base, World.grownBy.refl _ _⟩
  · have ht : cur.toList.take (l.map (·.data.toList)).length = (l.map (·.data.toList)).map encStr := by
      rw [List.length_map, Lib.map_encStr, ← h6, Nat.mul_one]
    have hc := Tryz.slices_Sort_string g 0 cap (l.map (·.data.toList)) w (holds_of_block h2 ht) (Array.getElem?_eq_some_iff.1 h2).1 (by simpa using hl)
    rw [List.length_map] at hc
    refine hc.mono ?_
    rintro e w' ⟨rfl, n, os, rfl⟩
    refine ⟨rfl, ?_, grownBy_sorted _⟩
    have := ownsRow_sorted (w := w) (base := base) (g := g) (cap := cap) (n := n) (e := 9) (os := os) (cur := cur) (ss := l.map (·.data.toList)) (ts := (l.map (·.data.toList)).mergeSort fun x y => decide (x ≤ y)) (by simp) h1 h2 (by simpa using h3) h4 h5
    unfold Strs
    rw [sortB_length]
    have e : (sortB l).map Value.string = ((l.map (·.data.toList)).mergeSort fun x y => decide (x ≤ y)).map encStr := by
      unfold sortB
      rw [List.map_map]
      rfl
    rw [e]
    rw [List.length_map] at this
    exact this

end Go.Proofs.YtifcpippfiglkaaGreat

/- Bucket of a dict. -/
namespace Go.Proofs.YtifcpippfiglkaaGreat.Dint64
open Go.RowKit Pal
attribute [local go_sem] Oper.semAt_some

theorem addr_add (b o k : Nat) : (⟨b, o, none⟩ : Addr).add k = ⟨b, o + k, none⟩ := by
  unfold Addr.add; split
  · rename_i h; rw [h]; rfl
  · rfl

def keysAt (d : Dm) (ti si : Nat) : List ByteArray := match d.tab ti with
  | some t => sortB ((t.at si).map (·.key))
  | none => []

/-- What the rounds keep. -/
structure BkI (w0 : World) (c : Ch) (OB M : Nat) (r : Ch) (W : World) : Prop where
  ex : ∃ v, ∃ pre, pre ++ r = c ∧ Blk W OB 92 #[v] ∧ Strs W M v (pre.map (·.key))
  st : Stay (fun _ => False) w0 W
  M : M ≤ W.heap.size

set_option maxRecDepth 100000 in
set_option maxHeartbeats 1000000 in
theorem Bucket_yes (d : Dm) (ti si : Nat) (t : Tb) (w : World) (h : DmAt w d) (hok : d.Ok) (ht : d.tab ti = some t) (hti : ti < 2) (hsi : si < t.len) (hn : d.n < 1000000) :
    Calls Tryz.prog 82 #[ptr d.blk, .int .i64 (ti : Int), .int .i64 (si : Int)] w fun e w' => (∃ v, e = .returned (.tuple #[v, .int .i64 0]) ∧ Strs w' w.heap.size v (keysAt d ti si)) ∧ Chg (fun _ => False) w w' := by
  obtain ⟨c0, c1, c2, c3, c4, hf, hlt⟩ := dm_cells h
  have htab := tab_at h ht
  have hct := htab.1.cell si
  rw [tbCells_get hsi] at hct
  obtain ⟨q, HQ⟩ : ∃ q, Hid (hd (t.at si) = .pointer q) := by cases t.at si <;> exact ⟨_, rfl⟩
  rw [HQ.out] at hct
  have h0 : (0 : Int) ≤ (si : Int) := by omega
  have h1 : ((si : Int) < 0) = False := by simp only [eq_iff_iff, iff_false]; omega
  have h2 : ((si : Int) ≥ (t.len : Int)) = False := by simp only [eq_iff_iff, iff_false]; omega
  have h3 : (si : Int) < (t.len : Int) := by omega
  have hcell : w.cell? ⟨d.blk, 1 + ti, none⟩ = some (.slice (some ⟨t.blk, 0, none⟩) t.len t.len) := by
    rcases (by omega : ti = 0 ∨ ti = 1) with rfl | rfl
    · injection ht with ht
      subst ht
      exact c1
    · have ht : d.t1 = some t := ht
      rw [ht] at c2
      exact c2
  have h4 : ((ti : Int) < 0) = False := by simp only [eq_iff_iff, iff_false]; omega
  have h5 : ((ti : Int) ≥ 2) = False := by simp only [eq_iff_iff, iff_false]; omega
  have h6 : 0 ≤ (ti : Int) := by omega
  have h7 : (ti : Int) < 2 := by omega
  have hK : Hid (keysAt d ti si = sortB ((t.at si).map (·.key))) := by unfold Hid keysAt; rw [ht]
  have hltT := htab.1.lt
  have hclen : (t.at si).length < 1000000 := by
    have := (tab_perm ht hsi).length_eq
    rw [List.length_append, ← hok.count] at this
    omega
  have HD := Lib.hid h
  unfold ptr
  have hnd : ∀ y ∈ t.at si, y.blk < w.heap.size := fun y hy => h.lt (.inr (.inr (.inr ⟨y, tab_nodes ht (mem_nodes.2 ⟨_, hsi, hy⟩), rfl⟩)))
  clear ht c0 c1 c2 c3 c4
  · refine calls_of_wp_marks Tryz.func82 rfl ?_
    simp only [Tryz.ntmps82, List.size_toArray, List.length_cons, List.length_nil, Nat.reduceAdd, Nat.reduceSub, Array.replicate_succ, Array.replicate_zero, List.push_toArray, List.append_toArray, List.nil_append, List.cons_append]
    go_wp2_with (go_at_call 97; refine (chain_any _ _).mono ?_; rintro e w' ⟨rfl, rfl⟩)
    have hbo : Blk ((w.alloc (Obj.cells #[Value.slice none 0 0] 92)).alloc (Obj.cells #[Value.pointer q] 158)) w.heap.size 92 #[.slice none 0 0] := (Blk.new _ _ _).alloc _
    have hbb : Blk ((w.alloc (Obj.cells #[Value.slice none 0 0] 92)).alloc (Obj.cells #[Value.pointer q] 158)) (w.heap.size + 1) 158 #[hd (t.at si)] := by
      have := Blk.new (w.alloc (Obj.cells #[Value.slice none 0 0] 92)) 158 #[Value.pointer q]
      rw [HQ.out]
      rwa [World.size_alloc] at this
    have hS : Chg (fun _ => False) w ((w.alloc (Obj.cells #[Value.slice none 0 0] 92)).alloc (Obj.cells #[Value.pointer q] 158)) := ((Chg.refl _ _).alloc _).alloc _
    have hsz : ((w.alloc (Obj.cells #[Value.slice none 0 0] 92)).alloc (Obj.cells #[Value.pointer q] 158)).heap.size = w.heap.size + 2 := by simp
    generalize (w.alloc (Obj.cells #[Value.slice none 0 0] 92)).alloc (Obj.cells #[Value.pointer q] 158) = W0 at hbo hbb hS hsz ⊢
    have hFlt : ∀ k, chF (w.heap.size + 1) (t.at si) k → k < w.heap.size + 2 ∧ k ≠ w.heap.size := by
      rintro k (rfl | ⟨y, hy, rfl⟩)
      · omega
      · have := hnd y hy
        omega
    generalize hc : t.at si = c at *
    have hch : chAt W0 c := by
      rw [← hc]
      exact (htab.2 _ (Tb.at_mem hsi)).chg hS fun _ _ => id
    refine wp_range_it 105 #[ptr (w.heap.size + 1)] rfl (enters_of Tryz.func105 (by kernel_rfl) rfl) (chain_spec (w.heap.size + 1) c) (fun _ => rfl)
      (BkI w c w.heap.size (w.heap.size + 2)) ?_ (fun _ _ => False) (fun _ _ _ h => h.elim) c ?_ ?_ _ (fun l x W K hK => by gi_wp2; exact hK) ?_ ?_ (fun _ _ _ _ h => h.elim)
    · rintro r W W' ⟨⟨v, pre, h1, h2, h3⟩, h4, h5⟩ hs
      exact ⟨⟨v, pre, h1, h2.stay hs (by omega), h3.stay hs fun g hg h' => by have := (h3.lt g hg).1; omega⟩, h4.trans' hs fun g hg h' => by omega, Nat.le_trans h5 hs.size⟩
    · exact ⟨⟨_, [], rfl, hbo, Strs.nil _ _⟩, .of_chg hS, by omega⟩
    · exact ⟨⟨[], rfl⟩, hbb, hch⟩
    · rintro l x r W ⟨⟨v, pre, h1, h2, h3⟩, h4, h5⟩ ⟨⟨pre', hpre'⟩, g2, g3⟩ hle
      have hxc : x ∈ c := by rw [← hpre']; simp
      obtain ⟨nx, hx⟩ := chAt_mem g3 hxc
      have H1 := Lib.hid h1
      clear hpre' h1 hsz hc hS hbo hbb g2
      obtain ⟨pa, cp, rfl, hcp1, hcp2, hcp3⟩ := h3.is
      simp only [List.length_map] at h2 h3 hcp1
      have k0 := h2.cell 0
      have kf := h2.frozen 0
      have k1 := hx.cell 1
      simp only [ndCells, List.getElem?_toArray, List.getElem?_cons_zero, List.getElem?_cons_succ] at k0 k1
      have l1 := hx.lt
      have l2 := h2.lt
      obtain ⟨i0, hi0, hz0, hz1, hz2⟩ := info_parts str_info
      have hlen : pre.length < 1000000 := by
        have h1 := H1.out
        have : pre.length ≤ c.length := by rw [← h1]; simp
        omega
      have hlen2 : pre.length + 1 ≤ maxLen := by unfold maxLen; omega
      have hlen3 : (pre.length + 1) * 16 ≤ 140737488355328 := by omega
      have hr : Reads (W.alloc (Obj.cells #[Value.string x.key] 9)).drew (W.heap.size + 1) 1 (some ⟨W.heap.size, 0, none⟩) 1 [Value.string x.key] := by
        refine ⟨rfl, fun _ => ⟨_, rfl, Nat.lt_succ_self _, fun j u hu => ?_⟩⟩
        have hb := (Blk.new W 9 #[Value.string x.key]).drew.cell j
        rw [addr_add]
        cases j with
        | zero => exact hb.trans (by simpa using hu)
        | succ j => simp at hu
      have hc1 : Chg (fun _ => False) W (W.alloc (Obj.cells #[Value.string x.key] 9)).drew := ((Chg.refl _ W).alloc _).drew
      have hown0 := h3.chg hc1 fun _ _ => id
      unfold Strs at hown0
      rw [List.length_map] at hown0
      have hone : ∀ u ∈ [Value.string x.key], u.oneCell' = true := by intro u hu; rw [List.mem_singleton] at hu; rw [hu]; rfl
      have hM1 : w.heap.size + 2 ≤ (W.alloc (Obj.cells #[Value.string x.key] 9)).drew.heap.size := Nat.le_trans h5 hc1.size
      have HL := Lib.hid hlen
      clear hlen
      unfold ptr
      gi_wp2
      refine wpIn_region_plain (by kernel_rfl) (by kernel_rfl) (by rintro ⟨_, _, h⟩; exact h) ?_
      change wpAny _ _ _ _ _ _ _ (World.drew _)
      simp only [List.size_toArray, List.length_cons, List.length_nil, Nat.reduceAdd, Array.replicate_succ, Array.replicate_zero, List.push_toArray, List.nil_append, List.cons_append]
      repeat' (first
        | (refine wpAny_ready (rs := [0]) ?_ ?_ ?_; decide +kernel; simp; refine (AllReady.cons rfl (fun K hK => ?_) AllReady.nil); go_simp; refine hK _ _ ?_; clear hK K)
        | (refine wpAny_ready (rs := [1]) ?_ ?_ ?_; decide +kernel; simp; refine (AllReady.cons rfl (fun K hK => ?_) AllReady.nil); go_simp; refine hK _ _ ?_; clear hK K)
        | (refine wpAny_ready (rs := [2]) ?_ ?_ ?_; decide +kernel; simp; refine (AllReady.cons rfl (fun K hK => ?_) AllReady.nil); go_simp; refine hK _ _ ?_; clear hK K)
        | (refine wpAny_ready (rs := [3]) ?_ ?_ ?_; decide +kernel; simp; refine (AllReady.cons rfl (fun K hK => ?_) AllReady.nil); go_simp; refine hK _ _ ?_; clear hK K)
        | (refine wpAny_ready (rs := [4]) ?_ ?_ ?_; decide +kernel; simp; refine (AllReady.cons rfl (fun K hK => ?_) AllReady.nil); go_simp; refine hK _ _ ?_; clear hK K)
        | (refine wpAny_ready (rs := [5]) ?_ ?_ ?_; decide +kernel; simp; refine (AllReady.cons rfl (fun K hK => ?_) AllReady.nil); go_simp; refine hK _ _ ?_; clear hK K)
        | (refine wpAny_ready (rs := [6]) ?_ ?_ ?_; decide +kernel; simp; refine (AllReady.cons rfl (fun K hK => ?_) AllReady.nil); go_simp; refine hK _ _ ?_; clear hK K)
        | (refine wpAny_ready (rs := [0, 1]) ?_ ?_ ?_; decide +kernel; simp; refine (AllReady.cons rfl (fun K hK => ?_) (AllReady.cons rfl (fun K hK => ?_) AllReady.nil)) <;> (go_simp; refine hK _ _ ?_; clear hK K))
        | (refine wpAny_ready (rs := [0, 2]) ?_ ?_ ?_; decide +kernel; simp; refine (AllReady.cons rfl (fun K hK => ?_) (AllReady.cons rfl (fun K hK => ?_) AllReady.nil)) <;> (go_simp; refine hK _ _ ?_; clear hK K))
        | (refine wpAny_ready (rs := [0, 3]) ?_ ?_ ?_; decide +kernel; simp; refine (AllReady.cons rfl (fun K hK => ?_) (AllReady.cons rfl (fun K hK => ?_) AllReady.nil)) <;> (go_simp; refine hK _ _ ?_; clear hK K))
        | (refine wpAny_ready (rs := [0, 4]) ?_ ?_ ?_; decide +kernel; simp; refine (AllReady.cons rfl (fun K hK => ?_) (AllReady.cons rfl (fun K hK => ?_) AllReady.nil)) <;> (go_simp; refine hK _ _ ?_; clear hK K))
        | (refine wpAny_ready (rs := [0, 5]) ?_ ?_ ?_; decide +kernel; simp; refine (AllReady.cons rfl (fun K hK => ?_) (AllReady.cons rfl (fun K hK => ?_) AllReady.nil)) <;> (go_simp; refine hK _ _ ?_; clear hK K))
        | (refine wpAny_ready (rs := [0, 6]) ?_ ?_ ?_; decide +kernel; simp; refine (AllReady.cons rfl (fun K hK => ?_) (AllReady.cons rfl (fun K hK => ?_) AllReady.nil)) <;> (go_simp; refine hK _ _ ?_; clear hK K)))
      all_goals
        refine wpAny_ready (rs := [7]) ?_ ?_ ?_
        decide +kernel
        simp
        refine (AllReady.cons rfl (fun K hK => ?_) AllReady.nil)
        refine step_append_any _ (by rfl) (.tmp 46) (.tmp 52) 92 (by rfl) (w.heap.size + 2) 9 i0 _ 1 16 Tryz.underlying92 hi0 hz0 hz1 hz2 rfl (by omega) (.slice pa pre.length cp) pre.length ((pre.map (·.key)).map Value.string) (by rfl) hown0 (W.heap.size + 1) (some ⟨W.heap.size, 0, none⟩) 1 1 [Value.string x.key] (by rfl) hr hone hlen2 hlen3 hM1 ?_
        intro v1 w1 hown1 hg1 hat1
        refine hK _ _ ?_
        clear hK K
        obtain ⟨g1, cp1, rfl⟩ := ownsRow_succ hown1
        have a1 := app_chg hown0 hg1
        have a2 := app_keeps hown0 hg1
        have b1 : Blk w1 w.heap.size 92 #[.slice pa pre.length cp] := Blk.chg ((h2.alloc _).drew) a1 (by omega)
        have c1 := b1.cell 0
        have f1 := b1.frozen 0
        have lb := b1.lt
        simp only [List.getElem?_toArray, List.getElem?_cons_zero] at c1
        refine wpAny_ready (rs := [8]) ?_ ?_ ?_
        decide +kernel
        simp
        refine AllReady.cons rfl (fun K hK => ?_) AllReady.nil
        go_simp
        refine hK _ _ ?_
        clear hK K
        refine wpAny_done (by kernel_rfl) ?_ _
        have a3 : Chg (fun k => k = w.heap.size ∨ w.heap.size + 2 ≤ k) W (w1.setCell ⟨w.heap.size, 0, none⟩ (.slice (some ⟨g1, 0, none⟩) (pre.length + 1) cp1)) :=
        ((hc1.mono fun _ _ h => h.elim).trans' a1 fun _ _ h => .inr h).store (.inl rfl) 0 _
        refine ⟨((KeepsOthers.of_chg0 hc1).trans a2).trans (KeepsOthers.setCell _ _ _), fun k hk => a3.block k (by have := hFlt k hk; omega) (by have := hFlt k hk; omega), ⟨⟨_, pre ++ [x], by rw [← H1.out]; simp, b1.set 0 _, ?_⟩, h4.trans' (.of_chg a3) (fun g hg h' => by omega), Nat.le_trans h5 a3.size⟩⟩
        have e : ((pre ++ [x]).map (·.key)).length = pre.length + 1 := by simp
        unfold Strs
        rw [e]
        have := own_stay (F := fun k => k = w.heap.size) hown1 (.of_chg ((Chg.refl (fun k => k = w.heap.size) w1).store rfl 0 (.slice (some ⟨g1, 0, none⟩) (pre.length + 1) cp1))) (fun g hg h' => by have := (hown1.lt g hg).1; omega)
        simpa using this
    · rintro D W hD ⟨⟨v, pre, h1, h2, h3⟩, h4, h5⟩ hO hDd
      rw [List.append_nil] at h1
      rw [← h1] at hK hclen
      clear h1
      have hwD : w.heap.size ≤ D := Nat.le_trans hS.size hD
      have hC : Chg (fun _ => False) w W := .of_stay h4 ((KeepsOthers.of_chg0 hS).trans hO)
      have hll : (pre.map (·.key)).length < 4611686018427387904 := by rw [List.length_map]; omega
      have hsort := sort_any v (pre.map (·.key)) (w.heap.size + 2) W h3 hll
      have k0 := h2.cell 0
      simp only [List.getElem?_toArray, List.getElem?_cons_zero] at k0
      have l0 := h2.lt
      clear hbo hbb hS hsz hch hFlt
      go_wp2_with fail
      refine hsort.mono ?_
      rintro e W1 ⟨rfl, s1, s2⟩
      have b1 : Blk W1 w.heap.size 92 #[v] := (s2.block _ l0 (fun e => by have := (h3.lt _ e.symm).1; omega)).trans h2
      have d1 : W1.heap[D]? = some (.deferred (some [])) := (app_keeps h3 s2).same _ _ hDd rfl
      have C1 : Chg (fun _ => False) w W1 := hC.trans' (app_chg h3 s2) fun g hg h' => by omega
      have k1 := b1.cell 0
      simp only [List.getElem?_toArray, List.getElem?_cons_zero] at k1
      clear k0 hsort
      go_wp2_with fail
      refine bodyPostM_ret (D := D) (v := .tuple #[v, .int .i64 0]) rfl d1 (by simp [results, Tryz.results82, go_sem]) ⟨⟨v, rfl, ?_⟩, ?_⟩
      · rw [hK.out]
        exact (Strs.lower (s1.stay (Stay.put (F := fun _ => False) d1 rfl _) fun _ _ => id) (by omega))
      · exact C1.put (by omega) _

end Go.Proofs.YtifcpippfiglkaaGreat.Dint64

/- Bucket of a dict where there is no such slot. -/
namespace Go.Proofs.YtifcpippfiglkaaGreat.Dint64
open Go.RowKit Pal
attribute [local go_sem] Oper.semAt_some

def tabLen (d : Dm) (ti : Nat) : Nat := ((d.tab ti).map Tb.len).getD 0

set_option maxRecDepth 100000 in
set_option maxHeartbeats 1000000 in
theorem Bucket_no (d : Dm) (ti si : Int) (w : World) (h : DmAt w d) (hb : ti < 0 ∨ 2 ≤ ti ∨ si < 0 ∨ (tabLen d ti.toNat : Int) ≤ si) :
    Calls Tryz.prog 82 #[ptr d.blk, .int .i64 ti, .int .i64 si] w fun e w' => e = .returned (.tuple #[.slice none 0 0, .int .i64 2]) ∧ Chg (fun _ => False) w w' := by
  obtain ⟨c0, c1, c2, c3, c4, hf, hlt⟩ := dm_cells h
  unfold ptr
  by_cases h1 : ti < 0
  · refine calls_of_wp_marks Tryz.func82 rfl ?_
    simp only [Tryz.ntmps82, List.size_toArray, List.length_cons, List.length_nil, Nat.reduceAdd, Nat.reduceSub, Array.replicate_succ, Array.replicate_zero, List.push_toArray, List.append_toArray, List.nil_append, List.cons_append]
    go_wp2_with fail
    exact ⟨_, (by simp [results, Tryz.results82, go_sem]), rfl, Chg.refl _ _⟩
  by_cases h2 : ti ≥ 2
  · refine calls_of_wp_marks Tryz.func82 rfl ?_
    simp only [Tryz.ntmps82, List.size_toArray, List.length_cons, List.length_nil, Nat.reduceAdd, Nat.reduceSub, Array.replicate_succ, Array.replicate_zero, List.push_toArray, List.append_toArray, List.nil_append, List.cons_append]
    go_wp2_with fail
    exact ⟨_, (by simp [results, Tryz.results82, go_sem]), rfl, Chg.refl _ _⟩
  by_cases h3 : si < 0
  · refine calls_of_wp_marks Tryz.func82 rfl ?_
    simp only [Tryz.ntmps82, List.size_toArray, List.length_cons, List.length_nil, Nat.reduceAdd, Nat.reduceSub, Array.replicate_succ, Array.replicate_zero, List.push_toArray, List.append_toArray, List.nil_append, List.cons_append]
    go_wp2_with fail
    exact ⟨_, (by simp [results, Tryz.results82, go_sem]), rfl, Chg.refl _ _⟩
  · obtain ⟨k, rfl⟩ : ∃ k : Nat, ti = (k : Int) := ⟨ti.toNat, by omega⟩
    have hk : k < 2 := by omega
    have h6 : 0 ≤ (k : Int) := by omega
    have h7 : (k : Int) < 2 := by omega
    have h8 : si ≥ (tabLen d k : Int) := by
      rcases hb with hb | hb | hb | hb
      · omega
      · omega
      · omega
      · simpa using hb
    have hcell : ∃ p c, w.cell? ⟨d.blk, 1 + k, none⟩ = some (.slice p (tabLen d k) c) := by
      rcases (by omega : k = 0 ∨ k = 1) with rfl | rfl
      · exact ⟨_, _, c1⟩
      · unfold tabLen Dm.tab
        cases ht : d.t1 with
        | none => rw [ht] at c2; exact ⟨_, _, c2⟩
        | some t => rw [ht] at c2; exact ⟨_, _, c2⟩
    obtain ⟨p, c, hcell⟩ := hcell
    clear hb c0 c1 c2 c3 c4
    generalize tabLen d k = n at hcell h8
    refine calls_of_wp_marks Tryz.func82 rfl ?_
    simp only [Tryz.ntmps82, List.size_toArray, List.length_cons, List.length_nil, Nat.reduceAdd, Nat.reduceSub, Array.replicate_succ, Array.replicate_zero, List.push_toArray, List.append_toArray, List.nil_append, List.cons_append]
    go_wp2_with fail
    exact ⟨_, (by simp [results, Tryz.results82, go_sem]), rfl, Chg.refl _ _⟩

end Go.Proofs.YtifcpippfiglkaaGreat.Dint64

/- All buckets of a dict. -/
namespace Go.Proofs.YtifcpippfiglkaaGreat.Dint64
open Go.RowKit Pal

theorem tab_cases {d : Dm} {ti si : Nat} (h : si < tabLen d ti) : ∃ t, d.tab ti = some t ∧ si < t.len := by
  unfold tabLen at h
  cases ht : d.tab ti with
  | none => rw [ht] at h; cases h
  | some t => rw [ht] at h; exact ⟨t, rfl, h⟩
theorem Bucket_in (d : Dm) (ti si : Nat) (w : World) (h : DmAt w d) (hok : d.Ok) (hti : ti < 2) (hsi : si < tabLen d ti) (hn : d.n < 1000000) :
    Calls Tryz.prog 82 #[ptr d.blk, .int .i64 (ti : Int), .int .i64 (si : Int)] w fun e w' => (∃ v, e = .returned (.tuple #[v, .int .i64 0]) ∧ Strs w' w.heap.size v (keysAt d ti si)) ∧ Chg (fun _ => False) w w' := by
  obtain ⟨t, ht, hl⟩ := tab_cases hsi
  exact Bucket_yes d ti si t w h hok ht hti hl hn

def upto (d : Dm) (ti k : Nat) : List ByteArray := (List.range k).flatMap (keysAt d ti)
theorem upto_succ (d : Dm) (ti k : Nat) : upto d ti (k + 1) = upto d ti k ++ keysAt d ti k := by
  unfold upto; rw [List.range_succ, List.flatMap_append]; simp
theorem keysAt_perm {d : Dm} {ti si : Nat} {t : Tb} (h : d.tab ti = some t) : (keysAt d ti si).Perm ((t.at si).map (·.key)) := by
  unfold keysAt; rw [h]; exact sortB_perm _
theorem flatten_range {α : Type} : ∀ (l : List (List α)), (List.range l.length).flatMap (fun i => l.getD i []) = l.flatten
  | [] => rfl
  | a :: l => by
    rw [List.length_cons, List.range_succ_eq_map, List.flatMap_cons, List.flatMap_map, List.flatten_cons, ← flatten_range l]
    rfl
theorem flatMap_perm {α β : Type} {f g : α → List β} : ∀ (l : List α), (∀ x ∈ l, (f x).Perm (g x)) → (l.flatMap f).Perm (l.flatMap g)
  | [], _ => List.Perm.refl _
  | a :: l, h => by
    rw [List.flatMap_cons, List.flatMap_cons]
    exact (h a (by simp)).append (flatMap_perm l fun x hx => h x (by simp [hx]))
theorem upto_perm {d : Dm} {ti : Nat} {t : Tb} (h : d.tab ti = some t) : (upto d ti (tabLen d ti)).Perm (t.nodes.map (·.key)) := by
  have e : tabLen d ti = t.len := by unfold tabLen; rw [h]; rfl
  rw [e]
  unfold upto Tb.nodes
  rw [← flatten_range t.slots, List.map_flatMap]
  exact flatMap_perm _ fun i _ => keysAt_perm h
def allKeys (d : Dm) : List ByteArray := upto d 0 (tabLen d 0) ++ upto d 1 (tabLen d 1)
theorem allKeys_perm (d : Dm) : (allKeys d).Perm (d.nodes.map (·.key)) := by
  unfold allKeys Dm.nodes Dm.nodes1
  rw [List.map_append]
  refine (upto_perm (tab0 d)).append ?_
  cases ht : d.t1 with
  | none =>
    have : tabLen d 1 = 0 := by unfold tabLen Dm.tab; simp [ht]
    rw [this]; exact List.Perm.refl _
  | some t => exact upto_perm (d := d) (ti := 1) ht
theorem upto_le {d : Dm} (hok : d.Ok) {ti k : Nat} (hk : k ≤ tabLen d ti) : (upto d ti k).length ≤ d.n := by
  cases ht : d.tab ti with
  | none =>
    have : tabLen d ti = 0 := by unfold tabLen; rw [ht]; rfl
    have : k = 0 := by omega
    subst this
    exact Nat.zero_le _
  | some t =>
    have h1 := (upto_perm ht).length_eq
    have h2 : (upto d ti k).length ≤ (upto d ti (tabLen d ti)).length := by
      obtain ⟨j, hj⟩ := Nat.exists_eq_add_of_le hk
      rw [hj]
      clear h1 hj
      induction j with
      | zero => exact Nat.le_refl _
      | succ j ih => rw [← Nat.add_assoc, upto_succ, List.length_append]; omega
    have h3 : t.nodes.length ≤ d.n := by
      rw [hok.count]
      unfold Dm.nodes Dm.nodes1
      unfold Dm.tab at ht
      split at ht
      · injection ht with ht; subst ht; simp
      · rw [ht]; simp
    rw [List.length_map] at h1
    omega

end Go.Proofs.YtifcpippfiglkaaGreat.Dint64

/- Cursors, as places in the order in which a table's slots are scanned. -/
namespace Pal


def pos (b c : Nat) : Nat := turn c / 2 ^ (32 - b)
theorem pow32 {b : Nat} (hb : b ≤ 32) : (4294967296 : Nat) = 2 ^ b * 2 ^ (32 - b) := by
  rw [← Nat.pow_add, show b + (32 - b) = 32 by omega]
theorem pos_lt {b : Nat} (hb : b ≤ 32) (c : Nat) : pos b c < 2 ^ b := by
  unfold pos
  rw [Nat.div_lt_iff_lt_mul Nat.one_le_two_pow, ← pow32 hb]
  exact turn_lt c
theorem pos_cur {b k : Nat} (hb : b ≤ 32) (hk : k < 2 ^ b) : pos b (cur b k) = k := by
  unfold pos cur; rw [turn_turn _ (mul_lt b k hb hk)]; exact Nat.mul_div_cancel _ Nat.one_le_two_pow
theorem mod_cur {b c : Nat} (hb : b ≤ 32) (hc : c < 4294967296) : c % 2 ^ b = cur b (pos b c) := by
  refine eq32 (Nat.lt_of_le_of_lt (Nat.mod_le _ _) hc) (cur_lt32 _ _) fun i hi => ?_
  unfold cur pos
  rw [Nat.testBit_mod_two_pow, turn_bit _ _ hi, Nat.testBit_mul_two_pow, ← Nat.shiftRight_eq_div_pow, Nat.testBit_shiftRight]
  by_cases h : i < b
  · have e : 32 - b + (31 - i - (32 - b)) = 31 - i := by omega
    rw [e, turn_bit _ _ (by omega), show 31 - (31 - i) = i by omega]
    simp [h]; omega
  · have : ¬ 32 - b ≤ 31 - i := by omega
    simp [h, this]
theorem pos_down {a b : Nat} (hab : a ≤ b) (hb : b ≤ 32) (c : Nat) : pos a c = pos b c / 2 ^ (b - a) := by
  unfold pos
  rw [Nat.div_div_eq_div_mul, ← Nat.pow_add, show 32 - b + (b - a) = 32 - a by omega]

def curW (b k : Nat) : Nat := if k = 2 ^ b then 0 else cur b k
theorem curW_lt32 (b k : Nat) : curW b k < 4294967296 := by
  unfold curW; split
  · omega
  · exact cur_lt32 _ _
theorem nextD_curW {b : Nat} (hb : b ≤ 32) (c : Nat) : nextD c b = curW b (pos b c + 1) := by
  have hp := pos_lt hb c
  unfold nextD curW
  show turn ((pos b c + 1) * 2 ^ (32 - b) % 4294967296) = _
  split
  · rename_i h
    rw [h, ← pow32 hb]; decide
  · rename_i h
    rw [Nat.mod_eq_of_lt (mul_lt b _ hb (by omega))]; rfl
theorem cur_up {a b : Nat} (hab : a ≤ b) (hb : b ≤ 32) (q : Nat) : cur b (q * 2 ^ (b - a)) = cur a q := by
  unfold cur
  rw [Nat.mul_assoc, ← Nat.pow_add, show b - a + (32 - b) = 32 - a by omega]
theorem pow_up {a b : Nat} (hab : a ≤ b) : (2 : Nat) ^ b = 2 ^ a * 2 ^ (b - a) := by
  rw [← Nat.pow_add, show a + (b - a) = b by omega]
theorem curW_up {a b : Nat} (hab : a ≤ b) (hb : b ≤ 32) (q : Nat) : curW b (q * 2 ^ (b - a)) = curW a q := by
  unfold curW
  rw [pow_up hab, cur_up hab hb]
  by_cases h : q = 2 ^ a
  · rw [if_pos (by rw [h]), if_pos h]
  · rw [if_neg (fun e => h (Nat.eq_of_mul_eq_mul_right Nat.one_le_two_pow e)), if_neg h]
theorem low_cur {a b k : Nat} (hab : a ≤ b) (hb : b ≤ 32) (hk : k < 2 ^ b) : cur b k < 2 ^ a ↔ k % 2 ^ (b - a) = 0 := by
  have h1 := mod_cur (b := a) (c := cur b k) (by omega) (cur_lt32 _ _)
  rw [pos_down hab hb, pos_cur hb hk] at h1
  have h2 : k / 2 ^ (b - a) < 2 ^ a := by rw [Nat.div_lt_iff_lt_mul Nat.one_le_two_pow, ← pow_up hab]; exact hk
  have hd := Nat.div_add_mod k (2 ^ (b - a))
  constructor
  · intro h
    rw [Nat.mod_eq_of_lt h, ← cur_up hab hb] at h1
    have := cur_inj b hb hk (by rw [pow_up hab]; exact Nat.mul_lt_mul_of_pos_right h2 Nat.one_le_two_pow) h1
    rw [Nat.mul_comm] at hd
    omega
  · intro h
    have e : k = k / 2 ^ (b - a) * 2 ^ (b - a) := by rw [Nat.mul_comm]; omega
    rw [e, cur_up hab hb]
    exact cur_lt a _ (by omega) h2
theorem low_curW {a b k : Nat} (hab : a ≤ b) (hb : b ≤ 32) (hk : k ≤ 2 ^ b) : curW b k < 2 ^ a ↔ k % 2 ^ (b - a) = 0 := by
  unfold curW
  split
  · rename_i h
    rw [h, pow_up hab]
    exact ⟨fun _ => Nat.mul_mod_left _ _, fun _ => Nat.one_le_two_pow⟩
  · rename_i h
    exact low_cur hab hb (by omega)
theorem curW_lt {b k : Nat} (hb : b ≤ 32) (hk : k ≤ 2 ^ b) : curW b k < 2 ^ b := by
  unfold curW; split
  · exact Nat.one_le_two_pow
  · rename_i h; exact cur_lt b k hb (by omega)
theorem pos_curW {b k : Nat} (hb : b ≤ 32) (hk : k < 2 ^ b) : pos b (curW b k) = k := by
  unfold curW; rw [if_neg (by omega)]; exact pos_cur hb hk

/-! ### the slots of a great table that a slot of a small one is parted into -/
def slotsM (b k m : Nat) : List (Nat × Nat) := (List.range m).map fun j => (cur b (k + j), curW b (k + j + 1))
def slotsP (a b k : Nat) : List (Nat × Nat) := slotsM b k (2 ^ (b - a) - k % 2 ^ (b - a))
theorem range_map_succ {α : Type} (f : Nat → α) (k m : Nat) : (List.range (m + 1)).map (fun j => f (k + j)) = f k :: (List.range m).map fun j => f (k + 1 + j) := by
  rw [List.range_succ_eq_map, List.map_cons, List.map_map, Nat.add_zero]
  congr 1
  apply List.map_congr_left
  intro j _
  show f (k + (j + 1)) = f (k + 1 + j)
  rw [show k + (j + 1) = k + 1 + j by omega]
theorem slotsM_succ (b k m : Nat) : slotsM b k (m + 1) = (cur b k, curW b (k + 1)) :: slotsM b (k + 1) m :=
  range_map_succ (fun i => (cur b i, curW b (i + 1))) k m
theorem slotsP_cons (a b k : Nat) : slotsP a b k = (cur b k, curW b (k + 1)) :: if (k + 1) % 2 ^ (b - a) = 0 then [] else slotsP a b (k + 1) := by
  have h1 : 0 < 2 ^ (b - a) := Nat.one_le_two_pow
  unfold slotsP
  generalize 2 ^ (b - a) = D at *
  have h2 := Nat.mod_lt k h1
  obtain ⟨m, hm⟩ : ∃ m, D - k % D = m + 1 := ⟨D - k % D - 1, by omega⟩
  rw [hm, slotsM_succ]
  congr 1
  by_cases hz : k % D + 1 = D
  · have hm0 : m = 0 := by omega
    have : (k + 1) % D = 0 := by rw [Nat.add_mod, show k % D + 1 % D = k % D + 1 % D from rfl]
                                 rcases Nat.lt_or_ge 1 D with h | h
                                 · rw [Nat.mod_eq_of_lt h, hz]; simp
                                 · have : D = 1 := by omega
                                   subst this; simp [Nat.mod_one]
    rw [if_pos this, hm0]; rfl
  · have hlt : 1 < D := by omega
    have : (k + 1) % D = k % D + 1 := by rw [Nat.add_mod, Nat.mod_eq_of_lt hlt, Nat.mod_eq_of_lt (by omega)]
    rw [if_neg (by omega), this]
    congr 1
    omega

theorem slotsM_last (b : Nat) : ∀ (m k u : Nat), (slotsM b k (m + 1)).foldl (fun _ x => x.2) u = curW b (k + m + 1)
  | 0, k, u => rfl
  | m + 1, k, u => by
    rw [slotsM_succ, List.foldl_cons, slotsM_last b m (k + 1) _, show k + 1 + m + 1 = k + (m + 1) + 1 by omega]
theorem slotsP_last {a b : Nat} (hab : a ≤ b) (hb : b ≤ 32) (c u : Nat) : (slotsP a b (pos b c)).foldl (fun _ x => x.2) u = curW a (pos a c + 1) := by
  have h1 : 0 < 2 ^ (b - a) := Nat.one_le_two_pow
  have hd := Nat.div_add_mod (pos b c) (2 ^ (b - a))
  have hm := Nat.mod_lt (pos b c) h1
  unfold slotsP
  obtain ⟨m, hm'⟩ : ∃ m, 2 ^ (b - a) - pos b c % 2 ^ (b - a) = m + 1 := ⟨2 ^ (b - a) - pos b c % 2 ^ (b - a) - 1, by omega⟩
  rw [hm', slotsM_last, pos_down hab hb, ← curW_up hab hb, Nat.add_mul, Nat.one_mul, Nat.mul_comm (pos b c / _)]
  congr 1
  omega
theorem slotsP_mem {a b k : Nat} (hab : a ≤ b) (hb : b ≤ 32) (hk : k < 2 ^ b) {x : Nat × Nat} (hx : x ∈ slotsP a b k) : x.1 < 2 ^ b ∧ x.2 < 4294967296 := by
  unfold slotsP slotsM at hx
  obtain ⟨j, hj, rfl⟩ := List.mem_map.1 hx
  rw [List.mem_range] at hj
  refine ⟨cur_lt b _ hb ?_, curW_lt32 _ _⟩
  have h1 : 0 < 2 ^ (b - a) := Nat.one_le_two_pow
  have hd := Nat.div_add_mod k (2 ^ (b - a))
  have h2 : k / 2 ^ (b - a) < 2 ^ a := by rw [Nat.div_lt_iff_lt_mul h1, ← pow_up hab]; exact hk
  have h3 : (k / 2 ^ (b - a) + 1) * 2 ^ (b - a) ≤ 2 ^ a * 2 ^ (b - a) := Nat.mul_le_mul_right _ h2
  rw [← pow_up hab, Nat.add_mul, Nat.one_mul, Nat.mul_comm] at h3
  omega
theorem slotsP_length (a b k : Nat) : (slotsP a b k).length ≤ 2 ^ b := by
  unfold slotsP slotsM
  rw [List.length_map, List.length_range]
  exact Nat.le_trans (Nat.sub_le _ _) (Nat.pow_le_pow_right (by omega) (Nat.sub_le _ _))
end Pal

/- Contracts of scan: within, gathered. -/
namespace Go.Proofs.YtifcpippfiglkaaGreat
open Go.RowKit Pal

theorem bit_within {a b : Nat} (hab : a ≤ b) (i : Nat) : (2 ^ b - 2 ^ a).testBit i = (decide (a ≤ i) && decide (i < b)) := by
  have e : 2 ^ b - 2 ^ a = 2 ^ a * (2 ^ (b - a) - 1) := by
    rw [Nat.mul_sub, ← pow_up hab]; omega
  rw [e, Nat.mul_comm, Nat.testBit_mul_two_pow, Nat.testBit_two_pow_sub_one]
  by_cases h : a ≤ i
  · by_cases h2 : i < b
    · have : i - a < b - a := by omega
      simp [h, h2, this]
    · have : ¬ i - a < b - a := by omega
      simp [h2, this]
  · simp [h]
theorem and_within {a b c : Nat} (hab : a ≤ b) : c &&& (2 ^ b - 2 ^ a) = c % 2 ^ b / 2 ^ a * 2 ^ a := by
  apply Nat.eq_of_testBit_eq
  intro i
  rw [Nat.testBit_and, bit_within hab, Nat.testBit_mul_two_pow, ← Nat.shiftRight_eq_div_pow, Nat.testBit_shiftRight, Nat.testBit_mod_two_pow]
  by_cases h : a ≤ i
  · rw [show a + (i - a) = i by omega]
    by_cases h2 : i < b <;> simp [h, h2]
  · simp [h]
theorem within_zero {a b c : Nat} (hab : a ≤ b) : (c &&& (2 ^ b - 2 ^ a) = 0) ↔ c % 2 ^ b < 2 ^ a := by
  rw [and_within hab]
  have h1 : 0 < 2 ^ a := Nat.one_le_two_pow
  constructor
  · intro h
    rcases Nat.mul_eq_zero.1 h with h | h
    · exact (Nat.div_eq_zero_iff_lt h1).1 h
    · omega
  · intro h
    rw [(Nat.div_eq_zero_iff_lt h1).2 h, Nat.zero_mul]
theorem andNot_mask {a b : Nat} (hab : a ≤ b) (hb : b ≤ 16) : bits BinOp.andNot IntKind.u32 ((2 ^ b - 1 : Nat) : Int) ((2 ^ a - 1 : Nat) : Int) = ((2 ^ b - 2 ^ a : Nat) : Int) := by
  have hp : (2 : Nat) ^ b ≤ 2 ^ 16 := pow_mono hb
  have hpa : (2 : Nat) ^ a ≤ 2 ^ b := pow_mono hab
  have h1 : 1 ≤ 2 ^ a := Nat.one_le_two_pow
  show IntKind.u32.wrap ((BitVec.ofInt 32 ((2 ^ b - 1 : Nat) : Int) &&& ~~~ BitVec.ofInt 32 ((2 ^ a - 1 : Nat) : Int)).toNat : Int) = _
  rw [BitVec.toNat_and, BitVec.toNat_not, ofInt_u32 _ (by omega), ofInt_u32 _ (by omega), IntKind.wrap_u32']
  have e : (2 ^ b - 1) &&& (2 ^ 32 - 1 - (2 ^ a - 1)) = 2 ^ b - 2 ^ a := by
    apply Nat.eq_of_testBit_eq
    intro i
    rw [Nat.testBit_and, Nat.testBit_two_pow_sub_one, bit_within hab]
    by_cases hi : i < 32
    · rw [show 2 ^ 32 - 1 - (2 ^ a - 1) = 4294967295 - (2 ^ a - 1) from rfl, bit_high a i (by omega) hi, Bool.and_comm]
    · have : ¬ i < b := by omega
      simp [this]
  rw [e]
  omega

theorem withinC_any (a b : Nat) (s g : Int) (w : World) (hab : a ≤ b) (hb : b ≤ 16) (hs : s = ((2 ^ a : Nat) : Int)) (hg : g = ((2 ^ b : Nat) : Int)) :
    Calls Tryz.prog 85 #[.int .i64 s, .int .i64 g] w fun e w' => e = .returned (.int .u32 ((2 ^ b - 2 ^ a : Nat) : Int)) ∧ w = w' := by
  have hp : (2 : Nat) ^ b ≤ 2 ^ 16 := pow_mono hb
  have hpa : (2 : Nat) ^ a ≤ 2 ^ b := pow_mono hab
  have h1 : 1 ≤ 2 ^ a := Nat.one_le_two_pow
  have s1 : 1 ≤ s := by omega
  have s2 : s ≤ 65536 := by omega
  have g1 : 1 ≤ g := by omega
  have g2 : g ≤ 65536 := by omega
  have hm := fun w => mask_any s w s1 s2
  have hm2 := fun w => mask_any g w g1 g2
  have H : Hid (bits BinOp.andNot IntKind.u32 (g - 1) (s - 1) = ((2 ^ b - 2 ^ a : Nat) : Int)) := by
    show _ = _
    have e1 : g - 1 = ((2 ^ b - 1 : Nat) : Int) := by omega
    have e2 : s - 1 = ((2 ^ a - 1 : Nat) : Int) := by omega
    rw [e1, e2]
    exact andNot_mask hab hb
  clear hs hg
  go_enter Tryz.func85, Tryz.ntmps85
  go_wp2_with fail
  refine (hm2 _).mono ?_
  rintro e w' ⟨rfl, rfl⟩
  go_wp2_with fail
  refine (hm _).mono ?_
  rintro e w' ⟨rfl, rfl⟩
  go_wp2_with fail
  go_ret
  exact ⟨by rw [← H.out]; rfl, rfl⟩

end Go.Proofs.YtifcpippfiglkaaGreat

/- Contracts of scan: gathered, slots. -/
namespace Go.Proofs.YtifcpippfiglkaaGreat.Dint64
open Go.RowKit Pal
attribute [local go_sem] Oper.semAt_some

set_option maxRecDepth 100000 in
set_option maxHeartbeats 1000000 in
theorem gathered_any (d : Dm) (ti si B : Nat) (w : World) (h : DmAt w d) (hok : d.Ok) (hti : ti < 2) (hsi : si < tabLen d ti) (hn : d.n < 1000000) (hB : w.cell? ⟨B, 0, none⟩ = some (.int .i64 (si : Int))) (hBl : B < w.heap.size) :
    Calls Tryz.prog 69 #[ptr d.blk, .int .i64 (ti : Int), .slice (some ⟨B, 0, none⟩) 1 1] w fun e w' => (∃ v, e = .returned v ∧ Strs w' w.heap.size v (keysAt d ti si)) ∧ Chg (fun _ => False) w w' := by
  obtain ⟨i0, hi0, hz0, hz1, hz2⟩ := info_parts str_info
  have hb := fun W (hC : Chg (fun _ => False) w W) => Bucket_in d ti si W (h.chg0 hC) hok hti hsi hn
  have hlen : (keysAt d ti si).length ≤ d.n := by
    obtain ⟨t, ht, hl⟩ := tab_cases hsi
    rw [(keysAt_perm ht).length_eq, List.length_map, hok.count]
    have := (tab_perm ht hl).length_eq
    rw [List.length_append] at this
    omega
  generalize keysAt d ti si = ks at *
  unfold ptr at *
  go_enter Tryz.func69, Tryz.ntmps69
  go_wp2_with fail
  go_loopw [7, 14] (fun v i wr => ∃ k : Nat, k ≤ 1 ∧ i = .int .i64 k ∧ Strs wr w.heap.size v (if k = 0 then [] else ks) ∧ Chg (fun _ => False) w wr) (fun _ i _ => 1 - (intOf i).toNat)
  case atStart => exact ⟨0, Nat.zero_le _, rfl, Strs.nil _ _, Chg.refl _ _⟩
  case round =>
    obtain ⟨k, hk, rfl, hv, hC⟩ := hrel
    by_cases hlt : k = 0
    · subst hlt
      have hcB : wr.cell? ⟨B, 0, none⟩ = some (.int .i64 (si : Int)) := by
        rw [World.cell?_of_block (hC.block B hBl id)]; exact hB
      have hb := hb _ hC
      simp only [if_true] at hv
      go_wp2_with fail
      refine hb.mono ?_
      rintro e W2 ⟨⟨v2, rfl, hs2⟩, hC2⟩
      have hv2 := hv.chg hC2 (fun _ _ => id)
      obtain ⟨pa, ca, rfl, hpa⟩ := hs2.is
      have hA : ([] : List ByteArray).length + ks.length ≤ maxLen := by unfold maxLen; simp; omega
      have hBB : (([] : List ByteArray).length + ks.length) * 16 ≤ 140737488355328 := by simp; omega
      have hD : w.heap.size ≤ W2.heap.size := Nat.le_trans hC.size hC2.size
      clear hb
      go_wp2_with (at_builtin; refine wpList_append_any _ rfl (.tmp 25) (.tmp 26) 92 rfl w.heap.size 9 i0 _ 1 16 Tryz.underlying92 hi0 hz0 hz1 hz2 rfl (by omega) _ _ _ rfl hv2.own W2.heap.size pa _ ca _ rfl hs2.reads (strs_one _) hA hBB hD ?_; intro v3 w3 hown3 hg3 hat3)
      go_roundw
      case rel => exact ⟨1, by omega, by go_num, Strs.mk hown3 (by simp) (by simp), (hC.trans hC2).trans' (app_chg hv2 hg3) fun g hg h' => by omega⟩
      case measure => simp [intOf]
    · have hk1 : k = 1 := by omega
      subst hk1
      go_wp2_with fail
      go_ret
      exact ⟨⟨_, rfl, by simpa using hv⟩, hC⟩

theorem slots_any (c : Nat) (s g : Int) (w : World) :
    Calls Tryz.prog 72 #[.int .u32 (c : Int), .int .i64 s, .int .i64 g] w fun e w' => e = .returned (.func (.func 84) #[] #[.pointer (some ⟨w.heap.size, 0, none⟩), .pointer (some ⟨w.heap.size + 2, 0, none⟩), .pointer (some ⟨w.heap.size + 1, 0, none⟩)]) ∧
      ((w.alloc (.cells #[.int .u32 (c : Int)] 24)).alloc (.cells #[.int .i64 s] 3)).alloc (.cells #[.int .i64 g] 3) = w' := by
  go_enter Tryz.func72, Tryz.ntmps72
  go_wp2
  go_ret
  exact ⟨rfl, rfl⟩

end Go.Proofs.YtifcpippfiglkaaGreat.Dint64
