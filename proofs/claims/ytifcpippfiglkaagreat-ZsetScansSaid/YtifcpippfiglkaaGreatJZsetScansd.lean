/- Texts joined for ZsetScans: SAint64, SNint64, ZSC, ZSD, ZSE, ZsetScans. -/
import Derived.Test.YtifcpippfiglkaaGreatJZsetRangesb
import Derived.Test.YtifcpippfiglkaaGreatJZsetRangesf
import Derived.Test.YtifcpippfiglkaaGreatJZsetScansc
import Derived.Test.YtifcpippfiglkaaGreatJZsetWaysa
import Derived.Test.YtifcpippfiglkaaGreatJZsetWaysj
import Derived.Test.YtifcpippfiglkaaGreatJZsetWaysn
import Derived.Test.YtifcpippfiglkaaGreatJZsetWayso
import Derived.Test.YtifcpippfiglkaaGreatJZsetWaysq
import Derived.Outline
import Derived.Deep.LoopGhost
import Derived.Deep.RegionHeld3
set_option linter.unusedVariables false
set_option linter.unusedSimpArgs false

/- All of a scan. -/
namespace Go.Proofs.YtifcpippfiglkaaGreat.Dint64
open Go.RowKit Pal
attribute [local go_sem] Oper.semAt_some

def allN (d : Dm) (k : Nat) : List ByteArray := (List.range k).flatMap fun q => scanL d (cur (scanA d) q)
def allL (d : Dm) : List ByteArray := allN d (2 ^ scanA d)
theorem allN_succ (d : Dm) (k : Nat) : allN d (k + 1) = allN d k ++ scanL d (cur (scanA d) k) := by
  unfold allN; rw [List.range_succ, List.flatMap_append]; simp
theorem filter_lt_succ {α : Type} (f : α → Nat) (k : Nat) : ∀ l : List α, (l.filter (fun x => decide (f x < k)) ++ l.filter (fun x => decide (f x = k))).Perm (l.filter fun x => decide (f x < k + 1))
  | [] => List.Perm.refl _
  | x :: l => by
    have ih := filter_lt_succ f k l
    by_cases h1 : f x < k
    · have h2 : ¬ f x = k := by omega
      have h3 : f x < k + 1 := by omega
      rw [List.filter_cons_of_pos (by simpa using h1), List.filter_cons_of_neg (by simpa using h2), List.filter_cons_of_pos (by simpa using h3), List.cons_append]
      exact ih.cons x
    · by_cases h2 : f x = k
      · have h3 : f x < k + 1 := by omega
        rw [List.filter_cons_of_neg (by simpa using h1), List.filter_cons_of_pos (by simpa using h2), List.filter_cons_of_pos (by simpa using h3)]
        exact List.perm_middle.trans (ih.cons x)
      · have h3 : ¬ f x < k + 1 := by omega
        rw [List.filter_cons_of_neg (by simpa using h1), List.filter_cons_of_neg (by simpa using h2), List.filter_cons_of_neg (by simpa using h3)]
        exact ih
theorem allN_perm {d : Dm} (hok : d.Ok) : ∀ k, k ≤ 2 ^ scanA d → (allN d k).Perm ((d.nodes.filter fun x => decide (pos (scanA d) x.sum < k)).map (·.key))
  | 0, _ => by
    have e : d.nodes.filter (fun x => decide (pos (scanA d) x.sum < 0)) = [] := by
      rw [List.filter_eq_nil_iff]
      intro x _ h
      exact absurd (of_decide_eq_true h) (Nat.not_lt_zero _)
    rw [e]; exact List.Perm.refl _
  | k + 1, h => by
    rw [allN_succ]
    refine ((allN_perm hok k (by omega)).append (scan_once hok (by omega))).trans ?_
    rw [← List.map_append]
    exact (filter_lt_succ (fun x : Nd => pos (scanA d) x.sum) k d.nodes).map _
theorem allL_perm {d : Dm} (hok : d.Ok) : (allL d).Perm (d.nodes.map (·.key)) := by
  have h := allN_perm hok _ (Nat.le_refl _)
  have hA := scanA_le hok
  have e : d.nodes.filter (fun x => decide (pos (scanA d) x.sum < 2 ^ scanA d)) = d.nodes := List.filter_eq_self.2 fun x _ => by simpa using pos_lt (by omega) x.sum
  rw [e] at h
  exact h
theorem allN_len {d : Dm} (hok : d.Ok) {k : Nat} (hk : k ≤ 2 ^ scanA d) : (allN d k).length ≤ d.n := by
  rw [(allN_perm hok k hk).length_eq, List.length_map, hok.count]
  exact List.length_filter_le _ _
theorem scanC_cur {d : Dm} (hok : d.Ok) {k : Nat} (hk : k < 2 ^ scanA d) : scanC d (cur (scanA d) k) = curW (scanA d) (k + 1) := by
  have hA := scanA_le hok
  unfold scanC; rw [pos_cur (by omega) hk]
theorem curW_ne {a k : Nat} (ha : a ≤ 32) (h0 : 0 < k) (hk : k < 2 ^ a) : curW a k ≠ 0 := by
  unfold curW
  rw [if_neg (by omega), ← cur_zero a]
  intro e
  have := cur_inj a ha hk Nat.one_le_two_pow e
  omega
theorem curW_eq {a k : Nat} (hk : k < 2 ^ a) : curW a k = cur a k := by unfold curW; rw [if_neg (by omega)]
theorem curW_full (a : Nat) : curW a (2 ^ a) = 0 := by unfold curW; rw [if_pos rfl]

theorem all20 {P : Array Value → Prop} (h : ∀ u0 u1 u2 u3 u4 u5 u6 u7 u8 u9 u10 u11 u12 u13 u14 u15 u16 u17 u18 u19 : Value, P #[u0, u1, u2, u3, u4, u5, u6, u7, u8, u9, u10, u11, u12, u13, u14, u15, u16, u17, u18, u19]) (a : Array Value) (hs : a.size = 20) : P a := by
  obtain ⟨l⟩ := a
  have g0 : l.length = 20 := hs
  clear hs
  obtain ⟨u0, l0, e0, g1⟩ := Pal.len_cons g0
  obtain ⟨u1, l1, e1, g2⟩ := Pal.len_cons g1
  obtain ⟨u2, l2, e2, g3⟩ := Pal.len_cons g2
  obtain ⟨u3, l3, e3, g4⟩ := Pal.len_cons g3
  obtain ⟨u4, l4, e4, g5⟩ := Pal.len_cons g4
  obtain ⟨u5, l5, e5, g6⟩ := Pal.len_cons g5
  obtain ⟨u6, l6, e6, g7⟩ := Pal.len_cons g6
  obtain ⟨u7, l7, e7, g8⟩ := Pal.len_cons g7
  obtain ⟨u8, l8, e8, g9⟩ := Pal.len_cons g8
  obtain ⟨u9, l9, e9, g10⟩ := Pal.len_cons g9
  obtain ⟨u10, l10, e10, g11⟩ := Pal.len_cons g10
  obtain ⟨u11, l11, e11, g12⟩ := Pal.len_cons g11
  obtain ⟨u12, l12, e12, g13⟩ := Pal.len_cons g12
  obtain ⟨u13, l13, e13, g14⟩ := Pal.len_cons g13
  obtain ⟨u14, l14, e14, g15⟩ := Pal.len_cons g14
  obtain ⟨u15, l15, e15, g16⟩ := Pal.len_cons g15
  obtain ⟨u16, l16, e16, g17⟩ := Pal.len_cons g16
  obtain ⟨u17, l17, e17, g18⟩ := Pal.len_cons g17
  obtain ⟨u18, l18, e18, g19⟩ := Pal.len_cons g18
  obtain ⟨u19, l19, e19, g20⟩ := Pal.len_cons g19
  obtain rfl := List.eq_nil_of_length_eq_zero g20
  have e : (⟨l⟩ : Array Value) = #[u0, u1, u2, u3, u4, u5, u6, u7, u8, u9, u10, u11, u12, u13, u14, u15, u16, u17, u18, u19] := by rw [e0, e1, e2, e3, e4, e5, e6, e7, e8, e9, e10, e11, e12, e13, e14, e15, e16, e17, e18, e19]
  rw [e]
  exact h u0 u1 u2 u3 u4 u5 u6 u7 u8 u9 u10 u11 u12 u13 u14 u15 u16 u17 u18 u19

def AllI (w0 : World) (d : Dm) (n : Nat) (x : Act) (W : World) : Prop :=
  ∃ k v, n = 2 ^ scanA d - k ∧ k < 2 ^ scanA d ∧ x.tmps.size = 20 ∧ x.tmps[0]? = some (.pointer (some ⟨d.blk, 0, none⟩)) ∧ x.tmps[3]? = some v ∧ x.tmps[4]? = some (.int .u32 ((cur (scanA d) k : Nat) : Int)) ∧ x.defers = [] ∧ Strs W w0.heap.size v (allN d k) ∧ Chg (fun _ => False) w0 W

/-- Nothing is told of a nil dict. -/
theorem Scan_nil (c : Nat) (w : World) :
    Calls Tryz.prog 50 #[.pointer none, .int .u32 (c : Int)] w fun e w' => e = .returned (.tuple #[.slice none 0 0, .int .u32 0]) ∧ Chg (fun _ => False) w w' := by
  have hz := Sizes_nil (w.alloc (Obj.cells #[.pointer none] 96))
  have hb := (Blk.new w 96 #[.pointer none]).cell 0
  simp only [List.getElem?_toArray, List.getElem?_cons_zero] at hb
  go_enter Tryz.func50, Tryz.ntmps50
  go_wp2_with fail
  refine hz.mono ?_
  rintro e w1 ⟨rfl, rfl⟩
  go_wp2_with fail
  go_ret2
  exact ⟨rfl, (Chg.refl _ w).alloc _⟩

end Go.Proofs.YtifcpippfiglkaaGreat.Dint64

/- Scans while a dict moves, in plain words: whatever moves, grown or shrunk. -/
namespace Go.Proofs.YtifcpippfiglkaaGreat.Dint64
open Go.RowKit Pal

/-- The place of a key's hash. -/
def kpos (seed a : Nat) (k : ByteArray) : Nat := pos a (sumN seed k.data.toList)
theorem filter_map_congr {α β : Type} (f : α → β) (p : α → Bool) (q : β → Bool) : ∀ l : List α, (∀ x ∈ l, p x = q (f x)) → (l.filter p).map f = (l.map f).filter q
  | [], _ => rfl
  | x :: l, h => by
    have hx := h x (by simp)
    have ih := filter_map_congr f p q l fun y hy => h y (by simp [hy])
    rw [List.map_cons, List.filter_cons, List.filter_cons, ← hx]
    cases hp : p x with
    | true => rw [if_pos rfl, if_pos rfl, List.map_cons, ih]
    | false => rw [if_neg (by simp), if_neg (by simp), ih]
theorem kpos_of {d : Dm} (hok : d.Ok) (a : Nat) {x : Nd} (hx : x ∈ d.nodes) : kpos d.seed a x.key = pos a x.sum := congrArg (pos a) (hok.sums x hx).symm
theorem filter_keys_eq {d : Dm} (hok : d.Ok) (a q : Nat) : (d.nodes.filter fun x => decide (pos a x.sum = q)).map (·.key) = (d.nodes.map (·.key)).filter fun k => decide (kpos d.seed a k = q) :=
  filter_map_congr (fun x : Nd => x.key) (fun x => decide (pos a x.sum = q)) (fun k => decide (kpos d.seed a k = q)) d.nodes fun x hx => by
    have := kpos_of hok a hx
    generalize kpos d.seed a x.key = y at this
    rw [this]
theorem mem_keys {d : Dm} {k : ByteArray} : k ∈ d.nodes.map (·.key) ↔ (d.look k).isSome = true := by
  constructor
  · intro h
    obtain ⟨x, hx, rfl⟩ := List.mem_map.1 h
    cases hl : d.look x.key with
    | none => exact absurd rfl (look_none.1 hl x hx)
    | some v => rfl
  · intro h
    obtain ⟨v, hv⟩ := Option.isSome_iff_exists.1 h
    unfold Dm.look at hv
    rw [Option.map_eq_some_iff] at hv
    obtain ⟨x, h1, _⟩ := hv
    exact List.mem_map.2 ⟨x, List.mem_of_find?_eq_some h1, by simpa using List.find?_some h1⟩
theorem keys_perm {d d' : Dm} (hok : d.Ok) (hok' : d'.Ok) (h : ∀ k, d'.look k = d.look k) : (d'.nodes.map (·.key)).Perm (d.nodes.map (·.key)) := by
  refine (List.perm_ext_iff_of_nodup hok'.keys hok.keys).2 fun k => ?_
  rw [mem_keys, mem_keys, h]

/-- The keys told, where the scan has come to place k of 2^a. -/
def Told (d : Dm) (a k : Nat) (l : List ByteArray) : Prop := l.Perm ((d.nodes.map (·.key)).filter fun x => decide (kpos d.seed a x < k))
theorem Told.zero (d : Dm) (a : Nat) : Told d a 0 [] := by
  unfold Told
  have e : (d.nodes.map (·.key)).filter (fun x => decide (kpos d.seed a x < 0)) = [] := by
    rw [List.filter_eq_nil_iff]
    intro x _ h
    exact absurd (of_decide_eq_true h) (Nat.not_lt_zero _)
  rw [e]
theorem Told.scan {d : Dm} (hok : d.Ok) {k : Nat} {l : List ByteArray} (h : Told d (scanA d) k l) (hk : k < 2 ^ scanA d) : Told d (scanA d) (k + 1) (l ++ scanL d (cur (scanA d) k)) := by
  unfold Told at *
  have h2 := scan_once hok hk
  rw [filter_keys_eq hok] at h2
  exact (h.append h2).trans (filter_lt_succ (fun x => kpos d.seed (scanA d) x) k _)
theorem Told.up {d d' : Dm} (hok : d.Ok) (hok' : d'.Ok) (hl : ∀ k, d'.look k = d.look k) (hs : d'.seed = d.seed) {a b k : Nat} (hab : a ≤ b) (hb : b ≤ 32) {l : List ByteArray} (h : Told d a k l) : Told d' b (k * 2 ^ (b - a)) l := by
  unfold Told at *
  rw [hs]
  refine (h.trans ?_).trans ((keys_perm hok hok' hl).filter _).symm
  have e : (d.nodes.map (·.key)).filter (fun x => decide (kpos d.seed a x < k)) = (d.nodes.map (·.key)).filter (fun x => decide (kpos d.seed b x < k * 2 ^ (b - a))) := by
    apply List.filter_congr
    intro x _
    rw [decide_eq_decide]
    unfold kpos
    rw [pos_down hab hb]
    exact Nat.div_lt_iff_lt_mul Nat.one_le_two_pow
  rw [e]
theorem Told.all {d : Dm} (hok : d.Ok) {a : Nat} (ha : a ≤ 32) {l : List ByteArray} (h : Told d a (2 ^ a) l) : l.Perm (d.nodes.map (·.key)) := by
  unfold Told at h
  have e : (d.nodes.map (·.key)).filter (fun x => decide (kpos d.seed a x < 2 ^ a)) = d.nodes.map (·.key) := List.filter_eq_self.2 fun x _ => decide_eq_true (pos_lt ha _)
  rw [e] at h
  exact h
theorem Told.len {d : Dm} (hok : d.Ok) {a k : Nat} {l : List ByteArray} (h : Told d a k l) : l.length ≤ d.n := by
  unfold Told at h
  rw [h.length_eq, hok.count]
  exact Nat.le_trans (List.length_filter_le _ _) (by simp)

/-! ### the lesser table -/
def minS (s : Nat × Option Nat × Nat) : Nat := match s.2.1 with
  | none => s.1
  | some l => min s.1 l
theorem minS_step (s : Nat × Option Nat × Nat) (n : Int) : minS s ≤ minS (stepS s n) := by
  obtain ⟨s0, s1, s2⟩ := s
  unfold stepS
  cases s1 with
  | none => exact Nat.le_refl _
  | some l =>
    dsimp only
    split
    · exact Nat.le_refl _
    · exact Nat.min_le_right _ _
theorem scanA_min {d : Dm} (hok : d.Ok) : 2 ^ scanA d = minS (shape d) := by
  cases ht : d.t1 with
  | none =>
    have e : minS (shape d) = d.t0.len := by unfold minS shape; rw [ht]; rfl
    rw [e]; exact (scan_none hok ht).1.symm
  | some t =>
    have e : minS (shape d) = min d.t0.len t.len := by unfold minS shape; rw [ht]; rfl
    rw [e]
    obtain ⟨_, hab, _, h1⟩ := scan_some hok ht
    have hp := pow_mono hab
    rcases h1 with ⟨_, h, h2⟩ | ⟨_, h, h2, h3⟩ <;> omega
theorem scanA_step {d d' : Dm} (hok : d.Ok) (hok' : d'.Ok) {n : Int} (hs : shape d' = stepS (shape d) n) : scanA d ≤ scanA d' := by
  refine pow_le_of ?_
  rw [scanA_min hok, scanA_min hok', hs]
  exact minS_step _ n
/-- What steps alone have made of a dict. -/
structure Mv (d d' : Dm) : Prop where
  look : ∀ k, d'.look k = d.look k
  n : d'.n = d.n
  seed : d'.seed = d.seed
  up : scanA d ≤ scanA d'
theorem Mv.refl (d : Dm) : Mv d d := ⟨fun _ => rfl, rfl, rfl, Nat.le_refl _⟩
theorem Mv.trans {a b c : Dm} (h : Mv a b) (k : Mv b c) : Mv a c := ⟨fun x => (k.look x).trans (h.look x), k.n.trans h.n, k.seed.trans h.seed, Nat.le_trans h.up k.up⟩
theorem Mv.step {d d' : Dm} (hok : d.Ok) (hok' : d'.Ok) (hl : ∀ k, d'.look k = d.look k) (hn : d'.n = d.n) (hse : d'.seed = d.seed) {n : Int} (hs : shape d' = stepS (shape d) n) : Mv d d' := ⟨hl, hn, hse, scanA_step hok hok' hs⟩
theorem bz_A {d : Dm} (hok : d.Ok) (hb : bndZ (shape d)) : scanA d ≤ 10 := by
  refine pow_le_of (b := 10) ?_
  rw [scanA_min hok]
  have h0 : (shape d).1 ≤ 1024 := hb.1
  unfold minS
  split
  · exact h0
  · exact Nat.le_trans (Nat.min_le_left _ _) h0

/-! ### the calls of a scan -/
structure Sc (d : Dm) (i k : Nat) (l : List ByteArray) : Prop where
  le : k ≤ 2 ^ scanA d
  told : Told d (scanA d) k l
  z : i = 0 → k = 0
  pos : 0 < i → 0 < k
  far : i * 4194304 ≤ k * 2 ^ (32 - scanA d)
  bd : bndZ (shape d)
theorem pw32 {a : Nat} (h : a ≤ 32) : (2 : Nat) ^ a * 2 ^ (32 - a) = 4294967296 := by
  rw [← Nat.pow_add, show a + (32 - a) = 32 by omega]
theorem Sc.zero {d : Dm} (hb : bndZ (shape d)) : Sc d 0 0 [] := ⟨Nat.zero_le _, Told.zero d _, fun _ => rfl, fun h => absurd h (Nat.lt_irrefl 0), by omega, hb⟩
theorem Sc.i_le {i k : Nat} {d : Dm} {l : List ByteArray} (h : Sc d i k l) (hok : d.Ok) : i ≤ 1024 := by
  have h1 := pw32 (a := scanA d) (by have := scanA_le hok; omega)
  have h2 := Nat.mul_le_mul_right (2 ^ (32 - scanA d)) h.le
  have h3 := h.far
  omega
theorem far_up {i x y c : Nat} (h : i * c ≤ x) (h' : c ≤ y) : (i + 1) * c ≤ x + y := by rw [Nat.succ_mul]; omega
theorem meas_dn {x y z : Nat} (h : x < z) (hz : z = 4294967296) (h' : 4194304 ≤ y) : 4294967296 - (x + y) < 4294967296 - x := by omega
theorem Sc.scan {i k : Nat} {d : Dm} {l : List ByteArray} (h : Sc d i k l) (hok : d.Ok) (hk : k < 2 ^ scanA d) :
    Sc d (i + 1) (k + 1) (l ++ scanL d (cur (scanA d) k)) ∧ 4294967296 - (k + 1) * 2 ^ (32 - scanA d) < 4294967296 - k * 2 ^ (32 - scanA d) := by
  have hA := scanA_le hok
  have hA9 : scanA d ≤ 10 := bz_A hok h.bd
  have h1 := pw32 (a := scanA d) (by omega)
  have h2 := Nat.mul_lt_mul_of_pos_right hk (Nat.two_pow_pos (32 - scanA d))
  have h3 := h.far
  have h4 : 4194304 ≤ 2 ^ (32 - scanA d) := Nat.le_trans (by decide : 4194304 ≤ 2 ^ 22) (pow_mono (a := 22) (by omega))
  have h5 : (k + 1) * 2 ^ (32 - scanA d) = k * 2 ^ (32 - scanA d) + 2 ^ (32 - scanA d) := Nat.succ_mul _ _
  refine ⟨⟨hk, h.told.scan hok hk, fun e => absurd e (Nat.succ_ne_zero _), fun _ => Nat.succ_pos _, ?_, h.bd⟩, ?_⟩
  · rw [h5]; exact far_up h3 h4
  · rw [h5]; exact meas_dn h2 h1 h4
theorem Sc.mv {i k : Nat} {d d' : Dm} {l : List ByteArray} (h : Sc d i k l) (hok : d.Ok) (hok' : d'.Ok) (hM : Mv d d') (hb' : bndZ (shape d')) :
    Sc d' i (k * 2 ^ (scanA d' - scanA d)) l ∧ k * 2 ^ (scanA d' - scanA d) * 2 ^ (32 - scanA d') = k * 2 ^ (32 - scanA d) ∧ curW (scanA d') (k * 2 ^ (scanA d' - scanA d)) = curW (scanA d) k := by
  have hab := hM.up
  have hb := scanA_le hok'
  have e1 : k * 2 ^ (scanA d' - scanA d) * 2 ^ (32 - scanA d') = k * 2 ^ (32 - scanA d) := by
    rw [Nat.mul_assoc, ← Nat.pow_add, show scanA d' - scanA d + (32 - scanA d') = 32 - scanA d by omega]
  refine ⟨⟨?_, h.told.up hok hok' hM.look hM.seed hab (by omega), fun e => by rw [h.z e, Nat.zero_mul], fun e => Nat.mul_pos (h.pos e) (Nat.two_pow_pos _), by rw [e1]; exact h.far, hb'⟩, e1, curW_up hab (by omega) k⟩
  rw [pow_up hab]
  exact Nat.mul_le_mul_right _ h.le
end Go.Proofs.YtifcpippfiglkaaGreat.Dint64

/- zset: Scan. -/
namespace Go.Proofs.YtifcpippfiglkaaGreat
open Go.RowKit Pal
attribute [local go_sem] Oper.semAt_some
/-- The entries of keys. -/
def enK (es : List En) (ks : List ByteArray) : List En := ks.map fun k => ⟨k, (lookE es k).getD 0⟩
theorem enK_snoc {es : List En} {ks : List ByteArray} {i : Nat} {k : ByteArray} (h : ks[i]? = some k) : enK es (ks.take (i + 1)) = enK es (ks.take i) ++ [⟨k, (lookE es k).getD 0⟩] := by
  unfold enK
  rw [List.take_add_one, h, List.map_append]
  rfl
theorem enK_len (es : List En) (ks : List ByteArray) : (enK es ks).length = ks.length := by unfold enK; simp
theorem enK_app (es : List En) (a b : List ByteArray) : enK es (a ++ b) = enK es a ++ enK es b := by unfold enK; simp
theorem scanL_len {d : Dint64.Dm} (hok : d.Ok) {c : Nat} (hc : c < 4294967296) : (Dint64.scanL d c).length ≤ d.n := by
  obtain ⟨ns, ng, h1, h2⟩ := Dint64.scan_perm hok c hc
  rw [h2.length_eq, hok.count, h1.length_eq, List.length_map, List.length_append, List.length_append]
  exact Nat.add_le_add (List.length_filter_le _ _) (List.length_filter_le _ _)
section
variable {w w' : World} {base : Nat} {x : Ls} {es : List En}
theorem LsAt.scan_key (h : LsAt w base x es) {c : Nat} (hc : c < 4294967296) {k : ByteArray} (hk : k ∈ Dint64.scanL x.d c) : ∃ s, (⟨k, s⟩ : En) ∈ es := by
  obtain ⟨y, hy, rfl⟩ := Dint64.scan_mem h.ok hc hk
  have h1 : x.d.look y.key = some y.v := (Dint64.look_some h.ok.keys).2 ⟨y, hy, rfl, rfl⟩
  rw [h.look] at h1
  cases hl : lookE es y.key with
  | none => rw [hl] at h1; cases h1
  | some s =>
    unfold lookE at hl
    rw [Option.map_eq_some_iff] at hl
    obtain ⟨e, he, rfl⟩ := hl
    have hm := List.mem_of_find?_eq_some he
    have hp : e.m = y.key := by simpa using List.find?_some he
    exact ⟨e.s, by rw [← hp]; exact hm⟩
/-- Slices of texts, of entries are no blocks of a list. -/
theorem ls_own {e : TypeId} {v : Value} {b n : Nat} {xs : List Value} {sz : Nat} (hl : LsAt w base x es) (h : w.ownsRow b e sz v n xs) (he : e = 9 ∨ e = 54) {g : Nat} (hg : v.ownBlock = some g) : ¬ x.foot g := by
  intro hf
  obtain ⟨t, cs, hb, ht⟩ := ls_ty hl hf
  refine hb.not_own h ?_ hg
  rcases he with rfl | rfl <;> rcases ht with rfl | rfl | rfl | rfl | rfl | rfl <;> decide
theorem Ents.nl {v : Value} {b : Nat} {l : List En} (h : Ents w b v l) (hl : LsAt w base x es) (hc : Chg x.foot w w') : Ents w' b v l := h.chg hc fun _ hg => ls_own hl h (.inr rfl) hg
theorem strs_nl {v : Value} {b : Nat} {l : List ByteArray} (h : Strs w b v l) (hl : LsAt w base x es) (hc : Chg x.foot w w') : Strs w' b v l := own_stay h (.of_chg hc) fun _ hg => ls_own hl h (.inl rfl) hg
/-- A score that is asked for: the dict may move. -/
def SlPost (base : Nat) (x : Ls) (es : List En) (v : Value) (w : World) (r : Ending) (w' : World) : Prop := r = .returned v ∧ ∃ x', Lx base x x' es w w' ∧ Dint64.Mv x.d x'.d
set_option maxRecDepth 100000 in
theorem l_score_mv (h : LsAt w base x es) (m : ByteArray) (hm : m.size ≤ 9223372036854775807) : Calls Tryz.prog 51 #[pt x.blk, .string m] w (SlPost base x es (.tuple #[.int .i64 ((lookE es m).getD 0), .bool (lookE es m).isSome]) w) := by
  obtain ⟨c0, c1, l0⟩ := h.cells
  have hg := Dint64.Get_i x.d m w h.dm h.ok hm
  rw [h.look m, getD_int, isSome_int] at hg
  unfold Dint64.ptr at hg
  unfold pt at *
  clear hm
  go_enter Tryz.func51, Tryz.ntmps51
  go_wp2_with (go_at_call 73; refine hg.mono ?_; rintro r w1 ⟨rfl, d', hn, hl, hd, hz⟩)
  go_ret2
  exact ⟨rfl, _, h.dict hn h.eq (fun k => by rw [hl, h.look]) (hd.trans h.dn) (by rw [hz]; exact Dint64.bz_step h.bz _), Dint64.Mv.step h.ok hn.ok hl hd hn.seed hz⟩
theorem Lx.refl (h : LsAt w base x es) : Lx base x x es w w := ⟨h, rfl, rfl, Chg.refl _ _, fun _ => .inl⟩
theorem Lx.zero (h : LsAt w base x es) (hc : Chg (fun _ => False) w w') : Lx base x x es w w' := ⟨h.chg0 hc, rfl, rfl, hc.mono fun _ _ h => h.elim, fun _ => .inl⟩
theorem Lx.trans {y z : Ls} {a b c : World} (h : Lx base x y es a b) (k : Lx base y z es b c) : Lx base x z es a c :=
  ⟨k.at_, k.blk.trans h.blk, k.seed.trans h.seed, h.chg.trans' k.chg fun g hg hf => (h.foot g hf).elim id fun h2 => by omega,
    fun g hg => (k.foot g hg).elim (h.foot g) fun h2 => .inr (Nat.le_trans h.chg.size h2)⟩
theorem Lx.app {y : Ls} {a b c : World} (h : Lx base x y es a b) {S : Nat → Prop} (hc : Chg S b c) (hS : ∀ g, S g → a.heap.size ≤ g) (hn : ∀ g, y.foot g → ¬ S g) : Lx base x y es a c :=
  ⟨h.at_.chg hc hn, h.blk, h.seed, h.chg.trans' hc fun g hg h' => by have := hS g h'; omega, h.foot⟩
end
end Go.Proofs.YtifcpippfiglkaaGreat

/- zset: Scan of a set. -/
namespace Go.Proofs.YtifcpippfiglkaaGreat
open Go.RowKit Pal
attribute [local go_sem] Oper.semAt_some
section
variable {w : World} {base zb E M sd : Nat} {x : Ls} {es : List En}
set_option maxRecDepth 100000 in
theorem z_scan_p {b : Nat} (h : ZsAt w base ⟨zb, E, M, sd, .p b⟩ es) (c : Nat) : Calls Tryz.prog 34 #[pt zb, .int .u32 (c : Int)] w fun r w' => (∃ v, r = .returned (.tuple #[v, .int .u32 0]) ∧ Ents w' w.heap.size v es) ∧ Chg (fun _ => False) w w' := by
  obtain ⟨c0, _, _, _, l0⟩ := h.cells
  have hl := z_len h
  have hr := fun w' (hc : Chg (fun _ => False) w w') => z_range (h.chg0 hc) 0 es.length
  rw [sub_all] at hr
  have hm := fun w => ta_pl w b
  unfold RgPost at hr
  unfold Fm.v pt at *
  go_enter Tryz.func34, Tryz.ntmps34
  go_wp2_with (first
    | (go_at_call 16; refine hl.mono ?_; rintro r w1 ⟨rfl, hC1⟩)
    | (go_at_call 20; refine (hr _ hC1).mono ?_; rintro r w2 ⟨⟨v, rfl, hE⟩, hC2⟩))
  go_ret2
  exact ⟨⟨_, rfl, hE.lower hC1.size⟩, hC1.trans hC2⟩
def ScPost (base : Nat) (x : Ls) (es : List En) (ks : List ByteArray) (c : Nat) (w : World) (r : Ending) (w' : World) : Prop := ∃ v x', r = .returned (.tuple #[v, .int .u32 (c : Int)]) ∧ Ents w' w.heap.size v (enK es ks) ∧ Lx base x x' es w w' ∧ Dint64.Mv x.d x'.d
set_option maxRecDepth 100000 in
set_option maxHeartbeats 4000000 in
theorem z_scan_l (h : ZsAt w base ⟨zb, E, M, sd, .l x⟩ es) (c : Nat) (hc : c < 4294967296) : Calls Tryz.prog 34 #[pt zb, .int .u32 (c : Int)] w (ScPost base x es (Dint64.scanL x.d c) (Dint64.scanC x.d c) w) := by
  obtain ⟨c0, _, _, _, l0⟩ := h.cells
  have hp : LsAt w base x es := h.f
  have hn4 := h.ok.n
  have hmo := h.ok.ok
  obtain ⟨d0, d1, dl⟩ := hp.cells
  have hm := fun w => ta_ll w x.blk
  have hsc := Dint64.Scan_i x.d c w hp.dm hp.ok (by have := hp.dn; omega) hc
  have hkl : (Dint64.scanL x.d c).length ≤ 400 := by have := scanL_len hp.ok hc; have := hp.dn; omega
  have hkey : ∀ k ∈ Dint64.scanL x.d c, k.size ≤ 9223372036854775807 := fun k hk => by
    obtain ⟨s, hs⟩ := hp.scan_key hc hk
    have := (hmo _ hs).1
    have : k.size ≤ 64 := this
    omega
  obtain ⟨i0, hi0, hz0, hz1, hz2⟩ := info_parts ent_info
  unfold ScPost
  generalize Dint64.scanL x.d c = ks at *
  generalize Dint64.scanC x.d c = c' at *
  have hscr := fun W y k (hy : LsAt W base y es) (hk : k.size ≤ 9223372036854775807) => l_score_mv hy k hk
  unfold SlPost at hscr
  unfold Dint64.ptr at hsc
  unfold Fm.v pt at *
  clear h hmo hc
  go_enter Tryz.func34, Tryz.ntmps34
  go_wp2_with (first
    | (go_at_call 50; refine hsc.mono ?_; rintro r w1 ⟨⟨kv, rfl, hK⟩, hC1⟩; obtain ⟨kp, kc, rfl, kc1, kc2, _⟩ := hK.is)
    | fail)
  have hp1 := hp.chg0 hC1
  have hL1 := Lx.zero hp hC1
  have hsz := hC1.size
  clear hsc d0 d1 c0 hp
  have hl4 : (ks.length : Int) ≤ 400 := by omega
  have hCs := hC1.size
  obtain ⟨i1, hK1⟩ : ∃ i1, i1 = w1.heap.size := ⟨_, rfl⟩
  have hlt : ∀ g o, kp = some ⟨g, 0, o⟩ → g < w1.heap.size := fun g o e => by
    obtain ⟨p2, c2, e2, _, _, h2⟩ := hK.is
    injection e2 with e3
    subst e3
    exact (h2 _ e).2
  clear hK1
  go_loopg [10, 42] ks.length (fun k o iv W => ∃ (i : Nat) (y : Ls), iv = .int .i64 (i : Int) ∧ k = ks.length - i ∧ i ≤ ks.length ∧ Lx base x y es w W ∧ Dint64.Mv x.d y.d ∧ Strs W w.heap.size (.slice kp ks.length kc) ks ∧ Ents W w1.heap.size o (enK es (ks.take i)) ∧ w1.heap.size ≤ W.heap.size)
  case atStart => exact ⟨0, x, rfl, rfl, Nat.zero_le _, hL1, Dint64.Mv.refl _, hK, Ents.nil _ _, Nat.le_refl _⟩
  case round =>
    obtain ⟨i, y, rfl, rfl, hi, hL, hM, hS, hE, hW1⟩ := hrel
    by_cases hil : i < ks.length
    · have h3 : (i : Int) < (ks.length : Int) := by omega
      have hx := List.getElem?_eq_getElem hil
      obtain ⟨eb, ee, g1, el, d0⟩ := hS.at_ hil
      have hk9 := hkey _ (List.getElem_mem hil)
      generalize ks[i] = k at *
      subst ee
      have hebl := hlt _ _ rfl
      have hs1 := hscr wr y k hL.at_ hk9
      rw [hL.blk] at hs1
      have hsn := enK_snoc (es := es) hx
      have hel : (enK es (ks.take i)).length = i := by rw [enK_len, List.length_take]; omega
      obtain ⟨n9, hn9⟩ : ∃ n9, n9 = (lookE es k).getD 0 := ⟨_, rfl⟩
      rw [← hn9] at hs1 hsn
      have HSN := Lib.hid hsn
      have HXX := Lib.hid hx
      have HEL := Lib.hid hel
      have HS := Lib.hid hS
      clear hsn hx hel hscr hn9 hkey
      have m1 : i + 1 ≤ maxLen := by unfold maxLen; omega
      have m2 : (i + 1) * 24 ≤ 140737488355328 := by omega
      have hone : ∀ u ∈ [Value.string k, Value.int .i64 n9], u.oneCell' = true := by
        intro u hu
        rcases List.mem_cons.1 hu with rfl | hu
        · rfl
        · rw [List.mem_singleton] at hu; rw [hu]; rfl
      go_wp2_with (first
        | (go_at_call 51; refine hs1.mono ?_; rintro r9 w3 ⟨rfl, y', hL3, hM3⟩; have hE3 := hE.nl hL.at_ hL3.chg; have hS3 := strs_nl HS.out hL.at_ hL3.chg; have hsz3 := hL3.chg.size)
        | (at_builtin; refine wpList_append_any _ rfl (.tmp 52) (.tmp 56) 43 rfl w1.heap.size 54 i0 _ 2 24 Tryz.underlying43 hi0 hz0 hz1 hz2 rfl (by omega) _ i _ rfl (by rw [← HEL.out]; exact (hE3.chg0 ((Chg.refl (fun _ => False) _).alloc _))) (w3.alloc (.cells #[.string k, .int .i64 n9] 54)).heap.size (some ⟨w3.heap.size, 0, none⟩) 1 1 [.string k, .int .i64 n9] rfl (reads_ent w3 ⟨k, n9⟩) hone m1 m2 (Nat.le_trans hW1 (Nat.le_trans hsz3 (by simp))) ?_; intro v2 w2 hown2 hg2 _)
        | fail)
      have hA3 := (Chg.refl (fun _ => False) w3).alloc (.cells #[.string k, .int .i64 n9] 54)
      have hown := hE3.chg0 hA3
      have hL4 := (hL.trans hL3).app hA3 (fun _ h => h.elim) (fun _ _ => id)
      have hL5 := hL4.app (Chg.of_grown (S := fun g => u10.ownBlock = some g) hg2 fun _ h => h) (fun g hg => Nat.le_trans hsz (hown.lt g hg).1) (fun g hf hg => ls_own hL4.at_ hown (.inr rfl) hg hf)
      have hc2 := app_chg hown hg2
      go_roundg (ks.length - (i + 1))
      case measure => omega
      case rel =>
        refine ⟨i + 1, y', int_eq (by omega), rfl, by omega, hL5, hM.trans hM3, (hS3.chg hA3 fun _ _ => id).chg hc2 (fun g hg => (by injection hg : eb = g) ▸ (show ¬ w1.heap.size ≤ eb by omega)), ?_, Nat.le_trans hW1 (Nat.le_trans hsz3 (Nat.le_trans hA3.size hc2.size))⟩
        rw [HSN.out]
        exact Ents.mk hown2 (by rw [List.length_append, HEL.out]; rfl) (by rw [flat_snoc])
    · obtain rfl : i = ks.length := by omega
      have h3 : ¬ (ks.length : Int) < (ks.length : Int) := by omega
      rw [List.take_length] at hE
      go_wp2_with fail
      go_ret2
      first
        | exact ⟨_, rfl, hE.lower hCs, y, hL, hM⟩
        | exact ⟨_, rfl, y, hE.lower hCs, hL, hM⟩
        | exact ⟨_, y, rfl, hE.lower hCs, hL, hM⟩
end
end Go.Proofs.YtifcpippfiglkaaGreat

/- zset: Scan of a set of one's own, and what a whole scan tells. -/
namespace Go.Proofs.YtifcpippfiglkaaGreat
open Go.RowKit Pal
attribute [local go_sem] Oper.semAt_some
theorem Ents.own {w : World} {base : Nat} {v : Value} {l : List En} (h : Ents w base v l) : w.ownsRow base 54 2 v l.length (l.flatMap En.cells) := h
theorem ents_nz {W W' : World} {B base : Nat} {u : Value} {l es : List En} {z : Zs} (h : Ents W B u l) (hz : ZsAt W base z es) (hc : Chg z.foot W W') : Ents W' B u l := h.chg hc fun g hg hf => by
  obtain ⟨t, cs, hb, ht⟩ := zs_ty hz hf
  exact hb.not_own h (by rcases ht with rfl | rfl | rfl | rfl | rfl | rfl | rfl | rfl <;> decide) hg
section
variable {w0 W W' : World} {b : Nat} {z : Zs} {es : List En} {is : Bool} {E M : Nat}
theorem ow_scan_p (h : Ow w0 W b z es false E M) (c : Nat) : Calls Tryz.prog 34 #[pt b, .int .u32 (c : Int)] W fun r W' => (∃ v, r = .returned (.tuple #[v, .int .u32 0]) ∧ Ents W' W.heap.size v es) ∧ Chg (fun _ => False) W W' := by
  obtain ⟨hat, hblk, his, hE, hM, hC⟩ := h
  obtain ⟨zb, E', M', sd, f⟩ := z
  cases f with
  | p q =>
    have := z_scan_p hat c
    rw [show zb = b from hblk] at this
    exact this
  | l x => exact absurd his (by unfold Fm.is; simp)
/-- A list of one's own, and its inside. -/
def OwL (w0 W : World) (b : Nat) (x : Ls) (es : List En) (E M : Nat) : Prop := ∃ z, Ow w0 W b z es true E M ∧ z.f = .l x
theorem Ow.l (h : Ow w0 W b z es true E M) : ∃ x, OwL w0 W b x es E M := by
  have hi := h.is
  cases hf : z.f with
  | p q => rw [hf] at hi; exact absurd hi (by unfold Fm.is; simp)
  | l x => exact ⟨x, z, h, hf⟩
theorem OwL.at_ {x : Ls} (h : OwL w0 W b x es E M) : LsAt W w0.heap.size x es := by
  obtain ⟨z, h, hf⟩ := h
  have := h.at_.f
  rw [hf] at this
  exact this
theorem OwL.ow {x : Ls} (h : OwL w0 W b x es E M) : ∃ z, Ow w0 W b z es true E M := let ⟨z, h, _⟩ := h; ⟨z, h⟩
theorem OwL.chg {x : Ls} (h : OwL w0 W b x es E M) : Chg (fun _ => False) w0 W := let ⟨_, h, _⟩ := h; h.chg
theorem OwL.ok {x : Ls} (h : OwL w0 W b x es E M) : Zok es := let ⟨_, h, _⟩ := h; h.at_.ok
theorem OwL.keep {S : Nat → Prop} {x : Ls} (h : OwL w0 W b x es E M) (hc : Chg S W W') (hn : ∀ g t cs, Blk W g t cs → (t = 79 ∨ t = 75 ∨ t = 98 ∨ t = 134 ∨ t = 132 ∨ t = 138 ∨ t = 158 ∨ t = 160) → ¬ S g) (h0 : ∀ g, S g → w0.heap.size ≤ g) : OwL w0 W' b x es E M := by
  obtain ⟨z, h, hf⟩ := h
  exact ⟨z, h.keep hc (fun g hg => by obtain ⟨t, cs, hb, ht⟩ := zs_ty h.at_ hg; exact hn g t cs hb ht) h0, hf⟩
theorem ow_scan_l {x : Ls} (h : OwL w0 W b x es E M) (c : Nat) (hc : c < 4294967296) :
    Calls Tryz.prog 34 #[pt b, .int .u32 (c : Int)] W fun r W' => ∃ v x', r = .returned (.tuple #[v, .int .u32 (Dint64.scanC x.d c : Int)]) ∧ Ents W' W.heap.size v (enK es (Dint64.scanL x.d c)) ∧ OwL w0 W' b x' es E M ∧ Dint64.Mv x.d x'.d ∧ (∀ B u l, Ents W B u l → Ents W' B u l) ∧ W.heap.size ≤ W'.heap.size := by
  obtain ⟨z, ⟨hat, hblk, his, hE, hM, hC⟩, hf⟩ := h
  obtain ⟨zb, E', M', sd, f⟩ := z
  obtain rfl : f = .l x := hf
  obtain rfl : zb = b := hblk
  refine (z_scan_l hat c hc).mono ?_
  rintro r W' ⟨v, x', rfl, hv, hL, hM2⟩
  have hx : Fx w0.heap.size (.l x) (.l x') es W W' := ⟨hL.at_, by show Value.iface _ (pt x'.blk) = Value.iface _ (pt x.blk); rw [hL.blk], hL.chg, hL.foot⟩
  have hZ := hat.form hx hat.ok
  exact ⟨v, x', rfl, hv, ⟨_, ⟨hZ.at_, rfl, rfl, hE, hM, hC.trans' hZ.chg fun g hg hf => by have := (hat.lt hf).1; omega⟩, rfl⟩, hM2, fun _ _ _ hu => ents_nz hu hat hZ.chg, hZ.chg.size⟩
end
/-! ### what is told -/
def sameE (e x : En) : Bool := decide (x = e)
def countE (l : List En) (e : En) : Nat := (l.filter (sameE e)).length
theorem countE_le (l : List En) (e : En) : countE l e ≤ l.length := List.length_filter_le _ _
theorem countE_perm {l l' : List En} (h : l.Perm l') (e : En) : countE l e = countE l' e := (h.filter _).length_eq
theorem countE_one : ∀ {l : List En}, (l.map (·.m)).Nodup → ∀ {e : En}, e ∈ l → countE l e = 1
  | [], _, _, h => absurd h List.not_mem_nil
  | x :: l, nd, e, h => by
    rw [List.map_cons, List.nodup_cons] at nd
    unfold countE
    rcases List.mem_cons.1 h with rfl | h
    · rw [List.filter_cons_of_pos (by unfold sameE; simp), List.length_cons]
      have : l.filter (sameE e) = [] := List.filter_eq_nil_iff.2 fun y hy he => nd.1 (List.mem_map.2 ⟨y, hy, by rw [of_decide_eq_true he]⟩)
      rw [this]; rfl
    · have hne : sameE e x = false := decide_eq_false fun he => nd.1 (List.mem_map.2 ⟨e, h, by rw [he]⟩)
      rw [List.filter_cons_of_neg (by rw [hne]; simp)]
      exact countE_one nd.2 h
theorem countE_snoc {l : List En} {i : Nat} {x : En} (h : l[i]? = some x) (e : En) : countE (l.take (i + 1)) e = countE (l.take i) e + if x.m = e.m ∧ x.s = e.s then 1 else 0 := by
  unfold countE
  rw [List.take_add_one, h, List.filter_append, List.length_append]
  congr 1
  show ([x].filter _).length = _
  rw [List.filter_cons, List.filter_nil]
  have e1 : (x = e) ↔ (x.m = e.m ∧ x.s = e.s) := by
    cases x; cases e; simp
  unfold sameE
  by_cases hx : x = e
  · rw [if_pos (by simpa using hx), if_pos (e1.1 hx)]; rfl
  · rw [if_neg (by simpa using hx), if_neg fun h => hx (e1.2 h)]; rfl
theorem enK_perm {w : World} {base : Nat} {x : Ls} {es : List En} (h : LsAt w base x es) (hz : Zok es) {l : List ByteArray} (hl : l.Perm (x.d.nodes.map (·.key))) : (enK es l).Perm es := by
  have hk : (x.d.nodes.map (·.key)).Perm (es.map (·.m)) := by
    refine (List.perm_ext_iff_of_nodup h.ok.keys hz.nd).2 fun k => ?_
    rw [Dint64.mem_keys, h.look k]
    cases hx : lookE es k with
    | none =>
      have := lookE_none.1 hx
      simp only [Option.map_none, Option.isSome_none, Bool.false_eq_true, false_iff]
      exact this
    | some s =>
      simp only [Option.map_some, Option.isSome_some, true_iff]
      exact List.mem_map.2 ⟨_, (lookE_some hz.nd).1 hx, rfl⟩
  refine ((hl.trans hk).map _).trans ?_
  rw [List.map_map]
  have e : es.map ((fun k => (⟨k, (lookE es k).getD 0⟩ : En)) ∘ (·.m)) = es := by
    refine (List.map_congr_left (g := id) fun e he => ?_).trans (List.map_id _)
    show (⟨e.m, (lookE es e.m).getD 0⟩ : En) = e
    rw [(lookE_some hz.nd).2 he]
    rfl
  rw [e]
end Go.Proofs.YtifcpippfiglkaaGreat

/- The walk of ZsetScans. -/
namespace Go.Proofs.YtifcpippfiglkaaGreat.zsetScans
open Go.RowKit Pal
attribute [local go_sem] Oper.semAt_some

def InvP (w3 : World) (w0 : World) (b : Nat) (z : Zs) (es : List En) (E M B : Nat) (va : Value) (k : Nat) (vt vc vi : Value) (W : World) : Prop :=
  vc = .int .u32 0 ∧ Ow w0 W b z es false E M ∧ Ents W B va es ∧ Chg (fun _ => False) w3 W ∧ ((vi = .int .i64 0 ∧ k = 1 ∧ vt = .slice none 0 0) ∨ (vi = .int .i64 1 ∧ k = 0 ∧ Ents W w3.heap.size vt es))
def InvL (w3 : World) (w0 : World) (b : Nat) (es : List En) (E M B : Nat) (va : Value) (k : Nat) (vt vc vi : Value) (W : World) : Prop :=
  ∃ (i q : Nat) (l : List ByteArray) (y : Ls), vi = .int .i64 (i : Int) ∧ vc = .int .u32 (curW (Dint64.scanA y.d) q : Int) ∧ Ents W w3.heap.size vt (enK es l) ∧ OwL w0 W b y es E M ∧ Dint64.Sc y.d i q l ∧ k = 4294967296 - q * 2 ^ (32 - Dint64.scanA y.d) ∧ w3.heap.size ≤ W.heap.size ∧ Ents W B va es
theorem told_len {W : World} {base i q : Nat} {y : Ls} {es : List En} {l : List ByteArray} (h : LsAt W base y es) (hS : Dint64.Sc y.d i q l) : l.length ≤ es.length := by
  have := hS.told.len h.ok
  rw [h.dn] at this
  exact this

set_option maxRecDepth 100000 in
set_option maxHeartbeats 16000000 in
theorem walk (A0 A1 : Int) (seed : Nat) (hs : seed < 4294967296) (v : Value) (n : Nat) (g : Nat → Act6) (w : World) (hv : ActsZ w v n g) :
    Calls Tryz.prog 9 #[.agg #[.int .i64 A0, .int .i64 A1], .int .u32 (seed : Int), v] w fun e w' => e = .returned (.bool true) ∧ Chg (fun _ => False) w w' := by
  have hsh := fun w => shown11_any w
  obtain ⟨i0, hi0, hz0, hz1, hz2⟩ := info_parts ent_info
  obtain ⟨wb, hwb⟩ : ∃ wb, wb = w.alloc (.cells #[.int .i64 A0, .int .i64 A1] 23) := ⟨_, rfl⟩
  have hCb := (Chg.refl (fun _ => False) w).alloc (.cells #[.int .i64 A0, .int .i64 A1] 23)
  have x0 := Blk.new w 23 #[.int .i64 A0, .int .i64 A1]
  rw [← hwb] at hCb x0
  have hCm : ∀ W, Chg (fun _ => False) wb W → Chg (fun _ => False) w W := fun W hc => hCb.trans hc
  have hmd := fun (W : World) (hc : Chg (fun _ => False) wb W) => made11_any A0 A1 seed hs v n g W (hv.chg (hCb.trans hc))
  generalize clampL 200 A0 = E at *
  generalize clampL 64 A1 = M at *
  have hlen := fun W b z es is w0 (h : Ow w0 W b z es is E M) => ow_len h
  have hrg := fun W b z es is w0 (h : Ow w0 W b z es is E M) => ow_range h 0 es.length
  have hen := fun W b z es is w0 (h : Ow w0 W b z es is E M) => ow_encoding h
  have hsm := fun l W u u' (h : EntsR W u l) (h' : EntsR W u' l) (hn : l.length ≤ 1000) => same_any u u' l W h h' hn
  unfold RgPost at hrg
  unfold pt at hmd hlen hrg hen
  have hg0 : ∀ W', Chg (fun _ => False) wb W' → W'.cell? ⟨w.heap.size, 0, none⟩ = some (.int .i64 A0) ∧ W'.cell? ⟨w.heap.size, 1, none⟩ = some (.int .i64 A1) ∧ w.heap.size < W'.heap.size := fun W' hc => ⟨by have := (x0.chg hc id).cell 0; simpa using this, by have := (x0.chg hc id).cell 1; simpa using this, (x0.chg hc id).lt⟩
  clear x0 hCb
  go_enter Tryz.func9, Tryz.ntmps9
  go_wp2_with (first
    | (go_at_call 10; rw [← hwb]; refine (hsh _).mono ?_; rintro r w0' ⟨rfl, hC0⟩; obtain ⟨y0, y1, y2⟩ := hg0 _ hC0)
    | (go_at_call 29; refine (hmd _ hC0).mono ?_; rintro r w1 ⟨b, rb, rfl, z1, u0, es, is0, hSR⟩; have H1 := hSR.s; have hlen1 := hlen _ _ _ _ _ _ H1)
    | (go_at_call 16; refine hlen1.mono ?_; rintro r w2 ⟨rfl, C2⟩; have hrg2 := hrg _ _ _ _ _ _ (H1.chg0 C2))
    | (go_at_call 20; refine hrg2.mono ?_; rintro r w3 ⟨⟨va, rfl, hEa⟩, C3⟩; have H3 := H1.chg0 (C2.trans C3))
    | fail)
  rw [sub_all] at hEa
  have hn4 := H3.len
  have hn4i : (es.length : Int) ≤ 400 := by omega
  have hBB := C3.size
  have hOB := H3.chg.size
  have hEA := fun g hg => (hEa.own.lt g hg).2
  have hCw : ∀ W, Chg (fun _ => False) w0' W → Chg (fun _ => False) w W := fun W hc => hCm _ (hC0.trans hc)
  clear hsh hmd hlen hrg hSR H1 hlen1 hrg2 C2 C3 hg0 y0 y1 y2 hs hv hCm
  cases is0 with
  | false =>
    have hsc := fun W (h : Ow w0' W b z1 es false E M) => ow_scan_p h 0
    unfold pt at hsc
    rw [show ((0 : Nat) : Int) = 0 from rfl] at hsc
    go_loopg [11, 12, 13] 1 (InvP w3 w0' b z1 es E M w2.heap.size va)
    case atStart => exact ⟨rfl, H3, hEa, Chg.refl _ _, .inl ⟨rfl, rfl, rfl⟩⟩
    case round =>
      clear H3 hEa
      obtain ⟨rfl, H, hE, hC, ⟨rfl, rfl, rfl⟩ | ⟨rfl, rfl, hT⟩⟩ := hrel
      · have m1 : 0 + es.length ≤ maxLen := by unfold maxLen; omega
        have m2 : (0 + es.length) * 24 ≤ 140737488355328 := by omega
        have hsc1 := hsc _ H
        have hsz := hC.size
        go_wp2_with (first
          | (go_at_call 34; refine hsc1.mono ?_; rintro r9 w5 ⟨⟨v5, rfl, e5⟩, C5⟩; obtain ⟨pa, ca, rfl, _, _, _⟩ := e5.is; have hsz5 := C5.size)
          | (at_builtin; refine wpList_append_any _ rfl (.tmp 47) (.tmp 48) 43 rfl w3.heap.size 54 i0 _ 2 24 Tryz.underlying43 hi0 hz0 hz1 hz2 rfl (by omega) _ 0 [] rfl (World.ownsRow_nil _ _ _ 2) w5.heap.size pa _ ca _ rfl e5.reads (ents_one _) m1 m2 (by omega) ?_; intro v3 w6 hown3 hg3 _)
          | fail)
        have hN : Ents w5 w3.heap.size (.slice none 0 0) [] := Ents.nil _ _
        have hc6 := app_chg hN.own hg3
        go_roundg 0
        case measure => omega
        case rel =>
          have hcf : Chg (fun _ => False) w5 w6 := (Chg.of_grown (S := fun _ => False) hg3 fun g hg => by cases hg)
          refine ⟨rfl, (H.chg0 C5).chg0 hcf, (hE.chg0 C5).chg0 hcf, hC.trans (C5.trans hcf), .inr ⟨rfl, rfl, ?_⟩⟩
          exact Ents.mk hown3 (by simp) (by simp)
      · have hen1 := hen _ _ _ _ _ _ H
        have e0 := hE.r
        have t0 := hT.r
        unfold encZ at hen1
        go_wp2_with fail
        go_wp2_with (first
          | (go_at_call 15; refine hen1.mono ?_; rintro r9 w5 ⟨rfl, rfl⟩)
          | (go_at_call 19; refine (hsm es _ _ _ t0 e0 (by omega)).mono ?_; rintro r9 w6 ⟨rfl, C6⟩)
          | fail)
        go_ret
        exact ⟨rfl, hCw _ ((H.chg).trans C6)⟩
  | true =>
    obtain ⟨x, hX⟩ := H3.l
    have hsc := fun W y (h : OwL w0' W b y es E M) c hc => ow_scan_l h c hc
    unfold pt at hsc
    go_loopg [11, 12, 13] 4294967296 (InvL w3 w0' b es E M w2.heap.size va)
    case atStart => exact ⟨0, 0, [], x, rfl, by rw [Dint64.curW_eq (Nat.two_pow_pos _), cur_zero]; rfl, Ents.nil _ _, hX, Dint64.Sc.zero hX.at_.bz, by rw [Nat.zero_mul], Nat.le_refl _, hEa⟩
    case round =>
      clear H3 hEa hX
      obtain ⟨i, q, l, y, rfl, rfl, hT, hY, hS, rfl, hsz, hE⟩ := hrel
      have hok := hY.at_.ok
      have hi3 := hS.i_le hok
      have hll := told_len hY.at_ hS
      have hA := Dint64.scanA_le hok
      by_cases hq : q < 2 ^ Dint64.scanA y.d
      · obtain ⟨hS1, hm1⟩ := hS.scan hok hq
        have hll1 := told_len hY.at_ hS1
        rw [List.length_append] at hll1
        have hcond : (((i : Int) == 0) = true ∧ True) ∨ (((i : Int) == 0) = false ∧ (((cur (Dint64.scanA y.d) q : Nat) : Int) == 0) = false ∧ decide (cur (Dint64.scanA y.d) q = 0) = false ∧ (cur (Dint64.scanA y.d) q = 0) = False) := by
          rcases Nat.eq_zero_or_pos i with h | h
          · exact .inl ⟨by rw [h]; rfl, trivial⟩
          · refine .inr ⟨by rw [beq_eq_false_iff_ne]; omega, ?_⟩
            have := Dint64.curW_ne (a := Dint64.scanA y.d) (by omega) (hS.pos h) hq
            rw [Dint64.curW_eq hq] at this
            exact ⟨by rw [beq_eq_false_iff_ne]; omega, decide_eq_false this, eq_false this⟩
        rw [Dint64.curW_eq hq]
        have hsc1 := hsc _ y hY (cur (Dint64.scanA y.d) q) (cur_lt32 _ _)
        rw [Dint64.scanC_cur hok hq] at hsc1
        have hi4 : (i : Int) < 3000 := by omega
        have hi5 : (i : Int) ≤ 1024 := by omega
        have HM1 := Lib.hid hm1
        have HQ := Lib.hid hq
        have HS1 := Lib.hid hS1
        have m1 : (enK es l).length + (enK es (Dint64.scanL y.d (cur (Dint64.scanA y.d) q))).length ≤ maxLen := by rw [enK_len, enK_len]; unfold maxLen; omega
        have m2 : ((enK es l).length + (enK es (Dint64.scanL y.d (cur (Dint64.scanA y.d) q))).length) * 24 ≤ 140737488355328 := by rw [enK_len, enK_len]; omega
        have hfin : ∀ (w5 w6 : World) (x' : Ls) (v3 : Value), OwL w0' w5 b x' es E M → Dint64.Mv y.d x'.d → (∀ B u l, Ents wr B u l → Ents w5 B u l) → wr.heap.size ≤ w5.heap.size → w5.grownBy w6 u11.ownBlock → Ents w6 w3.heap.size v3 (enK es l ++ enK es (Dint64.scanL y.d (cur (Dint64.scanA y.d) q))) →
            ∃ k', k' < 4294967296 - q * 2 ^ (32 - Dint64.scanA y.d) ∧ InvL w3 w0' b es E M w2.heap.size va k' v3 (.int .u32 (curW (Dint64.scanA y.d) (q + 1) : Int)) (.int .i64 ((i : Int) + 1)) w6 := by
          intro w5 w6 x' v3 hY' hMv hkeep hsz5 hg hv3
          obtain ⟨hS2, e1, e2⟩ := HS1.out.mv hok hY'.at_.ok hMv hY'.at_.bz
          have hT5 := hkeep _ _ _ hT
          have hc6 := app_chg hT5.own hg
          have hE5 := hkeep _ _ _ hE
          refine ⟨_, ?_, i + 1, _, _, x', rfl, by rw [e2], ?_, ?_, hS2, rfl, Nat.le_trans hsz (Nat.le_trans hsz5 hc6.size), ?_⟩
          · rw [e1]; exact HM1.out
          · rw [enK_app]; exact hv3
          · exact hY'.keep (S := fun g => u11.ownBlock = some g) (Chg.of_grown hg fun _ h => h) (fun g t cs hb ht hg => hb.not_own hT5.own (by rcases ht with rfl | rfl | rfl | rfl | rfl | rfl | rfl | rfl <;> decide) hg) (fun g hg => Nat.le_trans hOB (hT5.own.lt g hg).1)
          · exact hE5.chg hc6 fun g hg hg2 => by
              have h1 := (hEA g hg)
              omega
        clear hm1 hq hS1 hS hsc hok hA
        rcases hcond with ⟨h1, -⟩ | ⟨h1, h2, h2b, h2c⟩
        all_goals
          go_wp2_with (first
            | (go_at_call 34; refine hsc1.mono ?_; rintro r9 w5 ⟨v5, x', rfl, e5, hY', hMv, hkeep, hsz5⟩; obtain ⟨pa, ca, rfl, _, _, _⟩ := e5.is)
            | (at_builtin; refine wpList_append_any _ rfl (.tmp 47) (.tmp 48) 43 rfl w3.heap.size 54 i0 _ 2 24 Tryz.underlying43 hi0 hz0 hz1 hz2 rfl (by omega) _ _ _ rfl (hkeep _ _ _ hT).own w5.heap.size pa _ ca _ rfl e5.reads (ents_one _) m1 m2 (by omega) ?_; intro v3 w6 hown3 hg3 _)
            | fail)
          obtain ⟨k', hk', hI⟩ := hfin w5 w6 x' v3 hY' hMv hkeep hsz5 hg3 (Ents.mk hown3 (by simp) (by simp))
          go_roundg k'
          case measure => exact hk'
          case rel => exact hI
      · have hqe : q = 2 ^ Dint64.scanA y.d := Nat.le_antisymm hS.le (by omega)
        have hip : 0 < i := Nat.pos_of_ne_zero fun e => by have := hS.z e; have := Nat.two_pow_pos (Dint64.scanA y.d); omega
        have htd := hS.told
        rw [hqe] at htd
        have hp := enK_perm hY.at_ hY.ok (htd.all hok (by omega))
        have hnd := hY.ok.nd
        have hen1 : Calls Tryz.prog 15 #[pt b] wr fun r W' => r = .returned (.string (encZ true)) ∧ wr = W' := by
          obtain ⟨z, hz⟩ := hY.ow
          exact hen _ _ _ _ _ _ hz
        have hc0 : curW (Dint64.scanA y.d) q = 0 := by rw [hqe]; exact Dint64.curW_full _
        rw [hc0, show ((0 : Nat) : Int) = 0 from rfl]
        have h1 : ((i : Int) == 0) = false := by rw [beq_eq_false_iff_ne]; omega
        have hCy := hCw _ hY.chg
        clear hsc hS htd hq hqe hc0 hip hA hok hY hll hi3
        have hone : ∀ e ∈ es, countE (enK es l) e = 1 := fun e he => (countE_perm hp e).trans (countE_one hnd he)
        have hl2 := hp.length_eq
        generalize enK es l = tl at *
        obtain ⟨p1, c1, h1v, k1, k2, _⟩ := hT.is
        rw [hl2] at h1v
        subst h1v
        obtain ⟨p2, c2, h2v, k3, k4, _⟩ := hE.is
        subst h2v
        have t0 := hT.r
        have e0 := hE.r
        have HL := Lib.hid hl2
        unfold encZ pt at hen1
        clear hp hnd hT hE hl2 k1 k2 k3 k4
        go_wp2_with (first
          | (go_at_call 15; refine hen1.mono ?_; rintro r9 w5 ⟨rfl, rfl⟩)
          | fail)
        go_loopg [16] es.length (fun k iv W => ∃ i : Nat, iv = .int .i64 (i : Int) ∧ k = es.length - i ∧ i ≤ es.length ∧ EntsR W (.slice p1 es.length c1) tl ∧ EntsR W (.slice p2 es.length c2) es ∧ Chg (fun _ => False) w W)
        case atStart => exact ⟨0, rfl, rfl, Nat.zero_le _, t0, e0, hCy⟩
        case round =>
          clear t0 e0 hCy
          obtain ⟨a, rfl, rfl, ha, ta, ea, hCa⟩ := hrel
          by_cases hal : a < es.length
          · have ha3 : (a : Int) < (es.length : Int) := by omega
            have hx := List.getElem?_eq_getElem hal
            generalize es[a] = e at hx
            have hce := hone e (List.mem_of_getElem? hx)
            have HX := Lib.hid hx
            have HCE := Lib.hid hce
            clear hx hce
            go_wp2_with fail
            go_loopg [17, 18] es.length (fun k nv kv W => ∃ j : Nat, kv = .int .i64 (j : Int) ∧ k = es.length - j ∧ j ≤ es.length ∧ nv = .int .i64 (countE (tl.take j) e : Int) ∧ EntsR W (.slice p1 es.length c1) tl ∧ EntsR W (.slice p2 es.length c2) es ∧ Chg (fun _ => False) w W)
            case atStart => exact ⟨0, rfl, rfl, Nat.zero_le _, rfl, ta, ea, hCa⟩
            case round =>
              clear ta ea hCa
              obtain ⟨j, rfl, rfl, hj, rfl, t0, e0, hCj⟩ := hrel
              have t00 := t0
              have e00 := e0
              by_cases hjl : j < es.length
              · have hj3 : (j : Int) < (es.length : Int) := by omega
                have hjt : j < tl.length := by rw [HL.out]; exact hjl
                have hy := List.getElem?_eq_getElem hjt
                generalize tl[j] = f at hy
                have hsn := countE_snoc hy e
                have hcl := countE_le (tl.take j) e
                rw [List.length_take] at hcl
                have hcl2 : countE (tl.take j) e ≤ 400 := by omega
                generalize countE (tl.take j) e = cn at *
                obtain ⟨bf, of, cf, hvf, k1, k2, k3, d0, d1⟩ := t0.at_ hy
                injection hvf with hv1 hv2 hv3
                obtain ⟨be, oe, ce, hve, k1', k2', k3', d0', d1'⟩ := e0.at_ HX.out
                injection hve with hv4 hv5 hv6
                subst hv1 hv3 hv4 hv6
                have HSN := Lib.hid hsn
                have hcn4 : (cn : Int) ≤ 400 := by omega
                clear hy hsn hv2 hv5 hjt hcl t0 e0
                by_cases hmm : f.m = e.m
                · by_cases hss : f.s = e.s
                  · have g1 : (f.m.toList == e.m.toList) = true := by rw [hmm]; exact toListE _
                    have g2 : (f.s == e.s) = true := by rw [hss]; simp
                    have HF := Lib.hid (And.intro hmm hss)
                    clear hmm hss
                    go_wp2_with fail
                    go_still_tail 8, (by kernel_rfl)
                    go_wp2_with fail
                    go_roundg (es.length - (j + 1))
                    case measure => omega
                    case rel => exact ⟨j + 1, int_eq (by omega), rfl, by omega, by rw [HSN.out, if_pos HF.out]; exact int_eq (by omega), t00.chg0 (Chg.refl _ _).drew, e00.chg0 (Chg.refl _ _).drew, hCj.drew⟩
                  · have g1 : (f.m.toList == e.m.toList) = true := by rw [hmm]; exact toListE _
                    have g2 : (f.s == e.s) = false := by rw [beq_eq_false_iff_ne]; exact hss
                    have HF := Lib.hid (show ¬ (f.m = e.m ∧ f.s = e.s) from fun h => hss h.2)
                    clear hmm
                    go_wp2_with fail
                    go_still_tail 8, (by kernel_rfl)
                    go_wp2_with fail
                    go_roundg (es.length - (j + 1))
                    case measure => omega
                    case rel => exact ⟨j + 1, int_eq (by omega), rfl, by omega, by rw [HSN.out, if_neg HF.out]; rfl, t00.chg0 (Chg.refl _ _).drew, e00.chg0 (Chg.refl _ _).drew, hCj.drew⟩
                · have g1 := toList_ne hmm
                  have HF := Lib.hid (show ¬ (f.m = e.m ∧ f.s = e.s) from fun h => hmm h.1)
                  go_wp2_with fail
                  go_still_tail 8, (by kernel_rfl)
                  go_wp2_with fail
                  go_roundg (es.length - (j + 1))
                  case measure => omega
                  case rel => exact ⟨j + 1, int_eq (by omega), rfl, by omega, by rw [HSN.out, if_neg HF.out]; rfl, t00.chg0 (Chg.refl _ _).drew, e00.chg0 (Chg.refl _ _).drew, hCj.drew⟩
              · obtain rfl : j = es.length := by omega
                have hj3 : ¬ (es.length : Int) < (es.length : Int) := by omega
                have htk : tl.take es.length = tl := by rw [← HL.out]; exact List.take_length
                rw [htk, HCE.out, show ((1 : Nat) : Int) = 1 from rfl]
                go_wp2_with fail
                go_roundg (es.length - (a + 1))
                case measure => omega
                case rel => exact ⟨a + 1, int_eq (by omega), rfl, by omega, t00, e00, hCj⟩
          · obtain rfl : a = es.length := by omega
            have ha3 : ¬ (es.length : Int) < (es.length : Int) := by omega
            go_wp2_with fail
            go_ret
            exact ⟨rfl, hCa⟩
set_option maxRecDepth 100000 in
theorem ZsetScans_walk (W : World) {H : Type} {enc : TypeId × Value → H} {v0 : Value} {d0 : DataW H} {p0 : List MemPlace} (hv0 : Value.okWide Tryz.prog W .any 0 23 v0) (h0 : DataW.Trod enc Tryz.prog W 0 (fun _ => true) true 23 v0 d0 p0)
    (a1 : Int) (w1 : (Lit.int .u32 a1).wf = true) {v : Value} {d : DataW H} {p : List MemPlace} (hv : Value.okWide Tryz.prog W .any 0 25 v) (h : DataW.Trod enc Tryz.prog W 0 (fun _ => true) true 25 v d p) :
    Calls Tryz.prog 9 #[v0, .int .u32 a1, v] W fun e w' => e = .returned (.bool true) ∧ Chg (fun _ => False) W w' := by
  obtain ⟨A0, A1, rfl, _, _⟩ := open_limits hv0 h0
  obtain ⟨s1, rfl, k1⟩ := u32_of_wf w1
  obtain ⟨n, g, hg⟩ := open_actsZ hv h
  exact walk A0 A1 s1 k1 v n g W hg
end Go.Proofs.YtifcpippfiglkaaGreat.zsetScans
