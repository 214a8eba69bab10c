/- Texts joined for ZsetWays: PKC, PKD, IT2, PKA, PKB, PKG. -/
import Derived.Test.YtifcpippfiglkaaGreatJZsetWaysf
import Derived.Test.YtifcpippfiglkaaGreatJZsetWaysg
import Derived.Test.YtifcpippfiglkaaGreatJZsetWaysh
import Derived.Test.YtifcpippfiglkaaGreatJZsetWaysi
import Derived.Lib.AppendZerosOnto
import Derived.Lib.ConvBytes
import Derived.Deep.RegionHeld3
import Derived.Outline
import Derived.Deep.LoopGhost
set_option linter.unusedVariables false
set_option linter.unusedSimpArgs false

/- pack: bytes put together (slices.Grow, slices.Concat), changed. -/
namespace Go.Proofs.YtifcpippfiglkaaGreat
open Go.RowKit Pal Go.Lib
attribute [local go_sem] Oper.semAt_some

/-- The value is a slice of bytes of the call's own. -/
def Bys (w : World) (base : Nat) (v : Value) (l : List UInt8) : Prop := w.ownsRow base 5 1 v l.length (bytesV l)
/-- The value is a slice of bytes, in whoever's row. -/
def BysR (w : World) (v : Value) (l : List UInt8) : Prop := ∃ p c, v = .slice p l.length c ∧ Reads w w.heap.size 1 p l.length (bytesV l)
section
variable {w w' : World} {base : Nat} {v : Value} {l : List UInt8}
theorem BysR.chg0 (h : BysR w v l) (hc : Chg (fun _ => False) w w') : BysR w' v l := by
  obtain ⟨p, c, rfl, h3⟩ := h
  exact ⟨p, c, rfl, (h3.chg hc (Nat.le_refl _) fun _ _ => id).more hc.size⟩
theorem BysR.alloc (h : BysR w v l) (o : Obj) : BysR (w.alloc o) v l := h.chg0 ((Chg.refl _ w).alloc o)
theorem BysR.drew (h : BysR w v l) : BysR w.drew v l := h.chg0 (Chg.refl _ w).drew
theorem chg_conv {S : Nat → Prop} {a : World} (h : Chg S a w) (e : TypeId) (s : ByteArray) : Chg S a (bytesWorld w e s) :=
  h.trans ⟨rfl, rfl, rfl, by rw [bytesWorld_size]; omega, fun k hk _ => bytesWorld_at_old w e s k hk⟩
theorem BysR.conv (h : BysR w v l) (e : TypeId) (s : ByteArray) : BysR (bytesWorld w e s) v l := h.chg0 (chg_conv (Chg.refl _ w) e s)
theorem BysR.nil (w : World) : BysR w (.slice none 0 0) [] := ⟨none, 0, rfl, Reads.none_⟩
theorem BysR.conv_new (w : World) (e : TypeId) (s : ByteArray) : BysR (bytesWorld w e s) (.slice (some ⟨w.heap.size, 0, none⟩) s.size (grownCap w s.size 0 e)) s.data.toList := by
  refine ⟨_, _, by rw [size_toList], by rw [bytesV_len, Nat.mul_one], fun _ => ⟨_, rfl, by rw [bytesWorld_size]; exact Nat.lt_succ_self _, fun j u hu => ?_⟩⟩
  have hj : j < s.size := by
    have := (List.getElem?_eq_some_iff.1 hu).1
    rwa [bytesV_len, size_toList] at this
  rw [addr_add', Nat.zero_add, bytesWorld_cell w e s j hj]
  have : s.data.toList[j]? = some (s.data.toList.getD j 0) := by
    rw [List.getD_eq_getElem?_getD, List.getElem?_eq_getElem (by rw [size_toList]; exact hj)]; rfl
  rw [bytesV_get this] at hu
  exact hu
theorem BysR.of_blk {g n : Nat} {t : TypeId} (h : Blk w g t (bytesV l).toArray) (hn : n = l.length) (c : Nat) : BysR w (.slice (some ⟨g, 0, none⟩) n c) l := by
  subst hn
  refine ⟨_, _, rfl, by rw [bytesV_len, Nat.mul_one], fun _ => ⟨_, rfl, h.lt, fun j u hu => ?_⟩⟩
  rw [addr_add', Nat.zero_add, h.cell, List.getElem?_toArray]; exact hu
theorem bytesV_append (a b : List UInt8) : bytesV (a ++ b) = bytesV a ++ bytesV b := by unfold bytesV Lib.byteCells; rw [List.map_append]
theorem bytesV_one (l : List UInt8) : ∀ u ∈ bytesV l, u.oneCell' = true := Lib.byteCells_one l
end

set_option maxRecDepth 100000 in
theorem grow_any (n : Nat) (h1 : 1 ≤ n) (h2 : n ≤ 1000000) (w : World) : Calls Tryz.prog 174 #[.slice none 0 0, .int .i64 (n : Int)] w fun r w' => (∃ v, r = .returned v ∧ Bys w' w.heap.size v []) ∧ Chg (fun _ => False) w w' := by
  obtain ⟨i0, hi, hz0, hz1, hz2⟩ := info_parts byte_info
  have hrz := fun ty => Lib.run_append_grow_zeros (P := Tryz.prog) w 61 3 ty 5 i0 (.int .u8 0) .i64 .i64 Tryz.underlying61 Tryz.underlying3 hi hz0 none 0 0 [] (run_firstCells_none w.drew i0.size 0 0 0) n (by omega) (by omega) (by omega) (by omega) (by rw [hz2]; omega) (by rw [Nat.zero_add, hz2]; exact growslice_fits (bytes := 1) (by omega) (by omega))
  simp only [Nat.zero_add] at hrz
  have hge := grownCap_ge w n 0 5
  have hcm := grownCap_le_maxLen w n 0 5 (by unfold maxLen; omega)
  have hcells : (([] : List Value).toArray ++ Builtin.zeroCells (Value.int .u8 0).cells n ++ Builtin.zeroCells (Value.int .u8 0).cells (grownCap w n 0 5 - n)).size = grownCap w n 0 5 := by
    simp [size_zeroCells, Value.cells]; omega
  generalize ([] : List Value).toArray ++ Builtin.zeroCells (Value.int .u8 0).cells n ++ Builtin.zeroCells (Value.int .u8 0).cells (grownCap w n 0 5 - n) = cs at hrz hcells
  generalize grownCap w n 0 5 = G at hrz hge hcm hcells
  have hn1 : ¬ (n : Int) < 0 := by omega
  have hn2 : (n : Int) > 0 := by omega
  have hn3 : (n : Int) ≤ 1000000 := by omega
  unfold maxLen at hcm
  replace hcells := Lib.hid hcells
  go_enter Tryz.func174, Tryz.ntmps174
  go_wp2_with (at_builtin; refine Lib.wpList_append_run _ rfl _ _ _ _ rfl _ _ rfl rfl _ _ (hrz _) ?_)
  go_ret
  refine ⟨⟨_, rfl, rfl, .inr ⟨w.heap.size, G, cs, rfl, Nat.le_refl _, World.alloc_heap_new w.drew _, Nat.zero_le _, by unfold maxLen; omega, by rw [hcells.out, Nat.mul_one], rfl⟩⟩, (Chg.refl _ w).drew.alloc _⟩

theorem flat_take {ls : List (List UInt8)} {i : Nat} {l : List UInt8} (h : ls[i]? = some l) : (ls.take (i + 1)).flatten = (ls.take i).flatten ++ l := by
  rw [List.take_add_one, h, Option.toList_some, List.flatten_append, List.flatten_cons, List.flatten_nil, List.append_nil]
theorem flat_le {ls : List (List UInt8)} (i : Nat) : (ls.take i).flatten.length ≤ ls.flatten.length := by
  conv => rhs; rw [← List.take_append_drop i ls, List.flatten_append, List.length_append]
  omega
def ConcatPost (w : World) (l : List UInt8) (r : Ending) (w' : World) : Prop := (∃ v, r = .returned v ∧ Bys w' w.heap.size v l) ∧ Chg (fun _ => False) w w'
set_option maxRecDepth 100000 in
set_option maxHeartbeats 1000000 in
theorem concat_any (ls : List (List UInt8)) (vs : List Value) (g : Nat) (hl : vs.length = ls.length) (hm : ls.length ≤ 100) (h1 : 1 ≤ ls.flatten.length) (h2 : ls.flatten.length ≤ 1000000) (w : World)
    (hv : ∀ (i : Nat) v l, vs[i]? = some v → ls[i]? = some l → BysR w v l) (hb : Blk w g 61 vs.toArray) :
    Calls Tryz.prog 171 #[.slice (some ⟨g, 0, none⟩) ls.length ls.length] w (ConcatPost w ls.flatten) := by
  obtain ⟨i0, hi0, hz0, hz1, hz2⟩ := info_parts byte_info
  have hgr := fun w => grow_any ls.flatten.length h1 h2 w
  have hm' : (ls.length : Int) ≤ 100 := by omega
  have HL := Lib.hid hl
  clear hl
  go_enter Tryz.func171, Tryz.ntmps171
  go_wp2_with fail
  go_loopg [3, 11] ls.length (fun m x c W => ∃ i : Nat, c = .int .i64 (i : Int) ∧ m = ls.length - i ∧ i ≤ ls.length ∧ x = .int .i64 ((ls.take i).flatten.length : Int) ∧ W = w)
  case atStart => exact ⟨0, rfl, rfl, Nat.zero_le _, rfl, rfl⟩
  case round =>
    obtain ⟨i, rfl, rfl, hi, rfl, rfl⟩ := hrel
    by_cases hlt : i < ls.length
    · have hlt' : (i : Int) < (ls.length : Int) := by omega
      have hgl : ls[i]? = some ls[i] := List.getElem?_eq_getElem hlt
      have hgv : vs[i]? = some (vs[i]'(by rw [HL.out]; exact hlt)) := List.getElem?_eq_getElem _
      obtain ⟨p, c, hpe, hr⟩ := hv i _ _ hgv hgl
      have hc := hb.cell i
      rw [List.getElem?_toArray, hgv, hpe] at hc
      have hs := flat_take hgl
      have hle := flat_le (ls := ls) (i + 1)
      rw [hs, List.length_append] at hle
      generalize ls[i] = l at *
      replace hs := Lib.hid hs
      generalize (ls.take i).flatten = pre at *
      have k1 : (pre.length : Int) + (l.length : Int) ≤ 1000000 := by omega
      have k2 : ¬ (pre.length : Int) + (l.length : Int) < 0 := by omega
      have k3 : 0 ≤ (pre.length : Int) := by omega
      clear hgl hgv hpe hle hgr h1 h2 hv
      go_wp2_with fail
      go_roundg (ls.length - (i + 1))
      case rel => exact ⟨i + 1, int_eq (by omega), rfl, by omega, int_eq (by rw [hs.out, List.length_append]; omega), rfl⟩
      case measure => omega
    · obtain rfl : i = ls.length := by omega
      rw [List.take_length]
      have hlt' : ¬ (ls.length : Int) < (ls.length : Int) := by omega
      have H2 := Lib.hid h2
      clear hi hlt h1 h2
      generalize ls.flatten.length = tot at hgr
      go_wp2_with (go_at_call 174; refine (hgr _).mono ?_; rintro r w1 ⟨⟨v1, rfl, hv1⟩, hC1⟩)
      clear hgr
      obtain ⟨wo, rfl⟩ : ∃ wo : World, wo = wr := ⟨_, rfl⟩
      go_loopg [6, 27] ls.length (fun m x c W => ∃ i : Nat, c = .int .i64 (i : Int) ∧ m = ls.length - i ∧ i ≤ ls.length ∧ Bys W wo.heap.size x (ls.take i).flatten ∧ Chg (fun _ => False) wo W)
      case atStart => exact ⟨0, rfl, rfl, Nat.zero_le _, hv1, hC1⟩
      case round =>
        clear hv1 hC1 w1
        obtain ⟨i, rfl, rfl, hi, hown, hC⟩ := hrel
        by_cases hlt : i < ls.length
        · have hlt2 : (i : Int) < (ls.length : Int) := by omega
          have hgl : ls[i]? = some ls[i] := List.getElem?_eq_getElem hlt
          have hgv : vs[i]? = some (vs[i]'(by rw [HL.out]; exact hlt)) := List.getElem?_eq_getElem _
          obtain ⟨p, c, hpe, hr⟩ := (hv i _ _ hgv hgl).chg0 hC
          have hc := (hb.chg hC id).cell i
          rw [List.getElem?_toArray, hgv, hpe] at hc
          have hs := flat_take hgl
          have hle := flat_le (ls := ls) (i + 1)
          rw [hs, List.length_append] at hle
          have h2 := H2.out
          generalize ls[i] = l at *
          replace hs := Lib.hid hs
          generalize (ls.take i).flatten = pre at *
          have k1 : pre.length + l.length ≤ maxLen := by unfold maxLen; omega
          have k2 : (pre.length + l.length) * 1 ≤ 140737488355328 := by omega
          clear h2
          unfold Bys at hown
          have hsz := hC.size
          clear hgl hgv hpe hle
          go_wp2_with (at_builtin; refine wpList_append_any _ rfl (.tmp 31) (.tmp 32) 61 rfl wo.heap.size 5 i0 _ 1 1 Tryz.underlying61 hi0 hz0 hz1 hz2 rfl (by omega) _ _ _ rfl hown _ _ _ _ _ rfl hr (bytesV_one _) k1 k2 hsz ?_; intro v2 w2 hown2 hg2 _)
          have hC2 : Chg (fun _ => False) wo w2 := hC.trans' (app_chg hown hg2) fun g hl h => by omega
          rw [← bytesV_append, ← List.length_append, ← hs.out] at hown2
          go_roundg (ls.length - (i + 1))
          case rel => exact ⟨i + 1, int_eq (by omega), rfl, by omega, hown2, hC2⟩
          case measure => omega
        · obtain rfl : i = ls.length := by omega
          rw [List.take_length] at hown
          have hlt2 : ¬ (ls.length : Int) < (ls.length : Int) := by omega
          clear hi hlt hv
          go_wp2_with fail
          go_ret
          exact ⟨⟨_, rfl, hown⟩, hC⟩
end Go.Proofs.YtifcpippfiglkaaGreat

/- pack: changed. -/
namespace Go.Proofs.YtifcpippfiglkaaGreat
open Go.RowKit Pal Go.Lib
attribute [local go_sem] Oper.semAt_some

theorem BysR.head_new (w : World) (n : Nat) (h : n ≤ 1000) : BysR (w.alloc (.cells #[.int .u8 ((n : Int) / 256), .int .u8 ((n : Int) % 256)] 5)) (.slice (some ⟨w.heap.size, 0, none⟩) 2 2) (enc2 n) := by
  refine BysR.of_blk (t := 5) (l := enc2 n) ?_ rfl 2
  have hb := Blk.new w 5 #[.int .u8 ((n : Int) / 256), .int .u8 ((n : Int) % 256)]
  have e : (bytesV (enc2 n)).toArray = #[.int .u8 ((n : Int) / 256), .int .u8 ((n : Int) % 256)] := by
    show #[Value.int .u8 ((UInt8.ofNat (n / 256)).toNat : Int), Value.int .u8 ((UInt8.ofNat n).toNat : Int)] = _
    rw [UInt8.toNat_ofNat', UInt8.toNat_ofNat', Nat.mod_eq_of_lt (by omega : n / 256 < 2 ^ 8)]
    rfl
  rw [e]; exact hb
theorem BysR.conv_new' (w : World) (e : TypeId) (s : ByteArray) (b n c : Nat) (hb : b = w.heap.size) (hn : n = s.size) : BysR (bytesWorld w e s) (.slice (some ⟨b, 0, none⟩) n c) s.data.toList := by
  subst hb; subst hn
  obtain ⟨p, c', e1, h⟩ := BysR.conv_new w e s
  injection e1 with e1 e2
  subst e1
  exact ⟨_, c, by rw [e2], h⟩
theorem blk_new' (w : World) (t : TypeId) (cs : Array Value) (g : Nat) (h : g = w.heap.size) : Blk (w.alloc (.cells cs t)) g t cs := by subst h; exact Blk.new w t cs
theorem concat4 {w : World} {g : Nat} {v0 v1 v2 v3 : Value} {l0 l1 l2 l3 : List UInt8} (hb : Blk w g 61 #[v0, v1, v2, v3]) (h0 : BysR w v0 l0) (h1 : BysR w v1 l1) (h2 : BysR w v2 l2) (h3 : BysR w v3 l3)
    (k1 : 1 ≤ l0.length) (k2 : l0.length + l1.length + l2.length + l3.length ≤ 1000000) : Calls Tryz.prog 171 #[.slice (some ⟨g, 0, none⟩) 4 4] w (ConcatPost w (l0 ++ (l1 ++ (l2 ++ l3)))) := by
  have e : [l0, l1, l2, l3].flatten = l0 ++ (l1 ++ (l2 ++ l3)) := by simp
  have := concat_any [l0, l1, l2, l3] [v0, v1, v2, v3] g rfl (by simp) (by rw [e]; simp; omega) (by rw [e]; simp; omega) w (fun i v l hv hl => ?_) hb
  · rw [e] at this; exact this
  · match i, hv, hl with
    | 0, hv, hl => injection hv with hv; injection hl with hl; subst hv; subst hl; exact h0
    | 1, hv, hl => injection hv with hv; injection hl with hl; subst hv; subst hl; exact h1
    | 2, hv, hl => injection hv with hv; injection hl with hl; subst hv; subst hl; exact h2
    | 3, hv, hl => injection hv with hv; injection hl with hl; subst hv; subst hl; exact h3
    | i + 4, hv, hl => simp at hv
theorem ext1 (p : ByteArray) {f : Nat} (hf : f ≤ p.size) : (p.extract 2 f).data.toList = (p.data.toList.drop 2).take (f - 2) := by
  rw [ByteArray.data_extract, Array.toList_extract, List.extract_eq_take_drop]
theorem ext2 (p : ByteArray) (t : Nat) : (p.extract t p.size).data.toList = p.data.toList.drop t := by
  rw [ByteArray.data_extract, Array.toList_extract, List.extract_eq_take_drop, List.take_of_length_le]
  rw [List.length_drop, size_toList]; exact Nat.le_refl _
theorem conv_run (w : World) (s : ByteArray) : (convert 9 61 (.string s)).run Tryz.prog w = .ok (.slice (some ⟨w.heap.size, 0, none⟩) s.size (grownCap w s.size 0 5)) (bytesWorld w 5 s) :=
  Go.Lib.run_convert_string_bytes (P := Tryz.prog) w 9 61 5 s Tryz.underlying9 Tryz.underlying61 Tryz.underlying5
theorem back_run {w : World} {base : Nat} {v : Value} {l : List UInt8} (h : Bys w base v l) (h0 : l ≠ []) : (convert 61 9 v).run Tryz.prog w = .ok (.string ⟨l.toArray⟩) w := by
  rcases h.2 with ⟨rfl, h1⟩ | ⟨g, cap, cur, rfl, hb, hg, _⟩
  · exact absurd (List.eq_nil_of_length_eq_zero h1) h0
  · refine Go.run_convert_bytes_back (P := Tryz.prog) w 61 9 5 ⟨g, 0, none⟩ cap l Tryz.underlying61 Tryz.underlying5 Tryz.underlying9 (fun j hj => ?_)
    have := World.ownsRow.cells h (g := g) rfl j (.int .u8 (l[j].toNat : Int)) (bytesV_get (List.getElem?_eq_getElem hj))
    exact this
def changedL (p : List UInt8) (n f t : Nat) (l : List UInt8) : List UInt8 := enc2 n ++ ((p.drop 2).take (f - 2) ++ (l ++ p.drop t))
def ChgPost (w : World) (l : List UInt8) (r : Ending) (w' : World) : Prop := r = .returned (.string ⟨l.toArray⟩) ∧ Chg (fun _ => False) w w'
set_option maxRecDepth 100000 in
set_option maxHeartbeats 2000000 in
theorem changed_any (p : ByteArray) (n f t : Nat) (v : Value) (l : List UInt8) (w : World) (hn : n ≤ 200) (hp : p.size ≤ 100000) (h2 : 2 ≤ f) (hft : f ≤ t) (ht : t ≤ p.size) (hl : l.length ≤ 1000) (hv : BysR w v l) :
    Calls Tryz.prog 164 #[.string p, .int .i64 (n : Int), .int .i64 (f : Int), .int .i64 (t : Int), v] w (ChgPost w (changedL p.data.toList n f t l)) := by
  have hcv := conv_run
  have hn1 : n ≤ 1000 := by omega
  have hv0 := hv
  obtain ⟨vp, vc, rfl, _⟩ := hv0
  have i1 : (2 : Int) ≤ (f : Int) := by omega
  have i2 : (f : Int) ≤ (p.size : Int) := by omega
  have i3 : (t : Int) ≤ (p.size : Int) := by omega
  have i4 : 0 ≤ (t : Int) := by omega
  have i5 : (p.size : Int) ≤ 100000 := by omega
  go_enter Tryz.func164, Tryz.ntmps164
  go_wp2_with fail
  have k1 : (enc2 n).length = 2 := rfl
  have k2 : (p.extract 2 f).data.toList.length ≤ 100000 := by rw [size_toList]; simp; omega
  have k3 : (p.extract t p.size).data.toList.length ≤ 100000 := by rw [size_toList]; simp; omega
  have K := Lib.hid (show 1 ≤ (enc2 n).length ∧ (enc2 n).length + (p.extract 2 f).data.toList.length + l.length + (p.extract t p.size).data.toList.length ≤ 1000000 from ⟨by omega, by omega⟩)
  clear k1 k2 k3
  go_region_with (first | (go_at_call 52; refine (head_any n _ (by omega)).mono ?_; rintro r w1 ⟨rfl, rfl⟩) | (go_at_call 171; (with_reducible refine (concat4 (l0 := enc2 n) (l1 := (p.extract 2 f).data.toList) (l2 := l) (l3 := (p.extract t p.size).data.toList) (blk_new' _ _ _ _ ?_) ?_ ?_ ?_ ?_ K.out.1 K.out.2).mono ?_); (focus (first | rfl | (simp; done))); (focus (repeat (first | (with_reducible exact BysR.head_new _ _ hn1) | (with_reducible exact hv) | (((with_reducible refine BysR.conv_new' _ _ _ _ _ _ ?_ ?_)) <;> (simp; done)) | (with_reducible refine BysR.alloc ?_ _) | (with_reducible refine BysR.conv ?_ _ _) | (with_reducible refine BysR.drew ?_)))); (focus (repeat (first | (with_reducible exact BysR.head_new _ _ hn1) | (with_reducible exact hv) | (((with_reducible refine BysR.conv_new' _ _ _ _ _ _ ?_ ?_)) <;> (simp; done)) | (with_reducible refine BysR.alloc ?_ _) | (with_reducible refine BysR.conv ?_ _ _) | (with_reducible refine BysR.drew ?_)))); (focus (repeat (first | (with_reducible exact BysR.head_new _ _ hn1) | (with_reducible exact hv) | (((with_reducible refine BysR.conv_new' _ _ _ _ _ _ ?_ ?_)) <;> (simp; done)) | (with_reducible refine BysR.alloc ?_ _) | (with_reducible refine BysR.conv ?_ _ _) | (with_reducible refine BysR.drew ?_)))); (focus (repeat (first | (with_reducible exact BysR.head_new _ _ hn1) | (with_reducible exact hv) | (((with_reducible refine BysR.conv_new' _ _ _ _ _ _ ?_ ?_)) <;> (simp; done)) | (with_reducible refine BysR.alloc ?_ _) | (with_reducible refine BysR.conv ?_ _ _) | (with_reducible refine BysR.drew ?_)))); rintro r w2 ⟨⟨v2, rfl, hv2⟩, hC2⟩; have hbk := back_run hv2 (by intro h; cases h); obtain ⟨R, hR⟩ : ∃ R : ByteArray, (⟨(enc2 n ++ ((p.extract 2 f).data.toList ++ (l ++ (p.extract t p.size).data.toList))).toArray⟩ : ByteArray) = R := ⟨_, rfl⟩; rw [hR] at hbk; replace hR := Lib.hid hR) | fail)
  all_goals
    go_wp2_with fail
    go_ret
    refine ⟨?_, (show Chg (fun _ => False) w _ from ?_).trans hC2⟩
    · show Ending.returned (.string R) = _
      rw [← hR.out, ext1 p (show f ≤ p.size by omega), ext2]; rfl
    · repeat (first | (with_reducible exact Chg.refl _ _) | (with_reducible refine Chg.alloc ?_ _) | (with_reducible refine chg_conv ?_ _ _) | (with_reducible refine Chg.drew ?_))
end Go.Proofs.YtifcpippfiglkaaGreat

/- The law of a range over an iterator whose item is laid into a block of its own. -/
namespace Pal
open Go Go.RowKit
section
variable {P : Program} {α : Type}
theorem wp_range_al {g : Operand} {ps : Array Tmp} {assign body : Code} {Q : Exit → Act → World → Prop} {a : Act} {w : World} (gf : Nat) (lb : Array Value)
    (hg : a.eval g = .func (.func gf) #[] lb) (eg : Proofs.Enters P gf) {enc : α → Array Value} {F G : Nat → Prop} {It0 It : List α → World → Prop} (hit : IterSpec P gf lb enc F G It0 It) (hps : ∀ x, (enc x).size = ps.size)
    (I : List α → World → Prop) (hI : ∀ r W W', I r W → Stay G W W' → I r W') (Ix : Code → World → Prop) (hIx : ∀ c W W', Ix c W → Stay G W W' → Ix c W') (c : List α) (h0 : I c w) (hit0 : It0 c w) (o : α → Obj) (a₁ : α → Nat → Act)
    (hassign : ∀ l x W g, W.heap.size = g → ∀ (K : Act → World → Prop), K (a₁ x g) (W.alloc (o x)) → assign.wpIn (Fence.wide.inRound l) 2 P (Exit.then K (fun _ _ _ => False)) { tmps := (ps.zip (enc x)).foldl (fun t (p, v) => t.setIfInBounds p v) a.tmps, defers := [] } W)
    (hbody : ∀ l x r W g, I (x :: r) W → It (x :: r) W → w.heap.size ≤ g → W.heap[g]? = some (o x) → (∃ W₀, I (x :: r) W₀ ∧ Stay G W₀ W ∧ W₀.heap.size = g) → body.wpIn (Fence.wide.inRound l) 2 P (rPost F I Ix r W) (a₁ x g) W)
    (hdone : ∀ D W, w.heap.size ≤ D → I [] W → KeepsOthers w W → W.heap[D]? = some (.deferred (some [])) → Q .normal { a with defers := { target := .collected D, args := #[] } :: a.defers } W)
    (hstop : ∀ D c W, w.heap.size ≤ D → Ix c W → KeepsOthers w W → W.heap[D]? = some (.deferred (some [])) → c.wp P Q { a with defers := { target := .collected D, args := #[] } :: a.defers } W) :
    (Code.rangeFunc g ps assign body).wp P Q a w := by
  have hlF : ∀ k, F k → k < w.heap.size := fun k hk => by
    obtain ⟨cs, t, f, e⟩ := hit.cells _ _ k hit0 hk
    exact (Array.getElem?_eq_some_iff.1 e).1
  have keep : ∀ {A B : World}, KeepsOthers w A → Chg G A B → KeepsOthers w B := fun hA hc =>
    ⟨Nat.le_trans hA.size hc.size, fun k o hk ho => hc.same (hA.same k o hk ho) fun hF => by
      obtain ⟨cs, t, f, e⟩ := hit.cells _ _ k hit0 (hit.sub k hF)
      rw [e] at hk; cases hk; cases ho⟩
  refine wp_range gf lb hg eg fun fn rec hrec => ?_
  obtain ⟨D, hD⟩ : ∃ D, w.heap.size = D := ⟨_, rfl⟩
  rw [hD]
  have hK1 : KeepsOthers w ((w.alloc (.deferred (some []))).alloc (.loop (rec .ready none))) := (KeepsOthers.alloc w _).trans (KeepsOthers.alloc _ _)
  have hS1 : Stay G w ((w.alloc (.deferred (some []))).alloc (.loop (rec .ready none))) := (Stay.alloc G w _).trans (Stay.alloc G _ _)
  have hL1 : ((w.alloc (.deferred (some []))).alloc (.loop (rec .ready none))).heap[D + 1]? = some (.loop (rec .ready none)) := by
    have := World.alloc_heap_new (w.alloc (.deferred (some []))) (.loop (rec .ready none))
    rwa [World.size_alloc, hD] at this
  have hD1 : ((w.alloc (.deferred (some []))).alloc (.loop (rec .ready none))).heap[D]? = some (.deferred (some [])) := by
    rw [← hD]
    exact (Below.heap_alloc _ _ _ (by simp)).trans (World.alloc_heap_new _ _)
  have hF1 : ∀ k, F k → ((w.alloc (.deferred (some []))).alloc (.loop (rec .ready none))).heap[k]? = w.heap[k]? := fun k hk => by
    have := hlF k hk
    exact (Below.heap_alloc _ _ _ (by simp; omega)).trans (Below.heap_alloc _ _ _ this)
  have hIt1 := hit.far0 _ _ _ hit0 hS1.size hF1
  have hI1 := hI _ _ _ h0 hS1
  generalize (w.alloc (.deferred (some []))).alloc (.loop (rec .ready none)) = W1 at hK1 hS1 hL1 hD1 hF1 hIt1 hI1 ⊢
  have hle : ∀ {W : World}, KeepsOthers w W → D ≤ W.heap.size := fun h => by rw [← hD]; exact h.size
  refine (hit.call (D + 1)
    (fun r W => I r W ∧ W.heap[D + 1]? = some (.loop (rec .ready none)) ∧ W.heap[D]? = some (.deferred (some [])) ∧ KeepsOthers w W)
    (fun W => ∃ c, Ix c W ∧ W.heap[D + 1]? = some (.loop (rec .done (some c))) ∧ W.heap[D]? = some (.deferred (some [])) ∧ KeepsOthers w W)
    ?_ ?_ ?_ c W1 ⟨hI1, hL1, hD1, hK1⟩ hIt1).mono ?_
  · rintro r A B ⟨h1, h2, h3, h4⟩ hc
    exact ⟨hI _ _ _ h1 (.of_chg hc), hc.same h2 (fun h => by have := hlF _ (hit.sub _ h); omega), hc.same h3 (fun h => by have := hlF _ (hit.sub _ h); omega), keep h4 hc⟩
  · rintro A B ⟨k, h1, h2, h3, h4⟩ hc
    exact ⟨k, hIx _ _ _ h1 (.of_chg hc), hc.same h2 (fun h => by have := hlF _ (hit.sub _ h); omega), hc.same h3 (fun h => by have := hlF _ (hit.sub _ h); omega), keep h4 hc⟩
  · rintro x r W ⟨h1, h2, h3, h4⟩ hIt
    have hlt : D + 1 < W.heap.size := (Array.getElem?_eq_some_iff.1 h2).1
    refine yield_body hrec h2 (hps x) (hassign _ x W _ rfl) ((Below.heap_alloc W (o x) _ hlt).trans h2) ?_
    have h2a := (Below.heap_alloc W (o x) _ hlt).trans h2
    have h3a := (Below.heap_alloc W (o x) D (by omega)).trans h3
    have hga := World.alloc_heap_new W (o x)
    have hpa : Stay G W (W.alloc (o x)) := .alloc G W _
    have hFa : ∀ k, F k → (W.alloc (o x)).heap[k]? = W.heap[k]? := fun k hk => Below.heap_alloc W (o x) k (by have := hlF k hk; have := h4.size; omega)
    have h4a : KeepsOthers w (W.alloc (o x)) := h4.trans (KeepsOthers.alloc W _)
    have h1a := hI _ _ _ h1 hpa
    have hIta := hit.far _ _ _ hIt hpa.size hFa
    have hszW := hpa.size
    have hgW : w.heap.size ≤ W.heap.size := h4.size
    have hgD : W.heap.size ≠ D + 1 := by omega
    generalize hg0 : W.heap.size = g0 at hga hgW hgD hszW
    generalize W.alloc (o x) = Wa at h2a h3a hga hpa hFa h4a h1a hIta hszW ⊢
    have hlta : D + 1 < Wa.heap.size := (Array.getElem?_eq_some_iff.1 h2a).1
    have hp : Stay G Wa (Wa.putObj (D + 1) (.loop (rec .busy none))) := .put h2a rfl _
    have hpF : ∀ k, F k → (Wa.putObj (D + 1) (.loop (rec .busy none))).heap[k]? = Wa.heap[k]? := fun k hk => World.putObj_heap_other (by have := hlF k hk; omega)
    have hgp : (Wa.putObj (D + 1) (.loop (rec .busy none))).heap[g0]? = some (o x) := (World.putObj_heap_other hgD).trans hga
    have hb := hbody (D + 1) x r _ g0 (hI _ _ _ h1a hp) (hit.far _ _ _ hIta hp.size hpF) hgW hgp ⟨W, h1, hpa.trans hp, hg0⟩
    have g2 : (Wa.putObj (D + 1) (.loop (rec .busy none))).heap[D + 1]? = some (.loop (rec .busy none)) := World.putObj_heap_same hlta
    have g3 : (Wa.putObj (D + 1) (.loop (rec .busy none))).heap[D]? = some (.deferred (some [])) := (World.putObj_heap_other (by omega)).trans h3a
    have g4 : KeepsOthers w (Wa.putObj (D + 1) (.loop (rec .busy none))) := ⟨by simpa using h4a.size, fun k o hk ho => (World.putObj_heap_other (by have := (Array.getElem?_eq_some_iff.1 hk).1; omega)).trans (h4a.same k o hk ho)⟩
    have hsz : g0 ≤ (Wa.putObj (D + 1) (.loop (rec .busy none))).heap.size := Nat.le_trans hszW hp.size
    have hpF2 : ∀ k, F k → (Wa.putObj (D + 1) (.loop (rec .busy none))).heap[k]? = W.heap[k]? := fun k hk => (hpF k hk).trans (hFa k hk)
    clear hpF
    generalize Wa.putObj (D + 1) (.loop (rec .busy none)) = V at hb hpF2 g2 g3 g4 hsz
    have fin : ∀ (st : Option Code) (k : LoopState) (V' : World), KeepsOthers V V' → (∀ k, F k → V'.heap[k]? = V.heap[k]?) →
        V'.heap[D + 1]? = some (.loop (rec .busy none)) ∧ g0 ≤ (V'.putObj (D + 1) (.loop (rec k st))).heap.size ∧ (∀ j, F j → (V'.putObj (D + 1) (.loop (rec k st))).heap[j]? = W.heap[j]?) ∧ Stay G V' (V'.putObj (D + 1) (.loop (rec k st))) ∧
        (V'.putObj (D + 1) (.loop (rec k st))).heap[D + 1]? = some (.loop (rec k st)) ∧ (V'.putObj (D + 1) (.loop (rec k st))).heap[D]? = some (.deferred (some [])) ∧ KeepsOthers w (V'.putObj (D + 1) (.loop (rec k st))) := by
      intro st k V' hK hFs
      have e := hK.same _ _ g2 rfl
      have e3 := hK.same _ _ g3 rfl
      have e4 := g4.trans hK
      refine ⟨e, by simpa using Nat.le_trans hsz hK.size, fun j hj => ((World.putObj_heap_other (by have := hlF j hj; omega)).trans (hFs j hj)).trans (hpF2 j hj), .put e rfl _, World.putObj_heap_same (Array.getElem?_eq_some_iff.1 e).1, (World.putObj_heap_other (by omega)).trans e3,
        ⟨by simpa using e4.size, fun k o hk ho => (World.putObj_heap_other (by have := (Array.getElem?_eq_some_iff.1 hk).1; omega)).trans (e4.same k o hk ho)⟩⟩
    refine wpIn_mono hb ?_
    rintro e a2 V' hq
    cases e with
    | normal =>
      obtain ⟨q1, q2, q3⟩ := hq
      obtain ⟨f1, f2, f3, f4, f5, f6, f7⟩ := fin none .ready V' q1 q2
      exact ⟨f1, f2, f3, .inl ⟨rfl, hI _ _ _ q3 f4, f5, f6, f7⟩⟩
    | ret =>
      obtain ⟨q1, q2, q3⟩ := hq
      obtain ⟨f1, f2, f3, f4, f5, f6, f7⟩ := fin (some .ret) .done V' q1 q2
      exact ⟨f1, f2, f3, .inr ⟨rfl, _, hIx _ _ _ q3 f4, f5, f6, f7⟩⟩
    | exit id =>
      obtain ⟨q1, q2, q3⟩ := hq
      obtain ⟨f1, f2, f3, f4, f5, f6, f7⟩ := fin (some (.exit id)) .done V' q1 q2
      exact ⟨f1, f2, f3, .inr ⟨rfl, _, hIx _ _ _ q3 f4, f5, f6, f7⟩⟩
    | goto t =>
      obtain ⟨q1, q2, q3⟩ := hq
      obtain ⟨f1, f2, f3, f4, f5, f6, f7⟩ := fin (some (.goto t)) .done V' q1 q2
      exact ⟨f1, f2, f3, .inr ⟨rfl, _, hIx _ _ _ q3 f4, f5, f6, f7⟩⟩
    | panic ch => exact hq.elim
    | outgrown => exact hq.elim
  · rintro e W ⟨⟨v, rfl⟩, ⟨h1, h2, h3, h4⟩ | ⟨k, h1, h2, h3, h4⟩⟩
    · have g4 : KeepsOthers w (W.putObj (D + 1) (.loop (rec .exhausted none))) := ⟨by simpa using h4.size, fun k o hk ho => (World.putObj_heap_other (by have := (Array.getElem?_eq_some_iff.1 hk).1; omega)).trans (h4.same k o hk ho)⟩
      exact ⟨⟨_, rfl⟩, .inl ⟨h2, hdone D _ (Nat.le_of_eq hD) (hI _ _ _ h1 (.put h2 rfl _)) g4 ((World.putObj_heap_other (by omega)).trans h3)⟩⟩
    · have g4 : KeepsOthers w (W.putObj (D + 1) (.loop (rec .exhausted (some k)))) := ⟨by simpa using h4.size, fun k o hk ho => (World.putObj_heap_other (by have := (Array.getElem?_eq_some_iff.1 hk).1; omega)).trans (h4.same k o hk ho)⟩
      exact ⟨⟨_, rfl⟩, .inr ⟨k, h2, hstop D k _ (Nat.le_of_eq hD) (hIx _ _ _ h1 (.put h2 rfl _)) g4 ((World.putObj_heap_other (by omega)).trans h3)⟩⟩
theorem wpListIn_append_any {l m : Nat} {w : World} {ops : Array Oper} {rest : List Oper} {o : Oper} {a : Act} {Q : Exit → Act → World → Prop} (hgd : o.guard = none) (s x : Operand) (t : TypeId)
    (ho : o.op = .call { callee := .builtin .append, args := #[s, x], argTypes := #[t, t] })
    (base : Nat) (e : TypeId) (i : TypeInfo) (z : Value) (size bytes : Nat) (ht : P.underlying t = some (.slice e)) (hi : P.info? e = some i) (hz : i.zero = some z)
    (hsize : i.size = size) (hby : i.bytes = bytes) (hzs : z.cells.size = size) (hsz : 0 < size)
    (v : Value) (n : Nat) (xs : List Value) (hs : a.eval s = v) (hown : w.ownsRow base e size v n xs)
    (B : Nat) (A : Option Addr) (k c : Nat) (news : List Value) (hx : a.eval x = .slice A k c) (hr : Reads w B size A k news) (h1 : ∀ u ∈ news, u.oneCell' = true)
    (h63 : n + k ≤ maxLen) (hbytes : (n + k) * bytes ≤ 140737488355328) (hbase : base ≤ w.heap.size)
    (h : ∀ v' w', w'.ownsRow base e size v' (n + k) (xs ++ news) → w.grownBy w' v.ownBlock → (v'.ownBlock = v.ownBlock ∨ v'.ownBlock = some w.heap.size) → wpListIn (Fence.wide.inRound l) m P ops Q rest (a.put o.dst v') w') : wpListIn (Fence.wide.inRound l) m P ops Q (o :: rest) a w :=
  wpListIn_plain hgd fun K hK => wpIn_of_wp (fun c hc => by rw [ho] at hc; cases hc) (wp_append_any w s x t ho base e i z size bytes ht hi hz hsize hby hzs hsz v n xs hs hown B A k c news hx hr h1 h63 hbytes hbase fun v' w' h2 h3 h4 => hK _ _ (h v' w' h2 h3 h4))
end
end Pal

/- pack: spots, all. -/
namespace Go.Proofs.YtifcpippfiglkaaGreat
open Go.RowKit Pal
attribute [local go_sem] Oper.semAt_some

structure Sp where
  en : En
  f : Nat
  t : Nat
def Sp.cells (x : Sp) : List Value := [.string x.en.m, .int .i64 x.en.s, .int .i64 (x.f : Int), .int .i64 (x.t : Int)]
def Sp.val (x : Sp) : Value := .agg x.cells.toArray
def sps (l : List En) : List Sp := (List.range l.length).map fun k => ⟨l.getD k ⟨⟨#[]⟩, 0⟩, offE l k, offE l (k + 1)⟩
theorem sps_len (l : List En) : (sps l).length = l.length := by unfold sps; simp
theorem sps_get {l : List En} {k : Nat} {e : En} (h : l[k]? = some e) : (sps l)[k]? = some ⟨e, offE l k, offE l (k + 1)⟩ := by
  have hk := (List.getElem?_eq_some_iff.1 h).1
  unfold sps
  rw [List.getElem?_map, List.getElem?_range hk, Option.map_some, List.getD_eq_getElem?_getD, h]; rfl
theorem sps_en (l : List En) : (sps l).map (·.en) = l := by
  apply List.ext_getElem?
  intro k
  rw [List.getElem?_map]
  cases h : l[k]? with
  | none =>
    have : l.length ≤ k := by simpa using h
    rw [List.getElem?_eq_none (by rw [sps_len]; exact this)]; rfl
  | some e => rw [sps_get h]; rfl

theorem spots_any (p : ByteArray) (w : World) : Calls Tryz.prog 168 #[.string p] w fun r w' => r = .returned (fnv 172 #[pt w.heap.size]) ∧ w.alloc (.cells #[.string p] 9) = w' := by
  unfold pt fnv
  go_enter Tryz.func168, Tryz.ntmps168
  go_wp2
  go_ret
  exact ⟨rfl, rfl⟩

set_option maxRecDepth 100000 in
set_option maxHeartbeats 1000000 in
theorem spots1_any (es : List En) (hp : POk es) (B : Nat) (l : Nat) (I : List Sp → World → Prop) (Ix : World → Prop) (hI : ∀ r W W', I r W → Chg (fun _ => False) W W' → I r W')
    (hY : ∀ x r W, I (x :: r) W → (Blk W B 9 #[.string (pk es)] ∧ ∃ pre, pre ++ (x :: r) = sps es) → YieldAt Fence.wide 2 Tryz.prog l #[x.val] W fun e W' => W.heap.size ≤ W'.heap.size ∧ (∀ k, k = B → W'.heap[k]? = W.heap[k]?) ∧ ((e = .returned (.bool true) ∧ I r W') ∨ (e = .returned (.bool false) ∧ Ix W')))
    (w : World) (h0 : I (sps es) w) (hb : Blk w B 9 #[.string (pk es)]) :
    Calls Tryz.prog 172 #[.func (.yield l) #[] #[], pt B] w fun e W' => (∃ v, e = .returned v) ∧ (I [] W' ∨ Ix W') := by
  have hno := fun w => read_no es w
  have hyes := fun k e (h : es[k]? = some e) w => read_at es k e hp h w
  have hof := fun k e (h : es[k]? = some e) => offE_succ h
  have hlt := fun k e (h : es[k]? = some e) => offE_lt h
  have hsz := pk_le hp
  have hok := fun k e (h : es[k]? = some e) => (hp.ok e (List.mem_of_getElem? h)).1
  have hlen := sps_len es
  have hget := fun k e (h : es[k]? = some e) => sps_get h
  generalize sps es = L at *
  generalize pk es = p at *
  refine (callsIn_wide (n := 3)).1 ?_
  refine callsIn_of_wp Tryz.func172 rfl trivial ?_ rfl
  simp only [Tryz.ntmps172, List.size_toArray, List.length_cons, List.length_nil, Nat.reduceAdd, Nat.reduceSub, Array.replicate_succ, Array.replicate_zero, List.push_toArray, List.append_toArray, List.nil_append, List.cons_append]
  unfold pt
  gi_wp2
  gi_loopg [3] (L.length + 1) (fun m x W => ∃ pre r, pre ++ r = L ∧ m = r.length + 1 ∧ x = .int .i64 (offE es pre.length : Int) ∧ I r W ∧ Blk W B 9 #[.string p])
  case atStart => exact ⟨[], L, rfl, rfl, rfl, h0, hb⟩
  case round =>
    clear h0 hb
    obtain ⟨pre, r, hpr, rfl, rfl, hIr, hB⟩ := hrel
    have c0 := hB.cell 0
    have l0 := hB.lt
    simp only [List.getElem?_toArray, List.getElem?_cons_zero] at c0
    have hl2 : pre.length + r.length = es.length := by rw [← hlen, ← hpr, List.length_append]
    have HPR := Lib.hid hpr
    clear hpr hlen
    cases r with
    | nil =>
      have hpe : pre.length = es.length := by rw [List.length_nil] at hl2; omega
      rw [hpe]
      clear hl2 hpe
      gi_wp2
      refine ⟨trivial, (callsIn_wide.2 (hno _)).mono ?_⟩
      rintro r w1 ⟨rfl, hC1⟩
      gi_wp2
      refine ⟨(fun _ h => nomatch h), ?_⟩
      gi_wp2
      refine bodyPost_ret (results_none rfl _ _ _) rfl ?_
      exact ⟨⟨_, rfl⟩, .inl (hI _ _ _ hIr (hC1.alloc _))⟩
    | cons y r =>
      rw [List.length_cons] at hl2
      obtain ⟨e, he⟩ : ∃ e, es[pre.length]? = some e := ⟨_, List.getElem?_eq_getElem (by omega)⟩
      have hy := hget _ _ he
      rw [← HPR.out, List.getElem?_append_right (Nat.le_refl _), Nat.sub_self, List.getElem?_cons_zero] at hy
      injection hy with hy
      have ho := hof _ _ he
      have hle := hlt _ _ he
      have hz := hok _ _ he
      have hrd := hyes _ _ he
      have hI2 := fun W => hY y r W
      have hnx : (pre ++ [y]).length = pre.length + 1 := by simp
      have hon : offE es (pre ++ [y]).length = offE es pre.length + (e.m.size + 10) := by rw [hnx, ho]
      have hI1 := hIr
      have hp1 := HPR.out
      rw [hy] at hI2 hI1 hp1
      rw [ho] at hI2 hI1 hp1
      replace hp1 := Lib.hid hp1
      generalize offE es pre.length = o at *
      have k1 : (o : Int) + ((e.m.size : Int) + 10) ≤ 20000 := by omega
      have k2 : ((e.m.size : Int) + 10 == 0) = false := by rw [beq_eq_false_iff_ne]; omega
      have k3 : (e.m.size : Int) ≤ 64 := by omega
      have hN := Lib.hid hon
      have HY := Lib.hid hy
      have HL2 := Lib.hid hl2
      clear ho hle hz hon hy hl2 hnx hno hyes hof hlt hok hget he hsz
      unfold En.val at hrd
      gi_wp2
      refine ⟨trivial, (callsIn_wide.2 (hrd _)).mono ?_⟩
      rintro r' w1 ⟨rfl, hC1⟩
      have hCa : Chg (fun _ => False) wr (w1.alloc (.cells #[.string e.m, .int .i64 e.s] 54)) := hC1.alloc _
      obtain ⟨fn, tmps, assign, body, hy', hR⟩ := hI2 _ (hI _ _ _ hI1 hCa) ⟨hB.chg hCa id, pre, hp1.out⟩
      have hBa := hB.chg hCa id
      simp only [Sp.val, Sp.cells, Int.natCast_add, Int.cast_ofNat_Int] at hy'
      clear c0 l0
      gi_wp2
      refine hR.mono ?_
      rintro e' W3 ⟨hsz, hF, ⟨rfl, hI3⟩ | ⟨rfl, hx3⟩⟩
      · have hB3 : Blk W3 B 9 #[.string p] := (hF B rfl).trans hBa
        gi_wp2
        gi_roundg (r.length + 1)
        case rel => exact ⟨pre ++ [y], r, by rw [List.append_assoc]; exact HPR.out, rfl, int_eq (by rw [hN.out]; omega), hI3, hB3⟩
        case measure => rw [List.length_cons]; omega
      · gi_wp2
        refine bodyPost_ret (results_none rfl _ _ _) rfl ?_
        exact ⟨⟨_, rfl⟩, .inr hx3⟩
end Go.Proofs.YtifcpippfiglkaaGreat

/- pack: all, Right. -/
namespace Go.Proofs.YtifcpippfiglkaaGreat
open Go.RowKit Pal
attribute [local go_sem] Oper.semAt_some

theorem spot_info : (Tryz.prog.info? 237).map (fun i => (i.zero, i.size, i.bytes)) = some (some (.agg #[.string ⟨#[]⟩, .int .i64 0, .int .i64 0, .int .i64 0]), 4, 40) := by kernel_rfl
def Spts (w : World) (base : Nat) (v : Value) (l : List Sp) : Prop := w.ownsRow base 237 4 v l.length (l.flatMap Sp.cells)
def spF (B : Nat) (g : Nat) : Prop := g = B
def spIt (es : List En) (B : Nat) (r : List Sp) (W : World) : Prop := Blk W B 9 #[.string (pk es)] ∧ ∃ pre, pre ++ r = sps es
def spIt0 (es : List En) (B : Nat) (r : List Sp) (W : World) : Prop := Blk W B 9 #[.string (pk es)] ∧ r = sps es
theorem spots_spec (es : List En) (hp : POk es) (B : Nat) : IterSpec Tryz.prog 172 #[pt B] (fun x : Sp => #[x.val]) (spF B) (fun _ => False) (spIt0 es B) (spIt es B) where
  sub := fun _ h => h.elim
  cells := by rintro r W k ⟨hB, _⟩ rfl; exact ⟨_, _, _, hB⟩
  far0 := by rintro r W W' ⟨hB, hr⟩ _ hF; exact ⟨(hF B rfl).trans hB, hr⟩
  far := by rintro r W W' ⟨hB, hr⟩ _ hF; exact ⟨(hF B rfl).trans hB, hr⟩
  call := by
    rintro l I Ix hI hIx hY c W h0 ⟨hB, rfl⟩
    exact spots1_any es hp B l I Ix hI hY W h0 hB
/-- What the rounds keep. -/
structure AlI (es : List En) (w0 : World) (OB EB M : Nat) (r : List Sp) (W : World) : Prop where
  ex : ∃ v pre, pre ++ r = sps es ∧ Blk W OB 247 #[v] ∧ Blk W EB 3 #[.int .i64 (offE es pre.length : Int)] ∧ Spts W M v pre
  st : Stay (fun _ => False) w0 W
  M : M ≤ W.heap.size
def AllPost (es : List En) (w : World) (r : Ending) (w' : World) : Prop := (∃ v, r = .returned (.tuple #[v, .int .i64 0]) ∧ Spts w' w.heap.size v (sps es)) ∧ Chg (fun _ => False) w w'
theorem spts_len {w : World} {base : Nat} {v : Value} {l : List Sp} (h : Spts w base v l) : ∃ p c, v = .slice p l.length c ∧ l.length ≤ c ∧ c ≤ maxLen := by
  rcases h.2 with ⟨rfl, h0⟩ | ⟨g, cap, cur, rfl, h1, h2, h3, h4, _⟩
  · exact ⟨none, 0, by rw [h0], by omega, by simp [maxLen]⟩
  · exact ⟨_, cap, rfl, h3, h4⟩

set_option maxRecDepth 100000 in
set_option maxHeartbeats 4000000 in
theorem all_any (es : List En) (hp : POk es) (w : World) : Calls Tryz.prog 169 #[.string (pk es)] w (AllPost es w) := by
  have hcnt := fun w => count_any es hp w
  have hsz := pk_le hp
  have hlen := hp.len
  have hspl := sps_len es
  have hend := offE_end es
  obtain ⟨i0, hi0, hz0, hz1, hz2⟩ := info_parts spot_info
  refine calls_of_wp_marks Tryz.func169 rfl ?_
  simp only [Tryz.ntmps169, List.size_toArray, List.length_cons, List.length_nil, Nat.reduceAdd, Nat.reduceSub, Array.replicate_succ, Array.replicate_zero, List.push_toArray, List.append_toArray, List.nil_append, List.cons_append]
  go_wp2_with (go_at_call 168; refine (spots_any _ _).mono ?_; rintro e w' ⟨rfl, rfl⟩)
  have hb0 := ((Blk.new w 247 #[.slice none 0 0]).alloc (.cells #[.int .i64 2] 3)).alloc (.cells #[.string (pk es)] 9)
  have hb1 := (Blk.new (w.alloc (.cells #[.slice none 0 0] 247)) 3 #[.int .i64 2]).alloc (.cells #[.string (pk es)] 9)
  have hb2 := Blk.new ((w.alloc (.cells #[.slice none 0 0] 247)).alloc (.cells #[.int .i64 2] 3)) 9 #[.string (pk es)]
  have hS : Chg (fun _ => False) w (((w.alloc (.cells #[.slice none 0 0] 247)).alloc (.cells #[.int .i64 2] 3)).alloc (.cells #[.string (pk es)] 9)) := (((Chg.refl _ w).alloc _).alloc _).alloc _
  have hsw : (((w.alloc (.cells #[.slice none 0 0] 247)).alloc (.cells #[.int .i64 2] 3)).alloc (.cells #[.string (pk es)] 9)).heap.size = w.heap.size + 3 := by simp
  simp only [World.size_alloc] at hb0 hb1 hb2 ⊢
  generalize ((w.alloc (.cells #[.slice none 0 0] 247)).alloc (.cells #[.int .i64 2] 3)).alloc (.cells #[.string (pk es)] 9) = W0 at hb0 hb1 hb2 hS hsw ⊢
  refine wp_range_al 172 #[pt (w.heap.size + 1 + 1)] rfl (enters_of Tryz.func172 (by kernel_rfl) rfl) (spots_spec es hp (w.heap.size + 1 + 1)) (fun _ => rfl)
    (AlI es w w.heap.size (w.heap.size + 1) (w.heap.size + 3)) ?_ (fun _ _ => False) (fun _ _ _ h => h.elim) (sps es) ?_ ?_ (fun x => .cells #[.string x.en.m, .int .i64 x.en.s, .int .i64 (x.f : Int), .int .i64 (x.t : Int)] 237) _ (fun l x W g hg K hK => by simp only [Sp.val, Sp.cells]; gi_wp2; exact hK) ?_ ?_ (fun _ _ _ _ h => h.elim)
  · rintro r W W' ⟨⟨v, pre, h1, h2, h3, h4⟩, h5, h6⟩ hs
    exact ⟨⟨v, pre, h1, h2.stay hs id, h3.stay hs id, own_stay h4 hs fun _ _ => id⟩, h5.trans' hs fun g hg h' => h', Nat.le_trans h6 hs.size⟩
  · exact ⟨⟨_, [], rfl, hb0, hb1, World.ownsRow_nil _ _ _ 4⟩, .of_chg hS, by omega⟩
  · exact ⟨hb2, rfl⟩
  · rintro l x r W g ⟨⟨v, pre, h1, h2, h3, h4⟩, h5, h6⟩ ⟨hB, _⟩ hle hg ⟨W₀, ⟨⟨v0, pre0, _, q2, _, q4⟩, _, _⟩, qs, qg⟩
    have hB : Blk W (w.heap.size + 1 + 1) 9 #[.string (pk es)] := hB
    have hgb : Blk W g 237 #[.string x.en.m, .int .i64 x.en.s, .int .i64 (x.f : Int), .int .i64 (x.t : Int)] := hg
    have hxt : x.t = offE es (pre.length + 1) ∧ pre.length < es.length := by
      have hl : pre.length < (sps es).length := by rw [← h1]; simp
      rw [hspl] at hl
      have hx : (sps es)[pre.length]? = some x := by rw [← h1]; simp
      rw [sps_get (List.getElem?_eq_getElem hl)] at hx
      injection hx with hx
      rw [← hx]; exact ⟨rfl, hl⟩
    obtain ⟨hxt, hpl⟩ := hxt
    have hv0 : v0 = v := by
      have e1 := (q2.stay qs id).symm.trans h2
      injection e1 with e1
      injection e1 with e1
      injection e1 with e1
      injection e1 with e1
    subst hv0
    have hown9 : v0.ownBlock ≠ some g := fun e => by have := (q4.lt g e).2; omega
    clear q2 q4 qs qg
    obtain ⟨pa, cp, rfl, hcp1, hcp2⟩ := spts_len h4
    have k0 := h2.cell 0
    have kf := h2.frozen 0
    have e0 := h3.cell 0
    have ef := h3.frozen 0
    have g0 := hgb.cell 0
    have g1 := hgb.cell 1
    have g2 := hgb.cell 2
    have g3 := hgb.cell 3
    simp only [List.getElem?_toArray, List.getElem?_cons_zero, List.getElem?_cons_succ] at k0 e0 g0 g1 g2 g3
    have l0 := h2.lt
    have l1 := h3.lt
    have l2 := hgb.lt
    have hgn : g ≠ w.heap.size ∧ g ≠ w.heap.size + 1 := ⟨fun e => by subst e; exact hgb.ne_type h2 (by decide) rfl, fun e => by subst e; exact hgb.ne_type h3 (by decide) rfl⟩
    have hlen2 : pre.length + 1 ≤ maxLen := by unfold maxLen; omega
    have hlen3 : (pre.length + 1) * 40 ≤ 140737488355328 := by omega
    have hr : Reads (W.alloc (Obj.cells #[.string x.en.m, .int .i64 x.en.s, .int .i64 (x.f : Int), .int .i64 (x.t : Int)] 237)) (W.heap.size + 1) 4 (some ⟨W.heap.size, 0, none⟩) 1 x.cells := by
      refine ⟨rfl, fun _ => ⟨_, rfl, Nat.lt_succ_self _, fun j u hu => ?_⟩⟩
      have hb := (Blk.new W 237 #[.string x.en.m, .int .i64 x.en.s, .int .i64 (x.f : Int), .int .i64 (x.t : Int)]).cell j
      rw [addr_add', Nat.zero_add, hb]
      exact (List.getElem?_toArray (xs := x.cells)).trans hu
    have hc1 : Chg (fun _ => False) W (W.alloc (Obj.cells #[.string x.en.m, .int .i64 x.en.s, .int .i64 (x.f : Int), .int .i64 (x.t : Int)] 237)) := (Chg.refl _ W).alloc _
    have hown0 : (W.alloc (Obj.cells #[.string x.en.m, .int .i64 x.en.s, .int .i64 (x.f : Int), .int .i64 (x.t : Int)] 237)).ownsRow (w.heap.size + 3) 237 4 _ _ _ := own_stay h4 (.of_chg hc1) fun _ _ => id
    have hone : ∀ u ∈ x.cells, u.oneCell' = true := by
      intro u hu
      unfold Sp.cells at hu
      simp only [List.mem_cons, List.not_mem_nil, or_false] at hu
      rcases hu with rfl | rfl | rfl | rfl <;> rfl
    have hM1 : w.heap.size + 3 ≤ (W.alloc (Obj.cells #[.string x.en.m, .int .i64 x.en.s, .int .i64 (x.f : Int), .int .i64 (x.t : Int)] 237)).heap.size := Nat.le_trans h6 hc1.size
    have H1 := Lib.hid h1
    have HX := Lib.hid hxt
    clear h1 hxt hsz hlen hspl hend hcnt hb0 hb1 hb2 hS hsw hg
    gi_wp2_with ((with_reducible refine wpListIn_append_any rfl (.tmp 11) (.tmp 13) 247 rfl (w.heap.size + 3) 237 i0 _ 4 40 Tryz.underlying247 hi0 hz0 hz1 hz2 rfl (by omega) (.slice pa pre.length cp) pre.length _ rfl hown0 (W.heap.size + 1) (some ⟨W.heap.size, 0, none⟩) 1 1 x.cells rfl hr hone hlen2 hlen3 hM1 ?_))
    intro v1 w1 hown1 hg1 _
    obtain ⟨g1', cp1, rfl⟩ := ownsRow_succ hown1
    have a1 := app_chg hown0 hg1
    have a2 := app_keeps hown0 hg1
    have b0 : Blk w1 w.heap.size 247 #[.slice pa pre.length cp] := Blk.chg (h2.alloc _) a1 (by omega)
    have b1 : Blk w1 (w.heap.size + 1) 3 _ := Blk.chg (h3.alloc _) a1 (by omega)
    have b2 : Blk w1 g 237 _ := (hg1.block g (by have := hgb.lt; simp; omega) (fun e => hown9 e.symm)).trans (hgb.alloc _)
    have c0 := b0.cell 0
    have f0 := b0.frozen 0
    have c1 := b1.cell 0
    have f1 := b1.frozen 0
    have c3 := b2.cell 3
    simp only [List.getElem?_toArray, List.getElem?_cons_zero, List.getElem?_cons_succ] at c0 c1 c3
    have m0 := b0.lt
    have m1 := b1.lt
    have m2 := b2.lt
    obtain ⟨hgn1, hgn2⟩ := hgn
    gi_wp2_with fail
    have a3 : Chg (fun k => k = w.heap.size ∨ k = w.heap.size + 1 ∨ w.heap.size + 3 ≤ k) W ((w1.setCell ⟨w.heap.size, 0, none⟩ (.slice (some ⟨g1', 0, none⟩) (pre.length + 1) cp1)).setCell ⟨w.heap.size + 1, 0, none⟩ (.int .i64 (x.t : Int))) :=
      (((hc1.mono fun _ _ h => h.elim).trans' a1 fun _ _ h => .inr (.inr h)).store (.inl rfl) 0 _).store (.inr (.inl rfl)) 0 _
    have b3 := (b0.set 0 (.slice (some ⟨g1', 0, none⟩) (pre.length + 1) cp1)).far (p := ⟨w.heap.size + 1, 0, none⟩) (by simp) (.int .i64 (x.t : Int))
    have b4 := (b1.far (p := ⟨w.heap.size, 0, none⟩) (by simp) (.slice (some ⟨g1', 0, none⟩) (pre.length + 1) cp1)).set 0 (.int .i64 (x.t : Int))
    have hge : ∀ g, (Value.slice (some ⟨g1', 0, none⟩) (pre.length + 1) cp1).ownBlock = some g → w.heap.size + 3 ≤ g := fun g hg => (hown1.lt g hg).1
    have h9 := own_stay (F := fun k => k = w.heap.size ∨ k = w.heap.size + 1) hown1 (.of_chg (((Chg.refl (fun k => k = w.heap.size ∨ k = w.heap.size + 1) w1).store (.inl rfl) 0 (.slice (some ⟨g1', 0, none⟩) (pre.length + 1) cp1)).store (.inr rfl) 0 (.int .i64 (x.t : Int)))) (fun g hg h' => by have := hge g hg; omega)
    refine ⟨(((KeepsOthers.of_chg0 hc1).trans a2).trans (KeepsOthers.setCell _ _ _)).trans (KeepsOthers.setCell _ _ _), fun k hk => a3.block k (by have hk : k = w.heap.size + 1 + 1 := hk; subst hk; exact hB.lt) (by have hk : k = w.heap.size + 1 + 1 := hk; omega), ⟨⟨_, pre ++ [x], by rw [← H1.out]; simp, b3, ?_, ?_⟩, h5.trans' (.of_chg a3) (fun g hg h' => by omega), Nat.le_trans h6 a3.size⟩⟩
    · have e : offE es (pre ++ [x]).length = x.t := by rw [HX.out]; simp
      rw [e]; exact b4
    · unfold Spts
      rw [List.length_append, List.flatMap_append]
      exact h9
  · rintro D W hD ⟨⟨v, pre, h1, h2, h3, h4⟩, h5, h6⟩ hO hDd
    rw [List.append_nil] at h1
    subst h1
    have hC : Chg (fun _ => False) w W := .of_stay h5 ((KeepsOthers.of_chg0 hS).trans hO)
    have hwD : w.heap.size ≤ D := Nat.le_trans hS.size hD
    rw [hspl, hend] at h3
    obtain ⟨p, c, hv, _, _⟩ := spts_len h4
    rw [hspl] at hv
    have HV := Lib.hid hv
    have n1 : ¬ (es.length : Int) < 0 := by omega
    clear hb0 hb1 hb2 hsw hv hspl hend
    go_wp2_with (go_at_call 165; refine (hcnt _).mono ?_; rintro r w9 ⟨rfl, hC9⟩; have k0 := (h2.chg hC9 id).cell 0; have e0 := (h3.chg hC9 id).cell 0; have l0 := (h2.chg hC9 id).lt; have l1 := (h3.chg hC9 id).lt; simp only [List.getElem?_toArray, List.getElem?_cons_zero] at k0 e0; rw [HV.out] at k0)
    have hd9 : w9.heap[D]? = some (.deferred (some [])) := hC9.same hDd id
    have h49 : Spts w9 (w.heap.size + 3) v (sps es) := own_stay h4 (.of_chg hC9) fun _ _ => id
    refine bodyPostM_ret (D := D) (v := .tuple #[v, .int .i64 0]) rfl hd9 (by rw [HV.out]; simp [results, Tryz.results169, go_sem]) ⟨⟨v, rfl, ?_⟩, ?_⟩
    · have h9 : Spts _ (w.heap.size + 3) v (sps es) := own_stay h49 (Stay.put (F := fun _ => False) hd9 rfl (.deferred none)) fun _ _ => id
      refine ⟨h9.1, ?_⟩
      rcases h9.2 with h0 | ⟨g, cap, cur, hv, hb, rest⟩
      · exact .inl h0
      · exact .inr ⟨g, cap, cur, hv, by omega, rest⟩
    · exact (hC.trans hC9).put (by omega) _
end Go.Proofs.YtifcpippfiglkaaGreat

/- pack: Right, Entries, spotAt, Get. -/
namespace Go.Proofs.YtifcpippfiglkaaGreat
open Go.RowKit Pal
attribute [local go_sem] Oper.semAt_some

theorem spflat_get : ∀ {l : List Sp} {k : Nat} {x : Sp}, l[k]? = some x → (l.flatMap Sp.cells)[k * 4]? = some (.string x.en.m) ∧ (l.flatMap Sp.cells)[k * 4 + 1]? = some (.int .i64 x.en.s) ∧ (l.flatMap Sp.cells)[k * 4 + 2]? = some (.int .i64 (x.f : Int)) ∧ (l.flatMap Sp.cells)[k * 4 + 3]? = some (.int .i64 (x.t : Int))
  | y :: l, 0, x, h => by
    injection h with h
    subst h
    exact ⟨rfl, rfl, rfl, rfl⟩
  | y :: l, k + 1, x, h => by
    have ih := spflat_get (l := l) (k := k) (x := x) (by simpa using h)
    have e : (y :: l).flatMap Sp.cells = .string y.en.m :: .int .i64 y.en.s :: .int .i64 (y.f : Int) :: .int .i64 (y.t : Int) :: l.flatMap Sp.cells := rfl
    rw [e, show (k + 1) * 4 = k * 4 + 1 + 1 + 1 + 1 by omega]
    exact ih
theorem Spts.at_ {w : World} {base : Nat} {v : Value} {l : List Sp} (h : Spts w base v l) {k : Nat} {x : Sp} (hx : l[k]? = some x) : ∃ g c, v = .slice (some ⟨g, 0, none⟩) l.length c ∧ base ≤ g ∧ g < w.heap.size ∧ w.cell? ⟨g, k * 4, none⟩ = some (.string x.en.m) ∧ w.cell? ⟨g, k * 4 + 1, none⟩ = some (.int .i64 x.en.s) ∧ w.cell? ⟨g, k * 4 + 2, none⟩ = some (.int .i64 (x.f : Int)) ∧ w.cell? ⟨g, k * 4 + 3, none⟩ = some (.int .i64 (x.t : Int)) := by
  have hk := (List.getElem?_eq_some_iff.1 hx).1
  rcases h.2 with ⟨_, h0⟩ | ⟨g, cap, cur, rfl, hb, hg, _⟩
  · omega
  · obtain ⟨a, b, c, d⟩ := spflat_get hx
    have key : ∀ j u, (l.flatMap Sp.cells)[j]? = some u → w.cell? ⟨g, j, none⟩ = some u := fun j u hu => by
      have := World.ownsRow.cells h (g := g) rfl j u hu
      rwa [addr_add', Nat.zero_add] at this
    exact ⟨g, cap, rfl, hb, (Array.getElem?_eq_some_iff.1 hg).1, key _ _ a, key _ _ b, key _ _ c, key _ _ d⟩
theorem own_ne {w : World} {b b' z z' n n' : Nat} {e e' : TypeId} {v v' : Value} {xs xs' : List Value} (h : w.ownsRow b e z v n xs) (h' : w.ownsRow b' e' z' v' n' xs') (hne : e ≠ e') : ∀ g, v.ownBlock = some g → ¬ v'.ownBlock = some g := by
  intro g hg hg'
  rcases h.2 with ⟨rfl, _⟩ | ⟨g1, cap, cur, rfl, _, hh, _⟩
  · cases hg
  · rcases h'.2 with ⟨rfl, _⟩ | ⟨g2, cap', cur', rfl, _, hh', _⟩
    · cases hg'
    · injection hg with hg
      injection hg' with hg'
      have e1 : g1 = g := hg
      have e2 : g2 = g := hg'
      subst e1; subst e2
      rw [hh] at hh'
      injection hh' with hh'
      injection hh' with _ ht
      exact hne ht
theorem Spts.chg0 {w w' : World} {base : Nat} {v : Value} {l : List Sp} (h : Spts w base v l) (hc : Chg (fun _ => False) w w') : Spts w' base v l := own_stay h (.of_chg hc) fun _ _ => id

theorem right_any (es : List En) (hp : POk es) (w : World) : Calls Tryz.prog 167 #[.string (pk es)] w fun r w' => r = .returned (.bool true) ∧ Chg (fun _ => False) w w' := by
  have hall := fun w => all_any es hp w
  unfold AllPost at hall
  go_enter Tryz.func167, Tryz.ntmps167
  go_wp2_with (go_at_call 169; refine (hall _).mono ?_; rintro r w1 ⟨⟨v, rfl, hv⟩, hC⟩)
  go_ret
  exact ⟨rfl, hC⟩

def EntPost (es : List En) (w : World) (r : Ending) (w' : World) : Prop := (∃ v, r = .returned (.tuple #[v, .int .i64 0]) ∧ Ents w' w.heap.size v es) ∧ Chg (fun _ => False) w w'
set_option maxRecDepth 100000 in
set_option maxHeartbeats 1000000 in
theorem entries_any (es : List En) (hp : POk es) (w : World) : Calls Tryz.prog 166 #[.string (pk es)] w (EntPost es w) := by
  have hall := fun w => all_any es hp w
  have hlen := hp.len
  have hspl := sps_len es
  unfold AllPost at hall
  obtain ⟨i0, hi0, hz0, hz1, hz2⟩ := info_parts ent_info
  go_enter Tryz.func166, Tryz.ntmps166
  go_wp2_with (go_at_call 169; refine (hall _).mono ?_; rintro r w1 ⟨⟨v, rfl, hv⟩, hC⟩; obtain ⟨p, c, hve, hvc, hvm⟩ := spts_len hv; rw [hspl] at hve; subst hve)
  clear hall
  go_loopg [6, 19] es.length (fun m x k W => ∃ i : Nat, k = .int .i64 (i : Int) ∧ m = es.length - i ∧ i ≤ es.length ∧ Ents W w.heap.size x (es.take i) ∧ Spts W w.heap.size (.slice p es.length c) (sps es) ∧ Chg (fun _ => False) w W)
  case atStart => exact ⟨0, rfl, rfl, Nat.zero_le _, Ents.nil _ _, hv, hC⟩
  case round =>
    clear hv hC
    obtain ⟨i, rfl, rfl, hi, hE, hS, hC⟩ := hrel
    have hlen' : (es.length : Int) ≤ 200 := by omega
    by_cases hlt : i < es.length
    · have hlt' : (i : Int) < (es.length : Int) := by omega
      have hgl : es[i]? = some es[i] := List.getElem?_eq_getElem hlt
      obtain ⟨g, c', hse, hgb, hgl2, k0, k1, k2, k3⟩ := hS.at_ (sps_get hgl)
      rw [hspl] at hse
      injection hse with hse1 hse2 hse3
      subst hse1
      subst hse3
      have htk : es.take (i + 1) = es.take i ++ [es[i]] := by rw [List.take_add_one, hgl]; rfl
      simp only at k0 k1 k2 k3
      obtain ⟨q, cq, hqe, hq1, hq2, _⟩ := hE.is
      have hml : (es.take i).length = i := by rw [List.length_take]; omega
      rw [hml] at hqe hq1
      subst hqe
      generalize es[i] = e at *
      have HT := Lib.hid htk
      generalize offE es i = o1 at *
      generalize offE es (i + 1) = o2 at *
      have hn2 : i + 1 ≤ maxLen := by unfold maxLen; omega
      have hn3 : (i + 1) * 24 ≤ 140737488355328 := by omega
      have hcA : Chg (fun _ => False) wr ((wr.alloc (.cells #[.string e.m, .int .i64 e.s, .int .i64 (o1 : Int), .int .i64 (o2 : Int)] 237)).alloc (.cells #[.string e.m, .int .i64 e.s] 54)) := ((Chg.refl _ _).alloc _).alloc _
      have hr : Reads ((wr.alloc (.cells #[.string e.m, .int .i64 e.s, .int .i64 (o1 : Int), .int .i64 (o2 : Int)] 237)).alloc (.cells #[.string e.m, .int .i64 e.s] 54)) (wr.heap.size + 2) 2 (some ⟨wr.heap.size + 1, 0, none⟩) 1 [.string e.m, .int .i64 e.s] := by
        refine ⟨rfl, fun _ => ⟨_, rfl, Nat.lt_succ_self _, fun j u hu => ?_⟩⟩
        have hb := (Blk.new (wr.alloc (.cells #[.string e.m, .int .i64 e.s, .int .i64 (o1 : Int), .int .i64 (o2 : Int)] 237)) 54 #[.string e.m, .int .i64 e.s]).cell j
        rw [World.size_alloc] at hb
        rw [addr_add', Nat.zero_add, hb]
        exact (List.getElem?_toArray (xs := [Value.string e.m, .int .i64 e.s])).trans hu
      have hown0 := hE.chg0 hcA
      unfold Ents at hown0
      rw [hml] at hown0
      have hM1 : w.heap.size ≤ ((wr.alloc (.cells #[.string e.m, .int .i64 e.s, .int .i64 (o1 : Int), .int .i64 (o2 : Int)] 237)).alloc (.cells #[.string e.m, .int .i64 e.s] 54)).heap.size := Nat.le_trans hC.size hcA.size
      have HM := Lib.hid hml
      have HSL := Lib.hid hspl
      clear hml htk hspl hgl
      go_wp2_with (at_builtin; (refine wpList_append_any _ rfl (.tmp 23) (.tmp 26) 43 rfl w.heap.size 54 i0 _ 2 24 Tryz.underlying43 hi0 hz0 hz1 hz2 rfl (by omega) _ i _ rfl hown0 _ _ 1 1 [.string e.m, .int .i64 e.s] rfl hr (ents_one [e]) hn2 hn3 hM1 ?_); intro v2 w2 hown2 hg2 _)
      have hC2 : Chg (fun _ => False) w w2 := (hC.trans hcA).trans' (app_chg hown0 hg2) fun g hl h => by omega
      go_roundg (es.length - (i + 1))
      case rel =>
        refine ⟨i + 1, int_eq (by omega), rfl, by omega, ?_, ?_, hC2⟩
        · rw [HT.out]
          exact Ents.mk hown2 (by rw [List.length_append, HM.out]; rfl) (by rw [List.flatMap_append]; rfl)
        · have h8 := hS.chg0 hcA
          exact own_stay h8 (.of_chg (Chg.of_grown hg2 fun g h => h)) (own_ne h8 hown0 (by decide))
      case measure => omega
    · obtain rfl : i = es.length := by omega
      rw [List.take_length] at hE
      have hlt' : ¬ (es.length : Int) < (es.length : Int) := by omega
      clear hi hlt
      go_wp2_with fail
      go_ret2
      exact ⟨⟨_, rfl, hE⟩, hC⟩
end Go.Proofs.YtifcpippfiglkaaGreat
