/- Texts joined for ZsetRanges: VL, VL2, ZB, ZBI, ZBS. -/
import Derived.Test.YtifcpippfiglkaaGreatJZsetWaysj
import Derived.Test.YtifcpippfiglkaaGreatJZsetWayso
import Derived.Test.YtifcpippfiglkaaGreatJZsetWaysq
import Derived.Deep.LoopGhost
import Derived.Deep.RegionHeld3
set_option linter.unusedVariables false
set_option linter.unusedSimpArgs false

/- slices.Values of entries, as an iterator. -/
namespace Go.Proofs.YtifcpippfiglkaaGreat
open Go.RowKit Pal
attribute [local go_sem] Oper.semAt_some

def vlF (v : Value) (a : Nat) (g : Nat) : Prop := g = a ∨ v.ownBlock = some g
theorem Ents.same {w w' : World} {base : Nat} {v : Value} {l : List En} (h : Ents w base v l) (hs : ∀ g, v.ownBlock = some g → w'.heap[g]? = w.heap[g]?) : Ents w' base v l := by
  refine ⟨h.1, ?_⟩
  rcases h.2 with h0 | ⟨g, cap, cur, rfl, h1, hh, rest⟩
  · exact .inl h0
  · exact .inr ⟨g, cap, cur, rfl, h1, (hs g rfl).trans hh, rest⟩
def vlIt (v : Value) (base : Nat) (es : List En) (r : List En) (W : World) : Prop := Ents W base v es ∧ ∃ pre, pre ++ r = es
def vlIt0 (v : Value) (base a : Nat) (es : List En) (r : List En) (W : World) : Prop := Ents W base v es ∧ Blk W a 43 #[v] ∧ r = es
set_option maxRecDepth 100000 in
set_option maxHeartbeats 4000000 in
theorem values1_any (v : Value) (base a : Nat) (es : List En) (hn : es.length ≤ 1000) (l : Nat) (I : List En → World → Prop) (Ix : World → Prop) (hI : ∀ r W W', I r W → Chg (fun _ => False) W W' → I r W')
    (hY : ∀ x r W, I (x :: r) W → vlIt v base es (x :: r) W → YieldAt Fence.wide 2 Tryz.prog l #[x.val] W fun e W' => W.heap.size ≤ W'.heap.size ∧ (∀ k, vlF v a k → W'.heap[k]? = W.heap[k]?) ∧ ((e = .returned (.bool true) ∧ I r W') ∨ (e = .returned (.bool false) ∧ Ix W')))
    (w : World) (h0 : I es w) (h : Ents w base v es) (hb : Blk w a 43 #[v]) :
    Calls Tryz.prog 81 #[.func (.yield l) #[] #[], pt a] w fun e W' => (∃ u, e = .returned u) ∧ (I [] W' ∨ Ix W') := by
  have hh := h
  obtain ⟨p, c, rfl, h1, h2, _⟩ := h.is
  have b0 := hb.cell 0
  have l0 := hb.lt
  simp only [List.getElem?_toArray, List.getElem?_cons_zero] at b0
  unfold vlIt at hY
  unfold pt
  go_enter Tryz.func81, Tryz.ntmps81
  go_wp2_with fail
  refine (wpIn_wide (n := 3)).1 ?_
  gi_loopg [7] es.length (fun m vi W => ∃ pre r, pre ++ r = es ∧ m = r.length ∧ vi = .int .i64 (pre.length : Int) ∧ I r W ∧ Ents W base (.slice p es.length c) es)
  case atStart => exact ⟨[], es, rfl, rfl, rfl, h0, hh⟩
  case round =>
    clear hh h h0 hb b0 l0
    obtain ⟨pre, r, hpr, rfl, rfl, hIr, hE⟩ := hrel
    have hl2 : pre.length + r.length = es.length := by rw [← hpr, List.length_append]
    have HPR := Lib.hid hpr
    cases r with
    | nil =>
      have hle : ¬ (pre.length : Int) < (es.length : Int) := by rw [List.length_nil] at hl2; omega
      have HL2 := Lib.hid hl2
      clear hl2 hpr
      gi_wp2
      go_end0
      exact ⟨⟨_, rfl⟩, .inl hIr⟩
    | cons y r =>
      rw [List.length_cons] at hl2
      have hlt : (pre.length : Int) < (es.length : Int) := by omega
      have hy : es[pre.length]? = some y := by rw [← hpr]; simp
      have hl4 : (es.length : Int) ≤ 1000 := by omega
      obtain ⟨gb, o, c2, he2, g1, g2, g3, k0, k1⟩ := hE.r.at_ hy
      injection he2 with he3 _ he4
      subst he3
      subst he4
      obtain ⟨fn, tmps, assign, body, hy', hR⟩ := hY y r (wr.alloc (.cells #[.string y.m, .int .i64 y.s] 54)) (hI _ _ _ hIr ((Chg.refl _ wr).alloc _)) ⟨hE.chg0 ((Chg.refl _ wr).alloc _), pre, hpr⟩
      unfold En.val at hy'
      have HL2 := Lib.hid hl2
      clear hl2 hpr hy
      gi_wp2
      refine hR.mono ?_
      rintro e W3 ⟨hsz, hF, ⟨rfl, hI3⟩ | ⟨rfl, hx3⟩⟩
      · have hE3 := (hE.chg0 ((Chg.refl (fun _ => False) wr).alloc (.cells #[.string y.m, .int .i64 y.s] 54))).same (fun g hg => hF g (.inr hg))
        clear hF
        gi_wp2
        gi_roundg r.length
        case rel => exact ⟨pre ++ [y], r, by rw [List.append_assoc]; exact HPR.out, rfl, int_eq (by rw [List.length_append, List.length_cons, List.length_nil]; omega), hI3, hE3⟩
        case measure => rw [List.length_cons]; omega
      · gi_wp2
        refine bodyPost_ret (results_none rfl _ _ _) rfl ?_
        exact ⟨⟨_, rfl⟩, .inr hx3⟩
end Go.Proofs.YtifcpippfiglkaaGreat

/- slices.Values of entries; (*Set).each. -/
namespace Go.Proofs.YtifcpippfiglkaaGreat
open Go.RowKit Pal
attribute [local go_sem] Oper.semAt_some
theorem values_spec (v : Value) (base a : Nat) (es : List En) (hn : es.length ≤ 1000) : IterSpec Tryz.prog 81 #[pt a] (fun x : En => #[x.val]) (vlF v a) (fun _ => False) (vlIt0 v base a es) (vlIt v base es) where
  sub := fun _ h => h.elim
  cells := by
    rintro r W k ⟨hE, hB, _⟩ (rfl | hk)
    · exact ⟨_, _, _, hB⟩
    · rcases hE.2 with ⟨rfl, _⟩ | ⟨g, cap, cur, rfl, _, hh, _⟩
      · cases hk
      · injection hk with hk
        subst hk
        exact ⟨_, _, _, hh⟩
  far0 := by rintro r W W' ⟨hE, hB, hr⟩ _ hF; exact ⟨hE.same fun g hg => hF g (.inr hg), (hF a (.inl rfl)).trans hB, hr⟩
  far := by rintro r W W' ⟨hE, hr⟩ _ hF; exact ⟨hE.same fun g hg => hF g (.inr hg), hr⟩
  call := by
    rintro l I Ix hI hIx hY c W h0 ⟨hE, hB, rfl⟩
    exact values1_any v base a c hn l I Ix hI hY W h0 hE hB
theorem values_any (p : Option Addr) (n c : Nat) (w : World) : Calls Tryz.prog 65 #[.slice p n c] w fun r w' => r = .returned (fnv 81 #[pt w.heap.size]) ∧ w.alloc (.cells #[.slice p n c] 43) = w' := by
  unfold pt fnv
  go_enter Tryz.func65, Tryz.ntmps65
  go_wp2
  go_ret
  exact ⟨rfl, rfl⟩
def EachPost (es : List En) (w : World) (r : Ending) (w' : World) : Prop := (∃ v a, r = .returned (fnv 81 #[pt a]) ∧ vlIt0 v w.heap.size a es es w' ∧ (∀ k, vlF v a k → w.heap.size ≤ k ∧ k < w'.heap.size)) ∧ Chg (fun _ => False) w w'
section
variable {w : World} {base : Nat} {z : Zs} {es : List En}
set_option maxRecDepth 100000 in
theorem z_each (h : ZsAt w base z es) : Calls Tryz.prog 47 #[pt z.blk] w (EachPost es w) := by
  have hl := z_len h
  have hr := fun w' (hc : Chg (fun _ => False) w w') => z_range (h.chg0 hc) 0 es.length
  rw [sub_all] at hr
  have hv := values_any
  unfold EachPost
  unfold pt fnv at *
  go_enter Tryz.func47, Tryz.ntmps47
  go_wp2_with (first
    | (go_at_call 16; refine hl.mono ?_; rintro r w1 ⟨rfl, hC1⟩)
    | (go_at_call 20; refine (hr _ hC1).mono ?_; rintro r w2 ⟨⟨v, rfl, hE⟩, hC2⟩; obtain ⟨p, c, rfl, _⟩ := hE.is)
    | (go_at_call 65; refine (hv _ _ _ _).mono ?_; rintro r w3 ⟨rfl, rfl⟩))
  go_ret
  have h1 := hC1.size
  have h2 := hC2.size
  refine ⟨⟨_, _, rfl, ⟨(hE.lower h1).chg0 ((Chg.refl _ _).alloc _), Blk.new _ _ _, rfl⟩, ?_⟩, (hC1.trans hC2).alloc _⟩
  rintro k (rfl | hk)
  · exact ⟨Nat.le_trans h1 h2, by simp⟩
  · have := hE.lt k hk
    exact ⟨by omega, by simp; omega⟩
end
end Go.Proofs.YtifcpippfiglkaaGreat

/- bound.In, as the document has it. -/
namespace Go.Proofs.YtifcpippfiglkaaGreat
open Go.RowKit Pal
attribute [local go_sem ↓] Go.wp_at_zero Go.wp_at_succ
attribute [local go_sem] Oper.semAt_some

structure Bd where
  N : Int
  O : Bool
  I : Int
def Bd.cs (b : Bd) : Array Value := #[.int .i64 b.N, .bool b.O, .int .i64 b.I]
def loB (x : Int) (b : Bd) : Bool := decide (b.I < 0) || (decide (b.I = 0) && (decide (b.N < x) || (decide (x = b.N) && !b.O)))
def hiB (x : Int) (b : Bd) : Bool := decide (0 < b.I) || (decide (b.I = 0) && (decide (x < b.N) || (decide (x = b.N) && !b.O)))
def ofV (I : Int) (O : Bool) : Value := if I = 0 then .iface 144 (.agg #[.bool O]) else .iface 147 (.agg #[.int .i64 I])
theorem isNaN_n (a : Int) (w : World) : Calls Tryz.prog 195 #[.int .i64 a] w fun e w' => e = .returned (.bool false) ∧ w = w' := by
  go_enter Tryz.func195, Tryz.ntmps195
  go_wp2
  go_ret
  exact ⟨rfl, rfl⟩
theorem cmp_n (a b : Int) (w : World) : Calls Tryz.prog 194 #[.int .i64 a, .int .i64 b] w fun e w' => e = .returned (.int .i64 (cmpI a b)) ∧ w = w' := by
  rcases Int.lt_trichotomy a b with h | h | h
  · have e : cmpI a b = -1 := by unfold cmpI; rw [if_pos h]
    rw [e]
    go_enter Tryz.func194, Tryz.ntmps194
    go_wp2_with (go_at_call 195; refine (isNaN_n _ _).mono ?_; rintro e w' ⟨rfl, rfl⟩)
    go_ret
    exact ⟨rfl, rfl⟩
  · have e : cmpI a b = 0 := by unfold cmpI; rw [if_neg (by omega), if_neg (by omega)]
    rw [e]
    subst h
    go_enter Tryz.func194, Tryz.ntmps194
    go_wp2_with (go_at_call 195; refine (isNaN_n _ _).mono ?_; rintro e w' ⟨rfl, rfl⟩)
    go_ret
    exact ⟨rfl, rfl⟩
  · have e : cmpI a b = 1 := by unfold cmpI; rw [if_neg (by omega), if_pos h]
    have h1 : ¬ a < b := by omega
    have h2 : a > b := h
    rw [e]
    go_enter Tryz.func194, Tryz.ntmps194
    go_wp2_with (go_at_call 195; refine (isNaN_n _ _).mono ?_; rintro e w' ⟨rfl, rfl⟩)
    go_ret
    exact ⟨rfl, rfl⟩

theorem of_any (I : Int) (O : Bool) (w : World) : Calls Tryz.prog 64 #[.int .i64 I, .bool O] w fun r w' => r = .returned (ofV I O) ∧ w = w' := by
  unfold ofV
  by_cases h : I = 0
  · rw [if_pos h]
    subst h
    go_enter Tryz.func64, Tryz.ntmps64
    go_wp2_with fail
    go_ret
    exact ⟨rfl, rfl⟩
  · rw [if_neg h]
    have h2 : (I == 0) = false := by simpa using h
    go_enter Tryz.func64, Tryz.ntmps64
    go_wp2_with fail
    go_ret
    exact ⟨rfl, rfl⟩
theorem ta_vv (w : World) (O : Bool) : (Instr.typeAssert (.iface 144 (.agg #[.bool O])) 112 144 true).run Tryz.prog w = .ok (.tuple #[.agg #[.bool O], .bool true]) w := by kernel_rfl
theorem ta_lv (w : World) (I : Int) : (Instr.typeAssert (.iface 147 (.agg #[.int .i64 I])) 112 144 true).run Tryz.prog w = .ok (.tuple #[.agg #[.bool false], .bool false]) w := by kernel_rfl
theorem me_sign (w : World) (I : Int) : (method 366 147 (.agg #[.int .i64 I]) "palio/bound.sign").run Tryz.prog w = .ok (193, .agg #[.int .i64 I]) w := by kernel_rfl
theorem sign_any (I : Int) (w : World) : Calls Tryz.prog 193 #[.agg #[.int .i64 I]] w fun r w' => r = .returned (.int .i64 (cmpI I 0)) ∧ Chg (fun _ => False) w w' := by
  have hc := fun w => cmp_n I 0 w
  go_enter Tryz.func193, Tryz.ntmps193
  go_wp2_with (go_at_call 194; refine (hc _).mono ?_; rintro r9 w9 ⟨rfl, rfl⟩)
  go_ret
  exact ⟨rfl, (Chg.refl _ _).alloc _⟩
set_option maxRecDepth 100000 in
set_option maxHeartbeats 2000000 in
theorem behI_any (x : Int) (b : Bd) (sg : Int) (res : Bool) (hres : (sg = 1 ∧ res = loB x b) ∨ (sg = -1 ∧ res = hiB x b)) (w : World) : Calls Tryz.prog 63 #[.int .i64 x, .int .i64 b.N, ofV b.I b.O, .int .i64 sg] w fun r w' => r = .returned (.bool res) ∧ Chg (fun _ => False) w w' := by
  obtain ⟨N, O, I⟩ := b
  unfold ofV loB hiB at *
  dsimp only at *
  have hc := fun w => cmp_i x N w
  have hsi := fun w => sign_any I w
  have hme := fun w => me_sign w I
  have t1 := fun w => ta_vv w O
  have t2 := fun w => ta_lv w I
  rcases Int.lt_trichotomy I 0 with hI | hI | hI
  · have e : cmpI I 0 = -1 := by unfold cmpI; rw [if_pos hI]
    rw [e] at hsi
    rw [if_neg (by omega)]
    have hr : res = decide (sg = 1) := by
      rcases hres with ⟨rfl, rfl⟩ | ⟨rfl, rfl⟩
      · simp [hI]
      · simp; omega
    rcases hres with ⟨rfl, _⟩ | ⟨rfl, _⟩ <;>
    · rw [hr]
      go_enter Tryz.func63, Tryz.ntmps63
      go_wp2_with (first | (go_at_call 193; refine (hsi _).mono ?_; rintro r9 w9 ⟨rfl, hC9⟩) | fail)
      go_ret
      exact ⟨by first | rfl | simp, by first | exact ((Chg.refl _ _).alloc _).trans hC9 | exact (((Chg.refl _ _).alloc _).alloc _).trans hC9⟩
  · subst hI
    rw [if_pos rfl]
    clear hsi hme t2
    rcases Int.lt_trichotomy x N with h | h | h
    · have e : cmpI x N = -1 := by unfold cmpI; rw [if_pos h]
      rw [e] at hc
      have hr : res = decide (sg = -1) := by
        rcases hres with ⟨rfl, rfl⟩ | ⟨rfl, rfl⟩
        · simp; omega
        · simp [h]
      rcases hres with ⟨rfl, _⟩ | ⟨rfl, _⟩ <;>
      · rw [hr]
        go_enter Tryz.func63, Tryz.ntmps63
        go_wp2_with (first | (go_at_call 61; refine (hc _).mono ?_; rintro r9 w9 ⟨rfl, rfl⟩) | fail)
        go_ret
        exact ⟨by first | rfl | simp, by first | exact (Chg.refl _ _).alloc _ | exact ((Chg.refl _ _).alloc _).alloc _⟩
    · subst h
      have e : cmpI x x = 0 := by unfold cmpI; rw [if_neg (by omega), if_neg (by omega)]
      rw [e] at hc
      have hr : res = !O := by
        rcases hres with ⟨rfl, rfl⟩ | ⟨rfl, rfl⟩ <;> simp
      rcases hres with ⟨rfl, _⟩ | ⟨rfl, _⟩ <;>
      · rw [hr]
        go_enter Tryz.func63, Tryz.ntmps63
        go_wp2_with (first | (go_at_call 61; refine (hc _).mono ?_; rintro r9 w9 ⟨rfl, rfl⟩) | fail)
        go_ret
        exact ⟨by first | rfl | simp, by first | exact (Chg.refl _ _).alloc _ | exact ((Chg.refl _ _).alloc _).alloc _⟩
    · have e : cmpI x N = 1 := by unfold cmpI; rw [if_neg (by omega), if_pos h]
      rw [e] at hc
      have hr : res = decide (sg = 1) := by
        rcases hres with ⟨rfl, rfl⟩ | ⟨rfl, rfl⟩
        · simp [h]
        · simp; omega
      rcases hres with ⟨rfl, _⟩ | ⟨rfl, _⟩ <;>
      · rw [hr]
        go_enter Tryz.func63, Tryz.ntmps63
        go_wp2_with (first | (go_at_call 61; refine (hc _).mono ?_; rintro r9 w9 ⟨rfl, rfl⟩) | fail)
        go_ret
        exact ⟨by first | rfl | simp, by first | exact (Chg.refl _ _).alloc _ | exact ((Chg.refl _ _).alloc _).alloc _⟩
  · have e : cmpI I 0 = 1 := by unfold cmpI; rw [if_neg (by omega), if_pos hI]
    rw [e] at hsi
    rw [if_neg (by omega)]
    have hr : res = decide (sg = -1) := by
      rcases hres with ⟨rfl, rfl⟩ | ⟨rfl, rfl⟩
      · simp; omega
      · simp [hI]
    rcases hres with ⟨rfl, _⟩ | ⟨rfl, _⟩ <;>
    · rw [hr]
      go_enter Tryz.func63, Tryz.ntmps63
      go_wp2_with (first | (go_at_call 193; refine (hsi _).mono ?_; rintro r9 w9 ⟨rfl, hC9⟩) | fail)
      go_ret
      exact ⟨by first | rfl | simp, by first | exact ((Chg.refl _ _).alloc _).trans hC9 | exact (((Chg.refl _ _).alloc _).alloc _).trans hC9⟩
end Go.Proofs.YtifcpippfiglkaaGreat

/- bound.In; Between. -/
namespace Go.Proofs.YtifcpippfiglkaaGreat
open Go.RowKit Pal
attribute [local go_sem] Oper.semAt_some
def inB (x : Int) (f t : Bd) : Bool := loB x f && hiB x t
set_option maxRecDepth 100000 in
set_option maxHeartbeats 4000000 in
theorem in_any (x : Int) (f t : Bd) (w : World) : Calls Tryz.prog 44 #[.int .i64 x, .agg f.cs, .agg t.cs] w fun r w' => r = .returned (.bool (inB x f t)) ∧ Chg (fun _ => False) w w' := by
  obtain ⟨W2, hW2⟩ : ∃ W2, W2 = (w.alloc (.cells f.cs 65)).alloc (.cells t.cs 65) := ⟨_, rfl⟩
  have hC0 := ((Chg.refl (fun _ => False) w).alloc (.cells f.cs 65)).alloc (.cells t.cs 65)
  have hx1 := (Blk.new w 65 f.cs).alloc (.cells t.cs 65)
  have hx2 := Blk.new (w.alloc (.cells f.cs 65)) 65 t.cs
  rw [World.size_alloc] at hx2
  rw [← hW2] at hC0 hx1 hx2
  unfold Bd.cs at *
  have hS : ∀ W', Chg (fun _ => False) W2 W' → W'.cell? ⟨w.heap.size, 0, none⟩ = some (.int .i64 f.N) ∧ W'.cell? ⟨w.heap.size, 1, none⟩ = some (.bool f.O) ∧ W'.cell? ⟨w.heap.size, 2, none⟩ = some (.int .i64 f.I) ∧ W'.cell? ⟨w.heap.size + 1, 0, none⟩ = some (.int .i64 t.N) ∧ W'.cell? ⟨w.heap.size + 1, 1, none⟩ = some (.bool t.O) ∧ W'.cell? ⟨w.heap.size + 1, 2, none⟩ = some (.int .i64 t.I) := fun W' hc => ⟨by have := (hx1.chg hc id).cell 0; simpa using this, by have := (hx1.chg hc id).cell 1; simpa using this, by have := (hx1.chg hc id).cell 2; simpa using this, by have := (hx2.chg hc id).cell 0; simpa using this, by have := (hx2.chg hc id).cell 1; simpa using this, by have := (hx2.chg hc id).cell 2; simpa using this⟩
  have ho1 := fun w => of_any f.I f.O w
  have ho2 := fun w => of_any t.I t.O w
  have hb1 := fun w => behI_any x f 1 _ (.inl ⟨rfl, rfl⟩) w
  have hb2 := fun w => behI_any x t (-1) _ (.inr ⟨rfl, rfl⟩) w
  unfold inB
  clear hx1 hx2
  cases hl : loB x f
  · rw [hl] at hb1
    have hfin : Hid ((false && hiB x t) = false) := rfl
    clear hl hb2 ho2
    go_enter Tryz.func44, Tryz.ntmps44
    go_wp2_with fail
    rw [← hW2]
    clear hW2
    refine wp_region_held_drew (S := fun W' => W'.cell? ⟨w.heap.size, 0, none⟩ = some (.int .i64 f.N) ∧ W'.cell? ⟨w.heap.size, 1, none⟩ = some (.bool f.O) ∧ W'.cell? ⟨w.heap.size, 2, none⟩ = some (.int .i64 f.I) ∧ W'.cell? ⟨w.heap.size + 1, 0, none⟩ = some (.int .i64 t.N) ∧ W'.cell? ⟨w.heap.size + 1, 1, none⟩ = some (.bool t.O) ∧ W'.cell? ⟨w.heap.size + 1, 2, none⟩ = some (.int .i64 t.I)) (by kernel_rfl) (hS _ (Chg.refl _ _).drew) (fun hHeld => ?_)
    refine wpAnyH_take (i := 0) (oi := Go.Oper.mk (some 7) _ _ _ _ _) (v := ?_) rfl (by kernel_rfl) (by kernel_rfl) (by kernel_rfl) (fun _ _ _ h => h) (Or.inl ⟨by kernel_rfl, ?_⟩) (by assumption) ?_
    rotate_left
    · intro w hSw
      try dsimp only at hSw
      go_simp
      try with_reducible rfl
    try simp only [Act.put, List.setIfInBounds_toArray, List.set_cons_zero, List.set_cons_succ]
    refine wpAnyH_take (i := 1) (oi := Go.Oper.mk (some 8) _ _ _ _ _) (v := ?_) rfl (by kernel_rfl) (by kernel_rfl) (by kernel_rfl) (fun _ _ _ h => h) (Or.inl ⟨by kernel_rfl, ?_⟩) (by assumption) ?_
    rotate_left
    · intro w hSw
      try dsimp only at hSw
      go_simp
      try with_reducible rfl
    try simp only [Act.put, List.setIfInBounds_toArray, List.set_cons_zero, List.set_cons_succ]
    refine wpAnyH_take (i := 2) (oi := Go.Oper.mk (some 9) _ _ _ _ _) (v := ?_) rfl (by kernel_rfl) (by kernel_rfl) (by kernel_rfl) (fun _ _ _ h => h) (Or.inl ⟨by kernel_rfl, ?_⟩) (by assumption) ?_
    rotate_left
    · intro w hSw
      try dsimp only at hSw
      go_simp
      try with_reducible rfl
    try simp only [Act.put, List.setIfInBounds_toArray, List.set_cons_zero, List.set_cons_succ]
    refine wpAnyH_take (i := 3) (oi := Go.Oper.mk (some 10) _ _ _ _ _) (v := ?_) rfl (by kernel_rfl) (by kernel_rfl) (by kernel_rfl) (fun _ _ _ h => h) (Or.inl ⟨by kernel_rfl, ?_⟩) (by assumption) ?_
    rotate_left
    · intro w hSw
      try dsimp only at hSw
      go_simp
      try with_reducible rfl
    try simp only [Act.put, List.setIfInBounds_toArray, List.set_cons_zero, List.set_cons_succ]
    refine wpAnyH_take (i := 4) (oi := Go.Oper.mk (some 11) _ _ _ _ _) (v := ?_) rfl (by kernel_rfl) (by kernel_rfl) (by kernel_rfl) (fun _ _ _ h => h) (Or.inl ⟨by kernel_rfl, ?_⟩) (by assumption) ?_
    rotate_left
    · intro w hSw
      try dsimp only at hSw
      go_simp
      try with_reducible rfl
    try simp only [Act.put, List.setIfInBounds_toArray, List.set_cons_zero, List.set_cons_succ]
    refine wpAnyH_take (i := 5) (oi := Go.Oper.mk (some 12) _ _ _ _ _) (v := ?_) rfl (by kernel_rfl) (by kernel_rfl) (by kernel_rfl) (fun _ _ _ h => h) (Or.inl ⟨by kernel_rfl, ?_⟩) (by assumption) ?_
    rotate_left
    · intro w hSw
      try dsimp only at hSw
      go_simp
      try with_reducible rfl
    try simp only [Act.put, List.setIfInBounds_toArray, List.set_cons_zero, List.set_cons_succ]
    refine wpAnyH_take (i := 6) (oi := Go.Oper.mk (some 13) _ _ _ _ _) (v := ?_) rfl (by kernel_rfl) (by kernel_rfl) (by kernel_rfl) (fun _ _ _ h => h) (Or.inl ⟨by kernel_rfl, ?_⟩) (by assumption) ?_
    rotate_left
    · intro w hSw
      try dsimp only at hSw
      go_simp
      try with_reducible rfl
    try simp only [Act.put, List.setIfInBounds_toArray, List.set_cons_zero, List.set_cons_succ]
    refine wpAnyH_ready (rs := [7]) (by kernel_rfl) (by simp) ?_
    refine AllReadyH.cons (o := Go.Oper.mk (some 14) _ _ _ _ _) rfl (fun K hK => ?_) AllReadyH.nil
    go_simp
    go_at_call 64
    refine (ho1 _).mono ?_
    rintro r9 w9 ⟨rfl, rfl⟩
    refine hK.out _ _ (hS _ (Chg.refl _ _).drew) (fun hHeld2 => ?_)
    clear hK K hHeld
    try simp only [Act.put, List.setIfInBounds_toArray, List.set_cons_zero, List.set_cons_succ]
    refine wpAnyH_ready (rs := [8]) (by kernel_rfl) (by simp) ?_
    refine AllReadyH.cons (o := Go.Oper.mk (some 15) _ _ _ _ _) rfl (fun K hK => ?_) AllReadyH.nil
    go_simp
    go_at_call 63
    refine (hb1 _).mono ?_
    rintro r9 w3 ⟨rfl, C3⟩
    have hc3 := (Chg.refl (fun _ => False) W2).drew.trans C3
    refine hK.out _ _ (hS _ hc3) (fun hHeld3 => ?_)
    clear hK K hHeld2
    try simp only [Act.put, List.setIfInBounds_toArray, List.set_cons_zero, List.set_cons_succ]
    refine wpAnyH_take (i := 9) (oi := Go.Oper.mk (some 16) _ _ _ _ _) (v := ?_) rfl (by kernel_rfl) (by kernel_rfl) (by kernel_rfl) (fun _ _ _ h => h) (Or.inl ⟨by kernel_rfl, ?_⟩) (by assumption) ?_
    rotate_left
    · intro w hSw
      try dsimp only at hSw
      go_simp
      try with_reducible rfl
    try simp only [Act.put, List.setIfInBounds_toArray, List.set_cons_zero, List.set_cons_succ]
    refine wpAnyH_take (i := 10) (oi := Go.Oper.mk (some 17) _ _ _ _ _) (v := undef) rfl (by kernel_rfl) (by kernel_rfl) (by kernel_rfl) (fun _ _ _ h => h) (Or.inr ⟨by kernel_rfl, rfl⟩) (by assumption) ?_
    try simp only [Act.put, List.setIfInBounds_toArray, List.set_cons_zero, List.set_cons_succ]
    refine wpAnyH_take (i := 11) (oi := Go.Oper.mk (some 18) _ _ _ _ _) (v := undef) rfl (by kernel_rfl) (by kernel_rfl) (by kernel_rfl) (fun _ _ _ h => h) (Or.inr ⟨by kernel_rfl, rfl⟩) (by assumption) ?_
    try simp only [Act.put, List.setIfInBounds_toArray, List.set_cons_zero, List.set_cons_succ]
    refine wpAnyH_take (i := 12) (oi := Go.Oper.mk (some 19) _ _ _ _ _) (v := undef) rfl (by kernel_rfl) (by kernel_rfl) (by kernel_rfl) (fun _ _ _ h => h) (Or.inr ⟨by kernel_rfl, rfl⟩) (by assumption) ?_
    try simp only [Act.put, List.setIfInBounds_toArray, List.set_cons_zero, List.set_cons_succ]
    refine wpAnyH_take (i := 13) (oi := Go.Oper.mk (some 20) _ _ _ _ _) (v := undef) rfl (by kernel_rfl) (by kernel_rfl) (by kernel_rfl) (fun _ _ _ h => h) (Or.inr ⟨by kernel_rfl, rfl⟩) (by assumption) ?_
    try simp only [Act.put, List.setIfInBounds_toArray, List.set_cons_zero, List.set_cons_succ]
    refine wpAnyH_take (i := 14) (oi := Go.Oper.mk (some 21) _ _ _ _ _) (v := undef) rfl (by kernel_rfl) (by kernel_rfl) (by kernel_rfl) (fun _ _ _ h => h) (Or.inr ⟨by kernel_rfl, rfl⟩) (by assumption) ?_
    try simp only [Act.put, List.setIfInBounds_toArray, List.set_cons_zero, List.set_cons_succ]
    refine wpAnyH_take (i := 15) (oi := Go.Oper.mk (some 22) _ _ _ _ _) (v := undef) rfl (by kernel_rfl) (by kernel_rfl) (by kernel_rfl) (fun _ _ _ h => h) (Or.inr ⟨by kernel_rfl, rfl⟩) (by assumption) ?_
    try simp only [Act.put, List.setIfInBounds_toArray, List.set_cons_zero, List.set_cons_succ]
    refine wpAnyH_take (i := 16) (oi := Go.Oper.mk (some 23) _ _ _ _ _) (v := undef) rfl (by kernel_rfl) (by kernel_rfl) (by kernel_rfl) (fun _ _ _ h => h) (Or.inr ⟨by kernel_rfl, rfl⟩) (by assumption) ?_
    try simp only [Act.put, List.setIfInBounds_toArray, List.set_cons_zero, List.set_cons_succ]
    refine wpAnyH_take (i := 17) (oi := Go.Oper.mk (some 24) _ _ _ _ _) (v := undef) rfl (by kernel_rfl) (by kernel_rfl) (by kernel_rfl) (fun _ _ _ h => h) (Or.inr ⟨by kernel_rfl, rfl⟩) (by assumption) ?_
    try simp only [Act.put, List.setIfInBounds_toArray, List.set_cons_zero, List.set_cons_succ]
    refine wpAnyH_take (i := 18) (oi := Go.Oper.mk (some 25) _ _ _ _ _) (v := undef) rfl (by kernel_rfl) (by kernel_rfl) (by kernel_rfl) (fun _ _ _ h => h) (Or.inr ⟨by kernel_rfl, rfl⟩) (by assumption) ?_
    try simp only [Act.put, List.setIfInBounds_toArray, List.set_cons_zero, List.set_cons_succ]
    refine wpAnyH_take (i := 19) (oi := Go.Oper.mk (some 26) _ _ _ _ _) (v := ?_) rfl (by kernel_rfl) (by kernel_rfl) (by kernel_rfl) (fun _ _ _ h => h) (Or.inl ⟨by kernel_rfl, ?_⟩) (by assumption) ?_
    rotate_left
    · intro w hSw
      try dsimp only at hSw
      go_simp
      try with_reducible rfl
    try simp only [Act.put, List.setIfInBounds_toArray, List.set_cons_zero, List.set_cons_succ]
    refine wpAnyH_take (i := 20) (oi := Go.Oper.mk (some 6) _ _ _ _ _) (v := ?_) rfl (by kernel_rfl) (by kernel_rfl) (by kernel_rfl) (fun _ _ _ h => h) (Or.inl ⟨by kernel_rfl, ?_⟩) (by assumption) ?_
    rotate_left
    · intro w hSw
      try dsimp only at hSw
      go_simp
      try with_reducible rfl
    try simp only [Act.put, List.setIfInBounds_toArray, List.set_cons_zero, List.set_cons_succ]
    refine wpAnyH_done (by kernel_rfl) ?_ _
    clear hHeld3
    go_wp2_with fail
    go_ret
    exact ⟨by first | rfl | simp, hC0.trans hc3⟩
  · rw [hl] at hb1
    clear hl
    go_enter Tryz.func44, Tryz.ntmps44
    go_wp2_with fail
    rw [← hW2]
    clear hW2
    refine wp_region_held_drew (S := fun W' => W'.cell? ⟨w.heap.size, 0, none⟩ = some (.int .i64 f.N) ∧ W'.cell? ⟨w.heap.size, 1, none⟩ = some (.bool f.O) ∧ W'.cell? ⟨w.heap.size, 2, none⟩ = some (.int .i64 f.I) ∧ W'.cell? ⟨w.heap.size + 1, 0, none⟩ = some (.int .i64 t.N) ∧ W'.cell? ⟨w.heap.size + 1, 1, none⟩ = some (.bool t.O) ∧ W'.cell? ⟨w.heap.size + 1, 2, none⟩ = some (.int .i64 t.I)) (by kernel_rfl) (hS _ (Chg.refl _ _).drew) (fun hHeld => ?_)
    refine wpAnyH_take (i := 0) (oi := Go.Oper.mk (some 7) _ _ _ _ _) (v := ?_) rfl (by kernel_rfl) (by kernel_rfl) (by kernel_rfl) (fun _ _ _ h => h) (Or.inl ⟨by kernel_rfl, ?_⟩) (by assumption) ?_
    rotate_left
    · intro w hSw
      try dsimp only at hSw
      go_simp
      try with_reducible rfl
    try simp only [Act.put, List.setIfInBounds_toArray, List.set_cons_zero, List.set_cons_succ]
    refine wpAnyH_take (i := 1) (oi := Go.Oper.mk (some 8) _ _ _ _ _) (v := ?_) rfl (by kernel_rfl) (by kernel_rfl) (by kernel_rfl) (fun _ _ _ h => h) (Or.inl ⟨by kernel_rfl, ?_⟩) (by assumption) ?_
    rotate_left
    · intro w hSw
      try dsimp only at hSw
      go_simp
      try with_reducible rfl
    try simp only [Act.put, List.setIfInBounds_toArray, List.set_cons_zero, List.set_cons_succ]
    refine wpAnyH_take (i := 2) (oi := Go.Oper.mk (some 9) _ _ _ _ _) (v := ?_) rfl (by kernel_rfl) (by kernel_rfl) (by kernel_rfl) (fun _ _ _ h => h) (Or.inl ⟨by kernel_rfl, ?_⟩) (by assumption) ?_
    rotate_left
    · intro w hSw
      try dsimp only at hSw
      go_simp
      try with_reducible rfl
    try simp only [Act.put, List.setIfInBounds_toArray, List.set_cons_zero, List.set_cons_succ]
    refine wpAnyH_take (i := 3) (oi := Go.Oper.mk (some 10) _ _ _ _ _) (v := ?_) rfl (by kernel_rfl) (by kernel_rfl) (by kernel_rfl) (fun _ _ _ h => h) (Or.inl ⟨by kernel_rfl, ?_⟩) (by assumption) ?_
    rotate_left
    · intro w hSw
      try dsimp only at hSw
      go_simp
      try with_reducible rfl
    try simp only [Act.put, List.setIfInBounds_toArray, List.set_cons_zero, List.set_cons_succ]
    refine wpAnyH_take (i := 4) (oi := Go.Oper.mk (some 11) _ _ _ _ _) (v := ?_) rfl (by kernel_rfl) (by kernel_rfl) (by kernel_rfl) (fun _ _ _ h => h) (Or.inl ⟨by kernel_rfl, ?_⟩) (by assumption) ?_
    rotate_left
    · intro w hSw
      try dsimp only at hSw
      go_simp
      try with_reducible rfl
    try simp only [Act.put, List.setIfInBounds_toArray, List.set_cons_zero, List.set_cons_succ]
    refine wpAnyH_take (i := 5) (oi := Go.Oper.mk (some 12) _ _ _ _ _) (v := ?_) rfl (by kernel_rfl) (by kernel_rfl) (by kernel_rfl) (fun _ _ _ h => h) (Or.inl ⟨by kernel_rfl, ?_⟩) (by assumption) ?_
    rotate_left
    · intro w hSw
      try dsimp only at hSw
      go_simp
      try with_reducible rfl
    try simp only [Act.put, List.setIfInBounds_toArray, List.set_cons_zero, List.set_cons_succ]
    refine wpAnyH_take (i := 6) (oi := Go.Oper.mk (some 13) _ _ _ _ _) (v := ?_) rfl (by kernel_rfl) (by kernel_rfl) (by kernel_rfl) (fun _ _ _ h => h) (Or.inl ⟨by kernel_rfl, ?_⟩) (by assumption) ?_
    rotate_left
    · intro w hSw
      try dsimp only at hSw
      go_simp
      try with_reducible rfl
    try simp only [Act.put, List.setIfInBounds_toArray, List.set_cons_zero, List.set_cons_succ]
    refine wpAnyH_ready (rs := [7]) (by kernel_rfl) (by simp) ?_
    refine AllReadyH.cons (o := Go.Oper.mk (some 14) _ _ _ _ _) rfl (fun K hK => ?_) AllReadyH.nil
    go_simp
    go_at_call 64
    refine (ho1 _).mono ?_
    rintro r9 w9 ⟨rfl, rfl⟩
    refine hK.out _ _ (hS _ (Chg.refl _ _).drew) (fun hHeld2 => ?_)
    clear hK K hHeld
    try simp only [Act.put, List.setIfInBounds_toArray, List.set_cons_zero, List.set_cons_succ]
    refine wpAnyH_ready (rs := [8]) (by kernel_rfl) (by simp) ?_
    refine AllReadyH.cons (o := Go.Oper.mk (some 15) _ _ _ _ _) rfl (fun K hK => ?_) AllReadyH.nil
    go_simp
    go_at_call 63
    refine (hb1 _).mono ?_
    rintro r9 w3 ⟨rfl, C3⟩
    have hc3 := (Chg.refl (fun _ => False) W2).drew.trans C3
    refine hK.out _ _ (hS _ hc3) (fun hHeld3 => ?_)
    clear hK K hHeld2
    try simp only [Act.put, List.setIfInBounds_toArray, List.set_cons_zero, List.set_cons_succ]
    refine wpAnyH_take (i := 9) (oi := Go.Oper.mk (some 16) _ _ _ _ _) (v := ?_) rfl (by kernel_rfl) (by kernel_rfl) (by kernel_rfl) (fun _ _ _ h => h) (Or.inl ⟨by kernel_rfl, ?_⟩) (by assumption) ?_
    rotate_left
    · intro w hSw
      try dsimp only at hSw
      go_simp
      try with_reducible rfl
    try simp only [Act.put, List.setIfInBounds_toArray, List.set_cons_zero, List.set_cons_succ]
    refine wpAnyH_take (i := 10) (oi := Go.Oper.mk (some 17) _ _ _ _ _) (v := ?_) rfl (by kernel_rfl) (by kernel_rfl) (by kernel_rfl) (fun _ _ _ h => h) (Or.inl ⟨by kernel_rfl, ?_⟩) (by assumption) ?_
    rotate_left
    · intro w hSw
      try dsimp only at hSw
      go_simp
      try with_reducible rfl
    try simp only [Act.put, List.setIfInBounds_toArray, List.set_cons_zero, List.set_cons_succ]
    refine wpAnyH_take (i := 11) (oi := Go.Oper.mk (some 18) _ _ _ _ _) (v := ?_) rfl (by kernel_rfl) (by kernel_rfl) (by kernel_rfl) (fun _ _ _ h => h) (Or.inl ⟨by kernel_rfl, ?_⟩) (by assumption) ?_
    rotate_left
    · intro w hSw
      try dsimp only at hSw
      go_simp
      try with_reducible rfl
    try simp only [Act.put, List.setIfInBounds_toArray, List.set_cons_zero, List.set_cons_succ]
    refine wpAnyH_take (i := 12) (oi := Go.Oper.mk (some 19) _ _ _ _ _) (v := ?_) rfl (by kernel_rfl) (by kernel_rfl) (by kernel_rfl) (fun _ _ _ h => h) (Or.inl ⟨by kernel_rfl, ?_⟩) (by assumption) ?_
    rotate_left
    · intro w hSw
      try dsimp only at hSw
      go_simp
      try with_reducible rfl
    try simp only [Act.put, List.setIfInBounds_toArray, List.set_cons_zero, List.set_cons_succ]
    refine wpAnyH_take (i := 13) (oi := Go.Oper.mk (some 20) _ _ _ _ _) (v := ?_) rfl (by kernel_rfl) (by kernel_rfl) (by kernel_rfl) (fun _ _ _ h => h) (Or.inl ⟨by kernel_rfl, ?_⟩) (by assumption) ?_
    rotate_left
    · intro w hSw
      try dsimp only at hSw
      go_simp
      try with_reducible rfl
    try simp only [Act.put, List.setIfInBounds_toArray, List.set_cons_zero, List.set_cons_succ]
    refine wpAnyH_take (i := 14) (oi := Go.Oper.mk (some 21) _ _ _ _ _) (v := ?_) rfl (by kernel_rfl) (by kernel_rfl) (by kernel_rfl) (fun _ _ _ h => h) (Or.inl ⟨by kernel_rfl, ?_⟩) (by assumption) ?_
    rotate_left
    · intro w hSw
      try dsimp only at hSw
      go_simp
      try with_reducible rfl
    try simp only [Act.put, List.setIfInBounds_toArray, List.set_cons_zero, List.set_cons_succ]
    refine wpAnyH_take (i := 15) (oi := Go.Oper.mk (some 22) _ _ _ _ _) (v := ?_) rfl (by kernel_rfl) (by kernel_rfl) (by kernel_rfl) (fun _ _ _ h => h) (Or.inl ⟨by kernel_rfl, ?_⟩) (by assumption) ?_
    rotate_left
    · intro w hSw
      try dsimp only at hSw
      go_simp
      try with_reducible rfl
    try simp only [Act.put, List.setIfInBounds_toArray, List.set_cons_zero, List.set_cons_succ]
    refine wpAnyH_take (i := 16) (oi := Go.Oper.mk (some 23) _ _ _ _ _) (v := ?_) rfl (by kernel_rfl) (by kernel_rfl) (by kernel_rfl) (fun _ _ _ h => h) (Or.inl ⟨by kernel_rfl, ?_⟩) (by assumption) ?_
    rotate_left
    · intro w hSw
      try dsimp only at hSw
      go_simp
      try with_reducible rfl
    try simp only [Act.put, List.setIfInBounds_toArray, List.set_cons_zero, List.set_cons_succ]
    refine wpAnyH_ready (rs := [17]) (by kernel_rfl) (by simp) ?_
    refine AllReadyH.cons (o := Go.Oper.mk (some 24) _ _ _ _ _) rfl (fun K hK => ?_) AllReadyH.nil
    go_simp
    go_at_call 64
    refine (ho2 _).mono ?_
    rintro r9 w9 ⟨rfl, rfl⟩
    refine hK.out _ _ (hS _ hc3) (fun hHeld4 => ?_)
    clear hK K hHeld3
    try simp only [Act.put, List.setIfInBounds_toArray, List.set_cons_zero, List.set_cons_succ]
    refine wpAnyH_ready (rs := [18]) (by kernel_rfl) (by simp) ?_
    refine AllReadyH.cons (o := Go.Oper.mk (some 25) _ _ _ _ _) rfl (fun K hK => ?_) AllReadyH.nil
    go_simp
    go_at_call 63
    refine (hb2 _).mono ?_
    rintro r9 w4 ⟨rfl, C4⟩
    have hc4 := hc3.trans C4
    refine hK.out _ _ (hS _ hc4) (fun hHeld5 => ?_)
    clear hK K hHeld4
    try simp only [Act.put, List.setIfInBounds_toArray, List.set_cons_zero, List.set_cons_succ]
    refine wpAnyH_take (i := 19) (oi := Go.Oper.mk (some 26) _ _ _ _ _) (v := ?_) rfl (by kernel_rfl) (by kernel_rfl) (by kernel_rfl) (fun _ _ _ h => h) (Or.inl ⟨by kernel_rfl, ?_⟩) (by assumption) ?_
    rotate_left
    · intro w hSw
      try dsimp only at hSw
      go_simp
      try with_reducible rfl
    try simp only [Act.put, List.setIfInBounds_toArray, List.set_cons_zero, List.set_cons_succ]
    refine wpAnyH_take (i := 20) (oi := Go.Oper.mk (some 6) _ _ _ _ _) (v := ?_) rfl (by kernel_rfl) (by kernel_rfl) (by kernel_rfl) (fun _ _ _ h => h) (Or.inl ⟨by kernel_rfl, ?_⟩) (by assumption) ?_
    rotate_left
    · intro w hSw
      try dsimp only at hSw
      go_simp
      try with_reducible rfl
    try simp only [Act.put, List.setIfInBounds_toArray, List.set_cons_zero, List.set_cons_succ]
    refine wpAnyH_done (by kernel_rfl) ?_ _
    clear hHeld5
    go_wp2_with fail
    go_ret
    exact ⟨by first | rfl | simp, hC0.trans hc4⟩
end Go.Proofs.YtifcpippfiglkaaGreat

/- bound.InEdge. -/
namespace Go.Proofs.YtifcpippfiglkaaGreat
open Go.RowKit Pal
attribute [local go_sem ↓] Go.wp_at_zero Go.wp_at_succ
attribute [local go_sem] Oper.semAt_some
structure Ed where
  N : ByteArray
  O : Bool
  I : Int
def Ed.cs (b : Ed) : Array Value := #[.string b.N, .bool b.O, .int .i64 b.I]
def loS (x : ByteArray) (b : Ed) : Bool := decide (b.I < 0) || (decide (b.I = 0) && (decide (ltB b.N x) || (decide (x = b.N) && !b.O)))
def hiS (x : ByteArray) (b : Ed) : Bool := decide (0 < b.I) || (decide (b.I = 0) && (decide (ltB x b.N) || (decide (x = b.N) && !b.O)))
def inS (x : ByteArray) (f t : Ed) : Bool := loS x f && hiS x t
theorem triS (a b : ByteArray) : ltB a b ∨ a = b ∨ ltB b a := by
  by_cases h : ltB a b
  · exact .inl h
  · by_cases h2 : a = b
    · exact .inr (.inl h2)
    · exact .inr (.inr (ltB_total h h2))
set_option maxRecDepth 100000 in
set_option maxHeartbeats 2000000 in
theorem behS_any (x : ByteArray) (b : Ed) (sg : Int) (res : Bool) (hres : (sg = 1 ∧ res = loS x b) ∨ (sg = -1 ∧ res = hiS x b)) (w : World) : Calls Tryz.prog 66 #[.string x, .string b.N, ofV b.I b.O, .int .i64 sg] w fun r w' => r = .returned (.bool res) ∧ Chg (fun _ => False) w w' := by
  obtain ⟨N, O, I⟩ := b
  unfold ofV loS hiS at *
  dsimp only at *
  have hc := fun w => cmp_s x N w
  have hsi := fun w => sign_any I w
  have hme := fun w => me_sign w I
  have t1 := fun w => ta_vv w O
  have t2 := fun w => ta_lv w I
  rcases Int.lt_trichotomy I 0 with hI | hI | hI
  · have e : cmpI I 0 = -1 := by unfold cmpI; rw [if_pos hI]
    rw [e] at hsi
    rw [if_neg (by omega)]
    have hr : res = decide (sg = 1) := by
      rcases hres with ⟨rfl, rfl⟩ | ⟨rfl, rfl⟩
      · simp [hI]
      · simp; omega
    rcases hres with ⟨rfl, _⟩ | ⟨rfl, _⟩ <;>
    · rw [hr]
      go_enter Tryz.func66, Tryz.ntmps66
      go_wp2_with (first | (go_at_call 193; refine (hsi _).mono ?_; rintro r9 w9 ⟨rfl, hC9⟩) | fail)
      go_ret
      exact ⟨by first | rfl | simp, by first | exact ((Chg.refl _ _).alloc _).trans hC9 | exact (((Chg.refl _ _).alloc _).alloc _).trans hC9⟩
  · subst hI
    rw [if_pos rfl]
    clear hsi hme t2
    rcases triS x N with h | h | h
    · have e : cmpS x N = -1 := by unfold cmpS; rw [if_pos h]
      have n1 : ¬ ltB N x := fun h2 => ltB_irrefl _ (ltB_trans h2 h)
      have n2 : ¬ x = N := fun h2 => ltB_irrefl _ (h2 ▸ h)
      rw [e] at hc
      have hr : res = decide (sg = -1) := by
        rcases hres with ⟨rfl, rfl⟩ | ⟨rfl, rfl⟩
        · simp [n1, n2]
        · simp [h]
      rcases hres with ⟨rfl, _⟩ | ⟨rfl, _⟩ <;>
      · rw [hr]
        go_enter Tryz.func66, Tryz.ntmps66
        go_wp2_with (first | (go_at_call 62; refine (hc _).mono ?_; rintro r9 w9 ⟨rfl, rfl⟩) | fail)
        go_ret
        exact ⟨by first | rfl | simp, by first | exact (Chg.refl _ _).alloc _ | exact ((Chg.refl _ _).alloc _).alloc _⟩
    · subst h
      have e : cmpS x x = 0 := by unfold cmpS; rw [if_neg (ltB_irrefl _), if_neg (ltB_irrefl _)]
      have n1 := ltB_irrefl x
      rw [e] at hc
      have hr : res = !O := by
        rcases hres with ⟨rfl, rfl⟩ | ⟨rfl, rfl⟩ <;> simp [n1]
      rcases hres with ⟨rfl, _⟩ | ⟨rfl, _⟩ <;>
      · rw [hr]
        go_enter Tryz.func66, Tryz.ntmps66
        go_wp2_with (first | (go_at_call 62; refine (hc _).mono ?_; rintro r9 w9 ⟨rfl, rfl⟩) | fail)
        go_ret
        exact ⟨by first | rfl | simp, by first | exact (Chg.refl _ _).alloc _ | exact ((Chg.refl _ _).alloc _).alloc _⟩
    · have n1 : ¬ ltB x N := fun h2 => ltB_irrefl _ (ltB_trans h2 h)
      have n2 : ¬ x = N := fun h2 => ltB_irrefl _ (h2 ▸ h)
      have e : cmpS x N = 1 := by unfold cmpS; rw [if_neg n1, if_pos h]
      rw [e] at hc
      have hr : res = decide (sg = 1) := by
        rcases hres with ⟨rfl, rfl⟩ | ⟨rfl, rfl⟩
        · simp [h]
        · simp [n1, n2]
      rcases hres with ⟨rfl, _⟩ | ⟨rfl, _⟩ <;>
      · rw [hr]
        go_enter Tryz.func66, Tryz.ntmps66
        go_wp2_with (first | (go_at_call 62; refine (hc _).mono ?_; rintro r9 w9 ⟨rfl, rfl⟩) | fail)
        go_ret
        exact ⟨by first | rfl | simp, by first | exact (Chg.refl _ _).alloc _ | exact ((Chg.refl _ _).alloc _).alloc _⟩
  · have e : cmpI I 0 = 1 := by unfold cmpI; rw [if_neg (by omega), if_pos hI]
    rw [e] at hsi
    rw [if_neg (by omega)]
    have hr : res = decide (sg = -1) := by
      rcases hres with ⟨rfl, rfl⟩ | ⟨rfl, rfl⟩
      · simp; omega
      · simp [hI]
    rcases hres with ⟨rfl, _⟩ | ⟨rfl, _⟩ <;>
    · rw [hr]
      go_enter Tryz.func66, Tryz.ntmps66
      go_wp2_with (first | (go_at_call 193; refine (hsi _).mono ?_; rintro r9 w9 ⟨rfl, hC9⟩) | fail)
      go_ret
      exact ⟨by first | rfl | simp, by first | exact ((Chg.refl _ _).alloc _).trans hC9 | exact (((Chg.refl _ _).alloc _).alloc _).trans hC9⟩
set_option maxRecDepth 100000 in
set_option maxHeartbeats 4000000 in
theorem inS_any (x : ByteArray) (f t : Ed) (w : World) : Calls Tryz.prog 48 #[.string x, .agg f.cs, .agg t.cs] w fun r w' => r = .returned (.bool (inS x f t)) ∧ Chg (fun _ => False) w w' := by
  obtain ⟨W2, hW2⟩ : ∃ W2, W2 = (w.alloc (.cells f.cs 68)).alloc (.cells t.cs 68) := ⟨_, rfl⟩
  have hC0 := ((Chg.refl (fun _ => False) w).alloc (.cells f.cs 68)).alloc (.cells t.cs 68)
  have hx1 := (Blk.new w 68 f.cs).alloc (.cells t.cs 68)
  have hx2 := Blk.new (w.alloc (.cells f.cs 68)) 68 t.cs
  rw [World.size_alloc] at hx2
  rw [← hW2] at hC0 hx1 hx2
  unfold Ed.cs at *
  have hS : ∀ W', Chg (fun _ => False) W2 W' → W'.cell? ⟨w.heap.size, 0, none⟩ = some (.string f.N) ∧ W'.cell? ⟨w.heap.size, 1, none⟩ = some (.bool f.O) ∧ W'.cell? ⟨w.heap.size, 2, none⟩ = some (.int .i64 f.I) ∧ W'.cell? ⟨w.heap.size + 1, 0, none⟩ = some (.string t.N) ∧ W'.cell? ⟨w.heap.size + 1, 1, none⟩ = some (.bool t.O) ∧ W'.cell? ⟨w.heap.size + 1, 2, none⟩ = some (.int .i64 t.I) := fun W' hc => ⟨by have := (hx1.chg hc id).cell 0; simpa using this, by have := (hx1.chg hc id).cell 1; simpa using this, by have := (hx1.chg hc id).cell 2; simpa using this, by have := (hx2.chg hc id).cell 0; simpa using this, by have := (hx2.chg hc id).cell 1; simpa using this, by have := (hx2.chg hc id).cell 2; simpa using this⟩
  have ho1 := fun w => of_any f.I f.O w
  have ho2 := fun w => of_any t.I t.O w
  have hb1 := fun w => behS_any x f 1 _ (.inl ⟨rfl, rfl⟩) w
  have hb2 := fun w => behS_any x t (-1) _ (.inr ⟨rfl, rfl⟩) w
  unfold inS
  clear hx1 hx2
  cases hl : loS x f
  · rw [hl] at hb1
    have hfin : Hid ((false && hiS x t) = false) := rfl
    clear hl hb2 ho2
    go_enter Tryz.func48, Tryz.ntmps48
    go_wp2_with fail
    rw [← hW2]
    clear hW2
    refine wp_region_held_drew (S := fun W' => W'.cell? ⟨w.heap.size, 0, none⟩ = some (.string f.N) ∧ W'.cell? ⟨w.heap.size, 1, none⟩ = some (.bool f.O) ∧ W'.cell? ⟨w.heap.size, 2, none⟩ = some (.int .i64 f.I) ∧ W'.cell? ⟨w.heap.size + 1, 0, none⟩ = some (.string t.N) ∧ W'.cell? ⟨w.heap.size + 1, 1, none⟩ = some (.bool t.O) ∧ W'.cell? ⟨w.heap.size + 1, 2, none⟩ = some (.int .i64 t.I)) (by kernel_rfl) (hS _ (Chg.refl _ _).drew) (fun hHeld => ?_)
    refine wpAnyH_take (i := 0) (oi := Go.Oper.mk (some 7) _ _ _ _ _) (v := ?_) rfl (by kernel_rfl) (by kernel_rfl) (by kernel_rfl) (fun _ _ _ h => h) (Or.inl ⟨by kernel_rfl, ?_⟩) (by assumption) ?_
    rotate_left
    · intro w hSw
      try dsimp only at hSw
      go_simp
      try with_reducible rfl
    try simp only [Act.put, List.setIfInBounds_toArray, List.set_cons_zero, List.set_cons_succ]
    refine wpAnyH_take (i := 1) (oi := Go.Oper.mk (some 8) _ _ _ _ _) (v := ?_) rfl (by kernel_rfl) (by kernel_rfl) (by kernel_rfl) (fun _ _ _ h => h) (Or.inl ⟨by kernel_rfl, ?_⟩) (by assumption) ?_
    rotate_left
    · intro w hSw
      try dsimp only at hSw
      go_simp
      try with_reducible rfl
    try simp only [Act.put, List.setIfInBounds_toArray, List.set_cons_zero, List.set_cons_succ]
    refine wpAnyH_take (i := 2) (oi := Go.Oper.mk (some 9) _ _ _ _ _) (v := ?_) rfl (by kernel_rfl) (by kernel_rfl) (by kernel_rfl) (fun _ _ _ h => h) (Or.inl ⟨by kernel_rfl, ?_⟩) (by assumption) ?_
    rotate_left
    · intro w hSw
      try dsimp only at hSw
      go_simp
      try with_reducible rfl
    try simp only [Act.put, List.setIfInBounds_toArray, List.set_cons_zero, List.set_cons_succ]
    refine wpAnyH_take (i := 3) (oi := Go.Oper.mk (some 10) _ _ _ _ _) (v := ?_) rfl (by kernel_rfl) (by kernel_rfl) (by kernel_rfl) (fun _ _ _ h => h) (Or.inl ⟨by kernel_rfl, ?_⟩) (by assumption) ?_
    rotate_left
    · intro w hSw
      try dsimp only at hSw
      go_simp
      try with_reducible rfl
    try simp only [Act.put, List.setIfInBounds_toArray, List.set_cons_zero, List.set_cons_succ]
    refine wpAnyH_take (i := 4) (oi := Go.Oper.mk (some 11) _ _ _ _ _) (v := ?_) rfl (by kernel_rfl) (by kernel_rfl) (by kernel_rfl) (fun _ _ _ h => h) (Or.inl ⟨by kernel_rfl, ?_⟩) (by assumption) ?_
    rotate_left
    · intro w hSw
      try dsimp only at hSw
      go_simp
      try with_reducible rfl
    try simp only [Act.put, List.setIfInBounds_toArray, List.set_cons_zero, List.set_cons_succ]
    refine wpAnyH_take (i := 5) (oi := Go.Oper.mk (some 12) _ _ _ _ _) (v := ?_) rfl (by kernel_rfl) (by kernel_rfl) (by kernel_rfl) (fun _ _ _ h => h) (Or.inl ⟨by kernel_rfl, ?_⟩) (by assumption) ?_
    rotate_left
    · intro w hSw
      try dsimp only at hSw
      go_simp
      try with_reducible rfl
    try simp only [Act.put, List.setIfInBounds_toArray, List.set_cons_zero, List.set_cons_succ]
    refine wpAnyH_take (i := 6) (oi := Go.Oper.mk (some 13) _ _ _ _ _) (v := ?_) rfl (by kernel_rfl) (by kernel_rfl) (by kernel_rfl) (fun _ _ _ h => h) (Or.inl ⟨by kernel_rfl, ?_⟩) (by assumption) ?_
    rotate_left
    · intro w hSw
      try dsimp only at hSw
      go_simp
      try with_reducible rfl
    try simp only [Act.put, List.setIfInBounds_toArray, List.set_cons_zero, List.set_cons_succ]
    refine wpAnyH_ready (rs := [7]) (by kernel_rfl) (by simp) ?_
    refine AllReadyH.cons (o := Go.Oper.mk (some 14) _ _ _ _ _) rfl (fun K hK => ?_) AllReadyH.nil
    go_simp
    go_at_call 64
    refine (ho1 _).mono ?_
    rintro r9 w9 ⟨rfl, rfl⟩
    refine hK.out _ _ (hS _ (Chg.refl _ _).drew) (fun hHeld2 => ?_)
    clear hK K hHeld
    try simp only [Act.put, List.setIfInBounds_toArray, List.set_cons_zero, List.set_cons_succ]
    refine wpAnyH_ready (rs := [8]) (by kernel_rfl) (by simp) ?_
    refine AllReadyH.cons (o := Go.Oper.mk (some 15) _ _ _ _ _) rfl (fun K hK => ?_) AllReadyH.nil
    go_simp
    go_at_call 66
    refine (hb1 _).mono ?_
    rintro r9 w3 ⟨rfl, C3⟩
    have hc3 := (Chg.refl (fun _ => False) W2).drew.trans C3
    refine hK.out _ _ (hS _ hc3) (fun hHeld3 => ?_)
    clear hK K hHeld2
    try simp only [Act.put, List.setIfInBounds_toArray, List.set_cons_zero, List.set_cons_succ]
    refine wpAnyH_take (i := 9) (oi := Go.Oper.mk (some 16) _ _ _ _ _) (v := ?_) rfl (by kernel_rfl) (by kernel_rfl) (by kernel_rfl) (fun _ _ _ h => h) (Or.inl ⟨by kernel_rfl, ?_⟩) (by assumption) ?_
    rotate_left
    · intro w hSw
      try dsimp only at hSw
      go_simp
      try with_reducible rfl
    try simp only [Act.put, List.setIfInBounds_toArray, List.set_cons_zero, List.set_cons_succ]
    refine wpAnyH_take (i := 10) (oi := Go.Oper.mk (some 17) _ _ _ _ _) (v := undef) rfl (by kernel_rfl) (by kernel_rfl) (by kernel_rfl) (fun _ _ _ h => h) (Or.inr ⟨by kernel_rfl, rfl⟩) (by assumption) ?_
    try simp only [Act.put, List.setIfInBounds_toArray, List.set_cons_zero, List.set_cons_succ]
    refine wpAnyH_take (i := 11) (oi := Go.Oper.mk (some 18) _ _ _ _ _) (v := undef) rfl (by kernel_rfl) (by kernel_rfl) (by kernel_rfl) (fun _ _ _ h => h) (Or.inr ⟨by kernel_rfl, rfl⟩) (by assumption) ?_
    try simp only [Act.put, List.setIfInBounds_toArray, List.set_cons_zero, List.set_cons_succ]
    refine wpAnyH_take (i := 12) (oi := Go.Oper.mk (some 19) _ _ _ _ _) (v := undef) rfl (by kernel_rfl) (by kernel_rfl) (by kernel_rfl) (fun _ _ _ h => h) (Or.inr ⟨by kernel_rfl, rfl⟩) (by assumption) ?_
    try simp only [Act.put, List.setIfInBounds_toArray, List.set_cons_zero, List.set_cons_succ]
    refine wpAnyH_take (i := 13) (oi := Go.Oper.mk (some 20) _ _ _ _ _) (v := undef) rfl (by kernel_rfl) (by kernel_rfl) (by kernel_rfl) (fun _ _ _ h => h) (Or.inr ⟨by kernel_rfl, rfl⟩) (by assumption) ?_
    try simp only [Act.put, List.setIfInBounds_toArray, List.set_cons_zero, List.set_cons_succ]
    refine wpAnyH_take (i := 14) (oi := Go.Oper.mk (some 21) _ _ _ _ _) (v := undef) rfl (by kernel_rfl) (by kernel_rfl) (by kernel_rfl) (fun _ _ _ h => h) (Or.inr ⟨by kernel_rfl, rfl⟩) (by assumption) ?_
    try simp only [Act.put, List.setIfInBounds_toArray, List.set_cons_zero, List.set_cons_succ]
    refine wpAnyH_take (i := 15) (oi := Go.Oper.mk (some 22) _ _ _ _ _) (v := undef) rfl (by kernel_rfl) (by kernel_rfl) (by kernel_rfl) (fun _ _ _ h => h) (Or.inr ⟨by kernel_rfl, rfl⟩) (by assumption) ?_
    try simp only [Act.put, List.setIfInBounds_toArray, List.set_cons_zero, List.set_cons_succ]
    refine wpAnyH_take (i := 16) (oi := Go.Oper.mk (some 23) _ _ _ _ _) (v := undef) rfl (by kernel_rfl) (by kernel_rfl) (by kernel_rfl) (fun _ _ _ h => h) (Or.inr ⟨by kernel_rfl, rfl⟩) (by assumption) ?_
    try simp only [Act.put, List.setIfInBounds_toArray, List.set_cons_zero, List.set_cons_succ]
    refine wpAnyH_take (i := 17) (oi := Go.Oper.mk (some 24) _ _ _ _ _) (v := undef) rfl (by kernel_rfl) (by kernel_rfl) (by kernel_rfl) (fun _ _ _ h => h) (Or.inr ⟨by kernel_rfl, rfl⟩) (by assumption) ?_
    try simp only [Act.put, List.setIfInBounds_toArray, List.set_cons_zero, List.set_cons_succ]
    refine wpAnyH_take (i := 18) (oi := Go.Oper.mk (some 25) _ _ _ _ _) (v := undef) rfl (by kernel_rfl) (by kernel_rfl) (by kernel_rfl) (fun _ _ _ h => h) (Or.inr ⟨by kernel_rfl, rfl⟩) (by assumption) ?_
    try simp only [Act.put, List.setIfInBounds_toArray, List.set_cons_zero, List.set_cons_succ]
    refine wpAnyH_take (i := 19) (oi := Go.Oper.mk (some 26) _ _ _ _ _) (v := ?_) rfl (by kernel_rfl) (by kernel_rfl) (by kernel_rfl) (fun _ _ _ h => h) (Or.inl ⟨by kernel_rfl, ?_⟩) (by assumption) ?_
    rotate_left
    · intro w hSw
      try dsimp only at hSw
      go_simp
      try with_reducible rfl
    try simp only [Act.put, List.setIfInBounds_toArray, List.set_cons_zero, List.set_cons_succ]
    refine wpAnyH_take (i := 20) (oi := Go.Oper.mk (some 6) _ _ _ _ _) (v := ?_) rfl (by kernel_rfl) (by kernel_rfl) (by kernel_rfl) (fun _ _ _ h => h) (Or.inl ⟨by kernel_rfl, ?_⟩) (by assumption) ?_
    rotate_left
    · intro w hSw
      try dsimp only at hSw
      go_simp
      try with_reducible rfl
    try simp only [Act.put, List.setIfInBounds_toArray, List.set_cons_zero, List.set_cons_succ]
    refine wpAnyH_done (by kernel_rfl) ?_ _
    clear hHeld3
    go_wp2_with fail
    go_ret
    exact ⟨by first | rfl | simp, hC0.trans hc3⟩
  · rw [hl] at hb1
    clear hl
    go_enter Tryz.func48, Tryz.ntmps48
    go_wp2_with fail
    rw [← hW2]
    clear hW2
    refine wp_region_held_drew (S := fun W' => W'.cell? ⟨w.heap.size, 0, none⟩ = some (.string f.N) ∧ W'.cell? ⟨w.heap.size, 1, none⟩ = some (.bool f.O) ∧ W'.cell? ⟨w.heap.size, 2, none⟩ = some (.int .i64 f.I) ∧ W'.cell? ⟨w.heap.size + 1, 0, none⟩ = some (.string t.N) ∧ W'.cell? ⟨w.heap.size + 1, 1, none⟩ = some (.bool t.O) ∧ W'.cell? ⟨w.heap.size + 1, 2, none⟩ = some (.int .i64 t.I)) (by kernel_rfl) (hS _ (Chg.refl _ _).drew) (fun hHeld => ?_)
    refine wpAnyH_take (i := 0) (oi := Go.Oper.mk (some 7) _ _ _ _ _) (v := ?_) rfl (by kernel_rfl) (by kernel_rfl) (by kernel_rfl) (fun _ _ _ h => h) (Or.inl ⟨by kernel_rfl, ?_⟩) (by assumption) ?_
    rotate_left
    · intro w hSw
      try dsimp only at hSw
      go_simp
      try with_reducible rfl
    try simp only [Act.put, List.setIfInBounds_toArray, List.set_cons_zero, List.set_cons_succ]
    refine wpAnyH_take (i := 1) (oi := Go.Oper.mk (some 8) _ _ _ _ _) (v := ?_) rfl (by kernel_rfl) (by kernel_rfl) (by kernel_rfl) (fun _ _ _ h => h) (Or.inl ⟨by kernel_rfl, ?_⟩) (by assumption) ?_
    rotate_left
    · intro w hSw
      try dsimp only at hSw
      go_simp
      try with_reducible rfl
    try simp only [Act.put, List.setIfInBounds_toArray, List.set_cons_zero, List.set_cons_succ]
    refine wpAnyH_take (i := 2) (oi := Go.Oper.mk (some 9) _ _ _ _ _) (v := ?_) rfl (by kernel_rfl) (by kernel_rfl) (by kernel_rfl) (fun _ _ _ h => h) (Or.inl ⟨by kernel_rfl, ?_⟩) (by assumption) ?_
    rotate_left
    · intro w hSw
      try dsimp only at hSw
      go_simp
      try with_reducible rfl
    try simp only [Act.put, List.setIfInBounds_toArray, List.set_cons_zero, List.set_cons_succ]
    refine wpAnyH_take (i := 3) (oi := Go.Oper.mk (some 10) _ _ _ _ _) (v := ?_) rfl (by kernel_rfl) (by kernel_rfl) (by kernel_rfl) (fun _ _ _ h => h) (Or.inl ⟨by kernel_rfl, ?_⟩) (by assumption) ?_
    rotate_left
    · intro w hSw
      try dsimp only at hSw
      go_simp
      try with_reducible rfl
    try simp only [Act.put, List.setIfInBounds_toArray, List.set_cons_zero, List.set_cons_succ]
    refine wpAnyH_take (i := 4) (oi := Go.Oper.mk (some 11) _ _ _ _ _) (v := ?_) rfl (by kernel_rfl) (by kernel_rfl) (by kernel_rfl) (fun _ _ _ h => h) (Or.inl ⟨by kernel_rfl, ?_⟩) (by assumption) ?_
    rotate_left
    · intro w hSw
      try dsimp only at hSw
      go_simp
      try with_reducible rfl
    try simp only [Act.put, List.setIfInBounds_toArray, List.set_cons_zero, List.set_cons_succ]
    refine wpAnyH_take (i := 5) (oi := Go.Oper.mk (some 12) _ _ _ _ _) (v := ?_) rfl (by kernel_rfl) (by kernel_rfl) (by kernel_rfl) (fun _ _ _ h => h) (Or.inl ⟨by kernel_rfl, ?_⟩) (by assumption) ?_
    rotate_left
    · intro w hSw
      try dsimp only at hSw
      go_simp
      try with_reducible rfl
    try simp only [Act.put, List.setIfInBounds_toArray, List.set_cons_zero, List.set_cons_succ]
    refine wpAnyH_take (i := 6) (oi := Go.Oper.mk (some 13) _ _ _ _ _) (v := ?_) rfl (by kernel_rfl) (by kernel_rfl) (by kernel_rfl) (fun _ _ _ h => h) (Or.inl ⟨by kernel_rfl, ?_⟩) (by assumption) ?_
    rotate_left
    · intro w hSw
      try dsimp only at hSw
      go_simp
      try with_reducible rfl
    try simp only [Act.put, List.setIfInBounds_toArray, List.set_cons_zero, List.set_cons_succ]
    refine wpAnyH_ready (rs := [7]) (by kernel_rfl) (by simp) ?_
    refine AllReadyH.cons (o := Go.Oper.mk (some 14) _ _ _ _ _) rfl (fun K hK => ?_) AllReadyH.nil
    go_simp
    go_at_call 64
    refine (ho1 _).mono ?_
    rintro r9 w9 ⟨rfl, rfl⟩
    refine hK.out _ _ (hS _ (Chg.refl _ _).drew) (fun hHeld2 => ?_)
    clear hK K hHeld
    try simp only [Act.put, List.setIfInBounds_toArray, List.set_cons_zero, List.set_cons_succ]
    refine wpAnyH_ready (rs := [8]) (by kernel_rfl) (by simp) ?_
    refine AllReadyH.cons (o := Go.Oper.mk (some 15) _ _ _ _ _) rfl (fun K hK => ?_) AllReadyH.nil
    go_simp
    go_at_call 66
    refine (hb1 _).mono ?_
    rintro r9 w3 ⟨rfl, C3⟩
    have hc3 := (Chg.refl (fun _ => False) W2).drew.trans C3
    refine hK.out _ _ (hS _ hc3) (fun hHeld3 => ?_)
    clear hK K hHeld2
    try simp only [Act.put, List.setIfInBounds_toArray, List.set_cons_zero, List.set_cons_succ]
    refine wpAnyH_take (i := 9) (oi := Go.Oper.mk (some 16) _ _ _ _ _) (v := ?_) rfl (by kernel_rfl) (by kernel_rfl) (by kernel_rfl) (fun _ _ _ h => h) (Or.inl ⟨by kernel_rfl, ?_⟩) (by assumption) ?_
    rotate_left
    · intro w hSw
      try dsimp only at hSw
      go_simp
      try with_reducible rfl
    try simp only [Act.put, List.setIfInBounds_toArray, List.set_cons_zero, List.set_cons_succ]
    refine wpAnyH_take (i := 10) (oi := Go.Oper.mk (some 17) _ _ _ _ _) (v := ?_) rfl (by kernel_rfl) (by kernel_rfl) (by kernel_rfl) (fun _ _ _ h => h) (Or.inl ⟨by kernel_rfl, ?_⟩) (by assumption) ?_
    rotate_left
    · intro w hSw
      try dsimp only at hSw
      go_simp
      try with_reducible rfl
    try simp only [Act.put, List.setIfInBounds_toArray, List.set_cons_zero, List.set_cons_succ]
    refine wpAnyH_take (i := 11) (oi := Go.Oper.mk (some 18) _ _ _ _ _) (v := ?_) rfl (by kernel_rfl) (by kernel_rfl) (by kernel_rfl) (fun _ _ _ h => h) (Or.inl ⟨by kernel_rfl, ?_⟩) (by assumption) ?_
    rotate_left
    · intro w hSw
      try dsimp only at hSw
      go_simp
      try with_reducible rfl
    try simp only [Act.put, List.setIfInBounds_toArray, List.set_cons_zero, List.set_cons_succ]
    refine wpAnyH_take (i := 12) (oi := Go.Oper.mk (some 19) _ _ _ _ _) (v := ?_) rfl (by kernel_rfl) (by kernel_rfl) (by kernel_rfl) (fun _ _ _ h => h) (Or.inl ⟨by kernel_rfl, ?_⟩) (by assumption) ?_
    rotate_left
    · intro w hSw
      try dsimp only at hSw
      go_simp
      try with_reducible rfl
    try simp only [Act.put, List.setIfInBounds_toArray, List.set_cons_zero, List.set_cons_succ]
    refine wpAnyH_take (i := 13) (oi := Go.Oper.mk (some 20) _ _ _ _ _) (v := ?_) rfl (by kernel_rfl) (by kernel_rfl) (by kernel_rfl) (fun _ _ _ h => h) (Or.inl ⟨by kernel_rfl, ?_⟩) (by assumption) ?_
    rotate_left
    · intro w hSw
      try dsimp only at hSw
      go_simp
      try with_reducible rfl
    try simp only [Act.put, List.setIfInBounds_toArray, List.set_cons_zero, List.set_cons_succ]
    refine wpAnyH_take (i := 14) (oi := Go.Oper.mk (some 21) _ _ _ _ _) (v := ?_) rfl (by kernel_rfl) (by kernel_rfl) (by kernel_rfl) (fun _ _ _ h => h) (Or.inl ⟨by kernel_rfl, ?_⟩) (by assumption) ?_
    rotate_left
    · intro w hSw
      try dsimp only at hSw
      go_simp
      try with_reducible rfl
    try simp only [Act.put, List.setIfInBounds_toArray, List.set_cons_zero, List.set_cons_succ]
    refine wpAnyH_take (i := 15) (oi := Go.Oper.mk (some 22) _ _ _ _ _) (v := ?_) rfl (by kernel_rfl) (by kernel_rfl) (by kernel_rfl) (fun _ _ _ h => h) (Or.inl ⟨by kernel_rfl, ?_⟩) (by assumption) ?_
    rotate_left
    · intro w hSw
      try dsimp only at hSw
      go_simp
      try with_reducible rfl
    try simp only [Act.put, List.setIfInBounds_toArray, List.set_cons_zero, List.set_cons_succ]
    refine wpAnyH_take (i := 16) (oi := Go.Oper.mk (some 23) _ _ _ _ _) (v := ?_) rfl (by kernel_rfl) (by kernel_rfl) (by kernel_rfl) (fun _ _ _ h => h) (Or.inl ⟨by kernel_rfl, ?_⟩) (by assumption) ?_
    rotate_left
    · intro w hSw
      try dsimp only at hSw
      go_simp
      try with_reducible rfl
    try simp only [Act.put, List.setIfInBounds_toArray, List.set_cons_zero, List.set_cons_succ]
    refine wpAnyH_ready (rs := [17]) (by kernel_rfl) (by simp) ?_
    refine AllReadyH.cons (o := Go.Oper.mk (some 24) _ _ _ _ _) rfl (fun K hK => ?_) AllReadyH.nil
    go_simp
    go_at_call 64
    refine (ho2 _).mono ?_
    rintro r9 w9 ⟨rfl, rfl⟩
    refine hK.out _ _ (hS _ hc3) (fun hHeld4 => ?_)
    clear hK K hHeld3
    try simp only [Act.put, List.setIfInBounds_toArray, List.set_cons_zero, List.set_cons_succ]
    refine wpAnyH_ready (rs := [18]) (by kernel_rfl) (by simp) ?_
    refine AllReadyH.cons (o := Go.Oper.mk (some 25) _ _ _ _ _) rfl (fun K hK => ?_) AllReadyH.nil
    go_simp
    go_at_call 66
    refine (hb2 _).mono ?_
    rintro r9 w4 ⟨rfl, C4⟩
    have hc4 := hc3.trans C4
    refine hK.out _ _ (hS _ hc4) (fun hHeld5 => ?_)
    clear hK K hHeld4
    try simp only [Act.put, List.setIfInBounds_toArray, List.set_cons_zero, List.set_cons_succ]
    refine wpAnyH_take (i := 19) (oi := Go.Oper.mk (some 26) _ _ _ _ _) (v := ?_) rfl (by kernel_rfl) (by kernel_rfl) (by kernel_rfl) (fun _ _ _ h => h) (Or.inl ⟨by kernel_rfl, ?_⟩) (by assumption) ?_
    rotate_left
    · intro w hSw
      try dsimp only at hSw
      go_simp
      try with_reducible rfl
    try simp only [Act.put, List.setIfInBounds_toArray, List.set_cons_zero, List.set_cons_succ]
    refine wpAnyH_take (i := 20) (oi := Go.Oper.mk (some 6) _ _ _ _ _) (v := ?_) rfl (by kernel_rfl) (by kernel_rfl) (by kernel_rfl) (fun _ _ _ h => h) (Or.inl ⟨by kernel_rfl, ?_⟩) (by assumption) ?_
    rotate_left
    · intro w hSw
      try dsimp only at hSw
      go_simp
      try with_reducible rfl
    try simp only [Act.put, List.setIfInBounds_toArray, List.set_cons_zero, List.set_cons_succ]
    refine wpAnyH_done (by kernel_rfl) ?_ _
    clear hHeld5
    go_wp2_with fail
    go_ret
    exact ⟨by first | rfl | simp, hC0.trans hc4⟩
end Go.Proofs.YtifcpippfiglkaaGreat
