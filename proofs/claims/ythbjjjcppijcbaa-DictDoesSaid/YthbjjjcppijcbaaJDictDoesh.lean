/- Texts joined for DictDoes: DW2int, CIint, DPint, DW3int, DP2int. -/
import Derived.Test.YthbjjjcppijcbaaJDictDoesa
import Derived.Test.YthbjjjcppijcbaaJDictDoesb
import Derived.Test.YthbjjjcppijcbaaJDictDoesc
import Derived.BigRegion
set_option linter.unusedVariables false
set_option linter.unusedSimpArgs false

/- Contracts of dict: New, Sizes, chain, put. -/
namespace Go.Proofs.Ythbjjjcppijcbaa.Dint
open Go.RowKit Pal
attribute [local go_sem] Oper.semAt_some

/-- An empty dict, its struct in block b, its table in block c. -/
def newDm (b c seed : Nat) : Dm := { blk := b, seed := seed, t0 := ⟨c, List.replicate 4 []⟩, t1 := none, at_ := 0, n := 0 }

set_option maxHeartbeats 400000 in
theorem New_any (seed : Nat) (w : World) :
    Calls Try.prog 15 #[.int .u32 (seed : Int)] w fun e w' => ∃ b c, e = .returned (ptr b) ∧ DmAt w' (newDm b c seed) ∧ w.heap.size ≤ b ∧ w.heap.size ≤ c ∧ Chg (fun _ => False) w w' := by
  obtain ⟨tc, HT⟩ : ∃ tc, Hid (tbCells ⟨0, List.replicate 4 []⟩ = tc) := ⟨_, rfl⟩
  have hmk : ∀ w, (Instr.makeSlice 73 (.int .i64 4) (.int .i64 4)).run Try.prog w = .ok (.slice (some ⟨w.heap.size, 0, none⟩) 4 4) (w.alloc (.cells tc 81)) := by
    intro w; rw [← HT.out]; exact run_make_tab 4 (by omega) w
  go_enter Try.func15, Try.ntmps15
  go_wp2
  go_ret
  have hb := Blk.new (w.alloc (.cells tc 81)) 76 #[Value.int IntKind.u32 (seed : Int), Value.slice (some { block := w.heap.size, off := 0 }) 4 4, Value.slice none 0 0, Value.int IntKind.i64 0, Value.int IntKind.i64 0]
  rw [World.size_alloc] at hb
  have ht := (Blk.new w 81 tc).alloc (Obj.cells #[Value.int IntKind.u32 (seed : Int), Value.slice (some { block := w.heap.size, off := 0 }) 4 4, Value.slice none 0 0, Value.int IntKind.i64 0, Value.int IntKind.i64 0] 76)
  rw [← HT.out] at ht hb ⊢
  refine ⟨w.heap.size + 1, w.heap.size, rfl, { hd := hb, a0 := ⟨ht, fun c hc => (by rw [List.eq_of_mem_replicate hc]; trivial)⟩, a1 := fun t h => (by cases h), ne := fun t h => (by cases h), nodup := List.nodup_nil }, Nat.le_succ _, Nat.le_refl _, ((Chg.refl _ w).alloc _).alloc _⟩

set_option maxHeartbeats 400000 in
theorem Sizes_any (d : Dm) (w : World) (h : DmAt w d) :
    Calls Try.prog 26 #[ptr d.blk] w fun e w' => e = .returned (.tuple #[.int .i64 (d.t0.len : Int), .int .i64 (((d.t1.map Tb.len).getD 0 : Nat) : Int), .int .i64 (d.at_ : Int)]) ∧ Chg (fun _ => False) w w' := by
  obtain ⟨c0, c1, c2, c3, c4, hf, hlt⟩ := dm_cells h
  unfold ptr
  unfold tbVal at c1
  cases ht : d.t1 with
  | none =>
    rw [ht] at c2
    simp only [t1Val] at c2
    go_enter Try.func26, Try.ntmps26
    go_wp2
    go_quiet (fail)
    go_wp2
    go_ret3
    exact ⟨rfl, (Chg.refl _ _).drewN _⟩
  | some t =>
    rw [ht] at c2
    simp only [t1Val, tbVal] at c2
    go_enter Try.func26, Try.ntmps26
    go_wp2
    go_quiet (fail)
    go_wp2
    go_ret3
    exact ⟨rfl, (Chg.refl _ _).drewN _⟩

set_option maxHeartbeats 400000 in
theorem Sizes_nil (w : World) :
    Calls Try.prog 26 #[.pointer none] w fun e w' => e = .returned (.tuple #[.int .i64 0, .int .i64 0, .int .i64 0]) ∧ w = w' := by
  go_enter Try.func26, Try.ntmps26
  go_wp2
  go_ret3
  exact ⟨rfl, rfl⟩

set_option maxHeartbeats 400000 in
theorem chain_any (p : Option Addr) (w : World) :
    Calls Try.prog 48 #[.pointer p] w fun e w' => e = .returned (.func (.func 73) #[] #[ptr w.heap.size]) ∧ w.alloc (.cells #[.pointer p] 81) = w' := by
  unfold ptr
  go_enter Try.func48, Try.ntmps48
  go_wp2
  go_ret
  exact ⟨rfl, rfl⟩

/-- The iterator over a chain (its pointer in block B): J holds where r is still to come, J2 behind a round. -/
theorem chain1_any (l B : Nat) (J J2 : Ch → World → Prop) (Jx : World → Prop)
    (hJ : ∀ r W, J r W → W.cell? ⟨B, 0, none⟩ = some (hd r))
    (hY : ∀ x r W, J (x :: r) W → W.cell? ⟨x.blk, 3, none⟩ = some (hd r) ∧ YieldAt Fence.wide 2 Try.prog l #[ptr x.blk] W fun e W' => (e = .returned (.bool true) ∧ J2 r W') ∨ (e = .returned (.bool false) ∧ Jx W'))
    (hS : ∀ r W, J2 r W → (∃ v, W.cell? ⟨B, 0, none⟩ = some v) ∧ W.frozen? ⟨B, 0, none⟩ = false ∧ J r (W.setCell ⟨B, 0, none⟩ (hd r)))
    (c : Ch) (W : World) (h0 : J c W) :
    Calls Try.prog 73 #[.func (.yield l) #[] #[], ptr B] W fun e W' => (∃ v, e = .returned v) ∧ (J [] W' ∨ Jx W') := by
  unfold ptr
  refine (callsIn_wide (n := 3)).1 ?_
  refine callsIn_of_wp Try.func73 rfl trivial ?_ rfl
  simp only [Try.ntmps73, List.size_toArray, List.length_cons, List.length_nil, Nat.reduceAdd, Nat.reduceSub, Array.replicate_succ, Array.replicate_zero, List.push_toArray, List.append_toArray, List.nil_append, List.cons_append]
  gi_wp2
  gi_loopw [3] (fun _ wr => ∃ n, ∃ r : Ch, r.length = n ∧ J r wr) (fun _ wr => leastOf fun n => ∃ r : Ch, r.length = n ∧ J r wr)
  case atStart => exact ⟨_, c, rfl, h0⟩
  case round =>
    obtain ⟨⟨r, hr, hJr⟩, _⟩ := leastOf_spec hrel
    have HR := Lib.hid hr
    clear hr hrel
    have hc := hJ _ _ hJr
    cases r with
    | nil =>
      simp only [hd] at hc
      gi_wp2
      go_end0
      exact ⟨⟨_, rfl⟩, .inl hJr⟩
    | cons x r =>
      simp only [hd, ptr] at hc
      obtain ⟨hn, fn, tmps, assign, body, hy, hR⟩ := hY x r wr hJr
      unfold ptr at hy
      obtain ⟨q, hq⟩ : ∃ q, hd r = .pointer q := by cases r <;> exact ⟨_, rfl⟩
      rw [hq] at hn
      have HQ := Lib.hid hq
      clear hq
      gi_wp2
      refine hR.mono ?_
      rintro e W3 (⟨rfl, hJ3⟩ | ⟨rfl, hJx3⟩)
      · obtain ⟨⟨v, hv⟩, hf, hJ4⟩ := hS r W3 hJ3
        rw [HQ.out] at hJ4
        gi_wp2
        go_roundw
        case rel => exact ⟨_, r, rfl, hJ4⟩
        case measure =>
          rw [← HR.out]
          exact Nat.lt_of_le_of_lt ((leastOf_spec ⟨_, r, rfl, hJ4⟩).2 _ ⟨r, rfl, hJ4⟩) (Nat.lt_succ_self _)
      · gi_wp2
        refine bodyPost_ret (results_none rfl _ _ _) rfl ?_
        exact ⟨⟨_, rfl⟩, .inr hJx3⟩

end Go.Proofs.Ythbjjjcppijcbaa.Dint

/- The iterator over a chain, as an iterator with its contract. -/
namespace Go.Proofs.Ythbjjjcppijcbaa.Dint
open Go.RowKit Pal

theorem chAt_suffix {w : World} : ∀ {pre r : Ch}, chAt w (pre ++ r) → chAt w r
  | [], _, h => h
  | _ :: pre, _, h => chAt_suffix (pre := pre) h.2
theorem chAt_mem {w : World} {c : Ch} (h : chAt w c) {x : Nd} (hx : x ∈ c) : ∃ nx, Blk w x.blk 83 (ndCells x nx) := by
  obtain ⟨pre, post, rfl⟩ := List.append_of_mem hx
  exact ⟨_, h.node rfl⟩
theorem chAt_same {w w' : World} : ∀ {c : Ch}, chAt w c → (∀ x ∈ c, w'.heap[x.blk]? = w.heap[x.blk]?) → chAt w' c
  | [], _, _ => trivial
  | x :: _, ⟨h1, h2⟩, h => ⟨(h x (by simp)).trans h1, chAt_same h2 fun y hy => h y (by simp [hy])⟩

def chF (B : Nat) (c : Ch) (g : Nat) : Prop := g = B ∨ ∃ x ∈ c, g = x.blk
def chIt (B : Nat) (c : Ch) (r : Ch) (W : World) : Prop := (∃ pre, pre ++ r = c) ∧ Blk W B 81 #[hd r] ∧ chAt W c

theorem chain_spec (B : Nat) (c : Ch) : IterSpec Try.prog 73 #[ptr B] (fun x : Nd => #[ptr x.blk]) (chF B c) (fun g => g = B) (chIt B c) (chIt B c) where
  sub := fun _ h => .inl h
  cells := by
    rintro r W k ⟨_, hb, hc⟩ (rfl | ⟨x, hx, rfl⟩)
    · exact ⟨_, _, _, hb⟩
    · obtain ⟨nx, h⟩ := chAt_mem hc hx
      exact ⟨_, _, _, h⟩
  far0 := by
    rintro r W W' ⟨hp, hb, hc⟩ _ hF
    exact ⟨hp, (hF B (.inl rfl)).trans hb, chAt_same hc fun x hx => hF _ (.inr ⟨x, hx, rfl⟩)⟩
  far := by
    rintro r W W' ⟨hp, hb, hc⟩ _ hF
    exact ⟨hp, (hF B (.inl rfl)).trans hb, chAt_same hc fun x hx => hF _ (.inr ⟨x, hx, rfl⟩)⟩
  call := by
    intro l I Ix hI hIx hY c0 W h0 hit0
    refine (chain1_any l B (fun r W => I r W ∧ chIt B c r W) (fun r W => I r W ∧ (∃ pre, pre ++ r = c) ∧ (∃ v, Blk W B 81 #[v]) ∧ chAt W c) Ix ?_ ?_ ?_ c0 W ⟨h0, hit0⟩).mono ?_
    · rintro r W ⟨_, _, hb, _⟩
      exact hb.cell 0
    · rintro x r W ⟨hi, hp, hb, hc⟩
      have hc' := hp
      obtain ⟨pre, hpre⟩ := hc'
      have hsuf : chAt W (x :: r) := chAt_suffix (pre := pre) (by rw [hpre]; exact hc)
      refine ⟨hsuf.1.cell 3, ?_⟩
      obtain ⟨fn, tmps, assign, body, hy, hR⟩ := hY x r W hi ⟨hp, hb, hc⟩
      refine ⟨fn, tmps, assign, body, hy, hR.mono ?_⟩
      rintro e W' ⟨_, hF, ⟨rfl, hi'⟩ | ⟨rfl, hx'⟩⟩
      · exact .inl ⟨rfl, hi', ⟨pre ++ [x], by simp [hpre]⟩, ⟨_, (hF B (.inl rfl)).trans hb⟩, chAt_same hc fun x hx => hF _ (.inr ⟨x, hx, rfl⟩)⟩
      · exact .inr ⟨rfl, hx'⟩
    · rintro r W ⟨hi, hp, ⟨v, hb⟩, hc⟩
      have hs : Chg (fun g => g = B) W (W.setCell ⟨B, 0, none⟩ (hd r)) := (Chg.refl (fun g => g = B) W).store rfl 0 _
      refine ⟨⟨v, hb.cell 0⟩, hb.frozen 0, hI _ _ _ hi hs, hp, hb.set 0 _, hc.chg hs fun y hy h' => ?_⟩
      obtain ⟨nx, hy'⟩ := chAt_mem hc hy
      exact hy'.ne_type hb (by decide) h'
    · rintro e W' ⟨hv, ⟨h, _⟩ | h⟩
      · exact ⟨hv, .inl h⟩
      · exact ⟨hv, .inr h⟩

end Go.Proofs.Ythbjjjcppijcbaa.Dint

/- A dict's plain steps: nodes put into a table, a slot moved. -/
namespace Go.Proofs.Ythbjjjcppijcbaa.Dint
open Go.RowKit Pal

def Tb.Sized (t : Tb) : Prop := ∃ k, 2 ≤ k ∧ k ≤ 16 ∧ t.len = 2 ^ k
theorem Tb.Sized.pos {t : Tb} (h : t.Sized) : 4 ≤ t.len ∧ t.len ≤ 65536 := by
  obtain ⟨k, h2, h16, e⟩ := h
  have h3 : (2 : Nat) ^ 2 ≤ 2 ^ k := pow_mono h2
  have h4 : (2 : Nat) ^ k ≤ 2 ^ 16 := pow_mono h16
  omega
theorem Tb.Sized.set {t : Tb} (h : t.Sized) (i : Nat) (c : Ch) : (t.set i c).Sized := by
  obtain ⟨k, h2, h16, e⟩ := h
  exact ⟨k, h2, h16, by rw [Tb.set_len]; exact e⟩

def push (t : Tb) (x : Nd) : Tb := t.set (x.sum % t.len) (x :: t.at (x.sum % t.len))
theorem push_len (t : Tb) (x : Nd) : (push t x).len = t.len := Tb.set_len _ _ _
theorem push_blk (t : Tb) (x : Nd) : (push t x).blk = t.blk := rfl
theorem push_sized {t : Tb} (h : t.Sized) (x : Nd) : (push t x).Sized := h.set _ _
theorem fold_len : ∀ (c : Ch) (t : Tb), (c.foldl push t).len = t.len
  | [], _ => rfl
  | x :: c, t => (fold_len c (push t x)).trans (push_len t x)
theorem fold_blk : ∀ (c : Ch) (t : Tb), (c.foldl push t).blk = t.blk
  | [], _ => rfl
  | x :: c, t => (fold_blk c (push t x)).trans (push_blk t x)
theorem fold_sized : ∀ (c : Ch) {t : Tb}, t.Sized → (c.foldl push t).Sized
  | [], _, h => h
  | x :: c, _, h => fold_sized c (push_sized h x)

theorem flatten_set_perm {α : Type} : ∀ (l : List (List α)) (i : Nat) (c : List α), i < l.length → ((l.set i c).flatten ++ l.getD i []).Perm (l.flatten ++ c)
  | [], _, _, h => by cases h
  | a :: l, 0, c, _ => by
    simp only [List.set_cons_zero, List.flatten_cons, List.getD_cons_zero, List.append_assoc]
    exact (List.perm_append_comm).trans ((List.perm_append_comm.append_right c).trans (by rw [List.append_assoc]))
  | a :: l, i + 1, c, h => by
    simp only [List.set_cons_succ, List.flatten_cons, List.getD_cons_succ, List.append_assoc]
    exact List.Perm.append_left a (flatten_set_perm l i c (by simpa using h))
theorem nodes_set_perm (t : Tb) {i : Nat} (h : i < t.len) (c : Ch) : ((t.set i c).nodes ++ t.at i).Perm (t.nodes ++ c) := flatten_set_perm t.slots i c h
theorem nodes_push_perm {t : Tb} (h : 0 < t.len) (x : Nd) : (push t x).nodes.Perm (x :: t.nodes) := by
  have := nodes_set_perm t (Nat.mod_lt x.sum h) (x :: t.at (x.sum % t.len))
  have h2 : (t.nodes ++ x :: t.at (x.sum % t.len)).Perm ((x :: t.nodes) ++ t.at (x.sum % t.len)) := by
    exact List.perm_middle (a := x) (l₁ := t.nodes) (l₂ := t.at (x.sum % t.len))
  exact (List.perm_append_right_iff _).1 (this.trans h2)
theorem fold_push_perm : ∀ (c : Ch) {t : Tb}, 0 < t.len → (c.foldl push t).nodes.Perm (c ++ t.nodes)
  | [], _, _ => List.Perm.refl _
  | x :: c, t, h => by
    have h1 := fold_push_perm c (t := push t x) (by rw [push_len]; exact h)
    have h2 := List.Perm.append_left c (nodes_push_perm h x)
    exact (h1.trans h2).trans (List.perm_middle (a := x) (l₁ := c) (l₂ := t.nodes))

/-- One slot moved (while the dict moves). -/
def moveSlot (d : Dm) : Dm :=
  match d.t1 with
  | none => d
  | some t =>
    if d.at_ + 1 = d.t0.len then { d with t0 := (d.t0.at d.at_).foldl push t, t1 := none, at_ := 0 }
    else { d with t0 := d.t0.set d.at_ [], t1 := some ((d.t0.at d.at_).foldl push t), at_ := d.at_ + 1 }
def moveN (d : Dm) : Nat → Dm
  | 0 => d
  | k + 1 => moveSlot (moveN d k)
/-- How many slots are moved by a step of n. -/
def stepK (d : Dm) (n : Int) : Nat := if d.t1.isSome then min n.toNat (d.t0.len - d.at_) else 0
def stepD (d : Dm) (n : Int) : Dm := moveN d (stepK d n)

/-- What a dict keeps, told of its datum alone. -/
structure Dm.Ok (d : Dm) : Prop where
  seed : d.seed < 4294967296
  s0 : d.t0.Sized
  s1 : ∀ t, d.t1 = some t → t.Sized
  in0 : ∀ i x, i < d.t0.len → x ∈ d.t0.at i → x.sum % d.t0.len = i
  in1 : ∀ t, d.t1 = some t → ∀ i x, i < t.len → x ∈ t.at i → x.sum % t.len = i
  sums : ∀ x ∈ d.nodes, x.sum = sumN d.seed x.key.data.toList
  keys : (d.nodes.map (·.key)).Nodup
  vok : ∀ x ∈ d.nodes, VOk x.v
  count : d.n = d.nodes.length
  atlt : ∀ t, d.t1 = some t → d.at_ < d.t0.len
  at0 : d.t1 = none → d.at_ = 0
  moved : ∀ i, i < d.at_ → d.t0.at i = []

theorem Dm.Ok.sum_lt {d : Dm} (h : d.Ok) {x : Nd} (hx : x ∈ d.nodes) : x.sum < 4294967296 := by rw [h.sums x hx]; exact sumN_lt _ _

theorem mem_push {t : Tb} (h : 0 < t.len) {x y : Nd} : y ∈ (push t x).nodes ↔ y = x ∨ y ∈ t.nodes := by
  rw [(nodes_push_perm h x).mem_iff]; simp
theorem in_push {t : Tb} (h0 : 0 < t.len) (h : ∀ i x, i < t.len → x ∈ t.at i → x.sum % t.len = i) (x : Nd) : ∀ i y, i < (push t x).len → y ∈ (push t x).at i → y.sum % (push t x).len = i := by
  intro i y hi hy
  rw [push_len] at hi ⊢
  unfold push at hy
  rw [Tb.set_at (Nat.mod_lt _ h0)] at hy
  split at hy
  · rename_i e
    rcases List.mem_cons.1 hy with rfl | hy
    · exact e
    · rw [← e]; exact h _ _ (Nat.mod_lt _ h0) hy
  · exact h i y hi hy
theorem in_fold : ∀ (c : Ch) {t : Tb}, 0 < t.len → (∀ i x, i < t.len → x ∈ t.at i → x.sum % t.len = i) → ∀ i y, i < (c.foldl push t).len → y ∈ (c.foldl push t).at i → y.sum % (c.foldl push t).len = i
  | [], _, _, h => h
  | x :: c, t, h0, h => in_fold c (t := push t x) (by rw [push_len]; exact h0) (in_push h0 h x)

theorem moveSlot_perm {d : Dm} (h : d.Ok) : (moveSlot d).nodes.Perm d.nodes := by
  unfold moveSlot
  split
  · exact List.Perm.refl _
  · rename_i t ht
    have hlt := h.atlt t ht
    have hp := fold_push_perm (d.t0.at d.at_) (t := t) (by have := (h.s1 t ht).pos; omega)
    have hs := nodes_set_perm d.t0 hlt []
    rw [List.append_nil] at hs
    split
    · rename_i hl
      have e : (d.t0.set d.at_ []).nodes = [] := by
        rw [List.eq_nil_iff_forall_not_mem]
        intro x hx
        obtain ⟨i, hi, hxi⟩ := mem_nodes.1 hx
        rw [Tb.set_len] at hi
        rw [Tb.set_at hlt] at hxi
        split at hxi
        · cases hxi
        · rw [h.moved i (by omega)] at hxi; cases hxi
      rw [e, List.nil_append] at hs
      have e2 : (({ d with t0 := (d.t0.at d.at_).foldl push t, t1 := none, at_ := 0 } : Dm)).nodes = ((d.t0.at d.at_).foldl push t).nodes := by
        unfold Dm.nodes Dm.nodes1; simp
      rw [e2]
      refine hp.trans ?_
      unfold Dm.nodes Dm.nodes1
      rw [ht]
      exact hs.append_right _
    · have e2 : (({ d with t0 := d.t0.set d.at_ [], t1 := some ((d.t0.at d.at_).foldl push t), at_ := d.at_ + 1 } : Dm)).nodes = (d.t0.set d.at_ []).nodes ++ ((d.t0.at d.at_).foldl push t).nodes := rfl
      rw [e2]
      refine (List.Perm.append_left _ hp).trans ?_
      rw [← List.append_assoc]
      unfold Dm.nodes Dm.nodes1
      rw [ht]
      exact hs.append_right _

theorem moveSlot_ok {d : Dm} (h : d.Ok) : (moveSlot d).Ok := by
  have hp := moveSlot_perm h
  have hseed : (moveSlot d).seed = d.seed := by unfold moveSlot; split <;> try rfl
                                                split <;> rfl
  have hn : (moveSlot d).n = d.n := by unfold moveSlot; split <;> try rfl
                                       split <;> rfl
  have hsums : ∀ x ∈ (moveSlot d).nodes, x.sum = sumN (moveSlot d).seed x.key.data.toList := fun x hx => by rw [hseed]; exact h.sums x (hp.mem_iff.1 hx)
  have hkeys : ((moveSlot d).nodes.map (·.key)).Nodup := (hp.map _).nodup_iff.2 h.keys
  have hvok : ∀ x ∈ (moveSlot d).nodes, VOk x.v := fun x hx => h.vok x (hp.mem_iff.1 hx)
  have hcount : (moveSlot d).n = (moveSlot d).nodes.length := by rw [hn, hp.length_eq]; exact h.count
  cases ht : d.t1 with
  | none =>
    have : moveSlot d = d := by unfold moveSlot; rw [ht]
    rw [this]; exact h
  | some t =>
    have hlt := h.atlt t ht
    have hpos : 0 < t.len := by have := (h.s1 t ht).pos; omega
    have hfs := fold_sized (d.t0.at d.at_) (h.s1 t ht)
    have hfi := in_fold (d.t0.at d.at_) hpos (h.in1 t ht)
    by_cases hl : d.at_ + 1 = d.t0.len
    · have e : moveSlot d = { d with t0 := (d.t0.at d.at_).foldl push t, t1 := none, at_ := 0 } := by unfold moveSlot; rw [ht]; simp [hl]
      rw [e] at hsums hkeys hcount hvok ⊢
      exact { seed := h.seed, s0 := hfs, s1 := fun _ h => (by cases h), in0 := hfi, in1 := fun _ h => (by cases h), sums := hsums, keys := hkeys, vok := hvok, count := hcount, atlt := fun _ h => (by cases h), at0 := fun _ => rfl, moved := fun i hi => (by cases hi) }
    · have e : moveSlot d = { d with t0 := d.t0.set d.at_ [], t1 := some ((d.t0.at d.at_).foldl push t), at_ := d.at_ + 1 } := by unfold moveSlot; rw [ht]; simp [hl]
      rw [e] at hsums hkeys hcount hvok ⊢
      refine { seed := h.seed, s0 := h.s0.set _ _, s1 := ?_, in0 := ?_, in1 := ?_, sums := hsums, keys := hkeys, vok := hvok, count := hcount, atlt := ?_, at0 := fun h => (by cases h), moved := ?_ }
      · intro t' ht'; injection ht' with ht'; subst ht'; exact hfs
      · intro i x hi hx
        show x.sum % (d.t0.set d.at_ []).len = i
        rw [Tb.set_len]
        have hi' : i < d.t0.len := by have := Tb.set_len d.t0 d.at_ []; simp only [] at hi; omega
        have hx' : x ∈ (d.t0.set d.at_ []).at i := hx
        rw [Tb.set_at hlt] at hx'
        split at hx'
        · cases hx'
        · exact h.in0 i x hi' hx'
      · intro t' ht'; injection ht' with ht'; subst ht'; exact hfi
      · intro t' _
        show d.at_ + 1 < (d.t0.set d.at_ []).len
        rw [Tb.set_len]; omega
      · intro i hi
        show (d.t0.set d.at_ []).at i = []
        have hi : i < d.at_ + 1 := hi
        rw [Tb.set_at hlt]
        split
        · rfl
        · exact h.moved i (by omega)

theorem moveN_ok {d : Dm} (h : d.Ok) : ∀ k, (moveN d k).Ok
  | 0 => h
  | k + 1 => moveSlot_ok (moveN_ok h k)
theorem moveN_perm {d : Dm} (h : d.Ok) : ∀ k, (moveN d k).nodes.Perm d.nodes
  | 0 => List.Perm.refl _
  | k + 1 => (moveSlot_perm (moveN_ok h k)).trans (moveN_perm h k)
theorem moveSlot_blk (d : Dm) : (moveSlot d).blk = d.blk ∧ (moveSlot d).seed = d.seed ∧ (moveSlot d).n = d.n := by
  unfold moveSlot; split
  · exact ⟨rfl, rfl, rfl⟩
  · split <;> exact ⟨rfl, rfl, rfl⟩
theorem moveN_blk (d : Dm) : ∀ k, (moveN d k).blk = d.blk ∧ (moveN d k).seed = d.seed ∧ (moveN d k).n = d.n
  | 0 => ⟨rfl, rfl, rfl⟩
  | k + 1 => by
    obtain ⟨h1, h2, h3⟩ := moveSlot_blk (moveN d k)
    obtain ⟨g1, g2, g3⟩ := moveN_blk d k
    exact ⟨h1.trans g1, h2.trans g2, h3.trans g3⟩
theorem moveSlot_foot {d : Dm} (h : d.Ok) {g : Nat} (hg : (moveSlot d).foot g) : d.foot g := by
  have hp := moveSlot_perm h
  have hb := (moveSlot_blk d).1
  have hnd : ∀ x, x ∈ (moveSlot d).nodes → x ∈ d.nodes := fun x hx => hp.mem_iff.1 hx
  rcases hg with rfl | rfl | ⟨t, ht, rfl⟩ | ⟨x, hx, rfl⟩
  · exact .inl hb
  · unfold moveSlot
    split
    · exact .inr (.inl rfl)
    · rename_i t ht
      split
      · exact .inr (.inr (.inl ⟨t, ht, fold_blk _ _⟩))
      · exact .inr (.inl rfl)
  · unfold moveSlot at ht
    split at ht
    · exact .inr (.inr (.inl ⟨t, ht, rfl⟩))
    · rename_i t' ht'
      split at ht
      · cases ht
      · injection ht with ht
        rw [← ht]
        exact .inr (.inr (.inl ⟨t', ht', fold_blk _ _⟩))
  · exact .inr (.inr (.inr ⟨x, hnd x hx, rfl⟩))
theorem moveN_foot {d : Dm} (h : d.Ok) : ∀ (k : Nat) {g : Nat}, (moveN d k).foot g → d.foot g
  | 0, _, hg => hg
  | k + 1, _, hg => moveN_foot h k (moveSlot_foot (moveN_ok h k) hg)
/-- While it moves: the first slots. -/
theorem moveN_at {d : Dm} {t : Tb} (h : d.Ok) (ht : d.t1 = some t) : ∀ k, d.at_ + k < d.t0.len → ((moveN d k).t1.isSome = true ∧ (moveN d k).at_ = d.at_ + k ∧ (moveN d k).t0.len = d.t0.len)
  | 0, _ => ⟨by simp [moveN, ht], rfl, rfl⟩
  | k + 1, hk => by
    obtain ⟨h1, h2, h3⟩ := moveN_at h ht k (by omega)
    obtain ⟨t', ht'⟩ := Option.isSome_iff_exists.1 h1
    have hne : ¬ (moveN d k).at_ + 1 = (moveN d k).t0.len := by omega
    have e : moveN d (k + 1) = { moveN d k with t0 := (moveN d k).t0.set (moveN d k).at_ [], t1 := some (((moveN d k).t0.at (moveN d k).at_).foldl push t'), at_ := (moveN d k).at_ + 1 } := by
      show moveSlot (moveN d k) = _
      unfold moveSlot; rw [ht']; simp [hne]
    rw [e]
    refine ⟨rfl, ?_, ?_⟩
    · show (moveN d k).at_ + 1 = d.at_ + (k + 1); omega
    · show ((moveN d k).t0.set _ _).len = _; rw [Tb.set_len]; exact h3
/-- All slots moved: it moves no more. -/
theorem moveN_all {d : Dm} {t : Tb} (h : d.Ok) (ht : d.t1 = some t) : (moveN d (d.t0.len - d.at_)).t1 = none ∧ (moveN d (d.t0.len - d.at_)).t0.len = t.len := by
  have hlt := h.atlt t ht
  obtain ⟨k, hk⟩ : ∃ k, d.t0.len - d.at_ = k + 1 := ⟨d.t0.len - d.at_ - 1, by omega⟩
  rw [hk]
  obtain ⟨h1, h2, h3⟩ := moveN_at h ht k (by omega)
  obtain ⟨t', ht'⟩ := Option.isSome_iff_exists.1 h1
  have hl : (moveN d k).at_ + 1 = (moveN d k).t0.len := by omega
  have e : moveN d (k + 1) = { moveN d k with t0 := ((moveN d k).t0.at (moveN d k).at_).foldl push t', t1 := none, at_ := 0 } := by
    show moveSlot (moveN d k) = _
    unfold moveSlot; rw [ht']; simp [hl]
  rw [e]
  refine ⟨rfl, ?_⟩
  show (List.foldl push t' _).len = t.len
  rw [fold_len]
  have key : ∀ j, d.at_ + j < d.t0.len → ∀ t'', (moveN d j).t1 = some t'' → t''.len = t.len := by
    intro j
    induction j with
    | zero => intro _ t'' h''; have h'' : d.t1 = some t'' := h''; rw [ht] at h''; injection h'' with h''; rw [h'']
    | succ j ih =>
      intro hj t'' h''
      obtain ⟨g1, g2, g3⟩ := moveN_at h ht j (by omega)
      obtain ⟨u, hu⟩ := Option.isSome_iff_exists.1 g1
      have hne : ¬ (moveN d j).at_ + 1 = (moveN d j).t0.len := by omega
      have e : moveN d (j + 1) = { moveN d j with t0 := (moveN d j).t0.set (moveN d j).at_ [], t1 := some (((moveN d j).t0.at (moveN d j).at_).foldl push u), at_ := (moveN d j).at_ + 1 } := by
        show moveSlot (moveN d j) = _
        unfold moveSlot; rw [hu]; simp [hne]
      rw [e] at h''
      injection h'' with h''
      rw [← h'', fold_len]
      exact ih (by omega) u hu
  exact key k (by omega) t' ht'

end Go.Proofs.Ythbjjjcppijcbaa.Dint

/- Contracts of dict: put, Step. -/
namespace Go.Proofs.Ythbjjjcppijcbaa.Dint
open Go.RowKit Pal
attribute [local go_sem] Oper.semAt_some

set_option maxHeartbeats 400000 in
/-- One node is put into a table. -/
theorem put_any (t : Tb) (x : Nd) (nx : Value) (b : Nat) (w : World) (hz : t.Sized) (hs : x.sum < 4294967296) (hT : Blk w t.blk 81 (tbCells t)) (hX : Blk w x.blk 83 (ndCells x nx))
    (hB : w.cell? ⟨b, 0, none⟩ = some (ptr x.blk)) :
    Calls Try.prog 44 #[tbVal t, .slice (some ⟨b, 0, none⟩) 1 1] w fun e w' => (∃ v, e = .returned v) ∧
      (w.setCell ⟨x.blk, 3, none⟩ (hd (t.at (x.sum % t.len)))).setCell ⟨t.blk, x.sum % t.len, none⟩ (ptr x.blk) = w' := by
  have hpos := hz.pos
  obtain ⟨k, h2, h16, hk⟩ := hz
  have hi : x.sum % t.len < t.len := Nat.mod_lt _ (by omega)
  have hc := hT.cell (x.sum % t.len)
  rw [tbCells_get hi] at hc
  have hfT := hT.frozen (x.sum % t.len)
  have hx0 := hX.cell 0
  have hx3 := hX.cell 3
  have hfX := hX.frozen 3
  simp only [ndCells, List.getElem?_toArray, List.getElem?_cons_zero, List.getElem?_cons_succ] at hx0 hx3
  have hne : x.blk ≠ t.blk := hX.ne_type hT (by decide)
  obtain ⟨q, hq⟩ : ∃ q, hd (t.at (x.sum % t.len)) = .pointer q := by cases t.at (x.sum % t.len) <;> exact ⟨_, rfl⟩
  rw [hq] at hc ⊢
  have HK := Lib.hid hk
  have hlt : t.len ≤ 9223372036854775807 := by omega
  have hne' : (t.blk = x.blk) = False := by simp only [eq_iff_iff, iff_false]; exact fun h => hne h.symm
  obtain ⟨i, HI⟩ : ∃ i, Hid (x.sum % t.len = i) := ⟨_, rfl⟩
  have hsl : ∀ w, Calls Try.prog 70 #[tbVal t, .int .u32 (x.sum : Int)] w fun e w' => e = .returned (.int .i64 (i : Int)) ∧ w = w' := fun w => by
    rw [← HI.out]; exact slot_any t x.sum k w hs HK.out h16
  rw [HI.out] at hc hfT hi ⊢
  clear hq hk hX hT
  unfold ptr tbVal at *
  go_enter Try.func44, Try.ntmps44
  go_wp2
  refine wp_loop_rounds 2 ?_
  rw [rounds_succ]
  go_wp2_with (go_at_call 70; refine (hsl _).mono ?_; rintro e w' ⟨rfl, rfl⟩)
  rw [rounds_succ]
  go_wp2
  go_end0
  exact ⟨⟨_, rfl⟩, rfl⟩

end Go.Proofs.Ythbjjjcppijcbaa.Dint

/- A dict in the middle of a step, in memory. -/
namespace Go.Proofs.Ythbjjjcppijcbaa.Dint
open Go.RowKit Pal

/-- The nodes c of the slot that is moved lie in no other place. -/
structure Dis (e : Dm) (t : Tb) (c : Ch) : Prop where
  d0 : ∀ x ∈ c, ∀ y ∈ (e.t0.set e.at_ []).nodes, y.blk ≠ x.blk
  d1 : ∀ x ∈ c, ∀ y ∈ t.nodes, y.blk ≠ x.blk
  nod : (c.map (·.blk)).Nodup

theorem DmAt.dis {w : World} {e : Dm} (h : DmAt w e) (hok : e.Ok) {t : Tb} (ht : e.t1 = some t) : Dis e t (e.t0.at e.at_) := by
  have hlt := hok.atlt t ht
  have hp := nodes_set_perm e.t0 hlt []
  rw [List.append_nil] at hp
  have hn := h.nodup
  unfold Dm.nodes Dm.nodes1 at hn
  rw [ht] at hn
  have hn2 : (((e.t0.set e.at_ []).nodes ++ e.t0.at e.at_ ++ t.nodes).map (·.blk)).Nodup := ((hp.append_right t.nodes).map _).nodup_iff.2 hn
  rw [List.map_append, List.map_append, List.nodup_append] at hn2
  obtain ⟨h12, h3, hd⟩ := hn2
  rw [List.nodup_append] at h12
  obtain ⟨h1, h2, hd2⟩ := h12
  refine ⟨fun x hx y hy => ?_, fun x hx y hy => ?_, h2⟩
  · exact hd2 _ (List.mem_map.2 ⟨y, hy, rfl⟩) _ (List.mem_map.2 ⟨x, hx, rfl⟩)
  · exact fun e' => hd _ (List.mem_append.2 (.inr (List.mem_map.2 ⟨x, hx, rfl⟩))) _ (List.mem_map.2 ⟨y, hy, rfl⟩) e'.symm

structure Mid (e : Dm) (t' : Tb) (W : World) : Prop where
  hd : Blk W e.blk 76 (dmCells e)
  tb0 : Blk W e.t0.blk 81 (tbCells e.t0)
  oth : ∀ i, i < e.t0.len → i ≠ e.at_ → chAt W (e.t0.at i)
  t1 : tbAt W t'
  ne : e.t0.blk ≠ t'.blk

theorem DmAt.mid {w : World} {e : Dm} (h : DmAt w e) {t : Tb} (ht : e.t1 = some t) : Mid e t w :=
  ⟨h.hd, h.a0.1, fun _ hi _ => h.a0.2 _ (Tb.at_mem hi), h.a1 t ht, h.ne t ht⟩

theorem Mid.chg {e : Dm} {t' : Tb} {w w' : World} {S : Nat → Prop} (h : Mid e t' w) (hc : Chg S w w') (h1 : ¬ S e.blk) (h2 : ¬ S e.t0.blk) (h3 : ∀ i, i < e.t0.len → i ≠ e.at_ → ∀ x ∈ e.t0.at i, ¬ S x.blk)
    (h4 : ¬ S t'.blk) (h5 : ∀ x ∈ t'.nodes, ¬ S x.blk) : Mid e t' w' :=
  ⟨h.hd.chg hc h1, h.tb0.chg hc h2, fun i hi hne => (h.oth i hi hne).chg hc (h3 i hi hne), h.t1.chg hc h4 h5, h.ne⟩
theorem Mid.chg0 {e : Dm} {t' : Tb} {w w' : World} (h : Mid e t' w) (hc : Chg (fun _ => False) w w') : Mid e t' w' := h.chg hc id id (fun _ _ _ _ _ => id) id fun _ _ => id

theorem Mid.keep {e : Dm} {t' : Tb} {w w' : World} (h : Mid e t' w) (k : KeepC w w') : Mid e t' w' :=
  ⟨h.hd.keep k, h.tb0.keep k, fun i hi hne => (h.oth i hi hne).keep k, h.t1.keep k, h.ne⟩

theorem mem_set_nodes {t : Tb} {i : Nat} (hi : i < t.len) {j : Nat} (hj : j < t.len) (hne : j ≠ i) {x : Nd} (hx : x ∈ t.at j) : x ∈ (t.set i []).nodes :=
  mem_nodes.2 ⟨j, by rw [Tb.set_len]; exact hj, by rw [Tb.set_at hi, if_neg (fun h => hne h.symm)]; exact hx⟩

/-- A node is put. -/
theorem mid_put {e : Dm} {t t' : Tb} {W : World} {x : Nd} {r : Ch} (h : Mid e t' W) (hlt : e.at_ < e.t0.len) (hpos : 0 < t'.len) (hx : Blk W x.blk 83 (ndCells x (hd r))) (hr : chAt W r)
    (hd0 : ∀ y ∈ (e.t0.set e.at_ []).nodes, y.blk ≠ x.blk) (hd1 : ∀ y ∈ t'.nodes, y.blk ≠ x.blk) (hdr : ∀ y ∈ r, y.blk ≠ x.blk) :
    ∀ W', (W.setCell ⟨x.blk, 3, none⟩ (hd (t'.at (x.sum % t'.len)))).setCell ⟨t'.blk, x.sum % t'.len, none⟩ (ptr x.blk) = W' →
      Mid e (push t' x) W' ∧ chAt W' r ∧ Chg (fun g => g = x.blk ∨ g = t'.blk) W W' := by
  rintro W' rfl
  have hi : x.sum % t'.len < t'.len := Nat.mod_lt _ hpos
  have hC : Chg (fun g => g = x.blk ∨ g = t'.blk) W ((W.setCell ⟨x.blk, 3, none⟩ (hd (t'.at (x.sum % t'.len)))).setCell ⟨t'.blk, x.sum % t'.len, none⟩ (ptr x.blk)) :=
    ((Chg.refl _ W).store (.inl rfl) 3 _).store (.inr rfl) _ _
  have hxt : x.blk ≠ t'.blk := hx.ne_type h.t1.1 (by decide)
  have hnt : ∀ y ∈ t'.nodes, y.blk ≠ t'.blk := fun y hy => by obtain ⟨nx, hb⟩ := h.t1.node hy; exact hb.ne_type h.t1.1 (by decide)
  have hsl : ∀ y ∈ t'.at (x.sum % t'.len), y ∈ t'.nodes := fun y hy => mem_nodes.2 ⟨_, hi, hy⟩
  have hch : ∀ c : Ch, chAt W c → (∀ y ∈ c, y.blk ≠ x.blk) → chAt ((W.setCell ⟨x.blk, 3, none⟩ (hd (t'.at (x.sum % t'.len)))).setCell ⟨t'.blk, x.sum % t'.len, none⟩ (ptr x.blk)) c := fun c hc hne => by
    refine hc.chg hC fun y hy hS => ?_
    rcases hS with hS | hS
    · exact hne y hy hS
    · -- a node's block is no table's
      obtain ⟨pre, post, rfl⟩ := List.append_of_mem hy
      exact (hc.node rfl).ne_type h.t1.1 (by decide) hS
  refine ⟨⟨?_, ?_, ?_, ⟨?_, ?_⟩, h.ne⟩, hch r hr hdr, hC⟩
  · exact h.hd.chg hC (by rintro (e' | e'); exact hx.ne_type h.hd (by decide) e'.symm; exact h.t1.1.ne_type h.hd (by decide) e'.symm)
  · exact h.tb0.chg hC (by rintro (e' | e'); exact hx.ne_type h.tb0 (by decide) e'.symm; exact h.ne e')
  · exact fun i hi' hne => hch _ (h.oth i hi' hne) fun y hy => hd0 y (mem_set_nodes hlt hi' hne hy)
  · have hb := (h.t1.1.far (p := ⟨x.blk, 3, none⟩) (fun e' => hxt e'.symm) (hd (t'.at (x.sum % t'.len)))).set (x.sum % t'.len) (ptr x.blk)
    have e1 : tbCells (push t' x) = (tbCells t').setIfInBounds (x.sum % t'.len) (ptr x.blk) := tbCells_set _ _ _
    rw [e1]; exact hb
  · intro c hc
    have hc' : c ∈ t'.slots.set (x.sum % t'.len) (x :: t'.at (x.sum % t'.len)) := hc
    rcases List.mem_or_eq_of_mem_set hc' with hc | rfl
    · exact hch c (h.t1.2 c hc) fun y hy => hd1 y (List.mem_flatten.2 ⟨c, hc, hy⟩)
    · refine ⟨?_, hch _ (h.t1.2 _ (Tb.at_mem hi)) fun y hy => hd1 y (hsl y hy)⟩
      have hb := (hx.set 3 (hd (t'.at (x.sum % t'.len)))).far (p := ⟨t'.blk, x.sum % t'.len, none⟩) hxt (ptr x.blk)
      have e1 : (ndCells x (hd r)).setIfInBounds 3 (hd (t'.at (x.sum % t'.len))) = ndCells x (hd (t'.at (x.sum % t'.len))) := rfl
      rw [e1] at hb
      exact hb

/-- The slot's cell cleared, the place moved on: the dict behind it, while it still moves. -/
theorem mid_next {e : Dm} {t t' : Tb} {W W' : World} (h : Mid e t' W) (hok : e.Ok) (ht : e.t1 = some t) (ht' : t' = (e.t0.at e.at_).foldl push t) (hnl : e.at_ + 1 ≠ e.t0.len) (hnd : (e.nodes.map (·.blk)).Nodup)
    (hc : Chg (fun g => g = e.blk ∨ g = e.t0.blk) W W') (h1 : Blk W' e.blk 76 ((dmCells e).setIfInBounds 3 (.int .i64 ((e.at_ + 1 : Nat) : Int)))) (h2 : Blk W' e.t0.blk 81 ((tbCells e.t0).setIfInBounds e.at_ (.pointer none))) :
    DmAt W' (moveSlot e) := by
  have hlt := hok.atlt t ht
  have hp := moveSlot_perm hok
  have em : moveSlot e = { e with t0 := e.t0.set e.at_ [], t1 := some t', at_ := e.at_ + 1 } := by unfold moveSlot; rw [ht, ht']; simp [hnl]
  have hnn : (((moveSlot e).nodes).map (·.blk)).Nodup := (hp.map _).nodup_iff.2 hnd
  have hch : ∀ c : Ch, chAt W c → chAt W' c := fun c hcc => hcc.chg hc fun y hy hS => by
    obtain ⟨pre, post, rfl⟩ := List.append_of_mem hy
    have hb := hcc.node rfl
    rcases hS with hS | hS
    · exact hb.ne_type h.hd (by decide) hS
    · exact hb.ne_type h.tb0 (by decide) hS
  have hvt : tbVal t' = tbVal t := by unfold tbVal; rw [ht', fold_len, fold_blk]
  rw [em] at hnn ⊢
  refine { hd := ?_, a0 := ⟨?_, ?_⟩, a1 := ?_, ne := ?_, nodup := hnn }
  · have e1 : (dmCells e).setIfInBounds 3 (.int .i64 ((e.at_ + 1 : Nat) : Int)) = dmCells { e with t0 := e.t0.set e.at_ [], t1 := some t', at_ := e.at_ + 1 } := by
      simp [dmCells, t1Val, ht, hvt]
      unfold tbVal Tb.set Tb.len; simp
    rw [← e1]; exact h1
  · show Blk W' e.t0.blk _ _
    rw [tbCells_set]; exact h2
  · intro c hcm
    have hcm' : c ∈ e.t0.slots.set e.at_ [] := hcm
    obtain ⟨i, hi, rfl⟩ := List.mem_iff_getElem.1 hcm'
    rw [List.getElem_set]
    split
    · trivial
    · rename_i hne
      have hi' : i < e.t0.len := by simpa [Tb.len] using hi
      have := h.oth i hi' (fun e' => hne e'.symm)
      have e2 := Tb.at_lt hi'
      rw [List.getElem?_eq_getElem hi'] at e2
      injection e2 with e2
      have h3 := hch _ this
      rw [← e2] at h3
      exact h3
  · intro u hu
    injection hu with hu
    subst hu
    refine ⟨h.t1.1.chg hc ?_, fun c hcm => hch c (h.t1.2 c hcm)⟩
    rintro (e' | e')
    · exact h.t1.1.ne_type h.hd (by decide) e'
    · exact h.ne e'.symm
  · intro u hu
    injection hu with hu
    subst hu
    exact h.ne

/-- The last slot: the second table is the first one. -/
theorem mid_last {e : Dm} {t t' : Tb} {W W' : World} (h : Mid e t' W) (hok : e.Ok) (ht : e.t1 = some t) (ht' : t' = (e.t0.at e.at_).foldl push t) (hl : e.at_ + 1 = e.t0.len) (hnd : (e.nodes.map (·.blk)).Nodup)
    (hc : Chg (fun g => g = e.blk ∨ g = e.t0.blk) W W') (h1 : Blk W' e.blk 76 #[.int .u32 (e.seed : Int), tbVal t, .slice none 0 0, .int .i64 0, .int .i64 (e.n : Int)]) :
    DmAt W' (moveSlot e) := by
  have hp := moveSlot_perm hok
  have em : moveSlot e = { e with t0 := t', t1 := none, at_ := 0 } := by unfold moveSlot; rw [ht, ht']; simp [hl]
  have hnn : (((moveSlot e).nodes).map (·.blk)).Nodup := (hp.map _).nodup_iff.2 hnd
  have hch : ∀ c : Ch, chAt W c → chAt W' c := fun c hcc => hcc.chg hc fun y hy hS => by
    obtain ⟨pre, post, rfl⟩ := List.append_of_mem hy
    have hb := hcc.node rfl
    rcases hS with hS | hS
    · exact hb.ne_type h.hd (by decide) hS
    · exact hb.ne_type h.tb0 (by decide) hS
  have hvt : tbVal t' = tbVal t := by unfold tbVal; rw [ht', fold_len, fold_blk]
  rw [em] at hnn ⊢
  refine { hd := ?_, a0 := ⟨?_, fun c hcm => hch c (h.t1.2 c hcm)⟩, a1 := fun u hu => (by cases hu), ne := fun u hu => (by cases hu), nodup := hnn }
  · unfold dmCells t1Val; dsimp only; rw [hvt]; exact h1
  · refine h.t1.1.chg hc ?_
    rintro (e' | e')
    · exact h.t1.1.ne_type h.hd (by decide) e'
    · exact h.ne e'.symm

end Go.Proofs.Ythbjjjcppijcbaa.Dint
