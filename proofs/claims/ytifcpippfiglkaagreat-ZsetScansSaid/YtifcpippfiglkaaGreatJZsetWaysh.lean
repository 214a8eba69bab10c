/- Texts joined for ZsetWays: MM, SKW, SKE. -/
import Derived.Test.YtifcpippfiglkaaGreatJZsetWaysa
import Derived.Test.YtifcpippfiglkaaGreatJZsetWaysg
import Derived.Laws.MakeOwn
import Derived.Deep.MidRow
import Derived.OwnWalk
import Derived.Laws.Rows
import Derived.Laws.CopyOwn
import Derived.Lib.BufferWrite
import Derived.TacticsInMore
import Derived.LoopNIn
import Derived.LoopIn
import Derived.Sort.LoopGhostIn
import Derived.Deep.QuietTactic
import Derived.Laws.StructEq
set_option linter.unusedVariables false
set_option linter.unusedSimpArgs false

/- Words for memory, more: allocations in a row, whole blocks read and written, a scope in a round, results in two cells. -/
namespace Pal
open Go Go.RowKit

theorem allocs_old : ∀ (l : List Obj) (w : World) (k : Nat), k < w.heap.size → (l.foldl World.alloc w).heap[k]? = w.heap[k]?
  | [], _, _, _ => rfl
  | o :: l, w, k, h => (allocs_old l (w.alloc o) k (by simp; omega)).trans (Below.heap_alloc w o k h)
theorem allocs_get : ∀ (l : List Obj) (w : World) (i : Nat) (o : Obj), l[i]? = some o → (l.foldl World.alloc w).heap[w.heap.size + i]? = some o
  | [], _, _, _, h => by cases h
  | x :: l, w, 0, o, h => by
    injection h with h
    subst h
    exact (allocs_old l (w.alloc x) _ (by simp)).trans (World.alloc_heap_new w x)
  | x :: l, w, i + 1, o, h => by
    have := allocs_get l (w.alloc x) i o h
    rw [World.size_alloc] at this
    rw [show w.heap.size + (i + 1) = w.heap.size + 1 + i by omega]
    exact this
theorem allocs_chg (S : Nat → Prop) : ∀ (l : List Obj) (w : World), Chg S w (l.foldl World.alloc w)
  | [], w => Chg.refl _ w
  | o :: l, w => ((Chg.refl S w).alloc o).trans (allocs_chg S l (w.alloc o))
theorem allocs_size : ∀ (l : List Obj) (w : World), (l.foldl World.alloc w).heap.size = w.heap.size + l.length
  | [], w => rfl
  | o :: l, w => by
    show (l.foldl World.alloc (w.alloc o)).heap.size = _
    rw [allocs_size l, World.size_alloc, List.length_cons]; omega

/-! ### a whole block -/
section
variable {w : World} {g : Nat} {t : TypeId}
theorem Blk.range {l : List Value} (h : Blk w g t l.toArray) : w.rangeAt g 0 l := fun j v hv => by
  rw [Nat.zero_add, h.cell, List.getElem?_toArray]; exact hv
theorem Blk.there_ {cs : Array Value} (h : Blk w g t cs) : w.there g 0 cs.size := fun j hj => by
  rw [Nat.zero_add]
  exact ⟨by rw [h.cell, Array.getElem?_eq_getElem hj]; rfl, h.frozen j⟩
theorem Blk.setCells_ex : ∀ (vs : List Value) (o : Nat) (w : World) (cs : Array Value), Blk w g t cs → ∃ cs', Blk (w.setCells g o vs) g t cs' ∧ cs'.size = cs.size
  | [], _, w, cs, h => ⟨cs, h, rfl⟩
  | v :: vs, o, w, cs, h => by
    obtain ⟨cs', h1, h2⟩ := Blk.setCells_ex vs (o + 1) _ _ (h.set o v)
    exact ⟨cs', h1, by rw [h2]; simp⟩
theorem Blk.setAll {cs : Array Value} (h : Blk w g t cs) (vs : List Value) (hl : vs.length = cs.size) : Blk (w.setCells g 0 vs) g t vs.toArray := by
  have hr := World.rangeAt_setCells_same w g 0 vs (by rw [hl]; exact h.there_)
  obtain ⟨cs', h1, h2⟩ := Blk.setCells_ex vs 0 w cs h
  have : cs' = vs.toArray := by
    apply Array.ext_getElem?
    intro j
    rcases Nat.lt_or_ge j vs.length with hj | hj
    · have := hr j vs[j] (List.getElem?_eq_getElem hj)
      rw [Nat.zero_add, h1.cell] at this
      rw [this, List.getElem?_toArray, List.getElem?_eq_getElem hj]
    · rw [Array.getElem?_eq_none (by omega), List.getElem?_toArray, List.getElem?_eq_none hj]
  rw [← this]; exact h1
theorem Blk.farCells {cs : Array Value} (vs : List Value) : ∀ (o : Nat) (w : World) {b : Nat}, g ≠ b → Blk w g t cs → Blk (w.setCells b o vs) g t cs := by
  induction vs with
  | nil => intro o w b _ h; exact h
  | cons v vs ih => intro o w b hne h; exact ih (o + 1) _ hne (h.far (p := ⟨b, o, none⟩) hne v)
theorem setCells_chg {S : Nat → Prop} {a : World} (vs : List Value) : ∀ (o : Nat) (w : World) {b : Nat}, (b < a.heap.size → S b) → Chg S a w → Chg S a (w.setCells b o vs) := by
  induction vs with
  | nil => intro o w b _ h; exact h
  | cons v vs ih => intro o w b hb h; exact ih (o + 1) _ hb (h.setCell (p := ⟨b, o, none⟩) hb v)
theorem heap_farCells (vs : List Value) : ∀ (o : Nat) (w : World) {b k : Nat}, k ≠ b → (w.setCells b o vs).heap[k]? = w.heap[k]? := by
  induction vs with
  | nil => intro o w b k _; rfl
  | cons v vs ih => intro o w b k hne; exact (ih (o + 1) _ hne).trans (Below.heap_setCell _ _ _ _ (by simpa using hne))
end

section
variable {P : Program} {F : Fence} {n : Nat} {Q : Exit → Act → World → Prop} {a : Act} {w : World}
theorem stepR_scope {b : Frame} {k : List Item} {cs : List Frame} {c : Code} : step P (lone (b.atR a (.code (.scope c) :: k)) cs w) = .next (lone (b.atR a (.code c :: .inScope c :: k)) cs w) :=
  step_lone_go (by simp [stepG, stepG.exec, Frame.atR])
theorem stepR_inScope {b : Frame} {k : List Item} {cs : List Frame} {c : Code} : step P (lone (b.atR a (.inScope c :: k)) cs w) = .next (lone (b.atR a k) cs w) :=
  step_lone_go (by simp [stepG, stepG.exec, Frame.atR])
theorem wpIn_scope_straight {c : Code} (h : c.wpIn F n P (Exit.noGoto Q) a w) : (Code.scope c).wpIn F n P Q a w := by
  intro b k cs hro hb hr
  have h0 : (lone (b.atR a (.code (.scope c) :: k)) cs w).fenced P F := fenced_calm hb hr rfl
  obtain ⟨e, a₁, w₁, hq, harr⟩ := h b (.inScope c :: k) cs hro hb hr
  cases e with
  | normal => exact ⟨.normal, a₁, w₁, hq, .head h0 stepR_scope (StepsIn.trans harr (.one (fenced_calm hb hr rfl) stepR_inScope))⟩
  | exit id =>
    have hx : exitTo id (.inScope c :: k) = exitTo id k := by simp [exitTo]
    exact ⟨.exit id, a₁, w₁, hq, fun k' hk => .head h0 stepR_scope (harr.1 k' (by rw [hx]; exact hk)),
      fun hr' hk => let ⟨k₁, h1, h2⟩ := harr.2 hr' (by rw [hx]; exact hk); ⟨k₁, h1, .head h0 stepR_scope h2⟩⟩
  | goto l => exact hq.elim
  | ret => exact ⟨_, a₁, w₁, hq, .of_steps (.one h0 stepR_scope) harr⟩
  | panic ch => exact ⟨_, a₁, w₁, hq, .of_steps (.one h0 stepR_scope) harr⟩
  | outgrown => exact ⟨_, a₁, w₁, hq, .of_steps (.one h0 stepR_scope) harr⟩
theorem wp_normal {c : Code} {K : Act → World → Prop} (h : c.wp P (Exit.then K (fun _ _ _ => False)) a w) : c.wp P (Exit.then K Q) a w :=
  (wpIn_wide (n := 2)).1 (wpIn_mono (wpIn_wide.2 h) fun e _ _ h => by cases e <;> first | exact h | exact h.elim)
theorem wp_world {c : Code} (W : World) (h : w = W) (k : c.wp P Q a W) : c.wp P Q a w := h ▸ k
theorem calls_world {f : FuncId} {args : Array Value} {R : Ending → World → Prop} (W : World) (h : w = W) (k : Calls P f args W R) : Calls P f args w R := h ▸ k
theorem exec_load_mid {op : Oper} (ty : TypeId) (x : Operand) (ho : op.op = .load ty x)
    (b o : Nat) (hx : a.eval x = .pointer (some ⟨b, o, none⟩)) (cs : List Value) (d : TypeDesc) (hc : w.rangeAt b o cs)
    (hu : P.underlying ty = some d) (hd : d.isRow = true) (hi : (P.info? ty).map (·.size) = some cs.length) : (execOp a.eval op).run P w = .ok (.value (.agg cs.toArray)) w := by
  unfold execOp
  simp only [ho, hx, Instr.loadAt, Instr.sureAddr, Sem.run_bind, Sem.run_pure, Result.andThen_ok, run_loadVar_mid w b o ty cs d hc hu hd hi]
theorem wpStill_load_mid {ops : Array Oper} {rest : List Oper} {o : Oper} {N : Act → Prop} (hgd : o.guard = none) (ty : TypeId) (x : Operand) (ho : o.op = .load ty x)
    (b k : Nat) (hx : a.eval x = .pointer (some ⟨b, k, none⟩)) (cs : List Value) (d : TypeDesc) (hc : w.rangeAt b k cs)
    (hu : P.underlying ty = some d) (hd : d.isRow = true) (hi : (P.info? ty).map (·.size) = some cs.length) (h : wpStill P ops w N rest (a.put o.dst (.agg cs.toArray))) : wpStill P ops w N (o :: rest) a := by
  refine wpStill_step (fun K hK => ?_)
  have hw : Region.wanted o (yielded ops a.tmps) = true := by unfold Region.wanted; rw [hgd]
  rw [if_pos hw]
  unfold Oper.still
  rw [exec_load_mid ty x ho b k hx cs d hc hu hd hi, Oper.stillUpon_value]
  exact hK _ h
theorem wpList_copy_row {ops : Array Oper} {rest : List Oper} {o : Oper} (hgd : o.guard = none) (d x : Operand) (dT sT : TypeId) (hop : o.op = Op.call { callee := Callee.builtin Builtin.copy, args := #[d, x], argTypes := #[dT, sT] })
    (elem : TypeId) (hu : P.underlying dT = some (.slice elem)) (hs : (P.info? elem).map (·.size) = some 1) (g off dLen dCap : Nat) (hd : a.eval d = .slice (some ⟨g, off, none⟩) dLen dCap) (s : ByteArray) (hx : a.eval x = .string s)
    (cur : Array Value) (t : TypeId) (hg : w.heap[g]? = some (.cells cur t (0, 0))) (hle : s.size ≤ dLen) (hfit : off + s.size ≤ cur.size)
    (h : wpList P ops Q rest (a.put o.dst (goInt s.size)) (w.setRow g (cur.toList.take off ++ Lib.byteCells s.data.toList ++ cur.toList.drop (off + s.size)).toArray)) : wpList P ops Q (o :: rest) a w :=
  wpList_plain hgd fun K hK => by
    have hrun := Lib.run_copy_row_string (P := P) w dT sT o.type elem g off dLen dCap s cur t hu hs hg hle hfit
    unfold Oper.wp
    simp [execOp, hop, resolve, invoke, builtin, hd, hx, hrun, Result.andThen]
    exact hK _ _ (by rw [← List.append_assoc]; exact h)
theorem setRow_chg {S : Nat → Prop} {a : World} {g : Nat} (hb : g < a.heap.size → S g) (cs : Array Value) (h : Chg S a w) : Chg S a (w.setRow g cs) :=
  ⟨h.os, h.tape, h.output, by simpa using h.size, fun k hk hn => (setRow_other w g k cs (fun e => by subst e; exact hn (hb hk))).trans (h.block k hk hn)⟩
theorem step_store_mid {op : Oper} {K : Act → World → Prop} {c : Bool} {E : Prop} (hcond : c = true) (ty : TypeId) (x y : Operand) (ho : op.op = .store ty x y)
    (b o : Nat) (cells : Array Value) (hx : a.eval x = .pointer (some ⟨b, o, none⟩)) (hy : a.eval y = .agg cells)
    (ht : w.there b o cells.size) (hi : (P.info? ty).map (·.size) = some cells.size) (h1 : cells.all (·.oneCell') = true)
    (h : K (a.put op.dst undef) (w.setCells b o cells.toList)) : if c = true then op.wp P a w K Q else E := by
  rw [if_pos hcond]; exact wp_store_mid ty x y ho b o cells hx hy ht hi h1 h
theorem wpList_store_blk {ops : Array Oper} {rest : List Oper} {op : Oper} (hgd : op.guard = none) (ty : TypeId) (x y : Operand) (ho : op.op = .store ty x y)
    (b : Nat) (cells : List Value) (hx : a.eval x = .pointer (some ⟨b, 0, none⟩)) (hy : a.eval y = .agg cells.toArray) {t : TypeId} {cs : Array Value} (hb : Blk w b t cs) (hl : cells.length = cs.size)
    (hi : (P.info? ty).map (·.size) = some cs.size) (h1 : ∀ v ∈ cells, v.oneCell' = true)
    (h : Blk (w.setCells b 0 cells) b t cells.toArray → wpList P ops Q rest (a.put op.dst undef) (w.setCells b 0 cells)) : wpList P ops Q (op :: rest) a w := by
  have hz : cells.toArray.size = cs.size := by rw [← hl]; rfl
  refine wpList_store_mid hgd ty x y ho b 0 cells.toArray hx hy ?_ (by rw [hz]; exact hi) (all_oneCell_toArray h1) (h (hb.setAll cells hl))
  rw [hz]; exact hb.there_
theorem wpList_store_new {ops : Array Oper} {rest : List Oper} {op : Oper} (hgd : op.guard = none) (ty : TypeId) (x y : Operand) (ho : op.op = .store ty x y)
    (b : Nat) (cells : List Value) (hx : a.eval x = .pointer (some ⟨b, 0, none⟩)) (hy : a.eval y = .agg cells.toArray) {t : TypeId} {cs : Array Value} (hb : Blk w b t cs) (hl : cells.length = cs.size)
    (hi : (P.info? ty).map (·.size) = some cs.size) (h1 : ∀ v ∈ cells, v.oneCell' = true)
    (h : ∀ w', Blk w' b t cells.toArray → (∀ k, k ≠ b → w'.heap[k]? = w.heap[k]?) → (∀ {S : Nat → Prop} {w0 : World}, (b < w0.heap.size → S b) → Chg S w0 w → Chg S w0 w') → wpList P ops Q rest (a.put op.dst undef) w') : wpList P ops Q (op :: rest) a w :=
  wpList_store_blk hgd ty x y ho b cells hx hy hb hl hi h1 fun hb' => h _ hb' (fun _ hk => heap_farCells cells 0 w hk) fun hS hc => setCells_chg cells 0 w hS hc
theorem Blk.other {w' : World} {g : Nat} {t : TypeId} {cs : Array Value} (h : Blk w g t cs) (e : w'.heap[g]? = w.heap[g]?) : Blk w' g t cs := e.trans h
theorem results_cells2 {fn : Func} {p q : Tmp} {ty uy : TypeId} (h : fn.results = #[.cell p ty, .cell q uy]) (tmps : Array Value) (g k : Nat) (t u : TypeId) (cs ds : Array Value) (d e : TypeDesc)
    (hp : tmps.getD p undef = .pointer (some ⟨g, 0, none⟩)) (hg : Blk w g t cs) (hu : P.underlying ty = some d) (hd : d.isRow = true) (hi : (P.info? ty).map (·.size) = some cs.size)
    (hq : tmps.getD q undef = .pointer (some ⟨k, 0, none⟩)) (hk : Blk w k u ds) (hu' : P.underlying uy = some e) (he : e.isRow = true) (hi' : (P.info? uy).map (·.size) = some ds.size) :
    (results fn tmps).run P w = .ok (.tuple #[.agg cs, .agg ds]) w := by
  have hp' : tmps[p]?.getD undef = .pointer (some ⟨g, 0, none⟩) := by simpa using hp
  have hq' : tmps[q]?.getD undef = .pointer (some ⟨k, 0, none⟩) := by simpa using hq
  have hr : ∀ (g : Nat) (t ty : TypeId) (cs : Array Value) (d : TypeDesc), Blk w g t cs → P.underlying ty = some d → d.isRow = true → (P.info? ty).map (·.size) = some cs.size → (loadVar ty ⟨g, 0, none⟩).run P w = .ok (.agg cs) w := fun g t ty cs d hg hu hd hi => by
    have := run_loadVar_mid w g 0 ty cs.toList d (fun j v hv => by rw [Nat.zero_add, hg.cell, ← Array.getElem?_toList]; exact hv) hu hd (by simpa using hi)
    simpa using this
  simp [results, h, hp', hq', asAddr, hr g t ty cs d hg hu hd hi, hr k u uy ds e hk hu' he hi', Sem.run_bind]
end

end Pal

/- Walks of skip lists: Backward, path. -/
namespace Go.Proofs.YtifcpippfiglkaaGreat
open Go.RowKit Pal Pal.Skip
attribute [local go_sem] Oper.semAt_some

theorem backward_any (p : Option Addr) (n c : Nat) (w : World) : Calls Tryz.prog 108 #[.slice p n c] w fun e w' => e = .returned (.func (.func 123) #[] #[pt w.heap.size]) ∧ w.alloc (.cells #[.slice p n c] 186) = w' := by
  unfold pt
  go_enter Tryz.func108, Tryz.ntmps108
  go_wp2
  go_ret
  exact ⟨rfl, rfl⟩

/-- The iterator over a slice's places from the last one on: J holds where m are still to come. -/
theorem backward1_any (l b g n c : Nat) (hn : n ≤ 1000) (J : Nat → World → Prop)
    (hJ : ∀ m W, J m W → W.cell? ⟨b, 0, none⟩ = some (.slice (some ⟨g, 0, none⟩) n c) ∧ ∀ i, i < n → ∃ v, W.cell? ⟨g, i, none⟩ = some v)
    (hY : ∀ m u W, m < n → J (m + 1) W → YieldAt Fence.wide 2 Tryz.prog l #[.int .i64 (m : Int), u] W fun e W' => e = .returned (.bool true) ∧ J m W')
    (W : World) (h0 : J n W) :
    Calls Tryz.prog 123 #[.func (.yield l) #[] #[], pt b] W fun e W' => (∃ v, e = .returned v) ∧ J 0 W' := by
  unfold pt
  obtain ⟨hs, _⟩ := hJ _ _ h0
  refine (callsIn_wide (n := 3)).1 ?_
  refine callsIn_of_wp Tryz.func123 rfl trivial ?_ rfl
  simp only [Tryz.ntmps123, List.size_toArray, List.length_cons, List.length_nil, Nat.reduceAdd, Nat.reduceSub, Array.replicate_succ, Array.replicate_zero, List.push_toArray, List.append_toArray, List.nil_append, List.cons_append]
  gi_wp2
  clear hs
  gi_loopw [3] (fun p wr => ∃ (m : Nat), p = .int .i64 ((m : Int) - 1) ∧ m ≤ n ∧ J m wr) (fun p _ => (intOf p + 1).toNat)
  case atStart => exact ⟨n, rfl, Nat.le_refl _, h0⟩
  case round =>
    obtain ⟨m, rfl, hm, hJm⟩ := hrel
    obtain ⟨hs, hc⟩ := hJ _ _ hJm
    cases m with
    | zero =>
      gi_wp2
      go_end0
      exact ⟨⟨_, rfl⟩, hJm⟩
    | succ m =>
      obtain ⟨u, hu⟩ := hc m (by omega)
      obtain ⟨fn, tmps, assign, body, hy, hR⟩ := hY m u wr (by omega) hJm
      have e : ((m + 1 : Nat) : Int) - 1 = (m : Int) := by omega
      rw [e]
      gi_wp2
      refine hR.mono ?_
      rintro e W3 ⟨rfl, hJ3⟩
      gi_wp2
      go_roundw
      case rel => exact ⟨m, rfl, by omega, hJ3⟩
      case measure => simp [intOf]
/-! ### path -/
def fnv (gf : Nat) (lb : Array Value) : Value := .func (.func gf) #[] lb
/-- What is asked at a node: is it among the first k? It changes nothing. -/
def Asks (s : Sk) (k gf : Nat) (lb : Array Value) (w : World) : Prop :=
  ∀ q W, 1 ≤ q → q ≤ s.n → Chg (fun _ => False) w W → Calls Tryz.prog gf (#[pt (s.at_ q), .int .i64 (q : Int)] ++ lb) W fun e W' => e = .returned (.bool (decide (q ≤ k))) ∧ Chg (fun _ => False) W W'

/-- What path has in memory: the function, the results' cells, the nodes, the places, where it stands; the slice that is ranged over. -/
structure PB (w : World) (top : Nat) (f : Value) (W : World) (N L : List Value) (x p : Value) : Prop where
  c : Chg (fun _ => False) w W
  f : Blk W w.heap.size 177 #[f]
  r : Blk W (w.heap.size + 1) 163 (List.replicate 32 (.pointer none)).toArray
  q : Blk W (w.heap.size + 2) 164 (List.replicate 32 (.int .i64 0)).toArray
  n : Blk W (w.heap.size + 3) 163 N.toArray
  l : Blk W (w.heap.size + 4) 164 L.toArray
  x : Blk W (w.heap.size + 5) 126 #[x]
  p : Blk W (w.heap.size + 6) 3 #[p]
  s : Blk W (w.heap.size + 7) 186 #[.slice (some ⟨w.heap.size + 3, 0, none⟩) top 32]
  d : W.heap[w.heap.size + 8]? = some (.deferred (some []))
section
variable {w W W' : World} {top : Nat} {f : Value} {N L : List Value} {x p : Value}
theorem PB.chg0 (h : PB w top f W N L x p) (hc : Chg (fun _ => False) W W') : PB w top f W' N L x p :=
  ⟨h.c.trans hc, h.f.chg hc id, h.r.chg hc id, h.q.chg hc id, h.n.chg hc id, h.l.chg hc id, h.x.chg hc id, h.p.chg hc id, h.s.chg hc id, hc.same h.d id⟩
theorem PB.hasN (h : PB w top f W N L x p) {i : Nat} (hi : i < N.length) : ∃ u, W.cell? ⟨w.heap.size + 3, i, none⟩ = some u := ⟨N[i], (h.n.cell i).trans (by rw [List.getElem?_toArray, List.getElem?_eq_getElem hi])⟩
theorem PB.hasL (h : PB w top f W N L x p) {i : Nat} (hi : i < L.length) : ∃ u, W.cell? ⟨w.heap.size + 4, i, none⟩ = some u := ⟨L[i], (h.l.cell i).trans (by rw [List.getElem?_toArray, List.getElem?_eq_getElem hi])⟩
theorem PB.putL (h : PB w top f W N L x p) (o : Obj) : PB w top f (W.putObj (w.heap.size + 9) o) N L x p :=
  ⟨h.c.put (by omega) o, h.f.putObj (by omega) o, h.r.putObj (by omega) o, h.q.putObj (by omega) o, h.n.putObj (by omega) o, h.l.putObj (by omega) o, h.x.putObj (by omega) o, h.p.putObj (by omega) o, h.s.putObj (by omega) o, (World.putObj_heap_other (by omega)).trans h.d⟩
theorem PB.setX (h : PB w top f W N L x p) (u : Value) : PB w top f (W.setCell ⟨w.heap.size + 5, 0, none⟩ u) N L u p :=
  ⟨h.c.store_new (by omega) 0 u, h.f.far (by simp; try omega) u, h.r.far (by simp; try omega) u, h.q.far (by simp; try omega) u, h.n.far (by simp; try omega) u, h.l.far (by simp; try omega) u, h.x.set 0 u, h.p.far (by simp; try omega) u, h.s.far (by simp; try omega) u,
    (Below.heap_setCell _ _ _ _ (by simp; try omega)).trans h.d⟩
theorem PB.setP (h : PB w top f W N L x p) (u : Value) : PB w top f (W.setCell ⟨w.heap.size + 6, 0, none⟩ u) N L x u :=
  ⟨h.c.store_new (by omega) 0 u, h.f.far (by simp; try omega) u, h.r.far (by simp; try omega) u, h.q.far (by simp; try omega) u, h.n.far (by simp; try omega) u, h.l.far (by simp; try omega) u, h.x.far (by simp; try omega) u, h.p.set 0 u, h.s.far (by simp; try omega) u,
    (Below.heap_setCell _ _ _ _ (by simp; try omega)).trans h.d⟩
theorem PB.setN (h : PB w top f W N L x p) (i : Nat) (u : Value) : PB w top f (W.setCell ⟨w.heap.size + 3, i, none⟩ u) (N.set i u) L x p :=
  ⟨h.c.store_new (by omega) i u, h.f.far (by simp; try omega) u, h.r.far (by simp; try omega) u, h.q.far (by simp; try omega) u, by have := h.n.set i u; rwa [List.setIfInBounds_toArray] at this, h.l.far (by simp; try omega) u, h.x.far (by simp; try omega) u, h.p.far (by simp; try omega) u, h.s.far (by simp; try omega) u,
    (Below.heap_setCell _ _ _ _ (by simp; try omega)).trans h.d⟩
theorem PB.setL (h : PB w top f W N L x p) (i : Nat) (u : Value) : PB w top f (W.setCell ⟨w.heap.size + 4, i, none⟩ u) N (L.set i u) x p :=
  ⟨h.c.store_new (by omega) i u, h.f.far (by simp; try omega) u, h.r.far (by simp; try omega) u, h.q.far (by simp; try omega) u, h.n.far (by simp; try omega) u, by have := h.l.set i u; rwa [List.setIfInBounds_toArray] at this, h.x.far (by simp; try omega) u, h.p.far (by simp; try omega) u, h.s.far (by simp; try omega) u,
    (Below.heap_setCell _ _ _ _ (by simp; try omega)).trans h.d⟩
end

set_option maxRecDepth 100000 in
set_option maxHeartbeats 1000000 in
theorem path_any (s : Sk) (k gf : Nat) (lb : Array Value) (w : World) (base : Nat) (h : SkAt w base s) (hk : k ≤ s.n) (hn : s.n ≤ 100000) (eg : Proofs.Enters Tryz.prog gf) (ha : Asks s k gf lb w) :
    Calls Tryz.prog 100 #[pt s.blk, fnv gf lb] w fun e w' => e = .returned (.tuple #[.agg (s.nodesL k 0).toArray, .agg (s.placesL k 0).toArray]) ∧ Chg (fun _ => False) w w' := by
  unfold pt fnv
  have hh := h.head
  obtain ⟨_, ht, _, hlt, hfr⟩ := hh
  have htop := h.top_le
  have htop' : (top s.lv : Int) ≤ 32 := by omega
  have e1 : s.blk < w.heap.size + 1 := by omega
  have e2 : s.blk < w.heap.size + 1 + 1 := by omega
  have e3 : s.blk < w.heap.size + 1 + 1 + 1 := by omega
  have e4 : s.blk < w.heap.size + 1 + 1 + 1 + 1 := by omega
  have e5 : s.blk < w.heap.size + 1 + 1 + 1 + 1 + 1 := by omega
  have e6 : s.blk < w.heap.size + 1 + 1 + 1 + 1 + 1 + 1 := by omega
  refine calls_of_wp_marks Tryz.func100 rfl ?_
  simp only [Tryz.ntmps100, List.size_toArray, List.length_cons, List.length_nil, Nat.reduceAdd, Nat.reduceSub, Array.replicate_succ, Array.replicate_zero, List.push_toArray, List.append_toArray, List.nil_append, List.cons_append]
  go_wp2_with (go_at_call 108; refine (backward_any _ _ _ _).mono ?_; rintro e w' ⟨rfl, rfl⟩)
  clear e1 e2 e3 e4 e5 e6 ht hfr hlt
  obtain ⟨l0, hl0⟩ : ∃ l0 : List Obj, l0 = [.cells #[fnv gf lb] 177, .cells (List.replicate 32 (.pointer none)).toArray 163, .cells (List.replicate 32 (.int .i64 0)).toArray 164,
    .cells (List.replicate 32 (.pointer none)).toArray 163, .cells (List.replicate 32 (.int .i64 0)).toArray 164, .cells #[pt s.blk] 126, .cells #[.int .i64 0] 3, .cells #[.slice (some ⟨w.heap.size + 3, 0, none⟩) (top s.lv) 32] 186] := ⟨_, rfl⟩
  refine wp_world (l0.foldl World.alloc w) (by rw [hl0]; rfl) ?_
  have hlen : l0.length = 8 := by rw [hl0]; rfl
  have hget : ∀ (i : Nat) (o : Obj), l0[i]? = some o → (l0.foldl World.alloc w).heap[w.heap.size + i]? = some o := fun i o h => allocs_get l0 w i o h
  have hC0 : Chg (fun _ => False) w (l0.foldl World.alloc w) := allocs_chg _ l0 w
  have hsz := allocs_size l0 w
  rw [hlen] at hsz
  generalize l0.foldl World.alloc w = W0 at hget hC0 hsz ⊢
  have hg0 := hget 0 _ (by rw [hl0]; rfl)
  have hg1 := hget 1 _ (by rw [hl0]; rfl)
  have hg2 := hget 2 _ (by rw [hl0]; rfl)
  have hg3 := hget 3 _ (by rw [hl0]; rfl)
  have hg4 := hget 4 _ (by rw [hl0]; rfl)
  have hg5 := hget 5 _ (by rw [hl0]; rfl)
  have hg6 := hget 6 _ (by rw [hl0]; rfl)
  have hg7 := hget 7 _ (by rw [hl0]; rfl)
  clear hget hl0 hlen
  simp only [Nat.add_assoc, Nat.reduceAdd]
  refine wp_range 123 #[pt (w.heap.size + 7)] rfl (enters_of Tryz.func123 (by kernel_rfl) rfl) (fun fn rec hrec => ?_)
  rw [hsz]
  refine (backward1_any (w.heap.size + 8 + 1) (w.heap.size + 7) (w.heap.size + 3) (top s.lv) 32 (by omega)
    (fun m W => PB w (top s.lv) (fnv gf lb) W (s.nodesL k m) (s.placesL k m) (pt (s.at_ (prev s.lv m k))) (.int .i64 (prev s.lv m k : Int)) ∧ W.heap[w.heap.size + 9]? = some (.loop (rec .ready none)))
    ?_ ?_ _ ?_).mono ?_
  · rintro m W ⟨hB, _⟩
    refine ⟨hB.s.cell 0, fun i hi => ?_⟩
    rw [hB.n.cell]
    exact ⟨_, List.getElem?_toArray ▸ List.getElem?_eq_getElem (l := s.nodesL k m) (by unfold Sk.nodesL; simp; omega)⟩
  · rintro m u W hm ⟨hB, hl⟩
    refine yield_body hrec hl rfl (fun K hK => by gi_wp2; exact hK) hl ?_
    clear hrec hg0 hg1 hg2 hg3 hg4 hg5 hg6 hg7
    have hB1 := hB.putL (.loop (rec .busy none))
    have hl1 : (W.putObj (w.heap.size + 9) (.loop (rec .busy none))).heap[w.heap.size + 9]? = some (.loop (rec .busy none)) := World.putObj_heap_same (Array.getElem?_eq_some_iff.1 hl).1
    generalize W.putObj (w.heap.size + 9) (.loop (rec .busy none)) = W1 at hB1 hl1 ⊢
    clear hB hl W
    gi_wp2
    refine wpIn_scope_straight (wpIn_seq (wpIn_label ?_))
    show Code.wpIn _ _ _ _ _ _ _
    gi_wp2
    gi_loopg [] (s.n - prev s.lv (m + 1) k) (fun j W => ∃ p, j = s.n - p ∧ (p = 0 ∨ ab s.lv m p) ∧ p ≤ k ∧ PB w (top s.lv) (fnv gf lb) W (s.nodesL k (m + 1)) (s.placesL k (m + 1)) (pt (s.at_ p)) (.int .i64 (p : Int)) ∧ W.heap[w.heap.size + 9]? = some (.loop (rec .busy none)))
    case atStart =>
      obtain ⟨g1, g2, _⟩ := prev_spec s.lv (m + 1) k
      exact ⟨_, rfl, g2.imp id (ab_up (by omega)), g1, hB1, hl1⟩
    case round =>
      clear hB1 hl1 W1
      obtain ⟨p, rfl, hp, hpk, hB, hl⟩ := hrel
      have hS := h.chg0 hB.c
      obtain ⟨l0, l1⟩ := hS.link hp hm
      have cx := hB.x.cell 0
      have cp := hB.p.cell 0
      have cf := hB.f.cell 0
      simp only [List.getElem?_toArray, List.getElem?_cons_zero] at cx cp cf
      have kf := hB.f.lt
      have kx := hB.x.lt
      have kp := hB.p.lt
      unfold pt at cx
      unfold fnv at cf
      cases hnx : nxt s.lv m p with
      | none =>
        rw [hnx] at l0
        simp only [Sk.go] at l0
        gi_wp2
        refine ⟨(fun _ h => nomatch h), ?_⟩
        have hB' := hB.chg0 ((Chg.refl _ wr).alloc (.cells #[Value.pointer none, Value.int IntKind.i64 (span s.lv m p : Int)] 128))
        have hl' := (Below.heap_alloc wr (.cells #[Value.pointer none, Value.int IntKind.i64 (span s.lv m p : Int)] 128) _ (Array.getElem?_eq_some_iff.1 hl).1).trans hl
        have hpe : prev s.lv m k = p := walk_end hp hpk (fun q hq => by rw [hnx] at hq; cases hq)
        gi_wp2
        clear hB hl l0 l1 cx cp cf kf kx kp hS
        generalize wr.alloc (Obj.cells #[Value.pointer none, Value.int IntKind.i64 (span s.lv m p : Int)] 128) = W2 at hB' hl' ⊢
        have cx := hB'.x.cell 0
        have cp := hB'.p.cell 0
        have cn := hB'.hasN (i := m) (by unfold Sk.nodesL; simp; omega)
        have cl := hB'.hasL (i := m) (by unfold Sk.placesL; simp; omega)
        simp only [List.getElem?_toArray, List.getElem?_cons_zero] at cx cp
        obtain ⟨un, cn⟩ := cn
        obtain ⟨ul, cl⟩ := cl
        have fn_ := hB'.n.frozen m
        have fl_ := hB'.l.frozen m
        have hm32 : (m : Int) < 32 := by omega
        unfold pt at cx
        have hS1 : W2.drew.cell? ⟨w.heap.size + 5, 0, none⟩ = some (.pointer (some ⟨s.at_ p, 0, none⟩)) ∧ W2.drew.cell? ⟨w.heap.size + 6, 0, none⟩ = some (.int .i64 (p : Int)) := ⟨cx, cp⟩
        refine wpIn_region_held 7 (fun V => V.cell? ⟨w.heap.size + 5, 0, none⟩ = some (.pointer (some ⟨s.at_ p, 0, none⟩)) ∧ V.cell? ⟨w.heap.size + 6, 0, none⟩ = some (.int .i64 (p : Int))) (by kernel_rfl) (by kernel_rfl) (by rintro ⟨_, _, h⟩; exact h) ?_
        simp only [List.size_toArray, List.length_cons, List.length_nil, Nat.reduceAdd, Array.replicate_succ, Array.replicate_zero, List.push_toArray, List.nil_append, List.cons_append]
        refine wpAnyF_take 0 (v := .int .i64 (m : Int)) rfl (by kernel_rfl) (by kernel_rfl) (by kernel_rfl) (by kernel_rfl) (fun _ _ _ h => h) hS1 (by rfl) ?_ ?_
        · rintro V ⟨y0, y1⟩
          go_simp
        simp only [Act.put, List.setIfInBounds_toArray, List.set_cons_zero, List.set_cons_succ]
        refine wpAnyF_take 1 (v := .int .i64 (m : Int)) rfl (by kernel_rfl) (by kernel_rfl) (by kernel_rfl) (by kernel_rfl) (fun _ _ _ h => h) hS1 (by rfl) ?_ ?_
        · rintro V ⟨y0, y1⟩
          go_simp
        simp only [Act.put, List.setIfInBounds_toArray, List.set_cons_zero, List.set_cons_succ]
        refine wpAnyF_take 2 (v := .pointer (some ⟨s.at_ p, 0, none⟩)) rfl (by kernel_rfl) (by kernel_rfl) (by kernel_rfl) (by kernel_rfl) (fun _ _ _ h => h) hS1 (by rfl) ?_ ?_
        · rintro V ⟨y0, y1⟩
          go_simp
        simp only [Act.put, List.setIfInBounds_toArray, List.set_cons_zero, List.set_cons_succ]
        refine wpAnyF_take 3 (v := .int .i64 (p : Int)) rfl (by kernel_rfl) (by kernel_rfl) (by kernel_rfl) (by kernel_rfl) (fun _ _ _ h => h) hS1 (by rfl) ?_ ?_
        · rintro V ⟨y0, y1⟩
          go_simp
        simp only [Act.put, List.setIfInBounds_toArray, List.set_cons_zero, List.set_cons_succ]
        refine wpAnyF_take 4 (v := .pointer (some ⟨w.heap.size + 3, m, none⟩)) rfl (by kernel_rfl) (by kernel_rfl) (by kernel_rfl) (by kernel_rfl) (fun _ _ _ h => h) hS1 (by rfl) ?_ ?_
        · rintro V ⟨y0, y1⟩
          go_simp
        simp only [Act.put, List.setIfInBounds_toArray, List.set_cons_zero, List.set_cons_succ]
        have hS2 : (W2.drew.setCell ⟨w.heap.size + 3, m, none⟩ (.pointer (some ⟨s.at_ p, 0, none⟩))).cell? ⟨w.heap.size + 5, 0, none⟩ = some (.pointer (some ⟨s.at_ p, 0, none⟩)) ∧ (W2.drew.setCell ⟨w.heap.size + 3, m, none⟩ (.pointer (some ⟨s.at_ p, 0, none⟩))).cell? ⟨w.heap.size + 6, 0, none⟩ = some (.int .i64 (p : Int)) := by
          have h9 := (hB'.chg0 (Chg.refl _ W2).drew).setN m (.pointer (some ⟨s.at_ p, 0, none⟩))
          exact ⟨h9.x.cell 0, h9.p.cell 0⟩
        refine wpAnyF_one 5 (by kernel_rfl) rfl (fun K hK => ?_)
        go_simp
        refine hK _ _ (fun _ => hS2) ?_
        clear hK K
        refine wpAnyF_one 6 (by kernel_rfl) rfl (fun K hK => ?_)
        go_simp
        refine hK _ _ (fun _ => hS2) ?_
        clear hK K
        refine wpAnyF_one 7 (by kernel_rfl) rfl (fun K hK => ?_)
        go_simp
        refine hK _ _ (fun h => absurd rfl h) ?_
        clear hK K
        refine wpAnyF_done (by kernel_rfl) ?_ _
        have h9 := (((hB'.setN m (.pointer (some ⟨s.at_ p, 0, none⟩))).setL m (.int .i64 (p : Int))).chg0 (Chg.refl _ _).drew)
        have h9l : (((W2.setCell ⟨w.heap.size + 3, m, none⟩ (.pointer (some ⟨s.at_ p, 0, none⟩))).setCell ⟨w.heap.size + 4, m, none⟩ (.int .i64 (p : Int))).drew).heap[w.heap.size + 9]? = some (.loop (rec .busy none)) :=
          (Below.heap_setCell _ _ _ _ (by simp)).trans ((Below.heap_setCell _ _ _ _ (by simp)).trans hl')
        have e1 := s.nodesL_set k hm
        have e2 := s.placesL_set k hm
        rw [hpe] at e1 e2
        unfold pt at e1
        rw [e1, e2, ← hpe] at h9
        rw [← hpe] at h9l ⊢
        exact ⟨h9l, rfl, h9.putL _, World.putObj_heap_same (Array.getElem?_eq_some_iff.1 h9l).1⟩
      | some q =>
        have hq := (nxt_some.1 hnx).2.1
        have hq1 : 1 ≤ q := hq.1
        have hpq := (nxt_some.1 hnx).1
        have hqn : q ≤ s.n := by have := hq.2.1; rwa [s.lv_len] at this
        have hsp := span_some hnx
        rw [hnx] at l0
        simp only [Sk.go] at l0
        unfold pt at l0
        have hadd : IntKind.i64.wrap ((p : Int) + (span s.lv m p : Int)) = (q : Int) := by
          rw [← hsp]
          have : (p : Int) + (span s.lv m p : Int) = ((p + span s.lv m p : Nat) : Int) := by omega
          rw [this, hsp]
          exact IntWalk.i64_in _ (by omega)
        gi_wp2
        refine ⟨trivial, ?_⟩
        rw [eg _ _]
        gi_wp2
        refine CallsIn.inRound _ (callsIn_wide.2 ((ha q _ hq1 hqn (hB.c.trans ((Chg.refl _ wr).alloc _))).mono ?_))
        rintro e V ⟨rfl, hcv⟩
        have hcW := ((Chg.refl (fun _ => False) wr).alloc (.cells #[Value.pointer (some ⟨s.at_ q, 0, none⟩), Value.int IntKind.i64 (span s.lv m p : Int)] 128)).trans hcv
        have hB' := hB.chg0 hcW
        have hl' := hcW.same hl id
        have hNx := (Blk.new wr 128 #[Value.pointer (some ⟨s.at_ q, 0, none⟩), Value.int IntKind.i64 (span s.lv m p : Int)]).chg hcv id
        clear hB hl l0 l1 cx cp cf hS kf kx kp hcv hcW
        obtain ⟨g, hg⟩ : ∃ g, wr.heap.size = g := ⟨_, rfl⟩
        rw [hg] at hNx ⊢
        by_cases hqk : q ≤ k
        · rw [decide_eq_true hqk]
          have n0 := hNx.cell 0
          have n1 := hNx.cell 1
          have cx := hB'.x.cell 0
          have cp := hB'.p.cell 0
          simp only [List.getElem?_toArray, List.getElem?_cons_zero, List.getElem?_cons_succ] at n0 n1 cx cp
          have hfx := hB'.x.frozen 0
          have hfp := hB'.p.frozen 0
          gi_wp2
          have hS1 : V.drew.cell? ⟨g, 0, none⟩ = some (.pointer (some ⟨s.at_ q, 0, none⟩)) ∧ V.drew.cell? ⟨g, 1, none⟩ = some (.int .i64 (span s.lv m p : Int)) ∧ V.drew.cell? ⟨w.heap.size + 6, 0, none⟩ = some (.int .i64 (p : Int)) := ⟨n0, n1, cp⟩
          have hgx : g ≠ w.heap.size + 5 := hNx.ne_type hB'.x (by decide)
          refine wpIn_region_held 7 (fun V => V.cell? ⟨g, 0, none⟩ = some (.pointer (some ⟨s.at_ q, 0, none⟩)) ∧ V.cell? ⟨g, 1, none⟩ = some (.int .i64 (span s.lv m p : Int)) ∧ V.cell? ⟨w.heap.size + 6, 0, none⟩ = some (.int .i64 (p : Int))) (by kernel_rfl) (by kernel_rfl) (by rintro ⟨_, _, h⟩; exact h) ?_
          simp only [List.size_toArray, List.length_cons, List.length_nil, Nat.reduceAdd, Array.replicate_succ, Array.replicate_zero, List.push_toArray, List.nil_append, List.cons_append]
          refine wpAnyF_take 0 (v := .pointer (some ⟨g, 0, none⟩)) rfl (by kernel_rfl) (by kernel_rfl) (by kernel_rfl) (by kernel_rfl) (fun _ _ _ h => h) hS1 (by rfl) ?_ ?_
          · rintro U ⟨y0, y1, y2⟩
            go_simp
          simp only [Act.put, List.setIfInBounds_toArray, List.set_cons_zero, List.set_cons_succ]
          refine wpAnyF_take 1 (v := .pointer (some ⟨s.at_ q, 0, none⟩)) rfl (by kernel_rfl) (by kernel_rfl) (by kernel_rfl) (by kernel_rfl) (fun _ _ _ h => h) hS1 (by rfl) ?_ ?_
          · rintro U ⟨y0, y1, y2⟩
            go_simp
          simp only [Act.put, List.setIfInBounds_toArray, List.set_cons_zero, List.set_cons_succ]
          refine wpAnyF_take 2 (v := .int .i64 (p : Int)) rfl (by kernel_rfl) (by kernel_rfl) (by kernel_rfl) (by kernel_rfl) (fun _ _ _ h => h) hS1 (by rfl) ?_ ?_
          · rintro U ⟨y0, y1, y2⟩
            go_simp
          simp only [Act.put, List.setIfInBounds_toArray, List.set_cons_zero, List.set_cons_succ]
          refine wpAnyF_take 3 (v := .pointer (some ⟨g, 1, none⟩)) rfl (by kernel_rfl) (by kernel_rfl) (by kernel_rfl) (by kernel_rfl) (fun _ _ _ h => h) hS1 (by rfl) ?_ ?_
          · rintro U ⟨y0, y1, y2⟩
            go_simp
          simp only [Act.put, List.setIfInBounds_toArray, List.set_cons_zero, List.set_cons_succ]
          refine wpAnyF_take 4 (v := .int .i64 (span s.lv m p : Int)) rfl (by kernel_rfl) (by kernel_rfl) (by kernel_rfl) (by kernel_rfl) (fun _ _ _ h => h) hS1 (by rfl) ?_ ?_
          · rintro U ⟨y0, y1, y2⟩
            go_simp
          simp only [Act.put, List.setIfInBounds_toArray, List.set_cons_zero, List.set_cons_succ]
          refine wpAnyF_take 5 (v := .int .i64 (q : Int)) rfl (by kernel_rfl) (by kernel_rfl) (by kernel_rfl) (by kernel_rfl) (fun _ _ _ h => h) hS1 (by rfl) ?_ ?_
          · rintro U ⟨y0, y1, y2⟩
            go_simp
          simp only [Act.put, List.setIfInBounds_toArray, List.set_cons_zero, List.set_cons_succ]
          have hB2 := (hB'.chg0 (Chg.refl _ V).drew).setX (.pointer (some ⟨s.at_ q, 0, none⟩))
          have hN2 := (hNx.drew).far (p := ⟨w.heap.size + 5, 0, none⟩) hgx (.pointer (some ⟨s.at_ q, 0, none⟩))
          refine wpAnyF_one 6 (by kernel_rfl) rfl (fun K hK => ?_)
          go_simp
          refine hK _ _ (fun _ => ⟨hN2.cell 0, hN2.cell 1, hB2.p.cell 0⟩) ?_
          clear hK K
          refine wpAnyF_one 7 (by kernel_rfl) rfl (fun K hK => ?_)
          go_simp
          refine hK _ _ (fun h => absurd rfl h) ?_
          clear hK K
          refine wpAnyF_done (by kernel_rfl) ?_ _
          have hB3 := (hB2.setP (.int .i64 (q : Int)))
          have hl3 : ((V.drew.setCell ⟨w.heap.size + 5, 0, none⟩ (.pointer (some ⟨s.at_ q, 0, none⟩))).setCell ⟨w.heap.size + 6, 0, none⟩ (.int .i64 (q : Int))).heap[w.heap.size + 9]? = some (.loop (rec .busy none)) :=
            (Below.heap_setCell _ _ _ _ (by simp)).trans ((Below.heap_setCell _ _ _ _ (by simp)).trans hl')
          gi_wp2
          gi_roundg (s.n - q)
          case rel => exact ⟨q, rfl, .inr hq, hqk, hB3, hl3⟩
          case measure => omega
        · rw [decide_eq_false hqk]
          have hpe : prev s.lv m k = p := walk_end hp hpk (fun q' hq => by rw [hnx] at hq; injection hq with hq; omega)
          gi_wp2
          generalize V = W2 at hB' hl' ⊢
          have cx := hB'.x.cell 0
          have cp := hB'.p.cell 0
          have cn := hB'.hasN (i := m) (by unfold Sk.nodesL; simp; omega)
          have cl := hB'.hasL (i := m) (by unfold Sk.placesL; simp; omega)
          simp only [List.getElem?_toArray, List.getElem?_cons_zero] at cx cp
          obtain ⟨un, cn⟩ := cn
          obtain ⟨ul, cl⟩ := cl
          have fn_ := hB'.n.frozen m
          have fl_ := hB'.l.frozen m
          have hm32 : (m : Int) < 32 := by omega
          unfold pt at cx
          have hS1 : W2.drew.cell? ⟨w.heap.size + 5, 0, none⟩ = some (.pointer (some ⟨s.at_ p, 0, none⟩)) ∧ W2.drew.cell? ⟨w.heap.size + 6, 0, none⟩ = some (.int .i64 (p : Int)) := ⟨cx, cp⟩
          refine wpIn_region_held 7 (fun V => V.cell? ⟨w.heap.size + 5, 0, none⟩ = some (.pointer (some ⟨s.at_ p, 0, none⟩)) ∧ V.cell? ⟨w.heap.size + 6, 0, none⟩ = some (.int .i64 (p : Int))) (by kernel_rfl) (by kernel_rfl) (by rintro ⟨_, _, h⟩; exact h) ?_
          simp only [List.size_toArray, List.length_cons, List.length_nil, Nat.reduceAdd, Array.replicate_succ, Array.replicate_zero, List.push_toArray, List.nil_append, List.cons_append]
          refine wpAnyF_take 0 (v := .int .i64 (m : Int)) rfl (by kernel_rfl) (by kernel_rfl) (by kernel_rfl) (by kernel_rfl) (fun _ _ _ h => h) hS1 (by rfl) ?_ ?_
          · rintro V ⟨y0, y1⟩
            go_simp
          simp only [Act.put, List.setIfInBounds_toArray, List.set_cons_zero, List.set_cons_succ]
          refine wpAnyF_take 1 (v := .int .i64 (m : Int)) rfl (by kernel_rfl) (by kernel_rfl) (by kernel_rfl) (by kernel_rfl) (fun _ _ _ h => h) hS1 (by rfl) ?_ ?_
          · rintro V ⟨y0, y1⟩
            go_simp
          simp only [Act.put, List.setIfInBounds_toArray, List.set_cons_zero, List.set_cons_succ]
          refine wpAnyF_take 2 (v := .pointer (some ⟨s.at_ p, 0, none⟩)) rfl (by kernel_rfl) (by kernel_rfl) (by kernel_rfl) (by kernel_rfl) (fun _ _ _ h => h) hS1 (by rfl) ?_ ?_
          · rintro V ⟨y0, y1⟩
            go_simp
          simp only [Act.put, List.setIfInBounds_toArray, List.set_cons_zero, List.set_cons_succ]
          refine wpAnyF_take 3 (v := .int .i64 (p : Int)) rfl (by kernel_rfl) (by kernel_rfl) (by kernel_rfl) (by kernel_rfl) (fun _ _ _ h => h) hS1 (by rfl) ?_ ?_
          · rintro V ⟨y0, y1⟩
            go_simp
          simp only [Act.put, List.setIfInBounds_toArray, List.set_cons_zero, List.set_cons_succ]
          refine wpAnyF_take 4 (v := .pointer (some ⟨w.heap.size + 3, m, none⟩)) rfl (by kernel_rfl) (by kernel_rfl) (by kernel_rfl) (by kernel_rfl) (fun _ _ _ h => h) hS1 (by rfl) ?_ ?_
          · rintro V ⟨y0, y1⟩
            go_simp
          simp only [Act.put, List.setIfInBounds_toArray, List.set_cons_zero, List.set_cons_succ]
          have hS2 : (W2.drew.setCell ⟨w.heap.size + 3, m, none⟩ (.pointer (some ⟨s.at_ p, 0, none⟩))).cell? ⟨w.heap.size + 5, 0, none⟩ = some (.pointer (some ⟨s.at_ p, 0, none⟩)) ∧ (W2.drew.setCell ⟨w.heap.size + 3, m, none⟩ (.pointer (some ⟨s.at_ p, 0, none⟩))).cell? ⟨w.heap.size + 6, 0, none⟩ = some (.int .i64 (p : Int)) := by
            have h9 := (hB'.chg0 (Chg.refl _ W2).drew).setN m (.pointer (some ⟨s.at_ p, 0, none⟩))
            exact ⟨h9.x.cell 0, h9.p.cell 0⟩
          refine wpAnyF_one 5 (by kernel_rfl) rfl (fun K hK => ?_)
          go_simp
          refine hK _ _ (fun _ => hS2) ?_
          clear hK K
          refine wpAnyF_one 6 (by kernel_rfl) rfl (fun K hK => ?_)
          go_simp
          refine hK _ _ (fun _ => hS2) ?_
          clear hK K
          refine wpAnyF_one 7 (by kernel_rfl) rfl (fun K hK => ?_)
          go_simp
          refine hK _ _ (fun h => absurd rfl h) ?_
          clear hK K
          refine wpAnyF_done (by kernel_rfl) ?_ _
          have h9 := (((hB'.setN m (.pointer (some ⟨s.at_ p, 0, none⟩))).setL m (.int .i64 (p : Int))).chg0 (Chg.refl _ _).drew)
          have h9l : (((W2.setCell ⟨w.heap.size + 3, m, none⟩ (.pointer (some ⟨s.at_ p, 0, none⟩))).setCell ⟨w.heap.size + 4, m, none⟩ (.int .i64 (p : Int))).drew).heap[w.heap.size + 9]? = some (.loop (rec .busy none)) :=
            (Below.heap_setCell _ _ _ _ (by simp)).trans ((Below.heap_setCell _ _ _ _ (by simp)).trans hl')
          have e1 := s.nodesL_set k hm
          have e2 := s.placesL_set k hm
          rw [hpe] at e1 e2
          unfold pt at e1
          rw [e1, e2, ← hpe] at h9
          rw [← hpe] at h9l ⊢
          exact ⟨h9l, rfl, h9.putL _, World.putObj_heap_same (Array.getElem?_eq_some_iff.1 h9l).1⟩
  · have ha : ∀ i o, ([Obj.deferred (some []), Obj.loop (rec .ready none)] : List Obj)[i]? = some o → ((W0.alloc (.deferred (some []))).alloc (.loop (rec .ready none))).heap[w.heap.size + 8 + i]? = some o := fun i o h => by
      have := allocs_get [Obj.deferred (some []), Obj.loop (rec .ready none)] W0 i o h
      rwa [hsz] at this
    have hc := hC0.trans (allocs_chg _ [Obj.deferred (some []), Obj.loop (rec .ready none)] W0)
    have hk0 : ∀ (i : Nat) (t : TypeId) (cs : Array Value), i < 8 → Blk W0 (w.heap.size + i) t cs → Blk ((W0.alloc (.deferred (some []))).alloc (.loop (rec .ready none))) (w.heap.size + i) t cs := fun i t cs _ hb => (hb.alloc _).alloc _
    refine ⟨⟨hc, hk0 0 _ _ (by omega) hg0, hk0 1 _ _ (by omega) hg1, hk0 2 _ _ (by omega) hg2, ?_, ?_, ?_, ?_, hk0 7 _ _ (by omega) hg7, ha 0 _ rfl⟩, ha 1 _ rfl⟩
    · rw [s.nodesL_top]; exact hk0 3 _ _ (by omega) hg3
    · rw [s.placesL_top]; exact hk0 4 _ _ (by omega) hg4
    · rw [prev_zero_top]; exact hk0 5 _ _ (by omega) hg5
    · rw [prev_zero_top]; exact hk0 6 _ _ (by omega) hg6
  · rintro e W ⟨⟨v, rfl⟩, hB, hl⟩
    refine ⟨⟨_, rfl⟩, .inl ⟨hl, ?_⟩⟩
    clear hg0 hg1 hg2 hg3 hg4 hg5 hg6 hg7 hrec
    have hB1 := hB.putL (.loop (rec .exhausted none))
    generalize W.putObj (w.heap.size + 9) (.loop (rec .exhausted none)) = W1 at hB1 ⊢
    clear hB hl
    go_wp2_with fail
    refine wp_normal ?_
    have hlN : (s.nodesL k 0).length = 32 := by unfold Sk.nodesL; simp
    have hlP : (s.placesL k 0).length = 32 := by unfold Sk.placesL; simp
    refine wp_region_heldF 3 (fun V => Blk V (w.heap.size + 3) 163 (s.nodesL k 0).toArray ∧ Blk V (w.heap.size + 4) 164 (s.placesL k 0).toArray) (by kernel_rfl) ?_
    simp only [List.size_toArray, List.length_cons, List.length_nil, Nat.reduceAdd, Array.replicate_succ, Array.replicate_zero, List.push_toArray, List.nil_append, List.cons_append]
    refine wpAnyF_take 0 (v := .agg (s.nodesL k 0).toArray) rfl (by kernel_rfl) (by kernel_rfl) (by kernel_rfl) (by kernel_rfl) (fun _ _ _ h => h) ⟨hB1.n.drew, hB1.l.drew⟩ (by rfl) ?_ ?_
    · rintro V ⟨hV1, hV2⟩
      exact exec_load_mid 163 (.tmp 6) rfl (w.heap.size + 3) 0 rfl _ _ hV1.range Tryz.underlying163 rfl (by rw [hlN]; kernel_rfl)
    simp only [Act.put, List.getElem_toArray, List.getElem_cons_zero, List.getElem_cons_succ, List.setIfInBounds_toArray, List.set_cons_zero, List.set_cons_succ]
    refine wpAnyF_take 1 (v := .agg (s.placesL k 0).toArray) rfl (by kernel_rfl) (by kernel_rfl) (by kernel_rfl) (by kernel_rfl) (fun _ _ _ h => h) ⟨hB1.n.drew, hB1.l.drew⟩ (by rfl) ?_ ?_
    · rintro V ⟨hV1, hV2⟩
      exact exec_load_mid 164 (.tmp 7) rfl (w.heap.size + 4) 0 rfl _ _ hV2.range Tryz.underlying164 rfl (by rw [hlP]; kernel_rfl)
    simp only [Act.put, List.getElem_toArray, List.getElem_cons_zero, List.getElem_cons_succ, List.setIfInBounds_toArray, List.set_cons_zero, List.set_cons_succ]
    have hc2 := (hB1.chg0 (Chg.refl _ W1).drew)
    have hzN : (s.nodesL k 0).toArray.size = 32 := by rw [← hlN]; rfl
    have hzP : (s.placesL k 0).toArray.size = 32 := by rw [← hlP]; rfl
    refine wpAnyF_one 2 (by kernel_rfl) rfl (fun K hK => ?_)
    refine step_store_mid (by rfl) 163 (.tmp 4) (.tmp 55) rfl (w.heap.size + 1) 0 (s.nodesL k 0).toArray rfl rfl (by have := hc2.r.there_; rw [hzN]; exact this) (by rw [hzN]; kernel_rfl) (all_oneCell_toArray (s.nodesL_one k 0)) ?_
    refine hK _ _ (fun _ => ⟨Blk.farCells _ 0 _ (by omega) hc2.n, Blk.farCells _ 0 _ (by omega) hc2.l⟩) ?_
    clear hK K
    try simp only [Act.put, List.getElem_toArray, List.getElem_cons_zero, List.getElem_cons_succ, List.setIfInBounds_toArray, List.set_cons_zero, List.set_cons_succ]
    refine wpAnyF_one 3 (by kernel_rfl) rfl (fun K hK => ?_)
    refine step_store_mid (by rfl) 164 (.tmp 5) (.tmp 56) rfl (w.heap.size + 2) 0 (s.placesL k 0).toArray rfl rfl (by have := (Blk.farCells (s.nodesL k 0) 0 _ (b := w.heap.size + 1) (by omega) hc2.q).there_; rw [hzP]; exact this) (by rw [hzP]; kernel_rfl) (all_oneCell_toArray (s.placesL_one k 0)) ?_
    refine hK _ _ (fun h => absurd rfl h) ?_
    clear hK K
    try simp only [Act.put, List.getElem_toArray, List.getElem_cons_zero, List.getElem_cons_succ, List.setIfInBounds_toArray, List.set_cons_zero, List.set_cons_succ]
    have hr9 : Blk ((W1.drew.setCells (w.heap.size + 1) 0 (s.nodesL k 0)).setCells (w.heap.size + 2) 0 (s.placesL k 0)) (w.heap.size + 1) 163 (s.nodesL k 0).toArray := Blk.farCells _ 0 _ (by omega) (hc2.r.setAll _ (by rw [hlN]; rfl))
    have hq9 : Blk ((W1.drew.setCells (w.heap.size + 1) 0 (s.nodesL k 0)).setCells (w.heap.size + 2) 0 (s.placesL k 0)) (w.heap.size + 2) 164 (s.placesL k 0).toArray := (Blk.farCells (s.nodesL k 0) 0 _ (b := w.heap.size + 1) (by omega) hc2.q).setAll _ (by rw [hlP]; rfl)
    have hC9 : Chg (fun _ => False) w ((W1.drew.setCells (w.heap.size + 1) 0 (s.nodesL k 0)).setCells (w.heap.size + 2) 0 (s.placesL k 0)) := setCells_chg _ 0 _ (by omega) (setCells_chg _ 0 _ (by omega) hc2.c)
    have hd9 : ((W1.drew.setCells (w.heap.size + 1) 0 (s.nodesL k 0)).setCells (w.heap.size + 2) 0 (s.placesL k 0)).heap[w.heap.size + 8]? = some (.deferred (some [])) := (heap_farCells _ 0 _ (by omega)).trans ((heap_farCells _ 0 _ (by omega)).trans hc2.d)
    refine wpAnyF_done (by kernel_rfl) ?_ _
    try simp only [List.toList_toArray]
    generalize (W1.drew.setCells (w.heap.size + 1) 0 (s.nodesL k 0)).setCells (w.heap.size + 2) 0 (s.placesL k 0) = W9 at hr9 hq9 hC9 hd9 ⊢
    clear hB1 hc2
    go_wp2_with fail
    refine bodyPostM_ret (D := w.heap.size + 8) rfl hd9 (results_cells2 rfl _ (w.heap.size + 1) (w.heap.size + 2) _ _ (s.nodesL k 0).toArray (s.placesL k 0).toArray _ _ rfl (hr9.putObj (by omega) _) Tryz.underlying163 rfl (by rw [hzN]; kernel_rfl) rfl (hq9.putObj (by omega) _) Tryz.underlying164 rfl (by rw [hzP]; kernel_rfl)) ⟨rfl, hC9.put (by omega) _⟩
end Go.Proofs.YtifcpippfiglkaaGreat

/- Two entries are compared. -/
namespace Go.Proofs.YtifcpippfiglkaaGreat
open Go.RowKit Pal
theorem en_beq (a b : En) : (a.m.toList == b.m.toList && a.s == b.s) = decide (a = b) := by
  obtain ⟨⟨⟨x⟩⟩, s⟩ := a
  obtain ⟨⟨⟨y⟩⟩, t⟩ := b
  simp only [ByteArray.toList_eq]
  by_cases h : x = y
  · subst h
    by_cases h2 : s = t
    · subst h2; simp
    · have : (s == t) = false := by rw [beq_eq_false_iff_ne]; exact h2
      simp [this, h2]
  · have : (x == y) = false := by rw [beq_eq_false_iff_ne]; exact h
    simp [this, h]
theorem ent_stood : Tryz.prog.stoodInHeld 54 = false := by kernel_rfl
theorem ent_guard : Tryz.prog.eqGuardType Tryz.prog.depth 54 = false := by kernel_rfl
set_option maxRecDepth 100000 in
theorem eq_entry (a b : En) (w : World) : (binOp .eql 54 (.agg #[.string a.m, .int .i64 a.s]) (.agg #[.string b.m, .int .i64 b.s])).run Tryz.prog w = .ok (.bool (decide (a = b))) w := by
  rw [← en_beq, run_eql_struct, run_equalIn_struct w 9999 _ _ _ (by kernel_rfl) ent_stood]
  simp [go_sem]
  by_cases h1 : a.m.toList = b.m.toList
  · by_cases h2 : a.s = b.s
    · simp [h1, h2]
    · have : (a.s == b.s) = false := by rw [beq_eq_false_iff_ne]; exact h2
      simp [h1, h2]
  · have : (a.m.toList == b.m.toList) = false := by rw [beq_eq_false_iff_ne]; exact h1
    simp [h1]
theorem guard_entry (x y : Operand) (a b : Array Value) (w : World) : (eqGuard .eql 54 x y (.agg a) (.agg b)).run Tryz.prog w = .ok () w := run_eqGuard_agg w .eql _ x y a b ent_guard
end Go.Proofs.YtifcpippfiglkaaGreat
