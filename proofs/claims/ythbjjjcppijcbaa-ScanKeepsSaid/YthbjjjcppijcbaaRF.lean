/- Words for memory ('Chg', 'Blk'), and the law of a range over a function, in the plain calculus. -/
import Derived.RangeFuncNested
import Derived.RangeFuncBound
import Derived.RangeFuncCalls
import Derived.RangeFuncLeaves
import Derived.Shelf.Abstract
import Derived.Below
import Derived.Laws.OwnMore
import Derived.Deep.Draws
namespace Pal
open Go Go.RowKit

/-! ### what a call changes: the blocks in S alone, of those that lay -/
structure Chg (S : Nat → Prop) (w w' : World) : Prop where
  os : w'.os = w.os
  tape : w'.tape = w.tape
  output : w'.output = w.output
  size : w.heap.size ≤ w'.heap.size
  block : ∀ k, k < w.heap.size → ¬ S k → w'.heap[k]? = w.heap[k]?

section
variable {S S' : Nat → Prop} {a b c w w' : World}
theorem Chg.refl (S : Nat → Prop) (w : World) : Chg S w w := ⟨rfl, rfl, rfl, Nat.le_refl _, fun _ _ _ => rfl⟩
theorem Chg.trans' (h : Chg S a b) (k : Chg S' b c) (hs : ∀ k, k < a.heap.size → S' k → S k) : Chg S a c :=
  ⟨k.os.trans h.os, k.tape.trans h.tape, k.output.trans h.output, Nat.le_trans h.size k.size,
   fun i hi hn => (k.block i (Nat.lt_of_lt_of_le hi h.size) (fun e => hn (hs i hi e))).trans (h.block i hi hn)⟩
theorem Chg.trans (h : Chg S a b) (k : Chg S b c) : Chg S a c := h.trans' k fun _ _ e => e
theorem Chg.mono (h : Chg S a b) (hs : ∀ k, k < a.heap.size → S k → S' k) : Chg S' a b :=
  ⟨h.os, h.tape, h.output, h.size, fun i hi hn => h.block i hi fun e => hn (hs i hi e)⟩
theorem Chg.alloc (h : Chg S a w) (o : Obj) : Chg S a (w.alloc o) :=
  h.trans ⟨rfl, rfl, rfl, by simp, fun k hk _ => Below.heap_alloc _ _ _ hk⟩
theorem Chg.drew (h : Chg S a w) : Chg S a w.drew := ⟨h.os, h.tape, h.output, h.size, h.block⟩
theorem Chg.drewN (h : Chg S a w) (n : Nat) : Chg S a (w.drewN n) := ⟨h.os, h.tape, h.output, h.size, h.block⟩
theorem Chg.setCell (h : Chg S a w) {p : Addr} (hp : p.block < a.heap.size → S p.block) (u : Value) : Chg S a (w.setCell p u) :=
  ⟨h.os, h.tape, h.output, by simpa [World.setCell] using h.size, fun k hk hn => (Below.heap_setCell _ _ _ _ (fun e => by subst e; exact hn (hp hk))).trans (h.block k hk hn)⟩
theorem Chg.store (h : Chg S a w) {b : Nat} (hb : S b) (i : Nat) (u : Value) : Chg S a (w.setCell ⟨b, i, none⟩ u) := h.setCell (p := ⟨b, i, none⟩) (fun _ => hb) u
theorem Chg.store_new (h : Chg S a w) {b : Nat} (hb : a.heap.size ≤ b) (i : Nat) (u : Value) : Chg S a (w.setCell ⟨b, i, none⟩ u) :=
  h.setCell (p := ⟨b, i, none⟩) (fun hlt => absurd hlt (Nat.not_lt.2 hb)) u
theorem Chg.put (h : Chg S a w) {l : Nat} (hb : a.heap.size ≤ l) (o : Obj) : Chg S a (w.putObj l o) :=
  ⟨h.os, h.tape, h.output, by simpa using h.size, fun k hk hn => (World.putObj_heap_other (by omega)).trans (h.block k hk hn)⟩
theorem Chg.putObj (h : Chg S a w) {l : Nat} (hp : l < a.heap.size → S l) (o : Obj) : Chg S a (w.putObj l o) :=
  ⟨h.os, h.tape, h.output, by simpa using h.size, fun k hk hn => (World.putObj_heap_other (fun e => by subst e; exact hn (hp hk))).trans (h.block k hk hn)⟩
theorem Chg.below (h : Chg (fun _ => False) a b) : Below a.heap.size a b := ⟨h.os, h.tape, h.output, h.size, fun k hk => h.block k hk id⟩
theorem Chg.of_below (h : Below a.heap.size a b) : Chg S a b := ⟨h.os, h.tape, h.output, h.size, fun k hk _ => h.block k hk⟩
theorem Chg.of_grown {row : Option Nat} (h : w.grownBy w' row) (hs : ∀ g, row = some g → S g) : Chg S w w' :=
  ⟨h.os, h.tape, h.output, h.size, fun k hk hn => h.block k hk (fun e => hn (hs k e.symm))⟩
theorem Chg.same (h : Chg S w w') {g : Nat} {o : Obj} (hg : w.heap[g]? = some o) (hn : ¬ S g) : w'.heap[g]? = some o :=
  (h.block g (Array.getElem?_eq_some_iff.1 hg).1 hn).trans hg
end

/-! ### a block that is known whole -/
def Blk (w : World) (g : Nat) (t : TypeId) (cs : Array Value) : Prop := w.heap[g]? = some (.cells cs t (0, 0))

section
variable {w w' : World} {g : Nat} {t : TypeId} {cs : Array Value}
theorem Blk.lt (h : Blk w g t cs) : g < w.heap.size := (Array.getElem?_eq_some_iff.1 h).1
theorem Blk.cell (h : Blk w g t cs) (i : Nat) : w.cell? ⟨g, i, none⟩ = cs[i]? := cell_of_row w g i cs t (0, 0) h
theorem Blk.frozen (h : Blk w g t cs) (i : Nat) : w.frozen? ⟨g, i, none⟩ = false := by
  unfold Blk at h
  simp [World.frozen?, h]
theorem Blk.new (w : World) (t : TypeId) (cs : Array Value) : Blk (w.alloc (.cells cs t)) w.heap.size t cs := World.alloc_heap_new w _
theorem Blk.drew (h : Blk w g t cs) : Blk w.drew g t cs := h
theorem Blk.drewN (h : Blk w g t cs) (n : Nat) : Blk (w.drewN n) g t cs := h
theorem Blk.alloc (h : Blk w g t cs) (o : Obj) : Blk (w.alloc o) g t cs := (Below.heap_alloc w o g h.lt).trans h
theorem Blk.set (h : Blk w g t cs) (i : Nat) (u : Value) : Blk (w.setCell ⟨g, i, none⟩ u) g t (cs.setIfInBounds i u) := by
  unfold Blk at h ⊢
  simp [World.setCell, Array.getElem?_modify, h]
theorem Blk.far (h : Blk w g t cs) {p : Addr} (hp : g ≠ p.block) (u : Value) : Blk (w.setCell p u) g t cs := (Below.heap_setCell w p u g hp).trans h
theorem Blk.putObj (h : Blk w g t cs) {l : Nat} (hp : g ≠ l) (o : Obj) : Blk (w.putObj l o) g t cs := (World.putObj_heap_other hp).trans h
theorem Blk.chg {S : Nat → Prop} (h : Blk w g t cs) (hc : Chg S w w') (hn : ¬ S g) : Blk w' g t cs := hc.same h hn
theorem Blk.ne_type (h : Blk w g t cs) {g' : Nat} {t' : TypeId} {cs' : Array Value} (h' : Blk w g' t' cs') (hne : t ≠ t') : g ≠ g' := by
  rintro rfl
  unfold Blk at h h'
  rw [h] at h'
  injection h' with h'
  injection h' with _ ht
  exact hne ht
theorem Blk.ne_loop (h : Blk w g t cs) {l : Nat} {r : Loop} (hl : w.heap[l]? = some (.loop r)) : g ≠ l := by
  rintro rfl; unfold Blk at h; rw [h] at hl; cases hl
theorem Blk.ne_def (h : Blk w g t cs) {l : Nat} {r} (hl : w.heap[l]? = some (.deferred r)) : g ≠ l := by
  rintro rfl; unfold Blk at h; rw [h] at hl; cases hl
end

/-- All blocks of cells lie as they lay. -/
structure KeepC (w w' : World) : Prop where
  size : w.heap.size ≤ w'.heap.size
  same : ∀ (g : Nat) (c : Array Value) (t : TypeId) (f : Nat × Nat), w.heap[g]? = some (Obj.cells c t f) → w'.heap[g]? = some (Obj.cells c t f)
theorem KeepC.refl (w : World) : KeepC w w := ⟨Nat.le_refl _, fun _ _ _ _ h => h⟩
theorem KeepC.trans {a b c : World} (h : KeepC a b) (k : KeepC b c) : KeepC a c := ⟨Nat.le_trans h.size k.size, fun g x t f e => k.same _ _ _ _ (h.same g x t f e)⟩
theorem KeepC.alloc (w : World) (o : Obj) : KeepC w (w.alloc o) := ⟨by simp, fun g _ _ _ h => (Below.heap_alloc w o g (Array.getElem?_eq_some_iff.1 h).1).trans h⟩
theorem KeepC.drew (w : World) : KeepC w w.drew := ⟨Nat.le_refl _, fun _ _ _ _ h => h⟩
theorem KeepC.of_chg {w w' : World} (h : Chg (fun _ => False) w w') : KeepC w w' := ⟨h.size, fun _ _ _ _ e => h.same e id⟩
theorem KeepC.put_loop {w : World} {l : Nat} {r : Loop} (h : w.heap[l]? = some (.loop r)) (o : Obj) : KeepC w (w.putObj l o) :=
  ⟨by simp, fun g _ _ _ e => (World.putObj_heap_other (fun h' => by subst h'; rw [h] at e; cases e)).trans e⟩
theorem Blk.keep {w w' : World} {g : Nat} {t : TypeId} {cs : Array Value} (h : Blk w g t cs) (k : KeepC w w') : Blk w' g t cs := k.same _ _ _ _ h

theorem len_cons {α : Type} {l : List α} {n : Nat} (h : l.length = n + 1) : ∃ x t, l = x :: t ∧ t.length = n := by
  cases l with
  | nil => cases h
  | cons x t => exact ⟨x, t, rfl, by simpa using h⟩

/-! ### the range over a function -/
section
variable {P : Program}

def recOf (fn : FuncId) (tmps : Array Value) (ps : Array Tmp) (assign body : Code) (D : Nat) (st : LoopState) (pe : Option Code) : Loop :=
  { state := st, pending := pe, fn := fn, tmps := tmps, params := ps, assign := assign, body := body, defers := D }

/-- What a round's end does: the record is written, the iterator is told. -/
def roundQ (l : Nat) (rec : LoopState → Option Code → Loop) (R : Ending → World → Prop) : Exit → Act → World → Prop
  | .normal, _, w => w.heap[l]? = some (.loop (rec .busy none)) ∧ R (.returned (.bool true)) (w.putObj l (.loop (rec .ready none)))
  | .ret, _, w => w.heap[l]? = some (.loop (rec .busy none)) ∧ R (.returned (.bool false)) (w.putObj l (.loop (rec .done (some .ret))))
  | .exit id, _, w => w.heap[l]? = some (.loop (rec .busy none)) ∧ R (.returned (.bool false)) (w.putObj l (.loop (rec .done (some (.exit id)))))
  | .goto t, _, w => w.heap[l]? = some (.loop (rec .busy none)) ∧ R (.returned (.bool false)) (w.putObj l (.loop (rec .done (some (.goto t)))))
  | .panic _, _, _ => False
  | .outgrown, _, _ => False

theorem yield_body {m l : Nat} {fn : FuncId} {tmps : Array Value} {ps : Array Tmp} {assign body : Code} {D : Nat} {args : Array Value} {W : World} {R : Ending → World → Prop}
    {rec : LoopState → Option Code → Loop} (hrec : Hid (rec = recOf fn tmps ps assign body D))
    (hl : W.heap[l]? = some (.loop (rec .ready none))) (hsz : args.size = ps.size) {a₁ : Act} {w₁ : World}
    (hassign : ∀ K : Act → World → Prop, K a₁ w₁ → assign.wpIn (Fence.wide.inRound l) m P (Exit.then K (fun _ _ _ => False)) { tmps := (ps.zip args).foldl (fun t (p, v) => t.setIfInBounds p v) tmps, defers := [] } W)
    (hl1 : w₁.heap[l]? = some (.loop (rec .ready none)))
    (hbody : body.wpIn (Fence.wide.inRound l) m P (roundQ l rec R) a₁ (w₁.putObj l (.loop (rec .busy none)))) :
    YieldAt Fence.wide m P l args W R := by
  have hrec := hrec.out
  subst hrec
  refine ⟨fn, _, assign, body, run_yield hl hsz, roundIn_of_wpIn trivial ?_⟩
  refine hassign _ ⟨_, run_beginRound hl1 rfl, wpIn_mono hbody ?_⟩
  rintro e a2 w2 hq2
  cases e with
  | normal => exact ⟨_, _, run_endRound none hq2.1, hq2.2⟩
  | ret => exact ⟨_, _, run_endRound (some .ret) hq2.1, hq2.2⟩
  | exit id => exact ⟨_, _, run_endRound (some (.exit id)) hq2.1, hq2.2⟩
  | goto t => exact ⟨_, _, run_endRound (some (.goto t)) hq2.1, hq2.2⟩
  | panic ch => exact hq2.elim
  | outgrown => exact hq2.elim

/-- The statement, outermost in its function. -/
theorem wp_range {g : Operand} {ps : Array Tmp} {assign body : Code} {Q : Exit → Act → World → Prop} {a : Act} {w : World} (gf : Nat) (lb : Array Value)
    (hg : a.eval g = .func (.func gf) #[] lb) (eg : Proofs.Enters P gf)
    (h : ∀ fn rec, Hid (rec = recOf fn a.tmps ps assign body w.heap.size) → Calls P gf (#[.func (.yield (w.heap.size + 1)) #[] #[]] ++ lb) ((w.alloc (.deferred (some []))).alloc (.loop (rec .ready none)))
      fun e W => (∃ v, e = .returned v) ∧
        ((W.heap[w.heap.size + 1]? = some (.loop (rec .ready none)) ∧
          Q .normal { a with defers := { target := .collected w.heap.size, args := #[] } :: a.defers } (W.putObj (w.heap.size + 1) (.loop (rec .exhausted none)))) ∨
         (∃ c, W.heap[w.heap.size + 1]? = some (.loop (rec .done (some c))) ∧
          c.wp P Q { a with defers := { target := .collected w.heap.size, args := #[] } :: a.defers } (W.putObj (w.heap.size + 1) (.loop (rec .exhausted (some c))))))) :
    (Code.rangeFunc g ps assign body).wp P Q a w := by
  refine (wpIn_wide (n := 2)).1 (wpIn_rangeFunc ?_)
  intro fn _
  obtain ⟨W1, hW1⟩ : ∃ W1, (w.alloc (.deferred (some []))).alloc (.loop (recOf fn a.tmps ps assign body w.heap.size .ready none)) = W1 := ⟨_, rfl⟩
  have h := h fn _ rfl
  rw [hW1] at h
  refine ⟨w.heap.size + 1, [{ target := .collected w.heap.size, args := #[] }], W1, { target := .fn (.func gf) lb, args := #[.func (.yield (w.heap.size + 1)) #[] #[]] }, W1, gf,
    #[.func (.yield (w.heap.size + 1)) #[] #[]] ++ lb, W1, ?_, ?_, ?_, ?_, fun _ => by omega, ?_⟩
  · rw [← hW1]; exact run_enterLoop_outer _ _ _ _ _
  · simp only [resolve, hg]
    simp [go_sem]
  · intro f' _; trivial
  · simp only [invoke]
    simpa [go_sem] using eg _ _
  · refine callsIn_wide.2 (h.mono ?_)
    rintro e W ⟨⟨v, rfl⟩, ⟨hl, hq⟩ | ⟨c, hl, hq⟩⟩
    · exact ⟨none, _, run_endLoop hl (by simp [recOf]), hq⟩
    · exact ⟨some c, _, run_endLoop hl (by simp [recOf]), wpIn_wide.2 hq⟩

theorem calls_of_wp_marks {f : FuncId} {fn : Func} {c : Code} {args : Array Value} {w : World} {R : Ending → World → Prop}
    (hf : P.funcs[f]? = some fn) (hb : fn.body = some c)
    (h : c.wp P (bodyPostM Fence.wide 2 P fn R) { tmps := args ++ Array.replicate (fn.ntmps - args.size) undef, defers := [] } w) : Calls P f args w R :=
  callsIn_wide.1 (callsIn_of_wp_marks hf hb trivial (wpIn_wide.2 h))

/-- The end of a function that ranged over a function once: the mark is taken in. -/
theorem bodyPostM_ret {fn : Func} {R : Ending → World → Prop} {a : Act} {w : World} {D : Nat} {v : Value} (hd : a.defers = [{ target := .collected D, args := #[] }])
    (hK : w.heap[D]? = some (.deferred (some []))) (hv : (results fn a.tmps).run P (w.putObj D (.deferred none)) = .ok v (w.putObj D (.deferred none)))
    (hR : R (.returned v) (w.putObj D (.deferred none))) : bodyPostM Fence.wide 2 P fn R .ret a w := by
  show LeavesInM Fence.wide 2 P fn a.tmps R a.defers .returning w
  rw [hd]
  exact ⟨by simp, .inl ⟨D, _, rfl, run_takeDeferred hK, ⟨v, hv, hR⟩⟩⟩

/-! ### a function that ranges in a loop: many marks -/
def marks (Ds : List Nat) : List Deferred := Ds.map fun D => { target := .collected D, args := #[] }
def Marked (w : World) (B : Nat) (Ds : List Nat) : Prop := Ds.Nodup ∧ ∀ D ∈ Ds, B ≤ D ∧ w.heap[D]? = some (.deferred (some []))
theorem Marked.nil (w : World) (B : Nat) : Marked w B [] := ⟨List.nodup_nil, fun _ h => by cases h⟩
theorem Marked.chg {S : Nat → Prop} {w w' : World} {B : Nat} {Ds : List Nat} (h : Marked w B Ds) (hc : Chg S w w') (hS : ∀ D o, w.heap[D]? = some (.deferred o) → ¬ S D) : Marked w' B Ds :=
  ⟨h.1, fun D hD => ⟨(h.2 D hD).1, hc.same (h.2 D hD).2 (hS _ _ (h.2 D hD).2)⟩⟩
theorem Marked.cons {w : World} {B D : Nat} {Ds : List Nat} (h : Marked w B Ds) (hD : w.heap[D]? = some (.deferred (some []))) (hB : B ≤ D) (hn : D ∉ Ds) : Marked w B (D :: Ds) :=
  ⟨List.nodup_cons.2 ⟨hn, h.1⟩, fun E hE => by
    rcases List.mem_cons.1 hE with rfl | hE
    · exact ⟨hB, hD⟩
    · exact h.2 E hE⟩
theorem bodyPostM_marks {fn : Func} {R : Ending → World → Prop} {v : Value} {tmps : Array Value} {w0 : World} (hv : ∀ w, (results fn tmps).run P w = .ok v w) :
    ∀ (Ds : List Nat) (w : World), Marked w w0.heap.size Ds → (∀ w', Chg (fun g => w0.heap.size ≤ g) w w' → R (.returned v) w') →
      LeavesInM Fence.wide 2 P fn tmps R (marks Ds) .returning w := by
  intro Ds
  induction Ds with
  | nil =>
    intro w _ hR
    exact ⟨v, hv w, hR w (Chg.refl _ _)⟩
  | cons D Ds ih =>
    intro w hm hR
    obtain ⟨hB, hD⟩ := hm.2 D (by simp)
    have hnd := List.nodup_cons.1 hm.1
    refine ⟨by simp, .inl ⟨D, _, rfl, run_takeDeferred hD, ih _ ⟨hnd.2, fun E hE => ⟨(hm.2 E (by simp [hE])).1, ?_⟩⟩ fun w' h2 => hR w' ?_⟩⟩
    · exact (World.putObj_heap_other (fun e => by subst e; exact hnd.1 hE)).trans (hm.2 E (by simp [hE])).2
    · have hp : Chg (fun g => w0.heap.size ≤ g) w (w.putObj D (.deferred none)) := (Chg.refl _ w).putObj (fun _ => hB) _
      exact hp.trans h2
end
end Pal
