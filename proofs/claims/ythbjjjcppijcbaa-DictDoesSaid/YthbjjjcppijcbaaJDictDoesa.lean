/- Texts joined for DictDoes: LW, RF, IT, ST. -/
import Derived.ProofKit
import Derived.OpenShut
import Derived.Below
import Derived.RangeFuncNested
import Derived.RangeFuncBound
import Derived.RangeFuncCalls
import Derived.RangeFuncLeaves
import Derived.Shelf.Abstract
import Derived.Laws.OwnMore
import Derived.Deep.Draws
import Derived.RangeFuncOwn
import Derived.Maps.AppendAt
import Derived.Deep.AppendLies
import Derived.RegionTactic
import Derived.OwnWalk
import Derived.OwnWalkIn
set_option linter.unusedVariables false
set_option linter.unusedSimpArgs false

/- Words for the rows of laws: from 'it returns true and nothing that lay has turned' to the row's 'post', for arguments of any readable type. -/
namespace Pal
open Go Go.RowKit Go.WideShapes Go.ChangeShapes

section
variable {H : Type} {enc : TypeId × Value → H} {P : Program}
theorem post_of_below {f : Func} {s : ChangeSpec} {apart fresh handsOn again : Bool} {W W' : World} {args : Array Value} {v : Value} {ds gs : List (DataW H)} {before pa pv : List MemPlace}
    (hW : DataW.Whole enc P f.params.toList s.vars apart W args.toList ds gs before)
    (hres : ∀ (b : Nat) (sp : Nat → Bool) (hd : Bool), DataW.TrodAll enc P W' b sp hd f.resultTypes.toList (v.resultList f.resultTypes.size) (s.fn H (ds ++ gs)).results [])
    (hargs : ∀ sp : Nat → Bool, (∀ p ∈ before, sp p.block = true) → DataW.TrodAll enc P W' 0 sp true f.params.toList args.toList (s.fn H (ds ++ gs)).args pa)
    (hvars : ∀ sp : Nat → Bool, (∀ p ∈ before, sp p.block = true) → DataW.TrodVars enc P W' sp s.vars (s.fn H (ds ++ gs)).vars pv)
    (hps : before = pa ++ pv) (hb : Below W.heap.size W W')
    (hok : ∀ (j : Nat) (t : TypeId) (r : Value), f.resultTypes[j]? = some t → (v.resultList f.resultTypes.size)[j]? = some r → Value.okWide P W' .any 0 t r) :
    s.post enc P f apart fresh handsOn again W args v W' := by
  have hlt : ∀ p ∈ before, p.block < W.heap.size := fun p hp => hW.lt p hp
  have hold : ∀ p ∈ before, (fun b => decide (b < W.heap.size)) p.block = true := fun p hp => by simpa using hlt p hp
  refine ⟨ds, gs, before, [], pa, pv, hW, hres _ _ _, hargs _ hold, hvars _ hold, World.keptBut_mono (fun p hp => ⟨hp, ?_⟩) (hb.frame (· ∈ before)), fun _ => ?_⟩
  · rw [hps, List.mem_append] at hp
    exact Or.inr hp
  · obtain ⟨_, _, _, _, _, hz, hn⟩ := hW
    refine ⟨hok, _, _, ([] ++ pa) ++ pv, ⟨[] ++ pa, pv, trodAll_append (hargs _ (fun _ _ => rfl)) (hres _ _ _), hvars _ (fun _ _ => rfl), rfl, ?_, ?_⟩, ?_⟩
    · intro b off hp
      have hin : MemPlace.cell b off ∈ before := by rw [hps]; simpa using hp
      rw [hb.frozen (hlt _ hin)]
      exact hz b off hin
    · intro ha
      have := hn ha
      rw [hps] at this
      simpa using this
    · intro p hp _
      rw [hps]
      simpa using hp

theorem trodAll_stays {W W' : World} {sp' : Nat → Bool} (hl : laidOutB P = true) : ∀ {ts : List TypeId} {vs : List Value} {ds : List (DataW H)} {ps : List MemPlace},
    (ts.all fun t => P.readableRec t && decide (t < P.types.size)) = true → DataW.TrodAll enc P W 0 (fun _ => true) true ts vs ds ps →
    (∀ p ∈ ps, W.sameAt W' p) → (∀ p ∈ ps, sp' p.block = true) → DataW.TrodAll enc P W' 0 sp' true ts vs ds ps := by
  intro ts
  induction ts with
  | nil =>
    intro vs ds ps _ h _ _
    obtain ⟨rfl, rfl, rfl⟩ := trodAll_nil h
    exact trodAll_mk0
  | cons t ts ih =>
    intro vs ds ps hts h hsame hs
    simp only [List.all_cons, Bool.and_eq_true, decide_eq_true_iff] at hts
    obtain ⟨v, vs', d, ds', p, p', rfl, rfl, rfl, h1, h2⟩ := trodAll_cons h
    exact trodAll_cons_mk (WideElems.Trod_stays hl hts.1.1 hts.1.2 h1 (fun q hq => hsame q (by simp [hq])) (fun q hq => hs q (by simp [hq])))
      (ih hts.2 h2 (fun q hq => hsame q (by simp [hq])) (fun q hq => hs q (by simp [hq])))

/-- A law: one bool, true; the arguments read as they did. -/
theorem law_post {f : Func} {s : ChangeSpec} {again : Bool} {W W' : World} {args : Array Value} {ds gs : List (DataW H)} {before : List MemPlace} {tb : TypeId} (hl : laidOutB P = true)
    (hts : (f.params.toList.all fun t => P.readableRec t && decide (t < P.types.size)) = true) (htb : P.underlying tb = some .bool) (hr : f.resultTypes = #[tb]) (hv : s.vars = [])
    (hW : DataW.Whole enc P f.params.toList s.vars false W args.toList ds gs before) (hfn : (s.fn H (ds ++ gs)).results = [.lit (.bool true)] ∧ (s.fn H (ds ++ gs)).args = ds ∧ (s.fn H (ds ++ gs)).vars = [])
    (hb : Below W.heap.size W W') : s.post enc P f false true false again W args (.bool true) W' := by
  have hW' := hW
  obtain ⟨p, q, hA, hV, rfl, hfz, hnd⟩ := hW
  rw [hv] at hV
  obtain ⟨rfl, rfl⟩ := trodVars_none hV
  have hlt : ∀ x ∈ p, x.block < W.heap.size := fun x hx => hW'.lt x (by simp [hx])
  refine post_of_below (pa := p) (pv := []) hW' ?_ ?_ ?_ rfl hb ?_
  · intro b sp hd
    rw [hfn.1, hr]
    exact trodAll_cons_mk (shut_bool htb true) trodAll_mk0
  · intro sp hsp
    rw [hfn.2.1]
    exact trodAll_stays hl hts hA (fun x hx => hb.same (hlt x hx)) (fun x hx => hsp x (by simp [hx]))
  · intro sp _
    rw [hfn.2.2, hv]
    rfl
  · exact ok_one hr rfl (okWide_bool_mk htb true)
end
end Pal

/- Words for memory ('Chg', 'Blk'), and the law of a range over a function, in the plain calculus. -/
namespace Pal
open Go Go.RowKit

/-! ### what a call changes: the blocks in S alone, of those that lay -/
structure Chg (S : Nat → Prop) (w w' : World) : Prop where
  os : w'.os = w.os
  tape : w'.tape = w.tape
  output : w'.output = w.output
  size : w.heap.size ≤ w'.heap.size
  block : ∀ k, k < w.heap.size → ¬ S k → w'.heap[k]? = w.heap[k]?

section
variable {S S' : Nat → Prop} {a b c w w' : World}
theorem Chg.refl (S : Nat → Prop) (w : World) : Chg S w w := ⟨rfl, rfl, rfl, Nat.le_refl _, fun _ _ _ => rfl⟩
theorem Chg.trans' (h : Chg S a b) (k : Chg S' b c) (hs : ∀ k, k < a.heap.size → S' k → S k) : Chg S a c :=
  ⟨k.os.trans h.os, k.tape.trans h.tape, k.output.trans h.output, Nat.le_trans h.size k.size,
   fun i hi hn => (k.block i (Nat.lt_of_lt_of_le hi h.size) (fun e => hn (hs i hi e))).trans (h.block i hi hn)⟩
theorem Chg.trans (h : Chg S a b) (k : Chg S b c) : Chg S a c := h.trans' k fun _ _ e => e
theorem Chg.mono (h : Chg S a b) (hs : ∀ k, k < a.heap.size → S k → S' k) : Chg S' a b :=
  ⟨h.os, h.tape, h.output, h.size, fun i hi hn => h.block i hi fun e => hn (hs i hi e)⟩
theorem Chg.alloc (h : Chg S a w) (o : Obj) : Chg S a (w.alloc o) :=
  h.trans ⟨rfl, rfl, rfl, by simp, fun k hk _ => Below.heap_alloc _ _ _ hk⟩
theorem Chg.drew (h : Chg S a w) : Chg S a w.drew := ⟨h.os, h.tape, h.output, h.size, h.block⟩
theorem Chg.drewN (h : Chg S a w) (n : Nat) : Chg S a (w.drewN n) := ⟨h.os, h.tape, h.output, h.size, h.block⟩
theorem Chg.setCell (h : Chg S a w) {p : Addr} (hp : p.block < a.heap.size → S p.block) (u : Value) : Chg S a (w.setCell p u) :=
  ⟨h.os, h.tape, h.output, by simpa [World.setCell] using h.size, fun k hk hn => (Below.heap_setCell _ _ _ _ (fun e => by subst e; exact hn (hp hk))).trans (h.block k hk hn)⟩
theorem Chg.store (h : Chg S a w) {b : Nat} (hb : S b) (i : Nat) (u : Value) : Chg S a (w.setCell ⟨b, i, none⟩ u) := h.setCell (p := ⟨b, i, none⟩) (fun _ => hb) u
theorem Chg.store_new (h : Chg S a w) {b : Nat} (hb : a.heap.size ≤ b) (i : Nat) (u : Value) : Chg S a (w.setCell ⟨b, i, none⟩ u) :=
  h.setCell (p := ⟨b, i, none⟩) (fun hlt => absurd hlt (Nat.not_lt.2 hb)) u
theorem Chg.put (h : Chg S a w) {l : Nat} (hb : a.heap.size ≤ l) (o : Obj) : Chg S a (w.putObj l o) :=
  ⟨h.os, h.tape, h.output, by simpa using h.size, fun k hk hn => (World.putObj_heap_other (by omega)).trans (h.block k hk hn)⟩
theorem Chg.putObj (h : Chg S a w) {l : Nat} (hp : l < a.heap.size → S l) (o : Obj) : Chg S a (w.putObj l o) :=
  ⟨h.os, h.tape, h.output, by simpa using h.size, fun k hk hn => (World.putObj_heap_other (fun e => by subst e; exact hn (hp hk))).trans (h.block k hk hn)⟩
theorem Chg.below (h : Chg (fun _ => False) a b) : Below a.heap.size a b := ⟨h.os, h.tape, h.output, h.size, fun k hk => h.block k hk id⟩
theorem Chg.of_below (h : Below a.heap.size a b) : Chg S a b := ⟨h.os, h.tape, h.output, h.size, fun k hk _ => h.block k hk⟩
theorem Chg.of_grown {row : Option Nat} (h : w.grownBy w' row) (hs : ∀ g, row = some g → S g) : Chg S w w' :=
  ⟨h.os, h.tape, h.output, h.size, fun k hk hn => h.block k hk (fun e => hn (hs k e.symm))⟩
theorem Chg.same (h : Chg S w w') {g : Nat} {o : Obj} (hg : w.heap[g]? = some o) (hn : ¬ S g) : w'.heap[g]? = some o :=
  (h.block g (Array.getElem?_eq_some_iff.1 hg).1 hn).trans hg
end

/-! ### a block that is known whole -/
def Blk (w : World) (g : Nat) (t : TypeId) (cs : Array Value) : Prop := w.heap[g]? = some (.cells cs t (0, 0))

section
variable {w w' : World} {g : Nat} {t : TypeId} {cs : Array Value}
theorem Blk.lt (h : Blk w g t cs) : g < w.heap.size := (Array.getElem?_eq_some_iff.1 h).1
theorem Blk.cell (h : Blk w g t cs) (i : Nat) : w.cell? ⟨g, i, none⟩ = cs[i]? := cell_of_row w g i cs t (0, 0) h
theorem Blk.frozen (h : Blk w g t cs) (i : Nat) : w.frozen? ⟨g, i, none⟩ = false := by
  unfold Blk at h
  simp [World.frozen?, h]
theorem Blk.new (w : World) (t : TypeId) (cs : Array Value) : Blk (w.alloc (.cells cs t)) w.heap.size t cs := World.alloc_heap_new w _
theorem Blk.drew (h : Blk w g t cs) : Blk w.drew g t cs := h
theorem Blk.drewN (h : Blk w g t cs) (n : Nat) : Blk (w.drewN n) g t cs := h
theorem Blk.alloc (h : Blk w g t cs) (o : Obj) : Blk (w.alloc o) g t cs := (Below.heap_alloc w o g h.lt).trans h
theorem Blk.set (h : Blk w g t cs) (i : Nat) (u : Value) : Blk (w.setCell ⟨g, i, none⟩ u) g t (cs.setIfInBounds i u) := by
  unfold Blk at h ⊢
  simp [World.setCell, Array.getElem?_modify, h]
theorem Blk.far (h : Blk w g t cs) {p : Addr} (hp : g ≠ p.block) (u : Value) : Blk (w.setCell p u) g t cs := (Below.heap_setCell w p u g hp).trans h
theorem Blk.putObj (h : Blk w g t cs) {l : Nat} (hp : g ≠ l) (o : Obj) : Blk (w.putObj l o) g t cs := (World.putObj_heap_other hp).trans h
theorem Blk.chg {S : Nat → Prop} (h : Blk w g t cs) (hc : Chg S w w') (hn : ¬ S g) : Blk w' g t cs := hc.same h hn
theorem Blk.ne_type (h : Blk w g t cs) {g' : Nat} {t' : TypeId} {cs' : Array Value} (h' : Blk w g' t' cs') (hne : t ≠ t') : g ≠ g' := by
  rintro rfl
  unfold Blk at h h'
  rw [h] at h'
  injection h' with h'
  injection h' with _ ht
  exact hne ht
theorem Blk.ne_loop (h : Blk w g t cs) {l : Nat} {r : Loop} (hl : w.heap[l]? = some (.loop r)) : g ≠ l := by
  rintro rfl; unfold Blk at h; rw [h] at hl; cases hl
theorem Blk.ne_def (h : Blk w g t cs) {l : Nat} {r} (hl : w.heap[l]? = some (.deferred r)) : g ≠ l := by
  rintro rfl; unfold Blk at h; rw [h] at hl; cases hl
end

/-- All blocks of cells lie as they lay. -/
structure KeepC (w w' : World) : Prop where
  size : w.heap.size ≤ w'.heap.size
  same : ∀ (g : Nat) (c : Array Value) (t : TypeId) (f : Nat × Nat), w.heap[g]? = some (Obj.cells c t f) → w'.heap[g]? = some (Obj.cells c t f)
theorem KeepC.refl (w : World) : KeepC w w := ⟨Nat.le_refl _, fun _ _ _ _ h => h⟩
theorem KeepC.trans {a b c : World} (h : KeepC a b) (k : KeepC b c) : KeepC a c := ⟨Nat.le_trans h.size k.size, fun g x t f e => k.same _ _ _ _ (h.same g x t f e)⟩
theorem KeepC.alloc (w : World) (o : Obj) : KeepC w (w.alloc o) := ⟨by simp, fun g _ _ _ h => (Below.heap_alloc w o g (Array.getElem?_eq_some_iff.1 h).1).trans h⟩
theorem KeepC.drew (w : World) : KeepC w w.drew := ⟨Nat.le_refl _, fun _ _ _ _ h => h⟩
theorem KeepC.of_chg {w w' : World} (h : Chg (fun _ => False) w w') : KeepC w w' := ⟨h.size, fun _ _ _ _ e => h.same e id⟩
theorem KeepC.put_loop {w : World} {l : Nat} {r : Loop} (h : w.heap[l]? = some (.loop r)) (o : Obj) : KeepC w (w.putObj l o) :=
  ⟨by simp, fun g _ _ _ e => (World.putObj_heap_other (fun h' => by subst h'; rw [h] at e; cases e)).trans e⟩
theorem Blk.keep {w w' : World} {g : Nat} {t : TypeId} {cs : Array Value} (h : Blk w g t cs) (k : KeepC w w') : Blk w' g t cs := k.same _ _ _ _ h

theorem len_cons {α : Type} {l : List α} {n : Nat} (h : l.length = n + 1) : ∃ x t, l = x :: t ∧ t.length = n := by
  cases l with
  | nil => cases h
  | cons x t => exact ⟨x, t, rfl, by simpa using h⟩

/-! ### the range over a function -/
section
variable {P : Program}

def recOf (fn : FuncId) (tmps : Array Value) (ps : Array Tmp) (assign body : Code) (D : Nat) (st : LoopState) (pe : Option Code) : Loop :=
  { state := st, pending := pe, fn := fn, tmps := tmps, params := ps, assign := assign, body := body, defers := D }

/-- What a round's end does: the record is written, the iterator is told. -/
def roundQ (l : Nat) (rec : LoopState → Option Code → Loop) (R : Ending → World → Prop) : Exit → Act → World → Prop
  | .normal, _, w => w.heap[l]? = some (.loop (rec .busy none)) ∧ R (.returned (.bool true)) (w.putObj l (.loop (rec .ready none)))
  | .ret, _, w => w.heap[l]? = some (.loop (rec .busy none)) ∧ R (.returned (.bool false)) (w.putObj l (.loop (rec .done (some .ret))))
  | .exit id, _, w => w.heap[l]? = some (.loop (rec .busy none)) ∧ R (.returned (.bool false)) (w.putObj l (.loop (rec .done (some (.exit id)))))
  | .goto t, _, w => w.heap[l]? = some (.loop (rec .busy none)) ∧ R (.returned (.bool false)) (w.putObj l (.loop (rec .done (some (.goto t)))))
  | .panic _, _, _ => False
  | .outgrown, _, _ => False

theorem yield_body {m l : Nat} {fn : FuncId} {tmps : Array Value} {ps : Array Tmp} {assign body : Code} {D : Nat} {args : Array Value} {W : World} {R : Ending → World → Prop}
    {rec : LoopState → Option Code → Loop} (hrec : Hid (rec = recOf fn tmps ps assign body D))
    (hl : W.heap[l]? = some (.loop (rec .ready none))) (hsz : args.size = ps.size) {a₁ : Act} {w₁ : World}
    (hassign : ∀ K : Act → World → Prop, K a₁ w₁ → assign.wpIn (Fence.wide.inRound l) m P (Exit.then K (fun _ _ _ => False)) { tmps := (ps.zip args).foldl (fun t (p, v) => t.setIfInBounds p v) tmps, defers := [] } W)
    (hl1 : w₁.heap[l]? = some (.loop (rec .ready none)))
    (hbody : body.wpIn (Fence.wide.inRound l) m P (roundQ l rec R) a₁ (w₁.putObj l (.loop (rec .busy none)))) :
    YieldAt Fence.wide m P l args W R := by
  have hrec := hrec.out
  subst hrec
  refine ⟨fn, _, assign, body, run_yield hl hsz, roundIn_of_wpIn trivial ?_⟩
  refine hassign _ ⟨_, run_beginRound hl1 rfl, wpIn_mono hbody ?_⟩
  rintro e a2 w2 hq2
  cases e with
  | normal => exact ⟨_, _, run_endRound none hq2.1, hq2.2⟩
  | ret => exact ⟨_, _, run_endRound (some .ret) hq2.1, hq2.2⟩
  | exit id => exact ⟨_, _, run_endRound (some (.exit id)) hq2.1, hq2.2⟩
  | goto t => exact ⟨_, _, run_endRound (some (.goto t)) hq2.1, hq2.2⟩
  | panic ch => exact hq2.elim
  | outgrown => exact hq2.elim

/-- The statement, outermost in its function. -/
theorem wp_range {g : Operand} {ps : Array Tmp} {assign body : Code} {Q : Exit → Act → World → Prop} {a : Act} {w : World} (gf : Nat) (lb : Array Value)
    (hg : a.eval g = .func (.func gf) #[] lb) (eg : Proofs.Enters P gf)
    (h : ∀ fn rec, Hid (rec = recOf fn a.tmps ps assign body w.heap.size) → Calls P gf (#[.func (.yield (w.heap.size + 1)) #[] #[]] ++ lb) ((w.alloc (.deferred (some []))).alloc (.loop (rec .ready none)))
      fun e W => (∃ v, e = .returned v) ∧
        ((W.heap[w.heap.size + 1]? = some (.loop (rec .ready none)) ∧
          Q .normal { a with defers := { target := .collected w.heap.size, args := #[] } :: a.defers } (W.putObj (w.heap.size + 1) (.loop (rec .exhausted none)))) ∨
         (∃ c, W.heap[w.heap.size + 1]? = some (.loop (rec .done (some c))) ∧
          c.wp P Q { a with defers := { target := .collected w.heap.size, args := #[] } :: a.defers } (W.putObj (w.heap.size + 1) (.loop (rec .exhausted (some c))))))) :
    (Code.rangeFunc g ps assign body).wp P Q a w := by
  refine (wpIn_wide (n := 2)).1 (wpIn_rangeFunc ?_)
  intro fn _
  obtain ⟨W1, hW1⟩ : ∃ W1, (w.alloc (.deferred (some []))).alloc (.loop (recOf fn a.tmps ps assign body w.heap.size .ready none)) = W1 := ⟨_, rfl⟩
  have h := h fn _ rfl
  rw [hW1] at h
  refine ⟨w.heap.size + 1, [{ target := .collected w.heap.size, args := #[] }], W1, { target := .fn (.func gf) lb, args := #[.func (.yield (w.heap.size + 1)) #[] #[]] }, W1, gf,
    #[.func (.yield (w.heap.size + 1)) #[] #[]] ++ lb, W1, ?_, ?_, ?_, ?_, fun _ => by omega, ?_⟩
  · rw [← hW1]; exact run_enterLoop_outer _ _ _ _ _
  · simp only [resolve, hg]
    simp [go_sem]
  · intro f' _; trivial
  · simp only [invoke]
    simpa [go_sem] using eg _ _
  · refine callsIn_wide.2 (h.mono ?_)
    rintro e W ⟨⟨v, rfl⟩, ⟨hl, hq⟩ | ⟨c, hl, hq⟩⟩
    · exact ⟨none, _, run_endLoop hl (by simp [recOf]), hq⟩
    · exact ⟨some c, _, run_endLoop hl (by simp [recOf]), wpIn_wide.2 hq⟩

theorem calls_of_wp_marks {f : FuncId} {fn : Func} {c : Code} {args : Array Value} {w : World} {R : Ending → World → Prop}
    (hf : P.funcs[f]? = some fn) (hb : fn.body = some c)
    (h : c.wp P (bodyPostM Fence.wide 2 P fn R) { tmps := args ++ Array.replicate (fn.ntmps - args.size) undef, defers := [] } w) : Calls P f args w R :=
  callsIn_wide.1 (callsIn_of_wp_marks hf hb trivial (wpIn_wide.2 h))

/-- The end of a function that ranged over a function once: the mark is taken in. -/
theorem bodyPostM_ret {fn : Func} {R : Ending → World → Prop} {a : Act} {w : World} {D : Nat} {v : Value} (hd : a.defers = [{ target := .collected D, args := #[] }])
    (hK : w.heap[D]? = some (.deferred (some []))) (hv : (results fn a.tmps).run P (w.putObj D (.deferred none)) = .ok v (w.putObj D (.deferred none)))
    (hR : R (.returned v) (w.putObj D (.deferred none))) : bodyPostM Fence.wide 2 P fn R .ret a w := by
  show LeavesInM Fence.wide 2 P fn a.tmps R a.defers .returning w
  rw [hd]
  exact ⟨by simp, .inl ⟨D, _, rfl, run_takeDeferred hK, ⟨v, hv, hR⟩⟩⟩

/-! ### a function that ranges in a loop: many marks -/
def marks (Ds : List Nat) : List Deferred := Ds.map fun D => { target := .collected D, args := #[] }
def Marked (w : World) (B : Nat) (Ds : List Nat) : Prop := Ds.Nodup ∧ ∀ D ∈ Ds, B ≤ D ∧ w.heap[D]? = some (.deferred (some []))
theorem Marked.nil (w : World) (B : Nat) : Marked w B [] := ⟨List.nodup_nil, fun _ h => by cases h⟩
theorem Marked.chg {S : Nat → Prop} {w w' : World} {B : Nat} {Ds : List Nat} (h : Marked w B Ds) (hc : Chg S w w') (hS : ∀ D o, w.heap[D]? = some (.deferred o) → ¬ S D) : Marked w' B Ds :=
  ⟨h.1, fun D hD => ⟨(h.2 D hD).1, hc.same (h.2 D hD).2 (hS _ _ (h.2 D hD).2)⟩⟩
theorem Marked.cons {w : World} {B D : Nat} {Ds : List Nat} (h : Marked w B Ds) (hD : w.heap[D]? = some (.deferred (some []))) (hB : B ≤ D) (hn : D ∉ Ds) : Marked w B (D :: Ds) :=
  ⟨List.nodup_cons.2 ⟨hn, h.1⟩, fun E hE => by
    rcases List.mem_cons.1 hE with rfl | hE
    · exact ⟨hB, hD⟩
    · exact h.2 E hE⟩
theorem bodyPostM_marks {fn : Func} {R : Ending → World → Prop} {v : Value} {tmps : Array Value} {w0 : World} (hv : ∀ w, (results fn tmps).run P w = .ok v w) :
    ∀ (Ds : List Nat) (w : World), Marked w w0.heap.size Ds → (∀ w', Chg (fun g => w0.heap.size ≤ g) w w' → R (.returned v) w') →
      LeavesInM Fence.wide 2 P fn tmps R (marks Ds) .returning w := by
  intro Ds
  induction Ds with
  | nil =>
    intro w _ hR
    exact ⟨v, hv w, hR w (Chg.refl _ _)⟩
  | cons D Ds ih =>
    intro w hm hR
    obtain ⟨hB, hD⟩ := hm.2 D (by simp)
    have hnd := List.nodup_cons.1 hm.1
    refine ⟨by simp, .inl ⟨D, _, rfl, run_takeDeferred hD, ih _ ⟨hnd.2, fun E hE => ⟨(hm.2 E (by simp [hE])).1, ?_⟩⟩ fun w' h2 => hR w' ?_⟩⟩
    · exact (World.putObj_heap_other (fun e => by subst e; exact hnd.1 hE)).trans (hm.2 E (by simp [hE])).2
    · have hp : Chg (fun g => w0.heap.size ≤ g) w (w.putObj D (.deferred none)) := (Chg.refl _ w).putObj (fun _ => hB) _
      exact hp.trans h2
end
end Pal

/- The law of a range over an iterator that has its contract, for a caller whose invariant speaks of cells. -/
namespace Pal
open Go Go.RowKit

/-- All cells outside F stay. -/
structure Stay (F : Nat → Prop) (w w' : World) : Prop where
  os : w'.os = w.os
  tape : w'.tape = w.tape
  output : w'.output = w.output
  size : w.heap.size ≤ w'.heap.size
  same : ∀ g, ¬ F g → ∀ cs t f, w.heap[g]? = some (Obj.cells cs t f) → w'.heap[g]? = some (Obj.cells cs t f)

section
variable {F G : Nat → Prop} {a b c w w' : World}
theorem Stay.refl (F : Nat → Prop) (w : World) : Stay F w w := ⟨rfl, rfl, rfl, Nat.le_refl _, fun _ _ _ _ _ h => h⟩
theorem Stay.trans (h : Stay F a b) (k : Stay F b c) : Stay F a c :=
  ⟨k.os.trans h.os, k.tape.trans h.tape, k.output.trans h.output, Nat.le_trans h.size k.size, fun g hg cs t f e => k.same g hg _ _ _ (h.same g hg _ _ _ e)⟩
theorem Stay.of_chg (h : Chg F w w') : Stay F w w' := ⟨h.os, h.tape, h.output, h.size, fun _ hg _ _ _ e => h.same e hg⟩
theorem Stay.mono (h : Stay F w w') (hs : ∀ g, g < w.heap.size → F g → G g) : Stay G w w' :=
  ⟨h.os, h.tape, h.output, h.size, fun g hg _ _ _ e => h.same g (fun hf => hg (hs g (Array.getElem?_eq_some_iff.1 e).1 hf)) _ _ _ e⟩
theorem Stay.trans' (h : Stay F a b) (k : Stay G b c) (hs : ∀ g, g < a.heap.size → G g → F g) : Stay F a c :=
  ⟨k.os.trans h.os, k.tape.trans h.tape, k.output.trans h.output, Nat.le_trans h.size k.size, fun g hg cs t f e =>
    k.same g (fun hG => hg (hs g (Array.getElem?_eq_some_iff.1 e).1 hG)) _ _ _ (h.same g hg _ _ _ e)⟩
theorem Stay.alloc (F : Nat → Prop) (w : World) (o : Obj) : Stay F w (w.alloc o) := .of_chg ((Chg.refl F w).alloc o)
theorem Stay.put {l : Nat} {o : Obj} (h : w.heap[l]? = some o) (ho : o.isCells = false) (o' : Obj) : Stay F w (w.putObj l o') :=
  ⟨rfl, rfl, rfl, by simp, fun g _ cs t f e => (World.putObj_heap_other (fun e' => by subst e'; rw [h] at e; cases e; cases ho)).trans e⟩
theorem Chg.of_stay (h : Stay F w w') (k : KeepsOthers w w') : Chg F w w' :=
  ⟨h.os, h.tape, h.output, h.size, fun g hg hn => by
    obtain ⟨o, ho⟩ : ∃ o, w.heap[g]? = some o := ⟨_, Array.getElem?_eq_getElem hg⟩
    cases o with
    | cells cs t f => rw [h.same g hn _ _ _ ho, ho]
    | _ => rw [k.same g _ ho rfl, ho]⟩
theorem Blk.stay {g : Nat} {t : TypeId} {cs : Array Value} (h : Blk w g t cs) (hs : Stay F w w') (hn : ¬ F g) : Blk w' g t cs := hs.same g hn _ _ _ h
theorem KeepC.of_stay (h : Stay (fun _ => False) w w') : KeepC w w' := ⟨h.size, fun g c t f e => h.same g id _ _ _ e⟩
theorem own_stay {base n size : Nat} {e : TypeId} {v : Value} {xs : List Value} (h : w.ownsRow base e size v n xs) (hs : Stay F w w') (hn : ∀ g, v.ownBlock = some g → ¬ F g) : w'.ownsRow base e size v n xs := by
  refine ⟨h.1, ?_⟩
  rcases h.2 with h0 | ⟨g, cap, cur, rfl, hb, hg, rest⟩
  · exact .inl h0
  · exact .inr ⟨g, cap, cur, rfl, hb, hs.same g (hn g rfl) _ _ _ hg, rest⟩
theorem others_chg (h : Chg F w w') (hF : ∀ k o, w.heap[k]? = some o → o.isCells = false → ¬ F k) : KeepsOthers w w' :=
  ⟨h.size, fun k o hk ho => h.same hk (hF k o hk ho)⟩
end

/-- An iterator: it hands out items; It0 r: what it needs at the start, r being all items; It r: what it keeps, where r is still to come; F: the blocks that these speak of; G: those that it writes. -/
structure IterSpec {α : Type} (P : Program) (gf : Nat) (lb : Array Value) (enc : α → Array Value) (F G : Nat → Prop) (It0 It : List α → World → Prop) : Prop where
  cells : ∀ r W k, It0 r W → F k → ∃ cs t f, W.heap[k]? = some (Obj.cells cs t f)
  sub : ∀ k, G k → F k
  far0 : ∀ r W W', It0 r W → W.heap.size ≤ W'.heap.size → (∀ k, F k → W'.heap[k]? = W.heap[k]?) → It0 r W'
  far : ∀ r W W', It r W → W.heap.size ≤ W'.heap.size → (∀ k, F k → W'.heap[k]? = W.heap[k]?) → It r W'
  call : ∀ (l : Nat) (I : List α → World → Prop) (Ix : World → Prop), (∀ r W W', I r W → Chg G W W' → I r W') → (∀ W W', Ix W → Chg G W W' → Ix W') →
    (∀ x r W, I (x :: r) W → It (x :: r) W → YieldAt Fence.wide 2 P l (enc x) W fun e W' => W.heap.size ≤ W'.heap.size ∧ (∀ k, F k → W'.heap[k]? = W.heap[k]?) ∧ ((e = .returned (.bool true) ∧ I r W') ∨ (e = .returned (.bool false) ∧ Ix W'))) →
    ∀ c W, I c W → It0 c W → Calls P gf (#[.func (.yield l) #[] #[]] ++ lb) W fun e W' => (∃ v, e = .returned v) ∧ (I [] W' ∨ Ix W')

/-- How a round may end. -/
def rPost {α : Type} (F : Nat → Prop) (I : List α → World → Prop) (Ix : Code → World → Prop) (r : List α) (W : World) : Exit → Act → World → Prop
  | .normal, _, W' => KeepsOthers W W' ∧ (∀ k, F k → W'.heap[k]? = W.heap[k]?) ∧ I r W'
  | .ret, _, W' => KeepsOthers W W' ∧ (∀ k, F k → W'.heap[k]? = W.heap[k]?) ∧ Ix .ret W'
  | .exit id, _, W' => KeepsOthers W W' ∧ (∀ k, F k → W'.heap[k]? = W.heap[k]?) ∧ Ix (.exit id) W'
  | .goto t, _, W' => KeepsOthers W W' ∧ (∀ k, F k → W'.heap[k]? = W.heap[k]?) ∧ Ix (.goto t) W'
  | .panic _, _, _ => False
  | .outgrown, _, _ => False

section
variable {P : Program} {α : Type}

theorem wp_range_it {g : Operand} {ps : Array Tmp} {assign body : Code} {Q : Exit → Act → World → Prop} {a : Act} {w : World} (gf : Nat) (lb : Array Value)
    (hg : a.eval g = .func (.func gf) #[] lb) (eg : Proofs.Enters P gf) {enc : α → Array Value} {F G : Nat → Prop} {It0 It : List α → World → Prop} (hit : IterSpec P gf lb enc F G It0 It) (hps : ∀ x, (enc x).size = ps.size)
    (I : List α → World → Prop) (hI : ∀ r W W', I r W → Stay G W W' → I r W') (Ix : Code → World → Prop) (hIx : ∀ c W W', Ix c W → Stay G W W' → Ix c W') (c : List α) (h0 : I c w) (hit0 : It0 c w) (a₁ : α → Act)
    (hassign : ∀ l x W (K : Act → World → Prop), K (a₁ x) W → assign.wpIn (Fence.wide.inRound l) 2 P (Exit.then K (fun _ _ _ => False)) { tmps := (ps.zip (enc x)).foldl (fun t (p, v) => t.setIfInBounds p v) a.tmps, defers := [] } W)
    (hbody : ∀ l x r W, I (x :: r) W → It (x :: r) W → w.heap.size ≤ W.heap.size → body.wpIn (Fence.wide.inRound l) 2 P (rPost F I Ix r W) (a₁ x) W)
    (hdone : ∀ D W, w.heap.size ≤ D → I [] W → KeepsOthers w W → W.heap[D]? = some (.deferred (some [])) → Q .normal { a with defers := { target := .collected D, args := #[] } :: a.defers } W)
    (hstop : ∀ D c W, w.heap.size ≤ D → Ix c W → KeepsOthers w W → W.heap[D]? = some (.deferred (some [])) → c.wp P Q { a with defers := { target := .collected D, args := #[] } :: a.defers } W) :
    (Code.rangeFunc g ps assign body).wp P Q a w := by
  have hlF : ∀ k, F k → k < w.heap.size := fun k hk => by
    obtain ⟨cs, t, f, e⟩ := hit.cells _ _ k hit0 hk
    exact (Array.getElem?_eq_some_iff.1 e).1
  have keep : ∀ {A B : World}, KeepsOthers w A → Chg G A B → KeepsOthers w B := fun hA hc =>
    ⟨Nat.le_trans hA.size hc.size, fun k o hk ho => hc.same (hA.same k o hk ho) fun hF => by
      obtain ⟨cs, t, f, e⟩ := hit.cells _ _ k hit0 (hit.sub k hF)
      rw [e] at hk; cases hk; cases ho⟩
  refine wp_range gf lb hg eg fun fn rec hrec => ?_
  obtain ⟨D, hD⟩ : ∃ D, w.heap.size = D := ⟨_, rfl⟩
  rw [hD]
  have hK1 : KeepsOthers w ((w.alloc (.deferred (some []))).alloc (.loop (rec .ready none))) := (KeepsOthers.alloc w _).trans (KeepsOthers.alloc _ _)
  have hS1 : Stay G w ((w.alloc (.deferred (some []))).alloc (.loop (rec .ready none))) := (Stay.alloc G w _).trans (Stay.alloc G _ _)
  have hL1 : ((w.alloc (.deferred (some []))).alloc (.loop (rec .ready none))).heap[D + 1]? = some (.loop (rec .ready none)) := by
    have := World.alloc_heap_new (w.alloc (.deferred (some []))) (.loop (rec .ready none))
    rwa [World.size_alloc, hD] at this
  have hD1 : ((w.alloc (.deferred (some []))).alloc (.loop (rec .ready none))).heap[D]? = some (.deferred (some [])) := by
    rw [← hD]
    exact (Below.heap_alloc _ _ _ (by simp)).trans (World.alloc_heap_new _ _)
  have hF1 : ∀ k, F k → ((w.alloc (.deferred (some []))).alloc (.loop (rec .ready none))).heap[k]? = w.heap[k]? := fun k hk => by
    have := hlF k hk
    exact (Below.heap_alloc _ _ _ (by simp; omega)).trans (Below.heap_alloc _ _ _ this)
  have hIt1 := hit.far0 _ _ _ hit0 hS1.size hF1
  have hI1 := hI _ _ _ h0 hS1
  generalize (w.alloc (.deferred (some []))).alloc (.loop (rec .ready none)) = W1 at hK1 hS1 hL1 hD1 hF1 hIt1 hI1 ⊢
  have hle : ∀ {W : World}, KeepsOthers w W → D ≤ W.heap.size := fun h => by rw [← hD]; exact h.size
  refine (hit.call (D + 1)
    (fun r W => I r W ∧ W.heap[D + 1]? = some (.loop (rec .ready none)) ∧ W.heap[D]? = some (.deferred (some [])) ∧ KeepsOthers w W)
    (fun W => ∃ c, Ix c W ∧ W.heap[D + 1]? = some (.loop (rec .done (some c))) ∧ W.heap[D]? = some (.deferred (some [])) ∧ KeepsOthers w W)
    ?_ ?_ ?_ c W1 ⟨hI1, hL1, hD1, hK1⟩ hIt1).mono ?_
  · rintro r A B ⟨h1, h2, h3, h4⟩ hc
    exact ⟨hI _ _ _ h1 (.of_chg hc), hc.same h2 (fun h => by have := hlF _ (hit.sub _ h); omega), hc.same h3 (fun h => by have := hlF _ (hit.sub _ h); omega), keep h4 hc⟩
  · rintro A B ⟨k, h1, h2, h3, h4⟩ hc
    exact ⟨k, hIx _ _ _ h1 (.of_chg hc), hc.same h2 (fun h => by have := hlF _ (hit.sub _ h); omega), hc.same h3 (fun h => by have := hlF _ (hit.sub _ h); omega), keep h4 hc⟩
  · rintro x r W ⟨h1, h2, h3, h4⟩ hIt
    have hlt : D + 1 < W.heap.size := (Array.getElem?_eq_some_iff.1 h2).1
    refine yield_body hrec h2 (hps x) (hassign _ x W) h2 ?_
    have hp : Stay G W (W.putObj (D + 1) (.loop (rec .busy none))) := .put h2 rfl _
    have hpF : ∀ k, F k → (W.putObj (D + 1) (.loop (rec .busy none))).heap[k]? = W.heap[k]? := fun k hk => World.putObj_heap_other (by have := hlF k hk; omega)
    have hb := hbody (D + 1) x r _ (hI _ _ _ h1 hp) (hit.far _ _ _ hIt hp.size hpF) (Nat.le_trans h4.size hp.size)
    have g2 : (W.putObj (D + 1) (.loop (rec .busy none))).heap[D + 1]? = some (.loop (rec .busy none)) := World.putObj_heap_same hlt
    have g3 : (W.putObj (D + 1) (.loop (rec .busy none))).heap[D]? = some (.deferred (some [])) := (World.putObj_heap_other (by omega)).trans h3
    have g4 : KeepsOthers w (W.putObj (D + 1) (.loop (rec .busy none))) := ⟨by simpa using h4.size, fun k o hk ho => (World.putObj_heap_other (by have := (Array.getElem?_eq_some_iff.1 hk).1; omega)).trans (h4.same k o hk ho)⟩
    have hsz : W.heap.size ≤ (W.putObj (D + 1) (.loop (rec .busy none))).heap.size := hp.size
    generalize W.putObj (D + 1) (.loop (rec .busy none)) = V at hb hpF g2 g3 g4 hsz
    have fin : ∀ (st : Option Code) (k : LoopState) (V' : World), KeepsOthers V V' → (∀ k, F k → V'.heap[k]? = V.heap[k]?) →
        V'.heap[D + 1]? = some (.loop (rec .busy none)) ∧ W.heap.size ≤ (V'.putObj (D + 1) (.loop (rec k st))).heap.size ∧ (∀ j, F j → (V'.putObj (D + 1) (.loop (rec k st))).heap[j]? = W.heap[j]?) ∧ Stay G V' (V'.putObj (D + 1) (.loop (rec k st))) ∧
        (V'.putObj (D + 1) (.loop (rec k st))).heap[D + 1]? = some (.loop (rec k st)) ∧ (V'.putObj (D + 1) (.loop (rec k st))).heap[D]? = some (.deferred (some [])) ∧ KeepsOthers w (V'.putObj (D + 1) (.loop (rec k st))) := by
      intro st k V' hK hFs
      have e := hK.same _ _ g2 rfl
      have e3 := hK.same _ _ g3 rfl
      have e4 := g4.trans hK
      refine ⟨e, by simpa using Nat.le_trans hsz hK.size, fun j hj => ((World.putObj_heap_other (by have := hlF j hj; omega)).trans (hFs j hj)).trans (hpF j hj), .put e rfl _, World.putObj_heap_same (Array.getElem?_eq_some_iff.1 e).1, (World.putObj_heap_other (by omega)).trans e3,
        ⟨by simpa using e4.size, fun k o hk ho => (World.putObj_heap_other (by have := (Array.getElem?_eq_some_iff.1 hk).1; omega)).trans (e4.same k o hk ho)⟩⟩
    refine wpIn_mono hb ?_
    rintro e a2 V' hq
    cases e with
    | normal =>
      obtain ⟨q1, q2, q3⟩ := hq
      obtain ⟨f1, f2, f3, f4, f5, f6, f7⟩ := fin none .ready V' q1 q2
      exact ⟨f1, f2, f3, .inl ⟨rfl, hI _ _ _ q3 f4, f5, f6, f7⟩⟩
    | ret =>
      obtain ⟨q1, q2, q3⟩ := hq
      obtain ⟨f1, f2, f3, f4, f5, f6, f7⟩ := fin (some .ret) .done V' q1 q2
      exact ⟨f1, f2, f3, .inr ⟨rfl, _, hIx _ _ _ q3 f4, f5, f6, f7⟩⟩
    | exit id =>
      obtain ⟨q1, q2, q3⟩ := hq
      obtain ⟨f1, f2, f3, f4, f5, f6, f7⟩ := fin (some (.exit id)) .done V' q1 q2
      exact ⟨f1, f2, f3, .inr ⟨rfl, _, hIx _ _ _ q3 f4, f5, f6, f7⟩⟩
    | goto t =>
      obtain ⟨q1, q2, q3⟩ := hq
      obtain ⟨f1, f2, f3, f4, f5, f6, f7⟩ := fin (some (.goto t)) .done V' q1 q2
      exact ⟨f1, f2, f3, .inr ⟨rfl, _, hIx _ _ _ q3 f4, f5, f6, f7⟩⟩
    | panic ch => exact hq.elim
    | outgrown => exact hq.elim
  · rintro e W ⟨⟨v, rfl⟩, ⟨h1, h2, h3, h4⟩ | ⟨k, h1, h2, h3, h4⟩⟩
    · have g4 : KeepsOthers w (W.putObj (D + 1) (.loop (rec .exhausted none))) := ⟨by simpa using h4.size, fun k o hk ho => (World.putObj_heap_other (by have := (Array.getElem?_eq_some_iff.1 hk).1; omega)).trans (h4.same k o hk ho)⟩
      exact ⟨⟨_, rfl⟩, .inl ⟨h2, hdone D _ (Nat.le_of_eq hD) (hI _ _ _ h1 (.put h2 rfl _)) g4 ((World.putObj_heap_other (by omega)).trans h3)⟩⟩
    · have g4 : KeepsOthers w (W.putObj (D + 1) (.loop (rec .exhausted (some k)))) := ⟨by simpa using h4.size, fun k o hk ho => (World.putObj_heap_other (by have := (Array.getElem?_eq_some_iff.1 hk).1; omega)).trans (h4.same k o hk ho)⟩
      exact ⟨⟨_, rfl⟩, .inr ⟨k, h2, hstop D k _ (Nat.le_of_eq hD) (hIx _ _ _ h1 (.put h2 rfl _)) g4 ((World.putObj_heap_other (by omega)).trans h3)⟩⟩
end
end Pal

/- A slice that reads as a list; append onto a row of the call's own. -/
namespace Pal
open Go Go.RowKit

theorem block_of_add (a : Addr) (n : Nat) : (a.add n).block = a.block := by unfold Addr.add; split <;> rfl
theorem add_of_add (a : Addr) (i j : Nat) : (a.add i).add j = a.add (i + j) := by
  unfold Addr.add
  by_cases hi : i = 0 <;> by_cases hj : j = 0 <;> simp [hi, hj, Nat.add_assoc]

def Reads (w : World) (B size : Nat) (A : Option Addr) (n : Nat) (xs : List Value) : Prop :=
  xs.length = n * size ∧ (0 < n → ∃ ad, A = some ad ∧ ad.block < B ∧ ∀ j u, xs[j]? = some u → w.cell? (ad.add j) = some u)

section
variable {w w' : World} {B B' size n : Nat} {A : Option Addr} {xs : List Value}
theorem Reads.none_ : Reads w B size A 0 [] := ⟨by simp, fun h => absurd h (by omega)⟩
theorem Reads.at_ {k : Nat} (h : Reads w B 1 A n xs) (hk : k < n) : ∃ ad u, A = some ad ∧ ad.block < B ∧ xs[k]? = some u ∧ w.cell? (ad.add k) = some u := by
  obtain ⟨ad, e, hb, hc⟩ := h.2 (by omega)
  have hl : k < xs.length := by have := h.1; omega
  exact ⟨ad, xs[k], e, hb, List.getElem?_eq_getElem hl, hc k _ (List.getElem?_eq_getElem hl)⟩
theorem Reads.keep (h : Reads w B size A n xs) (hk : ∀ p : Addr, p.block < B → w'.cell? p = w.cell? p) : Reads w' B size A n xs :=
  ⟨h.1, fun hn => by
    obtain ⟨ad, e, hb, hc⟩ := h.2 hn
    exact ⟨ad, e, hb, fun j u hu => (hk _ (by rw [block_of_add]; exact hb)).trans (hc j u hu)⟩⟩
theorem Reads.more (h : Reads w B size A n xs) (hB : B ≤ B') : Reads w B' size A n xs :=
  ⟨h.1, fun hn => by
    obtain ⟨ad, e, hb, hc⟩ := h.2 hn
    exact ⟨ad, e, by omega, hc⟩⟩
theorem Reads.below (h : Reads w B size A n xs) (hb : Below B w w') : Reads w' B size A n xs := h.keep fun _ hp => hb.cell hp
theorem Reads.drew (h : Reads w B size A n xs) : Reads w.drew B size A n xs := h
theorem Reads.drewN (h : Reads w B size A n xs) (k : Nat) : Reads (w.drewN k) B size A n xs := h
theorem Reads.alloc (h : Reads w B size A n xs) (hB : B ≤ w.heap.size) (o : Obj) : Reads (w.alloc o) B size A n xs := h.keep fun p hp => World.cell?_alloc_lt w o p (by omega)
theorem Reads.setCell (h : Reads w B size A n xs) {p : Addr} (hB : B ≤ p.block) (u : Value) : Reads (w.setCell p u) B size A n xs :=
  h.keep fun q hq => World.cell?_setCell_other w p q u (fun e => by subst e; omega)
theorem Reads.grown (h : Reads w B size A n xs) {row : Option Nat} (hg : w.grownBy w' row) (hB : B ≤ w.heap.size) (hr : ∀ g, row = some g → B ≤ g) : Reads w' B size A n xs :=
  h.keep fun p hp => World.cell?_of_block (hg.block p.block (by omega) (fun e => by have := hr _ e.symm; omega))
theorem Reads.cut (h : Reads w B size A n xs) {k cap : Nat} (hk : k ≤ n) (hc : n ≤ cap) :
    Reads w B size (if cap = k then A else A.map (·.add (k * size))) (n - k) (xs.drop (k * size)) := by
  refine ⟨by rw [List.length_drop, h.1, Nat.sub_mul], fun hn => ?_⟩
  obtain ⟨ad, rfl, hb, hcell⟩ := h.2 (by omega)
  rw [if_neg (by omega)]
  refine ⟨ad.add (k * size), rfl, by rw [block_of_add]; exact hb, fun j u hu => ?_⟩
  rw [add_of_add]
  exact hcell _ u (by rw [← hu, List.getElem?_drop])
theorem Reads.of_own {base : Nat} {e : TypeId} {c : Nat} (h : w.ownsRow base e size (.slice A n c) n xs) : Reads w w.heap.size size A n xs := by
  refine ⟨h.1, fun hn => ?_⟩
  obtain ⟨g, cap, hv, _, hlt⟩ := h.form hn
  have hA : A = some ⟨g, 0, none⟩ := by injection hv
  subst hA
  exact ⟨_, rfl, hlt, h.cells (g := g) rfl⟩
end

section
variable {P : Program} (w : World)

theorem run_append_of_nil (base : Nat) (t ty e : TypeId) (i : TypeInfo) (size : Nat) (ht : P.underlying t = some (.slice e)) (hi : P.info? e = some i)
    (v : Value) (n : Nat) (xs : List Value) (hown : w.ownsRow base e size v n xs) (c : Nat) : (Builtin.append_ #[t, t] ty #[v, .slice none 0 c]).run P w = .ok v w := by
  rcases hown.2 with ⟨rfl, rfl⟩ | ⟨g, cap, cur, rfl, _, _, hnc, _⟩
  · simp [Builtin.append_, run_underlying ht, Go.sizeOf, typeInfo, hi, Builtin.lenOf, Builtin.firstCells]
  · simp [Builtin.append_, run_underlying ht, Go.sizeOf, typeInfo, hi, Builtin.lenOf, Builtin.firstCells, hnc, storeCells]

theorem run_append_any (base : Nat) (t ty e : TypeId) (i : TypeInfo) (z : Value) (size bytes : Nat) (ht : P.underlying t = some (.slice e)) (hi : P.info? e = some i) (hz : i.zero = some z)
    (hsize : i.size = size) (hby : i.bytes = bytes) (hzs : z.cells.size = size) (hsz : 0 < size)
    (v : Value) (n : Nat) (xs : List Value) (hown : w.ownsRow base e size v n xs)
    (B : Nat) (A : Option Addr) (m c : Nat) (news : List Value) (hr : Reads w B size A m news) (h1 : ∀ u ∈ news, u.oneCell' = true)
    (h63 : n + m ≤ maxLen) (hbytes : (n + m) * bytes ≤ 140737488355328) (hbase : base ≤ w.heap.size) :
    ∃ v' w', (Builtin.append_ #[t, t] ty #[v, .slice A m c]).run P w = .ok v' w' ∧ w'.ownsRow base e size v' (n + m) (xs ++ news) ∧ w.grownBy w' v.ownBlock ∧
      (v'.ownBlock = v.ownBlock ∨ v'.ownBlock = some w.heap.size) := by
  rcases A with _ | ad
  · have hm : m = 0 := by
      rcases Nat.eq_zero_or_pos m with h0 | h0
      · exact h0
      · obtain ⟨ad, h, _⟩ := hr.2 h0
        cases h
    subst hm
    have hn : news = [] := List.eq_nil_of_length_eq_zero (by simpa using hr.1)
    subst hn
    exact ⟨v, w, run_append_of_nil w base t ty e i size ht hi v n xs hown c, by simpa using hown, World.grownBy.refl w _, .inl rfl⟩
  · have hcells : ∀ j u, news[j]? = some u → w.cell? (ad.add j) = some u := by
      intro j u hu
      rcases Nat.eq_zero_or_pos m with h0 | h0
      · subst h0
        have hn : news = [] := List.eq_nil_of_length_eq_zero (by simpa using hr.1)
        subst hn
        simp at hu
      · obtain ⟨ad', h, _, hc⟩ := hr.2 h0
        injection h with h
        subst h
        exact hc j u hu
    obtain ⟨v', w', hrun, h2, h3, _, h5⟩ := run_append_own_at (P := P) w base t ty e i z size bytes ht hi hz hsize hby hzs hsz v n xs hown ad m c news hr.1 hcells h1 h63 hbytes hbase
    exact ⟨v', w', hrun, h2, h3, h5⟩

theorem wp_append_any {o : Oper} {a : Act} {K : Act → World → Prop} {Q : Exit → Act → World → Prop} (s x : Operand) (t : TypeId)
    (ho : o.op = .call { callee := .builtin .append, args := #[s, x], argTypes := #[t, t] })
    (base : Nat) (e : TypeId) (i : TypeInfo) (z : Value) (size bytes : Nat) (ht : P.underlying t = some (.slice e)) (hi : P.info? e = some i) (hz : i.zero = some z)
    (hsize : i.size = size) (hby : i.bytes = bytes) (hzs : z.cells.size = size) (hsz : 0 < size)
    (v : Value) (n : Nat) (xs : List Value) (hs : a.eval s = v) (hown : w.ownsRow base e size v n xs)
    (B : Nat) (A : Option Addr) (m c : Nat) (news : List Value) (hx : a.eval x = .slice A m c) (hr : Reads w B size A m news) (h1 : ∀ u ∈ news, u.oneCell' = true)
    (h63 : n + m ≤ maxLen) (hbytes : (n + m) * bytes ≤ 140737488355328) (hbase : base ≤ w.heap.size)
    (h : ∀ v' w', w'.ownsRow base e size v' (n + m) (xs ++ news) → w.grownBy w' v.ownBlock → (v'.ownBlock = v.ownBlock ∨ v'.ownBlock = some w.heap.size) → K (a.put o.dst v') w') : o.wp P a w K Q := by
  obtain ⟨v', w', hrun, h2, h3, h4⟩ := run_append_any (P := P) w base t o.type e i z size bytes ht hi hz hsize hby hzs hsz v n xs hown B A m c news hr h1 h63 hbytes hbase
  unfold Oper.wp execOp
  simp only [ho, resolve, invoke, builtin, Sem.run_bind, Sem.run_pure, Result.andThen_ok, List.map_toArray, List.map_cons, List.map_nil, hs, hx, hrun]
  exact h v' w' h2 h3 h4

theorem wpList_append_any {ops : Array Oper} {rest : List Oper} {o : Oper} {a : Act} {Q : Exit → Act → World → Prop} (hgd : o.guard = none) (s x : Operand) (t : TypeId)
    (ho : o.op = .call { callee := .builtin .append, args := #[s, x], argTypes := #[t, t] })
    (base : Nat) (e : TypeId) (i : TypeInfo) (z : Value) (size bytes : Nat) (ht : P.underlying t = some (.slice e)) (hi : P.info? e = some i) (hz : i.zero = some z)
    (hsize : i.size = size) (hby : i.bytes = bytes) (hzs : z.cells.size = size) (hsz : 0 < size)
    (v : Value) (n : Nat) (xs : List Value) (hs : a.eval s = v) (hown : w.ownsRow base e size v n xs)
    (B : Nat) (A : Option Addr) (m c : Nat) (news : List Value) (hx : a.eval x = .slice A m c) (hr : Reads w B size A m news) (h1 : ∀ u ∈ news, u.oneCell' = true)
    (h63 : n + m ≤ maxLen) (hbytes : (n + m) * bytes ≤ 140737488355328) (hbase : base ≤ w.heap.size)
    (h : ∀ v' w', w'.ownsRow base e size v' (n + m) (xs ++ news) → w.grownBy w' v.ownBlock → (v'.ownBlock = v.ownBlock ∨ v'.ownBlock = some w.heap.size) → wpList P ops Q rest (a.put o.dst v') w') : wpList P ops Q (o :: rest) a w :=
  wpList_plain hgd fun _ hK => wp_append_any w s x t ho base e i z size bytes ht hi hz hsize hby hzs hsz v n xs hs hown B A m c news hx hr h1 h63 hbytes hbase fun v' w' h2 h3 h4 => hK _ _ (h v' w' h2 h3 h4)

theorem step_append_any {ops : Array Oper} {o : Oper} {a : Act} {K : Act → World → Prop} {Q : Exit → Act → World → Prop} {E : Prop} (hgd : o.guard = none) (s x : Operand) (t : TypeId)
    (ho : o.op = .call { callee := .builtin .append, args := #[s, x], argTypes := #[t, t] })
    (base : Nat) (e : TypeId) (i : TypeInfo) (z : Value) (size bytes : Nat) (ht : P.underlying t = some (.slice e)) (hi : P.info? e = some i) (hz : i.zero = some z)
    (hsize : i.size = size) (hby : i.bytes = bytes) (hzs : z.cells.size = size) (hsz : 0 < size)
    (v : Value) (n : Nat) (xs : List Value) (hs : a.eval s = v) (hown : w.ownsRow base e size v n xs)
    (B : Nat) (A : Option Addr) (m c : Nat) (news : List Value) (hx : a.eval x = .slice A m c) (hr : Reads w B size A m news) (h1 : ∀ u ∈ news, u.oneCell' = true)
    (h63 : n + m ≤ maxLen) (hbytes : (n + m) * bytes ≤ 140737488355328) (hbase : base ≤ w.heap.size)
    (h : ∀ v' w', w'.ownsRow base e size v' (n + m) (xs ++ news) → w.grownBy w' v.ownBlock → (v'.ownBlock = v.ownBlock ∨ v'.ownBlock = some w.heap.size) → K (a.put o.dst v') w') :
    if Region.wanted o (yielded ops a.tmps) = true then Oper.wp P o a w K Q else E := by
  have hw : Region.wanted o (yielded ops a.tmps) = true := by simp [Region.wanted, hgd]
  rw [if_pos hw]
  exact wp_append_any w s x t ho base e i z size bytes ht hi hz hsize hby hzs hsz v n xs hs hown B A m c news hx hr h1 h63 hbytes hbase h
end

theorem Reads.chg {w w' : World} {B size n : Nat} {A : Option Addr} {xs : List Value} {S : Nat → Prop} (h : Reads w B size A n xs) (hc : Chg S w w') (hB : B ≤ w.heap.size) (hS : ∀ g, g < B → ¬ S g) : Reads w' B size A n xs :=
  h.keep fun p hp => World.cell?_of_block (hc.block p.block (by omega) (hS _ hp))
theorem app_keeps {W w1 : World} {base n size : Nat} {e : TypeId} {v : Value} {xs : List Value} (hown : W.ownsRow base e size v n xs) (hg : W.grownBy w1 v.ownBlock) : KeepsOthers W w1 :=
  KeepsOthers.of_grownBy hg fun j o hj ho => by
    rcases hown.2 with ⟨rfl, _⟩ | ⟨g, cap, cur, rfl, _, hh, _⟩
    · simp [Value.ownBlock] at hj
    · have : g = j := by simpa [Value.ownBlock] using hj
      subst this
      rw [hh] at ho; cases ho; rfl
theorem app_chg {W w1 : World} {base n size : Nat} {e : TypeId} {v : Value} {xs : List Value} (hown : W.ownsRow base e size v n xs) (hg : W.grownBy w1 v.ownBlock) : Chg (fun k => base ≤ k) W w1 :=
  Chg.of_grown hg fun g hgg => (hown.lt g hgg).1
theorem KeepsOthers.of_chg0 {w w' : World} (h : Chg (fun _ => False) w w') : KeepsOthers w w' := others_chg h fun _ _ _ _ => id
theorem Blk.not_own {w : World} {g : Nat} {t e : TypeId} {cs : Array Value} {base n size : Nat} {v : Value} {xs : List Value} (h : Blk w g t cs) (ho : w.ownsRow base e size v n xs) (hne : t ≠ e) : v.ownBlock ≠ some g := by
  rcases ho.2 with ⟨rfl, _⟩ | ⟨g', cap, cur, rfl, _, hh, _⟩
  · simp [Value.ownBlock]
  · intro he
    have : g' = g := by simpa [Value.ownBlock] using he
    subst this
    unfold Blk at h
    rw [hh] at h
    injection h with h
    injection h with _ ht
    exact hne ht.symm
end Pal
