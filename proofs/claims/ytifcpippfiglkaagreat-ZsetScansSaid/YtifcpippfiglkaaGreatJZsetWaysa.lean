/- Texts joined for ZsetWays: LW, RF, HM, DMint64, HC. -/
import Derived.Test.YtifcpippfiglkaaGreatProg
import Derived.ProofKit
import Derived.OpenShut
import Derived.Below
import Derived.RangeFuncNested
import Derived.RangeFuncBound
import Derived.RangeFuncCalls
import Derived.RangeFuncLeaves
import Derived.Shelf.Abstract
import Derived.Laws.OwnMore
import Derived.Deep.Draws
import Derived.WalkKit
import Derived.Outline
import Derived.Lib.Hide
import Derived.Laws.BitsLemmas
import Derived.Laws.BitsAllLaws
import Derived.WalkLawsBesides
import Derived.ScopeJumps
import Derived.WalkMore
set_option linter.unusedVariables false
set_option linter.unusedSimpArgs false

/- Words for the rows of laws: from 'it returns true and nothing that lay has turned' to the row's 'post', for arguments of any readable type. -/
namespace Pal
open Go Go.RowKit Go.WideShapes Go.ChangeShapes

section
variable {H : Type} {enc : TypeId × Value → H} {P : Program}
theorem post_of_below {f : Func} {s : ChangeSpec} {apart fresh handsOn again : Bool} {W W' : World} {args : Array Value} {v : Value} {ds gs : List (DataW H)} {before pa pv : List MemPlace}
    (hW : DataW.Whole enc P f.params.toList s.vars apart W args.toList ds gs before)
    (hres : ∀ (b : Nat) (sp : Nat → Bool) (hd : Bool), DataW.TrodAll enc P W' b sp hd f.resultTypes.toList (v.resultList f.resultTypes.size) (s.fn H (ds ++ gs)).results [])
    (hargs : ∀ sp : Nat → Bool, (∀ p ∈ before, sp p.block = true) → DataW.TrodAll enc P W' 0 sp true f.params.toList args.toList (s.fn H (ds ++ gs)).args pa)
    (hvars : ∀ sp : Nat → Bool, (∀ p ∈ before, sp p.block = true) → DataW.TrodVars enc P W' sp s.vars (s.fn H (ds ++ gs)).vars pv)
    (hps : before = pa ++ pv) (hb : Below W.heap.size W W')
    (hok : ∀ (j : Nat) (t : TypeId) (r : Value), f.resultTypes[j]? = some t → (v.resultList f.resultTypes.size)[j]? = some r → Value.okWide P W' .any 0 t r) :
    s.post enc P f apart fresh handsOn again W args v W' := by
  have hlt : ∀ p ∈ before, p.block < W.heap.size := fun p hp => hW.lt p hp
  have hold : ∀ p ∈ before, (fun b => decide (b < W.heap.size)) p.block = true := fun p hp => by simpa using hlt p hp
  refine ⟨ds, gs, before, [], pa, pv, hW, hres _ _ _, hargs _ hold, hvars _ hold, World.keptBut_mono (fun p hp => ⟨hp, ?_⟩) (hb.frame (· ∈ before)), fun _ => ?_⟩
  · rw [hps, List.mem_append] at hp
    exact Or.inr hp
  · obtain ⟨_, _, _, _, _, hz, hn⟩ := hW
    refine ⟨hok, _, _, ([] ++ pa) ++ pv, ⟨[] ++ pa, pv, trodAll_append (hargs _ (fun _ _ => rfl)) (hres _ _ _), hvars _ (fun _ _ => rfl), rfl, ?_, ?_⟩, ?_⟩
    · intro b off hp
      have hin : MemPlace.cell b off ∈ before := by rw [hps]; simpa using hp
      rw [hb.frozen (hlt _ hin)]
      exact hz b off hin
    · intro ha
      have := hn ha
      rw [hps] at this
      simpa using this
    · intro p hp _
      rw [hps]
      simpa using hp

theorem trodAll_stays {W W' : World} {sp' : Nat → Bool} (hl : laidOutB P = true) : ∀ {ts : List TypeId} {vs : List Value} {ds : List (DataW H)} {ps : List MemPlace},
    (ts.all fun t => P.readableRec t && decide (t < P.types.size)) = true → DataW.TrodAll enc P W 0 (fun _ => true) true ts vs ds ps →
    (∀ p ∈ ps, W.sameAt W' p) → (∀ p ∈ ps, sp' p.block = true) → DataW.TrodAll enc P W' 0 sp' true ts vs ds ps := by
  intro ts
  induction ts with
  | nil =>
    intro vs ds ps _ h _ _
    obtain ⟨rfl, rfl, rfl⟩ := trodAll_nil h
    exact trodAll_mk0
  | cons t ts ih =>
    intro vs ds ps hts h hsame hs
    simp only [List.all_cons, Bool.and_eq_true, decide_eq_true_iff] at hts
    obtain ⟨v, vs', d, ds', p, p', rfl, rfl, rfl, h1, h2⟩ := trodAll_cons h
    exact trodAll_cons_mk (WideElems.Trod_stays hl hts.1.1 hts.1.2 h1 (fun q hq => hsame q (by simp [hq])) (fun q hq => hs q (by simp [hq])))
      (ih hts.2 h2 (fun q hq => hsame q (by simp [hq])) (fun q hq => hs q (by simp [hq])))

/-- A law: one bool, true; the arguments read as they did. -/
theorem law_post {f : Func} {s : ChangeSpec} {again : Bool} {W W' : World} {args : Array Value} {ds gs : List (DataW H)} {before : List MemPlace} {tb : TypeId} (hl : laidOutB P = true)
    (hts : (f.params.toList.all fun t => P.readableRec t && decide (t < P.types.size)) = true) (htb : P.underlying tb = some .bool) (hr : f.resultTypes = #[tb]) (hv : s.vars = [])
    (hW : DataW.Whole enc P f.params.toList s.vars false W args.toList ds gs before) (hfn : (s.fn H (ds ++ gs)).results = [.lit (.bool true)] ∧ (s.fn H (ds ++ gs)).args = ds ∧ (s.fn H (ds ++ gs)).vars = [])
    (hb : Below W.heap.size W W') : s.post enc P f false true false again W args (.bool true) W' := by
  have hW' := hW
  obtain ⟨p, q, hA, hV, rfl, hfz, hnd⟩ := hW
  rw [hv] at hV
  obtain ⟨rfl, rfl⟩ := trodVars_none hV
  have hlt : ∀ x ∈ p, x.block < W.heap.size := fun x hx => hW'.lt x (by simp [hx])
  refine post_of_below (pa := p) (pv := []) hW' ?_ ?_ ?_ rfl hb ?_
  · intro b sp hd
    rw [hfn.1, hr]
    exact trodAll_cons_mk (shut_bool htb true) trodAll_mk0
  · intro sp hsp
    rw [hfn.2.1]
    exact trodAll_stays hl hts hA (fun x hx => hb.same (hlt x hx)) (fun x hx => hsp x (by simp [hx]))
  · intro sp _
    rw [hfn.2.2, hv]
    rfl
  · exact ok_one hr rfl (okWide_bool_mk htb true)
end
end Pal

/- Words for memory ('Chg', 'Blk'), and the law of a range over a function, in the plain calculus. -/
namespace Pal
open Go Go.RowKit

/-! ### what a call changes: the blocks in S alone, of those that lay -/
structure Chg (S : Nat → Prop) (w w' : World) : Prop where
  os : w'.os = w.os
  tape : w'.tape = w.tape
  output : w'.output = w.output
  size : w.heap.size ≤ w'.heap.size
  block : ∀ k, k < w.heap.size → ¬ S k → w'.heap[k]? = w.heap[k]?

section
variable {S S' : Nat → Prop} {a b c w w' : World}
theorem Chg.refl (S : Nat → Prop) (w : World) : Chg S w w := ⟨rfl, rfl, rfl, Nat.le_refl _, fun _ _ _ => rfl⟩
theorem Chg.trans' (h : Chg S a b) (k : Chg S' b c) (hs : ∀ k, k < a.heap.size → S' k → S k) : Chg S a c :=
  ⟨k.os.trans h.os, k.tape.trans h.tape, k.output.trans h.output, Nat.le_trans h.size k.size,
   fun i hi hn => (k.block i (Nat.lt_of_lt_of_le hi h.size) (fun e => hn (hs i hi e))).trans (h.block i hi hn)⟩
theorem Chg.trans (h : Chg S a b) (k : Chg S b c) : Chg S a c := h.trans' k fun _ _ e => e
theorem Chg.mono (h : Chg S a b) (hs : ∀ k, k < a.heap.size → S k → S' k) : Chg S' a b :=
  ⟨h.os, h.tape, h.output, h.size, fun i hi hn => h.block i hi fun e => hn (hs i hi e)⟩
theorem Chg.alloc (h : Chg S a w) (o : Obj) : Chg S a (w.alloc o) :=
  h.trans ⟨rfl, rfl, rfl, by simp, fun k hk _ => Below.heap_alloc _ _ _ hk⟩
theorem Chg.drew (h : Chg S a w) : Chg S a w.drew := ⟨h.os, h.tape, h.output, h.size, h.block⟩
theorem Chg.drewN (h : Chg S a w) (n : Nat) : Chg S a (w.drewN n) := ⟨h.os, h.tape, h.output, h.size, h.block⟩
theorem Chg.setCell (h : Chg S a w) {p : Addr} (hp : p.block < a.heap.size → S p.block) (u : Value) : Chg S a (w.setCell p u) :=
  ⟨h.os, h.tape, h.output, by simpa [World.setCell] using h.size, fun k hk hn => (Below.heap_setCell _ _ _ _ (fun e => by subst e; exact hn (hp hk))).trans (h.block k hk hn)⟩
theorem Chg.store (h : Chg S a w) {b : Nat} (hb : S b) (i : Nat) (u : Value) : Chg S a (w.setCell ⟨b, i, none⟩ u) := h.setCell (p := ⟨b, i, none⟩) (fun _ => hb) u
theorem Chg.store_new (h : Chg S a w) {b : Nat} (hb : a.heap.size ≤ b) (i : Nat) (u : Value) : Chg S a (w.setCell ⟨b, i, none⟩ u) :=
  h.setCell (p := ⟨b, i, none⟩) (fun hlt => absurd hlt (Nat.not_lt.2 hb)) u
theorem Chg.put (h : Chg S a w) {l : Nat} (hb : a.heap.size ≤ l) (o : Obj) : Chg S a (w.putObj l o) :=
  ⟨h.os, h.tape, h.output, by simpa using h.size, fun k hk hn => (World.putObj_heap_other (by omega)).trans (h.block k hk hn)⟩
theorem Chg.putObj (h : Chg S a w) {l : Nat} (hp : l < a.heap.size → S l) (o : Obj) : Chg S a (w.putObj l o) :=
  ⟨h.os, h.tape, h.output, by simpa using h.size, fun k hk hn => (World.putObj_heap_other (fun e => by subst e; exact hn (hp hk))).trans (h.block k hk hn)⟩
theorem Chg.below (h : Chg (fun _ => False) a b) : Below a.heap.size a b := ⟨h.os, h.tape, h.output, h.size, fun k hk => h.block k hk id⟩
theorem Chg.of_below (h : Below a.heap.size a b) : Chg S a b := ⟨h.os, h.tape, h.output, h.size, fun k hk _ => h.block k hk⟩
theorem Chg.of_grown {row : Option Nat} (h : w.grownBy w' row) (hs : ∀ g, row = some g → S g) : Chg S w w' :=
  ⟨h.os, h.tape, h.output, h.size, fun k hk hn => h.block k hk (fun e => hn (hs k e.symm))⟩
theorem Chg.same (h : Chg S w w') {g : Nat} {o : Obj} (hg : w.heap[g]? = some o) (hn : ¬ S g) : w'.heap[g]? = some o :=
  (h.block g (Array.getElem?_eq_some_iff.1 hg).1 hn).trans hg
end

/-! ### a block that is known whole -/
def Blk (w : World) (g : Nat) (t : TypeId) (cs : Array Value) : Prop := w.heap[g]? = some (.cells cs t (0, 0))

section
variable {w w' : World} {g : Nat} {t : TypeId} {cs : Array Value}
theorem Blk.lt (h : Blk w g t cs) : g < w.heap.size := (Array.getElem?_eq_some_iff.1 h).1
theorem Blk.cell (h : Blk w g t cs) (i : Nat) : w.cell? ⟨g, i, none⟩ = cs[i]? := cell_of_row w g i cs t (0, 0) h
theorem Blk.frozen (h : Blk w g t cs) (i : Nat) : w.frozen? ⟨g, i, none⟩ = false := by
  unfold Blk at h
  simp [World.frozen?, h]
theorem Blk.new (w : World) (t : TypeId) (cs : Array Value) : Blk (w.alloc (.cells cs t)) w.heap.size t cs := World.alloc_heap_new w _
theorem Blk.drew (h : Blk w g t cs) : Blk w.drew g t cs := h
theorem Blk.drewN (h : Blk w g t cs) (n : Nat) : Blk (w.drewN n) g t cs := h
theorem Blk.alloc (h : Blk w g t cs) (o : Obj) : Blk (w.alloc o) g t cs := (Below.heap_alloc w o g h.lt).trans h
theorem Blk.set (h : Blk w g t cs) (i : Nat) (u : Value) : Blk (w.setCell ⟨g, i, none⟩ u) g t (cs.setIfInBounds i u) := by
  unfold Blk at h ⊢
  simp [World.setCell, Array.getElem?_modify, h]
theorem Blk.far (h : Blk w g t cs) {p : Addr} (hp : g ≠ p.block) (u : Value) : Blk (w.setCell p u) g t cs := (Below.heap_setCell w p u g hp).trans h
theorem Blk.putObj (h : Blk w g t cs) {l : Nat} (hp : g ≠ l) (o : Obj) : Blk (w.putObj l o) g t cs := (World.putObj_heap_other hp).trans h
theorem Blk.chg {S : Nat → Prop} (h : Blk w g t cs) (hc : Chg S w w') (hn : ¬ S g) : Blk w' g t cs := hc.same h hn
theorem Blk.ne_type (h : Blk w g t cs) {g' : Nat} {t' : TypeId} {cs' : Array Value} (h' : Blk w g' t' cs') (hne : t ≠ t') : g ≠ g' := by
  rintro rfl
  unfold Blk at h h'
  rw [h] at h'
  injection h' with h'
  injection h' with _ ht
  exact hne ht
theorem Blk.ne_loop (h : Blk w g t cs) {l : Nat} {r : Loop} (hl : w.heap[l]? = some (.loop r)) : g ≠ l := by
  rintro rfl; unfold Blk at h; rw [h] at hl; cases hl
theorem Blk.ne_def (h : Blk w g t cs) {l : Nat} {r} (hl : w.heap[l]? = some (.deferred r)) : g ≠ l := by
  rintro rfl; unfold Blk at h; rw [h] at hl; cases hl
end

/-- All blocks of cells lie as they lay. -/
structure KeepC (w w' : World) : Prop where
  size : w.heap.size ≤ w'.heap.size
  same : ∀ (g : Nat) (c : Array Value) (t : TypeId) (f : Nat × Nat), w.heap[g]? = some (Obj.cells c t f) → w'.heap[g]? = some (Obj.cells c t f)
theorem KeepC.refl (w : World) : KeepC w w := ⟨Nat.le_refl _, fun _ _ _ _ h => h⟩
theorem KeepC.trans {a b c : World} (h : KeepC a b) (k : KeepC b c) : KeepC a c := ⟨Nat.le_trans h.size k.size, fun g x t f e => k.same _ _ _ _ (h.same g x t f e)⟩
theorem KeepC.alloc (w : World) (o : Obj) : KeepC w (w.alloc o) := ⟨by simp, fun g _ _ _ h => (Below.heap_alloc w o g (Array.getElem?_eq_some_iff.1 h).1).trans h⟩
theorem KeepC.drew (w : World) : KeepC w w.drew := ⟨Nat.le_refl _, fun _ _ _ _ h => h⟩
theorem KeepC.of_chg {w w' : World} (h : Chg (fun _ => False) w w') : KeepC w w' := ⟨h.size, fun _ _ _ _ e => h.same e id⟩
theorem KeepC.put_loop {w : World} {l : Nat} {r : Loop} (h : w.heap[l]? = some (.loop r)) (o : Obj) : KeepC w (w.putObj l o) :=
  ⟨by simp, fun g _ _ _ e => (World.putObj_heap_other (fun h' => by subst h'; rw [h] at e; cases e)).trans e⟩
theorem Blk.keep {w w' : World} {g : Nat} {t : TypeId} {cs : Array Value} (h : Blk w g t cs) (k : KeepC w w') : Blk w' g t cs := k.same _ _ _ _ h

theorem len_cons {α : Type} {l : List α} {n : Nat} (h : l.length = n + 1) : ∃ x t, l = x :: t ∧ t.length = n := by
  cases l with
  | nil => cases h
  | cons x t => exact ⟨x, t, rfl, by simpa using h⟩

/-! ### the range over a function -/
section
variable {P : Program}

def recOf (fn : FuncId) (tmps : Array Value) (ps : Array Tmp) (assign body : Code) (D : Nat) (st : LoopState) (pe : Option Code) : Loop :=
  { state := st, pending := pe, fn := fn, tmps := tmps, params := ps, assign := assign, body := body, defers := D }

/-- What a round's end does: the record is written, the iterator is told. -/
def roundQ (l : Nat) (rec : LoopState → Option Code → Loop) (R : Ending → World → Prop) : Exit → Act → World → Prop
  | .normal, _, w => w.heap[l]? = some (.loop (rec .busy none)) ∧ R (.returned (.bool true)) (w.putObj l (.loop (rec .ready none)))
  | .ret, _, w => w.heap[l]? = some (.loop (rec .busy none)) ∧ R (.returned (.bool false)) (w.putObj l (.loop (rec .done (some .ret))))
  | .exit id, _, w => w.heap[l]? = some (.loop (rec .busy none)) ∧ R (.returned (.bool false)) (w.putObj l (.loop (rec .done (some (.exit id)))))
  | .goto t, _, w => w.heap[l]? = some (.loop (rec .busy none)) ∧ R (.returned (.bool false)) (w.putObj l (.loop (rec .done (some (.goto t)))))
  | .panic _, _, _ => False
  | .outgrown, _, _ => False

theorem yield_body {m l : Nat} {fn : FuncId} {tmps : Array Value} {ps : Array Tmp} {assign body : Code} {D : Nat} {args : Array Value} {W : World} {R : Ending → World → Prop}
    {rec : LoopState → Option Code → Loop} (hrec : Hid (rec = recOf fn tmps ps assign body D))
    (hl : W.heap[l]? = some (.loop (rec .ready none))) (hsz : args.size = ps.size) {a₁ : Act} {w₁ : World}
    (hassign : ∀ K : Act → World → Prop, K a₁ w₁ → assign.wpIn (Fence.wide.inRound l) m P (Exit.then K (fun _ _ _ => False)) { tmps := (ps.zip args).foldl (fun t (p, v) => t.setIfInBounds p v) tmps, defers := [] } W)
    (hl1 : w₁.heap[l]? = some (.loop (rec .ready none)))
    (hbody : body.wpIn (Fence.wide.inRound l) m P (roundQ l rec R) a₁ (w₁.putObj l (.loop (rec .busy none)))) :
    YieldAt Fence.wide m P l args W R := by
  have hrec := hrec.out
  subst hrec
  refine ⟨fn, _, assign, body, run_yield hl hsz, roundIn_of_wpIn trivial ?_⟩
  refine hassign _ ⟨_, run_beginRound hl1 rfl, wpIn_mono hbody ?_⟩
  rintro e a2 w2 hq2
  cases e with
  | normal => exact ⟨_, _, run_endRound none hq2.1, hq2.2⟩
  | ret => exact ⟨_, _, run_endRound (some .ret) hq2.1, hq2.2⟩
  | exit id => exact ⟨_, _, run_endRound (some (.exit id)) hq2.1, hq2.2⟩
  | goto t => exact ⟨_, _, run_endRound (some (.goto t)) hq2.1, hq2.2⟩
  | panic ch => exact hq2.elim
  | outgrown => exact hq2.elim

/-- The statement, outermost in its function. -/
theorem wp_range {g : Operand} {ps : Array Tmp} {assign body : Code} {Q : Exit → Act → World → Prop} {a : Act} {w : World} (gf : Nat) (lb : Array Value)
    (hg : a.eval g = .func (.func gf) #[] lb) (eg : Proofs.Enters P gf)
    (h : ∀ fn rec, Hid (rec = recOf fn a.tmps ps assign body w.heap.size) → Calls P gf (#[.func (.yield (w.heap.size + 1)) #[] #[]] ++ lb) ((w.alloc (.deferred (some []))).alloc (.loop (rec .ready none)))
      fun e W => (∃ v, e = .returned v) ∧
        ((W.heap[w.heap.size + 1]? = some (.loop (rec .ready none)) ∧
          Q .normal { a with defers := { target := .collected w.heap.size, args := #[] } :: a.defers } (W.putObj (w.heap.size + 1) (.loop (rec .exhausted none)))) ∨
         (∃ c, W.heap[w.heap.size + 1]? = some (.loop (rec .done (some c))) ∧
          c.wp P Q { a with defers := { target := .collected w.heap.size, args := #[] } :: a.defers } (W.putObj (w.heap.size + 1) (.loop (rec .exhausted (some c))))))) :
    (Code.rangeFunc g ps assign body).wp P Q a w := by
  refine (wpIn_wide (n := 2)).1 (wpIn_rangeFunc ?_)
  intro fn _
  obtain ⟨W1, hW1⟩ : ∃ W1, (w.alloc (.deferred (some []))).alloc (.loop (recOf fn a.tmps ps assign body w.heap.size .ready none)) = W1 := ⟨_, rfl⟩
  have h := h fn _ rfl
  rw [hW1] at h
  refine ⟨w.heap.size + 1, [{ target := .collected w.heap.size, args := #[] }], W1, { target := .fn (.func gf) lb, args := #[.func (.yield (w.heap.size + 1)) #[] #[]] }, W1, gf,
    #[.func (.yield (w.heap.size + 1)) #[] #[]] ++ lb, W1, ?_, ?_, ?_, ?_, fun _ => by omega, ?_⟩
  · rw [← hW1]; exact run_enterLoop_outer _ _ _ _ _
  · simp only [resolve, hg]
    simp [go_sem]
  · intro f' _; trivial
  · simp only [invoke]
    simpa [go_sem] using eg _ _
  · refine callsIn_wide.2 (h.mono ?_)
    rintro e W ⟨⟨v, rfl⟩, ⟨hl, hq⟩ | ⟨c, hl, hq⟩⟩
    · exact ⟨none, _, run_endLoop hl (by simp [recOf]), hq⟩
    · exact ⟨some c, _, run_endLoop hl (by simp [recOf]), wpIn_wide.2 hq⟩

theorem calls_of_wp_marks {f : FuncId} {fn : Func} {c : Code} {args : Array Value} {w : World} {R : Ending → World → Prop}
    (hf : P.funcs[f]? = some fn) (hb : fn.body = some c)
    (h : c.wp P (bodyPostM Fence.wide 2 P fn R) { tmps := args ++ Array.replicate (fn.ntmps - args.size) undef, defers := [] } w) : Calls P f args w R :=
  callsIn_wide.1 (callsIn_of_wp_marks hf hb trivial (wpIn_wide.2 h))

/-- The end of a function that ranged over a function once: the mark is taken in. -/
theorem bodyPostM_ret {fn : Func} {R : Ending → World → Prop} {a : Act} {w : World} {D : Nat} {v : Value} (hd : a.defers = [{ target := .collected D, args := #[] }])
    (hK : w.heap[D]? = some (.deferred (some []))) (hv : (results fn a.tmps).run P (w.putObj D (.deferred none)) = .ok v (w.putObj D (.deferred none)))
    (hR : R (.returned v) (w.putObj D (.deferred none))) : bodyPostM Fence.wide 2 P fn R .ret a w := by
  show LeavesInM Fence.wide 2 P fn a.tmps R a.defers .returning w
  rw [hd]
  exact ⟨by simp, .inl ⟨D, _, rfl, run_takeDeferred hK, ⟨v, hv, hR⟩⟩⟩

/-! ### a function that ranges in a loop: many marks -/
def marks (Ds : List Nat) : List Deferred := Ds.map fun D => { target := .collected D, args := #[] }
def Marked (w : World) (B : Nat) (Ds : List Nat) : Prop := Ds.Nodup ∧ ∀ D ∈ Ds, B ≤ D ∧ w.heap[D]? = some (.deferred (some []))
theorem Marked.nil (w : World) (B : Nat) : Marked w B [] := ⟨List.nodup_nil, fun _ h => by cases h⟩
theorem Marked.chg {S : Nat → Prop} {w w' : World} {B : Nat} {Ds : List Nat} (h : Marked w B Ds) (hc : Chg S w w') (hS : ∀ D o, w.heap[D]? = some (.deferred o) → ¬ S D) : Marked w' B Ds :=
  ⟨h.1, fun D hD => ⟨(h.2 D hD).1, hc.same (h.2 D hD).2 (hS _ _ (h.2 D hD).2)⟩⟩
theorem Marked.cons {w : World} {B D : Nat} {Ds : List Nat} (h : Marked w B Ds) (hD : w.heap[D]? = some (.deferred (some []))) (hB : B ≤ D) (hn : D ∉ Ds) : Marked w B (D :: Ds) :=
  ⟨List.nodup_cons.2 ⟨hn, h.1⟩, fun E hE => by
    rcases List.mem_cons.1 hE with rfl | hE
    · exact ⟨hB, hD⟩
    · exact h.2 E hE⟩
theorem bodyPostM_marks {fn : Func} {R : Ending → World → Prop} {v : Value} {tmps : Array Value} {w0 : World} (hv : ∀ w, (results fn tmps).run P w = .ok v w) :
    ∀ (Ds : List Nat) (w : World), Marked w w0.heap.size Ds → (∀ w', Chg (fun g => w0.heap.size ≤ g) w w' → R (.returned v) w') →
      LeavesInM Fence.wide 2 P fn tmps R (marks Ds) .returning w := by
  intro Ds
  induction Ds with
  | nil =>
    intro w _ hR
    exact ⟨v, hv w, hR w (Chg.refl _ _)⟩
  | cons D Ds ih =>
    intro w hm hR
    obtain ⟨hB, hD⟩ := hm.2 D (by simp)
    have hnd := List.nodup_cons.1 hm.1
    refine ⟨by simp, .inl ⟨D, _, rfl, run_takeDeferred hD, ih _ ⟨hnd.2, fun E hE => ⟨(hm.2 E (by simp [hE])).1, ?_⟩⟩ fun w' h2 => hR w' ?_⟩⟩
    · exact (World.putObj_heap_other (fun e => by subst e; exact hnd.1 hE)).trans (hm.2 E (by simp [hE])).2
    · have hp : Chg (fun g => w0.heap.size ≤ g) w (w.putObj D (.deferred none)) := (Chg.refl _ w).putObj (fun _ => hB) _
      exact hp.trans h2
end
end Pal

/- Plain mathematics of hashes: turned numbers, sizes, sums. -/
namespace Pal

/-! ### sizes -/
def isSz (n : Int) : Bool := [4, 8, 16, 32, 64, 128, 256, 512, 1024, 2048, 4096, 8192, 16384, 32768, 65536].contains n
def szs : List Nat := [4, 8, 16, 32, 64, 128, 256, 512, 1024, 2048, 4096, 8192, 16384, 32768, 65536]

/-! ### turned numbers -/
def turnStep (p : Nat × Nat) : Nat × Nat := ((2 * p.1 + p.2 % 2) % 4294967296, p.2 / 2)
def turnAt (n : Nat) : Nat → Nat × Nat
  | 0 => (0, n)
  | k + 1 => turnStep (turnAt n k)
def turn (n : Nat) : Nat := (turnAt n 32).1

theorem turnAt_snd (n : Nat) : ∀ k, (turnAt n k).2 = n / 2 ^ k
  | 0 => by simp [turnAt]
  | k + 1 => by simp [turnAt, turnStep, turnAt_snd n k, Nat.pow_succ, Nat.div_div_eq_div_mul]

theorem turnAt_lt (n : Nat) : ∀ k, k ≤ 32 → (turnAt n k).1 < 2 ^ k
  | 0, _ => by simp [turnAt]
  | k + 1, hk => by
    have ih := turnAt_lt n k (by omega)
    have h2 : (2 : Nat) ^ (k + 1) = 2 * 2 ^ k := by rw [Nat.pow_succ]; omega
    simp only [turnAt, turnStep]
    have := Nat.mod_le (2 * (turnAt n k).1 + (turnAt n k).2 % 2) 4294967296
    omega

theorem turnAt_bit (n : Nat) : ∀ k i, k ≤ 32 → (turnAt n k).1.testBit i = (decide (i < k) && n.testBit (k - 1 - i))
  | 0, i, _ => by simp [turnAt]
  | k + 1, i, hk => by
    have hl := turnAt_lt n k (by omega)
    have hp : (2 : Nat) ^ k ≤ 2 ^ 31 := Nat.pow_le_pow_right (by omega) (by omega)
    have e : (turnAt n (k + 1)).1 = 2 * (turnAt n k).1 + (turnAt n k).2 % 2 := by
      simp only [turnAt, turnStep]; exact Nat.mod_eq_of_lt (by omega)
    rw [e, turnAt_snd]
    cases i with
    | zero =>
      rw [Nat.testBit_zero]
      have : n.testBit (k + 1 - 1 - 0) = decide (n / 2 ^ k % 2 = 1) := by
        simp [Nat.testBit_eq_decide_div_mod_eq]
      rw [this]
      have : (2 * (turnAt n k).1 + n / 2 ^ k % 2) % 2 = n / 2 ^ k % 2 := by omega
      rw [this]; simp
    | succ i =>
      rw [Nat.testBit_succ]
      have : (2 * (turnAt n k).1 + n / 2 ^ k % 2) / 2 = (turnAt n k).1 := by omega
      rw [this, turnAt_bit n k i (by omega)]
      have : k + 1 - 1 - (i + 1) = k - 1 - i := by omega
      rw [this]; simp

theorem turn_lt (n : Nat) : turn n < 4294967296 := turnAt_lt n 32 (by omega)
theorem turn_bit (n i : Nat) (h : i < 32) : (turn n).testBit i = n.testBit (31 - i) := by
  unfold turn; rw [turnAt_bit n 32 i (by omega)]; simp [h]
theorem bit_ge (n i : Nat) (hn : n < 4294967296) (h : 32 ≤ i) : n.testBit i = false :=
  Nat.testBit_lt_two_pow (Nat.lt_of_lt_of_le hn (Nat.pow_le_pow_right (by omega) h : 2 ^ 32 ≤ 2 ^ i))
theorem eq32 {a b : Nat} (ha : a < 4294967296) (hb : b < 4294967296) (h : ∀ i, i < 32 → a.testBit i = b.testBit i) : a = b :=
  Nat.eq_of_testBit_eq fun i => by
    by_cases hi : i < 32
    · exact h i hi
    · rw [bit_ge a i ha (by omega), bit_ge b i hb (by omega)]
theorem turn_turn (n : Nat) (h : n < 4294967296) : turn (turn n) = n :=
  eq32 (turn_lt _) h fun i hi => by
    rw [turn_bit _ _ hi, turn_bit _ _ (by omega)]; congr 1; omega
theorem turn_inj {a b : Nat} (ha : a < 4294967296) (hb : b < 4294967296) (h : turn a = turn b) : a = b := by
  rw [← turn_turn a ha, h, turn_turn b hb]

/-! ### the next cursor -/
def nextC (c size : Nat) : Nat := turn ((turn (c ||| (4294967295 - (size - 1))) + 1) % 4294967296)
def nextD (c d : Nat) : Nat := turn ((turn c / 2 ^ (32 - d) + 1) * 2 ^ (32 - d) % 4294967296)

theorem bit_high (d i : Nat) (hd : d ≤ 32) (hi : i < 32) : (4294967295 - (2 ^ d - 1)).testBit i = decide (d ≤ i) := by
  have hp : (2 : Nat) ^ 32 = 2 ^ d * 2 ^ (32 - d) := by rw [← Nat.pow_add]; congr 1; omega
  have h1 : 1 ≤ 2 ^ d := Nat.one_le_two_pow
  have h2 : 1 ≤ 2 ^ (32 - d) := Nat.one_le_two_pow
  have h32 : (2 : Nat) ^ 32 = 4294967296 := rfl
  have e : 4294967295 - (2 ^ d - 1) = 2 ^ d * (2 ^ (32 - d) - 1) := by
    rw [Nat.mul_sub, ← hp]; omega
  rw [e, Nat.mul_comm, Nat.testBit_mul_two_pow, Nat.testBit_two_pow_sub_one]
  by_cases h : d ≤ i
  · simp [h]; omega
  · simp [h]

theorem turn_or_high (c d : Nat) (hd : d ≤ 32) (hc : c < 4294967296) :
    turn (c ||| (4294967295 - (2 ^ d - 1))) = turn c / 2 ^ (32 - d) * 2 ^ (32 - d) + (2 ^ (32 - d) - 1) := by
  have h2 : 1 ≤ 2 ^ (32 - d) := Nat.one_le_two_pow
  have hp : (2 : Nat) ^ 32 = 2 ^ d * 2 ^ (32 - d) := by rw [← Nat.pow_add]; congr 1; omega
  have ht := turn_lt c
  have hq : turn c / 2 ^ (32 - d) < 2 ^ d := by
    rw [Nat.div_lt_iff_lt_mul (by omega), ← hp]; exact ht
  have hR : turn c / 2 ^ (32 - d) * 2 ^ (32 - d) + (2 ^ (32 - d) - 1) < 4294967296 := by
    have : (turn c / 2 ^ (32 - d) + 1) * 2 ^ (32 - d) ≤ 2 ^ d * 2 ^ (32 - d) := Nat.mul_le_mul_right _ hq
    rw [← hp, Nat.add_mul] at this
    omega
  refine eq32 (turn_lt _) hR fun i hi => ?_
  rw [turn_bit _ _ hi, Nat.testBit_or, bit_high d _ hd (by omega), Nat.mul_comm, Nat.testBit_two_pow_mul_add _ (by omega)]
  by_cases h : i < 32 - d
  · rw [if_pos h, Nat.testBit_two_pow_sub_one]
    simp [h]; right; omega
  · rw [if_neg h, ← Nat.shiftRight_eq_div_pow, Nat.testBit_shiftRight]
    have : 32 - d + (i - (32 - d)) = i := by omega
    rw [this, turn_bit _ _ hi]
    have : ¬ d ≤ 31 - i := by omega
    simp [this]

theorem nextC_eq (c d : Nat) (hd : d ≤ 32) (hc : c < 4294967296) : nextC c (2 ^ d) = nextD c d := by
  unfold nextC nextD
  rw [turn_or_high c d hd hc]
  congr 2
  have h2 : 1 ≤ 2 ^ (32 - d) := Nat.one_le_two_pow
  rw [Nat.add_mul]; omega

/-- The k-th cursor of a table of 2^d slots. -/
def cur (d k : Nat) : Nat := turn (k * 2 ^ (32 - d))

theorem mul_lt (d k : Nat) (hd : d ≤ 32) (hk : k < 2 ^ d) : k * 2 ^ (32 - d) < 4294967296 := by
  have hp : (2 : Nat) ^ 32 = 2 ^ d * 2 ^ (32 - d) := by rw [← Nat.pow_add]; congr 1; omega
  have h2 : 1 ≤ 2 ^ (32 - d) := Nat.one_le_two_pow
  have : (k + 1) * 2 ^ (32 - d) ≤ 2 ^ d * 2 ^ (32 - d) := Nat.mul_le_mul_right _ hk
  rw [← hp, Nat.add_mul] at this
  omega
theorem cur_zero (d : Nat) : cur d 0 = 0 := by unfold cur; rw [Nat.zero_mul]; decide
theorem cur_lt32 (d k : Nat) : cur d k < 4294967296 := turn_lt _
theorem cur_lt (d k : Nat) (hd : d ≤ 32) (hk : k < 2 ^ d) : cur d k < 2 ^ d := by
  refine Nat.lt_pow_two_of_testBit _ fun i hi => ?_
  by_cases h : i < 32
  · unfold cur
    rw [turn_bit _ _ h, Nat.testBit_mul_two_pow]
    have : ¬ 32 - d ≤ 31 - i := by omega
    simp [this]
  · exact bit_ge _ _ (cur_lt32 d k) (by omega)
theorem cur_inj (d : Nat) {j k : Nat} (hd : d ≤ 32) (hj : j < 2 ^ d) (hk : k < 2 ^ d) (h : cur d j = cur d k) : j = k := by
  have := turn_inj (mul_lt d j hd hj) (mul_lt d k hd hk) h
  exact Nat.eq_of_mul_eq_mul_right (Nat.one_le_two_pow) this
theorem next_cur (d k : Nat) (hd : d ≤ 32) (hk : k < 2 ^ d) : nextD (cur d k) d = if k + 1 = 2 ^ d then 0 else cur d (k + 1) := by
  have hp : (2 : Nat) ^ 32 = 2 ^ d * 2 ^ (32 - d) := by rw [← Nat.pow_add]; congr 1; omega
  unfold nextD
  have e : turn (cur d k) / 2 ^ (32 - d) = k := by
    unfold cur; rw [turn_turn _ (mul_lt d k hd hk)]; exact Nat.mul_div_cancel _ Nat.one_le_two_pow
  rw [e]
  split
  · rename_i h
    rw [h, ← hp]; decide
  · rename_i h
    rw [Nat.mod_eq_of_lt (mul_lt d (k + 1) hd (by omega))]; rfl

/-! ### sizes, once more -/
theorem land_pred : ∀ n : Nat, 1 ≤ n → n &&& (n - 1) = 0 → ∃ d, n = 2 ^ d := by
  intro n
  induction n using Nat.strongRecOn with
  | ind n ih =>
    intro h1 h
    rcases Nat.mod_two_eq_zero_or_one n with he | ho
    · have hm : n = 2 * (n / 2) := by omega
      have h3 : 1 ≤ n / 2 := by omega
      have : (n / 2) &&& (n / 2 - 1) = 0 := by
        apply Nat.eq_of_testBit_eq
        intro i
        have hb : (n &&& (n - 1)).testBit (i + 1) = false := by rw [h]; simp
        rw [Nat.testBit_and, Nat.testBit_succ, Nat.testBit_succ] at hb
        have e : (n - 1) / 2 = n / 2 - 1 := by omega
        rw [e] at hb
        rw [Nat.testBit_and, hb]; simp
      obtain ⟨d, hd⟩ := ih (n / 2) (by omega) h3 this
      exact ⟨d + 1, by rw [Nat.pow_succ]; omega⟩
    · by_cases h1' : n = 1
      · exact ⟨0, by simp [h1']⟩
      · exfalso
        have h0 : n / 2 = 0 := by
          apply Nat.eq_of_testBit_eq
          intro i
          have hb : (n &&& (n - 1)).testBit (i + 1) = false := by rw [h]; simp
          rw [Nat.testBit_and, Nat.testBit_succ, Nat.testBit_succ] at hb
          have e : (n - 1) / 2 = n / 2 := by omega
          rw [e, Bool.and_self] at hb
          rw [hb]; simp
        omega

theorem isSz_pow (n : Int) : isSz n = true ↔ ∃ d, 2 ≤ d ∧ d ≤ 16 ∧ n = ((2 ^ d : Nat) : Int) := by
  constructor
  · intro h
    simp [isSz] at h
    rcases h with h | h | h | h | h | h | h | h | h | h | h | h | h | h | h
    · exact ⟨2, by omega, by omega, h⟩
    · exact ⟨3, by omega, by omega, h⟩
    · exact ⟨4, by omega, by omega, h⟩
    · exact ⟨5, by omega, by omega, h⟩
    · exact ⟨6, by omega, by omega, h⟩
    · exact ⟨7, by omega, by omega, h⟩
    · exact ⟨8, by omega, by omega, h⟩
    · exact ⟨9, by omega, by omega, h⟩
    · exact ⟨10, by omega, by omega, h⟩
    · exact ⟨11, by omega, by omega, h⟩
    · exact ⟨12, by omega, by omega, h⟩
    · exact ⟨13, by omega, by omega, h⟩
    · exact ⟨14, by omega, by omega, h⟩
    · exact ⟨15, by omega, by omega, h⟩
    · exact ⟨16, by omega, by omega, h⟩
  · rintro ⟨d, h1, h2, rfl⟩
    have : d = 2 ∨ d = 3 ∨ d = 4 ∨ d = 5 ∨ d = 6 ∨ d = 7 ∨ d = 8 ∨ d = 9 ∨ d = 10 ∨ d = 11 ∨ d = 12 ∨ d = 13 ∨ d = 14 ∨ d = 15 ∨ d = 16 := by omega
    rcases this with h | h | h | h | h | h | h | h | h | h | h | h | h | h | h <;> subst h <;> decide

theorem isSz_land (n : Nat) (h4 : 4 ≤ n) (h5 : n ≤ 65536) : isSz (n : Int) = decide (n &&& (n - 1) = 0) := by
  rw [Bool.eq_iff_iff, decide_eq_true_iff, isSz_pow]
  constructor
  · rintro ⟨d, _, _, h⟩
    have h : n = 2 ^ d := by exact_mod_cast h
    subst h
    apply Nat.eq_of_testBit_eq
    intro i
    rw [Nat.testBit_and, Nat.testBit_two_pow_sub_one, Nat.testBit_two_pow]
    simp
    omega
  · intro h
    obtain ⟨d, hd⟩ := land_pred n (by omega) h
    have h2 : ¬ d < 2 := fun hlt => by
      have : d = 0 ∨ d = 1 := by omega
      rcases this with rfl | rfl <;> simp at hd <;> omega
    have h16 : ¬ 16 < d := fun hlt => by
      have : (2 : Nat) ^ 17 ≤ 2 ^ d := Nat.pow_le_pow_right (by omega) hlt
      omega
    exact ⟨d, by omega, by omega, by rw [hd]⟩

/-! ### sums -/
def mixB (h : Nat) (b : UInt8) : Nat := (h ^^^ b.toNat) * 16777619 % 4294967296
def stirN (h : Nat) : Nat := h ^^^ h / 32768
def endN (h : Nat) : Nat := h ^^^ h / 8192
def sumN (seed : Nat) (l : List UInt8) : Nat := endN (stirN (l.foldl mixB (seed ^^^ 2166136261)) * 2246822519 % 4294967296)

theorem xor32 {a b : Nat} (ha : a < 4294967296) (hb : b < 4294967296) : a ^^^ b < 4294967296 := Nat.xor_lt_two_pow (n := 32) ha hb
theorem mixB_lt (h : Nat) (b : UInt8) : mixB h b < 4294967296 := Nat.mod_lt _ (by omega)
theorem fold_lt (l : List UInt8) : ∀ h, h < 4294967296 → l.foldl mixB h < 4294967296 := by
  induction l with
  | nil => intro h hh; exact hh
  | cons b l ih => intro h _; exact ih _ (mixB_lt _ _)
theorem stirN_lt {h : Nat} (hh : h < 4294967296) : stirN h < 4294967296 := xor32 hh (by omega)
theorem endN_lt {h : Nat} (hh : h < 4294967296) : endN h < 4294967296 := xor32 hh (by omega)
theorem sumN_lt (seed : Nat) (l : List UInt8) : sumN seed l < 4294967296 := endN_lt (Nat.mod_lt _ (by omega))

theorem mul_cancel {c i a b : Nat} (hc : c * i % 4294967296 = 1) (ha : a < 4294967296) (hb : b < 4294967296)
    (h : a * c % 4294967296 = b * c % 4294967296) : a = b := by
  have e : ∀ x, x < 4294967296 → x * c % 4294967296 * i % 4294967296 = x := fun x hx => by
    rw [Nat.mod_mul_mod, Nat.mul_assoc, ← Nat.mul_mod_mod, hc, Nat.mul_one, Nat.mod_eq_of_lt hx]
  rw [← e a ha, h, e b hb]
theorem xor_cancel {a b c : Nat} (h : a ^^^ c = b ^^^ c) : a = b := by
  have : (a ^^^ c) ^^^ c = (b ^^^ c) ^^^ c := by rw [h]
  simpa [Nat.xor_assoc] using this
theorem mixB_inj {a b : Nat} (c : UInt8) (ha : a < 4294967296) (hb : b < 4294967296) (h : mixB a c = mixB b c) : a = b := by
  have hc : c.toNat < 4294967296 := by have := c.toNat_lt; omega
  exact xor_cancel (mul_cancel (i := 899433627) (by decide) (xor32 ha hc) (xor32 hb hc) h)
theorem fold_inj (l : List UInt8) : ∀ {a b : Nat}, a < 4294967296 → b < 4294967296 → l.foldl mixB a = l.foldl mixB b → a = b := by
  induction l with
  | nil => intro a b _ _ h; exact h
  | cons c l ih => intro a b ha hb h; exact mixB_inj c ha hb (ih (mixB_lt _ _) (mixB_lt _ _) h)
theorem shift_inj (s : Nat) (hs : 32 ≤ 3 * s) {a b : Nat} (ha : a < 4294967296) (hb : b < 4294967296)
    (h : a ^^^ a / 2 ^ s = b ^^^ b / 2 ^ s) : a = b := by
  have key : ∀ x, x < 4294967296 → (x ^^^ x / 2 ^ s) ^^^ ((x ^^^ x / 2 ^ s) >>> s) ^^^ ((x ^^^ x / 2 ^ s) >>> s >>> s) = x := fun x hx => by
    apply Nat.eq_of_testBit_eq
    intro i
    simp only [← Nat.shiftRight_eq_div_pow, Nat.testBit_xor, Nat.testBit_shiftRight]
    have : x.testBit (s + (s + (s + i))) = false := bit_ge x _ hx (by omega)
    rw [this]
    cases x.testBit i <;> cases x.testBit (s + i) <;> cases x.testBit (s + (s + i)) <;> rfl
  rw [← key a ha, h, key b hb]
theorem sumN_inj {a b : Nat} (l : List UInt8) (ha : a < 4294967296) (hb : b < 4294967296) (h : sumN a l = sumN b l) : a = b := by
  have h0 : (2166136261 : Nat) < 4294967296 := by omega
  have h1 := shift_inj 13 (by omega) (Nat.mod_lt _ (by omega)) (Nat.mod_lt _ (by omega)) h
  have fa := fold_lt l _ (xor32 ha h0)
  have fb := fold_lt l _ (xor32 hb h0)
  have h2 := mul_cancel (i := 3066638151) (by decide) (stirN_lt fa) (stirN_lt fb) h1
  have h3 := shift_inj 15 (by omega) fa fb h2
  exact xor_cancel (fold_inj l (xor32 ha h0) (xor32 hb h0) h3)

/-! ### the size for a number -/
def sizeFor (n : Int) : Nat := (szs.find? (fun k : Nat => decide (n ≤ (k : Int)))).getD 65536

/-- k is the d-th size's like, and no smaller one is n. -/
def NB (n : Int) (k : Int) : Prop := ∃ d : Nat, 2 ≤ d ∧ d ≤ 17 ∧ k = ((2 ^ d : Nat) : Int) ∧ ∀ e, 2 ≤ e → e < d → n ≠ ((2 ^ e : Nat) : Int)
theorem NB.start (n : Int) : NB n 4 := ⟨2, by omega, by omega, by decide, fun e h1 h2 => by omega⟩
theorem pow_mono {a b : Nat} (h : a ≤ b) : (2 : Nat) ^ a ≤ 2 ^ b := Nat.pow_le_pow_right (by omega) h
theorem NB.lo {n k : Int} (h : NB n k) : 4 ≤ k ∧ k ≤ 131072 := by
  obtain ⟨d, h2, h17, rfl, _⟩ := h
  have h3 : (2 : Nat) ^ 2 ≤ 2 ^ d := pow_mono h2
  have h4 : (2 : Nat) ^ d ≤ 2 ^ 17 := pow_mono h17
  omega
theorem NB.next {n k : Int} (h : NB n k) (hk : k ≤ 65536) (hn : k ≠ n) : NB n (2 * k) := by
  obtain ⟨d, h2, h17, rfl, hl⟩ := h
  refine ⟨d + 1, by omega, ?_, by rw [Nat.pow_succ]; omega, fun e h1 he => ?_⟩
  · rcases Nat.lt_or_ge 16 d with hd | hd
    · have : (2 : Nat) ^ 17 ≤ 2 ^ d := pow_mono hd
      omega
    · omega
  · rcases Nat.lt_or_ge e d with hlt | hge
    · exact hl e h1 hlt
    · have : e = d := by omega
      subst this; exact fun h => hn h.symm
theorem NB.yes {n k : Int} (h : NB n k) (hk : k ≤ 65536) (hn : k = n) : isSz n = true := by
  obtain ⟨d, h2, h17, rfl, hl⟩ := h
  refine (isSz_pow n).2 ⟨d, h2, ?_, hn.symm⟩
  rcases Nat.lt_or_ge 16 d with hd | hd
  · have : (2 : Nat) ^ 17 ≤ 2 ^ d := pow_mono hd
    omega
  · omega
theorem NB.no {n k : Int} (h : NB n k) (hk : 65536 < k) : isSz n = false := by
  obtain ⟨d, h2, h17, rfl, hl⟩ := h
  rw [Bool.eq_false_iff]; intro hs
  obtain ⟨e, h3, h16, rfl⟩ := (isSz_pow n).1 hs
  rcases Nat.lt_or_ge e d with hlt | hge
  · exact hl e h3 hlt rfl
  · have : (2 : Nat) ^ d ≤ 2 ^ 16 := pow_mono (by omega)
    omega

/-- k is a size's like, and all smaller ones are below n. -/
def SB (n : Int) (k : Int) : Prop := ∃ d : Nat, 2 ≤ d ∧ d ≤ 17 ∧ k = ((2 ^ d : Nat) : Int) ∧ ∀ e, 2 ≤ e → e < d → ((2 ^ e : Nat) : Int) < n
theorem SB.start (n : Int) : SB n 4 := ⟨2, by omega, by omega, by decide, fun e h1 h2 => by omega⟩
theorem SB.lo {n k : Int} (h : SB n k) : 4 ≤ k ∧ k ≤ 131072 := by
  obtain ⟨d, h2, h17, rfl, _⟩ := h
  have h3 : (2 : Nat) ^ 2 ≤ 2 ^ d := pow_mono h2
  have h4 : (2 : Nat) ^ d ≤ 2 ^ 17 := pow_mono h17
  omega
theorem SB.next {n k : Int} (h : SB n k) (hk : k ≤ 65536) (hn : k < n) : SB n (2 * k) := by
  obtain ⟨d, h2, h17, rfl, hl⟩ := h
  refine ⟨d + 1, by omega, ?_, by rw [Nat.pow_succ]; omega, fun e h1 he => ?_⟩
  · rcases Nat.lt_or_ge 16 d with hd | hd
    · have : (2 : Nat) ^ 17 ≤ 2 ^ d := pow_mono hd
      omega
    · omega
  · rcases Nat.lt_or_ge e d with hlt | hge
    · exact hl e h1 hlt
    · have : e = d := by omega
      subst this; exact hn
theorem find_szs (p : Nat → Bool) (d : Nat) (h2 : 2 ≤ d) (h16 : d ≤ 16) (hn : ∀ e, 2 ≤ e → e < d → p (2 ^ e) = false) (hp : p (2 ^ d) = true) : szs.find? p = some (2 ^ d) := by
  have hd : d = 2 ∨ d = 3 ∨ d = 4 ∨ d = 5 ∨ d = 6 ∨ d = 7 ∨ d = 8 ∨ d = 9 ∨ d = 10 ∨ d = 11 ∨ d = 12 ∨ d = 13 ∨ d = 14 ∨ d = 15 ∨ d = 16 := by omega
  have e2 := hn 2; have e3 := hn 3; have e4 := hn 4; have e5 := hn 5; have e6 := hn 6; have e7 := hn 7; have e8 := hn 8; have e9 := hn 9
  have e10 := hn 10; have e11 := hn 11; have e12 := hn 12; have e13 := hn 13; have e14 := hn 14; have e15 := hn 15
  clear hn
  rcases hd with rfl | rfl | rfl | rfl | rfl | rfl | rfl | rfl | rfl | rfl | rfl | rfl | rfl | rfl | rfl <;>
    simp_all [szs, List.find?_cons]
theorem find_none (p : Nat → Bool) (hn : ∀ e, 2 ≤ e → e < 17 → p (2 ^ e) = false) : szs.find? p = none := by
  have e2 := hn 2; have e3 := hn 3; have e4 := hn 4; have e5 := hn 5; have e6 := hn 6; have e7 := hn 7; have e8 := hn 8; have e9 := hn 9
  have e10 := hn 10; have e11 := hn 11; have e12 := hn 12; have e13 := hn 13; have e14 := hn 14; have e15 := hn 15; have e16 := hn 16
  clear hn
  simp_all [szs, List.find?_cons]
theorem SB.yes {n k : Int} (h : SB n k) (hk : k ≤ 65536) (hn : n ≤ k) : (sizeFor n : Int) = k := by
  obtain ⟨d, h2, h17, rfl, hl⟩ := h
  have h16 : d ≤ 16 := by
    rcases Nat.lt_or_ge 16 d with hd | hd
    · have : (2 : Nat) ^ 17 ≤ 2 ^ d := pow_mono hd
      omega
    · omega
  unfold sizeFor
  rw [find_szs _ d h2 h16 (fun e h1 h3 => by simpa using hl e h1 h3) (by simpa using hn)]
  rfl
theorem SB.no {n k : Int} (h : SB n k) (hk : 65536 ≤ k) : (sizeFor n : Int) = 65536 := by
  obtain ⟨d, h2, h17, rfl, hl⟩ := h
  have h16 : 16 ≤ d := by
    rcases Nat.lt_or_ge d 16 with hd | hd
    · have : (2 : Nat) ^ d ≤ 2 ^ 15 := pow_mono (by omega)
      omega
    · omega
  by_cases hn : n ≤ 65536
  · unfold sizeFor
    rw [find_szs _ 16 (by omega) (by omega) (fun e h1 h3 => by simpa using hl e h1 (by omega)) (by simpa using hn)]
    rfl
  · unfold sizeFor
    rw [find_none _ (fun e h1 h3 => by
      have : (2 : Nat) ^ e ≤ 2 ^ 16 := pow_mono (by omega)
      rw [decide_eq_false_iff_not]; omega)]
    rfl
theorem sizeFor_spec (n : Int) : ∃ d : Nat, 2 ≤ d ∧ d ≤ 16 ∧ sizeFor n = 2 ^ d ∧ (∀ e, 2 ≤ e → e < d → ((2 ^ e : Nat) : Int) < n) ∧ (n ≤ ((2 ^ d : Nat) : Int) ∨ d = 16) := by
  have key : ∀ m d : Nat, d + m = 17 → 2 ≤ d → (∀ e, 2 ≤ e → e < d → ((2 ^ e : Nat) : Int) < n) →
      ∃ d : Nat, 2 ≤ d ∧ d ≤ 16 ∧ sizeFor n = 2 ^ d ∧ (∀ e, 2 ≤ e → e < d → ((2 ^ e : Nat) : Int) < n) ∧ (n ≤ ((2 ^ d : Nat) : Int) ∨ d = 16) := by
    intro m
    induction m with
    | zero =>
      intro d hd h2 hl
      have hs : SB n ((2 ^ d : Nat) : Int) := ⟨d, h2, by omega, rfl, hl⟩
      have := hs.no (by rw [show d = 17 by omega]; decide)
      exact ⟨16, by omega, by omega, by omega, fun e h1 h3 => hl e h1 (by omega), .inr rfl⟩
    | succ m ih =>
      intro d hd h2 hl
      by_cases hn : n ≤ ((2 ^ d : Nat) : Int)
      · have hs : SB n ((2 ^ d : Nat) : Int) := ⟨d, h2, by omega, rfl, hl⟩
        have hp : (2 : Nat) ^ d ≤ 2 ^ 16 := pow_mono (by omega)
        have := hs.yes (by omega) hn
        exact ⟨d, h2, by omega, by omega, hl, .inl hn⟩
      · exact ih (d + 1) (by omega) (by omega) fun e h1 h3 => by
          rcases Nat.lt_or_ge e d with hlt | hge
          · exact hl e h1 hlt
          · have : e = d := by omega
            subst this; omega
  exact key 15 2 (by omega) (by omega) (fun e h1 h2 => by omega)

end Pal

/- A dict in memory, told by a plain datum with its blocks. -/
namespace Go.Proofs.YtifcpippfiglkaaGreat.Dint64
open Go.RowKit Pal

/-- What a thing may be. -/
def VOk (v : Value) : Prop := ∃ n : Int, v = .int .i64 n
/-- A node: its block, its hash, key and thing. -/
structure Nd where
  blk : Nat
  sum : Nat
  key : ByteArray
  v : Value

abbrev Ch := List Nd
def ptr (b : Nat) : Value := .pointer (some ⟨b, 0, none⟩)
def hd : Ch → Value
  | [] => .pointer none
  | x :: _ => ptr x.blk
def ndCells (x : Nd) (nx : Value) : Array Value := #[.int .u32 (x.sum : Int), .string x.key, x.v, nx]
def chAt (w : World) : Ch → Prop
  | [] => True
  | x :: r => Blk w x.blk 160 (ndCells x (hd r)) ∧ chAt w r

structure Tb where
  blk : Nat
  slots : List Ch

def Tb.len (t : Tb) : Nat := t.slots.length
def Tb.at (t : Tb) (i : Nat) : Ch := t.slots.getD i []
def Tb.set (t : Tb) (i : Nat) (c : Ch) : Tb := { t with slots := t.slots.set i c }
def Tb.nodes (t : Tb) : List Nd := t.slots.flatten
def tbCells (t : Tb) : Array Value := (t.slots.map hd).toArray
def tbVal (t : Tb) : Value := .slice (some ⟨t.blk, 0, none⟩) t.len t.len
def tbAt (w : World) (t : Tb) : Prop := Blk w t.blk 158 (tbCells t) ∧ ∀ c ∈ t.slots, chAt w c

structure Dm where
  blk : Nat
  seed : Nat
  t0 : Tb
  t1 : Option Tb
  at_ : Nat
  n : Nat

def Dm.nodes1 (d : Dm) : List Nd := match d.t1 with | none => [] | some t => t.nodes
def Dm.nodes (d : Dm) : List Nd := d.t0.nodes ++ d.nodes1
def t1Val : Option Tb → Value
  | none => .slice none 0 0
  | some t => tbVal t
def dmCells (d : Dm) : Array Value := #[.int .u32 (d.seed : Int), tbVal d.t0, t1Val d.t1, .int .i64 (d.at_ : Int), .int .i64 (d.n : Int)]
/-- The blocks of a dict. -/
def Dm.foot (d : Dm) (g : Nat) : Prop := g = d.blk ∨ g = d.t0.blk ∨ (∃ t, d.t1 = some t ∧ g = t.blk) ∨ ∃ x ∈ d.nodes, g = x.blk

structure DmAt (w : World) (d : Dm) : Prop where
  hd : Blk w d.blk 138 (dmCells d)
  a0 : tbAt w d.t0
  a1 : ∀ t, d.t1 = some t → tbAt w t
  ne : ∀ t, d.t1 = some t → d.t0.blk ≠ t.blk
  nodup : (d.nodes.map (·.blk)).Nodup

/-! ### lists -/
theorem Tb.at_lt {t : Tb} {i : Nat} (h : i < t.len) : t.slots[i]? = some (t.at i) := by
  unfold Tb.at; rw [List.getD_eq_getElem?_getD]; unfold Tb.len at h; rw [List.getElem?_eq_getElem h]; rfl
theorem Tb.at_mem {t : Tb} {i : Nat} (h : i < t.len) : t.at i ∈ t.slots := List.mem_of_getElem? (Tb.at_lt h)
theorem Tb.set_len (t : Tb) (i : Nat) (c : Ch) : (t.set i c).len = t.len := by simp [Tb.set, Tb.len]
theorem Tb.set_at {t : Tb} {i : Nat} (h : i < t.len) (c : Ch) (j : Nat) : (t.set i c).at j = if i = j then c else t.at j := by
  unfold Tb.at Tb.set Tb.len at *
  simp only [List.getD_eq_getElem?_getD, List.getElem?_set]
  by_cases e : i = j
  · subst e; simp [h]
  · simp [e]
theorem tbCells_get {t : Tb} {i : Nat} (h : i < t.len) : (tbCells t)[i]? = some (hd (t.at i)) := by
  unfold tbCells; simp [Tb.at_lt h]
theorem tbCells_set (t : Tb) (i : Nat) (c : Ch) : tbCells (t.set i c) = (tbCells t).setIfInBounds i (hd c) := by
  unfold tbCells Tb.set; simp [List.map_set]
theorem tbCells_size (t : Tb) : (tbCells t).size = t.len := by simp [tbCells, Tb.len]
theorem mem_nodes {t : Tb} {x : Nd} : x ∈ t.nodes ↔ ∃ i, i < t.len ∧ x ∈ t.at i := by
  unfold Tb.nodes; rw [List.mem_flatten]
  constructor
  · rintro ⟨c, hc, hx⟩
    obtain ⟨i, hi, rfl⟩ := List.mem_iff_getElem.1 hc
    exact ⟨i, hi, by have := Tb.at_lt (t := t) hi; rw [List.getElem?_eq_getElem hi] at this; injection this with this; rw [← this]; exact hx⟩
  · rintro ⟨i, hi, hx⟩; exact ⟨_, Tb.at_mem hi, hx⟩

/-! ### chains in memory -/
theorem chAt.chg {S : Nat → Prop} {w w' : World} (hc : Chg S w w') : ∀ {c : Ch}, chAt w c → (∀ x ∈ c, ¬ S x.blk) → chAt w' c
  | [], _, _ => trivial
  | _ :: _, ⟨h1, h2⟩, hS => ⟨h1.chg hc (hS _ (by simp)), chAt.chg hc h2 (fun x hx => hS x (by simp [hx]))⟩
theorem chAt.node {w : World} : ∀ {c : Ch} {pre : Ch} {x : Nd} {post : Ch}, chAt w c → c = pre ++ x :: post → Blk w x.blk 160 (ndCells x (hd post))
  | _, [], _, _, h, rfl => h.1
  | _, _ :: pre, _, _, h, rfl => chAt.node (pre := pre) h.2 rfl
theorem tbAt.chg {S : Nat → Prop} {w w' : World} {t : Tb} (hc : Chg S w w') (h : tbAt w t) (ht : ¬ S t.blk) (hS : ∀ x ∈ t.nodes, ¬ S x.blk) : tbAt w' t :=
  ⟨h.1.chg hc ht, fun c hcm => (h.2 c hcm).chg hc fun x hx => hS x (List.mem_flatten.2 ⟨c, hcm, hx⟩)⟩
theorem DmAt.chg {S : Nat → Prop} {w w' : World} {d : Dm} (h : DmAt w d) (hc : Chg S w w') (hS : ∀ g, d.foot g → ¬ S g) : DmAt w' d where
  hd := h.hd.chg hc (hS _ (.inl rfl))
  a0 := h.a0.chg hc (hS _ (.inr (.inl rfl))) fun x hx => hS _ (.inr (.inr (.inr ⟨x, by simp [Dm.nodes, hx], rfl⟩)))
  a1 := fun t ht => (h.a1 t ht).chg hc (hS _ (.inr (.inr (.inl ⟨t, ht, rfl⟩)))) fun x hx => hS _ (.inr (.inr (.inr ⟨x, by simp [Dm.nodes, Dm.nodes1, ht, hx], rfl⟩)))
  ne := h.ne
  nodup := h.nodup
theorem DmAt.chg0 {w w' : World} {d : Dm} (h : DmAt w d) (hc : Chg (fun _ => False) w w') : DmAt w' d := h.chg hc fun _ _ => id
theorem tbAt.node {w : World} {t : Tb} (h : tbAt w t) {x : Nd} (hx : x ∈ t.nodes) : ∃ nx, Blk w x.blk 160 (ndCells x nx) := by
  obtain ⟨c, hc, hxc⟩ := List.mem_flatten.1 hx
  obtain ⟨pre, post, rfl⟩ := List.append_of_mem hxc
  exact ⟨_, (h.2 _ hc).node rfl⟩
theorem DmAt.node {w : World} {d : Dm} (h : DmAt w d) {x : Nd} (hx : x ∈ d.nodes) : ∃ nx, Blk w x.blk 160 (ndCells x nx) := by
  unfold Dm.nodes Dm.nodes1 at hx
  rcases List.mem_append.1 hx with h0 | h1
  · exact h.a0.node h0
  · split at h1
    · cases h1
    · rename_i t ht; exact (h.a1 t ht).node h1
theorem DmAt.lt {w : World} {d : Dm} (h : DmAt w d) {g : Nat} (hg : d.foot g) : g < w.heap.size := by
  rcases hg with rfl | rfl | ⟨t, ht, rfl⟩ | ⟨x, hx, rfl⟩
  · exact h.hd.lt
  · exact h.a0.1.lt
  · exact (h.a1 t ht).1.lt
  · obtain ⟨nx, hb⟩ := h.node hx; exact hb.lt

theorem chAt.keep {w w' : World} (k : KeepC w w') : ∀ {c : Ch}, chAt w c → chAt w' c
  | [], _ => trivial
  | _ :: _, ⟨h1, h2⟩ => ⟨h1.keep k, chAt.keep k h2⟩
theorem tbAt.keep {w w' : World} {t : Tb} (h : tbAt w t) (k : KeepC w w') : tbAt w' t := ⟨h.1.keep k, fun c hc => (h.2 c hc).keep k⟩
theorem DmAt.keep {w w' : World} {d : Dm} (h : DmAt w d) (k : KeepC w w') : DmAt w' d where
  hd := h.hd.keep k
  a0 := h.a0.keep k
  a1 := fun t ht => (h.a1 t ht).keep k
  ne := h.ne
  nodup := h.nodup

/-! ### blocks of different kinds differ -/
theorem DmAt.t0_ne {w : World} {d : Dm} (h : DmAt w d) : d.t0.blk ≠ d.blk := h.a0.1.ne_type h.hd (by decide)
theorem DmAt.t1_ne {w : World} {d : Dm} (h : DmAt w d) {t : Tb} (ht : d.t1 = some t) : t.blk ≠ d.blk := (h.a1 t ht).1.ne_type h.hd (by decide)
theorem DmAt.nd_ne {w : World} {d : Dm} (h : DmAt w d) {x : Nd} (hx : x ∈ d.nodes) : x.blk ≠ d.blk ∧ x.blk ≠ d.t0.blk ∧ ∀ t, d.t1 = some t → x.blk ≠ t.blk := by
  obtain ⟨nx, hb⟩ := h.node hx
  exact ⟨hb.ne_type h.hd (by decide), hb.ne_type h.a0.1 (by decide), fun t ht => hb.ne_type (h.a1 t ht).1 (by decide)⟩
theorem mem_nodes0 {d : Dm} {x : Nd} (h : x ∈ d.t0.nodes) : x ∈ d.nodes := List.mem_append.2 (.inl h)
theorem mem_nodes1 {d : Dm} {t : Tb} (ht : d.t1 = some t) {x : Nd} (h : x ∈ t.nodes) : x ∈ d.nodes := by
  unfold Dm.nodes Dm.nodes1; rw [ht]; exact List.mem_append.2 (.inr h)
/-- A dict whose struct alone is written. -/
theorem DmAt.head {w w' : World} {d d' : Dm} (h : DmAt w d) (hc : Chg (fun g => g = d.blk) w w') (hh : Blk w' d'.blk 138 (dmCells d')) (e0 : d'.t0 = d.t0) (e1 : d'.t1 = d.t1) : DmAt w' d' where
  hd := hh
  a0 := by rw [e0]; exact h.a0.chg hc h.t0_ne fun x hx => (h.nd_ne (mem_nodes0 hx)).1
  a1 := fun t ht => by
    rw [e1] at ht
    exact (h.a1 t ht).chg hc (h.t1_ne ht) fun x hx => (h.nd_ne (mem_nodes1 ht hx)).1
  ne := fun t ht => by rw [e1] at ht; rw [e0]; exact h.ne t ht
  nodup := by
    have : d'.nodes = d.nodes := by unfold Dm.nodes Dm.nodes1; rw [e0, e1]
    rw [this]; exact h.nodup

end Go.Proofs.YtifcpippfiglkaaGreat.Dint64

/- Contracts of the small functions of hash and scan, and of their references. -/
namespace Go.Proofs.YtifcpippfiglkaaGreat
open Go.RowKit Pal

theorem u32_of_wf {a : Int} (h : (Lit.int .u32 a).wf = true) : ∃ n : Nat, a = (n : Int) ∧ n < 4294967296 := by
  simp [Lit.wf, IntKind.min, IntKind.max, IntKind.signed, IntKind.bits] at h
  exact ⟨a.toNat, by omega, by omega⟩
theorem i64_of_wf {a : Int} (h : (Lit.int .i64 a).wf = true) : -9223372036854775808 ≤ a ∧ a ≤ 9223372036854775807 := by
  simp [Lit.wf, IntKind.min, IntKind.max, IntKind.signed, IntKind.bits] at h
  exact h


set_option maxHeartbeats 400000 in
theorem mask_any (n : Int) (w : World) (h0 : 1 ≤ n) (h1 : n ≤ 65536) :
    Calls Tryz.prog 70 #[.int .i64 n] w fun e w' => e = .returned (.int .u32 (n - 1)) ∧ w = w' := by
  go_enter Tryz.func70, Tryz.ntmps70
  go_wp2
  go_ret
  exact ⟨rfl, rfl⟩

theorem int_eq {k : IntKind} {a b : Int} (h : a = b) : Value.int k a = .int k b := by rw [h]
theorem turnAt_fst_lt (n k : Nat) (hk : k ≤ 32) : (turnAt n k).1 < 4294967296 :=
  Nat.lt_of_lt_of_le (turnAt_lt n k hk) (Nat.pow_le_pow_right (by omega) hk : 2 ^ k ≤ 2 ^ 32)
theorem turnAt_snd_lt (n k : Nat) (hn : n < 4294967296) : (turnAt n k).2 < 4294967296 := by
  rw [turnAt_snd]; exact Nat.lt_of_le_of_lt (Nat.div_le_self _ _) hn
theorem turn_step_eq (n k : Nat) (hk : k < 32) (hn : n < 4294967296) : (bits BinOp.or IntKind.u32 (((turnAt n k).1 : Int) * 2 % 4294967296) (bits BinOp.and IntKind.u32 ((turnAt n k).2 : Int) 1)) = ((turnAt n (k + 1)).1 : Int) := by
  have h1 := turnAt_fst_lt n k (by omega)
  have h2 := turnAt_snd_lt n k hn
  have e1 : ((turnAt n k).1 : Int) * 2 % 4294967296 = ((2 * (turnAt n k).1 % 4294967296 : Nat) : Int) := by omega
  have e2 := u32_and_nat (turnAt n k).2 1 h2 (by omega)
  rw [nat_mask1] at e2
  rw [e1, show (1 : Int) = ((1 : Nat) : Int) from rfl, e2, u32_or_nat _ _ (Nat.mod_lt _ (by omega)) (by omega), nat_join 1 _ _ (by omega) (by omega)]
  simp only [turnAt, turnStep]
  omega

set_option maxHeartbeats 400000 in
theorem turn_any (n : Nat) (w : World) (h1 : n < 4294967296) :
    Calls Tryz.prog 83 #[.int .u32 (n : Int)] w fun e w' => e = .returned (.int .u32 (turn n : Int)) ∧ w = w' := by
  go_enter Tryz.func83, Tryz.ntmps83
  go_wp2
  go_loop [0, 3, 4] (fun m o i => ∃ k : Nat, k ≤ 32 ∧ i = .int .i64 (k : Int) ∧ o = .int .u32 ((turnAt n k).1 : Int) ∧ m = .int .u32 ((turnAt n k).2 : Int)) (fun _ _ i => 32 - (intOf i).toNat)
  case atStart => exact ⟨0, by omega, rfl, rfl, rfl⟩
  case round =>
    obtain ⟨k, hk, rfl, rfl, rfl⟩ := hrel
    by_cases hlt : k < 32
    · go_wp2
      go_round
      case rel => exact ⟨k + 1, by omega, by go_num, int_eq (turn_step_eq n k hlt h1), int_eq (by simp [turnAt, turnStep])⟩
      case measure => simp [intOf]; omega
    · go_wp2
      go_ret
      exact ⟨by rw [show k = 32 by omega]; rfl, rfl⟩

theorem isSz_bits (n : Int) (h4 : 4 ≤ n) (h5 : n ≤ 65536) : (bits BinOp.and IntKind.i64 n (n - 1) == 0) = isSz n := by
  obtain ⟨m, rfl⟩ : ∃ m : Nat, n = (m : Int) := ⟨n.toNat, by omega⟩
  have e : (m : Int) - 1 = ((m - 1 : Nat) : Int) := by omega
  have hb : bits BinOp.and IntKind.i64 (m : Int) ((m - 1 : Nat) : Int) = ((m &&& (m - 1) : Nat) : Int) :=
    bits_nat .i64 63 (by decide) (fun n h0 h1 => by rw [IntKind.wrap_i64]; omega) m (m - 1) (by omega) (by omega) |>.1
  rw [e, hb, isSz_land m (by omega) (by omega), Bool.eq_iff_iff]
  simp
theorem isSz_out (n : Int) (h : n < 4 ∨ 65536 < n) : isSz n = false := by
  rw [Bool.eq_false_iff]; intro hs
  obtain ⟨d, h2, h16, rfl⟩ := (isSz_pow n).1 hs
  have h3 : (2 : Nat) ^ 2 ≤ 2 ^ d := Nat.pow_le_pow_right (by omega) h2
  have h4 : (2 : Nat) ^ d ≤ 2 ^ 16 := Nat.pow_le_pow_right (by omega) h16
  omega

/-! ### slots -/
theorem slot_bits (s d : Nat) (hs : s < 4294967296) (hd : d ≤ 16) : bits BinOp.and IntKind.u32 (s : Int) (((2 ^ d : Nat) : Int) - 1) = ((s % 2 ^ d : Nat) : Int) := by
  have hp : (2 : Nat) ^ d ≤ 2 ^ 16 := pow_mono hd
  have h1 : 1 ≤ 2 ^ d := Nat.one_le_two_pow
  have e : ((2 ^ d : Nat) : Int) - 1 = ((2 ^ d - 1 : Nat) : Int) := by omega
  rw [e, u32_and_nat _ _ hs (by omega), Nat.and_two_pow_sub_one_eq_mod]

/-- A goto ahead, to a label of this scope: what the jump leads to is walked behind it. -/
theorem wp_scope_ahead {P : Program} {c rest : Code} {l : Nat} {Q : Exit → Act → World → Prop} {a : Act} {w : World} (hf : findLabel c l = some rest)
    (first : c.wp P (Exit.jump l (fun a w => rest.wp P (Exit.noGoto Q) a w) Q) a w) : (Code.scope c).wp P Q a w := by
  refine wp_scope_jumps l (fun a w => rest.wp P (Exit.noGoto Q) a w) (fun _ _ => 0) hf first ?_
  intro a w h
  refine wp_mono h ?_
  rintro e a w hq
  cases e with
  | goto t => exact hq.elim
  | _ => exact hq

/-! ### cursors -/
theorem u32_not_nat (m : Nat) (hm : m < 4294967296) : bits BinOp.xor IntKind.u32 IntKind.u32.max (m : Int) = ((4294967295 - m : Nat) : Int) := by
  have hx : IntKind.u32.max = ((4294967295 : Nat) : Int) := rfl
  rw [hx, u32_xor_nat _ _ (by omega) hm]
  congr 1
  refine eq32 (xor32 (by omega) hm) (by omega) fun i hi => ?_
  have e : 4294967295 - m = 2 ^ 32 - (m + 1) := by omega
  have e2 : (4294967295 : Nat) = 2 ^ 32 - 1 := rfl
  rw [e, Nat.testBit_xor, e2, Nat.testBit_two_pow_sub_one, Nat.testBit_two_pow_sub_succ hm]
  simp [hi]
theorem cursor_bits (c d : Nat) (n : Int) (hn : n = ((2 ^ d : Nat) : Int)) (hc : c < 4294967296) (h16 : d ≤ 16) :
    bits BinOp.or IntKind.u32 (c : Int) (bits BinOp.xor IntKind.u32 IntKind.u32.max (n - 1)) = ((c ||| (4294967295 - (2 ^ d - 1)) : Nat) : Int) := by
  have hp : (2 : Nat) ^ d ≤ 2 ^ 16 := pow_mono h16
  have h1 : 1 ≤ 2 ^ d := Nat.one_le_two_pow
  have e : n - 1 = ((2 ^ d - 1 : Nat) : Int) := by omega
  rw [e, u32_not_nat _ (by omega), u32_or_nat _ _ hc (by omega)]
theorem or32 {a b : Nat} (ha : a < 4294967296) (hb : b < 4294967296) : a ||| b < 4294967296 := Nat.or_lt_two_pow (n := 32) ha hb

set_option maxHeartbeats 400000 in
theorem next_any (c : Nat) (d : Nat) (n : Int) (w : World) (hn : n = ((2 ^ d : Nat) : Int)) (hc : c < 4294967296) (h16 : d ≤ 16) :
    Calls Tryz.prog 71 #[.int .u32 (c : Int), .int .i64 n] w fun e w' => e = .returned (.int .u32 (nextD c d : Int)) ∧ w = w' := by
  have hp : (2 : Nat) ^ d ≤ 2 ^ 16 := pow_mono h16
  have h1 : 1 ≤ 2 ^ d := Nat.one_le_two_pow
  have hb1 : 1 ≤ n := by omega
  have hb2 : n ≤ 65536 := by omega
  have H1 := Lib.hid (cursor_bits c d n hn hc h16)
  have hl : c ||| (4294967295 - (2 ^ d - 1)) < 4294967296 := or32 hc (by omega)
  have H2 := Lib.hid (nextC_eq c d (by omega) hc)
  clear hn
  go_enter Tryz.func71, Tryz.ntmps71
  go_wp2_with (go_at_call 70; refine (mask_any _ _ hb1 hb2).mono ?_; rintro e w' ⟨rfl, rfl⟩)
  rw [H1.out]
  refine (turn_any _ _ hl).mono ?_; rintro e w' ⟨rfl, rfl⟩
  go_wp2_with fail
  rw [show ((turn (c ||| 4294967295 - (2 ^ d - 1)) : Nat) : Int) + 1 = (((turn (c ||| 4294967295 - (2 ^ d - 1)) + 1) : Nat) : Int) from rfl, show (((turn (c ||| 4294967295 - (2 ^ d - 1)) + 1 : Nat) : Int)) % 4294967296 = (((turn (c ||| 4294967295 - (2 ^ d - 1)) + 1) % 4294967296 : Nat) : Int) from rfl]
  refine (turn_any _ _ (Nat.mod_lt _ (by omega))).mono ?_; rintro e w' ⟨rfl, rfl⟩
  go_wp2_with fail
  go_ret
  exact ⟨by rw [← H2.out]; rfl, rfl⟩

theorem wrap_pow (k : Nat) (hk : k ≤ 32) : wrap64 ((2 : Int) ^ k) = ((2 ^ k : Nat) : Int) := by
  have h : (2 : Nat) ^ k ≤ 2 ^ 32 := pow_mono hk
  have e : (2 : Int) ^ k = ((2 ^ k : Nat) : Int) := by simp
  rw [e]
  generalize (2 : Nat) ^ k = m at h ⊢
  exact IntWalk.wrap64_in _ ⟨by omega, by omega⟩

theorem nextR_bits (t k : Nat) (hk : k ≤ 16) (ht : t < 4294967296) :
    IntKind.u64.wrap (IntKind.u64.wrap (IntKind.u64.wrap (t : Int) / 2 ^ (32 - k) + 1) * 2 ^ (32 - k)) % 4294967296 = (((t / 2 ^ (32 - k) + 1) * 2 ^ (32 - k) % 4294967296 : Nat) : Int) := by
  have h : (2 : Nat) ^ (32 - k) ≤ 2 ^ 32 := pow_mono (by omega)
  have h1 : 1 ≤ (2 : Nat) ^ (32 - k) := Nat.one_le_two_pow
  have e : (2 : Int) ^ (32 - k) = ((2 ^ (32 - k) : Nat) : Int) := by simp
  rw [e]
  generalize (2 : Nat) ^ (32 - k) = m at h h1 ⊢
  have hd : t / m ≤ t := Nat.div_le_self _ _
  have hm : (t / m + 1) * m ≤ 4294967296 + 4294967296 := by
    have := Nat.div_mul_le_self t m
    rw [Nat.add_mul]; omega
  rw [IntKind.wrap_u64, IntKind.wrap_u64, IntKind.wrap_u64]
  have e1 : (t : Int) % 18446744073709551616 = t := by omega
  have e2 : (t : Int) / (m : Int) = ((t / m : Nat) : Int) := rfl
  rw [e1, e2]
  have e4 : (((t / m : Nat) : Int) + 1) % 18446744073709551616 = ((t / m + 1 : Nat) : Int) := by
    clear e e2
    generalize t / m = q at hd ⊢
    omega
  rw [e4]
  have e3 : ((t / m + 1 : Nat) : Int) * (m : Int) = (((t / m + 1) * m : Nat) : Int) := by simp
  rw [e3]
  generalize (t / m + 1) * m = q at hm ⊢
  omega

end Go.Proofs.YtifcpippfiglkaaGreat
