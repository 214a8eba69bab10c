/- The law of a range over an iterator that has its contract, for a caller whose invariant speaks of cells. -/
import Derived.Test.YthbjjjcppijcbaaRF
import Derived.RangeFuncOwn
namespace Pal
open Go Go.RowKit

/-- All cells outside F stay. -/
structure Stay (F : Nat → Prop) (w w' : World) : Prop where
  os : w'.os = w.os
  tape : w'.tape = w.tape
  output : w'.output = w.output
  size : w.heap.size ≤ w'.heap.size
  same : ∀ g, ¬ F g → ∀ cs t f, w.heap[g]? = some (Obj.cells cs t f) → w'.heap[g]? = some (Obj.cells cs t f)

section
variable {F G : Nat → Prop} {a b c w w' : World}
theorem Stay.refl (F : Nat → Prop) (w : World) : Stay F w w := ⟨rfl, rfl, rfl, Nat.le_refl _, fun _ _ _ _ _ h => h⟩
theorem Stay.trans (h : Stay F a b) (k : Stay F b c) : Stay F a c :=
  ⟨k.os.trans h.os, k.tape.trans h.tape, k.output.trans h.output, Nat.le_trans h.size k.size, fun g hg cs t f e => k.same g hg _ _ _ (h.same g hg _ _ _ e)⟩
theorem Stay.of_chg (h : Chg F w w') : Stay F w w' := ⟨h.os, h.tape, h.output, h.size, fun _ hg _ _ _ e => h.same e hg⟩
theorem Stay.mono (h : Stay F w w') (hs : ∀ g, g < w.heap.size → F g → G g) : Stay G w w' :=
  ⟨h.os, h.tape, h.output, h.size, fun g hg _ _ _ e => h.same g (fun hf => hg (hs g (Array.getElem?_eq_some_iff.1 e).1 hf)) _ _ _ e⟩
theorem Stay.trans' (h : Stay F a b) (k : Stay G b c) (hs : ∀ g, g < a.heap.size → G g → F g) : Stay F a c :=
  ⟨k.os.trans h.os, k.tape.trans h.tape, k.output.trans h.output, Nat.le_trans h.size k.size, fun g hg cs t f e =>
    k.same g (fun hG => hg (hs g (Array.getElem?_eq_some_iff.1 e).1 hG)) _ _ _ (h.same g hg _ _ _ e)⟩
theorem Stay.alloc (F : Nat → Prop) (w : World) (o : Obj) : Stay F w (w.alloc o) := .of_chg ((Chg.refl F w).alloc o)
theorem Stay.put {l : Nat} {o : Obj} (h : w.heap[l]? = some o) (ho : o.isCells = false) (o' : Obj) : Stay F w (w.putObj l o') :=
  ⟨rfl, rfl, rfl, by simp, fun g _ cs t f e => (World.putObj_heap_other (fun e' => by subst e'; rw [h] at e; cases e; cases ho)).trans e⟩
theorem Chg.of_stay (h : Stay F w w') (k : KeepsOthers w w') : Chg F w w' :=
  ⟨h.os, h.tape, h.output, h.size, fun g hg hn => by
    obtain ⟨o, ho⟩ : ∃ o, w.heap[g]? = some o := ⟨_, Array.getElem?_eq_getElem hg⟩
    cases o with
    | cells cs t f => rw [h.same g hn _ _ _ ho, ho]
    | _ => rw [k.same g _ ho rfl, ho]⟩
theorem Blk.stay {g : Nat} {t : TypeId} {cs : Array Value} (h : Blk w g t cs) (hs : Stay F w w') (hn : ¬ F g) : Blk w' g t cs := hs.same g hn _ _ _ h
theorem KeepC.of_stay (h : Stay (fun _ => False) w w') : KeepC w w' := ⟨h.size, fun g c t f e => h.same g id _ _ _ e⟩
theorem own_stay {base n size : Nat} {e : TypeId} {v : Value} {xs : List Value} (h : w.ownsRow base e size v n xs) (hs : Stay F w w') (hn : ∀ g, v.ownBlock = some g → ¬ F g) : w'.ownsRow base e size v n xs := by
  refine ⟨h.1, ?_⟩
  rcases h.2 with h0 | ⟨g, cap, cur, rfl, hb, hg, rest⟩
  · exact .inl h0
  · exact .inr ⟨g, cap, cur, rfl, hb, hs.same g (hn g rfl) _ _ _ hg, rest⟩
theorem others_chg (h : Chg F w w') (hF : ∀ k o, w.heap[k]? = some o → o.isCells = false → ¬ F k) : KeepsOthers w w' :=
  ⟨h.size, fun k o hk ho => h.same hk (hF k o hk ho)⟩
end

/-- An iterator: it hands out items; It0 r: what it needs at the start, r being all items; It r: what it keeps, where r is still to come; F: the blocks that these speak of; G: those that it writes. -/
structure IterSpec {α : Type} (P : Program) (gf : Nat) (lb : Array Value) (enc : α → Array Value) (F G : Nat → Prop) (It0 It : List α → World → Prop) : Prop where
  cells : ∀ r W k, It0 r W → F k → ∃ cs t f, W.heap[k]? = some (Obj.cells cs t f)
  sub : ∀ k, G k → F k
  far0 : ∀ r W W', It0 r W → W.heap.size ≤ W'.heap.size → (∀ k, F k → W'.heap[k]? = W.heap[k]?) → It0 r W'
  far : ∀ r W W', It r W → W.heap.size ≤ W'.heap.size → (∀ k, F k → W'.heap[k]? = W.heap[k]?) → It r W'
  call : ∀ (l : Nat) (I : List α → World → Prop) (Ix : World → Prop), (∀ r W W', I r W → Chg G W W' → I r W') → (∀ W W', Ix W → Chg G W W' → Ix W') →
    (∀ x r W, I (x :: r) W → It (x :: r) W → YieldAt Fence.wide 2 P l (enc x) W fun e W' => W.heap.size ≤ W'.heap.size ∧ (∀ k, F k → W'.heap[k]? = W.heap[k]?) ∧ ((e = .returned (.bool true) ∧ I r W') ∨ (e = .returned (.bool false) ∧ Ix W'))) →
    ∀ c W, I c W → It0 c W → Calls P gf (#[.func (.yield l) #[] #[]] ++ lb) W fun e W' => (∃ v, e = .returned v) ∧ (I [] W' ∨ Ix W')

/-- How a round may end. -/
def rPost {α : Type} (F : Nat → Prop) (I : List α → World → Prop) (Ix : Code → World → Prop) (r : List α) (W : World) : Exit → Act → World → Prop
  | .normal, _, W' => KeepsOthers W W' ∧ (∀ k, F k → W'.heap[k]? = W.heap[k]?) ∧ I r W'
  | .ret, _, W' => KeepsOthers W W' ∧ (∀ k, F k → W'.heap[k]? = W.heap[k]?) ∧ Ix .ret W'
  | .exit id, _, W' => KeepsOthers W W' ∧ (∀ k, F k → W'.heap[k]? = W.heap[k]?) ∧ Ix (.exit id) W'
  | .goto t, _, W' => KeepsOthers W W' ∧ (∀ k, F k → W'.heap[k]? = W.heap[k]?) ∧ Ix (.goto t) W'
  | .panic _, _, _ => False
  | .outgrown, _, _ => False

section
variable {P : Program} {α : Type}

theorem wp_range_it {g : Operand} {ps : Array Tmp} {assign body : Code} {Q : Exit → Act → World → Prop} {a : Act} {w : World} (gf : Nat) (lb : Array Value)
    (hg : a.eval g = .func (.func gf) #[] lb) (eg : Proofs.Enters P gf) {enc : α → Array Value} {F G : Nat → Prop} {It0 It : List α → World → Prop} (hit : IterSpec P gf lb enc F G It0 It) (hps : ∀ x, (enc x).size = ps.size)
    (I : List α → World → Prop) (hI : ∀ r W W', I r W → Stay G W W' → I r W') (Ix : Code → World → Prop) (hIx : ∀ c W W', Ix c W → Stay G W W' → Ix c W') (c : List α) (h0 : I c w) (hit0 : It0 c w) (a₁ : α → Act)
    (hassign : ∀ l x W (K : Act → World → Prop), K (a₁ x) W → assign.wpIn (Fence.wide.inRound l) 2 P (Exit.then K (fun _ _ _ => False)) { tmps := (ps.zip (enc x)).foldl (fun t (p, v) => t.setIfInBounds p v) a.tmps, defers := [] } W)
    (hbody : ∀ l x r W, I (x :: r) W → It (x :: r) W → w.heap.size ≤ W.heap.size → body.wpIn (Fence.wide.inRound l) 2 P (rPost F I Ix r W) (a₁ x) W)
    (hdone : ∀ D W, w.heap.size ≤ D → I [] W → KeepsOthers w W → W.heap[D]? = some (.deferred (some [])) → Q .normal { a with defers := { target := .collected D, args := #[] } :: a.defers } W)
    (hstop : ∀ D c W, w.heap.size ≤ D → Ix c W → KeepsOthers w W → W.heap[D]? = some (.deferred (some [])) → c.wp P Q { a with defers := { target := .collected D, args := #[] } :: a.defers } W) :
    (Code.rangeFunc g ps assign body).wp P Q a w := by
  have hlF : ∀ k, F k → k < w.heap.size := fun k hk => by
    obtain ⟨cs, t, f, e⟩ := hit.cells _ _ k hit0 hk
    exact (Array.getElem?_eq_some_iff.1 e).1
  have keep : ∀ {A B : World}, KeepsOthers w A → Chg G A B → KeepsOthers w B := fun hA hc =>
    ⟨Nat.le_trans hA.size hc.size, fun k o hk ho => hc.same (hA.same k o hk ho) fun hF => by
      obtain ⟨cs, t, f, e⟩ := hit.cells _ _ k hit0 (hit.sub k hF)
      rw [e] at hk; cases hk; cases ho⟩
  refine wp_range gf lb hg eg fun fn rec hrec => ?_
  obtain ⟨D, hD⟩ : ∃ D, w.heap.size = D := ⟨_, rfl⟩
  rw [hD]
  have hK1 : KeepsOthers w ((w.alloc (.deferred (some []))).alloc (.loop (rec .ready none))) := (KeepsOthers.alloc w _).trans (KeepsOthers.alloc _ _)
  have hS1 : Stay G w ((w.alloc (.deferred (some []))).alloc (.loop (rec .ready none))) := (Stay.alloc G w _).trans (Stay.alloc G _ _)
  have hL1 : ((w.alloc (.deferred (some []))).alloc (.loop (rec .ready none))).heap[D + 1]? = some (.loop (rec .ready none)) := by
    have := World.alloc_heap_new (w.alloc (.deferred (some []))) (.loop (rec .ready none))
    rwa [World.size_alloc, hD] at this
  have hD1 : ((w.alloc (.deferred (some []))).alloc (.loop (rec .ready none))).heap[D]? = some (.deferred (some [])) := by
    rw [← hD]
    exact (Below.heap_alloc _ _ _ (by simp)).trans (World.alloc_heap_new _ _)
  have hF1 : ∀ k, F k → ((w.alloc (.deferred (some []))).alloc (.loop (rec .ready none))).heap[k]? = w.heap[k]? := fun k hk => by
    have := hlF k hk
    exact (Below.heap_alloc _ _ _ (by simp; omega)).trans (Below.heap_alloc _ _ _ this)
  have hIt1 := hit.far0 _ _ _ hit0 hS1.size hF1
  have hI1 := hI _ _ _ h0 hS1
  generalize (w.alloc (.deferred (some []))).alloc (.loop (rec .ready none)) = W1 at hK1 hS1 hL1 hD1 hF1 hIt1 hI1 ⊢
  have hle : ∀ {W : World}, KeepsOthers w W → D ≤ W.heap.size := fun h => by rw [← hD]; exact h.size
  refine (hit.call (D + 1)
    (fun r W => I r W ∧ W.heap[D + 1]? = some (.loop (rec .ready none)) ∧ W.heap[D]? = some (.deferred (some [])) ∧ KeepsOthers w W)
    (fun W => ∃ c, Ix c W ∧ W.heap[D + 1]? = some (.loop (rec .done (some c))) ∧ W.heap[D]? = some (.deferred (some [])) ∧ KeepsOthers w W)
    ?_ ?_ ?_ c W1 ⟨hI1, hL1, hD1, hK1⟩ hIt1).mono ?_
  · rintro r A B ⟨h1, h2, h3, h4⟩ hc
    exact ⟨hI _ _ _ h1 (.of_chg hc), hc.same h2 (fun h => by have := hlF _ (hit.sub _ h); omega), hc.same h3 (fun h => by have := hlF _ (hit.sub _ h); omega), keep h4 hc⟩
  · rintro A B ⟨k, h1, h2, h3, h4⟩ hc
    exact ⟨k, hIx _ _ _ h1 (.of_chg hc), hc.same h2 (fun h => by have := hlF _ (hit.sub _ h); omega), hc.same h3 (fun h => by have := hlF _ (hit.sub _ h); omega), keep h4 hc⟩
  · rintro x r W ⟨h1, h2, h3, h4⟩ hIt
    have hlt : D + 1 < W.heap.size := (Array.getElem?_eq_some_iff.1 h2).1
    refine yield_body hrec h2 (hps x) (hassign _ x W) h2 ?_
    have hp : Stay G W (W.putObj (D + 1) (.loop (rec .busy none))) := .put h2 rfl _
    have hpF : ∀ k, F k → (W.putObj (D + 1) (.loop (rec .busy none))).heap[k]? = W.heap[k]? := fun k hk => World.putObj_heap_other (by have := hlF k hk; omega)
    have hb := hbody (D + 1) x r _ (hI _ _ _ h1 hp) (hit.far _ _ _ hIt hp.size hpF) (Nat.le_trans h4.size hp.size)
    have g2 : (W.putObj (D + 1) (.loop (rec .busy none))).heap[D + 1]? = some (.loop (rec .busy none)) := World.putObj_heap_same hlt
    have g3 : (W.putObj (D + 1) (.loop (rec .busy none))).heap[D]? = some (.deferred (some [])) := (World.putObj_heap_other (by omega)).trans h3
    have g4 : KeepsOthers w (W.putObj (D + 1) (.loop (rec .busy none))) := ⟨by simpa using h4.size, fun k o hk ho => (World.putObj_heap_other (by have := (Array.getElem?_eq_some_iff.1 hk).1; omega)).trans (h4.same k o hk ho)⟩
    have hsz : W.heap.size ≤ (W.putObj (D + 1) (.loop (rec .busy none))).heap.size := hp.size
    generalize W.putObj (D + 1) (.loop (rec .busy none)) = V at hb hpF g2 g3 g4 hsz
    have fin : ∀ (st : Option Code) (k : LoopState) (V' : World), KeepsOthers V V' → (∀ k, F k → V'.heap[k]? = V.heap[k]?) →
        V'.heap[D + 1]? = some (.loop (rec .busy none)) ∧ W.heap.size ≤ (V'.putObj (D + 1) (.loop (rec k st))).heap.size ∧ (∀ j, F j → (V'.putObj (D + 1) (.loop (rec k st))).heap[j]? = W.heap[j]?) ∧ Stay G V' (V'.putObj (D + 1) (.loop (rec k st))) ∧
        (V'.putObj (D + 1) (.loop (rec k st))).heap[D + 1]? = some (.loop (rec k st)) ∧ (V'.putObj (D + 1) (.loop (rec k st))).heap[D]? = some (.deferred (some [])) ∧ KeepsOthers w (V'.putObj (D + 1) (.loop (rec k st))) := by
      intro st k V' hK hFs
      have e := hK.same _ _ g2 rfl
      have e3 := hK.same _ _ g3 rfl
      have e4 := g4.trans hK
      refine ⟨e, by simpa using Nat.le_trans hsz hK.size, fun j hj => ((World.putObj_heap_other (by have := hlF j hj; omega)).trans (hFs j hj)).trans (hpF j hj), .put e rfl _, World.putObj_heap_same (Array.getElem?_eq_some_iff.1 e).1, (World.putObj_heap_other (by omega)).trans e3,
        ⟨by simpa using e4.size, fun k o hk ho => (World.putObj_heap_other (by have := (Array.getElem?_eq_some_iff.1 hk).1; omega)).trans (e4.same k o hk ho)⟩⟩
    refine wpIn_mono hb ?_
    rintro e a2 V' hq
    cases e with
    | normal =>
      obtain ⟨q1, q2, q3⟩ := hq
      obtain ⟨f1, f2, f3, f4, f5, f6, f7⟩ := fin none .ready V' q1 q2
      exact ⟨f1, f2, f3, .inl ⟨rfl, hI _ _ _ q3 f4, f5, f6, f7⟩⟩
    | ret =>
      obtain ⟨q1, q2, q3⟩ := hq
      obtain ⟨f1, f2, f3, f4, f5, f6, f7⟩ := fin (some .ret) .done V' q1 q2
      exact ⟨f1, f2, f3, .inr ⟨rfl, _, hIx _ _ _ q3 f4, f5, f6, f7⟩⟩
    | exit id =>
      obtain ⟨q1, q2, q3⟩ := hq
      obtain ⟨f1, f2, f3, f4, f5, f6, f7⟩ := fin (some (.exit id)) .done V' q1 q2
      exact ⟨f1, f2, f3, .inr ⟨rfl, _, hIx _ _ _ q3 f4, f5, f6, f7⟩⟩
    | goto t =>
      obtain ⟨q1, q2, q3⟩ := hq
      obtain ⟨f1, f2, f3, f4, f5, f6, f7⟩ := fin (some (.goto t)) .done V' q1 q2
      exact ⟨f1, f2, f3, .inr ⟨rfl, _, hIx _ _ _ q3 f4, f5, f6, f7⟩⟩
    | panic ch => exact hq.elim
    | outgrown => exact hq.elim
  · rintro e W ⟨⟨v, rfl⟩, ⟨h1, h2, h3, h4⟩ | ⟨k, h1, h2, h3, h4⟩⟩
    · have g4 : KeepsOthers w (W.putObj (D + 1) (.loop (rec .exhausted none))) := ⟨by simpa using h4.size, fun k o hk ho => (World.putObj_heap_other (by have := (Array.getElem?_eq_some_iff.1 hk).1; omega)).trans (h4.same k o hk ho)⟩
      exact ⟨⟨_, rfl⟩, .inl ⟨h2, hdone D _ (Nat.le_of_eq hD) (hI _ _ _ h1 (.put h2 rfl _)) g4 ((World.putObj_heap_other (by omega)).trans h3)⟩⟩
    · have g4 : KeepsOthers w (W.putObj (D + 1) (.loop (rec .exhausted (some k)))) := ⟨by simpa using h4.size, fun k o hk ho => (World.putObj_heap_other (by have := (Array.getElem?_eq_some_iff.1 hk).1; omega)).trans (h4.same k o hk ho)⟩
      exact ⟨⟨_, rfl⟩, .inr ⟨k, h2, hstop D k _ (Nat.le_of_eq hD) (hIx _ _ _ h1 (.put h2 rfl _)) g4 ((World.putObj_heap_other (by omega)).trans h3)⟩⟩
end
end Pal
