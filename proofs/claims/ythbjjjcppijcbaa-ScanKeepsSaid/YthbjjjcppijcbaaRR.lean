/- A region that draws its order, within a round of a range over a function: as in a plain walk. -/
import Derived.Test.YthbjjjcppijcbaaIT
import Derived.OwnWalkIn
import Derived.OrdersIn
import Derived.StillTailTactics
import Derived.RangeFuncCalls
import Derived.OrdersHeld
namespace Pal
open Go Go.RowKit

def noDefer (ops : Array Oper) : Bool := ops.toList.all fun o => match o.op with | .defer _ => false | _ => true
theorem noDefer_spec {ops : Array Oper} (h : noDefer ops = true) {i : Nat} {o : Oper} (ho : ops[i]? = some o) : ∀ c, o.op ≠ .defer c := by
  intro c hc
  have hm : o ∈ ops.toList := Array.mem_toList_iff.2 (Array.mem_of_getElem? ho)
  have := List.all_eq_true.1 h o hm
  rw [hc] at this
  cases this

section
variable {P : Program} {l n : Nat} {Q : Exit → Act → World → Prop}
theorem rowsIn_of_rows {row : String} {args : Array Value} {w : World} {R : Value → World → Prop} (h : Rows P row args w R) : RowsIn (Fence.wide.inRound l) n P row args w R := fun c cs _ =>
  let ⟨v, w', r, s⟩ := h c cs
  ⟨v, w', r, stepsIn_wide.2 s⟩

theorem wpIn_of_wp {o : Oper} {a : Act} {w : World} {K : Act → World → Prop} (hd : ∀ c, o.op ≠ .defer c) (h : o.wp P a w K Q) : o.wpIn (Fence.wide.inRound l) n P a w K Q := by
  refine ⟨fun _ _ => trivial, ?_⟩
  rw [Oper.semAt_plain _ _ _ hd]
  unfold Oper.wp at h
  generalize (execOp a.eval o).run P w = r at h ⊢
  cases r with
  | ok x w' =>
    cases x with
    | value v => exact h
    | skip => exact h
    | defer d => exact h
    | enter f args => exact ⟨fun h => (by cases h), CallsIn.inRound l (callsIn_wide.2 h)⟩
    | row row args => exact ⟨fun h => (by cases h), rowsIn_of_rows h⟩
    | round _ _ _ _ _ => exact h.elim
    | _ => exact h.elim
  | halt x w' =>
    cases x with
    | panic v => exact h
    | _ => exact h.elim

theorem wpAnyIn_of_wpAny {md : Region.Mode} {ops : Array Oper} (hd : noDefer ops = true) (hQ : ¬ LetsOut Q) : ∀ (fuel : Nat) (listed : Array Bool) (a : Act) (w : World), wpAny P md ops Q fuel listed a w → wpAnyIn (Fence.wide.inRound l) n P md ops Q fuel listed a w
  | 0, _, _, _, h => h
  | fuel + 1, listed, a, w, h => ⟨h.1, fun i hi => by
      have h2 := h.2 i hi
      unfold wpOp at h2
      unfold wpOpIn
      cases ho : ops[i]? with
      | none => rw [ho] at h2; exact wpAnyIn_of_wpAny hd hQ fuel _ _ _ h2
      | some o =>
        simp only [ho] at h2 ⊢
        split at h2
        · rename_i hw
          rw [if_pos hw]
          rcases h2 with h2 | h2
          · exact Oper.wpIn_mono (fun a' w' h3 => wpAnyIn_of_wpAny hd hQ fuel _ _ _ h3) (wpIn_of_wp (noDefer_spec hd ho) h2)
          · exact absurd h2.2 hQ
        · rename_i hw
          rw [if_neg hw]
          exact ⟨fun _ _ => trivial, wpAnyIn_of_wpAny hd hQ fuel _ _ _ h2⟩⟩

theorem wpIn_region_plain {id : Nat} {ops : Array Oper} {a : Act} {w : World} (hm : P.follows .mixedOrders = true) (hd : noDefer ops = true) (hQ : ¬ LetsOut Q)
    (h : wpAny P .any ops Q ops.size (Array.replicate ops.size false) a { w with drawn := w.drawn + 1 }) : (Code.region id ops true).wpIn (Fence.wide.inRound l) n P Q a w :=
  wpIn_region_any hm (wpAnyIn_of_wpAny hd hQ _ _ _ _ h)

/-- 'go_still_tail', in a round. -/
theorem wpIn_region_still_tail {id : Nat} {a : Act} {w : World} {ol : List Oper} (k : Nat) (hm : P.follows .mixedOrders = true) (hd : noDefer ol.toArray = true) (hQ : ¬ LetsOut Q) (hB : Region.lexTailB .any ol.toArray k = true)
    (h : wpStill P ol.toArray { w with drawn := w.drawn + 1 } (fun a' => wpList P ol.toArray Q (ol.drop k) a' { w with drawn := w.drawn + 1 }) (ol.take k) a) : (Code.region id ol.toArray true).wpIn (Fence.wide.inRound l) n P Q a w := by
  simp only [Region.lexTailB, Bool.and_eq_true, decide_eq_true_eq] at hB
  obtain ⟨⟨⟨⟨hsel, hn⟩, hs⟩, hc⟩, hlex⟩ := hB
  have hn' : k < ol.length := by simpa using hn
  have htl : (ol.take k).length = k := by simp; omega
  have hdl : (ol.drop k).length = ol.toArray.size - k := by simp
  have inv0 : HeadInv .any ol.toArray k (Array.replicate ol.toArray.size false) :=
    ⟨by simp, fun j oj _ hl => (by rw [getD_replicate_false] at hl; cases hl), fun t _ ht => getD_in (by simpa using ht) (getD_replicate_false _ _)⟩
  have H := wpAnyL_lex (md := .any) (g := ol.toArray.size - k) hsel hs hc hn (ol.take k) 0 _ a (fun j hj => by
    have hj' : j < k := by rw [htl] at hj; exact hj
    simp [hj']) (by simpa using htl) inv0 (by rw [htl]; exact hlex) h
  refine wpIn_region_plain hm hd hQ ?_
  have := wpAny_of_head (Q' := Q) (g := ol.toArray.size - k) (fun listed a' hL => by
    have := wpAny_of_seq (md := .any) (Q' := Q) (ol.drop k) k listed a' { w with drawn := w.drawn + 1 } (fun j => by simp [List.getElem?_drop]) (by rw [hdl]; exact hL.1) hL.2
    rwa [hdl] at this) _ _ _ H
  rw [htl, show k + (ol.toArray.size - k) = ol.toArray.size by omega] at this
  exact this
end

/-! ### reads taken first, S held as long as something is left -/
section
variable {P : Program} {ops : Array Oper} {Q : Exit → Act → World → Prop} {md : Region.Mode} {S : World → Prop}

/-- Number x of the region waits for number i. -/
def waitsB (md : Region.Mode) (ops : Array Oper) (x i : Nat) : Bool := match ops[x]? with
  | some o => o.after.any fun e => Region.binds md e && e.on == i
  | none => false

/-- S holds behind each operation but number x. -/
def wpAnyF (P : Program) (md : Region.Mode) (ops : Array Oper) (Q : Exit → Act → World → Prop) (S : World → Prop) (x : Nat) : Nat → Array Bool → Act → World → Prop
  | 0, listed, a, w => Region.ready md ops listed = [] ∧ Q .normal a w
  | fuel + 1, listed, a, w =>
    (Region.ready md ops listed = [] → Q .normal a w) ∧
    ∀ i ∈ Region.ready md ops listed, wpOp P ops Q i (fun a' w' => (i ≠ x → S w') ∧ wpAnyF P md ops Q S x fuel (listed.setIfInBounds i true) a' w') a w

theorem wpAny_of_wpAnyF {x : Nat} : ∀ (fuel : Nat) (listed : Array Bool) (a : Act) (w : World), wpAnyF P md ops Q S x fuel listed a w → wpAny P md ops Q fuel listed a w
  | 0, _, _, _, h => h
  | fuel + 1, _, _, _, h => ⟨h.1, fun i hi => wpOp_mono (fun _ _ h' => wpAny_of_wpAnyF fuel _ _ _ h'.2) (h.2 i hi)⟩

/-- Who came up ahead of i does not wait for i. -/
theorem not_waits {i : Nat} {listed : Array Bool} {oj : Oper} (hr : i ∈ Region.ready md ops listed) (hall : ∀ e ∈ oj.after, Region.binds md e = true → listed.getD e.on false = true) :
    ∀ e ∈ oj.after, Region.binds md e = true → e.on ≠ i := fun e he hb heq => by
  have h1 := hall e he hb
  have h0 := (mem_ready.1 hr).1
  rw [heq] at h1
  rcases Nat.lt_or_ge i listed.size with h' | h'
  · simp [h'] at h0 h1; rw [h0] at h1; cases h1
  · simp [Array.getElem?_eq_none h'] at h1

theorem wpAnyF_first {i x : Nat} {oi : Oper} {v : Value} (hi : ops[i]? = some oi) (hsel : ∀ (j : Nat) (o : Oper) cs b, ops[j]? = some o → o.op ≠ .select cs b) (hx : waitsB md ops x i = true)
    (hQ : ∀ c a w, Q (.panic c) (a.put oi.dst v) w → Q (.panic c) a w) :
    ∀ (fuel : Nat) (listed : Array Bool) (a : Act) (w : World),
      (∀ j oj, ops[j]? = some oj → j ≠ i → listed.getD j true = false → (∀ e ∈ oj.after, Region.binds md e = true → e.on ≠ i) → oi.apart ops oj = true) →
      i ∈ Region.ready md ops listed → YieldsIf P ops S oi v a → S w →
      wpAnyF P md ops Q S x fuel (listed.setIfInBounds i true) (a.put oi.dst v) w → wpAnyF P md ops Q S x (fuel + 1) listed a w
  | fuel, listed, a, w, hfree, hr, hy, hS, H => by
    refine ⟨fun h => (by rw [h] at hr; cases hr), fun j hj => ?_⟩
    by_cases hji : j = i
    · subst hji
      exact hy.wpOp hi hS ⟨fun _ => hS, H⟩
    · have hj' := ready_mono hj hji
      cases fuel with
      | zero => rw [H.1] at hj'; cases hj'
      | succ fuel =>
        obtain ⟨hjun, oj, hoj, hall⟩ := mem_ready.1 hj
        have hnw := not_waits hr hall
        have hjx : j ≠ x := fun e => by
          subst e
          unfold waitsB at hx
          rw [hoj] at hx
          obtain ⟨e, he, hb⟩ := Array.any_eq_true'.1 hx
          simp only [Bool.and_eq_true, beq_iff_eq] at hb
          exact hnw e he hb.1 hb.2
        have h2 := wpOp_putIf hoj (hfree j oj hoj hji hjun hnw) (fun cs b => hsel i oi cs b hi) (fun cs b => hsel j oj cs b hoj) hQ hy (H.2 j hj')
        have hr' : i ∈ Region.ready md ops (listed.setIfInBounds j true) := ready_mono hr (Ne.symm hji)
        refine wpOp_mono (fun a' w' h3 => ?_) h2
        obtain ⟨hy', hS', H'⟩ := h3
        rw [Array.setIfInBounds_comm _ _ (Ne.symm hji)] at H'
        exact ⟨fun _ => hS' hjx, wpAnyF_first hi hsel hx hQ fuel _ a' w' (fun k ok hk hki hun hno => by
          refine hfree k ok hk hki ?_ hno
          by_cases hjk : j = k
          · subst hjk; exact hjun
          · rw [getD_set_ne true hjk] at hun; exact hun) hr' hy' (hS' hjx) H'⟩

/-- Number i, a read, is taken first. -/
theorem wpAnyF_take (i : Nat) {x : Nat} {oi : Oper} {v : Value} {fuel : Nat} {listed : Array Bool} {a : Act} {w : World} (hi : ops[i]? = some oi)
    (hs : Region.noSelect ops = true) (hf : Region.free md ops listed i = true) (hr : (Region.ready md ops listed).contains i = true) (hx : waitsB md ops x i = true)
    (hQ : ∀ c a w, Q (.panic c) (a.put oi.dst v) w → Q (.panic c) a w) (hS : S w) (hw : Region.wanted oi (yielded ops a.tmps) = true) (hy : ∀ w, S w → (execOp a.eval oi).run P w = .ok (.value v) w)
    (h : wpAnyF P md ops Q S x fuel (listed.setIfInBounds i true) (a.put oi.dst v) w) : wpAnyF P md ops Q S x (fuel + 1) listed a w :=
  wpAnyF_first hi (Region.noSelect_spec hs) hx hQ fuel listed a w (Region.free_spec hi hf) (by simpa using hr) (.inl ⟨hw, hy⟩) hS h

/-- Number i comes up alone. -/
theorem wpAnyF_one (i : Nat) {x : Nat} {o : Oper} {fuel : Nat} {listed : Array Bool} {a : Act} {w : World} (hr : Region.ready md ops listed = [i]) (ho : ops[i]? = some o)
    (h : ∀ K : Act → World → Prop, (∀ a' w', (i ≠ x → S w') → wpAnyF P md ops Q S x fuel (listed.setIfInBounds i true) a' w' → K a' w') → if Region.wanted o (yielded ops a.tmps) = true then Oper.wp P o a w K Q else K (a.put o.dst undef) w) :
    wpAnyF P md ops Q S x (fuel + 1) listed a w := by
  refine ⟨fun h0 => (by rw [h0] at hr; cases hr), fun j hj => ?_⟩
  rw [hr] at hj
  have hj : j = i := by simpa using hj
  subst hj
  have h2 := h _ (fun a' w' h1 h2 => (⟨h1, h2⟩ : (j ≠ x → S w') ∧ wpAnyF P md ops Q S x fuel (listed.setIfInBounds j true) a' w'))
  unfold wpOp
  rw [ho]
  dsimp only
  split
  · rename_i hw; rw [if_pos hw] at h2; exact .inl h2
  · rename_i hw; rw [if_neg hw] at h2; exact h2

/-- Each of those that may come up. -/
def AllF (P : Program) (md : Region.Mode) (ops : Array Oper) (Q : Exit → Act → World → Prop) (S : World → Prop) (x fuel : Nat) (listed : Array Bool) (a : Act) (w : World) (rs : List Nat) : Prop :=
  ∀ i ∈ rs, wpOp P ops Q i (fun a' w' => (i ≠ x → S w') ∧ wpAnyF P md ops Q S x fuel (listed.setIfInBounds i true) a' w') a w
theorem AllF.nil {x fuel : Nat} {listed : Array Bool} {a : Act} {w : World} : AllF P md ops Q S x fuel listed a w [] := fun _ h => by cases h
theorem AllF.cons {x fuel : Nat} {listed : Array Bool} {a : Act} {w : World} {i : Nat} {o : Oper} {rs : List Nat} (ho : ops[i]? = some o)
    (h : ∀ K : Act → World → Prop, (∀ a' w', (i ≠ x → S w') → wpAnyF P md ops Q S x fuel (listed.setIfInBounds i true) a' w' → K a' w') → if Region.wanted o (yielded ops a.tmps) = true then Oper.wp P o a w K Q else K (a.put o.dst undef) w)
    (hs : AllF P md ops Q S x fuel listed a w rs) : AllF P md ops Q S x fuel listed a w (i :: rs) := fun j hj => by
  rcases List.mem_cons.1 hj with rfl | hj
  · have h2 := h _ (fun a' w' h1 h2 => (⟨h1, h2⟩ : (j ≠ x → S w') ∧ wpAnyF P md ops Q S x fuel (listed.setIfInBounds j true) a' w'))
    unfold wpOp
    rw [ho]
    dsimp only
    split
    · rename_i hw; rw [if_pos hw] at h2; exact .inl h2
    · rename_i hw; rw [if_neg hw] at h2; exact h2
  · exact hs j hj
theorem wpAnyF_ready {x : Nat} (rs : List Nat) {fuel : Nat} {listed : Array Bool} {a : Act} {w : World} (hr : Region.ready md ops listed = rs) (hne : rs ≠ [])
    (h : AllF P md ops Q S x fuel listed a w rs) : wpAnyF P md ops Q S x (fuel + 1) listed a w :=
  ⟨fun h0 => absurd (hr.symm.trans h0) hne, hr ▸ h⟩

theorem wpAnyF_done {x : Nat} {listed : Array Bool} {a : Act} {w : World} (hr : Region.ready md ops listed = []) (h : Q .normal a w) : ∀ fuel, wpAnyF P md ops Q S x fuel listed a w
  | 0 => ⟨hr, h⟩
  | _ + 1 => ⟨fun _ => h, by rw [hr]; simp⟩

theorem wpIn_region_held {l n id : Nat} {ol : List Oper} {a : Act} {w : World} (x : Nat) (S : World → Prop) (hm : P.follows .mixedOrders = true) (hd : noDefer ol.toArray = true) (hQ : ¬ LetsOut Q)
    (h : wpAnyF P .any ol.toArray Q S x ol.toArray.size (Array.replicate ol.toArray.size false) a w.drew) : (Code.region id ol.toArray true).wpIn (Fence.wide.inRound l) n P Q a w :=
  wpIn_region_plain hm hd hQ (wpAny_of_wpAnyF _ _ _ _ h)
theorem wp_region_heldF {id : Nat} {ol : List Oper} {a : Act} {w : World} (x : Nat) (S : World → Prop) (hm : P.follows .mixedOrders = true)
    (h : wpAnyF P .any ol.toArray Q S x ol.toArray.size (Array.replicate ol.toArray.size false) a w.drew) : (Code.region id ol.toArray true).wp P Q a w :=
  wp_region_any hm (wpAny_of_wpAnyF _ _ _ _ h)
end
end Pal
