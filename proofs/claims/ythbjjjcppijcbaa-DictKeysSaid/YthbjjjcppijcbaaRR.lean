/- A region that draws its order, within a round of a range over a function: as in a plain walk. -/
import Derived.Test.YthbjjjcppijcbaaIT
import Derived.OwnWalkIn
import Derived.OrdersIn
import Derived.StillTailTactics
import Derived.RangeFuncCalls
import Derived.OrdersHeld
namespace Pal
open Go Go.RowKit

def noDefer (ops : Array Oper) : Bool := ops.toList.all fun o => match o.op with | .defer _ => false | _ => true
theorem noDefer_spec {ops : Array Oper} (h : noDefer ops = true) {i : Nat} {o : Oper} (ho : ops[i]? = some o) : ∀ c, o.op ≠ .defer c := by
  intro c hc
  have hm : o ∈ ops.toList := Array.mem_toList_iff.2 (Array.mem_of_getElem? ho)
  have := List.all_eq_true.1 h o hm
  rw [hc] at this
  cases this

section
variable {P : Program} {l n : Nat} {Q : Exit → Act → World → Prop}
theorem rowsIn_of_rows {row : String} {args : Array Value} {w : World} {R : Value → World → Prop} (h : Rows P row args w R) : RowsIn (Fence.wide.inRound l) n P row args w R := fun c cs _ =>
  let ⟨v, w', r, s⟩ := h c cs
  ⟨v, w', r, stepsIn_wide.2 s⟩

theorem wpIn_of_wp {o : Oper} {a : Act} {w : World} {K : Act → World → Prop} (hd : ∀ c, o.op ≠ .defer c) (h : o.wp P a w K Q) : o.wpIn (Fence.wide.inRound l) n P a w K Q := by
  refine ⟨fun _ _ => trivial, ?_⟩
  rw [Oper.semAt_plain _ _ _ hd]
  unfold Oper.wp at h
  generalize (execOp a.eval o).run P w = r at h ⊢
  cases r with
  | ok x w' =>
    cases x with
    | value v => exact h
    | skip => exact h
    | defer d => exact h
    | enter f args => exact ⟨fun h => (by cases h), CallsIn.inRound l (callsIn_wide.2 h)⟩
    | row row args => exact ⟨fun h => (by cases h), rowsIn_of_rows h⟩
    | round _ _ _ _ _ => exact h.elim
    | _ => exact h.elim
  | halt x w' =>
    cases x with
    | panic v => exact h
    | _ => exact h.elim

theorem wpAnyIn_of_wpAny {md : Region.Mode} {ops : Array Oper} (hd : noDefer ops = true) (hQ : ¬ LetsOut Q) : ∀ (fuel : Nat) (listed : Array Bool) (a : Act) (w : World), wpAny P md ops Q fuel listed a w → wpAnyIn (Fence.wide.inRound l) n P md ops Q fuel listed a w
  | 0, _, _, _, h => h
  | fuel + 1, listed, a, w, h => ⟨h.1, fun i hi => by
      have h2 := h.2 i hi
      unfold wpOp at h2
      unfold wpOpIn
      cases ho : ops[i]? with
      | none => rw [ho] at h2; exact wpAnyIn_of_wpAny hd hQ fuel _ _ _ h2
      | some o =>
        simp only [ho] at h2 ⊢
        split at h2
        · rename_i hw
          rw [if_pos hw]
          rcases h2 with h2 | h2
          · exact Oper.wpIn_mono (fun a' w' h3 => wpAnyIn_of_wpAny hd hQ fuel _ _ _ h3) (wpIn_of_wp (noDefer_spec hd ho) h2)
          · exact absurd h2.2 hQ
        · rename_i hw
          rw [if_neg hw]
          exact ⟨fun _ _ => trivial, wpAnyIn_of_wpAny hd hQ fuel _ _ _ h2⟩⟩

theorem wpIn_region_plain {id : Nat} {ops : Array Oper} {a : Act} {w : World} (hm : P.follows .mixedOrders = true) (hd : noDefer ops = true) (hQ : ¬ LetsOut Q)
    (h : wpAny P .any ops Q ops.size (Array.replicate ops.size false) a { w with drawn := w.drawn + 1 }) : (Code.region id ops true).wpIn (Fence.wide.inRound l) n P Q a w :=
  wpIn_region_any hm (wpAnyIn_of_wpAny hd hQ _ _ _ _ h)

/-- 'go_still_tail', in a round. -/
theorem wpIn_region_still_tail {id : Nat} {a : Act} {w : World} {ol : List Oper} (k : Nat) (hm : P.follows .mixedOrders = true) (hd : noDefer ol.toArray = true) (hQ : ¬ LetsOut Q) (hB : Region.lexTailB .any ol.toArray k = true)
    (h : wpStill P ol.toArray { w with drawn := w.drawn + 1 } (fun a' => wpList P ol.toArray Q (ol.drop k) a' { w with drawn := w.drawn + 1 }) (ol.take k) a) : (Code.region id ol.toArray true).wpIn (Fence.wide.inRound l) n P Q a w := by
  simp only [Region.lexTailB, Bool.and_eq_true, decide_eq_true_eq] at hB
  obtain ⟨⟨⟨⟨hsel, hn⟩, hs⟩, hc⟩, hlex⟩ := hB
  have hn' : k < ol.length := by simpa using hn
  have htl : (ol.take k).length = k := by simp; omega
  have hdl : (ol.drop k).length = ol.toArray.size - k := by simp
  have inv0 : HeadInv .any ol.toArray k (Array.replicate ol.toArray.size false) :=
    ⟨by simp, fun j oj _ hl => (by rw [getD_replicate_false] at hl; cases hl), fun t _ ht => getD_in (by simpa using ht) (getD_replicate_false _ _)⟩
  have H := wpAnyL_lex (md := .any) (g := ol.toArray.size - k) hsel hs hc hn (ol.take k) 0 _ a (fun j hj => by
    have hj' : j < k := by rw [htl] at hj; exact hj
    simp [hj']) (by simpa using htl) inv0 (by rw [htl]; exact hlex) h
  refine wpIn_region_plain hm hd hQ ?_
  have := wpAny_of_head (Q' := Q) (g := ol.toArray.size - k) (fun listed a' hL => by
    have := wpAny_of_seq (md := .any) (Q' := Q) (ol.drop k) k listed a' { w with drawn := w.drawn + 1 } (fun j => by simp [List.getElem?_drop]) (by rw [hdl]; exact hL.1) hL.2
    rwa [hdl] at this) _ _ _ H
  rw [htl, show k + (ol.toArray.size - k) = ol.toArray.size by omega] at this
  exact this
end
end Pal
