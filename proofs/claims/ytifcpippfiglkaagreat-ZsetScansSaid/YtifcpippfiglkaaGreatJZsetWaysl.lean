/- Texts joined for ZsetWays: SKI2, SKD, SKK, SKL. -/
import Derived.Test.YtifcpippfiglkaaGreatJZsetWaysi
import Derived.Test.YtifcpippfiglkaaGreatJZsetWaysk
import Derived.Deep.LoopGhost
set_option linter.unusedVariables false
set_option linter.unusedSimpArgs false

/- A node put in: how it begins and ends. -/
namespace Go.Proofs.YtifcpippfiglkaaGreat
open Go.RowKit Pal Pal.Skip
section
variable {s : Sk} {k : Nat} {x : Sn} {w : World} {base T : Nat}
theorem Sk.put_get (hk : k ≤ s.n) (j : Nat) : (s.put k x).ns[j]? = if j < k then s.ns[j]? else if j = k then some x else s.ns[j - 1]? := by
  unfold Sk.put Sk.n at *
  dsimp only
  by_cases h1 : j < k
  · rw [if_pos h1, List.getElem?_append_left (by rw [List.length_take]; omega), List.getElem?_take_of_lt h1]
  · rw [if_neg h1, List.getElem?_append_right (by rw [List.length_take]; omega), List.length_take, Nat.min_eq_left hk]
    by_cases h2 : j = k
    · rw [if_pos h2, h2, Nat.sub_self]; rfl
    · rw [if_neg h2]
      obtain ⟨m, hm⟩ : ∃ m, j - k = m + 1 := ⟨j - k - 1, by omega⟩
      rw [hm, List.getElem?_cons_succ, List.getElem?_drop, show k + m = j - 1 by omega]
theorem mid_start {cs : Array Value} (h : SvAt w base (s.viewT T T)) (hk : k ≤ s.n) (hb : Blk w x.blk 132 cs) (hz : cs.size = 68)
    (hc : cs[0]? = some (.string x.key) ∧ cs[1]? = some (.int .i64 x.score) ∧ cs[66]? = some (.int .i64 (x.lvl : Int)) ∧ cs[67]? = some (.pointer none)) (hf : ∀ p, p ≤ s.n → x.blk ≠ s.at_ p) (hge : base ≤ x.blk) :
    SvAt w base (midV s k x T 0) := by
  have hkl : k ≤ s.lv.length := by rw [s.lv_len]; exact hk
  have hat : ∀ p, (midV s k x T 0).at_ p = if p ≤ k then s.at_ p else if p = k + 1 then x.blk else s.at_ (p - 1) := fun p => Sk.put_at hk p
  have hln : (midV s k x T 0).ns.length = s.n + 1 := mid_len hk
  refine ⟨fun p hp => ?_, fun p q hp hq e => ?_, fun p hp => ?_⟩
  · rw [hln] at hp
    rw [hat]
    by_cases h1 : p ≤ k
    · rw [if_pos h1]
      obtain ⟨cs', hb', hn⟩ := h.nd p (by show p ≤ s.n; omega)
      refine ⟨cs', hb', hn.size, fun i hi ho => ?_, fun y h1p hy => ?_, fun e => hn.hd e⟩
      · have hd : down k p = p := if_pos h1
        have := hn.link i hi (by
          rcases ho with ho | ho | ho
          · exact .inl ho
          · have h2 := ho.2
            rw [ins_ab hkl, if_pos h1] at h2
            exact .inr h2
          · exact absurd ho.1 (by omega))
        show _ = some (if i < 0 then (s.put k x).go (nxt (ins s.lv k x.lvl) i p) else s.go (nxt s.lv i (down k p))) ∧ _ = some (Value.int .i64 (if i < 0 then (span (ins s.lv k x.lvl) i p : Int) else (span s.lv i (down k p) : Int)))
        rw [if_neg (Nat.not_lt_zero _), if_neg (Nat.not_lt_zero _), hd]
        exact this
      · have hy' : s.ns[p - 1]? = some y := by
          have : (s.put k x).ns[p - 1]? = some y := hy
          rwa [Sk.put_get hk, if_pos (by omega)] at this
        obtain ⟨a, b, c, d⟩ := hn.ent y h1p hy'
        refine ⟨a, b, c, ?_⟩
        rw [d]
        show some (s.nd (p - 1)) = some (if p = k + 1 then Value.pointer none else s.nd (down k p - 1))
        rw [if_neg (by omega), show down k p = p from if_pos h1]
    · rw [if_neg h1]
      by_cases h2 : p = k + 1
      · rw [if_pos h2]
        have ht : tyP p = 132 := if_neg (by omega)
        have hs : szP p = 68 := if_neg (by omega)
        refine ⟨cs, by rw [ht]; exact hb, by rw [hs]; exact hz, fun i hi ho => ?_, fun y h1p hy => ?_, fun e => by omega⟩
        · rcases ho with ho | ho | ho
          · omega
          · exact absurd h2 ho.1
          · omega
        · have : y = x := by
            have : (s.put k x).ns[p - 1]? = some y := hy
            rw [Sk.put_get hk, if_neg (by omega), if_pos (by omega)] at this
            injection this with this
            exact this.symm
          subst this
          obtain ⟨a, b, c, d⟩ := hc
          refine ⟨a, b, c, ?_⟩
          rw [d]
          show _ = some (if p = k + 1 then Value.pointer none else s.nd (down k p - 1))
          rw [if_pos h2]
      · rw [if_neg h2]
        obtain ⟨cs', hb', hn⟩ := h.nd (p - 1) (by show p - 1 ≤ s.n; omega)
        have ht : tyP p = tyP (p - 1) := by unfold tyP; rw [if_neg (by omega), if_neg (by omega)]
        have hs : szP p = szP (p - 1) := by unfold szP; rw [if_neg (by omega), if_neg (by omega)]
        have hd : down k p = p - 1 := if_neg h1
        refine ⟨cs', by rw [ht]; exact hb', by rw [hs]; exact hn.size, fun i hi ho => ?_, fun y h1p hy => ?_, fun e => by omega⟩
        · have := hn.link i hi (by
            rcases ho with ho | ho | ho
            · omega
            · have h3 := ho.2
              rw [ins_ab hkl, if_neg h1, if_neg h2] at h3
              exact .inr h3
            · exact absurd ho.1 h2)
          show _ = some (if i < 0 then (s.put k x).go (nxt (ins s.lv k x.lvl) i p) else s.go (nxt s.lv i (down k p))) ∧ _ = some (Value.int .i64 (if i < 0 then (span (ins s.lv k x.lvl) i p : Int) else (span s.lv i (down k p) : Int)))
          rw [if_neg (Nat.not_lt_zero _), if_neg (Nat.not_lt_zero _), hd]
          exact this
        · have hy' : s.ns[p - 1 - 1]? = some y := by
            have : (s.put k x).ns[p - 1]? = some y := hy
            rwa [Sk.put_get hk, if_neg (by omega), if_neg (by omega)] at this
          obtain ⟨a, b, c, d⟩ := hn.ent y (by omega) hy'
          refine ⟨a, b, c, ?_⟩
          rw [d]
          show some (s.nd (p - 1 - 1)) = some (if p = k + 1 then Value.pointer none else s.nd (down k p - 1))
          rw [if_neg h2, hd]
  · rw [hln] at hp hq
    rw [hat, hat] at e
    have inj : ∀ a b, a ≤ s.n → b ≤ s.n → s.at_ a = s.at_ b → a = b := fun a b ha hb e => h.inj a b ha hb e
    by_cases a1 : p ≤ k <;> by_cases b1 : q ≤ k
    · rw [if_pos a1, if_pos b1] at e; exact inj p q (by omega) (by omega) e
    · rw [if_pos a1, if_neg b1] at e
      by_cases b2 : q = k + 1
      · rw [if_pos b2] at e; exact absurd e.symm (hf p (by omega))
      · rw [if_neg b2] at e; have := inj p (q - 1) (by omega) (by omega) e; omega
    · rw [if_neg a1, if_pos b1] at e
      by_cases a2 : p = k + 1
      · rw [if_pos a2] at e; exact absurd e (hf q (by omega))
      · rw [if_neg a2] at e; have := inj (p - 1) q (by omega) (by omega) e; omega
    · rw [if_neg a1, if_neg b1] at e
      by_cases a2 : p = k + 1 <;> by_cases b2 : q = k + 1
      · omega
      · rw [if_pos a2, if_neg b2] at e; exact absurd e (hf (q - 1) (by omega))
      · rw [if_neg a2, if_pos b2] at e; exact absurd e.symm (hf (p - 1) (by omega))
      · rw [if_neg a2, if_neg b2] at e; have := inj (p - 1) (q - 1) (by omega) (by omega) e; omega
  · rw [hln] at hp
    rw [hat]
    split
    · exact h.ge p (by show p ≤ s.n; omega)
    · split
      · exact hge
      · exact h.ge (p - 1) (by show p - 1 ≤ s.n; omega)
/-- The links back, as they are in the end. -/
def midB (s : Sk) (k : Nat) (x : Sn) : Nat → Value := fun p => if p = k + 2 then pt x.blk else if p = k + 1 then s.nd k else s.nd (down k p - 1)
theorem nd_put (hk : k ≤ s.n) {p : Nat} (h1 : 1 ≤ p) : midB s k x p = (s.put k x).nd (p - 1) := by
  unfold midB Sk.nd down
  rw [Sk.put_at hk]
  by_cases a : p = k + 2
  · rw [if_pos a, if_neg (by omega), if_neg (by omega), if_pos (by omega)]
  · rw [if_neg a]
    by_cases b : p = k + 1
    · rw [if_pos b, show p - 1 = k by omega, if_pos (Nat.le_refl _)]
    · rw [if_neg b]
      by_cases c : p ≤ k
      · rw [if_pos c, if_pos (show p - 1 ≤ k by omega)]
      · rw [if_neg c, if_neg (show ¬ p - 1 ≤ k by omega), if_neg (show ¬ p - 1 = k + 1 by omega), if_neg (show ¬ p - 1 = 0 by omega), if_neg (show ¬ p - 1 - 1 = 0 by omega)]
/-- The link back of the new node. -/
theorem mid_bk1 (h : SvAt w base (midV s k x T T)) (hk : k ≤ s.n) (h0 : k ≠ 0) :
    SvAt (w.setCell ⟨x.blk, 67, none⟩ (pt (s.at_ k))) base { midV s k x T T with bk := fun p => if p = k + 1 then s.nd k else s.nd (down k p - 1) } ∧ Chg (midV s k x T T).foot w (w.setCell ⟨x.blk, 67, none⟩ (pt (s.at_ k))) := by
  obtain ⟨h1, c1⟩ := h.setBk (p := k + 1) (by omega) (by rw [mid_len hk]; omega) (pt (s.at_ k))
  have ea : (midV s k x T T).at_ (k + 1) = x.blk := by rw [mid_at, Sk.put_at hk, if_neg (by omega), if_pos rfl]
  rw [ea] at h1 c1
  refine ⟨h1.view rfl rfl (fun _ _ _ _ ho => ⟨ho, rfl, rfl⟩) (fun p _ _ => ?_) rfl rfl rfl, c1⟩
  show (if p = k + 1 then pt (s.at_ k) else if p = k + 1 then Value.pointer none else s.nd (down k p - 1)) = if p = k + 1 then s.nd k else s.nd (down k p - 1)
  by_cases e : p = k + 1
  · rw [if_pos e, if_pos e]; unfold Sk.nd; rw [if_neg h0]
  · rw [if_neg e, if_neg e, if_neg e]
theorem mid_bk0 (h : SvAt w base (midV s k x T T)) (h0 : k = 0) : SvAt w base { midV s k x T T with bk := fun p => if p = k + 1 then s.nd k else s.nd (down k p - 1) } := by
  refine h.view rfl rfl (fun _ _ _ _ ho => ⟨ho, rfl, rfl⟩) (fun p _ _ => ?_) rfl rfl rfl
  show (if p = k + 1 then Value.pointer none else s.nd (down k p - 1)) = if p = k + 1 then s.nd k else s.nd (down k p - 1)
  by_cases e : p = k + 1
  · rw [if_pos e, if_pos e, h0]; rfl
  · rw [if_neg e, if_neg e]
/-- The node behind it, or the head, tells of it; one more. -/
theorem mid_end (h : SvAt w base { midV s k x T T with bk := fun p => if p = k + 1 then s.nd k else s.nd (down k p - 1) }) (hk : k ≤ s.n) (hT : T = max (top s.lv) x.lvl) (hx : 1 ≤ x.lvl ∧ x.lvl ≤ 32) (hlo : ∀ y ∈ s.ns, 1 ≤ y.lvl ∧ y.lvl ≤ 32) :
    ∀ w', w' = (if k < s.n then w.setCell ⟨s.at_ (k + 1), 67, none⟩ (pt x.blk) else w.setCell ⟨s.blk, 68, none⟩ (pt x.blk)) →
      SkAt (w'.setCell ⟨s.blk, 70, none⟩ (.int .i64 ((s.n : Int) + 1))) base (s.put k x) ∧ Chg (midV s k x T T).foot w (w'.setCell ⟨s.blk, 70, none⟩ (.int .i64 ((s.n : Int) + 1))) := by
  have hkl : k ≤ s.lv.length := by rw [s.lv_len]; exact hk
  intro w' hw'
  have key : ∀ w'', SvAt w'' base { midV s k x T T with bk := midB s k x, last := (s.put k x).nd (s.n + 1) } →
      SkAt (w''.setCell ⟨s.blk, 70, none⟩ (.int .i64 ((s.n : Int) + 1))) base (s.put k x) ∧ Chg (midV s k x T T).foot w'' (w''.setCell ⟨s.blk, 70, none⟩ (.int .i64 ((s.n : Int) + 1))) := by
    intro w'' h2
    obtain ⟨h3, c3⟩ := h2.setHd 70 (.int .i64 ((s.n : Int) + 1)) { midV s k x T T with bk := midB s k x, last := (s.put k x).nd (s.n + 1), n := (s.n : Int) + 1 } rfl rfl rfl rfl rfl rfl (.inr (.inr ⟨rfl, rfl, rfl, rfl⟩))
    refine ⟨⟨h3.view rfl rfl (fun p i hp hi ho => ?_) (fun p h1 hp => nd_put hk h1) ?_ ?_ ?_, ?_⟩, c3⟩
    · have ho' : (p = 0 ∧ i < top (ins s.lv k x.lvl)) ∨ ab (ins s.lv k x.lvl) i p := by
        have : (s.put k x).view.ok p i := ho
        unfold Sk.view at this
        rw [Sk.put_lv] at this
        exact this
      have hiT : i < T := by
        rcases ho' with ho' | ho'
        · have := ho'.2; rw [top_ins] at this; omega
        · have hm := ho'.2.2
          obtain ⟨l, hl, hil⟩ := ab_mem.1 ⟨p, ho'⟩
          have := top_le l hl
          rw [top_ins] at this
          omega
      refine ⟨?_, ?_, ?_⟩
      · rcases ho' with ho' | ho'
        · exact .inl ⟨ho'.1, hiT⟩
        · by_cases hp1 : p = k + 1
          · refine .inr (.inr ⟨hp1, hiT, ?_⟩)
            rw [ins_ab hkl, if_neg (by omega), if_pos hp1] at ho'; exact ho'
          · exact .inr (.inl ⟨hp1, ho'⟩)
      · show (if i < T then (s.put k x).go (nxt (ins s.lv k x.lvl) i p) else s.go (nxt s.lv i (down k p))) = (s.put k x).go (nxt (s.put k x).lv i p)
        rw [if_pos hiT, Sk.put_lv]
      · show (if i < T then (span (ins s.lv k x.lvl) i p : Int) else (span s.lv i (down k p) : Int)) = (span (s.put k x).lv i p : Int)
        rw [if_pos hiT, Sk.put_lv]
    · show (s.put k x).nd (s.n + 1) = (s.put k x).nd (s.put k x).n
      rw [Sk.put_n hk]
    · show T = top (s.put k x).lv
      rw [Sk.put_lv, top_ins, hT]
    · show (s.n : Int) + 1 = ((s.put k x).n : Int)
      rw [Sk.put_n hk]; omega
    · intro y hy
      have hy' : y ∈ s.ns.take k ++ x :: s.ns.drop k := hy
      rcases List.mem_append.1 hy' with hy' | hy'
      · exact hlo y (List.mem_of_mem_take hy')
      · rcases List.mem_cons.1 hy' with rfl | hy'
        · exact hx
        · exact hlo y (List.mem_of_mem_drop hy')
  by_cases hkn : k < s.n
  · rw [if_pos hkn] at hw'
    obtain ⟨h1, c1⟩ := h.setBk (p := k + 2) (by omega) (show k + 2 ≤ (midV s k x T T).ns.length by rw [mid_len hk]; omega) (pt x.blk)
    have ea : (s.put k x).at_ (k + 2) = s.at_ (k + 1) := by rw [Sk.put_at hk, if_neg (by omega), if_neg (by omega)]; rfl
    change SvAt (w.setCell ⟨(s.put k x).at_ (k + 2), 67, none⟩ _) base _ at h1
    change Chg _ _ (w.setCell ⟨(s.put k x).at_ (k + 2), 67, none⟩ _) at c1
    rw [ea, ← hw'] at h1 c1
    obtain ⟨a, b⟩ := key w' (h1.view rfl rfl (fun _ _ _ _ ho => ⟨ho, rfl, rfl⟩) (fun p _ _ => rfl) (by
      show s.nd s.n = (s.put k x).nd (s.n + 1)
      unfold Sk.nd
      rw [if_neg (by omega), if_neg (by omega), Sk.put_at hk, if_neg (by omega), if_neg (by omega)]
      rfl) rfl rfl)
    exact ⟨a, c1.trans b⟩
  · rw [if_neg hkn] at hw'
    obtain ⟨h1, c1⟩ := h.setHd 68 (pt x.blk) { midV s k x T T with bk := (fun p => if p = k + 1 then s.nd k else s.nd (down k p - 1)), last := pt x.blk } rfl rfl rfl rfl rfl rfl (.inl ⟨rfl, rfl, rfl, rfl⟩)
    change SvAt (w.setCell ⟨s.blk, 68, none⟩ _) base _ at h1
    change Chg _ _ (w.setCell ⟨s.blk, 68, none⟩ _) at c1
    rw [← hw'] at h1 c1
    obtain ⟨a, b⟩ := key w' (h1.view rfl rfl (fun _ _ _ _ ho => ⟨ho, rfl, rfl⟩) (fun p h1 hp => by
      have hp' : p ≤ s.n + 1 := by rw [← mid_len (x := x) hk (T := T) (i := T)]; exact hp
      show (if p = k + 1 then s.nd k else s.nd (down k p - 1)) = midB s k x p
      unfold midB
      rw [if_neg (show ¬ p = k + 2 by omega)]) (by
      show pt x.blk = (s.put k x).nd (s.n + 1)
      unfold Sk.nd
      rw [if_neg (by omega), Sk.put_at hk, if_neg (by omega), if_pos (by omega)]) rfl rfl)
    exact ⟨a, c1.trans b⟩
theorem span_le {lv : List Nat} {i p : Nat} : span lv i p ≤ lv.length := by
  unfold span
  cases hx : nxt lv i p with
  | none => exact Nat.sub_le _ _
  | some q => have := (nxt_some.1 hx).2.1.2.1; dsimp only; omega
/-- The head's level is written, the new node made. -/
theorem mid_begin {l : Nat} {m : ByteArray} {sc : Int} {cs : Array Value} {o : Obj} (h : SvAt w base (s.viewT T (top s.lv))) (hk : k ≤ s.n) (hz : cs.size = 68)
    (hc : cs[0]? = some (.string m) ∧ cs[1]? = some (.int .i64 sc) ∧ cs[66]? = some (.int .i64 (l : Int)) ∧ cs[67]? = some (.pointer none)) (hge : base ≤ w.heap.size) :
    SvAt (((w.setCell ⟨s.blk, 69, none⟩ (.int .i64 (T : Int))).alloc o).alloc (.cells cs 132)) base (midV s k ⟨w.heap.size + 1, m, sc, l⟩ T 0) ∧ Chg s.foot w (((w.setCell ⟨s.blk, 69, none⟩ (.int .i64 (T : Int))).alloc o).alloc (.cells cs 132)) := by
  obtain ⟨h1, c1⟩ := h.setHd 69 (.int .i64 (T : Int)) (s.viewT T T) rfl rfl rfl rfl rfl rfl (.inr (.inl ⟨rfl, rfl, rfl, rfl⟩))
  have c2 : Chg (fun _ => False) (w.setCell ⟨s.blk, 69, none⟩ (.int .i64 (T : Int))) (((w.setCell ⟨s.blk, 69, none⟩ (.int .i64 (T : Int))).alloc o).alloc (.cells cs 132)) := ((Chg.refl _ _).alloc _).alloc _
  have hb := Blk.new ((w.setCell ⟨s.blk, 69, none⟩ (.int .i64 (T : Int))).alloc o) 132 cs
  rw [World.size_alloc, World.size_setCell] at hb
  refine ⟨mid_start (h1.chg0 c2) hk hb hz hc (fun p hp e => ?_) (by show base ≤ w.heap.size + 1; omega), Chg.trans' c1 c2 fun _ _ e => e.elim⟩
  have := (h.lt ⟨p, hp, rfl⟩).2
  have e : w.heap.size + 1 = s.at_ p := e
  have e2 : (s.viewT T (top s.lv)).at_ p = s.at_ p := rfl
  omega
end
end Go.Proofs.YtifcpippfiglkaaGreat

/- A node taken out: what is in memory, step by step. -/
namespace Go.Proofs.YtifcpippfiglkaaGreat
open Go.RowKit Pal Pal.Skip

/-- Levels below i are done. -/
def outV (s : Sk) (k : Nat) (x : Sn) (T i : Nat) : Sv where
  blk := s.blk
  ns := (s.put k x).ns
  ok p j := (p = 0 ∧ j < T) ∨ ab (ins s.lv k x.lvl) j p
  to p j := if j < i ∧ p ≠ k + 1 then s.go (nxt s.lv j (down k p)) else (s.put k x).go (nxt (ins s.lv k x.lvl) j p)
  sp p j := if j < i ∧ p ≠ k + 1 then (span s.lv j (down k p) : Int) else (span (ins s.lv k x.lvl) j p : Int)
  bk p := (s.put k x).nd (p - 1)
  last := (s.put k x).nd (s.n + 1)
  top := T
  n := (s.n : Int) + 1
section
variable {s : Sk} {k : Nat} {x : Sn} {w : World} {base T i : Nat}
theorem out_len (hk : k ≤ s.n) : (outV s k x T i).ns.length = s.n + 1 := Sk.put_n hk
theorem out_start (h : SvAt w base (s.put k x).view) (hk : k ≤ s.n) : SvAt w base (outV s k x (max (top s.lv) x.lvl) 0) := by
  refine h.view (u := outV s k x (max (top s.lv) x.lvl) 0) rfl rfl (fun p j hp hj ho => ?_) (fun p _ _ => rfl) ?_ ?_ ?_
  · have hl : (s.put k x).lv = ins s.lv k x.lvl := Sk.put_lv
    refine ⟨?_, ?_, ?_⟩
    · show (p = 0 ∧ j < top (s.put k x).lv) ∨ ab (s.put k x).lv j p
      rw [hl, top_ins]; exact ho
    · show (s.put k x).go (nxt (s.put k x).lv j p) = if j < 0 ∧ p ≠ k + 1 then s.go (nxt s.lv j (down k p)) else (s.put k x).go (nxt (ins s.lv k x.lvl) j p)
      rw [if_neg (by omega), hl]
    · show (span (s.put k x).lv j p : Int) = if j < 0 ∧ p ≠ k + 1 then (span s.lv j (down k p) : Int) else (span (ins s.lv k x.lvl) j p : Int)
      rw [if_neg (by omega), hl]
  · show (s.put k x).nd (s.put k x).n = _
    rw [Sk.put_n hk]; rfl
  · show top (s.put k x).lv = _
    rw [Sk.put_lv, top_ins]; rfl
  · show ((s.put k x).n : Int) = (s.n : Int) + 1
    rw [Sk.put_n hk]; omega
theorem far_of {lv : List Nat} {i k : Nat} : ∀ q, nxt lv i (prev lv i k) = some q → k < q := fun q hq => by
  rcases Nat.lt_or_ge k q with h' | h'
  · exact h'
  · exact absurd (nxt_some.1 hq).2.1 ((prev_spec lv i k).2.2 q (nxt_some.1 hq).1 h')
/-- The path of the list with the node is that of the list without. -/
theorem prev_put (hk : k ≤ s.n) : prev (ins s.lv k x.lvl) i k = prev s.lv i k := by
  have hkl : k ≤ s.lv.length := by rw [s.lv_len]; exact hk
  obtain ⟨g1, g2, g3⟩ := prev_spec s.lv i k
  refine prev_eq g1 ?_ fun r h1 h2 h3 => ?_
  · rcases g2 with g2 | g2
    · exact .inl g2
    · exact .inr (by rw [ins_ab hkl, if_pos g1]; exact g2)
  · rw [ins_ab hkl, if_pos h2] at h3; exact g3 r h1 h2 h3
theorem out_prev (hk : k ≤ s.n) (hT : i < T) : prev s.lv i k ≤ s.n + 1 ∧ (s.put k x).at_ (prev s.lv i k) = s.at_ (prev s.lv i k) ∧ (∀ j, (outV s k x T j).ok (prev s.lv i k) i) ∧ down k (prev s.lv i k) = prev s.lv i k ∧ prev s.lv i k ≠ k + 1 := by
  obtain ⟨m1, m2, _, m4, m5⟩ := mid_prev (x := x) hk (i := i) (T := T)
  have hkl : k ≤ s.lv.length := by rw [s.lv_len]; exact hk
  obtain ⟨g1, g2, _⟩ := prev_spec s.lv i k
  refine ⟨m1, m2, fun j => ?_, m4, m5⟩
  rcases g2 with g2 | g2
  · exact .inl ⟨g2, hT⟩
  · exact .inr (by rw [ins_ab hkl, if_pos g1]; exact g2)
theorem out_own (hk : k ≤ s.n) (hi : i < x.lvl) (j : Nat) : (outV s k x T j).ok (k + 1) i ∧ (outV s k x T j).to (k + 1) i = s.go (nxt s.lv i (prev s.lv i k)) ∧ (outV s k x T j).sp (k + 1) i = (span (ins s.lv k x.lvl) i (k + 1) : Int) := by
  have hkl : k ≤ s.lv.length := by rw [s.lv_len]; exact hk
  refine ⟨.inr (by rw [ins_ab hkl, if_neg (by omega), if_pos rfl]; exact hi), ?_, ?_⟩
  · show (if i < j ∧ k + 1 ≠ k + 1 then s.go (nxt s.lv i (down k (k + 1))) else (s.put k x).go (nxt (ins s.lv k x.lvl) i (k + 1))) = _
    rw [if_neg (fun h => h.2 rfl), ins_nxt_behind hkl (Nat.le_refl _), Sk.put_go_up hk (fun q hq => (nxt_some.1 hq).1), nxt_prev]
  · show (if i < j ∧ k + 1 ≠ k + 1 then (span s.lv i (down k (k + 1)) : Int) else (span (ins s.lv k x.lvl) i (k + 1) : Int)) = _
    rw [if_neg (fun h => h.2 rfl)]
theorem out_sum (hk : k ≤ s.n) (hi : i < x.lvl) : (span (ins s.lv k x.lvl) i (prev s.lv i k) : Int) + (span (ins s.lv k x.lvl) i (k + 1) : Int) - 1 = (span s.lv i (prev s.lv i k) : Int) := by
  have hkl : k ≤ s.lv.length := by rw [s.lv_len]; exact hk
  have := (prev_spec s.lv i k).1
  rw [span_own hkl, span_new hkl this far_of hi]
  omega
theorem out_over (hk : k ≤ s.n) (hi : x.lvl ≤ i) : (span (ins s.lv k x.lvl) i (prev s.lv i k) : Int) - 1 = (span s.lv i (prev s.lv i k) : Int) := by
  have hkl : k ≤ s.lv.length := by rw [s.lv_len]; exact hk
  rw [span_over hkl (prev_spec s.lv i k).1 far_of hi]
  omega
/-- A level that the node has. -/
theorem out_low {v : Value} {b1 b2 : Int} (h : SvAt w base (outV s k x T i)) (hk : k ≤ s.n) (hT : i < T) (h32 : i < 32) (hv : v = s.go (nxt s.lv i (prev s.lv i k))) (hb : b2 = (span s.lv i (prev s.lv i k) : Int)) :
    SvAt (((w.setCell ⟨s.at_ (prev s.lv i k), 2 + i * 2, none⟩ v).setCell ⟨s.at_ (prev s.lv i k), 2 + i * 2 + 1, none⟩ (.int .i64 b1)).setCell ⟨s.at_ (prev s.lv i k), 2 + i * 2 + 1, none⟩ (.int .i64 b2)) base (outV s k x T (i + 1)) ∧
    Chg (outV s k x T i).foot w (((w.setCell ⟨s.at_ (prev s.lv i k), 2 + i * 2, none⟩ v).setCell ⟨s.at_ (prev s.lv i k), 2 + i * 2 + 1, none⟩ (.int .i64 b1)).setCell ⟨s.at_ (prev s.lv i k), 2 + i * 2 + 1, none⟩ (.int .i64 b2)) := by
  obtain ⟨m1, m2, m3, m4, m5⟩ := out_prev (x := x) hk hT
  have hkl : k ≤ s.lv.length := by rw [s.lv_len]; exact hk
  obtain ⟨h1, c1⟩ := h.setLink (p := prev s.lv i k) (by rw [out_len hk]; exact m1) h32 v b1
  obtain ⟨h2, c2⟩ := h1.setSp (p := prev s.lv i k) (show _ ≤ (outV s k x T i).ns.length by rw [out_len hk]; exact m1) h32 b2
  have eb : (outV s k x T i).at_ (prev s.lv i k) = s.at_ (prev s.lv i k) := m2
  have h2' := h2
  have c2' := c2
  change SvAt (World.setCell _ ⟨(outV s k x T i).at_ (prev s.lv i k), _, _⟩ _) base _ at h2'
  change Chg _ _ (World.setCell _ ⟨(outV s k x T i).at_ (prev s.lv i k), _, _⟩ _) at c2'
  rw [eb] at h2' c2' c1
  refine ⟨h2'.view rfl rfl (fun p j hp hj ho => ?_) (fun _ _ _ => rfl) rfl rfl rfl, c1.trans c2'⟩
  have ho' : (outV s k x T i).ok p j := ho
  refine ⟨.inr ho', ?_, ?_⟩
  · show up2 _ _ _ _ _ _ = if j < i + 1 ∧ p ≠ k + 1 then _ else _
    by_cases hji : j = i
    · subst hji
      by_cases hp0 : p = prev s.lv j k
      · subst hp0
        rw [up2_same, if_pos ⟨Nat.lt_succ_self _, m5⟩, m4]; exact hv
      · rw [up2_other _ _ (fun e => hp0 e.1)]
        show (if j < j ∧ p ≠ k + 1 then _ else _) = _
        rw [if_neg (by omega)]
        by_cases hp1 : p = k + 1
        · rw [if_neg (fun e => e.2 hp1)]
        · rw [if_pos ⟨Nat.lt_succ_self _, hp1⟩]
          exact (ins_same (x := x) hk (ho'.imp (·.1) id) hp1 hp0).1
    · rw [up2_other _ _ (fun e => hji e.2)]
      show (if j < i ∧ p ≠ k + 1 then _ else _) = _
      by_cases h' : j < i ∧ p ≠ k + 1
      · rw [if_pos h', if_pos ⟨by omega, h'.2⟩]
      · rw [if_neg h', if_neg (fun e => h' ⟨by omega, e.2⟩)]
  · show up2 _ _ _ _ _ _ = if j < i + 1 ∧ p ≠ k + 1 then _ else _
    by_cases hji : j = i
    · subst hji
      by_cases hp0 : p = prev s.lv j k
      · subst hp0
        rw [up2_same, if_pos ⟨Nat.lt_succ_self _, m5⟩, m4]; exact hb
      · rw [up2_other _ _ (fun e => hp0 e.1)]
        show up2 _ _ _ _ _ _ = _
        rw [up2_other _ _ (fun e => hp0 e.1)]
        show (if j < j ∧ p ≠ k + 1 then _ else _) = _
        rw [if_neg (by omega)]
        by_cases hp1 : p = k + 1
        · rw [if_neg (fun e => e.2 hp1)]
        · rw [if_pos ⟨Nat.lt_succ_self _, hp1⟩]
          rw [(ins_same (x := x) hk (ho'.imp (·.1) id) hp1 hp0).2]
    · rw [up2_other _ _ (fun e => hji e.2)]
      show up2 _ _ _ _ _ _ = _
      rw [up2_other _ _ (fun e => hji e.2)]
      show (if j < i ∧ p ≠ k + 1 then _ else _) = _
      by_cases h' : j < i ∧ p ≠ k + 1
      · rw [if_pos h', if_pos ⟨by omega, h'.2⟩]
      · rw [if_neg h', if_neg (fun e => h' ⟨by omega, e.2⟩)]
/-- A level above the node's. -/
theorem out_high {b2 : Int} (h : SvAt w base (outV s k x T i)) (hk : k ≤ s.n) (hi : x.lvl ≤ i) (hT : i < T) (h32 : i < 32) (hb : b2 = (span s.lv i (prev s.lv i k) : Int)) :
    SvAt (w.setCell ⟨s.at_ (prev s.lv i k), 2 + i * 2 + 1, none⟩ (.int .i64 b2)) base (outV s k x T (i + 1)) ∧
    Chg (outV s k x T i).foot w (w.setCell ⟨s.at_ (prev s.lv i k), 2 + i * 2 + 1, none⟩ (.int .i64 b2)) := by
  obtain ⟨m1, m2, m3, m4, m5⟩ := out_prev (x := x) hk hT
  have hkl : k ≤ s.lv.length := by rw [s.lv_len]; exact hk
  obtain ⟨h1, c1⟩ := h.setSp (p := prev s.lv i k) (by rw [out_len hk]; exact m1) h32 b2
  have eb : (outV s k x T i).at_ (prev s.lv i k) = s.at_ (prev s.lv i k) := m2
  rw [eb] at h1 c1
  refine ⟨h1.view rfl rfl (fun p j hp hj ho => ?_) (fun _ _ _ => rfl) rfl rfl rfl, c1⟩
  have ho' : (outV s k x T i).ok p j := ho
  refine ⟨ho', ?_, ?_⟩
  · show (if j < i ∧ p ≠ k + 1 then _ else _) = if j < i + 1 ∧ p ≠ k + 1 then _ else _
    by_cases h' : j < i ∧ p ≠ k + 1
    · rw [if_pos h', if_pos ⟨by omega, h'.2⟩]
    · rw [if_neg h']
      by_cases hji : j = i ∧ p ≠ k + 1
      · obtain ⟨rfl, hp1⟩ := hji
        rw [if_pos ⟨Nat.lt_succ_self _, hp1⟩]
        by_cases hp0 : p = prev s.lv j k
        · subst hp0
          rw [m4, ins_nxt_over hkl (prev_spec s.lv j k).1 far_of hi, Sk.put_go_up hk far_of]
        · exact (ins_same (x := x) hk (ho'.imp (·.1) id) hp1 hp0).1
      · rw [if_neg (fun e => by by_cases hj2 : j = i; exact hji ⟨hj2, e.2⟩; exact h' ⟨by omega, e.2⟩)]
  · show up2 _ _ _ _ _ _ = if j < i + 1 ∧ p ≠ k + 1 then _ else _
    by_cases hji : j = i
    · subst hji
      by_cases hp0 : p = prev s.lv j k
      · subst hp0
        rw [up2_same, if_pos ⟨Nat.lt_succ_self _, m5⟩, m4]; exact hb
      · rw [up2_other _ _ (fun e => hp0 e.1)]
        show (if j < j ∧ p ≠ k + 1 then _ else _) = _
        rw [if_neg (by omega)]
        by_cases hp1 : p = k + 1
        · rw [if_neg (fun e => e.2 hp1)]
        · rw [if_pos ⟨Nat.lt_succ_self _, hp1⟩]
          rw [(ins_same (x := x) hk (ho'.imp (·.1) id) hp1 hp0).2]
    · rw [up2_other _ _ (fun e => hji e.2)]
      show (if j < i ∧ p ≠ k + 1 then _ else _) = _
      by_cases h' : j < i ∧ p ≠ k + 1
      · rw [if_pos h', if_pos ⟨by omega, h'.2⟩]
      · rw [if_neg h', if_neg (fun e => h' ⟨by omega, e.2⟩)]

/-! ### the end -/
def outB (s : Sk) (k : Nat) (x : Sn) : Nat → Value := fun p => if p = k + 2 then s.nd k else (s.put k x).nd (p - 1)
theorem put_nd_low (hk : k ≤ s.n) {p : Nat} (hp : p ≤ k) : (s.put k x).nd p = s.nd p := by
  unfold Sk.nd; rw [Sk.put_at hk, if_pos hp]
theorem out_cut (h : SvAt w base { outV s k x T T with bk := outB s k x, last := s.nd s.n }) (hk : k ≤ s.n) (hT : top s.lv ≤ T) : SvAt w base { s.viewT T T with n := (s.n : Int) + 1 } := by
  have hkl : k ≤ s.lv.length := by rw [s.lv_len]; exact hk
  have hln : (s.put k x).ns.length = s.n + 1 := Sk.put_n hk
  have hat : ∀ p, p ≤ s.n → (s.put k x).at_ (if p ≤ k then p else p + 1) = s.at_ p := fun p hp => by
    by_cases h1 : p ≤ k
    · rw [if_pos h1, Sk.put_at hk, if_pos h1]
    · rw [if_neg h1, Sk.put_at hk, if_neg (by omega), if_neg (by omega), Nat.add_sub_cancel]
  refine ⟨fun p hp => ?_, fun p q hp hq e => ?_, fun p hp => ?_⟩
  · have hp : p ≤ s.n := hp
    obtain ⟨cs, hb, hn⟩ := h.nd (if p ≤ k then p else p + 1) (by show _ ≤ (s.put k x).ns.length; rw [hln]; split <;> omega)
    have ea : ({ outV s k x T T with bk := outB s k x, last := s.nd s.n } : Sv).at_ (if p ≤ k then p else p + 1) = s.at_ p := hat p hp
    rw [ea] at hb
    have ty : tyP (if p ≤ k then p else p + 1) = tyP p := by
      unfold tyP; split
      · rfl
      · rw [if_neg (by omega), if_neg (by omega)]
    have sz : szP (if p ≤ k then p else p + 1) = szP p := by
      unfold szP; split
      · rfl
      · rw [if_neg (by omega), if_neg (by omega)]
    rw [ty] at hb
    refine ⟨cs, hb, by rw [hn.size, sz], fun i hi ho => ?_, fun y h1p hy => ?_, fun e => ?_⟩
    · have ho : (p = 0 ∧ i < T) ∨ ab s.lv i p := ho
      have hiT : i < T := by
        rcases ho with ho | ho
        · exact ho.2
        · obtain ⟨l, hl, hil⟩ := ab_mem.1 ⟨p, ho⟩
          have := top_le l hl
          omega
      have := hn.link i hi (by
        rcases ho with ho | ho
        · rw [if_pos (by omega)]; exact .inl ho
        · refine .inr ?_
          rw [ins_ab hkl]
          by_cases h1 : p ≤ k
          · rw [if_pos h1, if_pos h1]; exact ho
          · rw [if_neg h1, if_neg (by omega), if_neg (by omega), Nat.add_sub_cancel]; exact ho)
      have hd : down k (if p ≤ k then p else p + 1) = p := by
        unfold down
        by_cases h1 : p ≤ k
        · rw [if_pos h1, if_pos h1]
        · rw [if_neg h1, if_neg (by omega), Nat.add_sub_cancel]
      have hne : (if p ≤ k then p else p + 1) ≠ k + 1 := by split <;> omega
      obtain ⟨a, b⟩ := this
      have e1 : ({ outV s k x T T with bk := outB s k x, last := s.nd s.n } : Sv).to (if p ≤ k then p else p + 1) i = s.go (nxt s.lv i p) := by
        show (if i < T ∧ _ then _ else _) = _
        rw [if_pos ⟨hiT, hne⟩, hd]
      have e2 : ({ outV s k x T T with bk := outB s k x, last := s.nd s.n } : Sv).sp (if p ≤ k then p else p + 1) i = (span s.lv i p : Int) := by
        show (if i < T ∧ _ then _ else _) = _
        rw [if_pos ⟨hiT, hne⟩, hd]
      rw [e1] at a
      rw [e2] at b
      exact ⟨a, b⟩
    · have hy : s.ns[p - 1]? = some y := hy
      obtain ⟨a, b, c, d⟩ := hn.ent y (by split <;> omega) (by
        show (s.put k x).ns[_]? = _
        rw [Sk.put_get hk]
        by_cases h1 : p ≤ k
        · rw [if_pos h1, if_pos (by omega)]; exact hy
        · rw [if_neg h1, if_neg (by omega), if_neg (by omega), show p + 1 - 1 - 1 = p - 1 by omega]; exact hy)
      refine ⟨a, b, c, ?_⟩
      rw [d]
      show some (outB s k x (if p ≤ k then p else p + 1)) = some (s.nd (p - 1))
      unfold outB
      by_cases h1 : p ≤ k
      · rw [if_pos h1, if_neg (by omega), put_nd_low hk (by omega)]
      · rw [if_neg h1]
        by_cases h2 : p = k + 1
        · rw [if_pos (by omega), h2, Nat.add_sub_cancel]
        · rw [if_neg (by omega)]
          unfold Sk.nd
          rw [if_neg (by omega), if_neg (by omega), Sk.put_at hk, if_neg (by omega), if_neg (by omega)]
          simp
    · subst e
      exact hn.hd rfl
  · have hp : p ≤ s.n := hp
    have hq : q ≤ s.n := hq
    have e : s.at_ p = s.at_ q := e
    rw [← hat p hp, ← hat q hq] at e
    have := h.inj _ _ (by show _ ≤ (s.put k x).ns.length; rw [hln]; split <;> omega) (by show _ ≤ (s.put k x).ns.length; rw [hln]; split <;> omega) e
    split at this <;> split at this <;> omega
  · have hp : p ≤ s.n := hp
    show base ≤ s.at_ p
    rw [← hat p hp]
    exact h.ge _ (by show _ ≤ (s.put k x).ns.length; rw [hln]; split <;> omega)
/-- The node behind, or the head, no longer tells of it. -/
theorem out_back (h : SvAt w base (outV s k x T T)) (hk : k ≤ s.n) (hT : top s.lv ≤ T) : ∀ w', w' = (if k < s.n then w.setCell ⟨s.at_ (k + 1), 67, none⟩ (s.nd k) else w.setCell ⟨s.blk, 68, none⟩ (s.nd k)) →
    SvAt w' base { s.viewT T T with n := (s.n : Int) + 1 } ∧ Chg (outV s k x T T).foot w w' := by
  intro w' hw'
  by_cases hkn : k < s.n
  · rw [if_pos hkn] at hw'
    obtain ⟨h1, c1⟩ := h.setBk (p := k + 2) (by omega) (by rw [out_len hk]; omega) (s.nd k)
    have ea : (outV s k x T T).at_ (k + 2) = s.at_ (k + 1) := by show (s.put k x).at_ _ = _; rw [Sk.put_at hk, if_neg (by omega), if_neg (by omega)]; rfl
    rw [ea, ← hw'] at h1 c1
    refine ⟨out_cut (h1.view rfl rfl (fun _ _ _ _ ho => ⟨ho, rfl, rfl⟩) (fun p _ _ => rfl) ?_ rfl rfl) hk hT, c1⟩
    show (s.put k x).nd (s.n + 1) = s.nd s.n
    unfold Sk.nd
    rw [if_neg (by omega), if_neg (by omega), Sk.put_at hk, if_neg (by omega), if_neg (by omega), Nat.add_sub_cancel]
  · rw [if_neg hkn] at hw'
    have hkn : k = s.n := by omega
    obtain ⟨h1, c1⟩ := h.setHd 68 (s.nd k) { outV s k x T T with last := s.nd k } rfl rfl rfl rfl rfl rfl (.inl ⟨rfl, rfl, rfl, rfl⟩)
    have eb : (outV s k x T T).blk = s.blk := rfl
    rw [eb, ← hw'] at h1 c1
    refine ⟨out_cut (h1.view rfl rfl (fun _ _ _ _ ho => ⟨ho, rfl, rfl⟩) (fun p h1p hp => ?_) (by show s.nd k = s.nd s.n; rw [hkn]) rfl rfl) hk hT, c1⟩
    have hp : p ≤ s.n + 1 := by rw [← out_len (x := x) hk (T := T) (i := T)]; exact hp
    show (s.put k x).nd (p - 1) = outB s k x p
    unfold outB
    rw [if_neg (by omega)]
/-- The greatest level goes down. -/
theorem out_down {m : Int} (h : SvAt w base { s.viewT (T + 1) (T + 1) with n := m }) (hT : top s.lv ≤ T) :
    SvAt (w.setCell ⟨s.blk, 69, none⟩ (.int .i64 (T : Int))) base { s.viewT T T with n := m } ∧ Chg s.foot w (w.setCell ⟨s.blk, 69, none⟩ (.int .i64 (T : Int))) := by
  obtain ⟨h1, c1⟩ := h.setHd 69 (.int .i64 (T : Int)) { s.viewT (T + 1) T with n := m } rfl rfl rfl rfl rfl rfl (.inr (.inl ⟨rfl, rfl, rfl, rfl⟩))
  refine ⟨h1.view rfl rfl (fun p j hp hj ho => ⟨?_, rfl, rfl⟩) (fun _ _ _ => rfl) rfl rfl rfl, c1⟩
  rcases ho with ho | ho
  · exact .inl ⟨ho.1, by have := ho.2; omega⟩
  · exact .inr ho
theorem out_done {m : Int} (h : SvAt w base { s.viewT (top s.lv) (top s.lv) with n := m }) (hlo : ∀ y ∈ s.ns, 1 ≤ y.lvl ∧ y.lvl ≤ 32) :
    SkAt (w.setCell ⟨s.blk, 70, none⟩ (.int .i64 (s.n : Int))) base s ∧ Chg s.foot w (w.setCell ⟨s.blk, 70, none⟩ (.int .i64 (s.n : Int))) := by
  obtain ⟨h1, c1⟩ := h.setHd 70 (.int .i64 (s.n : Int)) s.view rfl rfl rfl rfl rfl rfl (.inr (.inr ⟨rfl, rfl, rfl, rfl⟩))
  exact ⟨⟨h1, hlo⟩, c1⟩
end
end Go.Proofs.YtifcpippfiglkaaGreat

/- The walk of skip.List.takes. -/
namespace Go.Proofs.YtifcpippfiglkaaGreat
open Go.RowKit Pal Pal.Skip
attribute [local go_sem] Oper.semAt_some

theorem go_ptr (s : Sk) (o : Option Nat) : ∃ p, s.go o = .pointer p := by
  cases o with
  | none => exact ⟨_, rfl⟩
  | some q => exact ⟨_, rfl⟩
theorem nd_ptr (s : Sk) (p : Nat) : ∃ q, s.nd p = .pointer q := by
  unfold Sk.nd
  split
  · exact ⟨_, rfl⟩
  · exact ⟨_, rfl⟩
theorem nxt0_of {s : Sk} (hlo : ∀ y ∈ s.ns, 1 ≤ y.lvl ∧ y.lvl ≤ 32) (k : Nat) : nxt s.lv 0 k = if k < s.n then some (k + 1) else none := by
  have hp : ∀ p, 1 ≤ p → p ≤ s.n → ab s.lv 0 p := fun p h1 h2 => by
    refine ⟨h1, by rw [s.lv_len]; exact h2, ?_⟩
    unfold Sk.lv
    rw [List.getD_eq_getElem?_getD, List.getElem?_map, List.getElem?_eq_getElem (by unfold Sk.n at h2; omega)]
    exact (hlo _ (List.getElem_mem _)).1
  split
  · rename_i hk
    exact nxt_some.2 ⟨Nat.lt_succ_self _, hp _ (by omega) hk, fun r h1 h2 => by omega⟩
  · rename_i hk
    exact nxt_none.2 fun r h1 h2 => by have := h2.2.1; rw [s.lv_len] at this; omega
theorem out_foot {s : Sk} {k : Nat} {x : Sn} {T i : Nat} : (outV s k x T i).foot = (s.put k x).foot := rfl
theorem put_foot {s : Sk} {k : Nat} {x : Sn} {g : Nat} (hk : k ≤ s.n) (h : s.foot g) : (s.put k x).foot g := by
  obtain ⟨p, hp, rfl⟩ := h
  have hp : p ≤ s.n := hp
  refine ⟨if p ≤ k then p else p + 1, by show _ ≤ (s.put k x).n; rw [Sk.put_n hk]; split <;> omega, ?_⟩
  show s.at_ p = (s.put k x).at_ _
  rw [Sk.put_at hk]
  by_cases h1 : p ≤ k
  · rw [if_pos h1, if_pos h1]
  · rw [if_neg h1, if_neg (by omega), if_neg (by omega), Nat.add_sub_cancel]

def TakesPost (s s' : Sk) (w : World) (base : Nat) (r : Ending) (w' : World) : Prop := (∃ v, r = .returned v) ∧ SkAt w' base s ∧ Chg s'.foot w w'
set_option maxRecDepth 100000 in
set_option maxHeartbeats 4000000 in
theorem takes_any (s : Sk) (k : Nat) (x : Sn) (w : World) (base : Nat) (h : SkAt w base (s.put k x)) (hk : k ≤ s.n) (hn : s.n ≤ 10000) :
    Calls Tryz.prog 188 #[pt s.blk, pt x.blk, .agg ((s.put k x).nodesL k 0).toArray] w (TakesPost s (s.put k x) w base) := by
  have hmem : ∀ y, y ∈ (s.put k x).ns ↔ y ∈ s.ns ∨ y = x := fun y => by
    show y ∈ s.ns.take k ++ x :: s.ns.drop k ↔ _
    rw [List.mem_append, List.mem_cons]
    conv => rhs; rw [← List.take_append_drop k s.ns]
    rw [List.mem_append]
    constructor
    · rintro (h | h | h)
      · exact .inl (.inl h)
      · exact .inr h
      · exact .inl (.inr h)
    · rintro ((h | h) | h)
      · exact .inl h
      · exact .inr (.inr h)
      · exact .inr (.inl h)
  have hlo : ∀ y ∈ s.ns, 1 ≤ y.lvl ∧ y.lvl ≤ 32 := fun y hy => h.lo y ((hmem y).2 (.inl hy))
  obtain ⟨hx1, hx2⟩ := h.lo x ((hmem x).2 (.inr rfl))
  clear hmem
  obtain ⟨_, ht, _, hlt, hfr⟩ := h.head
  have hTop := h.top_le
  have htop : top (s.put k x).lv = max (top s.lv) x.lvl := by rw [Sk.put_lv, top_ins]
  rw [htop] at ht hTop
  obtain ⟨N, hN⟩ : ∃ N, (s.put k x).nodesL k 0 = N := ⟨_, rfl⟩
  have hget : ∀ j, j < max (top s.lv) x.lvl → N[j]? = some (pt (s.at_ (prev s.lv j k))) := fun j hj => by
    rw [← hN, (s.put k x).nodesL_get k (by rw [htop]; exact hj) (by omega), Sk.put_lv, prev_put hk, Sk.put_at hk, if_pos (prev_spec _ _ _).1]
  have hNl : N.length = 32 := by rw [← hN]; unfold Sk.nodesL; simp
  rw [hN]
  have hV := out_start h.v hk
  have hbx : (s.put k x).blk = s.blk := rfl
  rw [hbx] at ht hlt hfr
  clear htop hN
  obtain ⟨T, hT⟩ : ∃ T, max (top s.lv) x.lvl = T := ⟨_, rfl⟩
  rw [hT] at hV ht hget hTop
  have hfl : ∀ g, (s.put k x).foot g → g < w.heap.size := fun g hg => (h.lt hg).2
  have hTx : x.lvl ≤ T := by omega
  have hTt : top s.lv ≤ T := by omega
  replace hT := Lib.hid hT
  unfold pt
  go_enter Tryz.func188, Tryz.ntmps188
  go_wp2_with fail
  have hP := Blk.new w 163 N.toArray
  have hV1 := hV.chg0 ((Chg.refl _ w).alloc (.cells N.toArray 163))
  have hC1 := (Chg.refl (s.put k x).foot w).alloc (.cells N.toArray 163)
  have hBl : ∀ g, (s.put k x).foot g → g ≠ w.heap.size := fun g hg => by have := hfl g hg; omega
  clear ht hlt hfr hV
  generalize w.alloc (.cells N.toArray 163) = W1 at hP hV1 hC1 ⊢
  have hx : s.put k x = { s with ns := (s.put k x).ns } := rfl
  have hgx : (s.put k x).ns[k]? = some x := by rw [Sk.put_get hk, if_neg (by omega), if_pos rfl]
  generalize w.heap.size = B at hP hBl ⊢
  go_loopg [13] T (fun j v W => ∃ i : Nat, v = .int .i64 (i : Int) ∧ j = T - i ∧ i ≤ T ∧ SvAt W base (outV s k x T i) ∧ Chg (s.put k x).foot w W ∧ Blk W B 163 N.toArray)
  case atStart => exact ⟨0, rfl, rfl, Nat.zero_le _, hV1, hC1, hP⟩
  case round =>
    clear hV1 hC1 hP hx
    obtain ⟨i, rfl, rfl, hi, hM, hC, hN⟩ := hrel
    obtain ⟨x0, x1, x66, x67, lx, ex⟩ := hM.ent (p := k) hgx
    change wr.cell? ⟨x.blk, 67, none⟩ = some ((s.put k x).nd k) at x67
    rw [put_nd_low hk (Nat.le_refl _)] at x67
    have fx := hM.fr (p := k + 1) (by rw [out_len hk]; omega)
    rw [ex] at fx
    by_cases hiT : i < T
    · have hi32 : i < 32 := by omega
      have hiT' : (i : Int) < (T : Int) := by omega
      have hi32' : (i : Int) < 32 := by omega
      obtain ⟨q1, q2, q3, q4, q5⟩ := out_prev (x := x) hk hiT
      have q3 := q3 i
      have cn := (hN.cell i).trans (by rw [List.getElem?_toArray, hget i hiT])
      have cs := hM.sp_ (by rw [out_len hk]; exact q1) hi32 q3
      obtain ⟨ut, ct⟩ := hM.has (p := prev s.lv i k) (by rw [out_len hk]; exact q1) (i := 2 + i * 2) (by have := szP_le (prev s.lv i k); omega)
      have fA := hM.fr (p := prev s.lv i k) (by rw [out_len hk]; exact q1)
      have lA := (hM.lt ⟨prev s.lv i k, by rw [out_len hk]; exact q1, rfl⟩).2
      have eA : (outV s k x T i).at_ (prev s.lv i k) = s.at_ (prev s.lv i k) := q2
      have hAB : s.at_ (prev s.lv i k) ≠ B := by
        rw [← eA]; exact hBl _ ⟨prev s.lv i k, by show _ ≤ (s.put k x).n; rw [Sk.put_n hk]; exact q1, rfl⟩
      have hxA : x.blk ≠ s.at_ (prev s.lv i k) := fun e => by
        rw [← eA, ← ex] at e
        exact q5 (hM.inj _ _ (by rw [out_len hk]; omega) (by rw [out_len hk]; exact q1) e).symm
      have es : (outV s k x T i).sp (prev s.lv i k) i = (span (ins s.lv k x.lvl) i (prev s.lv i k) : Int) := by show (if i < i ∧ _ then (span s.lv i (down k (prev s.lv i k)) : Int) else _) = _; rw [if_neg (by omega)]
      rw [eA] at ct cs fA lA
      rw [es] at cs
      have hsp := span_le (lv := ins s.lv k x.lvl) (i := i) (p := prev s.lv i k)
      have hsx := span_le (lv := ins s.lv k x.lvl) (i := i) (p := k + 1)
      rw [ins_len (by rw [s.lv_len]; exact hk), s.lv_len] at hsp hsx
      have hAx : s.at_ (prev s.lv i k) ≠ x.blk := Ne.symm hxA
      unfold pt at cn
      clear q1 q2 q3 q4 q5 eA es
      by_cases hil : i < x.lvl
      · have hil' : (i : Int) < (x.lvl : Int) := by omega
        obtain ⟨o1, o2, o3⟩ := out_own (s := s) (x := x) (T := T) hk hil i
        have xt := hM.to_ (by rw [out_len hk]; omega) hi32 o1
        have xs := hM.sp_ (by rw [out_len hk]; omega) hi32 o1
        rw [ex, o2] at xt
        rw [ex, o3] at xs
        have hsum := out_sum hk hil
        have hlow := fun w' (b1 b2 : Int) (h : SvAt w' base (outV s k x T i)) => out_low (b1 := b1) (b2 := b2) h hk hiT hi32 (Eq.refl (s.go (nxt s.lv i (prev s.lv i k))))
        obtain ⟨tp, htp⟩ := go_ptr s (nxt s.lv i (prev s.lv i k))
        simp only [htp] at xt hlow
        clear htp o1 o2 o3 ex
        replace hsum := Lib.hid hsum
        generalize span s.lv i (prev s.lv i k) = so at hlow hsum
        generalize span (ins s.lv k x.lvl) i (prev s.lv i k) = sp at cs hsp hsum
        generalize span (ins s.lv k x.lvl) i (k + 1) = sx at xs hsx hsum
        generalize s.at_ (prev s.lv i k) = A at cn ct cs fA lA hAB hAx hxA hlow
        have s1 : (sp : Int) ≤ 10001 := by omega
        have s2 : (sx : Int) ≤ 10001 := by omega
        go_wp2_with fail
        go_still_tail 22, (by kernel_rfl)
        go_wp2_with fail
        obtain ⟨v1, v2⟩ := hlow _ ((sp : Int) + sx) ((sp : Int) + sx - 1) hM hsum.out
        go_roundg (T - (i + 1))
        case rel => exact ⟨i + 1, int_eq (by omega), rfl, by omega, v1.chg0 ((Chg.refl _ _).drew), (hC.trans v2).drew, (((hN.far (p := ⟨A, 2 + i * 2, none⟩) (Ne.symm hAB) _).far (p := ⟨A, 2 + i * 2 + 1, none⟩) (Ne.symm hAB) _).far (p := ⟨A, 2 + i * 2 + 1, none⟩) (Ne.symm hAB) _).drew⟩
        case measure => omega
      · have hil' : ¬ (i : Int) < (x.lvl : Int) := by omega
        have hov := out_over hk (show x.lvl ≤ i by omega)
        have hhigh := fun w' (b2 : Int) (h : SvAt w' base (outV s k x T i)) => out_high (b2 := b2) h hk (show x.lvl ≤ i by omega) hiT hi32
        replace hov := Lib.hid hov
        generalize span s.lv i (prev s.lv i k) = so at hhigh hov
        generalize span (ins s.lv k x.lvl) i (prev s.lv i k) = sp at cs hsp hov
        generalize s.at_ (prev s.lv i k) = A at cn ct cs fA lA hAB hAx hxA hhigh
        have s1 : (sp : Int) ≤ 10001 := by omega
        go_wp2_with fail
        obtain ⟨v1, v2⟩ := hhigh _ ((sp : Int) - 1) hM hov.out
        go_roundg (T - (i + 1))
        case rel => exact ⟨i + 1, int_eq (by omega), rfl, by omega, v1, hC.trans v2, hN.far (p := ⟨A, 2 + i * 2 + 1, none⟩) (Ne.symm hAB) _⟩
        case measure => omega
    · obtain rfl : i = T := by omega
      clear hiT hi hget hN hNl
      have hkl : k ≤ s.lv.length := by rw [s.lv_len]; exact hk
      obtain ⟨o1, o2, o3⟩ := out_own (s := s) (x := x) (T := i) (i := 0) hk (by omega) i
      have xt := hM.to_ (by rw [out_len hk]; omega) (by omega) o1
      rw [ex, o2, nxt_prev, nxt0_of hlo] at xt
      simp only [Nat.zero_mul, Nat.add_zero] at xt
      obtain ⟨bp, hbp⟩ := nd_ptr s k
      have hback := out_back hM hk hTt
      rw [hbp] at x67
      simp only [hbp] at hback
      clear o1 o2 o3 hbp
      obtain ⟨c0, c1, c2, c3, c4⟩ := hM.head
      change wr.cell? ⟨s.blk, 68, none⟩ = some _ at c0
      change wr.cell? ⟨s.blk, 69, none⟩ = some (.int .i64 (i : Int)) at c1
      change wr.cell? ⟨s.blk, 70, none⟩ = some (.int .i64 ((s.n : Int) + 1)) at c2
      change s.blk < wr.heap.size at c3
      change ∀ i, wr.frozen? ⟨s.blk, i, none⟩ = false at c4
      by_cases hk1 : k < s.n
      · rw [if_pos hk1] at xt
        have f2 := hM.fr (p := k + 2) (by rw [out_len hk]; omega)
        obtain ⟨u2, c2'⟩ := hM.has (p := k + 2) (by rw [out_len hk]; omega) (i := 67) (by have := szP_le (k + 2); omega)
        have l2 := (hM.lt ⟨k + 2, by rw [out_len hk]; omega, rfl⟩).2
        have e2 : (outV s k x i i).at_ (k + 2) = s.at_ (k + 1) := by show (s.put k x).at_ _ = _; rw [Sk.put_at hk, if_neg (by omega), if_neg (by omega)]; rfl
        rw [e2] at c2' f2 l2
        have hb := hback _ rfl
        rw [if_pos hk1] at hb
        simp only [Sk.go, pt] at xt
        go_wp2_with fail
        obtain ⟨hv2, hc2⟩ := hb
        have hC2 := hC.trans hc2
        clear hc2 hC c0 c1 c2 c3 c4 x0 x1 x66 x67 lx fx xt hback hM ex
        generalize wr.setCell ⟨s.at_ (k + 1), 67, none⟩ (.pointer bp) = W2 at hv2 hC2 ⊢
        obtain ⟨wo, rfl⟩ : ∃ wo : World, wo = wr := ⟨_, rfl⟩
        go_loopg [] i (fun j W => ∃ t : Nat, t = j ∧ top s.lv ≤ t ∧ t ≤ 32 ∧ SvAt W base { s.viewT t t with n := (s.n : Int) + 1 } ∧ Chg (s.put k x).foot w W)
        case atStart => exact ⟨i, rfl, hTt, by omega, hv2, hC2⟩
        case round =>
          clear hv2 hC2 W2
          obtain ⟨t, rfl, h1, h2, hM, hC⟩ := hrel
          obtain ⟨c0, c1, c2, c3, c4⟩ := hM.head
          change wr.cell? ⟨s.blk, 69, none⟩ = some (.int .i64 (t : Int)) at c1
          change wr.cell? ⟨s.blk, 70, none⟩ = some (.int .i64 ((s.n : Int) + 1)) at c2
          change s.blk < wr.heap.size at c3
          change ∀ i, wr.frozen? ⟨s.blk, i, none⟩ = false at c4
          have sn : (s.n : Int) ≤ 10000 := by omega
          have sn0 : 0 ≤ (s.n : Int) := by omega
          have fin : t = top s.lv → SkAt (wr.setCell ⟨s.blk, 70, none⟩ (.int .i64 (s.n : Int))) base s ∧ Chg s.foot wr (wr.setCell ⟨s.blk, 70, none⟩ (.int .i64 (s.n : Int))) := fun e => by subst e; exact out_done hM hlo
          by_cases ht0 : t = 0
          · have hf := fin (by omega)
            subst ht0
            change wr.cell? ⟨s.blk, 69, none⟩ = some (.int .i64 0) at c1
            clear fin
            go_wp2_with fail
            go_quiet (fail)
            go_wp2_with fail
            go_end0
            exact ⟨⟨_, rfl⟩, hf.1.chg0 ((Chg.refl _ _).drewN _), (hC.trans' hf.2 (fun g _ hg => put_foot hk hg)).drewN _⟩
          · obtain ⟨m, rfl⟩ : ∃ m, t = m + 1 := ⟨t - 1, by omega⟩
            change wr.cell? ⟨s.blk, 69, none⟩ = some (.int .i64 ((m : Int) + 1)) at c1
            have m32 : (m : Int) < 32 := by omega
            have m0 : 0 ≤ (m : Int) := by omega
            have cl := hM.to_ (p := 0) (i := m) (Nat.zero_le _) (by omega) (.inl ⟨rfl, Nat.lt_succ_self m⟩)
            change wr.cell? ⟨s.blk, 2 + m * 2, none⟩ = some (s.go (nxt s.lv m 0)) at cl
            have g0 : decide ((m : Int) + 1 > 0) = true := decide_eq_true (by omega)
            by_cases htop : top s.lv ≤ m
            · rw [nxt_top.2 htop] at cl
              simp only [Sk.go] at cl
              clear fin
              go_wp2_with fail
              go_quiet (fail)
              go_wp2_with fail
              obtain ⟨v1, v2⟩ := out_down hM htop
              go_roundg m
              case rel => exact ⟨m, rfl, htop, by omega, v1.chg0 ((Chg.refl _ _).drewN _), (hC.trans' v2 (fun g _ hg => put_foot hk hg)).drewN _⟩
              case measure => omega
            · obtain ⟨q, hq⟩ : ∃ q, nxt s.lv m 0 = some q := by
                cases hx : nxt s.lv m 0 with
                | none => exact absurd (nxt_top.1 hx) htop
                | some q => exact ⟨q, rfl⟩
              rw [hq] at cl
              simp only [Sk.go, pt] at cl
              have hf := fin (by omega)
              clear fin hq
              go_wp2_with fail
              go_quiet (fail)
              go_wp2_with fail
              go_end0
              exact ⟨⟨_, rfl⟩, hf.1.chg0 ((Chg.refl _ _).drewN _), (hC.trans' hf.2 (fun g _ hg => put_foot hk hg)).drewN _⟩
      · rw [if_neg hk1] at xt
        have hb := hback _ rfl
        rw [if_neg hk1] at hb
        simp only [Sk.go] at xt
        go_wp2_with fail
        obtain ⟨hv2, hc2⟩ := hb
        have hC2 := hC.trans hc2
        clear hc2 hC c0 c1 c2 c3 c4 x0 x1 x66 x67 lx fx xt hback hM ex
        generalize wr.setCell ⟨s.blk, 68, none⟩ (.pointer bp) = W2 at hv2 hC2 ⊢
        obtain ⟨wo, rfl⟩ : ∃ wo : World, wo = wr := ⟨_, rfl⟩
        go_loopg [] i (fun j W => ∃ t : Nat, t = j ∧ top s.lv ≤ t ∧ t ≤ 32 ∧ SvAt W base { s.viewT t t with n := (s.n : Int) + 1 } ∧ Chg (s.put k x).foot w W)
        case atStart => exact ⟨i, rfl, hTt, by omega, hv2, hC2⟩
        case round =>
          clear hv2 hC2 W2
          obtain ⟨t, rfl, h1, h2, hM, hC⟩ := hrel
          obtain ⟨c0, c1, c2, c3, c4⟩ := hM.head
          change wr.cell? ⟨s.blk, 69, none⟩ = some (.int .i64 (t : Int)) at c1
          change wr.cell? ⟨s.blk, 70, none⟩ = some (.int .i64 ((s.n : Int) + 1)) at c2
          change s.blk < wr.heap.size at c3
          change ∀ i, wr.frozen? ⟨s.blk, i, none⟩ = false at c4
          have sn : (s.n : Int) ≤ 10000 := by omega
          have sn0 : 0 ≤ (s.n : Int) := by omega
          have fin : t = top s.lv → SkAt (wr.setCell ⟨s.blk, 70, none⟩ (.int .i64 (s.n : Int))) base s ∧ Chg s.foot wr (wr.setCell ⟨s.blk, 70, none⟩ (.int .i64 (s.n : Int))) := fun e => by subst e; exact out_done hM hlo
          by_cases ht0 : t = 0
          · have hf := fin (by omega)
            subst ht0
            change wr.cell? ⟨s.blk, 69, none⟩ = some (.int .i64 0) at c1
            clear fin
            go_wp2_with fail
            go_quiet (fail)
            go_wp2_with fail
            go_end0
            exact ⟨⟨_, rfl⟩, hf.1.chg0 ((Chg.refl _ _).drewN _), (hC.trans' hf.2 (fun g _ hg => put_foot hk hg)).drewN _⟩
          · obtain ⟨m, rfl⟩ : ∃ m, t = m + 1 := ⟨t - 1, by omega⟩
            change wr.cell? ⟨s.blk, 69, none⟩ = some (.int .i64 ((m : Int) + 1)) at c1
            have m32 : (m : Int) < 32 := by omega
            have m0 : 0 ≤ (m : Int) := by omega
            have cl := hM.to_ (p := 0) (i := m) (Nat.zero_le _) (by omega) (.inl ⟨rfl, Nat.lt_succ_self m⟩)
            change wr.cell? ⟨s.blk, 2 + m * 2, none⟩ = some (s.go (nxt s.lv m 0)) at cl
            have g0 : decide ((m : Int) + 1 > 0) = true := decide_eq_true (by omega)
            by_cases htop : top s.lv ≤ m
            · rw [nxt_top.2 htop] at cl
              simp only [Sk.go] at cl
              clear fin
              go_wp2_with fail
              go_quiet (fail)
              go_wp2_with fail
              obtain ⟨v1, v2⟩ := out_down hM htop
              go_roundg m
              case rel => exact ⟨m, rfl, htop, by omega, v1.chg0 ((Chg.refl _ _).drewN _), (hC.trans' v2 (fun g _ hg => put_foot hk hg)).drewN _⟩
              case measure => omega
            · obtain ⟨q, hq⟩ : ∃ q, nxt s.lv m 0 = some q := by
                cases hx : nxt s.lv m 0 with
                | none => exact absurd (nxt_top.1 hx) htop
                | some q => exact ⟨q, rfl⟩
              rw [hq] at cl
              simp only [Sk.go, pt] at cl
              have hf := fin (by omega)
              clear fin hq
              go_wp2_with fail
              go_quiet (fail)
              go_wp2_with fail
              go_end0
              exact ⟨⟨_, rfl⟩, hf.1.chg0 ((Chg.refl _ _).drewN _), (hC.trans' hf.2 (fun g _ hg => put_foot hk hg)).drewN _⟩
end Go.Proofs.YtifcpippfiglkaaGreat

/- skip: New, Delete, Cut. -/
namespace Go.Proofs.YtifcpippfiglkaaGreat
open Go.RowKit Pal Pal.Skip
attribute [local go_sem] Oper.semAt_some

def Sk.cut (s : Sk) (k : Nat) : Sk := { s with ns := s.ns.take k ++ s.ns.drop (k + 1) }
theorem Sk.cut_put {s : Sk} {k : Nat} {x : Sn} (hx : s.ns[k]? = some x) : (s.cut k).put k x = s ∧ k ≤ (s.cut k).n ∧ (s.cut k).n + 1 = s.n := by
  have hk := (List.getElem?_eq_some_iff.1 hx).1
  have hl : (s.ns.take k).length = k := by rw [List.length_take]; omega
  refine ⟨?_, ?_, ?_⟩
  · have : (s.ns.take k ++ s.ns.drop (k + 1)).take k ++ x :: (s.ns.take k ++ s.ns.drop (k + 1)).drop k = s.ns := by
      rw [List.take_append_of_le_length (by omega), List.take_take, Nat.min_self, List.drop_append, List.drop_eq_nil_of_le (by omega), List.nil_append, hl, Nat.sub_self, List.drop_zero]
      have h1 := List.take_append_drop k s.ns
      rw [List.drop_eq_getElem_cons hk] at h1
      rw [List.getElem?_eq_getElem hk] at hx
      injection hx with hx
      rw [hx] at h1
      exact h1
    show ({ blk := s.blk, ns := _ } : Sk) = s
    rw [show (s.cut k).ns = s.ns.take k ++ s.ns.drop (k + 1) from rfl, this]
  · show k ≤ (s.ns.take k ++ s.ns.drop (k + 1)).length
    rw [List.length_append, hl]; omega
  · show (s.ns.take k ++ s.ns.drop (k + 1)).length + 1 = s.ns.length
    rw [List.length_append, hl, List.length_drop]; omega
theorem Sk.cut_es (s : Sk) (k : Nat) : (s.cut k).es = s.es.take k ++ s.es.drop (k + 1) := by
  unfold Sk.cut Sk.es; simp [List.map_take, List.map_drop]
theorem Sk.put_es (s : Sk) (k : Nat) (x : Sn) : (s.put k x).es = s.es.take k ++ x.en :: s.es.drop k := by
  unfold Sk.put Sk.es; simp [List.map_take, List.map_drop]
theorem Sk.get_es {s : Sk} {k : Nat} {e : En} (h : s.es[k]? = some e) : ∃ x, s.ns[k]? = some x ∧ x.en = e := by
  rw [s.es_get, Option.map_eq_some_iff] at h; exact h
/-- What takes does, told of the list with the node. -/
theorem takes_at (s : Sk) (k : Nat) (x : Sn) (w : World) (base : Nat) (h : SkAt w base s) (hx : s.ns[k]? = some x) (hn : s.n ≤ 10000) :
    Calls Tryz.prog 188 #[pt s.blk, pt x.blk, .agg (s.nodesL k 0).toArray] w (TakesPost (s.cut k) s w base) := by
  obtain ⟨e, h1, h2⟩ := Sk.cut_put hx
  have := takes_any (s.cut k) k x w base (by rw [e]; exact h) h1 (by omega)
  rw [e] at this
  exact this

theorem new_any (w : World) : Calls Tryz.prog 53 #[] w fun r w' => r = .returned (pt w.heap.size) ∧ SkAt w' w.heap.size ⟨w.heap.size, []⟩ ∧ Chg (fun _ => False) w w' := by
  have hz : (Tryz.zeroCells134).size = 71 := by kernel_rfl
  have z0 : (Tryz.zeroCells134)[68]? = some (.pointer none) := by kernel_rfl
  have z1 : (Tryz.zeroCells134)[69]? = some (.int .i64 0) := by kernel_rfl
  have z2 : (Tryz.zeroCells134)[70]? = some (.int .i64 0) := by kernel_rfl
  have hb := Blk.new w 134 Tryz.zeroCells134
  go_enter Tryz.func53, Tryz.ntmps53
  go_wp2
  go_ret
  refine ⟨rfl, ⟨⟨fun p hp => ?_, fun p q hp hq _ => ?_, fun p hp => ?_⟩, fun x hx => (by cases hx)⟩, (Chg.refl _ w).alloc _⟩
  · have hp : p ≤ 0 := hp
    obtain rfl : p = 0 := by omega
    refine ⟨_, hb, hz, fun i hi ho => ?_, fun x h1 _ => by omega, fun _ => ⟨z0, z1, z2⟩⟩
    rcases ho with ho | ho
    · exact absurd ho.2 (Nat.not_lt_zero _)
    · exact absurd ho.1 (by omega)
  · have hp : p ≤ 0 := hp
    have hq : q ≤ 0 := hq
    omega
  · have hp : p ≤ 0 := hp
    obtain rfl : p = 0 := by omega
    exact Nat.le_refl _

def DelPost' (s : Sk) (k : Nat) (w : World) (base : Nat) (r : Ending) (w' : World) : Prop := r = .returned (.bool true) ∧ SkAt w' base (s.cut k) ∧ Chg s.foot w w'
set_option maxRecDepth 100000 in
set_option maxHeartbeats 1000000 in
theorem delete_any (s : Sk) (e : En) (w : World) (base : Nat) (h : SkAt w base s) (hs : s.es.Pairwise ltE) (hn : s.n ≤ 10000) (he : e ∈ s.es) :
    Calls Tryz.prog 184 #[pt s.blk, e.val] w (DelPost' s (ahead s.es e) w base) := by
  have hto := fun w (h : SkAt w base s) => to_any s e w base h hs (by omega)
  have hsk := fun w (h : SkAt w base s) => seek_any s e w base h hs (by omega)
  rw [show decide (e ∈ s.es) = true from decide_eq_true he] at hsk
  have hx := (ahead_mem hs).1 he
  obtain ⟨x, hx, hxe⟩ := Sk.get_es hx
  have htk := fun w (h : SkAt w base s) => takes_at s _ x w base h hx hn
  have hkl := (List.getElem?_eq_some_iff.1 hx).1
  have htop := h.top_le
  have htop0 : 0 < top s.lv := by
    have := h.top0
    have hsn : s.ns.length = s.n := rfl
    omega
  obtain ⟨k, hke⟩ : ∃ k, k = ahead s.es e := ⟨_, rfl⟩
  rw [← hke] at hto hsk htk hx hkl ⊢
  clear hke hxe he
  have hzN : nil32.size = 32 := rfl
  have hzP : zero32.size = 32 := rfl
  have hlN : (s.nodesL k 0).length = 32 := by unfold Sk.nodesL; simp
  have hlP : (s.placesL k 0).length = 32 := by unfold Sk.placesL; simp
  have hN0 := s.nodesL_get k (j := 0) (by omega) (by omega)
  rw [h.prev0 (by unfold Sk.n; omega)] at hN0
  have hnx := h.nxt0 k
  rw [if_pos (by unfold Sk.n; omega)] at hnx
  have hk0 : k = 0 ∨ ab s.lv 0 k := by
    rcases Nat.eq_zero_or_pos k with e | e
    · exact .inl e
    · exact .inr (h.lv_pos e (by unfold Sk.n; omega))
  have hxat := (h.node hx).2.2.2.2.2
  have hfl : ∀ g, s.foot g → g < w.heap.size := fun g hg => (h.lt hg).2
  unfold En.val pt at hto hsk ⊢
  unfold pt at htk
  go_enter Tryz.func184, Tryz.ntmps184
  go_wp2_with (first | (go_at_call 89; refine (hsk _ (h.chg0 ((Chg.refl _ w).alloc _))).mono ?_; rintro r w1 ⟨rfl, hc1⟩; have hbe := (Blk.new w 54 #[.string e.m, .int .i64 e.s]).chg hc1 id; have hC1 := ((Chg.refl (fun _ => False) w).alloc (.cells #[.string e.m, .int .i64 e.s] 54)).trans hc1; have hlt1 := hbe.lt; clear hc1; have e0 := hbe.cell 0; have e1 := hbe.cell 1; simp only [List.getElem?_toArray, List.getElem?_cons_zero, List.getElem?_cons_succ] at e0 e1) | (go_at_call 90; refine (hto _ (h.chg0 hC1)).mono ?_; rintro r w4 ⟨rfl, hc4⟩; have hC4 := hC1.trans hc4; clear hc4 hC1 e0 e1 hlt1 hbe) | (show wpList _ _ _ (Oper.mk _ (Op.store 163 _ _) _ _ _ _ :: _) _ _; refine wpList_store_new rfl 163 _ _ rfl w4.heap.size (s.nodesL k 0) rfl rfl (two32 w4).1 hlN (by rw [hzN]; kernel_rfl) (s.nodesL_one _ _) ?_; intro w5 hb5 ho5 hc5) | (show wpList _ _ _ (Oper.mk _ (Op.store 164 _ _) _ _ _ _ :: _) _ _; refine wpList_store_new rfl 164 _ _ rfl (w4.heap.size + 1) (s.placesL k 0) rfl rfl ((two32 w4).2.other (ho5 _ (by omega))) hlP (by rw [hzP]; kernel_rfl) (s.placesL_one _ _) ?_; intro w6 hb6 ho6 hc6; have hC6 : Chg (fun _ => False) w w6 := hc6 (fun h => by have := hC4.size; omega) (hc5 (fun h => by have := hC4.size; omega) ((hC4.alloc _).alloc _)); have hbN := hb5.other (ho6 _ (by omega)); have hS6 := h.chg0 hC6; clear hb5 hb6 ho5 ho6 hc5 hc6 hC4 hto hsk))
  have n0 := hbN.cell 0
  rw [List.getElem?_toArray, hN0] at n0
  have lk := (hS6.link (p := k) (i := 0) hk0 (by omega)).1
  rw [hnx] at lk
  simp only [Sk.go, Nat.zero_mul, Nat.add_zero] at lk
  unfold pt at lk n0
  rw [hxat] at lk
  clear hnx hN0 hxat hk0
  go_still_tail 9, (by kernel_rfl)
  refine wpStill_load_mid rfl 163 (.tmp 7) rfl w4.heap.size 0 rfl _ _ (Blk.range hbN.drew) Tryz.underlying163 rfl (by rw [hlN]; kernel_rfl) ?_
  refine wpStill_nil ?_
  go_wp2_with (go_at_call 188; refine (htk _ (hS6.chg0 (Chg.refl _ _).drew)).mono ?_; rintro r w7 ⟨⟨v, rfl⟩, hS7, hC7⟩)
  go_ret
  exact ⟨rfl, hS7, (hC6.mono (fun _ _ h => h.elim)).trans ((Chg.refl _ _).drew.trans hC7)⟩
end Go.Proofs.YtifcpippfiglkaaGreat
