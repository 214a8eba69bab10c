/- What the loops of ScanKeeps keep. -/
import Derived.Test.YthbjjjcppijcbaaSK
import Derived.Test.YthbjjjcppijcbaaBL
namespace Go.Proofs.Ythbjjjcppijcbaa
open Go.RowKit Pal Dint

/-! ### small keys -/
def Small (d : Dm) : Prop := ∀ k, (d.look k).isSome = true → k.size ≤ 12
theorem cutS_12 (s : ByteArray) : (cutS s 12).size ≤ 12 := by
  unfold cutS
  split
  · rw [ByteArray.size_extract]; omega
  · omega
theorem Small.stays {d d' : Dm} (h : Small d) (hs : Stays d d') : Small d' := fun k hk => h k (by rw [← hs.1]; exact hk)
theorem acts_small {x : Act3} {d d' : Dm} (h : Acts x d d') (hs : Small d) : Small d' := by
  rcases h with ⟨_, ⟨h, _⟩, _⟩ | ⟨_, h, _⟩ | ⟨_, ⟨h, _⟩, _⟩ | ⟨_, h, _⟩
  · intro k hk
    rw [h] at hk
    split at hk
    · rename_i e; rw [e]; exact cutS_12 _
    · exact hs k hk
  · exact hs.stays h
  · intro k hk
    rw [h] at hk
    split at hk
    · cases hk
    · exact hs k hk
  · exact hs.stays h
theorem turn_0 : turn 0 = 0 := by
  have h := turn_cur (b := 2) (k := 0) (by omega) (by omega)
  rw [cur_zero, Nat.zero_mul] at h
  exact h
theorem Keep.zero {d : Dm} (hok : d.Ok) {al : List ByteArray} (hal : al = allL d) : Keep d.seed d al (List.replicate al.length false) 0 :=
  ⟨rfl, List.length_replicate, fun j hj _ => ⟨mem_keys.1 ((allL_perm hok).mem_iff.1 (by rw [← hal]; exact List.getElem_mem hj)), by rw [turn_0]; exact Nat.zero_le _⟩⟩

/-! ### told, the keys and the dict lie apart -/
structure Apart (d : Dm) (u o : Value) : Prop where
  od : ∀ g, o.ownBlock = some g → ¬ d.foot g
  ou : ∀ g, o.ownBlock = some g → u.ownBlock ≠ some g
  ud : ∀ g, u.ownBlock = some g → ¬ d.foot g
theorem Apart.foot {d d' : Dm} {u o : Value} {B : Nat} (h : Apart d u o) (hf : ∀ g, d'.foot g → d.foot g ∨ B ≤ g) (ho : ∀ g, o.ownBlock = some g → g < B) (hu : ∀ g, u.ownBlock = some g → g < B) : Apart d' u o := by
  refine ⟨fun g hg h' => ?_, h.ou, fun g hg h' => ?_⟩
  · rcases hf g h' with h1 | h1
    · exact h.od g hg h1
    · have := ho g hg; omega
  · rcases hf g h' with h1 | h1
    · exact h.ud g hg h1
    · have := hu g hg; omega

/-! ### a walk along the keys that tells one key -/
structure Mark (w1 w : World) (base : Nat) (o : Value) (bs : List Bool) (al : List ByteArray) (x : ByteArray) (j : Nat) (bs' : List Bool) : Prop where
  bls : Bls w base o bs'
  len : bs'.length = al.length
  no : ∀ (i : Nat) (h : i < al.length), bs'[i]? = some false → bs[i]? = some false ∧ (i < j → al[i] ≠ x)
  chg : Chg (fun g => o.ownBlock = some g) w1 w
section
variable {w1 w w' : World} {base j : Nat} {o : Value} {bs bs' : List Bool} {al : List ByteArray} {x : ByteArray}
theorem Mark.begin (h : Bls w base o bs) (hl : bs.length = al.length) : Mark w w base o bs al x 0 bs :=
  ⟨h, hl, fun _ _ e => ⟨e, fun h => absurd h (Nat.not_lt_zero _)⟩, Chg.refl _ _⟩
theorem Mark.far (h : Mark w1 w base o bs al x j bs') (hc : Chg (fun _ => False) w w') : Mark w1 w' base o bs al x j bs' :=
  ⟨h.bls.chg hc fun _ _ => id, h.len, h.no, h.chg.trans (hc.mono fun _ _ h => h.elim)⟩
theorem Mark.skip (h : Mark w1 w base o bs al x j bs') (hj : j < al.length) (hne : ¬ al[j] = x) : Mark w1 w base o bs al x (j + 1) bs' := by
  refine ⟨h.bls, h.len, fun i hi e => ⟨(h.no i hi e).1, fun hij => ?_⟩, h.chg⟩
  by_cases hj' : i = j
  · subst hj'; exact hne
  · exact (h.no i hi e).2 (by omega)
theorem Mark.tell {n cap g : Nat} (h : Mark w1 w base (.slice (some ⟨g, 0, none⟩) n cap) bs al x j bs') : Mark w1 (w.setCell ⟨g, j, none⟩ (.bool true)) base (.slice (some ⟨g, 0, none⟩) n cap) bs al x (j + 1) (bs'.set j true) := by
  obtain ⟨h1, h2⟩ := h.bls.set j true
  refine ⟨h1, by rw [List.length_set]; exact h.len, fun i hi e => ?_, h.chg.trans' h2 fun k _ e => by subst e; rfl⟩
  by_cases hj' : j = i
  · subst hj'
    rw [List.getElem?_set_self (by rw [h.len]; exact hi)] at e
    cases e
  · rw [List.getElem?_set_ne hj'] at e
    exact ⟨(h.no i hi e).1, fun hij => (h.no i hi e).2 (by omega)⟩
end

/-! ### the keys of a scan, one by one -/
structure In6 (w0 : World) (bd : Nat) (u o kv : Value) (al ks : List ByteArray) (d0 d : Dm) (bs : List Bool) (k B : Nat) (w : World) (bs' : List Bool) : Prop where
  T : One w0 w bd d
  hu : Strs w w0.heap.size u al
  hkv : Strs w B kv ks
  bls : Bls w w0.heap.size o bs'
  len : bs'.length = al.length
  ap : Apart d u o
  kd : ∀ g, kv.ownBlock = some g → ¬ d.foot g
  ko : ∀ g, o.ownBlock = some g → kv.ownBlock ≠ some g
  st : Stays d0 d
  sd : d.seed = d0.seed
  hb : bndS (Dint.shape d)
  no : ∀ (i : Nat) (h : i < al.length), bs'[i]? = some false → bs[i]? = some false ∧ al[i] ∉ ks.take k
section
variable {w0 w w' : World} {bd k B : Nat} {u o kv : Value} {al ks : List ByteArray} {d0 d d' : Dm} {bs bs' : List Bool}
theorem In6.begin (hT : One w0 w bd d) (hu : Strs w w0.heap.size u al) (ho : Bls w w0.heap.size o bs) (hl : bs.length = al.length) (hap : Apart d u o) (hb : bndS (Dint.shape d))
    (hc : Chg (fun _ => False) w w') (hk : Strs w' w.heap.size kv ks) : In6 w0 bd u o kv al ks d d bs 0 w.heap.size w' bs :=
  ⟨hT.chg0 hc, hu.chg hc fun _ _ => id, hk, ho.chg hc fun _ _ => id, hl, hap, fun g hg hf => by have := (hk.lt g hg).1; have := hT.md.lt hf; omega,
    fun g hg hg' => by have := (hk.lt g hg').1; have := (ho.own.lt g hg).2; omega, ⟨fun _ => rfl, rfl⟩, rfl, hb, fun i h e => ⟨e, by simp⟩⟩
/-- A call on the dict between. -/
theorem In6.got (h : In6 w0 bd u o kv al ks d0 d bs k B w bs') (hT : One w0 w' bd d') (hX : Nx d d' w w') (hS : Stays d d') (hs : Dint.shape d' = stepS (Dint.shape d) 1) : In6 w0 bd u o kv al ks d0 d' bs k B w' bs' :=
  ⟨hT, h.hu.chg hX.chg h.ap.ud, h.hkv.chg hX.chg h.kd, h.bls.chg hX.chg h.ap.od, h.len, h.ap.foot hX.foot (fun g hg => (h.bls.own.lt g hg).2) (fun g hg => (h.hu.lt g hg).2),
    fun g hg hf => by
      rcases hX.foot g hf with h1 | h1
      · exact h.kd g hg h1
      · have := (h.hkv.lt g hg).2; omega,
    h.ko, ⟨fun k => (hS.1 k).trans (h.st.1 k), hS.2.trans h.st.2⟩, hX.seed.trans h.sd, by rw [hs]; exact bnd_step h.hb 1, h.no⟩
theorem In6.told {bs'' : List Bool} (h : In6 w0 bd u o kv al ks d0 d bs k B w bs') (hk : k < ks.length) (hm : Mark w w' w0.heap.size o bs' al ks[k] al.length bs'') : In6 w0 bd u o kv al ks d0 d bs (k + 1) B w' bs'' :=
  ⟨h.T.chgS hm.chg (fun g hg h' => h.ap.od g h' hg) (fun g hg h' => by have := (h.bls.own.lt g h').1; omega), h.hu.chg hm.chg (fun g hg h' => h.ap.ou g h' hg), h.hkv.chg hm.chg (fun g hg h' => h.ko g h' hg),
    hm.bls, hm.len, h.ap, h.kd, h.ko, h.st, h.sd, h.hb, fun i hi e => by
      obtain ⟨h1, h2⟩ := hm.no i hi e
      obtain ⟨h3, h4⟩ := h.no i hi h1
      refine ⟨h3, ?_⟩
      rw [List.take_succ_eq_append_getElem hk, List.mem_append]
      rintro (h5 | h5)
      · exact h4 h5
      · rw [List.mem_singleton] at h5; exact h2 hi h5⟩
theorem In6.at_ (h : In6 w0 bd u o kv al ks d0 d bs k B w bs') (hsm : Small d0) (hok : d0.Ok) {c : Nat} (hc : c < 4294967296) (hks : ks = scanL d0 c) (hk : k < ks.length) : (d.look ks[k]).isSome = true ∧ ks[k].size ≤ 12 := by
  have hm : ks[k] ∈ scanL d0 c := by rw [← hks]; exact List.getElem_mem hk
  have h1 : (d0.look ks[k]).isSome = true := mem_keys.1 (List.mem_map.2 (scan_mem hok hc hm))
  exact ⟨by rw [h.st.1]; exact h1, hsm _ h1⟩
/-- Behind all keys of a scan. -/
theorem In6.end_ {sd c : Nat} (h : In6 w0 bd u o kv al ks d0 d bs ks.length B w bs') (hK : Keep sd d0 al bs c) (hok : d0.Ok) (hc : c < 4294967296) (hks : ks = scanL d0 c) :
    (scanC d0 c = 0 → ∀ j, j < al.length → bs'[j]? ≠ some false) ∧ (scanC d0 c ≠ 0 → Keep sd d al bs' (scanC d0 c)) := by
  have := hK.scan hok hc h.len fun j hj e => by
    obtain ⟨h1, h2⟩ := h.no j hj e
    rw [List.take_length, hks] at h2
    exact ⟨h1, h2⟩
  exact ⟨this.1, fun h0 => (this.2 h0).stays h.st (h.sd)⟩
end

/-! ### the great loop -/
structure In4 (w0 : World) (bd : Nat) (u o : Value) (al : List ByteArray) (sd i N : Nat) (d : Dm) (bs : List Bool) (c : Nat) (w : World) : Prop where
  T : One w0 w bd d
  hu : Strs w w0.heap.size u al
  bls : Bls w w0.heap.size o bs
  ap : Apart d u o
  keep : Keep sd d al bs c
  lt : c < 4294967296
  far : i * 8388608 ≤ turn c
  n : d.n ≤ N
  hb : bndS (Dint.shape d)
  sm : Small d
section
variable {w0 w w' : World} {bd B i N sd c : Nat} {u o kv : Value} {al ks : List ByteArray} {d d' : Dm} {bs bs' : List Bool}
theorem In4.begin6 (h : In4 w0 bd u o al sd i N d bs c w) (hc : Chg (fun _ => False) w w') (hk : Strs w' w.heap.size kv ks) : In6 w0 bd u o kv al ks d d bs 0 w.heap.size w' bs :=
  In6.begin h.T h.hu h.bls h.keep.len h.ap h.hb hc hk
theorem In4.next (h : In4 w0 bd u o al sd i N d bs c w) (h6 : In6 w0 bd u o kv al ks d d' bs ks.length B w' bs') (hks : ks = scanL d c) (h0 : scanC d c ≠ 0) :
    In4 w0 bd u o al sd (i + 1) N d' bs' (scanC d c) w' ∧ 4294967296 - turn (scanC d c) < 4294967296 - turn c := by
  have hf := next_far h.T.md.ok h.hb h.far h0
  have hl := turn_lt (scanC d c)
  exact ⟨⟨h6.T, h6.hu, h6.bls, h6.ap, (h6.end_ h.keep h.T.md.ok h.lt hks).2 h0, scanC_lt _ _, hf.1, by rw [h6.st.2]; exact h.n, h6.hb, h.sm.stays h6.st⟩, by omega⟩
theorem In4.wide {N' : Nat} (h : In4 w0 bd u o al sd i N d bs c w) (hN : N ≤ N') : In4 w0 bd u o al sd i N' d bs c w :=
  ⟨h.T, h.hu, h.bls, h.ap, h.keep, h.lt, h.far, Nat.le_trans h.n hN, h.hb, h.sm⟩
theorem In4.chg0 (h : In4 w0 bd u o al sd i N d bs c w) (hc : Chg (fun _ => False) w w') : In4 w0 bd u o al sd i N d bs c w' :=
  ⟨h.T.chg0 hc, h.hu.chg hc fun _ _ => id, h.bls.chg hc fun _ _ => id, h.ap, h.keep, h.lt, h.far, h.n, h.hb, h.sm⟩
theorem In4.mark {x : ByteArray} {j : Nat} (h : In4 w0 bd u o al sd i N d bs c w) (hm : Mark w w' w0.heap.size o bs al x j bs') : In4 w0 bd u o al sd i N d bs' c w' :=
  ⟨h.T.chgS hm.chg (fun g hg h' => h.ap.od g h' hg) (fun g hg h' => by have := (h.bls.own.lt g h').1; omega), h.hu.chg hm.chg (fun g hg h' => h.ap.ou g h' hg), hm.bls, h.ap,
    ⟨h.keep.seed, hm.len, fun j hj e => h.keep.k j hj (hm.no j hj e).1⟩, h.lt, h.far, h.n, h.hb, h.sm⟩
theorem In4.acted {x : Act3} (h : In4 w0 bd u o al sd i N d bs c w) (hN : N ≤ 256) (hT : One w0 w' bd d') (hF : Far d d' w w') (hA : Acts x d d')
    (ht : (IntKind.u64.wrap x.Do).tmod 8 = 5 ∨ (IntKind.u64.wrap x.Do).tmod 8 = 6 → ∀ j (hj : j < al.length), al[j] = cutS x.Key 12 → bs[j]? ≠ some false) : In4 w0 bd u o al sd i (N + 1) d' bs c w' :=
  ⟨hT, h.hu.chg hF.chg h.ap.ud, h.bls.chg hF.chg h.ap.od, h.ap.foot hF.foot (fun g hg => (h.bls.own.lt g hg).2) (fun g hg => (h.hu.lt g hg).2),
    h.keep.acts hA hF.seed h.keep.len (fun _ e => e) ht, h.lt, h.far, by have := acts_n hA; have := h.n; omega, acts_bnd hA h.hb (Nat.le_trans h.n hN), acts_small hA h.sm⟩
end

end Go.Proofs.Ythbjjjcppijcbaa
