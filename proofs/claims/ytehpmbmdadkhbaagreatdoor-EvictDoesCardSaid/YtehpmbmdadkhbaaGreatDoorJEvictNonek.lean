/- Texts joined for EvictNone: DW8spaceitem, DW9spaceitem, DIspaceitem, OWspaceitem, TWspaceitem, DAspaceitem, BZspaceitem, SPM, SPD, SPP, LFU, LFT, SPW, SPX. -/
import Derived.Test.YtehpmbmdadkhbaaGreatDoorJEvictNonea
import Derived.Test.YtehpmbmdadkhbaaGreatDoorJEvictNonec
import Derived.Test.YtehpmbmdadkhbaaGreatDoorJEvictNoned
import Derived.Test.YtehpmbmdadkhbaaGreatDoorJEvictNoneh
import Derived.Test.YtehpmbmdadkhbaaGreatDoorJEvictNonei
import Derived.Test.YtehpmbmdadkhbaaGreatDoorJEvictNonej
import Derived.Deep.LoopGhost
import Derived.Deep.RegionHeld3
import Derived.ScopeJumps
set_option linter.unusedVariables false
set_option linter.unusedSimpArgs false

namespace Go.Proofs.YtehpmbmdadkhbaaGreatDoor.Dspaceitem
open Go.RowKit Pal
def SetR (e:Dm) (key:ByteArray) (v:Value) (w1 w':World):Prop :=
 ∃ d',DmAt w' d'∧d'.Ok∧d'.blk=e.blk∧d'.seed=e.seed∧(∀ g,d'.foot g→e.foot g)∧(∃ x r,x.key=key∧e.nodes.Perm (x :: r)∧d'.nodes.Perm ({ x with v:=v } :: r))∧shape d'=shape e∧(∀ k,d'.in1 k ↔ e.in1 k)∧Chg e.foot w1 w'
theorem set_with (e:Dm) (key:ByteArray) (v:Value) (vb:Nat) (w1:World) (hD1:DmAt w1 e) (hE:e.Ok) (hk:key.size≤9223372036854775807) (hv:VOk v) (hbx:Blk w1 vb 79 #[v]) :
  Calls Tryz.prog 67 #[ptr e.blk,.string key,.func (.func 110) #[] #[ptr vb]] w1 (WithPost e key w1 (SetR e key v w1)):=by
 refine with_any e key 110 #[ptr vb] w1 hD1 hE hk (enters_of Tryz.func110 (by kernel_rfl) rfl) (SetR e key v w1) ?_
 intro ti t pre x post W htab hat hxk hC2
 have htz:=(tab_ok hE htab).1.pos
 have hi:sumN e.seed key.data.toList % t.len<t.len:=Nat.mod_lt _ (by omega)
 have hDW:=hD1.chg0 hC2
 have hta:=tab_at hDW htab
 have hbW:=hbx.chg hC2 id
 have hL:=loc_cell hta hi hat
 have hX:=(hta.2 _ (Tb.at_mem hi)).node hat
 refine (set1_any _ x _ _ _ W hL hX (hbW.cell 0) hv).mono ?_
 rintro e5 W5 ⟨hv5,rfl⟩
 obtain ⟨d',h1,h2,h3,h4,h5,⟨r,h6,h7⟩,h8,h9⟩:=upd_setv hDW hE htab hi hat hv
 have hxn:x∈e.nodes:=tab_nodes htab (mem_nodes.2 ⟨_,hi,by rw [hat];simp⟩)
 exact ⟨hv5,d',h1.chg0 ((Chg.refl _ _).drew),h2,h3,h4,h5,⟨x,r,hxk,h6,h7⟩,h8,h9,((Chg.store (S:=e.foot) (hC2.mono (fun _ _ h => h.elim)) (.inr (.inr (.inr ⟨x,hxn,rfl⟩))) 2 v)).drew⟩
theorem fresh_ok {d:Dm} (h:d.Ok) (ht:d.t1=none) (b:Nat) (n:Int):({ d with t1:=some ⟨b,List.replicate (sizeFor n) []⟩ }:Dm).Ok∧({ d with t1:=some ⟨b,List.replicate (sizeFor n) []⟩ }:Dm).nodes=d.nodes:=by
 have hn:({ d with t1:=some ⟨b,List.replicate (sizeFor n) []⟩ }:Dm).nodes=d.nodes:=by
  unfold Dm.nodes Dm.nodes1 Tb.nodes;rw [ht];simp
 have hat:∀ i,(⟨b,List.replicate (sizeFor n) []⟩:Tb).at i=[]:=fun i => by
  unfold Tb.at
  rw [List.getD_eq_getElem?_getD,List.getElem?_replicate]
  split <;> rfl
 have h0:=h.s0.pos
 refine ⟨{ seed:=h.seed,s0:=h.s0,s1:=fun t e => ?_,in0:=h.in0,in1:=fun t e i x _ hx => ?_,sums:=by rw [hn];exact h.sums,keys:=by rw [hn];exact h.keys,vok:=by rw [hn];exact h.vok,count:=by rw [hn];exact h.count,atlt:=fun t e => ?_,at0:=fun e => (by cases e),moved:=h.moved },hn⟩
 ·injection e with e
  obtain ⟨k,h2,h16,hk,_⟩:=sizeFor_spec n
  exact ⟨k,h2,h16,by rw [← e];unfold Tb.len;simpa using hk⟩
 ·injection e with e
  subst e
  rw [hat i] at hx
  cases hx
 ·show d.at_<d.t0.len
  have:=h.at0 ht
  omega
theorem moves_dm (e:Dm) (n:Int) (w:World) (h:DmAt w e) (hok:e.Ok) (ht:e.t1=none) :
  Calls Tryz.prog 75 #[ptr e.blk,.int .i64 n] w fun r w' => (∃ v,r=.returned v)∧∃ e2 t,DmAt w' e2∧e2.Ok∧e2.blk=e.blk∧e2.seed=e.seed∧e2.n=e.n∧e2.nodes=e.nodes ∧
   (∀ g,e2.foot g→e.foot g∨w.heap.size≤g)∧Chg (fun g => g=e.blk) w w'∧e2.t1=some t∧shape e2=(e.t0.len,some (sizeFor n),e.at_)∧∀ k,e2.in1 k ↔ e.in1 k:=by
 refine (moves_any e n w h ht).mono ?_
 rintro r w' ⟨hr,b,hb,hD,hC⟩
 obtain ⟨f1,f2⟩:=fresh_ok hok ht b n
 refine ⟨hr,_,_,hD,f1,rfl,rfl,rfl,f2,fun g hg => ?_,hC,rfl,?_,fun k => ?_⟩
 ·rcases hg with h' | h' | ⟨t,ht',h'⟩ | ⟨x,hx,h'⟩
  ·exact .inl (.inl h')
  ·exact .inl (.inr (.inl h'))
  ·injection ht' with ht'
   subst ht'
   exact .inr (by rw [h'];exact hb)
  ·rw [f2] at hx
   exact .inl (.inr (.inr (.inr ⟨x,hx,h'⟩)))
 ·unfold shape Tb.len;simp
 ·unfold Dm.in1
  rw [ht]
  constructor
  ·rintro ⟨t,he,x,hx,_⟩
   injection he with he
   subst he
   unfold Tb.nodes at hx
   simp at hx
  ·rintro ⟨t,he,_⟩
   cases he
theorem put_new (e:Dm) (ti:Nat) (t:Tb) (q:Nat) (key:ByteArray) (v:Value) (w9:World) (h:DmAt w9 e) (hok:e.Ok) (ht:e.tab ti=some t) (hti:ti=0→e.t1=none) (hno:∀ x∈e.nodes,x.key≠key) (hq:sumN e.seed key.data.toList=q) (hv:VOk v) :
  Calls Tryz.prog 104 #[tbVal t,.slice (some ⟨w9.heap.size+1,0,none⟩) 1 1] ((w9.alloc (.cells #[.int .u32 (q:Int),.string key,v,.pointer none] 138)).alloc (.cells #[.pointer (some ⟨w9.heap.size,0,none⟩)] 136)) fun r W' => (∃ v,r=.returned v) ∧
   ∃ d',(∀ W2,Chg (fun g => g=e.blk) W' W2→Blk W2 e.blk 125 ((dmCells e).setIfInBounds 4 (.int .i64 ((e.n:Int)+1)))→DmAt W2 d')∧Blk W' e.blk 125 (dmCells e)∧Chg e.foot w9 W' ∧
   d'.Ok∧d'.blk=e.blk∧d'.seed=e.seed∧(∀ g,d'.foot g→e.foot g∨w9.heap.size≤g)∧(∃ x,x.key=key∧x.v=v∧d'.nodes.Perm (x :: e.nodes))∧shape d'=shape e∧∀ k,d'.in1 k ↔ e.in1 k∨(k=key∧e.t1.isSome=true):=by
 have hC:Chg (fun _ => False) w9 ((w9.alloc (.cells #[.int .u32 (q:Int),.string key,v,.pointer none] 138)).alloc (.cells #[.pointer (some ⟨w9.heap.size,0,none⟩)] 136)):=((Chg.refl _ w9).alloc _).alloc _
 have hx:Blk ((w9.alloc (.cells #[.int .u32 (q:Int),.string key,v,.pointer none] 138)).alloc (.cells #[.pointer (some ⟨w9.heap.size,0,none⟩)] 136)) w9.heap.size 138 #[.int .u32 (q:Int),.string key,v,.pointer none]:=(Blk.new w9 _ _).alloc _
 have hb:Blk ((w9.alloc (.cells #[.int .u32 (q:Int),.string key,v,.pointer none] 138)).alloc (.cells #[.pointer (some ⟨w9.heap.size,0,none⟩)] 136)) (w9.heap.size+1) 136 #[.pointer (some ⟨w9.heap.size,0,none⟩)]:=by
  have:=Blk.new (w9.alloc (.cells #[.int .u32 (q:Int),.string key,v,.pointer none] 138)) 136 #[.pointer (some ⟨w9.heap.size,0,none⟩)]
  rw [World.size_alloc] at this
  exact this
 generalize (w9.alloc (.cells #[.int .u32 (q:Int),.string key,v,.pointer none] 138)).alloc (.cells #[.pointer (some ⟨w9.heap.size,0,none⟩)] 136)=W at hC hx hb ⊢
 have hDW:=h.chg0 hC
 have hqlt:q<4294967296:=by rw [← hq];exact sumN_lt _ _
 have hp:=put_any t ⟨w9.heap.size,q,key,v⟩ (.pointer none) (w9.heap.size+1) W (tab_ok hok ht).1 hqlt (tab_at hDW ht).1 hx (hb.cell 0)
 refine hp.mono ?_
 rintro r W' ⟨hr,hW'⟩
 obtain ⟨d',g1,g2,g3,g4,g5,g6,g7,g8,g9,g10⟩:=upd_push hDW hok ht hti (x:=⟨w9.heap.size,q,key,v⟩) hx (fun hf => Nat.lt_irrefl _ (h.lt hf)) hq.symm hv hno hW'
 refine ⟨hr,d',g1,g2,(hC.mono (fun _ _ h => h.elim)).trans' g3 ?_,g4,g5,g6,fun g hg => (g7 g hg).imp id fun e => by rw [e];exact Nat.le_refl _,⟨_,rfl,rfl,g8⟩,g9,g10⟩
 rintro g hg (rfl | rfl)
 ·exact tab_foot ht
 ·exact absurd hg (Nat.lt_irrefl _)
theorem place_new {d e f d':Dm} {key:ByteArray} (he:stepD d 1=e) (hp:e.nodes.Perm d.nodes) (hno:∀ x∈e.nodes,x.key≠key) (hs:shape d'=shape f) (h:∀ k,d'.in1 k ↔ e.in1 k∨(k=key∧f.t1.isSome=true)) :
  ∀ k,d'.in1 k ↔ (stepD d 1).in1 k∨(k=key∧d'.t1.isSome=true∧∀ x∈d.nodes,x.key≠key):=by
 intro k
 have h1:d'.t1.isSome=f.t1.isSome:=by
  have h2:d'.t1.map Tb.len=f.t1.map Tb.len:=congrArg (fun s => s.2.1) hs
  have h3:=congrArg Option.isSome h2
  simpa using h3
 rw [he,h k,h1]
 exact or_congr_right (and_congr_right fun _ => ⟨fun h => ⟨h,fun x hx => hno x (hp.mem_iff.2 hx)⟩,fun h => h.1⟩)
set_option maxRecDepth 100000 in
set_option maxHeartbeats 1000000 in
theorem Set_any (d:Dm) (key:ByteArray) (v:Value) (w:World) (h:DmAt w d) (hok:d.Ok) (hk:key.size≤9223372036854775807) (hv:VOk v) (hn:d.n<1152921504606846976) :
  Calls Tryz.prog 78 #[ptr d.blk,.string key,v] w fun e w' => ∃ d',SetPost d key v w e w' d':=by
 have hlt:=h.hd.lt
 have hn':(d.n:Int)<1152921504606846976:=by omega
 obtain ⟨e,he⟩:∃ e,Hid (stepD d 1=e):=⟨_,rfl⟩
 have hE:e.Ok:=by rw [← he.out];exact moveN_ok hok _
 have hblk:e.blk=d.blk:=by rw [← he.out];exact (moveN_blk d _).1
 have hseed:e.seed=d.seed:=by rw [← he.out];exact (moveN_blk d _).2.1
 have hen:e.n=d.n:=by rw [← he.out];exact (moveN_blk d _).2.2
 rw [← hen] at hn'
 have hperm:e.nodes.Perm d.nodes:=by rw [← he.out];exact moveN_perm hok _
 have hfoot:∀ g,e.foot g→d.foot g:=fun g hg => moveN_foot hok _ (by rw [← he.out] at hg;exact hg)
 have hst:∀ w,DmAt w d→_:=fun w h => Step_any d 1 w h hok
 rw [he.out] at hst
 have HB:=Lib.hid hblk
 have HN:=Lib.hid hen
 have HS:=Lib.hid hseed
 have HV:=hv
 obtain ⟨vv,rfl⟩:=hv
 have hsw:∀ w1,DmAt w1 e→∀ vb,Blk w1 vb 79 #[(.pointer vv)]→_:=fun w1 h1 vb hb => set_with e key _ vb w1 h1 hE hk HV hb
 clear hblk hen hseed
 unfold ptr at hst hsw ⊢
 rw [HB.out] at hsw
 go_enter Tryz.func78,Tryz.ntmps78
 go_wp2_with fail
 refine (hst _ (h.chg0 ((Chg.refl _ w).alloc _))).mono ?_
 rintro e1 w1 ⟨rfl,hD1,hC1⟩
 have hbx:Blk w1 w.heap.size 79 #[.pointer vv]:=(Blk.new w _ _).chg hC1 fun hg => Nat.lt_irrefl _ (h.lt hg)
 have hC:Chg d.foot w w1:=((Chg.refl d.foot w).alloc _).trans hC1
 go_wp2_with fail
 refine (hsw w1 hD1 w.heap.size hbx).mono ?_
 rintro e5 W5 (⟨rfl,⟨y,hy,hyk⟩,d',hR1,hR2,hR3,hR4,hR5,⟨x,r,hR6,hR7,hR8⟩,hR9,hR11,hR10⟩ | ⟨rfl,hno,hC5⟩)
 ·go_wp2_with fail
  go_ret
  exact ⟨d',hR1,hR2,hR3.trans HB.out,hR4.trans HS.out,hC.trans' hR10 (fun g _ hg => hfoot g hg),fun g hg => .inl (hfoot g (hR5 g hg)),
   fun k => by rw [he.out,hR11 k];exact ⟨.inl,fun h => h.elim id fun h => absurd hR6 (h.2.2 x (hperm.mem_iff.1 (hR7.mem_iff.2 List.mem_cons_self)))⟩,
   .inl ⟨rfl,⟨x,r,hperm.symm.trans hR7,hR6,hR8⟩,by rw [hR9,he.out]⟩⟩
 ·have hD5:=hD1.chg0 hC5
  have hbx5:=hbx.chg hC5 id
  have kb5:=hbx5.cell 0
  simp only [List.getElem?_toArray,List.getElem?_cons_zero] at kb5
  have hC':=hC.trans' hC5 fun _ _ h => h.elim
  clear hD1 hC1 hbx hC hsw hst
  obtain ⟨c0,c1,c2,c3,c4,cf,clt⟩:=dm_cells hD5
  rw [HB.out] at c0 c1 c2 c3 c4 cf clt
  have hmv:∀ W,DmAt W e→_:=fun W h => isMoving_any e W h
  unfold ptr at hmv
  rw [HB.out] at hmv
  have hlen:=hE.s0.pos
  obtain ⟨q,HQ⟩:∃ q,Hid (sumN e.seed key.data.toList=q):=⟨_,rfl⟩
  have hof:∀ W,DmAt W e→_:=fun W h => of_any e key W h hE.seed hk
  unfold ptr at hof
  rw [HB.out,HQ.out] at hof
  cases ht:e.t1 with
  | some t =>
   rw [ht] at hmv c2
   have HT:=Lib.hid ht
   simp only [t1Val,tbVal] at c1 c2
   clear ht
   go_wp2_with (go_at_call 74;refine (hmv _ hD5).mono ?_;rintro e8 w8 ⟨rfl,rfl⟩)
   have hpt:∀ W,DmAt W e→_:=fun W h => put_new e 1 t q key _ W h hE HT.out (fun h => by cases h) hno HQ.out HV
   unfold tbVal at hpt
   go_region_with (first
    | (go_at_call 105;refine (hof _ (hD5.chg0 ((Chg.refl _ _).drew))).mono ?_;rintro e9 w9 ⟨rfl,hc9⟩;have hC9:=(Chg.refl _ W5).drew.trans hc9;have kbx:=(hbx5.chg hC9 id).cell 0;simp only [List.getElem?_toArray,List.getElem?_cons_zero] at kbx)
    | (go_at_call 104;refine (hpt w9 (hD5.chg0 hC9)).mono ?_;rintro e10 w10 ⟨⟨v10,rfl⟩,d',g1,g2,g3,g4,g5,g6,g7,g8,g9,g10⟩))
   all_goals
    have k4:=g2.cell 4
    have kf:=g2.frozen 4
    simp only [dmCells,List.getElem?_toArray,List.getElem?_cons_zero,List.getElem?_cons_succ] at k4
    rw [HB.out] at k4 kf
    go_wp2_with fail
    go_ret
    have hdm:=g1 (w10.setCell ⟨d.blk,4,none⟩ (.int .i64 ((e.n:Int)+1))) (by rw [HB.out];exact Chg.store (S:=fun g => g=d.blk) (Chg.refl _ _) rfl 4 _) (by rw [HB.out];rw [HB.out] at g2;exact g2.set 4 _)
    refine ⟨d',hdm,g4,g5.trans HB.out,g6.trans HS.out,?_,?_,place_new he.out hperm hno g9 g10,.inr ⟨rfl,fun x hx => hno x (hperm.mem_iff.2 hx),?_,?_⟩⟩
    ·exact Chg.store (S:=d.foot) (hC'.trans' ((hC9.mono (fun _ _ h => h.elim):Chg e.foot W5 w9).trans g3) (fun g _ hg => hfoot g hg)) (.inl rfl) 4 _
    ·intro g hg
     exact (g7 g hg).elim (fun h9 => .inl (hfoot g h9)) (fun h9 => .inr (Nat.le_trans hC'.size (Nat.le_trans hC9.size h9)))
    ·obtain ⟨x,hx1,hx2,hx3⟩:=g8
     exact ⟨x,hx1,hx2,hx3.trans (List.Perm.cons x (hperm))⟩
    ·rw [g9,he.out]
     unfold growS shape
     rw [HT.out]
     simp
  | none =>
   rw [ht] at hmv c2
   have HT:=Lib.hid ht
   simp only [t1Val,tbVal] at c1 c2
   clear ht
   by_cases hg:e.t0.len≤e.n∧e.t0.len<65536
   ·have hg1:(e.n:Int) ≥ (e.t0.len:Int):=by omega
    have hg2:(e.t0.len:Int)<65536:=by omega
    have HG:=Lib.hid hg
    clear hg
    have hms:∀ W,DmAt W e→_:=fun W h => moves_dm e (2 * (e.n:Int)) W h hE HT.out
    unfold ptr at hms
    rw [HB.out] at hms
    go_wp2_with fail
    refine (hmv _ hD5).mono ?_
    rintro e8 w8 ⟨rfl,rfl⟩
    go_wp2_with fail
    refine (hms _ hD5).mono ?_
    rintro e8 w8 ⟨⟨v8,rfl⟩,e2,t,hD8,hE2,hb2,hs2,hn2,hnn2,hf2,hC8,ht2,hsh2,hin2⟩
    have HB2:=Lib.hid hb2
    have HS2:=Lib.hid hs2
    have HE2:=Lib.hid hn2
    have HN2:=Lib.hid hnn2
    have HT2:=Lib.hid (ht2:e2.tab 1=some t)
    have HSH:=Lib.hid hsh2
    have HIN:=Lib.hid hin2
    have hmv2:=isMoving_any e2 w8 hD8
    have hof2:∀ W,DmAt W e2→_:=fun W h => of_any e2 key W h hE2.seed hk
    obtain ⟨k0,k1,k2,k3,k4,kf,klt⟩:=dm_cells hD8
    rw [ht2] at k2 hmv2
    unfold ptr at hmv2 hof2
    rw [HB2.out] at k0 k1 k2 k3 k4 kf klt hmv2 hof2
    rw [HS2.out,HQ.out] at hof2
    simp only [t1Val,tbVal] at k1 k2
    have hbx8:=hbx5.chg hC8 (fun h' => by omega)
    have kb8:=hbx8.cell 0
    simp only [List.getElem?_toArray,List.getElem?_cons_zero] at kb8
    have hC8':Chg d.foot w w8:=hC'.trans' hC8 fun g _ hg => hg ▸ .inl rfl
    have hft2:∀ g,g<w.heap.size→e2.foot g→d.foot g:=fun g hl hg => (hf2 g hg).elim (hfoot g) fun h9 => absurd (Nat.le_trans hC'.size h9) (by omega)
    clear hb2 hs2 hn2 hnn2 ht2 hsh2 hin2 hof hmv hms k3 k4 c0 c1 c2 c3 c4 cf clt
    go_wp2_with fail
    refine hmv2.mono ?_
    rintro e8 w8' ⟨rfl,rfl⟩
    go_wp2_with fail
    have hpt:∀ W,DmAt W e2→_:=fun W h => put_new e2 1 t q key _ W h hE2 HT2.out (fun h => by cases h) (by rw [HN2.out];exact hno) (by rw [HS2.out];exact HQ.out) HV
    unfold tbVal at hpt
    go_region_with (first
     | (go_at_call 105;refine (hof2 _ (hD8.chg0 ((Chg.refl _ _).drew))).mono ?_;rintro e9 w9 ⟨rfl,hc9⟩;have hC9:=(Chg.refl _ w8).drew.trans hc9;have kbx:=(hbx8.chg hC9 id).cell 0;simp only [List.getElem?_toArray,List.getElem?_cons_zero] at kbx)
     | (go_at_call 104;refine (hpt w9 (hD8.chg0 hC9)).mono ?_;rintro e10 w10 ⟨⟨v10,rfl⟩,d',g1,g2,g3,g4,g5,g6,g7,g8,g9,g10⟩))
    all_goals
     have k4:=g2.cell 4
     have kf:=g2.frozen 4
     simp only [dmCells,List.getElem?_toArray,List.getElem?_cons_zero,List.getElem?_cons_succ] at k4
     rw [HE2.out] at k4 g1
     rw [HB2.out] at k4 kf
     go_wp2_with fail
     go_ret
     have hdm:=g1 (w10.setCell ⟨d.blk,4,none⟩ (.int .i64 ((e.n:Int)+1))) (by rw [HB2.out];exact Chg.store (S:=fun g => g=d.blk) (Chg.refl _ _) rfl 4 _) (by rw [HB2.out];rw [HB2.out] at g2;exact g2.set 4 _)
     refine ⟨d',hdm,g4,g5.trans HB2.out,(g6.trans HS2.out).trans HS.out,?_,?_,place_new he.out hperm hno g9 (fun k => (g10 k).trans (or_congr_left (HIN.out k))),.inr ⟨rfl,fun x hx => hno x (hperm.mem_iff.2 hx),?_,?_⟩⟩
     ·exact Chg.store (S:=d.foot) (hC8'.trans' ((hC9.mono (fun _ _ h => h.elim):Chg e2.foot w8 w9).trans g3) (fun g hl hg => hft2 g hl hg)) (.inl rfl) 4 _
     ·intro g hg
      exact (g7 g hg).elim (fun h9 => (hf2 g h9).elim (fun h9 => .inl (hfoot g h9)) (fun h9 => .inr (Nat.le_trans hC'.size h9))) (fun h9 => .inr (Nat.le_trans hC8'.size (Nat.le_trans hC9.size h9)))
     ·obtain ⟨x,hx1,hx2,hx3⟩:=g8
      exact ⟨x,hx1,hx2,hx3.trans (List.Perm.cons x (by rw [HN2.out];exact hperm))⟩
     ·rw [g9,he.out,HSH.out]
      unfold growS shape
      rw [HT.out,← HN.out,if_pos ⟨rfl,HG.out.1,HG.out.2⟩,show ((2 * e.n:Nat):Int)=2 * (e.n:Int) by omega]
   ·have HG:=Lib.hid hg
    have hcase:e.n<e.t0.len∨(e.t0.len≤e.n∧65536≤e.t0.len):=by omega
    clear hg
    rcases hcase with hg1 | ⟨hg1,hg2⟩
    ·have hx1:¬ e.t0.len≤e.n:=by omega
     go_wp2_with fail
     refine (hmv _ hD5).mono ?_
     rintro e8 w8 ⟨rfl,rfl⟩
     go_wp2_with fail
     refine (hmv _ hD5).mono ?_
     rintro e8 w8 ⟨rfl,rfl⟩
     go_wp2_with fail
     have hpt:∀ W,DmAt W e→_:=fun W h => put_new e 0 e.t0 q key _ W h hE rfl (fun _ => HT.out) hno HQ.out HV
     unfold tbVal at hpt
     go_region_with (first
      | (go_at_call 105;refine (hof _ (hD5.chg0 ((Chg.refl _ _).drew))).mono ?_;rintro e9 w9 ⟨rfl,hc9⟩;have hC9:=(Chg.refl _ W5).drew.trans hc9;have kbx:=(hbx5.chg hC9 id).cell 0;simp only [List.getElem?_toArray,List.getElem?_cons_zero] at kbx)
      | (go_at_call 104;refine (hpt w9 (hD5.chg0 hC9)).mono ?_;rintro e10 w10 ⟨⟨v10,rfl⟩,d',g1,g2,g3,g4,g5,g6,g7,g8,g9,g10⟩))
     all_goals
      have k4:=g2.cell 4
      have kf:=g2.frozen 4
      simp only [dmCells,List.getElem?_toArray,List.getElem?_cons_zero,List.getElem?_cons_succ] at k4
      rw [HB.out] at k4 kf
      go_wp2_with fail
      go_ret
      have hdm:=g1 (w10.setCell ⟨d.blk,4,none⟩ (.int .i64 ((e.n:Int)+1))) (by rw [HB.out];exact Chg.store (S:=fun g => g=d.blk) (Chg.refl _ _) rfl 4 _) (by rw [HB.out];rw [HB.out] at g2;exact g2.set 4 _)
      refine ⟨d',hdm,g4,g5.trans HB.out,g6.trans HS.out,?_,?_,place_new he.out hperm hno g9 g10,.inr ⟨rfl,fun x hx => hno x (hperm.mem_iff.2 hx),?_,?_⟩⟩
      ·exact Chg.store (S:=d.foot) (hC'.trans' ((hC9.mono (fun _ _ h => h.elim):Chg e.foot W5 w9).trans g3) (fun g _ hg => hfoot g hg)) (.inl rfl) 4 _
      ·intro g hg
       exact (g7 g hg).elim (fun h9 => .inl (hfoot g h9)) (fun h9 => .inr (Nat.le_trans hC'.size (Nat.le_trans hC9.size h9)))
      ·obtain ⟨x,hx1,hx2,hx3⟩:=g8
       exact ⟨x,hx1,hx2,hx3.trans (List.Perm.cons x (hperm))⟩
      ·rw [g9,he.out]
       unfold growS
       rw [if_neg]
       rintro ⟨_,h1,h2⟩
       refine HG.out ⟨?_,h2⟩
       rw [HN.out];exact h1
    ·have hx1:¬ e.t0.len<65536:=by omega
     have hg3:(e.n:Int) ≥ (e.t0.len:Int):=by omega
     have hx3:((e.t0.len:Int)<65536)=False:=by simp only [eq_iff_iff,iff_false];omega
     clear hg2 hlen hg1 hx1
     go_wp2_with fail
     refine (hmv _ hD5).mono ?_
     rintro e8 w8 ⟨rfl,rfl⟩
     go_wp2_with fail
     refine (hmv _ hD5).mono ?_
     rintro e8 w8 ⟨rfl,rfl⟩
     go_wp2_with fail
     have hpt:∀ W,DmAt W e→_:=fun W h => put_new e 0 e.t0 q key _ W h hE rfl (fun _ => HT.out) hno HQ.out HV
     unfold tbVal at hpt
     go_region_with (first
      | (go_at_call 105;refine (hof _ (hD5.chg0 ((Chg.refl _ _).drew))).mono ?_;rintro e9 w9 ⟨rfl,hc9⟩;have hC9:=(Chg.refl _ W5).drew.trans hc9;have kbx:=(hbx5.chg hC9 id).cell 0;simp only [List.getElem?_toArray,List.getElem?_cons_zero] at kbx)
      | (go_at_call 104;refine (hpt w9 (hD5.chg0 hC9)).mono ?_;rintro e10 w10 ⟨⟨v10,rfl⟩,d',g1,g2,g3,g4,g5,g6,g7,g8,g9,g10⟩))
     all_goals
      have k4:=g2.cell 4
      have kf:=g2.frozen 4
      simp only [dmCells,List.getElem?_toArray,List.getElem?_cons_zero,List.getElem?_cons_succ] at k4
      rw [HB.out] at k4 kf
      go_wp2_with fail
      go_ret
      have hdm:=g1 (w10.setCell ⟨d.blk,4,none⟩ (.int .i64 ((e.n:Int)+1))) (by rw [HB.out];exact Chg.store (S:=fun g => g=d.blk) (Chg.refl _ _) rfl 4 _) (by rw [HB.out];rw [HB.out] at g2;exact g2.set 4 _)
      refine ⟨d',hdm,g4,g5.trans HB.out,g6.trans HS.out,?_,?_,place_new he.out hperm hno g9 g10,.inr ⟨rfl,fun x hx => hno x (hperm.mem_iff.2 hx),?_,?_⟩⟩
      ·exact Chg.store (S:=d.foot) (hC'.trans' ((hC9.mono (fun _ _ h => h.elim):Chg e.foot W5 w9).trans g3) (fun g _ hg => hfoot g hg)) (.inl rfl) 4 _
      ·intro g hg
       exact (g7 g hg).elim (fun h9 => .inl (hfoot g h9)) (fun h9 => .inr (Nat.le_trans hC'.size (Nat.le_trans hC9.size h9)))
      ·obtain ⟨x,hx1,hx2,hx3⟩:=g8
       exact ⟨x,hx1,hx2,hx3.trans (List.Perm.cons x (hperm))⟩
      ·rw [g9,he.out]
       unfold growS
       rw [if_neg]
       rintro ⟨_,h1,h2⟩
       refine HG.out ⟨?_,h2⟩
       rw [HN.out];exact h1
end Go.Proofs.YtehpmbmdadkhbaaGreatDoor.Dspaceitem

namespace Go.Proofs.YtehpmbmdadkhbaaGreatDoor.Dspaceitem
open Go.RowKit Pal
structure DelPost (d:Dm) (key:ByteArray) (w:World) (e:Ending) (w':World) (d':Dm):Prop where
 dm:DmAt w' d'
 ok:d'.Ok
 blk:d'.blk=d.blk
 seed:d'.seed=d.seed
 chg:Chg d.foot w w'
 foot:∀ g,d'.foot g→d.foot g∨w.heap.size≤g
 place:∀ k,d'.in1 k ↔ (stepD d 1).in1 k∧k≠key
 what:(e=.returned (.bool false)∧(∀ x∈d.nodes,x.key≠key)∧d'.nodes.Perm d.nodes∧shape d'=shape (stepD d 1)) ∨
  (e=.returned (.bool true)∧(∃ x,x.key=key∧d.nodes.Perm (x :: d'.nodes))∧shape d'=shrinkS (shape (stepD d 1)) d'.n)
def DelR (e:Dm) (key:ByteArray) (w1 w':World):Prop :=
 ∃ d',(∀ W2,Chg (fun g => g=e.blk) w' W2→Blk W2 e.blk 125 ((dmCells e).setIfInBounds 4 (.int .i64 ((e.n:Int) - 1)))→DmAt W2 d')∧Blk w' e.blk 125 (dmCells e)∧Chg e.foot w1 w'∧1≤e.n ∧
  d'.Ok∧d'.blk=e.blk∧d'.seed=e.seed∧(∀ g,d'.foot g→e.foot g)∧(∃ x,x.key=key∧e.nodes.Perm (x :: d'.nodes))∧shape d'=shape e∧∀ k,d'.in1 k ↔ e.in1 k∧k≠key
theorem loc_frozen {w:World} {t:Tb} (h:tbAt w t) {i:Nat} (hi:i<t.len) {pre rest:Ch} (e:t.at i=pre++rest):w.frozen? (loc t i pre)=false:=by
 rcases List.eq_nil_or_concat pre with rfl | ⟨p,y,rfl⟩
 ·rw [loc_nil];exact h.1.frozen i
 ·rw [List.concat_eq_append,loc_snoc]
  have hc:=h.2 _ (Tb.at_mem hi)
  rw [e,List.concat_eq_append,List.append_assoc] at hc
  exact (hc.node rfl).frozen 3
theorem delete_with (e:Dm) (key:ByteArray) (w1:World) (hD1:DmAt w1 e) (hE:e.Ok) (hk:key.size≤9223372036854775807) :
  Calls Tryz.prog 67 #[ptr e.blk,.string key,.func (.func 73) #[] #[]] w1 (WithPost e key w1 (DelR e key w1)):=by
 refine with_any e key 73 #[] w1 hD1 hE hk (enters_of Tryz.func73 (by kernel_rfl) rfl) (DelR e key w1) ?_
 intro ti t pre x post W htab hat hxk hC2
 have htz:=(tab_ok hE htab).1.pos
 have hi:sumN e.seed key.data.toList % t.len<t.len:=Nat.mod_lt _ (by omega)
 have hDW:=hD1.chg0 hC2
 have hta:=tab_at hDW htab
 have hL:=loc_cell hta hi hat
 have hX:=(hta.2 _ (Tb.at_mem hi)).node hat
 refine (delete1_any _ x post W hL hX (loc_frozen hta hi hat)).mono ?_
 rintro e5 W5 ⟨hv5,hW5⟩
 obtain ⟨d',h1,h2,h3,h4,h5,h6,h7,h8,h9,h10,h11⟩:=upd_cut hDW hE htab hi hat hW5
 exact ⟨hv5,d',h1,h2,(hC2.mono (fun _ _ h => h.elim):Chg e.foot w1 W).trans h3,h4,h5,h6,h7,h8,⟨x,hxk,h9⟩,h10,fun k => by rw [h11 k,hxk]⟩
set_option maxRecDepth 100000 in
set_option maxHeartbeats 1000000 in
theorem Delete_any (d:Dm) (key:ByteArray) (w:World) (h:DmAt w d) (hok:d.Ok) (hk:key.size≤9223372036854775807) (hn:d.n<1152921504606846976) :
  Calls Tryz.prog 50 #[ptr d.blk,.string key] w fun e w' => ∃ d',DelPost d key w e w' d':=by
 have hlt:=h.hd.lt
 obtain ⟨e,he⟩:∃ e,Hid (stepD d 1=e):=⟨_,rfl⟩
 have hE:e.Ok:=by rw [← he.out];exact moveN_ok hok _
 have hblk:e.blk=d.blk:=by rw [← he.out];exact (moveN_blk d _).1
 have hseed:e.seed=d.seed:=by rw [← he.out];exact (moveN_blk d _).2.1
 have hen:e.n=d.n:=by rw [← he.out];exact (moveN_blk d _).2.2
 have hn':(e.n:Int)<1152921504606846976:=by omega
 have hperm:e.nodes.Perm d.nodes:=by rw [← he.out];exact moveN_perm hok _
 have hfoot:∀ g,e.foot g→d.foot g:=fun g hg => moveN_foot hok _ (by rw [← he.out] at hg;exact hg)
 have hst:∀ w,DmAt w d→_:=fun w h => Step_any d 1 w h hok
 rw [he.out] at hst
 have HB:=Lib.hid hblk
 have HN:=Lib.hid hen
 have HS:=Lib.hid hseed
 have hsw:∀ w1,DmAt w1 e→_:=fun w1 h1 => delete_with e key w1 h1 hE hk
 clear hblk hen hseed
 unfold ptr at hst hsw ⊢
 rw [HB.out] at hsw
 go_enter Tryz.func50,Tryz.ntmps50
 go_wp2_with fail
 refine (hst _ h).mono ?_
 rintro e1 w1 ⟨rfl,hD1,hC⟩
 go_wp2_with fail
 refine (hsw w1 hD1).mono ?_
 rintro e5 W5 (⟨rfl,⟨y,hy,hyk⟩,d',hR1,hR2,hR3,hR4,hR5,hR6,hR7,hR8,⟨x,hR9,hR10⟩,hR11,hR12⟩ | ⟨rfl,hno,hC5⟩)
 ·have k1:=hR2.cell 1
  have k4:=hR2.cell 4
  have kf:=hR2.frozen 4
  simp only [dmCells,tbVal,List.getElem?_toArray,List.getElem?_cons_zero,List.getElem?_cons_succ] at k1 k4
  rw [HB.out] at k1 k4 kf
  have hlen:=hE.s0.pos
  go_wp2_with fail
  have hC6:Chg (fun g => g=e.blk) W5 (W5.setCell ⟨d.blk,4,none⟩ (.int .i64 ((e.n:Int) - 1))):=by rw [HB.out];exact Chg.store (S:=fun g => g=d.blk) (Chg.refl _ _) rfl 4 _
  have hD6:=hR1 _ hC6 (by rw [HB.out];rw [HB.out] at hR2;exact hR2.set 4 _)
  have hCW:Chg d.foot w (W5.setCell ⟨d.blk,4,none⟩ (.int .i64 ((e.n:Int) - 1))):=(hC.trans' hR3 fun g _ hg => hfoot g hg).trans' hC6 fun g _ hg => hg ▸ hfoot _ (.inl rfl)
  generalize W5.setCell ⟨d.blk,4,none⟩ (.int .i64 ((e.n:Int) - 1))=W6 at hD6 hCW hC6 ⊢
  have hmv6:=isMoving_any d' W6 hD6
  obtain ⟨c0,c1,c2,c3,c4,cf,clt⟩:=dm_cells hD6
  unfold ptr at hmv6
  have hb':=hR6.trans HB.out
  have HB':=Lib.hid hb'
  have hsh:=hR11
  unfold shape at hsh
  injection hsh with hl0 hsh
  injection hsh with hl1 hl2
  have hdn:d'.n+1=e.n:=by rw [hR5.count,hE.count,hR10.length_eq];rfl
  have hdn':(d'.n:Int)<1152921504606846976:=by omega
  rw [hb'] at hmv6 c0 c1 c2 c3 c4 cf clt
  have HL0:=Lib.hid hl0
  have HL1:=Lib.hid hl1
  have HDN:=Lib.hid hdn
  have HR6:=Lib.hid hR6
  have HR7:=Lib.hid hR7
  have HR9:=Lib.hid hR9
  have HR11:=Lib.hid hR11
  have HR12:=Lib.hid hR12
  have hfin:∀ g,d'.foot g→d.foot g:=fun g hg => hfoot g (hR8 g hg)
  have hpp:=hperm.symm.trans hR10
  clear hb' hl0 hl1 hl2 hdn hR6 hR7 hR9 hR11 hR12 k1 k4 kf hR1 hR2 hR3 hsw hst
  cases ht:d'.t1 with
  | some t =>
   rw [ht] at hmv6
   have HT:=Lib.hid ht
   clear ht
   refine hmv6.mono ?_
   rintro e8 w8 ⟨rfl,rfl⟩
   go_wp2_with fail
   go_ret
   refine ⟨d',hD6,hR5,HB'.out,HR7.out.trans HS.out,hCW,fun g hg => .inl (hfin g hg),by rw [he.out];exact HR12.out,.inr ⟨rfl,⟨x,HR9.out,hpp⟩,?_⟩⟩
   rw [HR11.out,he.out]
   unfold shrinkS shape
   rw [← HL1.out,HT.out]
   simp
  | none =>
   rw [ht] at hmv6
   have HT:=Lib.hid ht
   clear ht
   have hms:=moves_dm d' (d'.n:Int) W6 hD6 hR5 HT.out
   unfold ptr at hms
   rw [HB'.out] at hms
   by_cases h4:4<e.t0.len
   ·by_cases h8:8 * d'.n<e.t0.len
    ·have h4':(e.t0.len:Int) > 4:=by omega
     have h8':8 * (d'.n:Int)<(e.t0.len:Int):=by omega
     refine hmv6.mono ?_
     rintro e8 w8 ⟨rfl,rfl⟩
     go_wp2_with fail
     refine hms.mono ?_
     rintro e8 w8 ⟨⟨v8,rfl⟩,e2,t,hD8,hE2,hb2,hs2,hn2,hnn2,hf2,hC8,ht2,hsh2,hin2⟩
     go_wp2_with fail
     go_ret
     refine ⟨e2,hD8,hE2,hb2,(hs2.trans HR7.out).trans HS.out,hCW.trans' hC8 fun g _ hg => (by rw [hg];exact .inl rfl),fun g hg => (hf2 g hg).imp (hfin g) fun h9 => Nat.le_trans hCW.size h9,by rw [he.out];exact fun k => (hin2 k).trans (HR12.out k),.inr ⟨rfl,⟨x,HR9.out,by rw [hnn2];exact hpp⟩,?_⟩⟩
     rw [hsh2,he.out,hn2]
     have h1:e.t1.map Tb.len=none:=by rw [← HL1.out,HT.out];rfl
     have hat:d'.at_=e.at_:=by have:=HR11.out;unfold shape at this;injection this with _ this;injection this with _ this
     unfold shrinkS shape
     rw [h1,if_pos ⟨rfl,h4,h8⟩,HL0.out,hat]
    ·have h4':(e.t0.len:Int) > 4:=by omega
     have h8':(8 * (d'.n:Int)<(e.t0.len:Int))=False:=by simp only [eq_iff_iff,iff_false];omega
     have H8:=Lib.hid h8
     clear h8
     refine hmv6.mono ?_
     rintro e8 w8 ⟨rfl,rfl⟩
     go_wp2_with fail
     go_ret
     refine ⟨d',hD6,hR5,HB'.out,HR7.out.trans HS.out,hCW,fun g hg => .inl (hfin g hg),by rw [he.out];exact HR12.out,.inr ⟨rfl,⟨x,HR9.out,hpp⟩,?_⟩⟩
     rw [HR11.out,he.out]
     unfold shrinkS
     rw [if_neg]
     rintro ⟨_,g1,g2⟩
     exact H8.out g2
   ·have H4:=Lib.hid h4
    have h4':((4:Int)<(e.t0.len:Int))=False:=by simp only [eq_iff_iff,iff_false];omega
    clear h4 hlen
    refine hmv6.mono ?_
    rintro e8 w8 ⟨rfl,rfl⟩
    go_wp2_with fail
    go_ret
    refine ⟨d',hD6,hR5,HB'.out,HR7.out.trans HS.out,hCW,fun g hg => .inl (hfin g hg),by rw [he.out];exact HR12.out,.inr ⟨rfl,⟨x,HR9.out,hpp⟩,?_⟩⟩
    rw [HR11.out,he.out]
    unfold shrinkS
    rw [if_neg]
    rintro ⟨_,g1,g2⟩
    exact H4.out g1
 ·go_wp2_with fail
  go_ret
  exact ⟨e,hD1.chg0 hC5,hE,HB.out,HS.out,hC.trans' hC5 fun _ _ h => h.elim,fun g hg => .inl (hfoot g hg),fun k => by rw [he.out];exact ⟨fun h => ⟨h,fun e => by obtain ⟨y,hy,hyk⟩:=in1_nodes h;exact hno y hy (hyk.trans e)⟩,fun h => h.1⟩,.inl ⟨rfl,fun x hx => hno x (hperm.mem_iff.2 hx),hperm,by rw [he.out]⟩⟩
end Go.Proofs.YtehpmbmdadkhbaaGreatDoor.Dspaceitem

namespace Go.Proofs.YtehpmbmdadkhbaaGreatDoor.Dspaceitem
open Go.RowKit Pal
def Dm.look (d:Dm) (k:ByteArray):Option Value:=(d.nodes.find? fun x => decide (x.key=k)).map (·.v)
theorem look_none {d:Dm} {k:ByteArray}:d.look k=none ↔ ∀ x∈d.nodes,x.key≠k:=by
 unfold Dm.look
 simp
theorem nodup_keys_eq:∀ {l:List Nd},(l.map (·.key)).Nodup→∀ {x y:Nd},x∈l→y∈l→x.key=y.key→x=y
 | [],_,_,_,hx,_,_ => by cases hx
 | z :: l,hn,x,y,hx,hy,e => by
  rw [List.map_cons,List.nodup_cons] at hn
  rcases List.mem_cons.1 hx with h1 | h1 <;> rcases List.mem_cons.1 hy with h2 | h2
  ·rw [h1,h2]
  ·exact absurd (List.mem_map.2 ⟨y,h2,by rw [← e,h1]⟩) hn.1
  ·exact absurd (List.mem_map.2 ⟨x,h1,by rw [e,h2]⟩) hn.1
  ·exact nodup_keys_eq hn.2 h1 h2 e
theorem look_of {d:Dm} (hk:(d.nodes.map (·.key)).Nodup) {x:Nd} (hx:x∈d.nodes):d.look x.key=some x.v:=by
 unfold Dm.look
 cases h:d.nodes.find? (fun y => decide (y.key=x.key)) with
 | none => rw [List.find?_eq_none] at h;exact absurd (h x hx) (by simp)
 | some y =>
  have h1:=List.mem_of_find?_eq_some h
  have h2:=List.find?_some h
  rw [nodup_keys_eq hk h1 hx (by simpa using h2)];rfl
theorem look_some {d:Dm} (hk:(d.nodes.map (·.key)).Nodup) {k:ByteArray} {v:Value}:d.look k=some v ↔ ∃ x∈d.nodes,x.key=k∧x.v=v:=by
 constructor
 ·intro h
  unfold Dm.look at h
  rw [Option.map_eq_some_iff] at h
  obtain ⟨x,h1,h2⟩:=h
  exact ⟨x,List.mem_of_find?_eq_some h1,by simpa using List.find?_some h1,h2⟩
 ·rintro ⟨x,hx,rfl,rfl⟩
  exact look_of hk hx
theorem look_ext {d d':Dm} (hk:(d.nodes.map (·.key)).Nodup) (hk':(d'.nodes.map (·.key)).Nodup) {k:ByteArray} (h:∀ v,(∃ x∈d'.nodes,x.key=k∧x.v=v) ↔ ∃ x∈d.nodes,x.key=k∧x.v=v):d'.look k=d.look k:=by
 apply Option.ext
 intro v
 rw [look_some hk,look_some hk']
 exact h v
theorem look_perm {d d':Dm} (hk:(d.nodes.map (·.key)).Nodup) (h:d'.nodes.Perm d.nodes) (k:ByteArray):d'.look k=d.look k :=
 look_ext hk ((h.map _).nodup_iff.2 hk) fun v => ⟨fun ⟨x,hx,e⟩ => ⟨x,h.mem_iff.1 hx,e⟩,fun ⟨x,hx,e⟩ => ⟨x,h.mem_iff.2 hx,e⟩⟩
theorem look_put {d d':Dm} {x:Nd} {v:Value} {r:List Nd} (hk:(d.nodes.map (·.key)).Nodup) (hk':(d'.nodes.map (·.key)).Nodup) (hp:d.nodes.Perm (x :: r)) (hp':d'.nodes.Perm ({ x with v:=v } :: r)) (k:ByteArray) :
  d'.look k=if k=x.key then some v else d.look k:=by
 split
 ·rename_i e
  exact (look_some hk').2 ⟨_,hp'.mem_iff.2 (List.mem_cons_self),e.symm,rfl⟩
 ·rename_i e
  refine look_ext hk hk' fun u => ⟨?_,?_⟩
  ·rintro ⟨y,hy,h1,h2⟩
   rcases List.mem_cons.1 (hp'.mem_iff.1 hy) with rfl | h
   ·exact absurd h1.symm e
   ·exact ⟨y,hp.mem_iff.2 (List.mem_cons_of_mem _ h),h1,h2⟩
  ·rintro ⟨y,hy,h1,h2⟩
   rcases List.mem_cons.1 (hp.mem_iff.1 hy) with rfl | h
   ·exact absurd h1.symm e
   ·exact ⟨y,hp'.mem_iff.2 (List.mem_cons_of_mem _ h),h1,h2⟩
theorem look_new {d d':Dm} {x:Nd} (hk:(d.nodes.map (·.key)).Nodup) (hk':(d'.nodes.map (·.key)).Nodup) (hp':d'.nodes.Perm (x :: d.nodes)) (k:ByteArray) :
  d'.look k=if k=x.key then some x.v else d.look k:=by
 split
 ·rename_i e
  exact (look_some hk').2 ⟨_,hp'.mem_iff.2 (List.mem_cons_self),e.symm,rfl⟩
 ·rename_i e
  refine look_ext hk hk' fun u => ⟨?_,?_⟩
  ·rintro ⟨y,hy,h1,h2⟩
   rcases List.mem_cons.1 (hp'.mem_iff.1 hy) with rfl | h
   ·exact absurd h1.symm e
   ·exact ⟨y,h,h1,h2⟩
  ·rintro ⟨y,hy,h1,h2⟩
   exact ⟨y,hp'.mem_iff.2 (List.mem_cons_of_mem _ hy),h1,h2⟩
theorem look_del {d d':Dm} {x:Nd} (hk:(d.nodes.map (·.key)).Nodup) (hp:d.nodes.Perm (x :: d'.nodes)) (k:ByteArray) :
  d'.look k=if k=x.key then none else d.look k:=by
 have hk2:=(hp.map (·.key)).nodup_iff.1 hk
 rw [List.map_cons,List.nodup_cons] at hk2
 split
 ·rename_i e
  rw [look_none]
  intro y hy h
  exact hk2.1 (List.mem_map.2 ⟨y,hy,h.trans e⟩)
 ·rename_i e
  refine look_ext hk hk2.2 fun u => ⟨?_,?_⟩
  ·rintro ⟨y,hy,h1,h2⟩
   exact ⟨y,hp.mem_iff.2 (List.mem_cons_of_mem _ hy),h1,h2⟩
  ·rintro ⟨y,hy,h1,h2⟩
   rcases List.mem_cons.1 (hp.mem_iff.1 hy) with rfl | h
   ·exact absurd h1.symm e
   ·exact ⟨y,h,h1,h2⟩
def stepS (s:Nat × Option Nat × Nat) (n:Int):Nat × Option Nat × Nat :=
 match s.2.1 with
 | none => s
 | some l => if s.2.2+n.toNat<s.1 then (s.1,some l,s.2.2+n.toNat) else (l,none,0)
theorem moveN_t1 {d:Dm} {t:Tb} (h:d.Ok) (ht:d.t1=some t):∀ k,d.at_+k<d.t0.len→(moveN d k).t1.map Tb.len=some t.len
 | 0,_ => by show d.t1.map Tb.len=_;rw [ht];rfl
 | k+1,hk => by
  have ih:=moveN_t1 h ht k (by omega)
  obtain ⟨h1,h2,h3⟩:=moveN_at h ht k (by omega)
  obtain ⟨t',ht'⟩:=Option.isSome_iff_exists.1 h1
  have hne:¬ (moveN d k).at_+1=(moveN d k).t0.len:=by omega
  have e:moveN d (k+1)={ moveN d k with t0:=(moveN d k).t0.set (moveN d k).at_ [],t1:=some (((moveN d k).t0.at (moveN d k).at_).foldl push t'),at_:=(moveN d k).at_+1 }:=by
   show moveSlot (moveN d k)=_
   unfold moveSlot;rw [ht'];simp [hne]
  rw [e]
  rw [ht'] at ih
  show some (Tb.len _)=_
  rw [fold_len]
  exact ih
theorem stepD_shape {d:Dm} (h:d.Ok) (n:Int):shape (stepD d n)=stepS (shape d) n:=by
 cases ht:d.t1 with
 | none =>
  have e:stepD d n=d:=by unfold stepD stepK;rw [ht];rfl
  rw [e];unfold stepS shape;rw [ht];rfl
 | some t =>
  have hlt:=h.atlt t ht
  have hk:stepK d n=min n.toNat (d.t0.len - d.at_):=by unfold stepK;rw [ht];rfl
  unfold stepS
  have e1:(shape d).2.1=some t.len:=by unfold shape;rw [ht];rfl
  have e2:(shape d).1=d.t0.len:=rfl
  have e3:(shape d).2.2=d.at_:=rfl
  rw [e1,e2,e3]
  dsimp only
  by_cases hc:d.at_+n.toNat<d.t0.len
  ·rw [if_pos hc]
   have hk':stepK d n=n.toNat:=by rw [hk];omega
   obtain ⟨h1,h2,h3⟩:=moveN_at h ht n.toNat hc
   have h4:=moveN_t1 h ht n.toNat hc
   unfold stepD shape
   rw [hk',h2,h3,h4]
  ·rw [if_neg hc]
   have hk':stepK d n=d.t0.len - d.at_:=by rw [hk];omega
   obtain ⟨h1,h2⟩:=moveN_all h ht
   have h3:=(moveN_ok h (d.t0.len - d.at_)).at0 h1
   unfold stepD shape
   rw [hk',h1,h2,h3];rfl
structure Nx (d d':Dm) (w w':World):Prop where
 dm:DmAt w' d'
 ok:d'.Ok
 blk:d'.blk=d.blk
 seed:d'.seed=d.seed
 chg:Chg d.foot w w'
 foot:∀ g,d'.foot g→d.foot g∨w.heap.size≤g
theorem Nx.step {d:Dm} {n:Int} {w w':World} (hok:d.Ok) (h:DmAt w' (stepD d n)) (hc:Chg d.foot w w'):Nx d (stepD d n) w w'∧(∀ k,(stepD d n).look k=d.look k)∧(stepD d n).n=d.n :=
 ⟨⟨h,moveN_ok hok _,(moveN_blk d _).1,(moveN_blk d _).2.1,hc,fun g hg => .inl (moveN_foot hok _ hg)⟩,fun k => look_perm hok.keys (moveN_perm hok _) k,(moveN_blk d _).2.2⟩
theorem Get_i (d:Dm) (key:ByteArray) (w:World) (h:DmAt w d) (hok:d.Ok) (hk:key.size≤9223372036854775807) :
  Calls Tryz.prog 40 #[ptr d.blk,.string key] w fun e w' => e=.returned (.tuple #[(d.look key).getD (.pointer none),.bool (d.look key).isSome])∧∃ d',Nx d d' w w'∧(∀ k,d'.look k=d.look k)∧d'.n=d.n∧shape d'=stepS (shape d) 1:=by
 refine (Get_any d key w h hok hk).mono ?_
 rintro e w' ⟨h1,h2,h3⟩
 obtain ⟨h4,h5,h6⟩:=Nx.step hok h2 h3
 refine ⟨?_,stepD d 1,h4,h5,h6,stepD_shape hok 1⟩
 rcases h1 with ⟨x,hx,rfl,rfl⟩ | ⟨hno,rfl⟩
 ·rw [look_of hok.keys hx];rfl
 ·rw [look_none.2 hno];rfl
theorem Set_i (d:Dm) (key:ByteArray) (v:Value) (w:World) (h:DmAt w d) (hok:d.Ok) (hk:key.size≤9223372036854775807) (hv:VOk v) (hn:d.n<1152921504606846976) :
  Calls Tryz.prog 78 #[ptr d.blk,.string key,v] w fun e w' => e=.returned (.bool (d.look key).isNone)∧∃ d',Nx d d' w w'∧(∀ k,d'.look k=if k=key then some v else d.look k) ∧
   d'.n=(if (d.look key).isNone then d.n+1 else d.n)∧shape d'=if (d.look key).isNone then growS (stepS (shape d) 1) d.n else stepS (shape d) 1:=by
 refine (Set_any d key v w h hok hk hv hn).mono ?_
 rintro e w' ⟨d',⟨h1,h2,h3,h4,h5,h6,_,h7⟩⟩
 have hnx:Nx d d' w w':=⟨h1,h2,h3,h4,h5,h6⟩
 rw [stepD_shape hok 1] at h7
 rcases h7 with ⟨rfl,⟨x,r,g1,rfl,g3⟩,g4⟩ | ⟨rfl,hno,⟨x,rfl,rfl,g3⟩,g4⟩
 ·have hx:=look_of hok.keys (g1.mem_iff.2 (List.mem_cons_self):x∈d.nodes)
  rw [hx]
  refine ⟨rfl,d',hnx,look_put hok.keys h2.keys g1 g3,?_,g4⟩
  rw [h2.count,hok.count,g1.length_eq,g3.length_eq];rfl
 ·rw [look_none.2 hno]
  refine ⟨rfl,d',hnx,look_new hok.keys h2.keys g3,?_,g4⟩
  rw [h2.count,hok.count,g3.length_eq];rfl
theorem Delete_i (d:Dm) (key:ByteArray) (w:World) (h:DmAt w d) (hok:d.Ok) (hk:key.size≤9223372036854775807) (hn:d.n<1152921504606846976) :
  Calls Tryz.prog 50 #[ptr d.blk,.string key] w fun e w' => e=.returned (.bool (d.look key).isSome)∧∃ d',Nx d d' w w'∧(∀ k,d'.look k=if k=key then none else d.look k) ∧
   d'.n=(if (d.look key).isSome then d.n - 1 else d.n)∧shape d'=if (d.look key).isSome then shrinkS (stepS (shape d) 1) (d.n - 1) else stepS (shape d) 1:=by
 refine (Delete_any d key w h hok hk hn).mono ?_
 rintro e w' ⟨d',⟨h1,h2,h3,h4,h5,h6,_,h7⟩⟩
 have hnx:Nx d d' w w':=⟨h1,h2,h3,h4,h5,h6⟩
 rw [stepD_shape hok 1] at h7
 rcases h7 with ⟨rfl,hno,g3,g4⟩ | ⟨rfl,⟨x,rfl,g1⟩,g4⟩
 ·have hl:=look_none.2 hno
  rw [hl]
  refine ⟨rfl,d',hnx,fun k => ?_,?_,g4⟩
  ·rw [look_perm hok.keys g3]
   split
   ·rename_i e;rw [e];exact hl
   ·rfl
  ·rw [h2.count,hok.count,g3.length_eq];rfl
 ·have hx:=look_of hok.keys (g1.mem_iff.2 (List.mem_cons_self):x∈d.nodes)
  have hdn:d'.n=d.n - 1:=by rw [h2.count,hok.count,g1.length_eq];rfl
  rw [hx]
  refine ⟨rfl,d',hnx,look_del hok.keys g1,hdn,?_⟩
  rw [g4,hdn];rfl
theorem New_i (seed:Nat) (hs:seed<4294967296) (w:World) :
  Calls Tryz.prog 51 #[.int .u32 (seed:Int)] w fun e w' => ∃ d,e=.returned (ptr d.blk)∧DmAt w' d∧d.Ok∧d.seed=seed∧d.n=0∧(∀ k,d.look k=none)∧shape d=(4,none,0)∧(∀ g,d.foot g→w.heap.size≤g)∧Chg (fun _ => False) w w':=by
 refine (New_any seed w).mono ?_
 rintro e w' ⟨b,c,rfl,h1,h2,h3,h4⟩
 have hat:∀ i,(newDm b c seed).t0.at i=[]:=fun i => by
  unfold Tb.at newDm
  dsimp only
  rw [List.getD_eq_getElem?_getD,List.getElem?_replicate]
  split <;> rfl
 refine ⟨newDm b c seed,rfl,h1,?_,rfl,rfl,fun k => rfl,rfl,fun g hg => ?_,h4⟩
 ·exact { seed:=hs,s0:=⟨2,by omega,by omega,rfl⟩,s1:=fun _ e => (by cases e),in0:=fun i x _ hx => (by rw [hat i] at hx;cases hx),in1:=fun _ e => (by cases e),sums:=fun x hx => (by cases hx),keys:=List.nodup_nil,vok:=fun x hx => (by cases hx),count:=rfl,atlt:=fun _ e => (by cases e),at0:=fun _ => rfl,moved:=fun i hi => (by cases hi) }
 ·rcases hg with rfl | rfl | ⟨t,ht,rfl⟩ | ⟨x,hx,rfl⟩
  ·exact h2
  ·exact h3
  ·cases ht
  ·cases hx
-- Tryz.func87
end Go.Proofs.YtehpmbmdadkhbaaGreatDoor.Dspaceitem

namespace Go.Proofs.YtehpmbmdadkhbaaGreatDoor.Dspaceitem
open Go.RowKit Pal
structure Mine (n:Nat) (w:World) (d:Dm):Prop where
 dm:DmAt w d
 ok:d.Ok
 new:∀ g,d.foot g→n≤g
end Go.Proofs.YtehpmbmdadkhbaaGreatDoor.Dspaceitem

namespace Go.Proofs.YtehpmbmdadkhbaaGreatDoor.Dspaceitem
open Go.RowKit Pal
structure One (w0 W:World) (bd:Nat) (d:Dm):Prop where
 md:Mine w0.heap.size W d
 bd:d.blk=bd
 chg:Chg (fun _ => False) w0 W
section
variable {w0 W W':World} {bd:Nat} {d d':Dm}
end
structure Two (n0:Nat) (w0 W:World) (bd be:Nat) (d e:Dm):Prop where
 md:Mine n0 W d
 me:Mine n0 W e
 apart:∀ g,d.foot g→¬ e.foot g
 bd:d.blk=bd
 be:e.blk=be
 chg:Chg (fun _ => False) w0 W
 n0:w0.heap.size=n0
section
variable {n0:Nat} {w0 W W':World} {bd be B:Nat} {d e d' e':Dm} {t:TypeId} {cs:Array Value}
end
end Go.Proofs.YtehpmbmdadkhbaaGreatDoor.Dspaceitem

namespace Go.Proofs.YtehpmbmdadkhbaaGreatDoor.Dspaceitem
open Go.RowKit Pal
section
variable {w0 W:World} {bd:Nat} {d:Dm}
-- Tryz.func35
-- Tryz.func87
end
end Go.Proofs.YtehpmbmdadkhbaaGreatDoor.Dspaceitem

namespace Go.Proofs.YtehpmbmdadkhbaaGreatDoor.Dspaceitem
open Go.RowKit Pal
def bndZ (s:Nat × Option Nat × Nat):Prop:=s.1≤1024∧∀ l,s.2.1=some l→l≤1024
theorem sizeFor_1024 {n:Int} (h:n≤1024):sizeFor n≤1024:=by
 obtain ⟨k,h2,h16,e,hlt,_⟩:=sizeFor_spec n
 rw [e]
 rcases Nat.lt_or_ge k 11 with h' | h'
 ·exact pow_mono (b:=10) (by omega)
 ·have:=hlt 10 (by omega) (by omega)
  have e9:((2 ^ 10:Nat):Int)=1024:=rfl
  omega
theorem bz_step {s:Nat × Option Nat × Nat} (h:bndZ s) (n:Int):bndZ (stepS s n):=by
 unfold stepS
 obtain ⟨s0,s1,s2⟩:=s
 cases s1 with
 | none => exact h
 | some l =>
  dsimp only
  split
  ·exact ⟨h.1,fun l' e => h.2 l' e⟩
  ·exact ⟨h.2 l rfl,fun l' e => (by cases e)⟩
theorem bz_grow {s:Nat × Option Nat × Nat} (h:bndZ s) {n:Nat} (hn:n≤512):bndZ (growS s n):=by
 unfold growS
 split
 ·exact ⟨h.1,fun l e => by injection e with e;rw [← e];exact sizeFor_1024 (by omega)⟩
 ·exact h
theorem bz_shrink {s:Nat × Option Nat × Nat} (h:bndZ s) {n:Nat} (hn:n≤512):bndZ (shrinkS s n):=by
 unfold shrinkS
 split
 ·exact ⟨h.1,fun l e => by injection e with e;rw [← e];exact sizeFor_1024 (by omega)⟩
 ·exact h
theorem bz_ite {p:Prop} [Decidable p] {a b:Nat × Option Nat × Nat} (ha:bndZ a) (hb:bndZ b):bndZ (if p then a else b):=by
 split <;> assumption
end Go.Proofs.YtehpmbmdadkhbaaGreatDoor.Dspaceitem

namespace Go.Proofs.YtehpmbmdadkhbaaGreatDoor
open Go.RowKit Pal
structure It where
 key:ByteArray
 blk:Nat
 z:Zs
 es:List En
 u:Us
def It.foot (i:It) (g:Nat):Prop:=g=i.blk∨i.z.foot g
structure Spc where
 blk:Nat
 E:Int
 M:Int
 seed:Nat
 mx:Int
 d:Dspaceitem.Dm
 its:List It
def Spc.foot (s:Spc) (g:Nat):Prop:=g=s.blk∨s.d.foot g∨∃ i∈s.its,i.foot g
structure ItAt (w:World) (base:Nat) (E M:Nat) (i:It):Prop where
 b:Blk w i.blk 90 #[pt i.z.blk,.int .i64 i.u.c,.int .i64 i.u.a]
 z:ZsAt w base i.z i.es
 E:i.z.E=E
 M:i.z.M=M
 ge:base≤i.blk
 u:i.u.Ok
 k:i.key.size≤64
structure SpAt (w:World) (base:Nat) (s:Spc):Prop where
 b:Blk w s.blk 78 #[.int .i64 s.E,.int .i64 s.M,.int .u32 (s.seed:Int),.int .i64 s.mx,pt s.d.blk]
 dm:Dspaceitem.DmAt w s.d
 ok:s.d.Ok
 look:∀ k,s.d.look k=(findK It.key s.its k).map fun i => pt i.blk
 dn:s.d.n=s.its.length
 bz:Dspaceitem.bndZ (Dspaceitem.shape s.d)
 it:∀ i∈s.its,ItAt w base (clampL 200 s.E) (clampL 64 s.M) i
 so:SoK It.key s.its
 dis:∀ i∈s.its,∀ j∈s.its,i.key≠j.key→∀ g,i.foot g→¬ j.foot g
 n:s.its.length≤500
 ge:base≤s.blk∧∀ g,s.d.foot g→base≤g
 sd:s.seed<4294967296
section
variable {w w':World} {base:Nat} {s:Spc}
theorem dmS_ty {d:Dspaceitem.Dm} (h:Dspaceitem.DmAt w d) {g:Nat} (hg:d.foot g):∃ t cs,Blk w g t cs∧(t=125∨t=136∨t=138):=by
 rcases hg with rfl | rfl | ⟨t,ht,rfl⟩ | ⟨x,hx,rfl⟩
 ·exact ⟨_,_,h.hd,.inl rfl⟩
 ·exact ⟨_,_,h.a0.1,.inr (.inl rfl)⟩
 ·exact ⟨_,_,(h.a1 t ht).1,.inr (.inl rfl)⟩
 ·obtain ⟨nx,hb⟩:=h.node hx
  exact ⟨_,_,hb,.inr (.inr rfl)⟩
theorem it_ty {E M:Nat} {i:It} (h:ItAt w base E M i) {g:Nat} (hg:i.foot g):∃ t cs,Blk w g t cs∧(t=90∨t=104∨t=204∨t=212∨t=252∨t=250∨t=256∨t=275∨t=277):=by
 rcases hg with rfl | hg
 ·exact ⟨_,_,h.b,.inl rfl⟩
 ·obtain ⟨t,cs,hb,ht⟩:=zs_ty h.z hg
  exact ⟨t,cs,hb,.inr ht⟩
theorem ItAt.b_z {E M:Nat} {i:It} (h:ItAt w base E M i):¬ i.z.foot i.blk:=by
 intro hg
 obtain ⟨t,cs,hb,ht⟩:=zs_ty h.z hg
 refine h.b.ne_type hb ?_ rfl
 rcases ht with rfl | rfl | rfl | rfl | rfl | rfl | rfl | rfl <;> decide
theorem ItAt.chg {E M:Nat} {i:It} {S:Nat→Prop} (h:ItAt w base E M i) (hc:Chg S w w') (hn:∀ g,i.foot g→¬ S g):ItAt w' base E M i :=
 { h with b:=h.b.chg hc (hn _ (.inl rfl)),z:=h.z.chg hc fun g hg => hn _ (.inr hg) }
theorem ItAt.lt {E M:Nat} {i:It} (h:ItAt w base E M i) {g:Nat} (hg:i.foot g):base≤g∧g<w.heap.size:=by
 rcases hg with rfl | hg
 ·exact ⟨h.ge,h.b.lt⟩
 ·exact h.z.lt hg
theorem SpAt.b_dm (h:SpAt w base s):¬ s.d.foot s.blk:=by
 intro hg
 obtain ⟨t,cs,hb,ht⟩:=dmS_ty h.dm hg
 refine h.b.ne_type hb ?_ rfl
 rcases ht with rfl | rfl | rfl <;> decide
theorem it_blk {E M:Nat} {i:It} {cs0:Array Value} {b:Nat} (hb0:Blk w b 78 cs0) (h:ItAt w base E M i):¬ i.foot b:=by
 intro hg
 obtain ⟨t,cs,hb,ht⟩:=it_ty h hg
 refine hb0.ne_type hb ?_ rfl
 rcases ht with rfl | rfl | rfl | rfl | rfl | rfl | rfl | rfl | rfl <;> decide
theorem it_dm {E M:Nat} {i:It} {d:Dspaceitem.Dm} (hd:Dspaceitem.DmAt w d) (h:ItAt w base E M i) {g:Nat} (hg:i.foot g):¬ d.foot g:=by
 intro hd2
 obtain ⟨t,cs,hb,ht⟩:=it_ty h hg
 obtain ⟨t',cs',hb',ht'⟩:=dmS_ty hd hd2
 refine hb.ne_type hb' ?_ rfl
 rcases ht with rfl | rfl | rfl | rfl | rfl | rfl | rfl | rfl | rfl <;> rcases ht' with rfl | rfl | rfl <;> decide
theorem SpAt.chg {S:Nat→Prop} (h:SpAt w base s) (hc:Chg S w w') (hn:∀ g,s.foot g→¬ S g):SpAt w' base s :=
 { h with b:=h.b.chg hc (hn _ (.inl rfl)),dm:=h.dm.chg hc fun g hg => hn _ (.inr (.inl hg)),it:=fun i hi => (h.it i hi).chg hc fun g hg => hn _ (.inr (.inr ⟨i,hi,hg⟩)) }
theorem SpAt.chg0 (h:SpAt w base s) (hc:Chg (fun _ => False) w w'):SpAt w' base s:=h.chg hc fun _ _ => id
theorem SpAt.lt (h:SpAt w base s) {g:Nat} (hg:s.foot g):base≤g∧g<w.heap.size:=by
 rcases hg with rfl | hg | ⟨i,hi,hg⟩
 ·exact ⟨h.ge.1,h.b.lt⟩
 ·exact ⟨h.ge.2 g hg,h.dm.lt hg⟩
 ·exact (h.it i hi).lt hg
theorem SpAt.cells (h:SpAt w base s):w.cell? ⟨s.blk,0,none⟩=some (.int .i64 s.E)∧w.cell? ⟨s.blk,1,none⟩=some (.int .i64 s.M)∧w.cell? ⟨s.blk,2,none⟩=some (.int .u32 (s.seed:Int))∧w.cell? ⟨s.blk,3,none⟩=some (.int .i64 s.mx)∧w.cell? ⟨s.blk,4,none⟩=some (pt s.d.blk)∧s.blk<w.heap.size:=by
 have h0:=h.b.cell 0
 have h1:=h.b.cell 1
 have h2:=h.b.cell 2
 have h3:=h.b.cell 3
 have h4:=h.b.cell 4
 exact ⟨by simpa using h0,by simpa using h1,by simpa using h2,by simpa using h3,by simpa using h4,h.b.lt⟩
theorem ItAt.cells {E M:Nat} {i:It} (h:ItAt w base E M i):w.cell? ⟨i.blk,0,none⟩=some (pt i.z.blk)∧w.cell? ⟨i.blk,1,none⟩=some (.int .i64 i.u.c)∧w.cell? ⟨i.blk,2,none⟩=some (.int .i64 i.u.a)∧i.blk<w.heap.size:=by
 have h0:=h.b.cell 0
 have h1:=h.b.cell 1
 have h2:=h.b.cell 2
 exact ⟨by simpa using h0,by simpa using h1,by simpa using h2,h.b.lt⟩
structure Sx (base:Nat) (s s':Spc) (w w':World):Prop where
 at_:SpAt w' base s'
 blk:s'.blk=s.blk
 E:s'.E=s.E
 M:s'.M=s.M
 seed:s'.seed=s.seed
 mx:s'.mx=s.mx
 chg:Chg s.foot w w'
 foot:∀ g,s'.foot g→s.foot g∨w.heap.size≤g
theorem Sx.zero (h:SpAt w base s) (hc:Chg (fun _ => False) w w'):Sx base s s w w':=⟨h.chg0 hc,rfl,rfl,rfl,rfl,rfl,hc.mono fun _ _ h => h.elim,fun _ => .inl⟩
theorem Sx.trans {s' s'':Spc} {w'':World} (h:Sx base s s' w w') (k:Sx base s' s'' w' w''):Sx base s s'' w w'' :=
 ⟨k.at_,k.blk.trans h.blk,k.E.trans h.E,k.M.trans h.M,k.seed.trans h.seed,k.mx.trans h.mx,h.chg.trans' k.chg fun g hg hf => (h.foot g hf).elim id fun h2 => by omega,
  fun g hg => (k.foot g hg).elim (h.foot g) fun h2 => .inr (Nat.le_trans h.chg.size h2)⟩
theorem SpAt.dict (h:SpAt w base s) {d':Dspaceitem.Dm} {its':List It} (hn:Dspaceitem.Nx s.d d' w w') (hi:∀ i∈its',ItAt w base (clampL 200 s.E) (clampL 64 s.M) i) (hd:∀ i∈its',∀ j∈its',i.key≠j.key→∀ g,i.foot g→¬ j.foot g)
  (so:SoK It.key its') (hl:∀ k,d'.look k=(findK It.key its' k).map fun i => pt i.blk) (hdn:d'.n=its'.length) (h5:its'.length≤500) (hz:Dspaceitem.bndZ (Dspaceitem.shape d')):SpAt w' base { s with d:=d',its:=its' } where
 b:=by
  have:=h.b.chg hn.chg h.b_dm
  show Blk w' s.blk _ #[_,_,_,_,pt d'.blk]
  rw [hn.blk];exact this
 dm:=hn.dm
 ok:=hn.ok
 look:=hl
 dn:=hdn
 bz:=hz
 it:=fun i hm => (hi i hm).chg hn.chg fun g hg => it_dm h.dm (hi i hm) hg
 so:=so
 dis:=hd
 n:=h5
 ge:=⟨h.ge.1,fun g hg => (hn.foot g hg).elim (h.ge.2 g) fun h2 => Nat.le_trans (Nat.le_trans h.ge.1 (Nat.le_of_lt h.b.lt)) h2⟩
 sd:=h.sd
theorem SpAt.item (h:SpAt w base s) {i i':It} (hi:i∈s.its) (hk:i'.key=i.key) (hb:i'.blk=i.blk) (hc:Chg i.foot w w') (hat:ItAt w' base (clampL 200 s.E) (clampL 64 s.M) i') (hf:∀ g,i'.foot g→i.foot g∨w.heap.size≤g):Sx base s { s with its:=updK It.key s.its i' } w w':=by
 have hlt:∀ j∈s.its,∀ g,j.foot g→g<w.heap.size:=fun j hj g hg => ((h.it j hj).lt hg).2
 have hex:∃ j∈s.its,j.key=i'.key:=⟨i,hi,hk.symm⟩
 refine ⟨⟨h.b.chg hc (it_blk h.b (h.it i hi)),h.dm.chg hc fun g hg hg2 => it_dm h.dm (h.it i hi) hg2 hg,h.ok,fun k => ?_,?_,h.bz,fun j hj => ?_,updK_so h.so _,?_,?_,h.ge,h.sd⟩,rfl,rfl,rfl,rfl,rfl,hc.mono fun g _ hg => .inr (.inr ⟨i,hi,hg⟩),?_⟩
 ·show s.d.look k=(findK It.key (updK It.key s.its i') k).map _
  rw [findK_upd h.so hex,h.look]
  split
  ·rename_i e
   rw [e,hk,(findK_some h.so).2 ⟨hi,rfl⟩]
   show some (pt i.blk)=some (pt i'.blk)
   rw [hb]
  ·rfl
 ·show s.d.n=(updK It.key s.its i').length
  rw [updK_len];exact h.dn
 ·rcases mem_updK hj with rfl | ⟨hj,hne⟩
  ·exact hat
  ·exact (h.it j hj).chg hc fun g hg hg2 => h.dis j hj i hi (by rw [hk] at hne;exact hne) g hg hg2
 ·intro j hj j2 hj2 hne g hg hg2
  rcases mem_updK hj with rfl | ⟨hja,hn1⟩ <;> rcases mem_updK hj2 with rfl | ⟨hjb,hn2⟩
  ·exact hne rfl
  ·rcases hf g hg with h1 | h1
   ·exact h.dis i hi j2 hjb (by rw [← hk];exact hne) g h1 hg2
   ·exact absurd (hlt j2 hjb g hg2) (by omega)
  ·rcases hf g hg2 with h1 | h1
   ·exact h.dis j hja i hi (by rw [← hk];exact hne) g hg h1
   ·exact absurd (hlt j hja g hg) (by omega)
  ·exact h.dis j hja j2 hjb hne g hg hg2
 ·show (updK It.key s.its i').length≤500
  rw [updK_len];exact h.n
 ·rintro g (hg | hg | ⟨j,hj,hg⟩)
  ·exact .inl (.inl hg)
  ·exact .inl (.inr (.inl hg))
  ·rcases mem_updK hj with rfl | ⟨hj,_⟩
   ·exact (hf g hg).imp (fun h1 => .inr (.inr ⟨i,hi,h1⟩)) id
   ·exact .inl (.inr (.inr ⟨j,hj,hg⟩))
end
end Go.Proofs.YtehpmbmdadkhbaaGreatDoor

namespace Go.Proofs.YtehpmbmdadkhbaaGreatDoor
open Go.RowKit Pal
section
variable {w w':World} {base:Nat} {s:Spc}
theorem Sx.dict {d':Dspaceitem.Dm} {its':List It} (hn:Dspaceitem.Nx s.d d' w w') (hat:SpAt w' base { s with d:=d',its:=its' }) (hsub:∀ i∈its',∀ g,i.foot g→s.foot g∨w.heap.size≤g):Sx base s { s with d:=d',its:=its' } w w' :=
 ⟨hat,rfl,rfl,rfl,rfl,rfl,hn.chg.mono fun g _ hg => .inr (.inl hg),fun g hg => hg.elim (fun e => .inl (.inl e)) fun hg => hg.elim (fun h => (hn.foot g h).imp (fun h => .inr (.inl h)) id) fun ⟨i,hi,hg⟩ => hsub i hi g hg⟩
theorem sub_foot {its':List It} (h:∀ i∈its',i∈s.its):∀ i∈its',∀ g,i.foot g→s.foot g∨w.heap.size≤g:=fun i hi _ hg => .inl (.inr (.inr ⟨i,h i hi,hg⟩))
def itV (o:Option It):Value:=(o.map fun i => pt i.blk).getD (.pointer none)
theorem sp_get (h:SpAt w base s) (k:ByteArray) (hk:k.size≤9223372036854775807):Calls Tryz.prog 40 #[pt s.d.blk,.string k] w fun r w' => r=.returned (.tuple #[itV (findK It.key s.its k),.bool (findK It.key s.its k).isSome])∧∃ d',Sx base s { s with d:=d' } w w':=by
 have hg:=Dspaceitem.Get_i s.d k w h.dm h.ok hk
 rw [h.look k] at hg
 refine hg.mono ?_
 rintro r w' ⟨rfl,d',hn,hl,hd,hz⟩
 refine ⟨?_,d',Sx.dict hn (h.dict hn h.it h.dis h.so (fun k => by rw [hl,h.look]) (hd.trans h.dn) h.n (by rw [hz];exact Dspaceitem.bz_step h.bz _)) (sub_foot fun i hi => hi)⟩
 rw [Option.isSome_map];rfl
theorem sp_delete (h:SpAt w base s) (k:ByteArray) (hk:k.size≤9223372036854775807):Calls Tryz.prog 50 #[pt s.d.blk,.string k] w fun r w' => r=.returned (.bool (findK It.key s.its k).isSome)∧∃ d',Sx base s { s with d:=d',its:=cutK It.key s.its k } w w':=by
 have h5:=h.n
 have hg:=Dspaceitem.Delete_i s.d k w h.dm h.ok hk (by rw [h.dn];omega)
 rw [h.look k,Option.isSome_map] at hg
 refine hg.mono ?_
 rintro r w' ⟨rfl,d',hn,hl,hd,hz⟩
 have hm:∀ i∈cutK It.key s.its k,i∈s.its:=fun i hi => (mem_cutK.1 hi).1
 refine ⟨rfl,d',Sx.dict hn (h.dict hn (fun i hi => h.it i (hm i hi)) (fun i hi j hj => h.dis i (hm i hi) j (hm j hj)) (cutK_so h.so k) (fun k' => ?_) ?_ ?_ ?_) (sub_foot hm)⟩
 ·rw [hl,findK_cut h.so,h.look]
  split <;> rfl
 ·rw [hd,cutK_len h.so,h.dn]
 ·rw [cutK_len h.so];split <;> omega
 ·rw [hz]
  exact Dspaceitem.bz_ite (Dspaceitem.bz_shrink (Dspaceitem.bz_step h.bz _) (by rw [h.dn];omega)) (Dspaceitem.bz_step h.bz _)
theorem sp_add (h:SpAt w base s) (i0:It) (hno:findK It.key s.its i0.key=none) (hi0:ItAt w base (clampL 200 s.E) (clampL 64 s.M) i0) (hd0:∀ g,i0.foot g→¬ s.foot g) (h5:s.its.length<500):Calls Tryz.prog 78 #[pt s.d.blk,.string i0.key,pt i0.blk] w fun r w' => (∃ v,r=.returned v)∧∃ d',SpAt w' base { s with d:=d',its:=insK It.key i0 s.its }∧Dspaceitem.Nx s.d d' w w':=by
 have hg:=Dspaceitem.Set_i s.d i0.key (pt i0.blk) w h.dm h.ok (by have:=hi0.k;omega) ⟨_,rfl⟩ (by rw [h.dn];omega)
 rw [h.look,hno] at hg
 refine hg.mono ?_
 rintro r w' ⟨rfl,d',hn,hl,hd,hz⟩
 have hne:=findK_none.1 hno
 refine ⟨⟨_,rfl⟩,d',h.dict hn (fun x hx => ?_) (fun x hx y hy hij q hq hq2 => ?_) (insK_so h.so hne) (fun k' => ?_) ?_ ?_ ?_,hn⟩
 ·rcases mem_insK.1 hx with rfl | hxa
  ·exact hi0
  ·exact h.it x hxa
 ·rcases mem_insK.1 hx with rfl | hxa <;> rcases mem_insK.1 hy with rfl | hya
  ·exact hij rfl
  ·exact hd0 q hq (.inr (.inr ⟨y,hya,hq2⟩))
  ·exact hd0 q hq2 (.inr (.inr ⟨x,hxa,hq⟩))
  ·exact h.dis x hxa y hya hij q hq hq2
 ·rw [hl,findK_ins h.so hne,h.look]
  split <;> rfl
 ·rw [hd,insK_len,h.dn];rfl
 ·rw [insK_len];omega
 ·rw [hz]
  exact Dspaceitem.bz_ite (Dspaceitem.bz_grow (Dspaceitem.bz_step h.bz _) (by rw [h.dn];omega)) (Dspaceitem.bz_step h.bz _)
theorem sp_len (h:SpAt w base s):Calls Tryz.prog 35 #[pt s.d.blk] w fun r w' => r=.returned (.int .i64 (s.its.length:Int))∧w=w':=by
 have:=Dspaceitem.len_any s.d w h.dm
 rw [h.dn] at this
 exact this
end
end Go.Proofs.YtehpmbmdadkhbaaGreatDoor

namespace Go.Proofs.YtehpmbmdadkhbaaGreatDoor
open Go.RowKit Pal
def It.ct (i:It):Ct:=⟨i.key,i.es,i.z.f.is,i.u⟩
theorem ct_key (i:It):Ct.key i.ct=It.key i:=rfl
structure Cf where
 E:Int
 M:Int
 seed:Nat
 mx:Int
structure Spa (w0 W:World) (b:Nat) (cf:Cf) (l:List Ct) (F:Nat→Prop):Prop where
 ex:∃ s:Spc,SpAt W w0.heap.size s∧s.blk=b∧(s.E=cf.E∧s.M=cf.M∧s.seed=cf.seed∧s.mx=cf.mx)∧s.its.map It.ct=l∧s.foot=F
 chg:Chg (fun _ => False) w0 W
structure Nf (F F':Nat→Prop) (W W':World):Prop where
 chg:Chg F W W'
 foot:∀ g,F' g→F g∨W.heap.size≤g
section
variable {w0 W W':World} {b:Nat} {cf:Cf} {l:List Ct} {F F' F'':Nat→Prop} {base:Nat} {s s':Spc}
theorem Nf.zero (hc:Chg (fun _ => False) W W'):Nf F F W W':=⟨hc.mono fun _ _ h => h.elim,fun _ => .inl⟩
theorem Nf.trans {W'':World} (h:Nf F F' W W') (k:Nf F' F'' W' W''):Nf F F'' W W'' :=
 ⟨h.chg.trans' k.chg fun g hg hf => (h.foot g hf).elim id fun h2 => by omega,fun g hg => (k.foot g hg).elim (h.foot g) fun h2 => .inr (Nat.le_trans h.chg.size h2)⟩
theorem Sx.nf (h:Sx base s s' W W'):Nf s.foot s'.foot W W':=⟨h.chg,h.foot⟩
theorem Spa.lt (h:Spa w0 W b cf l F) {g:Nat} (hg:F g):w0.heap.size≤g∧g<W.heap.size:=by
 obtain ⟨s,hs,_,_,_,rfl⟩:=h.ex
 exact hs.lt hg
theorem Spa.keep {S:Nat→Prop} (h:Spa w0 W b cf l F) (hc:Chg S W W') (hn:∀ g,F g→¬ S g) (h0:∀ g,S g→w0.heap.size≤g):Spa w0 W' b cf l F:=by
 obtain ⟨⟨s,hs,h1,h2,h3,rfl⟩,hw⟩:=h
 exact ⟨⟨s,hs.chg hc hn,h1,h2,h3,rfl⟩,hw.trans' hc fun g hg hs => by have:=h0 g hs;omega⟩
theorem Spa.chg0 (h:Spa w0 W b cf l F) (hc:Chg (fun _ => False) W W'):Spa w0 W' b cf l F:=h.keep hc (fun _ _ => id) fun _ h => h.elim
theorem Spa.step (hw:Chg (fun _ => False) w0 W) (hs:SpAt W w0.heap.size s) (hx:Sx w0.heap.size s s' W W'):Spa w0 W' s.blk ⟨s.E,s.M,s.seed,s.mx⟩ (s'.its.map It.ct) s'.foot∧Nf s.foot s'.foot W W' :=
 ⟨⟨⟨s',hx.at_,hx.blk,⟨hx.E,hx.M,hx.seed,hx.mx⟩,rfl,rfl⟩,hw.trans' hx.chg fun g hg hf => by have:=(hs.lt hf).1;omega⟩,hx.nf⟩
theorem SpAt.cok (h:SpAt W base s):Cok (s.its.map It.ct)∧(s.its.map It.ct).length≤500:=by
 refine ⟨⟨(so_map (key:=It.key) (keyb:=Ct.key) (f:=It.ct) ct_key).2 h.so,?_,?_,?_⟩,by rw [List.length_map];exact h.n⟩ <;>
 ·intro c hc
  obtain ⟨i,hi,rfl⟩:=List.mem_map.1 hc
  first | exact (h.it i hi).u | exact (h.it i hi).k | exact (h.it i hi).z.ok
theorem Spa.cok (h:Spa w0 W b cf l F):Cok l∧l.length≤500:=by
 obtain ⟨s,hs,_,_,rfl,_⟩:=h.ex
 exact hs.cok
theorem find_ct (l:List It) (k:ByteArray):findK Ct.key (l.map It.ct) k=(findK It.key l k).map It.ct:=findK_map (key:=It.key) (keyb:=Ct.key) ct_key l k
theorem upd_ct (l:List It) (i:It):(updK It.key l i).map It.ct=updK Ct.key (l.map It.ct) i.ct:=updK_map (key:=It.key) (keyb:=Ct.key) ct_key l i
theorem ins_ct (l:List It) (i:It):(insK It.key i l).map It.ct=insK Ct.key i.ct (l.map It.ct):=insK_map (key:=It.key) (keyb:=Ct.key) ct_key i l
theorem cut_ct (l:List It) (k:ByteArray):(cutK It.key l k).map It.ct=cutK Ct.key (l.map It.ct) k:=cutK_map (key:=It.key) (keyb:=Ct.key) ct_key l k
end
end Go.Proofs.YtehpmbmdadkhbaaGreatDoor

namespace Go.Proofs.YtehpmbmdadkhbaaGreatDoor
open Go.RowKit Pal
attribute [local go_sem] Oper.semAt_some
set_option maxRecDepth 100000 in
theorem within_lfu (m c:Int) (h:0≤c∧c≤m) (g:Nat) (w:World) (hb:Blk w g 3 #[.int .i64 c]):Calls Tryz.prog 69 #[.int .i64 m,.slice (some ⟨g,0,none⟩) 1 1] w fun r w' => r=.returned (.bool true)∧w=w':=by
 have c0:=hb.cell 0
 have l0:=hb.lt
 simp only [List.getElem?_toArray,List.getElem?_cons_zero] at c0
 have h1:¬ c<0:=by omega
 have h2:¬ m<c:=by omega
 go_enter Tryz.func69,Tryz.ntmps69
 go_wp2_with fail
 go_loopg [9] 1 (fun k v W => ((v=.int .i64 0∧k=1)∨(v=.int .i64 1∧k=0))∧w=W)
 case atStart => exact ⟨.inl ⟨rfl,rfl⟩,rfl⟩
 case round =>
  obtain ⟨⟨rfl,rfl⟩ | ⟨rfl,rfl⟩,rfl⟩:=hrel
  ·go_wp2_with fail
   go_roundg 0
   case measure => omega
   case rel => exact ⟨.inr ⟨rfl,rfl⟩,rfl⟩
  ·go_wp2_with fail
   go_ret
   exact ⟨rfl,rfl⟩
set_option maxRecDepth 100000 in
theorem right_lfu (u:Us) (h:u.Ok) (w:World):Calls Tryz.prog 41 #[.agg u.cs] w fun r w' => r=.returned (.bool true)∧Chg (fun _ => False) w w':=by
 obtain ⟨c,a⟩:=u
 obtain ⟨⟨h1,h2⟩,h3,h4⟩:=h
 unfold Us.cs
 have hw:=fun g w hb => within_lfu 255 c ⟨h1,h2⟩ g w hb
 dsimp only at h1 h2 h3 h4
 have h5:¬ a<0:=by omega
 go_enter Tryz.func41,Tryz.ntmps41
 go_wp2_with (first
  | (go_at_call 69;refine (hw _ _ (by first | exact Blk.new _ _ _ | (have:=Blk.new (w.alloc (.cells #[.int .i64 c,.int .i64 a] 42)) 3 #[.int .i64 c];simpa using this))).mono ?_;rintro r w1 ⟨rfl,rfl⟩)
  | fail)
 go_ret
 exact ⟨rfl,((Chg.refl _ w).alloc _).alloc _⟩
set_option maxRecDepth 100000 in
theorem new_lfu (w:World):Calls Tryz.prog 77 #[.int .i64 0] w fun r w' => r=.returned (.tuple #[.agg #[.int .i64 5,.int .i64 0],.int .i64 0])∧Chg (fun _ => False) w w':=by
 have hb:=Blk.new w 42 #[.int .i64 5,.int .i64 0]
 go_enter Tryz.func77,Tryz.ntmps77
 go_wp2_with fail
 refine bodyPost_ret (results_cell_tmp rfl _ w.heap.size 42 _ _ rfl hb Tryz.underlying42 rfl (by kernel_rfl)) rfl ⟨rfl,?_⟩
 exact (Chg.refl _ w).alloc _
def cntV (o:Option Int):Value:=match o with
 | some n => .tuple #[.int .i64 n,.int .i64 0]
 | none => .tuple #[.int .i64 0,.int .i64 130]
theorem all30 {P:Array Value→Prop} (h:∀ u0 u1 u2 u3 u4 u5 u6 u7 u8 u9 u10 u11 u12 u13 u14 u15 u16 u17 u18 u19 u20 u21 u22 u23 u24 u25 u26 u27 u28 u29:Value,P #[u0,u1,u2,u3,u4,u5,u6,u7,u8,u9,u10,u11,u12,u13,u14,u15,u16,u17,u18,u19,u20,u21,u22,u23,u24,u25,u26,u27,u28,u29]) (a:Array Value) (hs:a.size=30):P a:=by
 obtain ⟨l⟩:=a
 have g:l.length=30:=hs
 clear hs
 iterate 30 (obtain ⟨_,l2,e,g2⟩:=Pal.len_cons g;clear g;subst e;have g:=g2;clear g2)
 obtain rfl:=List.length_eq_zero_iff.1 g
 exact h _ _ _ _ _ _ _ _ _ _ _ _ _ _ _ _ _ _ _ _ _ _ _ _ _ _ _ _ _ _
set_option maxRecDepth 100000 in
set_option maxHeartbeats 4000000 in
theorem count_no (u:Us) (h:u.Ok) (now:Int) (hn:now<u.a) (w:World):Calls Tryz.prog 16 #[.agg u.cs,.int .i64 now] w fun r w' => r=.returned (cntV none)∧Chg (fun _ => False) w w':=by
 have hr:=fun W => right_lfu u h W
 obtain ⟨c,a⟩:=u
 unfold Us.cs at *
 dsimp only at hn hr
 have hN:(now<a)=True:=eq_true hn
 unfold cntV
 have x0:=(Blk.new w 42 #[.int .i64 c,.int .i64 a]).alloc (.cells #[.int .i64 0,.int .i64 0] 42)
 by_cases hc:c=0
 ·by_cases ha:a=0
  ·subst hc ha
   go_enter Tryz.func16,Tryz.ntmps16
   go_wp2_with fail
   refine wp_scope_jumps 0 (fun a' w' => a'.tmps.size=30∧a'.defers=[]∧Chg (fun _ => False) w w') (fun _ _ => 0) (by rfl) ?_ ?_
   ·go_wp2_with (first | (go_at_call 41;refine (hr _).mono ?_;rintro r w1 ⟨rfl,hC1⟩;skip) | fail)
    go_step3
    exact ⟨rfl,by rfl,rfl,((Chg.refl _ w).alloc _).alloc _⟩
   ·rintro ⟨tmps,ds⟩ W ⟨hs,rfl,hC⟩
    replace hs:tmps.size=30:=hs
    revert hs
    revert tmps
    refine all30 ?_
    intro u0 u1 u2 u3 u4 u5 u6 u7 u8 u9 u10 u11 u12 u13 u14 u15 u16 u17 u18 u19 u20 u21 u22 u23 u24 u25 u26 u27 u28 u29
    go_wp2_with fail
    dsimp only [Exit.jump]
    go_ret2
    exact ⟨rfl,hC⟩
  ·subst hc
   have ha2:(a=0)=False:=eq_false ha
   have HR:=hr
   clear ha
   go_enter Tryz.func16,Tryz.ntmps16
   go_wp2_with fail
   refine wp_scope_jumps 0 (fun a' w' => a'.tmps.size=30∧a'.defers=[]∧Chg (fun _ => False) w w') (fun _ _ => 0) (by rfl) ?_ ?_
   ·go_wp2_with (first | (go_at_call 41;refine (hr _).mono ?_;rintro r w1 ⟨rfl,hC1⟩;have x1:=(x0.chg hC1 id).cell 1;have xl:=(x0.chg hC1 id).lt;simp only [List.getElem?_toArray,List.getElem?_cons_zero,List.getElem?_cons_succ] at x1) | fail)
    go_step3
    exact ⟨rfl,by rfl,rfl,(((Chg.refl _ w).alloc _).alloc _).trans hC1⟩
   ·rintro ⟨tmps,ds⟩ W ⟨hs,rfl,hC⟩
    replace hs:tmps.size=30:=hs
    revert hs
    revert tmps
    refine all30 ?_
    intro u0 u1 u2 u3 u4 u5 u6 u7 u8 u9 u10 u11 u12 u13 u14 u15 u16 u17 u18 u19 u20 u21 u22 u23 u24 u25 u26 u27 u28 u29
    go_wp2_with fail
    dsimp only [Exit.jump]
    go_ret2
    exact ⟨rfl,hC⟩
 ·have hc2:(c=0)=False:=eq_false hc
  clear hc
  go_enter Tryz.func16,Tryz.ntmps16
  go_wp2_with fail
  refine wp_scope_jumps 0 (fun a' w' => a'.tmps.size=30∧a'.defers=[]∧Chg (fun _ => False) w w') (fun _ _ => 0) (by rfl) ?_ ?_
  ·go_wp2_with (first | (go_at_call 41;refine (hr _).mono ?_;rintro r w1 ⟨rfl,hC1⟩;have x1:=(x0.chg hC1 id).cell 1;have xl:=(x0.chg hC1 id).lt;simp only [List.getElem?_toArray,List.getElem?_cons_zero,List.getElem?_cons_succ] at x1) | fail)
   go_step3
   exact ⟨rfl,by rfl,rfl,(((Chg.refl _ w).alloc _).alloc _).trans hC1⟩
  ·rintro ⟨tmps,ds⟩ W ⟨hs,rfl,hC⟩
   replace hs:tmps.size=30:=hs
   revert hs
   revert tmps
   refine all30 ?_
   intro u0 u1 u2 u3 u4 u5 u6 u7 u8 u9 u10 u11 u12 u13 u14 u15 u16 u17 u18 u19 u20 u21 u22 u23 u24 u25 u26 u27 u28 u29
   go_wp2_with fail
   dsimp only [Exit.jump]
   go_ret2
   exact ⟨rfl,hC⟩
theorem cnt_val {u:Us} (h:u.Ok) {now n:Int} (hn:cntU u now=some n) (hw:now≤9223372036854775807):¬ now<u.a∧wrap64 (now - u.a)=now - u.a∧wrap64 (u.c - (now - u.a))=u.c - (now - u.a)∧max 0 (u.c - (now - u.a))=n:=by
 obtain ⟨h1,h2⟩:=h
 unfold cntU at hn
 split at hn
 ·cases hn
 ·rename_i hlt
  injection hn with hn
  refine ⟨hlt,?_,?_,hn⟩ <;>
  ·unfold wrap64;omega
set_option maxRecDepth 100000 in
set_option maxHeartbeats 4000000 in
theorem count_yes (u:Us) (h:u.Ok) (now n:Int) (hn:cntU u now=some n) (hw:now≤9223372036854775807) (w:World):Calls Tryz.prog 16 #[.agg u.cs,.int .i64 now] w fun r w' => r=.returned (cntV (some n))∧Chg (fun _ => False) w w':=by
 have hr:=fun W => right_lfu u h W
 obtain ⟨v1,v2,v3,v4⟩:=cnt_val h hn hw
 obtain ⟨c,a⟩:=u
 unfold Us.cs at *
 dsimp only at v1 v2 v3 v4 hr
 have HM:=Lib.hid v4
 have HV:=Lib.hid (show 0≤a∧a≤now∧now≤9223372036854775807 from ⟨h.2.1,Int.not_lt.1 v1,hw⟩)
 have hN:(now<a)=False:=eq_false v1
 unfold cntV
 clear v4 hn v1
 have x0:=(Blk.new w 42 #[.int .i64 c,.int .i64 a]).alloc (.cells #[.int .i64 0,.int .i64 0] 42)
 by_cases hc:c=0
 ·by_cases ha:a=0
  ·subst hc ha
   go_enter Tryz.func16,Tryz.ntmps16
   go_wp2_with fail
   go_step3
   go_wp2_with fail
   try rw [Exit.noGoto_ret]
   go_ret2
   exact ⟨by show Ending.returned (.tuple #[.int .i64 (max 0 (wrap64 (-wrap64 now))),.int .i64 0])=_;rw [show max 0 (wrap64 (-wrap64 now))=n by rw [← HM.out];have:=HV.out;unfold wrap64;omega],((Chg.refl _ w).alloc _).alloc _⟩
  ·subst hc
   have ha2:(a=0)=False:=eq_false ha
   clear ha
   go_enter Tryz.func16,Tryz.ntmps16
   go_wp2_with fail
   go_step3
   go_wp2_with (first | (go_at_call 41;refine (hr _).mono ?_;rintro r w1 ⟨rfl,hC1⟩;have xb:=x0.chg hC1 id;have xa:=xb.cell 0;have x1:=(x0.chg hC1 id).cell 1;have xl:=(x0.chg hC1 id).lt;simp only [List.getElem?_toArray,List.getElem?_cons_zero,List.getElem?_cons_succ] at x1 xa) | fail)
   try rw [Exit.noGoto_ret]
   go_ret2
   exact ⟨by show Ending.returned (.tuple #[.int .i64 (max 0 (wrap64 (-(now - a)))),.int .i64 0])=_;rw [show max 0 (wrap64 (-(now - a)))=n by rw [← HM.out];have:=HV.out;unfold wrap64;omega],(((Chg.refl _ w).alloc _).alloc _).trans hC1⟩
 ·have hc2:(c=0)=False:=eq_false hc
  clear hc
  go_enter Tryz.func16,Tryz.ntmps16
  go_wp2_with fail
  go_step3
  go_wp2_with (first | (go_at_call 41;refine (hr _).mono ?_;rintro r w1 ⟨rfl,hC1⟩;have xb:=x0.chg hC1 id;have xa:=xb.cell 0;have x1:=(x0.chg hC1 id).cell 1;have xl:=(x0.chg hC1 id).lt;simp only [List.getElem?_toArray,List.getElem?_cons_zero,List.getElem?_cons_succ] at x1 xa) | fail)
  try rw [Exit.noGoto_ret]
  go_ret2
  exact ⟨by rw [← HM.out];rfl,(((Chg.refl _ w).alloc _).alloc _).trans hC1⟩
def tchV (o:Option Us):Value:=match o with
 | some u => .tuple #[.agg u.cs,.int .i64 0]
 | none => .tuple #[.agg #[.int .i64 0,.int .i64 0],.int .i64 130]
set_option maxRecDepth 100000 in
theorem touch_no (u:Us) (h:u.Ok) (now:Int) (hn:now<u.a) (draw:Nat) (w:World):Calls Tryz.prog 59 #[.agg u.cs,.int .i64 now,.int .u32 (draw:Int)] w fun r w' => r=.returned (tchV none)∧Chg (fun _ => False) w w':=by
 have hc:=fun W => count_no u h now hn W
 obtain ⟨c,a⟩:=u
 unfold cntV at hc
 unfold Us.cs tchV at *
 have x0:=(Blk.new w 42 #[.int .i64 c,.int .i64 a]).alloc (.cells #[.int .i64 0,.int .i64 0] 42)
 have x1:=Blk.new (w.alloc (.cells #[.int .i64 c,.int .i64 a] 42)) 42 #[.int .i64 0,.int .i64 0]
 rw [World.size_alloc] at x1
 go_enter Tryz.func59,Tryz.ntmps59
 go_wp2_with (first
  | (go_at_call 16;refine (hc _).mono ?_;rintro r w1 ⟨rfl,hC1⟩;have z:=x1.chg hC1 id;have z0:=z.cell 0;have z1:=z.cell 1;have zl:=z.lt;have zf:=z.frozen;simp only [List.getElem?_toArray,List.getElem?_cons_zero,List.getElem?_cons_succ] at z0 z1)
  | fail)
 have z5:=(z.set 0 (.int .i64 0)).set 1 (.int .i64 0)
 simp only [List.setIfInBounds_toArray,List.set_cons_zero,List.set_cons_succ] at z5
 refine bodyPost_ret (results_cell_tmp rfl _ (w.heap.size+1) 42 _ _ rfl z5 Tryz.underlying42 rfl (by kernel_rfl)) rfl ⟨rfl,?_⟩
 exact (((((Chg.refl (fun _ => False) w).alloc _).alloc _).trans hC1).setCell (by simp) _).setCell (by simp) _
end Go.Proofs.YtehpmbmdadkhbaaGreatDoor

namespace Go.Proofs.YtehpmbmdadkhbaaGreatDoor
open Go.RowKit Pal
attribute [local go_sem] Oper.semAt_some
def nextU (n:Int) (draw:Nat):Int:=if n<255∧(draw:Int) % stepsU n=0 then n+1 else n
theorem tchU_eq {u:Us} {now n:Int} {draw:Nat} (h:cntU u now=some n):tchU u now draw=some ⟨nextU n draw,now⟩:=by unfold tchU;rw [h];rfl
set_option maxRecDepth 100000 in
set_option maxHeartbeats 2000000 in
theorem touch_yes (u:Us) (h:u.Ok) (now n:Int) (hn:cntU u now=some n) (hw:now≤9223372036854775807) (draw:Nat) (hd:draw<4294967296) (w:World):Calls Tryz.prog 59 #[.agg u.cs,.int .i64 now,.int .u32 (draw:Int)] w fun r w' => r=.returned (tchV (some ⟨nextU n draw,now⟩))∧Chg (fun _ => False) w w':=by
 have hc:=fun W => count_yes u h now n hn hw W
 obtain ⟨b0,b1,_⟩:=cntU_le h hn
 obtain ⟨c,a⟩:=u
 unfold cntV at hc
 unfold Us.cs tchV at *
 have x0:=(Blk.new w 42 #[.int .i64 c,.int .i64 a]).alloc (.cells #[.int .i64 0,.int .i64 0] 42)
 have x1:=Blk.new (w.alloc (.cells #[.int .i64 c,.int .i64 a] 42)) 42 #[.int .i64 0,.int .i64 0]
 rw [World.size_alloc] at x1
 clear h hn
 have w1:wrap64 (n - 5)=n - 5:=by unfold wrap64;omega
 obtain ⟨m5,hm5⟩:∃ m5,m5=max 0 (n - 5):=⟨_,rfl⟩
 have w2:wrap64 (10 * m5)=10 * m5:=by unfold wrap64;omega
 have w3:wrap64 (10 * m5+1)=10 * m5+1:=by unfold wrap64;omega
 have w5:wrap64 (draw:Int)=draw:=by unfold wrap64;omega
 have hm0:0≤m5∧m5≤250:=by omega
 obtain ⟨hm01,hm02⟩:=hm0
 have hS:stepsU n=10 * m5+1:=by unfold stepsU;rw [hm5]
 have HN:nextU n draw=if n<255∧(draw:Int) % (10 * m5+1)=0 then n+1 else n:=by unfold nextU;rw [hS]
 replace HN:=Lib.hid HN
 have hm5':max 0 (n - 5)=m5:=hm5.symm
 have w8:wrap64 (n+1)=n+1:=by unfold wrap64;omega
 clear hS hm5
 by_cases h255:n<255
 ·by_cases hz:(draw:Int) % (10 * m5+1)=0
  ·have hq:((draw:Int) % (10 * m5+1) == 0)=true:=by rw [beq_iff_eq];exact hz
   replace hz:=Lib.hid hz
   go_enter Tryz.func59,Tryz.ntmps59
   go_wp2_with (first
       | (go_at_call 16;refine (hc _).mono ?_;rintro r w1 ⟨rfl,hC1⟩;have z:=x1.chg hC1 id;have z0:=z.cell 0;have z1:=z.cell 1;have zl:=z.lt;have zf:=z.frozen;simp only [List.getElem?_toArray,List.getElem?_cons_zero,List.getElem?_cons_succ] at z0 z1)
       | fail)
   have e:nextU n draw=n+1:=by rw [HN.out];exact if_pos ⟨h255,hz.out⟩
   have z5:=(z.set 0 (.int .i64 (n+1))).set 1 (.int .i64 now)
   simp only [List.setIfInBounds_toArray,List.set_cons_zero,List.set_cons_succ] at z5
   refine bodyPost_ret (results_cell_tmp rfl _ (w.heap.size+1) 42 _ _ rfl z5 Tryz.underlying42 rfl (by kernel_rfl)) rfl ⟨by rw [e];rfl,?_⟩
   exact (((((Chg.refl (fun _ => False) w).alloc _).alloc _).trans hC1).setCell (by simp) _).setCell (by simp) _
  ·have hq:((draw:Int) % (10 * m5+1) == 0)=false:=by rw [beq_eq_false_iff_ne];exact hz
   replace hz:=Lib.hid hz
   go_enter Tryz.func59,Tryz.ntmps59
   go_wp2_with (first
       | (go_at_call 16;refine (hc _).mono ?_;rintro r w1 ⟨rfl,hC1⟩;have z:=x1.chg hC1 id;have z0:=z.cell 0;have z1:=z.cell 1;have zl:=z.lt;have zf:=z.frozen;simp only [List.getElem?_toArray,List.getElem?_cons_zero,List.getElem?_cons_succ] at z0 z1)
       | fail)
   have e:nextU n draw=n:=by rw [HN.out];exact if_neg fun h => hz.out h.2
   have z5:=(z.set 0 (.int .i64 n)).set 1 (.int .i64 now)
   simp only [List.setIfInBounds_toArray,List.set_cons_zero,List.set_cons_succ] at z5
   refine bodyPost_ret (results_cell_tmp rfl _ (w.heap.size+1) 42 _ _ rfl z5 Tryz.underlying42 rfl (by kernel_rfl)) rfl ⟨by rw [e];rfl,?_⟩
   exact (((((Chg.refl (fun _ => False) w).alloc _).alloc _).trans hC1).setCell (by simp) _).setCell (by simp) _
 ·go_enter Tryz.func59,Tryz.ntmps59
  go_wp2_with (first
      | (go_at_call 16;refine (hc _).mono ?_;rintro r w1 ⟨rfl,hC1⟩;have z:=x1.chg hC1 id;have z0:=z.cell 0;have z1:=z.cell 1;have zl:=z.lt;have zf:=z.frozen;simp only [List.getElem?_toArray,List.getElem?_cons_zero,List.getElem?_cons_succ] at z0 z1)
      | fail)
  have e:nextU n draw=n:=by rw [HN.out];exact if_neg fun h => by have:=h.1;omega
  have z5:=(z.set 0 (.int .i64 n)).set 1 (.int .i64 now)
  simp only [List.setIfInBounds_toArray,List.set_cons_zero,List.set_cons_succ] at z5
  refine bodyPost_ret (results_cell_tmp rfl _ (w.heap.size+1) 42 _ _ rfl z5 Tryz.underlying42 rfl (by kernel_rfl)) rfl ⟨by rw [e];rfl,?_⟩
  exact (((((Chg.refl (fun _ => False) w).alloc _).alloc _).trans hC1).setCell (by simp) _).setCell (by simp) _
end Go.Proofs.YtehpmbmdadkhbaaGreatDoor

namespace Go.Proofs.YtehpmbmdadkhbaaGreatDoor
open Go.RowKit Pal
attribute [local go_sem] Oper.semAt_some
theorem chg_store2 {S:Nat→Prop} {w w':World} (h:Chg S w w') {g o1 o2:Nat} {v1 v2:Value} (h1:S g) (_:S g):Chg S w ((w'.setCell ⟨g,o1,none⟩ v1).setCell ⟨g,o2,none⟩ v2):=Chg.store (Chg.store h h1 o1 v1) h1 o2 v2
section
variable {w:World} {base:Nat} {s:Spc}
theorem Sx.cover {s':Spc} {wa wb w':World} {b:Nat} (hC0:Chg (fun _ => False) w wa) (hx:Sx base s s' wa wb) (hlt:∀ g,s.foot g→g<w.heap.size) (hb:Chg (fun g => g=b) wb w') (hb1:w.heap.size≤b) (hb2:b<wa.heap.size):Sx base s s' w w':=by
 have hn:∀ g,s'.foot g→¬ g=b:=fun g hg e => by
  rcases hx.foot g hg with h1 | h1
  ·have:=hlt g h1;omega
  ·omega
 refine ⟨hx.at_.chg hb hn,hx.blk,hx.E,hx.M,hx.seed,hx.mx,((hC0.mono fun _ _ h => h.elim).trans' hx.chg fun g _ hg => hg).trans' hb fun g hg e => by omega,fun g hg => ?_⟩
 rcases hx.foot g hg with h1 | h1
 ·exact .inl h1
 ·exact .inr (Nat.le_trans hC0.size h1)
set_option maxRecDepth 100000 in
theorem s_set (h:SpAt w base s):Calls Tryz.prog 54 #[pt s.blk] w fun r w' => ∃ z,r=.returned (pt z.blk)∧(ZsAt w' w.heap.size z []∧z.f.is=false∧z.E=clampL 200 s.E∧z.M=clampL 64 s.M)∧Chg (fun _ => False) w w':=by
 obtain ⟨c0,c1,c2,_,_,l0⟩:=h.cells
 have hz:=fun W => z_new s.E s.M s.seed h.sd W
 unfold pt at *
 clear h
 go_enter Tryz.func54,Tryz.ntmps54
 go_wp2_with fail
 go_still_tail 10,(by kernel_rfl)
 go_wp2_with (first
  | (go_at_call 80;refine (hz _).mono ?_;rintro r w1 ⟨z,rfl,h1,h2,h3,h4,_,h5⟩)
  | fail)
 go_ret
 exact ⟨z,rfl,⟨h1,h2,h3,h4⟩,(Chg.refl _ w).drew.trans h5⟩
set_option maxRecDepth 100000 in
theorem s_find (h:SpAt w base s) (k:ByteArray) (hk:k.size≤9223372036854775807):Calls Tryz.prog 26 #[pt s.blk,.string k] w fun r w' => (r=match findK It.key s.its k with | some i => .returned (.tuple #[pt i.z.blk,.bool true]) | none => .returned (.tuple #[.pointer none,.bool false]))∧∃ d',Sx base s { s with d:=d' } w w':=by
 obtain ⟨_,_,_,_,c4,l0⟩:=h.cells
 have hg:=sp_get h k hk
 have hit:=fun i hi => h.it i hi
 have hso:=h.so
 unfold pt at *
 cases hf:findK It.key s.its k with
 | none =>
  rw [hf] at hg
  unfold itV at hg
  clear h
  go_enter Tryz.func26,Tryz.ntmps26
  go_wp2_with (first
   | (go_at_call 40;refine hg.mono ?_;rintro r w1 ⟨rfl,d',hx⟩)
   | fail)
  go_ret2
  exact ⟨rfl,d',hx⟩
 | some i =>
  rw [hf] at hg
  have hi:=(findK_some hso).1 hf
  unfold itV pt at hg
  clear h
  go_enter Tryz.func26,Tryz.ntmps26
  go_wp2_with (first
   | (go_at_call 40;refine hg.mono ?_;rintro r w1 ⟨rfl,d',hx⟩;obtain ⟨e0,_,_,el⟩:=(hx.at_.it i hi.1).cells;unfold pt at e0)
   | fail)
  go_ret2
  exact ⟨rfl,d',hx⟩
set_option maxRecDepth 100000 in
theorem s_use (h:SpAt w base s) (k:ByteArray) (hk:k.size≤9223372036854775807):Calls Tryz.prog 15 #[pt s.blk,.string k] w fun r w' => (r=match findK It.key s.its k with | some i => .returned (.tuple #[.agg i.u.cs,.bool true]) | none => .returned (.tuple #[.agg #[.int .i64 0,.int .i64 0],.bool false]))∧∃ d',Sx base s { s with d:=d' } w w':=by
 have hC0:=(Chg.refl (fun _ => False) w).alloc (.cells #[.int .i64 0,.int .i64 0] 42)
 have x1:=Blk.new w 42 #[.int .i64 0,.int .i64 0]
 have h0:=h.chg0 hC0
 obtain ⟨_,_,_,_,c4,l0⟩:=h0.cells
 have hg:=sp_get h0 k hk
 have hso:=h.so
 have hlt:∀ g,s.foot g→g<w.heap.size:=fun g hg => (h.lt hg).2
 have hsz:=hC0.size
 unfold pt at *
 cases hf:findK It.key s.its k with
 | none =>
  rw [hf] at hg
  unfold itV at hg
  clear h h0
  go_enter Tryz.func15,Tryz.ntmps15
  go_wp2_with (first
   | (go_at_call 40;refine hg.mono ?_;rintro r w1 ⟨rfl,d',hx⟩;have z:=x1.chg hx.chg (fun hf => by have:=hlt _ hf;omega);have z0:=z.cell 0;have z1:=z.cell 1;have zl:=z.lt;have zf:=z.frozen;simp only [List.getElem?_toArray,List.getElem?_cons_zero,List.getElem?_cons_succ] at z0 z1)
   | fail)
  have z5:=(z.set 0 (.int .i64 0)).set 1 (.int .i64 0)
  simp only [List.setIfInBounds_toArray,List.set_cons_zero,List.set_cons_succ] at z5
  refine bodyPost_ret (results_cell_tmp rfl _ w.heap.size 42 _ _ rfl z5 Tryz.underlying42 rfl (by kernel_rfl)) rfl ⟨rfl,d',?_⟩
  exact Sx.cover hC0 hx hlt (chg_store2 (Chg.refl (fun g => g=w.heap.size) w1) rfl rfl) (Nat.le_refl _) (by simp)
 | some i =>
  rw [hf] at hg
  have hi:=(findK_some hso).1 hf
  unfold itV pt at hg
  clear h h0
  go_enter Tryz.func15,Tryz.ntmps15
  go_wp2_with (first
   | (go_at_call 40;refine hg.mono ?_;rintro r w1 ⟨rfl,d',hx⟩;obtain ⟨_,e1,e2,el⟩:=(hx.at_.it i hi.1).cells;have z:=x1.chg hx.chg (fun hf => by have:=hlt _ hf;omega);have z0:=z.cell 0;have z1:=z.cell 1;have zl:=z.lt;have zf:=z.frozen;simp only [List.getElem?_toArray,List.getElem?_cons_zero,List.getElem?_cons_succ] at z0 z1)
   | fail)
  have z5:=(z.set 0 (.int .i64 i.u.c)).set 1 (.int .i64 i.u.a)
  simp only [List.setIfInBounds_toArray,List.set_cons_zero,List.set_cons_succ] at z5
  refine bodyPost_ret (results_cell_tmp rfl _ w.heap.size 42 _ _ rfl z5 Tryz.underlying42 rfl (by kernel_rfl)) rfl ⟨rfl,d',?_⟩
  exact Sx.cover hC0 hx hlt (chg_store2 (Chg.refl (fun g => g=w.heap.size) w1) rfl rfl) (Nat.le_refl _) (by simp)
set_option maxRecDepth 100000 in
theorem s_delete (h:SpAt w base s) (k:ByteArray) (hk:k.size≤9223372036854775807):Calls Tryz.prog 25 #[pt s.blk,.string k] w fun r w' => r=.returned (.bool (findK It.key s.its k).isSome)∧∃ d',Sx base s { s with d:=d',its:=cutK It.key s.its k } w w':=by
 obtain ⟨_,_,_,_,c4,l0⟩:=h.cells
 have hg:=sp_delete h k hk
 unfold pt at *
 clear h
 go_enter Tryz.func25,Tryz.ntmps25
 go_wp2_with (first
  | (go_at_call 50;refine hg.mono ?_;rintro r w1 ⟨rfl,d',hx⟩)
  | fail)
 go_ret
 exact ⟨rfl,d',hx⟩
set_option maxRecDepth 100000 in
theorem s_len (h:SpAt w base s):Calls Tryz.prog 12 #[pt s.blk] w fun r w' => r=.returned (.int .i64 (s.its.length:Int))∧w=w':=by
 obtain ⟨_,_,_,_,c4,l0⟩:=h.cells
 have hg:=sp_len h
 unfold pt at *
 clear h
 go_enter Tryz.func12,Tryz.ntmps12
 go_wp2_with (first
  | (go_at_call 35;refine hg.mono ?_;rintro r w1 ⟨rfl,rfl⟩)
  | fail)
 go_ret
 exact ⟨rfl,rfl⟩
theorem SpAt.reuse (h:SpAt w base s) {i:It} (hi:i∈s.its) {u:Us} (hu:u.Ok):Sx base s { s with its:=updK It.key s.its { i with u:=u } } w ((w.setCell ⟨i.blk,1,none⟩ (.int .i64 u.c)).setCell ⟨i.blk,2,none⟩ (.int .i64 u.a)):=by
 have hI:=h.it i hi
 have hc:Chg i.foot w ((w.setCell ⟨i.blk,1,none⟩ (.int .i64 u.c)).setCell ⟨i.blk,2,none⟩ (.int .i64 u.a)):=chg_store2 (Chg.refl _ w) (.inl rfl) (.inl rfl)
 have hc':Chg (fun g => g=i.blk) w ((w.setCell ⟨i.blk,1,none⟩ (.int .i64 u.c)).setCell ⟨i.blk,2,none⟩ (.int .i64 u.a)):=chg_store2 (Chg.refl _ w) rfl rfl
 have hb:=(hI.b.set 1 (.int .i64 u.c)).set 2 (.int .i64 u.a)
 simp only [List.setIfInBounds_toArray,List.set_cons_zero,List.set_cons_succ] at hb
 refine h.item hi rfl rfl hc ⟨hb,hI.z.chg hc' (fun g hg e => ?_),hI.E,hI.M,hI.ge,hu,hI.k⟩ fun g hg => .inl hg
 subst e
 exact hI.b_z hg
set_option maxRecDepth 100000 in
theorem s_touch_none (h:SpAt w base s) (k:ByteArray) (hk:k.size≤9223372036854775807) (hf:findK It.key s.its k=none) (now:Int) (draw:Nat):Calls Tryz.prog 32 #[pt s.blk,.string k,.int .i64 now,.int .u32 (draw:Int)] w fun r w' => r=.returned (.int .i64 141)∧∃ d',Sx base s { s with d:=d' } w w':=by
 obtain ⟨_,_,_,_,c4,l0⟩:=h.cells
 have hg:=sp_get h k hk
 rw [hf] at hg
 unfold itV pt at *
 clear h
 go_enter Tryz.func32,Tryz.ntmps32
 go_wp2_with (first
  | (go_at_call 40;refine hg.mono ?_;rintro r w1 ⟨rfl,d',hx⟩)
  | fail)
 go_ret
 exact ⟨rfl,d',hx⟩
set_option maxRecDepth 100000 in
theorem s_touch_no (h:SpAt w base s) (k:ByteArray) (hk:k.size≤9223372036854775807) {i:It} (hf:findK It.key s.its k=some i) (now:Int) (hn:now<i.u.a) (draw:Nat):Calls Tryz.prog 32 #[pt s.blk,.string k,.int .i64 now,.int .u32 (draw:Int)] w fun r w' => r=.returned (.int .i64 130)∧∃ d',Sx base s { s with d:=d' } w w':=by
 obtain ⟨_,_,_,_,c4,l0⟩:=h.cells
 have hg:=sp_get h k hk
 have hi:=(findK_some h.so).1 hf
 have ht:=fun W => touch_no i.u (h.it i hi.1).u now hn draw W
 rw [hf] at hg
 unfold tchV at ht
 unfold itV pt Us.cs at *
 clear h
 go_enter Tryz.func32,Tryz.ntmps32
 go_wp2_with (first
  | (go_at_call 40;refine hg.mono ?_;rintro r w1 ⟨rfl,d',hx⟩;obtain ⟨_,e1,e2,el⟩:=(hx.at_.it i hi.1).cells)
  | (go_at_call 59;refine (ht _).mono ?_;rintro r w2 ⟨rfl,hC2⟩)
  | fail)
 go_ret
 exact ⟨rfl,d',hx.trans (Sx.zero hx.at_ (hC2.alloc _))⟩
set_option maxRecDepth 100000 in
theorem s_touch_yes (h:SpAt w base s) (k:ByteArray) (hk:k.size≤9223372036854775807) {i:It} (hf:findK It.key s.its k=some i) (now n:Int) (hn:cntU i.u now=some n) (hw:now≤9223372036854775807) (draw:Nat) (hd:draw<4294967296):Calls Tryz.prog 32 #[pt s.blk,.string k,.int .i64 now,.int .u32 (draw:Int)] w fun r w' => r=.returned (.int .i64 0)∧∃ d',Sx base s { s with d:=d',its:=updK It.key s.its { i with u:=⟨nextU n draw,now⟩ } } w w':=by
 obtain ⟨_,_,_,_,c4,l0⟩:=h.cells
 have hg:=sp_get h k hk
 have hi:=(findK_some h.so).1 hf
 have hu:=(h.it i hi.1).u
 have ht:=fun W => touch_yes i.u hu now n hn hw draw hd W
 have hu2:=(tchU_ok hu hw (tchU_eq (draw:=draw) hn)).1
 rw [hf] at hg
 unfold tchV at ht
 unfold itV pt Us.cs at *
 clear h hn hu
 generalize nextU n draw=n' at *
 go_enter Tryz.func32,Tryz.ntmps32
 go_wp2_with (first
  | (go_at_call 40;refine hg.mono ?_;rintro r w1 ⟨rfl,d',hx⟩;obtain ⟨_,e1,e2,el⟩:=(hx.at_.it i hi.1).cells)
  | (go_at_call 59;refine (ht _).mono ?_;rintro r w2 ⟨rfl,hC2⟩;have hx2:=hx.trans (Sx.zero hx.at_ (hC2.alloc (.cells #[.int .i64 n',.int .i64 now] 42)));obtain ⟨q0,q1,q2,ql⟩:=(hx2.at_.it i hi.1).cells;have qf:=(hx2.at_.it i hi.1).b.frozen)
  | fail)
 go_ret
 exact ⟨rfl,d',hx2.trans (hx2.at_.reuse hi.1 hu2)⟩
end
end Go.Proofs.YtehpmbmdadkhbaaGreatDoor

namespace Go.Proofs.YtehpmbmdadkhbaaGreatDoor
open Go.RowKit Pal
attribute [local go_sem] Oper.semAt_some
theorem all62 {P:Array Value→Prop} (h:∀ u0 u1 u2 u3 u4 u5 u6 u7 u8 u9 u10 u11 u12 u13 u14 u15 u16 u17 u18 u19 u20 u21 u22 u23 u24 u25 u26 u27 u28 u29 u30 u31 u32 u33 u34 u35 u36 u37 u38 u39 u40 u41 u42 u43 u44 u45 u46 u47 u48 u49 u50 u51 u52 u53 u54 u55 u56 u57 u58 u59 u60 u61:Value,P #[u0,u1,u2,u3,u4,u5,u6,u7,u8,u9,u10,u11,u12,u13,u14,u15,u16,u17,u18,u19,u20,u21,u22,u23,u24,u25,u26,u27,u28,u29,u30,u31,u32,u33,u34,u35,u36,u37,u38,u39,u40,u41,u42,u43,u44,u45,u46,u47,u48,u49,u50,u51,u52,u53,u54,u55,u56,u57,u58,u59,u60,u61]) (a:Array Value) (hs:a.size=62):P a:=by
 obtain ⟨l⟩:=a
 have g:l.length=62:=hs
 clear hs
 iterate 62 (obtain ⟨_,l2,e,g2⟩:=Pal.len_cons g;clear g;subst e;have g:=g2;clear g2)
 obtain rfl:=List.length_eq_zero_iff.1 g
 exact h _ _ _ _ _ _ _ _ _ _ _ _ _ _ _ _ _ _ _ _ _ _ _ _ _ _ _ _ _ _ _ _ _ _ _ _ _ _ _ _ _ _ _ _ _ _ _ _ _ _ _ _ _ _ _ _ _ _ _ _ _ _
theorem ZsAt.lower {w:World} {b base:Nat} {z:Zs} {es:List En} (h:ZsAt w b z es) (hb:base≤b):ZsAt w base z es:=by
 refine ⟨h.b,?_,Nat.le_trans hb h.ge,h.ok,h.lim⟩
 have hf:=h.f
 unfold FmAt at hf ⊢
 split at hf
 ·exact ⟨hf.1,Nat.le_trans hb hf.2⟩
 ·exact LsAt.lower hf hb
section
variable {w:World} {base:Nat} {s:Spc}
set_option maxRecDepth 100000 in
set_option maxHeartbeats 2000000 in
theorem s_made_old (h:SpAt w base s) (k:ByteArray) (hk:k.size≤64) {i:It} (hf:findK It.key s.its k=some i) (now:Int):Calls Tryz.prog 52 #[pt s.blk,.string k,.int .i64 now] w fun r w' => r=.returned (.tuple #[pt i.blk,.nilIface])∧∃ d',Sx base s { s with d:=d' } w w':=by
 have hC0:=(Chg.refl (fun _ => False) w).alloc (.cells #[.int .i64 0,.int .i64 0] 42)
 have h0:=h.chg0 hC0
 obtain ⟨_,_,_,_,c4,l0⟩:=h0.cells
 have hg:=sp_get h0 k (by omega)
 have hlt:∀ g,s.foot g→g<w.heap.size:=fun g hg => (h.lt hg).2
 have hk2:¬ (64:Int)<(k.size:Int):=by omega
 rw [hf] at hg
 unfold itV pt at *
 have hfin:∀ {d':Dspaceitem.Dm} {W:World},Sx base s { s with d:=d' } (w.alloc (.cells #[.int .i64 0,.int .i64 0] 42)) W→Sx base s { s with d:=d' } w W:=fun hx => (Sx.zero h hC0).trans hx
 clear h h0
 go_enter Tryz.func52,Tryz.ntmps52
 go_wp2_with fail
 refine wp_scope_jumps 0 (fun a' w' => a'.tmps.size=62∧a'.tmps[10]?=some (.pointer (some ⟨i.blk,0,none⟩))∧a'.defers=[]∧∃ d',Sx base s { s with d:=d' } w w') (fun _ _ => 0) (by rfl) ?_ ?_
 ·go_wp2_with (first
   | (go_at_call 40;refine hg.mono ?_;rintro r w1 ⟨rfl,d',hx⟩)
   | fail)
  go_step3
  exact ⟨rfl,by rfl,by rfl,rfl,d',hfin hx⟩
 ·rintro ⟨tmps,ds⟩ W ⟨hs,t10,rfl,hC⟩
  replace hs:tmps.size=62:=hs
  dsimp only at t10
  revert t10
  revert hs
  revert tmps
  refine all62 ?_
  intro u0 u1 u2 u3 u4 u5 u6 u7 u8 u9 u10 u11 u12 u13 u14 u15 u16 u17 u18 u19 u20 u21 u22 u23 u24 u25 u26 u27 u28 u29 u30 u31 u32 u33 u34 u35 u36 u37 u38 u39 u40 u41 u42 u43 u44 u45 u46 u47 u48 u49 u50 u51 u52 u53 u54 u55 u56 u57 u58 u59 u60 u61 t10
  simp only [List.getElem?_toArray,List.getElem?_cons_zero,List.getElem?_cons_succ,Option.some.injEq] at t10
  subst t10
  go_wp2_with fail
  dsimp only [Exit.jump]
  go_ret2
  exact ⟨rfl,hC⟩
set_option maxRecDepth 100000 in
set_option maxHeartbeats 2000000 in
theorem s_made_new (h:SpAt w base s) (k:ByteArray) (hk:k.size≤64) (hf:findK It.key s.its k=none) (h5:s.its.length<500):Calls Tryz.prog 52 #[pt s.blk,.string k,.int .i64 0] w fun r w' => ∃ i d',r=.returned (.tuple #[pt i.blk,.nilIface])∧i.ct=⟨k,[],false,⟨5,0⟩⟩∧Sx base s { s with d:=d',its:=insK It.key i s.its } w w':=by
 have hC0:=(Chg.refl (fun _ => False) w).alloc (.cells #[.int .i64 0,.int .i64 0] 42)
 have x1:=Blk.new w 42 #[.int .i64 0,.int .i64 0]
 have h0:=h.chg0 hC0
 obtain ⟨_,_,_,_,c4,l0⟩:=h0.cells
 have hg:=sp_get h0 k (by omega)
 have hlt:∀ g,s.foot g→g<w.heap.size:=fun g hg => (h.lt hg).2
 have hk2:¬ (64:Int)<(k.size:Int):=by omega
 have h5i:¬ (500:Int)≤(s.its.length:Int):=by omega
 have hnl:=fun W => new_lfu W
 have hbase:base≤w.heap.size:=Nat.le_trans h.ge.1 (Nat.le_of_lt h.b.lt)
 rw [hf] at hg
 unfold itV pt at *
 clear h h0
 go_enter Tryz.func52,Tryz.ntmps52
 go_wp2_with fail
 go_step3
 go_wp2_with (first
  | (go_at_call 40;refine hg.mono ?_;rintro r w1 ⟨rfl,d',hx⟩;have z:=x1.chg hx.chg (fun hf => by have:=hlt _ hf;omega))
  | (go_at_call 77;refine (hnl _).mono ?_;rintro r w2 ⟨rfl,hC2⟩;have z2:=z.chg hC2 id;have z0:=z2.cell 0;have z1:=z2.cell 1;have zl:=z2.lt;have zf:=z2.frozen;have hA:=hx.at_.chg0 hC2;obtain ⟨_,_,_,_,d4,dl⟩:=hA.cells;simp only [List.getElem?_toArray,List.getElem?_cons_zero,List.getElem?_cons_succ] at z0 z1;unfold pt at d4)
  | fail)
 have hWf:∀ g,s.foot g∨(w.alloc (.cells #[.int .i64 0,.int .i64 0] 42)).heap.size≤g→¬ g=w.heap.size:=fun g hg e => by
  rcases hg with h1 | h1
  ·have:=hlt g h1;omega
  ·rw [World.size_alloc] at h1;omega
 have hW3:Chg (fun g => g=w.heap.size) w2 ((w2.setCell ⟨w.heap.size,0,none⟩ (.int .i64 5)).setCell ⟨w.heap.size,1,none⟩ (.int .i64 0)):=chg_store2 (Chg.refl _ w2) rfl rfl
 have zb:=(z2.set 0 (.int .i64 5)).set 1 (.int .i64 0)
 simp only [List.setIfInBounds_toArray,List.set_cons_zero,List.set_cons_succ] at zb
 have hA3:=hA.chg hW3 fun g hg => hWf g (hx.foot g hg)
 have hXW:Sx base s { s with d:=d' } w ((w2.setCell ⟨w.heap.size,0,none⟩ (.int .i64 5)).setCell ⟨w.heap.size,1,none⟩ (.int .i64 0)):=Sx.cover hC0 (hx.trans (Sx.zero hx.at_ hC2)) hlt hW3 (Nat.le_refl _) (by simp)
 generalize (w2.setCell ⟨w.heap.size,0,none⟩ (.int .i64 5)).setCell ⟨w.heap.size,1,none⟩ (.int .i64 0)=W3 at hW3 zb hA3 hXW ⊢
 have hlen:=sp_len hA3
 have hset:=s_set (hA3.chg0 (Chg.refl _ W3).drew)
 unfold pt at hlen hset
 clear z z2 z0 z1 zl zf d4 dl hA hg hnl hx hC2 x1 c4 l0
 go_wp2_with (first
  | (go_at_call 35;refine hlen.mono ?_;rintro r w3 ⟨rfl,rfl⟩)
  | fail)
 have hS:∀ W',Chg (fun _ => False) W3 W'→W'.cell? ⟨w.heap.size,0,none⟩=some (.int .i64 5)∧W'.cell? ⟨w.heap.size,1,none⟩=some (.int .i64 0):=fun W' hc => ⟨by have:=(zb.chg hc id).cell 0;simpa using this,by have:=(zb.chg hc id).cell 1;simpa using this⟩
 have y9:=zb.lt
 go_region_held3 (fun W' => W'.cell? ⟨w.heap.size,0,none⟩=some (.int .i64 5)∧W'.cell? ⟨w.heap.size,1,none⟩=some (.int .i64 0)) (first | exact hS _ (Chg.refl _ _).drew | exact hS _ hc4 | exact hS _ (hc4.alloc _) | fail)
  (first
  | (go_at_call 54;refine hset.mono ?_;rintro r w4 ⟨z,rfl,⟨q1,q2,q3,q4⟩,hC4⟩;have hc4:=(Chg.refl (fun _ => False) W3).drew.trans hC4)
  | fail)
 have hA4:=hA3.chg0 hc4
 obtain ⟨_,_,_,_,d4,dl⟩:=hA4.cells
 unfold pt at d4
 have hC5:=(Chg.refl (fun _ => False) w4).alloc (.cells #[.pointer (some ⟨z.blk,0,none⟩),.int .i64 5,.int .i64 0] 90)
 have hA5:=hA4.chg0 hC5
 have hX5:Sx base s { s with d:=d' } w (w4.alloc (.cells #[.pointer (some ⟨z.blk,0,none⟩),.int .i64 5,.int .i64 0] 90)):=hXW.trans (Sx.zero hA3 (((Chg.refl (fun _ => False) W3).drew.trans hC4).trans hC5))
 have bI:=Blk.new w4 90 #[.pointer (some ⟨z.blk,0,none⟩),.int .i64 5,.int .i64 0]
 have hb4:w.heap.size≤w4.heap.size:=Nat.le_trans hXW.chg.size hC4.size
 have hq:∀ g,z.foot g→w.heap.size≤g:=fun g hg => Nat.le_trans hXW.chg.size ((q1.lt hg).1)
 have hbw:base≤w.heap.size:=hbase
 have hI:ItAt (w4.alloc (.cells #[.pointer (some ⟨z.blk,0,none⟩),.int .i64 5,.int .i64 0] 90)) base (clampL 200 s.E) (clampL 64 s.M) ⟨k,w4.heap.size,z,[],⟨5,0⟩⟩ :=
  ⟨bI,(q1.lower (Nat.le_trans hbw hXW.chg.size)).chg0 hC5,q3,q4,Nat.le_trans hbw hb4,zero_ok,hk⟩
 have hd0:∀ g,It.foot ⟨k,w4.heap.size,z,[],⟨5,0⟩⟩ g→¬ Spc.foot { s with d:=d' } g:=by
  rintro g (rfl | hg) hg2
  ·exact absurd (hA4.lt hg2).2 (Nat.lt_irrefl _)
  ·have h1:=(hA3.lt hg2).2
   have h2:W3.heap.size≤g:=(q1.lt hg).1
   omega
 have hadd:=sp_add hA5 ⟨k,w4.heap.size,z,[],⟨5,0⟩⟩ hf hI hd0 h5
 unfold pt at hadd
 go_wp2_with (first
  | (go_at_call 78;refine hadd.mono ?_;rintro r w6 ⟨⟨v6,rfl⟩,d6,hA6,hn6⟩)
  | fail)
 go_step3
 go_wp2_with fail
 try rw [Exit.noGoto_ret]
 go_ret2
 have h5w:=hX5.chg.size
 refine ⟨⟨k,w4.heap.size,z,[],⟨5,0⟩⟩,d6,rfl,by unfold It.ct;rw [q2],⟨hA6,rfl,rfl,rfl,rfl,rfl,hX5.chg.trans' hn6.chg fun g hgw hg => (hX5.foot g (.inr (.inl hg))).elim id fun h1 => by omega,fun g hg => ?_⟩⟩
 rcases hg with hg | hg | ⟨j,hj,hg⟩
 ·exact .inl (.inl hg)
 ·rcases hn6.foot g hg with h1 | h1
  ·exact hX5.foot g (.inr (.inl h1))
  ·exact .inr (Nat.le_trans h5w h1)
 ·rcases mem_insK.1 hj with rfl | hj
  ·rcases hg with rfl | hg
   ·exact .inr hb4
   ·exact .inr (hq g hg)
  ·exact .inl (.inr (.inr ⟨j,hj,hg⟩))
end
end Go.Proofs.YtehpmbmdadkhbaaGreatDoor
