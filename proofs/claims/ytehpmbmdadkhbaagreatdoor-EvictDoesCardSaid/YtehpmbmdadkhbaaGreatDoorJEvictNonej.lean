/- Texts joined for EvictNone: DW4spaceitem, DP3spaceitem, DW5spaceitem, DW6spaceitem, DP4spaceitem, DW7spaceitem, DP5spaceitem. -/
import Derived.Test.YtehpmbmdadkhbaaGreatDoorJEvictNonei
import Derived.Laws.StructEq
import Derived.Deep.RegionHeld3
set_option linter.unusedVariables false
set_option linter.unusedSimpArgs false

namespace Go.Proofs.YtehpmbmdadkhbaaGreatDoor.Dspaceitem
open Go.RowKit Pal
attribute [local go_sem] Oper.semAt_some
theorem all80 {P:Array Value→Prop} (h:∀ u0 u1 u2 u3 u4 u5 u6 u7 u8 u9 u10 u11 u12 u13 u14 u15 u16 u17 u18 u19 u20 u21 u22 u23 u24 u25 u26 u27 u28 u29 u30 u31 u32 u33 u34 u35 u36 u37 u38 u39 u40 u41 u42 u43 u44 u45 u46 u47 u48 u49 u50 u51 u52 u53 u54 u55 u56 u57 u58 u59 u60 u61 u62 u63 u64 u65 u66 u67 u68 u69 u70 u71 u72 u73 u74 u75 u76 u77 u78 u79:Value,P #[u0,u1,u2,u3,u4,u5,u6,u7,u8,u9,u10,u11,u12,u13,u14,u15,u16,u17,u18,u19,u20,u21,u22,u23,u24,u25,u26,u27,u28,u29,u30,u31,u32,u33,u34,u35,u36,u37,u38,u39,u40,u41,u42,u43,u44,u45,u46,u47,u48,u49,u50,u51,u52,u53,u54,u55,u56,u57,u58,u59,u60,u61,u62,u63,u64,u65,u66,u67,u68,u69,u70,u71,u72,u73,u74,u75,u76,u77,u78,u79]) (a:Array Value) (hs:a.size=80):P a:=by
 obtain ⟨l⟩:=a
 have g:l.length=80:=hs
 clear hs
 iterate 80 (obtain ⟨_,l2,e,g2⟩:=Pal.len_cons g;clear g;subst e;have g:=g2;clear g2)
 obtain rfl:=List.length_eq_zero_iff.1 g
 exact h _ _ _ _ _ _ _ _ _ _ _ _ _ _ _ _ _ _ _ _ _ _ _ _ _ _ _ _ _ _ _ _ _ _ _ _ _ _ _ _ _ _ _ _ _ _ _ _ _ _ _ _ _ _ _ _ _ _ _ _ _ _ _ _ _ _ _ _ _ _ _ _ _ _ _ _ _ _ _ _
def StepAct (d:Dm) (n:Int) (B j:Nat) (Ds:List Nat) (a:Act):Prop :=
 a.tmps.size=80∧a.tmps[0]?=some (ptr d.blk)∧a.tmps[1]?=some (.int .i64 n)∧a.tmps[2]?=some (ptr B)∧a.tmps[5]?=some (.int .i64 (j:Int))∧a.defers=marks Ds
def StepInv (d:Dm) (n:Int) (w0:World) (m:Nat) (a:Act) (w:World):Prop :=
 ∃ (j:Nat) (Ds:List Nat),m=stepK d n - j∧j≤stepK d n∧StepAct d n w0.heap.size j Ds a∧DmAt w (moveN d j)∧Blk w w0.heap.size 76 #[ptr d.blk]∧Marked w w0.heap.size Ds∧Chg d.foot w0 w
set_option maxRecDepth 100000 in
set_option maxHeartbeats 1000000 in
theorem Step_any (d:Dm) (n:Int) (w:World) (h:DmAt w d) (hok:d.Ok) :
  Calls Tryz.prog 66 #[ptr d.blk,.int .i64 n] w fun e w' => e=.returned (.int .i64 (stepK d n:Int))∧DmAt w' (stepD d n)∧Chg d.foot w w':=by
 refine calls_of_wp_marks Tryz.func66 rfl ?_
 simp only [Tryz.ntmps66,List.size_toArray,List.length_cons,List.length_nil,Nat.reduceAdd,Nat.reduceSub,Array.replicate_succ,Array.replicate_zero,List.push_toArray,List.append_toArray,List.nil_append,List.cons_append]
 have hlt:=h.hd.lt
 unfold ptr
 go_wp2_with fail
 refine wp_loop_ghost (StepInv d n w) (stepK d n) ?_ ?_
 ·exact ⟨0,[],rfl,Nat.zero_le _,⟨rfl,rfl,rfl,rfl,rfl,rfl⟩,h.chg0 ((Chg.refl _ w).alloc _),Blk.new w _ _,Marked.nil _ _,(Chg.refl _ w).alloc _⟩
 ·rintro m ⟨tmps,ds⟩ W ⟨j,Ds,rfl,hj,⟨hsz,h0,h1,h2,h5,rfl⟩,hD,hB,hM,hC⟩
  replace hsz:tmps.size=80:=hsz
  dsimp only at h0 h1 h2 h5
  revert h0 h1 h2 h5
  revert hsz
  revert tmps
  refine all80 ?_
  intro u0 u1 u2 u3 u4 u5 u6 u7 u8 u9 u10 u11 u12 u13 u14 u15 u16 u17 u18 u19 u20 u21 u22 u23 u24 u25 u26 u27 u28 u29 u30 u31 u32 u33 u34 u35 u36 u37 u38 u39 u40 u41 u42 u43 u44 u45 u46 u47 u48 u49 u50 u51 u52 u53 u54 u55 u56 u57 u58 u59 u60 u61 u62 u63 u64 u65 u66 u67 u68 u69 u70 u71 u72 u73 u74 u75 u76 u77 u78 u79 h0 h1 h2 h5
  have hE:=moveN_ok hok j
  have hblk:=(moveN_blk d j).1
  obtain ⟨e,he⟩:∃ e,Hid (moveN d j=e):=⟨_,rfl⟩
  rw [he.out] at hD hE hblk
  rw [← hblk] at h0 hB
  simp only [ptr,List.getElem?_toArray,List.getElem?_cons_zero,List.getElem?_cons_succ,Option.some.injEq] at h0 h1 h2 h5
  subst h0 h1 h2 h5
  have hB0:=hB.cell 0
  simp only [ptr,List.getElem?_toArray,List.getElem?_cons_zero] at hB0
  have HBE:=Lib.hid hblk
  clear hblk
  by_cases hjn:(j:Int)<n
  ·have hmv:∀ W,DmAt W e→_:=fun W h => isMoving_any e W h
   unfold ptr at hmv
   cases ht:e.t1 with
   | none =>
    rw [ht] at hmv
    have hk:j=stepK d n:=by
     unfold stepK at hj ⊢
     have:=he.out
     cases hd:d.t1 with
     | none => rw [hd] at hj;simp at hj ⊢;exact hj
     | some u =>
      rw [hd] at hj
      simp only [Option.isSome_some,if_true] at hj ⊢
      rcases Nat.lt_or_ge (d.at_+j) d.t0.len with hlt2 | hge2
      ·have:=(moveN_at hok hd j hlt2).1
       rw [he.out,ht] at this
       cases this
      ·have:=hok.atlt u hd
       omega
    have HK:=Lib.hid hk
    have hfin:DmAt W (stepD d n):=by unfold stepD;rw [← hk,he.out];exact hD
    clear ht hk
    go_wp2_with (go_at_call 74;refine (hmv _ hD).mono ?_;rintro e w' ⟨rfl,rfl⟩)
    refine bodyPostM_marks (w0:=w) (fun _ => results_tmp rfl _ _ _) Ds W hM fun w' hc' => ⟨by rw [← HK.out];rfl,?_,?_⟩
    ·exact hfin.chg hc' fun g hg h' => Nat.lt_irrefl _ (Nat.lt_of_lt_of_le (h.lt (moveN_foot hok _ hg)) h')
    ·exact hC.trans' hc' fun g hg h' => absurd hg (Nat.not_lt.2 h')
   | some t =>
    rw [ht] at hmv
    have hlt0:=hE.atlt t ht
    obtain ⟨c0,c1,c2,c3,c4,cf,clt⟩:=dm_cells hD
    have ct:=hD.a0.1.cell e.at_
    rw [tbCells_get hlt0] at ct
    have hlti:(e.at_:Int)<(e.t0.len:Int):=by omega
    obtain ⟨q,HQ⟩:∃ q,Hid (hd (e.t0.at e.at_)=.pointer q):=by cases e.t0.at e.at_ <;> exact ⟨_,rfl⟩
    rw [HQ.out] at ct
    have HT:=Lib.hid ht
    rw [ht] at c2
    simp only [t1Val,tbVal] at c1 c2
    clear ht
    go_wp2_with (go_at_call 74;refine (hmv _ hD).mono ?_;rintro e w' ⟨rfl,rfl⟩)
    go_still_tail 11,(by kernel_rfl)
    go_wp2_with (go_at_call 103;refine (chain_any _ _).mono ?_;rintro e w' ⟨rfl,rfl⟩)
    have hA:Chg (fun _ => False) W (W.alloc (Obj.cells #[Value.pointer q] 136)).drew:=((Chg.refl _ W).alloc _).drew
    have hbox:Blk (W.alloc (Obj.cells #[Value.pointer q] 136)).drew W.heap.size 136 #[Value.pointer q]:=(Blk.new W _ _).drew
    have hD1:=hD.chg0 hA
    have hB1:=hB.chg hA id
    have hM1:=hM.chg hA fun _ _ _ => id
    have hC1:=hC.trans' hA fun _ _ h => h.elim
    have hs1:W.heap.size<(W.alloc (Obj.cells #[Value.pointer q] 136)).drew.heap.size:=by simp
    have hsW:=hC.size
    have hlow:w.heap.size<W.heap.size:=hB.lt
    generalize (W.alloc (Obj.cells #[Value.pointer q] 136)).drew=W1 at hA hbox hD1 hB1 hM1 hC1 hs1 ⊢
    obtain ⟨cb,hcb⟩:∃ cb,W.heap.size=cb:=⟨_,rfl⟩
    rw [hcb] at hbox hs1 hsW hlow ⊢
    rw [← HQ.out] at hbox
    have hcbn:∀ g,d.foot g→g≠cb:=fun g hg h' => by have:=h.lt hg;omega
    have hfoot:∀ g,e.foot g→d.foot g:=fun g hg => moveN_foot hok j (by rw [he.out];exact hg)
    clear hA c0 c1 c2 c3 c4 cf clt ct hmv hB0 hcb hD hB hM hC
    have hdis:=hD1.dis hE HT.out
    have hnd:=hD1.nodup
    have hmid:=hD1.mid HT.out
    have hpos:0<t.len:=by have:=(hE.s1 t HT.out).pos;omega
    refine wp_range 131 #[ptr cb] rfl (enters_of Tryz.func131 (by kernel_rfl) rfl) (fun fn rec hrec => ?_)
    refine (chain1_any (W1.heap.size+1) cb
     (fun r V => (∃ pre,pre++r=e.t0.at e.at_∧Mid e (pre.foldl push t) V)∧chAt V r∧Blk V cb 136 #[hd r]∧V.heap[W1.heap.size+1]?=some (.loop (rec .ready none))∧V.heap[W1.heap.size]?=some (.deferred (some []))∧Marked V w.heap.size Ds∧Blk V w.heap.size 76 #[ptr e.blk]∧Chg d.foot w V)
     (fun r V => (∃ pre,pre++r=e.t0.at e.at_∧Mid e (pre.foldl push t) V)∧chAt V r∧(∃ v,Blk V cb 136 #[v])∧V.heap[W1.heap.size+1]?=some (.loop (rec .ready none))∧V.heap[W1.heap.size]?=some (.deferred (some []))∧Marked V w.heap.size Ds∧Blk V w.heap.size 76 #[ptr e.blk]∧Chg d.foot w V)
     (fun _ => False) ?_ ?_ ?_ (e.t0.at e.at_) _ ?_).mono ?_
    ·rintro r V ⟨_,_,hb,_⟩
     exact hb.cell 0
    ·rintro x r V ⟨⟨pre,hpre,hm⟩,⟨hx,hr⟩,hb,hl,hDf,hMk,hBx,hCx⟩
     refine ⟨hx.cell 3,?_⟩
     refine yield_body hrec hl rfl (fun K hK => by gi_wp2;exact hK) hl ?_
     have kc:=KeepC.put_loop hl (Obj.loop (rec LoopState.busy none))
     have hxc:x∈e.t0.at e.at_:=by rw [← hpre];simp
     have hxn:x∈e.nodes:=mem_nodes0 (mem_nodes.2 ⟨_,hlt0,hxc⟩)
     have hxs:x.sum<4294967296:=hE.sum_lt hxn
     have hfs:=fold_sized pre (hE.s1 t HT.out)
     have hvt:tbVal (pre.foldl push t)=tbVal t:=by unfold tbVal;rw [fold_len,fold_blk]
     have hp:0<(pre.foldl push t).len:=by rw [fold_len];exact hpos
     have hcn:=hdis.nod
     rw [← hpre,List.map_append,List.map_cons] at hcn
     have hcn2:=(List.nodup_append.1 hcn).2.1
     have hd1:∀ y∈(pre.foldl push t).nodes,y.blk≠x.blk:=fun y hy => by
      have hy':=(fold_push_perm pre hpos).mem_iff.1 hy
      rcases List.mem_append.1 hy' with hy' | hy'
      ·exact (List.nodup_append.1 hcn).2.2 _ (List.mem_map.2 ⟨y,hy',rfl⟩) _ (by simp)
      ·exact hdis.d1 x hxc y hy'
     have hdr:∀ y∈r,y.blk≠x.blk:=fun y hy h' => by
      rw [List.nodup_cons] at hcn2
      exact hcn2.1 (h' ▸ List.mem_map.2 ⟨y,hy,rfl⟩)
     have htb:Hid ((pre.foldl push t).blk=t.blk):=fold_blk _ _
     have hft:d.foot t.blk:=hfoot _ (.inr (.inr (.inl ⟨t,HT.out,rfl⟩)))
     have hfx:d.foot x.blk:=hfoot _ (.inr (.inr (.inr ⟨x,hxn,rfl⟩)))
     have hsp:Hid ((pre++[x]).foldl push t=push (pre.foldl push t) x):=by show _=_;rw [List.foldl_append];rfl
     have HP:Hid (pre++x :: r=e.t0.at e.at_):=hpre
     have m2:=hm.keep kc
     have r2:=hr.keep kc
     have x2:=hx.keep kc
     have b2:=hb.keep kc
     have B2:=hBx.keep kc
     have g3:(V.putObj (W1.heap.size+1) (Obj.loop (rec LoopState.busy none))).heap[W1.heap.size+1]?=some (.loop (rec .busy none)):=World.putObj_heap_same (Array.getElem?_eq_some_iff.1 hl).1
     have g4:(V.putObj (W1.heap.size+1) (Obj.loop (rec LoopState.busy none))).heap[W1.heap.size]?=some (.deferred (some [])):=(World.putObj_heap_other (by omega)).trans hDf
     have g5:Chg d.foot w (V.putObj (W1.heap.size+1) (Obj.loop (rec LoopState.busy none))):=hCx.put (by omega) _
     have g6:Marked (V.putObj (W1.heap.size+1) (Obj.loop (rec LoopState.busy none))) w.heap.size Ds:=⟨hMk.1,fun D hDD => ⟨(hMk.2 D hDD).1,(World.putObj_heap_other (fun h' => by have:=(hMk.2 D hDD).2;rw [h',hl] at this;cases this)).trans (hMk.2 D hDD).2⟩⟩
     generalize V.putObj (W1.heap.size+1) (Obj.loop (rec LoopState.busy none))=V1 at m2 r2 x2 b2 B2 g3 g4 g5 g6 ⊢
     generalize pre.foldl push t=t' at hfs hvt hp hd1 htb hsp m2
     clear hm hr hx hb hl hDf hMk hBx hCx kc hpre hcn hcn2 hxc
     have k0:=B2.cell 0
     have k1:=m2.hd.cell 2
     simp only [dmCells,ptr,List.getElem?_toArray,List.getElem?_cons_zero,List.getElem?_cons_succ] at k0 k1
     rw [HT.out] at k1
     simp only [t1Val] at k1
     rw [← hvt] at k1
     have hlt1:=m2.hd.lt
     have hltB:=B2.lt
     simp only [tbVal] at k1
     clear hvt
     unfold ptr
     gi_wp2
     refine ⟨trivial,?_⟩
     have kA:=KeepC.alloc V1 (Obj.cells #[Value.pointer (some { block:=x.blk,off:=0 })] 136)
     have cn:=(Blk.new V1 136 #[Value.pointer (some { block:=x.blk,off:=0 })]).cell 0
     simp only [List.getElem?_toArray,List.getElem?_cons_zero] at cn
     have m3:=m2.keep kA
     have r3:=r2.keep kA
     have x3:=x2.keep kA
     have b3:=b2.keep kA
     have B3:=B2.keep kA
     have i3:=(Below.heap_alloc V1 (Obj.cells #[Value.pointer (some { block:=x.blk,off:=0 })] 136) _ (Array.getElem?_eq_some_iff.1 g3).1).trans g3
     have i4:=(Below.heap_alloc V1 (Obj.cells #[Value.pointer (some { block:=x.blk,off:=0 })] 136) _ (Array.getElem?_eq_some_iff.1 g4).1).trans g4
     have i5:=g5.alloc (Obj.cells #[Value.pointer (some { block:=x.blk,off:=0 })] 136)
     have i6:Marked (V1.alloc (Obj.cells #[Value.pointer (some { block:=x.blk,off:=0 })] 136)) w.heap.size Ds:=⟨g6.1,fun D hDD => ⟨(g6.2 D hDD).1,(Below.heap_alloc _ _ _ (Array.getElem?_eq_some_iff.1 (g6.2 D hDD).2).1).trans (g6.2 D hDD).2⟩⟩
     generalize V1.alloc (Obj.cells #[Value.pointer (some { block:=x.blk,off:=0 })] 136)=V2 at cn m3 r3 x3 b3 B3 i3 i4 i5 i6 ⊢
     refine (CallsIn.inRound _ (callsIn_wide.2 (put_any t' x _ V1.heap.size V2 hfs hxs m3.t1.1 x3 cn))).mono ?_
     rintro e4 V3 ⟨⟨v4,rfl⟩,hV3⟩
     obtain ⟨m4,r4,c4⟩:=mid_put (t:=t) m3 hlt0 hp x3 r3 (fun y hy => hdis.d0 x (by rw [← HP.out];simp) y hy) hd1 hdr V3 hV3
     gi_wp2
     have l3:V3.heap[W1.heap.size+1]?=some (.loop (rec .busy none)):=c4.same i3 (by rintro (h' | h');exact x3.ne_loop i3 h'.symm;exact m3.t1.1.ne_loop i3 h'.symm)
     have kp:=KeepC.put_loop l3 (Obj.loop (rec LoopState.ready none))
     have d3:V3.heap[W1.heap.size]?=some (.deferred (some [])):=c4.same i4 (by rintro (h' | h');exact x3.ne_def i4 h'.symm;exact m3.t1.1.ne_def i4 h'.symm)
     have c5:Chg d.foot w V3:=i5.trans' c4 (by rintro g _ (h' | h');exact h' ▸ hfx;exact (h'.trans htb.out) ▸ hft)
     have n5:Marked V3 w.heap.size Ds:=i6.chg c4 (by rintro D o hDD (h' | h');exact x3.ne_def hDD h'.symm;exact m3.t1.1.ne_def hDD h'.symm)
     refine ⟨l3,.inl ⟨rfl,⟨pre++[x],by rw [← HP.out];simp,?_⟩,r4.keep kp,⟨_,Blk.keep (b3.chg c4 (by rintro (h' | h');exact x3.ne_type b3 (by decide) h'.symm;exact hcbn _ hft (h'.trans htb.out).symm)) kp⟩,?_,?_,?_,?_,?_⟩⟩
     ·rw [hsp.out];exact m4.keep kp
     ·exact World.putObj_heap_same (Array.getElem?_eq_some_iff.1 l3).1
     ·exact (World.putObj_heap_other (by omega)).trans d3
     ·exact ⟨n5.1,fun D hDD => ⟨(n5.2 D hDD).1,(World.putObj_heap_other (fun h' => by have:=(n5.2 D hDD).2;rw [h',l3] at this;cases this)).trans (n5.2 D hDD).2⟩⟩
     ·exact Blk.keep (B3.chg c4 (by rintro (h' | h');exact x3.ne_type B3 (by decide) h'.symm;exact m3.t1.1.ne_type B3 (by decide) h'.symm)) kp
     ·exact c5.put (by omega) _
    ·rintro r V ⟨⟨pre,hpre,hm⟩,hr,⟨v,hb⟩,hl,hDf,hMk,hBx,hCx⟩
     have hcs:Chg (fun g => g=cb) V (V.setCell ⟨cb,0,none⟩ (hd r)):=(Chg.refl (fun g => g=cb) V).store rfl 0 _
     have hnt:∀ y∈(pre.foldl push t).nodes,y.blk≠cb:=fun y hy h' => by
      obtain ⟨nx,hb'⟩:=hm.t1.node hy
      exact hb'.ne_type hb (by decide) h'
     have hch:∀ c:Ch,chAt V c→chAt (V.setCell ⟨cb,0,none⟩ (hd r)) c:=fun c hcc => hcc.chg hcs fun y hy h' => by
      obtain ⟨p1,p2,rfl⟩:=List.append_of_mem hy
      exact (hcc.node rfl).ne_type hb (by decide) h'
     refine ⟨⟨v,hb.cell 0⟩,hb.frozen 0,⟨pre,hpre,⟨hm.hd.chg hcs (hm.hd.ne_type hb (by decide)),hm.tb0.chg hcs (hcbn _ (hfoot _ (.inr (.inl rfl)))),fun i hi hne => hch _ (hm.oth i hi hne),⟨hm.t1.1.chg hcs ?_,fun c hc => hch c (hm.t1.2 c hc)⟩,hm.ne⟩⟩,hch r hr,hb.set 0 _,?_,?_,?_,?_,?_⟩
     ·rw [fold_blk];exact hcbn _ (hfoot _ (.inr (.inr (.inl ⟨t,HT.out,rfl⟩))))
     ·exact hcs.same hl (fun h' => hb.ne_loop hl h'.symm)
     ·exact hcs.same hDf (fun h' => hb.ne_def hDf h'.symm)
     ·exact hMk.chg hcs fun D o hDD h' => hb.ne_def hDD h'.symm
     ·exact hBx.chg hcs (hBx.ne_type hb (by decide))
     ·exact hCx.store_new (by omega) 0 _
    ·have kd:=(KeepC.alloc W1 (.deferred (some []))).trans (KeepC.alloc _ (.loop (rec .ready none)))
     refine ⟨⟨[],rfl,hmid.keep kd⟩,(hD1.a0.2 _ (Tb.at_mem hlt0)).keep kd,hbox.keep kd,?_,?_,?_,hB1.keep kd,(hC1.alloc _).alloc _⟩
     ·have:=World.alloc_heap_new (W1.alloc (.deferred (some []))) (.loop (rec .ready none))
      rwa [World.size_alloc] at this
     ·exact (Below.heap_alloc _ _ _ (by simp)).trans (World.alloc_heap_new _ _)
     ·exact ⟨hM1.1,fun D hDD => ⟨(hM1.2 D hDD).1,by
       have hx:=(hM1.2 D hDD).2
       have hlt':=(Array.getElem?_eq_some_iff.1 hx).1
       exact (Below.heap_alloc _ _ _ (by simp;omega)).trans ((Below.heap_alloc _ _ _ hlt').trans hx)⟩⟩
    ·rintro e5 V ⟨⟨v,rfl⟩,(⟨⟨pre,hpre,hm⟩,_,_,hl,hDf,hMk,hBx,hCx⟩ | hF)⟩
     case inr => exact hF.elim
     rw [List.append_nil] at hpre
     subst hpre
     refine ⟨⟨_,rfl⟩,.inl ⟨hl,?_⟩⟩
     have kp:=KeepC.put_loop hl (Obj.loop (rec LoopState.exhausted none))
     have m2:=hm.keep kp
     have B2:=hBx.keep kp
     have g4:(V.putObj (W1.heap.size+1) (Obj.loop (rec LoopState.exhausted none))).heap[W1.heap.size]?=some (.deferred (some [])):=(World.putObj_heap_other (by omega)).trans hDf
     have g5:Chg d.foot w (V.putObj (W1.heap.size+1) (Obj.loop (rec LoopState.exhausted none))):=hCx.put (by omega) _
     have g6:Marked (V.putObj (W1.heap.size+1) (Obj.loop (rec LoopState.exhausted none))) w.heap.size (W1.heap.size :: Ds):=by
      refine Marked.cons ⟨hMk.1,fun D hDD => ⟨(hMk.2 D hDD).1,(World.putObj_heap_other (fun h' => by have:=(hMk.2 D hDD).2;rw [h',hl] at this;cases this)).trans (hMk.2 D hDD).2⟩⟩ g4 (by omega) fun hin => ?_
      have:=(Array.getElem?_eq_some_iff.1 (hM1.2 _ hin).2).1
      omega
     generalize V.putObj (W1.heap.size+1) (Obj.loop (rec LoopState.exhausted none))=V1 at m2 B2 g4 g5 g6 ⊢
     clear hm hl hDf hMk hBx hCx kp hD1 hB1 hM1 hC1 hbox hmid hrec g4
     have k0:=B2.cell 0
     have k1:=m2.hd.cell 1
     have k2:=m2.hd.cell 2
     have k3:=m2.hd.cell 3
     have kf1:=m2.hd.frozen 1
     have kf2:=m2.hd.frozen 2
     have kf3:=m2.hd.frozen 3
     simp only [dmCells,ptr,tbVal,List.getElem?_toArray,List.getElem?_cons_zero,List.getElem?_cons_succ] at k0 k1 k2 k3
     rw [HT.out] at k2
     simp only [t1Val,tbVal] at k2
     have ct:=m2.tb0.cell e.at_
     rw [tbCells_get hlt0,HQ.out] at ct
     have cf:=m2.tb0.frozen e.at_
     have hne1:e.blk≠e.t0.blk:=m2.hd.ne_type m2.tb0 (by decide)
     have hne2:e.t0.blk≠e.blk:=fun h' => hne1 h'.symm
     have hne3:w.heap.size≠e.t0.blk:=B2.ne_type m2.tb0 (by decide)
     have hne4:w.heap.size≠e.blk:=B2.ne_type m2.hd (by decide)
     have hat:e.at_≤65536:=by have:=hE.s0.pos;omega
     have hjb:j≤65536:=by
      have h0:=hok.s0.pos
      unfold stepK at hj
      split at hj <;> omega
     have hjs:j+1≤stepK d n:=by
      unfold stepK
      have hd1:∃ u,d.t1=some u:=by
       cases hdt:d.t1 with
       | some u => exact ⟨u,rfl⟩
       | none =>
        have:∀ k,moveN d k=d:=fun k => by
         induction k with
         | zero => rfl
         | succ k ih => show moveSlot (moveN d k)=d;rw [ih];unfold moveSlot;rw [hdt]
        have h9:=he.out
        rw [this] at h9
        rw [← h9,hdt] at HT
        cases HT.out
      obtain ⟨u,hu⟩:=hd1
      rw [hu]
      simp only [Option.isSome_some,if_true]
      have h9:d.at_+j<d.t0.len:=by
       rcases Nat.lt_or_ge (d.at_+j) d.t0.len with h9 | h9
       ·exact h9
       ·have hall:=moveN_all hok hu
        have h0:=hok.atlt u hu
        have hjj:j=d.t0.len - d.at_:=by
         unfold stepK at hj
         rw [hu] at hj
         simp only [Option.isSome_some,if_true] at hj
         omega
        rw [← hjj,he.out,HT.out] at hall
        cases hall.1
      omega
     go_wp2_with fail
     go_still_tail 10,(by kernel_rfl)
     go_wp2_with fail
     have n1:=((m2.hd.far (p:=⟨e.t0.blk,e.at_,none⟩) hne1 (.pointer none)).set 3 (.int .i64 ((e.at_:Int)+1))).drew
     have n2:=(((m2.tb0.set e.at_ (.pointer none))).far (p:=⟨e.blk,3,none⟩) hne2 (.int .i64 ((e.at_:Int)+1))).drew
     have n3:=((B2.far (p:=⟨e.t0.blk,e.at_,none⟩) hne3 (.pointer none)).far (p:=⟨e.blk,3,none⟩) hne4 (.int .i64 ((e.at_:Int)+1))).drew
     have n4:Chg (fun g => g=e.blk∨g=e.t0.blk) V1 ((V1.setCell { block:=e.t0.blk,off:=e.at_ } (Value.pointer none)).setCell { block:=e.blk,off:=3 } (Value.int IntKind.i64 ((e.at_:Int)+1))).drew :=
      (((Chg.refl _ V1).store (.inr rfl) _ _).store (.inl rfl) _ _).drew
     generalize ((V1.setCell { block:=e.t0.blk,off:=e.at_ } (Value.pointer none)).setCell { block:=e.blk,off:=3 } (Value.int IntKind.i64 ((e.at_:Int)+1))).drew=V2 at n1 n2 n3 n4 ⊢
     clear k0 k1 k2 k3 kf1 kf2 kf3 ct cf
     have k0:=n3.cell 0
     have k1:=n1.cell 1
     have k2:=n1.cell 2
     have k3:=n1.cell 3
     have kf1:=n1.frozen 1
     have kf2:=n1.frozen 2
     have kf3:=n1.frozen 3
     simp [dmCells,ptr,tbVal] at k0 k1 k2 k3
     rw [HT.out] at k2
     simp only [t1Val,tbVal] at k2
     have hfe:d.foot e.blk:=hfoot _ (.inl rfl)
     have hft0:d.foot e.t0.blk:=hfoot _ (.inr (.inl rfl))
     have q5:Chg d.foot w V2:=g5.trans' n4 (by rintro g _ (h' | h');exact h' ▸ hfe;exact h' ▸ hft0)
     have q6:Marked V2 w.heap.size (W1.heap.size :: Ds):=g6.chg n4 (by rintro D o hDD (h' | h');exact m2.hd.ne_def hDD h'.symm;exact m2.tb0.ne_def hDD h'.symm)
     by_cases hl:e.at_+1=e.t0.len
     ·have hb:((e.at_:Int)+1 == (e.t0.len:Int))=true:=by rw [beq_iff_eq];omega
      have HL:=Lib.hid hl
      clear hl
      go_quiet (fail)
      go_wp2_with fail
      have p1:=n1.drewN nq
      have p3:=n3.drewN nq
      go_region
      go_wp2_with fail
      have r1:=(((n1.drewN (nq+1)).set 1 (.slice (some ⟨t.blk,0,none⟩) t.len t.len)).set 2 (.slice none 0 0)).set 3 (.int .i64 0)
      have r4:Chg (fun g => g=e.blk) V2 ((((V2.drewN (nq+1)).setCell { block:=e.blk,off:=1 } (Value.slice (some { block:=t.blk,off:=0 }) t.len t.len)).setCell { block:=e.blk,off:=2 } (Value.slice none 0 0)).setCell { block:=e.blk,off:=3 } (Value.int IntKind.i64 0)) :=
       (((Chg.refl (fun g => g=e.blk) V2).drewN (nq+1)).store rfl 1 _).store rfl 2 _ |>.store rfl 3 _
      generalize (((V2.drewN (nq+1)).setCell { block:=e.blk,off:=1 } (Value.slice (some { block:=t.blk,off:=0 }) t.len t.len)).setCell { block:=e.blk,off:=2 } (Value.slice none 0 0)).setCell { block:=e.blk,off:=3 } (Value.int IntKind.i64 0)=V3 at r1 r4 ⊢
      refine ⟨stepK d n - (j+1),by omega,j+1,W1.heap.size :: Ds,rfl,hjs,⟨rfl,congrArg (fun b => some (ptr b)) HBE.out,rfl,rfl,congrArg some (int_eq (by omega)),rfl⟩,?_,by rw [← HBE.out];exact n3.chg r4 hne4,q6.chg r4 (fun D o hDD h' => n1.ne_def hDD h'.symm),q5.trans' r4 (fun g _ h' => h' ▸ hfe)⟩
      have e9:moveN d (j+1)=moveSlot e:=by show moveSlot (moveN d j)=_;rw [he.out]
      rw [e9]
      refine mid_last m2 hE HT.out rfl HL.out hnd (n4.trans' r4 (fun g _ h' => .inl h')) ?_
      simpa [dmCells,tbVal] using r1
     ·have hb:((e.at_:Int)+1 == (e.t0.len:Int))=false:=by rw [beq_eq_false_iff_ne];omega
      have HL:=Lib.hid hl
      clear hl
      go_quiet (fail)
      go_wp2_with fail
      have hdr:∀ k,Chg (fun _ => False) V2 (V2.drewN k):=fun k => (Chg.refl _ V2).drewN k
      refine ⟨stepK d n - (j+1),by omega,j+1,W1.heap.size :: Ds,rfl,hjs,⟨rfl,congrArg (fun b => some (ptr b)) HBE.out,rfl,rfl,congrArg some (int_eq (by omega)),rfl⟩,?_,by rw [← HBE.out];exact n3.drewN _,q6.chg (hdr _) (fun _ _ _ => id),q5.drewN _⟩
      have e9:moveN d (j+1)=moveSlot e:=by show moveSlot (moveN d j)=_;rw [he.out]
      rw [e9]
      refine DmAt.chg0 ?_ (hdr _)
      refine mid_next m2 hE HT.out rfl HL.out hnd n4 ?_ n2
      rw [show ((e.at_+1:Nat):Int)=(e.at_:Int)+1 by omega]
      exact n1
  ·have hk:j=stepK d n:=by
    unfold stepK at hj ⊢
    by_cases hd:d.t1.isSome=true
    ·rw [if_pos hd] at hj ⊢;omega
    ·rw [if_neg hd] at hj ⊢;omega
   have HK:=Lib.hid hk
   have hfin:DmAt W (stepD d n):=by unfold stepD;rw [← hk,he.out];exact hD
   clear hk
   go_wp2_with fail
   refine bodyPostM_marks (w0:=w) (fun _ => results_tmp rfl _ _ _) Ds W hM fun w' hc' => ⟨by rw [← HK.out];rfl,?_,?_⟩
   ·exact hfin.chg hc' fun g hg h' => Nat.lt_irrefl _ (Nat.lt_of_lt_of_le (h.lt (moveN_foot hok _ hg)) h')
   ·exact hC.trans' hc' fun g hg h' => absurd hg (Nat.not_lt.2 h')
end Go.Proofs.YtehpmbmdadkhbaaGreatDoor.Dspaceitem

namespace Go.Proofs.YtehpmbmdadkhbaaGreatDoor.Dspaceitem
open Go.RowKit Pal
def Dm.tab (d:Dm) (i:Nat):Option Tb:=if i=0 then some d.t0 else d.t1
def Dm.setTab (d:Dm) (ti:Nat) (t:Tb):Dm:=if ti=0 then { d with t0:=t } else { d with t1:=some t }
theorem tab0 (d:Dm):d.tab 0=some d.t0:=rfl
theorem tab_ok {d:Dm} (h:d.Ok) {i:Nat} {t:Tb} (ht:d.tab i=some t):t.Sized∧(∀ j x,j<t.len→x∈t.at j→x.sum % t.len=j)∧∀ x∈t.nodes,x∈d.nodes:=by
 unfold Dm.tab at ht
 split at ht
 ·injection ht with ht;subst ht;exact ⟨h.s0,h.in0,fun x hx => mem_nodes0 hx⟩
 ·exact ⟨h.s1 t ht,h.in1 t ht,fun x hx => mem_nodes1 ht hx⟩
theorem tab_at {w:World} {d:Dm} (h:DmAt w d) {i:Nat} {t:Tb} (ht:d.tab i=some t):tbAt w t:=by
 unfold Dm.tab at ht
 split at ht
 ·injection ht with ht;subst ht;exact h.a0
 ·exact h.a1 t ht
theorem tab_foot {d:Dm} {i:Nat} {t:Tb} (ht:d.tab i=some t):d.foot t.blk:=by
 unfold Dm.tab at ht
 split at ht
 ·injection ht with ht;subst ht;exact .inr (.inl rfl)
 ·exact .inr (.inr (.inl ⟨t,ht,rfl⟩))
theorem tab_nodes {d:Dm} {i:Nat} {t:Tb} (ht:d.tab i=some t) {x:Nd} (hx:x∈t.nodes):x∈d.nodes:=by
 unfold Dm.tab at ht
 split at ht
 ·injection ht with ht;subst ht;exact mem_nodes0 hx
 ·exact mem_nodes1 ht hx
theorem setTab_perm {d:Dm} {ti:Nat} {t:Tb} (ht:d.tab ti=some t) {i:Nat} (hi:i<t.len) (c:Ch) :
  ((d.setTab ti (t.set i c)).nodes).Perm (c++(d.setTab ti (t.set i [])).nodes):=by
 have h1:=nodes_set_perm t hi c
 have h2:=nodes_set_perm t hi []
 rw [List.append_nil] at h2
 have h3:((t.set i c).nodes++t.at i).Perm ((c++(t.set i []).nodes)++t.at i):=by
  refine h1.trans ((h2.symm.append_right c).trans ?_)
  rw [List.append_assoc,List.append_assoc]
  refine (List.Perm.append_left _ List.perm_append_comm).trans ?_
  rw [← List.append_assoc,← List.append_assoc]
  exact List.perm_append_comm.append_right _
 have h4:=(List.perm_append_right_iff _).1 h3
 unfold Dm.setTab Dm.nodes Dm.nodes1
 by_cases e:ti=0
 ·simp only [if_pos e]
  rw [← List.append_assoc]
  exact h4.append_right _
 ·simp only [if_neg e]
  refine (List.Perm.append_left _ h4).trans ?_
  rw [← List.append_assoc,← List.append_assoc]
  exact List.perm_append_comm.append_right _
theorem tab_perm {d:Dm} {ti:Nat} {t:Tb} (ht:d.tab ti=some t) {i:Nat} (hi:i<t.len):d.nodes.Perm (t.at i++(d.setTab ti (t.set i [])).nodes):=by
 have h:=setTab_perm ht hi (t.at i)
 have e:t.set i (t.at i)=t:=by
  unfold Tb.set
  have:t.slots.set i (t.at i)=t.slots:=by
   apply List.ext_getElem?
   intro j
   rw [List.getElem?_set]
   split
   ·rename_i e;subst e;rw [Tb.at_lt hi];simp;exact hi
   ·rfl
  rw [this]
 rw [e] at h
 have e2:d.setTab ti t=d:=by
  unfold Dm.tab at ht
  unfold Dm.setTab
  split at ht
  ·rename_i h0;injection ht with ht;subst ht;rw [if_pos h0]
  ·rename_i h0;rw [if_neg h0,← ht]
 rw [e2] at h
 exact h
theorem upd_slot {W W':World} {d:Dm} {S:Nat→Prop} (h:DmAt W d) {ti:Nat} {t:Tb} (ht:d.tab ti=some t) {i:Nat} (hi:i<t.len) (c:Ch) (hc:Chg S W W')
  (hS:∀ g,S g→g=t.blk∨(∃ y∈t.at i,g=y.blk)∨¬ d.foot g) (hT:Blk W' t.blk 136 (tbCells (t.set i c))) (hch:chAt W' c) (hnd:((d.setTab ti (t.set i c)).nodes.map (·.blk)).Nodup) :
  DmAt W' (d.setTab ti (t.set i c)):=by
 have hta:=tab_at h ht
 have hp:=tab_perm ht hi
 have hn:((t.at i++(d.setTab ti (t.set i [])).nodes).map (·.blk)).Nodup:=(hp.map _).nodup_iff.1 h.nodup
 rw [List.map_append,List.nodup_append] at hn
 have hmem:∀ y∈t.at i,y∈d.nodes:=fun y hy => hp.mem_iff.2 (List.mem_append.2 (.inl hy))
 have hblk:¬ S d.blk:=fun hs => by
  rcases hS _ hs with e | ⟨y,hy,e⟩ | e
  ·exact hta.1.ne_type h.hd (by decide) e.symm
  ·exact (h.nd_ne (hmem y hy)).1 e.symm
  ·exact e (.inl rfl)
 -- another node's block is untouched
 have hoth:∀ x,x∈(d.setTab ti (t.set i [])).nodes→¬ S x.blk:=fun x hx hs => by
  have hxd:x∈d.nodes:=hp.mem_iff.2 (List.mem_append.2 (.inr hx))
  rcases hS _ hs with e | ⟨y,hy,e⟩ | e
  ·obtain ⟨nx,hb⟩:=h.node hxd;exact hb.ne_type hta.1 (by decide) e
  ·exact hn.2.2 _ (List.mem_map.2 ⟨y,hy,rfl⟩) _ (List.mem_map.2 ⟨x,hx,rfl⟩) e.symm
  ·exact e (.inr (.inr (.inr ⟨x,hxd,rfl⟩)))
 have hslots:∀ c'∈(t.set i c).slots,chAt W' c':=fun c' hc' => by
  have hc2:c'∈t.slots.set i c:=hc'
  obtain ⟨j,hj,rfl⟩:=List.mem_iff_getElem.1 hc2
  rw [List.getElem_set]
  split
  ·exact hch
  ·rename_i hne
   have hj':j<t.len:=by simpa [Tb.len] using hj
   have e2:=Tb.at_lt hj'
   rw [List.getElem?_eq_getElem hj'] at e2
   injection e2 with e2
   have:=(hta.2 _ (Tb.at_mem hj')).chg hc fun x hx => hoth x (by
    have:x∈(t.set i []).nodes:=mem_nodes.2 ⟨j,by rw [Tb.set_len];exact hj',by rw [Tb.set_at hi,if_neg hne];exact hx⟩
    unfold Dm.setTab Dm.nodes Dm.nodes1
    split
    ·exact List.mem_append.2 (.inl this)
    ·exact List.mem_append.2 (.inr this))
   rw [← e2] at this
   exact this
 have hval:tbVal (t.set i c)=tbVal t:=by unfold tbVal;rw [Tb.set_len];rfl
 unfold Dm.tab at ht
 by_cases e0:ti=0
 ·rw [if_pos e0] at ht
  injection ht with ht
  have es:d.setTab ti (t.set i c)={ d with t0:=t.set i c }:=by unfold Dm.setTab;rw [if_pos e0]
  have es2:(d.setTab ti (t.set i [])).nodes1=d.nodes1:=by unfold Dm.setTab;rw [if_pos e0];rfl
  rw [es] at hnd ⊢
  refine { hd:=?_,a0:=⟨hT,hslots⟩,a1:=fun u hu => ?_,ne:=fun u hu => by subst ht;exact h.ne u hu,nodup:=hnd }
  ·have:=h.hd.chg hc hblk
   have ev:dmCells { d with t0:=t.set i c }=dmCells d:=by unfold dmCells;dsimp only;rw [hval,ht]
   rw [ev];exact this
  ·have hu':d.t1=some u:=hu
   refine (h.a1 u hu').chg hc (fun hs => ?_) fun x hx => hoth x ?_
   ·rcases hS _ hs with e | ⟨y,hy,e⟩ | e
    ·exact h.ne u hu' (by rw [ht];exact e.symm)
    ·exact ((h.nd_ne (hmem y hy)).2.2 u hu') e.symm
    ·exact e (.inr (.inr (.inl ⟨u,hu',rfl⟩)))
   ·unfold Dm.nodes;rw [es2];unfold Dm.nodes1;rw [hu'];exact List.mem_append.2 (.inr hx)
 ·rw [if_neg e0] at ht
  have es:d.setTab ti (t.set i c)={ d with t1:=some (t.set i c) }:=by unfold Dm.setTab;rw [if_neg e0]
  have es2:(d.setTab ti (t.set i [])).t0=d.t0:=by unfold Dm.setTab;rw [if_neg e0]
  rw [es] at hnd ⊢
  refine { hd:=?_,a0:=?_,a1:=fun u hu => ?_,ne:=fun u hu => ?_,nodup:=hnd }
  ·have:=h.hd.chg hc hblk
   have ev:dmCells { d with t1:=some (t.set i c) }=dmCells d:=by unfold dmCells t1Val;dsimp only;rw [hval,ht]
   rw [ev];exact this
  ·refine h.a0.chg hc (fun hs => ?_) fun x hx => hoth x ?_
   ·rcases hS _ hs with e | ⟨y,hy,e⟩ | e
    ·exact h.ne t ht e
    ·exact ((h.nd_ne (hmem y hy)).2.1) e.symm
    ·exact e (.inr (.inl rfl))
   ·unfold Dm.nodes;rw [es2];exact List.mem_append.2 (.inl hx)
  ·injection hu with hu;subst hu;exact ⟨hT,hslots⟩
  ·injection hu with hu;subst hu;exact h.ne t ht
end Go.Proofs.YtehpmbmdadkhbaaGreatDoor.Dspaceitem

namespace Go.Proofs.YtehpmbmdadkhbaaGreatDoor.Dspaceitem
open Go.RowKit Pal
attribute [local go_sem] Oper.semAt_some
def loc (t:Tb) (i:Nat) (pre:Ch):Addr :=
 match pre.getLast? with
 | none => ⟨t.blk,i,none⟩
 | some y => ⟨y.blk,3,none⟩
theorem loc_nil (t:Tb) (i:Nat):loc t i []=⟨t.blk,i,none⟩:=rfl
theorem loc_snoc (t:Tb) (i:Nat) (pre:Ch) (y:Nd):loc t i (pre++[y])=⟨y.blk,3,none⟩:=by simp [loc]
theorem loc_cell {w:World} {t:Tb} (h:tbAt w t) {i:Nat} (hi:i<t.len) {pre rest:Ch} (e:t.at i=pre++rest):w.cell? (loc t i pre)=some (hd rest):=by
 rcases List.eq_nil_or_concat pre with rfl | ⟨p,y,rfl⟩
 ·rw [loc_nil,h.1.cell i,tbCells_get hi,e];rfl
 ·rw [List.concat_eq_append,loc_snoc]
  have hc:=h.2 _ (Tb.at_mem hi)
  rw [e,List.concat_eq_append,List.append_assoc] at hc
  exact (hc.node rfl).cell 3
def WithPost (d:Dm) (key:ByteArray) (w:World) (R:World→Prop) (e:Ending) (w':World):Prop :=
 (e=.returned (.bool true)∧(∃ x∈d.nodes,x.key=key)∧R w')∨(e=.returned (.bool false)∧(∀ x∈d.nodes,x.key≠key)∧Chg (fun _ => False) w w')
theorem all52 {P:Array Value→Prop} (h:∀ u0 u1 u2 u3 u4 u5 u6 u7 u8 u9 u10 u11 u12 u13 u14 u15 u16 u17 u18 u19 u20 u21 u22 u23 u24 u25 u26 u27 u28 u29 u30 u31 u32 u33 u34 u35 u36 u37 u38 u39 u40 u41 u42 u43 u44 u45 u46 u47 u48 u49 u50 u51:Value,P #[u0,u1,u2,u3,u4,u5,u6,u7,u8,u9,u10,u11,u12,u13,u14,u15,u16,u17,u18,u19,u20,u21,u22,u23,u24,u25,u26,u27,u28,u29,u30,u31,u32,u33,u34,u35,u36,u37,u38,u39,u40,u41,u42,u43,u44,u45,u46,u47,u48,u49,u50,u51]) (a:Array Value) (hs:a.size=52):P a:=by
 obtain ⟨l⟩:=a
 have g:l.length=52:=hs
 clear hs
 iterate 52 (obtain ⟨_,l2,e,g2⟩:=Pal.len_cons g;clear g;subst e;have g:=g2;clear g2)
 obtain rfl:=List.length_eq_zero_iff.1 g
 exact h _ _ _ _ _ _ _ _ _ _ _ _ _ _ _ _ _ _ _ _ _ _ _ _ _ _ _ _ _ _ _ _ _ _ _ _ _ _ _ _ _ _ _ _ _ _ _ _ _ _ _ _
def WithAct (d:Dm) (key:ByteArray) (f:FuncId) (cap:Array Value) (B ti:Nat) (a:Act):Prop :=
 a.tmps.size=52∧a.tmps[2]?=some (.func (.func f) #[] cap)∧a.tmps[7]?=some (ptr B)∧a.tmps[8]?=some (.bool false)∧a.tmps[18]?=some (.agg #[tbVal d.t0,t1Val d.t1])∧a.tmps[19]?=some (.int .i64 (ti:Int))∧a.defers=[]
def WithInv (d:Dm) (key:ByteArray) (f:FuncId) (cap:Array Value) (w0:World) (B:Nat) (q:Nat) (m:Nat) (a:Act) (w:World):Prop :=
 ∃ ti:Nat,m=2 - ti∧ti≤2∧WithAct d key f cap B ti a∧Blk w B 135 #[.int .u32 (q:Int),.string key]∧Chg (fun _ => False) w0 w ∧
  ∀ j t,j<ti→d.tab j=some t→∀ x∈t.nodes,x.key≠key
theorem idx0 (x0 x1:Value) (w:World):(Instr.index 123 (.agg #[x0,x1]) (.int .i64 0)).run Tryz.prog w=.ok x0 w:=by kernel_rfl
theorem idx1 (x0 x1:Value) (w:World):(Instr.index 123 (.agg #[x0,x1]) (.int .i64 1)).run Tryz.prog w=.ok x1 w:=by kernel_rfl
theorem idx_tab (d:Dm) (ti:Nat) (hti:ti<2) (w:World):(Instr.index 123 (.agg #[tbVal d.t0,t1Val d.t1]) (.int .i64 (ti:Int))).run Tryz.prog w=.ok (t1Val (d.tab ti)) w:=by
 have:ti=0∨ti=1:=by omega
 rcases this with rfl | rfl
 ·exact idx0 _ _ w
 ·exact idx1 _ _ w
theorem no_key {d:Dm} {key:ByteArray} (h:∀ j t,j<2→d.tab j=some t→∀ x∈t.nodes,x.key≠key):∀ x∈d.nodes,x.key≠key:=by
 intro x hx
 unfold Dm.nodes Dm.nodes1 at hx
 rcases List.mem_append.1 hx with h0 | h1
 ·exact h 0 d.t0 (by omega) rfl x h0
 ·split at h1
  ·cases h1
  ·rename_i t ht;exact h 1 t (by omega) ht x h1
set_option maxRecDepth 100000 in
set_option maxHeartbeats 1000000 in
theorem with_any (d:Dm) (key:ByteArray) (f:FuncId) (cap:Array Value) (w:World) (h:DmAt w d) (hok:d.Ok) (hk:key.size≤9223372036854775807) (hef:Enters Tryz.prog f) (R:World→Prop)
  (hdo:∀ ti t pre x post W,d.tab ti=some t→t.at (sumN d.seed key.data.toList % t.len)=pre++x :: post→x.key=key→Chg (fun _ => False) w W →
   Calls Tryz.prog f (#[.pointer (some (loc t (sumN d.seed key.data.toList % t.len) pre))]++cap) W fun e W' => (∃ v,e=.returned v)∧R W') :
  Calls Tryz.prog 67 #[ptr d.blk,.string key,.func (.func f) #[] cap] w (WithPost d key w R):=by
 obtain ⟨q,HQ⟩:∃ q,Hid (sumN d.seed key.data.toList=q):=⟨_,rfl⟩
 have hq32:q<4294967296:=by rw [← HQ.out];exact sumN_lt _ _
 rw [HQ.out] at hdo
 have hof:=of_any d key w h hok.seed hk
 rw [HQ.out] at hof
 unfold ptr at hof ⊢
 go_enter Tryz.func67,Tryz.ntmps67
 go_wp2_with fail
 go_step3
 go_wp2_with (go_at_call 105;refine hof.mono ?_;rintro e w1 ⟨rfl,hc1⟩)
 have hA:Chg (fun _ => False) w (w1.alloc (Obj.cells #[Value.int IntKind.u32 (q:Int),Value.string key] 135)):=hc1.alloc _
 have hbx:Blk (w1.alloc (Obj.cells #[Value.int IntKind.u32 (q:Int),Value.string key] 135)) w1.heap.size 135 #[Value.int IntKind.u32 (q:Int),Value.string key]:=Blk.new _ _ _
 generalize w1.alloc (Obj.cells #[Value.int IntKind.u32 (q:Int),Value.string key] 135)=W1 at hA hbx ⊢
 generalize w1.heap.size=B at hbx ⊢
 clear hc1 hof w1
 have hD1:=h.chg0 hA
 obtain ⟨c0,c1,c2,c3,c4,cf,clt⟩:=dm_cells hD1
 obtain ⟨v0,H0⟩:∃ v0,Hid (tbVal d.t0=v0):=⟨_,rfl⟩
 obtain ⟨v1,H1⟩:∃ v1,Hid (t1Val d.t1=v1):=⟨_,rfl⟩
 have hsn:∀ (w:World) (a:Option Addr) (n c:Nat),(binOp .eql 122 (.slice a n c) (.slice none 0 0)).run Tryz.prog w=.ok (.bool a.isNone) w:=fun w a n c => Go.Lib.run_eql_slice_nil w _ _ a n c 0 0 Tryz.underlying122
 go_step3
 go_wp2_with fail
 refine wp_loop_ghost (WithInv d key f cap w B q) 2 ?_ ?_
 ·exact ⟨0,rfl,by omega,⟨rfl,rfl,rfl,rfl,rfl,rfl,rfl⟩,hbx,hA,fun j t hj => absurd hj (Nat.not_lt_zero _)⟩
 ·rintro m ⟨tmps,ds⟩ W ⟨ti,rfl,hti,⟨hsz,h2,h7,h8,h18,h19,rfl⟩,hB,hC,hno⟩
  replace hsz:tmps.size=52:=hsz
  dsimp only at h2 h7 h8 h18 h19
  revert h2 h7 h8 h18 h19
  revert hsz
  revert tmps
  refine all52 ?_
  intro u0 u1 u2 u3 u4 u5 u6 u7 u8 u9 u10 u11 u12 u13 u14 u15 u16 u17 u18 u19 u20 u21 u22 u23 u24 u25 u26 u27 u28 u29 u30 u31 u32 u33 u34 u35 u36 u37 u38 u39 u40 u41 u42 u43 u44 u45 u46 u47 u48 u49 u50 u51 h2 h7 h8 h18 h19
  simp only [ptr,List.getElem?_toArray,List.getElem?_cons_zero,List.getElem?_cons_succ,Option.some.injEq] at h2 h7 h8 h18 h19
  subst h2 h7 h8 h18 h19
  clear c0 c1 c2 c3 c4 cf clt hD1 hA hbx
  have hD:=h.chg0 hC
  have hB0:=hB.cell 0
  have hB1:=hB.cell 1
  simp only [List.getElem?_toArray,List.getElem?_cons_zero,List.getElem?_cons_succ] at hB0 hB1
  by_cases h2:ti=2
  ·subst h2
   go_wp2_with fail
   rw [Exit.noGoto_ret]
   go_ret
   exact .inr ⟨rfl,no_key hno,hC⟩
  ·have hti2:ti<2:=by omega
   have hidx:=idx_tab d ti hti2
   have htii:(ti:Int)<2:=by omega
   rw [H0.out,H1.out] at hidx ⊢
   cases htab:d.tab ti with
   | none =>
    rw [htab] at hidx
    simp only [t1Val] at hidx
    have HT:=Lib.hid htab
    clear htab
    go_wp2_with fail
    rw [Exit.noGoto_ret]
    go_ret
    refine .inr ⟨rfl,no_key ?_,hC⟩
    intro j t hj ht
    have:ti=1:=by
     have hne:ti≠0:=fun h0 => by subst h0;cases HT.out
     omega
    subst this
    rcases (by omega:j=0∨j=1) with rfl | rfl
    ·exact hno 0 t (by omega) ht
    ·rw [HT.out] at ht;cases ht
   | some t =>
    rw [htab] at hidx
    simp only [t1Val,tbVal] at hidx
    obtain ⟨htz,htin,htn⟩:=tab_ok hok htab
    obtain ⟨k,hk2,hk16,hklen⟩:=htz
    have hsl:∀ W,_:=fun W => slot_any t q k W hq32 hklen hk16
    have hpos:0<t.len:=by rw [hklen];exact Nat.one_le_two_pow
    have hi:q % t.len<t.len:=Nat.mod_lt _ hpos
    have hil:((q % t.len:Nat):Int)<(t.len:Int):=by omega
    obtain ⟨i,HI⟩:∃ i,Hid (q % t.len=i):=⟨_,rfl⟩
    rw [HI.out] at hsl hi hil
    unfold tbVal at hsl
    have HT:=Lib.hid htab
    have HK:=Lib.hid hklen
    clear htab hklen
    go_wp2_with (go_at_call 106;refine (hsl _).mono ?_;rintro e w' ⟨rfl,rfl⟩)
    refine wp_loop_ghost (fun m a V => ∃ (pre rest:Ch) (b9 b30 b31 b32 b33 b34 b35 b36 b37 b38 b39 b40 b41 b42 b43 b44 b45 b46 b47 b48 b49 b50 b51:Value),m=rest.length∧Hid (t.at i=pre++rest)∧Hid (∀ x∈pre,x.key≠key) ∧
     a={ tmps:=#[u0,u1,.func (.func f) #[] cap,u3,u4,u5,u6,.pointer (some ⟨B,0,none⟩),.bool false,b9,.slice (some ⟨t.blk,0,none⟩) t.len t.len,.pointer (some (loc t i pre)),u12,u13,u14,u15,u16,u17,.agg #[v0,v1],.int .i64 (ti:Int),.bool true,.slice (some ⟨t.blk,0,none⟩) t.len t.len,.slice (some ⟨t.blk,0,none⟩) t.len t.len,.bool false,.slice (some ⟨t.blk,0,none⟩) t.len t.len,.slice (some ⟨t.blk,0,none⟩) t.len t.len,.pointer (some ⟨B,0,none⟩),.int .u32 (q:Int),.int .i64 (i:Int),.pointer (some ⟨t.blk,i,none⟩),b30,b31,b32,b33,b34,b35,b36,b37,b38,b39,b40,b41,b42,b43,b44,b45,b46,b47,b48,b49,b50,b51],defers:=[] } ∧
     Blk V B 135 #[.int .u32 (q:Int),.string key]∧Chg (fun _ => False) w V) (t.at i).length ?_ ?_
    ·exact ⟨[],t.at i,_,_,_,_,_,_,_,_,_,_,_,_,_,_,_,_,_,_,_,_,_,_,_,rfl,rfl,fun _ h => (by cases h),rfl,hB,hC⟩
    ·rintro m a V ⟨pre,rest,b9,b30,b31,b32,b33,b34,b35,b36,b37,b38,b39,b40,b41,b42,b43,b44,b45,b46,b47,b48,b49,b50,b51,rfl,hpr,hpk,rfl,hB,hC⟩
     have hDV:=h.chg0 hC
     have hloc:=loc_cell (tab_at hDV HT.out) hi hpr.out
     have hB0:=hB.cell 0
     have hB1:=hB.cell 1
     simp only [List.getElem?_toArray,List.getElem?_cons_zero,List.getElem?_cons_succ] at hB0 hB1
     cases rest with
     | nil =>
      simp only [hd] at hloc
      go_wp2_with fail
      refine ⟨2 - (ti+1),by omega,ti+1,rfl,by omega,⟨rfl,rfl,rfl,rfl,by rw [H0.out,H1.out];rfl,rfl,rfl⟩,hB,hC,?_⟩
      intro j t' hj ht' x hx
      rcases Nat.lt_or_ge j ti with hlt | hge
      ·exact hno j t' hlt ht' x hx
      ·have:j=ti:=by omega
       subst this
       rw [HT.out] at ht'
       injection ht' with ht'
       subst ht'
       intro hkx
       obtain ⟨j',hj',hxj⟩:=mem_nodes.1 hx
       have hs:x.sum=q:=by rw [hok.sums x (htn x hx),hkx];exact HQ.out
       have hji:j'=i:=by rw [← htin j' x hj' hxj,hs];exact HI.out
       subst hji
       rw [hpr.out,List.append_nil] at hxj
       exact hpk.out x hxj hkx
     | cons y r =>
      simp only [hd,ptr] at hloc
      have hyc:y∈t.at i:=by rw [hpr.out];simp
      have hyn:y∈d.nodes:=htn y (mem_nodes.2 ⟨i,hi,hyc⟩)
      have hch:=(tab_at hDV HT.out).2 _ (Tb.at_mem hi)
      have hnode:=hch.node hpr.out
      have k0:=hnode.cell 0
      have k1:=hnode.cell 1
      simp only [ndCells,List.getElem?_toArray,List.getElem?_cons_zero,List.getElem?_cons_succ] at k0 k1
      by_cases hky:y.key=key
      ·have hs:y.sum=q:=by rw [hok.sums y hyn,hky];exact HQ.out
       rw [hs] at k0
       rw [hky] at k1
       have HKY:=Lib.hid hky
       clear hs hky
       go_wp2_with fail
       have hef':∀ (args:Array Value) (w:World),(callFunc f args).run Tryz.prog w=.ok (.enter f args) w:=hef
       go_quiet (fail)
       have hcall:=hdo ti t pre y r (V.drewN nq) HT.out (by rw [HI.out];exact hpr.out) HKY.out (hC.drewN nq)
       rw [HI.out] at hcall
       have hcall':=Lib.hid hcall
       clear hcall
       go_wp2_with fail
       refine hcall'.out.mono ?_
       rintro e5 V5 ⟨⟨v5,rfl⟩,hR5⟩
       go_wp2_with fail
       rw [Exit.noGoto_ret]
       go_ret
       exact .inl ⟨rfl,⟨y,hyn,HKY.out⟩,hR5⟩
      ·have hne:¬ y.key.toList=key.toList:=fun h' => hky (by
        rw [ByteArray.toList_eq,ByteArray.toList_eq] at h'
        cases hx:y.key;cases hy:key;simp_all)
       have HKY:=Lib.hid hky
       clear hky
       go_wp2_with fail
       go_quiet (fail)
       go_wp2_with fail
       refine ⟨r.length,Nat.lt_succ_self _,pre++[y],r,_,_,_,_,_,_,_,_,_,_,_,_,_,_,_,_,_,_,_,_,_,_,_,rfl,?_,?_,by rw [loc_snoc],hB.drewN _,hC.drewN _⟩
       ·show _=_;rw [hpr.out];simp
       ·intro x hx
        rcases List.mem_append.1 hx with hx | hx
        ·exact hpk.out x hx
        ·rw [List.mem_singleton.1 hx];exact HKY.out
end Go.Proofs.YtehpmbmdadkhbaaGreatDoor.Dspaceitem

namespace Go.Proofs.YtehpmbmdadkhbaaGreatDoor.Dspaceitem
open Go.RowKit Pal
set_option maxHeartbeats 400000 in
theorem get1_any (L:Addr) (x:Nd) (nx u:Value) (vb:Nat) (W:World) (hL:W.cell? L=some (ptr x.blk)) (hx:Blk W x.blk 138 (ndCells x nx)) (hv:W.cell? ⟨vb,0,none⟩=some u) (hf:W.frozen? ⟨vb,0,none⟩=false) (hok:VOk x.v) :
  Calls Tryz.prog 68 #[.pointer (some L),ptr vb] W fun e W' => (∃ v,e=.returned v)∧W.setCell ⟨vb,0,none⟩ x.v=W':=by
 have k2:=hx.cell 2
 simp only [ndCells,List.getElem?_toArray,List.getElem?_cons_zero,List.getElem?_cons_succ] at k2
 obtain ⟨xv,hxv⟩:=hok
 rw [hxv] at k2 ⊢
 unfold ptr at *
 clear hxv
 go_enter Tryz.func68,Tryz.ntmps68
 go_wp2
 go_end0
 exact ⟨⟨_,rfl⟩,rfl⟩
set_option maxRecDepth 100000 in
set_option maxHeartbeats 400000 in
theorem set1_any (L:Addr) (x:Nd) (nx u:Value) (vb:Nat) (W:World) (hL:W.cell? L=some (ptr x.blk)) (hx:Blk W x.blk 138 (ndCells x nx)) (hv:W.cell? ⟨vb,0,none⟩=some u) (hok:VOk u) :
  Calls Tryz.prog 110 #[.pointer (some L),ptr vb] W fun e W' => (∃ v,e=.returned v)∧(W.setCell ⟨x.blk,2,none⟩ u).drew=W':=by
 have k2:=hx.cell 2
 have f2:=hx.frozen 2
 simp only [ndCells,List.getElem?_toArray,List.getElem?_cons_zero,List.getElem?_cons_succ] at k2
 obtain ⟨n,rfl⟩:=hok
 unfold ptr at *
 go_enter Tryz.func110,Tryz.ntmps110
 go_wp2
 go_still_tail 6,(by kernel_rfl)
 go_wp2
 go_end0
 exact ⟨⟨_,rfl⟩,rfl⟩
set_option maxHeartbeats 400000 in
theorem delete1_any (L:Addr) (x:Nd) (c:Ch) (W:World) (hL:W.cell? L=some (ptr x.blk)) (hx:Blk W x.blk 138 (ndCells x (hd c))) (hf:W.frozen? L=false) :
  Calls Tryz.prog 73 #[.pointer (some L)] W fun e W' => (∃ v,e=.returned v)∧W.setCell L (hd c)=W':=by
 have k3:=hx.cell 3
 simp only [ndCells,List.getElem?_toArray,List.getElem?_cons_zero,List.getElem?_cons_succ] at k3
 obtain ⟨q,hq⟩:∃ q,hd c=.pointer q:=by cases c <;> exact ⟨_,rfl⟩
 rw [hq] at k3 ⊢
 unfold ptr at *
 clear hq
 go_enter Tryz.func73,Tryz.ntmps73
 go_wp2
 go_end0
 exact ⟨⟨_,rfl⟩,rfl⟩
def GetPost (d:Dm) (key:ByteArray) (w:World) (e:Ending) (w':World):Prop :=
 ((∃ x∈d.nodes,x.key=key∧e=.returned (.tuple #[x.v,.bool true]))∨((∀ x∈d.nodes,x.key≠key)∧e=.returned (.tuple #[.pointer none,.bool false])))∧DmAt w' (stepD d 1)∧Chg d.foot w w'
set_option maxRecDepth 100000 in
set_option maxHeartbeats 400000 in
theorem Get_any (d:Dm) (key:ByteArray) (w:World) (h:DmAt w d) (hok:d.Ok) (hk:key.size≤9223372036854775807) :
  Calls Tryz.prog 40 #[ptr d.blk,.string key] w (GetPost d key w):=by
 have hlt:=h.hd.lt
 obtain ⟨e,he⟩:∃ e,Hid (stepD d 1=e):=⟨_,rfl⟩
 have hE:e.Ok:=by rw [← he.out];exact moveN_ok hok _
 have hblk:e.blk=d.blk:=by rw [← he.out];exact (moveN_blk d _).1
 have hperm:e.nodes.Perm d.nodes:=by rw [← he.out];exact moveN_perm hok _
 have hfoot:∀ g,e.foot g→d.foot g:=fun g hg => moveN_foot hok _ (by rw [← he.out] at hg;exact hg)
 have hst:∀ w,DmAt w d→_:=fun w h => Step_any d 1 w h hok
 rw [he.out] at hst
 have HB:=Lib.hid hblk
 clear hblk
 unfold ptr at hst ⊢
 go_enter Tryz.func40,Tryz.ntmps40
 go_wp2_with fail
 refine (hst _ (h.chg0 ((Chg.refl _ w).alloc _))).mono ?_
 rintro e1 w1 ⟨rfl,hD1,hC1⟩
 have hbx:Blk w1 w.heap.size 79 #[.pointer none]:=(Blk.new w _ _).chg hC1 fun hg => Nat.lt_irrefl _ (h.lt hg)
 have hC:Chg d.foot w w1:=((Chg.refl d.foot w).alloc _).trans hC1
 go_wp2_with fail
 rw [← HB.out]
 refine (with_any e key 68 #[ptr w.heap.size] w1 hD1 hE hk (enters_of Tryz.func68 (by kernel_rfl) rfl)
  (fun W => ∃ x∈e.nodes,x.key=key∧W.cell? ⟨w.heap.size,0,none⟩=some x.v∧Chg (fun g => g=w.heap.size) w1 W) ?_).mono ?_
 ·intro ti t pre x post W htab hat hxk hC2
  have htz:=(tab_ok hE htab).1.pos
  have hi:sumN e.seed key.data.toList % t.len<t.len:=Nat.mod_lt _ (by omega)
  have hDW:=hD1.chg0 hC2
  have hta:=tab_at hDW htab
  have hbW:=hbx.chg hC2 id
  have hL:=loc_cell hta hi hat
  have hX:=(hta.2 _ (Tb.at_mem hi)).node hat
  have hxn:x∈e.nodes:=tab_nodes htab (mem_nodes.2 ⟨_,hi,by rw [hat];simp⟩)
  refine (get1_any _ x _ _ _ W hL hX (hbW.cell 0) (hbW.frozen 0) (hE.vok x hxn)).mono ?_
  rintro e5 W5 ⟨hv,rfl⟩
  exact ⟨hv,x,hxn,hxk,(hbW.set 0 x.v).cell 0,Chg.store (S:=fun g => g=w.heap.size) (hC2.mono (fun _ _ h => h.elim)) rfl 0 _⟩
 ·have hfin:∀ W2,Chg (fun g => g=w.heap.size) w1 W2→DmAt W2 e∧Chg d.foot w W2:=fun W2 h2 =>
   ⟨hD1.chg h2 fun g hg h' => Nat.lt_irrefl _ (h' ▸ h.lt (hfoot g hg)),hC.trans' h2 fun g hg h' => absurd hg (by omega)⟩
  rintro e5 W5 (⟨rfl,⟨x,hx,hxk⟩,y,hy,hyk,hcell,hC5⟩ | ⟨rfl,hno,hC5⟩)
  ·obtain ⟨h6,h7⟩:=hfin W5 hC5
   obtain ⟨u,hu⟩:=hE.vok y hy
   rw [hu] at hcell
   go_wp2_with fail
   go_ret2
   unfold GetPost
   rw [← hu,he.out]
   exact ⟨.inl ⟨y,hperm.mem_iff.1 hy,hyk,rfl⟩,h6,h7⟩
  ·obtain ⟨h6,h7⟩:=hfin W5 (hC5.mono (fun _ _ h => h.elim))
   have hcell:=(hbx.chg hC5 id).cell 0
   simp only [List.getElem?_toArray,List.getElem?_cons_zero] at hcell
   go_wp2_with fail
   go_ret2
   unfold GetPost
   rw [he.out]
   exact ⟨.inr ⟨fun x hx => hno x (hperm.mem_iff.2 hx),rfl⟩,h6,h7⟩
end Go.Proofs.YtehpmbmdadkhbaaGreatDoor.Dspaceitem

namespace Go.Proofs.YtehpmbmdadkhbaaGreatDoor.Dspaceitem
open Go.RowKit Pal
def Dm.upd (d:Dm) (ti:Nat) (t:Tb) (i:Nat) (c:Ch) (n:Nat):Dm:={ d.setTab ti (t.set i c) with n:=n }
def Dm.rest (d:Dm) (ti:Nat) (t:Tb) (i:Nat):List Nd:=(d.setTab ti (t.set i [])).nodes
theorem upd_perm {d:Dm} {ti:Nat} {t:Tb} (ht:d.tab ti=some t) {i:Nat} (hi:i<t.len) (c:Ch) (n:Nat):(d.upd ti t i c n).nodes.Perm (c++d.rest ti t i):=setTab_perm ht hi c
theorem rest_perm {d:Dm} {ti:Nat} {t:Tb} (ht:d.tab ti=some t) {i:Nat} (hi:i<t.len):d.nodes.Perm (t.at i++d.rest ti t i):=tab_perm ht hi
def Dm.in1 (d:Dm) (k:ByteArray):Prop:=∃ t,d.t1=some t∧∃ x∈t.nodes,x.key=k
theorem mem_set {t:Tb} {i:Nat} (hi:i<t.len) {c:Ch} {y:Nd}:y∈(t.set i c).nodes ↔ y∈c∨∃ j,j<t.len∧j≠i∧y∈t.at j:=by
 rw [mem_nodes,Tb.set_len]
 constructor
 ·rintro ⟨j,hj,hy⟩
  rw [Tb.set_at hi] at hy
  split at hy
  ·exact .inl hy
  ·rename_i hne
   exact .inr ⟨j,hj,fun e => hne e.symm,hy⟩
 ·rintro (hy | ⟨j,hj,hne,hy⟩)
  ·exact ⟨i,hi,by rw [Tb.set_at hi,if_pos rfl];exact hy⟩
  ·exact ⟨j,hj,by rw [Tb.set_at hi,if_neg (fun e => hne e.symm)];exact hy⟩
theorem tab1_of {d:Dm} {ti:Nat} {t:Tb} (ht:d.tab ti=some t) (h0:ti≠0):d.t1=some t:=by
 unfold Dm.tab at ht;rw [if_neg h0] at ht;exact ht
theorem upd_in1_0 {d:Dm} {ti:Nat} (t:Tb) (i:Nat) (c:Ch) (n:Nat) (h0:ti=0) (k:ByteArray):(d.upd ti t i c n).in1 k ↔ d.in1 k:=by
 unfold Dm.in1 Dm.upd Dm.setTab
 rw [if_pos h0]
theorem upd_in1_1 {d:Dm} {ti:Nat} {t:Tb} {i:Nat} (hi:i<t.len) (c:Ch) (n:Nat) (h0:ti≠0) (k:ByteArray):(d.upd ti t i c n).in1 k ↔ (∃ y∈c,y.key=k)∨∃ j,j<t.len∧j≠i∧∃ y∈t.at j,y.key=k:=by
 unfold Dm.in1 Dm.upd Dm.setTab
 rw [if_neg h0]
 constructor
 ·rintro ⟨u,hu,y,hy,hk⟩
  injection hu with hu
  subst hu
  rcases (mem_set hi).1 hy with h | ⟨j,h1,h2,h3⟩
  ·exact .inl ⟨y,h,hk⟩
  ·exact .inr ⟨j,h1,h2,y,h3,hk⟩
 ·rintro (⟨y,hy,hk⟩ | ⟨j,h1,h2,y,h3,hk⟩)
  ·exact ⟨_,rfl,y,(mem_set hi).2 (.inl hy),hk⟩
  ·exact ⟨_,rfl,y,(mem_set hi).2 (.inr ⟨j,h1,h2,h3⟩),hk⟩
theorem in1_split {d:Dm} {ti:Nat} {t:Tb} (ht:d.tab ti=some t) {i:Nat} (hi:i<t.len) (h0:ti≠0) (k:ByteArray):d.in1 k ↔ (∃ y∈t.at i,y.key=k)∨∃ j,j<t.len∧j≠i∧∃ y∈t.at j,y.key=k:=by
 have h1:=tab1_of ht h0
 constructor
 ·rintro ⟨u,hu,y,hy,hk⟩
  rw [h1] at hu
  injection hu with hu
  subst hu
  obtain ⟨j,hj,hyj⟩:=mem_nodes.1 hy
  by_cases e:j=i
  ·subst e;exact .inl ⟨y,hyj,hk⟩
  ·exact .inr ⟨j,hj,e,y,hyj,hk⟩
 ·rintro (⟨y,hy,hk⟩ | ⟨j,hj,_,y,hy,hk⟩)
  ·exact ⟨t,h1,y,mem_nodes.2 ⟨i,hi,hy⟩,hk⟩
  ·exact ⟨t,h1,y,mem_nodes.2 ⟨j,hj,hy⟩,hk⟩
theorem in1_nodes {d:Dm} {k:ByteArray} (h:d.in1 k):∃ x∈d.nodes,x.key=k:=by
 obtain ⟨t,ht,x,hx,hk⟩:=h
 exact ⟨x,mem_nodes1 ht hx,hk⟩
theorem upd_in1_same {d:Dm} {ti:Nat} {t:Tb} (ht:d.tab ti=some t) {i:Nat} (hi:i<t.len) {c:Ch} (n:Nat) (hc:c.map (·.key)=(t.at i).map (·.key)) (k:ByteArray):(d.upd ti t i c n).in1 k ↔ d.in1 k:=by
 by_cases h0:ti=0
 ·exact upd_in1_0 t i c n h0 k
 ·rw [upd_in1_1 hi c n h0,in1_split ht hi h0]
  have:(∃ y∈c,y.key=k) ↔ ∃ y∈t.at i,y.key=k:=by
   rw [← List.mem_map,← List.mem_map,hc]
  rw [this]
theorem upd_in1_push {d:Dm} {ti:Nat} {t:Tb} (ht:d.tab ti=some t) (hti:ti=0→d.t1=none) {i:Nat} (hi:i<t.len) (x:Nd) (n:Nat) (k:ByteArray):(d.upd ti t i (x :: t.at i) n).in1 k ↔ d.in1 k∨(k=x.key∧d.t1.isSome=true):=by
 by_cases h0:ti=0
 ·rw [upd_in1_0 t i _ n h0,hti h0]
  simp
 ·rw [upd_in1_1 hi _ n h0,in1_split ht hi h0,tab1_of ht h0]
  simp only [List.mem_cons,exists_eq_or_imp,Option.isSome_some,and_true]
  constructor
  ·rintro ((h | h) | h)
   ·exact .inr h.symm
   ·exact .inl (.inl h)
   ·exact .inl (.inr h)
  ·rintro ((h | h) | h)
   ·exact .inl (.inr h)
   ·exact .inr h
   ·exact .inl (.inl h.symm)
theorem upd_in1_cut {d:Dm} (hk:(d.nodes.map (·.key)).Nodup) {ti:Nat} {t:Tb} (ht:d.tab ti=some t) {i:Nat} (hi:i<t.len) {pre post:Ch} {x:Nd} (hat:t.at i=pre++x :: post) (n:Nat) (hp:d.nodes.Perm (x :: (d.upd ti t i (pre++post) n).nodes)) (k:ByteArray) :
  (d.upd ti t i (pre++post) n).in1 k ↔ d.in1 k∧k≠x.key:=by
 have hno:∀ k,(d.upd ti t i (pre++post) n).in1 k→k≠x.key:=by
  intro k h e
  obtain ⟨y,hy,hyk⟩:=in1_nodes h
  have h1:=(hp.map (·.key)).nodup_iff.1 hk
  rw [List.map_cons,List.nodup_cons] at h1
  exact h1.1 (List.mem_map.2 ⟨y,hy,hyk.trans e⟩)
 refine ⟨fun h => ⟨?_,hno k h⟩,fun ⟨h,hne⟩ => ?_⟩
 ·by_cases h0:ti=0
  ·exact (upd_in1_0 t i _ n h0 k).1 h
  ·rw [upd_in1_1 hi _ n h0] at h
   rw [in1_split ht hi h0]
   rcases h with ⟨y,hy,hyk⟩ | h
   ·refine .inl ⟨y,?_,hyk⟩
    rw [hat]
    rcases List.mem_append.1 hy with h' | h'
    ·exact List.mem_append.2 (.inl h')
    ·exact List.mem_append.2 (.inr (List.mem_cons_of_mem _ h'))
   ·exact .inr h
 ·by_cases h0:ti=0
  ·exact (upd_in1_0 t i _ n h0 k).2 h
  ·rw [upd_in1_1 hi _ n h0]
   rw [in1_split ht hi h0] at h
   rcases h with ⟨y,hy,hyk⟩ | h
   ·refine .inl ⟨y,?_,hyk⟩
    rw [hat] at hy
    rcases List.mem_append.1 hy with h' | h'
    ·exact List.mem_append.2 (.inl h')
    ·rcases List.mem_cons.1 h' with h' | h'
     ·exact absurd (by rw [← hyk,h']) hne
     ·exact List.mem_append.2 (.inr h')
   ·exact .inr h
theorem setTab_t0 {d:Dm} {ti:Nat} {t:Tb} (ht:d.tab ti=some t) (i:Nat) (c:Ch):(d.setTab ti (t.set i c)).t0.len=d.t0.len∧(d.setTab ti (t.set i c)).t1.map Tb.len=d.t1.map Tb.len∧(d.setTab ti (t.set i c)).blk=d.blk∧(d.setTab ti (t.set i c)).seed=d.seed∧(d.setTab ti (t.set i c)).at_=d.at_∧(d.setTab ti (t.set i c)).n=d.n:=by
 unfold Dm.tab at ht
 unfold Dm.setTab
 split at ht
 ·rename_i h0
  injection ht with ht
  subst ht
  rw [if_pos h0]
  exact ⟨Tb.set_len _ _ _,rfl,rfl,rfl,rfl,rfl⟩
 ·rename_i h0
  rw [if_neg h0]
  exact ⟨rfl,by rw [ht];simp [Tb.set_len],rfl,rfl,rfl,rfl⟩
theorem upd_ok {d:Dm} (h:d.Ok) {ti:Nat} {t:Tb} (ht:d.tab ti=some t) {i:Nat} (hi:i<t.len) {c:Ch} {n:Nat} (hin:∀ x∈c,x.sum % t.len=i) (hm:ti=0→i<d.at_→c=[])
  (hs:∀ x∈c,x.sum=sumN d.seed x.key.data.toList) (hv:∀ x∈c,VOk x.v) (hk:((c++d.rest ti t i).map (·.key)).Nodup) (hn:n=(c++d.rest ti t i).length):(d.upd ti t i c n).Ok:=by
 have hp:=upd_perm ht hi c n
 have hr:=rest_perm ht hi
 obtain ⟨e0,e1,e2,e3,e4,e5⟩:=setTab_t0 ht i c
 have hmem:∀ x∈(d.upd ti t i c n).nodes,x∈c∨x∈d.nodes:=fun x hx => by
  rcases List.mem_append.1 (hp.mem_iff.1 hx) with h | h
  ·exact .inl h
  ·exact .inr (hr.mem_iff.2 (List.mem_append.2 (.inr h)))
 have hsum:∀ x∈(d.upd ti t i c n).nodes,x.sum=sumN (d.upd ti t i c n).seed x.key.data.toList:=fun x hx => by
  have e:(d.upd ti t i c n).seed=d.seed:=e3
  rw [e]
  exact (hmem x hx).elim (hs x) (h.sums x)
 have hvok:∀ x∈(d.upd ti t i c n).nodes,VOk x.v:=fun x hx => (hmem x hx).elim (hv x) (h.vok x)
 have hkeys:((d.upd ti t i c n).nodes.map (·.key)).Nodup:=(hp.map _).nodup_iff.2 hk
 have hcount:(d.upd ti t i c n).n=(d.upd ti t i c n).nodes.length:=by rw [hp.length_eq];exact hn
 have hsz:=(tab_ok h ht).1
 have htin:=(tab_ok h ht).2.1
 have hinset:∀ j x,j<(t.set i c).len→x∈(t.set i c).at j→x.sum % (t.set i c).len=j:=fun j x hj hx => by
  rw [Tb.set_len] at hj ⊢
  rw [Tb.set_at hi] at hx
  split at hx
  ·rename_i e;rw [← e];exact hin x hx
  ·exact htin j x hj hx
 unfold Dm.tab at ht
 by_cases h0:ti=0
 ·rw [if_pos h0] at ht
  injection ht with ht
  have eu:d.upd ti t i c n={ d with t0:=t.set i c,n:=n }:=by unfold Dm.upd Dm.setTab;rw [if_pos h0]
  rw [eu] at hsum hvok hkeys hcount ⊢
  refine { seed:=h.seed,s0:=hsz.set i c,s1:=h.s1,in0:=hinset,in1:=h.in1,sums:=hsum,keys:=hkeys,vok:=hvok,count:=hcount,atlt:=fun u hu => ?_,at0:=h.at0,moved:=fun j hj => ?_ }
  ·show d.at_<(t.set i c).len
   rw [Tb.set_len,← ht];exact h.atlt u hu
  ·show (t.set i c).at j=[]
   have hj:j<d.at_:=hj
   rw [Tb.set_at hi]
   split
   ·rename_i e;exact hm h0 (by omega)
   ·rw [← ht];exact h.moved j hj
 ·rw [if_neg h0] at ht
  have eu:d.upd ti t i c n={ d with t1:=some (t.set i c),n:=n }:=by unfold Dm.upd Dm.setTab;rw [if_neg h0]
  rw [eu] at hsum hvok hkeys hcount ⊢
  refine { seed:=h.seed,s0:=h.s0,s1:=fun u hu => ?_,in0:=h.in0,in1:=fun u hu => ?_,sums:=hsum,keys:=hkeys,vok:=hvok,count:=hcount,atlt:=fun u hu => h.atlt t ht,at0:=fun e => (by cases e),moved:=h.moved }
  ·injection hu with hu;subst hu;exact hsz.set i c
  ·injection hu with hu;subst hu;exact hinset
theorem DmAt.num {w w':World} {d:Dm} (h:DmAt w d) (n:Nat) (hc:Chg (fun g => g=d.blk) w w') (hh:Blk w' d.blk 125 ((dmCells d).setIfInBounds 4 (.int .i64 (n:Int)))):DmAt w' { d with n:=n } :=
 h.head hc (by exact hh) rfl rfl
theorem chAt_setv {W:World} (v:Value) (x:Nd) (post:Ch):∀ (pre:Ch),chAt W (pre++x :: post)→((pre++x :: post).map (·.blk)).Nodup→chAt (W.setCell ⟨x.blk,2,none⟩ v) (pre++{ x with v:=v } :: post)
 | [],⟨h1,h2⟩,hn => by
  refine ⟨?_,h2.chg ((Chg.refl (fun g => g=x.blk) W).store rfl 2 v) fun y hy e => ?_⟩
  ·exact h1.set 2 v
  ·simp only [List.nil_append,List.map_cons,List.nodup_cons] at hn
   exact hn.1 (List.mem_map.2 ⟨y,hy,e⟩)
 | y :: pre,⟨h1,h2⟩,hn => by
  simp only [List.cons_append,List.map_cons,List.nodup_cons] at hn
  refine ⟨?_,chAt_setv v x post pre h2 hn.2⟩
  have hne:y.blk≠x.blk:=fun e => hn.1 (List.mem_map.2 ⟨x,by simp,e.symm⟩)
  have:=h1.far (p:=⟨x.blk,2,none⟩) hne v
  have e:hd (pre++x :: post)=hd (pre++{ x with v:=v } :: post):=by cases pre <;> rfl
  exact e ▸ this
theorem chAt_cut {W:World} (y x:Nd) (post:Ch):∀ (pre:Ch),chAt W (pre++y :: x :: post)→((pre++y :: x :: post).map (·.blk)).Nodup→chAt (W.setCell ⟨y.blk,3,none⟩ (hd post)) (pre++y :: post)
 | [],⟨h1,h2⟩,hn => by
  refine ⟨h1.set 3 (hd post),h2.2.chg ((Chg.refl (fun g => g=y.blk) W).store rfl 3 (hd post)) fun z hz e => ?_⟩
  simp only [List.nil_append,List.map_cons,List.nodup_cons] at hn
  exact hn.1 (List.mem_cons.2 (.inr (List.mem_map.2 ⟨z,hz,e⟩)))
 | z :: pre,⟨h1,h2⟩,hn => by
  simp only [List.cons_append,List.map_cons,List.nodup_cons] at hn
  refine ⟨?_,chAt_cut y x post pre h2 hn.2⟩
  have hne:z.blk≠y.blk:=fun e => hn.1 (List.mem_map.2 ⟨y,by simp,e.symm⟩)
  have:=h1.far (p:=⟨y.blk,3,none⟩) hne (hd post)
  have e:hd (pre++y :: x :: post)=hd (pre++y :: post):=by cases pre <;> rfl
  exact e ▸ this
theorem tbCells_same {t:Tb} {i:Nat} (hi:i<t.len) {c:Ch} (e:hd c=hd (t.at i)):tbCells (t.set i c)=tbCells t:=by
 rw [tbCells_set,e]
 apply Array.ext_getElem?
 intro j
 by_cases h:i=j
 ·subst h;rw [Array.getElem?_setIfInBounds_self_of_lt (by rw [tbCells_size];exact hi),tbCells_get hi]
 ·rw [Array.getElem?_setIfInBounds_ne h]
theorem nodup_at {W:World} {d:Dm} (h:DmAt W d) {ti:Nat} {t:Tb} (ht:d.tab ti=some t) {i:Nat} (hi:i<t.len) (c:Ch) (hc:(c.map (·.blk)).Sublist ((t.at i).map (·.blk))):((c++d.rest ti t i).map (·.blk)).Nodup:=by
 have hn:((t.at i++d.rest ti t i).map (·.blk)).Nodup:=((rest_perm ht hi).map _).nodup_iff.1 h.nodup
 rw [List.map_append] at hn ⊢
 exact hn.sublist (hc.append_right _)
end Go.Proofs.YtehpmbmdadkhbaaGreatDoor.Dspaceitem

namespace Go.Proofs.YtehpmbmdadkhbaaGreatDoor.Dspaceitem
open Go.RowKit Pal
def shape (d:Dm):Nat × Option Nat × Nat:=(d.t0.len,d.t1.map Tb.len,d.at_)
def growS (s:Nat × Option Nat × Nat) (n:Nat):Nat × Option Nat × Nat:=if s.2.1=none∧s.1≤n∧s.1<65536 then (s.1,some (sizeFor (2 * n:Nat)),s.2.2) else s
def shrinkS (s:Nat × Option Nat × Nat) (n:Nat):Nat × Option Nat × Nat:=if s.2.1=none∧4<s.1∧8 * n<s.1 then (s.1,some (sizeFor (n:Nat)),s.2.2) else s
structure SetPost (d:Dm) (key:ByteArray) (v:Value) (w:World) (e:Ending) (w':World) (d':Dm):Prop where
 dm:DmAt w' d'
 ok:d'.Ok
 blk:d'.blk=d.blk
 seed:d'.seed=d.seed
 chg:Chg d.foot w w'
 foot:∀ g,d'.foot g→d.foot g∨w.heap.size≤g
 place:∀ k,d'.in1 k ↔ (stepD d 1).in1 k∨(k=key∧d'.t1.isSome=true∧∀ x∈d.nodes,x.key≠key)
 what:(e=.returned (.bool false)∧(∃ x r,d.nodes.Perm (x :: r)∧x.key=key∧d'.nodes.Perm ({ x with v:=v } :: r))∧shape d'=shape (stepD d 1)) ∨
  (e=.returned (.bool true)∧(∀ x∈d.nodes,x.key≠key)∧(∃ x,x.key=key∧x.v=v∧d'.nodes.Perm (x :: d.nodes))∧shape d'=growS (shape (stepD d 1)) d.n)
theorem upd_setv {W:World} {e:Dm} (h:DmAt W e) (hok:e.Ok) {ti:Nat} {t:Tb} (ht:e.tab ti=some t) {i:Nat} (hi:i<t.len) {pre post:Ch} {x:Nd} (hat:t.at i=pre++x :: post) {v:Value} (hv:VOk v) :
  ∃ d',DmAt (W.setCell ⟨x.blk,2,none⟩ v) d'∧d'.Ok∧d'.blk=e.blk∧d'.seed=e.seed∧(∀ g,d'.foot g→e.foot g)∧(∃ r,e.nodes.Perm (x :: r)∧d'.nodes.Perm ({ x with v:=v } :: r))∧shape d'=shape e∧∀ k,d'.in1 k ↔ e.in1 k:=by
 have hta:=tab_at h ht
 obtain ⟨hsz,hin,hmem⟩:=tab_ok hok ht
 obtain ⟨e0,e1,e2,e3,e4,e5⟩:=setTab_t0 ht i (pre++{ x with v:=v } :: post)
 have hxt:x∈t.nodes:=mem_nodes.2 ⟨i,hi,by rw [hat];simp⟩
 have hxn:=hmem x hxt
 have hp0:=rest_perm ht hi
 have hp1:=upd_perm ht hi (pre++{ x with v:=v } :: post) e.n
 have hn:((pre++x :: post).map (·.blk)).Nodup:=by
  have:=((hp0.map (·.blk)).nodup_iff.1 h.nodup)
  rw [List.map_append,List.nodup_append] at this
  rw [← hat];exact this.1
 have hX:=(hta.2 _ (Tb.at_mem hi)).node hat
 have hch:chAt (W.setCell ⟨x.blk,2,none⟩ v) (pre++{ x with v:=v } :: post):=chAt_setv v x post pre (by rw [← hat];exact hta.2 _ (Tb.at_mem hi)) hn
 have hC:Chg (fun g => g=x.blk) W (W.setCell ⟨x.blk,2,none⟩ v):=Chg.store (S:=fun g => g=x.blk) (Chg.refl _ W) rfl 2 v
 have hmapb:(pre++{ x with v:=v } :: post).map (·.blk)=(t.at i).map (·.blk):=by rw [hat];simp
 have hmapk:(pre++{ x with v:=v } :: post).map (·.key)=(t.at i).map (·.key):=by rw [hat];simp
 have hdm:DmAt (W.setCell ⟨x.blk,2,none⟩ v) (e.setTab ti (t.set i (pre++{ x with v:=v } :: post))):=by
  refine upd_slot h ht hi _ hC (fun g hg => .inr (.inl ⟨x,by rw [hat];simp,hg⟩)) ?_ hch ?_
  ·rw [tbCells_same hi (by rw [hat];cases pre <;> rfl)]
   exact hta.1.far (p:=⟨x.blk,2,none⟩) (fun h' => hX.ne_type hta.1 (by decide) h'.symm) v
  ·exact (hp1.map _).nodup_iff.2 (nodup_at h ht hi _ (by rw [hmapb];exact List.Sublist.refl _))
 have hu:e.upd ti t i (pre++{ x with v:=v } :: post) e.n=e.setTab ti (t.set i (pre++{ x with v:=v } :: post)):=by
  unfold Dm.upd;rw [← e5]
 have hsub:∀ y∈pre++{ x with v:=v } :: post,y={ x with v:=v }∨y∈t.at i:=fun y hy => by
  rw [hat]
  simp only [List.mem_append,List.mem_cons] at hy ⊢
  rcases hy with h' | h' | h'
  ·exact .inr (.inl h')
  ·exact .inl h'
  ·exact .inr (.inr (.inr h'))
 have hinn:∀ y∈t.at i,y∈e.nodes:=fun y hy => hmem y (mem_nodes.2 ⟨i,hi,hy⟩)
 refine ⟨e.setTab ti (t.set i (pre++{ x with v:=v } :: post)),hdm,?_,e2,e3,?_,⟨pre++post++e.rest ti t i,?_,?_⟩,?_,fun k => by rw [← hu];exact upd_in1_same ht hi e.n hmapk k⟩
 ·rw [← hu]
  refine upd_ok hok ht hi (fun y hy => ?_) (fun h0 hlt => ?_) (fun y hy => ?_) (fun y hy => ?_) ?_ ?_
  ·rcases hsub y hy with rfl | h'
   ·exact hin i x hi (by rw [hat];simp)
   ·exact hin i y hi h'
  ·have ht0:t=e.t0:=by unfold Dm.tab at ht;rw [if_pos h0] at ht;injection ht with ht;exact ht.symm
   have:=hok.moved i hlt
   rw [← ht0,hat] at this
   cases pre <;> cases this
  ·rcases hsub y hy with rfl | h'
   ·exact hok.sums x hxn
   ·exact hok.sums y (hinn y h')
  ·rcases hsub y hy with rfl | h'
   ·exact hv
   ·exact hok.vok y (hinn y h')
  ·rw [List.map_append,hmapk,← List.map_append]
   exact ((hp0.map (·.key)).nodup_iff.1 hok.keys)
  ·have:=hp0.length_eq
   rw [hok.count,this,hat];simp
 ·intro g hg
  rcases hg with rfl | rfl | ⟨u,hu',rfl⟩ | ⟨y,hy,rfl⟩
  ·exact .inl e2
  ·unfold Dm.setTab
   split
   ·rename_i h0
    have ht0:t=e.t0:=by unfold Dm.tab at ht;rw [if_pos h0] at ht;injection ht with ht;exact ht.symm
    exact .inr (.inl (by rw [← ht0];rfl))
   ·exact .inr (.inl rfl)
  ·unfold Dm.setTab at hu'
   split at hu'
   ·exact .inr (.inr (.inl ⟨u,hu',rfl⟩))
   ·rename_i h0
    injection hu' with hu'
    have ht1:e.t1=some t:=by unfold Dm.tab at ht;rw [if_neg h0] at ht;exact ht
    exact .inr (.inr (.inl ⟨t,ht1,by rw [← hu'];rfl⟩))
  ·have hy':=hp1.mem_iff.1 hy
   rcases List.mem_append.1 hy' with h' | h'
   ·rcases hsub y h' with rfl | h''
    ·exact .inr (.inr (.inr ⟨x,hxn,rfl⟩))
    ·exact .inr (.inr (.inr ⟨y,hinn y h'',rfl⟩))
   ·exact .inr (.inr (.inr ⟨y,hp0.mem_iff.2 (List.mem_append.2 (.inr h')),rfl⟩))
 ·refine hp0.trans ?_
  rw [hat,List.append_assoc,List.append_assoc]
  exact List.perm_middle
 ·refine hp1.trans ?_
  rw [List.append_assoc,List.append_assoc]
  exact List.perm_middle
 ·show ((e.setTab ti _).t0.len,(e.setTab ti _).t1.map Tb.len,(e.setTab ti _).at_)=(e.t0.len,e.t1.map Tb.len,e.at_)
  rw [e0,e1,e4]
end Go.Proofs.YtehpmbmdadkhbaaGreatDoor.Dspaceitem

namespace Go.Proofs.YtehpmbmdadkhbaaGreatDoor.Dspaceitem
open Go.RowKit Pal
theorem upd_shape {e:Dm} {ti:Nat} {t:Tb} (ht:e.tab ti=some t) (i:Nat) (c:Ch) (n:Nat):shape (e.upd ti t i c n)=shape e:=by
 obtain ⟨e0,e1,e2,e3,e4,e5⟩:=setTab_t0 ht i c
 show ((e.setTab ti _).t0.len,(e.setTab ti _).t1.map Tb.len,(e.setTab ti _).at_)=(e.t0.len,e.t1.map Tb.len,e.at_)
 rw [e0,e1,e4]
theorem upd_foot {e:Dm} {ti:Nat} {t:Tb} (ht:e.tab ti=some t) {i:Nat} (hi:i<t.len) (c:Ch) (n:Nat) {g:Nat} (hg:(e.upd ti t i c n).foot g):e.foot g∨∃ y∈c,g=y.blk:=by
 obtain ⟨e0,e1,e2,e3,e4,e5⟩:=setTab_t0 ht i c
 rcases hg with rfl | rfl | ⟨u,hu',rfl⟩ | ⟨y,hy,rfl⟩
 ·exact .inl (.inl e2)
 ·refine .inl ?_
  show e.foot (e.setTab ti (t.set i c)).t0.blk
  unfold Dm.setTab
  split
  ·rename_i h0
   have ht0:t=e.t0:=by unfold Dm.tab at ht;rw [if_pos h0] at ht;injection ht with ht;exact ht.symm
   exact .inr (.inl (by rw [← ht0];rfl))
  ·exact .inr (.inl rfl)
 ·refine .inl ?_
  have hu':(e.setTab ti (t.set i c)).t1=some u:=hu'
  unfold Dm.setTab at hu'
  split at hu'
  ·exact .inr (.inr (.inl ⟨u,hu',rfl⟩))
  ·rename_i h0
   injection hu' with hu'
   have ht1:e.t1=some t:=by unfold Dm.tab at ht;rw [if_neg h0] at ht;exact ht
   exact .inr (.inr (.inl ⟨t,ht1,by rw [← hu'];rfl⟩))
 ·rcases List.mem_append.1 ((upd_perm ht hi c n).mem_iff.1 hy) with h' | h'
  ·exact .inr ⟨y,h',rfl⟩
  ·exact .inl (.inr (.inr (.inr ⟨y,(rest_perm ht hi).mem_iff.2 (List.mem_append.2 (.inr h')),rfl⟩)))
theorem upd_at {W:World} {e:Dm} {ti:Nat} {t:Tb} {i:Nat} {c:Ch} (n:Nat) {W':World} (h:DmAt W (e.setTab ti (t.set i c))) (hc:Chg (fun g => g=e.blk) W W') (hb:(e.setTab ti (t.set i c)).blk=e.blk)
  (hh:Blk W' e.blk 125 ((dmCells (e.setTab ti (t.set i c))).setIfInBounds 4 (.int .i64 (n:Int)))):DmAt W' (e.upd ti t i c n) :=
 h.num n (by rw [hb];exact hc) (by rw [hb];exact hh)
theorem upd_cells {e:Dm} {ti:Nat} {t:Tb} (ht:e.tab ti=some t) (i:Nat) (c:Ch):dmCells (e.setTab ti (t.set i c))=dmCells e:=by
 have hval:tbVal (t.set i c)=tbVal t:=by unfold tbVal;rw [Tb.set_len];rfl
 unfold Dm.tab at ht
 unfold Dm.setTab
 split at ht
 ·rename_i h0;injection ht with ht;rw [if_pos h0];unfold dmCells;dsimp only;rw [hval,ht]
 ·rename_i h0;rw [if_neg h0];unfold dmCells t1Val;dsimp only;rw [hval,ht]
theorem upd_push {W:World} {e:Dm} (h:DmAt W e) (hok:e.Ok) {ti:Nat} {t:Tb} (ht:e.tab ti=some t) (hti:ti=0→e.t1=none) {x:Nd} {nx:Value} (hx:Blk W x.blk 138 (ndCells x nx)) (hnew:¬ e.foot x.blk)
  (hs:x.sum=sumN e.seed x.key.data.toList) (hv:VOk x.v) (hno:∀ y∈e.nodes,y.key≠x.key) {W':World}
  (hW:(W.setCell ⟨x.blk,3,none⟩ (hd (t.at (x.sum % t.len)))).setCell ⟨t.blk,x.sum % t.len,none⟩ (ptr x.blk)=W') :
  ∃ d',(∀ W2,Chg (fun g => g=e.blk) W' W2→Blk W2 e.blk 125 ((dmCells e).setIfInBounds 4 (.int .i64 ((e.n:Int)+1)))→DmAt W2 d')∧Blk W' e.blk 125 (dmCells e)∧Chg (fun g => g=t.blk∨g=x.blk) W W' ∧
   d'.Ok∧d'.blk=e.blk∧d'.seed=e.seed∧(∀ g,d'.foot g→e.foot g∨g=x.blk)∧d'.nodes.Perm (x :: e.nodes)∧shape d'=shape e∧∀ k,d'.in1 k ↔ e.in1 k∨(k=x.key∧e.t1.isSome=true):=by
 subst hW
 have hta:=tab_at h ht
 obtain ⟨hsz,hin,hmem⟩:=tab_ok hok ht
 have hi:x.sum % t.len<t.len:=Nat.mod_lt _ (by have:=hsz.pos;omega)
 obtain ⟨e0,e1,e2,e3,e4,e5⟩:=setTab_t0 ht (x.sum % t.len) (x :: t.at (x.sum % t.len))
 have hp0:=rest_perm ht hi
 have hp1:=upd_perm ht hi (x :: t.at (x.sum % t.len)) (e.n+1)
 have hxt:x.blk≠t.blk:=hx.ne_type hta.1 (by decide)
 have hinn:∀ y∈t.at (x.sum % t.len),y∈e.nodes:=fun y hy => hmem y (mem_nodes.2 ⟨_,hi,hy⟩)
 have hC:Chg (fun g => g=t.blk∨g=x.blk) W ((W.setCell ⟨x.blk,3,none⟩ (hd (t.at (x.sum % t.len)))).setCell ⟨t.blk,x.sum % t.len,none⟩ (ptr x.blk)) :=
  Chg.store (S:=fun g => g=t.blk∨g=x.blk) (Chg.store (S:=fun g => g=t.blk∨g=x.blk) (Chg.refl _ W) (.inr rfl) 3 _) (.inl rfl) _ _
 have hT:=(hta.1.far (p:=⟨x.blk,3,none⟩) (fun e' => hxt e'.symm) (hd (t.at (x.sum % t.len)))).set (x.sum % t.len) (ptr x.blk)
 have hnodeblk:∀ y∈e.nodes,y.blk≠x.blk∧y.blk≠t.blk:=fun y hy => ⟨fun e' => hnew (e' ▸ .inr (.inr (.inr ⟨y,hy,rfl⟩))),by obtain ⟨nx',hb⟩:=h.node hy;exact hb.ne_type hta.1 (by decide)⟩
 have hch:chAt ((W.setCell ⟨x.blk,3,none⟩ (hd (t.at (x.sum % t.len)))).setCell ⟨t.blk,x.sum % t.len,none⟩ (ptr x.blk)) (x :: t.at (x.sum % t.len)):=by
  refine ⟨?_,(hta.2 _ (Tb.at_mem hi)).chg hC fun y hy hS => ?_⟩
  ·have hb:=(hx.set 3 (hd (t.at (x.sum % t.len)))).far (p:=⟨t.blk,x.sum % t.len,none⟩) hxt (ptr x.blk)
   exact hb
  ·have:=hnodeblk y (hinn y hy)
   rcases hS with h' | h'
   ·exact this.2 h'
   ·exact this.1 h'
 have hndb:((x :: t.at (x.sum % t.len)++e.rest ti t (x.sum % t.len)).map (·.blk)).Nodup:=by
  rw [List.cons_append,List.map_cons,List.nodup_cons]
  refine ⟨fun hm => ?_,(hp0.map (·.blk)).nodup_iff.1 h.nodup⟩
  obtain ⟨y,hy,hyb⟩:=List.mem_map.1 hm
  exact (hnodeblk y (hp0.mem_iff.2 hy)).1 hyb
 have hndk:((x :: t.at (x.sum % t.len)++e.rest ti t (x.sum % t.len)).map (·.key)).Nodup:=by
  rw [List.cons_append,List.map_cons,List.nodup_cons]
  refine ⟨fun hm => ?_,(hp0.map (·.key)).nodup_iff.1 hok.keys⟩
  obtain ⟨y,hy,hyb⟩:=List.mem_map.1 hm
  exact hno y (hp0.mem_iff.2 hy) hyb
 have hdm:DmAt ((W.setCell ⟨x.blk,3,none⟩ (hd (t.at (x.sum % t.len)))).setCell ⟨t.blk,x.sum % t.len,none⟩ (ptr x.blk)) (e.setTab ti (t.set (x.sum % t.len) (x :: t.at (x.sum % t.len)))):=by
  refine upd_slot h ht hi _ hC (fun g hg => ?_) ?_ hch ?_
  ·rcases hg with h' | h'
   ·exact .inl h'
   ·exact .inr (.inr (by rw [h'];exact hnew))
  ·rw [tbCells_set];exact hT
  ·exact (hp1.map _).nodup_iff.2 hndb
 refine ⟨e.upd ti t (x.sum % t.len) (x :: t.at (x.sum % t.len)) (e.n+1),fun W2 hc2 hb2 => upd_at _ hdm hc2 e2 (by rw [upd_cells ht];exact hb2),?_,hC,?_,e2,e3,?_,?_,upd_shape ht _ _ _,upd_in1_push ht hti hi x _⟩
 ·have:=hdm.hd
  rw [upd_cells ht,e2] at this
  exact this
 ·refine upd_ok hok ht hi (fun y hy => ?_) (fun h0 hlt => ?_) (fun y hy => ?_) (fun y hy => ?_) hndk ?_
  ·rcases List.mem_cons.1 hy with rfl | h'
   ·rfl
   ·exact hin _ y hi h'
  ·have:=hok.at0 (hti h0);omega
  ·rcases List.mem_cons.1 hy with rfl | h'
   ·exact hs
   ·exact hok.sums y (hinn y h')
  ·rcases List.mem_cons.1 hy with rfl | h'
   ·exact hv
   ·exact hok.vok y (hinn y h')
  ·have:=hp0.length_eq
   rw [hok.count,this];simp
 ·intro g hg
  rcases upd_foot ht hi _ _ hg with h' | ⟨y,hy,rfl⟩
  ·exact .inl h'
  ·rcases List.mem_cons.1 hy with rfl | h'
   ·exact .inr rfl
   ·exact .inl (.inr (.inr (.inr ⟨y,hinn y h',rfl⟩)))
 ·refine hp1.trans ?_
  rw [List.cons_append]
  exact List.Perm.cons x hp0.symm
theorem upd_cut {W:World} {e:Dm} (h:DmAt W e) (hok:e.Ok) {ti:Nat} {t:Tb} (ht:e.tab ti=some t) {i:Nat} (hi:i<t.len) {pre post:Ch} {x:Nd} (hat:t.at i=pre++x :: post) {W':World} (hW:W.setCell (loc t i pre) (hd post)=W') :
  ∃ d',(∀ W2,Chg (fun g => g=e.blk) W' W2→Blk W2 e.blk 125 ((dmCells e).setIfInBounds 4 (.int .i64 ((e.n:Int) - 1)))→DmAt W2 d')∧Blk W' e.blk 125 (dmCells e)∧Chg e.foot W W'∧1≤e.n ∧
   d'.Ok∧d'.blk=e.blk∧d'.seed=e.seed∧(∀ g,d'.foot g→e.foot g)∧e.nodes.Perm (x :: d'.nodes)∧shape d'=shape e∧∀ k,d'.in1 k ↔ e.in1 k∧k≠x.key:=by
 subst hW
 have hta:=tab_at h ht
 obtain ⟨hsz,hin,hmem⟩:=tab_ok hok ht
 obtain ⟨e0,e1,e2,e3,e4,e5⟩:=setTab_t0 ht i (pre++post)
 have hp0:=rest_perm ht hi
 have hp1:=upd_perm ht hi (pre++post) (e.n - 1)
 have hchain:=hta.2 _ (Tb.at_mem hi)
 have hinn:∀ y∈t.at i,y∈e.nodes:=fun y hy => hmem y (mem_nodes.2 ⟨_,hi,hy⟩)
 have hsub:(pre++post).Sublist (t.at i):=by rw [hat];exact List.Sublist.append_left (List.sublist_cons_self x post) pre
 have hndb:=nodup_at h ht hi (pre++post) (hsub.map _)
 have hn:((t.at i).map (·.blk)).Nodup:=by
  have:=((hp0.map (·.blk)).nodup_iff.1 h.nodup)
  rw [List.map_append,List.nodup_append] at this
  exact this.1
 have hall:e.nodes.Perm (x :: (pre++post++e.rest ti t i)):=by
  refine hp0.trans ?_
  rw [hat,List.append_assoc,List.append_assoc]
  exact List.perm_middle
 have hcnt:e.n=(pre++post++e.rest ti t i).length+1:=by rw [hok.count,hall.length_eq];rfl
 have main:DmAt (W.setCell (loc t i pre) (hd post)) (e.setTab ti (t.set i (pre++post)))∧Chg e.foot W (W.setCell (loc t i pre) (hd post)):=by
  rcases List.eq_nil_or_concat pre with rfl | ⟨p,y,hpy⟩
  ·rw [loc_nil]
   have hC:Chg (fun g => g=t.blk) W (W.setCell ⟨t.blk,i,none⟩ (hd post)):=Chg.store (S:=fun g => g=t.blk) (Chg.refl _ W) rfl _ _
   rw [hat,List.nil_append] at hchain
   refine ⟨upd_slot h ht hi _ hC (fun g hg => .inl hg) ?_ ?_ ((hp1.map _).nodup_iff.2 hndb),hC.mono fun g _ hg => hg ▸ tab_foot ht⟩
   ·rw [tbCells_set];exact hta.1.set i (hd post)
   ·refine chAt.chg hC hchain.2 fun y hy hS => ?_
    obtain ⟨nx,hb⟩:=hta.node (mem_nodes.2 ⟨i,hi,by rw [hat];exact List.mem_cons_of_mem x hy⟩:y∈t.nodes)
    exact hb.ne_type hta.1 (by decide) hS
  ·rw [List.concat_eq_append] at hpy
   subst hpy
   rw [loc_snoc]
   rw [List.append_assoc] at hat
   have hyn:y∈t.at i:=by rw [hat];simp
   obtain ⟨nx,hyb⟩:=hta.node (mem_nodes.2 ⟨i,hi,hyn⟩:y∈t.nodes)
   have hC:Chg (fun g => g=y.blk) W (W.setCell ⟨y.blk,3,none⟩ (hd post)):=Chg.store (S:=fun g => g=y.blk) (Chg.refl _ W) rfl _ _
   rw [hat] at hchain hn
   refine ⟨upd_slot h ht hi _ hC (fun g hg => .inr (.inl ⟨y,hyn,hg⟩)) ?_ ?_ ((hp1.map _).nodup_iff.2 hndb),hC.mono fun g _ hg => hg ▸ .inr (.inr (.inr ⟨y,hinn y hyn,rfl⟩))⟩
   ·rw [tbCells_same hi (by rw [hat];cases p <;> rfl)]
    exact hta.1.far (p:=⟨y.blk,3,none⟩) (fun h' => hyb.ne_type hta.1 (by decide) h'.symm) _
   ·have:=chAt_cut y x post p hchain hn
    rw [List.append_assoc];exact this
 obtain ⟨hdm,hC⟩:=main
 refine ⟨e.upd ti t i (pre++post) (e.n - 1),fun W2 hc2 hb2 => upd_at _ hdm hc2 e2 (by rw [upd_cells ht,Int.ofNat_sub (by omega)];exact hb2),?_,hC,by omega,?_,e2,e3,?_,?_,upd_shape ht _ _ _,upd_in1_cut hok.keys ht hi hat _ (hall.trans (List.Perm.cons x hp1.symm))⟩
 ·have:=hdm.hd
  rw [upd_cells ht,e2] at this
  exact this
 ·refine upd_ok hok ht hi (fun y hy => hin i y hi (hsub.subset hy)) (fun h0 hlt => ?_) (fun y hy => hok.sums y (hinn y (hsub.subset hy))) (fun y hy => hok.vok y (hinn y (hsub.subset hy))) ?_ (by omega)
  ·have ht0:t=e.t0:=by unfold Dm.tab at ht;rw [if_pos h0] at ht;injection ht with ht;exact ht.symm
   have:=hok.moved i hlt
   rw [← ht0,hat] at this
   cases pre <;> cases this
  ·have:=(hall.map (·.key)).nodup_iff.1 hok.keys
   rw [List.map_cons,List.nodup_cons] at this
   exact this.2
 ·intro g hg
  rcases upd_foot ht hi _ _ hg with h' | ⟨y,hy,rfl⟩
  ·exact h'
  ·exact .inr (.inr (.inr ⟨y,hinn y (hsub.subset hy),rfl⟩))
 ·exact hall.trans (List.Perm.cons x hp1.symm)
end Go.Proofs.YtehpmbmdadkhbaaGreatDoor.Dspaceitem
