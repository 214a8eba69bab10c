/- Texts joined for EvictNone: SC5spaceitem, SPspaceitem, SP2spaceitem, SAspaceitem, SNspaceitem, SPK, DHint64, DHspaceitem, SPH, IT3, SPI. -/
import Derived.Test.YtehpmbmdadkhbaaGreatDoorJEvictNonea
import Derived.Test.YtehpmbmdadkhbaaGreatDoorJEvictNonee
import Derived.Test.YtehpmbmdadkhbaaGreatDoorJEvictNoneg
import Derived.Test.YtehpmbmdadkhbaaGreatDoorJEvictNonek
import Derived.Test.YtehpmbmdadkhbaaGreatDoorJEvictNonel
import Derived.Outline
set_option linter.unusedVariables false
set_option linter.unusedSimpArgs false

namespace Go.Proofs.YtehpmbmdadkhbaaGreatDoor.Dspaceitem
open Go.RowKit Pal
attribute [local go_sem] Oper.semAt_some
theorem all73 {P:Array Value→Prop} (h:∀ u0 u1 u2 u3 u4 u5 u6 u7 u8 u9 u10 u11 u12 u13 u14 u15 u16 u17 u18 u19 u20 u21 u22 u23 u24 u25 u26 u27 u28 u29 u30 u31 u32 u33 u34 u35 u36 u37 u38 u39 u40 u41 u42 u43 u44 u45 u46 u47 u48 u49 u50 u51 u52 u53 u54 u55 u56 u57 u58 u59 u60 u61 u62 u63 u64 u65 u66 u67 u68 u69 u70 u71 u72:Value,P #[u0,u1,u2,u3,u4,u5,u6,u7,u8,u9,u10,u11,u12,u13,u14,u15,u16,u17,u18,u19,u20,u21,u22,u23,u24,u25,u26,u27,u28,u29,u30,u31,u32,u33,u34,u35,u36,u37,u38,u39,u40,u41,u42,u43,u44,u45,u46,u47,u48,u49,u50,u51,u52,u53,u54,u55,u56,u57,u58,u59,u60,u61,u62,u63,u64,u65,u66,u67,u68,u69,u70,u71,u72]) (a:Array Value) (hs:a.size=73):P a:=by
 obtain ⟨l⟩:=a
 have g:l.length=73:=hs
 clear hs
 iterate 73 (obtain ⟨_,l2,e,g2⟩:=Pal.len_cons g;clear g;subst e;have g:=g2;clear g2)
 obtain rfl:=List.length_eq_zero_iff.1 g
 exact h _ _ _ _ _ _ _ _ _ _ _ _ _ _ _ _ _ _ _ _ _ _ _ _ _ _ _ _ _ _ _ _ _ _ _ _ _ _ _ _ _ _ _ _ _ _ _ _ _ _ _ _ _ _ _ _ _ _ _ _ _ _ _ _ _ _ _ _ _ _ _ _ _
structure R9 (w0:World) (d:Dm) (c:Nat) (ts:Nat) (s g:Int) (DB TB:Nat) (l:List ByteArray) (e:Exit) (x:Act) (w:World):Prop where
 e:e=.normal
 size:x.tmps.size=73
 t1:x.tmps[1]?=some (.int .u32 (c:Int))
 t2:x.tmps[2]?=some (.pointer (some ⟨DB,0,none⟩))
 t9:x.tmps[9]?=some (.int .i64 s)
 t10:x.tmps[10]?=some (.int .i64 g)
 t11:x.tmps[11]?=some (.pointer (some ⟨TB,0,none⟩))
 defers:x.defers=[]
 ex:∃ OB v,x.tmps[12]?=some (.pointer (some ⟨OB,0,none⟩))∧Blk w OB 38 #[v]∧Strs w w0.heap.size v l∧w0.heap.size≤OB
 bd:Blk w DB 76 #[.pointer (some ⟨d.blk,0,none⟩)]
 bt:Blk w TB 3 #[.int .i64 (ts:Int)]
 chg:Chg (fun _ => False) w0 w
theorem keysAt_len {d:Dm} (hok:d.Ok) (ti si:Nat):(keysAt d ti si).length≤d.n:=by
 cases ht:d.tab ti with
 | none => unfold keysAt;rw [ht];exact Nat.zero_le _
 | some t =>
  rw [(keysAt_perm ht).length_eq,List.length_map,hok.count]
  by_cases hl:si<t.len
  ·have:=(tab_perm ht hl).length_eq
   rw [List.length_append] at this
   omega
  ·have e:t.at si=[]:=by
    unfold Tb.at;rw [List.getD_eq_getElem?_getD,List.getElem?_eq_none (by unfold Tb.len at hl;omega)];rfl
   rw [e];exact Nat.zero_le _
theorem flatMap_len {α β:Type} {f:α→List β} {m:Nat} (hf:∀ x,(f x).length≤m):∀ l:List α,(l.flatMap f).length≤l.length * m
 | [] => by simp
 | x :: l => by
  rw [List.flatMap_cons,List.length_append,List.length_cons,Nat.add_mul]
  have:=flatMap_len hf l
  have:=hf x
  omega
structure ScI (w0:World) (d:Dm) (c ts:Nat) (ks:List ByteArray) (items:List (Nat × Nat)) (OB BH DB TB B1 M:Nat) (r:List (Nat × Nat)) (V:World):Prop where
 ex:∃ pre v,pre++r=items∧Blk V OB 38 #[v]∧Strs V w0.heap.size v (ks++pre.flatMap fun x => keysAt d (1 - ts) x.1)∧Blk V BH 24 #[.int .u32 ((pre.foldl (fun _ x => x.2) c:Nat):Int)]∧∀ g,v.ownBlock=some g→g≠B1
 bd:Blk V DB 76 #[.pointer (some ⟨d.blk,0,none⟩)]
 bt:Blk V TB 3 #[.int .i64 (ts:Int)]
 st:Stay (fun _ => False) w0 V
 M:M≤V.heap.size
structure R8 (w0:World) (d:Dm) (c:Nat) (ts:Nat) (s g:Int) (DB TB:Nat) (e:Exit) (x:Act) (w:World):Prop where
 e:e=.normal
 size:x.tmps.size=73
 t1:x.tmps[1]?=some (.int .u32 (c:Int))
 t2:x.tmps[2]?=some (.pointer (some ⟨DB,0,none⟩))
 t9:x.tmps[9]?=some (.int .i64 s)
 t10:x.tmps[10]?=some (.int .i64 g)
 t11:x.tmps[11]?=some (.pointer (some ⟨TB,0,none⟩))
 defers:x.defers=[]
 bd:Blk w DB 76 #[.pointer (some ⟨d.blk,0,none⟩)]
 bt:Blk w TB 3 #[.int .i64 (ts:Int)]
 chg:Chg (fun _ => False) w0 w
structure R9S (DB TB:Nat) (d:Dm) (ts:Nat) (W:World):Prop where
 bd:Blk W DB 76 #[.pointer (some ⟨d.blk,0,none⟩)]
 bt:Blk W TB 3 #[.int .i64 (ts:Int)]
theorem R9S.chg {DB TB:Nat} {d:Dm} {ts:Nat} {W W':World} (h:R9S DB TB d ts W) (hc:Chg (fun _ => False) W W'):R9S DB TB d ts W':=⟨h.bd.chg hc id,h.bt.chg hc id⟩
set_option maxRecDepth 100000 in
set_option maxHeartbeats 4000000 in
theorem Scan_mv (d:Dm) (t:Tb) (a b c ts:Nat) (w:World) (h:DmAt w d) (hok:d.Ok) (hn:d.n<1000000) (ht:d.t1=some t) (hab:a≤b) (hb:b≤16) (hc:c<4294967296)
  (hcase:(ts=0∧d.t0.len=2 ^ a∧t.len=2 ^ b)∨(ts=1∧t.len=2 ^ a∧d.t0.len=2 ^ b∧t.len<d.t0.len)) :
  Calls Tryz.prog 63 #[ptr d.blk,.int .u32 (c:Int)] w fun e w' => (∃ v,e=.returned (.tuple #[v,.int .u32 (curW a (pos a c+1):Int)])∧Strs w' w.heap.size v (keysAt d ts (c % 2 ^ a)++(slotsP a b (pos b c)).flatMap fun x => keysAt d (1 - ts) x.1))∧Chg (fun _ => False) w w':=by
 have hbx:Blk (w.alloc (.cells #[ptr d.blk] 76)) w.heap.size 76 #[ptr d.blk]:=Blk.new w _ _
 have hc0:Chg (fun _ => False) w (w.alloc (.cells #[ptr d.blk] 76)):=(Chg.refl _ w).alloc _
 have hz:=Sizes_any d _ (h.chg0 hc0)
 rw [ht] at hz
 have h1a:1≤2 ^ a:=Nat.one_le_two_pow
 have hpa:(2:Nat) ^ a≤2 ^ b:=pow_mono hab
 have hp:(2:Nat) ^ b≤2 ^ 16:=pow_mono hb
 obtain ⟨s,hs⟩:∃ s:Int,s=((2 ^ a:Nat):Int):=⟨_,rfl⟩
 obtain ⟨g,hg⟩:∃ g:Int,g=((2 ^ b:Nat):Int):=⟨_,rfl⟩
 obtain ⟨x0,hx0⟩:∃ x0:Int,x0=(d.t0.len:Int):=⟨_,rfl⟩
 obtain ⟨x1,hx1⟩:∃ x1:Int,x1=(t.len:Int):=⟨_,rfl⟩
 have hts:ts<2:=by rcases hcase with h | h <;> omega
 have hT:tabLen d ts=2 ^ a∧tabLen d (1 - ts)=2 ^ b:=by
  rcases hcase with ⟨rfl,e1,e2⟩ | ⟨rfl,e1,e2,_⟩
  ·exact ⟨e1,by unfold tabLen Dm.tab;simp [ht,e2]⟩
  ·exact ⟨by unfold tabLen Dm.tab;simp [ht,e1],e2⟩
 have hx:(x1<x0∧ts=1∧s=x1∧g=x0)∨((x1<x0)=False∧ts=0∧s=x0∧g=x1):=by
  rcases hcase with ⟨rfl,e1,e2⟩ | ⟨rfl,e1,e2,e3⟩
  ·exact .inr ⟨by simp only [eq_iff_iff,iff_false];omega,rfl,by omega,by omega⟩
  ·exact .inl ⟨by omega,rfl,by omega,by omega⟩
 have hs1:1≤s:=by omega
 have hs2:s≤65536:=by omega
 have z0:(x0 == 0)=false:=by rw [beq_eq_false_iff_ne];rcases hx with ⟨_,_,e1,e2⟩ | ⟨_,_,e1,e2⟩ <;> omega
 have z1:(x1 == 0)=false:=by rw [beq_eq_false_iff_ne];rcases hx with ⟨_,_,e1,e2⟩ | ⟨_,_,e1,e2⟩ <;> omega
 have hmask:=fun w => mask_any s w hs1 hs2
 have hga:=fun ti si B W (hti:ti<2) (hsi:si<tabLen d ti) (hC:Chg (fun _ => False) w W) hB hBl => gathered_any d ti si B W (h.chg0 hC) hok hti hsi hn hB hBl
 have hat:Hid (IntKind.i64.wrap (bits BinOp.and IntKind.u32 (c:Int) (s - 1))=((c % 2 ^ a:Nat):Int)):=by
  show _=_
  rw [hs,slot_bits c a hc (by omega)]
  have:=slot_in (a:=a) (c:=c)
  exact IntWalk.i64_in _ ⟨by omega,by omega⟩
 have hsi:c % 2 ^ a<tabLen d ts:=by rw [hT.1];exact slot_in
 have HS:=Lib.hid hs
 have HG:=Lib.hid hg
 simp only [Option.map_some,Option.getD_some] at hz
 rw [← hx0,← hx1] at hz
 clear hs hg hx0 hx1 hcase ht
 generalize hsi':c % 2 ^ a=si at *
 unfold ptr at *
 refine calls_of_wp_marks Tryz.func63 rfl ?_
 simp only [Tryz.ntmps63,List.size_toArray,List.length_cons,List.length_nil,Nat.reduceAdd,Nat.reduceSub,Array.replicate_succ,Array.replicate_zero,List.push_toArray,List.append_toArray,List.nil_append,List.cons_append]
 go_wp2_with fail
 refine hz.mono ?_
 rintro e w1 ⟨rfl,hc1⟩
 have hb1:=hbx.chg hc1 id
 have hC1:=hc0.trans hc1
 have k0:=hb1.cell 0
 simp only [List.getElem?_toArray,List.getElem?_cons_zero] at k0
 have l0:=hb1.lt
 clear hz hbx hc0 hc1
 obtain ⟨TB,hTB⟩:∃ TB,w1.heap.size=TB:=⟨_,rfl⟩
 go_upto_if 43 with (fail)
 refine wp_mono (Q:=R8 w d c ts s g w.heap.size TB) ?_ ?_
 ·rcases hx with ⟨hlt,hts',rfl,rfl⟩ | ⟨hlt,hts',rfl,rfl⟩
  ·have HTS:=Lib.hid hts'
   clear hts'
   go_wp2_with fail
   have hbt0:Blk (w1.alloc (Obj.cells #[Value.int IntKind.i64 1] 3)) TB 3 #[.int .i64 (ts:Int)]:=by rw [HTS.out,← hTB];exact Blk.new w1 _ _
   exact ⟨rfl,rfl,rfl,rfl,rfl,rfl,rfl,rfl,hb1.alloc _,hbt0,hC1.alloc _⟩
  ·have HTS:=Lib.hid hts'
   have hdd:¬ (g<s):=by simp [hlt]
   clear hts' hlt
   go_wp2_with fail
   have hbt0:Blk (w1.alloc (Obj.cells #[Value.int IntKind.i64 0] 3)) TB 3 #[.int .i64 (ts:Int)]:=by rw [HTS.out,← hTB];exact Blk.new w1 _ _
   exact ⟨rfl,rfl,rfl,rfl,rfl,rfl,rfl,rfl,hb1.alloc _,hbt0,hC1.alloc _⟩
 ·clear hx k0 l0 hb1 hC1 z0 z1
  rintro e ⟨tmps,ds⟩ W1 ⟨rfl,hsz,t1,t2,t9,t10,t11,rfl,hbd0,hbt0,hC2⟩
  replace hsz:tmps.size=73:=hsz
  dsimp only at t1 t2 t9 t10 t11
  revert t1 t2 t9 t10 t11
  revert hsz
  revert tmps
  refine all73 ?_
  intro u0 u1 u2 u3 u4 u5 u6 u7 u8 u9 u10 u11 u12 u13 u14 u15 u16 u17 u18 u19 u20 u21 u22 u23 u24 u25 u26 u27 u28 u29 u30 u31 u32 u33 u34 u35 u36 u37 u38 u39 u40 u41 u42 u43 u44 u45 u46 u47 u48 u49 u50 u51 u52 u53 u54 u55 u56 u57 u58 u59 u60 u61 u62 u63 u64 u65 u66 u67 u68 u69 u70 u71 u72 t1 t2 t9 t10 t11
  simp only [List.getElem?_toArray,List.getElem?_cons_zero,List.getElem?_cons_succ,Option.some.injEq] at t1 t2 t9 t10 t11
  subst t1 t2 t9 t10 t11
  go_wp2_with fail
  have hSV:∀ V,Chg (fun _ => False) W1 V→R9S w.heap.size TB d ts V:=fun V hV => ⟨hbd0.chg hV id,hbt0.chg hV id⟩
  have hP1O:Blk ((W1.alloc (Obj.cells #[Value.slice none 0 0] 38)).alloc (Obj.cells #[Value.int IntKind.i64 (si:Int)] 3)).drew W1.heap.size 38 #[Value.slice none 0 0]:=((Blk.new W1 _ _).alloc _).drew
  have hP1B:Blk ((W1.alloc (Obj.cells #[Value.slice none 0 0] 38)).alloc (Obj.cells #[Value.int IntKind.i64 (si:Int)] 3)).drew (W1.heap.size+1) 3 #[Value.int IntKind.i64 (si:Int)]:=by
   have:=(Blk.new (W1.alloc (Obj.cells #[Value.slice none 0 0] 38)) 3 #[Value.int IntKind.i64 (si:Int)]).drew
   rwa [World.size_alloc] at this
  have hP2B:Blk ((W1.alloc (Obj.cells #[Value.int IntKind.i64 (si:Int)] 3)).alloc (Obj.cells #[Value.slice none 0 0] 38)).drew W1.heap.size 3 #[Value.int IntKind.i64 (si:Int)]:=((Blk.new W1 _ _).alloc _).drew
  have hP2O:Blk ((W1.alloc (Obj.cells #[Value.int IntKind.i64 (si:Int)] 3)).alloc (Obj.cells #[Value.slice none 0 0] 38)).drew (W1.heap.size+1) 38 #[Value.slice none 0 0]:=by
   have:=(Blk.new (W1.alloc (Obj.cells #[Value.int IntKind.i64 (si:Int)] 3)) 38 #[Value.slice none 0 0]).drew
   rwa [World.size_alloc] at this
  have hP3B:Blk (W1.alloc (Obj.cells #[Value.int IntKind.i64 (si:Int)] 3)).drew W1.heap.size 3 #[Value.int IntKind.i64 (si:Int)]:=(Blk.new W1 _ _).drew
  refine wp_mono (Q:=R9 w d c ts s g w.heap.size TB (keysAt d ts si)) ?_ ?_
  ·refine wp_region_heldF 10 (R9S w.heap.size TB d ts) (by kernel_rfl) ?_
   simp only [List.size_toArray,List.length_cons,List.length_nil,Nat.reduceAdd,Array.replicate_succ,Array.replicate_zero,List.push_toArray,List.nil_append,List.cons_append]
   refine wpAnyF_take 0 (v:=.pointer (some ⟨d.blk,0,none⟩)) rfl (by kernel_rfl) (by kernel_rfl) (by kernel_rfl) (by kernel_rfl) (fun _ _ _ h => (by cases h.e)) (hSV _ ((Chg.refl _ W1).drew)) (by rfl) ?_ ?_
   ·intro W hS
    have q0:=hS.bd.cell 0
    have q1:=hS.bt.cell 0
    simp only [List.getElem?_toArray,List.getElem?_cons_zero] at q0 q1
    go_simp
   refine wpAnyF_take 1 (v:=.int .i64 (ts:Int)) rfl (by kernel_rfl) (by kernel_rfl) (by kernel_rfl) (by kernel_rfl) (fun _ _ _ h => (by cases h.e)) (hSV _ ((Chg.refl _ W1).drew)) (by rfl) ?_ ?_
   ·intro W hS
    have q0:=hS.bd.cell 0
    have q1:=hS.bt.cell 0
    simp only [List.getElem?_toArray,List.getElem?_cons_zero] at q0 q1
    go_simp
   refine wpAnyF_take 2 (v:=.int .u32 (c:Int)) rfl (by kernel_rfl) (by kernel_rfl) (by kernel_rfl) (by kernel_rfl) (fun _ _ _ h => (by cases h.e)) (hSV _ ((Chg.refl _ W1).drew)) (by rfl) ?_ ?_
   ·intro W hS
    have q0:=hS.bd.cell 0
    have q1:=hS.bt.cell 0
    simp only [List.getElem?_toArray,List.getElem?_cons_zero] at q0 q1
    go_simp
   refine wpAnyF_take 3 (v:=.int .i64 s) rfl (by kernel_rfl) (by kernel_rfl) (by kernel_rfl) (by kernel_rfl) (fun _ _ _ h => (by cases h.e)) (hSV _ ((Chg.refl _ W1).drew)) (by rfl) ?_ ?_
   ·intro W hS
    have q0:=hS.bd.cell 0
    have q1:=hS.bt.cell 0
    simp only [List.getElem?_toArray,List.getElem?_cons_zero] at q0 q1
    go_simp
   refine wpAnyF_ready [4,9] (by kernel_rfl) (by simp) (AllF.cons rfl (fun K hK => ?_) (AllF.cons rfl (fun K hK => ?_) AllF.nil))
   ·go_simp
    refine (hmask _).mono ?_
    rintro e w' ⟨rfl,rfl⟩
    refine hK _ _ (fun _ => (hSV _ ((Chg.refl _ W1).drew))) ?_
    clear hK K
    refine wpAnyF_take 5 (v:=.int .u32 (bits BinOp.and IntKind.u32 (c:Int) (s - 1))) rfl (by kernel_rfl) (by kernel_rfl) (by kernel_rfl) (by kernel_rfl) (fun _ _ _ h => (by cases h.e)) (hSV _ ((Chg.refl _ W1).drew)) (by rfl) ?_ ?_
    ·intro W hS
     have q0:=hS.bd.cell 0
     have q1:=hS.bt.cell 0
     simp only [List.getElem?_toArray,List.getElem?_cons_zero] at q0 q1
     go_simp
    refine wpAnyF_take 6 (v:=.int .i64 (IntKind.i64.wrap (bits BinOp.and IntKind.u32 (c:Int) (s - 1)))) rfl (by kernel_rfl) (by kernel_rfl) (by kernel_rfl) (by kernel_rfl) (fun _ _ _ h => (by cases h.e)) (hSV _ ((Chg.refl _ W1).drew)) (by rfl) ?_ ?_
    ·intro W hS
     have q0:=hS.bd.cell 0
     have q1:=hS.bt.cell 0
     simp only [List.getElem?_toArray,List.getElem?_cons_zero] at q0 q1
     go_simp
    rw [hat.out]
    refine wpAnyF_ready [7,9] (by kernel_rfl) (by simp) (AllF.cons rfl (fun K hK => ?_) (AllF.cons rfl (fun K hK => ?_) AllF.nil))
    ·go_simp
     refine hK _ _ (fun _ => (hSV _ (((Chg.refl _ W1).alloc _).drew))) ?_
     clear hK K
     refine wpAnyF_ready [8,9] (by kernel_rfl) (by simp) (AllF.cons rfl (fun K hK => ?_) (AllF.cons rfl (fun K hK => ?_) AllF.nil))
     ·go_simp
      refine (hga _ _ _ _ hts hsi (hC2.trans ((Chg.refl _ W1).alloc _).drew) (hP3B.cell 0) hP3B.lt).mono ?_
      rintro e W2 ⟨⟨v,rfl,hs⟩,hc2⟩
      obtain ⟨pa,ca,rfl,_⟩:=hs.is
      have hcW:=((Chg.refl _ W1).alloc _).drew.trans hc2
      refine hK _ _ (fun _ => hSV _ hcW) ?_
      clear hK K
      refine wpAnyF_one 9 (by kernel_rfl) rfl (fun K hK => ?_)
      go_simp
      refine hK _ _ (fun _ => hSV _ (hcW.alloc _)) ?_
      clear hK K
      have hO:=(Blk.new W2 38 #[Value.slice none 0 0])
      have o0:=hO.cell 0
      have o1:=hO.frozen 0
      have o2:=hO.lt
      simp only [List.getElem?_toArray,List.getElem?_cons_zero] at o0
      refine wpAnyF_one 10 (by kernel_rfl) rfl (fun K hK => ?_)
      go_simp
      refine hK _ _ (fun h => absurd rfl h) ?_
      clear hK K
      refine wpAnyF_done (by kernel_rfl) ?_ _
      have hcF:Chg (fun _ => False) w (W2.alloc (Obj.cells #[Value.slice pa (keysAt d ts si).length ca] 38)):=(hC2.trans hcW).alloc _
      refine ⟨rfl,rfl,rfl,rfl,rfl,rfl,rfl,rfl,⟨W2.heap.size,_,rfl,Blk.new _ _ _,?_,?_⟩,?_,?_,hcF⟩
      ·exact (hs.chg ((Chg.refl _ W2).alloc _) (fun _ _ => id)).lower (by have:=hC2.size;simp;try omega)
      ·have:=hC2.size;have:=hcW.size;omega
      ·exact (hSV _ (hcW.alloc _)).bd
      ·exact (hSV _ (hcW.alloc _)).bt
     ·go_simp
      refine hK _ _ (fun _ => (hSV _ ((((Chg.refl _ W1).alloc _).alloc _).drew))) ?_
      clear hK K
      refine wpAnyF_one 8 (by kernel_rfl) rfl (fun K hK => ?_)
      go_simp
      refine (hga _ _ _ _ hts hsi (hC2.trans (((Chg.refl _ W1).alloc _).alloc _).drew) (hP2B.cell 0) hP2B.lt).mono ?_
      rintro e W2 ⟨⟨v,rfl,hs⟩,hc2⟩
      obtain ⟨pa,ca,rfl,_⟩:=hs.is
      have hcW:=(((Chg.refl _ W1).alloc _).alloc _).drew.trans hc2
      refine hK _ _ (fun _ => hSV _ hcW) ?_
      clear hK K
      have hO:=(hP2O.chg hc2 id)
      have o0:=hO.cell 0
      have o1:=hO.frozen 0
      have o2:=hO.lt
      simp only [List.getElem?_toArray,List.getElem?_cons_zero] at o0
      refine wpAnyF_one 10 (by kernel_rfl) rfl (fun K hK => ?_)
      go_simp
      refine hK _ _ (fun h => absurd rfl h) ?_
      clear hK K
      refine wpAnyF_done (by kernel_rfl) ?_ _
      have hst:Chg (fun k => k=(W1.heap.size+1)) W2 (W2.setCell ⟨(W1.heap.size+1),0,none⟩ (.slice pa (keysAt d ts si).length ca)):=(Chg.refl (fun k => k=(W1.heap.size+1)) _).store rfl 0 _
      have hcF:Chg (fun _ => False) w (W2.setCell ⟨(W1.heap.size+1),0,none⟩ (.slice pa (keysAt d ts si).length ca)):=(hC2.trans hcW).trans' hst (fun g hg h' => by have:=hC2.size;have:=hcW.size;omega)
      refine ⟨rfl,rfl,rfl,rfl,rfl,rfl,rfl,rfl,⟨(W1.heap.size+1),_,rfl,hO.set 0 _,?_,?_⟩,?_,?_,hcF⟩
      ·exact ((hs).chg hst (fun gg hgg h' => hO.not_own hs (by decide) (h' ▸ hgg))).lower (by have:=hC2.size;have:=hcW.size;simp;try omega)
      ·have:=hC2.size;have:=hcW.size;omega
      ·exact (hSV _ hcW).bd.chg hst (fun h' => (hSV _ hcW).bd.ne_type hO (by decide) h')
      ·exact (hSV _ hcW).bt.chg hst (fun h' => (hSV _ hcW).bt.ne_type hO (by decide) h')
    ·go_simp
     refine hK _ _ (fun _ => (hSV _ (((Chg.refl _ W1).alloc _).drew))) ?_
     clear hK K
     refine wpAnyF_one 7 (by kernel_rfl) rfl (fun K hK => ?_)
     go_simp
     refine hK _ _ (fun _ => (hSV _ ((((Chg.refl _ W1).alloc _).alloc _).drew))) ?_
     clear hK K
     refine wpAnyF_one 8 (by kernel_rfl) rfl (fun K hK => ?_)
     go_simp
     refine (hga _ _ _ _ hts hsi (hC2.trans (((Chg.refl _ W1).alloc _).alloc _).drew) (hP1B.cell 0) hP1B.lt).mono ?_
     rintro e W2 ⟨⟨v,rfl,hs⟩,hc2⟩
     obtain ⟨pa,ca,rfl,_⟩:=hs.is
     have hcW:=(((Chg.refl _ W1).alloc _).alloc _).drew.trans hc2
     refine hK _ _ (fun _ => hSV _ hcW) ?_
     clear hK K
     have hO:=(hP1O.chg hc2 id)
     have o0:=hO.cell 0
     have o1:=hO.frozen 0
     have o2:=hO.lt
     simp only [List.getElem?_toArray,List.getElem?_cons_zero] at o0
     refine wpAnyF_one 10 (by kernel_rfl) rfl (fun K hK => ?_)
     go_simp
     refine hK _ _ (fun h => absurd rfl h) ?_
     clear hK K
     refine wpAnyF_done (by kernel_rfl) ?_ _
     have hst:Chg (fun k => k=W1.heap.size) W2 (W2.setCell ⟨W1.heap.size,0,none⟩ (.slice pa (keysAt d ts si).length ca)):=(Chg.refl (fun k => k=W1.heap.size) _).store rfl 0 _
     have hcF:Chg (fun _ => False) w (W2.setCell ⟨W1.heap.size,0,none⟩ (.slice pa (keysAt d ts si).length ca)):=(hC2.trans hcW).trans' hst (fun g hg h' => by have:=hC2.size;have:=hcW.size;omega)
     refine ⟨rfl,rfl,rfl,rfl,rfl,rfl,rfl,rfl,⟨W1.heap.size,_,rfl,hO.set 0 _,?_,?_⟩,?_,?_,hcF⟩
     ·exact ((hs).chg hst (fun gg hgg h' => hO.not_own hs (by decide) (h' ▸ hgg))).lower (by have:=hC2.size;have:=hcW.size;simp;try omega)
     ·have:=hC2.size;have:=hcW.size;omega
     ·exact (hSV _ hcW).bd.chg hst (fun h' => (hSV _ hcW).bd.ne_type hO (by decide) h')
     ·exact (hSV _ hcW).bt.chg hst (fun h' => (hSV _ hcW).bt.ne_type hO (by decide) h')
   ·go_simp
    refine hK _ _ (fun _ => (hSV _ (((Chg.refl _ W1).alloc _).drew))) ?_
    clear hK K
    refine wpAnyF_one 4 (by kernel_rfl) rfl (fun K hK => ?_)
    go_simp
    refine (hmask _).mono ?_
    rintro e w' ⟨rfl,rfl⟩
    refine hK _ _ (fun _ => (hSV _ (((Chg.refl _ W1).alloc _).drew))) ?_
    clear hK K
    refine wpAnyF_take 5 (v:=.int .u32 (bits BinOp.and IntKind.u32 (c:Int) (s - 1))) rfl (by kernel_rfl) (by kernel_rfl) (by kernel_rfl) (by kernel_rfl) (fun _ _ _ h => (by cases h.e)) (hSV _ (((Chg.refl _ W1).alloc _).drew)) (by rfl) ?_ ?_
    ·intro W hS
     have q0:=hS.bd.cell 0
     have q1:=hS.bt.cell 0
     simp only [List.getElem?_toArray,List.getElem?_cons_zero] at q0 q1
     go_simp
    refine wpAnyF_take 6 (v:=.int .i64 (IntKind.i64.wrap (bits BinOp.and IntKind.u32 (c:Int) (s - 1)))) rfl (by kernel_rfl) (by kernel_rfl) (by kernel_rfl) (by kernel_rfl) (fun _ _ _ h => (by cases h.e)) (hSV _ (((Chg.refl _ W1).alloc _).drew)) (by rfl) ?_ ?_
    ·intro W hS
     have q0:=hS.bd.cell 0
     have q1:=hS.bt.cell 0
     simp only [List.getElem?_toArray,List.getElem?_cons_zero] at q0 q1
     go_simp
    rw [hat.out]
    refine wpAnyF_one 7 (by kernel_rfl) rfl (fun K hK => ?_)
    go_simp
    refine hK _ _ (fun _ => (hSV _ ((((Chg.refl _ W1).alloc _).alloc _).drew))) ?_
    clear hK K
    refine wpAnyF_one 8 (by kernel_rfl) rfl (fun K hK => ?_)
    go_simp
    refine (hga _ _ _ _ hts hsi (hC2.trans (((Chg.refl _ W1).alloc _).alloc _).drew) (hP1B.cell 0) hP1B.lt).mono ?_
    rintro e W2 ⟨⟨v,rfl,hs⟩,hc2⟩
    obtain ⟨pa,ca,rfl,_⟩:=hs.is
    have hcW:=(((Chg.refl _ W1).alloc _).alloc _).drew.trans hc2
    refine hK _ _ (fun _ => hSV _ hcW) ?_
    clear hK K
    have hO:=(hP1O.chg hc2 id)
    have o0:=hO.cell 0
    have o1:=hO.frozen 0
    have o2:=hO.lt
    simp only [List.getElem?_toArray,List.getElem?_cons_zero] at o0
    refine wpAnyF_one 10 (by kernel_rfl) rfl (fun K hK => ?_)
    go_simp
    refine hK _ _ (fun h => absurd rfl h) ?_
    clear hK K
    refine wpAnyF_done (by kernel_rfl) ?_ _
    have hst:Chg (fun k => k=W1.heap.size) W2 (W2.setCell ⟨W1.heap.size,0,none⟩ (.slice pa (keysAt d ts si).length ca)):=(Chg.refl (fun k => k=W1.heap.size) _).store rfl 0 _
    have hcF:Chg (fun _ => False) w (W2.setCell ⟨W1.heap.size,0,none⟩ (.slice pa (keysAt d ts si).length ca)):=(hC2.trans hcW).trans' hst (fun g hg h' => by have:=hC2.size;have:=hcW.size;omega)
    refine ⟨rfl,rfl,rfl,rfl,rfl,rfl,rfl,rfl,⟨W1.heap.size,_,rfl,hO.set 0 _,?_,?_⟩,?_,?_,hcF⟩
    ·exact ((hs).chg hst (fun gg hgg h' => hO.not_own hs (by decide) (h' ▸ hgg))).lower (by have:=hC2.size;have:=hcW.size;simp;try omega)
    ·have:=hC2.size;have:=hcW.size;omega
    ·exact (hSV _ hcW).bd.chg hst (fun h' => (hSV _ hcW).bd.ne_type hO (by decide) h')
    ·exact (hSV _ hcW).bt.chg hst (fun h' => (hSV _ hcW).bt.ne_type hO (by decide) h')
  ·clear hbd0 hbt0 hC2 hSV hP1O hP1B hP2O hP2B hP3B
   rintro e ⟨tmps,ds⟩ W ⟨rfl,hsz,t1,t2,t9,t10,t11,rfl,⟨OB,v,t12,hO,hs0,hOB⟩,hbd,hbt,hC⟩
   replace hsz:tmps.size=73:=hsz
   dsimp only at t1 t2 t9 t10 t11 t12
   revert t1 t2 t9 t10 t11 t12
   revert hsz
   revert tmps
   refine all73 ?_
   intro u0 u1 u2 u3 u4 u5 u6 u7 u8 u9 u10 u11 u12 u13 u14 u15 u16 u17 u18 u19 u20 u21 u22 u23 u24 u25 u26 u27 u28 u29 u30 u31 u32 u33 u34 u35 u36 u37 u38 u39 u40 u41 u42 u43 u44 u45 u46 u47 u48 u49 u50 u51 u52 u53 u54 u55 u56 u57 u58 u59 u60 u61 u62 u63 u64 u65 u66 u67 u68 u69 u70 u71 u72 t1 t2 t9 t10 t11 t12
   simp only [List.getElem?_toArray,List.getElem?_cons_zero,List.getElem?_cons_succ,Option.some.injEq] at t1 t2 t9 t10 t11 t12
   subst t1 t2 t9 t10 t11 t12
   go_wp2_with fail
   refine (slots_any c s g _).mono ?_
   rintro e w' ⟨rfl,rfl⟩
   go_wp2_with fail
   have hlt:=hO.lt
   have hltd:=hbd.lt
   have hltt:=hbt.lt
   have hcE:Chg (fun _ => False) W ((((W.alloc (Obj.cells #[Value.int IntKind.u32 (c:Int)] 24)).alloc (Obj.cells #[Value.int IntKind.u32 (c:Int)] 24)).alloc (Obj.cells #[Value.int IntKind.i64 s] 3)).alloc (Obj.cells #[Value.int IntKind.i64 g] 3)):=((((Chg.refl _ W).alloc _).alloc _).alloc _).alloc _
   have hH:Blk ((((W.alloc (Obj.cells #[Value.int IntKind.u32 (c:Int)] 24)).alloc (Obj.cells #[Value.int IntKind.u32 (c:Int)] 24)).alloc (Obj.cells #[Value.int IntKind.i64 s] 3)).alloc (Obj.cells #[Value.int IntKind.i64 g] 3)) W.heap.size 24 #[.int .u32 (c:Int)]:=(((Blk.new W _ _).alloc _).alloc _).alloc _
   have hsl:slB (W.heap.size+1) (W.heap.size+3) (W.heap.size+2) s g c ((((W.alloc (Obj.cells #[Value.int IntKind.u32 (c:Int)] 24)).alloc (Obj.cells #[Value.int IntKind.u32 (c:Int)] 24)).alloc (Obj.cells #[Value.int IntKind.i64 s] 3)).alloc (Obj.cells #[Value.int IntKind.i64 g] 3)):=by
    refine ⟨?_,?_,?_⟩
    ·have:=((Blk.new (W.alloc (Obj.cells #[Value.int IntKind.u32 (c:Int)] 24)) 24 #[Value.int IntKind.u32 (c:Int)]).alloc (Obj.cells #[Value.int IntKind.i64 s] 3)).alloc (Obj.cells #[Value.int IntKind.i64 g] 3)
     rwa [World.size_alloc] at this
    ·have:=Blk.new (((W.alloc (Obj.cells #[Value.int IntKind.u32 (c:Int)] 24)).alloc (Obj.cells #[Value.int IntKind.u32 (c:Int)] 24)).alloc (Obj.cells #[Value.int IntKind.i64 s] 3)) 3 #[Value.int IntKind.i64 g]
     rwa [World.size_alloc,World.size_alloc,World.size_alloc] at this
    ·have:=(Blk.new ((W.alloc (Obj.cells #[Value.int IntKind.u32 (c:Int)] 24)).alloc (Obj.cells #[Value.int IntKind.u32 (c:Int)] 24)) 3 #[Value.int IntKind.i64 s]).alloc (Obj.cells #[Value.int IntKind.i64 g] 3)
     rwa [World.size_alloc,World.size_alloc] at this
   have hszE:((((W.alloc (Obj.cells #[Value.int IntKind.u32 (c:Int)] 24)).alloc (Obj.cells #[Value.int IntKind.u32 (c:Int)] 24)).alloc (Obj.cells #[Value.int IntKind.i64 s] 3)).alloc (Obj.cells #[Value.int IntKind.i64 g] 3)).heap.size=W.heap.size+4:=by simp
   generalize (((W.alloc (Obj.cells #[Value.int IntKind.u32 (c:Int)] 24)).alloc (Obj.cells #[Value.int IntKind.u32 (c:Int)] 24)).alloc (Obj.cells #[Value.int IntKind.i64 s] 3)).alloc (Obj.cells #[Value.int IntKind.i64 g] 3)=W0 at hcE hH hsl hszE ⊢
   have hOl:∀ g,v.ownBlock=some g→g<W.heap.size:=fun g hg => (hs0.lt g hg).2
   refine wp_range_it 123 #[.pointer (some ⟨W.heap.size+1,0,none⟩),.pointer (some ⟨W.heap.size+3,0,none⟩),.pointer (some ⟨W.heap.size+2,0,none⟩)] rfl (enters_of Tryz.func123 (by kernel_rfl) rfl) (slots_spec a b (W.heap.size+1) (W.heap.size+3) (W.heap.size+2) s g hab hb HS.out HG.out (by omega) (by omega)) (fun _ => rfl)
    (ScI w d c ts (keysAt d ts si) (slotsP a b (pos b c)) OB W.heap.size w.heap.size TB (W.heap.size+1) (W.heap.size+4)) ?_ (fun _ _ => False) (fun _ _ _ h => h.elim) (slotsP a b (pos b c)) ?_ ?_ _ (fun l x W K hK => by simp only [slEnc];gi_wp2;exact hK) ?_ ?_ (fun _ _ _ _ h => h.elim)
   ·rintro r V V' ⟨⟨pre,v,h1,h2,h3,h4,h5⟩,h6,h7,h8,h9⟩ hst
    exact ⟨⟨pre,v,h1,h2.stay hst (by omega),h3.stay hst h5,h4.stay hst (by omega),h5⟩,h6.stay hst (by omega),h7.stay hst (by omega),h8.trans' hst (fun gg hg h' => by have:=hC.size;omega),Nat.le_trans h9 hst.size⟩
   ·exact ⟨⟨[],v,rfl,hO.chg hcE id,by rw [List.flatMap_nil,List.append_nil];exact hs0.chg hcE fun _ _ => id,hH,fun gg hg => by have:=hOl gg hg;omega⟩,hbd.chg hcE id,hbt.chg hcE id,.of_chg (hC.trans hcE),by omega⟩
   ·exact ⟨c,hc,hsl,rfl⟩
   ·clear hO hs0 hbd hbt hH hsl hOl
    rintro l x r V ⟨⟨pre,v,hpre,hO,hs0,hH,hne⟩,hbd,hbt,hst,hM⟩ ⟨u,hit⟩ hle
    have hxm:x∈slotsP a b (pos b c):=by rw [← hpre];simp
    obtain ⟨hx1,hx2⟩:=slotsP_mem hab (by omega) (pos_lt (by omega) c) hxm
    have hplen:pre.length≤65536:=by
     have h1:=slotsP_length a b (pos b c)
     rw [← hpre,List.length_append] at h1
     omega
    have hllen:(keysAt d ts si++pre.flatMap fun x => keysAt d (1 - ts) x.1).length≤70000000000:=by
     rw [List.length_append]
     have h1:=flatMap_len (f:=fun x:Nat × Nat => keysAt d (1 - ts) x.1) (m:=1000000) (fun x => Nat.le_trans (keysAt_len hok _ _) (by omega)) pre
     have h2:=keysAt_len hok ts si
     omega
    have hnlen:(keysAt d (1 - ts) x.1).length≤1000000:=Nat.le_trans (keysAt_len hok _ _) (by omega)
    have HPRE:=Lib.hid hpre
    have hxt:x.1<tabLen d (1 - ts):=by rw [hT.2];exact hx1
    obtain ⟨pa,ca,rfl,hca,hca2,hpa⟩:=hs0.is
    obtain ⟨ls,hls⟩:∃ ls,keysAt d ts si++pre.flatMap (fun x => keysAt d (1 - ts) x.1)=ls:=⟨_,rfl⟩
    rw [hls] at hs0 hO hllen hca hne
    have HLS:=Lib.hid hls
    have hsub:IntKind.i64.wrap (1 - (ts:Int))=((1 - ts:Nat):Int):=by
     have e:1 - (ts:Int)=((1 - ts:Nat):Int):=by omega
     rw [e]
     exact IntWalk.i64_in _ ⟨by omega,by omega⟩
    have hSV1:R9S w.heap.size TB d ts V.drew∧Blk V.drew OB 38 #[.slice pa ls.length ca]:=⟨⟨hbd,hbt⟩,hO⟩
    obtain ⟨i0,hi0,hz0,hz1,hz2⟩:=info_parts str_info
    clear hpre hls hxm hplen
    gi_wp2
    refine wpIn_region_held 8 (fun V' => R9S w.heap.size TB d ts V'∧Blk V' OB 38 #[.slice pa ls.length ca]) (by kernel_rfl) (by kernel_rfl) (by rintro ⟨_,_,h⟩;exact h) ?_
    simp only [List.size_toArray,List.length_cons,List.length_nil,Nat.reduceAdd,Array.replicate_succ,Array.replicate_zero,List.push_toArray,List.nil_append,List.cons_append]
    refine wpAnyF_take 0 (v:=.slice pa ls.length ca) rfl (by kernel_rfl) (by kernel_rfl) (by kernel_rfl) (by kernel_rfl) (fun _ _ _ h => h) hSV1 (by rfl) ?_ ?_
    ·intro V' hS
     obtain ⟨⟨qd,qt⟩,qo⟩:=hS
     have q0:=qd.cell 0
     have q1:=qt.cell 0
     have q2:=qo.cell 0
     simp only [List.getElem?_toArray,List.getElem?_cons_zero] at q0 q1 q2
     go_simp
    refine wpAnyF_take 1 (v:=.pointer (some ⟨d.blk,0,none⟩)) rfl (by kernel_rfl) (by kernel_rfl) (by kernel_rfl) (by kernel_rfl) (fun _ _ _ h => h) hSV1 (by rfl) ?_ ?_
    ·intro V' hS
     obtain ⟨⟨qd,qt⟩,qo⟩:=hS
     have q0:=qd.cell 0
     have q1:=qt.cell 0
     have q2:=qo.cell 0
     simp only [List.getElem?_toArray,List.getElem?_cons_zero] at q0 q1 q2
     go_simp
    refine wpAnyF_take 2 (v:=.int .i64 (ts:Int)) rfl (by kernel_rfl) (by kernel_rfl) (by kernel_rfl) (by kernel_rfl) (fun _ _ _ h => h) hSV1 (by rfl) ?_ ?_
    ·intro V' hS
     obtain ⟨⟨qd,qt⟩,qo⟩:=hS
     have q0:=qd.cell 0
     have q1:=qt.cell 0
     have q2:=qo.cell 0
     simp only [List.getElem?_toArray,List.getElem?_cons_zero] at q0 q1 q2
     go_simp
    refine wpAnyF_take 3 (v:=.int .i64 ((1 - ts:Nat):Int)) rfl (by kernel_rfl) (by kernel_rfl) (by kernel_rfl) (by kernel_rfl) (fun _ _ _ h => h) hSV1 (by rfl) ?_ ?_
    ·intro V' hS
     obtain ⟨⟨qd,qt⟩,qo⟩:=hS
     have q0:=qd.cell 0
     have q1:=qt.cell 0
     have q2:=qo.cell 0
     simp only [List.getElem?_toArray,List.getElem?_cons_zero] at q0 q1 q2
     go_simp
    refine wpAnyF_take 4 (v:=.int .i64 (x.1:Int)) rfl (by kernel_rfl) (by kernel_rfl) (by kernel_rfl) (by kernel_rfl) (fun _ _ _ h => h) hSV1 (by rfl) ?_ ?_
    ·intro V' hS
     obtain ⟨⟨qd,qt⟩,qo⟩:=hS
     have q0:=qd.cell 0
     have q1:=qt.cell 0
     have q2:=qo.cell 0
     simp only [List.getElem?_toArray,List.getElem?_cons_zero] at q0 q1 q2
     go_simp
    have cA:Chg (fun _ => False) V (V.alloc (Obj.cells #[Value.int IntKind.i64 (x.1:Int)] 3)).drew:=((Chg.refl _ V).alloc _).drew
    have bA:Blk (V.alloc (Obj.cells #[Value.int IntKind.i64 (x.1:Int)] 3)).drew V.heap.size 3 #[.int .i64 (x.1:Int)]:=(Blk.new V _ _).drew
    refine wpAnyF_one 5 (by kernel_rfl) rfl (fun K hK => ?_)
    go_simp
    refine hK _ _ (fun _ => ⟨(R9S.mk hbd hbt).chg cA,hO.chg cA id⟩) ?_
    clear hK K
    refine wpAnyF_one 6 (by kernel_rfl) rfl (fun K hK => ?_)
    go_simp
    have stA:Stay (fun _ => False) w (V.alloc (Obj.cells #[Value.int IntKind.i64 (x.1:Int)] 3)).drew:=hst.trans (.of_chg cA)
    refine (gathered_any d (1 - ts) x.1 _ _ (h.keep (KeepC.of_stay stA)) hok (by omega) hxt hn (bA.cell 0) bA.lt).mono ?_
    rintro e V2 ⟨⟨v2,rfl,hs2⟩,c2⟩
    have cB:=cA.trans c2
    obtain ⟨pb,cb,rfl,hcb,hcb2,hpb⟩:=hs2.is
    refine hK _ _ (fun _ => ⟨(R9S.mk hbd hbt).chg cB,hO.chg cB id⟩) ?_
    clear hK K
    have hs0B:=hs0.chg cB fun _ _ => id
    have hA:ls.length+(keysAt d (1 - ts) x.1).length≤maxLen:=by unfold maxLen;omega
    have hBB:(ls.length+(keysAt d (1 - ts) x.1).length) * 16≤140737488355328:=by omega
    have hDD:w.heap.size≤V2.heap.size:=Nat.le_trans stA.size c2.size
    refine wpAnyF_one 7 (by kernel_rfl) rfl (fun K hK => ?_)
    refine step_append_any _ (by rfl) (.tmp 62) (.tmp 68) 38 (by rfl) w.heap.size 9 i0 _ 1 16 Tryz.underlying38 hi0 hz0 hz1 hz2 rfl (by omega) (.slice pa ls.length ca) ls.length (ls.map Value.string) (by rfl) hs0B.own V2.heap.size pb _ cb ((keysAt d (1 - ts) x.1).map Value.string) (by rfl) hs2.reads (strs_one _) hA hBB hDD ?_
    intro v3 V3 hown3 hg3 hat3
    have hOB2:=hO.chg cB id
    have a1:=app_chg hs0B.own hg3
    have a2:=app_keeps hs0B.own hg3
    have hnO:∀ {g':Nat} {t':TypeId} {cs':Array Value},t'≠9→Blk V2 g' t' cs'→Blk V3 g' t' cs':=fun hne hb => (hg3.block _ hb.lt (fun e => hb.not_own hs0B.own hne e.symm)).trans hb
    have hO3:=hnO (by decide) hOB2
    have hbd3:=hnO (by decide) (hbd.chg cB id)
    have hbt3:=hnO (by decide) (hbt.chg cB id)
    have hH3:=hnO (by decide) (hH.chg cB id)
    refine hK _ _ (fun _ => ⟨⟨hbd3,hbt3⟩,hO3⟩) ?_
    clear hK K
    have hv3:∃ p3 c3,v3=.slice p3 (ls.length+(keysAt d (1 - ts) x.1).length) c3:=by
     rcases hown3.2 with ⟨e,h0⟩ | ⟨g',cap',cur',e,_⟩
     ·exact ⟨none,0,by rw [e,h0]⟩
     ·exact ⟨_,_,e⟩
    obtain ⟨p3,c3,rfl⟩:=hv3
    have o0:=hO3.cell 0
    have o1:=hO3.frozen 0
    have o2:=hO3.lt
    have h0:=hH3.cell 0
    have h1:=hH3.frozen 0
    have h2:=hH3.lt
    have hHO:W.heap.size≠OB:=fun e => by omega
    simp only [List.getElem?_toArray,List.getElem?_cons_zero] at o0 h0
    refine wpAnyF_one 8 (by kernel_rfl) rfl (fun K hK => ?_)
    go_simp
    refine hK _ _ (fun h => absurd rfl h) ?_
    clear hK K
    refine wpAnyF_done (by kernel_rfl) ?_ _
    gi_wp2
    obtain ⟨f1,fg,fs⟩:=hit
    have nd:w.heap.size≠OB:=hbd3.ne_type hO3 (by decide)
    have nt:TB≠OB:=hbt3.ne_type hO3 (by decide)
    have f13:=hnO (by decide) (f1.chg cB id)
    have fg3:=hnO (by decide) (fg.chg cB id)
    have fs3:=hnO (by decide) (fs.chg cB id)
    have a3:Chg (fun k => w.heap.size≤k) V ((V3.setCell ⟨OB,0,none⟩ (.slice p3 (ls.length+(keysAt d (1 - ts) x.1).length) c3)).setCell ⟨W.heap.size,0,none⟩ (.int .u32 (x.2:Int))) :=
     (((cB.mono fun _ _ h => h.elim).trans a1).store hOB 0 _).store hC.size 0 _
    have far2:∀ {g':Nat} {t':TypeId} {cs':Array Value},Blk V3 g' t' cs'→g'≠OB→g'≠W.heap.size→Blk ((V3.setCell ⟨OB,0,none⟩ (.slice p3 (ls.length+(keysAt d (1 - ts) x.1).length) c3)).setCell ⟨W.heap.size,0,none⟩ (.int .u32 (x.2:Int))) g' t' cs' :=
     fun hb n1 n2 => (hb.far (p:=⟨OB,0,none⟩) n1 _).far (p:=⟨W.heap.size,0,none⟩) n2 _
    have hown4:=own_stay (F:=fun k => k=OB∨k=W.heap.size) hown3 (.of_chg (((Chg.refl (fun k => k=OB∨k=W.heap.size) V3).store (.inl rfl) 0 (.slice p3 (ls.length+(keysAt d (1 - ts) x.1).length) c3)).store (.inr rfl) 0 (.int .u32 (x.2:Int)))) (fun gg hgg h' => by
     rcases h' with rfl | rfl
     ·exact hO3.not_own hown3 (by decide) hgg
     ·exact hH3.not_own hown3 (by decide) hgg)
    refine ⟨(((KeepsOthers.of_chg0 cB).trans a2).trans (KeepsOthers.setCell _ _ _)).trans (KeepsOthers.setCell _ _ _),?_,⟨pre++[x],_,by rw [← HPRE.out];simp,?_,Strs.mk hown4 ?_ ?_,?_,?_⟩,far2 hbd3 (by omega) (by omega),far2 hbt3 (by omega) (by omega),hst.trans' (.of_chg a3) (fun gg hg h' => by omega),Nat.le_trans hM a3.size⟩
    ·rintro k (rfl | rfl | rfl)
     ·exact (far2 f13 (by omega) (by omega)).trans f1.symm
     ·exact (far2 fg3 (by omega) (by omega)).trans fg.symm
     ·exact (far2 fs3 (by omega) (by omega)).trans fs.symm
    ·exact (hO3.set 0 _).far (p:=⟨W.heap.size,0,none⟩) (fun e => hHO e.symm) _
    ·rw [← HLS.out];simp [List.flatMap_append];omega
    ·rw [← HLS.out];simp [List.flatMap_append]
    ·rw [List.foldl_append]
     exact (hH3.far (p:=⟨OB,0,none⟩) (fun e => hHO e) _).set 0 _
    ·intro gg hgg e
     subst e
     exact f13.not_own hown3 (by decide) hgg
   ·rintro D V hD ⟨⟨pre,v,hpre,hO,hs0,hH,hne⟩,hbd,hbt,hst,hM⟩ hKO hDd
    rw [List.append_nil] at hpre
    subst hpre
    have hlast:Hid ((slotsP a b (pos b c)).foldl (fun _ x => x.2) c=curW a (pos a c+1)):=slotsP_last hab (by omega) c c
    obtain ⟨ll,hll⟩:∃ ll,(slotsP a b (pos b c)).foldl (fun _ x => x.2) c=ll:=⟨_,rfl⟩
    rw [hll] at hH hlast
    have hCV:Chg (fun _ => False) w V:=.of_stay hst ((KeepsOthers.of_chg0 (hC.trans hcE)).trans hKO)
    have o0:=hO.cell 0
    have h0:=hH.cell 0
    have o2:=hO.lt
    have h2:=hH.lt
    simp only [List.getElem?_toArray,List.getElem?_cons_zero] at o0 h0
    have hwD:w.heap.size≤D:=Nat.le_trans (hC.trans hcE).size hD
    clear hll
    go_wp2_with fail
    go_quiet (fail)
    go_wp2_with fail
    refine bodyPostM_ret (D:=D) (v:=.tuple #[v,.int .u32 (ll:Int)]) rfl hDd (by simp [results,Tryz.results63,go_sem]) ⟨⟨v,by rw [hlast.out],?_⟩,?_⟩
    ·exact hs0.stay ((Stay.of_chg ((Chg.refl (fun _ => False) V).drewN nq)).trans (Stay.put (F:=fun _ => False) (w:=V.drewN nq) hDd rfl _)) fun _ _ => id
    ·exact (hCV.drewN nq).put hwD _
end Go.Proofs.YtehpmbmdadkhbaaGreatDoor.Dspaceitem

namespace Go.Proofs.YtehpmbmdadkhbaaGreatDoor.Dspaceitem
open Go.RowKit Pal
def scanA (d:Dm):Nat:=match d.t1 with
 | none => Nat.log2 d.t0.len
 | some t => Nat.log2 (if t.len<d.t0.len then t.len else d.t0.len)
def scanB (d:Dm):Nat:=match d.t1 with
 | none => Nat.log2 d.t0.len
 | some t => Nat.log2 (if t.len<d.t0.len then d.t0.len else t.len)
def scanT (d:Dm):Nat:=match d.t1 with
 | none => 0
 | some t => if t.len<d.t0.len then 1 else 0
def scanC (d:Dm) (c:Nat):Nat:=curW (scanA d) (pos (scanA d) c+1)
def scanL (d:Dm) (c:Nat):List ByteArray:=match d.t1 with
 | none => keysAt d 0 (c % 2 ^ scanA d)
 | some _ => keysAt d (scanT d) (c % 2 ^ scanA d)++(slotsP (scanA d) (scanB d) (pos (scanB d) c)).flatMap fun x => keysAt d (1 - scanT d) x.1
theorem pow_le_of {a b:Nat} (h:2 ^ a≤2 ^ b):a≤b:=by
 rcases Nat.lt_or_ge b a with h' | h'
 ·have:2 ^ b<2 ^ a:=Nat.pow_lt_pow_right (by omega) h'
  omega
 ·exact h'
theorem scan_none {d:Dm} (hok:d.Ok) (ht:d.t1=none):d.t0.len=2 ^ scanA d∧2≤scanA d∧scanA d≤16:=by
 obtain ⟨k,h2,h16,e⟩:=hok.s0
 have:scanA d=k:=by unfold scanA;rw [ht,e];exact Nat.log2_two_pow
 rw [this];exact ⟨e,h2,h16⟩
theorem scan_some {d:Dm} (hok:d.Ok) {t:Tb} (ht:d.t1=some t):2≤scanA d∧scanA d≤scanB d∧scanB d≤16 ∧
  ((scanT d=0∧d.t0.len=2 ^ scanA d∧t.len=2 ^ scanB d)∨(scanT d=1∧t.len=2 ^ scanA d∧d.t0.len=2 ^ scanB d∧t.len<d.t0.len)):=by
 obtain ⟨k,h2,h16,e⟩:=hok.s0
 obtain ⟨j,g2,g16,f⟩:=hok.s1 t ht
 by_cases hlt:t.len<d.t0.len
 ·have a1:scanA d=j:=by unfold scanA;rw [ht];dsimp only;rw [if_pos hlt,f];exact Nat.log2_two_pow
  have b1:scanB d=k:=by unfold scanB;rw [ht];dsimp only;rw [if_pos hlt,e];exact Nat.log2_two_pow
  have t1:scanT d=1:=by unfold scanT;rw [ht];dsimp only;rw [if_pos hlt]
  rw [a1,b1,t1]
  exact ⟨g2,pow_le_of (by omega),h16,.inr ⟨rfl,f,e,hlt⟩⟩
 ·have a1:scanA d=k:=by unfold scanA;rw [ht];dsimp only;rw [if_neg hlt,e];exact Nat.log2_two_pow
  have b1:scanB d=j:=by unfold scanB;rw [ht];dsimp only;rw [if_neg hlt,f];exact Nat.log2_two_pow
  have t1:scanT d=0:=by unfold scanT;rw [ht];dsimp only;rw [if_neg hlt]
  rw [a1,b1,t1]
  exact ⟨h2,pow_le_of (by omega),g16,.inl ⟨rfl,e,f⟩⟩
theorem scanA_le {d:Dm} (hok:d.Ok):2≤scanA d∧scanA d≤16:=by
 cases ht:d.t1 with
 | none => have:=scan_none hok ht;omega
 | some t => have:=scan_some hok ht;omega
theorem Scan_i (d:Dm) (c:Nat) (w:World) (h:DmAt w d) (hok:d.Ok) (hn:d.n<1000000) (hc:c<4294967296) :
  Calls Tryz.prog 63 #[ptr d.blk,.int .u32 (c:Int)] w fun e w' => (∃ v,e=.returned (.tuple #[v,.int .u32 (scanC d c:Int)])∧Strs w' w.heap.size v (scanL d c))∧Chg (fun _ => False) w w':=by
 cases ht:d.t1 with
 | none =>
  obtain ⟨h1,_,h3⟩:=scan_none hok ht
  have:=Scan_still d (scanA d) c w h hok hn ht h1 h3 hc
  have e:scanL d c=keysAt d 0 (c % 2 ^ scanA d):=by unfold scanL;rw [ht]
  rw [e]
  exact this
 | some t =>
  obtain ⟨_,h2,h3,h4⟩:=scan_some hok ht
  have:=Scan_mv d t (scanA d) (scanB d) c (scanT d) w h hok hn ht h2 h3 hc h4
  have e:scanL d c=keysAt d (scanT d) (c % 2 ^ scanA d)++(slotsP (scanA d) (scanB d) (pos (scanB d) c)).flatMap fun x => keysAt d (1 - scanT d) x.1:=by unfold scanL;rw [ht]
  rw [e]
  exact this
theorem flat_filter {α:Type} (f:α→Nat):∀ (ls:List (List α)) (off i:Nat),(∀ j x,x∈ls.getD j []→f x=off+j)→ls.flatten.filter (fun x => decide (f x=off+i))=ls.getD i []
 | [],_,_,_ => by simp
 | l :: ls,off,i,h => by
  rw [List.flatten_cons,List.filter_append]
  have h0:∀ x∈l,f x=off:=fun x hx => by simpa using h 0 x (by simpa using hx)
  have hs:∀ j x,x∈ls.getD j []→f x=off+1+j:=fun j x hx => by
   have:=h (j+1) x (by simpa using hx)
   omega
  cases i with
  | zero =>
   have e1:l.filter (fun x => decide (f x=off+0))=l:=List.filter_eq_self.2 fun x hx => by simpa using h0 x hx
   have e2:ls.flatten.filter (fun x => decide (f x=off+0))=[]:=by
    rw [List.filter_eq_nil_iff]
    intro x hx h'
    obtain ⟨c,hc,hxc⟩:=List.mem_flatten.1 hx
    obtain ⟨j,hj,rfl⟩:=List.mem_iff_getElem.1 hc
    have:=hs j x (by rw [List.getD_eq_getElem?_getD,List.getElem?_eq_getElem hj];exact hxc)
    have h'':=of_decide_eq_true h'
    omega
   rw [e1,e2,List.append_nil];rfl
  | succ i =>
   have e1:l.filter (fun x => decide (f x=off+(i+1)))=[]:=by
    rw [List.filter_eq_nil_iff]
    intro x hx h'
    have h'':=of_decide_eq_true h'
    have:=h0 x hx
    omega
   rw [e1,List.nil_append]
   have:=flat_filter f ls (off+1) i hs
   rw [show off+1+i=off+(i+1) by omega] at this
   rw [this];rfl
theorem at_filter {t:Tb} (hin:∀ i x,i<t.len→x∈t.at i→x.sum % t.len=i) (i:Nat):t.nodes.filter (fun x => decide (x.sum % t.len=i))=t.at i:=by
 have:=flat_filter (fun x:Nd => x.sum % t.len) t.slots 0 i (fun j x hx => by
  rw [Nat.zero_add]
  refine hin j x ?_ hx
  rcases Nat.lt_or_ge j t.slots.length with h | h
  ·exact h
  ·rw [List.getD_eq_getElem?_getD,List.getElem?_eq_none h] at hx;cases hx)
 rw [Nat.zero_add] at this
 exact this
theorem mod_pos {b s k:Nat} (hb:b≤32) (hs:s<4294967296) (hk:k<2 ^ b):s % 2 ^ b=cur b k ↔ pos b s=k:=by
 rw [mod_cur hb hs]
 constructor
 ·exact fun h => cur_inj b hb (pos_lt hb s) hk h
 ·rintro rfl;rfl
theorem at_pos {t:Tb} {b k:Nat} (hb:b≤32) (hl:t.len=2 ^ b) (hin:∀ i x,i<t.len→x∈t.at i→x.sum % t.len=i) (hs:∀ x∈t.nodes,x.sum<4294967296) (hk:k<2 ^ b) :
  t.at (cur b k)=t.nodes.filter (fun x => decide (pos b x.sum=k)):=by
 rw [← at_filter hin]
 apply List.filter_congr
 intro x hx
 rw [hl,decide_eq_decide]
 exact mod_pos hb (hs x hx) hk
theorem filter_split {α:Type} (f:α→Nat) (k m:Nat):∀ l:List α,(l.filter (fun x => decide (f x=k))++l.filter (fun x => decide (k+1≤f x∧f x<k+1+m))).Perm (l.filter (fun x => decide (k≤f x∧f x<k+(m+1))))
 | [] => List.Perm.refl _
 | x :: l => by
  have ih:=filter_split f k m l
  by_cases h1:f x=k
  ·have h2:¬ (k+1≤f x∧f x<k+1+m):=by omega
   have h3:k≤f x∧f x<k+(m+1):=by omega
   rw [List.filter_cons_of_pos (by simpa using h1),List.filter_cons_of_neg (by simpa using h2),List.filter_cons_of_pos (by simpa using h3),List.cons_append]
   exact ih.cons x
  ·by_cases h2:k+1≤f x∧f x<k+1+m
   ·have h3:k≤f x∧f x<k+(m+1):=by omega
    rw [List.filter_cons_of_neg (by simpa using h1),List.filter_cons_of_pos (by simpa using h2),List.filter_cons_of_pos (by simpa using h3)]
    exact List.perm_middle.trans (ih.cons x)
   ·have h3:¬ (k≤f x∧f x<k+(m+1)):=by omega
    rw [List.filter_cons_of_neg (by simpa using h1),List.filter_cons_of_neg (by simpa using h2),List.filter_cons_of_neg (by simpa using h3)]
    exact ih
theorem slotsM_perm {t:Tb} {b:Nat} (hb:b≤32) (hl:t.len=2 ^ b) (hin:∀ i x,i<t.len→x∈t.at i→x.sum % t.len=i) (hs:∀ x∈t.nodes,x.sum<4294967296) :
  ∀ m k,k+m≤2 ^ b→((slotsM b k m).flatMap fun x => t.at x.1).Perm (t.nodes.filter (fun x => decide (k≤pos b x.sum∧pos b x.sum<k+m)))
 | 0,k,_ => by
  have e:t.nodes.filter (fun x => decide (k≤pos b x.sum∧pos b x.sum<k+0))=[]:=by
   rw [List.filter_eq_nil_iff]
   intro x _ h
   have:=of_decide_eq_true h
   omega
  rw [e];exact List.Perm.refl _
 | m+1,k,h => by
  rw [slotsM_succ,List.flatMap_cons,at_pos hb hl hin hs (by omega)]
  exact (List.Perm.append_left _ (slotsM_perm hb hl hin hs m (k+1) (by omega))).trans (filter_split (fun x:Nd => pos b x.sum) k m t.nodes)
theorem slotsP_perm {t:Tb} {a b k:Nat} (hab:a≤b) (hb:b≤32) (hk:k<2 ^ b) (hl:t.len=2 ^ b) (hin:∀ i x,i<t.len→x∈t.at i→x.sum % t.len=i) (hs:∀ x∈t.nodes,x.sum<4294967296) :
  ((slotsP a b k).flatMap fun x => t.at x.1).Perm (t.nodes.filter (fun x => decide (pos a x.sum=k / 2 ^ (b - a)∧k≤pos b x.sum))):=by
 have h1:0<2 ^ (b - a):=Nat.one_le_two_pow
 have hd:=Nat.div_add_mod k (2 ^ (b - a))
 have hm:=Nat.mod_lt k h1
 have h2:k / 2 ^ (b - a)<2 ^ a:=by rw [Nat.div_lt_iff_lt_mul h1,← pow_up hab];exact hk
 have h3:(k / 2 ^ (b - a)+1) * 2 ^ (b - a)≤2 ^ a * 2 ^ (b - a):=Nat.mul_le_mul_right _ h2
 rw [← pow_up hab] at h3
 have h4:k+(2 ^ (b - a) - k % 2 ^ (b - a))=(k / 2 ^ (b - a)+1) * 2 ^ (b - a):=by
  rw [Nat.add_mul,Nat.one_mul,Nat.mul_comm (k / _)];omega
 refine (slotsM_perm hb hl hin hs _ _ (by omega)).trans ?_
 rw [h4]
 have e:t.nodes.filter (fun x => decide (k≤pos b x.sum∧pos b x.sum<(k / 2 ^ (b - a)+1) * 2 ^ (b - a)))=t.nodes.filter (fun x => decide (pos a x.sum=k / 2 ^ (b - a)∧k≤pos b x.sum)):=by
  apply List.filter_congr
  intro x _
  rw [decide_eq_decide,pos_down hab hb]
  have e1:pos b x.sum / 2 ^ (b - a)<k / 2 ^ (b - a)+1 ↔ pos b x.sum<(k / 2 ^ (b - a)+1) * 2 ^ (b - a):=Nat.div_lt_iff_lt_mul h1
  constructor
  ·rintro ⟨g1,g2⟩
   have:=Nat.div_le_div_right (c:=2 ^ (b - a)) g1
   have:=e1.2 g2
   exact ⟨by omega,g1⟩
  ·rintro ⟨g1,g2⟩
   exact ⟨g2,e1.1 (by omega)⟩
 rw [e]
end Go.Proofs.YtehpmbmdadkhbaaGreatDoor.Dspaceitem

namespace Go.Proofs.YtehpmbmdadkhbaaGreatDoor.Dspaceitem
open Go.RowKit Pal
theorem scan_perm {d:Dm} (hok:d.Ok) (c:Nat) (hc:c<4294967296) :
  ∃ ns ng:List Nd,d.nodes.Perm (ns++ng)∧(scanL d c).Perm ((ns.filter (fun x => decide (pos (scanA d) x.sum=pos (scanA d) c))++ng.filter (fun x => decide (pos (scanA d) x.sum=pos (scanA d) c∧pos (scanB d) c≤pos (scanB d) x.sum))).map (·.key)):=by
 cases ht:d.t1 with
 | none =>
  obtain ⟨h1,h2,h3⟩:=scan_none hok ht
  refine ⟨d.t0.nodes,[],?_,?_⟩
  ·unfold Dm.nodes Dm.nodes1;rw [ht]
  ·have e:scanL d c=keysAt d 0 (c % 2 ^ scanA d):=by unfold scanL;rw [ht]
   rw [e,List.filter_nil,List.append_nil,mod_cur (by omega) hc,← at_pos (by omega) h1 hok.in0 (fun x hx => hok.sum_lt (mem_nodes0 hx)) (pos_lt (by omega) c)]
   exact keysAt_perm (tab0 d)
 | some t =>
  obtain ⟨h2,hab,h16,hcase⟩:=scan_some hok ht
  have e:scanL d c=keysAt d (scanT d) (c % 2 ^ scanA d)++(slotsP (scanA d) (scanB d) (pos (scanB d) c)).flatMap fun x => keysAt d (1 - scanT d) x.1:=by unfold scanL;rw [ht]
  rw [e,mod_cur (by omega) hc]
  have key:∀ (s g:Tb),d.tab (scanT d)=some s→d.tab (1 - scanT d)=some g→s.len=2 ^ scanA d→g.len=2 ^ scanB d →
    (keysAt d (scanT d) (cur (scanA d) (pos (scanA d) c))++(slotsP (scanA d) (scanB d) (pos (scanB d) c)).flatMap fun x => keysAt d (1 - scanT d) x.1).Perm
     ((s.nodes.filter (fun x => decide (pos (scanA d) x.sum=pos (scanA d) c))++g.nodes.filter (fun x => decide (pos (scanA d) x.sum=pos (scanA d) c∧pos (scanB d) c≤pos (scanB d) x.sum))).map (·.key)):=by
   intro s g hs hg ls lg
   obtain ⟨_,ins,ms⟩:=tab_ok hok hs
   obtain ⟨_,ing,mg⟩:=tab_ok hok hg
   rw [List.map_append]
   refine List.Perm.append ?_ ?_
   ·rw [← at_pos (by omega) ls ins (fun x hx => hok.sum_lt (ms x hx)) (pos_lt (by omega) c)]
    exact keysAt_perm hs
   ·refine (flatMap_perm _ (g:=fun x:Nat × Nat => (g.at x.1).map (·.key)) fun x _ => keysAt_perm hg).trans ?_
    rw [← List.map_flatMap]
    have:=slotsP_perm (k:=pos (scanB d) c) hab (by omega:scanB d≤32) (pos_lt (by omega) c) lg ing (fun x hx => hok.sum_lt (mg x hx))
    rw [← pos_down hab (by omega)] at this
    exact this.map _
  rcases hcase with ⟨e1,l0,l1⟩ | ⟨e1,l1,l0,_⟩
  ·refine ⟨d.t0.nodes,t.nodes,?_,?_⟩
   ·unfold Dm.nodes Dm.nodes1;rw [ht]
   ·exact key d.t0 t (by rw [e1];rfl) (by rw [e1];exact ht) l0 l1
  ·refine ⟨t.nodes,d.t0.nodes,?_,?_⟩
   ·unfold Dm.nodes Dm.nodes1;rw [ht];exact List.perm_append_comm
   ·exact key t d.t0 (by rw [e1];exact ht) (by rw [e1];rfl) l1 l0
theorem scan_once {d:Dm} (hok:d.Ok) {q:Nat} (hq:q<2 ^ scanA d):(scanL d (cur (scanA d) q)).Perm ((d.nodes.filter fun x => decide (pos (scanA d) x.sum=q)).map (·.key)):=by
 obtain ⟨ha2,ha⟩:=scanA_le hok
 obtain ⟨ns,ng,g1,g2⟩:=scan_perm hok (cur (scanA d) q) (cur_lt32 _ _)
 rw [pos_cur (by omega) hq] at g2
 refine g2.trans ?_
 have e:ng.filter (fun x => decide (pos (scanA d) x.sum=q∧pos (scanB d) (cur (scanA d) q)≤pos (scanB d) x.sum))=ng.filter (fun x => decide (pos (scanA d) x.sum=q)):=by
  apply List.filter_congr
  intro x _
  rw [decide_eq_decide]
  refine ⟨fun h => h.1,fun h => ⟨h,?_⟩⟩
  have hab:scanA d≤scanB d∧scanB d≤16:=by
   cases ht:d.t1 with
   | none =>
     have:scanB d=scanA d:=by unfold scanA scanB;rw [ht]
     omega
   | some t => have:=scan_some hok ht;omega
  rw [pos_down hab.1 (by omega)] at h
  rw [← cur_up hab.1 (by omega),pos_cur (by omega) (by rw [pow_up hab.1];exact Nat.mul_lt_mul_of_pos_right hq Nat.one_le_two_pow),← h]
  exact Nat.div_mul_le_self _ _
 rw [e,← List.filter_append]
 exact (g1.filter _).symm.map _
end Go.Proofs.YtehpmbmdadkhbaaGreatDoor.Dspaceitem

namespace Go.Proofs.YtehpmbmdadkhbaaGreatDoor.Dspaceitem
open Go.RowKit Pal
attribute [local go_sem] Oper.semAt_some
def allN (d:Dm) (k:Nat):List ByteArray:=(List.range k).flatMap fun q => scanL d (cur (scanA d) q)
def allL (d:Dm):List ByteArray:=allN d (2 ^ scanA d)
theorem allN_succ (d:Dm) (k:Nat):allN d (k+1)=allN d k++scanL d (cur (scanA d) k):=by
 unfold allN;rw [List.range_succ,List.flatMap_append];simp
theorem filter_lt_succ {α:Type} (f:α→Nat) (k:Nat):∀ l:List α,(l.filter (fun x => decide (f x<k))++l.filter (fun x => decide (f x=k))).Perm (l.filter fun x => decide (f x<k+1))
 | [] => List.Perm.refl _
 | x :: l => by
  have ih:=filter_lt_succ f k l
  by_cases h1:f x<k
  ·have h2:¬ f x=k:=by omega
   have h3:f x<k+1:=by omega
   rw [List.filter_cons_of_pos (by simpa using h1),List.filter_cons_of_neg (by simpa using h2),List.filter_cons_of_pos (by simpa using h3),List.cons_append]
   exact ih.cons x
  ·by_cases h2:f x=k
   ·have h3:f x<k+1:=by omega
    rw [List.filter_cons_of_neg (by simpa using h1),List.filter_cons_of_pos (by simpa using h2),List.filter_cons_of_pos (by simpa using h3)]
    exact List.perm_middle.trans (ih.cons x)
   ·have h3:¬ f x<k+1:=by omega
    rw [List.filter_cons_of_neg (by simpa using h1),List.filter_cons_of_neg (by simpa using h2),List.filter_cons_of_neg (by simpa using h3)]
    exact ih
theorem allN_perm {d:Dm} (hok:d.Ok):∀ k,k≤2 ^ scanA d→(allN d k).Perm ((d.nodes.filter fun x => decide (pos (scanA d) x.sum<k)).map (·.key))
 | 0,_ => by
  have e:d.nodes.filter (fun x => decide (pos (scanA d) x.sum<0))=[]:=by
   rw [List.filter_eq_nil_iff]
   intro x _ h
   exact absurd (of_decide_eq_true h) (Nat.not_lt_zero _)
  rw [e];exact List.Perm.refl _
 | k+1,h => by
  rw [allN_succ]
  refine ((allN_perm hok k (by omega)).append (scan_once hok (by omega))).trans ?_
  rw [← List.map_append]
  exact (filter_lt_succ (fun x:Nd => pos (scanA d) x.sum) k d.nodes).map _
theorem allL_perm {d:Dm} (hok:d.Ok):(allL d).Perm (d.nodes.map (·.key)):=by
 have h:=allN_perm hok _ (Nat.le_refl _)
 have hA:=scanA_le hok
 have e:d.nodes.filter (fun x => decide (pos (scanA d) x.sum<2 ^ scanA d))=d.nodes:=List.filter_eq_self.2 fun x _ => by simpa using pos_lt (by omega) x.sum
 rw [e] at h
 exact h
theorem allN_len {d:Dm} (hok:d.Ok) {k:Nat} (hk:k≤2 ^ scanA d):(allN d k).length≤d.n:=by
 rw [(allN_perm hok k hk).length_eq,List.length_map,hok.count]
 exact List.length_filter_le _ _
theorem scanC_cur {d:Dm} (hok:d.Ok) {k:Nat} (hk:k<2 ^ scanA d):scanC d (cur (scanA d) k)=curW (scanA d) (k+1):=by
 have hA:=scanA_le hok
 unfold scanC;rw [pos_cur (by omega) hk]
theorem curW_ne {a k:Nat} (ha:a≤32) (h0:0<k) (hk:k<2 ^ a):curW a k≠0:=by
 unfold curW
 rw [if_neg (by omega),← cur_zero a]
 intro e
 have:=cur_inj a ha hk Nat.one_le_two_pow e
 omega
theorem curW_eq {a k:Nat} (hk:k<2 ^ a):curW a k=cur a k:=by unfold curW;rw [if_neg (by omega)]
theorem curW_full (a:Nat):curW a (2 ^ a)=0:=by unfold curW;rw [if_pos rfl]
theorem all20 {P:Array Value→Prop} (h:∀ u0 u1 u2 u3 u4 u5 u6 u7 u8 u9 u10 u11 u12 u13 u14 u15 u16 u17 u18 u19:Value,P #[u0,u1,u2,u3,u4,u5,u6,u7,u8,u9,u10,u11,u12,u13,u14,u15,u16,u17,u18,u19]) (a:Array Value) (hs:a.size=20):P a:=by
 obtain ⟨l⟩:=a
 have g:l.length=20:=hs
 clear hs
 iterate 20 (obtain ⟨_,l2,e,g2⟩:=Pal.len_cons g;clear g;subst e;have g:=g2;clear g2)
 obtain rfl:=List.length_eq_zero_iff.1 g
 exact h _ _ _ _ _ _ _ _ _ _ _ _ _ _ _ _ _ _ _ _
def AllI (w0:World) (d:Dm) (n:Nat) (x:Act) (W:World):Prop :=
 ∃ k v,n=2 ^ scanA d - k∧k<2 ^ scanA d∧x.tmps.size=20∧x.tmps[0]?=some (.pointer (some ⟨d.blk,0,none⟩))∧x.tmps[3]?=some v∧x.tmps[4]?=some (.int .u32 ((cur (scanA d) k:Nat):Int))∧x.defers=[]∧Strs W w0.heap.size v (allN d k)∧Chg (fun _ => False) w0 W
set_option maxRecDepth 100000 in
set_option maxHeartbeats 1000000 in
theorem All_any (d:Dm) (w:World) (h:DmAt w d) (hok:d.Ok) (hn:d.n<1000000) :
  Calls Tryz.prog 38 #[ptr d.blk] w fun e w' => (∃ v,e=.returned v∧Strs w' w.heap.size v (allL d))∧Chg (fun _ => False) w w':=by
 obtain ⟨i0,hi0,hz0,hz1,hz2⟩:=info_parts str_info
 obtain ⟨hA2,hA⟩:=scanA_le hok
 have hp:1≤2 ^ scanA d:=Nat.one_le_two_pow
 have hsc:=fun c W (hC:Chg (fun _ => False) w W) (hc:c<4294967296) => Scan_i d c W (h.chg0 hC) hok hn hc
 unfold ptr at *
 go_enter Tryz.func38,Tryz.ntmps38
 go_wp2_with fail
 go_step3
 go_wp2_with fail
 go_step3
 go_wp2_with fail
 refine wp_loop_ghost (AllI w d) (2 ^ scanA d) ?_ ?_
 ·exact ⟨0,_,by omega,hp,rfl,rfl,rfl,by rw [cur_zero];rfl,rfl,Strs.nil _ _,Chg.refl _ _⟩
 ·rintro m ⟨tmps,ds⟩ W ⟨k,v,rfl,hk,hsz,t0,t3,t4,rfl,hv,hC⟩
  replace hsz:tmps.size=20:=hsz
  dsimp only at t0 t3 t4
  revert t0 t3 t4
  revert hsz
  revert tmps
  refine all20 ?_
  intro u0 u1 u2 u3 u4 u5 u6 u7 u8 u9 u10 u11 u12 u13 u14 u15 u16 u17 u18 u19 t0 t3 t4
  simp only [List.getElem?_toArray,List.getElem?_cons_zero,List.getElem?_cons_succ,Option.some.injEq] at t0 t3 t4
  subst t0 t3 t4
  have hsc1:=hsc (cur (scanA d) k) W hC (cur_lt32 _ _)
  rw [scanC_cur hok hk] at hsc1
  have hl1:=allN_len hok (k:=k+1) (by omega)
  rw [allN_succ,List.length_append] at hl1
  have HSU:=Lib.hid (allN_succ d k)
  go_wp2_with fail
  refine hsc1.mono ?_
  rintro e W2 ⟨⟨v2,rfl,hs2⟩,hC2⟩
  have hv2:=hv.chg hC2 (fun _ _ => id)
  obtain ⟨pa,ca,rfl,hpa⟩:=hs2.is
  have hA':(allN d k).length+(scanL d (cur (scanA d) k)).length≤maxLen:=by unfold maxLen;omega
  have hB:((allN d k).length+(scanL d (cur (scanA d) k)).length) * 16≤140737488355328:=by omega
  have hD:w.heap.size≤W2.heap.size:=Nat.le_trans hC.size hC2.size
  clear hsc hsc1
  by_cases hlast:k+1=2 ^ scanA d
  ·rw [hlast,curW_full]
   have HLA:=Lib.hid hlast
   clear hlast
   go_wp2_with (at_builtin;refine wpList_append_any _ rfl (.tmp 13) (.tmp 14) 38 rfl w.heap.size 9 i0 _ 1 16 Tryz.underlying38 hi0 hz0 hz1 hz2 rfl (by omega) _ _ _ rfl hv2.own W2.heap.size pa _ ca _ rfl hs2.reads (strs_one _) hA' hB hD ?_;intro v3 w3 hown3 hg3 hat3)
   rw [Exit.noGoto_ret]
   go_ret
   refine ⟨⟨_,rfl,?_⟩,(hC.trans hC2).trans' (app_chg hv2 hg3) fun g hg h' => by omega⟩
   unfold allL
   rw [← HLA.out]
   exact Strs.mk hown3 (by rw [HSU.out];simp) (by rw [HSU.out];simp)
  ·have hlt:k+1<2 ^ scanA d:=by omega
   have hne:=curW_ne (a:=scanA d) (by omega) (Nat.succ_pos k) hlt
   rw [curW_eq hlt] at hne ⊢
   have hne1:(((cur (scanA d) (k+1):Nat):Int) == 0)=false:=by rw [beq_eq_false_iff_ne];omega
   have HNE:=Lib.hid hne
   clear hlast hne
   go_wp2_with (at_builtin;refine wpList_append_any _ rfl (.tmp 13) (.tmp 14) 38 rfl w.heap.size 9 i0 _ 1 16 Tryz.underlying38 hi0 hz0 hz1 hz2 rfl (by omega) _ _ _ rfl hv2.own W2.heap.size pa _ ca _ rfl hs2.reads (strs_one _) hA' hB hD ?_;intro v3 w3 hown3 hg3 hat3)
   exact ⟨2 ^ scanA d - (k+1),by omega,k+1,_,rfl,hlt,rfl,rfl,rfl,rfl,rfl,Strs.mk hown3 (by rw [HSU.out];simp) (by rw [HSU.out];simp),(hC.trans hC2).trans' (app_chg hv2 hg3) fun g hg h' => by omega⟩
end Go.Proofs.YtehpmbmdadkhbaaGreatDoor.Dspaceitem

namespace Go.Proofs.YtehpmbmdadkhbaaGreatDoor.Dspaceitem
open Go.RowKit Pal
theorem mem_keys {d:Dm} {k:ByteArray}:k∈d.nodes.map (·.key) ↔ (d.look k).isSome=true:=by
 constructor
 ·intro h
  obtain ⟨x,hx,rfl⟩:=List.mem_map.1 h
  cases hl:d.look x.key with
  | none => exact absurd rfl (look_none.1 hl x hx)
  | some v => rfl
 ·intro h
  obtain ⟨v,hv⟩:=Option.isSome_iff_exists.1 h
  unfold Dm.look at hv
  rw [Option.map_eq_some_iff] at hv
  obtain ⟨x,h1,_⟩:=hv
  exact List.mem_map.2 ⟨x,List.mem_of_find?_eq_some h1,by simpa using List.find?_some h1⟩
end Go.Proofs.YtehpmbmdadkhbaaGreatDoor.Dspaceitem

namespace Go.Proofs.YtehpmbmdadkhbaaGreatDoor
open Go.RowKit Pal
attribute [local go_sem] Oper.semAt_some
section
variable {w:World} {base:Nat} {s:Spc}
theorem its_nodup (h:SpAt w base s):(s.its.map It.key).Nodup:=(List.pairwise_map.2 h.so:(s.its.map It.key).Pairwise ltB).imp fun h => ltK_ne h
theorem keys_its (h:SpAt w base s):(s.d.nodes.map (·.key)).Perm (s.its.map It.key):=by
 refine (List.perm_ext_iff_of_nodup h.ok.keys (its_nodup h)).2 fun k => ?_
 rw [Dspaceitem.mem_keys,h.look k,Option.isSome_map]
 constructor
 ·intro hk
  obtain ⟨i,hi⟩:=Option.isSome_iff_exists.1 hk
  obtain ⟨h1,rfl⟩:=(findK_some h.so).1 hi
  exact List.mem_map.2 ⟨i,h1,rfl⟩
 ·intro hk
  obtain ⟨i,hi,rfl⟩:=List.mem_map.1 hk
  rw [(findK_some h.so).2 ⟨hi,rfl⟩];rfl
set_option maxRecDepth 100000 in
theorem s_keys (h:SpAt w base s):Calls Tryz.prog 14 #[pt s.blk] w fun r w' => (∃ v,r=.returned v∧Strs w' w.heap.size v (s.its.map It.key))∧Chg (fun _ => False) w w':=by
 obtain ⟨_,_,_,_,c4,l0⟩:=h.cells
 have h5:=h.n
 have hall:=Dspaceitem.All_any s.d w h.dm h.ok (by rw [h.dn];omega)
 have hlen:(Dspaceitem.allL s.d).length<4611686018427387904:=by
  rw [((Dspaceitem.allL_perm h.ok).trans (keys_its h)).length_eq,List.length_map];omega
 have hsrt:=fun v W (hv:Strs W w.heap.size v (Dspaceitem.allL s.d)) => sort_any v _ w.heap.size W hv hlen
 have he:sortB (Dspaceitem.allL s.d)=s.its.map It.key:=sortK_of (List.pairwise_map.2 h.so) ((Dspaceitem.allL_perm h.ok).trans (keys_its h))
 rw [he] at hsrt
 unfold pt Dspaceitem.ptr at *
 clear h hlen he
 go_enter Tryz.func14,Tryz.ntmps14
 go_wp2_with (first
  | (go_at_call 38;refine hall.mono ?_;rintro r w1 ⟨⟨v,rfl,hv⟩,hC1⟩)
  | (go_at_call 39;refine (hsrt _ _ hv).mono ?_;rintro r w2 ⟨rfl,hv2,hg2⟩)
  | fail)
 go_ret
 exact ⟨⟨_,rfl,hv2⟩,hC1.trans' (app_chg hv.own hg2) fun g hg h2 => by omega⟩
end
end Go.Proofs.YtehpmbmdadkhbaaGreatDoor

namespace Go.Proofs.YtehpmbmdadkhbaaGreatDoor.Dint64
open Go.RowKit Pal
variable {w w':World}
theorem chAt.same:∀ {c:Ch},chAt w c→(∀ x∈c,w'.heap[x.blk]?=w.heap[x.blk]?)→chAt w' c
 | [],_,_ => trivial
 | x :: r,h,hF => ⟨(hF x (List.mem_cons_self)).trans h.1,chAt.same h.2 fun y hy => hF y (List.mem_cons_of_mem _ hy)⟩
theorem tbAt.same {t:Tb} (h:tbAt w t) (ht:w'.heap[t.blk]?=w.heap[t.blk]?) (hF:∀ x∈t.nodes,w'.heap[x.blk]?=w.heap[x.blk]?):tbAt w' t :=
 ⟨ht.trans h.1,fun c hc => (h.2 c hc).same fun x hx => hF x (List.mem_flatten.2 ⟨c,hc,hx⟩)⟩
theorem DmAt.same {d:Dm} (h:DmAt w d) (hS:∀ g,d.foot g→w'.heap[g]?=w.heap[g]?):DmAt w' d where
 hd:=(hS _ (.inl rfl)).trans h.hd
 a0:=h.a0.same (hS _ (.inr (.inl rfl))) fun x hx => hS _ (.inr (.inr (.inr ⟨x,by simp [Dm.nodes,hx],rfl⟩)))
 a1:=fun t ht => (h.a1 t ht).same (hS _ (.inr (.inr (.inl ⟨t,ht,rfl⟩)))) fun x hx => hS _ (.inr (.inr (.inr ⟨x,by simp [Dm.nodes,Dm.nodes1,ht,hx],rfl⟩)))
 ne:=h.ne
 nodup:=h.nodup
end Go.Proofs.YtehpmbmdadkhbaaGreatDoor.Dint64

namespace Go.Proofs.YtehpmbmdadkhbaaGreatDoor.Dspaceitem
open Go.RowKit Pal
variable {w w':World}
theorem chAt.same:∀ {c:Ch},chAt w c→(∀ x∈c,w'.heap[x.blk]?=w.heap[x.blk]?)→chAt w' c
 | [],_,_ => trivial
 | x :: r,h,hF => ⟨(hF x (List.mem_cons_self)).trans h.1,chAt.same h.2 fun y hy => hF y (List.mem_cons_of_mem _ hy)⟩
theorem tbAt.same {t:Tb} (h:tbAt w t) (ht:w'.heap[t.blk]?=w.heap[t.blk]?) (hF:∀ x∈t.nodes,w'.heap[x.blk]?=w.heap[x.blk]?):tbAt w' t :=
 ⟨ht.trans h.1,fun c hc => (h.2 c hc).same fun x hx => hF x (List.mem_flatten.2 ⟨c,hc,hx⟩)⟩
theorem DmAt.same {d:Dm} (h:DmAt w d) (hS:∀ g,d.foot g→w'.heap[g]?=w.heap[g]?):DmAt w' d where
 hd:=(hS _ (.inl rfl)).trans h.hd
 a0:=h.a0.same (hS _ (.inr (.inl rfl))) fun x hx => hS _ (.inr (.inr (.inr ⟨x,by simp [Dm.nodes,hx],rfl⟩)))
 a1:=fun t ht => (h.a1 t ht).same (hS _ (.inr (.inr (.inl ⟨t,ht,rfl⟩)))) fun x hx => hS _ (.inr (.inr (.inr ⟨x,by simp [Dm.nodes,Dm.nodes1,ht,hx],rfl⟩)))
 ne:=h.ne
 nodup:=h.nodup
end Go.Proofs.YtehpmbmdadkhbaaGreatDoor.Dspaceitem

namespace Go.Proofs.YtehpmbmdadkhbaaGreatDoor
open Go.RowKit Pal
variable {w w':World} {base:Nat}
theorem LsAt.same {x:Ls} {es:List En} (h:LsAt w base x es) (hF:∀ g,x.foot g→w'.heap[g]?=w.heap[g]?):LsAt w' base x es :=
 { h with b:=(hF _ (.inl rfl)).trans h.b,sk:=h.sk.same fun g hg => hF g (.inr (.inl hg)),dm:=h.dm.same fun g hg => hF g (.inr (.inr hg)) }
theorem FmAt.same {f:Fm} {es:List En} (h:FmAt w base f es) (hF:∀ g,f.foot g→w'.heap[g]?=w.heap[g]?):FmAt w' base f es:=by
 cases f with
 | p b => exact ⟨⟨(hF b rfl).trans h.1.b,h.1.ok⟩,h.2⟩
 | l x => exact LsAt.same h hF
theorem ZsAt.same {z:Zs} {es:List En} (h:ZsAt w base z es) (hF:∀ g,z.foot g→w'.heap[g]?=w.heap[g]?):ZsAt w' base z es :=
 { h with b:=(hF _ (.inl rfl)).trans h.b,f:=h.f.same fun g hg => hF g (.inr hg) }
theorem ItAt.same {E M:Nat} {i:It} (h:ItAt w base E M i) (hF:∀ g,i.foot g→w'.heap[g]?=w.heap[g]?):ItAt w' base E M i :=
 { h with b:=(hF _ (.inl rfl)).trans h.b,z:=h.z.same fun g hg => hF g (.inr hg) }
theorem SpAt.same {s:Spc} (h:SpAt w base s) (hF:∀ g,s.foot g→w'.heap[g]?=w.heap[g]?):SpAt w' base s :=
 { h with b:=(hF _ (.inl rfl)).trans h.b,dm:=h.dm.same fun g hg => hF g (.inr (.inl hg)),it:=fun i hi => (h.it i hi).same fun g hg => hF g (.inr (.inr ⟨i,hi,hg⟩)) }
end Go.Proofs.YtehpmbmdadkhbaaGreatDoor

namespace Pal
open Go Go.RowKit
structure IterSpec2 {α:Type} (P:Program) (gf:Nat) (lb:Array Value) (enc:α→Array Value) (F G:Nat→Prop) (It0:List α→World→Prop) (It:Nat→List α→World→Prop):Prop where
 cells:∀ r W k,It0 r W→F k→∃ cs t f,W.heap[k]?=some (Obj.cells cs t f)
 sub:∀ k,G k→F k
 far0:∀ r W W',It0 r W→Stay (fun k => ¬ F k) W W'→It0 r W'
 far:∀ n r W W' (B:Nat→Prop),(∀ k,B k→¬ F k∧k<n)→It n r W→Stay B W W'→It n r W'
 call:∀ (l:Nat) (B:Nat→Prop) (I:List α→World→Prop) (Ix:World→Prop),(∀ r W W',I r W→Chg G W W'→I r W')→(∀ W W',Ix W→Chg G W W'→Ix W') →
  ∀ c W,(∀ k,B k→¬ F k∧k<W.heap.size)→(∀ x r V,I (x :: r) V→It W.heap.size (x :: r) V→YieldAt Fence.wide 2 P l (enc x) V fun e W' => Stay B V W'∧((e=.returned (.bool true)∧I r W')∨(e=.returned (.bool false)∧Ix W'))) →
  I c W→It0 c W→Calls P gf (#[.func (.yield l) #[] #[]]++lb) W fun e W' => (∃ v,e=.returned v)∧((I [] W'∧It W.heap.size [] W')∨Ix W')
def rPost2 {α:Type} (B:Nat→Prop) (I:List α→World→Prop) (Ix:Code→World→Prop) (r:List α) (W:World):Exit→Act→World→Prop
 | .normal,_,W' => KeepsOthers W W'∧Stay B W W'∧I r W'
 | .ret,_,W' => KeepsOthers W W'∧Stay B W W'∧Ix .ret W'
 | .exit id,_,W' => KeepsOthers W W'∧Stay B W W'∧Ix (.exit id) W'
 | .goto t,_,W' => KeepsOthers W W'∧Stay B W W'∧Ix (.goto t) W'
 | .panic _,_,_ => False
 | .outgrown,_,_ => False
section
variable {P:Program} {α:Type}
theorem wp_range_it2 {g:Operand} {ps:Array Tmp} {assign body:Code} {Q:Exit→Act→World→Prop} {a:Act} {w:World} (gf:Nat) (lb:Array Value)
  (hg:a.eval g=.func (.func gf) #[] lb) (eg:Proofs.Enters P gf) {enc:α→Array Value} {F G:Nat→Prop} {It0:List α→World→Prop} {It:Nat→List α→World→Prop} (hit:IterSpec2 P gf lb enc F G It0 It) (hps:∀ x,(enc x).size=ps.size)
  (B:Nat→Prop) (hB:∀ k,B k→¬ F k∧k<w.heap.size)
  (I:List α→World→Prop) (hI:∀ r W W',I r W→Stay G W W'→I r W') (Ix:Code→World→Prop) (hIx:∀ c W W',Ix c W→Stay G W W'→Ix c W') (c:List α) (h0:I c w) (hit0:It0 c w) (a₁:α→Act)
  (hassign:∀ l x W (K:Act→World→Prop),K (a₁ x) W→assign.wpIn (Fence.wide.inRound l) 2 P (Exit.then K (fun _ _ _ => False)) { tmps:=(ps.zip (enc x)).foldl (fun t (p,v) => t.setIfInBounds p v) a.tmps,defers:=[] } W)
  (hbody:∀ l x r n W,I (x :: r) W→It n (x :: r) W→w.heap.size≤W.heap.size→body.wpIn (Fence.wide.inRound l) 2 P (rPost2 B I Ix r W) (a₁ x) W)
  (hdone:∀ D n W,w.heap.size≤D→I [] W→It n [] W→KeepsOthers w W→W.heap[D]?=some (.deferred (some []))→Q .normal { a with defers:={ target:=.collected D,args:=#[] } :: a.defers } W)
  (hstop:∀ D c W,w.heap.size≤D→Ix c W→KeepsOthers w W→W.heap[D]?=some (.deferred (some []))→c.wp P Q { a with defers:={ target:=.collected D,args:=#[] } :: a.defers } W) :
  (Code.rangeFunc g ps assign body).wp P Q a w:=by
 have hlF:∀ k,F k→k<w.heap.size:=fun k hk => by
  obtain ⟨cs,t,f,e⟩:=hit.cells _ _ k hit0 hk
  exact (Array.getElem?_eq_some_iff.1 e).1
 have keep:∀ {A B:World},KeepsOthers w A→Chg G A B→KeepsOthers w B:=fun hA hc =>
  ⟨Nat.le_trans hA.size hc.size,fun k o hk ho => hc.same (hA.same k o hk ho) fun hF => by
   obtain ⟨cs,t,f,e⟩:=hit.cells _ _ k hit0 (hit.sub k hF)
   rw [e] at hk;cases hk;cases ho⟩
 refine wp_range gf lb hg eg fun fn rec hrec => ?_
 obtain ⟨D,hD⟩:∃ D,w.heap.size=D:=⟨_,rfl⟩
 rw [hD]
 have hK1:KeepsOthers w ((w.alloc (.deferred (some []))).alloc (.loop (rec .ready none))):=(KeepsOthers.alloc w _).trans (KeepsOthers.alloc _ _)
 have hS1:∀ S,Stay S w ((w.alloc (.deferred (some []))).alloc (.loop (rec .ready none))):=fun S => (Stay.alloc S w _).trans (Stay.alloc S _ _)
 have hL1:((w.alloc (.deferred (some []))).alloc (.loop (rec .ready none))).heap[D+1]?=some (.loop (rec .ready none)):=by
  have:=World.alloc_heap_new (w.alloc (.deferred (some []))) (.loop (rec .ready none))
  rwa [World.size_alloc,hD] at this
 have hD1:((w.alloc (.deferred (some []))).alloc (.loop (rec .ready none))).heap[D]?=some (.deferred (some [])):=by
  rw [← hD]
  exact (Below.heap_alloc _ _ _ (by simp)).trans (World.alloc_heap_new _ _)
 have hIt1:=hit.far0 _ _ _ hit0 (hS1 _)
 have hI1:=hI _ _ _ h0 (hS1 _)
 have hB1:∀ k,B k→¬ F k∧k<((w.alloc (.deferred (some []))).alloc (.loop (rec .ready none))).heap.size:=fun k hk => ⟨(hB k hk).1,by have:=(hB k hk).2;simp;omega⟩
 generalize (w.alloc (.deferred (some []))).alloc (.loop (rec .ready none))=W1 at hK1 hS1 hL1 hD1 hIt1 hI1 hB1 ⊢
 refine (hit.call (D+1) B
  (fun r W => I r W∧W.heap[D+1]?=some (.loop (rec .ready none))∧W.heap[D]?=some (.deferred (some []))∧KeepsOthers w W)
  (fun W => ∃ c,Ix c W∧W.heap[D+1]?=some (.loop (rec .done (some c)))∧W.heap[D]?=some (.deferred (some []))∧KeepsOthers w W)
  ?_ ?_ c W1 hB1 ?_ ⟨hI1,hL1,hD1,hK1⟩ hIt1).mono ?_
 ·rintro r A B ⟨h1,h2,h3,h4⟩ hc
  exact ⟨hI _ _ _ h1 (.of_chg hc),hc.same h2 (fun h => by have:=hlF _ (hit.sub _ h);omega),hc.same h3 (fun h => by have:=hlF _ (hit.sub _ h);omega),keep h4 hc⟩
 ·rintro A B ⟨k,h1,h2,h3,h4⟩ hc
  exact ⟨k,hIx _ _ _ h1 (.of_chg hc),hc.same h2 (fun h => by have:=hlF _ (hit.sub _ h);omega),hc.same h3 (fun h => by have:=hlF _ (hit.sub _ h);omega),keep h4 hc⟩
 ·rintro x r W ⟨h1,h2,h3,h4⟩ hIt
  have hlt:D+1<W.heap.size:=(Array.getElem?_eq_some_iff.1 h2).1
  refine yield_body hrec h2 (hps x) (hassign _ x W) h2 ?_
  have hp:∀ S,Stay S W (W.putObj (D+1) (.loop (rec .busy none))):=fun S => .put h2 rfl _
  have hb:=hbody (D+1) x r _ _ (hI _ _ _ h1 (hp _)) (hit.far _ _ _ _ B hB1 hIt (hp _)) (Nat.le_trans h4.size (hp B).size)
  have g2:(W.putObj (D+1) (.loop (rec .busy none))).heap[D+1]?=some (.loop (rec .busy none)):=World.putObj_heap_same hlt
  have g3:(W.putObj (D+1) (.loop (rec .busy none))).heap[D]?=some (.deferred (some [])):=(World.putObj_heap_other (by omega)).trans h3
  have g4:KeepsOthers w (W.putObj (D+1) (.loop (rec .busy none))):=⟨by simpa using h4.size,fun k o hk ho => (World.putObj_heap_other (by have:=(Array.getElem?_eq_some_iff.1 hk).1;omega)).trans (h4.same k o hk ho)⟩
  generalize W.putObj (D+1) (.loop (rec .busy none))=V at hb hp g2 g3 g4
  have fin:∀ (st:Option Code) (k:LoopState) (V':World),KeepsOthers V V'→Stay B V V' →
    V'.heap[D+1]?=some (.loop (rec .busy none))∧Stay B W (V'.putObj (D+1) (.loop (rec k st)))∧Stay G V' (V'.putObj (D+1) (.loop (rec k st))) ∧
    (V'.putObj (D+1) (.loop (rec k st))).heap[D+1]?=some (.loop (rec k st))∧(V'.putObj (D+1) (.loop (rec k st))).heap[D]?=some (.deferred (some []))∧KeepsOthers w (V'.putObj (D+1) (.loop (rec k st))):=by
   intro st k V' hK hS
   have e:=hK.same _ _ g2 rfl
   have e3:=hK.same _ _ g3 rfl
   have e4:=g4.trans hK
   refine ⟨e,((hp B).trans hS).trans (.put e rfl _),.put e rfl _,World.putObj_heap_same (Array.getElem?_eq_some_iff.1 e).1,(World.putObj_heap_other (by omega)).trans e3,
    ⟨by simpa using e4.size,fun k o hk ho => (World.putObj_heap_other (by have:=(Array.getElem?_eq_some_iff.1 hk).1;omega)).trans (e4.same k o hk ho)⟩⟩
  refine wpIn_mono hb ?_
  rintro e a2 V' hq
  cases e with
  | normal =>
   obtain ⟨q1,q2,q3⟩:=hq
   obtain ⟨f1,f2,f4,f5,f6,f7⟩:=fin none .ready V' q1 q2
   exact ⟨f1,f2,.inl ⟨rfl,hI _ _ _ q3 f4,f5,f6,f7⟩⟩
  | ret =>
   obtain ⟨q1,q2,q3⟩:=hq
   obtain ⟨f1,f2,f4,f5,f6,f7⟩:=fin (some .ret) .done V' q1 q2
   exact ⟨f1,f2,.inr ⟨rfl,_,hIx _ _ _ q3 f4,f5,f6,f7⟩⟩
  | exit id =>
   obtain ⟨q1,q2,q3⟩:=hq
   obtain ⟨f1,f2,f4,f5,f6,f7⟩:=fin (some (.exit id)) .done V' q1 q2
   exact ⟨f1,f2,.inr ⟨rfl,_,hIx _ _ _ q3 f4,f5,f6,f7⟩⟩
  | goto t =>
   obtain ⟨q1,q2,q3⟩:=hq
   obtain ⟨f1,f2,f4,f5,f6,f7⟩:=fin (some (.goto t)) .done V' q1 q2
   exact ⟨f1,f2,.inr ⟨rfl,_,hIx _ _ _ q3 f4,f5,f6,f7⟩⟩
  | panic ch => exact hq.elim
  | outgrown => exact hq.elim
 ·rintro e W ⟨⟨v,rfl⟩,⟨⟨h1,h2,h3,h4⟩,hItE⟩ | ⟨k,h1,h2,h3,h4⟩⟩
  ·have g4:KeepsOthers w (W.putObj (D+1) (.loop (rec .exhausted none))):=⟨by simpa using h4.size,fun k o hk ho => (World.putObj_heap_other (by have:=(Array.getElem?_eq_some_iff.1 hk).1;omega)).trans (h4.same k o hk ho)⟩
   exact ⟨⟨_,rfl⟩,.inl ⟨h2,hdone D _ _ (Nat.le_of_eq hD) (hI _ _ _ h1 (.put h2 rfl _)) (hit.far _ _ _ _ B hB1 hItE (.put h2 rfl _)) g4 ((World.putObj_heap_other (by omega)).trans h3)⟩⟩
  ·have g4:KeepsOthers w (W.putObj (D+1) (.loop (rec .exhausted (some k)))):=⟨by simpa using h4.size,fun k o hk ho => (World.putObj_heap_other (by have:=(Array.getElem?_eq_some_iff.1 hk).1;omega)).trans (h4.same k o hk ho)⟩
   exact ⟨⟨_,rfl⟩,.inr ⟨k,h2,hstop D k _ (Nat.le_of_eq hD) (hIx _ _ _ h1 (.put h2 rfl _)) g4 ((World.putObj_heap_other (by omega)).trans h3)⟩⟩
end
end Pal

namespace Go.Proofs.YtehpmbmdadkhbaaGreatDoor
open Go.RowKit Pal
attribute [local go_sem] Oper.semAt_some
section
variable {w w':World} {base:Nat} {s:Spc}
theorem sp_get2 (h:SpAt w base s) (k:ByteArray) (hk:k.size≤9223372036854775807):Calls Tryz.prog 40 #[pt s.d.blk,.string k] w fun r w' => r=.returned (.tuple #[itV (findK It.key s.its k),.bool (findK It.key s.its k).isSome])∧∃ d',SpAt w' base { s with d:=d' }∧Chg s.d.foot w w'∧∀ g,d'.foot g→s.d.foot g:=by
 refine (Dspaceitem.Get_any s.d k w h.dm h.ok hk).mono ?_
 rintro r w' ⟨h1,h2,h3⟩
 obtain ⟨h4,h5,h6⟩:=Dspaceitem.Nx.step h.ok h2 h3
 refine ⟨?_,Dspaceitem.stepD s.d 1,h.dict h4 h.it h.dis h.so (fun k => by rw [h5,h.look]) (h6.trans h.dn) h.n (by rw [Dspaceitem.stepD_shape h.ok 1];exact Dspaceitem.bz_step h.bz _),h3,fun g hg => Dspaceitem.moveN_foot h.ok _ hg⟩
 have hv:itV (findK It.key s.its k)=(s.d.look k).getD (.pointer none)∧(findK It.key s.its k).isSome=(s.d.look k).isSome:=by
  rw [h.look k,Option.isSome_map];exact ⟨rfl,rfl⟩
 rw [hv.1,hv.2]
 rcases h1 with ⟨x,hx,rfl,rfl⟩ | ⟨hno,rfl⟩
 ·rw [Dspaceitem.look_of h.ok.keys hx];rfl
 ·rw [Dspaceitem.look_none.2 hno];rfl
theorem sp_ty (h:SpAt w base s) {g:Nat} (hg:s.foot g):∃ t cs,Blk w g t cs∧t≠9∧t≠30∧t≠3:=by
 rcases hg with rfl | hg | ⟨i,hi,hg⟩
 ·exact ⟨_,_,h.b,by decide,by decide,by decide⟩
 ·obtain ⟨t,cs,hb,ht⟩:=dmS_ty h.dm hg
  exact ⟨t,cs,hb,by rcases ht with rfl | rfl | rfl <;> decide,by rcases ht with rfl | rfl | rfl <;> decide,by rcases ht with rfl | rfl | rfl <;> decide⟩
 ·obtain ⟨t,cs,hb,ht⟩:=it_ty (h.it i hi) hg
  exact ⟨t,cs,hb,by rcases ht with rfl | rfl | rfl | rfl | rfl | rfl | rfl | rfl | rfl <;> decide,by rcases ht with rfl | rfl | rfl | rfl | rfl | rfl | rfl | rfl | rfl <;> decide,by rcases ht with rfl | rfl | rfl | rfl | rfl | rfl | rfl | rfl | rfl <;> decide⟩
theorem SpAt.stay {B:Nat→Prop} (h:SpAt w base s) (hs:Stay B w w') (hn:∀ g,s.foot g→¬ B g):SpAt w' base s:=h.same fun g hg => by
 obtain ⟨t,cs,hb,_⟩:=sp_ty h hg
 exact (hs.same g (hn g hg) _ _ _ hb).trans hb.symm
end
def itF (s:Spc) (a g:Nat):Prop:=g=a∨s.foot g
def itIt0 (s:Spc) (base a:Nat) (r:List It) (W:World):Prop:=SpAt W base s∧Blk W a 30 #[pt s.blk]∧r=s.its
def itIt (s:Spc) (base a:Nat) (_:Nat) (r:List It) (W:World):Prop:=(∃ d',SpAt W base { s with d:=d' }∧∀ g,d'.foot g→s.d.foot g)∧Blk W a 30 #[pt s.blk]∧∃ pre,pre++r=s.its
theorem itIt_foot {s:Spc} {d':Dspaceitem.Dm} (h:∀ g,d'.foot g→s.d.foot g):∀ g,Spc.foot { s with d:=d' } g→s.foot g:=fun g hg => hg.elim .inl fun hg => hg.elim (fun hg => .inr (.inl (h g hg))) fun hg => .inr (.inr hg)
set_option maxRecDepth 100000 in
set_option maxHeartbeats 4000000 in
theorem items1_any (s:Spc) (base a:Nat) (l:Nat) (B:Nat→Prop) (I:List It→World→Prop) (Ix:World→Prop) (hI:∀ r W W',I r W→Chg s.d.foot W W'→I r W')
  (w:World) (hB:∀ k,B k→¬ itF s a k∧k<w.heap.size)
  (hY:∀ x r W,I (x :: r) W→itIt s base a w.heap.size (x :: r) W→YieldAt Fence.wide 2 Tryz.prog l #[.string x.key,pt x.blk] W fun e W' => Stay B W W'∧((e=.returned (.bool true)∧I r W')∨(e=.returned (.bool false)∧Ix W')))
  (h0:I s.its w) (h:SpAt w base s) (hb:Blk w a 30 #[pt s.blk]) :
  Calls Tryz.prog 72 #[.func (.yield l) #[] #[],pt a] w fun e W' => (∃ u,e=.returned u)∧((I [] W'∧itIt s base a w.heap.size [] W')∨Ix W'):=by
 have b0:=hb.cell 0
 have l0:=hb.lt
 simp only [List.getElem?_toArray,List.getElem?_cons_zero] at b0
 have hks:=s_keys h
 have hn5:=h.n
 have hso:=h.so
 have hsz0:(s.its.map It.key).length=s.its.length:=List.length_map _
 unfold pt at hks hY b0 ⊢
 go_enter Tryz.func72,Tryz.ntmps72
 go_wp2_with fail
 go_step3
 go_wp2_with fail
 go_step3
 go_wp2_with (first
  | (go_at_call 14;refine hks.mono ?_;rintro r w1 ⟨⟨v,rfl,hv⟩,hC1⟩;obtain ⟨p,c,rfl,_,_,_⟩:=hv.is;rw [hsz0] at hv ⊢)
  | fail)
 have h1:=h.chg0 hC1
 have hb1:=hb.chg hC1 id
 have hI1:=hI _ _ _ h0 (hC1.mono fun _ _ h => h.elim)
 refine (wpIn_wide (n:=3)).1 ?_
 gi_loopg [10] s.its.length (fun m vi W => ∃ pre r,pre++r=s.its∧m=r.length∧vi=.int .i64 (pre.length:Int)∧I r W∧(∃ d',SpAt W base { s with d:=d' }∧∀ g,d'.foot g→s.d.foot g)∧Blk W a 30 #[.pointer (some ⟨s.blk,0,none⟩)]∧Strs W w.heap.size (.slice p s.its.length c) (s.its.map It.key))
 case atStart => exact ⟨[],s.its,rfl,rfl,rfl,hI1,⟨s.d,h1,fun _ h => h⟩,hb1,hv⟩
 case round =>
  clear h0 h hb b0 l0 hks h1 hb1 hI1 hv
  obtain ⟨pre,r,hpr,rfl,rfl,hIr,⟨d',hS,hdf⟩,hA,hv⟩:=hrel
  have hl2:pre.length+r.length=s.its.length:=by rw [← hpr,List.length_append]
  have HPR:=Lib.hid hpr
  have a0:=hA.cell 0
  have al:=hA.lt
  simp only [List.getElem?_toArray,List.getElem?_cons_zero] at a0
  cases r with
  | nil =>
   have hle:¬ (pre.length:Int)<(s.its.length:Int):=by rw [List.length_nil] at hl2;omega
   have HL2:=Lib.hid hl2
   clear hl2 hpr
   gi_wp2
   go_end0
   exact ⟨⟨_,rfl⟩,.inl ⟨hIr,⟨d',hS,hdf⟩,hA,pre,HPR.out⟩⟩
  | cons y r =>
   rw [List.length_cons] at hl2
   have hlt:(pre.length:Int)<(s.its.length:Int):=by omega
   have hym:y∈s.its:=by rw [← hpr];simp
   have hyk:(s.its.map It.key)[pre.length]?=some y.key:=by rw [List.getElem?_map,← hpr];simp
   obtain ⟨g,rfl,g1,g2,d0⟩:=hv.at_ (k:=pre.length) (by rw [hsz0];omega)
   rw [(List.getElem?_eq_some_iff.1 hyk).2] at d0
   obtain ⟨_,_,_,_,c4,cl⟩:=hS.cells
   have hk9:y.key.size≤9223372036854775807:=by have:=(hS.it y hym).k;omega
   have hg:=sp_get2 hS y.key hk9
   have hfy:findK It.key s.its y.key=some y:=(findK_some hso).2 ⟨hym,rfl⟩
   rw [hfy] at hg
   unfold itV pt at hg
   unfold pt at c4
   have hl4:(s.its.length:Int)≤500:=by omega
   have HL2:=Lib.hid hl2
   clear hl2 hpr hyk
   gi_wp2
   refine ⟨trivial,(callsIn_wide.2 hg).mono ?_⟩
   rintro r' W2 ⟨rfl,d2,hS2,hC2,hdf2⟩
   have hC2':Chg s.d.foot wr W2:=hC2.mono fun g _ hg => hdf g hg
   have hA2:=hA.chg hC2 fun hf => by
    obtain ⟨t,cs,hb,ht⟩:=dmS_ty hS.dm hf
    exact hb.ne_type hA (by rcases ht with rfl | rfl | rfl <;> decide) rfl
   have hv2:=Strs.chg hv hC2 fun q hq hf => by
    obtain ⟨t,cs,hb,ht⟩:=dmS_ty hS.dm hf
    exact hb.not_own hv.own (by rcases ht with rfl | rfl | rfl <;> decide) hq
   have hdf3:∀ g,d2.foot g→s.d.foot g:=fun g hg => hdf g (hdf2 g hg)
   obtain ⟨fn,tmps,assign,body,hy',hR⟩:=hY y r W2 (hI _ _ _ hIr hC2') ⟨⟨d2,hS2,hdf3⟩,hA2,pre,HPR.out⟩
   gi_wp2
   refine hR.mono ?_
   rintro e W3 ⟨hst,⟨rfl,hI3⟩ | ⟨rfl,hx3⟩⟩
   ·have hS3:=hS2.stay hst fun g hg hb => (hB g hb).1 (.inr (itIt_foot hdf3 g hg))
    have hA3:=hA2.stay hst fun hb => (hB a hb).1 (.inl rfl)
    have hv3:=Strs.stay hv2 hst fun q hq hb => by
     have h1:=(hB q hb).2
     have h2:=(World.ownsRow.lt hv2.own q hq).1
     omega
    clear hst
    gi_wp2
    gi_roundg r.length
    case rel => exact ⟨pre++[y],r,by rw [List.append_assoc];exact HPR.out,rfl,int_eq (by rw [List.length_append,List.length_cons,List.length_nil];omega),hI3,⟨d2,hS3,hdf3⟩,hA3,hv3⟩
    case measure => rw [List.length_cons];omega
   ·gi_wp2
    try rw [Exit.noGoto_ret]
    refine bodyPost_ret (results_none rfl _ _ _) rfl ?_
    exact ⟨⟨_,rfl⟩,.inr hx3⟩
theorem items_spec (s:Spc) (base a:Nat):IterSpec2 Tryz.prog 72 #[pt a] (fun x:It => #[.string x.key,pt x.blk]) (itF s a) s.d.foot (itIt0 s base a) (itIt s base a) where
 cells:=by
  rintro r W k ⟨hS,hB,_⟩ (rfl | hk)
  ·exact ⟨_,_,_,hB⟩
  ·obtain ⟨t,cs,hb,_⟩:=sp_ty hS hk
   exact ⟨_,_,_,hb⟩
 sub:=fun k hk => .inr (.inr (.inl hk))
 far0:=by
  rintro r W W' ⟨hS,hB,hr⟩ hs
  exact ⟨hS.stay hs fun g hg hn => hn (.inr hg),hB.stay hs fun hn => hn (.inl rfl),hr⟩
 far:=by
  rintro n r W W' B hB ⟨⟨d',hS,hdf⟩,hA,hp⟩ hs
  exact ⟨⟨d',hS.stay hs fun g hg hb => (hB g hb).1 (.inr (itIt_foot hdf g hg)),hdf⟩,hA.stay hs fun hb => (hB a hb).1 (.inl rfl),hp⟩
 call:=by
  rintro l B I Ix hI hIx c W hB hY h0 ⟨hS,hA,rfl⟩
  exact items1_any s base a l B I Ix hI W hB hY h0 hS hA
theorem items_any (b:Nat) (w:World):Calls Tryz.prog 47 #[pt b] w fun r w' => r=.returned (fnv 72 #[pt w.heap.size])∧w.alloc (.cells #[pt b] 30)=w':=by
 unfold pt fnv
 go_enter Tryz.func47,Tryz.ntmps47
 go_wp2
 go_ret
 exact ⟨rfl,rfl⟩
end Go.Proofs.YtehpmbmdadkhbaaGreatDoor
