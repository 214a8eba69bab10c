/- Texts joined for EvictNone: PKG, PKH, PKJ, PKI, SR, SKI, SKI2, SKD. -/
import Derived.Test.YtehpmbmdadkhbaaGreatDoorJEvictNonea
import Derived.Test.YtehpmbmdadkhbaaGreatDoorJEvictNoneb
import Derived.Test.YtehpmbmdadkhbaaGreatDoorJEvictNonec
import Derived.Deep.LoopGhost
set_option linter.unusedVariables false
set_option linter.unusedSimpArgs false

namespace Go.Proofs.YtehpmbmdadkhbaaGreatDoor
open Go.RowKit Pal
attribute [local go_sem] Oper.semAt_some
theorem spflat_get:∀ {l:List Sp} {k:Nat} {x:Sp},l[k]?=some x→(l.flatMap Sp.cells)[k * 4]?=some (.string x.en.m)∧(l.flatMap Sp.cells)[k * 4+1]?=some (.int .i64 x.en.s)∧(l.flatMap Sp.cells)[k * 4+2]?=some (.int .i64 (x.f:Int))∧(l.flatMap Sp.cells)[k * 4+3]?=some (.int .i64 (x.t:Int))
 | y :: l,0,x,h => by
  injection h with h
  subst h
  exact ⟨rfl,rfl,rfl,rfl⟩
 | y :: l,k+1,x,h => by
  have ih:=spflat_get (l:=l) (k:=k) (x:=x) (by simpa using h)
  have e:(y :: l).flatMap Sp.cells=.string y.en.m :: .int .i64 y.en.s :: .int .i64 (y.f:Int) :: .int .i64 (y.t:Int) :: l.flatMap Sp.cells:=rfl
  rw [e,show (k+1) * 4=k * 4+1+1+1+1 by omega]
  exact ih
theorem Spts.at_ {w:World} {base:Nat} {v:Value} {l:List Sp} (h:Spts w base v l) {k:Nat} {x:Sp} (hx:l[k]?=some x):∃ g c,v=.slice (some ⟨g,0,none⟩) l.length c∧base≤g∧g<w.heap.size∧w.cell? ⟨g,k * 4,none⟩=some (.string x.en.m)∧w.cell? ⟨g,k * 4+1,none⟩=some (.int .i64 x.en.s)∧w.cell? ⟨g,k * 4+2,none⟩=some (.int .i64 (x.f:Int))∧w.cell? ⟨g,k * 4+3,none⟩=some (.int .i64 (x.t:Int)):=by
 have hk:=(List.getElem?_eq_some_iff.1 hx).1
 rcases h.2 with ⟨_,h0⟩ | ⟨g,cap,cur,rfl,hb,hg,_⟩
 ·omega
 ·obtain ⟨a,b,c,d⟩:=spflat_get hx
  have key:∀ j u,(l.flatMap Sp.cells)[j]?=some u→w.cell? ⟨g,j,none⟩=some u:=fun j u hu => by
   have:=World.ownsRow.cells h (g:=g) rfl j u hu
   rwa [addr_add',Nat.zero_add] at this
  exact ⟨g,cap,rfl,hb,(Array.getElem?_eq_some_iff.1 hg).1,key _ _ a,key _ _ b,key _ _ c,key _ _ d⟩
theorem own_ne {w:World} {b b' z z' n n':Nat} {e e':TypeId} {v v':Value} {xs xs':List Value} (h:w.ownsRow b e z v n xs) (h':w.ownsRow b' e' z' v' n' xs') (hne:e≠e'):∀ g,v.ownBlock=some g→¬ v'.ownBlock=some g:=by
 intro g hg hg'
 rcases h.2 with ⟨rfl,_⟩ | ⟨g1,cap,cur,rfl,_,hh,_⟩
 ·cases hg
 ·rcases h'.2 with ⟨rfl,_⟩ | ⟨g2,cap',cur',rfl,_,hh',_⟩
  ·cases hg'
  ·injection hg with hg
   injection hg' with hg'
   have e1:g1=g:=hg
   have e2:g2=g:=hg'
   subst e1;subst e2
   rw [hh] at hh'
   injection hh' with hh'
   injection hh' with _ ht
   exact hne ht
theorem Spts.chg0 {w w':World} {base:Nat} {v:Value} {l:List Sp} (h:Spts w base v l) (hc:Chg (fun _ => False) w w'):Spts w' base v l:=own_stay h (.of_chg hc) fun _ _ => id
theorem right_any (es:List En) (hp:POk es) (w:World):Calls Tryz.prog 215 #[.string (pk es)] w fun r w' => r=.returned (.bool true)∧Chg (fun _ => False) w w':=by
 have hall:=fun w => all_any es hp w
 unfold AllPost at hall
 go_enter Tryz.func215,Tryz.ntmps215
 go_wp2_with (go_at_call 217;refine (hall _).mono ?_;rintro r w1 ⟨⟨v,rfl,hv⟩,hC⟩)
 go_ret
 exact ⟨rfl,hC⟩
def EntPost (es:List En) (w:World) (r:Ending) (w':World):Prop:=(∃ v,r=.returned (.tuple #[v,.int .i64 0])∧Ents w' w.heap.size v es)∧Chg (fun _ => False) w w'
set_option maxRecDepth 100000 in
set_option maxHeartbeats 1000000 in
theorem entries_any (es:List En) (hp:POk es) (w:World):Calls Tryz.prog 211 #[.string (pk es)] w (EntPost es w):=by
 have hall:=fun w => all_any es hp w
 have hlen:=hp.len
 have hspl:=sps_len es
 unfold AllPost at hall
 obtain ⟨i0,hi0,hz0,hz1,hz2⟩:=info_parts ent_info
 go_enter Tryz.func211,Tryz.ntmps211
 go_wp2_with (go_at_call 217;refine (hall _).mono ?_;rintro r w1 ⟨⟨v,rfl,hv⟩,hC⟩;obtain ⟨p,c,hve,hvc,hvm⟩:=spts_len hv;rw [hspl] at hve;subst hve)
 clear hall
 go_loopg [6,19] es.length (fun m x k W => ∃ i:Nat,k=.int .i64 (i:Int)∧m=es.length - i∧i≤es.length∧Ents W w.heap.size x (es.take i)∧Spts W w.heap.size (.slice p es.length c) (sps es)∧Chg (fun _ => False) w W)
 case atStart => exact ⟨0,rfl,rfl,Nat.zero_le _,Ents.nil _ _,hv,hC⟩
 case round =>
  clear hv hC
  obtain ⟨i,rfl,rfl,hi,hE,hS,hC⟩:=hrel
  have hlen':(es.length:Int)≤200:=by omega
  by_cases hlt:i<es.length
  ·have hlt':(i:Int)<(es.length:Int):=by omega
   have hgl:es[i]?=some es[i]:=List.getElem?_eq_getElem hlt
   obtain ⟨g,c',hse,hgb,hgl2,k0,k1,k2,k3⟩:=hS.at_ (sps_get hgl)
   rw [hspl] at hse
   injection hse with hse1 hse2 hse3
   subst hse1
   subst hse3
   have htk:es.take (i+1)=es.take i++[es[i]]:=by rw [List.take_add_one,hgl];rfl
   simp only at k0 k1 k2 k3
   obtain ⟨q,cq,hqe,hq1,hq2,_⟩:=hE.is
   have hml:(es.take i).length=i:=by rw [List.length_take];omega
   rw [hml] at hqe hq1
   subst hqe
   generalize es[i]=e at *
   have HT:=Lib.hid htk
   generalize offE es i=o1 at *
   generalize offE es (i+1)=o2 at *
   have hn2:i+1≤maxLen:=by unfold maxLen;omega
   have hn3:(i+1) * 24≤140737488355328:=by omega
   have hcA:Chg (fun _ => False) wr ((wr.alloc (.cells #[.string e.m,.int .i64 e.s,.int .i64 (o1:Int),.int .i64 (o2:Int)] 324)).alloc (.cells #[.string e.m,.int .i64 e.s] 68)):=((Chg.refl _ _).alloc _).alloc _
   have hr:Reads ((wr.alloc (.cells #[.string e.m,.int .i64 e.s,.int .i64 (o1:Int),.int .i64 (o2:Int)] 324)).alloc (.cells #[.string e.m,.int .i64 e.s] 68)) (wr.heap.size+2) 2 (some ⟨wr.heap.size+1,0,none⟩) 1 [.string e.m,.int .i64 e.s]:=by
    refine ⟨rfl,fun _ => ⟨_,rfl,Nat.lt_succ_self _,fun j u hu => ?_⟩⟩
    have hb:=(Blk.new (wr.alloc (.cells #[.string e.m,.int .i64 e.s,.int .i64 (o1:Int),.int .i64 (o2:Int)] 324)) 68 #[.string e.m,.int .i64 e.s]).cell j
    rw [World.size_alloc] at hb
    rw [addr_add',Nat.zero_add,hb]
    exact (List.getElem?_toArray (xs:=[Value.string e.m,.int .i64 e.s])).trans hu
   have hown0:=hE.chg0 hcA
   unfold Ents at hown0
   rw [hml] at hown0
   have hM1:w.heap.size≤((wr.alloc (.cells #[.string e.m,.int .i64 e.s,.int .i64 (o1:Int),.int .i64 (o2:Int)] 324)).alloc (.cells #[.string e.m,.int .i64 e.s] 68)).heap.size:=Nat.le_trans hC.size hcA.size
   have HM:=Lib.hid hml
   have HSL:=Lib.hid hspl
   clear hml htk hspl hgl
   go_wp2_with (at_builtin;(refine wpList_append_any _ rfl (.tmp 23) (.tmp 26) 64 rfl w.heap.size 68 i0 _ 2 24 Tryz.underlying64 hi0 hz0 hz1 hz2 rfl (by omega) _ i _ rfl hown0 _ _ 1 1 [.string e.m,.int .i64 e.s] rfl hr (ents_one [e]) hn2 hn3 hM1 ?_);intro v2 w2 hown2 hg2 _)
   have hC2:Chg (fun _ => False) w w2:=(hC.trans hcA).trans' (app_chg hown0 hg2) fun g hl h => by omega
   go_roundg (es.length - (i+1))
   case rel =>
    refine ⟨i+1,int_eq (by omega),rfl,by omega,?_,?_,hC2⟩
    ·rw [HT.out]
     exact Ents.mk hown2 (by rw [List.length_append,HM.out];rfl) (by rw [List.flatMap_append];rfl)
    ·have h8:=hS.chg0 hcA
     exact own_stay h8 (.of_chg (Chg.of_grown hg2 fun g h => h)) (own_ne h8 hown0 (by decide))
   case measure => omega
  ·obtain rfl:i=es.length:=by omega
   rw [List.take_length] at hE
   have hlt':¬ (es.length:Int)<(es.length:Int):=by omega
   clear hi hlt
   go_wp2_with fail
   go_ret2
   exact ⟨⟨_,rfl,hE⟩,hC⟩
end Go.Proofs.YtehpmbmdadkhbaaGreatDoor

namespace Go.Proofs.YtehpmbmdadkhbaaGreatDoor
open Go.RowKit Pal
attribute [local go_sem] Oper.semAt_some
theorem results_cell_tmp {P:Program} {w:World} {fn:Func} {p q:Tmp} {ty:TypeId} (h:fn.results=#[.cell p ty,.tmp q]) (tmps:Array Value) (g:Nat) (t:TypeId) (cs:Array Value) (d:TypeDesc)
  (hp:tmps.getD p undef=.pointer (some ⟨g,0,none⟩)) (hg:Blk w g t cs) (hu:P.underlying ty=some d) (hd:d.isRow=true) (hi:(P.info? ty).map (·.size)=some cs.size) :
  (results fn tmps).run P w=.ok (.tuple #[.agg cs,tmps.getD q undef]) w:=by
 have hp':tmps[p]?.getD undef=.pointer (some ⟨g,0,none⟩):=by simpa using hp
 have hr:(loadVar ty ⟨g,0,none⟩).run P w=.ok (.agg cs) w:=by
  have:=run_loadVar_mid w g 0 ty cs.toList d (fun j v hv => by rw [Nat.zero_add,hg.cell,← Array.getElem?_toList];exact hv) hu hd (by simpa using hi)
  simpa using this
 simp [results,h,hp',asAddr,hr,Sem.run_bind]
def spotZ:Array Value:=#[.string ⟨#[]⟩,.int .i64 0,.int .i64 0,.int .i64 0]
def entZ:Array Value:=#[.string ⟨#[]⟩,.int .i64 0]
set_option maxRecDepth 100000 in
theorem spotAt_yes (es:List En) (hp:POk es) (k:Nat) (e:En) (he:es[k]?=some e) (w:World):Calls Tryz.prog 212 #[.string (pk es),.int .i64 (k:Int)] w fun r w' => r=.returned (.tuple #[.agg #[.string e.m,.int .i64 e.s,.int .i64 (offE es k:Int),.int .i64 (offE es (k+1):Int)],.int .i64 0])∧Chg (fun _ => False) w w':=by
 have hall:=fun w => all_any es hp w
 have hlen:=hp.len
 have hspl:=sps_len es
 have hk:=(List.getElem?_eq_some_iff.1 he).1
 have hx:=sps_get he
 unfold AllPost at hall
 have h1:¬ (k:Int)<0:=by omega
 have h2:¬ (k:Int) ≥ (es.length:Int):=by omega
 have h3:(k:Int)<(es.length:Int):=by omega
 generalize offE es k=o1 at *
 generalize offE es (k+1)=o2 at *
 have HX:=Lib.hid hx
 clear he hx
 go_enter Tryz.func212,Tryz.ntmps212
 go_wp2_with (go_at_call 217;refine (hall _).mono ?_;rintro r w1 ⟨⟨v,rfl,hv⟩,hC⟩;obtain ⟨g,c,rfl,hgb,hgl,k0,k1,k2,k3⟩:=hv.at_ HX.out;rw [hspl];simp only at k0 k1 k2 k3;have hbz:=(Blk.new w 324 #[.string ⟨#[]⟩,.int .i64 0,.int .i64 0,.int .i64 0]).chg hC id;have z0:=hbz.cell 0;have z1:=hbz.cell 1;have z2:=hbz.cell 2;have z3:=hbz.cell 3;have zf:=hbz.frozen;have zl:=hbz.lt;simp only [List.getElem?_toArray,List.getElem?_cons_zero,List.getElem?_cons_succ] at z0 z1 z2 z3)
 have hb4:=(((hbz.set 0 (.string e.m)).set 1 (.int .i64 e.s)).set 2 (.int .i64 (o1:Int))).set 3 (.int .i64 (o2:Int))
 simp only [List.setIfInBounds_toArray,List.set_cons_zero,List.set_cons_succ] at hb4
 refine bodyPost_ret (results_cell_tmp rfl _ w.heap.size 324 _ _ rfl hb4 Tryz.underlying324 rfl (by kernel_rfl)) rfl ⟨rfl,?_⟩
 exact (((((((Chg.refl _ w).alloc _).trans hC).setCell (by simp) _).setCell (by simp) _).setCell (by simp) _).setCell (by simp) _)
set_option maxRecDepth 100000 in
theorem spotAt_no (es:List En) (hp:POk es) (i:Int) (hi:i<0∨(es.length:Int)≤i) (w:World):Calls Tryz.prog 212 #[.string (pk es),.int .i64 i] w fun r w' => r=.returned (.tuple #[.agg spotZ,.int .i64 2])∧Chg (fun _ => False) w w':=by
 have hall:=fun w => all_any es hp w
 have hlen:=hp.len
 have hspl:=sps_len es
 unfold AllPost at hall
 by_cases h1:i<0
 ·clear hi
  have d1:decide (i<0)=true:=decide_eq_true h1
  go_enter Tryz.func212,Tryz.ntmps212
  go_wp2_with (go_at_call 217;refine (hall _).mono ?_;rintro r w1 ⟨⟨v,rfl,hv⟩,hC⟩;have hbz:=(Blk.new w 324 spotZ).chg hC id;have z0:=hbz.cell 0;have z1:=hbz.cell 1;have z2:=hbz.cell 2;have z3:=hbz.cell 3;have zf:=hbz.frozen;have zl:=hbz.lt;simp only [spotZ,List.getElem?_toArray,List.getElem?_cons_zero,List.getElem?_cons_succ] at z0 z1 z2 z3)
  have hb4:=(((hbz.set 0 (.string ⟨#[]⟩)).set 1 (.int .i64 0)).set 2 (.int .i64 0)).set 3 (.int .i64 0)
  simp only [spotZ,List.setIfInBounds_toArray,List.set_cons_zero,List.set_cons_succ] at hb4
  refine bodyPost_ret (results_cell_tmp rfl _ w.heap.size 324 _ _ rfl hb4 Tryz.underlying324 rfl (by kernel_rfl)) rfl ⟨rfl,?_⟩
  exact (((((((Chg.refl _ w).alloc _).trans hC).setCell (by simp) _).setCell (by simp) _).setCell (by simp) _).setCell (by simp) _)
 ·have h2:(es.length:Int)≤i:=by omega
  obtain ⟨n,rfl⟩:∃ n:Nat,i=(n:Int):=⟨i.toNat,by omega⟩
  have h3:es.length≤n:=by omega
  clear hi
  have h4:(n:Int) ≥ (es.length:Int):=h2
  go_enter Tryz.func212,Tryz.ntmps212
  go_wp2_with (go_at_call 217;refine (hall _).mono ?_;rintro r w1 ⟨⟨v,rfl,hv⟩,hC⟩;obtain ⟨p,c,rfl,_,_⟩:=spts_len hv;rw [hspl];have hbz:=(Blk.new w 324 spotZ).chg hC id;have z0:=hbz.cell 0;have z1:=hbz.cell 1;have z2:=hbz.cell 2;have z3:=hbz.cell 3;have zf:=hbz.frozen;have zl:=hbz.lt;simp only [spotZ,List.getElem?_toArray,List.getElem?_cons_zero,List.getElem?_cons_succ] at z0 z1 z2 z3)
  have hb4:=(((hbz.set 0 (.string ⟨#[]⟩)).set 1 (.int .i64 0)).set 2 (.int .i64 0)).set 3 (.int .i64 0)
  simp only [spotZ,List.setIfInBounds_toArray,List.set_cons_zero,List.set_cons_succ] at hb4
  refine bodyPost_ret (results_cell_tmp rfl _ w.heap.size 324 _ _ rfl hb4 Tryz.underlying324 rfl (by kernel_rfl)) rfl ⟨rfl,?_⟩
  exact (((((((Chg.refl _ w).alloc _).trans hC).setCell (by simp) _).setCell (by simp) _).setCell (by simp) _).setCell (by simp) _)
set_option maxRecDepth 100000 in
theorem get_yes (es:List En) (hp:POk es) (k:Nat) (e:En) (he:es[k]?=some e) (w:World):Calls Tryz.prog 210 #[.string (pk es),.int .i64 (k:Int)] w fun r w' => r=.returned (.tuple #[e.val,.int .i64 0])∧Chg (fun _ => False) w w':=by
 have hsp:=fun w => spotAt_yes es hp k e he w
 generalize offE es k=o1 at *
 generalize offE es (k+1)=o2 at *
 clear he
 go_enter Tryz.func210,Tryz.ntmps210
 go_wp2_with (go_at_call 212;refine (hsp _).mono ?_;rintro r w1 ⟨rfl,hC⟩;have hbz:=(Blk.new w 68 entZ).chg hC id;have z0:=hbz.cell 0;have z1:=hbz.cell 1;have zf:=hbz.frozen;have zl:=hbz.lt;simp only [entZ,List.getElem?_toArray,List.getElem?_cons_zero,List.getElem?_cons_succ] at z0 z1)
 have hb4:=((hbz.set 0 (.string e.m)).set 1 (.int .i64 e.s)).alloc (.cells #[.string e.m,.int .i64 e.s,.int .i64 (o1:Int),.int .i64 (o2:Int)] 324)
 simp only [entZ,List.setIfInBounds_toArray,List.set_cons_zero,List.set_cons_succ] at hb4
 refine bodyPost_ret (results_cell_tmp rfl _ w.heap.size 68 _ _ rfl hb4 Tryz.underlying68 rfl (by kernel_rfl)) rfl ⟨rfl,?_⟩
 exact ((((((Chg.refl _ w).alloc _).trans hC).setCell (by simp) _).setCell (by simp) _).alloc _)
set_option maxRecDepth 100000 in
theorem get_no (es:List En) (hp:POk es) (i:Int) (hi:i<0∨(es.length:Int)≤i) (w:World):Calls Tryz.prog 210 #[.string (pk es),.int .i64 i] w fun r w' => r=.returned (.tuple #[.agg entZ,.int .i64 2])∧Chg (fun _ => False) w w':=by
 have hsp:=fun w => spotAt_no es hp i hi w
 unfold spotZ at hsp
 clear hi
 go_enter Tryz.func210,Tryz.ntmps210
 go_wp2_with (go_at_call 212;refine (hsp _).mono ?_;rintro r w1 ⟨rfl,hC⟩;have hbz:=(Blk.new w 68 entZ).chg hC id;have z0:=hbz.cell 0;have z1:=hbz.cell 1;have zf:=hbz.frozen;have zl:=hbz.lt;simp only [entZ,List.getElem?_toArray,List.getElem?_cons_zero,List.getElem?_cons_succ] at z0 z1)
 have hb4:=((hbz.set 0 (.string ⟨#[]⟩)).set 1 (.int .i64 0)).alloc (.cells #[.string ⟨#[]⟩,.int .i64 0,.int .i64 0,.int .i64 0] 324)
 simp only [entZ,List.setIfInBounds_toArray,List.set_cons_zero,List.set_cons_succ] at hb4
 refine bodyPost_ret (results_cell_tmp rfl _ w.heap.size 68 _ _ rfl hb4 Tryz.underlying68 rfl (by kernel_rfl)) rfl ⟨rfl,?_⟩
 exact ((((((Chg.refl _ w).alloc _).trans hC).setCell (by simp) _).setCell (by simp) _).alloc _)
theorem enc_take (es:List En) (k:Nat):((enc es).drop 2).take (offE es k - 2)=encs (es.take k):=by
 have e:(enc es).drop 2=encs es:=rfl
 rw [e]
 unfold offE
 rw [Nat.add_sub_cancel_left]
 have e2:encs es=encs (es.take k)++encs (es.drop k):=by rw [← encs_append,List.take_append_drop]
 rw [e2]
 exact List.take_left
theorem enc_drop (es:List En) (k:Nat):(enc es).drop (offE es k)=encs (es.drop k):=by
 have e:enc es=enc2 es.length++(encs (es.take k)++encs (es.drop k)):=by unfold enc;rw [← encs_append,List.take_append_drop]
 rw [e]
 unfold offE
 have h2:(enc2 es.length).length=2:=rfl
 rw [← List.drop_drop,show List.drop 2 (enc2 es.length++(encs (es.take k)++encs (es.drop k)))=encs (es.take k)++encs (es.drop k) from rfl]
 exact List.drop_left
theorem changed_del {es:List En} {k:Nat} (hk:k<es.length):changedL (pk es).data.toList (es.length - 1) (offE es k) (offE es (k+1)) []=enc (es.take k++es.drop (k+1)):=by
 unfold changedL
 rw [pk_toList,enc_take,enc_drop,List.nil_append,← encs_append]
 unfold enc
 have:(es.take k++es.drop (k+1)).length=es.length - 1:=by rw [List.length_append,List.length_take,List.length_drop];omega
 rw [this]
theorem changed_ins {es:List En} {k:Nat} (hk:k≤es.length) (x:En):changedL (pk es).data.toList (es.length+1) (offE es k) (offE es k) (encE x)=enc (es.take k++x :: es.drop k):=by
 unfold changedL
 rw [pk_toList,enc_take,enc_drop]
 unfold enc
 have:(es.take k++x :: es.drop k).length=es.length+1:=by rw [List.length_append,List.length_cons,List.length_take,List.length_drop];omega
 rw [this,encs_append]
 rfl
theorem offE_le (es:List En) (k:Nat):2≤offE es k∧offE es k≤(pk es).size:=by
 refine ⟨by unfold offE;omega,?_⟩
 rw [pk_size]
 unfold offE
 have:(encs es).length=(encs (es.take k)).length+(encs (es.drop k)).length:=by rw [← List.length_append,← encs_append,List.take_append_drop]
 omega
theorem encE_le {x:En} (h:EnOk x):(encE x).length≤1000:=by rw [encE_len];have:=h.1;omega
theorem changed_del_any (es:List En) (hp:POk es) (k:Nat) (hk:k<es.length) (w:World):Calls Tryz.prog 213 #[.string (pk es),.int .i64 ((es.length:Int) - 1),.int .i64 (offE es k:Int),.int .i64 (offE es (k+1):Int),.slice none 0 0] w fun r w' => r=.returned (.string (pk (es.take k++es.drop (k+1))))∧Chg (fun _ => False) w w':=by
 obtain ⟨e,he⟩:∃ e,es[k]?=some e:=⟨_,List.getElem?_eq_getElem hk⟩
 have hsz:=pk_le hp
 have hlen:=hp.len
 obtain ⟨a1,a2⟩:=offE_le es k
 obtain ⟨b1,b2⟩:=offE_le es (k+1)
 have hab:offE es k≤offE es (k+1):=by rw [offE_succ he];omega
 have hch:=changed_any (pk es) (es.length - 1) (offE es k) (offE es (k+1)) (.slice none 0 0) [] w (by omega) (by omega) a1 hab b2 (by simp) (BysR.nil w)
 rw [show ((es.length - 1:Nat):Int)=(es.length:Int) - 1 by omega] at hch
 exact hch.mono fun r w' ⟨h,hc⟩ => ⟨by rw [h,changed_del hk];rfl,hc⟩
theorem changed_ins_any (es:List En) (hp:POk es) (k:Nat) (hk:k≤es.length) (h200:es.length<200) (x:En) (hx:EnOk x) (v:Value) (w:World) (hv:BysR w v (encE x)):Calls Tryz.prog 213 #[.string (pk es),.int .i64 ((es.length:Int)+1),.int .i64 (offE es k:Int),.int .i64 (offE es k:Int),v] w fun r w' => r=.returned (.string (pk (es.take k++x :: es.drop k)))∧Chg (fun _ => False) w w':=by
 have hsz:=pk_le hp
 obtain ⟨a1,a2⟩:=offE_le es k
 have hch:=changed_any (pk es) (es.length+1) (offE es k) (offE es k) v (encE x) w (by omega) (by omega) a1 (Nat.le_refl _) a2 (encE_le hx) hv
 rw [show ((es.length+1:Nat):Int)=(es.length:Int)+1 by omega] at hch
 exact hch.mono fun r w' ⟨h,hc⟩ => ⟨by rw [h,changed_ins hk];rfl,hc⟩
end Go.Proofs.YtehpmbmdadkhbaaGreatDoor

namespace Go.Proofs.YtehpmbmdadkhbaaGreatDoor
open Go.RowKit Pal
attribute [local go_sem] Oper.semAt_some
def findI:List En→ByteArray→Nat→Int
 | [],_,_ => -1
 | e :: l,m,k => if e.m=m then (k:Int) else findI l m (k+1)
theorem findI_skip {m:ByteArray}:∀ {pre r:List En} {k:Nat},(∀ e∈pre,e.m≠m)→findI (pre++r) m k=findI r m (k+pre.length)
 | [],r,k,_ => by simp
 | e :: pre,r,k,h => by
  have ih:=findI_skip (m:=m) (pre:=pre) (r:=r) (k:=k+1) (fun x hx => h x (List.mem_cons_of_mem _ hx))
  show (if e.m=m then (k:Int) else findI (pre++r) m (k+1))=_
  rw [if_neg (h e List.mem_cons_self),ih,List.length_cons]
  congr 1;omega
structure FdI (es:List En) (m:ByteArray) (w0:World) (MB AB FB M:Nat) (r:List Sp) (W:World):Prop where
 ex:∃ pre,pre++r=sps es∧(∀ x∈pre,x.en.m≠m)∧Blk W AB 3 #[.int .i64 (pre.length:Int)]
 f:Blk W FB 3 #[.int .i64 (-1)]
 m:Blk W MB 9 #[.string m]
 st:Stay (fun _ => False) w0 W
 M:M≤W.heap.size
structure FdX (es:List En) (m:ByteArray) (w0:World) (FB:Nat) (c:Code) (W:World):Prop where
 c:c=.exit 0
 f:Blk W FB 3 #[.int .i64 (findI es m 0)]
 st:Stay (fun _ => False) w0 W
set_option maxRecDepth 100000 in
set_option maxHeartbeats 4000000 in
theorem find_any (es:List En) (hp:POk es) (m:ByteArray) (w:World):Calls Tryz.prog 206 #[.string (pk es),.string m] w fun r w' => r=.returned (.int .i64 (findI es m 0))∧Chg (fun _ => False) w w':=by
 have hrt:=fun w => right_any es hp w
 have hlen:=hp.len
 have hspl:=sps_len es
 refine calls_of_wp_marks Tryz.func206 rfl ?_
 simp only [Tryz.ntmps206,List.size_toArray,List.length_cons,List.length_nil,Nat.reduceAdd,Nat.reduceSub,Array.replicate_succ,Array.replicate_zero,List.push_toArray,List.append_toArray,List.nil_append,List.cons_append]
 go_wp2_with fail
 go_step3
 go_wp2_with (go_at_call 215;refine (hrt _).mono ?_;rintro e w1 ⟨rfl,hC1⟩)
 go_step3
 go_wp2_with (go_at_call 216;refine (spots_any _ _).mono ?_;rintro e w' ⟨rfl,rfl⟩)
 have hS1:Chg (fun _ => False) w w1:=((Chg.refl _ w).alloc _).trans hC1
 have hbm:=((((Blk.new w 9 #[.string m]).chg hC1 id).alloc (.cells #[.int .i64 0] 3)).alloc (.cells #[.int .i64 (-1)] 3)).alloc (.cells #[.string (pk es)] 9)
 have hb0:=((Blk.new w1 3 #[.int .i64 0]).alloc (.cells #[.int .i64 (-1)] 3)).alloc (.cells #[.string (pk es)] 9)
 have hb1:=(Blk.new (w1.alloc (.cells #[.int .i64 0] 3)) 3 #[.int .i64 (-1)]).alloc (.cells #[.string (pk es)] 9)
 have hb2:=Blk.new ((w1.alloc (.cells #[.int .i64 0] 3)).alloc (.cells #[.int .i64 (-1)] 3)) 9 #[.string (pk es)]
 have hS:Chg (fun _ => False) w (((w1.alloc (.cells #[.int .i64 0] 3)).alloc (.cells #[.int .i64 (-1)] 3)).alloc (.cells #[.string (pk es)] 9)):=((hS1.alloc _).alloc _).alloc _
 have hsw:(((w1.alloc (.cells #[.int .i64 0] 3)).alloc (.cells #[.int .i64 (-1)] 3)).alloc (.cells #[.string (pk es)] 9)).heap.size=w1.heap.size+3:=by simp
 have hmw:w.heap.size<w1.heap.size:=by have:=hC1.size;simp at this;omega
 simp only [World.size_alloc] at hb0 hb1 hb2 ⊢
 generalize ((w1.alloc (.cells #[.int .i64 0] 3)).alloc (.cells #[.int .i64 (-1)] 3)).alloc (.cells #[.string (pk es)] 9)=W0 at hbm hb0 hb1 hb2 hS hsw ⊢
 clear hC1 hS1
 generalize w1.heap.size=A at *
 have heq:=fun (x:Sp) W => eq_entry x.en ⟨m,x.en.s⟩ W
 refine wp_range_al 220 #[pt (A+1+1)] rfl (enters_of Tryz.func220 (by kernel_rfl) rfl) (spots_spec es hp (A+1+1)) (fun _ => rfl)
  (FdI es m w w.heap.size A (A+1) (A+3)) ?_ (FdX es m w (A+1)) ?_ (sps es) ?_ ?_ (fun x => .cells #[.string x.en.m,.int .i64 x.en.s,.int .i64 (x.f:Int),.int .i64 (x.t:Int)] 324) _ (fun l x W g hg K hK => by simp only [Sp.val,Sp.cells];gi_wp2;exact hK) ?_ ?_ ?_
 ·rintro r W W' ⟨⟨pre,h1,h2,h3⟩,h4,h5,h6,h7⟩ hs
  exact ⟨⟨pre,h1,h2,h3.stay hs id⟩,h4.stay hs id,h5.stay hs id,h6.trans' hs fun g hg h' => h',Nat.le_trans h7 hs.size⟩
 ·rintro c W W' ⟨h1,h2,h3⟩ hs
  exact ⟨h1,h2.stay hs id,h3.trans' hs fun g hg h' => h'⟩
 ·exact ⟨⟨[],rfl,(fun _ h => by cases h),hb0⟩,hb1,hbm,.of_chg hS,by omega⟩
 ·exact ⟨hb2,rfl⟩
 ·rintro l x r W g ⟨⟨pre,h1,h2,h3⟩,h4,h5,h6,h7⟩ ⟨hB,_⟩ hle hg _
  have hB:Blk W (A+1+1) 9 #[.string (pk es)]:=hB
  have hgb:Blk W g 324 #[.string x.en.m,.int .i64 x.en.s,.int .i64 (x.f:Int),.int .i64 (x.t:Int)]:=hg
  have hpl:pre.length<es.length∧pre.length≤200:=by
   have:pre.length<(sps es).length:=by rw [← h1];simp
   rw [hspl] at this;omega
  obtain ⟨hpl,hpl2⟩:=hpl
  have heqx:=heq x
  have a0:=h3.cell 0
  have af:=h3.frozen 0
  have f0:=h4.cell 0
  have ff:=h4.frozen 0
  have m0:=h5.cell 0
  have g0:=hgb.cell 0
  have g1:=hgb.cell 1
  simp only [List.getElem?_toArray,List.getElem?_cons_zero,List.getElem?_cons_succ] at a0 f0 m0 g0 g1
  have l0:=h3.lt
  have l1:=h4.lt
  have l2:=hgb.lt
  have l3:=h5.lt
  have pl:(pre.length:Int)≤200:=by omega
  have hfind:findI es m 0=if x.en.m=m then (pre.length:Int) else findI (r.map (·.en)) m (pre.length+1):=by
   have:es=(pre.map (·.en))++(x.en :: r.map (·.en)):=by
    rw [← sps_en es,← h1,List.map_append,List.map_cons]
   rw [this,findI_skip (fun e he => by obtain ⟨y,hy,rfl⟩:=List.mem_map.1 he;exact h2 y hy),List.length_map,Nat.zero_add]
   rfl
  have H1:=Lib.hid h1
  have HF:=Lib.hid hfind
  clear h1 hfind hsw hspl hlen hb0 hb1 hb2 hbm hS heq hrt hpl hpl2 hg
  by_cases hxm:x.en.m=m
  ·have hd:decide (x.en=⟨m,x.en.s⟩)=true:=decide_eq_true (by rw [← hxm])
   simp only [hd] at heqx
   have hxv:Hid (x.en.m=m):=hxm
   clear hd hxm
   gi_wp2_with fail
   have a3:Chg (fun k => k=A+1) W ((W.setCell ⟨A+1,0,none⟩ (.int .i64 (pre.length:Int))).alloc (.cells #[.string m,.int .i64 x.en.s] 68)):=((Chg.refl (fun k => k=A+1) W).store rfl 0 _).alloc _
   refine ⟨(KeepsOthers.setCell _ _ _).trans (KeepsOthers.alloc _ _),fun k hk => a3.block k (by have hk:k=A+1+1:=hk;subst hk;exact hB.lt) (by have hk:k=A+1+1:=hk;omega),⟨rfl,?_,h6.trans' (.of_chg a3) (fun g hg h' => by omega)⟩⟩
   have hf:=HF.out
   rw [if_pos hxv.out] at hf
   rw [hf]
   exact (h4.set 0 _).alloc _
  ·have hd:decide (x.en=⟨m,x.en.s⟩)=false:=decide_eq_false (fun e => hxm (congrArg En.m e))
   simp only [hd] at heqx
   gi_wp2_with fail
   have a3:Chg (fun k => k=A) W ((W.setCell ⟨A,0,none⟩ (.int .i64 ((pre.length:Int)+1))).alloc (.cells #[.string m,.int .i64 x.en.s] 68)):=((Chg.refl (fun k => k=A) W).store rfl 0 _).alloc _
   refine ⟨(KeepsOthers.setCell _ _ _).trans (KeepsOthers.alloc _ _),fun k hk => a3.block k (by have hk:k=A+1+1:=hk;subst hk;exact hB.lt) (by have hk:k=A+1+1:=hk;omega),⟨⟨pre++[x],by rw [← H1.out];simp,fun y hy => ?_,?_⟩,(h4.far (p:=⟨A,0,none⟩) (by simp) _).alloc _,(h5.far (p:=⟨A,0,none⟩) (by simp;omega) _).alloc _,h6.trans' (.of_chg a3) (fun g hg h' => by omega),Nat.le_trans h7 a3.size⟩⟩
   ·rcases List.mem_append.1 hy with hy | hy
    ·exact h2 y hy
    ·rw [List.mem_singleton] at hy;rw [hy];exact hxm
   ·rw [show ((pre++[x]).length:Int)=(pre.length:Int)+1 by simp]
    exact (h3.set 0 _).alloc _
 ·rintro D W hD ⟨⟨pre,h1,h2,h3⟩,h4,h5,h6,h7⟩ hO hDd
  have hC:Chg (fun _ => False) w W:=.of_stay h6 ((KeepsOthers.of_chg0 hS).trans hO)
  have hwD:w.heap.size≤D:=Nat.le_trans hS.size hD
  have hf:findI es m 0=-1:=by
   rw [List.append_nil] at h1
   have e:es=pre.map (·.en)++[]:=by rw [List.append_nil,h1,sps_en]
   rw [e,findI_skip (fun e he => by obtain ⟨y,hy,rfl⟩:=List.mem_map.1 he;exact h2 y hy)]
   rfl
  have f0:=h4.cell 0
  simp only [List.getElem?_toArray,List.getElem?_cons_zero] at f0
  have l0:=h4.lt
  have HF:=Lib.hid hf
  clear hf h1 h2 h3 hb0 hb1 hb2 hbm hsw heq hrt hlen hspl
  go_wp2_with fail
  rw [Exit.noGoto_ret]
  exact bodyPostM_ret (D:=D) rfl hDd (results_tmp rfl _ _ _) ⟨by rw [HF.out];rfl,hC.put (by omega) _⟩
 ·rintro D c W hD ⟨rfl,h2,h3⟩ hO hDd
  have hC:Chg (fun _ => False) w W:=.of_stay h3 ((KeepsOthers.of_chg0 hS).trans hO)
  have hwD:w.heap.size≤D:=Nat.le_trans hS.size hD
  have f0:=h2.cell 0
  simp only [List.getElem?_toArray,List.getElem?_cons_zero] at f0
  have l0:=h2.lt
  clear hb0 hb1 hb2 hbm hsw heq hrt hlen hspl
  go_wp2_with fail
  rw [Exit.noGoto_ret]
  exact bodyPostM_ret (D:=D) rfl hDd (results_tmp rfl _ _ _) ⟨rfl,hC.put (by omega) _⟩
end Go.Proofs.YtehpmbmdadkhbaaGreatDoor

namespace Go.Proofs.YtehpmbmdadkhbaaGreatDoor
open Go.RowKit Pal
attribute [local go_sem] Oper.semAt_some
set_option maxRecDepth 100000 in
set_option maxHeartbeats 1000000 in
theorem delete_pk (es:List En) (hp:POk es) (k:Nat) (hk:k<es.length) (w:World):Calls Tryz.prog 205 #[.string (pk es),.int .i64 (k:Int)] w fun r w' => r=.returned (.tuple #[.string (pk (es.take k++es.drop (k+1))),.int .i64 0])∧Chg (fun _ => False) w w':=by
 obtain ⟨e,he⟩:∃ e,es[k]?=some e:=⟨_,List.getElem?_eq_getElem hk⟩
 have hsp:=fun w => spotAt_yes es hp k e he w
 have hcnt:=fun w => count_any es hp w
 have hsz:=pk_le hp
 have hlen:=hp.len
 obtain ⟨a1,a2⟩:=offE_le es k
 obtain ⟨b1,b2⟩:=offE_le es (k+1)
 have hch:=fun w => changed_del_any es hp k hk w
 generalize pk (es.take k++es.drop (k+1))=q at *
 have hl1:1≤(es.length:Int):=by omega
 have hl2:(es.length:Int)≤200:=by omega
 generalize offE es k=o1 at *
 generalize offE es (k+1)=o2 at *
 clear he a1 a2 b1 b2
 go_enter Tryz.func205,Tryz.ntmps205
 go_wp2_with (go_at_call 212;refine (hsp _).mono ?_;rintro r w1 ⟨rfl,hC⟩)
 have hbz:=Blk.new w1 324 #[.string e.m,.int .i64 e.s,.int .i64 (o1:Int),.int .i64 (o2:Int)]
 have hC1:Chg (fun _ => False) w (w1.alloc (.cells #[.string e.m,.int .i64 e.s,.int .i64 (o1:Int),.int .i64 (o2:Int)] 324)):=hC.alloc _
 generalize w1.alloc (.cells #[.string e.m,.int .i64 e.s,.int .i64 (o1:Int),.int .i64 (o2:Int)] 324)=w2 at hbz hC1 ⊢
 generalize w1.heap.size=B at hbz ⊢
 have hgen:∀ W',Chg (fun _ => False) w2 W'→W'.cell? ⟨B,2,none⟩=some (.int .i64 (o1:Int))∧W'.cell? ⟨B,3,none⟩=some (.int .i64 (o2:Int)):=fun W' hc => ⟨(hbz.chg hc id).cell 2,(hbz.chg hc id).cell 3⟩
 have hw:IntKind.i64.wrap ((es.length:Int) - 1)=(es.length:Int) - 1:=IntWalk.i64_in _ (by omega)
 clear hl1 hl2 hsz hlen
 go_region_held3 (fun W' => W'.cell? ⟨B,2,none⟩=some (.int .i64 (o1:Int))∧W'.cell? ⟨B,3,none⟩=some (.int .i64 (o2:Int))) (first | exact hgen _ (Chg.refl _ _).drew | exact hgen _ hc5 | exact hgen _ (hc5.trans hc6) | fail) (first | (go_at_call 214;refine (hcnt _).mono ?_;rintro r w5 ⟨rfl,hc5'⟩;have hc5:Chg (fun _ => False) w2 w5:=(Chg.refl _ _).drew.trans hc5') | (go_at_call 213;refine (hch _).mono ?_;rintro r w6 ⟨rfl,hc6⟩) | fail)
 go_wp2_with fail
 go_ret2
 exact ⟨rfl,hC1.trans (hc5.trans hc6)⟩
set_option maxRecDepth 100000 in
set_option maxHeartbeats 1000000 in
theorem insert_pk (es:List En) (hp:POk es) (k:Nat) (hk:k≤es.length) (h200:es.length<200) (x:En) (hx:EnOk x) (w:World):Calls Tryz.prog 209 #[.string (pk es),.int .i64 (k:Int),x.val] w fun r w' => r=.returned (.tuple #[.string (pk (es.take k++x :: es.drop k)),.int .i64 0])∧Chg (fun _ => False) w w':=by
 have hall:=fun w => all_any es hp w
 unfold AllPost at hall
 have hspl:=sps_len es
 have hsz:=pk_le hp
 have hent:=fun w => entry_any x hx w
 have hch:=fun v w hv => changed_ins_any es hp k hk h200 x hx v w hv
 have hxm:=hx.1
 have hn0:¬ (k:Int)<0:=by omega
 have hn1:¬ (k:Int) > (es.length:Int):=by omega
 have hn2:¬ (x.m.size:Int) > 64:=by omega
 have hn3:((es.length:Int) == 200)=false:=by rw [beq_eq_false_iff_ne];omega
 have hw:IntKind.i64.wrap ((es.length:Int)+1)=(es.length:Int)+1:=IntWalk.i64_in _ (by omega)
 have hl2:(es.length:Int)≤200:=by omega
 unfold En.val at hent ⊢
 by_cases hkl:k<es.length
 ·have hk2:(k:Int)<(es.length:Int):=by omega
  obtain ⟨e,he⟩:∃ e,es[k]?=some e:=⟨_,List.getElem?_eq_getElem hkl⟩
  have HX:=Lib.hid (sps_get he)
  generalize pk (es.take k++x :: es.drop k)=q at *
  generalize offE es k=o1 at *
  clear hp hk hx hxm hsz he
  go_enter Tryz.func209,Tryz.ntmps209
  go_wp2_with (first | (go_at_call 217;refine (hall _).mono ?_;rintro r w1 ⟨⟨v,rfl,hv⟩,hC⟩;obtain ⟨g,c,rfl,hgb,hgl,k0,k1,k2,k3⟩:=hv.at_ HX.out;rw [hspl];simp only at k0 k1 k2 k3;have hbe:=(Blk.new w 68 #[.string x.m,.int .i64 x.s]).chg hC id;have e0:=hbe.cell 0;have e1:=hbe.cell 1;have el:=hbe.lt;simp only [List.getElem?_toArray,List.getElem?_cons_zero,List.getElem?_cons_succ] at e0 e1) | (go_at_call 218;refine (hent _).mono ?_;rintro r w2 ⟨rfl,hb2,hC2⟩) | (go_at_call 213;refine (hch _ _ (BysR.of_blk hb2 (by rw [encE_len]) _)).mono ?_;rintro r w3 ⟨rfl,hC3⟩) | fail)
  go_ret2
  exact ⟨rfl,(((Chg.refl _ w).alloc _).trans hC).trans (hC2.trans hC3)⟩
 ·obtain rfl:k=es.length:=by omega
  have ho:=offE_end es
  have hk2:¬ (es.length:Int)<(es.length:Int):=by omega
  rw [ho] at hch
  generalize pk (es.take es.length++x :: es.drop es.length)=q at *
  replace ho:=Lib.hid ho
  clear hp hk hx hxm hsz hkl hn1
  go_enter Tryz.func209,Tryz.ntmps209
  go_wp2_with (first | (go_at_call 217;refine (hall _).mono ?_;rintro r w1 ⟨⟨v,rfl,hv⟩,hC⟩;obtain ⟨p,c,rfl,_,_⟩:=spts_len hv;rw [hspl];have hbe:=(Blk.new w 68 #[.string x.m,.int .i64 x.s]).chg hC id;have e0:=hbe.cell 0;have e1:=hbe.cell 1;have el:=hbe.lt;simp only [List.getElem?_toArray,List.getElem?_cons_zero,List.getElem?_cons_succ] at e0 e1) | (go_at_call 218;refine (hent _).mono ?_;rintro r w2 ⟨rfl,hb2,hC2⟩) | (go_at_call 213;refine (hch _ _ (BysR.of_blk hb2 (by rw [encE_len]) _)).mono ?_;rintro r w3 ⟨rfl,hC3⟩) | fail)
  go_ret2
  exact ⟨rfl,(((Chg.refl _ w).alloc _).trans hC).trans (hC2.trans hC3)⟩
end Go.Proofs.YtehpmbmdadkhbaaGreatDoor

namespace Go.Proofs.YtehpmbmdadkhbaaGreatDoor
open Go.RowKit Pal
attribute [local go_sem] Oper.semAt_some
set_option maxRecDepth 100000 in
theorem search_any (gf:Nat) (lb:Array Value) (n k:Nat) (p:Nat→Bool) (w:World) (eg:∀ args w,(callFunc gf args).run Tryz.prog w=.ok (.enter gf args) w) (hn:n≤1000000) (hk:k≤n)
  (h1:∀ t,t<k→p t=false) (h2:∀ t,k≤t→t<n→p t=true)
  (hf:∀ (i:Nat) W,i<n→Chg (fun _ => False) w W→Calls Tryz.prog gf (#[.int .i64 (i:Int)]++lb) W fun e W' => e=.returned (.bool (p i))∧Chg (fun _ => False) W W') :
  Calls Tryz.prog 207 #[.int .i64 (n:Int),fnv gf lb] w fun r w' => r=.returned (.int .i64 (k:Int))∧Chg (fun _ => False) w w':=by
 have hn':(n:Int)≤1000000:=by omega
 have HF:=Lib.hid hf
 have H1:=Lib.hid h1
 have H2:=Lib.hid h2
 clear hf h1 h2
 unfold fnv
 go_enter Tryz.func207,Tryz.ntmps207
 go_wp2_with fail
 go_loopg [5,6] n (fun m a b W => ∃ lo hi:Nat,a=.int .i64 (lo:Int)∧b=.int .i64 (hi:Int)∧m=hi - lo∧lo≤k∧k≤hi∧hi≤n∧Chg (fun _ => False) w W)
 case atStart => exact ⟨0,n,rfl,rfl,rfl,Nat.zero_le _,hk,Nat.le_refl _,Chg.refl _ _⟩
 case round =>
  obtain ⟨lo,hi,rfl,rfl,rfl,hl,hh,hin,hC⟩:=hrel
  by_cases hlt:lo<hi
  ·have hlt':(lo:Int)<(hi:Int):=by omega
   have hc:=HF.out ((lo+hi) / 2) wr (by omega) hC
   rw [show (((lo+hi) / 2:Nat):Int)=((lo:Int)+(hi:Int)) / 2 by omega] at hc
   have b1:(lo:Int)+(hi:Int)≤2000000:=by omega
   have b2:(hi:Int)≤1000000:=by omega
   cases hp:p ((lo+hi) / 2) with
   | false =>
    rw [hp] at hc
    have hkm:(lo+hi) / 2<k:=by
     rcases Nat.lt_or_ge ((lo+hi) / 2) k with h | h
     ·exact h
     ·have:=H2.out _ h (by omega);rw [hp] at this;cases this
    replace hp:=Lib.hid hp
    go_wp2_with (go_at_fn gf;refine hc.mono ?_;rintro e w' ⟨rfl,hC2⟩)
    go_roundg (hi - ((lo+hi) / 2+1))
    case measure => omega
    case rel => exact ⟨(lo+hi) / 2+1,hi,int_eq (by omega),rfl,rfl,by omega,hh,hin,hC.trans hC2⟩
   | true =>
    rw [hp] at hc
    have hkm:k≤(lo+hi) / 2:=by
     rcases Nat.lt_or_ge ((lo+hi) / 2) k with h | h
     ·have:=H1.out _ h;rw [hp] at this;cases this
     ·exact h
    replace hp:=Lib.hid hp
    go_wp2_with (go_at_fn gf;refine hc.mono ?_;rintro e w' ⟨rfl,hC2⟩)
    go_roundg ((lo+hi) / 2 - lo)
    case measure => omega
    case rel => exact ⟨lo,(lo+hi) / 2,rfl,int_eq (by omega),rfl,hl,by omega,by omega,hC.trans hC2⟩
  ·obtain rfl:lo=k:=by omega
   obtain rfl:hi=lo:=by omega
   clear hlt
   go_wp2_with fail
   go_ret
   exact ⟨rfl,hC⟩
theorem within3_any (i j:Int) (n:Nat) (w:World) (hn:n≤1000000):Calls Tryz.prog 203 #[.int .i64 i,.int .i64 j,.int .i64 (n:Int)] w fun r w' => r=.returned (.tuple #[.int .i64 (clampN n i:Int),.int .i64 ((max (clampN n i) (clampN n j):Nat):Int)])∧w=w':=by
 go_enter Tryz.func203,Tryz.ntmps203
 go_wp2_with fail
 go_ret2
 refine ⟨?_,rfl⟩
 show Ending.returned (.tuple #[.int .i64 (max 0 (min i (n:Int))),.int .i64 (max 0 (max (min i (n:Int)) (min j (n:Int))))])=_
 rw [show max 0 (min i (n:Int))=((clampN n i:Nat):Int) by unfold clampN;omega,show max 0 (max (min i (n:Int)) (min j (n:Int)))=((max (clampN n i) (clampN n j):Nat):Int) by unfold clampN;omega]
theorem EntsR.part {w:World} {p:Option Addr} {n c:Nat} {l:List En} (h:EntsR w (.slice p n c) l) {f t:Nat} (hft:f≤t) (ht:t≤l.length) (A:Option Addr) (hA:f<t→A=p.map (·.add (f * 2))) (c':Nat) (hc':t - f≤c'∧c'≤maxLen) :
  EntsR w (.slice A (t - f) c') ((l.drop f).take (t - f)):=by
 obtain ⟨p',c0,e,h1,h2,h3⟩:=h
 injection e with e1 e2 e3
 subst e1
 have hl:((l.drop f).take (t - f)).length=t - f:=by rw [List.length_take,List.length_drop];omega
 refine ⟨A,c',by rw [hl],by rw [hl];exact hc'.1,hc'.2,?_⟩
 rw [hl]
 refine ⟨by rw [flat_len,hl],fun h0 => ?_⟩
 obtain ⟨ad,rfl,hb,hcell⟩:=h3.2 (by omega)
 refine ⟨ad.add (f * 2),by rw [hA (by omega)];rfl,by rw [block_of_add];exact hb,fun j u hu => ?_⟩
 rw [add_of_add]
 apply hcell
 have e2:l.flatMap En.cells=(l.take f).flatMap En.cells++(((l.drop f).take (t - f)).flatMap En.cells++((l.drop f).drop (t - f)).flatMap En.cells):=by
  rw [← List.flatMap_append,List.take_append_drop,← List.flatMap_append,List.take_append_drop]
 have hl2:((l.take f).flatMap En.cells).length=f * 2:=by rw [flat_len,List.length_take];congr 1;omega
 rw [e2,List.getElem?_append_right (by omega),hl2,Nat.add_sub_cancel_left,List.getElem?_append_left (List.getElem?_eq_some_iff.1 hu).1]
 exact hu
end Go.Proofs.YtehpmbmdadkhbaaGreatDoor

namespace Go.Proofs.YtehpmbmdadkhbaaGreatDoor
open Go.RowKit Pal Pal.Skip
def Sk.nodesU (s:Sk) (k T:Nat):List Value:=(List.range 32).map fun j => if j<T then pt (s.at_ (prev s.lv j k)) else .pointer none
def Sk.placesU (s:Sk) (k T:Nat):List Value:=(List.range 32).map fun j => if j<T then .int .i64 (prev s.lv j k:Int) else .int .i64 0
theorem Sk.nodesU_top (s:Sk) (k:Nat):s.nodesL k 0=s.nodesU k (top s.lv):=by
 unfold Sk.nodesL Sk.nodesU
 exact List.map_congr_left fun j _ => by simp
theorem Sk.placesU_top (s:Sk) (k:Nat):s.placesL k 0=s.placesU k (top s.lv):=by
 unfold Sk.placesL Sk.placesU
 exact List.map_congr_left fun j _ => by simp
theorem prev_high {lv:List Nat} {j k:Nat} (h:top lv≤j):prev lv j k=0 :=
 prev_eq (Nat.zero_le _) (.inl rfl) fun r h1 _ h3 => nxt_none.1 (nxt_top.2 h) r h1 h3
theorem Sk.nodesU_set (s:Sk) (k:Nat) {i:Nat} (hi:top s.lv≤i):(s.nodesU k i).set i (pt s.blk)=s.nodesU k (i+1):=by
 refine map_set _ _ _ _ _ ?_ fun j hj => ?_
 ·rw [if_pos (by omega),prev_high hi];rfl
 ·by_cases h:j<i
  ·rw [if_pos h,if_pos (by omega)]
  ·rw [if_neg h,if_neg (by omega)]
theorem Sk.placesU_set (s:Sk) (k:Nat) {i:Nat} (hi:top s.lv≤i):(s.placesU k i).set i (.int .i64 0)=s.placesU k (i+1):=by
 refine map_set _ _ _ _ _ ?_ fun j hj => ?_
 ·rw [if_pos (by omega),prev_high hi];rfl
 ·by_cases h:j<i
  ·rw [if_pos h,if_pos (by omega)]
  ·rw [if_neg h,if_neg (by omega)]
theorem Sk.nodesU_get (s:Sk) (k:Nat) {j T:Nat} (hj:j<T) (h32:j<32):(s.nodesU k T)[j]?=some (pt (s.at_ (prev s.lv j k))):=by
 unfold Sk.nodesU
 rw [List.getElem?_map,List.getElem?_range h32,Option.map_some,if_pos hj]
theorem Sk.placesU_get (s:Sk) (k:Nat) {j T:Nat} (hj:j<T) (h32:j<32):(s.placesU k T)[j]?=some (.int .i64 (prev s.lv j k:Int)):=by
 unfold Sk.placesU
 rw [List.getElem?_map,List.getElem?_range h32,Option.map_some,if_pos hj]
theorem Sk.nodesU_len (s:Sk) (k T:Nat):(s.nodesU k T).length=32:=by unfold Sk.nodesU;simp
theorem Sk.placesU_len (s:Sk) (k T:Nat):(s.placesU k T).length=32:=by unfold Sk.placesU;simp
def Sk.viewT (s:Sk) (T tp:Nat):Sv:={ s.view with ok:=fun p j => (p=0∧j<T)∨ab s.lv j p,top:=tp }
theorem span_high {lv:List Nat} {j:Nat} (h:top lv≤j):span lv j 0=lv.length:=by
 unfold span;rw [nxt_top.2 h];rfl
theorem viewT_up {w:World} {base:Nat} {s:Sk} {T:Nat} (h:SvAt w base (s.viewT T (top s.lv))) (hT:top s.lv≤T) (h32:T<32) :
  SvAt ((w.setCell ⟨s.blk,2+T * 2,none⟩ (.pointer none)).setCell ⟨s.blk,2+T * 2+1,none⟩ (.int .i64 (s.n:Int))) base (s.viewT (T+1) (top s.lv)) ∧
   Chg s.foot w ((w.setCell ⟨s.blk,2+T * 2,none⟩ (.pointer none)).setCell ⟨s.blk,2+T * 2+1,none⟩ (.int .i64 (s.n:Int))):=by
 obtain ⟨h1,h2⟩:=h.setLink (p:=0) (Nat.zero_le _) h32 (.pointer none) (s.n:Int)
 refine ⟨h1.view rfl rfl (fun p i hp hi ho => ?_) (fun _ _ _ => rfl) rfl rfl rfl,h2⟩
 by_cases he:p=0∧i=T
 ·obtain ⟨rfl,rfl⟩:=he
  refine ⟨.inl ⟨rfl,rfl⟩,?_,?_⟩
  ·show up2 _ _ _ _ _ _=s.go (nxt s.lv i 0)
   rw [up2_same,nxt_top.2 hT];rfl
  ·show up2 _ _ _ _ _ _=(span s.lv i 0:Int)
   rw [up2_same,span_high hT,s.lv_len]
 ·refine ⟨.inr ?_,up2_other _ _ he,up2_other _ _ he⟩
  rcases ho with ho | ho
  ·exact .inl ⟨ho.1,by have:=ho.2;omega⟩
  ·exact .inr ho
def Sk.put (s:Sk) (k:Nat) (x:Sn):Sk:={ s with ns:=s.ns.take k++x :: s.ns.drop k }
section
variable {s:Sk} {k:Nat} {x:Sn}
theorem Sk.put_lv:(s.put k x).lv=ins s.lv k x.lvl:=by
 unfold Sk.put Sk.lv ins;simp [List.map_take,List.map_drop]
theorem Sk.put_n (hk:k≤s.n):(s.put k x).n=s.n+1:=by
 unfold Sk.put Sk.n at *;simp;omega
theorem Sk.put_at (hk:k≤s.n) (p:Nat):(s.put k x).at_ p=if p≤k then s.at_ p else if p=k+1 then x.blk else s.at_ (p - 1):=by
 cases p with
 | zero => rw [if_pos (Nat.zero_le _)];rfl
 | succ p =>
  have e:(s.put k x).at_ (p+1)=(ins (s.ns.map (·.blk)) k x.blk).getD p 0:=by
   show ((s.put k x).ns.map (·.blk)).getD p 0=_
   unfold Sk.put ins;simp [List.map_take,List.map_drop]
  rw [e,ins_get (by unfold Sk.n at hk;simpa using hk)]
  by_cases h1:p<k
  ·rw [if_pos h1,if_pos (show p+1≤k by omega)];rfl
  ·rw [if_neg h1,if_neg (show ¬ p+1≤k by omega)]
   by_cases h2:p=k
   ·rw [if_pos h2,if_pos (show p+1=k+1 by omega)]
   ·rw [if_neg h2,if_neg (show ¬ p+1=k+1 by omega)]
    obtain ⟨m,rfl⟩:∃ m,p=m+1:=⟨p - 1,by omega⟩
    rfl
def down (k p:Nat):Nat:=if p≤k then p else p - 1
theorem Sk.put_go_low (hk:k≤s.n) {q:Nat} (hq:q≤k):(s.put k x).go (some q)=s.go (some q):=by
 show pt ((s.put k x).at_ q)=pt (s.at_ q);rw [Sk.put_at hk,if_pos hq]
theorem Sk.put_go_up (hk:k≤s.n) {o:Option Nat} (hq:∀ q,o=some q→k<q):(s.put k x).go (o.map (·+1))=s.go o:=by
 cases o with
 | none => rfl
 | some q =>
  have:=hq q rfl
  show pt ((s.put k x).at_ (q+1))=pt (s.at_ q)
  rw [Sk.put_at hk,if_neg (show ¬ q+1≤k by omega),if_neg (show ¬ q+1=k+1 by omega),Nat.add_sub_cancel]
theorem Sk.put_go_new (hk:k≤s.n):(s.put k x).go (some (k+1))=pt x.blk:=by
 show pt ((s.put k x).at_ (k+1))=pt x.blk;rw [Sk.put_at hk,if_neg (show ¬ k+1≤k by omega),if_pos rfl]
theorem mem_ins {lv:List Nat} {k l v:Nat}:v∈ins lv k l ↔ v∈lv∨v=l:=by
 unfold ins
 rw [List.mem_append,List.mem_cons]
 constructor
 ·rintro (h | h | h)
  ·exact .inl (List.mem_of_mem_take h)
  ·exact .inr h
  ·exact .inl (List.mem_of_mem_drop h)
 ·rintro (h | h)
  ·rw [← List.take_append_drop k lv] at h
   rcases List.mem_append.1 h with h | h
   ·exact .inl h
   ·exact .inr (.inr h)
  ·exact .inr (.inl h)
theorem top_ins {lv:List Nat} {k l:Nat}:top (ins lv k l)=max (top lv) l:=by
 have h1:l≤top (ins lv k l):=top_le _ (mem_ins.2 (.inr rfl))
 have h2:top lv≤top (ins lv k l):=by
  rcases top_mem (lv:=lv) with h | h
  ·omega
  ·exact top_le _ (mem_ins.2 (.inl h))
 have h3:top (ins lv k l)≤max (top lv) l:=by
  rcases top_mem (lv:=ins lv k l) with h | h
  ·omega
  ·rcases mem_ins.1 h with h | h
   ·have:=top_le _ h;omega
   ·omega
 omega
theorem ins_same (hk:k≤s.n) {i p:Nat} (hp:p=0∨ab (ins s.lv k x.lvl) i p) (h1:p≠k+1) (h0:p≠prev s.lv i k) :
  (s.put k x).go (nxt (ins s.lv k x.lvl) i p)=s.go (nxt s.lv i (down k p))∧span (ins s.lv k x.lvl) i p=span s.lv i (down k p):=by
 have hkl:k≤s.lv.length:=by rw [s.lv_len];exact hk
 obtain ⟨g1,g2,g3⟩:=prev_spec s.lv i k
 by_cases hpk:p≤k
 ·have hp':p=0∨ab s.lv i p:=by
   rcases hp with hp | hp
   ·exact .inl hp
   ·rw [ins_ab hkl,if_pos hpk] at hp;exact .inr hp
  have hlt:p<prev s.lv i k:=by
   rcases hp' with hp' | hp'
   ·omega
   ·rcases Nat.lt_or_ge (prev s.lv i k) p with h' | h'
    ·exact absurd hp' (g3 p h' hpk)
    ·omega
  have hab:ab s.lv i (prev s.lv i k):=by rcases g2 with g2 | g2;omega;exact g2
  have hd:down k p=p:=if_pos hpk
  rw [hd]
  cases hx:nxt s.lv i p with
  | none => exact absurd hab (nxt_none.1 hx _ hlt)
  | some q =>
   have hq:q≤k:=by
    rcases Nat.lt_or_ge (prev s.lv i k) q with h' | h'
    ·exact absurd hab ((nxt_some.1 hx).2.2 _ hlt h')
    ·omega
   rw [ins_nxt_far hkl hx hq,Sk.put_go_low hk hq,span_far hkl hx hq]
   exact ⟨rfl,rfl⟩
 ·obtain ⟨m,rfl⟩:∃ m,p=m+1:=⟨p - 1,by omega⟩
  have hd:down k (m+1)=m:=by unfold down;rw [if_neg hpk];rfl
  rw [hd,ins_nxt_behind hkl (by omega),Sk.put_go_up hk (fun q hq => by have:=(nxt_some.1 hq).1;omega),span_behind hkl (by omega)]
  exact ⟨rfl,rfl⟩
def midV (s:Sk) (k:Nat) (x:Sn) (T i:Nat):Sv where
 blk:=s.blk
 ns:=(s.put k x).ns
 ok p j:=(p=0∧j<T)∨(p≠k+1∧ab (ins s.lv k x.lvl) j p)∨(p=k+1∧j<i∧j<x.lvl)
 to p j:=if j<i then (s.put k x).go (nxt (ins s.lv k x.lvl) j p) else s.go (nxt s.lv j (down k p))
 sp p j:=if j<i then (span (ins s.lv k x.lvl) j p:Int) else (span s.lv j (down k p):Int)
 bk p:=if p=k+1 then .pointer none else s.nd (down k p - 1)
 last:=s.nd s.n
 top:=T
 n:=(s.n:Int)
theorem mid_at (p:Nat) {T i:Nat}:(midV s k x T i).at_ p=(s.put k x).at_ p:=rfl
theorem mid_len (hk:k≤s.n) {T i:Nat}:(midV s k x T i).ns.length=s.n+1:=Sk.put_n hk
theorem mid_prev (hk:k≤s.n) {i T:Nat}:prev s.lv i k≤s.n+1∧(s.put k x).at_ (prev s.lv i k)=s.at_ (prev s.lv i k)∧(i<T→∀ j,(midV s k x T j).ok (prev s.lv i k) i)∧down k (prev s.lv i k)=prev s.lv i k∧prev s.lv i k≠k+1:=by
 obtain ⟨g1,g2,_⟩:=prev_spec s.lv i k
 have hkl:k≤s.lv.length:=by rw [s.lv_len];exact hk
 refine ⟨by omega,by rw [Sk.put_at hk,if_pos g1],fun hT j => ?_,if_pos g1,by omega⟩
 rcases g2 with g2 | g2
 ·rw [g2];exact .inl ⟨rfl,hT⟩
 ·exact .inr (.inl ⟨by omega,by rw [ins_ab hkl,if_pos g1];exact g2⟩)
theorem mid_low {w:World} {base T i:Nat} (h:SvAt w base (midV s k x T i)) (hk:k≤s.n) (hi:i<x.lvl) (h32:i<32) :
  SvAt ((((w.setCell ⟨x.blk,2+i * 2,none⟩ (s.go (nxt s.lv i (prev s.lv i k)))).setCell ⟨x.blk,2+i * 2+1,none⟩ (.int .i64 ((span s.lv i (prev s.lv i k):Int) - ((k:Int) - (prev s.lv i k:Int))))).setCell
   ⟨s.at_ (prev s.lv i k),2+i * 2,none⟩ (pt x.blk)).setCell ⟨s.at_ (prev s.lv i k),2+i * 2+1,none⟩ (.int .i64 ((k:Int) - (prev s.lv i k:Int)+1))) base (midV s k x T (i+1)) ∧
  Chg (midV s k x T i).foot w ((((w.setCell ⟨x.blk,2+i * 2,none⟩ (s.go (nxt s.lv i (prev s.lv i k)))).setCell ⟨x.blk,2+i * 2+1,none⟩ (.int .i64 ((span s.lv i (prev s.lv i k):Int) - ((k:Int) - (prev s.lv i k:Int))))).setCell
   ⟨s.at_ (prev s.lv i k),2+i * 2,none⟩ (pt x.blk)).setCell ⟨s.at_ (prev s.lv i k),2+i * 2+1,none⟩ (.int .i64 ((k:Int) - (prev s.lv i k:Int)+1))):=by
 obtain ⟨m1,m2,m3,m4,m5⟩:=mid_prev (x:=x) hk (i:=i) (T:=T)
 have hkl:k≤s.lv.length:=by rw [s.lv_len];exact hk
 obtain ⟨h1,c1⟩:=h.setLink (p:=k+1) (by rw [mid_len hk];omega) h32 (s.go (nxt s.lv i (prev s.lv i k))) ((span s.lv i (prev s.lv i k):Int) - ((k:Int) - (prev s.lv i k:Int)))
 obtain ⟨h2,c2⟩:=h1.setLink (p:=prev s.lv i k) (show _≤(midV s k x T i).ns.length by rw [mid_len hk];exact m1) h32 (pt x.blk) ((k:Int) - (prev s.lv i k:Int)+1)
 have ea:(midV s k x T i).at_ (k+1)=x.blk:=by rw [mid_at,Sk.put_at hk,if_neg (by omega),if_pos rfl]
 have eb:(midV s k x T i).at_ (prev s.lv i k)=s.at_ (prev s.lv i k):=m2
 rw [ea] at h1 c1
 have h2':=h2
 have c2':=c2
 change SvAt (World.setCell (World.setCell _ ⟨(midV s k x T i).at_ (prev s.lv i k),_,_⟩ _) ⟨(midV s k x T i).at_ (prev s.lv i k),_,_⟩ _) base _ at h2'
 change Chg _ _ (World.setCell (World.setCell _ ⟨(midV s k x T i).at_ (prev s.lv i k),_,_⟩ _) ⟨(midV s k x T i).at_ (prev s.lv i k),_,_⟩ _) at c2'
 rw [ea,eb] at h2' c2'
 refine ⟨h2'.view rfl rfl (fun p j hp hj ho => ?_) (fun _ _ _ => rfl) rfl rfl rfl,c1.trans c2'⟩
 by_cases hji:j=i
 ·subst hji
  by_cases hp0:p=prev s.lv j k
  ·subst hp0
   refine ⟨.inl ⟨rfl,rfl⟩,?_,?_⟩
   ·show up2 _ _ _ _ _ _=if j<j+1 then _ else _
    rw [up2_same,if_pos (Nat.lt_succ_self _),ins_nxt_new hkl (prev_spec s.lv j k).1 (fun q hq => ?_) hi,Sk.put_go_new hk]
    rcases Nat.lt_or_ge k q with h' | h'
    ·exact h'
    ·exact absurd (nxt_some.1 hq).2.1 ((prev_spec s.lv j k).2.2 q (nxt_some.1 hq).1 h')
   ·show up2 _ _ _ _ _ _=if j<j+1 then _ else _
    rw [up2_same,if_pos (Nat.lt_succ_self _),span_new hkl (prev_spec s.lv j k).1 (fun q hq => ?_) hi]
    ·have:=(prev_spec s.lv j k).1;omega
    ·rcases Nat.lt_or_ge k q with h' | h'
     ·exact h'
     ·exact absurd (nxt_some.1 hq).2.1 ((prev_spec s.lv j k).2.2 q (nxt_some.1 hq).1 h')
  ·by_cases hp1:p=k+1
   ·subst hp1
    refine ⟨.inr (.inl ⟨rfl,rfl⟩),?_,?_⟩
    ·show up2 _ _ _ _ _ _=if j<j+1 then _ else _
     rw [up2_other _ _ (fun e => hp0 e.1),if_pos (Nat.lt_succ_self _)]
     show up2 _ _ _ _ _ _=_
     rw [up2_same,ins_nxt_behind hkl (Nat.le_refl _),Sk.put_go_up hk (fun q hq => (nxt_some.1 hq).1),nxt_prev]
    ·show up2 _ _ _ _ _ _=if j<j+1 then _ else _
     rw [up2_other _ _ (fun e => hp0 e.1),if_pos (Nat.lt_succ_self _)]
     show up2 _ _ _ _ _ _=_
     rw [up2_same,span_own hkl]
   ·have hok:(p=0∨ab (ins s.lv k x.lvl) j p)∧(midV s k x T j).ok p j:=by
     rcases ho with ho | ho | ho
     ·exact ⟨.inl ho.1,.inl ho⟩
     ·exact ⟨.inr ho.2,.inr (.inl ho)⟩
     ·exact absurd ho.1 hp1
    obtain ⟨q1,q2⟩:=ins_same (x:=x) hk hok.1 hp1 hp0
    refine ⟨.inr (.inr hok.2),?_,?_⟩
    ·show up2 _ _ _ _ _ _=if j<j+1 then _ else _
     rw [up2_other _ _ (fun e => hp0 e.1),if_pos (Nat.lt_succ_self _)]
     show up2 _ _ _ _ _ _=_
     rw [up2_other _ _ (fun e => hp1 e.1)]
     show (if j<j then _ else _)=_
     rw [if_neg (Nat.lt_irrefl _),q1]
    ·show up2 _ _ _ _ _ _=if j<j+1 then _ else _
     rw [up2_other _ _ (fun e => hp0 e.1),if_pos (Nat.lt_succ_self _)]
     show up2 _ _ _ _ _ _=_
     rw [up2_other _ _ (fun e => hp1 e.1)]
     show (if j<j then _ else _)=_
     rw [if_neg (Nat.lt_irrefl _),q2]
 ·refine ⟨.inr (.inr ?_),?_,?_⟩
  ·rcases ho with ho | ho | ho
   ·exact .inl ho
   ·exact .inr (.inl ho)
   ·exact .inr (.inr ⟨ho.1,by have:=ho.2.1;omega,ho.2.2⟩)
  ·show up2 _ _ _ _ _ _=if j<i+1 then _ else _
   rw [up2_other _ _ (fun e => hji e.2)]
   show up2 _ _ _ _ _ _=_
   rw [up2_other _ _ (fun e => hji e.2)]
   show (if j<i then _ else _)=_
   by_cases h':j<i
   ·rw [if_pos h',if_pos (by omega)]
   ·rw [if_neg h',if_neg (by omega)]
  ·show up2 _ _ _ _ _ _=if j<i+1 then _ else _
   rw [up2_other _ _ (fun e => hji e.2)]
   show up2 _ _ _ _ _ _=_
   rw [up2_other _ _ (fun e => hji e.2)]
   show (if j<i then _ else _)=_
   by_cases h':j<i
   ·rw [if_pos h',if_pos (by omega)]
   ·rw [if_neg h',if_neg (by omega)]
theorem mid_high {w:World} {base T i:Nat} (h:SvAt w base (midV s k x T i)) (hk:k≤s.n) (hi:x.lvl≤i) (h32:i<32) :
  SvAt (w.setCell ⟨s.at_ (prev s.lv i k),2+i * 2+1,none⟩ (.int .i64 ((span s.lv i (prev s.lv i k):Int)+1))) base (midV s k x T (i+1)) ∧
  Chg (midV s k x T i).foot w (w.setCell ⟨s.at_ (prev s.lv i k),2+i * 2+1,none⟩ (.int .i64 ((span s.lv i (prev s.lv i k):Int)+1))):=by
 obtain ⟨m1,m2,m3,m4,m5⟩:=mid_prev (x:=x) hk (i:=i) (T:=T)
 have hkl:k≤s.lv.length:=by rw [s.lv_len];exact hk
 have hfar:∀ q,nxt s.lv i (prev s.lv i k)=some q→k<q:=fun q hq => by
  rcases Nat.lt_or_ge k q with h' | h'
  ·exact h'
  ·exact absurd (nxt_some.1 hq).2.1 ((prev_spec s.lv i k).2.2 q (nxt_some.1 hq).1 h')
 obtain ⟨h1,c1⟩:=h.setSp (p:=prev s.lv i k) (by rw [mid_len hk];exact m1) h32 ((span s.lv i (prev s.lv i k):Int)+1)
 have eb:(midV s k x T i).at_ (prev s.lv i k)=s.at_ (prev s.lv i k):=m2
 rw [eb] at h1 c1
 refine ⟨h1.view rfl rfl (fun p j hp hj ho => ?_) (fun _ _ _ => rfl) rfl rfl rfl,c1⟩
 have hok:(midV s k x T i).ok p j:=by
  rcases ho with ho | ho | ho
  ·exact .inl ho
  ·exact .inr (.inl ho)
  ·exact .inr (.inr ⟨ho.1,by have:=ho.2.1;have:=ho.2.2;omega,ho.2.2⟩)
 refine ⟨hok,?_,?_⟩
 ·show (if j<i then _ else _)=if j<i+1 then _ else _
  by_cases h':j<i
  ·rw [if_pos h',if_pos (by omega)]
  ·rw [if_neg h']
   by_cases hji:j=i
   ·subst hji
    rw [if_pos (Nat.lt_succ_self _)]
    by_cases hp0:p=prev s.lv j k
    ·subst hp0
     rw [m4,ins_nxt_over hkl (prev_spec s.lv j k).1 hfar hi,Sk.put_go_up hk hfar]
    ·have hok':(p=0∨ab (ins s.lv k x.lvl) j p)∧p≠k+1:=by
      rcases ho with ho | ho | ho
      ·exact ⟨.inl ho.1,by omega⟩
      ·exact ⟨.inr ho.2,ho.1⟩
      ·exact absurd ho.2.2 (by omega)
     exact (ins_same (x:=x) hk hok'.1 hok'.2 hp0).1.symm
   ·rw [if_neg (by omega)]
 ·show up2 _ _ _ _ _ _=if j<i+1 then _ else _
  by_cases hji:j=i
  ·subst hji
   rw [if_pos (Nat.lt_succ_self _)]
   by_cases hp0:p=prev s.lv j k
   ·subst hp0
    rw [up2_same,span_over hkl (prev_spec s.lv j k).1 hfar hi];omega
   ·rw [up2_other _ _ (fun e => hp0 e.1)]
    show (if j<j then _ else _)=_
    rw [if_neg (Nat.lt_irrefl _)]
    have hok':(p=0∨ab (ins s.lv k x.lvl) j p)∧p≠k+1:=by
     rcases ho with ho | ho | ho
     ·exact ⟨.inl ho.1,by omega⟩
     ·exact ⟨.inr ho.2,ho.1⟩
     ·exact absurd ho.2.2 (by omega)
    rw [(ins_same (x:=x) hk hok'.1 hok'.2 hp0).2]
  ·rw [up2_other _ _ (fun e => hji e.2)]
   show (if j<i then _ else _)=_
   by_cases h':j<i
   ·rw [if_pos h',if_pos (by omega)]
   ·rw [if_neg h',if_neg (by omega)]
end
end Go.Proofs.YtehpmbmdadkhbaaGreatDoor

namespace Go.Proofs.YtehpmbmdadkhbaaGreatDoor
open Go.RowKit Pal Pal.Skip
section
variable {s:Sk} {k:Nat} {x:Sn} {w:World} {base T:Nat}
theorem Sk.put_get (hk:k≤s.n) (j:Nat):(s.put k x).ns[j]?=if j<k then s.ns[j]? else if j=k then some x else s.ns[j - 1]?:=by
 unfold Sk.put Sk.n at *
 dsimp only
 by_cases h1:j<k
 ·rw [if_pos h1,List.getElem?_append_left (by rw [List.length_take];omega),List.getElem?_take_of_lt h1]
 ·rw [if_neg h1,List.getElem?_append_right (by rw [List.length_take];omega),List.length_take,Nat.min_eq_left hk]
  by_cases h2:j=k
  ·rw [if_pos h2,h2,Nat.sub_self];rfl
  ·rw [if_neg h2]
   obtain ⟨m,hm⟩:∃ m,j - k=m+1:=⟨j - k - 1,by omega⟩
   rw [hm,List.getElem?_cons_succ,List.getElem?_drop,show k+m=j - 1 by omega]
theorem mid_start {cs:Array Value} (h:SvAt w base (s.viewT T T)) (hk:k≤s.n) (hb:Blk w x.blk 250 cs) (hz:cs.size=68)
  (hc:cs[0]?=some (.string x.key)∧cs[1]?=some (.int .i64 x.score)∧cs[66]?=some (.int .i64 (x.lvl:Int))∧cs[67]?=some (.pointer none)) (hf:∀ p,p≤s.n→x.blk≠s.at_ p) (hge:base≤x.blk) :
  SvAt w base (midV s k x T 0):=by
 have hkl:k≤s.lv.length:=by rw [s.lv_len];exact hk
 have hat:∀ p,(midV s k x T 0).at_ p=if p≤k then s.at_ p else if p=k+1 then x.blk else s.at_ (p - 1):=fun p => Sk.put_at hk p
 have hln:(midV s k x T 0).ns.length=s.n+1:=mid_len hk
 refine ⟨fun p hp => ?_,fun p q hp hq e => ?_,fun p hp => ?_⟩
 ·rw [hln] at hp
  rw [hat]
  by_cases h1:p≤k
  ·rw [if_pos h1]
   obtain ⟨cs',hb',hn⟩:=h.nd p (by show p≤s.n;omega)
   refine ⟨cs',hb',hn.size,fun i hi ho => ?_,fun y h1p hy => ?_,fun e => hn.hd e⟩
   ·have hd:down k p=p:=if_pos h1
    have:=hn.link i hi (by
     rcases ho with ho | ho | ho
     ·exact .inl ho
     ·have h2:=ho.2
      rw [ins_ab hkl,if_pos h1] at h2
      exact .inr h2
     ·exact absurd ho.1 (by omega))
    show _=some (if i<0 then (s.put k x).go (nxt (ins s.lv k x.lvl) i p) else s.go (nxt s.lv i (down k p)))∧_=some (Value.int .i64 (if i<0 then (span (ins s.lv k x.lvl) i p:Int) else (span s.lv i (down k p):Int)))
    rw [if_neg (Nat.not_lt_zero _),if_neg (Nat.not_lt_zero _),hd]
    exact this
   ·have hy':s.ns[p - 1]?=some y:=by
     have:(s.put k x).ns[p - 1]?=some y:=hy
     rwa [Sk.put_get hk,if_pos (by omega)] at this
    obtain ⟨a,b,c,d⟩:=hn.ent y h1p hy'
    refine ⟨a,b,c,?_⟩
    rw [d]
    show some (s.nd (p - 1))=some (if p=k+1 then Value.pointer none else s.nd (down k p - 1))
    rw [if_neg (by omega),show down k p=p from if_pos h1]
  ·rw [if_neg h1]
   by_cases h2:p=k+1
   ·rw [if_pos h2]
    have ht:tyP p=250:=if_neg (by omega)
    have hs:szP p=68:=if_neg (by omega)
    refine ⟨cs,by rw [ht];exact hb,by rw [hs];exact hz,fun i hi ho => ?_,fun y h1p hy => ?_,fun e => by omega⟩
    ·rcases ho with ho | ho | ho
     ·omega
     ·exact absurd h2 ho.1
     ·omega
    ·have:y=x:=by
      have:(s.put k x).ns[p - 1]?=some y:=hy
      rw [Sk.put_get hk,if_neg (by omega),if_pos (by omega)] at this
      injection this with this
      exact this.symm
     subst this
     obtain ⟨a,b,c,d⟩:=hc
     refine ⟨a,b,c,?_⟩
     rw [d]
     show _=some (if p=k+1 then Value.pointer none else s.nd (down k p - 1))
     rw [if_pos h2]
   ·rw [if_neg h2]
    obtain ⟨cs',hb',hn⟩:=h.nd (p - 1) (by show p - 1≤s.n;omega)
    have ht:tyP p=tyP (p - 1):=by unfold tyP;rw [if_neg (by omega),if_neg (by omega)]
    have hs:szP p=szP (p - 1):=by unfold szP;rw [if_neg (by omega),if_neg (by omega)]
    have hd:down k p=p - 1:=if_neg h1
    refine ⟨cs',by rw [ht];exact hb',by rw [hs];exact hn.size,fun i hi ho => ?_,fun y h1p hy => ?_,fun e => by omega⟩
    ·have:=hn.link i hi (by
      rcases ho with ho | ho | ho
      ·omega
      ·have h3:=ho.2
       rw [ins_ab hkl,if_neg h1,if_neg h2] at h3
       exact .inr h3
      ·exact absurd ho.1 h2)
     show _=some (if i<0 then (s.put k x).go (nxt (ins s.lv k x.lvl) i p) else s.go (nxt s.lv i (down k p)))∧_=some (Value.int .i64 (if i<0 then (span (ins s.lv k x.lvl) i p:Int) else (span s.lv i (down k p):Int)))
     rw [if_neg (Nat.not_lt_zero _),if_neg (Nat.not_lt_zero _),hd]
     exact this
    ·have hy':s.ns[p - 1 - 1]?=some y:=by
      have:(s.put k x).ns[p - 1]?=some y:=hy
      rwa [Sk.put_get hk,if_neg (by omega),if_neg (by omega)] at this
     obtain ⟨a,b,c,d⟩:=hn.ent y (by omega) hy'
     refine ⟨a,b,c,?_⟩
     rw [d]
     show some (s.nd (p - 1 - 1))=some (if p=k+1 then Value.pointer none else s.nd (down k p - 1))
     rw [if_neg h2,hd]
 ·rw [hln] at hp hq
  rw [hat,hat] at e
  have inj:∀ a b,a≤s.n→b≤s.n→s.at_ a=s.at_ b→a=b:=fun a b ha hb e => h.inj a b ha hb e
  by_cases a1:p≤k <;> by_cases b1:q≤k
  ·rw [if_pos a1,if_pos b1] at e;exact inj p q (by omega) (by omega) e
  ·rw [if_pos a1,if_neg b1] at e
   by_cases b2:q=k+1
   ·rw [if_pos b2] at e;exact absurd e.symm (hf p (by omega))
   ·rw [if_neg b2] at e;have:=inj p (q - 1) (by omega) (by omega) e;omega
  ·rw [if_neg a1,if_pos b1] at e
   by_cases a2:p=k+1
   ·rw [if_pos a2] at e;exact absurd e (hf q (by omega))
   ·rw [if_neg a2] at e;have:=inj (p - 1) q (by omega) (by omega) e;omega
  ·rw [if_neg a1,if_neg b1] at e
   by_cases a2:p=k+1 <;> by_cases b2:q=k+1
   ·omega
   ·rw [if_pos a2,if_neg b2] at e;exact absurd e (hf (q - 1) (by omega))
   ·rw [if_neg a2,if_pos b2] at e;exact absurd e.symm (hf (p - 1) (by omega))
   ·rw [if_neg a2,if_neg b2] at e;have:=inj (p - 1) (q - 1) (by omega) (by omega) e;omega
 ·rw [hln] at hp
  rw [hat]
  split
  ·exact h.ge p (by show p≤s.n;omega)
  ·split
   ·exact hge
   ·exact h.ge (p - 1) (by show p - 1≤s.n;omega)
def midB (s:Sk) (k:Nat) (x:Sn):Nat→Value:=fun p => if p=k+2 then pt x.blk else if p=k+1 then s.nd k else s.nd (down k p - 1)
theorem nd_put (hk:k≤s.n) {p:Nat} (h1:1≤p):midB s k x p=(s.put k x).nd (p - 1):=by
 unfold midB Sk.nd down
 rw [Sk.put_at hk]
 by_cases a:p=k+2
 ·rw [if_pos a,if_neg (by omega),if_neg (by omega),if_pos (by omega)]
 ·rw [if_neg a]
  by_cases b:p=k+1
  ·rw [if_pos b,show p - 1=k by omega,if_pos (Nat.le_refl _)]
  ·rw [if_neg b]
   by_cases c:p≤k
   ·rw [if_pos c,if_pos (show p - 1≤k by omega)]
   ·rw [if_neg c,if_neg (show ¬ p - 1≤k by omega),if_neg (show ¬ p - 1=k+1 by omega),if_neg (show ¬ p - 1=0 by omega),if_neg (show ¬ p - 1 - 1=0 by omega)]
theorem mid_bk1 (h:SvAt w base (midV s k x T T)) (hk:k≤s.n) (h0:k≠0) :
  SvAt (w.setCell ⟨x.blk,67,none⟩ (pt (s.at_ k))) base { midV s k x T T with bk:=fun p => if p=k+1 then s.nd k else s.nd (down k p - 1) }∧Chg (midV s k x T T).foot w (w.setCell ⟨x.blk,67,none⟩ (pt (s.at_ k))):=by
 obtain ⟨h1,c1⟩:=h.setBk (p:=k+1) (by omega) (by rw [mid_len hk];omega) (pt (s.at_ k))
 have ea:(midV s k x T T).at_ (k+1)=x.blk:=by rw [mid_at,Sk.put_at hk,if_neg (by omega),if_pos rfl]
 rw [ea] at h1 c1
 refine ⟨h1.view rfl rfl (fun _ _ _ _ ho => ⟨ho,rfl,rfl⟩) (fun p _ _ => ?_) rfl rfl rfl,c1⟩
 show (if p=k+1 then pt (s.at_ k) else if p=k+1 then Value.pointer none else s.nd (down k p - 1))=if p=k+1 then s.nd k else s.nd (down k p - 1)
 by_cases e:p=k+1
 ·rw [if_pos e,if_pos e];unfold Sk.nd;rw [if_neg h0]
 ·rw [if_neg e,if_neg e,if_neg e]
theorem mid_bk0 (h:SvAt w base (midV s k x T T)) (h0:k=0):SvAt w base { midV s k x T T with bk:=fun p => if p=k+1 then s.nd k else s.nd (down k p - 1) }:=by
 refine h.view rfl rfl (fun _ _ _ _ ho => ⟨ho,rfl,rfl⟩) (fun p _ _ => ?_) rfl rfl rfl
 show (if p=k+1 then Value.pointer none else s.nd (down k p - 1))=if p=k+1 then s.nd k else s.nd (down k p - 1)
 by_cases e:p=k+1
 ·rw [if_pos e,if_pos e,h0];rfl
 ·rw [if_neg e,if_neg e]
theorem mid_end (h:SvAt w base { midV s k x T T with bk:=fun p => if p=k+1 then s.nd k else s.nd (down k p - 1) }) (hk:k≤s.n) (hT:T=max (top s.lv) x.lvl) (hx:1≤x.lvl∧x.lvl≤32) (hlo:∀ y∈s.ns,1≤y.lvl∧y.lvl≤32) :
  ∀ w',w'=(if k<s.n then w.setCell ⟨s.at_ (k+1),67,none⟩ (pt x.blk) else w.setCell ⟨s.blk,68,none⟩ (pt x.blk)) →
   SkAt (w'.setCell ⟨s.blk,70,none⟩ (.int .i64 ((s.n:Int)+1))) base (s.put k x)∧Chg (midV s k x T T).foot w (w'.setCell ⟨s.blk,70,none⟩ (.int .i64 ((s.n:Int)+1))):=by
 have hkl:k≤s.lv.length:=by rw [s.lv_len];exact hk
 intro w' hw'
 have key:∀ w'',SvAt w'' base { midV s k x T T with bk:=midB s k x,last:=(s.put k x).nd (s.n+1) } →
   SkAt (w''.setCell ⟨s.blk,70,none⟩ (.int .i64 ((s.n:Int)+1))) base (s.put k x)∧Chg (midV s k x T T).foot w'' (w''.setCell ⟨s.blk,70,none⟩ (.int .i64 ((s.n:Int)+1))):=by
  intro w'' h2
  obtain ⟨h3,c3⟩:=h2.setHd 70 (.int .i64 ((s.n:Int)+1)) { midV s k x T T with bk:=midB s k x,last:=(s.put k x).nd (s.n+1),n:=(s.n:Int)+1 } rfl rfl rfl rfl rfl rfl (.inr (.inr ⟨rfl,rfl,rfl,rfl⟩))
  refine ⟨⟨h3.view rfl rfl (fun p i hp hi ho => ?_) (fun p h1 hp => nd_put hk h1) ?_ ?_ ?_,?_⟩,c3⟩
  ·have ho':(p=0∧i<top (ins s.lv k x.lvl))∨ab (ins s.lv k x.lvl) i p:=by
    have:(s.put k x).view.ok p i:=ho
    unfold Sk.view at this
    rw [Sk.put_lv] at this
    exact this
   have hiT:i<T:=by
    rcases ho' with ho' | ho'
    ·have:=ho'.2;rw [top_ins] at this;omega
    ·have hm:=ho'.2.2
     obtain ⟨l,hl,hil⟩:=ab_mem.1 ⟨p,ho'⟩
     have:=top_le l hl
     rw [top_ins] at this
     omega
   refine ⟨?_,?_,?_⟩
   ·rcases ho' with ho' | ho'
    ·exact .inl ⟨ho'.1,hiT⟩
    ·by_cases hp1:p=k+1
     ·refine .inr (.inr ⟨hp1,hiT,?_⟩)
      rw [ins_ab hkl,if_neg (by omega),if_pos hp1] at ho';exact ho'
     ·exact .inr (.inl ⟨hp1,ho'⟩)
   ·show (if i<T then (s.put k x).go (nxt (ins s.lv k x.lvl) i p) else s.go (nxt s.lv i (down k p)))=(s.put k x).go (nxt (s.put k x).lv i p)
    rw [if_pos hiT,Sk.put_lv]
   ·show (if i<T then (span (ins s.lv k x.lvl) i p:Int) else (span s.lv i (down k p):Int))=(span (s.put k x).lv i p:Int)
    rw [if_pos hiT,Sk.put_lv]
  ·show (s.put k x).nd (s.n+1)=(s.put k x).nd (s.put k x).n
   rw [Sk.put_n hk]
  ·show T=top (s.put k x).lv
   rw [Sk.put_lv,top_ins,hT]
  ·show (s.n:Int)+1=((s.put k x).n:Int)
   rw [Sk.put_n hk];omega
  ·intro y hy
   have hy':y∈s.ns.take k++x :: s.ns.drop k:=hy
   rcases List.mem_append.1 hy' with hy' | hy'
   ·exact hlo y (List.mem_of_mem_take hy')
   ·rcases List.mem_cons.1 hy' with rfl | hy'
    ·exact hx
    ·exact hlo y (List.mem_of_mem_drop hy')
 by_cases hkn:k<s.n
 ·rw [if_pos hkn] at hw'
  obtain ⟨h1,c1⟩:=h.setBk (p:=k+2) (by omega) (show k+2≤(midV s k x T T).ns.length by rw [mid_len hk];omega) (pt x.blk)
  have ea:(s.put k x).at_ (k+2)=s.at_ (k+1):=by rw [Sk.put_at hk,if_neg (by omega),if_neg (by omega)];rfl
  change SvAt (w.setCell ⟨(s.put k x).at_ (k+2),67,none⟩ _) base _ at h1
  change Chg _ _ (w.setCell ⟨(s.put k x).at_ (k+2),67,none⟩ _) at c1
  rw [ea,← hw'] at h1 c1
  obtain ⟨a,b⟩:=key w' (h1.view rfl rfl (fun _ _ _ _ ho => ⟨ho,rfl,rfl⟩) (fun p _ _ => rfl) (by
   show s.nd s.n=(s.put k x).nd (s.n+1)
   unfold Sk.nd
   rw [if_neg (by omega),if_neg (by omega),Sk.put_at hk,if_neg (by omega),if_neg (by omega)]
   rfl) rfl rfl)
  exact ⟨a,c1.trans b⟩
 ·rw [if_neg hkn] at hw'
  obtain ⟨h1,c1⟩:=h.setHd 68 (pt x.blk) { midV s k x T T with bk:=(fun p => if p=k+1 then s.nd k else s.nd (down k p - 1)),last:=pt x.blk } rfl rfl rfl rfl rfl rfl (.inl ⟨rfl,rfl,rfl,rfl⟩)
  change SvAt (w.setCell ⟨s.blk,68,none⟩ _) base _ at h1
  change Chg _ _ (w.setCell ⟨s.blk,68,none⟩ _) at c1
  rw [← hw'] at h1 c1
  obtain ⟨a,b⟩:=key w' (h1.view rfl rfl (fun _ _ _ _ ho => ⟨ho,rfl,rfl⟩) (fun p h1 hp => by
   have hp':p≤s.n+1:=by rw [← mid_len (x:=x) hk (T:=T) (i:=T)];exact hp
   show (if p=k+1 then s.nd k else s.nd (down k p - 1))=midB s k x p
   unfold midB
   rw [if_neg (show ¬ p=k+2 by omega)]) (by
   show pt x.blk=(s.put k x).nd (s.n+1)
   unfold Sk.nd
   rw [if_neg (by omega),Sk.put_at hk,if_neg (by omega),if_pos (by omega)]) rfl rfl)
  exact ⟨a,c1.trans b⟩
theorem span_le {lv:List Nat} {i p:Nat}:span lv i p≤lv.length:=by
 unfold span
 cases hx:nxt lv i p with
 | none => exact Nat.sub_le _ _
 | some q => have:=(nxt_some.1 hx).2.1.2.1;dsimp only;omega
theorem mid_begin {l:Nat} {m:ByteArray} {sc:Int} {cs:Array Value} {o:Obj} (h:SvAt w base (s.viewT T (top s.lv))) (hk:k≤s.n) (hz:cs.size=68)
  (hc:cs[0]?=some (.string m)∧cs[1]?=some (.int .i64 sc)∧cs[66]?=some (.int .i64 (l:Int))∧cs[67]?=some (.pointer none)) (hge:base≤w.heap.size) :
  SvAt (((w.setCell ⟨s.blk,69,none⟩ (.int .i64 (T:Int))).alloc o).alloc (.cells cs 250)) base (midV s k ⟨w.heap.size+1,m,sc,l⟩ T 0)∧Chg s.foot w (((w.setCell ⟨s.blk,69,none⟩ (.int .i64 (T:Int))).alloc o).alloc (.cells cs 250)):=by
 obtain ⟨h1,c1⟩:=h.setHd 69 (.int .i64 (T:Int)) (s.viewT T T) rfl rfl rfl rfl rfl rfl (.inr (.inl ⟨rfl,rfl,rfl,rfl⟩))
 have c2:Chg (fun _ => False) (w.setCell ⟨s.blk,69,none⟩ (.int .i64 (T:Int))) (((w.setCell ⟨s.blk,69,none⟩ (.int .i64 (T:Int))).alloc o).alloc (.cells cs 250)):=((Chg.refl _ _).alloc _).alloc _
 have hb:=Blk.new ((w.setCell ⟨s.blk,69,none⟩ (.int .i64 (T:Int))).alloc o) 250 cs
 rw [World.size_alloc,World.size_setCell] at hb
 refine ⟨mid_start (h1.chg0 c2) hk hb hz hc (fun p hp e => ?_) (by show base≤w.heap.size+1;omega),Chg.trans' c1 c2 fun _ _ e => e.elim⟩
 have:=(h.lt ⟨p,hp,rfl⟩).2
 have e:w.heap.size+1=s.at_ p:=e
 have e2:(s.viewT T (top s.lv)).at_ p=s.at_ p:=rfl
 omega
end
end Go.Proofs.YtehpmbmdadkhbaaGreatDoor

namespace Go.Proofs.YtehpmbmdadkhbaaGreatDoor
open Go.RowKit Pal Pal.Skip
def outV (s:Sk) (k:Nat) (x:Sn) (T i:Nat):Sv where
 blk:=s.blk
 ns:=(s.put k x).ns
 ok p j:=(p=0∧j<T)∨ab (ins s.lv k x.lvl) j p
 to p j:=if j<i∧p≠k+1 then s.go (nxt s.lv j (down k p)) else (s.put k x).go (nxt (ins s.lv k x.lvl) j p)
 sp p j:=if j<i∧p≠k+1 then (span s.lv j (down k p):Int) else (span (ins s.lv k x.lvl) j p:Int)
 bk p:=(s.put k x).nd (p - 1)
 last:=(s.put k x).nd (s.n+1)
 top:=T
 n:=(s.n:Int)+1
section
variable {s:Sk} {k:Nat} {x:Sn} {w:World} {base T i:Nat}
theorem out_len (hk:k≤s.n):(outV s k x T i).ns.length=s.n+1:=Sk.put_n hk
theorem out_start (h:SvAt w base (s.put k x).view) (hk:k≤s.n):SvAt w base (outV s k x (max (top s.lv) x.lvl) 0):=by
 refine h.view (u:=outV s k x (max (top s.lv) x.lvl) 0) rfl rfl (fun p j hp hj ho => ?_) (fun p _ _ => rfl) ?_ ?_ ?_
 ·have hl:(s.put k x).lv=ins s.lv k x.lvl:=Sk.put_lv
  refine ⟨?_,?_,?_⟩
  ·show (p=0∧j<top (s.put k x).lv)∨ab (s.put k x).lv j p
   rw [hl,top_ins];exact ho
  ·show (s.put k x).go (nxt (s.put k x).lv j p)=if j<0∧p≠k+1 then s.go (nxt s.lv j (down k p)) else (s.put k x).go (nxt (ins s.lv k x.lvl) j p)
   rw [if_neg (by omega),hl]
  ·show (span (s.put k x).lv j p:Int)=if j<0∧p≠k+1 then (span s.lv j (down k p):Int) else (span (ins s.lv k x.lvl) j p:Int)
   rw [if_neg (by omega),hl]
 ·show (s.put k x).nd (s.put k x).n=_
  rw [Sk.put_n hk];rfl
 ·show top (s.put k x).lv=_
  rw [Sk.put_lv,top_ins];rfl
 ·show ((s.put k x).n:Int)=(s.n:Int)+1
  rw [Sk.put_n hk];omega
theorem far_of {lv:List Nat} {i k:Nat}:∀ q,nxt lv i (prev lv i k)=some q→k<q:=fun q hq => by
 rcases Nat.lt_or_ge k q with h' | h'
 ·exact h'
 ·exact absurd (nxt_some.1 hq).2.1 ((prev_spec lv i k).2.2 q (nxt_some.1 hq).1 h')
theorem prev_put (hk:k≤s.n):prev (ins s.lv k x.lvl) i k=prev s.lv i k:=by
 have hkl:k≤s.lv.length:=by rw [s.lv_len];exact hk
 obtain ⟨g1,g2,g3⟩:=prev_spec s.lv i k
 refine prev_eq g1 ?_ fun r h1 h2 h3 => ?_
 ·rcases g2 with g2 | g2
  ·exact .inl g2
  ·exact .inr (by rw [ins_ab hkl,if_pos g1];exact g2)
 ·rw [ins_ab hkl,if_pos h2] at h3;exact g3 r h1 h2 h3
theorem out_prev (hk:k≤s.n) (hT:i<T):prev s.lv i k≤s.n+1∧(s.put k x).at_ (prev s.lv i k)=s.at_ (prev s.lv i k)∧(∀ j,(outV s k x T j).ok (prev s.lv i k) i)∧down k (prev s.lv i k)=prev s.lv i k∧prev s.lv i k≠k+1:=by
 obtain ⟨m1,m2,_,m4,m5⟩:=mid_prev (x:=x) hk (i:=i) (T:=T)
 have hkl:k≤s.lv.length:=by rw [s.lv_len];exact hk
 obtain ⟨g1,g2,_⟩:=prev_spec s.lv i k
 refine ⟨m1,m2,fun j => ?_,m4,m5⟩
 rcases g2 with g2 | g2
 ·exact .inl ⟨g2,hT⟩
 ·exact .inr (by rw [ins_ab hkl,if_pos g1];exact g2)
theorem out_own (hk:k≤s.n) (hi:i<x.lvl) (j:Nat):(outV s k x T j).ok (k+1) i∧(outV s k x T j).to (k+1) i=s.go (nxt s.lv i (prev s.lv i k))∧(outV s k x T j).sp (k+1) i=(span (ins s.lv k x.lvl) i (k+1):Int):=by
 have hkl:k≤s.lv.length:=by rw [s.lv_len];exact hk
 refine ⟨.inr (by rw [ins_ab hkl,if_neg (by omega),if_pos rfl];exact hi),?_,?_⟩
 ·show (if i<j∧k+1≠k+1 then s.go (nxt s.lv i (down k (k+1))) else (s.put k x).go (nxt (ins s.lv k x.lvl) i (k+1)))=_
  rw [if_neg (fun h => h.2 rfl),ins_nxt_behind hkl (Nat.le_refl _),Sk.put_go_up hk (fun q hq => (nxt_some.1 hq).1),nxt_prev]
 ·show (if i<j∧k+1≠k+1 then (span s.lv i (down k (k+1)):Int) else (span (ins s.lv k x.lvl) i (k+1):Int))=_
  rw [if_neg (fun h => h.2 rfl)]
theorem out_sum (hk:k≤s.n) (hi:i<x.lvl):(span (ins s.lv k x.lvl) i (prev s.lv i k):Int)+(span (ins s.lv k x.lvl) i (k+1):Int) - 1=(span s.lv i (prev s.lv i k):Int):=by
 have hkl:k≤s.lv.length:=by rw [s.lv_len];exact hk
 have:=(prev_spec s.lv i k).1
 rw [span_own hkl,span_new hkl this far_of hi]
 omega
theorem out_over (hk:k≤s.n) (hi:x.lvl≤i):(span (ins s.lv k x.lvl) i (prev s.lv i k):Int) - 1=(span s.lv i (prev s.lv i k):Int):=by
 have hkl:k≤s.lv.length:=by rw [s.lv_len];exact hk
 rw [span_over hkl (prev_spec s.lv i k).1 far_of hi]
 omega
theorem out_low {v:Value} {b1 b2:Int} (h:SvAt w base (outV s k x T i)) (hk:k≤s.n) (hT:i<T) (h32:i<32) (hv:v=s.go (nxt s.lv i (prev s.lv i k))) (hb:b2=(span s.lv i (prev s.lv i k):Int)) :
  SvAt (((w.setCell ⟨s.at_ (prev s.lv i k),2+i * 2,none⟩ v).setCell ⟨s.at_ (prev s.lv i k),2+i * 2+1,none⟩ (.int .i64 b1)).setCell ⟨s.at_ (prev s.lv i k),2+i * 2+1,none⟩ (.int .i64 b2)) base (outV s k x T (i+1)) ∧
  Chg (outV s k x T i).foot w (((w.setCell ⟨s.at_ (prev s.lv i k),2+i * 2,none⟩ v).setCell ⟨s.at_ (prev s.lv i k),2+i * 2+1,none⟩ (.int .i64 b1)).setCell ⟨s.at_ (prev s.lv i k),2+i * 2+1,none⟩ (.int .i64 b2)):=by
 obtain ⟨m1,m2,m3,m4,m5⟩:=out_prev (x:=x) hk hT
 have hkl:k≤s.lv.length:=by rw [s.lv_len];exact hk
 obtain ⟨h1,c1⟩:=h.setLink (p:=prev s.lv i k) (by rw [out_len hk];exact m1) h32 v b1
 obtain ⟨h2,c2⟩:=h1.setSp (p:=prev s.lv i k) (show _≤(outV s k x T i).ns.length by rw [out_len hk];exact m1) h32 b2
 have eb:(outV s k x T i).at_ (prev s.lv i k)=s.at_ (prev s.lv i k):=m2
 have h2':=h2
 have c2':=c2
 change SvAt (World.setCell _ ⟨(outV s k x T i).at_ (prev s.lv i k),_,_⟩ _) base _ at h2'
 change Chg _ _ (World.setCell _ ⟨(outV s k x T i).at_ (prev s.lv i k),_,_⟩ _) at c2'
 rw [eb] at h2' c2' c1
 refine ⟨h2'.view rfl rfl (fun p j hp hj ho => ?_) (fun _ _ _ => rfl) rfl rfl rfl,c1.trans c2'⟩
 have ho':(outV s k x T i).ok p j:=ho
 refine ⟨.inr ho',?_,?_⟩
 ·show up2 _ _ _ _ _ _=if j<i+1∧p≠k+1 then _ else _
  by_cases hji:j=i
  ·subst hji
   by_cases hp0:p=prev s.lv j k
   ·subst hp0
    rw [up2_same,if_pos ⟨Nat.lt_succ_self _,m5⟩,m4];exact hv
   ·rw [up2_other _ _ (fun e => hp0 e.1)]
    show (if j<j∧p≠k+1 then _ else _)=_
    rw [if_neg (by omega)]
    by_cases hp1:p=k+1
    ·rw [if_neg (fun e => e.2 hp1)]
    ·rw [if_pos ⟨Nat.lt_succ_self _,hp1⟩]
     exact (ins_same (x:=x) hk (ho'.imp (·.1) id) hp1 hp0).1
  ·rw [up2_other _ _ (fun e => hji e.2)]
   show (if j<i∧p≠k+1 then _ else _)=_
   by_cases h':j<i∧p≠k+1
   ·rw [if_pos h',if_pos ⟨by omega,h'.2⟩]
   ·rw [if_neg h',if_neg (fun e => h' ⟨by omega,e.2⟩)]
 ·show up2 _ _ _ _ _ _=if j<i+1∧p≠k+1 then _ else _
  by_cases hji:j=i
  ·subst hji
   by_cases hp0:p=prev s.lv j k
   ·subst hp0
    rw [up2_same,if_pos ⟨Nat.lt_succ_self _,m5⟩,m4];exact hb
   ·rw [up2_other _ _ (fun e => hp0 e.1)]
    show up2 _ _ _ _ _ _=_
    rw [up2_other _ _ (fun e => hp0 e.1)]
    show (if j<j∧p≠k+1 then _ else _)=_
    rw [if_neg (by omega)]
    by_cases hp1:p=k+1
    ·rw [if_neg (fun e => e.2 hp1)]
    ·rw [if_pos ⟨Nat.lt_succ_self _,hp1⟩]
     rw [(ins_same (x:=x) hk (ho'.imp (·.1) id) hp1 hp0).2]
  ·rw [up2_other _ _ (fun e => hji e.2)]
   show up2 _ _ _ _ _ _=_
   rw [up2_other _ _ (fun e => hji e.2)]
   show (if j<i∧p≠k+1 then _ else _)=_
   by_cases h':j<i∧p≠k+1
   ·rw [if_pos h',if_pos ⟨by omega,h'.2⟩]
   ·rw [if_neg h',if_neg (fun e => h' ⟨by omega,e.2⟩)]
theorem out_high {b2:Int} (h:SvAt w base (outV s k x T i)) (hk:k≤s.n) (hi:x.lvl≤i) (hT:i<T) (h32:i<32) (hb:b2=(span s.lv i (prev s.lv i k):Int)) :
  SvAt (w.setCell ⟨s.at_ (prev s.lv i k),2+i * 2+1,none⟩ (.int .i64 b2)) base (outV s k x T (i+1)) ∧
  Chg (outV s k x T i).foot w (w.setCell ⟨s.at_ (prev s.lv i k),2+i * 2+1,none⟩ (.int .i64 b2)):=by
 obtain ⟨m1,m2,m3,m4,m5⟩:=out_prev (x:=x) hk hT
 have hkl:k≤s.lv.length:=by rw [s.lv_len];exact hk
 obtain ⟨h1,c1⟩:=h.setSp (p:=prev s.lv i k) (by rw [out_len hk];exact m1) h32 b2
 have eb:(outV s k x T i).at_ (prev s.lv i k)=s.at_ (prev s.lv i k):=m2
 rw [eb] at h1 c1
 refine ⟨h1.view rfl rfl (fun p j hp hj ho => ?_) (fun _ _ _ => rfl) rfl rfl rfl,c1⟩
 have ho':(outV s k x T i).ok p j:=ho
 refine ⟨ho',?_,?_⟩
 ·show (if j<i∧p≠k+1 then _ else _)=if j<i+1∧p≠k+1 then _ else _
  by_cases h':j<i∧p≠k+1
  ·rw [if_pos h',if_pos ⟨by omega,h'.2⟩]
  ·rw [if_neg h']
   by_cases hji:j=i∧p≠k+1
   ·obtain ⟨rfl,hp1⟩:=hji
    rw [if_pos ⟨Nat.lt_succ_self _,hp1⟩]
    by_cases hp0:p=prev s.lv j k
    ·subst hp0
     rw [m4,ins_nxt_over hkl (prev_spec s.lv j k).1 far_of hi,Sk.put_go_up hk far_of]
    ·exact (ins_same (x:=x) hk (ho'.imp (·.1) id) hp1 hp0).1
   ·rw [if_neg (fun e => by by_cases hj2:j=i;exact hji ⟨hj2,e.2⟩;exact h' ⟨by omega,e.2⟩)]
 ·show up2 _ _ _ _ _ _=if j<i+1∧p≠k+1 then _ else _
  by_cases hji:j=i
  ·subst hji
   by_cases hp0:p=prev s.lv j k
   ·subst hp0
    rw [up2_same,if_pos ⟨Nat.lt_succ_self _,m5⟩,m4];exact hb
   ·rw [up2_other _ _ (fun e => hp0 e.1)]
    show (if j<j∧p≠k+1 then _ else _)=_
    rw [if_neg (by omega)]
    by_cases hp1:p=k+1
    ·rw [if_neg (fun e => e.2 hp1)]
    ·rw [if_pos ⟨Nat.lt_succ_self _,hp1⟩]
     rw [(ins_same (x:=x) hk (ho'.imp (·.1) id) hp1 hp0).2]
  ·rw [up2_other _ _ (fun e => hji e.2)]
   show (if j<i∧p≠k+1 then _ else _)=_
   by_cases h':j<i∧p≠k+1
   ·rw [if_pos h',if_pos ⟨by omega,h'.2⟩]
   ·rw [if_neg h',if_neg (fun e => h' ⟨by omega,e.2⟩)]
def outB (s:Sk) (k:Nat) (x:Sn):Nat→Value:=fun p => if p=k+2 then s.nd k else (s.put k x).nd (p - 1)
theorem put_nd_low (hk:k≤s.n) {p:Nat} (hp:p≤k):(s.put k x).nd p=s.nd p:=by
 unfold Sk.nd;rw [Sk.put_at hk,if_pos hp]
theorem out_cut (h:SvAt w base { outV s k x T T with bk:=outB s k x,last:=s.nd s.n }) (hk:k≤s.n) (hT:top s.lv≤T):SvAt w base { s.viewT T T with n:=(s.n:Int)+1 }:=by
 have hkl:k≤s.lv.length:=by rw [s.lv_len];exact hk
 have hln:(s.put k x).ns.length=s.n+1:=Sk.put_n hk
 have hat:∀ p,p≤s.n→(s.put k x).at_ (if p≤k then p else p+1)=s.at_ p:=fun p hp => by
  by_cases h1:p≤k
  ·rw [if_pos h1,Sk.put_at hk,if_pos h1]
  ·rw [if_neg h1,Sk.put_at hk,if_neg (by omega),if_neg (by omega),Nat.add_sub_cancel]
 refine ⟨fun p hp => ?_,fun p q hp hq e => ?_,fun p hp => ?_⟩
 ·have hp:p≤s.n:=hp
  obtain ⟨cs,hb,hn⟩:=h.nd (if p≤k then p else p+1) (by show _≤(s.put k x).ns.length;rw [hln];split <;> omega)
  have ea:({ outV s k x T T with bk:=outB s k x,last:=s.nd s.n }:Sv).at_ (if p≤k then p else p+1)=s.at_ p:=hat p hp
  rw [ea] at hb
  have ty:tyP (if p≤k then p else p+1)=tyP p:=by
   unfold tyP;split
   ·rfl
   ·rw [if_neg (by omega),if_neg (by omega)]
  have sz:szP (if p≤k then p else p+1)=szP p:=by
   unfold szP;split
   ·rfl
   ·rw [if_neg (by omega),if_neg (by omega)]
  rw [ty] at hb
  refine ⟨cs,hb,by rw [hn.size,sz],fun i hi ho => ?_,fun y h1p hy => ?_,fun e => ?_⟩
  ·have ho:(p=0∧i<T)∨ab s.lv i p:=ho
   have hiT:i<T:=by
    rcases ho with ho | ho
    ·exact ho.2
    ·obtain ⟨l,hl,hil⟩:=ab_mem.1 ⟨p,ho⟩
     have:=top_le l hl
     omega
   have:=hn.link i hi (by
    rcases ho with ho | ho
    ·rw [if_pos (by omega)];exact .inl ho
    ·refine .inr ?_
     rw [ins_ab hkl]
     by_cases h1:p≤k
     ·rw [if_pos h1,if_pos h1];exact ho
     ·rw [if_neg h1,if_neg (by omega),if_neg (by omega),Nat.add_sub_cancel];exact ho)
   have hd:down k (if p≤k then p else p+1)=p:=by
    unfold down
    by_cases h1:p≤k
    ·rw [if_pos h1,if_pos h1]
    ·rw [if_neg h1,if_neg (by omega),Nat.add_sub_cancel]
   have hne:(if p≤k then p else p+1)≠k+1:=by split <;> omega
   obtain ⟨a,b⟩:=this
   have e1:({ outV s k x T T with bk:=outB s k x,last:=s.nd s.n }:Sv).to (if p≤k then p else p+1) i=s.go (nxt s.lv i p):=by
    show (if i<T∧_ then _ else _)=_
    rw [if_pos ⟨hiT,hne⟩,hd]
   have e2:({ outV s k x T T with bk:=outB s k x,last:=s.nd s.n }:Sv).sp (if p≤k then p else p+1) i=(span s.lv i p:Int):=by
    show (if i<T∧_ then _ else _)=_
    rw [if_pos ⟨hiT,hne⟩,hd]
   rw [e1] at a
   rw [e2] at b
   exact ⟨a,b⟩
  ·have hy:s.ns[p - 1]?=some y:=hy
   obtain ⟨a,b,c,d⟩:=hn.ent y (by split <;> omega) (by
    show (s.put k x).ns[_]?=_
    rw [Sk.put_get hk]
    by_cases h1:p≤k
    ·rw [if_pos h1,if_pos (by omega)];exact hy
    ·rw [if_neg h1,if_neg (by omega),if_neg (by omega),show p+1 - 1 - 1=p - 1 by omega];exact hy)
   refine ⟨a,b,c,?_⟩
   rw [d]
   show some (outB s k x (if p≤k then p else p+1))=some (s.nd (p - 1))
   unfold outB
   by_cases h1:p≤k
   ·rw [if_pos h1,if_neg (by omega),put_nd_low hk (by omega)]
   ·rw [if_neg h1]
    by_cases h2:p=k+1
    ·rw [if_pos (by omega),h2,Nat.add_sub_cancel]
    ·rw [if_neg (by omega)]
     unfold Sk.nd
     rw [if_neg (by omega),if_neg (by omega),Sk.put_at hk,if_neg (by omega),if_neg (by omega)]
     simp
  ·subst e
   exact hn.hd rfl
 ·have hp:p≤s.n:=hp
  have hq:q≤s.n:=hq
  have e:s.at_ p=s.at_ q:=e
  rw [← hat p hp,← hat q hq] at e
  have:=h.inj _ _ (by show _≤(s.put k x).ns.length;rw [hln];split <;> omega) (by show _≤(s.put k x).ns.length;rw [hln];split <;> omega) e
  split at this <;> split at this <;> omega
 ·have hp:p≤s.n:=hp
  show base≤s.at_ p
  rw [← hat p hp]
  exact h.ge _ (by show _≤(s.put k x).ns.length;rw [hln];split <;> omega)
theorem out_back (h:SvAt w base (outV s k x T T)) (hk:k≤s.n) (hT:top s.lv≤T):∀ w',w'=(if k<s.n then w.setCell ⟨s.at_ (k+1),67,none⟩ (s.nd k) else w.setCell ⟨s.blk,68,none⟩ (s.nd k)) →
  SvAt w' base { s.viewT T T with n:=(s.n:Int)+1 }∧Chg (outV s k x T T).foot w w':=by
 intro w' hw'
 by_cases hkn:k<s.n
 ·rw [if_pos hkn] at hw'
  obtain ⟨h1,c1⟩:=h.setBk (p:=k+2) (by omega) (by rw [out_len hk];omega) (s.nd k)
  have ea:(outV s k x T T).at_ (k+2)=s.at_ (k+1):=by show (s.put k x).at_ _=_;rw [Sk.put_at hk,if_neg (by omega),if_neg (by omega)];rfl
  rw [ea,← hw'] at h1 c1
  refine ⟨out_cut (h1.view rfl rfl (fun _ _ _ _ ho => ⟨ho,rfl,rfl⟩) (fun p _ _ => rfl) ?_ rfl rfl) hk hT,c1⟩
  show (s.put k x).nd (s.n+1)=s.nd s.n
  unfold Sk.nd
  rw [if_neg (by omega),if_neg (by omega),Sk.put_at hk,if_neg (by omega),if_neg (by omega),Nat.add_sub_cancel]
 ·rw [if_neg hkn] at hw'
  have hkn:k=s.n:=by omega
  obtain ⟨h1,c1⟩:=h.setHd 68 (s.nd k) { outV s k x T T with last:=s.nd k } rfl rfl rfl rfl rfl rfl (.inl ⟨rfl,rfl,rfl,rfl⟩)
  have eb:(outV s k x T T).blk=s.blk:=rfl
  rw [eb,← hw'] at h1 c1
  refine ⟨out_cut (h1.view rfl rfl (fun _ _ _ _ ho => ⟨ho,rfl,rfl⟩) (fun p h1p hp => ?_) (by show s.nd k=s.nd s.n;rw [hkn]) rfl rfl) hk hT,c1⟩
  have hp:p≤s.n+1:=by rw [← out_len (x:=x) hk (T:=T) (i:=T)];exact hp
  show (s.put k x).nd (p - 1)=outB s k x p
  unfold outB
  rw [if_neg (by omega)]
theorem out_down {m:Int} (h:SvAt w base { s.viewT (T+1) (T+1) with n:=m }) (hT:top s.lv≤T) :
  SvAt (w.setCell ⟨s.blk,69,none⟩ (.int .i64 (T:Int))) base { s.viewT T T with n:=m }∧Chg s.foot w (w.setCell ⟨s.blk,69,none⟩ (.int .i64 (T:Int))):=by
 obtain ⟨h1,c1⟩:=h.setHd 69 (.int .i64 (T:Int)) { s.viewT (T+1) T with n:=m } rfl rfl rfl rfl rfl rfl (.inr (.inl ⟨rfl,rfl,rfl,rfl⟩))
 refine ⟨h1.view rfl rfl (fun p j hp hj ho => ⟨?_,rfl,rfl⟩) (fun _ _ _ => rfl) rfl rfl rfl,c1⟩
 rcases ho with ho | ho
 ·exact .inl ⟨ho.1,by have:=ho.2;omega⟩
 ·exact .inr ho
theorem out_done {m:Int} (h:SvAt w base { s.viewT (top s.lv) (top s.lv) with n:=m }) (hlo:∀ y∈s.ns,1≤y.lvl∧y.lvl≤32) :
  SkAt (w.setCell ⟨s.blk,70,none⟩ (.int .i64 (s.n:Int))) base s∧Chg s.foot w (w.setCell ⟨s.blk,70,none⟩ (.int .i64 (s.n:Int))):=by
 obtain ⟨h1,c1⟩:=h.setHd 70 (.int .i64 (s.n:Int)) s.view rfl rfl rfl rfl rfl rfl (.inr (.inr ⟨rfl,rfl,rfl,rfl⟩))
 exact ⟨⟨h1,hlo⟩,c1⟩
end
end Go.Proofs.YtehpmbmdadkhbaaGreatDoor
