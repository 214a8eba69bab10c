/- Texts joined for EvictNone: SKY, PKW, PKE, ST, EN, PKC, PKD, IT2, PKA, PKB. -/
import Derived.Test.YtehpmbmdadkhbaaGreatDoorJEvictNonea
import Derived.Test.YtehpmbmdadkhbaaGreatDoorJEvictNoneb
import Derived.Deep.QuietTactic
import Derived.Deep.LoopGhost
import Derived.Laws.BitsAllLaws
import Derived.IntWalk
import Derived.Maps.AppendAt
import Derived.Deep.AppendLies
import Derived.RegionTactic
import Derived.OwnWalk
import Derived.OwnWalkIn
import Derived.Lib.AppendZerosOnto
import Derived.Lib.ConvBytes
import Derived.Deep.RegionHeld3
import Derived.Outline
set_option linter.unusedVariables false
set_option linter.unusedSimpArgs false

namespace Go.Proofs.YtehpmbmdadkhbaaGreatDoor
open Go.RowKit Pal Pal.Skip
attribute [local go_sem] Oper.semAt_some
set_option maxRecDepth 100000 in
theorem to1_any (g q b:Nat) (x e:En) (w:World) (hn:w.cell? ⟨g,0,none⟩=some (.string x.m)∧w.cell? ⟨g,1,none⟩=some (.int .i64 x.s)) (hb:Blk w b 68 #[.string e.m,.int .i64 e.s]) :
  Calls Tryz.prog 157 #[pt g,.int .i64 (q:Int),pt b] w fun r w' => r=.returned (.bool (decide (ltE x e)))∧Chg (fun _ => False) w w':=by
 unfold pt
 obtain ⟨n0,n1⟩:=hn
 have b0:=hb.cell 0
 have b1:=hb.cell 1
 simp only [List.getElem?_toArray,List.getElem?_cons_zero,List.getElem?_cons_succ] at b0 b1
 go_enter Tryz.func157,Tryz.ntmps157
 go_wp2_with fail
 go_still_tail 5,(by kernel_rfl)
 go_wp2_with (go_at_call 158;refine (less_E x e _).mono ?_;rintro r w1 ⟨rfl,hc⟩)
 go_ret
 exact ⟨rfl,(Chg.refl _ w).drew.trans hc⟩
def nil32:Array Value:=(List.replicate 32 (Value.pointer none)).toArray
def zero32:Array Value:=(List.replicate 32 (Value.int .i64 0)).toArray
theorem two32 (w:World):Blk ((w.alloc (.cells nil32 268)).alloc (.cells zero32 269)) w.heap.size 268 nil32∧Blk ((w.alloc (.cells nil32 268)).alloc (.cells zero32 269)) (w.heap.size+1) 269 zero32:=by
 refine ⟨(Blk.new w _ _).alloc _,?_⟩
 have:=Blk.new (w.alloc (.cells nil32 268)) 269 zero32
 rw [World.size_alloc] at this
 exact this
theorem node_pos {s:Sk} {q:Nat} (h1:1≤q) (hq:q≤s.n):∃ x,s.ns[q - 1]?=some x:=⟨_,List.getElem?_eq_getElem (by unfold Sk.n at hq;omega)⟩
theorem asks_to {s:Sk} {w:World} {base b:Nat} {e:En} (h:SkAt w base s) (hs:s.es.Pairwise ltE) (hb:Blk w b 68 #[.string e.m,.int .i64 e.s]):Asks s (ahead s.es e) 157 #[pt b] w:=by
 intro q W h1 hq hc
 obtain ⟨x,hx⟩:=node_pos h1 hq
 obtain ⟨k0,k1,_,_,_,ha⟩:=(h.chg0 hc).node hx
 rw [show q - 1+1=q by omega] at ha
 refine (to1_any (s.at_ q) q b x.en e W (by rw [ha];exact ⟨k0,k1⟩) (hb.chg hc id)).mono ?_
 rintro r W' ⟨rfl,hc'⟩
 refine ⟨?_,hc'⟩
 have:=ahead_lt (e:=e) hs (j:=q - 1) (x:=x.en) (by rw [s.es_get,hx];rfl)
 rw [show decide (ltE x.en e)=decide (q≤ahead s.es e) from by rw [decide_eq_decide,this];omega]
theorem until1_any (g:Nat) (q b p:Nat) (w:World) (hb:Blk w b 3 #[.int .i64 (p:Int)]) :
  Calls Tryz.prog 240 #[pt g,.int .i64 (q:Int),pt b] w fun r w' => r=.returned (.bool (decide (q≤p)))∧w=w':=by
 unfold pt
 have b0:=hb.cell 0
 simp only [List.getElem?_toArray,List.getElem?_cons_zero] at b0
 go_enter Tryz.func240,Tryz.ntmps240
 go_wp2_with fail
 go_ret
 exact ⟨by simp,rfl⟩
theorem asks_until {s:Sk} {w:World} {b p:Nat} (hb:Blk w b 3 #[.int .i64 (p:Int)]):Asks s p 240 #[pt b] w:=by
 intro q W h1 hq hc
 refine (until1_any (s.at_ q) q b p W (hb.chg hc id)).mono ?_
 rintro r W' ⟨rfl,rfl⟩
 exact ⟨rfl,Chg.refl _ _⟩
set_option maxRecDepth 100000 in
theorem to_any (s:Sk) (e:En) (w:World) (base:Nat) (h:SkAt w base s) (hs:s.es.Pairwise ltE) (hn:s.n≤100000) :
  Calls Tryz.prog 146 #[pt s.blk,e.val] w fun r w' => r=.returned (.tuple #[.agg (s.nodesL (ahead s.es e) 0).toArray,.agg (s.placesL (ahead s.es e) 0).toArray])∧Chg (fun _ => False) w w':=by
 unfold En.val pt
 have hkn:(ahead s.es e)≤s.n:=by have:=ahead_le s.es e;rwa [s.es_len] at this
 obtain ⟨l0,hl0⟩:∃ l0:List Obj,l0=[.cells #[.string e.m,.int .i64 e.s] 68,.cells (List.replicate 32 (.pointer none)).toArray 268,.cells (List.replicate 32 (.int .i64 0)).toArray 269]:=⟨_,rfl⟩
 have hget:∀ (i:Nat) (o:Obj),l0[i]?=some o→(l0.foldl World.alloc w).heap[w.heap.size+i]?=some o:=fun i o h => allocs_get l0 w i o h
 have hg0:=hget 0 _ (by rw [hl0];rfl)
 have hg1:=hget 1 _ (by rw [hl0];rfl)
 have hg2:=hget 2 _ (by rw [hl0];rfl)
 have hC0:Chg (fun _ => False) w (l0.foldl World.alloc w):=allocs_chg _ l0 w
 have hlN:(s.nodesL (ahead s.es e) 0).length=32:=by unfold Sk.nodesL;simp
 have hlP:(s.placesL (ahead s.es e) 0).length=32:=by unfold Sk.placesL;simp
 have hzN:(List.replicate 32 (Value.pointer none)).toArray.size=32:=rfl
 have hzP:(List.replicate 32 (Value.int .i64 0)).toArray.size=32:=rfl
 have hzN':(s.nodesL (ahead s.es e) 0).toArray.size=32:=by rw [← hlN];rfl
 have hzP':(s.placesL (ahead s.es e) 0).toArray.size=32:=by rw [← hlP];rfl
 go_enter Tryz.func146,Tryz.ntmps146
 go_wp2_with (first | (go_at_call 156;refine calls_world (l0.foldl World.alloc w) (by rw [hl0];rfl) ?_;refine (path_any s (ahead s.es e) 157 #[pt w.heap.size] (l0.foldl World.alloc w) base (h.chg0 hC0) hkn hn (enters_of Tryz.func157 (by kernel_rfl) rfl) (asks_to (h.chg0 hC0) hs hg0)).mono ?_;rintro r w4 ⟨rfl,hc4⟩;have hb1:=(show Blk _ (w.heap.size+1) _ _ from hg1).chg hc4 id;have hb2:=(show Blk _ (w.heap.size+2) _ _ from hg2).chg hc4 id;have hC4:=hC0.trans hc4;clear hg0 hg1 hg2 hget hC0 hc4 hl0) | (show wpList _ _ _ (Oper.mk _ (Op.store 268 _ _) _ _ _ _ :: _) _ _;refine wpList_store_blk rfl 268 _ _ rfl (w.heap.size+1) (s.nodesL (ahead s.es e) 0) rfl rfl hb1 hlN (by rw [hzN];kernel_rfl) (s.nodesL_one _ _) ?_;intro hb1') | (show wpList _ _ _ (Oper.mk _ (Op.store 269 _ _) _ _ _ _ :: _) _ _;refine wpList_store_blk rfl 269 _ _ rfl (w.heap.size+2) (s.placesL (ahead s.es e) 0) rfl rfl (Blk.farCells _ 0 _ (by omega) hb2) hlP (by rw [hzP];kernel_rfl) (s.placesL_one _ _) ?_;intro hb2'))
 refine bodyPost_ret (results_cells2 rfl _ (w.heap.size+1) (w.heap.size+2) _ _ (s.nodesL (ahead s.es e) 0).toArray (s.placesL (ahead s.es e) 0).toArray _ _ rfl (Blk.farCells _ 0 _ (by omega) hb1') Tryz.underlying268 rfl (by rw [hzN'];kernel_rfl) rfl hb2' Tryz.underlying269 rfl (by rw [hzP'];kernel_rfl)) rfl ⟨rfl,?_⟩
 exact setCells_chg _ 0 _ (by omega) (setCells_chg _ 0 _ (by omega) hC4)
set_option maxRecDepth 100000 in
theorem until_any (s:Sk) (p:Nat) (w:World) (base:Nat) (h:SkAt w base s) (hp:p≤s.n) (hn:s.n≤100000) :
  Calls Tryz.prog 236 #[pt s.blk,.int .i64 (p:Int)] w fun r w' => r=.returned (.tuple #[.agg (s.nodesL p 0).toArray,.agg (s.placesL p 0).toArray])∧Chg (fun _ => False) w w':=by
 unfold pt
 have hkn:p≤s.n:=hp
 obtain ⟨l0,hl0⟩:∃ l0:List Obj,l0=[.cells #[.int .i64 (p:Int)] 3,.cells (List.replicate 32 (.pointer none)).toArray 268,.cells (List.replicate 32 (.int .i64 0)).toArray 269]:=⟨_,rfl⟩
 have hget:∀ (i:Nat) (o:Obj),l0[i]?=some o→(l0.foldl World.alloc w).heap[w.heap.size+i]?=some o:=fun i o h => allocs_get l0 w i o h
 have hg0:=hget 0 _ (by rw [hl0];rfl)
 have hg1:=hget 1 _ (by rw [hl0];rfl)
 have hg2:=hget 2 _ (by rw [hl0];rfl)
 have hC0:Chg (fun _ => False) w (l0.foldl World.alloc w):=allocs_chg _ l0 w
 have hlN:(s.nodesL p 0).length=32:=by unfold Sk.nodesL;simp
 have hlP:(s.placesL p 0).length=32:=by unfold Sk.placesL;simp
 have hzN:(List.replicate 32 (Value.pointer none)).toArray.size=32:=rfl
 have hzP:(List.replicate 32 (Value.int .i64 0)).toArray.size=32:=rfl
 have hzN':(s.nodesL p 0).toArray.size=32:=by rw [← hlN];rfl
 have hzP':(s.placesL p 0).toArray.size=32:=by rw [← hlP];rfl
 go_enter Tryz.func236,Tryz.ntmps236
 go_wp2_with (first | (go_at_call 156;refine calls_world (l0.foldl World.alloc w) (by rw [hl0];rfl) ?_;refine (path_any s p 240 #[pt w.heap.size] (l0.foldl World.alloc w) base (h.chg0 hC0) hkn hn (enters_of Tryz.func240 (by kernel_rfl) rfl) (asks_until hg0)).mono ?_;rintro r w4 ⟨rfl,hc4⟩;have hb1:=(show Blk _ (w.heap.size+1) _ _ from hg1).chg hc4 id;have hb2:=(show Blk _ (w.heap.size+2) _ _ from hg2).chg hc4 id;have hC4:=hC0.trans hc4;clear hg0 hg1 hg2 hget hC0 hc4 hl0) | (show wpList _ _ _ (Oper.mk _ (Op.store 268 _ _) _ _ _ _ :: _) _ _;refine wpList_store_blk rfl 268 _ _ rfl (w.heap.size+1) (s.nodesL p 0) rfl rfl hb1 hlN (by rw [hzN];kernel_rfl) (s.nodesL_one _ _) ?_;intro hb1') | (show wpList _ _ _ (Oper.mk _ (Op.store 269 _ _) _ _ _ _ :: _) _ _;refine wpList_store_blk rfl 269 _ _ rfl (w.heap.size+2) (s.placesL p 0) rfl rfl (Blk.farCells _ 0 _ (by omega) hb2) hlP (by rw [hzP];kernel_rfl) (s.placesL_one _ _) ?_;intro hb2'))
 refine bodyPost_ret (results_cells2 rfl _ (w.heap.size+1) (w.heap.size+2) _ _ (s.nodesL p 0).toArray (s.placesL p 0).toArray _ _ rfl (Blk.farCells _ 0 _ (by omega) hb1') Tryz.underlying268 rfl (by rw [hzN'];kernel_rfl) rfl hb2' Tryz.underlying269 rfl (by rw [hzP'];kernel_rfl)) rfl ⟨rfl,?_⟩
 exact setCells_chg _ 0 _ (by omega) (setCells_chg _ 0 _ (by omega) hC4)
theorem len_any (s:Sk) (w:World) (base:Nat) (h:SkAt w base s):Calls Tryz.prog 224 #[pt s.blk] w fun r w' => r=.returned (.int .i64 (s.n:Int))∧w=w':=by
 obtain ⟨_,_,h2,h3,_⟩:=h.head
 unfold pt
 go_enter Tryz.func224,Tryz.ntmps224
 go_wp2_with fail
 go_ret
 exact ⟨rfl,rfl⟩
def clampN (n:Nat) (i:Int):Nat:=min i.toNat n
theorem within_any (s:Sk) (i j:Int) (w:World) (base:Nat) (h:SkAt w base s) :
  Calls Tryz.prog 235 #[pt s.blk,.int .i64 i,.int .i64 j] w fun r w' => r=.returned (.tuple #[.int .i64 (clampN s.n i:Int),.int .i64 ((max (clampN s.n i) (clampN s.n j):Nat):Int)])∧w=w':=by
 have hl:=fun w (h:SkAt w base s) => len_any s w base h
 unfold pt at hl ⊢
 go_enter Tryz.func235,Tryz.ntmps235
 go_wp2_with (go_at_call 224;refine (hl _ h).mono ?_;rintro r w' ⟨rfl,rfl⟩)
 go_ret2
 refine ⟨?_,rfl⟩
 show Ending.returned (.tuple #[.int .i64 (max 0 (min i (s.n:Int))),.int .i64 (max 0 (max (min i (s.n:Int)) (min j (s.n:Int))))])=_
 rw [show max 0 (min i (s.n:Int))=((clampN s.n i:Nat):Int) by unfold clampN;omega,show max 0 (max (min i (s.n:Int)) (min j (s.n:Int)))=((max (clampN s.n i) (clampN s.n j):Nat):Int) by unfold clampN;omega]
set_option maxRecDepth 100000 in
theorem seek_any (s:Sk) (e:En) (w:World) (base:Nat) (h:SkAt w base s) (hs:s.es.Pairwise ltE) (hn:s.n≤100000) :
  Calls Tryz.prog 145 #[pt s.blk,e.val] w fun r w' => r=.returned (.tuple #[.int .i64 (ahead s.es e:Int),.bool (decide (e∈s.es))])∧Chg (fun _ => False) w w':=by
 obtain ⟨_,ht,_,hlt,hfr⟩:=h.head
 have hto:=fun w (h:SkAt w base s) => to_any s e w base h hs hn
 have hkn:ahead s.es e≤s.n:=by have:=ahead_le s.es e;rwa [s.es_len] at this
 have hmem:=ahead_mem (e:=e) hs
 unfold En.val pt at hto ⊢
 by_cases h0:top s.lv=0
 ·rw [h0] at ht
  have hn0:=h.top0.1 h0
  have he:s.es=[]:=List.eq_nil_of_length_eq_zero (by rw [s.es_len];exact hn0)
  go_enter Tryz.func145,Tryz.ntmps145
  go_wp2_with fail
  go_ret2
  exact ⟨by rw [he];simp [ahead],(Chg.refl _ w).alloc _⟩
 ·have ht0:((top s.lv:Int) == 0)=false:=by rw [beq_eq_false_iff_ne];omega
  have htop:=h.top_le
  obtain ⟨k,hke⟩:∃ k,k=ahead s.es e:=⟨_,rfl⟩
  rw [← hke] at hto hkn hmem ⊢
  replace hke:=Lib.hid hke
  have hlN:(s.nodesL k 0).length=32:=by unfold Sk.nodesL;simp
  have hlP:(s.placesL k 0).length=32:=by unfold Sk.placesL;simp
  have hzN:nil32.size=32:=rfl
  have hzP:zero32.size=32:=rfl
  have hN0:=s.nodesL_get k (j:=0) (by omega) (by omega)
  have hP0:=s.placesL_get k (j:=0) (by omega) (by omega)
  rw [h.prev0 hkn] at hN0 hP0
  unfold pt at hN0
  have hk0:k=0∨ab s.lv 0 k:=by
   rcases Nat.eq_zero_or_pos k with e | e
   ·exact .inl e
   ·exact .inr (h.lv_pos e hkn)
  have hnx:=h.nxt0 k
  by_cases hkl:k<s.n
  ·rw [if_pos hkl] at hnx
   obtain ⟨x,hx⟩:∃ x,s.ns[k]?=some x:=⟨_,List.getElem?_eq_getElem hkl⟩
   have hxe:s.es[k]?=some x.en:=by rw [s.es_get,hx];rfl
   rw [hxe] at hmem
   have hxat:=(h.node hx).2.2.2.2.2
   go_enter Tryz.func145,Tryz.ntmps145
   go_wp2_with (first | (go_at_call 146;refine (hto _ (h.chg0 ((Chg.refl _ w).alloc _))).mono ?_;rintro r w4 ⟨rfl,hc4⟩;have hbe:=(Blk.new w 68 #[.string e.m,.int .i64 e.s]).chg hc4 id;have hC4:=((Chg.refl (fun _ => False) w).alloc (.cells #[.string e.m,.int .i64 e.s] 68)).trans hc4;have hlt4:=hbe.lt;clear hc4) | (show wpList _ _ _ (Oper.mk _ (Op.store 268 _ _) _ _ _ _ :: _) _ _;refine wpList_store_new rfl 268 _ _ rfl w4.heap.size (s.nodesL k 0) rfl rfl (two32 w4).1 hlN (by rw [hzN];kernel_rfl) (s.nodesL_one _ _) ?_;intro w5 hb5 ho5 hc5) | (show wpList _ _ _ (Oper.mk _ (Op.store 269 _ _) _ _ _ _ :: _) _ _;refine wpList_store_new rfl 269 _ _ rfl (w4.heap.size+1) (s.placesL k 0) rfl rfl ((two32 w4).2.other (ho5 _ (by omega))) hlP (by rw [hzP];kernel_rfl) (s.placesL_one _ _) ?_;intro w6 hb6 ho6 hc6;have hC6:Chg (fun _ => False) w w6:=hc6 (fun h => by have:=hC4.size;omega) (hc5 (fun h => by have:=hC4.size;omega) ((hC4.alloc _).alloc _));have hS6:=h.chg0 hC6;have n0:=(hb5.other (ho6 _ (by omega))).cell 0;have p0:=hb6.cell 0;rw [List.getElem?_toArray,hN0] at n0;rw [List.getElem?_toArray,hP0] at p0;have hbe6:=(((hbe.alloc _).alloc _).other (ho5 _ (by omega))).other (ho6 _ (by omega));have e0:=hbe6.cell 0;have e1:=hbe6.cell 1;simp only [List.getElem?_toArray,List.getElem?_cons_zero,List.getElem?_cons_succ] at e0 e1;have lk:=(hS6.link (p:=k) (i:=0) hk0 (by omega)).1;rw [hnx] at lk;simp only [Sk.go,Nat.zero_mul,Nat.add_zero] at lk;clear hb5 hb6 ho5 ho6 hc5 hc6 hC4 hbe hbe6 hlt4;unfold pt at lk;rw [hxat] at lk;obtain ⟨x0,x1,_,_,hxl,_⟩:=hS6.node hx))
   have heq:=fun W => eq_entry x.en e W
   simp only [Sn.en] at heq
   go_quiet (fail)
   go_wp2_with fail
   go_ret2
   refine ⟨?_,hC6.trans ((Chg.refl _ _).drewN _)⟩
   rw [show decide (e∈s.es)=decide (({ m:=x.key,s:=x.score }:En)=e) from by rw [decide_eq_decide,hmem];exact ⟨fun h => by injection h,fun h => by rw [← h];rfl⟩]
   rfl
  ·rw [if_neg hkl] at hnx
   have hxe:s.es[k]?=none:=List.getElem?_eq_none (by rw [s.es_len];omega)
   rw [hxe] at hmem
   go_enter Tryz.func145,Tryz.ntmps145
   go_wp2_with (first | (go_at_call 146;refine (hto _ (h.chg0 ((Chg.refl _ w).alloc _))).mono ?_;rintro r w4 ⟨rfl,hc4⟩;have hbe:=(Blk.new w 68 #[.string e.m,.int .i64 e.s]).chg hc4 id;have hC4:=((Chg.refl (fun _ => False) w).alloc (.cells #[.string e.m,.int .i64 e.s] 68)).trans hc4;have hlt4:=hbe.lt;clear hc4) | (show wpList _ _ _ (Oper.mk _ (Op.store 268 _ _) _ _ _ _ :: _) _ _;refine wpList_store_new rfl 268 _ _ rfl w4.heap.size (s.nodesL k 0) rfl rfl (two32 w4).1 hlN (by rw [hzN];kernel_rfl) (s.nodesL_one _ _) ?_;intro w5 hb5 ho5 hc5) | (show wpList _ _ _ (Oper.mk _ (Op.store 269 _ _) _ _ _ _ :: _) _ _;refine wpList_store_new rfl 269 _ _ rfl (w4.heap.size+1) (s.placesL k 0) rfl rfl ((two32 w4).2.other (ho5 _ (by omega))) hlP (by rw [hzP];kernel_rfl) (s.placesL_one _ _) ?_;intro w6 hb6 ho6 hc6;have hC6:Chg (fun _ => False) w w6:=hc6 (fun h => by have:=hC4.size;omega) (hc5 (fun h => by have:=hC4.size;omega) ((hC4.alloc _).alloc _));have hS6:=h.chg0 hC6;have n0:=(hb5.other (ho6 _ (by omega))).cell 0;have p0:=hb6.cell 0;rw [List.getElem?_toArray,hN0] at n0;rw [List.getElem?_toArray,hP0] at p0;have hbe6:=(((hbe.alloc _).alloc _).other (ho5 _ (by omega))).other (ho6 _ (by omega));have e0:=hbe6.cell 0;have e1:=hbe6.cell 1;simp only [List.getElem?_toArray,List.getElem?_cons_zero,List.getElem?_cons_succ] at e0 e1;have lk:=(hS6.link (p:=k) (i:=0) hk0 (by omega)).1;rw [hnx] at lk;simp only [Sk.go,Nat.zero_mul,Nat.add_zero] at lk;clear hb5 hb6 ho5 ho6 hc5 hc6 hC4 hbe hbe6 hlt4))
   go_quiet (fail)
   go_wp2_with fail
   go_ret2
   refine ⟨?_,hC6.trans ((Chg.refl _ _).drewN _)⟩
   rw [show decide (e∈s.es)=false from by rw [decide_eq_false_iff_not,hmem];exact nofun]
   rfl
end Go.Proofs.YtehpmbmdadkhbaaGreatDoor

namespace Go.Proofs.YtehpmbmdadkhbaaGreatDoor
open Go.RowKit Pal
attribute [local go_sem] Oper.semAt_some
theorem wrap_eq (n:Int):IntKind.i64.wrap n=wrap64 n:=by unfold wrap64;exact IntKind.wrap_i64 n
theorem u64_eq {a b:Int} (h:a=b):Value.int .u64 a=.int .u64 b:=by rw [h]
theorem or_zero_i64 (n:Nat) (h:n<65536):bits .or .i64 0 (n:Int)=(n:Int):=by
 show IntKind.i64.wrap ((BitVec.ofInt 64 0 ||| BitVec.ofInt 64 (n:Int)).toNat:Int)=_
 have e:(BitVec.ofInt 64 (n:Int)).toNat=n:=by
  rw [BitVec.toNat_ofInt]
  show ((n:Int) % 18446744073709551616).toNat=n
  omega
 have e0:(BitVec.ofInt 64 0).toNat=0:=by decide
 rw [BitVec.toNat_or,e,e0,Nat.zero_or]
 exact IntWalk.i64_in _ (by omega)
theorem or_add {a b:Nat} (hb:b<256):a * 256 ||| b=a * 256+b:=by
 rw [show a * 256=2 ^ 8 * a by omega,Nat.two_pow_add_eq_or_of_lt (by omega:b<2 ^ 8)]
theorem u64_step {a b:Nat} (ha:a<72057594037927936) (hb:b<256):bits .or .u64 ((a:Int) * 256) (b:Int)=((a * 256+b:Nat):Int):=by
 have e:(a:Int) * 256=((a * 256:Nat):Int):=by omega
 rw [e,u64_or_nat _ _ (by omega) (by omega),or_add hb]
set_option maxHeartbeats 1000000 in
theorem read_off (p:ByteArray) (a n:Nat) (w:World) (hp:p.size≤100000) (h1:a+n+9<p.size) (hn:n≤64) (f:Nat→Nat) (hf1:∀ i,f i<256) (hf2:∀ i (hi:i<8),(p[a+1+n+i]'(by omega)).toNat=f i) (X:Nat) (hX:Hid (acc8 f 8=X)) (hb:(p[a]'(by omega)).toNat=n) (he:(p[a+n+9]'(by omega)).toNat=n+9) :
  Calls Tryz.prog 221 #[.string p,.int .i64 (a:Int)] w fun r w' => r=.returned (.tuple #[.agg #[.string (p.extract (a+1) (a+1+n)),.int .i64 (IntKind.i64.wrap (X:Int))],.int .i64 ((n+10:Nat):Int)])∧Chg (fun _ => False) w w':=by
 have hlt:a<p.size:=by omega
 have hlt':¬ (a:Int) ≥ (p.size:Int):=by omega
 have hp':(p.size:Int)≤100000:=by omega
 have hn':(n:Int)≤64:=by omega
 have hnn:¬ (n:Int) > 64:=by omega
 have hend:(a:Int)+9+(n:Int)<(p.size:Int):=by omega
 have hend0:0≤(a:Int)+9+(n:Int):=by omega
 have hidx:a+9+n<p.size:=by omega
 have hlast:(wrap64 (p[a+9+n].toNat:Int) != 9+(n:Int))=false:=by
  have e:p[a+9+n].toNat=n+9:=by
   rw [← he];congr 2;omega
  rw [e,IntWalk.wrap64_in _ (by omega),bne_eq_false_iff_eq]
  omega
 clear he
 go_enter Tryz.func221,Tryz.ntmps221
 go_wp2_with fail
 clear hlast hb
 go_loopg [8,41] 8 (fun m x c W => ∃ i:Nat,c=.int .i64 (i:Int)∧m=8 - i∧i≤8∧x=.int .u64 (acc8 f i:Int)∧W=w.alloc (.cells #[.string ⟨#[]⟩,.int .i64 0] 68))
 case atStart => exact ⟨0,rfl,rfl,by omega,rfl,rfl⟩
 case round =>
  obtain ⟨i,rfl,rfl,hi,rfl,rfl⟩:=hrel
  by_cases hi8:i<8
  ·have hi8':(i:Int)<8:=by omega
   have hidx:a+1+n+i<p.size:=by omega
   have hidx':(a:Int)+1+(n:Int)+(i:Int)<(p.size:Int):=by omega
   have hidx0:0≤(a:Int)+1+(n:Int)+(i:Int):=by omega
   have hfi:=hf2 i hi8
   have hff:=hf1 i
   have hacc:=acc8_lt hf1 i
   have hp7:256 ^ i≤256 ^ 7:=Nat.pow_le_pow_right (by omega) (by omega)
   have hacc7:acc8 f i<72057594037927936:=by
    have:(256:Nat) ^ 7=72057594037927936:=by decide
    omega
   clear hacc hp7
   go_wp2_with fail
   go_roundg (8 - (i+1))
   case rel => exact ⟨i+1,int_eq (by omega),rfl,by omega,u64_eq (u64_step hacc7 hff),rfl⟩
   case measure => omega
  ·obtain rfl:i=8:=by omega
   rw [hX.out]
   clear hX
   clear hi hi8 hf1 hf2
   have s1:(a:Int)+1≤(a:Int)+1+(n:Int):=by omega
   have s2:(a:Int)+1+(n:Int)≤(p.size:Int):=by omega
   have s0:0≤(a:Int)+1:=by omega
   go_wp2_with fail
   refine bodyPost_ret (v:=.tuple #[.agg #[.string (p.extract (a+1) (a+1+n)),.int .i64 (wrap64 (X:Int))],.int .i64 (9+(n:Int)+1)]) (by simp [results,Tryz.results221,go_sem]) rfl ⟨?_,(Chg.refl _ _).alloc _⟩
   rw [wrap_eq,show ((n+10:Nat):Int)=9+(n:Int)+1 by omega]
theorem read_end (p:ByteArray) (a:Nat) (w:World) (h:p.size≤a):Calls Tryz.prog 221 #[.string p,.int .i64 (a:Int)] w fun r w' => r=.returned (.tuple #[.agg #[.string ⟨#[]⟩,.int .i64 0],.int .i64 0])∧Chg (fun _ => False) w w':=by
 have h1:(a:Int) ≥ (p.size:Int):=by omega
 have h2:p.size≤a:=h
 go_enter Tryz.func221,Tryz.ntmps221
 go_wp2_with fail
 refine bodyPost_ret (v:=.tuple #[.agg #[.string ⟨#[]⟩,.int .i64 0],.int .i64 0]) (by simp [results,Tryz.results221,go_sem]) rfl ⟨rfl,(Chg.refl _ _).alloc _⟩
theorem read_at (l:List En) (k:Nat) (e:En) (hp:POk l) (h:l[k]?=some e) (w:World):Calls Tryz.prog 221 #[.string (pk l),.int .i64 (offE l k:Int)] w fun r w' => r=.returned (.tuple #[e.val,.int .i64 ((e.m.size+10:Nat):Int)])∧Chg (fun _ => False) w w':=by
 obtain ⟨h1,h2,h3⟩:=hp.ok e (List.mem_of_getElem? h)
 have hle:=offE_lt h
 have hsz:=pk_le hp
 have:=read_off (pk l) (offE l k) e.m.size w (by omega) (by omega) h1 (fun i => u64N e.s / 2 ^ (8 * (7 - i)) % 256) (fun i => Nat.mod_lt _ (by omega)) (fun i hi => pk_be h hi _) (u64N e.s) (acc8_be e.s) (pk_first h h1 _) (by
  have:=pk_last h h1 (by omega)
  rw [← this];congr 2)
 rw [wrap_u64N h2 h3,pk_extract h] at this
 exact this
theorem read_no (l:List En) (w:World):Calls Tryz.prog 221 #[.string (pk l),.int .i64 (offE l l.length:Int)] w fun r w' => r=.returned (.tuple #[.agg #[.string ⟨#[]⟩,.int .i64 0],.int .i64 0])∧Chg (fun _ => False) w w' :=
 read_end _ _ w (by rw [offE_end];exact Nat.le_refl _)
theorem bytes_any (g n c:Nat) (w:World) (hn:n≤c) (hc:c≤1000000):Calls Tryz.prog 144 #[.slice (some ⟨g,0,none⟩) n c] w fun r w' => r=.returned (.slice (some ⟨g,0,none⟩) n n)∧w=w':=by
 have h1:(n:Int)≤(c:Int):=by omega
 have h2:(c:Int)≤1000000:=by omega
 go_enter Tryz.func144,Tryz.ntmps144
 go_wp2_with fail
 go_ret
 exact ⟨rfl,rfl⟩
theorem head_any (n:Nat) (w:World) (hn:n≤1000):Calls Tryz.prog 137 #[.int .i64 (n:Int)] w fun r w' => r=.returned (.slice (some ⟨w.heap.size,0,none⟩) 2 2)∧w.alloc (.cells #[.int .u8 ((n / 256:Nat):Int),.int .u8 ((n % 256:Nat):Int)] 5)=w':=by
 have h2:(n:Int)≤1000:=by omega
 go_enter Tryz.func137,Tryz.ntmps137
 go_wp2_with (go_at_call 144;refine (bytes_any _ 2 2 _ (by omega) (by omega)).mono ?_;rintro r w' ⟨rfl,rfl⟩)
 go_ret
 exact ⟨rfl,rfl⟩
theorem count_any (l:List En) (hp:POk l) (w:World):Calls Tryz.prog 214 #[.string (pk l)] w fun r w' => r=.returned (.int .i64 (l.length:Int))∧Chg (fun _ => False) w w':=by
 have hsz:=pk_size l
 have hsz2:=pk_le hp
 have hlen:=hp.len
 have h0:0<(pk l).size:=by omega
 have h1:1<(pk l).size:=by omega
 have b0:((pk l)[0]'h0).toNat=l.length / 256:=by
  have:=pk_get h0
  have e:(enc l)[0]?=some (UInt8.ofNat (l.length / 256)):=rfl
  rw [e] at this;injection this with this;rw [← this,UInt8.toNat_ofNat'];omega
 have b1:((pk l)[1]'h1).toNat=l.length:=by
  have:=pk_get h1
  have e:(enc l)[1]?=some (UInt8.ofNat l.length):=rfl
  rw [e] at this;injection this with this;rw [← this,UInt8.toNat_ofNat'];omega
 rw [show l.length / 256=0 by omega] at b0
 generalize pk l=p at *
 generalize l.length=n at *
 have h2:¬ (p.size:Int)<2:=by omega
 have h3:(n:Int)≤200:=by omega
 have hor:=or_zero_i64 n (by omega)
 clear hsz
 go_enter Tryz.func214,Tryz.ntmps214
 go_wp2_with fail
 go_quiet (fail)
 go_wp2_with fail
 go_ret
 exact ⟨rfl,(Chg.refl _ _).drewN _⟩
end Go.Proofs.YtehpmbmdadkhbaaGreatDoor

namespace Go.Proofs.YtehpmbmdadkhbaaGreatDoor
open Go.RowKit Pal
attribute [local go_sem] Oper.semAt_some
def bytesV (l:List UInt8):List Value:=Lib.byteCells l
theorem bytesV_len (l:List UInt8):(bytesV l).length=l.length:=Lib.byteCells_length l
theorem byte_info:(Tryz.prog.info? 5).map (fun i => (i.zero,i.size,i.bytes))=some (some (.int .u8 0),1,1):=by kernel_rfl
theorem run_make_bytes (n:Nat) (hn:n≤1000000) (w:World) :
  (Instr.makeSlice 66 (.int .i64 (n:Int)) (.int .i64 (n:Int))).run Tryz.prog w=.ok (.slice (some ⟨w.heap.size,0,none⟩) n n) (w.alloc (.cells (List.replicate n (.int .u8 0)).toArray 5)):=by
 obtain ⟨i0,hi,hz0,hz1,hz2⟩:=info_parts byte_info
 have hr:=run_make (P:=Tryz.prog) w 66 5 i0 (.int .u8 0) Tryz.underlying66 hi hz0 .i64 .i64 n n (by omega) (by omega) (by rw [hz2];omega) (by omega)
 simp only [Int.toNat_natCast] at hr
 have h:madeCells (Value.int .u8 0).cells (n * i0.size)=(List.replicate n (.int .u8 0)).toArray:=by
  rw [hz1,Nat.mul_one]
  apply Array.toList_inj.1
  simp [Value.cells,toList_madeCells_one]
 rw [hr,h]
def curE (e:En) (i:Nat):List Value:=(bytesV (encE e)).take (1+e.m.size+i)++List.replicate (9 - i) (.int .u8 0)
theorem curE_len (e:En) {i:Nat} (hi:i≤9):(curE e i).length=e.m.size+10:=by
 unfold curE
 rw [List.length_append,List.length_take,bytesV_len,encE_len,List.length_replicate];omega
theorem curE_zero (e:En) (he:e.m.size≤64):((Array.replicate (e.m.size+10) (Value.int .u8 0)).setIfInBounds 0 (.int .u8 (e.m.size:Int))).toList.take 1++Lib.byteCells e.m.data.toList ++
  ((Array.replicate (e.m.size+10) (Value.int .u8 0)).setIfInBounds 0 (.int .u8 (e.m.size:Int))).toList.drop (1+e.m.size)=curE e 0:=by
 have h1:((Array.replicate (e.m.size+10) (Value.int .u8 0)).setIfInBounds 0 (.int .u8 (e.m.size:Int))).toList=.int .u8 (e.m.size:Int) :: List.replicate (e.m.size+9) (.int .u8 0):=by
  rw [Array.toList_setIfInBounds,Array.toList_replicate,show e.m.size+10=(e.m.size+9)+1 by omega,List.replicate_succ,List.set_cons_zero]
 rw [h1]
 have h2:(Value.int .u8 (e.m.size:Int) :: List.replicate (e.m.size+9) (Value.int .u8 0)).drop (1+e.m.size)=List.replicate 9 (.int .u8 0):=by
  rw [Nat.add_comm 1,List.drop_succ_cons,List.drop_replicate,Nat.add_sub_cancel_left]
 rw [h2]
 unfold curE
 have h3:(bytesV (encE e)).take (1+e.m.size+0)=.int .u8 (e.m.size:Int) :: Lib.byteCells e.m.data.toList:=by
  unfold encE bytesV Lib.byteCells
  rw [List.map_cons,List.map_append,Nat.add_zero,Nat.add_comm 1,List.take_succ_cons,List.take_append_of_le_length (by rw [List.length_map,size_toList];exact Nat.le_refl _),List.take_of_length_le (by rw [List.length_map,size_toList];exact Nat.le_refl _),UInt8.toNat_ofNat',Nat.mod_eq_of_lt (by omega)]
 rw [h3];rfl
theorem curE_succ (e:En) {i:Nat} (hi:i<9) {v:Value} (hv:(bytesV (encE e))[1+e.m.size+i]?=some v):(curE e i).set (1+e.m.size+i) v=curE e (i+1):=by
 have hl:((bytesV (encE e)).take (1+e.m.size+i)).length=1+e.m.size+i:=by rw [List.length_take,bytesV_len,encE_len];omega
 unfold curE
 rw [List.set_append_right _ _ (by omega),hl,Nat.sub_self,show 9 - i=(9 - (i+1))+1 by omega,List.replicate_succ,List.set_cons_zero,← Nat.add_assoc,List.take_add_one,hv,Option.toList_some,List.append_assoc]
 rfl
theorem curE_end (e:En):curE e 9=bytesV (encE e):=by
 unfold curE
 rw [List.take_of_length_le (by rw [bytesV_len,encE_len];omega),Nat.sub_self,List.replicate_zero,List.append_nil]
theorem bytesV_get {l:List UInt8} {i:Nat} {b:UInt8} (h:l[i]?=some b):(bytesV l)[i]?=some (.int .u8 (b.toNat:Int)):=by
 unfold bytesV Lib.byteCells;rw [List.getElem?_map,h];rfl
theorem u64N_wrap (s:Int):IntKind.u64.wrap s=(u64N s:Int):=by
 have e:IntKind.u64.wrap s=s % 18446744073709551616:=by simp [IntKind.wrap,IntKind.bits,IntKind.signed]
 rw [e];unfold u64N;rw [Int.toNat_of_nonneg (Int.emod_nonneg _ (by decide))]
theorem be_val (s:Int) (k:Nat):Value.int .u8 (IntKind.u64.wrap s / 2 ^ k % 256)=.int .u8 ((UInt8.ofNat (u64N s / 2 ^ k)).toNat:Int):=by
 rw [u64N_wrap,UInt8.toNat_ofNat']
 congr 1
theorem byte_size:(Tryz.prog.info? 5).map (·.size)=some 1:=by kernel_rfl
set_option maxRecDepth 100000 in
theorem entry_any (e:En) (he:EnOk e) (w:World):Calls Tryz.prog 218 #[e.val] w fun r w' => r=.returned (.slice (some ⟨w.heap.size+1,0,none⟩) (e.m.size+10) (e.m.size+10))∧Blk w' (w.heap.size+1) 5 (bytesV (encE e)).toArray∧Chg (fun _ => False) w w':=by
 obtain ⟨h1,h2,h3⟩:=he
 have hn:(e.m.size:Int)≤64:=by omega
 have hmk:=run_make_bytes (e.m.size+10) (by omega)
 rw [show ((e.m.size+10:Nat):Int)=9+(e.m.size:Int)+1 by omega] at hmk
 unfold En.val
 go_enter Tryz.func218,Tryz.ntmps218
 go_wp2_with fail
 have hb:=Blk.new (w.alloc (Obj.cells #[Value.string e.m,Value.int IntKind.i64 e.s] 68)) 5 ((Array.replicate (e.m.size+10) (Value.int IntKind.u8 0)).setIfInBounds 0 (Value.int IntKind.u8 (e.m.size:Int)))
 have hb0:=(Blk.new w 68 #[Value.string e.m,Value.int IntKind.i64 e.s]).alloc (Obj.cells ((Array.replicate (e.m.size+10) (Value.int IntKind.u8 0)).setIfInBounds 0 (Value.int IntKind.u8 (e.m.size:Int))) 5)
 have hC:Chg (fun _ => False) w ((w.alloc (Obj.cells #[Value.string e.m,Value.int IntKind.i64 e.s] 68)).alloc (Obj.cells ((Array.replicate (e.m.size+10) (Value.int IntKind.u8 0)).setIfInBounds 0 (Value.int IntKind.u8 (e.m.size:Int))) 5)):=((Chg.refl _ w).alloc _).alloc _
 rw [World.size_alloc] at hb
 generalize (w.alloc (Obj.cells #[Value.string e.m,Value.int IntKind.i64 e.s] 68)).alloc (Obj.cells ((Array.replicate (e.m.size+10) (Value.int IntKind.u8 0)).setIfInBounds 0 (Value.int IntKind.u8 (e.m.size:Int))) 5)=W at hb hb0 hC ⊢
 have c0:=hb0.cell 0
 have lb:=hb.lt
 simp only [List.getElem?_toArray,List.getElem?_cons_zero] at c0
 clear hmk h2 h3
 generalize hN:e.m.size+10=N
 have n1:(1:Int)≤(N:Int):=by omega
 have n2:(N=1)=False:=by simp;omega
 have n3:(N:Int)≤100:=by omega
 replace hN:=Lib.hid hN
 go_still_tail 4,(by kernel_rfl)
 refine wpList_copy_row rfl (.tmp 18) (.tmp 20) 66 9 rfl 5 Tryz.underlying66 byte_size (w.heap.size+1) 1 (N - 1) (N - 1) rfl e.m rfl _ 5 hb.drew (by have:=hN.out;omega) (by simp;omega) ?_
 rw [curE_zero e h1]
 have hb2:Blk (W.drew.setRow (w.heap.size+1) (curE e 0).toArray) (w.heap.size+1) 5 (curE e 0).toArray:=setRow_heap _ _ _ _ _ _ hb.drew
 have hb3:Blk (W.drew.setRow (w.heap.size+1) (curE e 0).toArray) w.heap.size 68 #[Value.string e.m,Value.int IntKind.i64 e.s]:=(setRow_other _ _ _ _ (by omega)).trans hb0.drew
 have hC2:Chg (fun _ => False) w (W.drew.setRow (w.heap.size+1) (curE e 0).toArray):=setRow_chg (fun h => by omega) _ hC.drew
 clear hb hb0 hC c0 lb
 change wpList _ _ _ _ _ (World.setRow (World.drew W) _ _)
 generalize W.drew.setRow (w.heap.size+1) (curE e 0).toArray=W1 at hb2 hb3 hC2 ⊢
 go_wp2_with fail
 go_loopg [22] 8 (fun m c V => ∃ i:Nat,c=.int .i64 (i:Int)∧m=8 - i∧i≤8∧Blk V (w.heap.size+1) 5 (curE e i).toArray∧Blk V w.heap.size 68 #[Value.string e.m,Value.int IntKind.i64 e.s]∧Chg (fun _ => False) w V)
 case atStart => exact ⟨0,rfl,rfl,by omega,hb2,hb3,hC2⟩
 case round =>
  clear hb2 hb3 hC2 W1
  obtain ⟨i,rfl,rfl,hi,hB,hE,hC⟩:=hrel
  by_cases hi8:i<8
  ·have hi8':(i:Int)<8:=by omega
   have c0:=hE.cell 1
   have l0:=hE.lt
   have l1:=hB.lt
   have f1:=hB.frozen (1+e.m.size+i)
   have hcl:(curE e i)[1+e.m.size+i]?=some ((curE e i)[1+e.m.size+i]'(by rw [curE_len e (by omega)];omega)):=List.getElem?_eq_getElem _
   have c1:=hB.cell (1+e.m.size+i)
   rw [List.getElem?_toArray,hcl] at c1
   simp only [List.getElem?_toArray,List.getElem?_cons_zero,List.getElem?_cons_succ] at c0
   have hset:=curE_succ e (i:=i) (by omega) (bytesV_get (encE_be (e:=e) hi8))
   generalize (curE e i)[1+e.m.size+i]'(by rw [curE_len e (by omega)];omega)=u1 at c1
   have x1:1+(e.m.size:Int)+(i:Int)<(N:Int):=by have:=hN.out;omega
   have x0:0≤1+(e.m.size:Int)+(i:Int):=by omega
   go_wp2_with fail
   go_roundg (8 - (i+1))
   case rel =>
    rw [be_val]
    have hB':=hB.set (1+e.m.size+i) (.int .u8 ((UInt8.ofNat (u64N e.s / 2 ^ (8 * (7 - i)))).toNat:Int))
    rw [List.setIfInBounds_toArray,hset] at hB'
    exact ⟨i+1,int_eq (by omega),rfl,by omega,hB',hE.far (by simp) _,hC.setCell (by simp) _⟩
   case measure => omega
  ·obtain rfl:i=8:=by omega
   clear hi hi8
   have l1:=hB.lt
   have f1:=hB.frozen (9+e.m.size)
   have hcl:(curE e 8)[9+e.m.size]?=some ((curE e 8)[9+e.m.size]'(by rw [curE_len e (by omega)];omega)):=List.getElem?_eq_getElem _
   have c1:=hB.cell (9+e.m.size)
   rw [List.getElem?_toArray,hcl] at c1
   have hend:(encE e)[1+e.m.size+8]?=some (UInt8.ofNat (e.m.size+9)):=by rw [show 1+e.m.size+8=e.m.size+9 by omega];exact encE_end e
   have hset:=curE_succ e (i:=8) (by omega) (bytesV_get hend)
   have hv:((UInt8.ofNat (e.m.size+9)).toNat:Int)=9+(e.m.size:Int):=by rw [UInt8.toNat_ofNat',Nat.mod_eq_of_lt (by omega)];omega
   rw [curE_end,hv,show 1+e.m.size+8=9+e.m.size by omega] at hset
   clear hend hv
   generalize (curE e 8)[9+e.m.size]'(by rw [curE_len e (by omega)];omega)=u1 at c1
   have hNe:N=9+e.m.size+1:=by have:=hN.out;omega
   subst hNe
   clear hcl n1 n2
   go_wp2_with fail
   have hB':=hB.set (9+e.m.size) (.int .u8 (9+(e.m.size:Int)))
   rw [List.setIfInBounds_toArray,hset] at hB'
   refine bodyPost_ret (results_tmp rfl _ _ _) rfl ⟨?_,hB',hC.setCell (by simp) _⟩
   show Ending.returned (Value.slice _ (9+e.m.size+1) (9+e.m.size+1))=_
   rw [show 9+e.m.size+1=e.m.size+10 by omega]
end Go.Proofs.YtehpmbmdadkhbaaGreatDoor

namespace Pal
open Go Go.RowKit
theorem block_of_add (a:Addr) (n:Nat):(a.add n).block=a.block:=by unfold Addr.add;split <;> rfl
theorem add_of_add (a:Addr) (i j:Nat):(a.add i).add j=a.add (i+j):=by
 unfold Addr.add
 by_cases hi:i=0 <;> by_cases hj:j=0 <;> simp [hi,hj,Nat.add_assoc]
def Reads (w:World) (B size:Nat) (A:Option Addr) (n:Nat) (xs:List Value):Prop :=
 xs.length=n * size∧(0<n→∃ ad,A=some ad∧ad.block<B∧∀ j u,xs[j]?=some u→w.cell? (ad.add j)=some u)
section
variable {w w':World} {B B' size n:Nat} {A:Option Addr} {xs:List Value}
theorem Reads.none_:Reads w B size A 0 []:=⟨by simp,fun h => absurd h (by omega)⟩
theorem Reads.keep (h:Reads w B size A n xs) (hk:∀ p:Addr,p.block<B→w'.cell? p=w.cell? p):Reads w' B size A n xs :=
 ⟨h.1,fun hn => by
  obtain ⟨ad,e,hb,hc⟩:=h.2 hn
  exact ⟨ad,e,hb,fun j u hu => (hk _ (by rw [block_of_add];exact hb)).trans (hc j u hu)⟩⟩
theorem Reads.more (h:Reads w B size A n xs) (hB:B≤B'):Reads w B' size A n xs :=
 ⟨h.1,fun hn => by
  obtain ⟨ad,e,hb,hc⟩:=h.2 hn
  exact ⟨ad,e,by omega,hc⟩⟩
theorem Reads.alloc (h:Reads w B size A n xs) (hB:B≤w.heap.size) (o:Obj):Reads (w.alloc o) B size A n xs:=h.keep fun p hp => World.cell?_alloc_lt w o p (by omega)
theorem Reads.of_own {base:Nat} {e:TypeId} {c:Nat} (h:w.ownsRow base e size (.slice A n c) n xs):Reads w w.heap.size size A n xs:=by
 refine ⟨h.1,fun hn => ?_⟩
 obtain ⟨g,cap,hv,_,hlt⟩:=h.form hn
 have hA:A=some ⟨g,0,none⟩:=by injection hv
 subst hA
 exact ⟨_,rfl,hlt,h.cells (g:=g) rfl⟩
end
section
variable {P:Program} (w:World)
theorem run_append_of_nil (base:Nat) (t ty e:TypeId) (i:TypeInfo) (size:Nat) (ht:P.underlying t=some (.slice e)) (hi:P.info? e=some i)
  (v:Value) (n:Nat) (xs:List Value) (hown:w.ownsRow base e size v n xs) (c:Nat):(Builtin.append_ #[t,t] ty #[v,.slice none 0 c]).run P w=.ok v w:=by
 rcases hown.2 with ⟨rfl,rfl⟩ | ⟨g,cap,cur,rfl,_,_,hnc,_⟩
 ·simp [Builtin.append_,run_underlying ht,Go.sizeOf,typeInfo,hi,Builtin.lenOf,Builtin.firstCells]
 ·simp [Builtin.append_,run_underlying ht,Go.sizeOf,typeInfo,hi,Builtin.lenOf,Builtin.firstCells,hnc,storeCells]
theorem run_append_any (base:Nat) (t ty e:TypeId) (i:TypeInfo) (z:Value) (size bytes:Nat) (ht:P.underlying t=some (.slice e)) (hi:P.info? e=some i) (hz:i.zero=some z)
  (hsize:i.size=size) (hby:i.bytes=bytes) (hzs:z.cells.size=size) (hsz:0<size)
  (v:Value) (n:Nat) (xs:List Value) (hown:w.ownsRow base e size v n xs)
  (B:Nat) (A:Option Addr) (m c:Nat) (news:List Value) (hr:Reads w B size A m news) (h1:∀ u∈news,u.oneCell'=true)
  (h63:n+m≤maxLen) (hbytes:(n+m) * bytes≤140737488355328) (hbase:base≤w.heap.size) :
  ∃ v' w',(Builtin.append_ #[t,t] ty #[v,.slice A m c]).run P w=.ok v' w'∧w'.ownsRow base e size v' (n+m) (xs++news)∧w.grownBy w' v.ownBlock ∧
   (v'.ownBlock=v.ownBlock∨v'.ownBlock=some w.heap.size):=by
 rcases A with _ | ad
 ·have hm:m=0:=by
   rcases Nat.eq_zero_or_pos m with h0 | h0
   ·exact h0
   ·obtain ⟨ad,h,_⟩:=hr.2 h0
    cases h
  subst hm
  have hn:news=[]:=List.eq_nil_of_length_eq_zero (by simpa using hr.1)
  subst hn
  exact ⟨v,w,run_append_of_nil w base t ty e i size ht hi v n xs hown c,by simpa using hown,World.grownBy.refl w _,.inl rfl⟩
 ·have hcells:∀ j u,news[j]?=some u→w.cell? (ad.add j)=some u:=by
   intro j u hu
   rcases Nat.eq_zero_or_pos m with h0 | h0
   ·subst h0
    have hn:news=[]:=List.eq_nil_of_length_eq_zero (by simpa using hr.1)
    subst hn
    simp at hu
   ·obtain ⟨ad',h,_,hc⟩:=hr.2 h0
    injection h with h
    subst h
    exact hc j u hu
  obtain ⟨v',w',hrun,h2,h3,_,h5⟩:=run_append_own_at (P:=P) w base t ty e i z size bytes ht hi hz hsize hby hzs hsz v n xs hown ad m c news hr.1 hcells h1 h63 hbytes hbase
  exact ⟨v',w',hrun,h2,h3,h5⟩
theorem wp_append_any {o:Oper} {a:Act} {K:Act→World→Prop} {Q:Exit→Act→World→Prop} (s x:Operand) (t:TypeId)
  (ho:o.op=.call { callee:=.builtin .append,args:=#[s,x],argTypes:=#[t,t] })
  (base:Nat) (e:TypeId) (i:TypeInfo) (z:Value) (size bytes:Nat) (ht:P.underlying t=some (.slice e)) (hi:P.info? e=some i) (hz:i.zero=some z)
  (hsize:i.size=size) (hby:i.bytes=bytes) (hzs:z.cells.size=size) (hsz:0<size)
  (v:Value) (n:Nat) (xs:List Value) (hs:a.eval s=v) (hown:w.ownsRow base e size v n xs)
  (B:Nat) (A:Option Addr) (m c:Nat) (news:List Value) (hx:a.eval x=.slice A m c) (hr:Reads w B size A m news) (h1:∀ u∈news,u.oneCell'=true)
  (h63:n+m≤maxLen) (hbytes:(n+m) * bytes≤140737488355328) (hbase:base≤w.heap.size)
  (h:∀ v' w',w'.ownsRow base e size v' (n+m) (xs++news)→w.grownBy w' v.ownBlock→(v'.ownBlock=v.ownBlock∨v'.ownBlock=some w.heap.size)→K (a.put o.dst v') w'):o.wp P a w K Q:=by
 obtain ⟨v',w',hrun,h2,h3,h4⟩:=run_append_any (P:=P) w base t o.type e i z size bytes ht hi hz hsize hby hzs hsz v n xs hown B A m c news hr h1 h63 hbytes hbase
 unfold Oper.wp execOp
 simp only [ho,resolve,invoke,builtin,Sem.run_bind,Sem.run_pure,Result.andThen_ok,List.map_toArray,List.map_cons,List.map_nil,hs,hx,hrun]
 exact h v' w' h2 h3 h4
theorem wpList_append_any {ops:Array Oper} {rest:List Oper} {o:Oper} {a:Act} {Q:Exit→Act→World→Prop} (hgd:o.guard=none) (s x:Operand) (t:TypeId)
  (ho:o.op=.call { callee:=.builtin .append,args:=#[s,x],argTypes:=#[t,t] })
  (base:Nat) (e:TypeId) (i:TypeInfo) (z:Value) (size bytes:Nat) (ht:P.underlying t=some (.slice e)) (hi:P.info? e=some i) (hz:i.zero=some z)
  (hsize:i.size=size) (hby:i.bytes=bytes) (hzs:z.cells.size=size) (hsz:0<size)
  (v:Value) (n:Nat) (xs:List Value) (hs:a.eval s=v) (hown:w.ownsRow base e size v n xs)
  (B:Nat) (A:Option Addr) (m c:Nat) (news:List Value) (hx:a.eval x=.slice A m c) (hr:Reads w B size A m news) (h1:∀ u∈news,u.oneCell'=true)
  (h63:n+m≤maxLen) (hbytes:(n+m) * bytes≤140737488355328) (hbase:base≤w.heap.size)
  (h:∀ v' w',w'.ownsRow base e size v' (n+m) (xs++news)→w.grownBy w' v.ownBlock→(v'.ownBlock=v.ownBlock∨v'.ownBlock=some w.heap.size)→wpList P ops Q rest (a.put o.dst v') w'):wpList P ops Q (o :: rest) a w :=
 wpList_plain hgd fun _ hK => wp_append_any w s x t ho base e i z size bytes ht hi hz hsize hby hzs hsz v n xs hs hown B A m c news hx hr h1 h63 hbytes hbase fun v' w' h2 h3 h4 => hK _ _ (h v' w' h2 h3 h4)
theorem step_append_any {ops:Array Oper} {o:Oper} {a:Act} {K:Act→World→Prop} {Q:Exit→Act→World→Prop} {E:Prop} (hgd:o.guard=none) (s x:Operand) (t:TypeId)
  (ho:o.op=.call { callee:=.builtin .append,args:=#[s,x],argTypes:=#[t,t] })
  (base:Nat) (e:TypeId) (i:TypeInfo) (z:Value) (size bytes:Nat) (ht:P.underlying t=some (.slice e)) (hi:P.info? e=some i) (hz:i.zero=some z)
  (hsize:i.size=size) (hby:i.bytes=bytes) (hzs:z.cells.size=size) (hsz:0<size)
  (v:Value) (n:Nat) (xs:List Value) (hs:a.eval s=v) (hown:w.ownsRow base e size v n xs)
  (B:Nat) (A:Option Addr) (m c:Nat) (news:List Value) (hx:a.eval x=.slice A m c) (hr:Reads w B size A m news) (h1:∀ u∈news,u.oneCell'=true)
  (h63:n+m≤maxLen) (hbytes:(n+m) * bytes≤140737488355328) (hbase:base≤w.heap.size)
  (h:∀ v' w',w'.ownsRow base e size v' (n+m) (xs++news)→w.grownBy w' v.ownBlock→(v'.ownBlock=v.ownBlock∨v'.ownBlock=some w.heap.size)→K (a.put o.dst v') w') :
  if Region.wanted o (yielded ops a.tmps)=true then Oper.wp P o a w K Q else E:=by
 have hw:Region.wanted o (yielded ops a.tmps)=true:=by simp [Region.wanted,hgd]
 rw [if_pos hw]
 exact wp_append_any w s x t ho base e i z size bytes ht hi hz hsize hby hzs hsz v n xs hs hown B A m c news hx hr h1 h63 hbytes hbase h
end
theorem Reads.chg {w w':World} {B size n:Nat} {A:Option Addr} {xs:List Value} {S:Nat→Prop} (h:Reads w B size A n xs) (hc:Chg S w w') (hB:B≤w.heap.size) (hS:∀ g,g<B→¬ S g):Reads w' B size A n xs :=
 h.keep fun p hp => World.cell?_of_block (hc.block p.block (by omega) (hS _ hp))
theorem app_keeps {W w1:World} {base n size:Nat} {e:TypeId} {v:Value} {xs:List Value} (hown:W.ownsRow base e size v n xs) (hg:W.grownBy w1 v.ownBlock):KeepsOthers W w1 :=
 KeepsOthers.of_grownBy hg fun j o hj ho => by
  rcases hown.2 with ⟨rfl,_⟩ | ⟨g,cap,cur,rfl,_,hh,_⟩
  ·simp [Value.ownBlock] at hj
  ·have:g=j:=by simpa [Value.ownBlock] using hj
   subst this
   rw [hh] at ho;cases ho;rfl
theorem app_chg {W w1:World} {base n size:Nat} {e:TypeId} {v:Value} {xs:List Value} (hown:W.ownsRow base e size v n xs) (hg:W.grownBy w1 v.ownBlock):Chg (fun k => base≤k) W w1 :=
 Chg.of_grown hg fun g hgg => (hown.lt g hgg).1
theorem KeepsOthers.of_chg0 {w w':World} (h:Chg (fun _ => False) w w'):KeepsOthers w w':=others_chg h fun _ _ _ _ => id
theorem Blk.not_own {w:World} {g:Nat} {t e:TypeId} {cs:Array Value} {base n size:Nat} {v:Value} {xs:List Value} (h:Blk w g t cs) (ho:w.ownsRow base e size v n xs) (hne:t≠e):v.ownBlock≠some g:=by
 rcases ho.2 with ⟨rfl,_⟩ | ⟨g',cap,cur,rfl,_,hh,_⟩
 ·simp [Value.ownBlock]
 ·intro he
  have:g'=g:=by simpa [Value.ownBlock] using he
  subst this
  unfold Blk at h
  rw [hh] at h
  injection h with h
  injection h with _ ht
  exact hne ht.symm
end Pal

namespace Go.Proofs.YtehpmbmdadkhbaaGreatDoor
open Go.RowKit Pal
theorem addr_add' (b o k:Nat):(⟨b,o,none⟩:Addr).add k=⟨b,o+k,none⟩:=by
 unfold Addr.add;split
 ·rename_i h;rw [h];rfl
 ·rfl
theorem ent_info:(Tryz.prog.info? 68).map (fun i => (i.zero,i.size,i.bytes))=some (some (.agg #[.string ⟨#[]⟩,.int .i64 0]),2,24):=by kernel_rfl
def En.cells (e:En):List Value:=[.string e.m,.int .i64 e.s]
def Ents (w:World) (base:Nat) (v:Value) (l:List En):Prop:=w.ownsRow base 68 2 v l.length (l.flatMap En.cells)
section
variable {w w':World} {base:Nat} {v:Value} {l:List En}
theorem Ents.nil (w:World) (base:Nat):Ents w base (.slice none 0 0) []:=World.ownsRow_nil w base _ 2
theorem Ents.stay {F:Nat→Prop} (h:Ents w base v l) (hs:Stay F w w') (hn:∀ g,v.ownBlock=some g→¬ F g):Ents w' base v l:=own_stay h hs hn
theorem Ents.chg {F:Nat→Prop} (h:Ents w base v l) (hs:Chg F w w') (hn:∀ g,v.ownBlock=some g→¬ F g):Ents w' base v l:=own_stay h (.of_chg hs) hn
theorem Ents.chg0 (h:Ents w base v l) (hs:Chg (fun _ => False) w w'):Ents w' base v l:=h.chg hs fun _ _ => id
theorem Ents.lower {b:Nat} (h:Ents w base v l) (hb:b≤base):Ents w b v l:=by
 refine ⟨h.1,?_⟩
 rcases h.2 with h0 | ⟨g,cap,cur,rfl,h1,rest⟩
 ·exact .inl h0
 ·exact .inr ⟨g,cap,cur,rfl,Nat.le_trans hb h1,rest⟩
theorem Ents.is (h:Ents w base v l):∃ p cap,v=.slice p l.length cap∧l.length≤cap∧cap≤maxLen∧(∀ g,p=some g→base≤g.block∧g.block<w.heap.size):=by
 rcases h.2 with ⟨rfl,h0⟩ | ⟨g,cap,cur,rfl,h1,h2,h3,h4,_⟩
 ·exact ⟨none,0,by rw [h0],by omega,by simp [maxLen],fun _ h => (by cases h)⟩
 ·exact ⟨_,cap,rfl,h3,h4,fun g hg => by injection hg with hg;subst hg;exact ⟨h1,(Array.getElem?_eq_some_iff.1 h2).1⟩⟩
theorem ents_one (l:List En):∀ u∈l.flatMap En.cells,u.oneCell'=true:=by
 intro u hu
 obtain ⟨x,_,hx⟩:=List.mem_flatMap.1 hu
 unfold En.cells at hx
 rcases List.mem_cons.1 hx with rfl | hx
 ·rfl
 ·rw [List.mem_singleton] at hx;rw [hx];rfl
theorem flat_len:∀ l:List En,(l.flatMap En.cells).length=l.length * 2
 | [] => rfl
 | x :: l => by rw [List.flatMap_cons,List.length_append,flat_len l,List.length_cons];show 2+_=_;omega
theorem flat_get:∀ {l:List En} {k:Nat} {x:En},l[k]?=some x→(l.flatMap En.cells)[k * 2]?=some (.string x.m)∧(l.flatMap En.cells)[k * 2+1]?=some (.int .i64 x.s)
 | y :: l,0,x,h => by
  injection h with h
  subst h
  exact ⟨rfl,rfl⟩
 | y :: l,k+1,x,h => by
  have ih:=flat_get (l:=l) (k:=k) (x:=x) (by simpa using h)
  have e:(y :: l).flatMap En.cells=.string y.m :: .int .i64 y.s :: l.flatMap En.cells:=rfl
  rw [e,show (k+1) * 2=k * 2+1+1 by omega]
  exact ih
theorem flat_snoc (l:List En) (x:En):(l++[x]).flatMap En.cells=l.flatMap En.cells++[.string x.m,.int .i64 x.s]:=by
 rw [List.flatMap_append];rfl
theorem Ents.mk {n:Nat} {xs:List Value} (h:w.ownsRow base 68 2 v n xs) (hn:n=l.length) (hx:xs=l.flatMap En.cells):Ents w base v l:=by
 subst hn;subst hx;exact h
theorem Ents.reads {p:Option Addr} {n c:Nat} (h:Ents w base (.slice p n c) l):Reads w w.heap.size 2 p l.length (l.flatMap En.cells):=by
 have hn:n=l.length:=by
  obtain ⟨_,_,e,_⟩:=h.is
  injection e
 subst hn
 exact Reads.of_own h
end
def EntsR (w:World) (v:Value) (l:List En):Prop:=∃ p c,v=.slice p l.length c∧l.length≤c∧c≤maxLen∧Reads w w.heap.size 2 p l.length (l.flatMap En.cells)
theorem Ents.r {w:World} {base:Nat} {v:Value} {l:List En} (h:Ents w base v l):EntsR w v l:=by
 obtain ⟨p,c,rfl,h1,h2,_⟩:=h.is
 exact ⟨p,c,rfl,h1,h2,h.reads⟩
theorem EntsR.chg0 {w w':World} {v:Value} {l:List En} (h:EntsR w v l) (hc:Chg (fun _ => False) w w'):EntsR w' v l:=by
 obtain ⟨p,c,rfl,h1,h2,h3⟩:=h
 exact ⟨p,c,rfl,h1,h2,(h3.chg hc (Nat.le_refl _) fun _ _ => id).more hc.size⟩
theorem EntsR.at_ {w:World} {v:Value} {l:List En} (h:EntsR w v l) {k:Nat} {x:En} (hx:l[k]?=some x):∃ b o c,v=.slice (some ⟨b,o,none⟩) l.length c∧l.length≤c∧c≤maxLen∧b<w.heap.size∧w.cell? ⟨b,o+k * 2,none⟩=some (.string x.m)∧w.cell? ⟨b,o+k * 2+1,none⟩=some (.int .i64 x.s):=by
 obtain ⟨p,c,rfl,h1,h2,h3⟩:=h
 have hk:=(List.getElem?_eq_some_iff.1 hx).1
 obtain ⟨ad,rfl,hb,hc⟩:=h3.2 (by omega)
 obtain ⟨f1,f2⟩:=flat_get hx
 have g1:=hc _ _ f1
 have g2:=hc _ _ f2
 obtain ⟨b,o,s⟩:=ad
 have hs:s=none:=by
  have f0:=hc 1 _ (flat_get (l:=l) (k:=0) (x:=l[0]'(by omega)) (List.getElem?_eq_getElem (by omega))).2
  have f00:=hc 0 _ (flat_get (l:=l) (k:=0) (x:=l[0]'(by omega)) (List.getElem?_eq_getElem (by omega))).1
  cases s with
  | none => rfl
  | some q =>
   simp [Addr.add,World.cell?] at f00
   split at f00 <;> cases f00
 subst hs
 refine ⟨b,o,c,rfl,h1,h2,hb,?_,?_⟩
 ·have e:(⟨b,o,none⟩:Addr).add (k * 2)=⟨b,o+k * 2,none⟩:=by unfold Addr.add;split <;> simp_all
  rw [e] at g1;exact g1
 ·have e:(⟨b,o,none⟩:Addr).add (k * 2+1)=⟨b,o+k * 2+1,none⟩:=by unfold Addr.add;split <;> simp_all;omega
  rw [e] at g2;exact g2
end Go.Proofs.YtehpmbmdadkhbaaGreatDoor

namespace Go.Proofs.YtehpmbmdadkhbaaGreatDoor
open Go.RowKit Pal Go.Lib
attribute [local go_sem] Oper.semAt_some
def Bys (w:World) (base:Nat) (v:Value) (l:List UInt8):Prop:=w.ownsRow base 5 1 v l.length (bytesV l)
def BysR (w:World) (v:Value) (l:List UInt8):Prop:=∃ p c,v=.slice p l.length c∧Reads w w.heap.size 1 p l.length (bytesV l)
section
variable {w w':World} {base:Nat} {v:Value} {l:List UInt8}
theorem BysR.chg0 (h:BysR w v l) (hc:Chg (fun _ => False) w w'):BysR w' v l:=by
 obtain ⟨p,c,rfl,h3⟩:=h
 exact ⟨p,c,rfl,(h3.chg hc (Nat.le_refl _) fun _ _ => id).more hc.size⟩
theorem BysR.alloc (h:BysR w v l) (o:Obj):BysR (w.alloc o) v l:=h.chg0 ((Chg.refl _ w).alloc o)
theorem BysR.drew (h:BysR w v l):BysR w.drew v l:=h.chg0 (Chg.refl _ w).drew
theorem chg_conv {S:Nat→Prop} {a:World} (h:Chg S a w) (e:TypeId) (s:ByteArray):Chg S a (bytesWorld w e s) :=
 h.trans ⟨rfl,rfl,rfl,by rw [bytesWorld_size];omega,fun k hk _ => bytesWorld_at_old w e s k hk⟩
theorem BysR.conv (h:BysR w v l) (e:TypeId) (s:ByteArray):BysR (bytesWorld w e s) v l:=h.chg0 (chg_conv (Chg.refl _ w) e s)
theorem BysR.nil (w:World):BysR w (.slice none 0 0) []:=⟨none,0,rfl,Reads.none_⟩
theorem BysR.conv_new (w:World) (e:TypeId) (s:ByteArray):BysR (bytesWorld w e s) (.slice (some ⟨w.heap.size,0,none⟩) s.size (grownCap w s.size 0 e)) s.data.toList:=by
 refine ⟨_,_,by rw [size_toList],by rw [bytesV_len,Nat.mul_one],fun _ => ⟨_,rfl,by rw [bytesWorld_size];exact Nat.lt_succ_self _,fun j u hu => ?_⟩⟩
 have hj:j<s.size:=by
  have:=(List.getElem?_eq_some_iff.1 hu).1
  rwa [bytesV_len,size_toList] at this
 rw [addr_add',Nat.zero_add,bytesWorld_cell w e s j hj]
 have:s.data.toList[j]?=some (s.data.toList.getD j 0):=by
  rw [List.getD_eq_getElem?_getD,List.getElem?_eq_getElem (by rw [size_toList];exact hj)];rfl
 rw [bytesV_get this] at hu
 exact hu
theorem BysR.of_blk {g n:Nat} {t:TypeId} (h:Blk w g t (bytesV l).toArray) (hn:n=l.length) (c:Nat):BysR w (.slice (some ⟨g,0,none⟩) n c) l:=by
 subst hn
 refine ⟨_,_,rfl,by rw [bytesV_len,Nat.mul_one],fun _ => ⟨_,rfl,h.lt,fun j u hu => ?_⟩⟩
 rw [addr_add',Nat.zero_add,h.cell,List.getElem?_toArray];exact hu
theorem bytesV_append (a b:List UInt8):bytesV (a++b)=bytesV a++bytesV b:=by unfold bytesV Lib.byteCells;rw [List.map_append]
theorem bytesV_one (l:List UInt8):∀ u∈bytesV l,u.oneCell'=true:=Lib.byteCells_one l
end
set_option maxRecDepth 100000 in
theorem grow_any (n:Nat) (h1:1≤n) (h2:n≤1000000) (w:World):Calls Tryz.prog 222 #[.slice none 0 0,.int .i64 (n:Int)] w fun r w' => (∃ v,r=.returned v∧Bys w' w.heap.size v [])∧Chg (fun _ => False) w w':=by
 obtain ⟨i0,hi,hz0,hz1,hz2⟩:=info_parts byte_info
 have hrz:=fun ty => Lib.run_append_grow_zeros (P:=Tryz.prog) w 66 3 ty 5 i0 (.int .u8 0) .i64 .i64 Tryz.underlying66 Tryz.underlying3 hi hz0 none 0 0 [] (run_firstCells_none w.drew i0.size 0 0 0) n (by omega) (by omega) (by omega) (by omega) (by rw [hz2];omega) (by rw [Nat.zero_add,hz2];exact growslice_fits (bytes:=1) (by omega) (by omega))
 simp only [Nat.zero_add] at hrz
 have hge:=grownCap_ge w n 0 5
 have hcm:=grownCap_le_maxLen w n 0 5 (by unfold maxLen;omega)
 have hcells:(([]:List Value).toArray++Builtin.zeroCells (Value.int .u8 0).cells n++Builtin.zeroCells (Value.int .u8 0).cells (grownCap w n 0 5 - n)).size=grownCap w n 0 5:=by
  simp [size_zeroCells,Value.cells];omega
 generalize ([]:List Value).toArray++Builtin.zeroCells (Value.int .u8 0).cells n++Builtin.zeroCells (Value.int .u8 0).cells (grownCap w n 0 5 - n)=cs at hrz hcells
 generalize grownCap w n 0 5=G at hrz hge hcm hcells
 have hn1:¬ (n:Int)<0:=by omega
 have hn2:(n:Int) > 0:=by omega
 have hn3:(n:Int)≤1000000:=by omega
 unfold maxLen at hcm
 replace hcells:=Lib.hid hcells
 go_enter Tryz.func222,Tryz.ntmps222
 go_wp2_with (at_builtin;refine Lib.wpList_append_run _ rfl _ _ _ _ rfl _ _ rfl rfl _ _ (hrz _) ?_)
 go_ret
 refine ⟨⟨_,rfl,rfl,.inr ⟨w.heap.size,G,cs,rfl,Nat.le_refl _,World.alloc_heap_new w.drew _,Nat.zero_le _,by unfold maxLen;omega,by rw [hcells.out,Nat.mul_one],rfl⟩⟩,(Chg.refl _ w).drew.alloc _⟩
theorem flat_take {ls:List (List UInt8)} {i:Nat} {l:List UInt8} (h:ls[i]?=some l):(ls.take (i+1)).flatten=(ls.take i).flatten++l:=by
 rw [List.take_add_one,h,Option.toList_some,List.flatten_append,List.flatten_cons,List.flatten_nil,List.append_nil]
theorem flat_le {ls:List (List UInt8)} (i:Nat):(ls.take i).flatten.length≤ls.flatten.length:=by
 conv => rhs;rw [← List.take_append_drop i ls,List.flatten_append,List.length_append]
 omega
def ConcatPost (w:World) (l:List UInt8) (r:Ending) (w':World):Prop:=(∃ v,r=.returned v∧Bys w' w.heap.size v l)∧Chg (fun _ => False) w w'
set_option maxRecDepth 100000 in
set_option maxHeartbeats 1000000 in
theorem concat_any (ls:List (List UInt8)) (vs:List Value) (g:Nat) (hl:vs.length=ls.length) (hm:ls.length≤100) (h1:1≤ls.flatten.length) (h2:ls.flatten.length≤1000000) (w:World)
  (hv:∀ (i:Nat) v l,vs[i]?=some v→ls[i]?=some l→BysR w v l) (hb:Blk w g 66 vs.toArray) :
  Calls Tryz.prog 219 #[.slice (some ⟨g,0,none⟩) ls.length ls.length] w (ConcatPost w ls.flatten):=by
 obtain ⟨i0,hi0,hz0,hz1,hz2⟩:=info_parts byte_info
 have hgr:=fun w => grow_any ls.flatten.length h1 h2 w
 have hm':(ls.length:Int)≤100:=by omega
 have HL:=Lib.hid hl
 clear hl
 go_enter Tryz.func219,Tryz.ntmps219
 go_wp2_with fail
 go_loopg [3,11] ls.length (fun m x c W => ∃ i:Nat,c=.int .i64 (i:Int)∧m=ls.length - i∧i≤ls.length∧x=.int .i64 ((ls.take i).flatten.length:Int)∧W=w)
 case atStart => exact ⟨0,rfl,rfl,Nat.zero_le _,rfl,rfl⟩
 case round =>
  obtain ⟨i,rfl,rfl,hi,rfl,rfl⟩:=hrel
  by_cases hlt:i<ls.length
  ·have hlt':(i:Int)<(ls.length:Int):=by omega
   have hgl:ls[i]?=some ls[i]:=List.getElem?_eq_getElem hlt
   have hgv:vs[i]?=some (vs[i]'(by rw [HL.out];exact hlt)):=List.getElem?_eq_getElem _
   obtain ⟨p,c,hpe,hr⟩:=hv i _ _ hgv hgl
   have hc:=hb.cell i
   rw [List.getElem?_toArray,hgv,hpe] at hc
   have hs:=flat_take hgl
   have hle:=flat_le (ls:=ls) (i+1)
   rw [hs,List.length_append] at hle
   generalize ls[i]=l at *
   replace hs:=Lib.hid hs
   generalize (ls.take i).flatten=pre at *
   have k1:(pre.length:Int)+(l.length:Int)≤1000000:=by omega
   have k2:¬ (pre.length:Int)+(l.length:Int)<0:=by omega
   have k3:0≤(pre.length:Int):=by omega
   clear hgl hgv hpe hle hgr h1 h2 hv
   go_wp2_with fail
   go_roundg (ls.length - (i+1))
   case rel => exact ⟨i+1,int_eq (by omega),rfl,by omega,int_eq (by rw [hs.out,List.length_append];omega),rfl⟩
   case measure => omega
  ·obtain rfl:i=ls.length:=by omega
   rw [List.take_length]
   have hlt':¬ (ls.length:Int)<(ls.length:Int):=by omega
   have H2:=Lib.hid h2
   clear hi hlt h1 h2
   generalize ls.flatten.length=tot at hgr
   go_wp2_with (go_at_call 222;refine (hgr _).mono ?_;rintro r w1 ⟨⟨v1,rfl,hv1⟩,hC1⟩)
   clear hgr
   obtain ⟨wo,rfl⟩:∃ wo:World,wo=wr:=⟨_,rfl⟩
   go_loopg [6,27] ls.length (fun m x c W => ∃ i:Nat,c=.int .i64 (i:Int)∧m=ls.length - i∧i≤ls.length∧Bys W wo.heap.size x (ls.take i).flatten∧Chg (fun _ => False) wo W)
   case atStart => exact ⟨0,rfl,rfl,Nat.zero_le _,hv1,hC1⟩
   case round =>
    clear hv1 hC1 w1
    obtain ⟨i,rfl,rfl,hi,hown,hC⟩:=hrel
    by_cases hlt:i<ls.length
    ·have hlt2:(i:Int)<(ls.length:Int):=by omega
     have hgl:ls[i]?=some ls[i]:=List.getElem?_eq_getElem hlt
     have hgv:vs[i]?=some (vs[i]'(by rw [HL.out];exact hlt)):=List.getElem?_eq_getElem _
     obtain ⟨p,c,hpe,hr⟩:=(hv i _ _ hgv hgl).chg0 hC
     have hc:=(hb.chg hC id).cell i
     rw [List.getElem?_toArray,hgv,hpe] at hc
     have hs:=flat_take hgl
     have hle:=flat_le (ls:=ls) (i+1)
     rw [hs,List.length_append] at hle
     have h2:=H2.out
     generalize ls[i]=l at *
     replace hs:=Lib.hid hs
     generalize (ls.take i).flatten=pre at *
     have k1:pre.length+l.length≤maxLen:=by unfold maxLen;omega
     have k2:(pre.length+l.length) * 1≤140737488355328:=by omega
     clear h2
     unfold Bys at hown
     have hsz:=hC.size
     clear hgl hgv hpe hle
     go_wp2_with (at_builtin;refine wpList_append_any _ rfl (.tmp 31) (.tmp 32) 66 rfl wo.heap.size 5 i0 _ 1 1 Tryz.underlying66 hi0 hz0 hz1 hz2 rfl (by omega) _ _ _ rfl hown _ _ _ _ _ rfl hr (bytesV_one _) k1 k2 hsz ?_;intro v2 w2 hown2 hg2 _)
     have hC2:Chg (fun _ => False) wo w2:=hC.trans' (app_chg hown hg2) fun g hl h => by omega
     rw [← bytesV_append,← List.length_append,← hs.out] at hown2
     go_roundg (ls.length - (i+1))
     case rel => exact ⟨i+1,int_eq (by omega),rfl,by omega,hown2,hC2⟩
     case measure => omega
    ·obtain rfl:i=ls.length:=by omega
     rw [List.take_length] at hown
     have hlt2:¬ (ls.length:Int)<(ls.length:Int):=by omega
     clear hi hlt hv
     go_wp2_with fail
     go_ret
     exact ⟨⟨_,rfl,hown⟩,hC⟩
end Go.Proofs.YtehpmbmdadkhbaaGreatDoor

namespace Go.Proofs.YtehpmbmdadkhbaaGreatDoor
open Go.RowKit Pal Go.Lib
attribute [local go_sem] Oper.semAt_some
theorem BysR.head_new (w:World) (n:Nat) (h:n≤1000):BysR (w.alloc (.cells #[.int .u8 ((n:Int) / 256),.int .u8 ((n:Int) % 256)] 5)) (.slice (some ⟨w.heap.size,0,none⟩) 2 2) (enc2 n):=by
 refine BysR.of_blk (t:=5) (l:=enc2 n) ?_ rfl 2
 have hb:=Blk.new w 5 #[.int .u8 ((n:Int) / 256),.int .u8 ((n:Int) % 256)]
 have e:(bytesV (enc2 n)).toArray=#[.int .u8 ((n:Int) / 256),.int .u8 ((n:Int) % 256)]:=by
  show #[Value.int .u8 ((UInt8.ofNat (n / 256)).toNat:Int),Value.int .u8 ((UInt8.ofNat n).toNat:Int)]=_
  rw [UInt8.toNat_ofNat',UInt8.toNat_ofNat',Nat.mod_eq_of_lt (by omega:n / 256<2 ^ 8)]
  rfl
 rw [e];exact hb
theorem BysR.conv_new' (w:World) (e:TypeId) (s:ByteArray) (b n c:Nat) (hb:b=w.heap.size) (hn:n=s.size):BysR (bytesWorld w e s) (.slice (some ⟨b,0,none⟩) n c) s.data.toList:=by
 subst hb;subst hn
 obtain ⟨p,c',e1,h⟩:=BysR.conv_new w e s
 injection e1 with e1 e2
 subst e1
 exact ⟨_,c,by rw [e2],h⟩
theorem blk_new' (w:World) (t:TypeId) (cs:Array Value) (g:Nat) (h:g=w.heap.size):Blk (w.alloc (.cells cs t)) g t cs:=by subst h;exact Blk.new w t cs
theorem concat4 {w:World} {g:Nat} {v0 v1 v2 v3:Value} {l0 l1 l2 l3:List UInt8} (hb:Blk w g 66 #[v0,v1,v2,v3]) (h0:BysR w v0 l0) (h1:BysR w v1 l1) (h2:BysR w v2 l2) (h3:BysR w v3 l3)
  (k1:1≤l0.length) (k2:l0.length+l1.length+l2.length+l3.length≤1000000):Calls Tryz.prog 219 #[.slice (some ⟨g,0,none⟩) 4 4] w (ConcatPost w (l0++(l1++(l2++l3)))):=by
 have e:[l0,l1,l2,l3].flatten=l0++(l1++(l2++l3)):=by simp
 have:=concat_any [l0,l1,l2,l3] [v0,v1,v2,v3] g rfl (by simp) (by rw [e];simp;omega) (by rw [e];simp;omega) w (fun i v l hv hl => ?_) hb
 ·rw [e] at this;exact this
 ·match i,hv,hl with
  | 0,hv,hl => injection hv with hv;injection hl with hl;subst hv;subst hl;exact h0
  | 1,hv,hl => injection hv with hv;injection hl with hl;subst hv;subst hl;exact h1
  | 2,hv,hl => injection hv with hv;injection hl with hl;subst hv;subst hl;exact h2
  | 3,hv,hl => injection hv with hv;injection hl with hl;subst hv;subst hl;exact h3
  | i+4,hv,hl => simp at hv
theorem ext1 (p:ByteArray) {f:Nat} (hf:f≤p.size):(p.extract 2 f).data.toList=(p.data.toList.drop 2).take (f - 2):=by
 rw [ByteArray.data_extract,Array.toList_extract,List.extract_eq_take_drop]
theorem ext2 (p:ByteArray) (t:Nat):(p.extract t p.size).data.toList=p.data.toList.drop t:=by
 rw [ByteArray.data_extract,Array.toList_extract,List.extract_eq_take_drop,List.take_of_length_le]
 rw [List.length_drop,size_toList];exact Nat.le_refl _
theorem conv_run (w:World) (s:ByteArray):(convert 9 66 (.string s)).run Tryz.prog w=.ok (.slice (some ⟨w.heap.size,0,none⟩) s.size (grownCap w s.size 0 5)) (bytesWorld w 5 s) :=
 Go.Lib.run_convert_string_bytes (P:=Tryz.prog) w 9 66 5 s Tryz.underlying9 Tryz.underlying66 Tryz.underlying5
theorem back_run {w:World} {base:Nat} {v:Value} {l:List UInt8} (h:Bys w base v l) (h0:l≠[]):(convert 66 9 v).run Tryz.prog w=.ok (.string ⟨l.toArray⟩) w:=by
 rcases h.2 with ⟨rfl,h1⟩ | ⟨g,cap,cur,rfl,hb,hg,_⟩
 ·exact absurd (List.eq_nil_of_length_eq_zero h1) h0
 ·refine Go.run_convert_bytes_back (P:=Tryz.prog) w 66 9 5 ⟨g,0,none⟩ cap l Tryz.underlying66 Tryz.underlying5 Tryz.underlying9 (fun j hj => ?_)
  have:=World.ownsRow.cells h (g:=g) rfl j (.int .u8 (l[j].toNat:Int)) (bytesV_get (List.getElem?_eq_getElem hj))
  exact this
def changedL (p:List UInt8) (n f t:Nat) (l:List UInt8):List UInt8:=enc2 n++((p.drop 2).take (f - 2)++(l++p.drop t))
def ChgPost (w:World) (l:List UInt8) (r:Ending) (w':World):Prop:=r=.returned (.string ⟨l.toArray⟩)∧Chg (fun _ => False) w w'
set_option maxRecDepth 100000 in
set_option maxHeartbeats 2000000 in
theorem changed_any (p:ByteArray) (n f t:Nat) (v:Value) (l:List UInt8) (w:World) (hn:n≤200) (hp:p.size≤100000) (h2:2≤f) (hft:f≤t) (ht:t≤p.size) (hl:l.length≤1000) (hv:BysR w v l) :
  Calls Tryz.prog 213 #[.string p,.int .i64 (n:Int),.int .i64 (f:Int),.int .i64 (t:Int),v] w (ChgPost w (changedL p.data.toList n f t l)):=by
 have hcv:=conv_run
 have hn1:n≤1000:=by omega
 have hv0:=hv
 obtain ⟨vp,vc,rfl,_⟩:=hv0
 have i1:(2:Int)≤(f:Int):=by omega
 have i2:(f:Int)≤(p.size:Int):=by omega
 have i3:(t:Int)≤(p.size:Int):=by omega
 have i4:0≤(t:Int):=by omega
 have i5:(p.size:Int)≤100000:=by omega
 go_enter Tryz.func213,Tryz.ntmps213
 go_wp2_with fail
 have k1:(enc2 n).length=2:=rfl
 have k2:(p.extract 2 f).data.toList.length≤100000:=by rw [size_toList];simp;omega
 have k3:(p.extract t p.size).data.toList.length≤100000:=by rw [size_toList];simp;omega
 have K:=Lib.hid (show 1≤(enc2 n).length∧(enc2 n).length+(p.extract 2 f).data.toList.length+l.length+(p.extract t p.size).data.toList.length≤1000000 from ⟨by omega,by omega⟩)
 clear k1 k2 k3
 go_region_with (first | (go_at_call 137;refine (head_any n _ (by omega)).mono ?_;rintro r w1 ⟨rfl,rfl⟩) | (go_at_call 219;(with_reducible refine (concat4 (l0:=enc2 n) (l1:=(p.extract 2 f).data.toList) (l2:=l) (l3:=(p.extract t p.size).data.toList) (blk_new' _ _ _ _ ?_) ?_ ?_ ?_ ?_ K.out.1 K.out.2).mono ?_);(focus (first | rfl | (simp;done)));(focus (repeat (first | (with_reducible exact BysR.head_new _ _ hn1) | (with_reducible exact hv) | (((with_reducible refine BysR.conv_new' _ _ _ _ _ _ ?_ ?_)) <;> (simp;done)) | (with_reducible refine BysR.alloc ?_ _) | (with_reducible refine BysR.conv ?_ _ _) | (with_reducible refine BysR.drew ?_))));(focus (repeat (first | (with_reducible exact BysR.head_new _ _ hn1) | (with_reducible exact hv) | (((with_reducible refine BysR.conv_new' _ _ _ _ _ _ ?_ ?_)) <;> (simp;done)) | (with_reducible refine BysR.alloc ?_ _) | (with_reducible refine BysR.conv ?_ _ _) | (with_reducible refine BysR.drew ?_))));(focus (repeat (first | (with_reducible exact BysR.head_new _ _ hn1) | (with_reducible exact hv) | (((with_reducible refine BysR.conv_new' _ _ _ _ _ _ ?_ ?_)) <;> (simp;done)) | (with_reducible refine BysR.alloc ?_ _) | (with_reducible refine BysR.conv ?_ _ _) | (with_reducible refine BysR.drew ?_))));(focus (repeat (first | (with_reducible exact BysR.head_new _ _ hn1) | (with_reducible exact hv) | (((with_reducible refine BysR.conv_new' _ _ _ _ _ _ ?_ ?_)) <;> (simp;done)) | (with_reducible refine BysR.alloc ?_ _) | (with_reducible refine BysR.conv ?_ _ _) | (with_reducible refine BysR.drew ?_))));rintro r w2 ⟨⟨v2,rfl,hv2⟩,hC2⟩;have hbk:=back_run hv2 (by intro h;cases h);obtain ⟨R,hR⟩:∃ R:ByteArray,(⟨(enc2 n++((p.extract 2 f).data.toList++(l++(p.extract t p.size).data.toList))).toArray⟩:ByteArray)=R:=⟨_,rfl⟩;rw [hR] at hbk;replace hR:=Lib.hid hR) | fail)
 all_goals
  go_wp2_with fail
  go_ret
  refine ⟨?_,(show Chg (fun _ => False) w _ from ?_).trans hC2⟩
  ·show Ending.returned (.string R)=_
   rw [← hR.out,ext1 p (show f≤p.size by omega),ext2];rfl
  ·repeat (first | (with_reducible exact Chg.refl _ _) | (with_reducible refine Chg.alloc ?_ _) | (with_reducible refine chg_conv ?_ _ _) | (with_reducible refine Chg.drew ?_))
end Go.Proofs.YtehpmbmdadkhbaaGreatDoor

namespace Pal
open Go Go.RowKit
section
variable {P:Program} {α:Type}
theorem wp_range_al {g:Operand} {ps:Array Tmp} {assign body:Code} {Q:Exit→Act→World→Prop} {a:Act} {w:World} (gf:Nat) (lb:Array Value)
  (hg:a.eval g=.func (.func gf) #[] lb) (eg:Proofs.Enters P gf) {enc:α→Array Value} {F G:Nat→Prop} {It0 It:List α→World→Prop} (hit:IterSpec P gf lb enc F G It0 It) (hps:∀ x,(enc x).size=ps.size)
  (I:List α→World→Prop) (hI:∀ r W W',I r W→Stay G W W'→I r W') (Ix:Code→World→Prop) (hIx:∀ c W W',Ix c W→Stay G W W'→Ix c W') (c:List α) (h0:I c w) (hit0:It0 c w) (o:α→Obj) (a₁:α→Nat→Act)
  (hassign:∀ l x W g,W.heap.size=g→∀ (K:Act→World→Prop),K (a₁ x g) (W.alloc (o x))→assign.wpIn (Fence.wide.inRound l) 2 P (Exit.then K (fun _ _ _ => False)) { tmps:=(ps.zip (enc x)).foldl (fun t (p,v) => t.setIfInBounds p v) a.tmps,defers:=[] } W)
  (hbody:∀ l x r W g,I (x :: r) W→It (x :: r) W→w.heap.size≤g→W.heap[g]?=some (o x)→(∃ W₀,I (x :: r) W₀∧Stay G W₀ W∧W₀.heap.size=g)→body.wpIn (Fence.wide.inRound l) 2 P (rPost F I Ix r W) (a₁ x g) W)
  (hdone:∀ D W,w.heap.size≤D→I [] W→KeepsOthers w W→W.heap[D]?=some (.deferred (some []))→Q .normal { a with defers:={ target:=.collected D,args:=#[] } :: a.defers } W)
  (hstop:∀ D c W,w.heap.size≤D→Ix c W→KeepsOthers w W→W.heap[D]?=some (.deferred (some []))→c.wp P Q { a with defers:={ target:=.collected D,args:=#[] } :: a.defers } W) :
  (Code.rangeFunc g ps assign body).wp P Q a w:=by
 have hlF:∀ k,F k→k<w.heap.size:=fun k hk => by
  obtain ⟨cs,t,f,e⟩:=hit.cells _ _ k hit0 hk
  exact (Array.getElem?_eq_some_iff.1 e).1
 have keep:∀ {A B:World},KeepsOthers w A→Chg G A B→KeepsOthers w B:=fun hA hc =>
  ⟨Nat.le_trans hA.size hc.size,fun k o hk ho => hc.same (hA.same k o hk ho) fun hF => by
   obtain ⟨cs,t,f,e⟩:=hit.cells _ _ k hit0 (hit.sub k hF)
   rw [e] at hk;cases hk;cases ho⟩
 refine wp_range gf lb hg eg fun fn rec hrec => ?_
 obtain ⟨D,hD⟩:∃ D,w.heap.size=D:=⟨_,rfl⟩
 rw [hD]
 have hK1:KeepsOthers w ((w.alloc (.deferred (some []))).alloc (.loop (rec .ready none))):=(KeepsOthers.alloc w _).trans (KeepsOthers.alloc _ _)
 have hS1:Stay G w ((w.alloc (.deferred (some []))).alloc (.loop (rec .ready none))):=(Stay.alloc G w _).trans (Stay.alloc G _ _)
 have hL1:((w.alloc (.deferred (some []))).alloc (.loop (rec .ready none))).heap[D+1]?=some (.loop (rec .ready none)):=by
  have:=World.alloc_heap_new (w.alloc (.deferred (some []))) (.loop (rec .ready none))
  rwa [World.size_alloc,hD] at this
 have hD1:((w.alloc (.deferred (some []))).alloc (.loop (rec .ready none))).heap[D]?=some (.deferred (some [])):=by
  rw [← hD]
  exact (Below.heap_alloc _ _ _ (by simp)).trans (World.alloc_heap_new _ _)
 have hF1:∀ k,F k→((w.alloc (.deferred (some []))).alloc (.loop (rec .ready none))).heap[k]?=w.heap[k]?:=fun k hk => by
  have:=hlF k hk
  exact (Below.heap_alloc _ _ _ (by simp;omega)).trans (Below.heap_alloc _ _ _ this)
 have hIt1:=hit.far0 _ _ _ hit0 hS1.size hF1
 have hI1:=hI _ _ _ h0 hS1
 generalize (w.alloc (.deferred (some []))).alloc (.loop (rec .ready none))=W1 at hK1 hS1 hL1 hD1 hF1 hIt1 hI1 ⊢
 have hle:∀ {W:World},KeepsOthers w W→D≤W.heap.size:=fun h => by rw [← hD];exact h.size
 refine (hit.call (D+1)
  (fun r W => I r W∧W.heap[D+1]?=some (.loop (rec .ready none))∧W.heap[D]?=some (.deferred (some []))∧KeepsOthers w W)
  (fun W => ∃ c,Ix c W∧W.heap[D+1]?=some (.loop (rec .done (some c)))∧W.heap[D]?=some (.deferred (some []))∧KeepsOthers w W)
  ?_ ?_ ?_ c W1 ⟨hI1,hL1,hD1,hK1⟩ hIt1).mono ?_
 ·rintro r A B ⟨h1,h2,h3,h4⟩ hc
  exact ⟨hI _ _ _ h1 (.of_chg hc),hc.same h2 (fun h => by have:=hlF _ (hit.sub _ h);omega),hc.same h3 (fun h => by have:=hlF _ (hit.sub _ h);omega),keep h4 hc⟩
 ·rintro A B ⟨k,h1,h2,h3,h4⟩ hc
  exact ⟨k,hIx _ _ _ h1 (.of_chg hc),hc.same h2 (fun h => by have:=hlF _ (hit.sub _ h);omega),hc.same h3 (fun h => by have:=hlF _ (hit.sub _ h);omega),keep h4 hc⟩
 ·rintro x r W ⟨h1,h2,h3,h4⟩ hIt
  have hlt:D+1<W.heap.size:=(Array.getElem?_eq_some_iff.1 h2).1
  refine yield_body hrec h2 (hps x) (hassign _ x W _ rfl) ((Below.heap_alloc W (o x) _ hlt).trans h2) ?_
  have h2a:=(Below.heap_alloc W (o x) _ hlt).trans h2
  have h3a:=(Below.heap_alloc W (o x) D (by omega)).trans h3
  have hga:=World.alloc_heap_new W (o x)
  have hpa:Stay G W (W.alloc (o x)):=.alloc G W _
  have hFa:∀ k,F k→(W.alloc (o x)).heap[k]?=W.heap[k]?:=fun k hk => Below.heap_alloc W (o x) k (by have:=hlF k hk;have:=h4.size;omega)
  have h4a:KeepsOthers w (W.alloc (o x)):=h4.trans (KeepsOthers.alloc W _)
  have h1a:=hI _ _ _ h1 hpa
  have hIta:=hit.far _ _ _ hIt hpa.size hFa
  have hszW:=hpa.size
  have hgW:w.heap.size≤W.heap.size:=h4.size
  have hgD:W.heap.size≠D+1:=by omega
  generalize hg0:W.heap.size=g0 at hga hgW hgD hszW
  generalize W.alloc (o x)=Wa at h2a h3a hga hpa hFa h4a h1a hIta hszW ⊢
  have hlta:D+1<Wa.heap.size:=(Array.getElem?_eq_some_iff.1 h2a).1
  have hp:Stay G Wa (Wa.putObj (D+1) (.loop (rec .busy none))):=.put h2a rfl _
  have hpF:∀ k,F k→(Wa.putObj (D+1) (.loop (rec .busy none))).heap[k]?=Wa.heap[k]?:=fun k hk => World.putObj_heap_other (by have:=hlF k hk;omega)
  have hgp:(Wa.putObj (D+1) (.loop (rec .busy none))).heap[g0]?=some (o x):=(World.putObj_heap_other hgD).trans hga
  have hb:=hbody (D+1) x r _ g0 (hI _ _ _ h1a hp) (hit.far _ _ _ hIta hp.size hpF) hgW hgp ⟨W,h1,hpa.trans hp,hg0⟩
  have g2:(Wa.putObj (D+1) (.loop (rec .busy none))).heap[D+1]?=some (.loop (rec .busy none)):=World.putObj_heap_same hlta
  have g3:(Wa.putObj (D+1) (.loop (rec .busy none))).heap[D]?=some (.deferred (some [])):=(World.putObj_heap_other (by omega)).trans h3a
  have g4:KeepsOthers w (Wa.putObj (D+1) (.loop (rec .busy none))):=⟨by simpa using h4a.size,fun k o hk ho => (World.putObj_heap_other (by have:=(Array.getElem?_eq_some_iff.1 hk).1;omega)).trans (h4a.same k o hk ho)⟩
  have hsz:g0≤(Wa.putObj (D+1) (.loop (rec .busy none))).heap.size:=Nat.le_trans hszW hp.size
  have hpF2:∀ k,F k→(Wa.putObj (D+1) (.loop (rec .busy none))).heap[k]?=W.heap[k]?:=fun k hk => (hpF k hk).trans (hFa k hk)
  clear hpF
  generalize Wa.putObj (D+1) (.loop (rec .busy none))=V at hb hpF2 g2 g3 g4 hsz
  have fin:∀ (st:Option Code) (k:LoopState) (V':World),KeepsOthers V V'→(∀ k,F k→V'.heap[k]?=V.heap[k]?) →
    V'.heap[D+1]?=some (.loop (rec .busy none))∧g0≤(V'.putObj (D+1) (.loop (rec k st))).heap.size∧(∀ j,F j→(V'.putObj (D+1) (.loop (rec k st))).heap[j]?=W.heap[j]?)∧Stay G V' (V'.putObj (D+1) (.loop (rec k st))) ∧
    (V'.putObj (D+1) (.loop (rec k st))).heap[D+1]?=some (.loop (rec k st))∧(V'.putObj (D+1) (.loop (rec k st))).heap[D]?=some (.deferred (some []))∧KeepsOthers w (V'.putObj (D+1) (.loop (rec k st))):=by
   intro st k V' hK hFs
   have e:=hK.same _ _ g2 rfl
   have e3:=hK.same _ _ g3 rfl
   have e4:=g4.trans hK
   refine ⟨e,by simpa using Nat.le_trans hsz hK.size,fun j hj => ((World.putObj_heap_other (by have:=hlF j hj;omega)).trans (hFs j hj)).trans (hpF2 j hj),.put e rfl _,World.putObj_heap_same (Array.getElem?_eq_some_iff.1 e).1,(World.putObj_heap_other (by omega)).trans e3,
    ⟨by simpa using e4.size,fun k o hk ho => (World.putObj_heap_other (by have:=(Array.getElem?_eq_some_iff.1 hk).1;omega)).trans (e4.same k o hk ho)⟩⟩
  refine wpIn_mono hb ?_
  rintro e a2 V' hq
  cases e with
  | normal =>
   obtain ⟨q1,q2,q3⟩:=hq
   obtain ⟨f1,f2,f3,f4,f5,f6,f7⟩:=fin none .ready V' q1 q2
   exact ⟨f1,f2,f3,.inl ⟨rfl,hI _ _ _ q3 f4,f5,f6,f7⟩⟩
  | ret =>
   obtain ⟨q1,q2,q3⟩:=hq
   obtain ⟨f1,f2,f3,f4,f5,f6,f7⟩:=fin (some .ret) .done V' q1 q2
   exact ⟨f1,f2,f3,.inr ⟨rfl,_,hIx _ _ _ q3 f4,f5,f6,f7⟩⟩
  | exit id =>
   obtain ⟨q1,q2,q3⟩:=hq
   obtain ⟨f1,f2,f3,f4,f5,f6,f7⟩:=fin (some (.exit id)) .done V' q1 q2
   exact ⟨f1,f2,f3,.inr ⟨rfl,_,hIx _ _ _ q3 f4,f5,f6,f7⟩⟩
  | goto t =>
   obtain ⟨q1,q2,q3⟩:=hq
   obtain ⟨f1,f2,f3,f4,f5,f6,f7⟩:=fin (some (.goto t)) .done V' q1 q2
   exact ⟨f1,f2,f3,.inr ⟨rfl,_,hIx _ _ _ q3 f4,f5,f6,f7⟩⟩
  | panic ch => exact hq.elim
  | outgrown => exact hq.elim
 ·rintro e W ⟨⟨v,rfl⟩,⟨h1,h2,h3,h4⟩ | ⟨k,h1,h2,h3,h4⟩⟩
  ·have g4:KeepsOthers w (W.putObj (D+1) (.loop (rec .exhausted none))):=⟨by simpa using h4.size,fun k o hk ho => (World.putObj_heap_other (by have:=(Array.getElem?_eq_some_iff.1 hk).1;omega)).trans (h4.same k o hk ho)⟩
   exact ⟨⟨_,rfl⟩,.inl ⟨h2,hdone D _ (Nat.le_of_eq hD) (hI _ _ _ h1 (.put h2 rfl _)) g4 ((World.putObj_heap_other (by omega)).trans h3)⟩⟩
  ·have g4:KeepsOthers w (W.putObj (D+1) (.loop (rec .exhausted (some k)))):=⟨by simpa using h4.size,fun k o hk ho => (World.putObj_heap_other (by have:=(Array.getElem?_eq_some_iff.1 hk).1;omega)).trans (h4.same k o hk ho)⟩
   exact ⟨⟨_,rfl⟩,.inr ⟨k,h2,hstop D k _ (Nat.le_of_eq hD) (hIx _ _ _ h1 (.put h2 rfl _)) g4 ((World.putObj_heap_other (by omega)).trans h3)⟩⟩
theorem wpListIn_append_any {l m:Nat} {w:World} {ops:Array Oper} {rest:List Oper} {o:Oper} {a:Act} {Q:Exit→Act→World→Prop} (hgd:o.guard=none) (s x:Operand) (t:TypeId)
  (ho:o.op=.call { callee:=.builtin .append,args:=#[s,x],argTypes:=#[t,t] })
  (base:Nat) (e:TypeId) (i:TypeInfo) (z:Value) (size bytes:Nat) (ht:P.underlying t=some (.slice e)) (hi:P.info? e=some i) (hz:i.zero=some z)
  (hsize:i.size=size) (hby:i.bytes=bytes) (hzs:z.cells.size=size) (hsz:0<size)
  (v:Value) (n:Nat) (xs:List Value) (hs:a.eval s=v) (hown:w.ownsRow base e size v n xs)
  (B:Nat) (A:Option Addr) (k c:Nat) (news:List Value) (hx:a.eval x=.slice A k c) (hr:Reads w B size A k news) (h1:∀ u∈news,u.oneCell'=true)
  (h63:n+k≤maxLen) (hbytes:(n+k) * bytes≤140737488355328) (hbase:base≤w.heap.size)
  (h:∀ v' w',w'.ownsRow base e size v' (n+k) (xs++news)→w.grownBy w' v.ownBlock→(v'.ownBlock=v.ownBlock∨v'.ownBlock=some w.heap.size)→wpListIn (Fence.wide.inRound l) m P ops Q rest (a.put o.dst v') w'):wpListIn (Fence.wide.inRound l) m P ops Q (o :: rest) a w :=
 wpListIn_plain hgd fun K hK => wpIn_of_wp (fun c hc => by rw [ho] at hc;cases hc) (wp_append_any w s x t ho base e i z size bytes ht hi hz hsize hby hzs hsz v n xs hs hown B A k c news hx hr h1 h63 hbytes hbase fun v' w' h2 h3 h4 => hK _ _ (h v' w' h2 h3 h4))
end
end Pal

namespace Go.Proofs.YtehpmbmdadkhbaaGreatDoor
open Go.RowKit Pal
attribute [local go_sem] Oper.semAt_some
structure Sp where
 en:En
 f:Nat
 t:Nat
def Sp.cells (x:Sp):List Value:=[.string x.en.m,.int .i64 x.en.s,.int .i64 (x.f:Int),.int .i64 (x.t:Int)]
def Sp.val (x:Sp):Value:=.agg x.cells.toArray
def sps (l:List En):List Sp:=(List.range l.length).map fun k => ⟨l.getD k ⟨⟨#[]⟩,0⟩,offE l k,offE l (k+1)⟩
theorem sps_len (l:List En):(sps l).length=l.length:=by unfold sps;simp
theorem sps_get {l:List En} {k:Nat} {e:En} (h:l[k]?=some e):(sps l)[k]?=some ⟨e,offE l k,offE l (k+1)⟩:=by
 have hk:=(List.getElem?_eq_some_iff.1 h).1
 unfold sps
 rw [List.getElem?_map,List.getElem?_range hk,Option.map_some,List.getD_eq_getElem?_getD,h];rfl
theorem sps_en (l:List En):(sps l).map (·.en)=l:=by
 apply List.ext_getElem?
 intro k
 rw [List.getElem?_map]
 cases h:l[k]? with
 | none =>
  have:l.length≤k:=by simpa using h
  rw [List.getElem?_eq_none (by rw [sps_len];exact this)];rfl
 | some e => rw [sps_get h];rfl
theorem spots_any (p:ByteArray) (w:World):Calls Tryz.prog 216 #[.string p] w fun r w' => r=.returned (fnv 220 #[pt w.heap.size])∧w.alloc (.cells #[.string p] 9)=w':=by
 unfold pt fnv
 go_enter Tryz.func216,Tryz.ntmps216
 go_wp2
 go_ret
 exact ⟨rfl,rfl⟩
set_option maxRecDepth 100000 in
set_option maxHeartbeats 1000000 in
theorem spots1_any (es:List En) (hp:POk es) (B:Nat) (l:Nat) (I:List Sp→World→Prop) (Ix:World→Prop) (hI:∀ r W W',I r W→Chg (fun _ => False) W W'→I r W')
  (hY:∀ x r W,I (x :: r) W→(Blk W B 9 #[.string (pk es)]∧∃ pre,pre++(x :: r)=sps es)→YieldAt Fence.wide 2 Tryz.prog l #[x.val] W fun e W' => W.heap.size≤W'.heap.size∧(∀ k,k=B→W'.heap[k]?=W.heap[k]?)∧((e=.returned (.bool true)∧I r W')∨(e=.returned (.bool false)∧Ix W')))
  (w:World) (h0:I (sps es) w) (hb:Blk w B 9 #[.string (pk es)]) :
  Calls Tryz.prog 220 #[.func (.yield l) #[] #[],pt B] w fun e W' => (∃ v,e=.returned v)∧(I [] W'∨Ix W'):=by
 have hno:=fun w => read_no es w
 have hyes:=fun k e (h:es[k]?=some e) w => read_at es k e hp h w
 have hof:=fun k e (h:es[k]?=some e) => offE_succ h
 have hlt:=fun k e (h:es[k]?=some e) => offE_lt h
 have hsz:=pk_le hp
 have hok:=fun k e (h:es[k]?=some e) => (hp.ok e (List.mem_of_getElem? h)).1
 have hlen:=sps_len es
 have hget:=fun k e (h:es[k]?=some e) => sps_get h
 generalize sps es=L at *
 generalize pk es=p at *
 refine (callsIn_wide (n:=3)).1 ?_
 refine callsIn_of_wp Tryz.func220 rfl trivial ?_ rfl
 simp only [Tryz.ntmps220,List.size_toArray,List.length_cons,List.length_nil,Nat.reduceAdd,Nat.reduceSub,Array.replicate_succ,Array.replicate_zero,List.push_toArray,List.append_toArray,List.nil_append,List.cons_append]
 unfold pt
 gi_wp2
 gi_loopg [3] (L.length+1) (fun m x W => ∃ pre r,pre++r=L∧m=r.length+1∧x=.int .i64 (offE es pre.length:Int)∧I r W∧Blk W B 9 #[.string p])
 case atStart => exact ⟨[],L,rfl,rfl,rfl,h0,hb⟩
 case round =>
  clear h0 hb
  obtain ⟨pre,r,hpr,rfl,rfl,hIr,hB⟩:=hrel
  have c0:=hB.cell 0
  have l0:=hB.lt
  simp only [List.getElem?_toArray,List.getElem?_cons_zero] at c0
  have hl2:pre.length+r.length=es.length:=by rw [← hlen,← hpr,List.length_append]
  have HPR:=Lib.hid hpr
  clear hpr hlen
  cases r with
  | nil =>
   have hpe:pre.length=es.length:=by rw [List.length_nil] at hl2;omega
   rw [hpe]
   clear hl2 hpe
   gi_wp2
   refine ⟨trivial,(callsIn_wide.2 (hno _)).mono ?_⟩
   rintro r w1 ⟨rfl,hC1⟩
   gi_wp2
   refine ⟨(fun _ h => nomatch h),?_⟩
   gi_wp2
   refine bodyPost_ret (results_none rfl _ _ _) rfl ?_
   exact ⟨⟨_,rfl⟩,.inl (hI _ _ _ hIr (hC1.alloc _))⟩
  | cons y r =>
   rw [List.length_cons] at hl2
   obtain ⟨e,he⟩:∃ e,es[pre.length]?=some e:=⟨_,List.getElem?_eq_getElem (by omega)⟩
   have hy:=hget _ _ he
   rw [← HPR.out,List.getElem?_append_right (Nat.le_refl _),Nat.sub_self,List.getElem?_cons_zero] at hy
   injection hy with hy
   have ho:=hof _ _ he
   have hle:=hlt _ _ he
   have hz:=hok _ _ he
   have hrd:=hyes _ _ he
   have hI2:=fun W => hY y r W
   have hnx:(pre++[y]).length=pre.length+1:=by simp
   have hon:offE es (pre++[y]).length=offE es pre.length+(e.m.size+10):=by rw [hnx,ho]
   have hI1:=hIr
   have hp1:=HPR.out
   rw [hy] at hI2 hI1 hp1
   rw [ho] at hI2 hI1 hp1
   replace hp1:=Lib.hid hp1
   generalize offE es pre.length=o at *
   have k1:(o:Int)+((e.m.size:Int)+10)≤20000:=by omega
   have k2:((e.m.size:Int)+10 == 0)=false:=by rw [beq_eq_false_iff_ne];omega
   have k3:(e.m.size:Int)≤64:=by omega
   have hN:=Lib.hid hon
   have HY:=Lib.hid hy
   have HL2:=Lib.hid hl2
   clear ho hle hz hon hy hl2 hnx hno hyes hof hlt hok hget he hsz
   unfold En.val at hrd
   gi_wp2
   refine ⟨trivial,(callsIn_wide.2 (hrd _)).mono ?_⟩
   rintro r' w1 ⟨rfl,hC1⟩
   have hCa:Chg (fun _ => False) wr (w1.alloc (.cells #[.string e.m,.int .i64 e.s] 68)):=hC1.alloc _
   obtain ⟨fn,tmps,assign,body,hy',hR⟩:=hI2 _ (hI _ _ _ hI1 hCa) ⟨hB.chg hCa id,pre,hp1.out⟩
   have hBa:=hB.chg hCa id
   simp only [Sp.val,Sp.cells,Int.natCast_add,Int.cast_ofNat_Int] at hy'
   clear c0 l0
   gi_wp2
   refine hR.mono ?_
   rintro e' W3 ⟨hsz,hF,⟨rfl,hI3⟩ | ⟨rfl,hx3⟩⟩
   ·have hB3:Blk W3 B 9 #[.string p]:=(hF B rfl).trans hBa
    gi_wp2
    gi_roundg (r.length+1)
    case rel => exact ⟨pre++[y],r,by rw [List.append_assoc];exact HPR.out,rfl,int_eq (by rw [hN.out];omega),hI3,hB3⟩
    case measure => rw [List.length_cons];omega
   ·gi_wp2
    refine bodyPost_ret (results_none rfl _ _ _) rfl ?_
    exact ⟨⟨_,rfl⟩,.inr hx3⟩
end Go.Proofs.YtehpmbmdadkhbaaGreatDoor

namespace Go.Proofs.YtehpmbmdadkhbaaGreatDoor
open Go.RowKit Pal
attribute [local go_sem] Oper.semAt_some
theorem spot_info:(Tryz.prog.info? 324).map (fun i => (i.zero,i.size,i.bytes))=some (some (.agg #[.string ⟨#[]⟩,.int .i64 0,.int .i64 0,.int .i64 0]),4,40):=by kernel_rfl
def Spts (w:World) (base:Nat) (v:Value) (l:List Sp):Prop:=w.ownsRow base 324 4 v l.length (l.flatMap Sp.cells)
def spF (B:Nat) (g:Nat):Prop:=g=B
def spIt (es:List En) (B:Nat) (r:List Sp) (W:World):Prop:=Blk W B 9 #[.string (pk es)]∧∃ pre,pre++r=sps es
def spIt0 (es:List En) (B:Nat) (r:List Sp) (W:World):Prop:=Blk W B 9 #[.string (pk es)]∧r=sps es
theorem spots_spec (es:List En) (hp:POk es) (B:Nat):IterSpec Tryz.prog 220 #[pt B] (fun x:Sp => #[x.val]) (spF B) (fun _ => False) (spIt0 es B) (spIt es B) where
 sub:=fun _ h => h.elim
 cells:=by rintro r W k ⟨hB,_⟩ rfl;exact ⟨_,_,_,hB⟩
 far0:=by rintro r W W' ⟨hB,hr⟩ _ hF;exact ⟨(hF B rfl).trans hB,hr⟩
 far:=by rintro r W W' ⟨hB,hr⟩ _ hF;exact ⟨(hF B rfl).trans hB,hr⟩
 call:=by
  rintro l I Ix hI hIx hY c W h0 ⟨hB,rfl⟩
  exact spots1_any es hp B l I Ix hI hY W h0 hB
structure AlI (es:List En) (w0:World) (OB EB M:Nat) (r:List Sp) (W:World):Prop where
 ex:∃ v pre,pre++r=sps es∧Blk W OB 331 #[v]∧Blk W EB 3 #[.int .i64 (offE es pre.length:Int)]∧Spts W M v pre
 st:Stay (fun _ => False) w0 W
 M:M≤W.heap.size
def AllPost (es:List En) (w:World) (r:Ending) (w':World):Prop:=(∃ v,r=.returned (.tuple #[v,.int .i64 0])∧Spts w' w.heap.size v (sps es))∧Chg (fun _ => False) w w'
theorem spts_len {w:World} {base:Nat} {v:Value} {l:List Sp} (h:Spts w base v l):∃ p c,v=.slice p l.length c∧l.length≤c∧c≤maxLen:=by
 rcases h.2 with ⟨rfl,h0⟩ | ⟨g,cap,cur,rfl,h1,h2,h3,h4,_⟩
 ·exact ⟨none,0,by rw [h0],by omega,by simp [maxLen]⟩
 ·exact ⟨_,cap,rfl,h3,h4⟩
set_option maxRecDepth 100000 in
set_option maxHeartbeats 4000000 in
theorem all_any (es:List En) (hp:POk es) (w:World):Calls Tryz.prog 217 #[.string (pk es)] w (AllPost es w):=by
 have hcnt:=fun w => count_any es hp w
 have hsz:=pk_le hp
 have hlen:=hp.len
 have hspl:=sps_len es
 have hend:=offE_end es
 obtain ⟨i0,hi0,hz0,hz1,hz2⟩:=info_parts spot_info
 refine calls_of_wp_marks Tryz.func217 rfl ?_
 simp only [Tryz.ntmps217,List.size_toArray,List.length_cons,List.length_nil,Nat.reduceAdd,Nat.reduceSub,Array.replicate_succ,Array.replicate_zero,List.push_toArray,List.append_toArray,List.nil_append,List.cons_append]
 go_wp2_with (go_at_call 216;refine (spots_any _ _).mono ?_;rintro e w' ⟨rfl,rfl⟩)
 have hb0:=((Blk.new w 331 #[.slice none 0 0]).alloc (.cells #[.int .i64 2] 3)).alloc (.cells #[.string (pk es)] 9)
 have hb1:=(Blk.new (w.alloc (.cells #[.slice none 0 0] 331)) 3 #[.int .i64 2]).alloc (.cells #[.string (pk es)] 9)
 have hb2:=Blk.new ((w.alloc (.cells #[.slice none 0 0] 331)).alloc (.cells #[.int .i64 2] 3)) 9 #[.string (pk es)]
 have hS:Chg (fun _ => False) w (((w.alloc (.cells #[.slice none 0 0] 331)).alloc (.cells #[.int .i64 2] 3)).alloc (.cells #[.string (pk es)] 9)):=(((Chg.refl _ w).alloc _).alloc _).alloc _
 have hsw:(((w.alloc (.cells #[.slice none 0 0] 331)).alloc (.cells #[.int .i64 2] 3)).alloc (.cells #[.string (pk es)] 9)).heap.size=w.heap.size+3:=by simp
 simp only [World.size_alloc] at hb0 hb1 hb2 ⊢
 generalize ((w.alloc (.cells #[.slice none 0 0] 331)).alloc (.cells #[.int .i64 2] 3)).alloc (.cells #[.string (pk es)] 9)=W0 at hb0 hb1 hb2 hS hsw ⊢
 refine wp_range_al 220 #[pt (w.heap.size+1+1)] rfl (enters_of Tryz.func220 (by kernel_rfl) rfl) (spots_spec es hp (w.heap.size+1+1)) (fun _ => rfl)
  (AlI es w w.heap.size (w.heap.size+1) (w.heap.size+3)) ?_ (fun _ _ => False) (fun _ _ _ h => h.elim) (sps es) ?_ ?_ (fun x => .cells #[.string x.en.m,.int .i64 x.en.s,.int .i64 (x.f:Int),.int .i64 (x.t:Int)] 324) _ (fun l x W g hg K hK => by simp only [Sp.val,Sp.cells];gi_wp2;exact hK) ?_ ?_ (fun _ _ _ _ h => h.elim)
 ·rintro r W W' ⟨⟨v,pre,h1,h2,h3,h4⟩,h5,h6⟩ hs
  exact ⟨⟨v,pre,h1,h2.stay hs id,h3.stay hs id,own_stay h4 hs fun _ _ => id⟩,h5.trans' hs fun g hg h' => h',Nat.le_trans h6 hs.size⟩
 ·exact ⟨⟨_,[],rfl,hb0,hb1,World.ownsRow_nil _ _ _ 4⟩,.of_chg hS,by omega⟩
 ·exact ⟨hb2,rfl⟩
 ·rintro l x r W g ⟨⟨v,pre,h1,h2,h3,h4⟩,h5,h6⟩ ⟨hB,_⟩ hle hg ⟨W₀,⟨⟨v0,pre0,_,q2,_,q4⟩,_,_⟩,qs,qg⟩
  have hB:Blk W (w.heap.size+1+1) 9 #[.string (pk es)]:=hB
  have hgb:Blk W g 324 #[.string x.en.m,.int .i64 x.en.s,.int .i64 (x.f:Int),.int .i64 (x.t:Int)]:=hg
  have hxt:x.t=offE es (pre.length+1)∧pre.length<es.length:=by
   have hl:pre.length<(sps es).length:=by rw [← h1];simp
   rw [hspl] at hl
   have hx:(sps es)[pre.length]?=some x:=by rw [← h1];simp
   rw [sps_get (List.getElem?_eq_getElem hl)] at hx
   injection hx with hx
   rw [← hx];exact ⟨rfl,hl⟩
  obtain ⟨hxt,hpl⟩:=hxt
  have hv0:v0=v:=by
   have e1:=(q2.stay qs id).symm.trans h2
   injection e1 with e1
   injection e1 with e1
   injection e1 with e1
   injection e1 with e1
  subst hv0
  have hown9:v0.ownBlock≠some g:=fun e => by have:=(q4.lt g e).2;omega
  clear q2 q4 qs qg
  obtain ⟨pa,cp,rfl,hcp1,hcp2⟩:=spts_len h4
  have k0:=h2.cell 0
  have kf:=h2.frozen 0
  have e0:=h3.cell 0
  have ef:=h3.frozen 0
  have g0:=hgb.cell 0
  have g1:=hgb.cell 1
  have g2:=hgb.cell 2
  have g3:=hgb.cell 3
  simp only [List.getElem?_toArray,List.getElem?_cons_zero,List.getElem?_cons_succ] at k0 e0 g0 g1 g2 g3
  have l0:=h2.lt
  have l1:=h3.lt
  have l2:=hgb.lt
  have hgn:g≠w.heap.size∧g≠w.heap.size+1:=⟨fun e => by subst e;exact hgb.ne_type h2 (by decide) rfl,fun e => by subst e;exact hgb.ne_type h3 (by decide) rfl⟩
  have hlen2:pre.length+1≤maxLen:=by unfold maxLen;omega
  have hlen3:(pre.length+1) * 40≤140737488355328:=by omega
  have hr:Reads (W.alloc (Obj.cells #[.string x.en.m,.int .i64 x.en.s,.int .i64 (x.f:Int),.int .i64 (x.t:Int)] 324)) (W.heap.size+1) 4 (some ⟨W.heap.size,0,none⟩) 1 x.cells:=by
   refine ⟨rfl,fun _ => ⟨_,rfl,Nat.lt_succ_self _,fun j u hu => ?_⟩⟩
   have hb:=(Blk.new W 324 #[.string x.en.m,.int .i64 x.en.s,.int .i64 (x.f:Int),.int .i64 (x.t:Int)]).cell j
   rw [addr_add',Nat.zero_add,hb]
   exact (List.getElem?_toArray (xs:=x.cells)).trans hu
  have hc1:Chg (fun _ => False) W (W.alloc (Obj.cells #[.string x.en.m,.int .i64 x.en.s,.int .i64 (x.f:Int),.int .i64 (x.t:Int)] 324)):=(Chg.refl _ W).alloc _
  have hown0:(W.alloc (Obj.cells #[.string x.en.m,.int .i64 x.en.s,.int .i64 (x.f:Int),.int .i64 (x.t:Int)] 324)).ownsRow (w.heap.size+3) 324 4 _ _ _:=own_stay h4 (.of_chg hc1) fun _ _ => id
  have hone:∀ u∈x.cells,u.oneCell'=true:=by
   intro u hu
   unfold Sp.cells at hu
   simp only [List.mem_cons,List.not_mem_nil,or_false] at hu
   rcases hu with rfl | rfl | rfl | rfl <;> rfl
  have hM1:w.heap.size+3≤(W.alloc (Obj.cells #[.string x.en.m,.int .i64 x.en.s,.int .i64 (x.f:Int),.int .i64 (x.t:Int)] 324)).heap.size:=Nat.le_trans h6 hc1.size
  have H1:=Lib.hid h1
  have HX:=Lib.hid hxt
  clear h1 hxt hsz hlen hspl hend hcnt hb0 hb1 hb2 hS hsw hg
  gi_wp2_with ((with_reducible refine wpListIn_append_any rfl (.tmp 11) (.tmp 13) 331 rfl (w.heap.size+3) 324 i0 _ 4 40 Tryz.underlying331 hi0 hz0 hz1 hz2 rfl (by omega) (.slice pa pre.length cp) pre.length _ rfl hown0 (W.heap.size+1) (some ⟨W.heap.size,0,none⟩) 1 1 x.cells rfl hr hone hlen2 hlen3 hM1 ?_))
  intro v1 w1 hown1 hg1 _
  obtain ⟨g1',cp1,rfl⟩:=ownsRow_succ hown1
  have a1:=app_chg hown0 hg1
  have a2:=app_keeps hown0 hg1
  have b0:Blk w1 w.heap.size 331 #[.slice pa pre.length cp]:=Blk.chg (h2.alloc _) a1 (by omega)
  have b1:Blk w1 (w.heap.size+1) 3 _:=Blk.chg (h3.alloc _) a1 (by omega)
  have b2:Blk w1 g 324 _:=(hg1.block g (by have:=hgb.lt;simp;omega) (fun e => hown9 e.symm)).trans (hgb.alloc _)
  have c0:=b0.cell 0
  have f0:=b0.frozen 0
  have c1:=b1.cell 0
  have f1:=b1.frozen 0
  have c3:=b2.cell 3
  simp only [List.getElem?_toArray,List.getElem?_cons_zero,List.getElem?_cons_succ] at c0 c1 c3
  have m0:=b0.lt
  have m1:=b1.lt
  have m2:=b2.lt
  obtain ⟨hgn1,hgn2⟩:=hgn
  gi_wp2_with fail
  have a3:Chg (fun k => k=w.heap.size∨k=w.heap.size+1∨w.heap.size+3≤k) W ((w1.setCell ⟨w.heap.size,0,none⟩ (.slice (some ⟨g1',0,none⟩) (pre.length+1) cp1)).setCell ⟨w.heap.size+1,0,none⟩ (.int .i64 (x.t:Int))) :=
   (((hc1.mono fun _ _ h => h.elim).trans' a1 fun _ _ h => .inr (.inr h)).store (.inl rfl) 0 _).store (.inr (.inl rfl)) 0 _
  have b3:=(b0.set 0 (.slice (some ⟨g1',0,none⟩) (pre.length+1) cp1)).far (p:=⟨w.heap.size+1,0,none⟩) (by simp) (.int .i64 (x.t:Int))
  have b4:=(b1.far (p:=⟨w.heap.size,0,none⟩) (by simp) (.slice (some ⟨g1',0,none⟩) (pre.length+1) cp1)).set 0 (.int .i64 (x.t:Int))
  have hge:∀ g,(Value.slice (some ⟨g1',0,none⟩) (pre.length+1) cp1).ownBlock=some g→w.heap.size+3≤g:=fun g hg => (hown1.lt g hg).1
  have h9:=own_stay (F:=fun k => k=w.heap.size∨k=w.heap.size+1) hown1 (.of_chg (((Chg.refl (fun k => k=w.heap.size∨k=w.heap.size+1) w1).store (.inl rfl) 0 (.slice (some ⟨g1',0,none⟩) (pre.length+1) cp1)).store (.inr rfl) 0 (.int .i64 (x.t:Int)))) (fun g hg h' => by have:=hge g hg;omega)
  refine ⟨(((KeepsOthers.of_chg0 hc1).trans a2).trans (KeepsOthers.setCell _ _ _)).trans (KeepsOthers.setCell _ _ _),fun k hk => a3.block k (by have hk:k=w.heap.size+1+1:=hk;subst hk;exact hB.lt) (by have hk:k=w.heap.size+1+1:=hk;omega),⟨⟨_,pre++[x],by rw [← H1.out];simp,b3,?_,?_⟩,h5.trans' (.of_chg a3) (fun g hg h' => by omega),Nat.le_trans h6 a3.size⟩⟩
  ·have e:offE es (pre++[x]).length=x.t:=by rw [HX.out];simp
   rw [e];exact b4
  ·unfold Spts
   rw [List.length_append,List.flatMap_append]
   exact h9
 ·rintro D W hD ⟨⟨v,pre,h1,h2,h3,h4⟩,h5,h6⟩ hO hDd
  rw [List.append_nil] at h1
  subst h1
  have hC:Chg (fun _ => False) w W:=.of_stay h5 ((KeepsOthers.of_chg0 hS).trans hO)
  have hwD:w.heap.size≤D:=Nat.le_trans hS.size hD
  rw [hspl,hend] at h3
  obtain ⟨p,c,hv,_,_⟩:=spts_len h4
  rw [hspl] at hv
  have HV:=Lib.hid hv
  have n1:¬ (es.length:Int)<0:=by omega
  clear hb0 hb1 hb2 hsw hv hspl hend
  go_wp2_with (go_at_call 214;refine (hcnt _).mono ?_;rintro r w9 ⟨rfl,hC9⟩;have k0:=(h2.chg hC9 id).cell 0;have e0:=(h3.chg hC9 id).cell 0;have l0:=(h2.chg hC9 id).lt;have l1:=(h3.chg hC9 id).lt;simp only [List.getElem?_toArray,List.getElem?_cons_zero] at k0 e0;rw [HV.out] at k0)
  have hd9:w9.heap[D]?=some (.deferred (some [])):=hC9.same hDd id
  have h49:Spts w9 (w.heap.size+3) v (sps es):=own_stay h4 (.of_chg hC9) fun _ _ => id
  refine bodyPostM_ret (D:=D) (v:=.tuple #[v,.int .i64 0]) rfl hd9 (by rw [HV.out];simp [results,Tryz.results217,go_sem]) ⟨⟨v,rfl,?_⟩,?_⟩
  ·have h9:Spts _ (w.heap.size+3) v (sps es):=own_stay h49 (Stay.put (F:=fun _ => False) hd9 rfl (.deferred none)) fun _ _ => id
   refine ⟨h9.1,?_⟩
   rcases h9.2 with h0 | ⟨g,cap,cur,hv,hb,rest⟩
   ·exact .inl h0
   ·exact .inr ⟨g,cap,cur,hv,by omega,rest⟩
  ·exact (hC.trans hC9).put (by omega) _
end Go.Proofs.YtehpmbmdadkhbaaGreatDoor
