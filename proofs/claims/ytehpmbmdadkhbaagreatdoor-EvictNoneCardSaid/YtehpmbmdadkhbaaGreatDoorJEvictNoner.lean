/- Texts joined for EvictNone: EvictNone. -/
import Derived.Test.YtehpmbmdadkhbaaGreatDoorJEvictNoneq
set_option linter.unusedVariables false
set_option linter.unusedSimpArgs false

namespace Go.Proofs.YtehpmbmdadkhbaaGreatDoor
open Go.RowKit Pal Go.ChangeShapes Go.WideShapes Go.Deep
attribute [local go_sem] Oper.semAt_some
theorem sizeC_le {l:List Ct} (h:Cok l) (hn:l.length≤500):sizeC l≤40000000:=by
 suffices hs:∀ l:List Ct,(∀ c∈l,c.size≤76914)→(l.map Ct.size).sum≤76914 * l.length by
  have h1:=hs l fun c hc => by
   have h2:=bytesZ_le (h.z c hc) c.is
   have h3:=h.k c hc
   unfold Ct.size
   omega
  unfold sizeC
  omega
 intro l
 induction l with
 | nil => intro _;simp
 | cons c l ih =>
  intro hc
  have h1:=ih fun x hx => hc x (List.mem_cons_of_mem _ hx)
  have h2:=hc c (List.mem_cons_self)
  simp only [List.map_cons,List.sum_cons,List.length_cons]
  omega
theorem roomU_more {l:List Ct} {more now:Int} {ds:List Nat} (h:0≤more):roomU ((sizeC l:Int)+more) now l ds=([],0,l):=by
 unfold roomU
 split
 ·rfl
 ·rw [roomC_stop _ _ (by omega),if_neg (by omega)]
theorem roomU_low {l:List Ct} {most now:Int} {ds:List Nat} (h:most≤0):roomU most now l ds=([],0,l):=if_pos h
theorem MR.cok {w0 WW W:World} {sb rb:Nat} {cf:Cf} {ls lr:List Ct} (h:MR w0 WW sb rb cf ls lr W):Cok ls∧ls.length≤500:=by
 obtain ⟨F,hF,_⟩:=h.s
 exact hF.cok
set_option maxRecDepth 100000 in
set_option maxHeartbeats 4000000 in
theorem EvictNone_walk {H:Type} {enc:TypeId × Value→H} (W:World) {v0 v1 v4:Value} {d0 d1 d4:DataW H} {p0 p1 p4:List MemPlace}
  (hv0:Value.okWide Tryz.prog W .any 0 26 v0) (h0:DataW.Trod enc Tryz.prog W 0 (fun _ => true) true 26 v0 d0 p0)
  (hv1:Value.okWide Tryz.prog W .any 0 27 v1) (h1:DataW.Trod enc Tryz.prog W 0 (fun _ => true) true 27 v1 d1 p1) (more:Int) (w2:(Lit.int .i64 more).wf=true) (now:Int) (w3:(Lit.int .i64 now).wf=true)
  (hv4:Value.okWide Tryz.prog W .any 0 28 v4) (h4:DataW.Trod enc Tryz.prog W 0 (fun _ => true) true 28 v4 d4 p4) :
  Calls Tryz.prog 7 #[v0,v1,.int .i64 more,.int .i64 now,v4] W fun e w' => e=.returned (.bool true)∧Chg (fun _ => False) W w':=by
 obtain ⟨cf,rfl,hseed⟩:=open_cfg hv0 h0
 obtain ⟨n,g,hk⟩:=open_keys hv1 h1
 obtain ⟨ds,hd⟩:=open_draws hv4 h4
 have hw:=(i64_of_wf w3).2
 clear hv0 h0 hv1 h1 hv4 h4 w2 w3
 have hsh:=fun w => shown16_any w
 have hC0:=(Chg.refl (fun _ => False) W).alloc (.cells cf.cs 26)
 have x0:=Blk.new W 26 cf.cs
 have hmk:=fun W2 (hc:Chg (fun _ => False) W W2) => made_any hc cf hseed (hk.chg hc)
 generalize madeK (clampL 200 cf.E) (clampL 64 cf.M) (ksK g (min n 60))=L at hmk
 obtain ⟨pk,ck,rfl⟩:=hk.is
 obtain ⟨pd,cd,rfl,_⟩:=hd.is
 generalize ds.length=nd at *
 clear hk
 unfold Cf.cs pt at *
 by_cases hmo:more<0∨1000<more
 ·have hmo2:more<0∨(¬ more<0∧1000<more):=by omega
  clear hmo hmk hd
  rcases hmo2 with h9 | ⟨h9,h8⟩
  ·go_enter Tryz.func7,Tryz.ntmps7
   go_wp2_with (first
    | (go_at_call 9;refine (hsh _).mono ?_;rintro r w1 ⟨rfl,hC1⟩)
    | fail)
   go_ret
   exact ⟨rfl,hC0.trans hC1⟩
  ·go_enter Tryz.func7,Tryz.ntmps7
   go_wp2_with (first
    | (go_at_call 9;refine (hsh _).mono ?_;rintro r w1 ⟨rfl,hC1⟩)
    | fail)
   go_ret
   exact ⟨rfl,hC0.trans hC1⟩
 ·have h9:¬ more<0:=by omega
  have h8:¬ 1000<more:=by omega
  have h7:0≤more:=by omega
  have h6:more≤1000:=by omega
  clear hmo
  go_enter Tryz.func7,Tryz.ntmps7
  go_wp2_with (first
   | (go_at_call 9;refine (hsh _).mono ?_;rintro r w1 ⟨rfl,hC1⟩;have x1:=x0.chg hC1 id;have y0:=x1.cell 0;have y1:=x1.cell 1;have y2:=x1.cell 2;have y3:=x1.cell 3;have yl:=x1.lt;simp only [List.getElem?_toArray,List.getElem?_cons_zero,List.getElem?_cons_succ] at y0 y1 y2 y3;have hW1:=hC0.trans hC1)
   | (go_at_call 10;(with_reducible refine (hmk _ hW1).mono ?_);rintro r w4 ⟨sb,rb,rfl,hM⟩;obtain ⟨hok,hl5⟩:=hM.cok;obtain ⟨F,hF,f1⟩:=hM.s;have hW4:=hW1.trans hM.c;have hD:=hd.outer hW4 (fun g hg => Nat.le_trans hW1.size (f1 g hg));have hsz:=sizeC_le hok hl5;have hszi:(sizeC L:Int)≤40000000:=(by omega);have hle:=spa_len hF;have hsi:=spa_size hF;unfold pt at hle hsi)
   | (go_at_call 12;(with_reducible refine hle.mono ?_);rintro r w5 ⟨rfl,rfl⟩)
   | (go_at_call 23;(with_reducible refine hsi.mono ?_);rintro r w6 ⟨rfl,F6,hF6,hn6⟩;have hD6:=hD.step hn6.chg hn6.foot;have hr1:=room_u hF6 ((sizeC L:Int)+more) now hw _ ds hD6;rw [roomU_more h7] at hr1;unfold pt at hr1;dsimp only at hr1)
   | (go_at_call 21;(with_reducible refine hr1.mono ?_);rintro r w7 ⟨⟨v7,rfl,hS7⟩,F7,hF7,hn7⟩;obtain ⟨q7,c7,rfl,_⟩:=hS7.is;have hD7:=hD6.step hn7.chg hn7.foot;have hr2:=room_u hF7 (-more) now hw _ ds hD7;rw [roomU_low (by omega)] at hr2;unfold pt at hr2;dsimp only at hr2)
   | (go_at_call 21;(with_reducible refine hr2.mono ?_);rintro r w8 ⟨⟨v8,rfl,hS8⟩,F8,hF8,hn8⟩;obtain ⟨q8,c8,rfl,_⟩:=hS8.is;have hle2:=spa_len hF8;unfold pt at hle2)
   | (go_at_call 12;(with_reducible refine hle2.mono ?_);rintro r w9 ⟨rfl,rfl⟩)
   | fail)
  go_ret
  refine ⟨rfl,hW4.trans' ((hn6.trans hn7).trans hn8).chg fun k hk hf => ?_⟩
  have h5:=f1 k hf
  have h4:=hW1.size
  omega
end Go.Proofs.YtehpmbmdadkhbaaGreatDoor
