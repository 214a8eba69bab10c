/- Texts joined for EvictLast: EVY, EvictNone, EvictLast. -/
import Derived.Test.YtehpmbmdadkhbaaGreatDoorJEvictNonea
import Derived.Test.YtehpmbmdadkhbaaGreatDoorJEvictNoneb
import Derived.Test.YtehpmbmdadkhbaaGreatDoorJEvictNonec
import Derived.Test.YtehpmbmdadkhbaaGreatDoorJEvictNoned
import Derived.Test.YtehpmbmdadkhbaaGreatDoorJEvictNonee
import Derived.Test.YtehpmbmdadkhbaaGreatDoorJEvictNonef
import Derived.Test.YtehpmbmdadkhbaaGreatDoorJEvictNoneg
import Derived.Test.YtehpmbmdadkhbaaGreatDoorJEvictNoneh
import Derived.Test.YtehpmbmdadkhbaaGreatDoorJEvictNonei
import Derived.Test.YtehpmbmdadkhbaaGreatDoorJEvictNonej
import Derived.Test.YtehpmbmdadkhbaaGreatDoorJEvictNonek
import Derived.Test.YtehpmbmdadkhbaaGreatDoorJEvictNonel
import Derived.Test.YtehpmbmdadkhbaaGreatDoorJEvictNonem
import Derived.Test.YtehpmbmdadkhbaaGreatDoorJEvictNonen
import Derived.Test.YtehpmbmdadkhbaaGreatDoorJEvictNoneo
import Derived.Test.YtehpmbmdadkhbaaGreatDoorJEvictNonep
import Derived.Test.YtehpmbmdadkhbaaGreatDoorJEvictNoneq

set_option linter.unusedVariables false
set_option linter.unusedSimpArgs false

namespace Go.Proofs.YtehpmbmdadkhbaaGreatDoor
open Go.RowKit Pal
section
variable {w0 W W':World} {b:Nat} {cf:Cf} {l:List Ct} {F F' F'':Nat→Prop} {base:Nat} {s s':Spc}
theorem Spa.nf (h:Spa w0 W b cf l F) {F1 F1':Nat→Prop} (hx:Nf F1 F1' W W') (hd:∀ g,F g→¬ F1 g) (h0:∀ g,F1 g→w0.heap.size≤g):Spa w0 W' b cf l F:=h.keep hx.chg hd h0
end
end Go.Proofs.YtehpmbmdadkhbaaGreatDoor

namespace Go.Proofs.YtehpmbmdadkhbaaGreatDoor
open Go.RowKit Pal
structure Two (w0 WW:World) (sb tb:Nat) (cf:Cf) (ls lt:List Ct) (W:World):Prop where
 ex:∃ F G,Spa w0 W sb cf ls F∧Spa w0 W tb cf lt G∧(∀ g,F g→¬ G g)∧(∀ g,F g→WW.heap.size≤g)∧(∀ g,G g→WW.heap.size≤g)
 c:Chg (fun _ => False) WW W
section
variable {w0 WW W W':World} {sb tb:Nat} {cf:Cf} {ls lt ls':List Ct} {F G:Nat→Prop}
theorem Two.swap (h:Two w0 WW sb tb cf ls lt W):Two w0 WW tb sb cf lt ls W:=by
 obtain ⟨⟨F,G,h1,h2,h3,h4,h5⟩,hc⟩:=h
 exact ⟨⟨G,F,h2,h1,fun g hg hf => h3 g hf hg,h5,h4⟩,hc⟩
theorem Two.chg0 (h:Two w0 WW sb tb cf ls lt W) (hc:Chg (fun _ => False) W W'):Two w0 WW sb tb cf ls lt W':=by
 obtain ⟨⟨F,G,h1,h2,h3,h4,h5⟩,hw⟩:=h
 exact ⟨⟨F,G,h1.chg0 hc,h2.chg0 hc,h3,h4,h5⟩,hw.trans hc⟩
theorem Two.step (h1:Spa w0 W sb cf ls F) (h2:Spa w0 W tb cf lt G) (h3:∀ g,F g→¬ G g) (h4:∀ g,F g→WW.heap.size≤g) (h5:∀ g,G g→WW.heap.size≤g) (hw:Chg (fun _ => False) WW W) (hs:Sst w0 sb cf ls' F W W'):Two w0 WW sb tb cf ls' lt W':=by
 obtain ⟨F',hF',hn⟩:=hs
 refine ⟨⟨F',G,hF',h2.nf hn (fun g hg hf => h3 g hf hg) (fun g hg => (h1.lt hg).1),fun g hg hG => ?_,fun g hg => (hn.foot g hg).elim (h4 g) fun h => Nat.le_trans hw.size h,h5⟩,hw.trans' hn.chg fun g hg hf => by have:=h4 g hf;omega⟩
 rcases hn.foot g hg with h | h
 ·exact h3 g h hG
 ·have:=(h2.lt hG).2
  omega
def KeepS (W W':World):Prop:=∀ B v l,Strs W B v l→Strs W' B v l
theorem Two.call (h:Two w0 WW sb tb cf ls lt W) {f:FuncId} {args:Array Value} {R:Ending→World→Prop} (hf:∀ F,Spa w0 W sb cf ls F→(∀ g,F g→WW.heap.size≤g)→Calls Tryz.prog f args W fun r W' => R r W'∧Sst w0 sb cf ls' F W W') :
  Calls Tryz.prog f args W fun r W' => R r W'∧Two w0 WW sb tb cf ls' lt W'∧KeepS W W':=by
 obtain ⟨⟨F,G,h1,h2,h3,h4,h5⟩,hw⟩:=h
 refine (hf F h1 h4).mono ?_
 rintro r W' ⟨hr,hs⟩
 refine ⟨hr,Two.step h1 h2 h3 h4 h5 hw hs,fun B v l h => ?_⟩
 obtain ⟨F',_,hn⟩:=hs
 exact h.chg hn.chg fun g hg => h1.no_own h.own (by decide) hg
theorem Two.size (h:Two w0 WW sb tb cf ls lt W):Calls Tryz.prog 23 #[pt sb] W fun r W' => r=.returned (.int .i64 (sizeC ls:Int))∧Two w0 WW sb tb cf ls lt W'∧KeepS W W':=h.call fun _ hF _ => spa_size hF
theorem Two.delete (h:Two w0 WW sb tb cf ls lt W) (k:ByteArray) (hk:k.size≤9223372036854775807):Calls Tryz.prog 25 #[pt sb,.string k] W fun r W' => r=.returned (.bool (findK Ct.key ls k).isSome)∧Two w0 WW sb tb cf (cutK Ct.key ls k) lt W'∧KeepS W W':=h.call fun _ hF _ => spa_delete hF k hk
theorem Two.len (h:Two w0 WW sb tb cf ls lt W):Calls Tryz.prog 12 #[pt sb] W fun r W' => r=.returned (.int .i64 (ls.length:Int))∧W=W':=by
 obtain ⟨⟨F,G,h1,h2,h3,h4,h5⟩,hw⟩:=h
 exact spa_len h1
theorem Two.keys (h:Two w0 WW sb tb cf ls lt W):Calls Tryz.prog 14 #[pt sb] W fun r W' => (∃ v,r=.returned v∧Strs W' W.heap.size v (keysC ls))∧Chg (fun _ => False) W W':=by
 obtain ⟨⟨F,G,h1,h2,h3,h4,h5⟩,hw⟩:=h
 exact spa_keys h1
theorem Two.room (h:Two w0 WW sb tb cf ls lt W) (most now:Int) (hw:now≤9223372036854775807) (vd:Value) (ds:List Nat) (hd:DrsAt WW vd ds) :
  Calls Tryz.prog 21 #[pt sb,.int .i64 most,.int .i64 now,vd] W fun r W' => (∃ v,r=.returned (.tuple #[v,.int .i64 (roomU most now ls ds).2.1])∧Strs W' W.heap.size v (roomU most now ls ds).1)∧Two w0 WW sb tb cf (roomU most now ls ds).2.2 lt W'∧KeepS W W' :=
 h.call fun F hF f1 => room_u hF most now hw vd ds (hd.outer h.c f1)
theorem Two.cok (h:Two w0 WW sb tb cf ls lt W):Cok ls∧ls.length≤500:=by
 obtain ⟨⟨F,G,h1,h2,h3,h4,h5⟩,hw⟩:=h
 exact h1.cok
theorem Two.made {W1 W2 W3:World} {rb r2:Nat} {l1 l2 l3 l4:List Ct} (hW:Chg (fun _ => False) WW W1) (h1:MR w0 W1 sb rb cf l1 l2 W2) (h2:MR w0 W2 tb r2 cf l3 l4 W3):Two w0 WW sb tb cf l1 l3 W3:=by
 obtain ⟨F,hF,f1⟩:=h1.s
 obtain ⟨G,hG,g1⟩:=h2.s
 have hc1:=hW.trans h1.c
 refine ⟨⟨F,G,hF.chg0 h2.c,hG,fun g hg hg2 => ?_,fun g hg => Nat.le_trans hW.size (f1 g hg),fun g hg => Nat.le_trans hc1.size (g1 g hg)⟩,hc1.trans h2.c⟩
 have:=(hF.lt hg).2
 have:=g1 g hg2
 omega
end
theorem madeK_ok (E M:Nat) (ks:List Kk) (h:∀ k∈ks,k.N.size≤64∧k.M≤1000):Cok (madeK E M ks):=by
 unfold madeK
 suffices hs:∀ (ks:List Kk) (l:List Ct),(∀ k∈ks,k.N.size≤64∧k.M≤1000)→Cok l→Cok (ks.foldl (oneK E M) l) from hs ks [] h Cok.nil
 intro ks
 induction ks with
 | nil => intro l _ hl;exact hl
 | cons k ks ih =>
  intro l hk hl
  have h1:=hk k (List.mem_cons_self)
  exact ih _ (fun x hx => hk x (List.mem_cons_of_mem _ hx)) (oneK_ok hl h1.1 h1.2)
theorem ksK_ok (g:Nat→K3) (n:Nat):∀ k∈ksK g n,k.N.size≤64∧k.M≤1000:=by
 intro k hk
 obtain ⟨i,_,rfl⟩:=List.mem_map.1 hk
 have h1:=kkK_n (g i)
 have h2:=(kkK_m (g i)).2
 exact ⟨by omega,by omega⟩
end Go.Proofs.YtehpmbmdadkhbaaGreatDoor

namespace Go.Proofs.YtehpmbmdadkhbaaGreatDoor
open Go.RowKit Pal Go.ChangeShapes Go.WideShapes Go.Deep
attribute [local go_sem] Oper.semAt_some
theorem sizeC_le {l:List Ct} (h:Cok l) (hn:l.length≤500):sizeC l≤40000000:=by
 suffices hs:∀ l:List Ct,(∀ c∈l,c.size≤76914)→(l.map Ct.size).sum≤76914 * l.length by
  have h1:=hs l fun c hc => by
   have h2:=bytesZ_le (h.z c hc) c.is
   have h3:=h.k c hc
   unfold Ct.size
   omega
  unfold sizeC
  omega
 intro l
 induction l with
 | nil => intro _;simp
 | cons c l ih =>
  intro hc
  have h1:=ih fun x hx => hc x (List.mem_cons_of_mem _ hx)
  have h2:=hc c (List.mem_cons_self)
  simp only [List.map_cons,List.sum_cons,List.length_cons]
  omega
theorem roomU_low {l:List Ct} {most now:Int} {ds:List Nat} (h:most≤0):roomU most now l ds=([],0,l):=if_pos h
end Go.Proofs.YtehpmbmdadkhbaaGreatDoor

namespace Go.Proofs.YtehpmbmdadkhbaaGreatDoor
open Go.RowKit Pal Go.ChangeShapes Go.WideShapes Go.Deep
attribute [local go_sem] Oper.semAt_some
theorem cutsC_snoc (L:List Ct) {xs:List ByteArray} {i:Nat} {k:ByteArray} (h:xs[i]?=some k):cutsC L (xs.take (i+1))=cutK Ct.key (cutsC L (xs.take i)) k:=by
 unfold cutsC
 rw [List.take_add_one,h,List.foldl_append]
 rfl
theorem gone_at {most:Int}:∀ {xs:List ByteArray} {L:List Ct} {i:Nat} {k:ByteArray},goneC most L xs→xs[i]?=some k→most<(sizeC (cutsC L (xs.take i)):Int)∧(findK Ct.key (cutsC L (xs.take i)) k).isSome=true
 | x :: xs,L,0,k,h,hk => by
  injection hk with hk
  subst hk
  exact ⟨h.1,h.2.1⟩
 | x :: xs,L,i+1,k,h,hk => gone_at (xs:=xs) (L:=cutK Ct.key L x) h.2.2 (by simpa using hk)
theorem Cok.key_le {l:List Ct} (h:Cok l) {k:ByteArray} (hf:(findK Ct.key l k).isSome=true):k.size≤64:=by
 obtain ⟨c,hc⟩:=Option.isSome_iff_exists.1 hf
 obtain ⟨h1,rfl⟩:=h.find hc
 exact h.k c h1
theorem Two.sz {w0 WW W1:World} {sb tb:Nat} {cf:Cf} {ls lt:List Ct} (h:Two w0 WW sb tb cf ls lt W1):(sizeC ls:Int)≤40000000:=by
 obtain ⟨h1,h2⟩:=h.cok
 have:=sizeC_le h1 h2
 omega
set_option maxRecDepth 100000 in
set_option maxHeartbeats 4000000 in
theorem EvictLast_walk {H:Type} {enc:TypeId × Value→H} (W:World) {v0 v1 v3:Value} {d0 d1 d3:DataW H} {p0 p1 p3:List MemPlace}
  (hv0:Value.okWide Tryz.prog W .any 0 26 v0) (h0:DataW.Trod enc Tryz.prog W 0 (fun _ => true) true 26 v0 d0 p0)
  (hv1:Value.okWide Tryz.prog W .any 0 27 v1) (h1:DataW.Trod enc Tryz.prog W 0 (fun _ => true) true 27 v1 d1 p1) (most:Int) (w2:(Lit.int .i64 most).wf=true)
  (hv3:Value.okWide Tryz.prog W .any 0 28 v3) (h3:DataW.Trod enc Tryz.prog W 0 (fun _ => true) true 28 v3 d3 p3) :
  Calls Tryz.prog 5 #[v0,v1,.int .i64 most,v3] W fun e w' => e=.returned (.bool true)∧Chg (fun _ => False) W w':=by
 obtain ⟨cf,rfl,hseed⟩:=open_cfg hv0 h0
 obtain ⟨n,g,hk⟩:=open_keys hv1 h1
 obtain ⟨ds,hd⟩:=open_draws hv3 h3
 clear hv0 h0 hv1 h1 hv3 h3 w2
 have hsh:=fun w => shown16_any w
 have hC0:=(Chg.refl (fun _ => False) W).alloc (.cells cf.cs 26)
 have x0:=Blk.new W 26 cf.cs
 have hmk:=fun W2 (hc:Chg (fun _ => False) W W2) => made_any hc cf hseed (hk.chg hc)
 have hlate:=made_late (clampL 200 cf.E) (clampL 64 cf.M) (ksK g (min n 60))
 have hcok:=madeK_ok (clampL 200 cf.E) (clampL 64 cf.M) (ksK g (min n 60)) (ksK_ok g _)
 generalize madeK (clampL 200 cf.E) (clampL 64 cf.M) (ksK g (min n 60))=L at hmk hlate hcok
 obtain ⟨pk,ck,rfl⟩:=hk.is
 obtain ⟨pd,cd,rfl,_⟩:=hd.is
 have hrm:=fun {sb tb:Nat} {W1:World} (h:Two W W sb tb cf L L W1) => h.room most 9 (by omega) _ ds hd
 generalize ds.length=nd at *
 clear hk
 unfold Cf.cs pt at *
 by_cases hmo:most≤0
 ·simp only [roomU_low hmo] at hrm
  go_enter Tryz.func5,Tryz.ntmps5
  go_wp2_with (first
   | (go_at_call 9;refine (hsh _).mono ?_;rintro r w1 ⟨rfl,hC1⟩;have x1:=x0.chg hC1 id;have y0:=x1.cell 0;have y1:=x1.cell 1;have y2:=x1.cell 2;have y3:=x1.cell 3;have yl:=x1.lt;simp only [List.getElem?_toArray,List.getElem?_cons_zero,List.getElem?_cons_succ] at y0 y1 y2 y3;have hW1:=hC0.trans hC1)
   | (go_at_call 10;(with_reducible refine (hmk _ hW1).mono ?_);rintro r w4 ⟨sb,rb,rfl,hM⟩;have hW4:=hW1.trans hM.c;have x4:=x1.chg hM.c id;have z0:=x4.cell 0;have z1:=x4.cell 1;have z2:=x4.cell 2;have z3:=x4.cell 3;have zl:=x4.lt;simp only [List.getElem?_toArray,List.getElem?_cons_zero,List.getElem?_cons_succ] at z0 z1 z2 z3)
   | (go_at_call 10;(with_reducible refine (hmk _ hW4).mono ?_);rintro r w5 ⟨tb,r2,rfl,hM2⟩;have hT:=Two.made hW1 hM hM2;have hs1:=hT.size;unfold pt at hs1;have hb:=hT.sz)
   | (go_at_call 23;(with_reducible refine hs1.mono ?_);rintro r w6 ⟨rfl,hT6,_⟩;have hr6:=hrm hT6)
   | (go_at_call 21;(with_reducible refine hr6.mono ?_);rintro r w7 ⟨⟨v7,rfl,hS7⟩,hT7,_⟩;obtain ⟨q7,c7,rfl,_⟩:=hS7.is;have hs7:=hT7.size;unfold pt at hs7)
   | (go_at_call 23;(with_reducible refine hs7.mono ?_);rintro r w8 ⟨rfl,hT8,_⟩)
   | fail)
  go_ret
  exact ⟨rfl,hT8.c⟩
 ·have hmp:0<most:=by omega
  have hR1:=roomC_gone (most:=most) (now:=9) L.length L ds hcok
  have hR2:=roomC_ends (most:=most) (now:=9) L.length L ds hcok hlate (Nat.le_refl _)
  have hRU:roomU most 9 L ds=roomC most 9 L.length L ds:=if_neg hmo
  simp only [hRU] at hrm
  clear hRU hlate
  generalize roomC most 9 L.length L ds=R at hrm hR1 hR2
  obtain ⟨xs,e,L2⟩:=R
  dsimp only at hrm hR1 hR2
  obtain ⟨hgone,hcut⟩:=hR1
  have HR2:=Lib.hid hR2
  have HGO:=Lib.hid hgone
  have HCU:=Lib.hid hcut
  clear hR2 hgone hcut
  go_enter Tryz.func5,Tryz.ntmps5
  go_wp2_with (first
   | (go_at_call 9;refine (hsh _).mono ?_;rintro r w1 ⟨rfl,hC1⟩;have x1:=x0.chg hC1 id;have y0:=x1.cell 0;have y1:=x1.cell 1;have y2:=x1.cell 2;have y3:=x1.cell 3;have yl:=x1.lt;simp only [List.getElem?_toArray,List.getElem?_cons_zero,List.getElem?_cons_succ] at y0 y1 y2 y3;have hW1:=hC0.trans hC1)
   | (go_at_call 10;(with_reducible refine (hmk _ hW1).mono ?_);rintro r w4 ⟨sb,rb,rfl,hM⟩;have hW4:=hW1.trans hM.c;have x4:=x1.chg hM.c id;have z0:=x4.cell 0;have z1:=x4.cell 1;have z2:=x4.cell 2;have z3:=x4.cell 3;have zl:=x4.lt;simp only [List.getElem?_toArray,List.getElem?_cons_zero,List.getElem?_cons_succ] at z0 z1 z2 z3)
   | (go_at_call 10;(with_reducible refine (hmk _ hW4).mono ?_);rintro r w5 ⟨tb,r2,rfl,hM2⟩;have hT:=Two.made hW1 hM hM2;have hs1:=hT.size;unfold pt at hs1;have hb:=hT.sz)
   | (go_at_call 23;(with_reducible refine hs1.mono ?_);rintro r w6 ⟨rfl,hT6,_⟩;have hr6:=hrm hT6)
   | (go_at_call 21;(with_reducible refine hr6.mono ?_);rintro r w7 ⟨⟨v7,rfl,hS7⟩,hT7,_⟩;obtain ⟨q7,c7,rfl,_⟩:=hS7.is;have hs7:=hT7.size;unfold pt at hs7)
   | fail)
  clear hs1 hs7 hr6 hrm hT6 hsh hmk hd hM hM2 x0 x1 x4 hb
  go_loopg [17] xs.length (fun m v17 Wr => ∃ j:Nat,v17=.int .i64 (j:Int)∧m=xs.length - j∧j≤xs.length∧Two W W tb sb cf (cutsC L (xs.take j)) L2 Wr∧Strs Wr w6.heap.size (.slice q7 xs.length c7) xs)
  case atStart => exact ⟨0,rfl,rfl,Nat.zero_le _,hT7.swap,hS7⟩
  case round =>
   clear hT7 hS7
   obtain ⟨j,rfl,rfl,hj,hT,hS⟩:=hrel
   by_cases hjl:j<xs.length
   ·have h3:(j:Int)<(xs.length:Int):=by omega
    have hxj:xs[j]?=some xs[j]:=List.getElem?_eq_getElem hjl
    obtain ⟨gx,rfl,_,_,_⟩:=hS.at_ hjl
    have hcl:∀ W',KeepS wr W'→gx<W'.heap.size∧W'.cell? ⟨gx,j,none⟩=some (.string xs[j]):=fun W' hk => by
     obtain ⟨gy,e1,_,h5,h6⟩:=(hk _ _ _ hS).at_ hjl
     injection e1 with e1
     injection e1 with e1
     subst e1
     exact ⟨h5,h6⟩
    obtain ⟨hbig,hsome⟩:=gone_at HGO.out hxj
    have hsn:=cutsC_snoc L hxj
    have hks:=(hT.cok.1).key_le hsome
    generalize xs[j]=k at *
    have hsz:=hT.size
    have hb:=hT.sz
    have hxl:(xs.length:Int)≤9223372036854775807:=by
     obtain ⟨_,_,e1,h5,h6,_⟩:=hS.is
     unfold maxLen at h6
     omega
    have hdl:=fun {W1:World} (h:Two W W tb sb cf (cutsC L (xs.take j)) L2 W1) => h.delete k (by omega)
    simp only [hsome] at hdl
    have hnl:¬ (sizeC (cutsC L (xs.take j)):Int)≤most:=by omega
    have HSN:=Lib.hid hsn
    have HJ:=Lib.hid hjl
    have HXS:=Lib.hid hS
    generalize cutsC L (xs.take j)=Lj at *
    generalize hnx:xs.length=nx at *
    unfold pt at hsz hdl
    clear hsn hxj hsome hbig hjl hS hj
    go_wp2_with (first
     | (go_at_call 23;(with_reducible refine hsz.mono ?_);rintro r w8 ⟨rfl,hT8,hK8⟩;obtain ⟨l8,c8⟩:=hcl _ hK8;have hd8:=hdl hT8)
     | (go_at_call 25;(with_reducible refine hd8.mono ?_);rintro r w9 ⟨rfl,hT9,hK9⟩)
     | fail)
    go_roundg (nx - (j+1))
    case measure => have:=HJ.out;omega
    case rel =>
     refine ⟨j+1,int_eq (by omega),rfl,HJ.out,?_,hK9 _ _ _ (hK8 _ _ _ HXS.out)⟩
     rw [HSN.out]
     exact hT9
   ·obtain rfl:j=xs.length:=by omega
    have h3:¬ (xs.length:Int)<(xs.length:Int):=by omega
    rw [List.take_length,← HCU.out] at hT
    have hTs:=hT.swap
    have k1:=hTs.keys
    have hb:=hTs.sz
    unfold pt at k1
    have hsize:=fun {sb tb:Nat} {W1:World} (h:Two W W sb tb cf L2 L2 W1) => h.size
    have hkeys:=fun {sb tb:Nat} {W1:World} (h:Two W W sb tb cf L2 L2 W1) => h.keys
    have hlen:=fun {sb tb:Nat} {W1:World} (h:Two W W sb tb cf L2 L2 W1) => h.len
    unfold pt at hsize hkeys hlen
    generalize hnx:xs.length=nx at *
    clear hS hj
    rcases HR2.out with ⟨he,hfit⟩ | ⟨he,hnil,hnf⟩
    ·subst he
     go_wp2_with (first
      | (go_at_call 14;(with_reducible refine k1.mono ?_);rintro r wa ⟨⟨va,rfl,hSa⟩,hCa⟩;have hTa:=hTs.chg0 hCa;have k2:=hkeys hTa.swap;obtain ⟨qa,ca,rfl,_⟩:=hSa.is)
      | (go_at_call 14;(with_reducible refine k2.mono ?_);rintro r wb ⟨⟨vb,rfl,hSb⟩,hCb⟩;have hTb:=hTa.chg0 hCb;obtain ⟨qb,cb,rfl,_⟩:=hSb.is;have tx:=Texts_any _ _ _ _ _ _ wb (hSa.chg hCb fun _ _ => id) hSb;rw [decide_eq_true rfl] at tx)
      | (go_at_call 18;(with_reducible refine tx.mono ?_);rintro r wx ⟨rfl,hCx⟩;have hTx:=hTb.chg0 hCx;have z1:=hsize hTx)
      | (go_at_call 23;(with_reducible refine z1.mono ?_);rintro r wy ⟨rfl,hTy,_⟩;have z2:=hsize hTy.swap)
      | (go_at_call 23;(with_reducible refine z2.mono ?_);rintro r wz ⟨rfl,hTz,_⟩;have z3:=hsize hTz.swap)
      | (go_at_call 23;(with_reducible refine z3.mono ?_);rintro r we ⟨rfl,hTe,_⟩)
      | fail)
     go_ret
     exact ⟨rfl,hTe.c⟩
    ·subst he
     have hl0:(L2.length:Int)=0:=by rw [hnil];rfl
     clear hnil
     go_wp2_with (first
      | (go_at_call 14;(with_reducible refine k1.mono ?_);rintro r wa ⟨⟨va,rfl,hSa⟩,hCa⟩;have hTa:=hTs.chg0 hCa;have k2:=hkeys hTa.swap;obtain ⟨qa,ca,rfl,_⟩:=hSa.is)
      | (go_at_call 14;(with_reducible refine k2.mono ?_);rintro r wb ⟨⟨vb,rfl,hSb⟩,hCb⟩;have hTb:=hTa.chg0 hCb;obtain ⟨qb,cb,rfl,_⟩:=hSb.is;have tx:=Texts_any _ _ _ _ _ _ wb (hSa.chg hCb fun _ _ => id) hSb;rw [decide_eq_true rfl] at tx)
      | (go_at_call 18;(with_reducible refine tx.mono ?_);rintro r wx ⟨rfl,hCx⟩;have hTx:=hTb.chg0 hCx;have z1:=hsize hTx)
      | (go_at_call 23;(with_reducible refine z1.mono ?_);rintro r wy ⟨rfl,hTy,_⟩;have z2:=hsize hTy.swap)
      | (go_at_call 23;(with_reducible refine z2.mono ?_);rintro r wz ⟨rfl,hTz,_⟩;have z3:=hsize hTz.swap;have ln:=hlen hTz.swap)
      | (go_at_call 12;(with_reducible refine ln.mono ?_);rintro r wl ⟨rfl,rfl⟩)
      | (go_at_call 23;(with_reducible refine z3.mono ?_);rintro r we ⟨rfl,hTe,_⟩)
      | fail)
     go_ret
     exact ⟨rfl,hTe.c⟩
end Go.Proofs.YtehpmbmdadkhbaaGreatDoor
