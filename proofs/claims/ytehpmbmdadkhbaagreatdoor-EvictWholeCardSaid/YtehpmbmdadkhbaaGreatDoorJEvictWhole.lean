/- Texts joined for EvictWhole: EVY, EvictNone, EvictLast, EVZ, EvictWhole. -/
import Derived.Test.YtehpmbmdadkhbaaGreatDoorJEvictNonea
import Derived.Test.YtehpmbmdadkhbaaGreatDoorJEvictNoneb
import Derived.Test.YtehpmbmdadkhbaaGreatDoorJEvictNonec
import Derived.Test.YtehpmbmdadkhbaaGreatDoorJEvictNoned
import Derived.Test.YtehpmbmdadkhbaaGreatDoorJEvictNonee
import Derived.Test.YtehpmbmdadkhbaaGreatDoorJEvictNonef
import Derived.Test.YtehpmbmdadkhbaaGreatDoorJEvictNoneg
import Derived.Test.YtehpmbmdadkhbaaGreatDoorJEvictNoneh
import Derived.Test.YtehpmbmdadkhbaaGreatDoorJEvictNonei
import Derived.Test.YtehpmbmdadkhbaaGreatDoorJEvictNonej
import Derived.Test.YtehpmbmdadkhbaaGreatDoorJEvictNonek
import Derived.Test.YtehpmbmdadkhbaaGreatDoorJEvictNonel
import Derived.Test.YtehpmbmdadkhbaaGreatDoorJEvictNonem
import Derived.Test.YtehpmbmdadkhbaaGreatDoorJEvictNonen
import Derived.Test.YtehpmbmdadkhbaaGreatDoorJEvictNoneo
import Derived.Test.YtehpmbmdadkhbaaGreatDoorJEvictNonep
import Derived.Test.YtehpmbmdadkhbaaGreatDoorJEvictNoneq

set_option linter.unusedVariables false
set_option linter.unusedSimpArgs false

namespace Go.Proofs.YtehpmbmdadkhbaaGreatDoor
open Go.RowKit Pal
section
variable {w0 W W':World} {b:Nat} {cf:Cf} {l:List Ct} {F F' F'':Nat→Prop} {base:Nat} {s s':Spc}
theorem Spa.nf (h:Spa w0 W b cf l F) {F1 F1':Nat→Prop} (hx:Nf F1 F1' W W') (hd:∀ g,F g→¬ F1 g) (h0:∀ g,F1 g→w0.heap.size≤g):Spa w0 W' b cf l F:=h.keep hx.chg hd h0
end
end Go.Proofs.YtehpmbmdadkhbaaGreatDoor

namespace Go.Proofs.YtehpmbmdadkhbaaGreatDoor
open Go.RowKit Pal
structure Two (w0 WW:World) (sb tb:Nat) (cf:Cf) (ls lt:List Ct) (W:World):Prop where
 ex:∃ F G,Spa w0 W sb cf ls F∧Spa w0 W tb cf lt G∧(∀ g,F g→¬ G g)∧(∀ g,F g→WW.heap.size≤g)∧(∀ g,G g→WW.heap.size≤g)
 c:Chg (fun _ => False) WW W
section
variable {w0 WW W W':World} {sb tb:Nat} {cf:Cf} {ls lt ls':List Ct} {F G:Nat→Prop}
theorem Two.swap (h:Two w0 WW sb tb cf ls lt W):Two w0 WW tb sb cf lt ls W:=by
 obtain ⟨⟨F,G,h1,h2,h3,h4,h5⟩,hc⟩:=h
 exact ⟨⟨G,F,h2,h1,fun g hg hf => h3 g hf hg,h5,h4⟩,hc⟩
theorem Two.chg0 (h:Two w0 WW sb tb cf ls lt W) (hc:Chg (fun _ => False) W W'):Two w0 WW sb tb cf ls lt W':=by
 obtain ⟨⟨F,G,h1,h2,h3,h4,h5⟩,hw⟩:=h
 exact ⟨⟨F,G,h1.chg0 hc,h2.chg0 hc,h3,h4,h5⟩,hw.trans hc⟩
theorem Two.step (h1:Spa w0 W sb cf ls F) (h2:Spa w0 W tb cf lt G) (h3:∀ g,F g→¬ G g) (h4:∀ g,F g→WW.heap.size≤g) (h5:∀ g,G g→WW.heap.size≤g) (hw:Chg (fun _ => False) WW W) (hs:Sst w0 sb cf ls' F W W'):Two w0 WW sb tb cf ls' lt W':=by
 obtain ⟨F',hF',hn⟩:=hs
 refine ⟨⟨F',G,hF',h2.nf hn (fun g hg hf => h3 g hf hg) (fun g hg => (h1.lt hg).1),fun g hg hG => ?_,fun g hg => (hn.foot g hg).elim (h4 g) fun h => Nat.le_trans hw.size h,h5⟩,hw.trans' hn.chg fun g hg hf => by have:=h4 g hf;omega⟩
 rcases hn.foot g hg with h | h
 ·exact h3 g h hG
 ·have:=(h2.lt hG).2
  omega
def KeepS (W W':World):Prop:=∀ B v l,Strs W B v l→Strs W' B v l
theorem KeepS.of_chg0 (hc:Chg (fun _ => False) W W'):KeepS W W':=fun _ _ _ h => h.chg hc fun _ _ => id
theorem Two.call (h:Two w0 WW sb tb cf ls lt W) {f:FuncId} {args:Array Value} {R:Ending→World→Prop} (hf:∀ F,Spa w0 W sb cf ls F→(∀ g,F g→WW.heap.size≤g)→Calls Tryz.prog f args W fun r W' => R r W'∧Sst w0 sb cf ls' F W W') :
  Calls Tryz.prog f args W fun r W' => R r W'∧Two w0 WW sb tb cf ls' lt W'∧KeepS W W':=by
 obtain ⟨⟨F,G,h1,h2,h3,h4,h5⟩,hw⟩:=h
 refine (hf F h1 h4).mono ?_
 rintro r W' ⟨hr,hs⟩
 refine ⟨hr,Two.step h1 h2 h3 h4 h5 hw hs,fun B v l h => ?_⟩
 obtain ⟨F',_,hn⟩:=hs
 exact h.chg hn.chg fun g hg => h1.no_own h.own (by decide) hg
theorem Two.len (h:Two w0 WW sb tb cf ls lt W):Calls Tryz.prog 12 #[pt sb] W fun r W' => r=.returned (.int .i64 (ls.length:Int))∧W=W':=by
 obtain ⟨⟨F,G,h1,h2,h3,h4,h5⟩,hw⟩:=h
 exact spa_len h1
theorem Two.keys (h:Two w0 WW sb tb cf ls lt W):Calls Tryz.prog 14 #[pt sb] W fun r W' => (∃ v,r=.returned v∧Strs W' W.heap.size v (keysC ls))∧Chg (fun _ => False) W W':=by
 obtain ⟨⟨F,G,h1,h2,h3,h4,h5⟩,hw⟩:=h
 exact spa_keys h1
theorem Two.room (h:Two w0 WW sb tb cf ls lt W) (most now:Int) (hw:now≤9223372036854775807) (vd:Value) (ds:List Nat) (hd:DrsAt WW vd ds) :
  Calls Tryz.prog 21 #[pt sb,.int .i64 most,.int .i64 now,vd] W fun r W' => (∃ v,r=.returned (.tuple #[v,.int .i64 (roomU most now ls ds).2.1])∧Strs W' W.heap.size v (roomU most now ls ds).1)∧Two w0 WW sb tb cf (roomU most now ls ds).2.2 lt W'∧KeepS W W' :=
 h.call fun F hF f1 => room_u hF most now hw vd ds (hd.outer h.c f1)
theorem Two.made {W1 W2 W3:World} {rb r2:Nat} {l1 l2 l3 l4:List Ct} (hW:Chg (fun _ => False) WW W1) (h1:MR w0 W1 sb rb cf l1 l2 W2) (h2:MR w0 W2 tb r2 cf l3 l4 W3):Two w0 WW sb tb cf l1 l3 W3:=by
 obtain ⟨F,hF,f1⟩:=h1.s
 obtain ⟨G,hG,g1⟩:=h2.s
 have hc1:=hW.trans h1.c
 refine ⟨⟨F,G,hF.chg0 h2.c,hG,fun g hg hg2 => ?_,fun g hg => Nat.le_trans hW.size (f1 g hg),fun g hg => Nat.le_trans hc1.size (g1 g hg)⟩,hc1.trans h2.c⟩
 have:=(hF.lt hg).2
 have:=g1 g hg2
 omega
end
theorem madeK_ok (E M:Nat) (ks:List Kk) (h:∀ k∈ks,k.N.size≤64∧k.M≤1000):Cok (madeK E M ks):=by
 unfold madeK
 suffices hs:∀ (ks:List Kk) (l:List Ct),(∀ k∈ks,k.N.size≤64∧k.M≤1000)→Cok l→Cok (ks.foldl (oneK E M) l) from hs ks [] h Cok.nil
 intro ks
 induction ks with
 | nil => intro l _ hl;exact hl
 | cons k ks ih =>
  intro l hk hl
  have h1:=hk k (List.mem_cons_self)
  exact ih _ (fun x hx => hk x (List.mem_cons_of_mem _ hx)) (oneK_ok hl h1.1 h1.2)
theorem ksK_ok (g:Nat→K3) (n:Nat):∀ k∈ksK g n,k.N.size≤64∧k.M≤1000:=by
 intro k hk
 obtain ⟨i,_,rfl⟩:=List.mem_map.1 hk
 have h1:=kkK_n (g i)
 have h2:=(kkK_m (g i)).2
 exact ⟨by omega,by omega⟩
end Go.Proofs.YtehpmbmdadkhbaaGreatDoor

namespace Go.Proofs.YtehpmbmdadkhbaaGreatDoor
open Go.RowKit Pal Go.ChangeShapes Go.WideShapes Go.Deep
attribute [local go_sem] Oper.semAt_some
end Go.Proofs.YtehpmbmdadkhbaaGreatDoor

namespace Go.Proofs.YtehpmbmdadkhbaaGreatDoor
open Go.RowKit Pal Go.ChangeShapes Go.WideShapes Go.Deep
attribute [local go_sem] Oper.semAt_some
end Go.Proofs.YtehpmbmdadkhbaaGreatDoor

namespace Go.Proofs.YtehpmbmdadkhbaaGreatDoor
open Go.RowKit Pal
structure Spi (w0 W:World) (b:Nat) (cf:Cf) (its:List It) (F:Nat→Prop):Prop where
 ex:∃ s:Spc,SpAt W w0.heap.size s∧s.blk=b∧(s.E=cf.E∧s.M=cf.M∧s.seed=cf.seed∧s.mx=cf.mx)∧s.its=its∧s.foot=F
 chg:Chg (fun _ => False) w0 W
structure KeepU (W W':World):Prop where
 s:KeepS W W'
 u:∀ g cs,Blk W g 42 cs→Blk W' g 42 cs
theorem KeepU.of_chg0 {W W':World} (hc:Chg (fun _ => False) W W'):KeepU W W':=⟨KeepS.of_chg0 hc,fun _ _ h => h.chg hc id⟩
theorem KeepU.trans {a b c:World} (h:KeepU a b) (k:KeepU b c):KeepU a c:=⟨fun B v l x => k.s B v l (h.s B v l x),fun g cs x => k.u g cs (h.u g cs x)⟩
section
variable {w0 WW W W':World} {b sb tb:Nat} {cf:Cf} {l ls lt:List Ct} {its is it:List It} {F F' G:Nat→Prop} {i:It}
theorem Spa.opn (h:Spa w0 W b cf l F):∃ its,its.map It.ct=l∧Spi w0 W b cf its F:=by
 obtain ⟨⟨s,h1,h2,h3,h4,h5⟩,hc⟩:=h
 exact ⟨s.its,h4,⟨s,h1,h2,h3,rfl,h5⟩,hc⟩
theorem Spi.spa (h:Spi w0 W b cf its F):Spa w0 W b cf (its.map It.ct) F:=by
 obtain ⟨⟨s,h1,h2,h3,h4,h5⟩,hc⟩:=h
 exact ⟨⟨s,h1,h2,h3,by rw [h4],h5⟩,hc⟩
theorem Spi.keep {S:Nat→Prop} (h:Spi w0 W b cf its F) (hc:Chg S W W') (hn:∀ g,F g→¬ S g) (h0:∀ g,S g→w0.heap.size≤g):Spi w0 W' b cf its F:=by
 obtain ⟨⟨s,hs,h1,h2,h3,rfl⟩,hw⟩:=h
 exact ⟨⟨s,hs.chg hc hn,h1,h2,h3,rfl⟩,hw.trans' hc fun g hg hs => by have:=h0 g hs;omega⟩
theorem Spi.z (h:Spi w0 W b cf its F) (hi:i∈its):ZsAt W w0.heap.size i.z i.es:=by
 obtain ⟨⟨s,hs,h1,h2,rfl,rfl⟩,hw⟩:=h
 exact (hs.it i hi).z
theorem Spi.find (h:Spi w0 W b cf its F) (k:ByteArray) (hk:k.size≤9223372036854775807) (hf:findK It.key its k=some i):Calls Tryz.prog 26 #[pt b,.string k] W fun r W' => r=.returned (.tuple #[pt i.z.blk,.bool true])∧∃ F',Spi w0 W' b cf its F'∧Nf F F' W W':=by
 obtain ⟨⟨s,hs,rfl,⟨e1,e2,e3,e4⟩,rfl,rfl⟩,hw⟩:=h
 refine (s_find hs k hk).mono ?_
 rintro r W' ⟨hr,d',hx⟩
 rw [hf] at hr
 exact ⟨hr,_,⟨⟨_,hx.at_,hx.blk,⟨hx.E.trans e1,hx.M.trans e2,hx.seed.trans e3,hx.mx.trans e4⟩,rfl,rfl⟩,hw.trans' hx.chg fun g hg hf => by have:=(hs.lt hf).1;omega⟩,hx.nf⟩
theorem Spi.use (h:Spi w0 W b cf its F) (k:ByteArray) (hk:k.size≤9223372036854775807) (hf:findK It.key its k=some i):Calls Tryz.prog 15 #[pt b,.string k] W fun r W' => r=.returned (.tuple #[.agg i.u.cs,.bool true])∧∃ F',Spi w0 W' b cf its F'∧Nf F F' W W':=by
 obtain ⟨⟨s,hs,rfl,⟨e1,e2,e3,e4⟩,rfl,rfl⟩,hw⟩:=h
 refine (s_use hs k hk).mono ?_
 rintro r W' ⟨hr,d',hx⟩
 rw [hf] at hr
 exact ⟨hr,_,⟨⟨_,hx.at_,hx.blk,⟨hx.E.trans e1,hx.M.trans e2,hx.seed.trans e3,hx.mx.trans e4⟩,rfl,rfl⟩,hw.trans' hx.chg fun g hg hf => by have:=(hs.lt hf).1;omega⟩,hx.nf⟩
end
structure TwoI (w0 WW:World) (sb tb:Nat) (cf:Cf) (is it:List It) (W:World):Prop where
 ex:∃ F G,Spi w0 W sb cf is F∧Spi w0 W tb cf it G∧(∀ g,F g→¬ G g)∧(∀ g,F g→WW.heap.size≤g)∧(∀ g,G g→WW.heap.size≤g)
 c:Chg (fun _ => False) WW W
section
variable {w0 WW W W':World} {b sb tb:Nat} {cf:Cf} {l ls lt:List Ct} {its is it:List It} {F F' G:Nat→Prop} {i:It}
theorem Two.opn (h:Two w0 WW sb tb cf ls lt W):∃ is it,is.map It.ct=ls∧it.map It.ct=lt∧TwoI w0 WW sb tb cf is it W:=by
 obtain ⟨⟨F,G,h1,h2,h3,h4,h5⟩,hc⟩:=h
 obtain ⟨is,e1,k1⟩:=h1.opn
 obtain ⟨it,e2,k2⟩:=h2.opn
 exact ⟨is,it,e1,e2,⟨F,G,k1,k2,h3,h4,h5⟩,hc⟩
theorem TwoI.two (h:TwoI w0 WW sb tb cf is it W):Two w0 WW sb tb cf (is.map It.ct) (it.map It.ct) W:=by
 obtain ⟨⟨F,G,h1,h2,h3,h4,h5⟩,hc⟩:=h
 exact ⟨⟨F,G,h1.spa,h2.spa,h3,h4,h5⟩,hc⟩
theorem TwoI.swap (h:TwoI w0 WW sb tb cf is it W):TwoI w0 WW tb sb cf it is W:=by
 obtain ⟨⟨F,G,h1,h2,h3,h4,h5⟩,hc⟩:=h
 exact ⟨⟨G,F,h2,h1,fun g hg hf => h3 g hf hg,h5,h4⟩,hc⟩
theorem TwoI.chg0 (h:TwoI w0 WW sb tb cf is it W) (hc:Chg (fun _ => False) W W'):TwoI w0 WW sb tb cf is it W':=by
 obtain ⟨⟨F,G,h1,h2,h3,h4,h5⟩,hw⟩:=h
 exact ⟨⟨F,G,h1.keep hc (fun _ _ => id) (fun _ h => h.elim),h2.keep hc (fun _ _ => id) (fun _ h => h.elim),h3,h4,h5⟩,hw.trans hc⟩
theorem TwoI.call (h:TwoI w0 WW sb tb cf is it W) {f:FuncId} {args:Array Value} {R:Ending→World→Prop} (hf:∀ F,Spi w0 W sb cf is F→Calls Tryz.prog f args W fun r W' => R r W'∧∃ F',Spi w0 W' sb cf is F'∧Nf F F' W W') :
  Calls Tryz.prog f args W fun r W' => R r W'∧TwoI w0 WW sb tb cf is it W'∧KeepU W W':=by
 obtain ⟨⟨F,G,h1,h2,h3,h4,h5⟩,hw⟩:=h
 refine (hf F h1).mono ?_
 rintro r W' ⟨hr,F',hF',hn⟩
 refine ⟨hr,⟨⟨F',G,hF',h2.keep hn.chg (fun g hg hf => h3 g hf hg) (fun g hg => (h1.spa.lt hg).1),fun g hg hG => ?_,fun g hg => (hn.foot g hg).elim (h4 g) fun h => Nat.le_trans hw.size h,h5⟩,hw.trans' hn.chg fun g hg hf => by have:=h4 g hf;omega⟩,fun B v l h => ?_,fun g cs h => ?_⟩
 ·rcases hn.foot g hg with h | h
  ·exact h3 g h hG
  ·have:=(h2.spa.lt hG).2
   omega
 ·exact h.chg hn.chg fun g hg => h1.spa.no_own h.own (by decide) hg
 ·exact h.chg hn.chg (h1.spa.no_blk h (by decide))
theorem TwoI.find (h:TwoI w0 WW sb tb cf is it W) (k:ByteArray) (hk:k.size≤9223372036854775807) (hf:findK It.key is k=some i):Calls Tryz.prog 26 #[pt sb,.string k] W fun r W' => r=.returned (.tuple #[pt i.z.blk,.bool true])∧TwoI w0 WW sb tb cf is it W'∧KeepU W W':=h.call fun _ h1 => h1.find k hk hf
theorem TwoI.use (h:TwoI w0 WW sb tb cf is it W) (k:ByteArray) (hk:k.size≤9223372036854775807) (hf:findK It.key is k=some i):Calls Tryz.prog 15 #[pt sb,.string k] W fun r W' => r=.returned (.tuple #[.agg i.u.cs,.bool true])∧TwoI w0 WW sb tb cf is it W'∧KeepU W W':=h.call fun _ h1 => h1.use k hk hf
theorem TwoI.z (h:TwoI w0 WW sb tb cf is it W) (hi:i∈is):ZsAt W w0.heap.size i.z i.es:=by
 obtain ⟨⟨F,G,h1,_⟩,_⟩:=h
 exact h1.z hi
end
theorem cutsC_len (ks:List ByteArray):∀ l:List Ct,(cutsC l ks).length≤l.length:=by
 unfold cutsC
 induction ks with
 | nil => intro l;exact Nat.le_refl _
 | cons k ks ih =>
  intro l
  refine Nat.le_trans (ih _) ?_
  unfold cutK
  exact List.length_filter_le ..
theorem roomU_cuts {most now:Int} {l:List Ct} {ds:List Nat} (h:Cok l):∃ ks,(roomU most now l ds).2.2=cutsC l ks:=by
 unfold roomU
 split
 ·exact ⟨[],rfl⟩
 ·exact ⟨_,(roomC_gone l.length l ds h).2⟩
theorem same_key {L:List Ct} (h:Cok L) (ks:List ByteArray) {is it:List It} (e1:is.map It.ct=cutsC L ks) (e2:it.map It.ct=L) {k:ByteArray} (hk:k∈keysC (cutsC L ks)) :
  ∃ i j,findK It.key is k=some i∧findK It.key it k=some j∧i∈is∧j∈it∧i.u=j.u∧i.es=j.es∧i.z.f.is=j.z.f.is∧k.size≤9223372036854775807:=by
 obtain ⟨c,hc,rfl⟩:=List.mem_map.1 hk
 have hco:=cutsC_ok h ks
 have hL:=cutsC_sub ks c hc
 have f1:findK Ct.key (cutsC L ks) (Ct.key c)=some c:=(findK_some hco.so).2 ⟨hc,rfl⟩
 have f2:findK Ct.key L (Ct.key c)=some c:=(findK_some h.so).2 ⟨hL,rfl⟩
 rw [← e1,find_ct] at f1
 rw [← e2,find_ct] at f2
 obtain ⟨i,hi,ei⟩:=Option.map_eq_some_iff.1 f1
 obtain ⟨j,hj,ej⟩:=Option.map_eq_some_iff.1 f2
 have hs:=h.k c hL
 have hij:i.ct=j.ct:=ei.trans ej.symm
 refine ⟨i,j,hi,hj,List.mem_of_find?_eq_some hi,List.mem_of_find?_eq_some hj,congrArg Ct.u hij,congrArg Ct.es hij,congrArg Ct.is hij,?_⟩
 show c.key.size≤_
 omega
end Go.Proofs.YtehpmbmdadkhbaaGreatDoor

namespace Go.Proofs.YtehpmbmdadkhbaaGreatDoor
open Go.RowKit Pal Go.ChangeShapes Go.WideShapes Go.Deep
attribute [local go_sem] Oper.semAt_some
set_option maxRecDepth 100000 in
set_option maxHeartbeats 4000000 in
theorem EvictWhole_walk {H:Type} {enc:TypeId × Value→H} (W:World) {v0 v1 v3:Value} {d0 d1 d3:DataW H} {p0 p1 p3:List MemPlace}
  (hv0:Value.okWide Tryz.prog W .any 0 26 v0) (h0:DataW.Trod enc Tryz.prog W 0 (fun _ => true) true 26 v0 d0 p0)
  (hv1:Value.okWide Tryz.prog W .any 0 27 v1) (h1:DataW.Trod enc Tryz.prog W 0 (fun _ => true) true 27 v1 d1 p1) (most:Int) (w2:(Lit.int .i64 most).wf=true)
  (hv3:Value.okWide Tryz.prog W .any 0 28 v3) (h3:DataW.Trod enc Tryz.prog W 0 (fun _ => true) true 28 v3 d3 p3) :
  Calls Tryz.prog 8 #[v0,v1,.int .i64 most,v3] W fun e w' => e=.returned (.bool true)∧Chg (fun _ => False) W w':=by
 obtain ⟨cf,rfl,hseed⟩:=open_cfg hv0 h0
 obtain ⟨n,g,hk⟩:=open_keys hv1 h1
 obtain ⟨ds,hd⟩:=open_draws hv3 h3
 clear hv0 h0 hv1 h1 hv3 h3 w2
 have hsh:=fun w => shown16_any w
 have hC0:=(Chg.refl (fun _ => False) W).alloc (.cells cf.cs 26)
 have x0:=Blk.new W 26 cf.cs
 have hmk:=fun W2 (hc:Chg (fun _ => False) W W2) => made_any hc cf hseed (hk.chg hc)
 have hcok:=madeK_ok (clampL 200 cf.E) (clampL 64 cf.M) (ksK g (min n 60)) (ksK_ok g _)
 generalize madeK (clampL 200 cf.E) (clampL 64 cf.M) (ksK g (min n 60))=L at hmk hcok
 obtain ⟨pk,ck,rfl⟩:=hk.is
 obtain ⟨pd,cd,rfl,_⟩:=hd.is
 have hrm:=fun {sb tb:Nat} {W1:World} (h:Two W W sb tb cf L L W1) => h.room most 9 (by omega) _ ds hd
 obtain ⟨ks,hks⟩:=roomU_cuts (most:=most) (now:=9) (ds:=ds) hcok
 have hlen:=cutsC_len ks L
 have hsame:=fun {is it:List It} (e1:is.map It.ct=cutsC L ks) (e2:it.map It.ct=L) (k:ByteArray) (hk:k∈keysC (cutsC L ks)) => same_key hcok ks e1 e2 hk
 simp only [hks] at hrm
 generalize roomU most 9 L ds=R at hrm hks
 have hkl:(keysC (cutsC L ks)).length=(cutsC L ks).length:=by unfold keysC;exact List.length_map ..
 have hll:(keysC (cutsC L ks)).length≤L.length:=by omega
 generalize hKK:keysC (cutsC L ks)=KK at *
 have HLL:=Lib.hid hll
 clear hkl hlen hll
 generalize ds.length=nd at *
 clear hk
 unfold Cf.cs pt at *
 go_enter Tryz.func8,Tryz.ntmps8
 go_wp2_with (first
  | (go_at_call 9;refine (hsh _).mono ?_;rintro r w1 ⟨rfl,hC1⟩;have x1:=x0.chg hC1 id;have y0:=x1.cell 0;have y1:=x1.cell 1;have y2:=x1.cell 2;have y3:=x1.cell 3;have yl:=x1.lt;simp only [List.getElem?_toArray,List.getElem?_cons_zero,List.getElem?_cons_succ] at y0 y1 y2 y3;have hW1:=hC0.trans hC1)
  | (go_at_call 10;(with_reducible refine (hmk _ hW1).mono ?_);rintro r w4 ⟨sb,rb,rfl,hM⟩;have hW4:=hW1.trans hM.c;have x4:=x1.chg hM.c id;have z0:=x4.cell 0;have z1:=x4.cell 1;have z2:=x4.cell 2;have z3:=x4.cell 3;have zl:=x4.lt;simp only [List.getElem?_toArray,List.getElem?_cons_zero,List.getElem?_cons_succ] at z0 z1 z2 z3)
  | (go_at_call 10;(with_reducible refine (hmk _ hW4).mono ?_);rintro r w5 ⟨tb,r2,rfl,hM2⟩;have hT:=Two.made hW1 hM hM2;have hr5:=hrm hT)
  | (go_at_call 21;(with_reducible refine hr5.mono ?_);rintro r w7 ⟨⟨v7,rfl,hS7⟩,hT7,_⟩;obtain ⟨q7,c7,rfl,_⟩:=hS7.is;have hk7:=hT7.keys;rw [hKK] at hk7;unfold pt at hk7)
  | (go_at_call 14;(with_reducible refine hk7.mono ?_);rintro r w8 ⟨⟨v8,rfl,hS8⟩,hC8⟩;have hT8:=hT7.chg0 hC8;obtain ⟨q8,c8,rfl,_⟩:=hS8.is)
  | fail)
 obtain ⟨is,it,e1,e2,hI⟩:=hT8.opn
 have HSAME:=fun k hk => hsame e1 e2 k hk
 have HE2:=Lib.hid e2
 have hkm:(KK.length:Int)≤9223372036854775807:=by
  obtain ⟨_,_,e,h5,h6,_⟩:=hS8.is
  unfold maxLen at h6
  omega
 clear hT8 hT7 hk7 hr5 hT hM2 hM hrm hmk hsh hd hC8 hS7 e1 e2 hsame hKK hks x0 x1 x4 y0 y1 y2 y3 z0 z1 z2 z3 yl zl
 go_loopg [15] KK.length (fun m v15 Wr => ∃ j:Nat,v15=.int .i64 (j:Int)∧m=KK.length - j∧j≤KK.length∧TwoI W W sb tb cf is it Wr∧Strs Wr w7.heap.size (.slice q8 KK.length c8) KK)
 case atStart => exact ⟨0,rfl,rfl,Nat.zero_le _,hI,hS8⟩
 case round =>
  clear hI hS8
  obtain ⟨j,rfl,rfl,hj,hI,hS⟩:=hrel
  by_cases hjl:j<KK.length
  ·have h3:(j:Int)<(KK.length:Int):=by omega
   have hxj:KK[j]?=some KK[j]:=List.getElem?_eq_getElem hjl
   obtain ⟨gx,rfl,_,_,_⟩:=hS.at_ hjl
   have hcl:∀ W',KeepU wr W'→gx<W'.heap.size∧W'.cell? ⟨gx,j,none⟩=some (.string KK[j]):=fun W' hk => by
    obtain ⟨gy,e1,_,h5,h6⟩:=(hk.s _ _ _ hS).at_ hjl
    injection e1 with e1
    injection e1 with e1
    subst e1
    exact ⟨h5,h6⟩
   have hkm2:=List.mem_of_getElem? hxj
   generalize KK[j]=k at *
   obtain ⟨i,i2,f1,f2,m1,m2,eu,ee,ef,hkz⟩:=HSAME k hkm2
   have hf1:=hI.find k hkz f1
   have hf2:=fun {W1:World} (h:TwoI W W sb tb cf is it W1) => h.swap.find k hkz f2
   have hu1:=fun {W1:World} (h:TwoI W W sb tb cf is it W1) => h.use k hkz f1
   have hu2:=fun {W1:World} (h:TwoI W W sb tb cf is it W1) => h.swap.use k hkz f2
   have hl1:=fun {W1:World} (h:TwoI W W sb tb cf is it W1) => z_len (h.z m1)
   have hl2:=fun {W1:World} (h:TwoI W W sb tb cf is it W1) => z_len (h.swap.z m2)
   have hb1:=fun {W1:World} (h:TwoI W W sb tb cf is it W1) => z_bytes (h.z m1)
   have hb2:=fun {W1:World} (h:TwoI W W sb tb cf is it W1) => z_bytes (h.swap.z m2)
   rw [← eu] at hu2
   rw [← ee] at hl2
   rw [← ee,← ef] at hb2
   unfold pt Us.cs at *
   obtain ⟨c0l,c0c⟩:=hcl wr ⟨fun _ _ _ h => h,fun _ _ h => h⟩
   have HJ:=Lib.hid hjl
   have HSS:=Lib.hid hS
   generalize hkl:KK.length=kl at *
   clear hS hj hjl hxj hkm2 f1 f2 m1 m2 eu ee ef HSAME
   go_wp2_with (first
    | (go_at_call 26;(with_reducible refine hf1.mono ?_);rintro r wa ⟨rfl,hIa,hKa⟩;obtain ⟨cal,cac⟩:=hcl wa hKa;have hfb:=hf2 hIa)
    | (go_at_call 26;(with_reducible refine hfb.mono ?_);rintro r wb ⟨rfl,hIb,hKb⟩;have hKB:=hKa.trans hKb;obtain ⟨cbl,cbc⟩:=hcl wb hKB;have huc:=hu1 hIb.swap)
    | (go_at_call 15;(with_reducible refine huc.mono ?_);rintro r wc ⟨rfl,hIc,hKc⟩;have hal:=(Chg.refl (fun _ => False) wc).alloc (.cells #[.int .i64 i.u.c,.int .i64 i.u.a] 42);have hKC:=(hKB.trans hKc).trans (KeepU.of_chg0 hal);obtain ⟨ccl,ccc⟩:=hcl _ hKC;have bx:=Blk.new wc 42 #[.int .i64 i.u.c,.int .i64 i.u.a];have hud:=hu2 (hIc.chg0 hal))
    | (go_at_call 15;(with_reducible refine hud.mono ?_);rintro r wd ⟨rfl,hId,hKd⟩;have hbl:=(Chg.refl (fun _ => False) wd).alloc (.cells #[.int .i64 i.u.c,.int .i64 i.u.a] 42);have bx2:=(hKd.u _ _ bx);have bl2:=bx2.lt;have by0:=bx2.cell 0;have by1:=bx2.cell 1;simp only [List.getElem?_toArray,List.getElem?_cons_zero,List.getElem?_cons_succ] at by0 by1;have hIe:=hId.swap.chg0 hbl;have hKE:=(hKC.trans hKd).trans (KeepU.of_chg0 hbl);have hle:=hl1 hIe)
    | (go_at_call 27;(with_reducible refine hle.mono ?_);rintro r we ⟨rfl,hCe⟩;have hIf:=hIe.chg0 hCe;have hlf:=hl2 hIf)
    | (go_at_call 27;(with_reducible refine hlf.mono ?_);rintro r wf ⟨rfl,hCf⟩;have hIg:=hIf.chg0 hCf;have hbg:=hb1 hIg)
    | (go_at_call 28;(with_reducible refine hbg.mono ?_);rintro r wg ⟨rfl,hCg⟩;have hIh:=hIg.chg0 hCg;have hbh:=hb2 hIh)
    | (go_at_call 28;(with_reducible refine hbh.mono ?_);rintro r wh ⟨rfl,hCh⟩;have hIi:=hIh.chg0 hCh)
    | fail)
   go_roundg (kl - (j+1))
   case measure => have:=HJ.out;omega
   case rel => exact ⟨j+1,int_eq (by omega),rfl,HJ.out,hIi,(hKE.trans (KeepU.of_chg0 (((hCe.trans hCf).trans hCg).trans hCh))).s _ _ _ HSS.out⟩
  ·obtain rfl:j=KK.length:=by omega
   have h3:¬ (KK.length:Int)<(KK.length:Int):=by omega
   have hln:=hI.two.swap.len
   rw [HE2.out] at hln
   have hle:(KK.length:Int)≤(L.length:Int):=by have:=HLL.out;omega
   unfold pt at hln
   generalize KK.length=kl at *
   generalize L.length=ll at *
   go_wp2_with (first
    | (go_at_call 12;(with_reducible refine hln.mono ?_);rintro r wl ⟨rfl,rfl⟩)
    | fail)
   go_ret
   exact ⟨rfl,hI.c⟩
end Go.Proofs.YtehpmbmdadkhbaaGreatDoor
