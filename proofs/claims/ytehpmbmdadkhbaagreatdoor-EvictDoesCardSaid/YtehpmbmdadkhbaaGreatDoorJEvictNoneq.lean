/- Texts joined for EvictNone: RSP, LFR, RSX, RSZ, EVR, KYA, MDA, MDB, TX, EVX, EVW. -/
import Derived.Test.YtehpmbmdadkhbaaGreatDoorJEvictNonef
import Derived.Test.YtehpmbmdadkhbaaGreatDoorJEvictNoneh
import Derived.Test.YtehpmbmdadkhbaaGreatDoorJEvictNonei
import Derived.Test.YtehpmbmdadkhbaaGreatDoorJEvictNonek
import Derived.Test.YtehpmbmdadkhbaaGreatDoorJEvictNonel
import Derived.Test.YtehpmbmdadkhbaaGreatDoorJEvictNonen
import Derived.Test.YtehpmbmdadkhbaaGreatDoorJEvictNoneo
import Derived.Test.YtehpmbmdadkhbaaGreatDoorJEvictNonep
import Derived.Deep.RegionWith
import Derived.Lib.SmallJoins
import Derived.Deep.QuietTactic
import Derived.BigQuiet
import Derived.Lib.Hide
set_option linter.unusedVariables false
set_option linter.unusedSimpArgs false

namespace Go.Proofs.YtehpmbmdadkhbaaGreatDoor
open Go.RowKit Pal
section
variable {α:Type} {e:TypeId} {k:Nat} {cells:α→List Value} {w w':World} {base:Nat}
theorem flatL_set (hk:∀ x,(cells x).length=k) {x':α} {u:Value}:∀ {l:List α} {i:Nat} {x:α} {j:Nat},l[i]?=some x→j<k→cells x'=(cells x).set j u→(l.flatMap cells).set (i * k+j) u=(l.set i x').flatMap cells
 | y :: l,0,x,j,h,hj,hc => by
  injection h with h
  subst h
  rw [List.flatMap_cons,Nat.zero_mul,Nat.zero_add,List.set_append_left _ _ (by rw [hk];exact hj),List.set_cons_zero,List.flatMap_cons,hc]
 | y :: l,i+1,x,j,h,hj,hc => by
  have ih:=flatL_set hk (l:=l) (i:=i) (x:=x) (j:=j) (by simpa using h) hj hc
  have e1:(i+1) * k+j=k+(i * k+j):=by rw [Nat.succ_mul];omega
  rw [List.flatMap_cons,List.set_append_right _ _ (by rw [hk,e1];omega),hk,e1,Nat.add_sub_cancel_left,ih,List.set_cons_succ,List.flatMap_cons]
theorem OwnL.put {l:List α} {n c gb:Nat} (h:OwnL e k cells w base (.slice (some ⟨gb,0,none⟩) n c) l) (hk:∀ x,(cells x).length=k) {i j:Nat} {x x':α} {u:Value} (hx:l[i]?=some x) (hj:j<k) (hc:cells x'=(cells x).set j u) :
  OwnL e k cells (w.setCell ⟨gb,i * k+j,none⟩ u) base (.slice (some ⟨gb,0,none⟩) n c) (l.set i x'):=by
 have hn:n=l.length:=by
  obtain ⟨_,_,e,_⟩:=h.is
  injection e
 subst hn
 exact OwnL.mk (World.ownsRow.stored h (i * k+j) u).1 (List.length_set ..).symm (flatL_set hk hx hj hc)
end
theorem set_updK {α:Type} {key:α→ByteArray} {x':α}:∀ {l:List α} {j:Nat} {x:α},SoK key l→l[j]?=some x→key x'=key x→l.set j x'=updK key l x'
 | y :: l,0,x,so,h,hk => by
  injection h with h
  subst h
  show x' :: l=(if key y=key x' then x' else y) :: updK key l x'
  rw [if_pos hk.symm,updK_none fun c hc => ?_]
  rw [hk]
  exact (ltK_ne ((List.pairwise_cons.1 so).1 c hc)).symm
 | y :: l,j+1,x,so,h,hk => by
  have h':l[j]?=some x:=by simpa using h
  show y :: l.set j x'=(if key y=key x' then x' else y) :: updK key l x'
  rw [set_updK (List.pairwise_cons.1 so).2 h' hk,if_neg]
  rw [hk]
  exact ltK_ne ((List.pairwise_cons.1 so).1 x (List.mem_of_getElem? h'))
structure Rx (w0:World) (s s':Rs) (W W':World):Prop where
 at_:RsAt w0 W' s'
 blk:s'.blk=s.blk
 E:s'.E=s.E
 M:s'.M=s.M
 seed:s'.seed=s.seed
 mx:s'.mx=s.mx
 chg:Chg s.foot W W'
 foot:∀ g,s'.foot g→s.foot g∨W.heap.size≤g
section
variable {w0 W W' W'':World} {s s' s'':Rs}
theorem Rx.zero (h:RsAt w0 W s) (hc:Chg (fun _ => False) W W'):Rx w0 s s W W':=⟨h.chg0 hc,rfl,rfl,rfl,rfl,rfl,hc.mono fun _ _ h => h.elim,fun _ => .inl⟩
theorem Rx.trans (h:Rx w0 s s' W W') (k:Rx w0 s' s'' W' W''):Rx w0 s s'' W W'' :=
 ⟨k.at_,k.blk.trans h.blk,k.E.trans h.E,k.M.trans h.M,k.seed.trans h.seed,k.mx.trans h.mx,h.chg.trans' k.chg fun g hg hf => (h.foot g hf).elim id fun h2 => by omega,
  fun g hg => (k.foot g hg).elim (h.foot g) fun h2 => .inr (Nat.le_trans h.chg.size h2)⟩
theorem Rx.put (h:Rx w0 s s' W W') {j:Nat} {i i':Ri} (hj:s'.its[j]?=some i) (hk:i'.key=i.key) {q:Nat} {u:Value} (hq:q<4) (hc:i'.cells=i.cells.set q u) (hI:Rf w0 W' i'.rb i'.es i'.is (clampL 200 s.E) (clampL 64 s.M) i'.v) (hu:i'.u.Ok)
  (hf:∀ g,(g=i'.rb∨i'.v.ownBlock=some g)→s.foot g∨W.heap.size≤g) {gb n c:Nat} (hv:s'.v=.slice (some ⟨gb,0,none⟩) n c) :
  Rx w0 s { s' with its:=updK Ri.key s'.its i' } W (W'.setCell ⟨gb,j * 4+q,none⟩ u):=by
 have hA:=h.at_
 have hgb:s'.v.ownBlock=some gb:=by rw [hv];rfl
 have hcs:Chg (fun g => g=gb) W' (W'.setCell ⟨gb,j * 4+q,none⟩ u):=Chg.store (S:=fun g => g=gb) (Chg.refl _ W') rfl _ _
 have hR:∀ {i:Ri},Rf w0 W' i.rb i.es i.is (clampL 200 s.E) (clampL 64 s.M) i.v→Rf w0 (W'.setCell ⟨gb,j * 4+q,none⟩ u) i.rb i.es i.is (clampL 200 s.E) (clampL 64 s.M) i.v:=fun {i} hI =>
  hI.keep hcs (fun e => (hI.b.not_own hA.own (by decide)) (by rw [hgb,e])) fun g hg e => by
   subst e
   exact own_two hA.own.own hI.own (by decide) hgb hg
 have hown:=hA.own
 rw [hv] at hown
 have ho2:=OwnL.put hown ri_cells hj hq hc
 rw [set_updK hA.so hj hk,← hv] at ho2
 refine ⟨⟨hA.b.chg hcs fun e => (hA.b.not_own hA.own (by decide)) (by rw [hgb,e]),ho2,hA.ge,?_,?_,?_,updK_so hA.so _,by rw [updK_len];exact hA.n⟩,h.blk,h.E,h.M,h.seed,h.mx,h.chg.trans' hcs fun g hg e => ?_,?_⟩
 ·intro x hx
  show Rf w0 _ x.rb x.es x.is (clampL 200 s'.E) (clampL 64 s'.M) x.v
  rw [h.E,h.M]
  rcases mem_updK hx with rfl | ⟨hx,_⟩
  ·exact hR hI
  ·have:=hA.it x hx
   rw [h.E,h.M] at this
   exact hR this
 ·intro x hx
  rcases mem_updK hx with rfl | ⟨hx,_⟩
  ·exact hu
  ·exact hA.u x hx
 ·intro x hx
  rcases mem_updK hx with rfl | ⟨hx,_⟩
  ·rw [hk];exact hA.k _ (List.mem_of_getElem? hj)
  ·exact hA.k x hx
 ·subst e
  exact (h.foot _ (.inr (.inl hgb))).elim id fun h2 => by omega
 ·rintro g (rfl | hg | ⟨x,hx,hg⟩)
  ·exact h.foot _ (.inl rfl)
  ·exact h.foot _ (.inr (.inl hg))
  ·rcases mem_updK hx with rfl | ⟨hx,_⟩
   ·exact hf g hg
   ·exact h.foot _ (.inr (.inr ⟨x,hx,hg⟩))
theorem Rx.items (h:Rx w0 s s' W W') {v':Value} {its':List Ri} (ho:Items W' W.heap.size v' its') (hit:∀ i∈its',Rf w0 W' i.rb i.es i.is (clampL 200 s.E) (clampL 64 s.M) i.v∧i.u.Ok∧i.key.size≤64∧∀ g,(g=i.rb∨i.v.ownBlock=some g)→s.foot g∨W.heap.size≤g)
  (so:SoK Ri.key its') (hn:its'.length≤500) (hw:w0.heap.size≤W.heap.size):Rx w0 s { s' with v:=v',its:=its' } W (W'.setCell ⟨s.blk,0,none⟩ v'):=by
 have hA:=h.at_
 have hcs:Chg (fun g => g=s'.blk) W' (W'.setCell ⟨s'.blk,0,none⟩ v'):=Chg.store (S:=fun g => g=s'.blk) (Chg.refl _ W') rfl _ _
 have hb:=hA.b.set 0 v'
 simp only [List.setIfInBounds_toArray,List.set_cons_zero] at hb
 rw [← h.blk]
 refine ⟨⟨hb,(OwnL.chg ho hcs fun g hg e => ?_).lower hw,hA.ge,?_,fun i hi => (hit i hi).2.1,fun i hi => (hit i hi).2.2.1,so,hn⟩,h.blk,h.E,h.M,h.seed,h.mx,h.chg.trans' hcs fun g hg e => ?_,?_⟩
 ·subst e
  exact hA.b.not_own ho.own (by decide) hg
 ·intro x hx
  show Rf w0 _ x.rb x.es x.is (clampL 200 s'.E) (clampL 64 s'.M) x.v
  rw [h.E,h.M]
  have hI:=(hit x hx).1
  exact hI.keep hcs (fun e => hI.b.ne_type hA.b (by decide) e) fun g hg e => by
   subst e
   exact hA.b.not_own hI.own (by decide) hg
 ·subst e
  exact (h.foot _ (.inl rfl)).elim id fun h2 => by omega
 ·rintro g (rfl | hg | ⟨x,hx,hg⟩)
  ·exact h.foot _ (.inl rfl)
  ·exact .inr (by
    obtain ⟨p,c,rfl,_,_,h3⟩:=OwnL.is ho
    cases p with
    | none => cases hg
    | some a =>
     have:=(h3 a rfl).1
     injection hg with hg
     omega)
  ·exact (hit x hx).2.2.2 g hg
end
structure Rsa (w0 W:World) (b:Nat) (cf:Cf) (l:List Ct) (F:Nat→Prop):Prop where
 ex:∃ s:Rs,RsAt w0 W s∧s.blk=b∧(s.E=cf.E∧s.M=cf.M∧s.seed=cf.seed∧s.mx=cf.mx)∧s.its.map Ri.ct=l∧s.foot=F
 chg:Chg (fun _ => False) w0 W
section
variable {w0 W W':World} {b:Nat} {cf:Cf} {l:List Ct} {F F':Nat→Prop} {s s':Rs}
theorem Rx.nf (h:Rx w0 s s' W W'):Nf s.foot s'.foot W W':=⟨h.chg,h.foot⟩
theorem Rsa.lt (h:Rsa w0 W b cf l F) {g:Nat} (hg:F g):w0.heap.size≤g∧g<W.heap.size:=by
 obtain ⟨s,hs,_,_,_,rfl⟩:=h.ex
 exact hs.lt hg
theorem Rsa.keep {S:Nat→Prop} (h:Rsa w0 W b cf l F) (hc:Chg S W W') (hn:∀ g,F g→¬ S g) (h0:∀ g,S g→w0.heap.size≤g):Rsa w0 W' b cf l F:=by
 obtain ⟨⟨s,hs,h1,h2,h3,rfl⟩,hw⟩:=h
 exact ⟨⟨s,hs.chg hc hn,h1,h2,h3,rfl⟩,hw.trans' hc fun g hg hs => by have:=h0 g hs;omega⟩
theorem Rsa.chg0 (h:Rsa w0 W b cf l F) (hc:Chg (fun _ => False) W W'):Rsa w0 W' b cf l F:=h.keep hc (fun _ _ => id) fun _ h => h.elim
def Rst (w0:World) (b:Nat) (cf:Cf) (l':List Ct) (F:Nat→Prop) (W W':World):Prop:=∃ F',Rsa w0 W' b cf l' F'∧Nf F F' W W'
theorem Rst.mk (hw:Chg (fun _ => False) w0 W) (hs:RsAt w0 W s) (hx:Rx w0 s s' W W'):Rst w0 s.blk ⟨s.E,s.M,s.seed,s.mx⟩ (s'.its.map Ri.ct) s.foot W W' :=
 ⟨_,⟨⟨s',hx.at_,hx.blk,⟨hx.E,hx.M,hx.seed,hx.mx⟩,rfl,rfl⟩,hw.trans' hx.chg fun g hg hf => by have:=(hs.lt hf).1;omega⟩,hx.nf⟩
theorem rct_key (i:Ri):Ct.key i.ct=Ri.key i:=rfl
theorem find_rct (l:List Ri) (k:ByteArray):findK Ct.key (l.map Ri.ct) k=(findK Ri.key l k).map Ri.ct:=findK_map (key:=Ri.key) (keyb:=Ct.key) rct_key l k
theorem upd_rct (l:List Ri) (i:Ri):(updK Ri.key l i).map Ri.ct=updK Ct.key (l.map Ri.ct) i.ct:=updK_map (key:=Ri.key) (keyb:=Ct.key) rct_key l i
theorem ins_rct (l:List Ri) (i:Ri):(insK Ri.key i l).map Ri.ct=insK Ct.key i.ct (l.map Ri.ct):=insK_map (key:=Ri.key) (keyb:=Ct.key) rct_key i l
theorem rs_tys (h:RsAt w0 W s) {g:Nat} (hg:s.foot g):∃ t cs,W.heap[g]?=some (.cells cs t (0,0))∧(t=63∨t=94∨t=145∨t=68):=by
 rcases hg with rfl | hg | ⟨i,hi,rfl | hg⟩
 ·exact ⟨_,_,h.b,.inl rfl⟩
 ·rcases h.own.own.2 with ⟨h1,_⟩ | ⟨g',c,cur,h1,_,h2,_⟩
  ·rw [h1] at hg;cases hg
  ·rw [h1] at hg
   injection hg with hg
   subst hg
   exact ⟨_,_,h2,.inr (.inl rfl)⟩
 ·exact ⟨_,_,(h.it i hi).b,.inr (.inr (.inl rfl))⟩
 ·rcases (h.it i hi).own.2 with ⟨h1,_⟩ | ⟨g',c,cur,h1,_,h2,_⟩
  ·rw [h1] at hg;cases hg
  ·rw [h1] at hg
   injection hg with hg
   subst hg
   exact ⟨_,_,h2,.inr (.inr (.inr rfl))⟩
theorem Rsa.apart {cf2:Cf} {l2:List Ct} {b2:Nat} {w2:World} (h:Rsa w0 W b cf l F) (k:Spa w2 W b2 cf2 l2 F'):∀ g,F g→¬ F' g:=fun g hg hg2 => by
 obtain ⟨s,hs,_,_,_,rfl⟩:=h.ex
 obtain ⟨t,cs,h1,h2⟩:=rs_tys hs hg
 obtain ⟨t2,cs2,h3,h4⟩:=k.ty hg2
 have e:=h1.symm.trans h3
 injection e with e
 injection e with _ e _
 subst e
 rcases h2 with rfl | rfl | rfl | rfl <;> revert h4 <;> decide
end
end Go.Proofs.YtehpmbmdadkhbaaGreatDoor

namespace Go.Proofs.YtehpmbmdadkhbaaGreatDoor
open Go.RowKit Pal
attribute [local go_sem] Oper.semAt_some
set_option maxRecDepth 100000 in
theorem right_r (u:Us) (h:u.Ok) (w:World):Calls Tryz.prog 107 #[.agg u.cs] w fun r w' => r=.returned (.bool true)∧Chg (fun _ => False) w w':=by
 obtain ⟨c,a⟩:=u
 obtain ⟨⟨h1,h2⟩,h3,h4⟩:=h
 unfold Us.cs
 dsimp only at h1 h2 h3 h4
 go_enter Tryz.func107,Tryz.ntmps107
 go_wp2_with fail
 go_ret
 exact ⟨rfl,(Chg.refl _ w).alloc _⟩
set_option maxRecDepth 100000 in
theorem new_r (w:World):Calls Tryz.prog 82 #[.int .i64 0] w fun r w' => r=.returned (.tuple #[.agg #[.int .i64 5,.int .i64 0],.int .i64 0])∧Chg (fun _ => False) w w':=by
 have hb:=Blk.new w 42 #[.int .i64 5,.int .i64 0]
 go_enter Tryz.func82,Tryz.ntmps82
 go_wp2_with fail
 refine bodyPost_ret (results_cell_tmp rfl _ w.heap.size 42 _ _ rfl hb Tryz.underlying42 rfl (by kernel_rfl)) rfl ⟨rfl,?_⟩
 exact (Chg.refl _ w).alloc _
set_option maxRecDepth 100000 in
theorem count_rno (u:Us) (h:u.Ok) (now:Int) (hn:now<u.a) (w:World):Calls Tryz.prog 70 #[.agg u.cs,.int .i64 now] w fun r w' => r=.returned (cntV none)∧Chg (fun _ => False) w w':=by
 have hr:=fun W => right_r u h W
 obtain ⟨c,a⟩:=u
 unfold Us.cs at *
 dsimp only at hn hr
 have hN:(now<a)=True:=eq_true hn
 unfold cntV
 have x0:=Blk.new w 42 #[.int .i64 c,.int .i64 a]
 go_enter Tryz.func70,Tryz.ntmps70
 go_wp2_with (first
  | (go_at_call 107;refine (hr _).mono ?_;rintro r w1 ⟨rfl,hC1⟩;have x1:=(x0.chg hC1 id).cell 1;have xl:=(x0.chg hC1 id).lt;simp only [List.getElem?_toArray,List.getElem?_cons_zero,List.getElem?_cons_succ] at x1)
  | fail)
 go_ret2
 exact ⟨rfl,((Chg.refl _ w).alloc _).trans hC1⟩
set_option maxRecDepth 100000 in
theorem count_ryes (u:Us) (h:u.Ok) (now n:Int) (hn:cntU u now=some n) (hw:now≤9223372036854775807) (w:World):Calls Tryz.prog 70 #[.agg u.cs,.int .i64 now] w fun r w' => r=.returned (cntV (some n))∧Chg (fun _ => False) w w':=by
 have hr:=fun W => right_r u h W
 obtain ⟨v1,v2,v3,v4⟩:=cnt_val h hn hw
 obtain ⟨c,a⟩:=u
 unfold Us.cs at *
 dsimp only at v1 v2 v3 v4 hr
 have HM:=Lib.hid v4
 have hN:(now<a)=False:=eq_false v1
 unfold cntV
 clear v4 hn v1
 have x0:=Blk.new w 42 #[.int .i64 c,.int .i64 a]
 go_enter Tryz.func70,Tryz.ntmps70
 go_wp2_with (first
  | (go_at_call 107;refine (hr _).mono ?_;rintro r w1 ⟨rfl,hC1⟩;have xb:=x0.chg hC1 id;have x1:=xb.cell 1;have xa:=xb.cell 0;have xl:=xb.lt;simp only [List.getElem?_toArray,List.getElem?_cons_zero,List.getElem?_cons_succ] at x1 xa)
  | fail)
 go_ret2
 exact ⟨by rw [← HM.out];rfl,((Chg.refl _ w).alloc _).trans hC1⟩
set_option maxRecDepth 100000 in
theorem touch_rno (u:Us) (h:u.Ok) (now:Int) (hn:now<u.a) (draw:Nat) (w:World):Calls Tryz.prog 60 #[.agg u.cs,.int .i64 now,.int .u32 (draw:Int)] w fun r w' => r=.returned (tchV none)∧Chg (fun _ => False) w w':=by
 have hc:=fun W => count_rno u h now hn W
 obtain ⟨c,a⟩:=u
 unfold cntV at hc
 unfold Us.cs tchV at *
 have x1:=Blk.new (w.alloc (.cells #[.int .i64 c,.int .i64 a] 42)) 42 #[.int .i64 0,.int .i64 0]
 rw [World.size_alloc] at x1
 go_enter Tryz.func60,Tryz.ntmps60
 go_wp2_with (first
  | (go_at_call 70;refine (hc _).mono ?_;rintro r w1 ⟨rfl,hC1⟩;have z:=x1.chg hC1 id;have z0:=z.cell 0;have z1:=z.cell 1;have zl:=z.lt;have zf:=z.frozen;simp only [List.getElem?_toArray,List.getElem?_cons_zero,List.getElem?_cons_succ] at z0 z1)
  | fail)
 have z5:=(z.set 0 (.int .i64 0)).set 1 (.int .i64 0)
 simp only [List.setIfInBounds_toArray,List.set_cons_zero,List.set_cons_succ] at z5
 refine bodyPost_ret (results_cell_tmp rfl _ (w.heap.size+1) 42 _ _ rfl z5 Tryz.underlying42 rfl (by kernel_rfl)) rfl ⟨rfl,?_⟩
 exact (((((Chg.refl (fun _ => False) w).alloc _).alloc _).trans hC1).setCell (by simp) _).setCell (by simp) _
set_option maxRecDepth 100000 in
set_option maxHeartbeats 2000000 in
theorem touch_ryes (u:Us) (h:u.Ok) (now n:Int) (hn:cntU u now=some n) (hw:now≤9223372036854775807) (draw:Nat) (hd:draw<4294967296) (w:World):Calls Tryz.prog 60 #[.agg u.cs,.int .i64 now,.int .u32 (draw:Int)] w fun r w' => r=.returned (tchV (some ⟨nextU n draw,now⟩))∧Chg (fun _ => False) w w':=by
 have hc:=fun W => count_ryes u h now n hn hw W
 obtain ⟨b0,b1,_⟩:=cntU_le h hn
 obtain ⟨c,a⟩:=u
 unfold cntV at hc
 unfold Us.cs tchV at *
 have x1:=Blk.new (w.alloc (.cells #[.int .i64 c,.int .i64 a] 42)) 42 #[.int .i64 0,.int .i64 0]
 rw [World.size_alloc] at x1
 clear h hn
 have w1:wrap64 (n - 5)=n - 5:=by unfold wrap64;omega
 obtain ⟨m5,hm5⟩:∃ m5,m5=max 0 (n - 5):=⟨_,rfl⟩
 have w2:wrap64 (10 * m5)=10 * m5:=by unfold wrap64;omega
 have w3:wrap64 (10 * m5+1)=10 * m5+1:=by unfold wrap64;omega
 have w5:wrap64 (draw:Int)=draw:=by unfold wrap64;omega
 have hm0:0≤m5∧m5≤250:=by omega
 obtain ⟨hm01,hm02⟩:=hm0
 have hS:stepsU n=10 * m5+1:=by unfold stepsU;rw [hm5]
 have HN:nextU n draw=if n<255∧(draw:Int) % (10 * m5+1)=0 then n+1 else n:=by unfold nextU;rw [hS]
 replace HN:=Lib.hid HN
 have hm5':max 0 (n - 5)=m5:=hm5.symm
 have w8:wrap64 (n+1)=n+1:=by unfold wrap64;omega
 clear hS hm5
 by_cases h255:n<255
 ·by_cases hz:(draw:Int) % (10 * m5+1)=0
  ·have hq:((draw:Int) % (10 * m5+1) == 0)=true:=by rw [beq_iff_eq];exact hz
   replace hz:=Lib.hid hz
   go_enter Tryz.func60,Tryz.ntmps60
   go_wp2_with (first
       | (go_at_call 70;refine (hc _).mono ?_;rintro r w1 ⟨rfl,hC1⟩;have z:=x1.chg hC1 id;have z0:=z.cell 0;have z1:=z.cell 1;have zl:=z.lt;have zf:=z.frozen;simp only [List.getElem?_toArray,List.getElem?_cons_zero,List.getElem?_cons_succ] at z0 z1)
       | fail)
   have e:nextU n draw=n+1:=by rw [HN.out];exact if_pos ⟨h255,hz.out⟩
   have z5:=(z.set 0 (.int .i64 (n+1))).set 1 (.int .i64 now)
   simp only [List.setIfInBounds_toArray,List.set_cons_zero,List.set_cons_succ] at z5
   refine bodyPost_ret (results_cell_tmp rfl _ (w.heap.size+1) 42 _ _ rfl z5 Tryz.underlying42 rfl (by kernel_rfl)) rfl ⟨by rw [e];rfl,?_⟩
   exact (((((Chg.refl (fun _ => False) w).alloc _).alloc _).trans hC1).setCell (by simp) _).setCell (by simp) _
  ·have hq:((draw:Int) % (10 * m5+1) == 0)=false:=by rw [beq_eq_false_iff_ne];exact hz
   replace hz:=Lib.hid hz
   go_enter Tryz.func60,Tryz.ntmps60
   go_wp2_with (first
       | (go_at_call 70;refine (hc _).mono ?_;rintro r w1 ⟨rfl,hC1⟩;have z:=x1.chg hC1 id;have z0:=z.cell 0;have z1:=z.cell 1;have zl:=z.lt;have zf:=z.frozen;simp only [List.getElem?_toArray,List.getElem?_cons_zero,List.getElem?_cons_succ] at z0 z1)
       | fail)
   have e:nextU n draw=n:=by rw [HN.out];exact if_neg fun h => hz.out h.2
   have z5:=(z.set 0 (.int .i64 n)).set 1 (.int .i64 now)
   simp only [List.setIfInBounds_toArray,List.set_cons_zero,List.set_cons_succ] at z5
   refine bodyPost_ret (results_cell_tmp rfl _ (w.heap.size+1) 42 _ _ rfl z5 Tryz.underlying42 rfl (by kernel_rfl)) rfl ⟨by rw [e];rfl,?_⟩
   exact (((((Chg.refl (fun _ => False) w).alloc _).alloc _).trans hC1).setCell (by simp) _).setCell (by simp) _
 ·go_enter Tryz.func60,Tryz.ntmps60
  go_wp2_with (first
      | (go_at_call 70;refine (hc _).mono ?_;rintro r w1 ⟨rfl,hC1⟩;have z:=x1.chg hC1 id;have z0:=z.cell 0;have z1:=z.cell 1;have zl:=z.lt;have zf:=z.frozen;simp only [List.getElem?_toArray,List.getElem?_cons_zero,List.getElem?_cons_succ] at z0 z1)
      | fail)
  have e:nextU n draw=n:=by rw [HN.out];exact if_neg fun h => by have:=h.1;omega
  have z5:=(z.set 0 (.int .i64 n)).set 1 (.int .i64 now)
  simp only [List.setIfInBounds_toArray,List.set_cons_zero,List.set_cons_succ] at z5
  refine bodyPost_ret (results_cell_tmp rfl _ (w.heap.size+1) 42 _ _ rfl z5 Tryz.underlying42 rfl (by kernel_rfl)) rfl ⟨by rw [e];rfl,?_⟩
  exact (((((Chg.refl (fun _ => False) w).alloc _).alloc _).trans hC1).setCell (by simp) _).setCell (by simp) _
end Go.Proofs.YtehpmbmdadkhbaaGreatDoor

namespace Go.Proofs.YtehpmbmdadkhbaaGreatDoor
open Go.RowKit Pal
attribute [local go_sem] Oper.semAt_some
theorem so_at {α:Type} {key:α→ByteArray} {l:List α} (so:SoK key l) {j j':Nat} {x y:α} (h:l[j]?=some x) (h':l[j']?=some y) (e:key x=key y):j=j':=by
 obtain ⟨hj,rfl⟩:=List.getElem?_eq_some_iff.1 h
 obtain ⟨hj',rfl⟩:=List.getElem?_eq_some_iff.1 h'
 rcases Nat.lt_trichotomy j j' with h1 | h1 | h1
 ·exact absurd e (ltK_ne (List.pairwise_iff_getElem.1 so j j' hj hj' h1))
 ·exact h1
 ·exact absurd e.symm (ltK_ne (List.pairwise_iff_getElem.1 so j' j hj' hj h1))
section
variable {w0 W:World} {s:Rs}
theorem rs_at_yes (h:RsAt w0 W s) {j:Nat} {i:Ri} (hj:s.its[j]?=some i) {k:ByteArray} (hk:i.key=k):Calls Tryz.prog 42 #[pt s.blk,.string k] W fun r W' => r=.returned (.int .i64 (j:Int))∧W=W':=by
 refine (rs_at h k).mono ?_
 rintro r W' ⟨⟨v,rfl,hv⟩,hW⟩
 refine ⟨?_,hW⟩
 rcases hv with ⟨j',i',h1,h2,rfl⟩ | ⟨h1,_⟩
 ·rw [so_at h.so hj h1 (hk.trans h2.symm)]
 ·exact absurd hk (h1 i (List.mem_of_getElem? hj))
theorem rs_at_no (h:RsAt w0 W s) {k:ByteArray} (hno:∀ i∈s.its,i.key≠k):Calls Tryz.prog 42 #[pt s.blk,.string k] W fun r W' => r=.returned (.int .i64 (-1))∧W=W':=by
 refine (rs_at h k).mono ?_
 rintro r W' ⟨⟨v,rfl,hv⟩,hW⟩
 refine ⟨?_,hW⟩
 rcases hv with ⟨j',i',h1,h2,_⟩ | ⟨_,rfl⟩
 ·exact absurd h2 (hno i' (List.mem_of_getElem? h1))
 ·rfl
theorem RsAt.list (h:RsAt w0 W s) {j:Nat} {i:Ri} (hj:s.its[j]?=some i):∃ gb c,s.v=.slice (some ⟨gb,0,none⟩) s.its.length c∧gb<W.heap.size∧W.cell? ⟨gb,j * 4,none⟩=some (.string i.key)∧W.cell? ⟨gb,j * 4+1,none⟩=some (pt i.rb)∧W.cell? ⟨gb,j * 4+2,none⟩=some (.int .i64 i.u.c)∧W.cell? ⟨gb,j * 4+3,none⟩=some (.int .i64 i.u.a)∧(∀ o,W.frozen? ⟨gb,o,none⟩=false):=by
 obtain ⟨gb,gc,hge,_,_,hlt,hcell⟩:=OwnL.at_ h.own ri_cells hj
 have hown:=h.own.own
 rw [hge] at hown
 exact ⟨gb,gc,hge,hlt,hcell 0 _ rfl,hcell 1 _ rfl,hcell 2 _ rfl,hcell 3 _ rfl,fun o => hown.frozenAt o⟩
set_option maxRecDepth 100000 in
set_option maxHeartbeats 1000000 in
theorem rs_make_old (h:RsAt w0 W s) {j:Nat} {i:Ri} (hj:s.its[j]?=some i) {k:ByteArray} (hk:i.key=k) (hk64:k.size≤64) (now:Int):Calls Tryz.prog 56 #[pt s.blk,.string k,.int .i64 now] W fun r W' => r=.returned (.tuple #[pt i.rb,.int .i64 0])∧W=W':=by
 obtain ⟨c0,_,_,l0,_⟩:=h.cells
 have hat:=rs_at_yes h hj hk
 have hk2:¬ (64:Int)<(k.size:Int):=by omega
 obtain ⟨gb,gc,hv,hlt,k0,k1,k2,k3,_⟩:=h.list hj
 have hjl:(j:Int)<(s.its.length:Int):=by have:=(List.getElem?_eq_some_iff.1 hj).1;omega
 rw [hv] at c0
 have hj4:(s.its.length:Int)≤500:=by have:=h.n;omega
 generalize s.its.length=n at *
 unfold pt at *
 go_enter Tryz.func56,Tryz.ntmps56
 go_wp2_with (first
  | (go_at_call 42;refine hat.mono ?_;rintro r w1 ⟨rfl,rfl⟩)
  | fail)
 go_ret2
 exact ⟨rfl,rfl⟩
set_option maxRecDepth 100000 in
set_option maxHeartbeats 4000000 in
theorem rs_make_new (h:RsAt w0 W s) (hw:Chg (fun _ => False) w0 W) {k:ByteArray} (hk64:k.size≤64) (hno:∀ i∈s.its,i.key≠k) (h5:s.its.length<500):Calls Tryz.prog 56 #[pt s.blk,.string k,.int .i64 0] W fun r W' => ∃ i v',r=.returned (.tuple #[pt i.rb,.int .i64 0])∧i.ct=⟨k,[],false,⟨5,0⟩⟩∧Rx w0 s { s with v:=v',its:=insK Ri.key i s.its } W W':=by
 obtain ⟨c0,c1,c2,l0,f0⟩:=h.cells
 have hat:=rs_at_no h hno
 have hnl:=fun W => new_r W
 have hrn:=fun W1 (hc:Chg (fun _ => False) w0 W1) => rf_new hc s.E s.M
 have hk2:¬ (64:Int)<(k.size:Int):=by omega
 have h5i:¬ (500:Int)≤(s.its.length:Int):=by omega
 obtain ⟨p,cap,hv,hcap,hcap2,_⟩:=OwnL.is h.own
 have hS:∀ W',Chg (fun _ => False) W W'→W'.cell? ⟨s.blk,0,none⟩=some s.v∧W'.cell? ⟨s.blk,1,none⟩=some (.int .i64 s.E)∧W'.cell? ⟨s.blk,2,none⟩=some (.int .i64 s.M)∧s.blk<W'.heap.size∧W'.frozen? ⟨s.blk,0,none⟩=false:=fun W' hc => (h.chg0 hc).cells
 rw [hv] at c0 hS
 have hown:=h.own
 rw [hv] at hown
 have hwith:∀ (wX:World),Chg (fun _ => False) W wX→∀ rb:Nat,Calls Tryz.prog 71 #[.slice p s.its.length cap,.string k,.slice (some ⟨wX.heap.size,0,none⟩) 1 1] (wX.alloc (.cells #[.string k,pt rb,.int .i64 5,.int .i64 0] 94)) fun r W' => (∃ vp vc,r=.returned (.slice vp (s.its.length+1) vc)∧Items W' W.heap.size (.slice vp (s.its.length+1) vc) (insK Ri.key ⟨k,rb,.slice none 0 0,[],false,⟨5,0⟩⟩ s.its))∧Chg (fun _ => False) wX W':=fun wX hc rb => by
  have hca:=hc.alloc (.cells #[.string k,pt rb,.int .i64 5,.int .i64 0] 94)
  refine (with_any (OwnL.chg0 hown hca) h.n h.k k (by omega) (some ⟨wX.heap.size,0,none⟩) 1 [⟨k,rb,.slice none 0 0,[],false,⟨5,0⟩⟩] (Nat.le_refl _) (reads_blk (cs:=Ri.cells ⟨k,rb,.slice none 0 0,[],false,⟨5,0⟩⟩) (Blk.new wX 94 #[.string k,pt rb,.int .i64 5,.int .i64 0]) rfl)).mono ?_
  rintro r W' ⟨⟨v',rfl,hI⟩,hC⟩
  rw [withR_ins ⟨k,rb,.slice none 0 0,[],false,⟨5,0⟩⟩ s.its hno h.so] at hI
  obtain ⟨vp,vc,e,_⟩:=OwnL.is hI
  rw [insK_len] at e
  subst e
  exact ⟨⟨vp,vc,rfl,OwnL.lower hI hca.size⟩,((Chg.refl _ wX).alloc _).trans hC⟩
 unfold pt at *
 go_enter Tryz.func56,Tryz.ntmps56
 go_wp2_with (first
  | (go_at_call 42;refine hat.mono ?_;rintro r w1 ⟨rfl,rfl⟩)
  | (go_at_call 82;refine (hnl _).mono ?_;rintro r w2 ⟨rfl,hC2⟩;obtain ⟨d0,d1,d2,dl,df⟩:=hS _ hC2)
  | (go_at_call 57;refine (hrn _ (hw.trans (hC2.alloc _))).mono ?_;rintro r w3 ⟨rb,rfl,hR,hC3,hge⟩;have hC23:=(hC2.alloc (.cells #[.int .i64 5,.int .i64 0] 42)).trans hC3;have u3:=(Blk.new w2 42 #[.int .i64 5,.int .i64 0]).chg hC3 id;have u30:=u3.cell 0;have u31:=u3.cell 1;have ul:=u3.lt;simp only [List.getElem?_toArray,List.getElem?_cons_zero,List.getElem?_cons_succ] at u30 u31;obtain ⟨e0,e1,e2,el,ef⟩:=hS _ hC23)
  | fail)
 have hC23':=Chg.drew hC23
 go_region_with (first
  | (go_at_call 71;refine (hwith _ hC23' rb).mono ?_;rintro r w5 ⟨⟨vp,vc,rfl,hI⟩,hC5⟩;have hCW:=hC23'.trans hC5;obtain ⟨g0,g1,g2,gl,gf⟩:=hS _ hCW)
  | fail)
 all_goals
  go_wp2_with fail
  go_ret2
  refine ⟨⟨k,rb,.slice none 0 0,[],false,⟨5,0⟩⟩,.slice vp (s.its.length+1) vc,rfl,rfl,?_⟩
  refine Rx.items (Rx.zero h hCW) hI ?_ (insK_so h.so hno) (by rw [insK_len];exact h5) hw.size
  intro i hi
  rcases mem_insK.1 hi with rfl | hi
  ·refine ⟨(hR.chg0 (Chg.refl _ _).drew).chg0 hC5,zero_ok,hk64,fun g hg => ?_⟩
   rcases hg with rfl | hg
   ·exact .inr (Nat.le_trans (hC2.alloc _).size hge)
   ·cases hg
  ·exact ⟨(h.chg0 hCW).it i hi,h.u i hi,h.k i hi,fun g hg => .inl (.inr (.inr ⟨i,hi,hg⟩))⟩
end
end Go.Proofs.YtehpmbmdadkhbaaGreatDoor

namespace Go.Proofs.YtehpmbmdadkhbaaGreatDoor
open Go.RowKit Pal
attribute [local go_sem] Oper.semAt_some
section
variable {w0 W:World} {s:Rs}
theorem Rf.lower {w1:World} {rb:Nat} {es:List En} {is:Bool} {E M:Nat} {v:Value} (h:Rf w1 W rb es is E M v) (hb:w0.heap.size≤w1.heap.size):Rf w0 W rb es is E M v:=⟨h.b,h.own.lower hb,Nat.le_trans hb h.ge,h.ok⟩
set_option maxRecDepth 100000 in
set_option maxHeartbeats 4000000 in
theorem rs_put (h:RsAt w0 W s) (hw:Chg (fun _ => False) w0 W) (k:ByteArray) (hk:k.size≤64) (h5:s.its.length<500) (B:Nat) (v:Value) (xs:List En) (hv:Ents W B v xs) (hvn:∀ g,v.ownBlock=some g→¬ s.foot g) (hn:xs.length≤1000) (hx:∀ e∈xs,-9223372036854775808≤e.s∧e.s≤9223372036854775807) :
  Calls Tryz.prog 31 #[pt s.blk,.string k,v,.int .i64 0] W fun r W' => r=.returned (.int .i64 0)∧∃ s',Rx w0 s s' W W'∧s'.its.map Ri.ct=putC (clampL 200 s.E) (clampL 64 s.M) (s.its.map Ri.ct) k xs 0:=by
 have hmd:Calls Tryz.prog 56 #[pt s.blk,.string k,.int .i64 0] W fun r W' => ∃ i s1,r=.returned (.tuple #[pt i.rb,.int .i64 0])∧Rx w0 s s1 W W'∧i∈s1.its∧i.key=k∧(∀ (es:List En) (is:Bool),updK Ct.key (s1.its.map Ri.ct) ⟨k,es,is,i.u⟩=match findK Ct.key (s.its.map Ri.ct) k with | some c => updK Ct.key (s.its.map Ri.ct) { c with es:=es,is:=is } | none => insK Ct.key ⟨k,es,is,⟨5,0⟩⟩ (s.its.map Ri.ct)):=by
  cases hf:findK Ri.key s.its k with
  | some i =>
   have hi:=(findK_some h.so).1 hf
   obtain ⟨j,hj⟩:=List.getElem?_of_mem hi.1
   refine (rs_make_old h hj hi.2 hk 0).mono ?_
   rintro r w' ⟨rfl,rfl⟩
   refine ⟨i,s,rfl,Rx.zero h (Chg.refl _ _),hi.1,hi.2,fun es is => ?_⟩
   rw [find_rct,hf]
   show updK Ct.key (s.its.map Ri.ct) ⟨k,es,is,i.u⟩=updK Ct.key (s.its.map Ri.ct) ⟨i.key,es,is,i.u⟩
   rw [hi.2]
  | none =>
   refine (rs_make_new h hw hk (findK_none.1 hf) h5).mono ?_
   rintro r w' ⟨i,v',rfl,hct,hx1⟩
   have hik:i.key=k:=congrArg Ct.key hct
   have hu:i.u=⟨5,0⟩:=congrArg Ct.u hct
   refine ⟨i,_,rfl,hx1,mem_insK.2 (.inl rfl),hik,fun es is => ?_⟩
   rw [find_rct,hf]
   show updK Ct.key ((insK Ri.key i s.its).map Ri.ct) ⟨k,es,is,i.u⟩=insK Ct.key ⟨k,es,is,⟨5,0⟩⟩ (s.its.map Ri.ct)
   rw [ins_rct,hu]
   have hno:∀ c∈s.its.map Ri.ct,Ct.key c≠k:=fun c hc => by
    obtain ⟨j,hj,rfl⟩:=List.mem_map.1 hc
    exact findK_none.1 hf j hj
   exact updK_insK (key:=Ct.key) (x:=i.ct) hik hno rfl
 obtain ⟨p,c,rfl,hc1,hc2,_⟩:=hv.is
 have hxl:(xs.length:Int)≤1000:=by omega
 have hrn:=fun w1 => rf_new (Chg.refl (fun _ => False) w1) s.E s.M
 unfold pt at hmd hrn ⊢
 go_enter Tryz.func31,Tryz.ntmps31
 go_wp2_with (first
  | (go_at_call 56;refine hmd.mono ?_;rintro r w1 ⟨i,s1,rfl,hx1,hi1,hik,hL⟩;have hw1:Chg (fun _ => False) w0 w1:=hw.trans' hx1.chg (fun g hg hf => by have:=(h.lt hf).1;omega);obtain ⟨a0,a1,a2,al,af⟩:=hx1.at_.cells;rw [hx1.blk] at a0 a1 a2 al;rw [hx1.E] at a1;rw [hx1.M] at a2)
  | (go_at_call 57;refine (hrn _).mono ?_;rintro r w2 ⟨rb,rfl,hR,hC2,hge⟩)
  | fail)
 have hv1:=(hv.chg hx1.chg hvn).chg0 hC2
 have hiu:=(hx1.at_.u i hi1)
 obtain ⟨j1,hj1⟩:=List.getElem?_of_mem hi1
 have hj1l:(j1:Int)<(s1.its.length:Int):=by have:=(List.getElem?_eq_some_iff.1 hj1).1;omega
 have hn1:(s1.its.length:Int)≤500:=by have:=hx1.at_.n;omega
 have HX1:=Lib.hid hx1
 have HRB:=Lib.hid hR.b
 have HV:=Lib.hid hv1
 have HVN:=Lib.hid hvn
 have HL:=Lib.hid hL
 have HJ1:=Lib.hid hj1
 have HW:=Lib.hid hw
 clear hx1 hv1 hvn hL hj1 hv hmd hrn a0 a1 a2 al af hw hw1
 go_loopg [12] xs.length (fun n iv Wr => ∃ (j:Nat) (v2:Value),iv=.int .i64 (j:Int)∧n=xs.length - j∧j≤xs.length∧Rf w1 Wr rb (putsE (clampL 200 s.E) (clampL 64 s.M) (xs.take j)).1 (putsE (clampL 200 s.E) (clampL 64 s.M) (xs.take j)).2 (clampL 200 s.E) (clampL 64 s.M) v2∧Chg (fun g => g=rb) w2 Wr)
 case atStart => exact ⟨0,_,rfl,rfl,Nat.zero_le _,hR,Chg.refl _ _⟩
 case round =>
  clear hR
  obtain ⟨j,v2,rfl,rfl,hj,hR,hC⟩:=hrel
  have hE:Ents wr B (.slice p xs.length c) xs:=HV.out.chg hC fun g hg e => by
   subst e
   exact (HRB.out.not_own HV.out (by decide)) hg
  by_cases hjl:j<xs.length
  ·have h3:(j:Int)<(xs.length:Int):=by omega
   have hxj:=List.getElem?_eq_getElem hjl
   have hxe:=hx _ (List.getElem_mem hjl)
   generalize xs[j]=e at hxj hxe
   obtain ⟨eb,eo,ec,ee,g1,g2,el,d0,d1⟩:=hE.r.at_ hxj
   injection ee with ee5 _ ee6
   subst ee5
   subst ee6
   have hsn:=putsE_snoc (E:=clampL 200 s.E) (M:=clampL 64 s.M) hxj
   have HSN:=Lib.hid hsn
   have HJ:=Lib.hid hj
   have hadd:=rf_add (hR.chg0 (Chg.refl (fun _ => False) _).drew) e.m e.s 1 hxe
   unfold pt at hadd
   have HR:=Lib.hid hR
   clear hsn hxj hE hR
   go_wp2_with fail
   go_still_tail 11,(by kernel_rfl)
   go_wp2_with (first
    | (go_at_call 58;refine hadd.mono ?_;rintro r w4 ⟨rfl,v4,hR4,hC4⟩)
    | fail)
   go_roundg (xs.length - (j+1))
   case measure => omega
   case rel =>
    refine ⟨j+1,v4,int_eq (by omega),rfl,by omega,?_,(Chg.drew hC).trans' hC4 fun g _ e => e⟩
    rw [HSN.out]
    exact hR4
  ·obtain rfl:j=xs.length:=by omega
   have h3:¬ (xs.length:Int)<(xs.length:Int):=by omega
   rw [List.take_length] at hR
   have hCf:Chg (fun _ => False) w1 wr:=hC2.trans' hC fun g hg e => by omega
   have hX2:=(HX1.out.trans (Rx.zero HX1.out.at_ hCf)).trans (Rx.zero (HX1.out.at_.chg0 hCf) (Chg.refl (fun _ => False) wr).drew)
   have hat:=rs_at_yes hX2.at_ HJ1.out hik
   obtain ⟨gb,gc,hv',hlt,k0,k1,k2,k3,kf⟩:=hX2.at_.list HJ1.out
   obtain ⟨b0,_,_,bl,_⟩:=hX2.at_.cells
   rw [hX2.blk] at b0 bl hat
   rw [hv'] at b0
   have HVV:=Lib.hid hv'
   have HXX:=Lib.hid hX2
   have HRR:=Lib.hid hR
   have kf1:=kf (j1 * 4+1)
   have hs1:W.heap.size≤w1.heap.size:=HX1.out.chg.size
   have hw1s:w0.heap.size≤w1.heap.size:=Nat.le_trans HW.out.size hs1
   clear hv' hX2 hR hC hE
   generalize hnl:s1.its.length=n1 at *
   unfold pt at *
   go_wp2_with fail
   go_region_with (first
    | (go_at_call 42;refine hat.mono ?_;rintro r w9 ⟨rfl,rfl⟩)
    | fail)
   all_goals
    go_wp2_with fail
    go_ret
    refine ⟨rfl,_,Rx.put HXX.out HJ1.out (i':={ i with rb:=rb,v:=v2,es:=(putsE (clampL 200 s.E) (clampL 64 s.M) xs).1,is:=(putsE (clampL 200 s.E) (clampL 64 s.M) xs).2 }) rfl (q:=1) (by omega) rfl ((HRR.out.chg0 (Chg.refl _ _).drew).lower hw1s) hiu ?_ HVV.out,?_⟩
    ·intro g hg
     refine .inr (Nat.le_trans hs1 ?_)
     rcases hg with rfl | hg
     ·exact hge
     ·exact (HRR.out.own.lt g hg).1
    ·rw [upd_rct]
     show updK Ct.key (s1.its.map Ri.ct) ⟨i.key,_,_,i.u⟩=_
     rw [hik]
     exact HL.out _ _
set_option maxRecDepth 100000 in
set_option maxHeartbeats 1000000 in
theorem rs_touch_none (h:RsAt w0 W s) {k:ByteArray} (hno:∀ i∈s.its,i.key≠k) (now:Int) (draw:Nat):Calls Tryz.prog 33 #[pt s.blk,.string k,.int .i64 now,.int .u32 (draw:Int)] W fun r W' => (∃ v,r=.returned v)∧W=W':=by
 have hat:=rs_at_no h hno
 unfold pt at *
 go_enter Tryz.func33,Tryz.ntmps33
 go_wp2_with (first
  | (go_at_call 42;refine hat.mono ?_;rintro r w1 ⟨rfl,rfl⟩)
  | fail)
 go_ret
 exact ⟨⟨_,rfl⟩,rfl⟩
set_option maxRecDepth 100000 in
set_option maxHeartbeats 4000000 in
theorem rs_touch_no (h:RsAt w0 W s) {j:Nat} {i:Ri} (hj:s.its[j]?=some i) {k:ByteArray} (hk:i.key=k) (now:Int) (hn:now<i.u.a) (draw:Nat):Calls Tryz.prog 33 #[pt s.blk,.string k,.int .i64 now,.int .u32 (draw:Int)] W fun r W' => (∃ v,r=.returned v)∧Chg (fun _ => False) W W':=by
 obtain ⟨c0,_,_,l0,_⟩:=h.cells
 have hat:=rs_at_yes h hj hk
 obtain ⟨gb,gc,hv,hlt,k0,k1,k2,k3,_⟩:=h.list hj
 have hjl:(j:Int)<(s.its.length:Int):=by have:=(List.getElem?_eq_some_iff.1 hj).1;omega
 rw [hv] at c0
 have hj4:(s.its.length:Int)≤500:=by have:=h.n;omega
 have hto:=touch_rno i.u (h.u i (List.mem_of_getElem? hj)) now hn draw W
 generalize s.its.length=n at *
 unfold pt Us.cs tchV at *
 clear h hn
 go_enter Tryz.func33,Tryz.ntmps33
 go_wp2_with (first
  | (go_at_call 42;refine hat.mono ?_;rintro r w1 ⟨rfl,rfl⟩)
  | (go_at_call 60;refine hto.mono ?_;rintro r w2 ⟨rfl,hC2⟩)
  | fail)
 go_ret
 exact ⟨⟨_,rfl⟩,hC2.alloc _⟩
set_option maxRecDepth 100000 in
set_option maxHeartbeats 4000000 in
theorem rs_touch_yes (h:RsAt w0 W s) {j:Nat} {i:Ri} (hj:s.its[j]?=some i) {k:ByteArray} (hk:i.key=k) (now n:Int) (hn:cntU i.u now=some n) (hw:now≤9223372036854775807) (draw:Nat) (hd:draw<4294967296):Calls Tryz.prog 33 #[pt s.blk,.string k,.int .i64 now,.int .u32 (draw:Int)] W fun r W' => (∃ v,r=.returned v)∧Rx w0 s { s with its:=updK Ri.key s.its { i with u:=⟨nextU n draw,now⟩ } } W W':=by
 have hio:=h.u i (List.mem_of_getElem? hj)
 have hok:=(tchU_ok hio hw (tchU_eq (draw:=draw) hn)).1
 have hto:=touch_ryes i.u hio now n hn hw draw hd W
 obtain ⟨c0,_,_,l0,_⟩:=h.cells
 have hat:=rs_at_yes h hj hk
 obtain ⟨gb,gc,hv,hlt,k0,k1,k2,k3,kf⟩:=h.list hj
 have hjl:(j:Int)<(s.its.length:Int):=by have:=(List.getElem?_eq_some_iff.1 hj).1;omega
 have hc0:=c0
 rw [hv] at c0
 have hj4:(s.its.length:Int)≤500:=by have:=h.n;omega
 have hS:∀ W',Chg (fun _ => False) W W'→W'.cell? ⟨s.blk,0,none⟩=some (.slice (some ⟨gb,0,none⟩) s.its.length gc)∧s.blk<W'.heap.size∧gb<W'.heap.size∧W'.frozen? ⟨gb,j * 4+2,none⟩=false∧W'.frozen? ⟨gb,j * 4+2+1,none⟩=false∧W'.cell? ⟨gb,j * 4+2,none⟩=some (.int .i64 i.u.c)∧W'.cell? ⟨gb,j * 4+2+1,none⟩=some (.int .i64 i.u.a):=fun W' hc => by
  have h':=h.chg0 hc
  obtain ⟨e0,_,_,el,_⟩:=h'.cells
  obtain ⟨gb',gc',hv',hlt',_,_,q2,q3,kf'⟩:=h'.list hj
  rw [hv] at e0 hv'
  injection hv' with e1 _ e2
  injection e1 with e1
  injection e1 with e1
  subst e1
  exact ⟨e0,el,hlt',kf' _,kf' _,q2,q3⟩
 generalize hgn:nextU n draw=m at *
 have H:=Lib.hid h
 have HV:=Lib.hid hv
 generalize hsl:s.its.length=sl at *
 unfold tchV at hto
 dsimp only at hto
 unfold pt Us.cs at *
 clear h hn hc0 hv
 go_enter Tryz.func33,Tryz.ntmps33
 go_wp2_with (first
  | (go_at_call 42;refine hat.mono ?_;rintro r w1 ⟨rfl,rfl⟩)
  | (go_at_call 60;refine hto.mono ?_;rintro r w2 ⟨rfl,hC2⟩;have hC3:=(hC2.alloc (.cells #[.int .i64 m,.int .i64 now] 42)).drew;have u3:=Blk.new w2 42 #[.int .i64 m,.int .i64 now];have u30:=u3.cell 0;have u31:=u3.cell 1;simp only [List.getElem?_toArray,List.getElem?_cons_zero,List.getElem?_cons_succ] at u30 u31;obtain ⟨d0,dl,dg,df1,df2,dc1,dc2⟩:=hS _ hC3)
  | fail)
 go_region_with (fail)
 all_goals
  go_wp2_with fail
  go_ret
  refine ⟨⟨_,rfl⟩,?_⟩
  have hm:=List.mem_of_getElem? hj
  have hX1:=Rx.put (Rx.zero H.out hC2) hj (i':={ i with u:=⟨m,i.u.a⟩ }) rfl (q:=2) (u:=.int .i64 m) (by omega) rfl ((H.out.chg0 hC2).it i hm) ⟨hok.1,hio.2⟩ (fun g hg => .inl (.inr (.inr ⟨i,hm,hg⟩))) HV.out
  have hj':(updK Ri.key s.its { i with u:=⟨m,i.u.a⟩ })[j]?=some { i with u:=⟨m,i.u.a⟩ }:=by
   rw [← set_updK (x':={ i with u:=⟨m,i.u.a⟩ }) H.out.so hj rfl]
   exact List.getElem?_set_self (List.getElem?_eq_some_iff.1 hj).1
  have hX2:=Rx.put hX1 hj' (i':={ i with u:=⟨m,now⟩ }) rfl (q:=3) (u:=.int .i64 now) (by omega) rfl (hX1.at_.it { i with u:=⟨m,i.u.a⟩ } (List.mem_of_getElem? hj')) hok (fun g hg => .inl (.inr (.inr ⟨i,hm,hg⟩))) HV.out
  rw [← updK_updK (key:=Ri.key) s.its (x:={ i with u:=⟨m,i.u.a⟩ }) (y:={ i with u:=⟨m,now⟩ }) rfl]
  exact hX2.trans (Rx.zero hX2.at_ ((Chg.refl (fun _ => False) _).alloc _).drew)
end
end Go.Proofs.YtehpmbmdadkhbaaGreatDoor

namespace Go.Proofs.YtehpmbmdadkhbaaGreatDoor
open Go.RowKit Pal
attribute [local go_sem] Oper.semAt_some
theorem isFull_any {w0 W:World} {b A B:Nat} {cf:Cf} {l:List Ct} {F:Nat→Prop} (h:Spa w0 W b cf l F) {most:Int} (hA:Blk W A 30 #[pt b]) (hB:Blk W B 3 #[.int .i64 most]) :
  Calls Tryz.prog 45 #[pt A,pt B] W fun r W' => r=.returned (.bool (decide (most<(sizeC l:Int))))∧Sst w0 b cf l F W W':=by
 have hsz:=fun W1 F1 (h1:Spa w0 W1 b cf l F1) => spa_size h1
 have hBF:=h.no_blk hB (by decide)
 have hAF:=h.no_blk hA (by decide)
 have hgen:∀ W' F',Nf F F' W W'→W'.cell? ⟨A,0,none⟩=some (.pointer (some ⟨b,0,none⟩))∧W'.cell? ⟨B,0,none⟩=some (.int .i64 most):=fun W' F' hn => ⟨(hA.chg hn.chg hAF).cell 0,(hB.chg hn.chg hBF).cell 0⟩
 have a0:=hA.drew.cell 0
 have a1:=hA.drew.lt
 have hdr:Nf F F W W.drew:=Nf.zero (Chg.refl _ _).drew
 have hdS:=h.chg0 (Chg.refl _ _).drew
 simp only [List.getElem?_toArray,List.getElem?_cons_zero] at a0
 unfold pt at *
 clear hA
 go_enter Tryz.func45,Tryz.ntmps45
 go_wp2_with fail
 go_region_held3 (fun W' => W'.cell? ⟨A,0,none⟩=some (.pointer (some ⟨b,0,none⟩))∧W'.cell? ⟨B,0,none⟩=some (.int .i64 most)) (first | exact hgen _ _ hdr | exact hgen _ _ (hdr.trans hNf) | fail)
  (first
   | (go_at_call 23;refine (hsz _ _ hdS).mono ?_;rintro r w1 ⟨rfl,F1,hSp1,hNf⟩)
   | fail)
 all_goals
  go_wp2_with fail
  go_ret
  exact ⟨rfl,F1,hSp1,hdr.trans hNf⟩
theorem room_low (b:Nat) (most:Int) (hm:most≤0) (v2 v3:Value) (w:World):Calls Tryz.prog 21 #[pt b,.int .i64 most,v2,v3] w fun r w' => r=.returned (.tuple #[.slice none 0 0,.int .i64 0])∧Chg (fun _ => False) w w':=by
 unfold pt
 go_enter Tryz.func21,Tryz.ntmps21
 go_wp2_with fail
 go_step3
 go_wp2_with fail
 rw [Exit.noGoto_ret]
 go_ret2
 exact ⟨rfl,((Chg.refl _ w).alloc _).alloc _⟩
theorem roomC_stop {most now:Int} {l:List Ct} (n:Nat) (ds:List Nat) (h:¬ (most<(sizeC l:Int)∧l≠[])):roomC most now n l ds=([],if most<(sizeC l:Int) then 150 else 0,l):=by
 cases n with
 | zero => rfl
 | succ n => unfold roomC;rw [if_neg h]
theorem DrsF.sub {F F':Nat→Prop} {w:World} {v:Value} {ds:List Nat} (h:DrsF F w v ds) (hs:∀ g,F' g→F g):DrsF F' w v ds:=⟨h.d,fun hne b o n c e hF => h.n hne b o n c e (hs b hF)⟩
theorem DrsF.nf {M:Nat} {F F':Nat→Prop} {w w':World} {v:Value} {ds:List Nat} (h:DrsF (fun g => F g∨M≤g) w v ds) (hn:Nf F F' w w'):DrsF (fun g => F' g∨M≤g) w' v ds :=
 h.step (hn.chg.mono fun _ _ => .inl) fun g h => h.elim (fun h => (hn.foot g h).imp .inl id) fun h => .inl (.inr h)
theorem DrsF.more {M:Nat} {F:Nat→Prop} {w:World} {v:Value} {ds:List Nat} (h:DrsF F w v ds) (hM:w.heap.size≤M):DrsF (fun g => F g∨M≤g) w v ds :=
 ⟨h.d,fun hne b o n c e hF => hF.elim (h.n hne b o n c e) fun h2 => by subst e;have:=h.lt hne;omega⟩
set_option maxRecDepth 100000 in
set_option maxHeartbeats 4000000 in
theorem room_any {w0 W:World} {b:Nat} {cf:Cf} {l:List Ct} {F:Nat→Prop} (h:Spa w0 W b cf l F) (most:Int) (hm:0<most) (now:Int) (hw:now≤9223372036854775807) (vd:Value) (ds:List Nat) (hd:DrsF F W vd ds) :
  Calls Tryz.prog 21 #[pt b,.int .i64 most,.int .i64 now,vd] W fun r W' => (∃ v,r=.returned (.tuple #[v,.int .i64 (roomC most now l.length l ds).2.1])∧Strs W' W.heap.size v (roomC most now l.length l ds).1)∧Sst w0 b cf (roomC most now l.length l ds).2.2 F W W':=by
 obtain ⟨R,hR⟩:∃ R,roomC most now l.length l ds=R:=⟨_,rfl⟩
 rw [hR]
 have hfull:=fun W1 l1 F1 A B (h1:Spa w0 W1 b cf l1 F1) (hA:Blk W1 A 30 #[pt b]) (hB:Blk W1 B 3 #[.int .i64 most]) => isFull_any h1 hA hB
 have hlen:=fun W1 l1 F1 (h1:Spa w0 W1 b cf l1 F1) => spa_len h1
 have hch:=fun W1 l1 F1 (h1:Spa w0 W1 b cf l1 F1) hne vd ds (hd:DrsF F1 W1 vd ds) => choose_any h1 hne vd ds hd now hw
 have hdel:=fun W1 l1 F1 (h1:Spa w0 W1 b cf l1 F1) k (hk:k.size≤9223372036854775807) => spa_delete h1 k hk
 obtain ⟨j0,hj0,hy0,hy1,hy2⟩:=info_parts str_info
 have hm0:¬ most≤0:=by omega
 have hl5:=h.cok.2
 have hbA:=Blk.new W 30 #[pt b]
 have hbB:=Blk.new (W.alloc (.cells #[pt b] 30)) 3 #[.int .i64 most]
 have hC0:=((Chg.refl (fun _ => False) W).alloc (.cells #[pt b] 30)).alloc (.cells #[.int .i64 most] 3)
 replace hbA:=hbA.alloc (.cells #[.int .i64 most] 3)
 have h0:=h.chg0 hC0
 have hN0:=Nf.zero (F:=F) hC0
 have hd0:=(hd.more (Nat.le_refl _)).chg0 hC0
 have hW0:=h.chg.size
 have hM0:=hC0.size
 have eg:=enters_of Tryz.func45 (by kernel_rfl) rfl
 unfold pt at *
 clear h hd hC0
 rw [World.size_alloc] at hbB
 go_enter Tryz.func21,Tryz.ntmps21
 go_wp2_with fail
 go_step3
 generalize (W.alloc (.cells #[.pointer (some ⟨b,0,none⟩)] 30)).alloc (.cells #[.int .i64 most] 3)=W1 at *
 have k0:=hbA.cell 0
 have k0l:=hbA.lt
 have k1:=hbB.cell 0
 have k1l:=hbB.lt
 simp only [List.getElem?_toArray,List.getElem?_cons_zero] at k0 k1
 go_wp2_with fail
 go_step3
 go_wp2_with fail
 clear k0 k0l k1 k1l
 go_loopg [3,11,12] l.length (fun n vd vo ve Wr => ∃ (l1:List Ct) (F1:Nat→Prop) (ds1:List Nat) (out:List ByteArray),n=l1.length∧ve=.int .i64 0∧out.length+l1.length=l.length∧R=(out++(roomC most now l1.length l1 ds1).1,(roomC most now l1.length l1 ds1).2.1,(roomC most now l1.length l1 ds1).2.2)∧Strs Wr W.heap.size vo out∧Spa w0 Wr b cf l1 F1∧Nf F F1 W Wr∧DrsF (fun g => F1 g∨W.heap.size≤g) Wr vd ds1∧Blk Wr W.heap.size 30 #[.pointer (some ⟨b,0,none⟩)]∧Blk Wr (W.heap.size+1) 3 #[.int .i64 most]∧W.heap.size≤Wr.heap.size)
 case atStart => exact ⟨l,F,ds,[],rfl,rfl,by simp,hR.symm,Strs.nil _ _,h0,hN0,hd0,hbA,hbB,hM0⟩
 case round =>
  clear hR h0 hN0 hd0 hbA hbB hM0
  obtain ⟨l1,F1,ds1,out,rfl,rfl,hon,hRe,hv,hSp,hNf,hd,hA,hB,hM⟩:=hrel
  obtain ⟨pa,ca,rfl,hpa⟩:=hv.is
  have hMF:∀ {g:Nat},Value.ownBlock (.slice pa out.length ca)=some g→¬ F1 g:=fun hg => hSp.no_own hv.own (by decide) hg
  have hAF:=hSp.no_blk hA (by decide)
  have hBF:=hSp.no_blk hB (by decide)
  have ho5:out.length≤500:=by omega
  have HRE:=Lib.hid hRe
  have HON:=Lib.hid hon
  have cA0:∀ W',Chg F1 wr W'→W'.cell? ⟨W.heap.size,0,none⟩=some (.pointer (some ⟨b,0,none⟩))∧W.heap.size<W'.heap.size:=fun W' hc => ⟨(hA.chg hc hAF).cell 0,(hA.chg hc hAF).lt⟩
  have hf1:=hfull _ _ _ _ _ hSp hA hB
  clear hRe hon
  by_cases hfl:most<(sizeC l1:Int)
  ·by_cases hne:l1=[]
   ·subst hne
    rw [decide_eq_true hfl] at hf1
    have hst:=roomC_stop (most:=most) (now:=now) 0 ds1 (fun h:most<(sizeC []:Int)∧([]:List Ct)≠[] => h.2 rfl)
    rw [if_pos hfl] at hst
    have hz:R=(out,150,[]):=by rw [HRE.out];simp only [List.length_nil];rw [hst];simp
    have HF:=Lib.hid hfl
    clear hst hfl
    go_wp2_with (first
     | (go_at_call 45;refine hf1.mono ?_;rintro r w2 ⟨rfl,F2,hSp2,hNf2⟩;have hf2:=hfull _ _ _ _ _ hSp2 (hA.chg hNf2.chg hAF) (hB.chg hNf2.chg hBF);rw [decide_eq_true HF.out] at hf2;have cA:=(cA0 _ hNf2.chg).1)
     | (go_at_call 12;refine (hlen _ _ _ hSp2).mono ?_;rintro r w3 ⟨rfl,rfl⟩;simp only [List.length_nil])
     | (go_at_call 45;refine hf2.mono ?_;rintro r w4 ⟨rfl,F3,hSp3,hNf3⟩)
     | fail)
    rw [Exit.noGoto_ret]
    go_ret2
    have hx:=hNf2.trans hNf3
    rw [hz]
    exact ⟨⟨_,rfl,Strs.chg hv hx.chg fun g hg => hMF hg⟩,F3,hSp3,hNf.trans hx⟩
   ·have hpos:0<l1.length:=List.length_pos_iff.2 hne
    have hpi:0<(l1.length:Int):=by omega
    obtain ⟨hok,hl15⟩:=hSp.cok
    rw [decide_eq_true hfl] at hf1
    obtain ⟨n1,hn1⟩:∃ n1,l1.length=n1+1:=⟨l1.length - 1,by omega⟩
    have hrm:roomC most now l1.length l1 ds1=if (chooseC l1 now (ds1.take 5)).2=0 then
      ((chooseC l1 now (ds1.take 5)).1 :: (roomC most now n1 (cutK Ct.key l1 (chooseC l1 now (ds1.take 5)).1) (ds1.drop 5)).1,(roomC most now n1 (cutK Ct.key l1 (chooseC l1 now (ds1.take 5)).1) (ds1.drop 5)).2.1,(roomC most now n1 (cutK Ct.key l1 (chooseC l1 now (ds1.take 5)).1) (ds1.drop 5)).2.2)
      else ([],(chooseC l1 now (ds1.take 5)).2,l1):=by rw [hn1];conv => lhs;unfold roomC;rw [if_pos ⟨hfl,hne⟩]
    have hcm:=fun h => (chooseC_mem hok.u (now:=now) (ds:=ds1.take 5) h).2
    have hnx:=fun W F' (h:DrsF F' W u3 ds1) => nextF_any u3 ds1 F' W h
    have hc1:=fun W F' (h:Spa w0 W b cf l1 F') vd (hd:DrsF F' W vd (ds1.take 5)) => hch W l1 F' h hne vd _ hd
    obtain ⟨key,hkey⟩:∃ key,(chooseC l1 now (ds1.take 5)).1=key:=⟨_,rfl⟩
    obtain ⟨e,he⟩:∃ e,(chooseC l1 now (ds1.take 5)).2=e:=⟨_,rfl⟩
    rw [hkey,he] at hrm hcm
    simp only [hkey,he] at hc1
    generalize htk:ds1.take 5=dt at *
    generalize hdr:ds1.drop 5=dr at *
    have hgenA:∀ W' F',Nf F1 F' wr W'→W'.cell? ⟨W.heap.size,0,none⟩=some (.pointer (some ⟨b,0,none⟩))∧W.heap.size<W'.heap.size:=fun W' F' hn => cA0 _ hn.chg
    have HN1:=Lib.hid hn1
    have HFL:=Lib.hid hfl
    have HOK:=Lib.hid hok
    clear hfl hn1 hkey he htk hdr hok hl5 hch
    by_cases he0:e=0
    ·subst he0
     rw [if_pos rfl] at hrm
     have hkm:=hcm rfl
     obtain ⟨c,hcm1,hck,hcf,_⟩:=useC_some HOK.out hkm
     have hks:key.size≤9223372036854775807:=by
      have:=HOK.out.k c hcm1
      rw [hck] at this
      omega
     have hd1:=fun W F' (h:Spa w0 W b cf l1 F') => hdel W l1 F' h key hks
     have hcl:(cutK Ct.key l1 key).length=n1:=by
      rw [cutK_len HOK.out.so,hcf,HN1.out]
      simp
     have HRM:=Lib.hid hrm
     have HCL:=Lib.hid hcl
     have hA1:out.length+1≤maxLen:=by unfold maxLen;omega
     have hA2:(out.length+1) * 16≤140737488355328:=by omega
     clear hrm hcm hkm hcm1 hck hcf hcl hdel
     go_wp2_with (first
      | (go_at_call 45;refine hf1.mono ?_;rintro r w2 ⟨rfl,F2,hSp2,hNf2⟩;obtain ⟨cA,cAl⟩:=hgenA _ _ hNf2)
      | (go_at_call 12;refine (hlen _ _ _ hSp2).mono ?_;rintro r w3 ⟨rfl,rfl⟩)
      | (go_at_call 36;refine (hnx _ _ (hd.nf hNf2)).mono ?_;rintro r w4 ⟨⟨v1,v2,rfl,hv1,hv2⟩,hC4⟩;have hSp4:=hSp2.chg0 hC4;have hNf4:=hNf2.trans (Nf.zero hC4);obtain ⟨cA4,cAl4⟩:=hgenA _ _ hNf4;obtain ⟨p1,c1,rfl,_⟩:=hv1.d.is;obtain ⟨p2,c2,rfl,_⟩:=hv2.d.is)
      | (go_at_call 11;refine (hc1 _ _ hSp4 _ (hv1.sub fun g h => .inl h)).mono ?_;rintro r w5 ⟨rfl,F5,hSp5,hNf5⟩;have hNf55:=hNf4.trans hNf5;obtain ⟨cA5,cAl5⟩:=hgenA _ _ hNf55)
      | (go_at_call 25;refine (hd1 _ _ hSp5).mono ?_;rintro r w6 ⟨rfl,F6,hSp6,hNf6⟩;have hNf66:=hNf55.trans hNf6;have hC7:=(Chg.refl (fun _ => False) w6).alloc (.cells #[.string key] 9);have hv60:=Strs.chg hv hNf66.chg fun g hg => hMF hg;have hv6:=Strs.chg hv60 hC7 fun _ _ => id;have hM6:=Nat.le_trans hM (Nat.le_trans hNf66.chg.size hC7.size))
      | (at_builtin;refine wpList_append_any _ rfl (.tmp 48) (.tmp 50) 38 rfl W.heap.size 9 j0 _ 1 16 Tryz.underlying38 hj0 hy0 hy1 hy2 rfl (by omega) _ _ _ rfl (Strs.own hv6) (w6.alloc (.cells #[.string key] 9)).heap.size _ 1 1 [.string key] rfl (reads_blk (cs:=[.string key]) (Blk.new w6 9 #[.string key]) rfl) (strs_one [key]) hA1 hA2 hM6 ?_;intro v8 w8 hown8 hg8 _;obtain ⟨g8,c8,rfl⟩:=ownsRow_succ hown8)
      | fail)
     have hC8:Chg (fun g => Value.ownBlock (.slice pa out.length ca)=some g) w6 w8:=(hC7.mono fun _ _ h => h.elim).trans (Chg.of_grown (S:=fun g => Value.ownBlock (.slice pa out.length ca)=some g) hg8 fun _ h => h)
     have hMg:∀ g,Value.ownBlock (.slice pa out.length ca)=some g→W.heap.size≤g:=fun g hg => (World.ownsRow.lt hv60.own g hg).1
     go_roundg (cutK Ct.key l1 key).length
     case measure => rw [HCL.out,HN1.out];omega
     case rel =>
      refine ⟨cutK Ct.key l1 key,F6,dr,out++[key],rfl,rfl,?_,?_,Strs.mk hown8 (by rw [List.length_append];rfl) (by rw [List.map_append];rfl),hSp6.keep hC8 (fun g hg h => hSp6.no_own hv60.own (by decide) h hg) (fun g h => Nat.le_trans hW0 (hMg g h)),⟨(hNf.trans hNf66).chg.trans' hC8 fun g h1 h2 => absurd (hMg g h2) (by omega),(hNf.trans hNf66).foot⟩,(((hv2.nf hNf5).nf hNf6).step (hC8.mono fun g _ h => .inr (hMg g h)) fun g h => .inl h),?_,?_,Nat.le_trans hM6 (app_chg (Strs.own hv6) hg8).size⟩
      ·rw [List.length_append,HCL.out,← HON.out,HN1.out,List.length_singleton];omega
      ·rw [HRE.out,HRM.out,HCL.out];simp only [List.append_assoc,List.singleton_append]
      ·have hb:=hA.chg hNf66.chg hAF
       exact hb.chg hC8 (hb.not_own hv60.own (by decide))
      ·have hb:=hB.chg hNf66.chg hBF
       exact hb.chg hC8 (hb.not_own hv60.own (by decide))
    ·rw [if_neg he0] at hrm
     have hz:R=(out,e,l1):=by rw [HRE.out,hrm];simp
     clear hrm hcm hdel
     go_wp2_with (first
      | (go_at_call 45;refine hf1.mono ?_;rintro r w2 ⟨rfl,F2,hSp2,hNf2⟩;obtain ⟨cA,cAl⟩:=hgenA _ _ hNf2)
      | (go_at_call 12;refine (hlen _ _ _ hSp2).mono ?_;rintro r w3 ⟨rfl,rfl⟩)
      | (go_at_call 36;refine (hnx _ _ (hd.nf hNf2)).mono ?_;rintro r w4 ⟨⟨v1,v2,rfl,hv1,hv2⟩,hC4⟩;have hSp4:=hSp2.chg0 hC4;have hNf4:=hNf2.trans (Nf.zero hC4);obtain ⟨cA4,cAl4⟩:=hgenA _ _ hNf4;obtain ⟨p1,c1,rfl,_⟩:=hv1.d.is;obtain ⟨p2,c2,rfl,_⟩:=hv2.d.is)
      | (go_at_call 11;refine (hc1 _ _ hSp4 _ (hv1.sub fun g h => .inl h)).mono ?_;rintro r w5 ⟨rfl,F5,hSp5,hNf5⟩;have hNf55:=hNf4.trans hNf5)
      | fail)
     rw [Exit.noGoto_ret]
     go_ret2
     rw [hz]
     exact ⟨⟨_,rfl,Strs.chg hv hNf55.chg fun g hg => hMF hg⟩,F5,hSp5,hNf.trans hNf55⟩
  ·rw [decide_eq_false hfl] at hf1
   have hst:=roomC_stop (most:=most) (now:=now) l1.length ds1 (fun h => hfl h.1)
   rw [if_neg hfl] at hst
   have hz:R=(out,0,l1):=by rw [HRE.out,hst];simp
   have HF:=Lib.hid hfl
   clear hst hfl
   go_wp2_with (first
    | (go_at_call 45;refine hf1.mono ?_;rintro r w2 ⟨rfl,F2,hSp2,hNf2⟩;have hf2:=hfull _ _ _ _ _ hSp2 (hA.chg hNf2.chg hAF) (hB.chg hNf2.chg hBF);rw [decide_eq_false HF.out] at hf2)
    | (go_at_call 45;refine hf2.mono ?_;rintro r w3 ⟨rfl,F3,hSp3,hNf3⟩)
    | fail)
   rw [Exit.noGoto_ret]
   go_ret2
   have hx:=hNf2.trans hNf3
   rw [hz]
   exact ⟨⟨_,rfl,Strs.chg hv hx.chg fun g hg => hMF hg⟩,F3,hSp3,hNf.trans hx⟩
end Go.Proofs.YtehpmbmdadkhbaaGreatDoor

namespace Go.Proofs.YtehpmbmdadkhbaaGreatDoor
open Go.RowKit Pal Go.ChangeShapes Go.WideShapes Go.Deep
structure K3 where
 N:ByteArray
 M:Int
 T:Int
structure K3.Ok (x:K3):Prop where
 n:x.N.size≤maxLen
 m:(Lit.int .i64 x.M).wf=true
 t:(Lit.int .i64 x.T).wf=true
structure Cells3 (w:World) (b o:Nat) (x:K3):Prop where
 c0:w.cell? ⟨b,o,none⟩=some (.string x.N)
 c1:w.cell? ⟨b,o+1,none⟩=some (.int .i64 x.M)
 c2:w.cell? ⟨b,o+2,none⟩=some (.int .i64 x.T)
structure KeysAt (w:World) (v:Value) (n:Nat) (g:Nat→K3):Prop where
 is:∃ p cap,v=.slice p n cap
 le:n≤maxLen
 at_:∀ i,i<n→∃ b o cap,v=.slice (some ⟨b,o,none⟩) n cap∧b<w.heap.size∧Cells3 w b (o+i * 3) (g i)∧(g i).Ok
theorem KeysAt.chg {w w':World} {v:Value} {n:Nat} {g:Nat→K3} (h:KeysAt w v n g) (hc:Chg (fun _ => False) w w'):KeysAt w' v n g where
 is:=h.is
 le:=h.le
 at_:=fun i hi => by
  obtain ⟨b,o,cap,h1,h2,h3,h4⟩:=h.at_ i hi
  exact ⟨b,o,cap,h1,Nat.lt_of_lt_of_le h2 hc.size,⟨by rw [Chg.cell hc h2 id];exact h3.c0,by rw [Chg.cell hc h2 id];exact h3.c1,by rw [Chg.cell hc h2 id];exact h3.c2⟩,h4⟩
theorem pick_lt3 {n:Nat} {p:Nat→K3→Prop} (h:∀ i,i<n→∃ x,p i x):∃ f:Nat→K3,∀ i,i<n→p i (f i):=by
 classical
 refine ⟨fun i => if hi:i<n then Classical.choose (h i hi) else ⟨⟨#[]⟩,0,0⟩,fun i hi => ?_⟩
 simp only [dif_pos hi]
 exact Classical.choose_spec (h i hi)
set_option maxRecDepth 100000 in
theorem open_keys {H:Type} {enc:TypeId × Value→H} {w:World} {v:Value} {d:DataW H} {p:List MemPlace}
  (hv:Value.okWide Tryz.prog w .any 0 27 v) (h:DataW.Trod enc Tryz.prog w 0 (fun _ => true) true 27 v d p) :
  ∃ n g,KeysAt w v n g:=by
 obtain ⟨a0,len0,cap0,rfl⟩:=okWide_slice Tryz.underlying27 hv
 obtain ⟨fuel,hf'⟩:=h
 rcases open_slice_fields Tryz.underlying27 Tryz.underlying56 (by kernel_rfl) (by kernel_rfl) hf' with ⟨hc,hx⟩ | ⟨a,len,cap,m,D,Pl,hc,_,hl,hm,hmm,hx,hall⟩
 ·simp only [Value.cells,List.cons.injEq,and_true] at hc
  exact ⟨0,fun _ => ⟨⟨#[]⟩,0,0⟩,⟨_,_,hc⟩,Nat.zero_le _,fun i hi => absurd hi (Nat.not_lt_zero _)⟩
 ·simp only [Value.cells,List.cons.injEq,and_true] at hc
  simp only [if_true] at hmm
  subst hmm
  rcases Nat.eq_zero_or_pos len with h0 | hpos
  ·subst h0
   exact ⟨0,fun _ => ⟨⟨#[]⟩,0,0⟩,⟨_,_,hc⟩,Nat.zero_le _,fun i hi => absurd hi (Nat.not_lt_zero _)⟩
  have hsp:a.spot=none:=by
   obtain ⟨ys,n,_,_,_,hj⟩:=hall 0 (by omega)
   obtain ⟨v0,y0,c0,_,t0⟩:=hj 0 _ rfl
   have:=World.cell?_spot c0
   rw [Nat.zero_mul] at this
   exact this
  obtain ⟨b,o,sp⟩:=a
  have hsp:sp=none:=hsp
  subst hsp
  have key:∀ i,i<len→∃ x:K3,b<w.heap.size∧Cells3 w b (o+i * 3) x∧x.Ok:=fun i hi => by
   obtain ⟨ys,n,_,_,_,hj⟩:=hall i (by omega)
   obtain ⟨v0,y0,c0,_,t0⟩:=hj 0 _ rfl
   obtain ⟨v1,y1,c1,_,t1⟩:=hj 1 _ rfl
   obtain ⟨v2,y2,c2,_,t2⟩:=hj 2 _ rfl
   obtain ⟨k0,rfl,w0⟩:=trod_s Tryz.underlying9 t0
   obtain ⟨k1,rfl,w1⟩:=trod_i Tryz.underlying3 t1
   obtain ⟨k2,rfl,w2⟩:=trod_i Tryz.underlying3 t2
   rw [addr_add] at c0 c1 c2
   exact ⟨⟨k0,k1,k2⟩,block_lt' c0,⟨c0,c1,c2⟩,⟨w0,w1,w2⟩⟩
  obtain ⟨g,hg⟩:=pick_lt3 key
  refine ⟨len,g,⟨_,_,hc⟩,Nat.le_trans hl hm,fun i hi => ?_⟩
  obtain ⟨h1,h2⟩:=hg i hi
  exact ⟨b,o,m,hc,h1,h2⟩
end Go.Proofs.YtehpmbmdadkhbaaGreatDoor

namespace Go.Proofs.YtehpmbmdadkhbaaGreatDoor
open Go.RowKit Pal
attribute [local go_sem] Oper.semAt_some
section
variable {w0 W W':World} {b:Nat} {cf:Cf} {l:List Ct} {F:Nat→Prop}
theorem rsa_put (h:Rsa w0 W b cf l F) (k:ByteArray) (hk:k.size≤64) (h5:l.length<500) (B:Nat) (v:Value) (xs:List En) (hv:Ents W B v xs) (hvn:∀ g,v.ownBlock=some g→¬ F g) (hn:xs.length≤1000) (hx:∀ e∈xs,-9223372036854775808≤e.s∧e.s≤9223372036854775807) :
  Calls Tryz.prog 31 #[pt b,.string k,v,.int .i64 0] W fun r W' => r=.returned (.int .i64 0)∧Rst w0 b cf (putC (clampL 200 cf.E) (clampL 64 cf.M) l k xs 0) F W W':=by
 obtain ⟨⟨s,hs,rfl,⟨e1,e2,e3,e4⟩,rfl,rfl⟩,hw⟩:=h
 rw [List.length_map] at h5
 refine (rs_put hs hw k hk h5 B v xs hv hvn hn hx).mono ?_
 rintro r W' ⟨rfl,s',hx1,hx2⟩
 have h1:=Rst.mk hw hs hx1
 rw [hx2,e1,e2,e3,e4] at h1
 exact ⟨rfl,h1⟩
theorem rsa_touch (h:Rsa w0 W b cf l F) (k:ByteArray) (now:Int) (hw9:now≤9223372036854775807) (draw:Nat) (hd:draw<4294967296) :
  Calls Tryz.prog 33 #[pt b,.string k,.int .i64 now,.int .u32 (draw:Int)] W fun r W' => (∃ v,r=.returned v)∧Rst w0 b cf (tchC l k now draw) F W W':=by
 obtain ⟨⟨s,hs,rfl,⟨e1,e2,e3,e4⟩,rfl,rfl⟩,hw⟩:=h
 have hz:∀ W',Chg (fun _ => False) W W'→Rst w0 s.blk cf (s.its.map Ri.ct) s.foot W W':=fun W' hc => by
  have h1:=Rst.mk hw hs (Rx.zero hs hc)
  rw [e1,e2,e3,e4] at h1
  exact h1
 unfold tchC
 rw [find_rct]
 cases hf:findK Ri.key s.its k with
 | none =>
  refine (rs_touch_none hs (findK_none.1 hf) now draw).mono ?_
  rintro r W' ⟨hr,rfl⟩
  exact ⟨hr,hz _ (Chg.refl _ _)⟩
 | some i =>
  have hi:=(findK_some hs.so).1 hf
  obtain ⟨j,hj⟩:=List.getElem?_of_mem hi.1
  show Calls _ _ _ _ fun r W' => (∃ v,r=.returned v)∧Rst w0 s.blk cf (match tchU i.u now draw with | some u => updK Ct.key (s.its.map Ri.ct) { i.ct with u:=u } | none => s.its.map Ri.ct) s.foot W W'
  cases hc:cntU i.u now with
  | none =>
   have e:tchU i.u now draw=none:=by unfold tchU;rw [hc];rfl
   rw [e]
   refine (rs_touch_no hs hj hi.2 now (cntU_none.1 hc) draw).mono ?_
   rintro r W' ⟨hr,hC⟩
   exact ⟨hr,hz _ hC⟩
  | some n =>
   rw [tchU_eq hc]
   refine (rs_touch_yes hs hj hi.2 now n hc hw9 draw hd).mono ?_
   rintro r W' ⟨hr,hx⟩
   have h1:=Rst.mk hw hs hx
   rw [e1,e2,e3,e4] at h1
   refine ⟨hr,?_⟩
   have e:(updK Ri.key s.its { i with u:=⟨nextU n draw,now⟩ }).map Ri.ct=updK Ct.key (s.its.map Ri.ct) { i.ct with u:=⟨nextU n draw,now⟩ }:=upd_rct _ _
   show Rst w0 s.blk cf (updK Ct.key (s.its.map Ri.ct) { i.ct with u:=⟨nextU n draw,now⟩ }) s.foot W W'
   rw [← e]
   exact h1
theorem rsa_new (hw:Chg (fun _ => False) w0 W) (cf:Cf):Rsa w0 (W.alloc (.cells #[.slice none 0 0,.int .i64 cf.E,.int .i64 cf.M,.int .u32 (cf.seed:Int),.int .i64 cf.mx] 63)) W.heap.size cf [] (fun g => g=W.heap.size):=by
 refine ⟨⟨⟨W.heap.size,cf.E,cf.M,cf.seed,cf.mx,.slice none 0 0,[]⟩,⟨Blk.new W _ _,OwnL.nil _ _,hw.size,nofun,nofun,nofun,List.Pairwise.nil,Nat.zero_le _⟩,rfl,⟨rfl,rfl,rfl,rfl⟩,rfl,?_⟩,hw.alloc _⟩
 funext g
 refine propext ⟨fun h => ?_,fun h => .inl h⟩
 rcases h with h | h | ⟨i,hi,_⟩
 ·exact h
 ·cases h
 ·cases hi
end
structure MR (w0 WW:World) (sb rb:Nat) (cf:Cf) (ls lr:List Ct) (W:World):Prop where
 s:∃ F,Spa w0 W sb cf ls F∧∀ g,F g→WW.heap.size≤g
 r:∃ G,Rsa w0 W rb cf lr G∧∀ g,G g→WW.heap.size≤g
 c:Chg (fun _ => False) WW W
section
variable {w0 WW W W':World} {sb rb:Nat} {cf:Cf} {ls lr:List Ct}
theorem MR.chg0 (h:MR w0 WW sb rb cf ls lr W) (hc:Chg (fun _ => False) W W'):MR w0 WW sb rb cf ls lr W':=by
 obtain ⟨⟨F,hF,f1⟩,⟨G,hG,g1⟩,hw⟩:=h
 exact ⟨⟨F,hF.chg0 hc,f1⟩,⟨G,hG.chg0 hc,g1⟩,hw.trans hc⟩
theorem MR.sstep (h:MR w0 WW sb rb cf ls lr W) {F:Nat→Prop} (hF:Spa w0 W sb cf ls F) (f1:∀ g,F g→WW.heap.size≤g) {ls':List Ct} (hs:Sst w0 sb cf ls' F W W'):MR w0 WW sb rb cf ls' lr W':=by
 obtain ⟨_,⟨G,hG,g1⟩,hw⟩:=h
 obtain ⟨F',hF',hn⟩:=hs
 refine ⟨⟨F',hF',fun g hg => (hn.foot g hg).elim (f1 g) fun h2 => Nat.le_trans hw.size h2⟩,⟨G,hG.keep hn.chg (fun g hg hf => hG.apart hF g hg hf) fun g hg => (hF.lt hg).1,g1⟩,hw.trans' hn.chg fun g hg hf => by have:=f1 g hf;omega⟩
theorem MR.rstep (h:MR w0 WW sb rb cf ls lr W) {G:Nat→Prop} (hG:Rsa w0 W rb cf lr G) (g1:∀ g,G g→WW.heap.size≤g) {lr':List Ct} (hs:Rst w0 rb cf lr' G W W'):MR w0 WW sb rb cf ls lr' W':=by
 obtain ⟨⟨F,hF,f1⟩,_,hw⟩:=h
 obtain ⟨G',hG',hn⟩:=hs
 refine ⟨⟨F,hF.keep hn.chg (fun g hg hf => hG.apart hF g hf hg) fun g hg => (hG.lt hg).1,f1⟩,⟨G',hG',fun g hg => (hn.foot g hg).elim (g1 g) fun h2 => Nat.le_trans hw.size h2⟩,hw.trans' hn.chg fun g hg hf => by have:=g1 g hf;omega⟩
end
end Go.Proofs.YtehpmbmdadkhbaaGreatDoor

namespace Go.Proofs.YtehpmbmdadkhbaaGreatDoor
open Go.RowKit Pal
attribute [local go_sem] Oper.semAt_some
theorem modU8 (x:Int):∃ q:Nat,(IntKind.u64.wrap x).tmod 8=(q:Int)∧q<8∧(x.tmod 8=x.tmod 8):=by
 have e:IntKind.u64.wrap x=x % 18446744073709551616:=by simp [IntKind.wrap,IntKind.bits,IntKind.signed]
 have h:0≤IntKind.u64.wrap x:=by rw [e];omega
 rw [Int.tmod_eq_emod_of_nonneg h]
 exact ⟨(IntKind.u64.wrap x % 8).toNat,by omega,by omega,rfl⟩
noncomputable def kkK (x:K3):Kk:=⟨x.N.extract 0 (min x.N.size 20),((IntKind.u64.wrap x.M).tmod 8).toNat,((IntKind.u64.wrap x.T).tmod 10).toNat⟩
theorem wrap_pos (x:Int):0≤IntKind.u64.wrap x:=by
 have e:IntKind.u64.wrap x=x % 18446744073709551616:=by simp [IntKind.wrap,IntKind.bits,IntKind.signed]
 rw [e];omega
theorem kkK_m (x:K3):(IntKind.u64.wrap x.M).tmod 8=((kkK x).M:Int)∧(kkK x).M≤7:=by
 have h:=wrap_pos x.M
 have e:(kkK x).M=((IntKind.u64.wrap x.M).tmod 8).toNat:=rfl
 rw [e,Int.tmod_eq_emod_of_nonneg h]
 omega
theorem kkK_t (x:K3):(IntKind.u64.wrap x.T).tmod 10=((kkK x).T:Int)∧(kkK x).T≤9:=by
 have h:=wrap_pos x.T
 have e:(kkK x).T=((IntKind.u64.wrap x.T).tmod 10).toNat:=rfl
 rw [e,Int.tmod_eq_emod_of_nonneg h]
 omega
theorem kkK_n (x:K3):(kkK x).N.size≤20:=by
 show (x.N.extract 0 (min x.N.size 20)).size≤20
 rw [ByteArray.size_extract]
 omega
noncomputable def ksK (g:Nat→K3) (n:Nat):List Kk:=(List.range n).map fun i => kkK (g i)
theorem ksK_snoc (g:Nat→K3) (n:Nat):ksK g (n+1)=ksK g n++[kkK (g n)]:=by unfold ksK;rw [List.range_succ,List.map_append];rfl
theorem entsK_len (r:Nat):(entsK r).length=r:=by unfold entsK;simp
theorem entsK_snoc (r:Nat):entsK (r+1)=entsK r++[⟨⟨#[UInt8.ofNat (97+r)]⟩,(r:Int)⟩]:=by unfold entsK;rw [List.range_succ,List.map_append];rfl
theorem madeK_len (E M:Nat) (ks:List Kk):(madeK E M ks).length≤ks.length:=by
 unfold madeK
 suffices h:∀ (ks:List Kk) (l:List Ct),(ks.foldl (oneK E M) l).length≤l.length+ks.length by simpa using h ks []
 intro ks
 induction ks with
 | nil => intro l;simp
 | cons k ks ih => intro l;have h1:=ih (oneK E M l k);have h2:=oneK_len (E:=E) (M:=M) (l:=l) (k:=k);simp only [List.foldl_cons,List.length_cons];omega
theorem entsK_m {r:Nat}:∀ e∈entsK r,e.m.size≤9223372036854775807:=by
 intro e he
 obtain ⟨j,hj,rfl⟩:=List.mem_map.1 he
 exact (by decide:(1:Nat)≤9223372036854775807)
theorem conv1 (wX:World) (a:Nat) (ha:a≤7):(convert 66 9 (.slice (some ⟨wX.heap.size,0,none⟩) 1 1)).run Tryz.prog (wX.alloc (.cells #[.int .u8 (97+(a:Int))] 5))=.ok (.string ⟨#[UInt8.ofNat (97+a)]⟩) (wX.alloc (.cells #[.int .u8 (97+(a:Int))] 5)):=by
 have hb:=Blk.new wX 5 #[.int .u8 (97+(a:Int))]
 refine Go.run_convert_bytes_back (P:=Tryz.prog) (wX.alloc (.cells #[.int .u8 (97+(a:Int))] 5)) 66 9 5 ⟨wX.heap.size,0,none⟩ 1 [UInt8.ofNat (97+a)] Tryz.underlying66 Tryz.underlying5 Tryz.underlying9 (fun j hj => ?_)
 have hj:j<1:=hj
 rw [addr_add',Nat.zero_add,hb.cell]
 match j,hj with
 | 0,_ =>
  show some (Value.int .u8 (97+(a:Int)))=some (.int .u8 ((UInt8.ofNat (97+a)).toNat:Int))
  rw [UInt8.toNat_ofNat',Nat.mod_eq_of_lt (by omega)]
  congr 2
section
variable {w0 W W':World} {sb rb:Nat} {cf:Cf} {ls lr:List Ct} {F G:Nat→Prop}
theorem Sst.keepR (hs:Sst w0 sb cf ls F W W') {l0:List Ct} {sb0:Nat} {cf0:Cf} (hF:Spa w0 W sb0 cf0 l0 F) {cf1:Cf} (hG:Rsa w0 W rb cf1 lr G):Rsa w0 W' rb cf1 lr G:=by
 obtain ⟨F',_,hn⟩:=hs
 exact hG.keep hn.chg (fun g hg hf => hG.apart hF g hg hf) fun g hg => (hF.lt hg).1
set_option maxRecDepth 100000 in
set_option maxHeartbeats 4000000 in
theorem made_any (hw:Chg (fun _ => False) w0 W) (cf:Cf) (hseed:cf.seed<4294967296) {v:Value} {n:Nat} {g:Nat→K3} (hk:KeysAt W v n g) :
  Calls Tryz.prog 10 #[.agg cf.cs,v] W fun r W' => ∃ sb rb,r=.returned (.tuple #[pt sb,pt rb])∧MR w0 W sb rb cf (madeK (clampL 200 cf.E) (clampL 64 cf.M) (ksK g (min n 60))) (madeK (clampL 200 cf.E) (clampL 64 cf.M) (ksK g (min n 60))) W':=by
 obtain ⟨i0,hi0,hz0,hz1,hz2⟩:=info_parts ent_info
 obtain ⟨p,cap,rfl⟩:=hk.is
 have hn:=hk.le
 have hn2:(n:Int)≤9223372036854775807:=by unfold maxLen at hn;omega
 have x0:=Blk.new W 26 cf.cs
 have hC0:=(Chg.refl (fun _ => False) W).alloc (.cells cf.cs 26)
 have hsn:=spa_new (hw.trans hC0) cf hseed
 have hrn:=fun W1 (hc:Chg (fun _ => False) w0 W1) => rsa_new hc cf
 have hcl:∀ j,j<n→∃ kb ko,p=some ⟨kb,ko,none⟩∧∀ W',Chg (fun _ => False) W W'→kb<W'.heap.size∧W'.cell? ⟨kb,ko+j * 3,none⟩=some (.string (g j).N)∧W'.cell? ⟨kb,ko+j * 3+1,none⟩=some (.int .i64 (g j).M)∧W'.cell? ⟨kb,ko+j * 3+2,none⟩=some (.int .i64 (g j).T)∧(g j).N.size≤9223372036854775807:=fun j hj => by
  obtain ⟨kb,ko,kc,ke,_⟩:=hk.at_ j hj
  injection ke with e1 _ e2
  refine ⟨kb,ko,e1,fun W' hc => ?_⟩
  obtain ⟨kb',ko',kc',ke',hl',hc',hok⟩:=(hk.chg hc).at_ j hj
  injection ke' with e1' _ _
  rw [e1] at e1'
  injection e1' with e1'
  injection e1' with e3 e4
  subst e3 e4
  have h9:=hok.n
  unfold maxLen at h9
  exact ⟨hl',hc'.c0,hc'.c1,hc'.c2,h9⟩
 clear hk
 obtain ⟨EE,hEE⟩:∃ EE,clampL 200 cf.E=EE:=⟨_,rfl⟩
 obtain ⟨MM,hMM⟩:∃ MM,clampL 64 cf.M=MM:=⟨_,rfl⟩
 rw [hEE,hMM]
 unfold Cf.cs pt at *
 go_enter Tryz.func10,Tryz.ntmps10
 go_wp2_with (first
  | (go_at_call 29;refine hsn.mono ?_;rintro r w2 ⟨sb,rfl,hS2⟩;have hC2:Chg (fun _ => False) (W.alloc (.cells #[.int .i64 cf.E,.int .i64 cf.M,.int .u32 (cf.seed:Int),.int .i64 cf.mx] 26)) w2:=(by obtain ⟨F',_,hn'⟩:=hS2;exact hn'.chg);have x2:=x0.chg hC2 id;have y0:=x2.cell 0;have y1:=x2.cell 1;have y2:=x2.cell 2;have y3:=x2.cell 3;have yl:=x2.lt;simp only [List.getElem?_toArray,List.getElem?_cons_zero,List.getElem?_cons_succ] at y0 y1 y2 y3)
  | fail)
 have hM0:MR w0 W sb w2.heap.size cf [] [] (w2.alloc (.cells #[.slice none 0 0,.int .i64 cf.E,.int .i64 cf.M,.int .u32 (cf.seed:Int),.int .i64 cf.mx] 63)):=by
  have hW2:=hC0.trans hC2
  obtain ⟨F',hF',hn'⟩:=hS2
  have hcA:=(Chg.refl (fun _ => False) w2).alloc (.cells #[.slice none 0 0,.int .i64 cf.E,.int .i64 cf.M,.int .u32 (cf.seed:Int),.int .i64 cf.mx] 63)
  exact ⟨⟨F',hF'.chg0 hcA,fun g hg => (hn'.foot g hg).elim (fun h => h.elim) fun h => Nat.le_trans hC0.size h⟩,⟨_,hrn w2 (hw.trans hW2),fun g hg => by rw [hg];exact hW2.size⟩,hW2.trans hcA⟩
 generalize w2.alloc (.cells #[.slice none 0 0,.int .i64 cf.E,.int .i64 cf.M,.int .u32 (cf.seed:Int),.int .i64 cf.mx] 63)=W3 at hM0 ⊢
 generalize w2.heap.size=rb at hM0 ⊢
 clear hS2 hC2 x2 y0 y1 y2 y3 yl hsn hrn x0 hC0
 go_loopg [8,9,10,11,12] (min n 60) (fun m vi v9 v10 v11 v12 Wr => ∃ j:Nat,vi=.int .i64 (j:Int)∧m=min n 60 - j∧j≤min n 60∧MR w0 W sb rb cf (madeK EE MM (ksK g j)) (madeK EE MM (ksK g j)) Wr)
 case atStart => exact ⟨0,rfl,rfl,Nat.zero_le _,hM0⟩
 case round =>
  clear hM0
  obtain ⟨j,rfl,rfl,hj,hM⟩:=hrel
  by_cases hjl:j<min n 60
  ·have h3:(j:Int)<(n:Int):=by omega
   have h4:(j:Int)<60:=by omega
   obtain ⟨kb,ko,rfl,hc⟩:=hcl j (by omega)
   have hkm:=kkK_m (g j)
   have hkt:=kkK_t (g j)
   have hkn:=kkK_n (g j)
   have hke:(kkK (g j)).N=(g j).N.extract 0 (min (g j).N.size 20):=rfl
   have hsn:=ksK_snoc g j
   generalize kkK (g j)=K at *
   generalize g j=x at *
   obtain ⟨qn,hqn⟩:∃ q:Nat,q=min x.N.size 20:=⟨_,rfl⟩
   rw [← hqn] at hke
   have hq1:min (x.N.size:Int) 20=(qn:Int):=by omega
   have hq2:(qn:Int)≤(x.N.size:Int):=by omega
   have hlen:(madeK EE MM (ksK g j)).length≤60:=by
    have:=madeK_len EE MM (ksK g j)
    unfold ksK at this
    rw [List.length_map,List.length_range] at this
    unfold ksK
    omega
   obtain ⟨d1,d2,d3,d4,d5⟩:=hc _ hM.c
   have HKE:=Lib.hid hke
   have HSN:=Lib.hid hsn
   have HJ:=Lib.hid hjl
   clear hke hsn hqn hcl
   go_wp2_with fail
   go_region_held3 (fun W' => W'.cell? ⟨kb,ko+j * 3,none⟩=some (.string x.N)) (exact d2) (fail)
   go_wp2_with fail
   have hMd:=hM.chg0 (Chg.refl (fun _ => False) wr).drew
   rw [← HKE.out]
   generalize wr.drew=wd at hMd ⊢
   clear hM d1 d2 d3 d4
   obtain ⟨hkm,hkm7⟩:=hkm
   obtain ⟨hkt,hkt9⟩:=hkt
   go_loopg [10,11] K.M (fun m v10 v11 Wr => ∃ (a:Nat) (vp:Option Addr) (vc:Nat),v11=.int .i64 (a:Int)∧v10=.slice vp a vc∧m=K.M - a∧a≤K.M∧Ents Wr wd.heap.size (.slice vp a vc) (entsK a)∧Chg (fun _ => False) wd Wr)
   case atStart => exact ⟨0,none,0,rfl,rfl,rfl,Nat.zero_le _,Ents.nil _ _,Chg.refl _ _⟩
   case round =>
    obtain ⟨a,vp,vc,rfl,rfl,rfl,ha,hE,hC⟩:=hrel
    obtain ⟨e1,e2,e3,e4,_⟩:=hc _ (hMd.c.trans hC)
    by_cases hal:a<K.M
    ·have h5:(a:Int)<(K.M:Int):=by omega
     have h7:(K.M:Int)≤7:=by omega
     have HA:=Lib.hid hal
     clear hal ha
     have hcv:=conv1 wr a (by omega)
     obtain ⟨ch,hch⟩:∃ ch:ByteArray,(⟨#[UInt8.ofNat (97+a)]⟩:ByteArray)=ch:=⟨_,rfl⟩
     rw [hch] at hcv
     have HCH:=Lib.hid hch
     clear hch
     have m1:(entsK a).length+1≤maxLen:=by rw [entsK_len];unfold maxLen;omega
     have m2:((entsK a).length+1) * 24≤140737488355328:=by rw [entsK_len];omega
     have hone:∀ u∈[Value.string ch,Value.int .i64 (a:Int)],u.oneCell'=true:=by
      intro u hu
      rcases List.mem_cons.1 hu with rfl | hu
      ·rfl
      ·rw [List.mem_singleton] at hu;rw [hu];rfl
     have hre:=reads_ent (wr.alloc (.cells #[.int .u8 (97+(a:Int))] 5)) ⟨ch,(a:Int)⟩
     rw [show (wr.alloc (.cells #[.int .u8 (97+(a:Int))] 5)).heap.size=wr.heap.size+1 from World.size_alloc ..] at hre
     go_wp2_with (first
      | (at_builtin;have hc2:=((Chg.refl (fun _ => False) wr).alloc (.cells #[.int .u8 (97+(a:Int))] 5)).alloc (.cells #[.string ch,.int .i64 (a:Int)] 68);refine wpList_append_any _ rfl (.tmp 53) (.tmp 61) 64 rfl wd.heap.size 68 i0 _ 2 24 Tryz.underlying64 hi0 hz0 hz1 hz2 rfl (by omega) _ _ _ rfl (hE.chg0 hc2) ((wr.alloc (.cells #[.int .u8 (97+(a:Int))] 5)).alloc (.cells #[.string ch,.int .i64 (a:Int)] 68)).heap.size (some ⟨wr.heap.size+1,0,none⟩) 1 1 [.string ch,.int .i64 (a:Int)] rfl hre hone m1 m2 (hC.trans hc2).size ?_;intro v9 w9 hown9 hg9 _;have hC9:Chg (fun _ => False) wd w9:=(hC.trans hc2).trans' (app_chg (hE.chg0 hc2) hg9) (fun g hg h => by omega);have hE9:Ents w9 wd.heap.size v9 (entsK (a+1)):=(by rw [entsK_snoc,HCH.out];exact Ents.mk hown9 (by rw [List.length_append];first | done | rfl) (by rw [flat_snoc]));obtain ⟨vp2,vc2,hv9,_,_,_⟩:=hE9.is;rw [entsK_len] at hv9;subst hv9)
      | fail)
     go_roundg (K.M - (a+1))
     case measure => have:=HA.out;omega
     case rel => exact ⟨a+1,vp2,vc2,int_eq (by omega),rfl,rfl,HA.out,hE9,hC9⟩
    ·obtain rfl:a=K.M:=by omega
     have h5:¬ (K.M:Int)<(K.M:Int):=by omega
     have h7:(K.M:Int)≤7:=by omega
     have hM2:=hMd.chg0 hC
     obtain ⟨F,hF,f1⟩:=hM2.s
     obtain ⟨G,hG0,g1⟩:=hMd.r
     have hG:=hG0.chg0 hC
     have hvn:∀ g,(Value.slice vp K.M vc).ownBlock=some g→¬ G g:=fun g hg hgG => by
      have:=(World.ownsRow.lt hE g hg).1
      have:=(hG0.lt hgG).2
      omega
     have hput:=spa_put hF K.N (by omega) (by omega) wd.heap.size (.slice vp K.M vc) (entsK K.M) hE (by rw [entsK_len];omega) (fun e he => ⟨entsK_m e he,entsK_s (by omega) e he⟩)
     rw [hEE,hMM] at hput
     unfold pt at hput
     clear hMd hE hC
     go_wp2_with (first
      | (go_at_call 30;refine hput.mono ?_;rintro r w5 ⟨rfl,hs5,hE5⟩;have hM5:=hM2.sstep hF f1 hs5;have hG5:=hs5.keepR hF hG;have hrp:=rsa_put hG5 K.N (by omega) (by omega) wd.heap.size (.slice vp K.M vc) (entsK K.M) hE5 hvn (by rw [entsK_len];omega) (entsK_s (by omega));rw [hEE,hMM] at hrp;unfold pt at hrp)
      | (go_at_call 31;refine hrp.mono ?_;rintro r w6 ⟨rfl,hs6⟩;have hM6:=hM5.rstep hG5 g1 hs6)
      | fail)
     obtain ⟨PL,hPL⟩:∃ PL,putC EE MM (madeK EE MM (ksK g j)) K.N (entsK K.M) 0=PL:=⟨_,rfl⟩
     rw [hPL] at hM6
     have HPL:=Lib.hid hPL
     clear hPL hput hrp hM2 hM5 hF hG hG0 hG5 hs5 hs6 hE5 hvn
     go_loopg [12] K.T (fun m v12 Wr => ∃ a:Nat,v12=.int .i64 (a:Int)∧m=K.T - a∧a≤K.T∧MR w0 W sb rb cf (tchs PL K.N a) (tchs PL K.N a) Wr)
     case atStart => exact ⟨0,rfl,rfl,Nat.zero_le _,hM6⟩
     case round =>
      clear hM6
      obtain ⟨a,rfl,rfl,ha,hM7⟩:=hrel
      obtain ⟨e1,e2,e3,e4,_⟩:=hc _ hM7.c
      have h9:(K.T:Int)≤9:=by omega
      by_cases hal:a<K.T
      ·have h8:(a:Int)<(K.T:Int):=by omega
       have HA:=Lib.hid hal
       obtain ⟨F,hF,f1⟩:=hM7.s
       have hst:=spa_touch hF K.N (by omega) 9 (by omega) 0 (by omega)
       unfold pt at hst
       clear hal ha
       go_wp2_with (first
        | (go_at_call 32;refine hst.mono ?_;rintro r w7 ⟨⟨v7,rfl⟩,hs7⟩;have hM8:=hM7.sstep hF f1 hs7;obtain ⟨G,hG,g1⟩:=hM8.r;have hrt:=rsa_touch hG K.N 9 (by omega) 0 (by omega);unfold pt at hrt)
        | (go_at_call 33;refine hrt.mono ?_;rintro r w8 ⟨⟨v8,rfl⟩,hs8⟩;have hM9:=hM8.rstep hG g1 hs8)
        | fail)
       go_roundg (K.T - (a+1))
       case measure => have:=HA.out;omega
       case rel => exact ⟨a+1,int_eq (by omega),rfl,HA.out,hM9⟩
      ·obtain rfl:a=K.T:=by omega
       have h8:¬ (K.T:Int)<(K.T:Int):=by omega
       go_wp2_with fail
       go_roundg (min n 60 - (j+1))
       case measure => have:=HJ.out;omega
       case rel =>
        refine ⟨j+1,int_eq (by omega),rfl,HJ.out,?_⟩
        rw [HSN.out,madeK_snoc]
        show MR w0 W sb rb cf (tchs (putC EE MM (madeK EE MM (ksK g j)) K.N (entsK K.M) 0) K.N K.T) (tchs (putC EE MM (madeK EE MM (ksK g j)) K.N (entsK K.M) 0) K.N K.T) _
        rw [HPL.out]
        exact hM7
  ·obtain rfl:j=min n 60:=by omega
   by_cases h60:n≤60
   ·have h3:¬ ((min n 60:Nat):Int)<(n:Int):=by omega
    rw [show min n 60=n by omega] at hM
    go_wp2_with fail
    go_ret2
    exact ⟨sb,rb,rfl,hM⟩
   ·have h3:((min n 60:Nat):Int)<(n:Int):=by omega
    have h4:¬ ((min n 60:Nat):Int)<60:=by omega
    go_wp2_with fail
    go_ret2
    exact ⟨sb,rb,rfl,hM⟩
end
end Go.Proofs.YtehpmbmdadkhbaaGreatDoor

namespace Go.Proofs.YtehpmbmdadkhbaaGreatDoor
open Go.RowKit Pal
set_option maxRecDepth 100000 in
set_option maxHeartbeats 1000000 in
theorem Texts_any (u v:Value) (l m:List ByteArray) (b1 b2:Nat) (w:World) (hu:Strs w b1 u l) (hv:Strs w b2 v m) :
  Calls Tryz.prog 18 #[u,v] w fun e w' => e=.returned (.bool (decide (l=m)))∧Chg (fun _ => False) w w':=by
 obtain ⟨pu,cu,rfl,hlu,hcu,_⟩:=hu.is
 obtain ⟨pv,cv,rfl,hlv,hcv,_⟩:=hv.is
 unfold maxLen at hcu hcv
 by_cases hlen:l.length=m.length
 ·have hb:((l.length:Int) == (m.length:Int))=true:=by rw [beq_iff_eq];omega
  have HL:=Lib.hid hlen
  rw [← hlen] at hv hlv ⊢
  obtain ⟨n,hn⟩:∃ n,l.length=n:=⟨_,rfl⟩
  rw [hn] at hu hv hlu hlv ⊢
  have HN:=Lib.hid hn
  clear hlen hb hn
  go_enter Tryz.func18,Tryz.ntmps18
  go_wp2_with fail
  go_loopw [5] (fun i wr => ∃ k:Nat,k≤n∧i=.int .i64 k∧l.take k=m.take k∧Chg (fun _ => False) w wr) (fun i _ => n - (intOf i).toNat)
  case atStart => exact ⟨0,Nat.zero_le _,rfl,rfl,Chg.refl _ _⟩
  case round =>
   obtain ⟨k,hk,rfl,ht,hC⟩:=hrel
   by_cases hlt:k<n
   ·have hlt':(k:Int)<(n:Int):=by omega
    have hkl:k<l.length:=by rw [HN.out];exact hlt
    have hkm:k<m.length:=by rw [← HL.out,HN.out];exact hlt
    obtain ⟨gu,rfl,_,lu,qu⟩:=(hu.chg hC fun _ _ => id).at_ hkl
    obtain ⟨gv,rfl,_,lv,qv⟩:=(hv.chg hC fun _ _ => id).at_ hkm
    have hls:=List.take_succ_eq_append_getElem hkl
    have hms:=List.take_succ_eq_append_getElem hkm
    by_cases he:l[k]=m[k]
    ·rw [he] at qu
     have HT:Hid (l.take (k+1)=m.take (k+1)):=by show _=_;rw [hls,hms,ht,he]
     have he2:=toList_eq m[k]
     generalize m[k]=mk at qu qv he2
     clear hls hms ht he
     go_wp2_with fail
     go_quiet (fail)
     go_wp2_with fail
     go_roundw
     case rel => exact ⟨k+1,by omega,by go_num,HT.out,hC.trans ((Chg.refl _ _).drewN _)⟩
     case measure => simp [intOf];omega
    ·have HT:Hid (decide (l=m)=false):=by
      show _=_
      rw [decide_eq_false_iff_not]
      intro e
      subst e
      exact he rfl
     have he2:=toList_ne he
     generalize m[k]=mk at qv he he2
     generalize l[k]=lk at qu he he2
     clear hls hms ht
     go_wp2_with fail
     go_quiet (fail)
     go_wp2_with fail
     go_ret
     exact ⟨by rw [HT.out];rfl,hC.trans ((Chg.refl _ _).drewN _)⟩
   ·have hge:((k:Int)<(n:Int))=False:=by simp only [eq_iff_iff,iff_false];omega
    have hkn:k=n:=by omega
    have HT:Hid (decide (l=m)=true):=by
     show _=_
     rw [decide_eq_true_iff]
     rw [List.take_of_length_le (by rw [HN.out];omega),List.take_of_length_le (by rw [← HL.out,HN.out];omega)] at ht
     exact ht
    clear ht hkn hlt
    go_wp2_with fail
    go_ret
    exact ⟨by rw [HT.out];rfl,hC⟩
 ·have hb:((l.length:Int) == (m.length:Int))=false:=by rw [beq_eq_false_iff_ne];omega
  have hb2:¬ (l.length:Int)=(m.length:Int):=by omega
  have HT:Hid (decide (l=m)=false):=by
   show _=_
   rw [decide_eq_false_iff_not]
   intro e
   exact hlen (by rw [e])
  clear hlen
  go_enter Tryz.func18,Tryz.ntmps18
  go_wp2_with fail
  go_ret
  exact ⟨by rw [HT.out];rfl,Chg.refl _ _⟩
end Go.Proofs.YtehpmbmdadkhbaaGreatDoor

namespace Go.Proofs.YtehpmbmdadkhbaaGreatDoor
open Go.RowKit Pal Go.ChangeShapes Go.WideShapes Go.Deep
attribute [local go_sem] Oper.semAt_some
theorem trod_u32 {H:Type} {enc:TypeId × Value→H} {P:Program} {w:World} {base:Nat} {spare:Nat→Bool} {held:Bool} {n:Nat} {t:TypeId} {v:Value} {y:DataW H × List MemPlace} (ht:P.underlying t=some (.int .u32)) (h:DataW.trod enc P w base spare held n t [v]=some y):∃ k,v=.int .u32 k∧(Lit.int .u32 k).wf=true:=by
 obtain ⟨k,h1,_,h3⟩:=DataW.trod_int ht h
 simp only [List.cons.injEq,and_true] at h1
 exact ⟨k,h1,h3⟩
theorem wf_u32' {k:Int} (h:(Lit.int .u32 k).wf=true):∃ n:Nat,k=(n:Int)∧n<4294967296:=by
 obtain ⟨n,h1,h2⟩:=u32_of_wf h
 exact ⟨n,h1,h2⟩
set_option maxRecDepth 100000 in
theorem open_draws {H:Type} {enc:TypeId × Value→H} {w:World} {v:Value} {d:DataW H} {p:List MemPlace}
  (hv:Value.okWide Tryz.prog w .any 0 28 v) (h:DataW.Trod enc Tryz.prog w 0 (fun _ => true) true 28 v d p) :
  ∃ ds:List Nat,DrsAt w v ds:=by
 obtain ⟨a0,len0,cap0,rfl⟩:=okWide_slice Tryz.underlying28 hv
 obtain ⟨fuel,hf'⟩:=h
 rcases open_slice Tryz.underlying28 hf' with ⟨hc,hx⟩ | ⟨a,len,cap,m,n,D,Pl,hc,hlc,hl,hm,hmm,hx,hi⟩
 ·simp only [Value.cells,List.cons.injEq,and_true] at hc
  exact ⟨[],⟨_,_,hc,Nat.zero_le _,by unfold maxLen;omega⟩,fun i d h => by simp at h⟩
 ·simp only [Value.cells,List.cons.injEq,and_true] at hc
  simp only [if_true] at hmm
  subst hmm
  have hC:Tryz.prog.cellsOf 24=1:=by kernel_rfl
  have hcell:∀ i,i<len→∃ x:Nat,w.cell? (a.add i)=some (.int .u32 (x:Int))∧x<4294967296:=fun i hil => by
   obtain ⟨cs',hcs,ht⟩:=hi i (by omega)
   rw [hC] at hcs
   obtain ⟨_,hcl,hat⟩:=World.cells?_some hcs
   match cs',hcl with
   | [c0],_ =>
    have h1:=hat 0 (by omega)
    obtain ⟨k,rfl,wf⟩:=trod_u32 Tryz.underlying24 ht
    obtain ⟨x,rfl,hx⟩:=wf_u32' wf
    rw [Nat.mul_one,Go.Deep.add_add,Nat.add_zero] at h1
    exact ⟨x,by simpa using h1,hx⟩
  classical
  let g:Nat→Nat:=fun i => if hi:i<len then Classical.choose (hcell i hi) else 0
  have hg:∀ i,i<len→w.cell? (a.add i)=some (.int .u32 (g i:Int))∧g i<4294967296:=fun i hi => by
   simp only [g,dif_pos hi]
   exact Classical.choose_spec (hcell i hi)
  refine ⟨(List.range len).map g,?_,?_⟩
  ·rw [List.length_map,List.length_range]
   exact ⟨_,_,hc,hl,hm⟩
  ·intro i x hix
   rw [List.length_map,List.length_range]
   rw [List.getElem?_map] at hix
   have hil:i<len:=by
    rcases Nat.lt_or_ge i len with h | h
    ·exact h
    ·rw [List.getElem?_eq_none (by simpa using h)] at hix;cases hix
   rw [List.getElem?_range hil] at hix
   injection hix with hix
   obtain ⟨h1,h2⟩:=hg i hil
   rw [hix] at h1 h2
   have hsp:a.spot=none:=World.cell?_spot (hg 0 (by omega)).1
   obtain ⟨b,o,sp⟩:=a
   have hsp:sp=none:=hsp
   subst hsp
   rw [addr_add] at h1
   exact ⟨b,o,_,hc,block_lt' h1,h1,h2⟩
set_option maxRecDepth 100000 in
theorem open_cfg {H:Type} {enc:TypeId × Value→H} {w:World} {v:Value} {d:DataW H} {p:List MemPlace}
  (hv:Value.okWide Tryz.prog w .any 0 26 v) (h:DataW.Trod enc Tryz.prog w 0 (fun _ => true) true 26 v d p):∃ cf:Cf,v=.agg cf.cs∧cf.seed<4294967296:=by
 obtain ⟨cs,rfl,hsz⟩:=okWide_struct Tryz.underlying26 hv
 obtain ⟨c0,c1,c2,c3,rfl⟩:=Go.Joins.array4 (hsz.trans (by kernel_rfl:Tryz.prog.cellsOf 26=4))
 obtain ⟨fuel,hf⟩:=h
 obtain ⟨y0,y1,y2,n,_,_,h0,h1,h2⟩:=trod_struct3 Tryz.underlying26 hf
 have k0:Tryz.prog.cellsOf 23=2:=by kernel_rfl
 have k1:Tryz.prog.cellsOf 24=1:=by kernel_rfl
 have k2:Tryz.prog.cellsOf 3=1:=by kernel_rfl
 simp only [Value.cells,k0,k1,k2,List.drop_zero,List.take_succ_cons,List.take_zero,List.drop_succ_cons] at h0 h1 h2
 obtain ⟨z0,z1,m,_,_,g0,g1⟩:=trod_struct2 Tryz.underlying23 h0
 simp only [k2,List.drop_zero,List.take_succ_cons,List.take_zero,List.drop_succ_cons] at g0 g1
 obtain ⟨a0,rfl,_⟩:=trod_i Tryz.underlying3 g0
 obtain ⟨a1,rfl,_⟩:=trod_i Tryz.underlying3 g1
 obtain ⟨a2,rfl,w2⟩:=trod_u32 Tryz.underlying24 h1
 obtain ⟨a3,rfl,_⟩:=trod_i Tryz.underlying3 h2
 obtain ⟨s,rfl,hs⟩:=wf_u32' w2
 exact ⟨⟨a0,a1,s,a3⟩,rfl,hs⟩
theorem DrsAt.outer {W W':World} {v:Value} {ds:List Nat} {F:Nat→Prop} (hd:DrsAt W v ds) (hc:Chg (fun _ => False) W W') (hF:∀ g,F g→W.heap.size≤g):DrsF F W' v ds:=by
 refine ⟨hd.chg hc fun _ _ _ _ _ => id,fun hne b o n c e hb => ?_⟩
 obtain ⟨b',o',cap,he,h1,_⟩:=hd.at_ 0 _ (List.getElem?_eq_getElem (List.length_pos_iff.2 hne))
 rw [e] at he
 injection he with he
 injection he with he
 injection he with e1 _
 have:=hF b hb
 omega
section
variable {w0 W:World} {b:Nat} {cf:Cf} {l:List Ct} {F:Nat→Prop}
theorem choose_u (h:Spa w0 W b cf l F) (vd:Value) (ds:List Nat) (hd:DrsF F W vd ds) (now:Int) (hw:now≤9223372036854775807) :
  Calls Tryz.prog 11 #[pt b,.int .i64 now,vd] W fun r W' => r=.returned (.tuple #[.string (chooseC l now ds).1,.int .i64 (chooseC l now ds).2])∧Sst w0 b cf l F W W':=by
 by_cases hl:l=[]
 ·subst hl
  exact choose_empty h vd now
 ·exact choose_any h hl vd ds hd now hw
def roomU (most now:Int) (l:List Ct) (ds:List Nat):List ByteArray × Int × List Ct:=if most≤0 then ([],0,l) else roomC most now l.length l ds
theorem room_u (h:Spa w0 W b cf l F) (most:Int) (now:Int) (hw:now≤9223372036854775807) (vd:Value) (ds:List Nat) (hd:DrsF F W vd ds) :
  Calls Tryz.prog 21 #[pt b,.int .i64 most,.int .i64 now,vd] W fun r W' => (∃ v,r=.returned (.tuple #[v,.int .i64 (roomU most now l ds).2.1])∧Strs W' W.heap.size v (roomU most now l ds).1)∧Sst w0 b cf (roomU most now l ds).2.2 F W W':=by
 unfold roomU
 by_cases hm:most≤0
 ·rw [if_pos hm]
  refine (room_low b most hm (.int .i64 now) vd W).mono ?_
  rintro r W' ⟨rfl,hC⟩
  exact ⟨⟨_,rfl,Strs.nil _ _⟩,F,h.chg0 hC,Nf.zero hC⟩
 ·rw [if_neg hm]
  exact room_any h most (by omega) now hw vd ds hd
end
end Go.Proofs.YtehpmbmdadkhbaaGreatDoor

namespace Go.Proofs.YtehpmbmdadkhbaaGreatDoor
open Go.RowKit Pal
attribute [local go_sem] Oper.semAt_some
def gS:Nat→K3
 | 0 => ⟨⟨#[97]⟩,0,5⟩
 | _ => ⟨⟨#[98]⟩,0,3⟩
theorem shown_plain:chooseC (madeK (clampL 200 0) (clampL 64 0) (ksK gS 2)) 9 [0,1]=(⟨#[98]⟩,0):=by kernel_rfl
theorem keysS (W:World):KeysAt (W.alloc (.cells #[.string ⟨#[97]⟩,.int .i64 0,.int .i64 5,.string ⟨#[98]⟩,.int .i64 0,.int .i64 3] 56)) (.slice (some ⟨W.heap.size,0,none⟩) 2 2) 2 gS:=by
 have hb:=Blk.new W 56 #[.string ⟨#[97]⟩,.int .i64 0,.int .i64 5,.string ⟨#[98]⟩,.int .i64 0,.int .i64 3]
 refine ⟨⟨_,_,rfl⟩,by unfold maxLen;omega,fun i hi => ⟨_,_,_,rfl,hb.lt,?_,?_⟩⟩
 ·match i,hi with
  | 0,_ => exact ⟨hb.cell 0,hb.cell 1,hb.cell 2⟩
  | 1,_ => exact ⟨hb.cell 3,hb.cell 4,hb.cell 5⟩
 ·match i,hi with
  | 0,_ => exact ⟨by show (1:Nat)≤maxLen;unfold maxLen;omega,by decide,by decide⟩
  | 1,_ => exact ⟨by show (1:Nat)≤maxLen;unfold maxLen;omega,by decide,by decide⟩
theorem drsS (W:World):DrsAt (W.alloc (.cells #[.int .u32 0,.int .u32 1] 24)) (.slice (some ⟨W.heap.size,0,none⟩) 2 2) [0,1]:=by
 have hb:=Blk.new W 24 #[.int .u32 0,.int .u32 1]
 refine ⟨⟨_,_,rfl,Nat.le_refl _,by unfold maxLen;omega⟩,fun i d hd => ⟨_,_,_,rfl,hb.lt,?_⟩⟩
 match i,hd with
 | 0,hd => injection hd with hd;subst hd;exact ⟨hb.cell 0,by omega⟩
 | 1,hd => injection hd with hd;subst hd;exact ⟨hb.cell 1,by omega⟩
def wS (W:World):World:=W.alloc (.cells #[.string ⟨#[97]⟩,.int .i64 0,.int .i64 5,.string ⟨#[98]⟩,.int .i64 0,.int .i64 3] 56)
def cfS:Cf:=⟨0,0,0,0⟩
set_option maxRecDepth 100000 in
set_option maxHeartbeats 400000 in
theorem shown16_walk (W:World) (L:List Ct) (hmd:Calls Tryz.prog 10 #[.agg #[.int .i64 0,.int .i64 0,.int .u32 0,.int .i64 0],.slice (some ⟨W.heap.size,0,none⟩) 2 2] (wS W) fun r W' => ∃ sb rb,r=.returned (.tuple #[pt sb,pt rb])∧MR (wS W) (wS W) sb rb cfS L L W') (hcp:chooseC L 9 [0,1]=(⟨#[98]⟩,0)) :
  Calls Tryz.prog 9 #[] W fun r W' => r=.returned (.bool true)∧Chg (fun _ => False) W W':=by
 have hC0:Chg (fun _ => False) W (wS W):=(Chg.refl (fun _ => False) W).alloc _
 have hno:=fun w => choose_none (.int .i64 9) (.slice none 0 0) w
 have hcu:=fun {W1:World} {sb:Nat} {F:Nat→Prop} (h:Spa (wS W) W1 sb cfS L F) (vd:Value) (hd:DrsF F W1 vd [0,1]) => choose_u h vd [0,1] hd 9 (by omega)
 rw [hcp] at hcu
 unfold pt at hcu hmd
 unfold wS at hmd
 have hmd':=fun (w:World) (hw:w=wS W) => hmd
 clear hmd hcp
 go_enter Tryz.func9,Tryz.ntmps9
 go_wp2_with (first
  | (go_at_call 10;refine (hmd' _ rfl).mono ?_;rintro r w2 ⟨sb,rb,rfl,hM⟩;obtain ⟨F,hF,f1⟩:=hM.s;have hch:=hcu (hF.chg0 ((Chg.refl (fun _ => False) w2).alloc (.cells #[.int .u32 0,.int .u32 1] 24))) (.slice (some ⟨w2.heap.size,0,none⟩) 2 2) ⟨drsS w2,fun _ b o n c e hb => (by injection e with e;injection e with e;injection e with e _;have:=(hF.lt hb).2;omega)⟩)
  | (go_at_call 11;(with_reducible refine hch.mono ?_);rintro r w3 ⟨rfl,F',hF',hn'⟩)
  | (go_at_call 11;refine (hno _).mono ?_;rintro r w4 ⟨rfl,rfl⟩)
  | fail)
 go_ret
 refine ⟨rfl,((hC0.trans hM.c).alloc _).trans' hn'.chg fun g hg hf => ?_⟩
 have h1:(wS W).heap.size≤g:=f1 g hf
 have h2:=hC0.size
 omega
set_option maxRecDepth 100000 in
theorem shown16_any (W:World):Calls Tryz.prog 9 #[] W fun r W' => r=.returned (.bool true)∧Chg (fun _ => False) W W':=by
 have h:=made_any (Chg.refl (fun _ => False) (wS W)) cfS (by decide) (keysS W)
 exact shown16_walk W _ h shown_plain
end Go.Proofs.YtehpmbmdadkhbaaGreatDoor
