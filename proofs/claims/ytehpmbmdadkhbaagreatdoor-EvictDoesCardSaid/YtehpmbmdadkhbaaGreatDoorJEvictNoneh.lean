/- Texts joined for EvictNone: TWint64, DAint64, BZint64, LS, LT, LU, LV, LC, ZS, ZI, LD, ZT, EVP, EVM, EVL, ZU, ZF, ZN, ZG, ZH. -/
import Derived.Test.YtehpmbmdadkhbaaGreatDoorJEvictNonea
import Derived.Test.YtehpmbmdadkhbaaGreatDoorJEvictNonee
import Derived.Test.YtehpmbmdadkhbaaGreatDoorJEvictNonef
import Derived.Test.YtehpmbmdadkhbaaGreatDoorJEvictNoneg
import Derived.Deep.RegionHeld3
set_option linter.unusedVariables false
set_option linter.unusedSimpArgs false

namespace Go.Proofs.YtehpmbmdadkhbaaGreatDoor.Dint64
open Go.RowKit Pal
structure One (w0 W:World) (bd:Nat) (d:Dm):Prop where
 md:Mine w0.heap.size W d
 bd:d.blk=bd
 chg:Chg (fun _ => False) w0 W
section
variable {w0 W W':World} {bd:Nat} {d d':Dm}
end
structure Two (n0:Nat) (w0 W:World) (bd be:Nat) (d e:Dm):Prop where
 md:Mine n0 W d
 me:Mine n0 W e
 apart:∀ g,d.foot g→¬ e.foot g
 bd:d.blk=bd
 be:e.blk=be
 chg:Chg (fun _ => False) w0 W
 n0:w0.heap.size=n0
section
variable {n0:Nat} {w0 W W':World} {bd be B:Nat} {d e d' e':Dm} {t:TypeId} {cs:Array Value}
end
end Go.Proofs.YtehpmbmdadkhbaaGreatDoor.Dint64

namespace Go.Proofs.YtehpmbmdadkhbaaGreatDoor.Dint64
open Go.RowKit Pal
section
variable {w0 W:World} {bd:Nat} {d:Dm}
-- Tryz.func243
end
end Go.Proofs.YtehpmbmdadkhbaaGreatDoor.Dint64

namespace Go.Proofs.YtehpmbmdadkhbaaGreatDoor.Dint64
open Go.RowKit Pal
def bndZ (s:Nat × Option Nat × Nat):Prop:=s.1≤1024∧∀ l,s.2.1=some l→l≤1024
theorem sizeFor_1024 {n:Int} (h:n≤1024):sizeFor n≤1024:=by
 obtain ⟨k,h2,h16,e,hlt,_⟩:=sizeFor_spec n
 rw [e]
 rcases Nat.lt_or_ge k 11 with h' | h'
 ·exact pow_mono (b:=10) (by omega)
 ·have:=hlt 10 (by omega) (by omega)
  have e9:((2 ^ 10:Nat):Int)=1024:=rfl
  omega
theorem bz_step {s:Nat × Option Nat × Nat} (h:bndZ s) (n:Int):bndZ (stepS s n):=by
 unfold stepS
 obtain ⟨s0,s1,s2⟩:=s
 cases s1 with
 | none => exact h
 | some l =>
  dsimp only
  split
  ·exact ⟨h.1,fun l' e => h.2 l' e⟩
  ·exact ⟨h.2 l rfl,fun l' e => (by cases e)⟩
theorem bz_grow {s:Nat × Option Nat × Nat} (h:bndZ s) {n:Nat} (hn:n≤512):bndZ (growS s n):=by
 unfold growS
 split
 ·exact ⟨h.1,fun l e => by injection e with e;rw [← e];exact sizeFor_1024 (by omega)⟩
 ·exact h
theorem bz_shrink {s:Nat × Option Nat × Nat} (h:bndZ s) {n:Nat} (hn:n≤512):bndZ (shrinkS s n):=by
 unfold shrinkS
 split
 ·exact ⟨h.1,fun l e => by injection e with e;rw [← e];exact sizeFor_1024 (by omega)⟩
 ·exact h
theorem bz_ite {p:Prop} [Decidable p] {a b:Nat × Option Nat × Nat} (ha:bndZ a) (hb:bndZ b):bndZ (if p then a else b):=by
 split <;> assumption
end Go.Proofs.YtehpmbmdadkhbaaGreatDoor.Dint64

namespace Go.Proofs.YtehpmbmdadkhbaaGreatDoor
open Go.RowKit Pal
structure Ls where
 blk:Nat
 s:Sk
 d:Dint64.Dm
def Ls.foot (x:Ls) (g:Nat):Prop:=g=x.blk∨x.s.foot g∨x.d.foot g
structure LsAt (w:World) (base:Nat) (x:Ls) (es:List En):Prop where
 b:Blk w x.blk 212 #[pt x.s.blk,pt x.d.blk]
 sk:SkAt w base x.s
 dm:Dint64.DmAt w x.d
 ok:x.d.Ok
 eq:x.s.es=es
 look:∀ m,x.d.look m=(lookE es m).map (Value.int .i64)
 dn:x.d.n=es.length
 bz:Dint64.bndZ (Dint64.shape x.d)
 ge:base≤x.blk∧∀ g,x.d.foot g→base≤g
theorem sk_ty {w:World} {base:Nat} {s:Sk} (h:SkAt w base s) {g:Nat} (hg:s.foot g):∃ t cs,Blk w g t cs∧(t=252∨t=250):=by
 obtain ⟨p,hp,rfl⟩:=hg
 obtain ⟨cs,hb,_⟩:=h.v.nd p hp
 refine ⟨_,_,hb,?_⟩
 unfold tyP
 split
 ·exact .inl rfl
 ·exact .inr rfl
theorem dm_ty {w:World} {d:Dint64.Dm} (h:Dint64.DmAt w d) {g:Nat} (hg:d.foot g):∃ t cs,Blk w g t cs∧(t=256∨t=275∨t=277):=by
 rcases hg with rfl | rfl | ⟨t,ht,rfl⟩ | ⟨x,hx,rfl⟩
 ·exact ⟨_,_,h.hd,.inl rfl⟩
 ·exact ⟨_,_,h.a0.1,.inr (.inl rfl)⟩
 ·exact ⟨_,_,(h.a1 t ht).1,.inr (.inl rfl)⟩
 ·obtain ⟨nx,hb⟩:=h.node hx
  exact ⟨_,_,hb,.inr (.inr rfl)⟩
theorem sk_dm {w:World} {base:Nat} {s:Sk} {d:Dint64.Dm} (h1:SkAt w base s) (h2:Dint64.DmAt w d) {g:Nat} (hg:s.foot g):¬ d.foot g:=by
 intro hd
 obtain ⟨t,cs,hb,ht⟩:=sk_ty h1 hg
 obtain ⟨t',cs',hb',ht'⟩:=dm_ty h2 hd
 refine hb.ne_type hb' ?_ rfl
 rcases ht with rfl | rfl <;> rcases ht' with rfl | rfl | rfl <;> decide
section
variable {w w':World} {base:Nat} {x:Ls} {es:List En}
theorem LsAt.b_sk (h:LsAt w base x es):¬ x.s.foot x.blk:=by
 intro hg
 obtain ⟨t,cs,hb,ht⟩:=sk_ty h.sk hg
 refine h.b.ne_type hb ?_ rfl
 rcases ht with rfl | rfl <;> decide
theorem LsAt.b_dm (h:LsAt w base x es):¬ x.d.foot x.blk:=by
 intro hg
 obtain ⟨t,cs,hb,ht⟩:=dm_ty h.dm hg
 refine h.b.ne_type hb ?_ rfl
 rcases ht with rfl | rfl | rfl <;> decide
theorem LsAt.chg {S:Nat→Prop} (h:LsAt w base x es) (hc:Chg S w w') (hn:∀ g,x.foot g→¬ S g):LsAt w' base x es :=
 { h with b:=h.b.chg hc (hn _ (.inl rfl)),sk:=h.sk.chg hc fun g hg => hn _ (.inr (.inl hg)),dm:=h.dm.chg hc fun g hg => hn _ (.inr (.inr hg)) }
theorem LsAt.chg0 (h:LsAt w base x es) (hc:Chg (fun _ => False) w w'):LsAt w' base x es:=h.chg hc fun _ _ => id
theorem LsAt.lt (h:LsAt w base x es) {g:Nat} (hg:x.foot g):base≤g∧g<w.heap.size:=by
 rcases hg with rfl | hg | hg
 ·exact ⟨h.ge.1,h.b.lt⟩
 ·exact h.sk.lt hg
 ·exact ⟨h.ge.2 g hg,h.dm.lt hg⟩
end
end Go.Proofs.YtehpmbmdadkhbaaGreatDoor

namespace Go.Proofs.YtehpmbmdadkhbaaGreatDoor
open Go.RowKit Pal
attribute [local go_sem] Oper.semAt_some
structure Lx (base:Nat) (x x':Ls) (es':List En) (w w':World):Prop where
 at_:LsAt w' base x' es'
 blk:x'.blk=x.blk
 seed:x'.d.seed=x.d.seed
 chg:Chg x.foot w w'
 foot:∀ g,x'.foot g→x.foot g∨w.heap.size≤g
section
variable {w w':World} {base:Nat} {x:Ls} {es:List En}
theorem LsAt.dict (h:LsAt w base x es) {d':Dint64.Dm} {es':List En} (hn:Dint64.Nx x.d d' w w') (he:x.s.es=es') (hl:∀ m,d'.look m=(lookE es' m).map (Value.int .i64)) (hd:d'.n=es'.length) (hz:Dint64.bndZ (Dint64.shape d')):Lx base x { x with d:=d' } es' w w' where
 at_:={
   b:=by
    have:=h.b.chg hn.chg h.b_dm
    rw [← hn.blk] at this;exact this
   sk:=h.sk.chg hn.chg fun g hg => sk_dm h.sk h.dm hg
   dm:=hn.dm
   ok:=hn.ok
   eq:=he
   look:=hl
   dn:=hd
   bz:=hz
   ge:=⟨h.ge.1,fun g hg => (hn.foot g hg).elim (h.ge.2 g) fun h2 => by have:=(h.lt (.inl rfl));omega⟩ }
 blk:=rfl
 seed:=hn.seed
 chg:=hn.chg.mono fun g _ hg => .inr (.inr hg)
 foot:=fun g hg => by
  rcases hg with hg | hg | hg
  ·exact .inl (.inl hg)
  ·exact .inl (.inr (.inl hg))
  ·exact (hn.foot g hg).imp (fun h => .inr (.inr h)) id
theorem LsAt.cells (h:LsAt w base x es):w.cell? ⟨x.blk,0,none⟩=some (pt x.s.blk)∧w.cell? ⟨x.blk,1,none⟩=some (pt x.d.blk)∧x.blk<w.heap.size:=by
 have h0:=h.b.cell 0
 have h1:=h.b.cell 1
 exact ⟨by simpa using h0,by simpa using h1,h.b.lt⟩
def LxPost (base:Nat) (x:Ls) (es':List En) (v:Option Value) (w:World) (r:Ending) (w':World):Prop:=(∃ u,r=.returned u∧∀ y,v=some y→u=y)∧∃ x',Lx base x x' es' w w'
theorem getD_int (o:Option Int):(o.map (Value.int .i64)).getD (.int .i64 0)=.int .i64 (o.getD 0):=by cases o <;> rfl
theorem isSome_int (o:Option Int):(o.map (Value.int .i64)).isSome=o.isSome:=by cases o <;> rfl
set_option maxRecDepth 100000 in
theorem l_score (h:LsAt w base x es) (m:ByteArray) (hm:m.size≤9223372036854775807):Calls Tryz.prog 228 #[pt x.blk,.string m] w (LxPost base x es (some (.tuple #[.int .i64 ((lookE es m).getD 0),.bool (lookE es m).isSome])) w):=by
 obtain ⟨c0,c1,l0⟩:=h.cells
 have hg:=Dint64.Get_i x.d m w h.dm h.ok hm
 rw [h.look m,getD_int,isSome_int] at hg
 unfold Dint64.ptr at hg
 unfold pt at *
 clear hm
 go_enter Tryz.func228,Tryz.ntmps228
 go_wp2_with (go_at_call 233;refine hg.mono ?_;rintro r w1 ⟨rfl,d',hn,hl,hd,hz⟩)
 go_ret2
 exact ⟨⟨_,rfl,fun y hy => by injection hy⟩,_,h.dict hn h.eq (fun k => by rw [hl,h.look]) (hd.trans h.dn) (by rw [hz];exact Dint64.bz_step h.bz _)⟩
end
end Go.Proofs.YtehpmbmdadkhbaaGreatDoor

namespace Go.Proofs.YtehpmbmdadkhbaaGreatDoor
open Go.RowKit Pal
attribute [local go_sem] Oper.semAt_some
theorem put_foot_inv {s:Sk} {k:Nat} {y:Sn} {g:Nat} (hk:k≤s.n) (h:(s.put k y).foot g):s.foot g∨g=y.blk:=by
 obtain ⟨p,hp,rfl⟩:=h
 have hp:p≤(s.put k y).n:=hp
 rw [Sk.put_n hk] at hp
 show s.foot ((s.put k y).at_ p)∨(s.put k y).at_ p=y.blk
 rw [Sk.put_at hk]
 split
 ·exact .inl ⟨p,by show p≤s.n;omega,rfl⟩
 ·split
  ·exact .inr rfl
  ·exact .inl ⟨p - 1,by show p - 1≤s.n;omega,rfl⟩
section
variable {w:World} {base:Nat} {x:Ls} {es:List En}
set_option maxRecDepth 100000 in
set_option maxHeartbeats 1000000 in
theorem l_put (h:LsAt w base x es) (hz:Zok es) (e:En) (l:Nat) (hl:1≤l∧l≤32) (hne:e.m ∉ es.map (·.m)) (he:EnOk e):Calls Tryz.prog 118 #[pt x.blk,e.val,.int .i64 (l:Int)] w (LxPost base x (insE es e) none w):=by
 obtain ⟨c0,c1,l0⟩:=h.cells
 have hlen:x.s.n=es.length:=by rw [← h.eq,x.s.es_len]
 have hn4:=hz.n
 have hem:e ∉ x.s.es:=by rw [h.eq];exact fun h2 => hne (List.mem_map.2 ⟨e,h2,rfl⟩)
 have hi:=fun w (hs:SkAt w base x.s) => insert_any x.s e l w base hs (by rw [h.eq];exact hz.so) (by omega) hem hl
 have hse:=fun w (hd:Dint64.DmAt w x.d) => Dint64.Set_i x.d e.m (.int .i64 e.s) w hd h.ok (by have:=he.1;omega) ⟨_,rfl⟩ (by rw [h.dn];omega)
 have hno:lookE es e.m=none:=lookE_none.2 hne
 have hlk:x.d.look e.m=none:=by rw [h.look,hno];rfl
 rw [hlk] at hse
 have hk:ahead x.s.es e≤x.s.n:=by have:=ahead_le x.s.es e;rwa [x.s.es_len] at this
 have HX:=Lib.hid h.b
 unfold InsPost at hi
 unfold Dint64.ptr at hse
 unfold pt En.val at *
 go_enter Tryz.func118,Tryz.ntmps118
 go_wp2_with fail
 have hbe:=Blk.new w 68 #[.string e.m,.int .i64 e.s]
 have hC1:=(Chg.refl (fun _ => False) w).alloc (.cells #[.string e.m,.int .i64 e.s] 68)
 have hS1:=h.chg0 hC1
 have hB:w.heap.size≤w.heap.size:=Nat.le_refl _
 generalize hw2:w.alloc (.cells #[.string e.m,.int .i64 e.s] 68)=w2 at hbe hC1 hS1 ⊢
 have e0:=hbe.cell 0
 have e1:=hbe.cell 1
 have el:=hbe.lt
 obtain ⟨d0,d1,l1⟩:=hS1.cells
 simp only [List.getElem?_toArray,List.getElem?_cons_zero,List.getElem?_cons_succ] at e0 e1
 unfold pt at d0 d1
 clear hw2 c0 c1
 go_still_tail 6,(by kernel_rfl)
 go_wp2_with (go_at_call 138;refine (hi _ (hS1.sk.chg0 (Chg.refl _ _).drew)).mono ?_;rintro r w3 ⟨rfl,g,hg,hsk,hc3⟩)
 have hc3':Chg x.s.foot w2 w3:=(Chg.refl _ _).drew.trans hc3
 have hxs:∀ g,x.s.foot g→g<w.heap.size:=fun g hg => (h.sk.lt hg).2
 have hb3:=hS1.b.chg hc3' hS1.b_sk
 have hbe3:=hbe.chg hc3' (fun hf => by have:=hxs _ hf;omega)
 have hd3:=hS1.dm.chg hc3' fun g hg hf => sk_dm hS1.sk hS1.dm hf hg
 have f1:=hb3.cell 1
 have g0:=hbe3.cell 0
 have g1:=hbe3.cell 1
 have l3:=hb3.lt
 have l4:=hbe3.lt
 simp only [List.getElem?_toArray,List.getElem?_cons_zero,List.getElem?_cons_succ] at f1 g0 g1
 unfold pt at f1
 clear e0 e1 el d0 d1 l1 hi
 go_still_tail 8,(by kernel_rfl)
 go_wp2_with (go_at_call 139;refine (hse _ (hd3.chg0 (Chg.refl _ _).drew)).mono ?_;rintro r w5 ⟨rfl,d',hn5,hl5,hdn5,hz5⟩)
 go_end0
 have hs1:=hC1.size
 have hs3:=hc3'.size
 have hg':w.heap.size≤g:=Nat.le_trans hs1 hg
 have hc5:Chg x.d.foot w3 w5:=(Chg.refl _ _).drew.trans hn5.chg
 have hs5:=hc5.size
 have hfb:∀ g,d'.foot g→x.d.foot g∨w.heap.size≤g:=fun g hg => (hn5.foot g hg).imp id fun h2 => by have h2:w3.heap.size≤g:=h2;omega
 refine ⟨⟨_,rfl,nofun⟩,⟨x.blk,x.s.put (ahead x.s.es e) ⟨g,e.m,e.s,l⟩,d'⟩,?_,rfl,hn5.seed,?_,?_⟩
 ·refine ⟨?_,hsk.chg hc5 fun g hg => sk_dm hsk hd3 hg,hn5.dm,hn5.ok,?_,fun m => ?_,?_,?_,h.ge.1,fun g hg => ?_⟩
  ·have:=hb3.chg hc5 h.b_dm
   show Blk w5 x.blk _ #[pt x.s.blk,pt d'.blk]
   rw [hn5.blk];exact this
  ·rw [Sk.put_es,h.eq];rfl
  ·show d'.look m=_
   rw [hl5,lookE_ins hz.nd hne,h.look]
   split
   ·rfl
   ·rfl
  ·show d'.n=_
   rw [hdn5,h.dn,(insE_perm es e).length_eq];rfl
  ·show Dint64.bndZ (Dint64.shape d')
   rw [hz5]
   exact Dint64.bz_ite (Dint64.bz_grow (Dint64.bz_step h.bz _) (by rw [h.dn];omega)) (Dint64.bz_step h.bz _)
  ·rcases hfb g hg with h2 | h2
   ·exact h.ge.2 g h2
   ·have:=(h.lt (.inl rfl)).1
    have:=(h.lt (.inl rfl)).2
    omega
 ·refine (((hC1.mono fun _ _ h => h.elim).trans' hc3' fun g _ hg => .inr (.inl hg)).trans' hc5 fun g _ hg => .inr (.inr hg))
 ·rintro g (hg | hg | hg)
  ·exact .inl (.inl hg)
  ·rcases put_foot_inv hk hg with h2 | h2
   ·exact .inl (.inr (.inl h2))
   ·exact .inr (by rw [h2];exact hg')
  ·exact (hfb g hg).imp (fun h => .inr (.inr h)) id
end
end Go.Proofs.YtehpmbmdadkhbaaGreatDoor

namespace Go.Proofs.YtehpmbmdadkhbaaGreatDoor
open Go.RowKit Pal
attribute [local go_sem] Oper.semAt_some
section
variable {w:World} {base:Nat} {x:Ls} {es:List En}
set_option maxRecDepth 100000 in
set_option maxHeartbeats 1000000 in
theorem l_drop (h:LsAt w base x es) (hz:Zok es) (e:En) (he:e∈es):Calls Tryz.prog 227 #[pt x.blk,e.val] w (LxPost base x (delE es (ahead es e)) none w):=by
 obtain ⟨c0,c1,l0⟩:=h.cells
 have hlen:x.s.n=es.length:=by rw [← h.eq,x.s.es_len]
 have hn4:=hz.n
 have hi:=fun w (hs:SkAt w base x.s) => delete_any x.s e w base hs (by rw [h.eq];exact hz.so) (by omega) (by rw [h.eq];exact he)
 have hlk:x.d.look e.m=some (.int .i64 e.s):=by rw [h.look,(lookE_some hz.nd).2 (show (⟨e.m,e.s⟩:En)∈es from he)];rfl
 have hde:=fun w (hd:Dint64.DmAt w x.d) => Dint64.Delete_i x.d e.m w hd h.ok (by have:=(hz.ok e he).1;omega) (by rw [h.dn];omega)
 rw [hlk] at hde
 have hat:es[ahead es e]?=some e:=look_at hz ((lookE_some hz.nd).2 (show (⟨e.m,e.s⟩:En)∈es from he))
 have hk:ahead x.s.es e<x.s.n:=by rw [h.eq,hlen];exact (List.getElem?_eq_some_iff.1 hat).1
 have HX:=Lib.hid h.b
 unfold DelPost' at hi
 unfold Dint64.ptr at hde
 unfold pt En.val at *
 go_enter Tryz.func227,Tryz.ntmps227
 go_wp2_with fail
 have hbe:=Blk.new w 68 #[.string e.m,.int .i64 e.s]
 have hC1:=(Chg.refl (fun _ => False) w).alloc (.cells #[.string e.m,.int .i64 e.s] 68)
 have hS1:=h.chg0 hC1
 generalize hw2:w.alloc (.cells #[.string e.m,.int .i64 e.s] 68)=w2 at hbe hC1 hS1 ⊢
 have e0:=hbe.cell 0
 have e1:=hbe.cell 1
 have el:=hbe.lt
 obtain ⟨d0,d1,l1⟩:=hS1.cells
 simp only [List.getElem?_toArray,List.getElem?_cons_zero,List.getElem?_cons_succ] at e0 e1
 unfold pt at d0 d1
 clear hw2 c0 c1
 go_still_tail 5,(by kernel_rfl)
 go_wp2_with (go_at_call 231;refine (hi _ (hS1.sk.chg0 (Chg.refl _ _).drew)).mono ?_;rintro r w3 ⟨rfl,hsk,hc3⟩)
 have hc3':Chg x.s.foot w2 w3:=(Chg.refl _ _).drew.trans hc3
 have hxs:∀ g,x.s.foot g→g<w.heap.size:=fun g hg => (h.sk.lt hg).2
 have hb3:=hS1.b.chg hc3' hS1.b_sk
 have hbe3:=hbe.chg hc3' (fun hf => by have:=hxs _ hf;omega)
 have hd3:=hS1.dm.chg hc3' fun g hg hf => sk_dm hS1.sk hS1.dm hf hg
 have f1:=hb3.cell 1
 have g0:=hbe3.cell 0
 have g1:=hbe3.cell 1
 have l3:=hb3.lt
 have l4:=hbe3.lt
 simp only [List.getElem?_toArray,List.getElem?_cons_zero,List.getElem?_cons_succ] at f1 g0 g1
 unfold pt at f1
 clear e0 e1 el d0 d1 l1 hi
 go_still_tail 6,(by kernel_rfl)
 go_wp2_with (go_at_call 232;refine (hde _ (hd3.chg0 (Chg.refl _ _).drew)).mono ?_;rintro r w5 ⟨rfl,d',hn5,hl5,hdn5,hz5⟩)
 go_end0
 have hs1:=hC1.size
 have hs3:=hc3'.size
 have hc5:Chg x.d.foot w3 w5:=(Chg.refl _ _).drew.trans hn5.chg
 have hfb:∀ g,d'.foot g→x.d.foot g∨w.heap.size≤g:=fun g hg => (hn5.foot g hg).imp id fun h2 => by have h2:w3.heap.size≤g:=h2;omega
 refine ⟨⟨_,rfl,nofun⟩,⟨x.blk,x.s.cut (ahead x.s.es e),d'⟩,?_,rfl,hn5.seed,?_,?_⟩
 ·refine ⟨?_,hsk.chg hc5 fun g hg => sk_dm hsk hd3 hg,hn5.dm,hn5.ok,?_,fun m => ?_,?_,?_,h.ge.1,fun g hg => ?_⟩
  ·have:=hb3.chg hc5 h.b_dm
   show Blk w5 x.blk _ #[pt x.s.blk,pt d'.blk]
   rw [hn5.blk];exact this
  ·rw [Sk.cut_es,h.eq];rfl
  ·show d'.look m=_
   rw [hl5,lookE_del hz.nd hat,h.look]
   split
   ·rfl
   ·rfl
  ·show d'.n=_
   rw [hdn5,h.dn]
   show es.length - 1=_
   have:=(delE_perm hat).length_eq
   rw [List.length_cons] at this
   omega
  ·show Dint64.bndZ (Dint64.shape d')
   rw [hz5]
   exact Dint64.bz_ite (Dint64.bz_shrink (Dint64.bz_step h.bz _) (by rw [h.dn];omega)) (Dint64.bz_step h.bz _)
  ·rcases hfb g hg with h2 | h2
   ·exact h.ge.2 g h2
   ·have:=(h.lt (.inl rfl)).1
    have:=(h.lt (.inl rfl)).2
    omega
 ·refine (((hC1.mono fun _ _ h => h.elim).trans' hc3' fun g _ hg => .inr (.inl hg)).trans' hc5 fun g _ hg => .inr (.inr hg))
 ·rintro g (hg | hg | hg)
  ·exact .inl (.inl hg)
  ·exact .inl (.inr (.inl (cut_foot hk hg)))
  ·exact (hfb g hg).imp (fun h => .inr (.inr h)) id
end
end Go.Proofs.YtehpmbmdadkhbaaGreatDoor

namespace Go.Proofs.YtehpmbmdadkhbaaGreatDoor
open Go.RowKit Pal
attribute [local go_sem] Oper.semAt_some
theorem ens_items (s:Sk) (i j:Int):Sn.ens (items s i j)=sub s.es i j:=by
 unfold items sub
 rw [s.es_len]
 unfold Sn.ens Sk.es
 simp [List.map_take,List.map_drop]
section
variable {w:World} {base:Nat} {x:Ls} {es:List En}
end
end Go.Proofs.YtehpmbmdadkhbaaGreatDoor

namespace Go.Proofs.YtehpmbmdadkhbaaGreatDoor
open Go.RowKit Pal
inductive Fm where
 | p (b:Nat)
 | l (x:Ls)
def Fm.v:Fm→Value
 | .p b => .iface 201 (pt b)
 | .l x => .iface 206 (pt x.blk)
def Fm.foot:Fm→Nat→Prop
 | .p b => fun g => g=b
 | .l x => x.foot
def Fm.is:Fm→Bool
 | .p _ => false
 | .l _ => true
def FmAt (w:World) (base:Nat) (f:Fm) (es:List En):Prop:=match f with
 | .p b => PkAt w b es∧base≤b
 | .l x => LsAt w base x es
structure Zs where
 blk:Nat
 E:Nat
 M:Nat
 seed:Nat
 f:Fm
def Zs.foot (z:Zs) (g:Nat):Prop:=g=z.blk∨z.f.foot g
structure ZsAt (w:World) (base:Nat) (z:Zs) (es:List En):Prop where
 b:Blk w z.blk 104 #[z.f.v,.int .i64 (z.E:Int),.int .i64 (z.M:Int),.int .u32 (z.seed:Int)]
 f:FmAt w base z.f es
 ge:base≤z.blk
 ok:Zok es
 lim:z.E≤200∧z.M≤64∧z.seed<4294967296
section
variable {w w':World} {base:Nat} {f:Fm} {z:Zs} {es:List En}
theorem ls_ty {x:Ls} (h:LsAt w base x es) {g:Nat} (hg:x.foot g):∃ t cs,Blk w g t cs∧(t=212∨t=252∨t=250∨t=256∨t=275∨t=277):=by
 rcases hg with rfl | hg | hg
 ·exact ⟨_,_,h.b,.inl rfl⟩
 ·obtain ⟨t,cs,hb,ht⟩:=sk_ty h.sk hg
  exact ⟨t,cs,hb,by rcases ht with rfl | rfl <;> simp⟩
 ·obtain ⟨t,cs,hb,ht⟩:=dm_ty h.dm hg
  exact ⟨t,cs,hb,by rcases ht with rfl | rfl | rfl <;> simp⟩
theorem fm_ty (h:FmAt w base f es) {g:Nat} (hg:f.foot g):∃ t cs,Blk w g t cs∧(t=204∨t=212∨t=252∨t=250∨t=256∨t=275∨t=277):=by
 cases f with
 | p b =>
  obtain rfl:g=b:=hg
  exact ⟨_,_,h.1.b,.inl rfl⟩
 | l x =>
  obtain ⟨t,cs,hb,ht⟩:=ls_ty h hg
  exact ⟨t,cs,hb,.inr ht⟩
theorem zs_ty (h:ZsAt w base z es) {g:Nat} (hg:z.foot g):∃ t cs,Blk w g t cs∧(t=104∨t=204∨t=212∨t=252∨t=250∨t=256∨t=275∨t=277):=by
 rcases hg with rfl | hg
 ·exact ⟨_,_,h.b,.inl rfl⟩
 ·obtain ⟨t,cs,hb,ht⟩:=fm_ty h.f hg
  exact ⟨t,cs,hb,.inr ht⟩
theorem FmAt.lt (h:FmAt w base f es) {g:Nat} (hg:f.foot g):base≤g∧g<w.heap.size:=by
 cases f with
 | p b =>
  obtain rfl:g=b:=hg
  exact ⟨h.2,h.1.b.lt⟩
 | l x => exact LsAt.lt h hg
theorem ZsAt.lt (h:ZsAt w base z es) {g:Nat} (hg:z.foot g):base≤g∧g<w.heap.size:=by
 rcases hg with rfl | hg
 ·exact ⟨h.ge,h.b.lt⟩
 ·exact h.f.lt hg
theorem FmAt.chg {S:Nat→Prop} (h:FmAt w base f es) (hc:Chg S w w') (hn:∀ g,f.foot g→¬ S g):FmAt w' base f es:=by
 cases f with
 | p b => exact ⟨h.1.chg hc (hn _ rfl),h.2⟩
 | l x => exact LsAt.chg h hc hn
theorem ZsAt.b_f (h:ZsAt w base z es):¬ z.f.foot z.blk:=by
 intro hg
 obtain ⟨t,cs,hb,ht⟩:=fm_ty h.f hg
 refine h.b.ne_type hb ?_ rfl
 rcases ht with rfl | rfl | rfl | rfl | rfl | rfl | rfl <;> decide
theorem ZsAt.chg {S:Nat→Prop} (h:ZsAt w base z es) (hc:Chg S w w') (hn:∀ g,z.foot g→¬ S g):ZsAt w' base z es :=
 { h with b:=h.b.chg hc (hn _ (.inl rfl)),f:=h.f.chg hc fun g hg => hn _ (.inr hg) }
theorem ZsAt.chg0 (h:ZsAt w base z es) (hc:Chg (fun _ => False) w w'):ZsAt w' base z es:=h.chg hc fun _ _ => id
theorem ZsAt.cells (h:ZsAt w base z es):w.cell? ⟨z.blk,0,none⟩=some z.f.v∧w.cell? ⟨z.blk,1,none⟩=some (.int .i64 (z.E:Int))∧w.cell? ⟨z.blk,2,none⟩=some (.int .i64 (z.M:Int))∧w.cell? ⟨z.blk,3,none⟩=some (.int .u32 (z.seed:Int))∧z.blk<w.heap.size:=by
 have h0:=h.b.cell 0
 have h1:=h.b.cell 1
 have h2:=h.b.cell 2
 have h3:=h.b.cell 3
 exact ⟨by simpa using h0,by simpa using h1,by simpa using h2,by simpa using h3,h.b.lt⟩
end
structure Fx (base:Nat) (f f':Fm) (es':List En) (w w':World):Prop where
 at_:FmAt w' base f' es'
 v:f'.v=f.v
 chg:Chg f.foot w w'
 foot:∀ g,f'.foot g→f.foot g∨w.heap.size≤g
structure Zx (base:Nat) (z z':Zs) (es':List En) (w w':World):Prop where
 at_:ZsAt w' base z' es'
 blk:z'.blk=z.blk
 E:z'.E=z.E
 M:z'.M=z.M
 seed:z'.seed=z.seed
 chg:Chg z.foot w w'
 foot:∀ g,z'.foot g→z.foot g∨w.heap.size≤g
section
variable {w w':World} {base:Nat} {z:Zs} {es es':List En}
theorem Fm.is_of {f f':Fm} (h:f'.v=f.v):f'.is=f.is:=by
 cases f <;> cases f' <;> first | rfl | (unfold Fm.v at h;injection h with h1 h2;exact absurd h1 (by decide))
theorem ZsAt.form (h:ZsAt w base z es) {f':Fm} (hx:Fx base z.f f' es' w w') (hz:Zok es'):Zx base z { z with f:=f' } es' w w' where
 at_:={
   b:=by
    have:=h.b.chg hx.chg h.b_f
    show Blk w' z.blk _ #[f'.v,_,_,_]
    rw [hx.v];exact this
   f:=hx.at_
   ge:=h.ge
   ok:=hz
   lim:=h.lim }
 blk:=rfl
 E:=rfl
 M:=rfl
 seed:=rfl
 chg:=hx.chg.mono fun g _ hg => .inr hg
 foot:=fun g hg => hg.elim (fun e => .inl (.inl e)) fun hg => (hx.foot g hg).imp .inr id
theorem LxPost.fx {x:Ls} {v:Option Value} {r:Ending} (h:LxPost base x es' v w r w'):(∃ u,r=.returned u∧∀ y,v=some y→u=y)∧∃ f',Fx base (.l x) f' es' w w':=by
 obtain ⟨h1,x',h2⟩:=h
 exact ⟨h1,.l x',h2.at_,by show Value.iface _ (pt x'.blk)=Value.iface _ (pt x.blk);rw [h2.blk],h2.chg,h2.foot⟩
theorem pk_fx {b:Nat} (h:PkAt w' b es') (hb:base≤b) (hc:Chg (fun g => g=b) w w'):∃ f',Fx base (.p b) f' es' w w':=⟨.p b,⟨h,hb⟩,rfl,hc,fun g hg => .inl hg⟩
theorem Zx.refl (h:ZsAt w base z es):Zx base z z es w w:=⟨h,rfl,rfl,rfl,rfl,Chg.refl _ _,fun _ => .inl⟩
theorem Zx.zero (h:ZsAt w base z es) (hc:Chg (fun _ => False) w w'):Zx base z z es w w':=⟨h.chg0 hc,rfl,rfl,rfl,rfl,hc.mono fun _ _ h => h.elim,fun _ => .inl⟩
theorem Zx.trans {z' z'':Zs} {es'':List En} {w'':World} (h:Zx base z z' es' w w') (k:Zx base z' z'' es'' w' w''):Zx base z z'' es'' w w'' :=
 ⟨k.at_,k.blk.trans h.blk,k.E.trans h.E,k.M.trans h.M,k.seed.trans h.seed,h.chg.trans' k.chg fun g hg hf => (h.foot g hf).elim id fun h2 => by omega,
  fun g hg => (k.foot g hg).elim (h.foot g) fun h2 => .inr (Nat.le_trans h.chg.size h2)⟩
end
end Go.Proofs.YtehpmbmdadkhbaaGreatDoor

namespace Go.Proofs.YtehpmbmdadkhbaaGreatDoor
open Go.RowKit Pal
theorem mp_len (w : World) (b : Nat) : (method 462 201 (.pointer (some ⟨b, 0, none⟩)) "Len").run Tryz.prog w = .ok (196, .pointer (some ⟨b, 0, none⟩)) w := by kernel_rfl
theorem mp_range (w : World) (b : Nat) : (method 462 201 (.pointer (some ⟨b, 0, none⟩)) "Range").run Tryz.prog w = .ok (197, .pointer (some ⟨b, 0, none⟩)) w := by kernel_rfl
theorem mp_score (w : World) (b : Nat) : (method 462 201 (.pointer (some ⟨b, 0, none⟩)) "palio/zset.score").run Tryz.prog w = .ok (201, .pointer (some ⟨b, 0, none⟩)) w := by kernel_rfl
theorem mp_put (w : World) (b : Nat) : (method 462 201 (.pointer (some ⟨b, 0, none⟩)) "palio/zset.put").run Tryz.prog w = .ok (200, .pointer (some ⟨b, 0, none⟩)) w := by kernel_rfl
theorem mp_drop (w : World) (b : Nat) : (method 462 201 (.pointer (some ⟨b, 0, none⟩)) "palio/zset.drop").run Tryz.prog w = .ok (199, .pointer (some ⟨b, 0, none⟩)) w := by kernel_rfl
theorem mp_bytes (w : World) (b : Nat) : (method 462 201 (.pointer (some ⟨b, 0, none⟩)) "palio/zset.bytes").run Tryz.prog w = .ok (198, .pointer (some ⟨b, 0, none⟩)) w := by kernel_rfl
theorem ml_score (w : World) (b : Nat) : (method 462 206 (.pointer (some ⟨b, 0, none⟩)) "palio/zset.score").run Tryz.prog w = .ok (228, .pointer (some ⟨b, 0, none⟩)) w := by kernel_rfl
theorem ml_put (w : World) (b : Nat) : (method 462 206 (.pointer (some ⟨b, 0, none⟩)) "palio/zset.put").run Tryz.prog w = .ok (118, .pointer (some ⟨b, 0, none⟩)) w := by kernel_rfl
theorem ml_drop (w : World) (b : Nat) : (method 462 206 (.pointer (some ⟨b, 0, none⟩)) "palio/zset.drop").run Tryz.prog w = .ok (227, .pointer (some ⟨b, 0, none⟩)) w := by kernel_rfl
theorem ml_bytes (w : World) (b : Nat) : (method 462 206 (.pointer (some ⟨b, 0, none⟩)) "palio/zset.bytes").run Tryz.prog w = .ok (226, .pointer (some ⟨b, 0, none⟩)) w := by kernel_rfl
theorem ta_pp (w:World) (b:Nat):(Instr.typeAssert (.iface 201 (.pointer (some ⟨b,0,none⟩))) 102 201 true).run Tryz.prog w=.ok (.tuple #[.pointer (some ⟨b,0,none⟩),.bool true]) w:=by kernel_rfl
theorem ta_lp (w:World) (b:Nat):(Instr.typeAssert (.iface 206 (.pointer (some ⟨b,0,none⟩))) 102 201 true).run Tryz.prog w=.ok (.tuple #[.pointer none,.bool false]) w:=by kernel_rfl
theorem ml_via1 (w : World) (b : Nat) : (method 462 206 (.pointer (some ⟨b, 0, none⟩)) "Len").run Tryz.prog w = (match w.cell? ⟨b, 0, none⟩ with
  | some v => .ok (224,v) w
  | none => match w.farLoad Tryz.prog ⟨b,0,none⟩ false with
   | .ok (v,_) => .ok (224,v) w
   | .error h => .halt h w):=by kernel_rfl
theorem ml_len (w : World) (b : Nat) (v : Value) (hc : w.cell? ⟨b, 0, none⟩ = some v) : (method 462 206 (.pointer (some ⟨b, 0, none⟩)) "Len").run Tryz.prog w = .ok (224, v) w := by
 rw [ml_via1 w b,hc]
end Go.Proofs.YtehpmbmdadkhbaaGreatDoor

namespace Go.Proofs.YtehpmbmdadkhbaaGreatDoor
open Go.RowKit Pal
attribute [local go_sem] Oper.semAt_some
def sumM (l:List En):Nat:=(l.map (·.m.size)).sum
theorem sumM_take {l:List En} {i:Nat} {e:En} (h:l[i]?=some e):sumM (l.take (i+1))=sumM (l.take i)+e.m.size:=by
 unfold sumM
 rw [List.take_add_one,h,List.map_append,List.sum_append];simp
theorem sumM_le {l:List En} (h:∀ e∈l,e.m.size≤64):sumM l≤l.length * 64:=by
 unfold sumM
 induction l with
 | nil => exact Nat.zero_le _
 | cons e l ih =>
  rw [List.map_cons,List.sum_cons,List.length_cons]
  have:=h e List.mem_cons_self
  have:=ih fun x hx => h x (List.mem_cons_of_mem _ hx)
  omega
theorem clampN_all (n:Nat):clampN n (n:Int)=n:=by unfold clampN;omega
theorem clampN_zero (n:Nat):clampN n 0=0:=by unfold clampN;omega
theorem sub_all (l:List En):sub l 0 (l.length:Int)=l:=by
 unfold sub
 rw [clampN_zero,clampN_all,List.drop_zero]
 exact List.take_of_length_le (by omega)
section
variable {w:World} {base:Nat} {x:Ls} {es:List En}
set_option maxRecDepth 100000 in
set_option maxHeartbeats 1000000 in
theorem msizes_any (v:Value) (l:List En) (w:World) (h:EntsR w v l) (hl:l.length≤400) (hm:∀ e∈l,e.m.size≤64):Calls Tryz.prog 230 #[v] w fun r w' => r=.returned (.int .i64 (sumM l:Int))∧Chg (fun _ => False) w w':=by
 have h0:=h
 obtain ⟨p,c,rfl,h1,h2,_⟩:=h
 go_enter Tryz.func230,Tryz.ntmps230
 go_wp2_with fail
 go_loopg [3,8] l.length (fun k a v W => ∃ i:Nat,v=.int .i64 (i:Int)∧a=.int .i64 (sumM (l.take i):Int)∧k=l.length - i∧i≤l.length∧Chg (fun _ => False) w W)
 case atStart => exact ⟨0,rfl,rfl,rfl,Nat.zero_le _,Chg.refl _ _⟩
 case round =>
  obtain ⟨i,rfl,rfl,rfl,hi,hC⟩:=hrel
  have hbd:=sumM_le (l:=l.take i) fun e he => hm e (List.mem_of_mem_take he)
  rw [List.length_take,Nat.min_eq_left hi] at hbd
  by_cases hil:i<l.length
  ·have h3:(i:Int)<(l.length:Int):=by omega
   have hx:=List.getElem?_eq_getElem hil
   generalize l[i]=e at hx
   have hst:=Lib.hid (sumM_take hx)
   have hem:=hm e (List.mem_of_getElem? hx)
   obtain ⟨b,o,c',he,k1,k2,k3,d0,d1⟩:=(h0.chg0 hC).at_ hx
   injection he with he1 he2 he3
   subst he1
   subst he3
   have hil2:(l.length:Int)≤400:=by omega
   have b1:(sumM (l.take i):Int)≤25600:=by omega
   have b2:(e.m.size:Int)≤64:=by omega
   generalize sumM (l.take i)=S at *
   clear hx he2
   go_wp2_with fail
   go_roundg (l.length - (i+1))
   case rel => exact ⟨i+1,int_eq (by omega),int_eq (by rw [hst.out];omega),rfl,by omega,hC.alloc _⟩
   case measure => omega
  ·obtain rfl:i=l.length:=by omega
   have h3:¬ (l.length:Int)<(l.length:Int):=by omega
   rw [List.take_length]
   go_wp2_with fail
   go_ret
   exact ⟨rfl,hC⟩
set_option maxRecDepth 100000 in
set_option maxHeartbeats 1000000 in
theorem l_bytes (h:LsAt w base x es) (hz:Zok es):Calls Tryz.prog 226 #[pt x.blk] w fun r w' => r=.returned (.int .i64 ((64 * es.length+2 * sumM es:Nat):Int))∧Chg (fun _ => False) w w':=by
 have hlen:x.s.n=es.length:=by rw [← h.eq,x.s.es_len]
 have hn4:=hz.n
 have hle:=fun w (hs:SkAt w base x.s) => len_any x.s w base hs
 have hrg:=fun w (hs:SkAt w base x.s) => range_any x.s 0 (es.length:Int) w base hs (by omega)
 rw [ens_items,h.eq,sub_all] at hrg
 rw [hlen] at hle
 have hbd:=sumM_le (l:=es) fun e he => (hz.ok e he).1
 have hsz:=fun v w (hv:EntsR w v es) => msizes_any v es w hv (by omega) fun e he => (hz.ok e he).1
 have hgen:∀ W',Chg (fun _ => False) w W'→W'.cell? ⟨x.blk,0,none⟩=some (pt x.s.blk):=fun W' hc => (h.chg0 hc).cells.1
 have hsk:∀ W',Chg (fun _ => False) w W'→SkAt W' base x.s:=fun W' hc => (h.chg0 hc).sk
 obtain ⟨c0,_,l0⟩:=h.cells
 have b1:(sumM es:Int)≤25600:=by omega
 have b2:(es.length:Int)≤400:=by omega
 unfold RgPost at hrg
 clear hlen hbd
 generalize sumM es=S at *
 have n1:IntKind.i64.wrap (64 * (es.length:Int))=64 * (es.length:Int):=IntWalk.i64_in _ (by omega)
 have n2:IntKind.i64.wrap (2 * (S:Int))=2 * (S:Int):=IntWalk.i64_in _ (by omega)
 have n3:IntKind.i64.wrap (64 * (es.length:Int)+2 * (S:Int))=64 * (es.length:Int)+2 * (S:Int):=IntWalk.i64_in _ (by omega)
 unfold pt at *
 go_enter Tryz.func226,Tryz.ntmps226
 go_wp2_with fail
 go_region_held3 (fun W' => W'.cell? ⟨x.blk,0,none⟩=some (.pointer (some ⟨x.s.blk,0,none⟩))) (first | exact hgen _ (Chg.refl _ _).drew | exact hgen _ hc5 | exact hgen _ hc6 | fail) (first | (go_at_call 224;refine (hle _ (hsk _ (by first | exact (Chg.refl _ _).drew | exact hc6 | exact hc5))).mono ?_;rintro r w' ⟨rfl,rfl⟩) | (go_at_call 225;refine (hrg _ (hsk _ (Chg.refl _ _).drew)).mono ?_;rintro r w5 ⟨⟨v,rfl,hv⟩,hC⟩;have hc5:Chg (fun _ => False) w w5:=(Chg.refl _ _).drew.trans hC) | (go_at_call 230;refine (hsz _ _ hv.r).mono ?_;rintro r w6 ⟨rfl,hC6⟩;have hc6:Chg (fun _ => False) w w6:=hc5.trans hC6) | fail)
 all_goals
  go_wp2_with fail
  go_ret
  exact ⟨ret_int' (by omega),hc6⟩
end
end Go.Proofs.YtehpmbmdadkhbaaGreatDoor

namespace Go.Proofs.YtehpmbmdadkhbaaGreatDoor
open Go.RowKit Pal
attribute [local go_sem] Oper.semAt_some
def bytesZ (es:List En) (is:Bool):Nat:=if is then 64 * es.length+2 * sumM es else 2+10 * es.length+sumM es
theorem encs_len (l:List En):(encs l).length=10 * l.length+sumM l:=by
 unfold encs sumM
 induction l with
 | nil => rfl
 | cons e l ih => rw [List.flatMap_cons,List.length_append,ih,encE_len,List.length_cons,List.map_cons,List.sum_cons];omega
section
variable {w:World} {base:Nat} {z:Zs} {es:List En}
set_option maxRecDepth 100000 in
theorem z_len (h:ZsAt w base z es):Calls Tryz.prog 27 #[pt z.blk] w fun r w' => r=.returned (.int .i64 (es.length:Int))∧Chg (fun _ => False) w w':=by
 obtain ⟨c0,_,_,_,l0⟩:=h.cells
 obtain ⟨zb,E,M,sd,f⟩:=z
 cases f with
 | p b =>
  obtain ⟨hp,_⟩:=h.f
  have hl:=p_len hp
  have hm:=fun w => mp_len w b
  unfold Fm.v pt at *
  go_enter Tryz.func27,Tryz.ntmps27
  go_wp2_with (go_at_call 196;refine hl.mono ?_;rintro r w1 ⟨rfl,hC⟩)
  go_ret
  exact ⟨rfl,hC⟩
 | l x =>
  have hp:LsAt w base x es:=h.f
  have hl:=len_any x.s w base hp.sk
  obtain ⟨d0,d1,dl⟩:=hp.cells
  have hm:=ml_len w x.blk _ d0
  rw [← x.s.es_len,hp.eq] at hl
  unfold Fm.v pt at *
  go_enter Tryz.func27,Tryz.ntmps27
  go_wp2_with (go_at_call 224;refine hl.mono ?_;rintro r w1 ⟨rfl,rfl⟩)
  go_ret
  exact ⟨rfl,Chg.refl _ _⟩
set_option maxRecDepth 100000 in
theorem z_bytes (h:ZsAt w base z es):Calls Tryz.prog 28 #[pt z.blk] w fun r w' => r=.returned (.int .i64 (bytesZ es z.f.is:Int))∧Chg (fun _ => False) w w':=by
 obtain ⟨c0,_,_,_,l0⟩:=h.cells
 have hz:=h.ok
 obtain ⟨zb,E,M,sd,f⟩:=z
 cases f with
 | p b =>
  obtain ⟨hp,_⟩:=h.f
  have hl:=p_bytes hp
  rw [pk_size,encs_len,← Nat.add_assoc] at hl
  have hm:=fun w => mp_bytes w b
  unfold Fm.v pt at *
  go_enter Tryz.func28,Tryz.ntmps28
  go_wp2_with (go_at_call 198;refine hl.mono ?_;rintro r w1 ⟨rfl,rfl⟩)
  go_ret
  exact ⟨rfl,Chg.refl _ _⟩
 | l x =>
  have hp:LsAt w base x es:=h.f
  have hl:=l_bytes hp hz
  have hm:=fun w => ml_bytes w x.blk
  unfold Fm.v pt at *
  go_enter Tryz.func28,Tryz.ntmps28
  go_wp2_with (go_at_call 226;refine hl.mono ?_;rintro r w1 ⟨rfl,hC⟩)
  go_ret
  exact ⟨rfl,hC⟩
end
end Go.Proofs.YtehpmbmdadkhbaaGreatDoor

namespace Go.Proofs.YtehpmbmdadkhbaaGreatDoor
open Go.RowKit Pal
structure Ct where
 key:ByteArray
 es:List En
 is:Bool
 u:Us
def Ct.size (c:Ct):Nat:=48+c.key.size+bytesZ c.es c.is
def sizeC (l:List Ct):Nat:=64+(l.map Ct.size).sum
def keysC (l:List Ct):List ByteArray:=l.map Ct.key
def putsE (E M:Nat) (xs:List En):List En × Bool:=xs.foldl (fun p e => (addL p.1 e.m e.s 1,addI p.1 e.m e.s 1 E M p.2)) ([],false)
def putC (E M:Nat) (l:List Ct) (k:ByteArray) (xs:List En) (now:Int):List Ct :=
 match findK Ct.key l k with
 | some c => updK Ct.key l { c with es:=(putsE E M xs).1,is:=(putsE E M xs).2 }
 | none => insK Ct.key ⟨k,(putsE E M xs).1,(putsE E M xs).2,⟨5,now⟩⟩ l
def tchC (l:List Ct) (k:ByteArray) (now:Int) (draw:Nat):List Ct :=
 match findK Ct.key l k with
 | some c => match tchU c.u now draw with
  | some u => updK Ct.key l { c with u:=u }
  | none => l
 | none => l
def samplesL (keys:List ByteArray) (ds:List Nat):List ByteArray:=if keys=[] then [] else (List.range 5).map fun i => keys.getD (ds.getD i 0 % keys.length) ⟨#[]⟩
def useC (l:List Ct) (k:ByteArray):Us:=((findK Ct.key l k).map Ct.u).getD ⟨0,0⟩
def cntsU (now:Int):List Us→Option (List Int)
 | [] => some []
 | u :: l => match cntU u now with
  | none => none
  | some n => (cntsU now l).map (n :: ·)
def chooseC (l:List Ct) (now:Int) (ds:List Nat):ByteArray × Int :=
 if l=[] then (⟨#[]⟩,150) else
 match cntsU now ((samplesL (keysC l) ds).map (useC l)) with
 | none => (⟨#[]⟩,130)
 | some ns => ((samplesL (keysC l) ds).getD (leastL ns) ⟨#[]⟩,0)
def roomC (most now:Int):Nat→List Ct→List Nat→List ByteArray × Int × List Ct
 | 0,l,_ => ([],if most<(sizeC l:Int) then 150 else 0,l)
 | n+1,l,ds =>
  if most<(sizeC l:Int)∧l≠[] then
   if (chooseC l now (ds.take 5)).2=0 then
    let r:=roomC most now n (cutK Ct.key l (chooseC l now (ds.take 5)).1) (ds.drop 5)
    ((chooseC l now (ds.take 5)).1 :: r.1,r.2.1,r.2.2)
   else ([],(chooseC l now (ds.take 5)).2,l)
  else ([],if most<(sizeC l:Int) then 150 else 0,l)
theorem getD_at {α:Type} (l:List α) (d:α) {i:Nat} (h:i<l.length):l.getD i d=l[i]:=by rw [List.getD_eq_getElem?_getD,List.getElem?_eq_getElem h];rfl
theorem samplesL_len {keys:List ByteArray} (h:keys≠[]) (ds:List Nat):(samplesL keys ds).length=5:=by
 unfold samplesL;rw [if_neg h];simp
theorem samplesL_mem {keys:List ByteArray} {ds:List Nat} {k:ByteArray} (h:k∈samplesL keys ds):k∈keys:=by
 unfold samplesL at h
 split at h
 ·cases h
 ·rename_i hne
  obtain ⟨i,_,rfl⟩:=List.mem_map.1 h
  have h0:0<keys.length:=List.length_pos_iff.2 hne
  have hm:=Nat.mod_lt (ds.getD i 0) h0
  rw [getD_at _ _ hm]
  exact List.getElem_mem hm
theorem cntsU_some {now:Int}:∀ {us:List Us},(∀ u∈us,u.a≤now)→∃ ns:List Int,cntsU now us=some ns∧ns.length=us.length∧∀ (i:Nat) (u:Us),us[i]?=some u→∃ n:Int,ns[i]?=some n∧cntU u now=some n
 | [],_ => ⟨[],rfl,rfl,fun i u h => by simp at h⟩
 | u :: us,h => by
  obtain ⟨ns,h1,h2,h3⟩:=cntsU_some (us:=us) fun u hu => h u (List.mem_cons_of_mem _ hu)
  have hc:∃ n,cntU u now=some n:=by
   unfold cntU
   rw [if_neg (by have:=h u (List.mem_cons_self);omega)]
   exact ⟨_,rfl⟩
  obtain ⟨n,hn⟩:=hc
  refine ⟨n :: ns,by unfold cntsU;rw [hn,h1];rfl,by simp [h2],fun i v hi => ?_⟩
  cases i with
  | zero =>
   simp only [List.getElem?_cons_zero,Option.some.injEq] at hi
   subst hi
   exact ⟨n,rfl,hn⟩
  | succ i => exact h3 i v (by simpa using hi)
theorem cntsU_none {now:Int}:∀ {us:List Us},(∃ u∈us,now<u.a)→cntsU now us=none
 | [],h => by obtain ⟨_,h,_⟩:=h;cases h
 | u :: us,h => by
  unfold cntsU
  cases hc:cntU u now with
  | none => rfl
  | some n =>
   obtain ⟨v,hv,hlt⟩:=h
   rcases List.mem_cons.1 hv with rfl | hv
   ·rw [cntU_none.2 hlt] at hc;cases hc
   ·show Option.map _ _=none
    rw [cntsU_none ⟨v,hv,hlt⟩];rfl
theorem cntsU_len {now:Int}:∀ {us:List Us} {ns:List Int},cntsU now us=some ns→ns.length=us.length
 | [],ns,h => by unfold cntsU at h;injection h with h;rw [← h];rfl
 | u :: us,ns,h => by
  unfold cntsU at h
  cases hc:cntU u now with
  | none => rw [hc] at h;cases h
  | some n =>
   rw [hc] at h
   cases hr:cntsU now us with
   | none => rw [hr] at h;cases h
   | some m =>
    rw [hr] at h
    injection h with h
    rw [← h,List.length_cons,List.length_cons,cntsU_len hr]
theorem cntsU_le {now:Int}:∀ {us:List Us} {ns:List Int},(∀ u∈us,u.Ok)→cntsU now us=some ns→∀ n∈ns,n≤255
 | [],ns,_,h => by unfold cntsU at h;injection h with h;rw [← h];simp
 | u :: us,ns,hok,h => by
  unfold cntsU at h
  cases hc:cntU u now with
  | none => rw [hc] at h;cases h
  | some n =>
   rw [hc] at h
   cases hr:cntsU now us with
   | none => rw [hr] at h;cases h
   | some m =>
    rw [hr] at h
    injection h with h
    intro x hx
    rw [← h] at hx
    rcases List.mem_cons.1 hx with rfl | hx
    ·exact (cntU_le (hok u (List.mem_cons_self)) hc).2.1
    ·exact cntsU_le (fun v hv => hok v (List.mem_cons_of_mem _ hv)) hr x hx
theorem chooseC_mem {l:List Ct} (hu:∀ c∈l,c.u.Ok) {now:Int} {ds:List Nat} (h:(chooseC l now ds).2=0):(chooseC l now ds).1∈samplesL (keysC l) ds∧(chooseC l now ds).1∈keysC l:=by
 have hm:(chooseC l now ds).1∈samplesL (keysC l) ds:=by
  unfold chooseC at h ⊢
  split at h
  ·cases h
  ·rename_i hne
   rw [if_neg hne]
   have hk:keysC l≠[]:=by unfold keysC;simpa using hne
   cases hc:cntsU now ((samplesL (keysC l) ds).map (useC l)) with
   | none => rw [hc] at h;cases h
   | some ns =>
    have hl:=cntsU_len hc
    rw [List.length_map,samplesL_len hk] at hl
    have hok:∀ u∈(samplesL (keysC l) ds).map (useC l),u.Ok:=by
     intro u hu2
     obtain ⟨k,_,rfl⟩:=List.mem_map.1 hu2
     unfold useC
     cases hf:findK Ct.key l k with
     | none => exact ⟨by decide,by decide⟩
     | some c => exact hu c (List.mem_of_find?_eq_some hf)
    have hlt:=leastL_lt (l:=ns) (by intro e;rw [e] at hl;cases hl) (cntsU_le hok hc)
    show (samplesL (keysC l) ds).getD (leastL ns) ⟨#[]⟩∈_
    rw [getD_at _ _ (by rw [samplesL_len hk];omega)]
    exact List.getElem_mem _
 exact ⟨hm,samplesL_mem hm⟩
end Go.Proofs.YtehpmbmdadkhbaaGreatDoor

namespace Go.Proofs.YtehpmbmdadkhbaaGreatDoor
open Go.RowKit Pal
theorem zero_ok:Us.Ok ⟨5,0⟩:=⟨by decide,by decide⟩
structure Cok (l:List Ct):Prop where
 so:SoK Ct.key l
 u:∀ c∈l,c.u.Ok
 k:∀ c∈l,c.key.size≤64
 z:∀ c∈l,Zok c.es
theorem Cok.nil:Cok []:=⟨List.Pairwise.nil,nofun,nofun,nofun⟩
theorem zok_nil:Zok []:=⟨List.Pairwise.nil,List.nodup_nil,nofun,Nat.zero_le _⟩
theorem putsE_ok {E M:Nat} {xs:List En} (hx:∀ e∈xs,-9223372036854775808≤e.s∧e.s≤9223372036854775807):Zok (putsE E M xs).1:=by
 unfold putsE
 suffices h:∀ (xs:List En) (p:List En × Bool),(∀ e∈xs,-9223372036854775808≤e.s∧e.s≤9223372036854775807)→Zok p.1→Zok (xs.foldl (fun p e => (addL p.1 e.m e.s 1,addI p.1 e.m e.s 1 E M p.2)) p).1 from h xs _ hx zok_nil
 intro xs
 induction xs with
 | nil => intro p _ hp;exact hp
 | cons e xs ih =>
  intro p hx hp
  exact ih _ (fun e he => hx e (List.mem_cons_of_mem _ he)) (addL_ok hp (hx e (List.mem_cons_self)))
theorem Cok.upd {l:List Ct} (h:Cok l) {c:Ct} (hu:c.u.Ok) (hk:c.key.size≤64) (hz:Zok c.es):Cok (updK Ct.key l c):=by
 refine ⟨updK_so h.so c,?_,?_,?_⟩ <;>
 ·intro x hx
  rcases mem_updK hx with rfl | ⟨hx,_⟩
  ·assumption
  ·first | exact h.u x hx | exact h.k x hx | exact h.z x hx
theorem Cok.ins {l:List Ct} (h:Cok l) {c:Ct} (hu:c.u.Ok) (hk:c.key.size≤64) (hz:Zok c.es) (hno:findK Ct.key l c.key=none):Cok (insK Ct.key c l):=by
 refine ⟨insK_so h.so (findK_none.1 hno),?_,?_,?_⟩ <;>
 ·intro x hx
  rcases mem_insK.1 hx with rfl | hx
  ·assumption
  ·first | exact h.u x hx | exact h.k x hx | exact h.z x hx
theorem Cok.cut {l:List Ct} (h:Cok l) (k:ByteArray):Cok (cutK Ct.key l k) :=
 ⟨cutK_so h.so k,fun x hx => h.u x (mem_cutK.1 hx).1,fun x hx => h.k x (mem_cutK.1 hx).1,fun x hx => h.z x (mem_cutK.1 hx).1⟩
theorem Cok.find {l:List Ct} (h:Cok l) {k:ByteArray} {c:Ct} (hf:findK Ct.key l k=some c):c∈l∧c.key=k:=(findK_some h.so).1 hf
theorem putC_ok {l:List Ct} (h:Cok l) {E M:Nat} {k:ByteArray} (hk:k.size≤64) {xs:List En} (hx:∀ e∈xs,-9223372036854775808≤e.s∧e.s≤9223372036854775807):Cok (putC E M l k xs 0):=by
 unfold putC
 split
 ·rename_i c hc
  exact h.upd (h.u c (h.find hc).1) (h.k c (h.find hc).1) (putsE_ok hx)
 ·rename_i hc
  exact h.ins zero_ok hk (putsE_ok hx) hc
theorem putC_len {l:List Ct} {E M:Nat} {k:ByteArray} {xs:List En} {now:Int}:(putC E M l k xs now).length≤l.length+1:=by
 unfold putC
 split
 ·rw [updK_len];omega
 ·rw [insK_len];exact Nat.le_refl _
theorem tchC_ok {l:List Ct} (h:Cok l) {k:ByteArray} {now:Int} (hw:now≤9223372036854775807) {draw:Nat}:Cok (tchC l k now draw):=by
 unfold tchC
 split
 ·rename_i c hc
  split
  ·rename_i u hu
   exact h.upd (tchU_ok (h.u c (h.find hc).1) hw hu).1 (h.k c (h.find hc).1) (h.z c (h.find hc).1)
  ·exact h
 ·exact h
theorem tchC_len {l:List Ct} {k:ByteArray} {now:Int} {draw:Nat}:(tchC l k now draw).length=l.length:=by
 unfold tchC
 split
 ·split
  ·exact updK_len ..
  ·rfl
 ·rfl
structure Kk where
 N:ByteArray
 M:Nat
 T:Nat
def entsK (r:Nat):List En:=(List.range r).map fun j => ⟨⟨#[UInt8.ofNat (97+j)]⟩,(j:Int)⟩
theorem entsK_s {r:Nat} (hr:r≤1000):∀ e∈entsK r,-9223372036854775808≤e.s∧e.s≤9223372036854775807:=by
 intro e he
 obtain ⟨j,hj,rfl⟩:=List.mem_map.1 he
 have:=List.mem_range.1 hj
 exact ⟨by show _≤(j:Int);omega,by show (j:Int)≤_;omega⟩
def tchs (l:List Ct) (k:ByteArray):Nat→List Ct
 | 0 => l
 | n+1 => tchC (tchs l k n) k 9 0
def oneK (E M:Nat) (l:List Ct) (k:Kk):List Ct:=tchs (putC E M l k.N (entsK k.M) 0) k.N k.T
def madeK (E M:Nat) (ks:List Kk):List Ct:=ks.foldl (oneK E M) []
theorem tchs_ok {l:List Ct} (h:Cok l) (k:ByteArray):∀ n,Cok (tchs l k n)
 | 0 => h
 | n+1 => tchC_ok (tchs_ok h k n) (by decide)
theorem tchs_len {l:List Ct} (k:ByteArray):∀ n,(tchs l k n).length=l.length
 | 0 => rfl
 | n+1 => tchC_len.trans (tchs_len k n)
theorem oneK_ok {E M:Nat} {l:List Ct} (h:Cok l) {k:Kk} (hk:k.N.size≤64) (hm:k.M≤1000):Cok (oneK E M l k):=tchs_ok (putC_ok h hk (entsK_s hm)) k.N k.T
theorem oneK_len {E M:Nat} {l:List Ct} {k:Kk}:(oneK E M l k).length≤l.length+1:=by
 unfold oneK;rw [tchs_len];exact putC_len
theorem madeK_snoc (E M:Nat) (ks:List Kk) (k:Kk):madeK E M (ks++[k])=oneK E M (madeK E M ks) k:=by unfold madeK;rw [List.foldl_append];rfl
def Late (a:Int) (l:List Ct):Prop:=∀ c∈l,c.u.a≤a
theorem Late.put {l:List Ct} (h:Late 9 l) {E M:Nat} {k:ByteArray} {xs:List En}:Late 9 (putC E M l k xs 0):=by
 unfold putC
 intro x hx
 split at hx
 ·rename_i c hc
  rcases mem_updK hx with rfl | ⟨hx,_⟩
  ·exact h c (List.mem_of_find?_eq_some hc)
  ·exact h x hx
 ·rcases mem_insK.1 hx with rfl | hx
  ·exact (by decide:(0:Int)≤9)
  ·exact h x hx
theorem tchU_a {u u':Us} {now:Int} {draw:Nat} (h:tchU u now draw=some u'):u'.a=now:=by
 unfold tchU at h
 cases hc:cntU u now with
 | none => rw [hc] at h;cases h
 | some n => rw [hc] at h;injection h with h;rw [← h]
theorem Late.tch {l:List Ct} (h:Late 9 l) {k:ByteArray} {draw:Nat}:Late 9 (tchC l k 9 draw):=by
 unfold tchC
 split
 ·split
  ·rename_i u hu
   intro x hx
   rcases mem_updK hx with rfl | ⟨hx,_⟩
   ·exact Int.le_of_eq (tchU_a hu)
   ·exact h x hx
  ·exact h
 ·exact h
theorem Late.tchs {l:List Ct} (h:Late 9 l) (k:ByteArray):∀ n,Late 9 (tchs l k n)
 | 0 => h
 | n+1 => (Late.tchs h k n).tch
theorem Late.one {E M:Nat} {l:List Ct} (h:Late 9 l) (k:Kk):Late 9 (oneK E M l k):=h.put.tchs _ _
theorem made_late (E M:Nat) (ks:List Kk):Late 9 (madeK E M ks):=by
 unfold madeK
 suffices h:∀ (ks:List Kk) (l:List Ct),Late 9 l→Late 9 (ks.foldl (oneK E M) l) from h ks [] nofun
 intro ks
 induction ks with
 | nil => intro l h;exact h
 | cons k ks ih => intro l h;exact ih _ (h.one k)
end Go.Proofs.YtehpmbmdadkhbaaGreatDoor

namespace Go.Proofs.YtehpmbmdadkhbaaGreatDoor
open Go.RowKit Pal
theorem useC_some {l:List Ct} (h:Cok l) {k:ByteArray} (hk:k∈keysC l):∃ c∈l,c.key=k∧findK Ct.key l k=some c∧useC l k=c.u:=by
 obtain ⟨c,hc,rfl⟩:=List.mem_map.1 hk
 have hf:findK Ct.key l (Ct.key c)=some c:=(findK_some h.so).2 ⟨hc,rfl⟩
 exact ⟨c,hc,rfl,hf,by unfold useC;rw [hf];rfl⟩
theorem chooseC_some {l:List Ct} (h:Cok l) {now:Int} (late:Late now l) (hne:l≠[]) (ds:List Nat) :
  (chooseC l now ds).2=0∧∃ n0,cntU (useC l (chooseC l now ds).1) now=some n0∧∀ k∈samplesL (keysC l) ds,∃ n,cntU (useC l k) now=some n∧n0≤n:=by
 have hk:keysC l≠[]:=by unfold keysC;simpa using hne
 have hlen:=samplesL_len hk ds
 have hu:∀ u∈(samplesL (keysC l) ds).map (useC l),u.a≤now∧u.Ok:=by
  intro u hu
  obtain ⟨k,hk2,rfl⟩:=List.mem_map.1 hu
  obtain ⟨c,hc,_,_,e⟩:=useC_some h (samplesL_mem hk2)
  rw [e]
  exact ⟨late c hc,h.u c hc⟩
 obtain ⟨ns,h1,h2,h3⟩:=cntsU_some fun u hu2 => (hu u hu2).1
 have hns:ns≠[]:=by
  intro e
  rw [e,List.length_map,hlen] at h2
  cases h2
 have hle:∀ n∈ns,n≤255:=cntsU_le (fun u hu2 => (hu u hu2).2) h1
 obtain ⟨m,hm,hmin⟩:=leastL_spec hns hle
 have e:chooseC l now ds=((samplesL (keysC l) ds).getD (leastL ns) ⟨#[]⟩,0):=by
  unfold chooseC
  rw [if_neg hne,h1]
 rw [e]
 have hlt:=(List.getElem?_eq_some_iff.1 hm).1
 rw [h2,List.length_map] at hlt
 refine ⟨rfl,m,?_,?_⟩
 ·show cntU (useC l ((samplesL (keysC l) ds).getD (leastL ns) ⟨#[]⟩)) now=some m
  rw [getD_at _ _ hlt]
  obtain ⟨n,hn,hc⟩:=h3 (leastL ns) (useC l ((samplesL (keysC l) ds)[leastL ns])) (by rw [List.getElem?_map,List.getElem?_eq_getElem hlt];rfl)
  rw [hm] at hn
  injection hn with hn
  rw [hn];exact hc
 ·intro k hk2
  obtain ⟨i,hi,rfl⟩:=List.getElem_of_mem hk2
  obtain ⟨n,hn,hc⟩:=h3 i (useC l ((samplesL (keysC l) ds)[i])) (by rw [List.getElem?_map,List.getElem?_eq_getElem hi];rfl)
  exact ⟨n,hc,hmin n (List.mem_of_getElem? hn)⟩
theorem chooseC_late {l:List Ct} (h:Cok l) {now:Int} (late:∀ c∈l,now<c.u.a) (hne:l≠[]) (ds:List Nat):(chooseC l now ds).2=130:=by
 have hk:keysC l≠[]:=by unfold keysC;simpa using hne
 have hlen:=samplesL_len hk ds
 have:cntsU now ((samplesL (keysC l) ds).map (useC l))=none:=by
  refine cntsU_none ?_
  have hm:(samplesL (keysC l) ds)[0]'(by omega)∈samplesL (keysC l) ds:=List.getElem_mem _
  obtain ⟨c,hc,_,_,e⟩:=useC_some h (samplesL_mem hm)
  exact ⟨_,List.mem_map.2 ⟨_,hm,rfl⟩,by rw [e];exact late c hc⟩
 unfold chooseC
 rw [if_neg hne,this]
theorem chooseC_nil (now:Int) (ds:List Nat):chooseC [] now ds=(⟨#[]⟩,150):=rfl
def goneC (most:Int):List Ct→List ByteArray→Prop
 | _,[] => True
 | l,k :: ks => most<(sizeC l:Int)∧(findK Ct.key l k).isSome=true∧goneC most (cutK Ct.key l k) ks
def cutsC (l:List Ct) (ks:List ByteArray):List Ct:=ks.foldl (fun l k => cutK Ct.key l k) l
theorem roomC_gone {most now:Int}:∀ (n:Nat) (l:List Ct) (ds:List Nat),Cok l→goneC most l (roomC most now n l ds).1∧(roomC most now n l ds).2.2=cutsC l (roomC most now n l ds).1
 | 0,l,ds,_ => ⟨trivial,rfl⟩
 | n+1,l,ds,h => by
  unfold roomC
  by_cases h1:most<(sizeC l:Int)∧l≠[]
  ·rw [if_pos h1]
   by_cases h2:(chooseC l now (ds.take 5)).2=0
   ·rw [if_pos h2]
    have hm:=(chooseC_mem h.u h2).2
    obtain ⟨c,_,_,hf,_⟩:=useC_some h hm
    obtain ⟨h3,h4⟩:=roomC_gone (most:=most) (now:=now) n (cutK Ct.key l (chooseC l now (ds.take 5)).1) (ds.drop 5) (h.cut _)
    exact ⟨⟨h1.1,by rw [hf];rfl,h3⟩,h4⟩
   ·rw [if_neg h2];exact ⟨trivial,rfl⟩
  ·rw [if_neg h1];exact ⟨trivial,rfl⟩
theorem cutsC_ok {l:List Ct} (h:Cok l) (ks:List ByteArray):Cok (cutsC l ks):=by
 unfold cutsC
 induction ks generalizing l with
 | nil => exact h
 | cons k ks ih => exact ih (h.cut k)
theorem cutsC_sub {l:List Ct} (ks:List ByteArray):∀ c∈cutsC l ks,c∈l:=by
 unfold cutsC
 induction ks generalizing l with
 | nil => exact fun c h => h
 | cons k ks ih => exact fun c h => (mem_cutK.1 (ih c h)).1
theorem roomC_ends {most now:Int}:∀ (n:Nat) (l:List Ct) (ds:List Nat),Cok l→Late now l→l.length≤n →
  (((roomC most now n l ds).2.1=0∧(sizeC (roomC most now n l ds).2.2:Int)≤most)∨((roomC most now n l ds).2.1=150∧(roomC most now n l ds).2.2=[]∧most<(sizeC (roomC most now n l ds).2.2:Int)))
 | 0,l,ds,h,_,hn => by
  have:l=[]:=List.eq_nil_of_length_eq_zero (by omega)
  subst this
  unfold roomC
  by_cases hm:most<(sizeC []:Int)
  ·exact .inr ⟨if_pos hm,rfl,hm⟩
  ·exact .inl ⟨if_neg hm,by show (sizeC []:Int)≤most;omega⟩
 | n+1,l,ds,h,late,hn => by
  unfold roomC
  by_cases h1:most<(sizeC l:Int)∧l≠[]
  ·rw [if_pos h1]
   obtain ⟨h2,_⟩:=chooseC_some h late h1.2 (ds.take 5)
   rw [if_pos h2]
   have hm:=(chooseC_mem h.u h2).2
   obtain ⟨c,hc,_,hf,_⟩:=useC_some h hm
   have hlen:=cutK_len h.so (chooseC l now (ds.take 5)).1
   rw [hf] at hlen
   have hpos:0<l.length:=List.length_pos_of_mem hc
   exact roomC_ends n _ _ (h.cut _) (fun c hc => late c (mem_cutK.1 hc).1) (by rw [hlen];simp only [Option.isSome_some,if_true];omega)
  ·rw [if_neg h1]
   by_cases hm:most<(sizeC l:Int)
   ·have:l=[]:=Classical.byContradiction fun e => h1 ⟨hm,e⟩
    exact .inr ⟨if_pos hm,this,hm⟩
   ·exact .inl ⟨if_neg hm,by show (sizeC l:Int)≤most;omega⟩
end Go.Proofs.YtehpmbmdadkhbaaGreatDoor

namespace Go.Proofs.YtehpmbmdadkhbaaGreatDoor
open Go.RowKit Pal
attribute [local go_sem] Oper.semAt_some
def ZPost (base:Nat) (z:Zs) (es':List En) (is:Bool) (v:Option Value) (w:World) (r:Ending) (w':World):Prop:=(∃ u,r=.returned u∧∀ y,v=some y→u=y)∧∃ z',Zx base z z' es' w w'∧z'.f.is=is
section
variable {w w':World} {base:Nat} {z:Zs} {es:List En}
theorem look_ok (h:Zok es) {m:ByteArray} {s:Int} (hl:lookE es m=some s):EnOk ⟨m,s⟩∧(⟨m,s⟩:En)∈es:=by
 have:=(lookE_some h.nd).1 hl
 exact ⟨h.ok _ this,this⟩
end
end Go.Proofs.YtehpmbmdadkhbaaGreatDoor

namespace Go.Proofs.YtehpmbmdadkhbaaGreatDoor
open Go.RowKit Pal
attribute [local go_sem] Oper.semAt_some
structure FCall (f:Fm) (nm:String) (args:List Value) (w:World) (Q:Ending→World→Prop) (T:TypeId) (v:Value) (fid:Nat) (rc:Value):Prop where
 fv:f.v=.iface T v
 en:∀ args w,(callFunc fid args).run Tryz.prog w=.ok (.enter fid args) w
 me:(method 462 T v nm).run Tryz.prog w=.ok (fid,rc) w
 call:Calls Tryz.prog fid (rc :: args).toArray w Q
section
variable {w w':World} {base:Nat} {f:Fm} {es:List En}
theorem lx_fx {x:Ls} {es':List En} {v:Option Value} {r:Ending} (h:LxPost base x es' v w r w'):(∃ u,r=.returned u∧∀ y,v=some y→u=y)∧∃ f',Fx base (.l x) f' es' w w':=LxPost.fx h
set_option maxRecDepth 100000 in
theorem f_score (h : FmAt w base f es) (m : ByteArray) (hm : m.size ≤ 9223372036854775807) : ∃ T v fid rc, FCall f "palio/zset.score" [.string m] w (fun r w' => (r = .returned (.tuple #[.int .i64 ((lookE es m).getD 0), .bool (lookE es m).isSome])) ∧ ∃ f', Fx base f f' es w w') T v fid rc := by
 cases f with
 | p b => exact ⟨_,_,_,_,rfl,enters_of Tryz.func201 (by kernel_rfl) rfl,mp_score w b,(p_score h.1 m).mono fun r w' ⟨h1,h2⟩ => ⟨h1,pk_fx (h.1.chg h2 id) h.2 (h2.mono fun _ _ h => h.elim)⟩⟩
 | l x => exact ⟨_,_,_,_,rfl,enters_of Tryz.func228 (by kernel_rfl) rfl,ml_score w x.blk,(l_score h m hm).mono fun r w' h => by
   obtain ⟨⟨u,rfl,hu⟩,h2⟩:=lx_fx h
   obtain rfl:=hu _ rfl
   exact ⟨rfl,h2⟩⟩
set_option maxRecDepth 100000 in
theorem f_drop (h : FmAt w base f es) (hz : Zok es) (e : En) (he : e ∈ es) : ∃ T v fid rc, FCall f "palio/zset.drop" [e.val] w (fun r w' => (∃ u, r = .returned u) ∧ ∃ f', Fx base f f' (delE es (ahead es e)) w w') T v fid rc := by
 cases f with
 | p b =>
  have hl:=(lookE_some hz.nd).2 (show (⟨e.m,e.s⟩:En)∈es from he)
  have hk:=(List.getElem?_eq_some_iff.1 (look_at hz hl)).1
  exact ⟨_,_,_,_,rfl,enters_of Tryz.func199 (by kernel_rfl) rfl,mp_drop w b,(p_drop h.1 e (ahead es e) hk (findI_at hz hl)).mono fun r w' ⟨h1,h2,h3⟩ => ⟨h1,pk_fx h2 h.2 h3⟩⟩
 | l x => exact ⟨_,_,_,_,rfl,enters_of Tryz.func227 (by kernel_rfl) rfl,ml_drop w x.blk,(l_drop h hz e he).mono fun r w' h => by
   obtain ⟨⟨u,rfl,hu⟩,h2⟩:=lx_fx h
   exact ⟨⟨_,rfl⟩,h2⟩⟩
set_option maxRecDepth 100000 in
theorem f_put (h : FmAt w base f es) (hz : Zok es) (e : En) (l : Nat) (hl : 1 ≤ l ∧ l ≤ 32) (hne : e.m ∉ es.map (·.m)) (he : EnOk e) (h2 : f.is = false → es.length < 200) : ∃ T v fid rc, FCall f "palio/zset.put" [e.val, .int .i64 (l : Int)] w (fun r w' => (∃ u, r = .returned u) ∧ ∃ f', Fx base f f' (insE es e) w w') T v fid rc := by
 cases f with
 | p b => exact ⟨_,_,_,_,rfl,enters_of Tryz.func200 (by kernel_rfl) rfl,mp_put w b,(p_put h.1 e (l:Int) hz.so (fun h3 => hne (List.mem_map.2 ⟨e,h3,rfl⟩)) (h2 rfl) he).mono fun r w' ⟨h1,h2,h3⟩ => ⟨h1,pk_fx h2 h.2 h3⟩⟩
 | l x => exact ⟨_,_,_,_,rfl,enters_of Tryz.func118 (by kernel_rfl) rfl,ml_put w x.blk,(l_put h hz e l hl hne he).mono fun r w' h => by
   obtain ⟨⟨u,rfl,hu⟩,h2⟩:=lx_fx h
   exact ⟨⟨_,rfl⟩,h2⟩⟩
end
section
variable {w w':World} {base:Nat} {z:Zs} {es es':List En}
end
end Go.Proofs.YtehpmbmdadkhbaaGreatDoor

namespace Go.Proofs.YtehpmbmdadkhbaaGreatDoor
open Go.RowKit Pal
attribute [local go_sem] Oper.semAt_some
def clampL (n:Nat) (x:Int):Nat:=(max 0 (min (n:Int) x)).toNat
theorem clampL_eq (n:Nat) (x:Int):((clampL n x:Nat):Int)=max 0 (min (n:Int) x):=by unfold clampL;omega
theorem clampL_le (n:Nat) (x:Int):clampL n x≤n:=by unfold clampL;omega
theorem Zok.nil:Zok []:=⟨List.Pairwise.nil,List.nodup_nil,(fun _ h => nomatch h),Nat.zero_le _⟩
set_option maxRecDepth 100000 in
set_option maxHeartbeats 1000000 in
theorem z_new (E0 M0:Int) (seed:Nat) (hs:seed<4294967296) (w:World):Calls Tryz.prog 80 #[.agg #[.int .i64 E0,.int .i64 M0],.int .u32 (seed:Int)] w fun r w' => ∃ z,r=.returned (pt z.blk)∧ZsAt w' w.heap.size z []∧z.f.is=false∧z.E=clampL 200 E0∧z.M=clampL 64 M0∧z.seed=seed∧Chg (fun _ => False) w w':=by
 have hpn:=fun w => packNew_any w
 have e1:=clampL_eq 200 E0
 have e2:=clampL_eq 64 M0
 have hE:=clampL_le 200 E0
 have hM:=clampL_le 64 M0
 generalize clampL 200 E0=E at *
 generalize clampL 64 M0=M at *
 have e1':max 0 (min (200:Int) E0)=(E:Int):=e1.symm
 have e2':max 0 (min (64:Int) M0)=(M:Int):=e2.symm
 clear e1 e2
 go_enter Tryz.func80,Tryz.ntmps80
 go_wp2_with fail
 have hbe:=Blk.new (w.alloc (Obj.cells #[Value.int .i64 E0,Value.int .i64 M0] 23)) 23 #[.int .i64 (E:Int),.int .i64 (M:Int)]
 have hC1:=((Chg.refl (fun _ => False) w).alloc (Obj.cells #[Value.int .i64 E0,Value.int .i64 M0] 23)).alloc (Obj.cells #[Value.int .i64 (E:Int),Value.int .i64 (M:Int)] 23)
 rw [World.size_alloc] at hbe
 generalize (w.alloc (Obj.cells #[Value.int .i64 E0,Value.int .i64 M0] 23)).alloc (Obj.cells #[Value.int .i64 (E:Int),Value.int .i64 (M:Int)] 23)=w2 at *
 generalize w.heap.size+1=B at *
 have hgen:∀ W',Chg (fun _ => False) w2 W'→W'.cell? ⟨B,0,none⟩=some (.int .i64 (E:Int))∧W'.cell? ⟨B,1,none⟩=some (.int .i64 (M:Int)):=fun W' hc => ⟨by have:=(hbe.chg hc id).cell 0;simpa using this,by have:=(hbe.chg hc id).cell 1;simpa using this⟩
 obtain ⟨x0,x1⟩:=hgen w2 (Chg.refl _ _)
 go_region_held3 (fun W' => W'.cell? ⟨B,0,none⟩=some (.int .i64 (E:Int))∧W'.cell? ⟨B,1,none⟩=some (.int .i64 (M:Int))) (first | exact hgen _ (Chg.refl _ _).drew | exact hgen _ hc5 | exact hgen _ (hc5.alloc _) | exact hgen _ ((hc5.alloc _).alloc _) | fail) (first | (go_at_call 115;refine (hpn _).mono ?_;rintro r w5 ⟨rfl,hC5⟩;have hc5:Chg (fun _ => False) w2 w5:=(Chg.refl _ _).drew.trans hC5) | fail)
 all_goals
  go_wp2_with fail
  go_ret
  refine ⟨⟨w5.heap.size+1,E,M,seed,.p w5.heap.size⟩,rfl,⟨?_,⟨⟨?_,⟨by simp,nofun⟩⟩,?_⟩,?_,Zok.nil,hE,hM,hs⟩,rfl,rfl,rfl,rfl,?_⟩
  ·have:=Blk.new (w5.alloc (.cells #[.string (pk [])] 204)) 104 #[.iface 201 (pt w5.heap.size),.int .i64 (E:Int),.int .i64 (M:Int),.int .u32 (seed:Int)]
   rw [World.size_alloc] at this
   exact this
  ·exact (Blk.new w5 204 #[.string (pk [])]).alloc _
  ·exact Nat.le_trans hC1.size hc5.size
  ·show _≤w5.heap.size+1
   have:=Nat.le_trans hC1.size hc5.size
   omega
  ·exact ((hC1.trans hc5).alloc _).alloc _
end Go.Proofs.YtehpmbmdadkhbaaGreatDoor

namespace Go.Proofs.YtehpmbmdadkhbaaGreatDoor
open Go.RowKit Pal
attribute [local go_sem] Oper.semAt_some
theorem SkAt.lower {w:World} {b base:Nat} {s:Sk} (h:SkAt w b s) (hb:base≤b):SkAt w base s:=⟨⟨h.v.nd,h.v.inj,fun p hp => Nat.le_trans hb (h.v.ge p hp)⟩,h.lo⟩
theorem LsAt.lower {w:World} {b base:Nat} {x:Ls} {es:List En} (h:LsAt w b x es) (hb:base≤b):LsAt w base x es :=
 { h with sk:=h.sk.lower hb,ge:=⟨Nat.le_trans hb h.ge.1,fun g hg => Nat.le_trans hb (h.ge.2 g hg)⟩ }
theorem ls_new {W:World} {base g:Nat} {d:Dint64.Dm} (hs:SkAt W base ⟨g,[]⟩) (hd:Dint64.DmAt W d) (hok:d.Ok) (hn:d.n=0) (hl:∀ k,d.look k=none) (hsh:Dint64.shape d=(4,none,0)) (hb:base≤W.heap.size) (hf:∀ g,d.foot g→base≤g) :
  LsAt (W.alloc (.cells #[pt g,pt d.blk] 212)) base ⟨W.heap.size,⟨g,[]⟩,d⟩ [] where
 b:=Blk.new W 212 #[pt g,pt d.blk]
 sk:=hs.chg0 ((Chg.refl _ W).alloc _)
 dm:=hd.chg0 ((Chg.refl _ W).alloc _)
 ok:=hok
 eq:=rfl
 look:=fun m => by rw [hl];rfl
 dn:=hn
 bz:=by rw [hsh];exact ⟨by decide,fun l e => by cases e⟩
 ge:=⟨hb,hf⟩
theorem ahead_all {l:List En} {e:En} (h:∀ x∈l,ltE x e):ahead l e=l.length:=by
 induction l with
 | nil => rfl
 | cons x l ih =>
  rw [ahead_cons,if_pos (h x List.mem_cons_self),ih fun y hy => h y (List.mem_cons_of_mem _ hy),List.length_cons]
theorem insE_end {es:List En} (hz:Zok es) {m:Nat} {e:En} (h:es[m]?=some e):insE (es.take m) e=es.take (m+1)∧e.m ∉ (es.take m).map (·.m):=by
 have hm:=(List.getElem?_eq_some_iff.1 h).1
 have e1:es.take (m+1)=es.take m++[e]:=by rw [List.take_add_one,h];rfl
 constructor
 ·have:=(List.pairwise_append.1 (e1 ▸ hz.so.sublist (List.take_sublist (m+1) es))).2.2
  unfold insE
  rw [ahead_all fun x hx => this x hx e List.mem_cons_self,e1,List.take_length,List.drop_length]
 ·have:=e1 ▸ (((List.take_sublist (m+1) es).map En.m).nodup hz.nd)
  rw [List.map_append,List.nodup_append] at this
  exact fun h2 => this.2.2 _ h2 _ (by simp) rfl
section
variable {w w':World} {base:Nat} {z:Zs} {es:List En}
set_option maxRecDepth 100000 in
set_option maxHeartbeats 4000000 in
theorem z_lists (h:ZsAt w base z es):Calls Tryz.prog 81 #[pt z.blk] w (ZPost base z es true none w):=by
 have h0:=h
 obtain ⟨c0,_,_,c3,l0⟩:=h.cells
 have hz:=h.ok
 obtain ⟨zb,E,M,sd,f⟩:=z
 cases f with
 | l x =>
  have hm:=fun w => ta_lp w x.blk
  unfold Fm.v pt at *
  clear h
  have hfin:=Lib.hid (Zx.refl h0)
  clear h0
  go_enter Tryz.func81,Tryz.ntmps81
  go_wp2_with fail
  refine bodyPost_ret (results_none rfl _ _ _) rfl ?_
  exact ⟨⟨_,rfl,nofun⟩,_,hfin.out,rfl⟩
 | p b =>
  obtain ⟨hp,hb⟩:=h.f
  have hm:=fun w => ta_pp w b
  have hm1:=fun w => mp_len w b
  have hm2:=fun w => mp_range w b
  have hsn:=fun w => new_any w
  have hdn:=fun w => Dint64.New_i sd h.lim.2.2 w
  have hgen:∀ W',Chg (fun _ => False) w W'→W'.cell? ⟨zb,3,none⟩=some (.int .u32 (sd:Int)):=fun W' hc => (h0.chg0 hc).cells.2.2.2.1
  unfold Dint64.ptr at hdn
  unfold Fm.v pt at *
  go_enter Tryz.func81,Tryz.ntmps81
  go_wp2_with fail
  go_region_held3 (fun W' => W'.cell? ⟨zb,3,none⟩=some (.int .u32 (sd:Int))) (first | exact hgen _ (Chg.refl _ _).drew | exact hgen _ hc5 | exact hgen _ hc6 | exact hgen _ (hc5.alloc _) | exact hgen _ (hc6.alloc _) | fail)
   (first
    | (go_at_call 116;refine (hsn _).mono ?_;rintro r w5 ⟨rfl,hS5,hC5⟩;have hc5:Chg (fun _ => False) w w5:=(show Chg (fun _ => False) w _ from (by first | exact (Chg.refl _ _).drew | exact hc6)).trans hC5)
    | (go_at_call 117;refine (hdn _).mono ?_;rintro r w6 ⟨d,rfl,hD6,hok,hseed,hn,hl,hsh,hft,hC6⟩;have hc6:Chg (fun _ => False) w w6:=(show Chg (fun _ => False) w _ from (by first | exact (Chg.refl _ _).drew | exact hc5)).trans hC6)
    | fail)
  have hL:=ls_new (base:=w.heap.size) ((hS5.chg0 hC6).lower (Nat.le_refl _)) hD6 hok hn hl hsh hc6.size (fun g hg => Nat.le_trans hc5.size (hft g hg))
  have hC7:=hc6.alloc (.cells #[pt w.heap.size,pt d.blk] 212)
  unfold pt at hL hC7
  change LsAt (w6.alloc (.cells #[.pointer (some ⟨w.heap.size,0,none⟩),.pointer (some ⟨d.blk,0,none⟩)] 212)) _ _ _ at hL
  change Chg _ _ (w6.alloc (.cells #[.pointer (some ⟨w.heap.size,0,none⟩),.pointer (some ⟨d.blk,0,none⟩)] 212)) at hC7
  generalize w6.alloc (.cells #[.pointer (some ⟨w.heap.size,0,none⟩),.pointer (some ⟨d.blk,0,none⟩)] 212)=W7 at hL hC7 ⊢
  obtain ⟨x0,hx0⟩:∃ x0:Ls,x0=⟨w6.heap.size,⟨w.drew.heap.size,[]⟩,d⟩:=⟨_,rfl⟩
  rw [← hx0] at hL
  have hxb:x0.blk=w6.heap.size:=by rw [hx0]
  rw [← hxb]
  clear hx0 hxb hS5 hD6 hC5 hC6 hc5 hc6 hsn hdn hft hok hn hl hsh hseed
  clear hgen
  have hgen0:∀ W',Chg (fun _ => False) w W'→W'.cell? ⟨zb,0,none⟩=some (.iface 201 (.pointer (some ⟨b,0,none⟩))):=fun W' hc => (h0.chg0 hc).cells.1
  have hpl:=fun W (hc:Chg (fun _ => False) w W) => p_len (hp.chg hc id)
  have hpr:=fun W (hc:Chg (fun _ => False) w W) => p_range (hp.chg hc id) 0 (es.length:Int)
  rw [sub_all] at hpr
  unfold RgPost at hpr
  unfold pt at hpl hpr
  obtain ⟨x1,x2⟩:W7.cell? ⟨zb,0,none⟩=some (.iface 201 (.pointer (some ⟨b,0,none⟩)))∧zb<W7.heap.size:=⟨hgen0 _ hC7,Nat.lt_of_lt_of_le l0 hC7.size⟩
  go_wp2_with fail
  go_region_held3 (fun W' => W'.cell? ⟨zb,0,none⟩=some (.iface 201 (.pointer (some ⟨b,0,none⟩)))) (first | exact hgen0 _ hC7.drew | exact hgen0 _ hc8 | exact hgen0 _ hc9 | fail)
   (first
    | (go_at_call 196;refine (hpl _ hC7.drew).mono ?_;rintro r w8 ⟨rfl,hC8⟩;have hc8:=hC7.drew.trans hC8)
    | (go_at_call 197;refine (hpr _ hc8).mono ?_;rintro r w9 ⟨⟨v,rfl,hv⟩,hC9⟩;have hc9:=hc8.trans hC9;have hv0:=hv;obtain ⟨p,c,rfl,hpc,hpm,hpg⟩:=hv.is)
    | fail)
  have hL9:=hL.chg0 (((Chg.refl _ W7).drew.trans hC8).trans hC9)
  have hn4:=hz.n
  have hok:=Lib.hid h0
  clear hpl hpr hgen0 hm hm1 hm2 x1 x2 hC9 hC8 hc8 hC7 hL hp h c0 l0 hv
  go_wp2_with fail
  go_loopg [38] es.length (fun k v W => ∃ (m:Nat) (x':Ls),v=.int .i64 (m:Int)∧k=es.length - m∧m≤es.length∧LsAt W w.heap.size x' (es.take m)∧x'.blk=x0.blk∧Chg (fun _ => False) w W∧Ents W w8.heap.size (.slice p es.length c) es)
  case atStart => exact ⟨0,x0,rfl,rfl,Nat.zero_le _,hL9,rfl,hc9,hv0⟩
  case round =>
   clear hL9 hc9 hv0
   obtain ⟨m,x',rfl,rfl,hm,hL,hxb,hC,hv⟩:=hrel
   by_cases hml:m<es.length
   ·have h1:(m:Int)<(es.length:Int):=by omega
    have hx:=List.getElem?_eq_getElem hml
    generalize es[m]=e at hx
    obtain ⟨hi,hne⟩:=insE_end hz hx
    have hlp:=fun W (hL:LsAt W w.heap.size x' (es.take m)) => l_put hL (hz.sub (List.take_sublist _ _)) e 1 ⟨by omega,by omega⟩ hne (hz.ok e (List.mem_of_getElem? hx))
    rw [hi,show ((1:Nat):Int)=1 from rfl,hxb] at hlp
    unfold LxPost En.val pt at hlp
    obtain ⟨gb,o,c2,he2,g1,g2,g3,k0,k1⟩:=hv.r.at_ hx
    injection he2 with he2 _ he3
    subst he2
    subst he3
    have hm4:(m:Int)≤400:=by omega
    have hl4:(es.length:Int)≤400:=by omega
    have HX:=Lib.hid hx
    clear hi hne hx
    go_wp2_with (go_at_call 118;refine (hlp _ (hL.chg0 ((Chg.refl _ wr).alloc _))).mono ?_;rintro r w5 ⟨⟨u,rfl,_⟩,x'',hX⟩)
    go_roundg (es.length - (m+1))
    case measure => omega
    case rel =>
     refine ⟨m+1,x'',int_eq (by omega),rfl,by omega,hX.at_,hX.blk.trans hxb,(hC.alloc _).trans' hX.chg fun g hg hf => ?_,(hv.chg0 ((Chg.refl _ wr).alloc _)).chg hX.chg fun g hg hf => ?_⟩
     ·have:=(hL.lt hf).1;omega
     ·obtain ⟨t,cs,hb,ht⟩:=ls_ty hL hf
      exact hb.not_own hv (by rcases ht with rfl | rfl | rfl | rfl | rfl | rfl <;> decide) hg
   ·obtain rfl:m=es.length:=by omega
    have h1:¬ (es.length:Int)<(es.length:Int):=by omega
    have hZ:=hok.out.chg0 hC
    have hbz:=hZ.b
    obtain ⟨c0,_,_,_,l0⟩:=hZ.cells
    have fz:=hbz.frozen 0
    have hbz:=Lib.hid hbz
    unfold Fm.v pt at c0
    have l00:=(hok.out.lt (.inl rfl)).2
    go_wp2_with fail
    go_end0
    have hlt:∀ g,x'.foot g→w.heap.size≤g:=fun g hg => (hL.lt hg).1
    have hbs:=hbz.out.set 0 (.iface 206 (pt x0.blk))
    have hcs:Chg (fun g => g=zb) wr (wr.setCell ⟨zb,0,none⟩ (.iface 206 (pt x0.blk))):=Chg.store (S:=fun g => g=zb) (Chg.refl _ wr) rfl 0 _
    have hL2:=hL.chg hcs fun g hg e => by have:=hlt g hg;omega
    rw [List.take_length] at hL2
    refine ⟨⟨_,rfl,nofun⟩,⟨zb,E,M,sd,.l x'⟩,⟨⟨?_,hL2.lower ?_,hok.out.ge,hz,hok.out.lim⟩,rfl,rfl,rfl,rfl,?_,?_⟩,rfl⟩
    ·show Blk _ zb _ #[.iface 206 (pt x'.blk),_,_,_]
     rw [hxb];exact hbs
    ·have:=hok.out.ge;exact Nat.le_of_lt (Nat.lt_of_le_of_lt this l00)
    ·exact (hC.mono fun _ _ h => h.elim).trans (hcs.mono fun g _ e => .inl e)
    ·rintro g (rfl | hg)
     ·exact .inl (.inl rfl)
     ·exact .inr (hlt g hg)
end
end Go.Proofs.YtehpmbmdadkhbaaGreatDoor

namespace Go.Proofs.YtehpmbmdadkhbaaGreatDoor
open Go.RowKit Pal
attribute [local go_sem] Oper.semAt_some
section
variable {w w':World} {base:Nat} {z:Zs} {es:List En}
theorem fx_zx {z1:Zs} {es1 es':List En} {w1:World} (h:ZsAt w1 base z1 es1) {f':Fm} (hx:Fx base z1.f f' es' w1 w') (hz:Zok es'):∃ z',Zx base z1 z' es' w1 w'∧z'.f.is=z1.f.is:=⟨_,h.form hx hz,Fm.is_of hx.v⟩
set_option maxRecDepth 100000 in
set_option maxHeartbeats 4000000 in
theorem z_add_no (h:ZsAt w base z es) (m:ByteArray) (s lv:Int) (hm:m.size≤9223372036854775807) (e:Int) (he:addNo es m lv=some e):Calls Tryz.prog 55 #[pt z.blk,.string m,.int .i64 s,.int .i64 lv] w (ZPost base z es z.f.is (some (.tuple #[.bool false,.int .i64 e])) w):=by
 unfold addNo at he
 obtain ⟨c0,_,_,_,l0⟩:=h.cells
 by_cases h1:64<m.size∨lv<1∨32<lv
 ·rw [if_pos h1] at he
  injection he with he
  subst he
  have hfin:=Lib.hid (Zx.refl h)
  unfold pt
  rcases h1 with h1 | h1 | h1
  ·have h1':(64:Int)<(m.size:Int):=by omega
   go_enter Tryz.func55,Tryz.ntmps55
   go_wp2_with fail
   go_ret2
   exact ⟨⟨_,rfl,fun y hy => by injection hy⟩,_,hfin.out,rfl⟩
  ·by_cases h2:64<m.size
   ·have h2':(64:Int)<(m.size:Int):=by omega
    go_enter Tryz.func55,Tryz.ntmps55
    go_wp2_with fail
    go_ret2
    exact ⟨⟨_,rfl,fun y hy => by injection hy⟩,_,hfin.out,rfl⟩
   ·have h2':¬ (64:Int)<(m.size:Int):=by omega
    go_enter Tryz.func55,Tryz.ntmps55
    go_wp2_with fail
    go_ret2
    exact ⟨⟨_,rfl,fun y hy => by injection hy⟩,_,hfin.out,rfl⟩
  ·by_cases h2:64<m.size
   ·have h2':(64:Int)<(m.size:Int):=by omega
    go_enter Tryz.func55,Tryz.ntmps55
    go_wp2_with fail
    go_ret2
    exact ⟨⟨_,rfl,fun y hy => by injection hy⟩,_,hfin.out,rfl⟩
   ·have h2':¬ (64:Int)<(m.size:Int):=by omega
    have h3:¬ lv<1:=by omega
    go_enter Tryz.func55,Tryz.ntmps55
    go_wp2_with fail
    go_ret2
    exact ⟨⟨_,rfl,fun y hy => by injection hy⟩,_,hfin.out,rfl⟩
 ·rw [if_neg h1] at he
  by_cases h4:lookE es m=none∧es.length=400
  ·rw [if_pos h4] at he
   injection he with he
   subst he
   obtain ⟨h5,h6⟩:=h4
   have h2':¬ (64:Int)<(m.size:Int):=by omega
   have h3:¬ lv<1:=by omega
   have h3':¬ 32<lv:=by omega
   obtain ⟨T,v,fid,rc,hfc⟩:=f_score h.f m hm
   have hen:=hfc.en
   have hme:=hfc.me
   have hca:=hfc.call
   rw [hfc.fv] at c0
   rw [h5] at hca
   have hln:=fun w1 (z1:Zs) (h:ZsAt w1 base z1 es) => z_len h
   rw [h6] at hln
   simp only [Option.getD_none,Option.isSome_none] at hca
   have HH:=Lib.hid h
   have hz:=h.ok
   clear h h1 h5 h6 hm
   unfold pt at *
   go_enter Tryz.func55,Tryz.ntmps55
   go_wp2_with (first | (go_at_fn fid;refine hca.mono ?_;rintro r w1 ⟨rfl,f',hf'⟩;obtain ⟨z1,hZ1,hi1⟩:=fx_zx HH.out hf' hz) | (go_at_call 27;rw [← hZ1.blk];refine (hln _ _ hZ1.at_).mono ?_;rintro r w2 ⟨rfl,hC2⟩))
   go_ret2
   exact ⟨⟨_,rfl,fun y hy => by injection hy⟩,_,hZ1.trans (Zx.zero hZ1.at_ hC2),hi1⟩
  ·rw [if_neg h4] at he;cases he
end
end Go.Proofs.YtehpmbmdadkhbaaGreatDoor
