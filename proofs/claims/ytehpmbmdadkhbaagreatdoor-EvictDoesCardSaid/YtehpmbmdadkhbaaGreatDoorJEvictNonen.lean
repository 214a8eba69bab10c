/- Texts joined for EvictNone: SPS, SPQ, GR, RE, RLE, RI, ACint64, RSO, RZ. -/
import Derived.Test.YtehpmbmdadkhbaaGreatDoorJEvictNonea
import Derived.Test.YtehpmbmdadkhbaaGreatDoorJEvictNonec
import Derived.Test.YtehpmbmdadkhbaaGreatDoorJEvictNonee
import Derived.Test.YtehpmbmdadkhbaaGreatDoorJEvictNonef
import Derived.Test.YtehpmbmdadkhbaaGreatDoorJEvictNoneg
import Derived.Test.YtehpmbmdadkhbaaGreatDoorJEvictNonei
import Derived.Test.YtehpmbmdadkhbaaGreatDoorJEvictNonem
import Derived.Stop.RegionWithIn
import Derived.Deep.LoopGhost
import Derived.Deep.RegionHeld3
import Derived.Deep.Slices
import Derived.Deep.Fields
import Derived.ChangeSame
set_option linter.unusedVariables false
set_option linter.unusedSimpArgs false

namespace Go.Proofs.YtehpmbmdadkhbaaGreatDoor
open Go.RowKit Pal
attribute [local go_sem] Oper.semAt_some
set_option maxRecDepth 100000 in
theorem sum4 (a b c d:Int) (ha:0≤a∧a≤1000000000) (hb:0≤b∧b≤1000000000) (hc:0≤c∧c≤1000000000) (hd:0≤d∧d≤1000000000) (g:Nat) (w:World) (hB:Blk w g 3 #[.int .i64 a,.int .i64 b,.int .i64 c,.int .i64 d]):Calls Tryz.prog 48 #[.slice (some ⟨g,0,none⟩) 4 4] w fun r w' => r=.returned (.int .i64 (a+b+c+d))∧w=w':=by
 have c0:=hB.cell 0
 have c1:=hB.cell 1
 have c2:=hB.cell 2
 have c3:=hB.cell 3
 have l0:=hB.lt
 simp only [List.getElem?_toArray,List.getElem?_cons_zero,List.getElem?_cons_succ] at c0 c1 c2 c3
 obtain ⟨a1,a2⟩:=ha
 obtain ⟨b1,b2⟩:=hb
 obtain ⟨d1,d2⟩:=hc
 obtain ⟨e1,e2⟩:=hd
 go_enter Tryz.func48,Tryz.ntmps48
 go_wp2_with fail
 go_loopg [3,8] 4 (fun k n iv W => ((iv=.int .i64 0∧n=.int .i64 0∧k=4)∨(iv=.int .i64 1∧n=.int .i64 a∧k=3)∨(iv=.int .i64 2∧n=.int .i64 (a+b)∧k=2)∨(iv=.int .i64 3∧n=.int .i64 (a+b+c)∧k=1)∨(iv=.int .i64 4∧n=.int .i64 (a+b+c+d)∧k=0))∧w=W)
 case atStart => exact ⟨.inl ⟨rfl,rfl,rfl⟩,rfl⟩
 case round =>
  obtain ⟨⟨rfl,rfl,rfl⟩ | ⟨rfl,rfl,rfl⟩ | ⟨rfl,rfl,rfl⟩ | ⟨rfl,rfl,rfl⟩ | ⟨rfl,rfl,rfl⟩,rfl⟩:=hrel
  ·go_wp2_with fail
   go_roundg 3
   case measure => omega
   case rel => exact ⟨.inr (.inl ⟨rfl,int_eq (by omega),rfl⟩),rfl⟩
  ·go_wp2_with fail
   go_roundg 2
   case measure => omega
   case rel => exact ⟨.inr (.inr (.inl ⟨rfl,int_eq (by omega),rfl⟩)),rfl⟩
  ·go_wp2_with fail
   go_roundg 1
   case measure => omega
   case rel => exact ⟨.inr (.inr (.inr (.inl ⟨rfl,int_eq (by omega),rfl⟩))),rfl⟩
  ·go_wp2_with fail
   go_roundg 0
   case measure => omega
   case rel => exact ⟨.inr (.inr (.inr (.inr ⟨rfl,int_eq (by omega),rfl⟩))),rfl⟩
  ·go_wp2_with fail
   go_ret
   exact ⟨rfl,rfl⟩
theorem bytesZ_le {es:List En} (h:Zok es) (is:Bool):bytesZ es is≤76802:=by
 have h1:=h.n
 have h2:=sumM_le (l:=es) fun e he => (h.ok e he).1
 unfold bytesZ
 split <;> omega
def sizeI (l:List It):Nat:=((l.map It.ct).map Ct.size).sum
theorem sizeI_snoc (l:List It) (i:It):sizeI (l++[i])=sizeI l+(48+i.key.size+bytesZ i.es i.z.f.is):=by
 unfold sizeI
 rw [List.map_append,List.map_append,List.sum_append]
 simp [It.ct,Ct.size]
theorem sizeI_le {W:World} {base:Nat} {s:Spc} (h:SpAt W base s):∀ l:List It,(∀ i∈l,i∈s.its)→sizeI l≤l.length * 76914
 | [],_ => by simp [sizeI]
 | i :: l,hl => by
  have ih:=sizeI_le h l fun j hj => hl j (List.mem_cons_of_mem _ hj)
  have hI:=h.it i (hl i (List.mem_cons_self))
  have h1:=bytesZ_le hI.z.ok i.z.f.is
  have h2:=hI.k
  have e:sizeI (i :: l)=(48+i.key.size+bytesZ i.es i.z.f.is)+sizeI l:=by simp [sizeI,It.ct,Ct.size]
  rw [e,List.length_cons]
  omega
def SzS (nb xb:Nat) (n:Int) (v:Value) (W:World):Prop:=W.cell? ⟨nb,0,none⟩=some (.int .i64 n)∧W.cell? ⟨xb,0,none⟩=some v
def SzI (s:Spc) (w1:World) (nb:Nat) (r:List It) (W:World):Prop:=(∃ pre,pre++r=s.its∧Blk W nb 3 #[.int .i64 ((64+sizeI pre:Nat):Int)])∧Stay (fun g => s.foot g∨g=nb) w1 W
section
variable {w:World} {base:Nat} {s:Spc}
set_option maxRecDepth 100000 in
set_option maxHeartbeats 4000000 in
theorem s_size (h:SpAt w base s):Calls Tryz.prog 23 #[pt s.blk] w fun r w' => r=.returned (.int .i64 (sizeC (s.its.map It.ct):Int))∧∃ d',Sx base s { s with d:=d' } w w':=by
 have hit:=items_any s.blk
 have hlt:=fun g hg => (h.lt (g:=g) hg).2
 unfold pt at hit ⊢
 unfold fnv at hit
 refine calls_of_wp_marks Tryz.func23 rfl ?_
 simp only [Tryz.ntmps23,List.size_toArray,List.length_cons,List.length_nil,Nat.reduceAdd,Nat.reduceSub,Array.replicate_succ,Array.replicate_zero,List.push_toArray,List.append_toArray,List.nil_append,List.cons_append]
 go_wp2_with (go_at_call 47;refine (hit _).mono ?_;rintro e w' ⟨rfl,rfl⟩)
 have hb0:=(Blk.new w 3 #[.int .i64 64]).alloc (.cells #[.pointer (some ⟨s.blk,0,none⟩)] 30)
 have hbA:=Blk.new (w.alloc (.cells #[.int .i64 64] 3)) 30 #[.pointer (some ⟨s.blk,0,none⟩)]
 rw [World.size_alloc] at hbA
 have hC0:=((Chg.refl (fun _ => False) w).alloc (.cells #[.int .i64 64] 3)).alloc (.cells #[.pointer (some ⟨s.blk,0,none⟩)] 30)
 have hs0:((w.alloc (.cells #[.int .i64 64] 3)).alloc (.cells #[.pointer (some ⟨s.blk,0,none⟩)] 30)).heap.size=w.heap.size+2:=by simp
 generalize (w.alloc (.cells #[.int .i64 64] 3)).alloc (.cells #[.pointer (some ⟨s.blk,0,none⟩)] 30)=W0 at hb0 hbA hC0 hs0 ⊢
 have h0:=h.chg0 hC0
 have hnf:∀ g,g=w.heap.size→¬ itF s (w.heap.size+1) g:=by
  rintro g rfl (h1 | h1)
  ·omega
  ·have:=hlt _ h1;omega
 refine wp_range_it2 72 #[pt (w.heap.size+1)] rfl (enters_of Tryz.func72 (by kernel_rfl) rfl) (items_spec s base (w.heap.size+1)) (fun _ => rfl)
  (fun g => g=w.heap.size) (fun g hg => ⟨hnf g hg,by omega⟩) (SzI s W0 w.heap.size) ?_ (fun _ _ => False) (fun _ _ _ h => h.elim) s.its ?_ ?_ _ (fun l x W K hK => by gi_wp2;exact hK) ?_ ?_ (fun _ _ _ _ h => h.elim)
 ·rintro r W W' ⟨⟨pre,h1,h2⟩,h3⟩ hs
  exact ⟨⟨pre,h1,h2.stay hs fun hf => by have:=hlt _ (.inr (.inl hf));omega⟩,h3.trans' hs fun g _ hg => .inl (.inr (.inl hg))⟩
 ·exact ⟨⟨[],rfl,hb0⟩,Stay.refl _ _⟩
 ·exact ⟨h0,hbA,rfl⟩
 ·rintro l x r n W ⟨⟨pre,h1,h2⟩,h3⟩ ⟨⟨d',hS,hdf⟩,_,_⟩ hle
  have hxm:x∈s.its:=by rw [← h1];simp
  have hpre:sizeI pre≤pre.length * 76914:=sizeI_le h pre fun i hi => by rw [← h1];simp [hi]
  have hplen:pre.length≤500:=by
   have h5:=h.n
   rw [← h1,List.length_append] at h5;omega
  have hI:=hS.it x hxm
  have hbz:=bytesZ_le hI.z.ok x.z.f.is
  have hkz:=hI.k
  obtain ⟨e0,_,_,el⟩:=hI.cells
  have k0:=h2.cell 0
  have kf:=h2.frozen 0
  have kl:=h2.lt
  simp only [List.getElem?_toArray,List.getElem?_cons_zero] at k0
  have hby:=z_bytes (hI.z.chg (Chg.refl (fun _ => False) W).drew fun _ _ => id)
  have hnx:64+sizeI (pre++[x])=64+sizeI pre+48+x.key.size+bytesZ x.es x.z.f.is:=by rw [sizeI_snoc];omega
  have hbS:∀ {W'},Chg (fun _ => False) W W'→Blk W' w.heap.size 3 #[.int .i64 ((64+sizeI pre:Nat):Int)]:=fun hc => h2.chg hc id
  replace hnx:=Lib.hid hnx
  replace hby:=hby
  obtain ⟨n0,hn0⟩:∃ n0,n0=64+sizeI pre:=⟨_,rfl⟩
  obtain ⟨bz,hbz0⟩:∃ bz,bz=bytesZ x.es x.z.f.is:=⟨_,rfl⟩
  rw [← hn0] at hnx hbS k0
  rw [← hbz0] at hnx hby hbz
  have m0:0≤(n0:Int)∧(n0:Int)≤1000000000:=by omega
  have m1:0≤(x.key.size:Int)∧(x.key.size:Int)≤1000000000:=by omega
  have m2:0≤(bz:Int)∧(bz:Int)≤1000000000:=by omega
  have HP:=Lib.hid h1
  clear hpre hplen hn0 hbz0 hbz hkz h1 h2
  unfold pt at e0 hby ⊢
  gi_wp2
  have hSW:SzS w.heap.size x.blk (n0:Int) (.pointer (some ⟨x.z.blk,0,none⟩)) W.drew:=⟨k0,e0⟩
  refine wpIn_region_held 10 (SzS w.heap.size x.blk (n0:Int) (.pointer (some ⟨x.z.blk,0,none⟩))) (by kernel_rfl) (by kernel_rfl) (by rintro ⟨_,_,h⟩;exact h) ?_
  simp only [List.size_toArray,List.length_cons,List.length_nil,Nat.reduceAdd,Array.replicate_succ,Array.replicate_zero,List.push_toArray,List.nil_append,List.cons_append]
  refine wpAnyF_take 0 (v:=.int .i64 (n0:Int)) rfl (by kernel_rfl) (by kernel_rfl) (by kernel_rfl) (by kernel_rfl) (fun _ _ _ h => h) hSW (by rfl) ?_ ?_
  ·rintro W' ⟨y0,y1⟩
   go_simp
  simp only [Act.put,List.setIfInBounds_toArray,List.set_cons_zero,List.set_cons_succ]
  refine wpAnyF_take 1 (v:=.string x.key) rfl (by kernel_rfl) (by kernel_rfl) (by kernel_rfl) (by kernel_rfl) (fun _ _ _ h => h) hSW (by rfl) ?_ ?_
  ·rintro W' ⟨y0,y1⟩
   go_simp
  simp only [Act.put,List.setIfInBounds_toArray,List.set_cons_zero,List.set_cons_succ]
  refine wpAnyF_take 2 (v:=.int .i64 (x.key.size:Int)) rfl (by kernel_rfl) (by kernel_rfl) (by kernel_rfl) (by kernel_rfl) (fun _ _ _ h => h) hSW (by rfl) ?_ ?_
  ·rintro W' ⟨y0,y1⟩
   go_simp
  simp only [Act.put,List.setIfInBounds_toArray,List.set_cons_zero,List.set_cons_succ]
  refine wpAnyF_take 3 (v:=.pointer (some ⟨x.blk,0,none⟩)) rfl (by kernel_rfl) (by kernel_rfl) (by kernel_rfl) (by kernel_rfl) (fun _ _ _ h => h) hSW (by rfl) ?_ ?_
  ·rintro W' ⟨y0,y1⟩
   go_simp
  simp only [Act.put,List.setIfInBounds_toArray,List.set_cons_zero,List.set_cons_succ]
  refine wpAnyF_take 4 (v:=.pointer (some ⟨x.blk,0,none⟩)) rfl (by kernel_rfl) (by kernel_rfl) (by kernel_rfl) (by kernel_rfl) (fun _ _ _ h => h) hSW (by rfl) ?_ ?_
  ·rintro W' ⟨y0,y1⟩
   go_simp
  simp only [Act.put,List.setIfInBounds_toArray,List.set_cons_zero,List.set_cons_succ]
  refine wpAnyF_take 5 (v:=.pointer (some ⟨x.blk,0,none⟩)) rfl (by kernel_rfl) (by kernel_rfl) (by kernel_rfl) (by kernel_rfl) (fun _ _ _ h => h) hSW (by rfl) ?_ ?_
  ·rintro W' ⟨y0,y1⟩
   go_simp
  simp only [Act.put,List.setIfInBounds_toArray,List.set_cons_zero,List.set_cons_succ]
  refine wpAnyF_take 6 (v:=.pointer (some ⟨x.z.blk,0,none⟩)) rfl (by kernel_rfl) (by kernel_rfl) (by kernel_rfl) (by kernel_rfl) (fun _ _ _ h => h) hSW (by rfl) ?_ ?_
  ·rintro W' ⟨y0,y1⟩
   go_simp
  simp only [Act.put,List.setIfInBounds_toArray,List.set_cons_zero,List.set_cons_succ]
  refine wpAnyF_one 7 (by kernel_rfl) rfl (fun K hK => ?_)
  go_simp
  refine hby.mono ?_
  rintro e5 w5 ⟨rfl,hC5⟩
  have hc5:=(Chg.refl (fun _ => False) W).drew.trans hC5
  have q5:=hbS hc5
  have q0:=q5.cell 0
  have qf:=q5.frozen 0
  have ql:=q5.lt
  simp only [List.getElem?_toArray,List.getElem?_cons_zero] at q0
  have r0:=((hI.chg hc5 fun _ _ => id).cells).1
  have rl:=((hI.chg hc5 fun _ _ => id).cells).2.2.2
  unfold pt at r0
  refine hK _ _ (fun _ => ⟨q0,r0⟩) ?_
  clear hK K
  refine wpAnyF_one 8 (by kernel_rfl) rfl (fun K hK => ?_)
  go_simp
  refine hK _ _ (fun _ => ⟨(World.cell?_alloc_lt _ _ _ ql).trans q0,(World.cell?_alloc_lt _ _ _ rl).trans r0⟩) ?_
  clear hK K
  refine wpAnyF_one 9 (by kernel_rfl) rfl (fun K hK => ?_)
  go_simp
  refine (sum4 _ _ _ _ m0 (by omega) m1 m2 _ _ (Blk.new _ _ _)).mono ?_
  rintro e6 w6 ⟨rfl,rfl⟩
  refine hK _ _ (fun _ => ⟨(World.cell?_alloc_lt _ _ _ ql).trans q0,(World.cell?_alloc_lt _ _ _ rl).trans r0⟩) ?_
  clear hK K
  refine wpAnyF_one 10 (by kernel_rfl) rfl (fun K hK => ?_)
  go_simp
  refine hK _ _ (fun h => absurd rfl h) ?_
  clear hK K
  refine wpAnyF_done (by kernel_rfl) ?_ _
  have hcs:=(hc5.mono (S':=fun g => g=w.heap.size) fun _ _ h => h.elim).store rfl 0 (.int .i64 ((n0:Int)+48+(x.key.size:Int)+(bz:Int)))
  have hcf:=hcs.alloc (.cells #[.int .i64 (n0:Int),.int .i64 48,.int .i64 (x.key.size:Int),.int .i64 (bz:Int)] 3)
  have qv:=(q5.set 0 (.int .i64 ((n0:Int)+48+(x.key.size:Int)+(bz:Int)))).alloc (.cells #[.int .i64 (n0:Int),.int .i64 48,.int .i64 (x.key.size:Int),.int .i64 (bz:Int)] 3)
  simp only [List.setIfInBounds_toArray,List.set_cons_zero] at qv
  refine ⟨others_chg hcf fun k o hk ho e => ?_,.of_chg hcf,⟨pre++[x],by rw [← HP.out];simp,?_⟩,h3.trans' (.of_chg hcf) fun g _ hg => .inr hg⟩
  ·subst e
   have h9:=hbS (Chg.refl (fun _ => False) W)
   unfold Blk at h9
   rw [h9] at hk
   cases hk
   cases ho
  ·rw [hnx.out,show ((n0+48+x.key.size+bz:Nat):Int)=(n0:Int)+48+(x.key.size:Int)+(bz:Int) by omega]
   exact qv
 ·rintro D n W hD ⟨⟨pre,h1,h2⟩,h3⟩ ⟨⟨d',hS,hdf⟩,_,_⟩ hK hdef
  rw [List.append_nil] at h1
  subst h1
  have hwD:w.heap.size≤D:=by omega
  have hc1:Chg (fun g => s.foot g∨g=w.heap.size) W0 W:=.of_stay h3 hK
  have hC:Chg s.foot w W:=(hC0.mono fun _ _ h => h.elim).trans' hc1 fun g hg hf => hf.elim id fun e => by omega
  have k0:=h2.cell 0
  have k9:=h2.lt
  simp only [List.getElem?_toArray,List.getElem?_cons_zero] at k0
  clear hb0 hbA hC0 hs0 hnf h0
  go_wp2_with fail
  refine bodyPostM_ret (D:=D) (v:=.int .i64 ((64+sizeI s.its:Nat):Int)) rfl hdef (by simp [results,Tryz.results23,go_sem]) ⟨rfl,d',?_⟩
  exact ⟨hS.stay (Stay.put (F:=fun _ => False) hdef rfl _) fun _ _ => id,rfl,rfl,rfl,rfl,rfl,hC.put (by omega) _,fun g hg => .inl (itIt_foot hdf g hg)⟩
end
end Go.Proofs.YtehpmbmdadkhbaaGreatDoor

namespace Go.Proofs.YtehpmbmdadkhbaaGreatDoor
open Go.RowKit Pal
attribute [local go_sem] Oper.semAt_some
section
variable {w0 W W':World} {b:Nat} {cf:Cf} {l:List Ct} {F:Nat→Prop}
def Sst (w0:World) (b:Nat) (cf:Cf) (l':List Ct) (F:Nat→Prop) (W W':World):Prop:=∃ F',Spa w0 W' b cf l' F'∧Nf F F' W W'
theorem Sst.mk {s s':Spc} (hw:Chg (fun _ => False) w0 W) (hs:SpAt W w0.heap.size s) (hx:Sx w0.heap.size s s' W W'):Sst w0 s.blk ⟨s.E,s.M,s.seed,s.mx⟩ (s'.its.map It.ct) s.foot W W':=⟨_,Spa.step hw hs hx⟩
theorem spa_find (h:Spa w0 W b cf l F) (k:ByteArray) (hk:k.size≤9223372036854775807):Calls Tryz.prog 26 #[pt b,.string k] W fun r W' => (∃ F',Spa w0 W' b cf l F'∧Nf F F' W W'∧match findK Ct.key l k with
  | some c => ∃ zb z,r=.returned (.tuple #[pt zb,.bool true])∧ZsAt W' w0.heap.size z c.es∧z.blk=zb∧z.f.is=c.is∧∀ g,z.foot g→F' g
  | none => r=.returned (.tuple #[.pointer none,.bool false])):=by
 obtain ⟨⟨s,hs,rfl,⟨e1,e2,e3,e4⟩,rfl,rfl⟩,hw⟩:=h
 refine (s_find hs k hk).mono ?_
 rintro r W' ⟨hr,d',hx⟩
 obtain ⟨h1,h2⟩:=Spa.step hw hs hx
 rw [e1,e2,e3,e4] at h1
 refine ⟨_,h1,h2,?_⟩
 rw [find_ct]
 cases hf:findK It.key s.its k with
 | none => rw [hf] at hr;exact hr
 | some i =>
  rw [hf] at hr
  have hi:=((findK_some hs.so).1 hf).1
  exact ⟨_,i.z,hr,(hx.at_.it i hi).z,rfl,rfl,fun g hg => .inr (.inr ⟨i,hi,.inr hg⟩)⟩
theorem spa_use (h:Spa w0 W b cf l F) (k:ByteArray) (hk:k.size≤9223372036854775807):Calls Tryz.prog 15 #[pt b,.string k] W fun r W' => r=.returned (.tuple #[.agg (useC l k).cs,.bool (findK Ct.key l k).isSome])∧Sst w0 b cf l F W W':=by
 obtain ⟨⟨s,hs,rfl,⟨e1,e2,e3,e4⟩,rfl,rfl⟩,hw⟩:=h
 refine (s_use hs k hk).mono ?_
 rintro r W' ⟨hr,d',hx⟩
 have h1:=Sst.mk hw hs hx
 rw [e1,e2,e3,e4] at h1
 refine ⟨?_,h1⟩
 unfold useC
 rw [find_ct]
 cases hf:findK It.key s.its k with
 | none => rw [hf] at hr;exact hr
 | some i => rw [hf] at hr;exact hr
theorem spa_delete (h:Spa w0 W b cf l F) (k:ByteArray) (hk:k.size≤9223372036854775807):Calls Tryz.prog 25 #[pt b,.string k] W fun r W' => r=.returned (.bool (findK Ct.key l k).isSome)∧Sst w0 b cf (cutK Ct.key l k) F W W':=by
 obtain ⟨⟨s,hs,rfl,⟨e1,e2,e3,e4⟩,rfl,rfl⟩,hw⟩:=h
 refine (s_delete hs k hk).mono ?_
 rintro r W' ⟨rfl,d',hx⟩
 have h1:=Sst.mk hw hs hx
 rw [e1,e2,e3,e4] at h1
 rw [find_ct,Option.isSome_map,← cut_ct]
 exact ⟨rfl,h1⟩
theorem spa_len (h:Spa w0 W b cf l F):Calls Tryz.prog 12 #[pt b] W fun r W' => r=.returned (.int .i64 (l.length:Int))∧W=W':=by
 obtain ⟨⟨s,hs,rfl,_,rfl,rfl⟩,hw⟩:=h
 rw [List.length_map]
 exact s_len hs
theorem spa_keys (h:Spa w0 W b cf l F):Calls Tryz.prog 14 #[pt b] W fun r W' => (∃ v,r=.returned v∧Strs W' W.heap.size v (keysC l))∧Chg (fun _ => False) W W':=by
 obtain ⟨⟨s,hs,rfl,_,rfl,rfl⟩,hw⟩:=h
 have:=s_keys hs
 unfold keysC
 rw [List.map_map]
 exact this
theorem spa_size (h:Spa w0 W b cf l F):Calls Tryz.prog 23 #[pt b] W fun r W' => r=.returned (.int .i64 (sizeC l:Int))∧Sst w0 b cf l F W W':=by
 obtain ⟨⟨s,hs,rfl,⟨e1,e2,e3,e4⟩,rfl,rfl⟩,hw⟩:=h
 refine (s_size hs).mono ?_
 rintro r W' ⟨rfl,d',hx⟩
 have h1:=Sst.mk hw hs hx
 rw [e1,e2,e3,e4] at h1
 exact ⟨rfl,h1⟩
theorem spa_touch (h:Spa w0 W b cf l F) (k:ByteArray) (hk:k.size≤9223372036854775807) (now:Int) (hn:now≤9223372036854775807) (draw:Nat) (hd:draw<4294967296):Calls Tryz.prog 32 #[pt b,.string k,.int .i64 now,.int .u32 (draw:Int)] W fun r W' => (∃ v,r=.returned v)∧Sst w0 b cf (tchC l k now draw) F W W':=by
 obtain ⟨⟨s,hs,rfl,⟨e1,e2,e3,e4⟩,rfl,rfl⟩,hw⟩:=h
 unfold tchC
 rw [find_ct]
 cases hf:findK It.key s.its k with
 | none =>
  refine (s_touch_none hs k hk hf now draw).mono ?_
  rintro r W' ⟨rfl,d',hx⟩
  have h1:=Sst.mk hw hs hx
  rw [e1,e2,e3,e4] at h1
  exact ⟨⟨_,rfl⟩,h1⟩
 | some i =>
  show Calls _ _ _ _ fun r W' => _∧Sst w0 _ cf (match tchU i.u now draw with | some u => updK Ct.key (s.its.map It.ct) { i.ct with u:=u } | none => s.its.map It.ct) _ W W'
  cases hc:cntU i.u now with
  | none =>
   refine (s_touch_no hs k hk hf now (cntU_none.1 hc) draw).mono ?_
   rintro r W' ⟨rfl,d',hx⟩
   have h1:=Sst.mk hw hs hx
   rw [e1,e2,e3,e4] at h1
   have e:tchU i.u now draw=none:=by unfold tchU;rw [hc];rfl
   rw [e]
   exact ⟨⟨_,rfl⟩,h1⟩
  | some n =>
   refine (s_touch_yes hs k hk hf now n hc hn draw hd).mono ?_
   rintro r W' ⟨rfl,d',hx⟩
   have h1:=Sst.mk hw hs hx
   rw [e1,e2,e3,e4] at h1
   rw [tchU_eq hc]
   refine ⟨⟨_,rfl⟩,?_⟩
   have e:(updK It.key s.its { i with u:=⟨nextU n draw,now⟩ }).map It.ct=updK Ct.key (s.its.map It.ct) { i.ct with u:=⟨nextU n draw,now⟩ }:=upd_ct _ _
   show Sst w0 s.blk cf (updK Ct.key (s.its.map It.ct) { i.ct with u:=⟨nextU n draw,now⟩ }) s.foot W W'
   rw [← e]
   exact h1
theorem spa_put (h:Spa w0 W b cf l F) (k:ByteArray) (hk:k.size≤64) (h5:l.length<500) (B:Nat) (v:Value) (xs:List En) (hv:Ents W B v xs) (hn:xs.length≤1000) (hx:∀ e∈xs,e.m.size≤9223372036854775807∧-9223372036854775808≤e.s∧e.s≤9223372036854775807) :
  Calls Tryz.prog 30 #[pt b,.string k,v,.int .i64 0] W fun r W' => r=.returned (.int .i64 0)∧Sst w0 b cf (putC (clampL 200 cf.E) (clampL 64 cf.M) l k xs 0) F W W'∧Ents W' B v xs:=by
 obtain ⟨⟨s,hs,rfl,⟨e1,e2,e3,e4⟩,rfl,rfl⟩,hw⟩:=h
 rw [List.length_map] at h5
 refine (s_put hs k hk h5 B v xs hv hn hx).mono ?_
 rintro r W' ⟨rfl,s',hx1,hx2,hx3⟩
 have h1:=Sst.mk hw hs hx1
 rw [hx2,e1,e2,e3,e4] at h1
 exact ⟨rfl,h1,hx3⟩
def Cf.cs (c:Cf):Array Value:=#[.int .i64 c.E,.int .i64 c.M,.int .u32 (c.seed:Int),.int .i64 c.mx]
set_option maxRecDepth 100000 in
theorem spa_new (hw:Chg (fun _ => False) w0 W) (cf:Cf) (hs:cf.seed<4294967296):Calls Tryz.prog 29 #[.agg cf.cs] W fun r W' => ∃ b,r=.returned (pt b)∧Sst w0 b cf [] (fun _ => False) W W':=by
 have x0:=Blk.new W 26 cf.cs
 have hC0:=(Chg.refl (fun _ => False) W).alloc (.cells cf.cs 26)
 have hnw:=fun w => Dspaceitem.New_i cf.seed hs w
 unfold Dspaceitem.ptr at hnw
 unfold Cf.cs pt at *
 go_enter Tryz.func29,Tryz.ntmps29
 go_wp2_with fail
 generalize W.alloc (.cells #[.int .i64 cf.E,.int .i64 cf.M,.int .u32 (cf.seed:Int),.int .i64 cf.mx] 26)=W1 at x0 hC0 ⊢
 have hS:∀ W',Chg (fun _ => False) W1 W'→W'.cell? ⟨W.heap.size,0,none⟩=some (.int .i64 cf.E)∧W'.cell? ⟨W.heap.size,1,none⟩=some (.int .i64 cf.M)∧W'.cell? ⟨W.heap.size,2,none⟩=some (.int .u32 (cf.seed:Int))∧W'.cell? ⟨W.heap.size,3,none⟩=some (.int .i64 cf.mx):=fun W' hc => ⟨by have:=(x0.chg hc id).cell 0;simpa using this,by have:=(x0.chg hc id).cell 1;simpa using this,by have:=(x0.chg hc id).cell 2;simpa using this,by have:=(x0.chg hc id).cell 3;simpa using this⟩
 have l0:=x0.lt
 go_region_held3 (fun W' => W'.cell? ⟨W.heap.size,0,none⟩=some (.int .i64 cf.E)∧W'.cell? ⟨W.heap.size,1,none⟩=some (.int .i64 cf.M)∧W'.cell? ⟨W.heap.size,2,none⟩=some (.int .u32 (cf.seed:Int))∧W'.cell? ⟨W.heap.size,3,none⟩=some (.int .i64 cf.mx)) (first | exact hS _ (Chg.refl _ _).drew | exact hS _ hc4 | exact hS _ (hc4.alloc _) | fail)
  (first
  | (go_at_call 51;refine (hnw _).mono ?_;rintro r w4 ⟨d,rfl,q1,q2,q3,q4,q5,q6,q7,hC4⟩;have hc4:=(Chg.refl (fun _ => False) W1).drew.trans hC4)
  | fail)
 go_wp2_with fail
 go_ret
 have hC5:=(Chg.refl (fun _ => False) w4).alloc (.cells #[.int .i64 cf.E,.int .i64 cf.M,.int .u32 (cf.seed:Int),.int .i64 cf.mx,.pointer (some ⟨d.blk,0,none⟩)] 78)
 have hCW:=hC0.trans (hc4.trans hC5)
 have hb:=Blk.new w4 78 #[.int .i64 cf.E,.int .i64 cf.M,.int .u32 (cf.seed:Int),.int .i64 cf.mx,.pointer (some ⟨d.blk,0,none⟩)]
 have h14:W.heap.size≤w4.heap.size:=Nat.le_trans hC0.size hc4.size
 have hdg:∀ g,d.foot g→W.heap.size≤g:=fun g hg => Nat.le_trans hC0.size (q7 g hg)
 have hsp:SpAt (w4.alloc (.cells #[.int .i64 cf.E,.int .i64 cf.M,.int .u32 (cf.seed:Int),.int .i64 cf.mx,.pointer (some ⟨d.blk,0,none⟩)] 78)) w0.heap.size ⟨w4.heap.size,cf.E,cf.M,cf.seed,cf.mx,d,[]⟩ :=
  ⟨hb,q1.chg0 hC5,q2,fun k => by rw [q5];rfl,q4,by rw [q6];exact ⟨by decide,nofun⟩,nofun,List.Pairwise.nil,nofun,Nat.zero_le _,⟨Nat.le_trans hw.size h14,fun g hg => Nat.le_trans hw.size (hdg g hg)⟩,hs⟩
 refine ⟨w4.heap.size,rfl,_,⟨⟨_,hsp,rfl,⟨rfl,rfl,rfl,rfl⟩,rfl,rfl⟩,hw.trans hCW⟩,hCW.mono fun _ _ h => h.elim,fun g hg => .inr ?_⟩
 rcases hg with rfl | hg | ⟨i,hi,_⟩
 ·exact h14
 ·exact hdg g hg
 ·cases hi
end
end Go.Proofs.YtehpmbmdadkhbaaGreatDoor

namespace Go.Proofs.YtehpmbmdadkhbaaGreatDoor
open Go.RowKit Pal
section
variable {α:Type} (e:TypeId) (k:Nat) (cells:α→List Value)
def OwnL (w:World) (base:Nat) (v:Value) (l:List α):Prop:=w.ownsRow base e k v l.length (l.flatMap cells)
variable {e k cells} {w w':World} {base:Nat} {v:Value} {l:List α}
theorem OwnL.nil (w:World) (base:Nat):OwnL e k cells w base (.slice none 0 0) []:=World.ownsRow_nil w base _ k
theorem OwnL.own (h:OwnL e k cells w base v l):w.ownsRow base e k v l.length (l.flatMap cells):=h
theorem OwnL.chg {F:Nat→Prop} (h:OwnL e k cells w base v l) (hs:Chg F w w') (hn:∀ g,v.ownBlock=some g→¬ F g):OwnL e k cells w' base v l:=own_stay h (.of_chg hs) hn
theorem OwnL.chg0 (h:OwnL e k cells w base v l) (hs:Chg (fun _ => False) w w'):OwnL e k cells w' base v l:=h.chg hs fun _ _ => id
theorem OwnL.lower {b:Nat} (h:OwnL e k cells w base v l) (hb:b≤base):OwnL e k cells w b v l:=by
 refine ⟨h.1,?_⟩
 rcases h.2 with h0 | ⟨g,cap,cur,rfl,h1,rest⟩
 ·exact .inl h0
 ·exact .inr ⟨g,cap,cur,rfl,Nat.le_trans hb h1,rest⟩
theorem OwnL.is (h:OwnL e k cells w base v l):∃ p cap,v=.slice p l.length cap∧l.length≤cap∧cap≤maxLen∧(∀ g,p=some g→base≤g.block∧g.block<w.heap.size):=by
 rcases h.2 with ⟨rfl,h0⟩ | ⟨g,cap,cur,rfl,h1,h2,h3,h4,_⟩
 ·exact ⟨none,0,by rw [h0],by omega,by simp [maxLen],fun _ h => (by cases h)⟩
 ·exact ⟨_,cap,rfl,h3,h4,fun g hg => by injection hg with hg;subst hg;exact ⟨h1,(Array.getElem?_eq_some_iff.1 h2).1⟩⟩
theorem OwnL.mk {n:Nat} {xs:List Value} (h:w.ownsRow base e k v n xs) (hn:n=l.length) (hx:xs=l.flatMap cells):OwnL e k cells w base v l:=by
 subst hn;subst hx;exact h
theorem flatL_snoc (l:List α) (x:α):(l++[x]).flatMap cells=l.flatMap cells++cells x:=by
 rw [List.flatMap_append];simp
theorem flatL_get (hk:∀ x,(cells x).length=k):∀ {l:List α} {i:Nat} {x:α},l[i]?=some x→∀ j,j<k→(l.flatMap cells)[i * k+j]?=(cells x)[j]?
 | y :: l,0,x,h,j,hj => by
  injection h with h
  subst h
  rw [List.flatMap_cons,Nat.zero_mul,Nat.zero_add,List.getElem?_append_left (by rw [hk];exact hj)]
 | y :: l,i+1,x,h,j,hj => by
  have ih:=flatL_get hk (l:=l) (i:=i) (x:=x) (by simpa using h) j hj
  have e1:(i+1) * k+j=k+(i * k+j):=by rw [Nat.succ_mul];omega
  rw [List.flatMap_cons,List.getElem?_append_right (by rw [hk,e1];omega),hk,e1,Nat.add_sub_cancel_left]
  exact ih
theorem OwnL.at_ (h:OwnL e k cells w base v l) (hk:∀ x,(cells x).length=k) {i:Nat} {x:α} (hx:l[i]?=some x):∃ b c,v=.slice (some ⟨b,0,none⟩) l.length c∧l.length≤c∧base≤b∧b<w.heap.size∧∀ j u,(cells x)[j]?=some u→w.cell? ⟨b,i * k+j,none⟩=some u:=by
 have hi:=(List.getElem?_eq_some_iff.1 hx).1
 have h':=h
 rcases h'.2 with ⟨_,h0⟩ | ⟨g,cap,cur,he,hb,hg,h3,_⟩
 ·omega
 ·subst he
  refine ⟨g,cap,rfl,h3,hb,(Array.getElem?_eq_some_iff.1 hg).1,fun j u hu => ?_⟩
  have hj:j<k:=by rw [← hk x];exact (List.getElem?_eq_some_iff.1 hu).1
  have hc:=World.ownsRow.cells h (g:=g) rfl (i * k+j) u (by rw [flatL_get hk hx j hj];exact hu)
  unfold Addr.add at hc
  split at hc
  ·rename_i e0;rw [e0];exact hc
  ·simpa using hc
end
end Go.Proofs.YtehpmbmdadkhbaaGreatDoor

namespace Go.Proofs.YtehpmbmdadkhbaaGreatDoor
open Go.RowKit Pal
attribute [local go_sem] Oper.semAt_some
theorem EntsR.read {w:World} {p:Option Addr} {n c:Nat} {l:List En} (h:EntsR w (.slice p n c) l):Reads w w.heap.size 2 p n (l.flatMap En.cells):=by
 obtain ⟨p',c0,e,h1,h2,h3⟩:=h
 injection e with e1 e2 e3
 subst e1
 rw [e2];exact h3
theorem EntsR.take {w:World} {p:Option Addr} {n c:Nat} {l:List En} (h:EntsR w (.slice p n c) l) {k:Nat} (hk:k≤l.length) (hc:k≤c∧c≤maxLen):EntsR w (.slice p k c) (l.take k):=by
 have:=h.part (f:=0) (t:=k) (Nat.zero_le _) hk p (fun _ => by cases p with | none => rfl | some a => simp [Addr.add]) c ⟨by omega,hc.2⟩
 rw [Nat.sub_zero,List.drop_zero] at this
 exact this
theorem EntsR.drop {w:World} {p:Option Addr} {n c:Nat} {l:List En} (h:EntsR w (.slice p n c) l) {k:Nat} (hk:k≤l.length) (hn:n=l.length) (A:Option Addr) (hA:k<l.length→A=p.map (fun x => x.add (k * 2))) (c':Nat) (hc:l.length - k≤c'∧c'≤maxLen):EntsR w (.slice A (n - k) c') (l.drop k):=by
 have:=h.part (f:=k) (t:=l.length) hk (Nat.le_refl _) A hA c' hc
 rw [List.take_of_length_le (by rw [List.length_drop];exact Nat.le_refl _)] at this
 rw [hn];exact this
theorem findR_any (v:Value) (l:List En) (m:ByteArray) (w:World) (h:EntsR w v l) (hl:l.length≤1000):Calls Tryz.prog 83 #[v,.string m] w fun r w' => r=.returned (.int .i64 (findI l m 0))∧w=w':=by
 have h0:=h
 obtain ⟨p,c,rfl,h1,h2,_⟩:=h
 go_enter Tryz.func83,Tryz.ntmps83
 go_wp2_with fail
 go_loopg [5] l.length (fun k v W => ∃ i:Nat,v=.int .i64 (i:Int)∧k=l.length - i∧i≤l.length∧w=W∧Hid (findI l m 0=findI (l.drop i) m i))
 case atStart => exact ⟨0,rfl,rfl,Nat.zero_le _,rfl,rfl⟩
 case round =>
  obtain ⟨i,rfl,rfl,hi,rfl,hf⟩:=hrel
  by_cases hil:i<l.length
  ·have h3:(i:Int)<(l.length:Int):=by omega
   have hx:=List.getElem?_eq_getElem hil
   have hd:l.drop i=l[i] :: l.drop (i+1):=List.drop_eq_getElem_cons hil
   generalize l[i]=e at hx hd
   obtain ⟨b,o,c',he,k1,k2,k3,d0,d1⟩:=h0.at_ hx
   injection he with he1 he2 he3
   subst he1
   subst he3
   have hil2:(l.length:Int)≤1000:=by omega
   by_cases hem:e.m=m
   ·have hf2:Hid (findI l m 0=(i:Int)):=by show _=_;rw [hf,hd];exact if_pos hem
    have hb:=toListE m
    rw [hem] at d0
    clear hf hd hx he2 hem
    go_wp2_with fail
    go_ret
    exact ⟨by rw [hf2.out];rfl,rfl⟩
   ·have hf2:Hid (findI l m 0=findI (l.drop (i+1)) m (i+1)):=by show _=_;rw [hf,hd];exact if_neg hem
    have hb:=toListN hem
    clear hf hd hx he2 hem
    go_wp2_with fail
    go_roundg (l.length - (i+1))
    case rel => exact ⟨i+1,int_eq (by omega),rfl,by omega,rfl,hf2⟩
    case measure => omega
  ·obtain rfl:i=l.length:=by omega
   have h3:¬ (l.length:Int)<(l.length:Int):=by omega
   have hf2:Hid (findI l m 0=-1):=by show _=_;rw [hf,List.drop_length];rfl
   clear hf
   go_wp2_with fail
   go_ret
   exact ⟨by rw [hf2.out];rfl,rfl⟩
set_option maxRecDepth 100000 in
set_option maxHeartbeats 1000000 in
theorem delR_any (v:Value) (l:List En) (k:Nat) (w:World) (h:EntsR w v l) (hk:k<l.length) (hl:l.length≤1000):Calls Tryz.prog 84 #[v,.int .i64 (k:Int)] w (RgPost w (delE l k)):=by
 obtain ⟨i0,hi0,hz0,hz1,hz2⟩:=info_parts ent_info
 have h0:=h
 obtain ⟨p,c,rfl,h1,h2,h3⟩:=h
 have h2':=h2
 unfold maxLen at h2'
 obtain ⟨p,rfl,_⟩:=h3.2 (by omega)
 clear h3
 have hA:=(h0.take (k:=k) (by omega) ⟨by omega,h2⟩).read
 have hB1:=fun A hA c' hc => (h0.drop (k:=k+1) (by omega) rfl A hA c' hc).read
 have x1:(k:Int)≤(c:Int):=by omega
 have x2:(k:Int)+1≤(l.length:Int):=by omega
 have x3:(l.length:Int)≤(c:Int):=by omega
 have x4:(l.length:Int)≤1000:=by omega
 have x5:(k:Int)≤(l.length:Int):=by omega
 have m1:0+k≤maxLen:=by unfold maxLen;omega
 have m2:(0+k) * 24≤140737488355328:=by omega
 have m3:0+k+(l.length - (k+1))≤maxLen:=by unfold maxLen;omega
 have m4:(0+k+(l.length - (k+1))) * 24≤140737488355328:=by omega
 unfold RgPost delE
 have hfin:∀ (v2:Value) (w1 w2:World),w2.ownsRow w.heap.size 68 2 v2 (0+k+(l.length - (k+1))) ([]++(l.take k).flatMap En.cells++(l.drop (k+1)).flatMap En.cells)→Ents w2 w.heap.size v2 (l.take k++l.drop (k+1)):=fun v2 w1 w2 h => Ents.mk h (by rw [List.length_append,List.length_take,List.length_drop];omega) (by rw [List.nil_append,List.flatMap_append])
 replace hfin:=Lib.hid hfin
 clear h0 hl hk
 by_cases hcap:c=k+1
 ·subst hcap
  have x7:l.length=k+1:=by omega
  have hB2:=hB1 (some p) (fun h => by omega) 0 ⟨by omega,Nat.zero_le _⟩
  have e0:l.length - (k+1)=0:=by omega
  rw [e0] at hB2 hfin m3 m4
  clear e0
  replace x7:=Lib.hid x7
  clear hB1
  go_enter Tryz.func84,Tryz.ntmps84
  go_wp2_with (first
   | (at_builtin;refine wpList_append_any _ rfl (.tmp 6) (.tmp 9) 64 rfl w.heap.size 68 i0 _ 2 24 Tryz.underlying64 hi0 hz0 hz1 hz2 rfl (by omega) _ 0 [] rfl (World.ownsRow_nil w w.heap.size _ 2) w.heap.size (some p) k (k+1) _ rfl hA (ents_one _) m1 m2 (Nat.le_refl _) ?_;intro v1 w1 hown1 hg1 _;have hC1:Chg (fun _ => False) w w1:=Chg.of_grown hg1 (fun g h => by cases h))
   | (at_builtin;refine wpList_append_any _ rfl (.tmp 11) (.tmp 15) 64 rfl w.heap.size 68 i0 _ 2 24 Tryz.underlying64 hi0 hz0 hz1 hz2 rfl (by omega) _ (0+k) _ rfl hown1 w.heap.size (some p) 0 _ _ rfl (hB2.chg hC1 (Nat.le_refl _) fun _ _ => id) (ents_one _) m3 m4 hC1.size ?_;intro v2 w2 hown2 hg2 _)
   | fail)
  all_goals
   go_ret
   exact ⟨⟨_,rfl,hfin.out v2 w1 w2 hown2⟩,hC1.trans' (app_chg hown1 hg2) fun g hl h => by omega⟩
 ·have hB2:=hB1 _ (fun _ => rfl) (c - (k+1)) ⟨by omega,by unfold maxLen;omega⟩
  clear hB1
  go_enter Tryz.func84,Tryz.ntmps84
  go_wp2_with (first
   | (at_builtin;refine wpList_append_any _ rfl (.tmp 6) (.tmp 9) 64 rfl w.heap.size 68 i0 _ 2 24 Tryz.underlying64 hi0 hz0 hz1 hz2 rfl (by omega) _ 0 [] rfl (World.ownsRow_nil w w.heap.size _ 2) w.heap.size (some p) k c _ rfl hA (ents_one _) m1 m2 (Nat.le_refl _) ?_;intro v1 w1 hown1 hg1 _;have hC1:Chg (fun _ => False) w w1:=Chg.of_grown hg1 (fun g h => by cases h))
   | (at_builtin;refine wpList_append_any _ rfl (.tmp 11) (.tmp 15) 64 rfl w.heap.size 68 i0 _ 2 24 Tryz.underlying64 hi0 hz0 hz1 hz2 rfl (by omega) _ (0+k) _ rfl hown1 w.heap.size (some (p.add ((k+1) * 2))) (l.length - (k+1)) (c - (k+1)) _ rfl (hB2.chg hC1 (Nat.le_refl _) fun _ _ => id) (ents_one _) m3 m4 hC1.size ?_;intro v2 w2 hown2 hg2 _)
   | fail)
  all_goals
   go_ret
   exact ⟨⟨_,rfl,hfin.out v2 w1 w2 hown2⟩,hC1.trans' (app_chg hown1 hg2) fun g hl h => by omega⟩
end Go.Proofs.YtehpmbmdadkhbaaGreatDoor

namespace Go.Proofs.YtehpmbmdadkhbaaGreatDoor
open Go.RowKit Pal
theorem all37 {P:Array Value→Prop} (h:∀ u0 u1 u2 u3 u4 u5 u6 u7 u8 u9 u10 u11 u12 u13 u14 u15 u16 u17 u18 u19 u20 u21 u22 u23 u24 u25 u26 u27 u28 u29 u30 u31 u32 u33 u34 u35 u36:Value,P #[u0,u1,u2,u3,u4,u5,u6,u7,u8,u9,u10,u11,u12,u13,u14,u15,u16,u17,u18,u19,u20,u21,u22,u23,u24,u25,u26,u27,u28,u29,u30,u31,u32,u33,u34,u35,u36]) (a:Array Value) (hs:a.size=37):P a:=by
 obtain ⟨l⟩:=a
 have g:l.length=37:=hs
 clear hs
 iterate 37 (obtain ⟨_,l2,e,g2⟩:=Pal.len_cons g;clear g;subst e;have g:=g2;clear g2)
 obtain rfl:=List.length_eq_zero_iff.1 g
 exact h _ _ _ _ _ _ _ _ _ _ _ _ _ _ _ _ _ _ _ _ _ _ _ _ _ _ _ _ _ _ _ _ _ _ _ _ _
def ActL (a b:ByteArray) (i:Nat) (x:Act):Prop:=x.tmps.size=37∧x.tmps[0]?=some (.string a)∧x.tmps[1]?=some (.string b)∧x.tmps[5]?=some (.int .i64 (i:Int))∧x.defers=[]
def InvL (w0:World) (a b:ByteArray) (m:Nat) (x:Act) (w:World):Prop :=
 ∃ i,m=a.size - i∧i≤a.size∧i≤b.size∧ActL a b i x∧(∃ n,w=w0.drewN n)∧a.data.toList.take i=b.data.toList.take i
set_option maxRecDepth 100000 in
set_option maxHeartbeats 1000000 in
theorem less7_any (a b:ByteArray) (w:World) (ha:a.size≤9223372036854775807) (hb:b.size≤9223372036854775807) :
  Calls Tryz.prog 108 #[.string a,.string b] w fun e w' => e=.returned (.bool (decide (ltB a b)))∧∃ n,w'=w.drewN n:=by
 go_enter Tryz.func108,Tryz.ntmps108
 go_wp2_with fail
 refine wp_loop_ghost (InvL w a b) a.size ?_ ?_
 ·exact ⟨0,rfl,Nat.zero_le _,Nat.zero_le _,⟨rfl,rfl,rfl,rfl,rfl⟩,⟨0,rfl⟩,rfl⟩
 ·rintro m ⟨tmps,ds⟩ W ⟨i,rfl,hia,hib,⟨hsz,t0,t1,t5,rfl⟩,⟨n,rfl⟩,ht⟩
  replace hsz:tmps.size=37:=hsz
  dsimp only at t0 t1 t5
  revert t0 t1 t5
  revert hsz
  revert tmps
  refine all37 ?_
  intro u0 u1 u2 u3 u4 u5 u6 u7 u8 u9 u10 u11 u12 u13 u14 u15 u16 u17 u18 u19 u20 u21 u22 u23 u24 u25 u26 u27 u28 u29 u30 u31 u32 u33 u34 u35 u36 t0 t1 t5
  simp only [List.getElem?_toArray,List.getElem?_cons_zero,List.getElem?_cons_succ,Option.some.injEq] at t0 t1 t5
  subst t0 t1 t5
  by_cases h1:i<a.size
  ·have h1':(i:Int)<(a.size:Int):=by omega
   by_cases h2:i<b.size
   ·have h2':(i:Int)<(b.size:Int):=by omega
    have ta:=take_snoc a i h1
    have tb:=take_snoc b i h2
    by_cases he:a[i]=b[i]
    ·have ht':Hid (a.data.toList.take (i+1)=b.data.toList.take (i+1)):=by show _=_;rw [ta,tb,ht,he]
     have hb1:((a[i].toNat:Int) != (b[i].toNat:Int))=false:=by rw [he];simp
     clear ta tb he ht
     go_wp2_with fail
     go_quiet (fail)
     go_wp2_with fail
     exact ⟨a.size - (i+1),by omega,i+1,rfl,by omega,by omega,⟨rfl,rfl,rfl,rfl,rfl⟩,⟨_,rfl⟩,ht'.out⟩
    ·have hl:=ltB_at ht h1 h2 he
     have hb1:((a[i].toNat:Int) != (b[i].toNat:Int))=true:=by
      rw [bne_iff_ne]
      intro e
      exact he (UInt8.toNat_inj.1 (by omega))
     have hd:decide (a[i].toNat<b[i].toNat)=decide (ltB a b):=by
      rw [decide_eq_decide,hl,UInt8.lt_iff_toNat_lt]
     replace hd:=Lib.hid hd
     replace hl:=Lib.hid hl
     clear ta tb he ht
     go_wp2_with fail
     go_quiet (fail)
     go_wp2_with fail
     go_quiet (fail)
     go_wp2_with fail
     go_ret
     exact ⟨by show Ending.returned (.bool (decide (a[i].toNat<b[i].toNat)))=_;rw [hd.out],_,by rw [World.drewN_drewN,World.drewN_drewN]⟩
   ·have hl:=ltB_len ht (.inr (by omega)) hia hib
    have h2':((i:Int)<(b.size:Int))=False:=by simp only [eq_iff_iff,iff_false];omega
    have h22:(i<b.size)=False:=by simp only [eq_iff_iff,iff_false];omega
    have hd:decide (a.size<b.size)=decide (ltB a b):=by rw [decide_eq_decide,hl]
    replace hd:=Lib.hid hd
    replace hl:=Lib.hid hl
    clear h2
    go_wp2_with fail
    go_ret
    exact ⟨by show Ending.returned (.bool (decide (a.size<b.size)))=_;rw [hd.out],_,rfl⟩
  ·have hl:=ltB_len ht (.inl (by omega)) hia hib
   have h1':((i:Int)<(a.size:Int))=False:=by simp only [eq_iff_iff,iff_false];omega
   have h12:(i<a.size)=False:=by simp only [eq_iff_iff,iff_false];omega
   have hd:decide (a.size<b.size)=decide (ltB a b):=by rw [decide_eq_decide,hl]
   replace hd:=Lib.hid hd
   replace hl:=Lib.hid hl
   clear h1
   go_wp2_with fail
   go_ret
   exact ⟨by show Ending.returned (.bool (decide (a.size<b.size)))=_;rw [hd.out],_,rfl⟩
theorem chg_drewN {S:Nat→Prop} (w:World) (n:Nat):Chg S w (w.drewN n):=by
 exact (Chg.refl _ w).drewN n
set_option maxRecDepth 100000 in
set_option maxHeartbeats 1000000 in
theorem less9_any (a b:En) (w:World) (ha:a.m.size≤9223372036854775807) (hb:b.m.size≤9223372036854775807):Calls Tryz.prog 119 #[a.val,b.val] w fun r w' => r=.returned (.bool (decide (ltE a b)))∧Chg (fun _ => False) w w':=by
 have hls:=fun w => less7_any a.m b.m w ha hb
 unfold En.val
 by_cases h1:a.s<b.s
 ·have e:decide (ltE a b)=true:=decide_eq_true (.inl h1)
  rw [e]
  go_enter Tryz.func119,Tryz.ntmps119
  go_wp2_with fail
  go_ret
  exact ⟨rfl,((Chg.refl _ _).alloc _).alloc _⟩
 ·by_cases h2:a.s=b.s
  ·have e:decide (ltE a b)=decide (ltB a.m b.m):=by
    rw [decide_eq_decide]
    exact ⟨fun h => h.elim (fun h => absurd h h1) (·.2),fun h => .inr ⟨h2,h⟩⟩
   rw [e]
   have h3:(a.s == b.s)=true:=by rw [h2];simp
   go_enter Tryz.func119,Tryz.ntmps119
   go_wp2_with (go_at_call 108;refine (hls _).mono ?_;rintro r w1 ⟨rfl,k,rfl⟩)
   go_ret
   exact ⟨rfl,(((Chg.refl _ _).alloc _).alloc _).trans (chg_drewN _ _)⟩
  ·have e:decide (ltE a b)=false:=decide_eq_false fun h => h.elim h1 fun h => h2 h.1
   rw [e]
   have h3:(a.s == b.s)=false:=by simpa using h2
   go_enter Tryz.func119,Tryz.ntmps119
   go_wp2_with fail
   go_ret
   exact ⟨rfl,((Chg.refl _ _).alloc _).alloc _⟩
end Go.Proofs.YtehpmbmdadkhbaaGreatDoor

namespace Go.Proofs.YtehpmbmdadkhbaaGreatDoor
open Go.RowKit Pal
attribute [local go_sem] Oper.semAt_some
theorem reads_ent (W:World) (e:En):Reads (W.alloc (.cells #[.string e.m,.int .i64 e.s] 68)) (W.alloc (.cells #[.string e.m,.int .i64 e.s] 68)).heap.size 2 (some ⟨W.heap.size,0,none⟩) 1 [.string e.m,.int .i64 e.s]:=by
 refine ⟨rfl,fun _ => ⟨_,rfl,(Blk.new W 68 #[.string e.m,.int .i64 e.s]).lt,fun j u hu => ?_⟩⟩
 rw [addr_add',Nat.zero_add,(Blk.new W 68 #[.string e.m,.int .i64 e.s]).cell]
 simpa using hu
set_option maxRecDepth 100000 in
set_option maxHeartbeats 4000000 in
theorem insR_any (v:Value) (l:List En) (k:Nat) (e:En) (w:World) (h:EntsR w v l) (hk:k≤l.length) (hl:l.length≤1000):Calls Tryz.prog 120 #[v,.int .i64 (k:Int),e.val] w (RgPost w (l.take k++e :: l.drop k)):=by
 obtain ⟨i0,hi0,hz0,hz1,hz2⟩:=info_parts ent_info
 have h0:=h
 obtain ⟨p,c,rfl,h1,h2,_⟩:=h
 have h2':=h2
 unfold maxLen at h2'
 have hA:=(h0.take (k:=k) hk ⟨by omega,h2⟩).read
 have hB1:=fun A hA c' hc => (h0.drop (k:=k) hk rfl A hA c' hc).read
 have x1:(k:Int)≤(c:Int):=by omega
 have x2:(k:Int)≤(l.length:Int):=by omega
 have x3:(l.length:Int)≤(c:Int):=by omega
 have x4:(l.length:Int)≤1000:=by omega
 have m1:0+k≤maxLen:=by unfold maxLen;omega
 have m2:(0+k) * 24≤140737488355328:=by omega
 have m3:0+k+1≤maxLen:=by unfold maxLen;omega
 have m4:(0+k+1) * 24≤140737488355328:=by omega
 have m5:0+k+1+(l.length - k)≤maxLen:=by unfold maxLen;omega
 have m6:(0+k+1+(l.length - k)) * 24≤140737488355328:=by omega
 have hone:∀ u∈[Value.string e.m,Value.int .i64 e.s],u.oneCell'=true:=by
  intro u hu
  rcases List.mem_cons.1 hu with rfl | hu
  ·rfl
  ·rw [List.mem_singleton] at hu;rw [hu];rfl
 unfold RgPost En.val
 have hfin:∀ (v2:Value) (w2:World),w2.ownsRow w.heap.size 68 2 v2 (0+k+1+(l.length - k)) ([]++(l.take k).flatMap En.cells++[.string e.m,.int .i64 e.s]++(l.drop k).flatMap En.cells)→Ents w2 w.heap.size v2 (l.take k++e :: l.drop k):=fun v2 w2 h => Ents.mk h (by rw [List.length_append,List.length_cons,List.length_take,List.length_drop];omega) (by rw [List.nil_append,List.flatMap_append,List.flatMap_cons,List.append_assoc];rfl)
 replace hfin:=Lib.hid hfin
 clear hl hk
 obtain ⟨W4,hW4⟩:∃ W4,W4=w.alloc (.cells #[.string e.m,.int .i64 e.s] 68):=⟨_,rfl⟩
 have hC0:=(Chg.refl (fun _ => False) w).alloc (.cells #[.string e.m,.int .i64 e.s] 68)
 have hbx:=Blk.new w 68 #[.string e.m,.int .i64 e.s]
 rw [← hW4] at hC0 hbx
 have hWW:w.heap.size≤W4.heap.size:=hC0.size
 have hgen:∀ W',Chg (fun _ => False) W4 W'→W'.cell? ⟨w.heap.size,0,none⟩=some (.string e.m)∧W'.cell? ⟨w.heap.size,1,none⟩=some (.int .i64 e.s):=fun W' hc => ⟨by have:=(hbx.chg hc id).cell 0;simpa using this,by have:=(hbx.chg hc id).cell 1;simpa using this⟩
 have hrO:∀ W',Chg (fun _ => False) W4 W'→Reads W' W4.heap.size 2 p k ((l.take k).flatMap En.cells):=fun W' hc => (hA.chg (hC0.trans hc) (Nat.le_refl _) fun _ _ => id).more hWW
 by_cases hcap:c=k
 ·have e1:l.length - k=0:=by omega
  have hB2:=hB1 p (fun h => by omega) 0 ⟨by omega,Nat.zero_le _⟩
  subst hcap
  rw [e1] at hB2 hfin m5 m6
  have hBW:∀ W',Chg (fun _ => False) W4 W'→Reads W' W4.heap.size 2 p 0 ((l.drop c).flatMap En.cells):=fun W' hc => (hB2.chg (hC0.trans hc) (Nat.le_refl _) fun _ _ => id).more hWW
  clear hB1 hB2 h0 hbx
  go_enter Tryz.func120,Tryz.ntmps120
  go_wp2_with fail
  rw [← hW4]
  clear hW4
  go_region_held3 (fun w' => w'.cell? ⟨w.heap.size,0,none⟩=some (.string e.m)∧w'.cell? ⟨w.heap.size,1,none⟩=some (.int .i64 e.s)) (first | exact hgen _ (Chg.refl _ _).drew | exact hgen _ ((Chg.refl _ _).alloc _).drew | exact hgen _ hc6 | exact hgen _ (hc6.alloc _) | exact hgen _ (hc6.alloc _).drew | exact hgen _ hc7 | fail)
   (first
    | (refine step_append_any _ (by rfl) (.tmp 8) (.tmp 11) 64 (by rfl) w.heap.size 68 i0 _ 2 24 Tryz.underlying64 hi0 hz0 hz1 hz2 rfl (by omega) _ 0 [] (by rfl) (World.ownsRow_nil _ w.heap.size 68 2) W4.heap.size p c _ ((l.take c).flatMap En.cells) (by rfl) (hrO _ (by first | exact (Chg.refl _ _).drew | exact ((Chg.refl _ _).alloc _).drew)) (ents_one _) m1 m2 (by first | exact hWW | exact Nat.le_trans hWW (by simp)) ?_;intro v6 w6 hown6 hg6 hat6;have hc6:Chg (fun _ => False) W4 w6:=(show Chg (fun _ => False) W4 _ from (by first | exact (Chg.refl _ _).drew | exact ((Chg.refl _ _).alloc _).drew)).trans (Chg.of_grown hg6 (fun g h => by cases h));have hS6:∀ W',Chg (fun _ => False) w6 W'→W'.ownsRow w.heap.size 68 2 v6 _ _:=fun W' hc => own_stay hown6 (.of_chg hc) (fun _ _ => id);have hv6:∀ g,v6.ownBlock=some g→W4.heap.size≤g:=fun g hg => by rcases hat6 with h | h;(rw [h] at hg;cases hg);(rw [h] at hg;injection hg with hg;rw [← hg];simp))
    | (first
     | (refine step_append_any _ (by rfl) (.tmp 12) (.tmp 14) 64 (by rfl) w.heap.size 68 i0 _ 2 24 Tryz.underlying64 hi0 hz0 hz1 hz2 rfl (by omega) _ _ _ (by rfl) (hS6 _ ((Chg.refl _ _).alloc _)) (w6.alloc (.cells #[.string e.m,.int .i64 e.s] 68)).heap.size (some ⟨w6.heap.size,0,none⟩) 1 1 [.string e.m,.int .i64 e.s] (by rfl) (reads_ent w6 e) hone m3 m4 (Nat.le_trans hWW (by first | exact hc6.size | exact (hc6.alloc _).size)) ?_;intro v7 w7 hown7 hg7 hat7;have hc7:Chg (fun _ => False) W4 w7:=(show Chg (fun _ => False) W4 _ from (by first | exact hc6 | exact (hc6.alloc _) | exact (hc6.alloc _).drew)).trans' (Chg.of_grown hg7 (fun g h => h)) (fun g hl h' => by have:=hv6 g h';omega))
     | (refine step_append_any _ (by rfl) (.tmp 12) (.tmp 14) 64 (by rfl) w.heap.size 68 i0 _ 2 24 Tryz.underlying64 hi0 hz0 hz1 hz2 rfl (by omega) _ _ _ (by rfl) (hS6 _ (Chg.refl _ _)) (W4.alloc (.cells #[.string e.m,.int .i64 e.s] 68)).heap.size (some ⟨W4.heap.size,0,none⟩) 1 1 [.string e.m,.int .i64 e.s] (by rfl) ((reads_ent W4 e).chg (S:=fun _ => False) (((Chg.refl _ _).drew).trans (Chg.of_grown hg6 (fun g h => by cases h))) (Nat.le_refl _) (fun _ _ => id)) hone m3 m4 (Nat.le_trans hWW (by first | exact hc6.size | exact (hc6.alloc _).size)) ?_;intro v7 w7 hown7 hg7 hat7;have hc7:Chg (fun _ => False) W4 w7:=(show Chg (fun _ => False) W4 _ from (by first | exact hc6 | exact (hc6.alloc _) | exact (hc6.alloc _).drew)).trans' (Chg.of_grown hg7 (fun g h => h)) (fun g hl h' => by have:=hv6 g h';omega)))
    | fail)
  all_goals
   go_wp2_with (at_builtin;refine wpList_append_any _ rfl (.tmp 16) (.tmp 19) 64 rfl w.heap.size 68 i0 _ 2 24 Tryz.underlying64 hi0 hz0 hz1 hz2 rfl (by omega) _ _ _ rfl hown7 W4.heap.size _ 0 _ ((l.drop c).flatMap En.cells) rfl (hBW _ hc7) (ents_one _) m5 m6 (Nat.le_trans hWW hc7.size) ?_;intro v8 w8 hown8 hg8 hat8)
   have hv7:∀ g,v7.ownBlock=some g→W4.heap.size≤g:=fun g hg => by
    rcases hat7 with h | h
    ·rw [h] at hg;exact hv6 g hg
    ·rw [h] at hg
     injection hg with hg
     rw [← hg]
     first | exact hc6.size | exact Nat.le_trans hc6.size (by simp)
   have hc8:Chg (fun _ => False) W4 w8:=hc7.trans' (Chg.of_grown hg8 (fun g h => h)) (fun g hl h' => by have:=hv7 g h';omega)
   go_ret
   exact ⟨⟨_,rfl,hfin.out _ _ hown8⟩,hC0.trans hc8⟩
 ·have hB2:=hB1 _ (fun _ => rfl) (c - k) ⟨by omega,by unfold maxLen;omega⟩
  have hBW:∀ W',Chg (fun _ => False) W4 W'→Reads W' W4.heap.size 2 (p.map fun x => x.add (k * 2)) (l.length - k) ((l.drop k).flatMap En.cells):=fun W' hc => (hB2.chg (hC0.trans hc) (Nat.le_refl _) fun _ _ => id).more hWW
  clear hB1 hB2 h0 hbx
  go_enter Tryz.func120,Tryz.ntmps120
  go_wp2_with fail
  rw [← hW4]
  clear hW4
  go_region_held3 (fun w' => w'.cell? ⟨w.heap.size,0,none⟩=some (.string e.m)∧w'.cell? ⟨w.heap.size,1,none⟩=some (.int .i64 e.s)) (first | exact hgen _ (Chg.refl _ _).drew | exact hgen _ ((Chg.refl _ _).alloc _).drew | exact hgen _ hc6 | exact hgen _ (hc6.alloc _) | exact hgen _ (hc6.alloc _).drew | exact hgen _ hc7 | fail)
   (first
    | (refine step_append_any _ (by rfl) (.tmp 8) (.tmp 11) 64 (by rfl) w.heap.size 68 i0 _ 2 24 Tryz.underlying64 hi0 hz0 hz1 hz2 rfl (by omega) _ 0 [] (by rfl) (World.ownsRow_nil _ w.heap.size 68 2) W4.heap.size p k _ ((l.take k).flatMap En.cells) (by rfl) (hrO _ (by first | exact (Chg.refl _ _).drew | exact ((Chg.refl _ _).alloc _).drew)) (ents_one _) m1 m2 (by first | exact hWW | exact Nat.le_trans hWW (by simp)) ?_;intro v6 w6 hown6 hg6 hat6;have hc6:Chg (fun _ => False) W4 w6:=(show Chg (fun _ => False) W4 _ from (by first | exact (Chg.refl _ _).drew | exact ((Chg.refl _ _).alloc _).drew)).trans (Chg.of_grown hg6 (fun g h => by cases h));have hS6:∀ W',Chg (fun _ => False) w6 W'→W'.ownsRow w.heap.size 68 2 v6 _ _:=fun W' hc => own_stay hown6 (.of_chg hc) (fun _ _ => id);have hv6:∀ g,v6.ownBlock=some g→W4.heap.size≤g:=fun g hg => by rcases hat6 with h | h;(rw [h] at hg;cases hg);(rw [h] at hg;injection hg with hg;rw [← hg];simp))
    | (first
     | (refine step_append_any _ (by rfl) (.tmp 12) (.tmp 14) 64 (by rfl) w.heap.size 68 i0 _ 2 24 Tryz.underlying64 hi0 hz0 hz1 hz2 rfl (by omega) _ _ _ (by rfl) (hS6 _ ((Chg.refl _ _).alloc _)) (w6.alloc (.cells #[.string e.m,.int .i64 e.s] 68)).heap.size (some ⟨w6.heap.size,0,none⟩) 1 1 [.string e.m,.int .i64 e.s] (by rfl) (reads_ent w6 e) hone m3 m4 (Nat.le_trans hWW (by first | exact hc6.size | exact (hc6.alloc _).size)) ?_;intro v7 w7 hown7 hg7 hat7;have hc7:Chg (fun _ => False) W4 w7:=(show Chg (fun _ => False) W4 _ from (by first | exact hc6 | exact (hc6.alloc _) | exact (hc6.alloc _).drew)).trans' (Chg.of_grown hg7 (fun g h => h)) (fun g hl h' => by have:=hv6 g h';omega))
     | (refine step_append_any _ (by rfl) (.tmp 12) (.tmp 14) 64 (by rfl) w.heap.size 68 i0 _ 2 24 Tryz.underlying64 hi0 hz0 hz1 hz2 rfl (by omega) _ _ _ (by rfl) (hS6 _ (Chg.refl _ _)) (W4.alloc (.cells #[.string e.m,.int .i64 e.s] 68)).heap.size (some ⟨W4.heap.size,0,none⟩) 1 1 [.string e.m,.int .i64 e.s] (by rfl) ((reads_ent W4 e).chg (S:=fun _ => False) (((Chg.refl _ _).drew).trans (Chg.of_grown hg6 (fun g h => by cases h))) (Nat.le_refl _) (fun _ _ => id)) hone m3 m4 (Nat.le_trans hWW (by first | exact hc6.size | exact (hc6.alloc _).size)) ?_;intro v7 w7 hown7 hg7 hat7;have hc7:Chg (fun _ => False) W4 w7:=(show Chg (fun _ => False) W4 _ from (by first | exact hc6 | exact (hc6.alloc _) | exact (hc6.alloc _).drew)).trans' (Chg.of_grown hg7 (fun g h => h)) (fun g hl h' => by have:=hv6 g h';omega)))
    | fail)
  all_goals
   go_wp2_with (at_builtin;refine wpList_append_any _ rfl (.tmp 16) (.tmp 19) 64 rfl w.heap.size 68 i0 _ 2 24 Tryz.underlying64 hi0 hz0 hz1 hz2 rfl (by omega) _ _ _ rfl hown7 W4.heap.size _ (l.length - k) _ ((l.drop k).flatMap En.cells) rfl (hBW _ hc7) (ents_one _) m5 m6 (Nat.le_trans hWW hc7.size) ?_;intro v8 w8 hown8 hg8 hat8)
   have hv7:∀ g,v7.ownBlock=some g→W4.heap.size≤g:=fun g hg => by
    rcases hat7 with h | h
    ·rw [h] at hg;exact hv6 g hg
    ·rw [h] at hg
     injection hg with hg
     rw [← hg]
     first | exact hc6.size | exact Nat.le_trans hc6.size (by simp)
   have hc8:Chg (fun _ => False) W4 w8:=hc7.trans' (Chg.of_grown hg8 (fun g h => h)) (fun g hl h' => by have:=hv7 g h';omega)
   go_ret
   exact ⟨⟨_,rfl,hfin.out _ _ hown8⟩,hC0.trans hc8⟩
end Go.Proofs.YtehpmbmdadkhbaaGreatDoor

namespace Go.Proofs.YtehpmbmdadkhbaaGreatDoor
open Go.RowKit Pal Go.ChangeShapes Go.WideShapes Go.Deep
theorem Chg.cell {S:Nat→Prop} {w w':World} (h:Chg S w w') {b:Nat} (hb:b<w.heap.size) (hn:¬ S b) (i:Nat):w'.cell? ⟨b,i,none⟩=w.cell? ⟨b,i,none⟩:=by
 unfold World.cell?
 have:=h.block b hb hn
 simp only [this]
section
variable {H:Type} {enc:TypeId × Value→H} {P:Program} {w:World} {base:Nat} {spare:Nat→Bool} {held:Bool}
theorem open_slice_fields {t e:TypeId} {fs:Array Field} {fuel:Nat} {cs:List Value} {x:DataW H × List MemPlace} (ht:P.underlying t=some (.slice e)) (he:P.underlying e=some (.struct fs))
  (hone:oneCellFields P fs=true) (hC:P.cellsOf e=fs.size) (h:DataW.trod enc P w base spare held fuel t cs=some x) :
  (cs=[.slice none 0 0]∧x=(.nil,[])) ∨
  ∃ (a:Addr) (len cap m:Nat) (D:Nat→DataW H) (Pl:Nat→List MemPlace),cs=[.slice (some a) len cap]∧base≤a.block∧len≤cap∧cap≤maxLen∧m=(if spare a.block then cap else len) ∧
   x=(.slice ((List.range len).map D) ((List.range (m - len)).map fun j => D (len+j)),MemPlace.row a (m * fs.size)++(List.range m).flatMap Pl) ∧
   ∀ i,i<m→∃ (ys:List (DataW H × List MemPlace)) (n:Nat),D i=.agg (ys.map (·.1))∧Pl i=ys.flatMap (·.2)∧ys.length=fs.size ∧
    ∀ (j:Nat) (f:Field),fs[j]?=some f→∃ (v:Value) (y:DataW H × List MemPlace),w.cell? (a.add (i * fs.size+j))=some v∧ys[j]?=some y∧DataW.trod enc P w base spare held n f.type [v]=some y:=by
 rcases open_slice ht h with h0 | ⟨a,len,cap,m,n,D,Pl,hcs,hb,hl,hm,hmm,hx,hi⟩
 ·exact .inl h0
 ·refine .inr ⟨a,len,cap,m,D,Pl,hcs,hb,hl,hm,hmm,by rw [hC] at hx;exact hx,fun i him => ?_⟩
  obtain ⟨cs',hc,ht'⟩:=hi i him
  rw [hC] at hc
  obtain ⟨ys,n',hn',hy,hlen,hyl,hf⟩:=DataW.trod_struct he ht'
  obtain ⟨_,hcl,hat⟩:=World.cells?_some hc
  simp only [Prod.mk.injEq] at hy
  refine ⟨ys,n',hy.1,hy.2,hyl,fun j f hj => ?_⟩
  obtain ⟨ho,hk⟩:=hone_of hone j f hj
  have hjl:j<fs.size:=(Array.getElem?_eq_some_iff.1 hj).1
  have hcell:=hat j hjl
  have hv:cs'[j]?=some (cs'[j]'(by omega)):=List.getElem?_eq_getElem (by omega)
  have h1:=hf j f hj
  rw [ho,hk] at h1
  have hone':(cs'.drop j).take 1=[cs'[j]'(by omega)]:=by
   rw [List.drop_eq_getElem_cons (by omega)]
   rfl
  rw [hone'] at h1
  have hys:ys[j]?=some (ys[j]'(by omega)):=List.getElem?_eq_getElem (by omega)
  refine ⟨_,_,?_,hys,h1.trans hys⟩
  rw [← Go.Deep.add_add,hcell,hv]
end
theorem block_lt' {w:World} {a:Addr} {v:Value} (h:w.cell? a=some v):a.block<w.heap.size:=by
 unfold World.cell? at h
 split at h
 ·rename_i h1;exact (Array.getElem?_eq_some_iff.1 h1).1
 ·cases h
theorem addr_add (b o k:Nat):(⟨b,o,none⟩:Addr).add k=⟨b,o+k,none⟩:=by
 unfold Addr.add;split
 ·rename_i h;rw [h];rfl
 ·rfl
theorem trod_i {H:Type} {enc:TypeId × Value→H} {P:Program} {w:World} {base:Nat} {spare:Nat→Bool} {held:Bool} {n:Nat} {t:TypeId} {v:Value} {y:DataW H × List MemPlace} (ht:P.underlying t=some (.int .i64)) (h:DataW.trod enc P w base spare held n t [v]=some y):∃ k,v=.int .i64 k∧(Lit.int .i64 k).wf=true:=by
 obtain ⟨k,h1,_,h3⟩:=DataW.trod_int ht h
 simp only [List.cons.injEq,and_true] at h1
 exact ⟨k,h1,h3⟩
theorem trod_s {H:Type} {enc:TypeId × Value→H} {P:Program} {w:World} {base:Nat} {spare:Nat→Bool} {held:Bool} {n:Nat} {t:TypeId} {v:Value} {y:DataW H × List MemPlace} (ht:P.underlying t=some .string) (h:DataW.trod enc P w base spare held n t [v]=some y):∃ s,v=.string s∧s.size≤maxLen:=by
 obtain ⟨k,h1,_,h3⟩:=DataW.trod_string ht h
 simp only [List.cons.injEq,and_true] at h1
 exact ⟨k,h1,h3⟩
end Go.Proofs.YtehpmbmdadkhbaaGreatDoor

namespace Go.Proofs.YtehpmbmdadkhbaaGreatDoor
open Go.RowKit Pal
attribute [local go_sem] Oper.semAt_some
set_option maxRecDepth 100000 in
set_option maxHeartbeats 4000000 in
theorem sortedR_any (v:Value) (l:List En) (e:En) (w:World) (h:EntsR w v l) (hs:l.Pairwise ltE) (hk:∀ x∈l,x.m.size≤9223372036854775807) (he:e.m.size≤9223372036854775807) (hl:l.length≤1000):Calls Tryz.prog 85 #[v,e.val] w (RgPost w (insE l e)):=by
 obtain ⟨W4,hW4⟩:∃ W4,W4=w.alloc (.cells #[.string e.m,.int .i64 e.s] 68):=⟨_,rfl⟩
 have hC0:=(Chg.refl (fun _ => False) w).alloc (.cells #[.string e.m,.int .i64 e.s] 68)
 have hbx:=Blk.new w 68 #[.string e.m,.int .i64 e.s]
 rw [← hW4] at hC0 hbx
 have hgen:∀ W',Chg (fun _ => False) W4 W'→W'.cell? ⟨w.heap.size,0,none⟩=some (.string e.m)∧W'.cell? ⟨w.heap.size,1,none⟩=some (.int .i64 e.s)∧w.heap.size<W'.heap.size:=fun W' hc => ⟨by have:=(hbx.chg hc id).cell 0;simpa using this,by have:=(hbx.chg hc id).cell 1;simpa using this,(hbx.chg hc id).lt⟩
 have hin:=fun W' (hc:Chg (fun _ => False) W4 W') => insR_any v l (ahead l e) e W' (h.chg0 (hC0.trans hc)) (ahead_le l e) hl
 have h0:=h
 obtain ⟨p,c,rfl,h1,h2,_⟩:=h
 have hal:=ahead_le l e
 unfold RgPost at hin ⊢
 unfold insE En.val at *
 go_enter Tryz.func85,Tryz.ntmps85
 go_wp2_with fail
 rw [← hW4]
 clear hW4
 go_loopg [5] l.length (fun k v W => ∃ i:Nat,v=.int .i64 (i:Int)∧k=l.length - i∧i≤ahead l e∧Chg (fun _ => False) W4 W)
 case atStart => exact ⟨0,rfl,rfl,Nat.zero_le _,Chg.refl _ _⟩
 case round =>
  obtain ⟨i,rfl,rfl,hi,hC⟩:=hrel
  have i4:(l.length:Int)≤1000:=by omega
  by_cases hil:i<l.length
  ·have h3:(i:Int)<(l.length:Int):=by omega
   have hx:=List.getElem?_eq_getElem hil
   generalize l[i]=x at hx
   have hlt:=ahead_lt (e:=e) hs hx
   have hls:=fun w => less9_any x e w (hk x (List.mem_of_getElem? hx)) he
   obtain ⟨b,o,c',he1,k1,k2,k3,d0,d1⟩:=(h0.chg0 (hC0.trans hC)).at_ hx
   injection he1 with he1 he2 he3
   subst he1
   subst he3
   have hS:∀ W',Chg (fun _ => False) wr W'→W'.cell? ⟨b,o+i * 2,none⟩=some (.string x.m)∧W'.cell? ⟨b,o+i * 2+1,none⟩=some (.int .i64 x.s)∧W'.cell? ⟨w.heap.size,0,none⟩=some (.string e.m)∧W'.cell? ⟨w.heap.size,1,none⟩=some (.int .i64 e.s):=fun W' hc => by
    obtain ⟨z0,z1,_⟩:=hgen W' (hC.trans hc)
    exact ⟨by rw [Chg.cell hc k3 id];exact d0,by rw [Chg.cell hc k3 id];exact d1,z0,z1⟩
   unfold En.val at hls
   clear hx he2
   by_cases hia:i<ahead l e
   ·rw [decide_eq_true (hlt.2 hia)] at hls
    clear hlt
    go_wp2_with fail
    refine wp_region_held_drew (S:=fun W' => W'.cell? ⟨b,o+i * 2,none⟩=some (.string x.m)∧W'.cell? ⟨b,o+i * 2+1,none⟩=some (.int .i64 x.s)∧W'.cell? ⟨w.heap.size,0,none⟩=some (.string e.m)∧W'.cell? ⟨w.heap.size,1,none⟩=some (.int .i64 e.s)) (by kernel_rfl) (hS _ (Chg.refl _ _).drew) (fun hHeld => ?_)
    refine wpAnyH_take (i:=0) (oi:=Go.Oper.mk (some 6) _ _ _ _ _) (v:=?_) rfl (by kernel_rfl) (by kernel_rfl) (by kernel_rfl) (fun _ _ _ h => h) (Or.inl ⟨by kernel_rfl,?_⟩) (by assumption) ?_
    rotate_left
    ·intro w hSw
     try dsimp only at hSw
     go_simp
     try with_reducible rfl
    try simp only [Act.put,List.setIfInBounds_toArray,List.set_cons_zero,List.set_cons_succ]
    refine wpAnyH_take (i:=1) (oi:=Go.Oper.mk (some 7) _ _ _ _ _) (v:=?_) rfl (by kernel_rfl) (by kernel_rfl) (by kernel_rfl) (fun _ _ _ h => h) (Or.inl ⟨by kernel_rfl,?_⟩) (by assumption) ?_
    rotate_left
    ·intro w hSw
     try dsimp only at hSw
     go_simp
     try with_reducible rfl
    try simp only [Act.put,List.setIfInBounds_toArray,List.set_cons_zero,List.set_cons_succ]
    refine wpAnyH_take (i:=2) (oi:=Go.Oper.mk (some 8) _ _ _ _ _) (v:=?_) rfl (by kernel_rfl) (by kernel_rfl) (by kernel_rfl) (fun _ _ _ h => h) (Or.inl ⟨by kernel_rfl,?_⟩) (by assumption) ?_
    rotate_left
    ·intro w hSw
     try dsimp only at hSw
     go_simp
     try with_reducible rfl
    try simp only [Act.put,List.setIfInBounds_toArray,List.set_cons_zero,List.set_cons_succ]
    refine wpAnyH_take (i:=3) (oi:=Go.Oper.mk (some 9) _ _ _ _ _) (v:=?_) rfl (by kernel_rfl) (by kernel_rfl) (by kernel_rfl) (fun _ _ _ h => h) (Or.inl ⟨by kernel_rfl,?_⟩) (by assumption) ?_
    rotate_left
    ·intro w hSw
     try dsimp only at hSw
     go_simp
     try with_reducible rfl
    try simp only [Act.put,List.setIfInBounds_toArray,List.set_cons_zero,List.set_cons_succ]
    refine wpAnyH_take (i:=4) (oi:=Go.Oper.mk (some 10) _ _ _ _ _) (v:=?_) rfl (by kernel_rfl) (by kernel_rfl) (by kernel_rfl) (fun _ _ _ h => h) (Or.inl ⟨by kernel_rfl,?_⟩) (by assumption) ?_
    rotate_left
    ·intro w hSw
     try dsimp only at hSw
     go_simp
     try with_reducible rfl
    try simp only [Act.put,List.setIfInBounds_toArray,List.set_cons_zero,List.set_cons_succ]
    refine wpAnyH_take (i:=5) (oi:=Go.Oper.mk (some 11) _ _ _ _ _) (v:=?_) rfl (by kernel_rfl) (by kernel_rfl) (by kernel_rfl) (fun _ _ _ h => h) (Or.inl ⟨by kernel_rfl,?_⟩) (by assumption) ?_
    rotate_left
    ·intro w hSw
     try dsimp only at hSw
     go_simp
     try with_reducible rfl
    try simp only [Act.put,List.setIfInBounds_toArray,List.set_cons_zero,List.set_cons_succ]
    refine wpAnyH_take (i:=6) (oi:=Go.Oper.mk (some 12) _ _ _ _ _) (v:=?_) rfl (by kernel_rfl) (by kernel_rfl) (by kernel_rfl) (fun _ _ _ h => h) (Or.inl ⟨by kernel_rfl,?_⟩) (by assumption) ?_
    rotate_left
    ·intro w hSw
     try dsimp only at hSw
     go_simp
     try with_reducible rfl
    try simp only [Act.put,List.setIfInBounds_toArray,List.set_cons_zero,List.set_cons_succ]
    refine wpAnyH_take (i:=7) (oi:=Go.Oper.mk (some 13) _ _ _ _ _) (v:=?_) rfl (by kernel_rfl) (by kernel_rfl) (by kernel_rfl) (fun _ _ _ h => h) (Or.inl ⟨by kernel_rfl,?_⟩) (by assumption) ?_
    rotate_left
    ·intro w hSw
     try dsimp only at hSw
     go_simp
     try with_reducible rfl
    try simp only [Act.put,List.setIfInBounds_toArray,List.set_cons_zero,List.set_cons_succ]
    refine wpAnyH_take (i:=8) (oi:=Go.Oper.mk (some 14) _ _ _ _ _) (v:=?_) rfl (by kernel_rfl) (by kernel_rfl) (by kernel_rfl) (fun _ _ _ h => h) (Or.inl ⟨by kernel_rfl,?_⟩) (by assumption) ?_
    rotate_left
    ·intro w hSw
     try dsimp only at hSw
     go_simp
     try with_reducible rfl
    try simp only [Act.put,List.setIfInBounds_toArray,List.set_cons_zero,List.set_cons_succ]
    refine wpAnyH_take (i:=9) (oi:=Go.Oper.mk (some 15) _ _ _ _ _) (v:=?_) rfl (by kernel_rfl) (by kernel_rfl) (by kernel_rfl) (fun _ _ _ h => h) (Or.inl ⟨by kernel_rfl,?_⟩) (by assumption) ?_
    rotate_left
    ·intro w hSw
     try dsimp only at hSw
     go_simp
     try with_reducible rfl
    try simp only [Act.put,List.setIfInBounds_toArray,List.set_cons_zero,List.set_cons_succ]
    refine wpAnyH_ready (rs:=[10]) (by kernel_rfl) (by simp) ?_
    refine AllReadyH.cons (o:=Go.Oper.mk (some 16) _ _ _ _ _) rfl (fun K hK => ?_) AllReadyH.nil
    go_simp
    go_at_call 119
    refine (hls _).mono ?_
    rintro r9 w9 ⟨rfl,hC9⟩
    refine hK.out _ _ (hS _ ((Chg.refl _ _).drew.trans hC9)) (fun hHeld2 => ?_)
    clear hK K hHeld
    try simp only [Act.put,List.setIfInBounds_toArray,List.set_cons_zero,List.set_cons_succ]
    refine wpAnyH_take (i:=11) (oi:=Go.Oper.mk (some 17) _ _ _ _ _) (v:=?_) rfl (by kernel_rfl) (by kernel_rfl) (by kernel_rfl) (fun _ _ _ h => h) (Or.inl ⟨by kernel_rfl,?_⟩) (by assumption) ?_
    rotate_left
    ·intro w hSw
     try dsimp only at hSw
     go_simp
     try with_reducible rfl
    try simp only [Act.put,List.setIfInBounds_toArray,List.set_cons_zero,List.set_cons_succ]
    refine wpAnyH_done (by kernel_rfl) ?_ _
    clear hHeld2
    go_wp2_with fail
    go_roundg (l.length - (i+1))
    case measure => omega
    case rel => exact ⟨i+1,int_eq (by omega),rfl,by omega,hC.trans ((Chg.refl _ _).drew.trans hC9)⟩
   ·rw [decide_eq_false (fun h => hia (hlt.1 h))] at hls
    clear hlt
    obtain rfl:i=ahead l e:=by omega
    generalize hq:ahead l e=i at *
    replace hq:=Lib.hid hq
    go_wp2_with fail
    refine wp_region_held_drew (S:=fun W' => W'.cell? ⟨b,o+i * 2,none⟩=some (.string x.m)∧W'.cell? ⟨b,o+i * 2+1,none⟩=some (.int .i64 x.s)∧W'.cell? ⟨w.heap.size,0,none⟩=some (.string e.m)∧W'.cell? ⟨w.heap.size,1,none⟩=some (.int .i64 e.s)) (by kernel_rfl) (hS _ (Chg.refl _ _).drew) (fun hHeld => ?_)
    refine wpAnyH_take (i:=0) (oi:=Go.Oper.mk (some 6) _ _ _ _ _) (v:=?_) rfl (by kernel_rfl) (by kernel_rfl) (by kernel_rfl) (fun _ _ _ h => h) (Or.inl ⟨by kernel_rfl,?_⟩) (by assumption) ?_
    rotate_left
    ·intro w hSw
     try dsimp only at hSw
     go_simp
     try with_reducible rfl
    try simp only [Act.put,List.setIfInBounds_toArray,List.set_cons_zero,List.set_cons_succ]
    refine wpAnyH_take (i:=1) (oi:=Go.Oper.mk (some 7) _ _ _ _ _) (v:=?_) rfl (by kernel_rfl) (by kernel_rfl) (by kernel_rfl) (fun _ _ _ h => h) (Or.inl ⟨by kernel_rfl,?_⟩) (by assumption) ?_
    rotate_left
    ·intro w hSw
     try dsimp only at hSw
     go_simp
     try with_reducible rfl
    try simp only [Act.put,List.setIfInBounds_toArray,List.set_cons_zero,List.set_cons_succ]
    refine wpAnyH_take (i:=2) (oi:=Go.Oper.mk (some 8) _ _ _ _ _) (v:=?_) rfl (by kernel_rfl) (by kernel_rfl) (by kernel_rfl) (fun _ _ _ h => h) (Or.inl ⟨by kernel_rfl,?_⟩) (by assumption) ?_
    rotate_left
    ·intro w hSw
     try dsimp only at hSw
     go_simp
     try with_reducible rfl
    try simp only [Act.put,List.setIfInBounds_toArray,List.set_cons_zero,List.set_cons_succ]
    refine wpAnyH_take (i:=3) (oi:=Go.Oper.mk (some 9) _ _ _ _ _) (v:=?_) rfl (by kernel_rfl) (by kernel_rfl) (by kernel_rfl) (fun _ _ _ h => h) (Or.inl ⟨by kernel_rfl,?_⟩) (by assumption) ?_
    rotate_left
    ·intro w hSw
     try dsimp only at hSw
     go_simp
     try with_reducible rfl
    try simp only [Act.put,List.setIfInBounds_toArray,List.set_cons_zero,List.set_cons_succ]
    refine wpAnyH_take (i:=4) (oi:=Go.Oper.mk (some 10) _ _ _ _ _) (v:=?_) rfl (by kernel_rfl) (by kernel_rfl) (by kernel_rfl) (fun _ _ _ h => h) (Or.inl ⟨by kernel_rfl,?_⟩) (by assumption) ?_
    rotate_left
    ·intro w hSw
     try dsimp only at hSw
     go_simp
     try with_reducible rfl
    try simp only [Act.put,List.setIfInBounds_toArray,List.set_cons_zero,List.set_cons_succ]
    refine wpAnyH_take (i:=5) (oi:=Go.Oper.mk (some 11) _ _ _ _ _) (v:=?_) rfl (by kernel_rfl) (by kernel_rfl) (by kernel_rfl) (fun _ _ _ h => h) (Or.inl ⟨by kernel_rfl,?_⟩) (by assumption) ?_
    rotate_left
    ·intro w hSw
     try dsimp only at hSw
     go_simp
     try with_reducible rfl
    try simp only [Act.put,List.setIfInBounds_toArray,List.set_cons_zero,List.set_cons_succ]
    refine wpAnyH_take (i:=6) (oi:=Go.Oper.mk (some 12) _ _ _ _ _) (v:=?_) rfl (by kernel_rfl) (by kernel_rfl) (by kernel_rfl) (fun _ _ _ h => h) (Or.inl ⟨by kernel_rfl,?_⟩) (by assumption) ?_
    rotate_left
    ·intro w hSw
     try dsimp only at hSw
     go_simp
     try with_reducible rfl
    try simp only [Act.put,List.setIfInBounds_toArray,List.set_cons_zero,List.set_cons_succ]
    refine wpAnyH_take (i:=7) (oi:=Go.Oper.mk (some 13) _ _ _ _ _) (v:=?_) rfl (by kernel_rfl) (by kernel_rfl) (by kernel_rfl) (fun _ _ _ h => h) (Or.inl ⟨by kernel_rfl,?_⟩) (by assumption) ?_
    rotate_left
    ·intro w hSw
     try dsimp only at hSw
     go_simp
     try with_reducible rfl
    try simp only [Act.put,List.setIfInBounds_toArray,List.set_cons_zero,List.set_cons_succ]
    refine wpAnyH_take (i:=8) (oi:=Go.Oper.mk (some 14) _ _ _ _ _) (v:=?_) rfl (by kernel_rfl) (by kernel_rfl) (by kernel_rfl) (fun _ _ _ h => h) (Or.inl ⟨by kernel_rfl,?_⟩) (by assumption) ?_
    rotate_left
    ·intro w hSw
     try dsimp only at hSw
     go_simp
     try with_reducible rfl
    try simp only [Act.put,List.setIfInBounds_toArray,List.set_cons_zero,List.set_cons_succ]
    refine wpAnyH_take (i:=9) (oi:=Go.Oper.mk (some 15) _ _ _ _ _) (v:=?_) rfl (by kernel_rfl) (by kernel_rfl) (by kernel_rfl) (fun _ _ _ h => h) (Or.inl ⟨by kernel_rfl,?_⟩) (by assumption) ?_
    rotate_left
    ·intro w hSw
     try dsimp only at hSw
     go_simp
     try with_reducible rfl
    try simp only [Act.put,List.setIfInBounds_toArray,List.set_cons_zero,List.set_cons_succ]
    refine wpAnyH_ready (rs:=[10]) (by kernel_rfl) (by simp) ?_
    refine AllReadyH.cons (o:=Go.Oper.mk (some 16) _ _ _ _ _) rfl (fun K hK => ?_) AllReadyH.nil
    go_simp
    go_at_call 119
    refine (hls _).mono ?_
    rintro r9 w9 ⟨rfl,hC9⟩
    refine hK.out _ _ (hS _ ((Chg.refl _ _).drew.trans hC9)) (fun hHeld2 => ?_)
    clear hK K hHeld
    try simp only [Act.put,List.setIfInBounds_toArray,List.set_cons_zero,List.set_cons_succ]
    refine wpAnyH_take (i:=11) (oi:=Go.Oper.mk (some 17) _ _ _ _ _) (v:=?_) rfl (by kernel_rfl) (by kernel_rfl) (by kernel_rfl) (fun _ _ _ h => h) (Or.inl ⟨by kernel_rfl,?_⟩) (by assumption) ?_
    rotate_left
    ·intro w hSw
     try dsimp only at hSw
     go_simp
     try with_reducible rfl
    try simp only [Act.put,List.setIfInBounds_toArray,List.set_cons_zero,List.set_cons_succ]
    refine wpAnyH_done (by kernel_rfl) ?_ _
    clear hHeld2
    obtain ⟨y0,y1,y2⟩:=hgen _ (hC.trans ((Chg.refl _ _).drew.trans hC9))
    go_wp2_with (go_at_call 120;refine (hin _ (hC.trans ((Chg.refl _ _).drew.trans hC9))).mono ?_;rintro r8 w8 ⟨⟨v8,rfl,hv8⟩,hC8⟩)
    go_ret
    exact ⟨⟨v8,rfl,by rw [hq.out];exact hv8.lower (Nat.le_trans hC0.size (hC.trans ((Chg.refl _ _).drew.trans hC9)).size)⟩,hC0.trans ((hC.trans ((Chg.refl _ _).drew.trans hC9)).trans hC8)⟩
  ·have h3:¬ (i:Int)<(l.length:Int):=by omega
   obtain rfl:i=ahead l e:=by omega
   generalize hq:ahead l e=i at *
   replace hq:=Lib.hid hq
   ·go_wp2_with fail
    refine wp_region_held_drew (S:=fun W' => True) (by kernel_rfl) (trivial) (fun hHeld => ?_)
    refine wpAnyH_take (i:=0) (oi:=Go.Oper.mk (some 6) _ _ _ _ _) (v:=?_) rfl (by kernel_rfl) (by kernel_rfl) (by kernel_rfl) (fun _ _ _ h => h) (Or.inl ⟨by kernel_rfl,?_⟩) (by assumption) ?_
    rotate_left
    ·intro w hSw
     try dsimp only at hSw
     go_simp
     try with_reducible rfl
    try simp only [Act.put,List.setIfInBounds_toArray,List.set_cons_zero,List.set_cons_succ]
    refine wpAnyH_take (i:=1) (oi:=Go.Oper.mk (some 7) _ _ _ _ _) (v:=?_) rfl (by kernel_rfl) (by kernel_rfl) (by kernel_rfl) (fun _ _ _ h => h) (Or.inl ⟨by kernel_rfl,?_⟩) (by assumption) ?_
    rotate_left
    ·intro w hSw
     try dsimp only at hSw
     go_simp
     try with_reducible rfl
    try simp only [Act.put,List.setIfInBounds_toArray,List.set_cons_zero,List.set_cons_succ]
    refine wpAnyH_take (i:=2) (oi:=Go.Oper.mk (some 8) _ _ _ _ _) (v:=?_) rfl (by kernel_rfl) (by kernel_rfl) (by kernel_rfl) (fun _ _ _ h => h) (Or.inl ⟨by kernel_rfl,?_⟩) (by assumption) ?_
    rotate_left
    ·intro w hSw
     try dsimp only at hSw
     go_simp
     try with_reducible rfl
    try simp only [Act.put,List.setIfInBounds_toArray,List.set_cons_zero,List.set_cons_succ]
    refine wpAnyH_take (i:=3) (oi:=Go.Oper.mk (some 9) _ _ _ _ _) (v:=?_) rfl (by kernel_rfl) (by kernel_rfl) (by kernel_rfl) (fun _ _ _ h => h) (Or.inl ⟨by kernel_rfl,?_⟩) (by assumption) ?_
    rotate_left
    ·intro w hSw
     try dsimp only at hSw
     go_simp
     try with_reducible rfl
    try simp only [Act.put,List.setIfInBounds_toArray,List.set_cons_zero,List.set_cons_succ]
    refine wpAnyH_take (i:=4) (oi:=Go.Oper.mk (some 10) _ _ _ _ _) (v:=?_) rfl (by kernel_rfl) (by kernel_rfl) (by kernel_rfl) (fun _ _ _ h => h) (Or.inl ⟨by kernel_rfl,?_⟩) (by assumption) ?_
    rotate_left
    ·intro w hSw
     try dsimp only at hSw
     go_simp
     try with_reducible rfl
    try simp only [Act.put,List.setIfInBounds_toArray,List.set_cons_zero,List.set_cons_succ]
    refine wpAnyH_take (i:=5) (oi:=Go.Oper.mk (some 11) _ _ _ _ _) (v:=undef) rfl (by kernel_rfl) (by kernel_rfl) (by kernel_rfl) (fun _ _ _ h => h) (Or.inr ⟨by kernel_rfl,rfl⟩) (by assumption) ?_
    try simp only [Act.put,List.setIfInBounds_toArray,List.set_cons_zero,List.set_cons_succ]
    refine wpAnyH_take (i:=6) (oi:=Go.Oper.mk (some 12) _ _ _ _ _) (v:=undef) rfl (by kernel_rfl) (by kernel_rfl) (by kernel_rfl) (fun _ _ _ h => h) (Or.inr ⟨by kernel_rfl,rfl⟩) (by assumption) ?_
    try simp only [Act.put,List.setIfInBounds_toArray,List.set_cons_zero,List.set_cons_succ]
    refine wpAnyH_take (i:=7) (oi:=Go.Oper.mk (some 13) _ _ _ _ _) (v:=undef) rfl (by kernel_rfl) (by kernel_rfl) (by kernel_rfl) (fun _ _ _ h => h) (Or.inr ⟨by kernel_rfl,rfl⟩) (by assumption) ?_
    try simp only [Act.put,List.setIfInBounds_toArray,List.set_cons_zero,List.set_cons_succ]
    refine wpAnyH_take (i:=8) (oi:=Go.Oper.mk (some 14) _ _ _ _ _) (v:=undef) rfl (by kernel_rfl) (by kernel_rfl) (by kernel_rfl) (fun _ _ _ h => h) (Or.inr ⟨by kernel_rfl,rfl⟩) (by assumption) ?_
    try simp only [Act.put,List.setIfInBounds_toArray,List.set_cons_zero,List.set_cons_succ]
    refine wpAnyH_take (i:=9) (oi:=Go.Oper.mk (some 15) _ _ _ _ _) (v:=undef) rfl (by kernel_rfl) (by kernel_rfl) (by kernel_rfl) (fun _ _ _ h => h) (Or.inr ⟨by kernel_rfl,rfl⟩) (by assumption) ?_
    try simp only [Act.put,List.setIfInBounds_toArray,List.set_cons_zero,List.set_cons_succ]
    refine wpAnyH_take (i:=10) (oi:=Go.Oper.mk (some 16) _ _ _ _ _) (v:=undef) rfl (by kernel_rfl) (by kernel_rfl) (by kernel_rfl) (fun _ _ _ h => h) (Or.inr ⟨by kernel_rfl,rfl⟩) (by assumption) ?_
    try simp only [Act.put,List.setIfInBounds_toArray,List.set_cons_zero,List.set_cons_succ]
    refine wpAnyH_take (i:=11) (oi:=Go.Oper.mk (some 17) _ _ _ _ _) (v:=?_) rfl (by kernel_rfl) (by kernel_rfl) (by kernel_rfl) (fun _ _ _ h => h) (Or.inl ⟨by kernel_rfl,?_⟩) (by assumption) ?_
    rotate_left
    ·intro w hSw
     try dsimp only at hSw
     go_simp
     try with_reducible rfl
    try simp only [Act.put,List.setIfInBounds_toArray,List.set_cons_zero,List.set_cons_succ]
    refine wpAnyH_done (by kernel_rfl) ?_ _
    clear hHeld
    obtain ⟨y0,y1,y2⟩:=hgen _ (hC.trans (Chg.refl _ _).drew)
    go_wp2_with (go_at_call 120;refine (hin _ (hC.trans (Chg.refl _ _).drew)).mono ?_;rintro r8 w8 ⟨⟨v8,rfl,hv8⟩,hC8⟩)
    go_ret
    exact ⟨⟨v8,rfl,by rw [hq.out];exact hv8.lower (Nat.le_trans hC0.size (hC.trans (Chg.refl _ _).drew).size)⟩,hC0.trans ((hC.trans (Chg.refl _ _).drew).trans hC8)⟩
end Go.Proofs.YtehpmbmdadkhbaaGreatDoor

namespace Go.Proofs.YtehpmbmdadkhbaaGreatDoor
open Go.RowKit Pal
attribute [local go_sem] Oper.semAt_some
structure Rf (w0 W:World) (rb:Nat) (es:List En) (is:Bool) (E M:Nat) (v:Value):Prop where
 b:Blk W rb 145 #[v,.int .i64 (E:Int),.int .i64 (M:Int),.bool is]
 own:Ents W w0.heap.size v es
 ge:w0.heap.size≤rb
 ok:Zok es
section
variable {w0 W W' W1:World} {rb:Nat} {es l1:List En} {is:Bool} {E M:Nat} {v v1:Value}
theorem Rf.keep {S:Nat→Prop} (h:Rf w0 W rb es is E M v) (hc:Chg S W W') (h1:¬ S rb) (h2:∀ g,v.ownBlock=some g→¬ S g):Rf w0 W' rb es is E M v:=⟨h.b.chg hc h1,h.own.chg hc h2,h.ge,h.ok⟩
theorem Rf.chg0 (h:Rf w0 W rb es is E M v) (hc:Chg (fun _ => False) W W'):Rf w0 W' rb es is E M v:=h.keep hc id fun _ _ => id
theorem Rf.cells (h:Rf w0 W rb es is E M v):W.cell? ⟨rb,0,none⟩=some v∧W.cell? ⟨rb,1,none⟩=some (.int .i64 (E:Int))∧W.cell? ⟨rb,2,none⟩=some (.int .i64 (M:Int))∧W.cell? ⟨rb,3,none⟩=some (.bool is)∧rb<W.heap.size∧W.frozen? ⟨rb,0,none⟩=false∧W.frozen? ⟨rb,3,none⟩=false:=by
 have h0:=h.b.cell 0
 have h1:=h.b.cell 1
 have h2:=h.b.cell 2
 have h3:=h.b.cell 3
 exact ⟨by simpa using h0,by simpa using h1,by simpa using h2,by simpa using h3,h.b.lt,h.b.frozen 0,h.b.frozen 3⟩
theorem Rf.store (h:Rf w0 W rb es is E M v) (hC:Chg (fun _ => False) W W1) (hv:Ents W1 W.heap.size v1 l1) (hz:Zok l1):Rf w0 (W1.setCell ⟨rb,0,none⟩ v1) rb l1 is E M v1∧Chg (fun g => g=rb) W (W1.setCell ⟨rb,0,none⟩ v1):=by
 have hcs:Chg (fun g => g=rb) W1 (W1.setCell ⟨rb,0,none⟩ v1):=Chg.store (S:=fun g => g=rb) (Chg.refl _ W1) rfl 0 _
 have hlt:=h.b.lt
 refine ⟨⟨(h.b.chg hC id).set 0 v1,(hv.chg hcs fun g hg e => ?_).lower (Nat.le_trans h.ge (Nat.le_of_lt hlt)),h.ge,hz⟩,(hC.mono fun _ _ h => h.elim).trans hcs⟩
 obtain ⟨p,c,rfl,_,_,h3⟩:=hv.is
 cases p with
 | none => cases hg
 | some a =>
  have:=(h3 a rfl).1
  injection hg with hg
  omega
theorem Rf.flag (h:Rf w0 W rb es is E M v):Rf w0 (W.setCell ⟨rb,3,none⟩ (.bool true)) rb es true E M v∧Chg (fun g => g=rb) W (W.setCell ⟨rb,3,none⟩ (.bool true)):=by
 have hcs:Chg (fun g => g=rb) W (W.setCell ⟨rb,3,none⟩ (.bool true)):=Chg.store (S:=fun g => g=rb) (Chg.refl _ W) rfl 3 _
 refine ⟨⟨h.b.set 3 (.bool true),h.own.chg hcs fun g hg e => ?_,h.ge,h.ok⟩,hcs⟩
 subst e
 exact h.b.not_own h.own (by decide) hg
theorem Rf.val (h:Rf w0 W rb es is E M v):∃ p c,v=.slice p es.length c∧es.length≤c∧c≤maxLen:=by
 obtain ⟨p,c,e,h1,h2,_⟩:=h.own.is
 exact ⟨p,c,e,h1,h2⟩
set_option maxRecDepth 100000 in
theorem rf_new (hc:Chg (fun _ => False) w0 W) (A0 A1:Int):Calls Tryz.prog 57 #[.agg #[.int .i64 A0,.int .i64 A1]] W fun r W' => ∃ rb,r=.returned (pt rb)∧Rf w0 W' rb [] false (clampL 200 A0) (clampL 64 A1) (.slice none 0 0)∧Chg (fun _ => False) W W'∧W.heap.size≤rb:=by
 have e1:=clampL_eq 200 A0
 have e2:=clampL_eq 64 A1
 generalize clampL 200 A0=E at *
 generalize clampL 64 A1=M at *
 have e1':max 0 (min (200:Int) A0)=(E:Int):=e1.symm
 have e2':max 0 (min (64:Int) A1)=(M:Int):=e2.symm
 have hb:=Blk.new (W.alloc (.cells #[.int .i64 A0,.int .i64 A1] 23)) 145 #[.slice none 0 0,.int .i64 (E:Int),.int .i64 (M:Int),.bool false]
 rw [World.size_alloc] at hb
 have hb:=Lib.hid hb
 clear e1 e2
 go_enter Tryz.func57,Tryz.ntmps57
 go_wp2_with fail
 go_ret
 exact ⟨W.heap.size+1,rfl,⟨hb.out,Ents.nil _ _,Nat.le_trans hc.size (Nat.le_succ _),Zok.nil⟩,((Chg.refl _ W).alloc _).alloc _,Nat.le_succ _⟩
def RPost (w0:World) (rb:Nat) (es':List En) (is':Bool) (E M:Nat) (u:Value) (W:World) (r:Ending) (W':World):Prop:=r=.returned u∧∃ v',Rf w0 W' rb es' is' E M v'∧Chg (fun g => g=rb) W W'
theorem findI_no {l:List En} {m:ByteArray} (h:lookE l m=none):findI l m 0=-1:=by
 rcases findI_spec l m 0 with ⟨k,e,_,_,_,h4⟩ | ⟨_,h2,_⟩
 ·rw [h] at h4;cases h4
 ·exact h2
end
end Go.Proofs.YtehpmbmdadkhbaaGreatDoor
