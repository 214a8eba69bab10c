/- Texts joined for EvictNone: ZJ, ZK, ZO, ZQ, DMspaceitem, DWspaceitem, DW2spaceitem, DPspaceitem, DW3spaceitem, DP2spaceitem. -/
import Derived.Test.YtehpmbmdadkhbaaGreatDoorJEvictNonea
import Derived.Test.YtehpmbmdadkhbaaGreatDoorJEvictNoneb
import Derived.Test.YtehpmbmdadkhbaaGreatDoorJEvictNoned
import Derived.Test.YtehpmbmdadkhbaaGreatDoorJEvictNonef
import Derived.Test.YtehpmbmdadkhbaaGreatDoorJEvictNoneh
import Derived.Test.YtehpmbmdadkhbaaGreatDoorProg
import Derived.Deep.QuietTactic
import Derived.BigQuiet
import Derived.Deep.LoopGhost
import Derived.StillTailTactics
import Derived.WalkSpells
import Derived.Deep.RegionWith
import Derived.Laws.MakeOwn
import Derived.Laws.OwnMore
import Derived.BigRegion
set_option linter.unusedVariables false
set_option linter.unusedSimpArgs false

namespace Go.Proofs.YtehpmbmdadkhbaaGreatDoor
open Go.RowKit Pal
attribute [local go_sem] Oper.semAt_some
section
variable {w w':World} {base:Nat} {z:Zs} {es:List En}
structure Pre (base:Nat) (z z1:Zs) (es1:List En) (w w1:World):Prop where
 zx:Zx base z z1 es1 w w1
 is:z1.f.is=z.f.is
theorem Pre.cells {z1:Zs} {es1:List En} {w1 W:World} (h:Pre base z z1 es1 w w1) (hc:Chg (fun _ => False) w1 W):W.cell? ⟨z.blk,1,none⟩=some (.int .i64 (z.E:Int))∧W.cell? ⟨z.blk,2,none⟩=some (.int .i64 (z.M:Int)):=by
 obtain ⟨_,c1,c2,_⟩:=(h.zx.at_.chg0 hc).cells
 rw [h.zx.blk] at c1 c2
 rw [h.zx.E] at c1
 rw [h.zx.M] at c2
 exact ⟨c1,c2⟩
theorem Pre.then {z1 z2:Zs} {es1 es2:List En} {w1 w2:World} (h:Pre base z z1 es1 w w1) (k:Zx base z1 z2 es2 w1 w2∧z2.f.is=z1.f.is):Pre base z z2 es2 w w2:=⟨h.zx.trans k.1,k.2.trans h.is⟩
theorem Pre.zero {z1:Zs} {es1:List En} {w1 w2:World} (h:Pre base z z1 es1 w w1) (hc:Chg (fun _ => False) w1 w2):Pre base z z1 es1 w w2:=h.then ⟨Zx.zero h.zx.at_ hc,rfl⟩
theorem Zx.form {z1:Zs} {es1:List En} {w1:World} {T:TypeId} {v:Value} (h:Zx base z z1 es1 w w1) (hv:z1.f.v=.iface T v):w1.cell? ⟨z.blk,0,none⟩=some (.iface T v)∧z.blk<w1.heap.size:=by
 obtain ⟨c0,_,_,_,l0⟩:=h.at_.cells
 rw [h.blk] at c0 l0
 rw [hv] at c0
 exact ⟨c0,l0⟩
theorem Pre.form {z1:Zs} {es1:List En} {w1:World} {T:TypeId} {v:Value} (h:Pre base z z1 es1 w w1) (hv:z1.f.v=.iface T v):w1.cell? ⟨z.blk,0,none⟩=some (.iface T v)∧z.blk<w1.heap.size:=by
 obtain ⟨c0,_,_,_,l0⟩:=h.zx.at_.cells
 rw [h.zx.blk] at c0 l0
 rw [hv] at c0
 exact ⟨c0,l0⟩
set_option maxRecDepth 100000 in
set_option maxHeartbeats 8000000 in
theorem z_add_none (h:ZsAt w base z es) (m:ByteArray) (s lv:Int) (hs:-9223372036854775808≤s∧s≤9223372036854775807) (he:addNo es m lv=none) (hl:lookE es m=none) (es1:List En) (he1:dropM es m=es1):Calls Tryz.prog 55 #[pt z.blk,.string m,.int .i64 s,.int .i64 lv] w (ZPost base z (insE es1 ⟨m,s⟩) (z.f.is || decide (z.E<es1.length+1∨z.M<m.size)) (some (.tuple #[.bool true,.int .i64 0])) w):=by
 obtain ⟨a1,a2,a3,a4⟩:=addNo_none he
 have h2':¬ (64:Int)<(m.size:Int):=by omega
 have h3:¬ lv<1:=by omega
 have h3':¬ 32<lv:=by omega
 have hn4:=h.ok.n
 have hz:=h.ok
 have hz1:Zok es1:=he1 ▸ hz.sub (dropM_sub es m)
 have hno:m ∉ es1.map (·.m):=he1 ▸ dropM_not es m
 rw [dropM_none hl] at he1
 subst he1
 have a5:=a4 hl
 have hl1:es.length<400:=by omega
 have h4:¬ (es.length:Int)=400:=by omega
 have hln0:=fun w1 (z1:Zs) (h:Pre base z z1 es w w1) => z_len h.zx.at_
 have h5:(es.length:Int)≤400:=by omega
 have hw:IntKind.i64.wrap ((es.length:Int)+1)=(es.length:Int)+1:=IntWalk.i64_in _ (by omega)
 obtain ⟨lvn,rfl⟩:∃ n:Nat,lv=(n:Int):=⟨lv.toNat,by omega⟩
 obtain ⟨c0,_,_,_,l0⟩:=h.cells
 obtain ⟨T,v,fid,rc,hfc⟩:=f_score h.f m (by omega)
 have hen:=hfc.en
 have hme:=hfc.me
 have hca:=hfc.call
 rw [hfc.fv] at c0
 rw [hl] at hca
 have hz2:=hz1.ins (e:=⟨m,s⟩) hno ⟨a1,hs⟩ (by omega)
 have hln:=fun w1 (z1:Zs) (h:Pre base z z1 es w w1) => z_len h.zx.at_
 have hli:=fun w1 (z1:Zs) (h:Pre base z z1 es w w1) => z_lists h.zx.at_
 have hpu:=fun w1 (z1:Zs) (h:Zx base z z1 es w w1) (h2:z1.f.is=false→es.length<200) => f_put h.at_.f hz1 ⟨m,s⟩ lvn ⟨by omega,by omega⟩ hno ⟨a1,hs⟩ h2
 have hE:=h.lim.1
 simp only [Option.getD_none,Option.isSome_none] at hca
 have HH:=Lib.hid h
 have hblk:∀ {w1 z1},Pre base z z1 es w w1→z1.blk=z.blk:=fun h => h.zx.blk
 unfold ZPost at hli
 unfold pt En.val at *
 clear h he hl a1 a2 a3 a4 hn4 hfc hs
 by_cases k1:z.E<es.length+1
 ·have k1':(z.E:Int)<(es.length:Int)+1:=by omega
  have k1a:z.E≤es.length:=by omega
  have k1b:(z.E:Int)≤(es.length:Int):=by omega
  have k1c:decide (z.E≤es.length)=true:=decide_eq_true k1a
  have k1d:decide ((z.E:Int)<(es.length:Int)+1)=true:=decide_eq_true k1'
  have hcond:z.E<es.length+1∨z.M<m.size:=.inl k1
  have hcond':=Lib.hid hcond
  clear hcond
  clear k1
  go_enter Tryz.func55,Tryz.ntmps55
  go_wp2_with (first | (go_at_fn fid;refine hca.mono ?_;rintro r w1 ⟨rfl,f1,hf1⟩;obtain ⟨z1,hZ1⟩:=fx_zx HH.out hf1 hz;have hP1:Pre base z z1 es w w1:=⟨hZ1.1,hZ1.2⟩) | (go_at_call 27;rw [← hblk hP1];refine (hln0 _ _ hP1).mono ?_;rintro r w2 ⟨rfl,hC2⟩;have hP2:=hP1.zero hC2;obtain ⟨d1,d2⟩:=hP1.cells hC2;obtain ⟨dl1,dl2⟩:=(show z.blk<w2.heap.size∧True from ⟨by have:=hP2.zx.at_.cells.2.2.2.2;rwa [hP2.zx.blk] at this,trivial⟩);rw [hblk hP1]) | fail)
  refine wp_region_held_drew (S:=fun W' => W'.cell? ⟨z.blk,1,none⟩=some (.int .i64 (z.E:Int))∧W'.cell? ⟨z.blk,2,none⟩=some (.int .i64 (z.M:Int))) (by kernel_rfl) (hP2.cells (Chg.refl _ _).drew) (fun hHeld => ?_)
  refine wpAnyH_take (i:=0) (oi:=Go.Oper.mk (some 52) _ _ _ _ _) (v:=?_) rfl (by kernel_rfl) (by kernel_rfl) (by kernel_rfl) (fun _ _ _ h => h) (Or.inl ⟨by rfl,?_⟩) (by assumption) ?_
  rotate_left
  ·intro w hSw
   try dsimp only at hSw
   go_simp
   try with_reducible rfl
  try simp only [Act.put,List.setIfInBounds_toArray,List.set_cons_zero,List.set_cons_succ]
  refine wpAnyH_take (i:=3) (oi:=Go.Oper.mk (some 55) _ _ _ _ _) (v:=?_) rfl (by kernel_rfl) (by kernel_rfl) (by kernel_rfl) (fun _ _ _ h => h) (Or.inl ⟨by rfl,?_⟩) (by assumption) ?_
  rotate_left
  ·intro w hSw
   try dsimp only at hSw
   go_simp
   try with_reducible rfl
  try simp only [Act.put,List.setIfInBounds_toArray,List.set_cons_zero,List.set_cons_succ]
  refine wpAnyH_take (i:=4) (oi:=Go.Oper.mk (some 56) _ _ _ _ _) (v:=?_) rfl (by kernel_rfl) (by kernel_rfl) (by kernel_rfl) (fun _ _ _ h => h) (Or.inl ⟨by rfl,?_⟩) (by assumption) ?_
  rotate_left
  ·intro w hSw
   try dsimp only at hSw
   go_simp
   try with_reducible rfl
  try simp only [Act.put,List.setIfInBounds_toArray,List.set_cons_zero,List.set_cons_succ]
  refine wpAnyH_take (i:=5) (oi:=Go.Oper.mk (some 57) _ _ _ _ _) (v:=?_) rfl (by kernel_rfl) (by kernel_rfl) (by kernel_rfl) (fun _ _ _ h => h) (Or.inl ⟨by rfl,?_⟩) (by assumption) ?_
  rotate_left
  ·intro w hSw
   try dsimp only at hSw
   go_simp
   try with_reducible rfl
  try simp only [Act.put,List.setIfInBounds_toArray,List.set_cons_zero,List.set_cons_succ]
  refine wpAnyH_take (i:=6) (oi:=Go.Oper.mk (some 58) _ _ _ _ _) (v:=?_) rfl (by kernel_rfl) (by kernel_rfl) (by kernel_rfl) (fun _ _ _ h => h) (Or.inl ⟨by rfl,?_⟩) (by assumption) ?_
  rotate_left
  ·intro w hSw
   try dsimp only at hSw
   go_simp
   try with_reducible rfl
  try simp only [Act.put,List.setIfInBounds_toArray,List.set_cons_zero,List.set_cons_succ]
  refine wpAnyH_take (i:=7) (oi:=Go.Oper.mk (some 59) _ _ _ _ _) (v:=?_) rfl (by kernel_rfl) (by kernel_rfl) (by kernel_rfl) (fun _ _ _ h => h) (Or.inl ⟨by rfl,?_⟩) (by assumption) ?_
  rotate_left
  ·intro w hSw
   try dsimp only at hSw
   go_simp
   try with_reducible rfl
  try simp only [Act.put,List.setIfInBounds_toArray,List.set_cons_zero,List.set_cons_succ]
  refine wpAnyH_ready (rs:=[1]) (by kernel_rfl) (by simp) ?_
  refine AllReadyH.cons (o:=Go.Oper.mk (some 53) _ _ _ _ _) rfl (fun K hK => ?_) AllReadyH.nil
  go_simp
  go_at_call 27
  rw [← hblk hP2]
  refine (hln _ _ (hP2.zero (Chg.refl _ _).drew)).mono ?_
  rintro r w3 ⟨rfl,hC3'⟩
  have hC3:=(Chg.refl (fun _ => False) w2).drew.trans hC3'
  rw [hblk hP2]
  refine hK.out _ _ (hP2.cells hC3) (fun hHeld2 => ?_)
  clear hK K hHeld
  try simp only [Act.put,List.setIfInBounds_toArray,List.set_cons_zero,List.set_cons_succ]
  refine wpAnyH_take (i:=2) (oi:=Go.Oper.mk (some 54) _ _ _ _ _) (v:=?_) rfl (by kernel_rfl) (by kernel_rfl) (by kernel_rfl) (fun _ _ _ h => h) (Or.inl ⟨by rfl,?_⟩) (by assumption) ?_
  rotate_left
  ·intro w hSw
   try dsimp only at hSw
   go_simp
   try with_reducible rfl
  try simp only [Act.put,List.setIfInBounds_toArray,List.set_cons_zero,List.set_cons_succ]
  refine wpAnyH_take (i:=8) (oi:=Go.Oper.mk (some 60) _ _ _ _ _) (v:=?_) rfl (by kernel_rfl) (by kernel_rfl) (by kernel_rfl) (fun _ _ _ h => h) (Or.inl ⟨by rfl,?_⟩) (by assumption) ?_
  rotate_left
  ·intro w hSw
   try dsimp only at hSw
   go_simp
   try with_reducible rfl
  try simp only [Act.put,List.setIfInBounds_toArray,List.set_cons_zero,List.set_cons_succ]
  refine wpAnyH_take (i:=9) (oi:=Go.Oper.mk (some 61) _ _ _ _ _) (v:=?_) rfl (by kernel_rfl) (by kernel_rfl) (by kernel_rfl) (fun _ _ _ h => h) (Or.inl ⟨by rfl,?_⟩) (by assumption) ?_
  rotate_left
  ·intro w hSw
   try dsimp only at hSw
   go_simp
   try with_reducible rfl
  try simp only [Act.put,List.setIfInBounds_toArray,List.set_cons_zero,List.set_cons_succ]
  refine wpAnyH_take (i:=10) (oi:=Go.Oper.mk (some 62) _ _ _ _ _) (v:=undef) rfl (by kernel_rfl) (by kernel_rfl) (by kernel_rfl) (fun _ _ _ h => h) (Or.inr ⟨by kernel_rfl,rfl⟩) (by assumption) ?_
  try simp only [Act.put,List.setIfInBounds_toArray,List.set_cons_zero,List.set_cons_succ]
  refine wpAnyH_take (i:=11) (oi:=Go.Oper.mk (some 63) _ _ _ _ _) (v:=undef) rfl (by kernel_rfl) (by kernel_rfl) (by kernel_rfl) (fun _ _ _ h => h) (Or.inr ⟨by kernel_rfl,rfl⟩) (by assumption) ?_
  try simp only [Act.put,List.setIfInBounds_toArray,List.set_cons_zero,List.set_cons_succ]
  refine wpAnyH_take (i:=12) (oi:=Go.Oper.mk (some 64) _ _ _ _ _) (v:=undef) rfl (by kernel_rfl) (by kernel_rfl) (by kernel_rfl) (fun _ _ _ h => h) (Or.inr ⟨by kernel_rfl,rfl⟩) (by assumption) ?_
  try simp only [Act.put,List.setIfInBounds_toArray,List.set_cons_zero,List.set_cons_succ]
  refine wpAnyH_take (i:=13) (oi:=Go.Oper.mk (some 65) _ _ _ _ _) (v:=undef) rfl (by kernel_rfl) (by kernel_rfl) (by kernel_rfl) (fun _ _ _ h => h) (Or.inr ⟨by kernel_rfl,rfl⟩) (by assumption) ?_
  try simp only [Act.put,List.setIfInBounds_toArray,List.set_cons_zero,List.set_cons_succ]
  refine wpAnyH_take (i:=14) (oi:=Go.Oper.mk (some 66) _ _ _ _ _) (v:=undef) rfl (by kernel_rfl) (by kernel_rfl) (by kernel_rfl) (fun _ _ _ h => h) (Or.inr ⟨by kernel_rfl,rfl⟩) (by assumption) ?_
  try simp only [Act.put,List.setIfInBounds_toArray,List.set_cons_zero,List.set_cons_succ]
  refine wpAnyH_take (i:=15) (oi:=Go.Oper.mk (some 67) _ _ _ _ _) (v:=undef) rfl (by kernel_rfl) (by kernel_rfl) (by kernel_rfl) (fun _ _ _ h => h) (Or.inr ⟨by kernel_rfl,rfl⟩) (by assumption) ?_
  try simp only [Act.put,List.setIfInBounds_toArray,List.set_cons_zero,List.set_cons_succ]
  refine wpAnyH_take (i:=16) (oi:=Go.Oper.mk (some 68) _ _ _ _ _) (v:=undef) rfl (by kernel_rfl) (by kernel_rfl) (by kernel_rfl) (fun _ _ _ h => h) (Or.inr ⟨by kernel_rfl,rfl⟩) (by assumption) ?_
  try simp only [Act.put,List.setIfInBounds_toArray,List.set_cons_zero,List.set_cons_succ]
  refine wpAnyH_take (i:=17) (oi:=Go.Oper.mk (some 69) _ _ _ _ _) (v:=undef) rfl (by kernel_rfl) (by kernel_rfl) (by kernel_rfl) (fun _ _ _ h => h) (Or.inr ⟨by kernel_rfl,rfl⟩) (by assumption) ?_
  try simp only [Act.put,List.setIfInBounds_toArray,List.set_cons_zero,List.set_cons_succ]
  refine wpAnyH_take (i:=18) (oi:=Go.Oper.mk (some 70) _ _ _ _ _) (v:=?_) rfl (by kernel_rfl) (by kernel_rfl) (by kernel_rfl) (fun _ _ _ h => h) (Or.inl ⟨by rfl,?_⟩) (by assumption) ?_
  rotate_left
  ·intro w hSw
   try dsimp only at hSw
   go_simp
   try with_reducible rfl
  try simp only [Act.put,List.setIfInBounds_toArray,List.set_cons_zero,List.set_cons_succ]
  refine wpAnyH_done (by kernel_rfl) ?_ _
  clear hHeld2
  have hP3:=hP2.zero hC3
  have l3:z.blk<w3.heap.size:=Nat.lt_of_lt_of_le dl1 hC3.size
  go_wp2_with (first | (go_at_call 81;rw [← hblk hP3];refine (hli _ _ hP3).mono ?_;rintro r w4 ⟨⟨u4,rfl,_⟩,z4,hZ4,hi4⟩;rw [hblk hP3];have hZ4:=hP3.zx.trans hZ4;obtain ⟨T3,v3,fid3,rc3,hfc3⟩:=hpu _ _ hZ4 (fun h => by rw [hi4] at h;cases h);have hen3:=hfc3.en;have hme3:=hfc3.me;have hca3:=hfc3.call;obtain ⟨g0,gl⟩:=hZ4.form hfc3.fv;unfold En.val at hca3;clear hfc3) | (go_at_fn fid3;refine hca3.mono ?_;rintro r w5 ⟨⟨u5,rfl⟩,f5,hf5⟩) | fail)
  go_ret2
  obtain ⟨z5,hZ5,hi5⟩:=fx_zx hZ4.at_ hf5 hz2
  exact ⟨⟨_,rfl,fun y hy => by injection hy⟩,z5,hZ4.trans hZ5,by rw [hi5,hi4,decide_eq_true hcond'.out,Bool.or_true]⟩
 by_cases k2:z.M<m.size
 ·have k1':¬ (z.E:Int)<(es.length:Int)+1:=by omega
  have k1a:(z.E≤es.length)=False:=eq_false (by omega)
  have k1b:((z.E:Int)≤(es.length:Int))=False:=eq_false (by omega)
  have k1c:decide (z.E≤es.length)=false:=decide_eq_false (by omega)
  have k1d:decide ((z.E:Int)<(es.length:Int)+1)=false:=decide_eq_false k1'
  have k2':(z.M:Int)<(m.size:Int):=by omega
  have k2c:decide (z.M<m.size)=true:=decide_eq_true k2
  have k2d:decide ((z.M:Int)<(m.size:Int))=true:=decide_eq_true k2'
  have hcond':=Lib.hid (show z.E<es.length+1∨z.M<m.size from .inr k2)
  clear k1 k2
  go_enter Tryz.func55,Tryz.ntmps55
  go_wp2_with (first | (go_at_fn fid;refine hca.mono ?_;rintro r w1 ⟨rfl,f1,hf1⟩;obtain ⟨z1,hZ1⟩:=fx_zx HH.out hf1 hz;have hP1:Pre base z z1 es w w1:=⟨hZ1.1,hZ1.2⟩) | (go_at_call 27;rw [← hblk hP1];refine (hln0 _ _ hP1).mono ?_;rintro r w2 ⟨rfl,hC2⟩;have hP2:=hP1.zero hC2;obtain ⟨d1,d2⟩:=hP1.cells hC2;obtain ⟨dl1,dl2⟩:=(show z.blk<w2.heap.size∧True from ⟨by have:=hP2.zx.at_.cells.2.2.2.2;rwa [hP2.zx.blk] at this,trivial⟩);rw [hblk hP1]) | fail)
  go_region_held3 (fun W' => W'.cell? ⟨z.blk,1,none⟩=some (.int .i64 (z.E:Int))∧W'.cell? ⟨z.blk,2,none⟩=some (.int .i64 (z.M:Int))) (first | exact hP2.cells (Chg.refl _ _).drew | exact hP2.cells hC3 | fail) (first | (go_at_call 27;rw [← hblk hP2];refine (hln _ _ (hP2.zero (Chg.refl _ _).drew)).mono ?_;rintro r w3 ⟨rfl,hC3'⟩;have hC3:=(Chg.refl (fun _ => False) w2).drew.trans hC3';rw [hblk hP2]) | fail)
  have hP3:=hP2.zero hC3
  have l3:z.blk<w3.heap.size:=Nat.lt_of_lt_of_le dl1 hC3.size
  go_wp2_with (first | (go_at_call 81;rw [← hblk hP3];refine (hli _ _ hP3).mono ?_;rintro r w4 ⟨⟨u4,rfl,_⟩,z4,hZ4,hi4⟩;rw [hblk hP3];have hZ4:=hP3.zx.trans hZ4;obtain ⟨T3,v3,fid3,rc3,hfc3⟩:=hpu _ _ hZ4 (fun h => by rw [hi4] at h;cases h);have hen3:=hfc3.en;have hme3:=hfc3.me;have hca3:=hfc3.call;obtain ⟨g0,gl⟩:=hZ4.form hfc3.fv;unfold En.val at hca3;clear hfc3) | (go_at_fn fid3;refine hca3.mono ?_;rintro r w5 ⟨⟨u5,rfl⟩,f5,hf5⟩) | fail)
  go_ret2
  obtain ⟨z5,hZ5,hi5⟩:=fx_zx hZ4.at_ hf5 hz2
  exact ⟨⟨_,rfl,fun y hy => by injection hy⟩,z5,hZ4.trans hZ5,by rw [hi5,hi4,decide_eq_true hcond'.out,Bool.or_true]⟩
 ·have k1':¬ (z.E:Int)<(es.length:Int)+1:=by omega
  have k1a:(z.E≤es.length)=False:=eq_false (by omega)
  have k1b:((z.E:Int)≤(es.length:Int))=False:=eq_false (by omega)
  have k1c:decide (z.E≤es.length)=false:=decide_eq_false (by omega)
  have k1d:decide ((z.E:Int)<(es.length:Int)+1)=false:=decide_eq_false k1'
  have k2':¬ (z.M:Int)<(m.size:Int):=by omega
  have k2c:decide (z.M<m.size)=false:=decide_eq_false (by omega)
  have k2d:decide ((z.M:Int)<(m.size:Int))=false:=decide_eq_false k2'
  have hcond':=Lib.hid (show ¬ (z.E<es.length+1∨z.M<m.size) by omega)
  clear k1 k2
  go_enter Tryz.func55,Tryz.ntmps55
  go_wp2_with (first | (go_at_fn fid;refine hca.mono ?_;rintro r w1 ⟨rfl,f1,hf1⟩;obtain ⟨z1,hZ1⟩:=fx_zx HH.out hf1 hz;have hP1:Pre base z z1 es w w1:=⟨hZ1.1,hZ1.2⟩) | (go_at_call 27;rw [← hblk hP1];refine (hln0 _ _ hP1).mono ?_;rintro r w2 ⟨rfl,hC2⟩;have hP2:=hP1.zero hC2;obtain ⟨d1,d2⟩:=hP1.cells hC2;obtain ⟨dl1,dl2⟩:=(show z.blk<w2.heap.size∧True from ⟨by have:=hP2.zx.at_.cells.2.2.2.2;rwa [hP2.zx.blk] at this,trivial⟩);rw [hblk hP1]) | fail)
  go_region_held3 (fun W' => W'.cell? ⟨z.blk,1,none⟩=some (.int .i64 (z.E:Int))∧W'.cell? ⟨z.blk,2,none⟩=some (.int .i64 (z.M:Int))) (first | exact hP2.cells (Chg.refl _ _).drew | exact hP2.cells hC3 | fail) (first | (go_at_call 27;rw [← hblk hP2];refine (hln _ _ (hP2.zero (Chg.refl _ _).drew)).mono ?_;rintro r w3 ⟨rfl,hC3'⟩;have hC3:=(Chg.refl (fun _ => False) w2).drew.trans hC3';rw [hblk hP2]) | fail)
  have hP3:=hP2.zero hC3
  obtain ⟨T3,v3,fid3,rc3,hfc3⟩:=hpu _ _ hP3.zx (fun _ => by omega)
  have hen3:=hfc3.en
  have hme3:=hfc3.me
  have hca3:=hfc3.call
  obtain ⟨g0,gl⟩:=hP3.zx.form hfc3.fv
  unfold En.val at hca3
  clear hfc3
  go_wp2_with (first | (go_at_fn fid3;refine hca3.mono ?_;rintro r w5 ⟨⟨u5,rfl⟩,f5,hf5⟩) | fail)
  go_ret2
  obtain ⟨z5,hZ5,hi5⟩:=fx_zx hP3.zx.at_ hf5 hz2
  exact ⟨⟨_,rfl,fun y hy => by injection hy⟩,z5,hP3.zx.trans hZ5,by rw [hi5,hP3.is,decide_eq_false hcond'.out,Bool.or_false]⟩
set_option maxRecDepth 100000 in
set_option maxHeartbeats 8000000 in
theorem z_add_some (h:ZsAt w base z es) (m:ByteArray) (s lv:Int) (hs:-9223372036854775808≤s∧s≤9223372036854775807) (he:addNo es m lv=none) (so:Int) (hl:lookE es m=some so) (es1:List En) (he1:dropM es m=es1):Calls Tryz.prog 55 #[pt z.blk,.string m,.int .i64 s,.int .i64 lv] w (ZPost base z (insE es1 ⟨m,s⟩) (z.f.is || decide (z.E<es1.length+1∨z.M<m.size)) (some (.tuple #[.bool false,.int .i64 0])) w):=by
 obtain ⟨a1,a2,a3,a4⟩:=addNo_none he
 have h2':¬ (64:Int)<(m.size:Int):=by omega
 have h3:¬ lv<1:=by omega
 have h3':¬ 32<lv:=by omega
 have hn4:=h.ok.n
 have hz:=h.ok
 have hz1:Zok es1:=he1 ▸ hz.sub (dropM_sub es m)
 have hno:m ∉ es1.map (·.m):=he1 ▸ dropM_not es m
 have hl1:es1.length<400:=by rw [← he1,dropM_len hz,hl];show es.length - 1<400;omega
 have hd0:=dropM_some hz hl
 rw [he1] at hd0
 have hmem:=(look_ok hz hl).2
 have hdr:=fun w1 (z1:Zs) (h:Pre base z z1 es w w1) => f_drop h.zx.at_.f hz ⟨m,so⟩ hmem
 rw [hd0] at hdr
 have h5:(es1.length:Int)≤400:=by omega
 have hw:IntKind.i64.wrap ((es1.length:Int)+1)=(es1.length:Int)+1:=IntWalk.i64_in _ (by omega)
 obtain ⟨lvn,rfl⟩:∃ n:Nat,lv=(n:Int):=⟨lv.toNat,by omega⟩
 obtain ⟨c0,_,_,_,l0⟩:=h.cells
 obtain ⟨T,v,fid,rc,hfc⟩:=f_score h.f m (by omega)
 have hen:=hfc.en
 have hme:=hfc.me
 have hca:=hfc.call
 rw [hfc.fv] at c0
 rw [hl] at hca
 have hz2:=hz1.ins (e:=⟨m,s⟩) hno ⟨a1,hs⟩ (by omega)
 have hln:=fun w1 (z1:Zs) (h:Pre base z z1 es1 w w1) => z_len h.zx.at_
 have hli:=fun w1 (z1:Zs) (h:Pre base z z1 es1 w w1) => z_lists h.zx.at_
 have hpu:=fun w1 (z1:Zs) (h:Zx base z z1 es1 w w1) (h2:z1.f.is=false→es1.length<200) => f_put h.at_.f hz1 ⟨m,s⟩ lvn ⟨by omega,by omega⟩ hno ⟨a1,hs⟩ h2
 have hE:=h.lim.1
 simp only [Option.getD_some,Option.isSome_some] at hca
 have HH:=Lib.hid h
 have hblk:∀ {w1 z1},Pre base z z1 es1 w w1→z1.blk=z.blk:=fun h => h.zx.blk
 unfold ZPost at hli
 unfold pt En.val at *
 clear h he hl a1 a2 a3 a4 hn4 hfc hs
 by_cases k1:z.E<es1.length+1
 ·have k1':(z.E:Int)<(es1.length:Int)+1:=by omega
  have k1a:z.E≤es1.length:=by omega
  have k1b:(z.E:Int)≤(es1.length:Int):=by omega
  have k1c:decide (z.E≤es1.length)=true:=decide_eq_true k1a
  have k1d:decide ((z.E:Int)<(es1.length:Int)+1)=true:=decide_eq_true k1'
  have hcond:z.E<es1.length+1∨z.M<m.size:=.inl k1
  have hcond':=Lib.hid hcond
  clear hcond
  clear k1
  go_enter Tryz.func55,Tryz.ntmps55
  go_wp2_with (first | (go_at_fn fid;refine hca.mono ?_;rintro r w1 ⟨rfl,f1,hf1⟩;obtain ⟨z1,hZ1⟩:=fx_zx HH.out hf1 hz;have hP1:Pre base z z1 es w w1:=⟨hZ1.1,hZ1.2⟩;obtain ⟨T2,v2,fid2,rc2,hfc2⟩:=hdr _ _ hP1;have hen2:=hfc2.en;have hme2:=hfc2.me;have hca2:=hfc2.call;obtain ⟨e0,el⟩:=hP1.form hfc2.fv;unfold En.val at hca2;clear hfc2) | (go_at_fn fid2;refine hca2.mono ?_;rintro r w2 ⟨⟨u2,rfl⟩,f2,hf2⟩;have hP2:Pre base z _ es1 w w2:=hP1.then (fx_zx hP1.zx.at_ hf2 hz1).choose_spec;obtain ⟨z2,hz2e⟩:∃ z2,z2=(fx_zx hP1.zx.at_ hf2 hz1).choose:=⟨_,rfl⟩;rw [← hz2e] at hP2;obtain ⟨d1,d2⟩:=hP2.cells (Chg.refl _ _);obtain ⟨dl1,dl2⟩:=(show z.blk<w2.heap.size∧True from ⟨by have:=hP2.zx.at_.cells.2.2.2.2;rwa [hP2.zx.blk] at this,trivial⟩);clear hz2e) | fail)
  refine wp_region_held_drew (S:=fun W' => W'.cell? ⟨z.blk,1,none⟩=some (.int .i64 (z.E:Int))∧W'.cell? ⟨z.blk,2,none⟩=some (.int .i64 (z.M:Int))) (by kernel_rfl) (hP2.cells (Chg.refl _ _).drew) (fun hHeld => ?_)
  refine wpAnyH_take (i:=0) (oi:=Go.Oper.mk (some 52) _ _ _ _ _) (v:=?_) rfl (by kernel_rfl) (by kernel_rfl) (by kernel_rfl) (fun _ _ _ h => h) (Or.inl ⟨by rfl,?_⟩) (by assumption) ?_
  rotate_left
  ·intro w hSw
   try dsimp only at hSw
   go_simp
   try with_reducible rfl
  try simp only [Act.put,List.setIfInBounds_toArray,List.set_cons_zero,List.set_cons_succ]
  refine wpAnyH_take (i:=3) (oi:=Go.Oper.mk (some 55) _ _ _ _ _) (v:=?_) rfl (by kernel_rfl) (by kernel_rfl) (by kernel_rfl) (fun _ _ _ h => h) (Or.inl ⟨by rfl,?_⟩) (by assumption) ?_
  rotate_left
  ·intro w hSw
   try dsimp only at hSw
   go_simp
   try with_reducible rfl
  try simp only [Act.put,List.setIfInBounds_toArray,List.set_cons_zero,List.set_cons_succ]
  refine wpAnyH_take (i:=4) (oi:=Go.Oper.mk (some 56) _ _ _ _ _) (v:=?_) rfl (by kernel_rfl) (by kernel_rfl) (by kernel_rfl) (fun _ _ _ h => h) (Or.inl ⟨by rfl,?_⟩) (by assumption) ?_
  rotate_left
  ·intro w hSw
   try dsimp only at hSw
   go_simp
   try with_reducible rfl
  try simp only [Act.put,List.setIfInBounds_toArray,List.set_cons_zero,List.set_cons_succ]
  refine wpAnyH_take (i:=5) (oi:=Go.Oper.mk (some 57) _ _ _ _ _) (v:=?_) rfl (by kernel_rfl) (by kernel_rfl) (by kernel_rfl) (fun _ _ _ h => h) (Or.inl ⟨by rfl,?_⟩) (by assumption) ?_
  rotate_left
  ·intro w hSw
   try dsimp only at hSw
   go_simp
   try with_reducible rfl
  try simp only [Act.put,List.setIfInBounds_toArray,List.set_cons_zero,List.set_cons_succ]
  refine wpAnyH_take (i:=6) (oi:=Go.Oper.mk (some 58) _ _ _ _ _) (v:=?_) rfl (by kernel_rfl) (by kernel_rfl) (by kernel_rfl) (fun _ _ _ h => h) (Or.inl ⟨by rfl,?_⟩) (by assumption) ?_
  rotate_left
  ·intro w hSw
   try dsimp only at hSw
   go_simp
   try with_reducible rfl
  try simp only [Act.put,List.setIfInBounds_toArray,List.set_cons_zero,List.set_cons_succ]
  refine wpAnyH_take (i:=7) (oi:=Go.Oper.mk (some 59) _ _ _ _ _) (v:=?_) rfl (by kernel_rfl) (by kernel_rfl) (by kernel_rfl) (fun _ _ _ h => h) (Or.inl ⟨by rfl,?_⟩) (by assumption) ?_
  rotate_left
  ·intro w hSw
   try dsimp only at hSw
   go_simp
   try with_reducible rfl
  try simp only [Act.put,List.setIfInBounds_toArray,List.set_cons_zero,List.set_cons_succ]
  refine wpAnyH_ready (rs:=[1]) (by kernel_rfl) (by simp) ?_
  refine AllReadyH.cons (o:=Go.Oper.mk (some 53) _ _ _ _ _) rfl (fun K hK => ?_) AllReadyH.nil
  go_simp
  go_at_call 27
  rw [← hblk hP2]
  refine (hln _ _ (hP2.zero (Chg.refl _ _).drew)).mono ?_
  rintro r w3 ⟨rfl,hC3'⟩
  have hC3:=(Chg.refl (fun _ => False) w2).drew.trans hC3'
  rw [hblk hP2]
  refine hK.out _ _ (hP2.cells hC3) (fun hHeld2 => ?_)
  clear hK K hHeld
  try simp only [Act.put,List.setIfInBounds_toArray,List.set_cons_zero,List.set_cons_succ]
  refine wpAnyH_take (i:=2) (oi:=Go.Oper.mk (some 54) _ _ _ _ _) (v:=?_) rfl (by kernel_rfl) (by kernel_rfl) (by kernel_rfl) (fun _ _ _ h => h) (Or.inl ⟨by rfl,?_⟩) (by assumption) ?_
  rotate_left
  ·intro w hSw
   try dsimp only at hSw
   go_simp
   try with_reducible rfl
  try simp only [Act.put,List.setIfInBounds_toArray,List.set_cons_zero,List.set_cons_succ]
  refine wpAnyH_take (i:=8) (oi:=Go.Oper.mk (some 60) _ _ _ _ _) (v:=?_) rfl (by kernel_rfl) (by kernel_rfl) (by kernel_rfl) (fun _ _ _ h => h) (Or.inl ⟨by rfl,?_⟩) (by assumption) ?_
  rotate_left
  ·intro w hSw
   try dsimp only at hSw
   go_simp
   try with_reducible rfl
  try simp only [Act.put,List.setIfInBounds_toArray,List.set_cons_zero,List.set_cons_succ]
  refine wpAnyH_take (i:=9) (oi:=Go.Oper.mk (some 61) _ _ _ _ _) (v:=?_) rfl (by kernel_rfl) (by kernel_rfl) (by kernel_rfl) (fun _ _ _ h => h) (Or.inl ⟨by rfl,?_⟩) (by assumption) ?_
  rotate_left
  ·intro w hSw
   try dsimp only at hSw
   go_simp
   try with_reducible rfl
  try simp only [Act.put,List.setIfInBounds_toArray,List.set_cons_zero,List.set_cons_succ]
  refine wpAnyH_take (i:=10) (oi:=Go.Oper.mk (some 62) _ _ _ _ _) (v:=undef) rfl (by kernel_rfl) (by kernel_rfl) (by kernel_rfl) (fun _ _ _ h => h) (Or.inr ⟨by kernel_rfl,rfl⟩) (by assumption) ?_
  try simp only [Act.put,List.setIfInBounds_toArray,List.set_cons_zero,List.set_cons_succ]
  refine wpAnyH_take (i:=11) (oi:=Go.Oper.mk (some 63) _ _ _ _ _) (v:=undef) rfl (by kernel_rfl) (by kernel_rfl) (by kernel_rfl) (fun _ _ _ h => h) (Or.inr ⟨by kernel_rfl,rfl⟩) (by assumption) ?_
  try simp only [Act.put,List.setIfInBounds_toArray,List.set_cons_zero,List.set_cons_succ]
  refine wpAnyH_take (i:=12) (oi:=Go.Oper.mk (some 64) _ _ _ _ _) (v:=undef) rfl (by kernel_rfl) (by kernel_rfl) (by kernel_rfl) (fun _ _ _ h => h) (Or.inr ⟨by kernel_rfl,rfl⟩) (by assumption) ?_
  try simp only [Act.put,List.setIfInBounds_toArray,List.set_cons_zero,List.set_cons_succ]
  refine wpAnyH_take (i:=13) (oi:=Go.Oper.mk (some 65) _ _ _ _ _) (v:=undef) rfl (by kernel_rfl) (by kernel_rfl) (by kernel_rfl) (fun _ _ _ h => h) (Or.inr ⟨by kernel_rfl,rfl⟩) (by assumption) ?_
  try simp only [Act.put,List.setIfInBounds_toArray,List.set_cons_zero,List.set_cons_succ]
  refine wpAnyH_take (i:=14) (oi:=Go.Oper.mk (some 66) _ _ _ _ _) (v:=undef) rfl (by kernel_rfl) (by kernel_rfl) (by kernel_rfl) (fun _ _ _ h => h) (Or.inr ⟨by kernel_rfl,rfl⟩) (by assumption) ?_
  try simp only [Act.put,List.setIfInBounds_toArray,List.set_cons_zero,List.set_cons_succ]
  refine wpAnyH_take (i:=15) (oi:=Go.Oper.mk (some 67) _ _ _ _ _) (v:=undef) rfl (by kernel_rfl) (by kernel_rfl) (by kernel_rfl) (fun _ _ _ h => h) (Or.inr ⟨by kernel_rfl,rfl⟩) (by assumption) ?_
  try simp only [Act.put,List.setIfInBounds_toArray,List.set_cons_zero,List.set_cons_succ]
  refine wpAnyH_take (i:=16) (oi:=Go.Oper.mk (some 68) _ _ _ _ _) (v:=undef) rfl (by kernel_rfl) (by kernel_rfl) (by kernel_rfl) (fun _ _ _ h => h) (Or.inr ⟨by kernel_rfl,rfl⟩) (by assumption) ?_
  try simp only [Act.put,List.setIfInBounds_toArray,List.set_cons_zero,List.set_cons_succ]
  refine wpAnyH_take (i:=17) (oi:=Go.Oper.mk (some 69) _ _ _ _ _) (v:=undef) rfl (by kernel_rfl) (by kernel_rfl) (by kernel_rfl) (fun _ _ _ h => h) (Or.inr ⟨by kernel_rfl,rfl⟩) (by assumption) ?_
  try simp only [Act.put,List.setIfInBounds_toArray,List.set_cons_zero,List.set_cons_succ]
  refine wpAnyH_take (i:=18) (oi:=Go.Oper.mk (some 70) _ _ _ _ _) (v:=?_) rfl (by kernel_rfl) (by kernel_rfl) (by kernel_rfl) (fun _ _ _ h => h) (Or.inl ⟨by rfl,?_⟩) (by assumption) ?_
  rotate_left
  ·intro w hSw
   try dsimp only at hSw
   go_simp
   try with_reducible rfl
  try simp only [Act.put,List.setIfInBounds_toArray,List.set_cons_zero,List.set_cons_succ]
  refine wpAnyH_done (by kernel_rfl) ?_ _
  clear hHeld2
  have hP3:=hP2.zero hC3
  have l3:z.blk<w3.heap.size:=Nat.lt_of_lt_of_le dl1 hC3.size
  go_wp2_with (first | (go_at_call 81;rw [← hblk hP3];refine (hli _ _ hP3).mono ?_;rintro r w4 ⟨⟨u4,rfl,_⟩,z4,hZ4,hi4⟩;rw [hblk hP3];have hZ4:=hP3.zx.trans hZ4;obtain ⟨T3,v3,fid3,rc3,hfc3⟩:=hpu _ _ hZ4 (fun h => by rw [hi4] at h;cases h);have hen3:=hfc3.en;have hme3:=hfc3.me;have hca3:=hfc3.call;obtain ⟨g0,gl⟩:=hZ4.form hfc3.fv;unfold En.val at hca3;clear hfc3) | (go_at_fn fid3;refine hca3.mono ?_;rintro r w5 ⟨⟨u5,rfl⟩,f5,hf5⟩) | fail)
  go_ret2
  obtain ⟨z5,hZ5,hi5⟩:=fx_zx hZ4.at_ hf5 hz2
  exact ⟨⟨_,rfl,fun y hy => by injection hy⟩,z5,hZ4.trans hZ5,by rw [hi5,hi4,decide_eq_true hcond'.out,Bool.or_true]⟩
 by_cases k2:z.M<m.size
 ·have k1':¬ (z.E:Int)<(es1.length:Int)+1:=by omega
  have k1a:(z.E≤es1.length)=False:=eq_false (by omega)
  have k1b:((z.E:Int)≤(es1.length:Int))=False:=eq_false (by omega)
  have k1c:decide (z.E≤es1.length)=false:=decide_eq_false (by omega)
  have k1d:decide ((z.E:Int)<(es1.length:Int)+1)=false:=decide_eq_false k1'
  have k2':(z.M:Int)<(m.size:Int):=by omega
  have k2c:decide (z.M<m.size)=true:=decide_eq_true k2
  have k2d:decide ((z.M:Int)<(m.size:Int))=true:=decide_eq_true k2'
  have hcond':=Lib.hid (show z.E<es1.length+1∨z.M<m.size from .inr k2)
  clear k1 k2
  go_enter Tryz.func55,Tryz.ntmps55
  go_wp2_with (first | (go_at_fn fid;refine hca.mono ?_;rintro r w1 ⟨rfl,f1,hf1⟩;obtain ⟨z1,hZ1⟩:=fx_zx HH.out hf1 hz;have hP1:Pre base z z1 es w w1:=⟨hZ1.1,hZ1.2⟩;obtain ⟨T2,v2,fid2,rc2,hfc2⟩:=hdr _ _ hP1;have hen2:=hfc2.en;have hme2:=hfc2.me;have hca2:=hfc2.call;obtain ⟨e0,el⟩:=hP1.form hfc2.fv;unfold En.val at hca2;clear hfc2) | (go_at_fn fid2;refine hca2.mono ?_;rintro r w2 ⟨⟨u2,rfl⟩,f2,hf2⟩;have hP2:Pre base z _ es1 w w2:=hP1.then (fx_zx hP1.zx.at_ hf2 hz1).choose_spec;obtain ⟨z2,hz2e⟩:∃ z2,z2=(fx_zx hP1.zx.at_ hf2 hz1).choose:=⟨_,rfl⟩;rw [← hz2e] at hP2;obtain ⟨d1,d2⟩:=hP2.cells (Chg.refl _ _);obtain ⟨dl1,dl2⟩:=(show z.blk<w2.heap.size∧True from ⟨by have:=hP2.zx.at_.cells.2.2.2.2;rwa [hP2.zx.blk] at this,trivial⟩);clear hz2e) | fail)
  go_region_held3 (fun W' => W'.cell? ⟨z.blk,1,none⟩=some (.int .i64 (z.E:Int))∧W'.cell? ⟨z.blk,2,none⟩=some (.int .i64 (z.M:Int))) (first | exact hP2.cells (Chg.refl _ _).drew | exact hP2.cells hC3 | fail) (first | (go_at_call 27;rw [← hblk hP2];refine (hln _ _ (hP2.zero (Chg.refl _ _).drew)).mono ?_;rintro r w3 ⟨rfl,hC3'⟩;have hC3:=(Chg.refl (fun _ => False) w2).drew.trans hC3';rw [hblk hP2]) | fail)
  have hP3:=hP2.zero hC3
  have l3:z.blk<w3.heap.size:=Nat.lt_of_lt_of_le dl1 hC3.size
  go_wp2_with (first | (go_at_call 81;rw [← hblk hP3];refine (hli _ _ hP3).mono ?_;rintro r w4 ⟨⟨u4,rfl,_⟩,z4,hZ4,hi4⟩;rw [hblk hP3];have hZ4:=hP3.zx.trans hZ4;obtain ⟨T3,v3,fid3,rc3,hfc3⟩:=hpu _ _ hZ4 (fun h => by rw [hi4] at h;cases h);have hen3:=hfc3.en;have hme3:=hfc3.me;have hca3:=hfc3.call;obtain ⟨g0,gl⟩:=hZ4.form hfc3.fv;unfold En.val at hca3;clear hfc3) | (go_at_fn fid3;refine hca3.mono ?_;rintro r w5 ⟨⟨u5,rfl⟩,f5,hf5⟩) | fail)
  go_ret2
  obtain ⟨z5,hZ5,hi5⟩:=fx_zx hZ4.at_ hf5 hz2
  exact ⟨⟨_,rfl,fun y hy => by injection hy⟩,z5,hZ4.trans hZ5,by rw [hi5,hi4,decide_eq_true hcond'.out,Bool.or_true]⟩
 ·have k1':¬ (z.E:Int)<(es1.length:Int)+1:=by omega
  have k1a:(z.E≤es1.length)=False:=eq_false (by omega)
  have k1b:((z.E:Int)≤(es1.length:Int))=False:=eq_false (by omega)
  have k1c:decide (z.E≤es1.length)=false:=decide_eq_false (by omega)
  have k1d:decide ((z.E:Int)<(es1.length:Int)+1)=false:=decide_eq_false k1'
  have k2':¬ (z.M:Int)<(m.size:Int):=by omega
  have k2c:decide (z.M<m.size)=false:=decide_eq_false (by omega)
  have k2d:decide ((z.M:Int)<(m.size:Int))=false:=decide_eq_false k2'
  have hcond':=Lib.hid (show ¬ (z.E<es1.length+1∨z.M<m.size) by omega)
  clear k1 k2
  go_enter Tryz.func55,Tryz.ntmps55
  go_wp2_with (first | (go_at_fn fid;refine hca.mono ?_;rintro r w1 ⟨rfl,f1,hf1⟩;obtain ⟨z1,hZ1⟩:=fx_zx HH.out hf1 hz;have hP1:Pre base z z1 es w w1:=⟨hZ1.1,hZ1.2⟩;obtain ⟨T2,v2,fid2,rc2,hfc2⟩:=hdr _ _ hP1;have hen2:=hfc2.en;have hme2:=hfc2.me;have hca2:=hfc2.call;obtain ⟨e0,el⟩:=hP1.form hfc2.fv;unfold En.val at hca2;clear hfc2) | (go_at_fn fid2;refine hca2.mono ?_;rintro r w2 ⟨⟨u2,rfl⟩,f2,hf2⟩;have hP2:Pre base z _ es1 w w2:=hP1.then (fx_zx hP1.zx.at_ hf2 hz1).choose_spec;obtain ⟨z2,hz2e⟩:∃ z2,z2=(fx_zx hP1.zx.at_ hf2 hz1).choose:=⟨_,rfl⟩;rw [← hz2e] at hP2;obtain ⟨d1,d2⟩:=hP2.cells (Chg.refl _ _);obtain ⟨dl1,dl2⟩:=(show z.blk<w2.heap.size∧True from ⟨by have:=hP2.zx.at_.cells.2.2.2.2;rwa [hP2.zx.blk] at this,trivial⟩);clear hz2e) | fail)
  go_region_held3 (fun W' => W'.cell? ⟨z.blk,1,none⟩=some (.int .i64 (z.E:Int))∧W'.cell? ⟨z.blk,2,none⟩=some (.int .i64 (z.M:Int))) (first | exact hP2.cells (Chg.refl _ _).drew | exact hP2.cells hC3 | fail) (first | (go_at_call 27;rw [← hblk hP2];refine (hln _ _ (hP2.zero (Chg.refl _ _).drew)).mono ?_;rintro r w3 ⟨rfl,hC3'⟩;have hC3:=(Chg.refl (fun _ => False) w2).drew.trans hC3';rw [hblk hP2]) | fail)
  have hP3:=hP2.zero hC3
  obtain ⟨T3,v3,fid3,rc3,hfc3⟩:=hpu _ _ hP3.zx (fun _ => by omega)
  have hen3:=hfc3.en
  have hme3:=hfc3.me
  have hca3:=hfc3.call
  obtain ⟨g0,gl⟩:=hP3.zx.form hfc3.fv
  unfold En.val at hca3
  clear hfc3
  go_wp2_with (first | (go_at_fn fid3;refine hca3.mono ?_;rintro r w5 ⟨⟨u5,rfl⟩,f5,hf5⟩) | fail)
  go_ret2
  obtain ⟨z5,hZ5,hi5⟩:=fx_zx hP3.zx.at_ hf5 hz2
  exact ⟨⟨_,rfl,fun y hy => by injection hy⟩,z5,hP3.zx.trans hZ5,by rw [hi5,hP3.is,decide_eq_false hcond'.out,Bool.or_false]⟩
end
end Go.Proofs.YtehpmbmdadkhbaaGreatDoor

namespace Go.Proofs.YtehpmbmdadkhbaaGreatDoor
open Go.RowKit Pal
attribute [local go_sem] Oper.semAt_some
section
variable {w w':World} {base:Nat} {z:Zs} {es:List En}
theorem z_add (h:ZsAt w base z es) (m:ByteArray) (s lv:Int) (hm:m.size≤9223372036854775807) (hs:-9223372036854775808≤s∧s≤9223372036854775807):Calls Tryz.prog 55 #[pt z.blk,.string m,.int .i64 s,.int .i64 lv] w (ZPost base z (addL es m s lv) (addI es m s lv z.E z.M z.f.is) (some (.tuple #[.bool (addR es m lv).1,.int .i64 (addR es m lv).2])) w):=by
 unfold addL addI addR
 cases he:addNo es m lv with
 | some e => exact z_add_no h m s lv hm e he
 | none =>
  have hlen:(putE es m s).length=(dropM es m).length+1:=by unfold putE;rw [(insE_perm _ _).length_eq,List.length_cons]
  dsimp only
  rw [hlen]
  cases hl:lookE es m with
  | none => exact z_add_none h m s lv hs he hl _ rfl
  | some so => exact z_add_some h m s lv hs he so hl _ rfl
end
end Go.Proofs.YtehpmbmdadkhbaaGreatDoor

namespace Go.Proofs.YtehpmbmdadkhbaaGreatDoor
open Go.RowKit Pal
attribute [local go_sem] Oper.semAt_some
section
variable {w w':World} {base:Nat} {z:Zs} {es:List En}
end
end Go.Proofs.YtehpmbmdadkhbaaGreatDoor

namespace Go.Proofs.YtehpmbmdadkhbaaGreatDoor
open Go.RowKit Pal
attribute [local go_sem] Oper.semAt_some
section
variable {w0 W W':World} {b:Nat} {z:Zs} {es es':List En} {is:Bool} {E M:Nat}
end
end Go.Proofs.YtehpmbmdadkhbaaGreatDoor

namespace Go.Proofs.YtehpmbmdadkhbaaGreatDoor.Dspaceitem
open Go.RowKit Pal
def VOk (v:Value):Prop:=∃ p:Option Addr,v=.pointer p
structure Nd where
 blk:Nat
 sum:Nat
 key:ByteArray
 v:Value
abbrev Ch:=List Nd
def ptr (b:Nat):Value:=.pointer (some ⟨b,0,none⟩)
def hd:Ch→Value
 | [] => .pointer none
 | x :: _ => ptr x.blk
def ndCells (x:Nd) (nx:Value):Array Value:=#[.int .u32 (x.sum:Int),.string x.key,x.v,nx]
def chAt (w:World):Ch→Prop
 | [] => True
 | x :: r => Blk w x.blk 138 (ndCells x (hd r))∧chAt w r
structure Tb where
 blk:Nat
 slots:List Ch
def Tb.len (t:Tb):Nat:=t.slots.length
def Tb.at (t:Tb) (i:Nat):Ch:=t.slots.getD i []
def Tb.set (t:Tb) (i:Nat) (c:Ch):Tb:={ t with slots:=t.slots.set i c }
def Tb.nodes (t:Tb):List Nd:=t.slots.flatten
def tbCells (t:Tb):Array Value:=(t.slots.map hd).toArray
def tbVal (t:Tb):Value:=.slice (some ⟨t.blk,0,none⟩) t.len t.len
def tbAt (w:World) (t:Tb):Prop:=Blk w t.blk 136 (tbCells t)∧∀ c∈t.slots,chAt w c
structure Dm where
 blk:Nat
 seed:Nat
 t0:Tb
 t1:Option Tb
 at_:Nat
 n:Nat
def Dm.nodes1 (d:Dm):List Nd:=match d.t1 with | none => [] | some t => t.nodes
def Dm.nodes (d:Dm):List Nd:=d.t0.nodes++d.nodes1
def t1Val:Option Tb→Value
 | none => .slice none 0 0
 | some t => tbVal t
def dmCells (d:Dm):Array Value:=#[.int .u32 (d.seed:Int),tbVal d.t0,t1Val d.t1,.int .i64 (d.at_:Int),.int .i64 (d.n:Int)]
def Dm.foot (d:Dm) (g:Nat):Prop:=g=d.blk∨g=d.t0.blk∨(∃ t,d.t1=some t∧g=t.blk)∨∃ x∈d.nodes,g=x.blk
structure DmAt (w:World) (d:Dm):Prop where
 hd:Blk w d.blk 125 (dmCells d)
 a0:tbAt w d.t0
 a1:∀ t,d.t1=some t→tbAt w t
 ne:∀ t,d.t1=some t→d.t0.blk≠t.blk
 nodup:(d.nodes.map (·.blk)).Nodup
theorem Tb.at_lt {t:Tb} {i:Nat} (h:i<t.len):t.slots[i]?=some (t.at i):=by
 unfold Tb.at;rw [List.getD_eq_getElem?_getD];unfold Tb.len at h;rw [List.getElem?_eq_getElem h];rfl
theorem Tb.at_mem {t:Tb} {i:Nat} (h:i<t.len):t.at i∈t.slots:=List.mem_of_getElem? (Tb.at_lt h)
theorem Tb.set_len (t:Tb) (i:Nat) (c:Ch):(t.set i c).len=t.len:=by simp [Tb.set,Tb.len]
theorem Tb.set_at {t:Tb} {i:Nat} (h:i<t.len) (c:Ch) (j:Nat):(t.set i c).at j=if i=j then c else t.at j:=by
 unfold Tb.at Tb.set Tb.len at *
 simp only [List.getD_eq_getElem?_getD,List.getElem?_set]
 by_cases e:i=j
 ·subst e;simp [h]
 ·simp [e]
theorem tbCells_get {t:Tb} {i:Nat} (h:i<t.len):(tbCells t)[i]?=some (hd (t.at i)):=by
 unfold tbCells;simp [Tb.at_lt h]
theorem tbCells_set (t:Tb) (i:Nat) (c:Ch):tbCells (t.set i c)=(tbCells t).setIfInBounds i (hd c):=by
 unfold tbCells Tb.set;simp [List.map_set]
theorem tbCells_size (t:Tb):(tbCells t).size=t.len:=by simp [tbCells,Tb.len]
theorem mem_nodes {t:Tb} {x:Nd}:x∈t.nodes ↔ ∃ i,i<t.len∧x∈t.at i:=by
 unfold Tb.nodes;rw [List.mem_flatten]
 constructor
 ·rintro ⟨c,hc,hx⟩
  obtain ⟨i,hi,rfl⟩:=List.mem_iff_getElem.1 hc
  exact ⟨i,hi,by have:=Tb.at_lt (t:=t) hi;rw [List.getElem?_eq_getElem hi] at this;injection this with this;rw [← this];exact hx⟩
 ·rintro ⟨i,hi,hx⟩;exact ⟨_,Tb.at_mem hi,hx⟩
theorem chAt.chg {S:Nat→Prop} {w w':World} (hc:Chg S w w'):∀ {c:Ch},chAt w c→(∀ x∈c,¬ S x.blk)→chAt w' c
 | [],_,_ => trivial
 | _ :: _,⟨h1,h2⟩,hS => ⟨h1.chg hc (hS _ (by simp)),chAt.chg hc h2 (fun x hx => hS x (by simp [hx]))⟩
theorem chAt.node {w:World}:∀ {c:Ch} {pre:Ch} {x:Nd} {post:Ch},chAt w c→c=pre++x :: post→Blk w x.blk 138 (ndCells x (hd post))
 | _,[],_,_,h,rfl => h.1
 | _,_ :: pre,_,_,h,rfl => chAt.node (pre:=pre) h.2 rfl
theorem tbAt.chg {S:Nat→Prop} {w w':World} {t:Tb} (hc:Chg S w w') (h:tbAt w t) (ht:¬ S t.blk) (hS:∀ x∈t.nodes,¬ S x.blk):tbAt w' t :=
 ⟨h.1.chg hc ht,fun c hcm => (h.2 c hcm).chg hc fun x hx => hS x (List.mem_flatten.2 ⟨c,hcm,hx⟩)⟩
theorem DmAt.chg {S:Nat→Prop} {w w':World} {d:Dm} (h:DmAt w d) (hc:Chg S w w') (hS:∀ g,d.foot g→¬ S g):DmAt w' d where
 hd:=h.hd.chg hc (hS _ (.inl rfl))
 a0:=h.a0.chg hc (hS _ (.inr (.inl rfl))) fun x hx => hS _ (.inr (.inr (.inr ⟨x,by simp [Dm.nodes,hx],rfl⟩)))
 a1:=fun t ht => (h.a1 t ht).chg hc (hS _ (.inr (.inr (.inl ⟨t,ht,rfl⟩)))) fun x hx => hS _ (.inr (.inr (.inr ⟨x,by simp [Dm.nodes,Dm.nodes1,ht,hx],rfl⟩)))
 ne:=h.ne
 nodup:=h.nodup
theorem DmAt.chg0 {w w':World} {d:Dm} (h:DmAt w d) (hc:Chg (fun _ => False) w w'):DmAt w' d:=h.chg hc fun _ _ => id
theorem tbAt.node {w:World} {t:Tb} (h:tbAt w t) {x:Nd} (hx:x∈t.nodes):∃ nx,Blk w x.blk 138 (ndCells x nx):=by
 obtain ⟨c,hc,hxc⟩:=List.mem_flatten.1 hx
 obtain ⟨pre,post,rfl⟩:=List.append_of_mem hxc
 exact ⟨_,(h.2 _ hc).node rfl⟩
theorem DmAt.node {w:World} {d:Dm} (h:DmAt w d) {x:Nd} (hx:x∈d.nodes):∃ nx,Blk w x.blk 138 (ndCells x nx):=by
 unfold Dm.nodes Dm.nodes1 at hx
 rcases List.mem_append.1 hx with h0 | h1
 ·exact h.a0.node h0
 ·split at h1
  ·cases h1
  ·rename_i t ht;exact (h.a1 t ht).node h1
theorem DmAt.lt {w:World} {d:Dm} (h:DmAt w d) {g:Nat} (hg:d.foot g):g<w.heap.size:=by
 rcases hg with rfl | rfl | ⟨t,ht,rfl⟩ | ⟨x,hx,rfl⟩
 ·exact h.hd.lt
 ·exact h.a0.1.lt
 ·exact (h.a1 t ht).1.lt
 ·obtain ⟨nx,hb⟩:=h.node hx;exact hb.lt
theorem chAt.keep {w w':World} (k:KeepC w w'):∀ {c:Ch},chAt w c→chAt w' c
 | [],_ => trivial
 | _ :: _,⟨h1,h2⟩ => ⟨h1.keep k,chAt.keep k h2⟩
theorem tbAt.keep {w w':World} {t:Tb} (h:tbAt w t) (k:KeepC w w'):tbAt w' t:=⟨h.1.keep k,fun c hc => (h.2 c hc).keep k⟩
theorem DmAt.keep {w w':World} {d:Dm} (h:DmAt w d) (k:KeepC w w'):DmAt w' d where
 hd:=h.hd.keep k
 a0:=h.a0.keep k
 a1:=fun t ht => (h.a1 t ht).keep k
 ne:=h.ne
 nodup:=h.nodup
theorem DmAt.t0_ne {w:World} {d:Dm} (h:DmAt w d):d.t0.blk≠d.blk:=h.a0.1.ne_type h.hd (by decide)
theorem DmAt.t1_ne {w:World} {d:Dm} (h:DmAt w d) {t:Tb} (ht:d.t1=some t):t.blk≠d.blk:=(h.a1 t ht).1.ne_type h.hd (by decide)
theorem DmAt.nd_ne {w:World} {d:Dm} (h:DmAt w d) {x:Nd} (hx:x∈d.nodes):x.blk≠d.blk∧x.blk≠d.t0.blk∧∀ t,d.t1=some t→x.blk≠t.blk:=by
 obtain ⟨nx,hb⟩:=h.node hx
 exact ⟨hb.ne_type h.hd (by decide),hb.ne_type h.a0.1 (by decide),fun t ht => hb.ne_type (h.a1 t ht).1 (by decide)⟩
theorem mem_nodes0 {d:Dm} {x:Nd} (h:x∈d.t0.nodes):x∈d.nodes:=List.mem_append.2 (.inl h)
theorem mem_nodes1 {d:Dm} {t:Tb} (ht:d.t1=some t) {x:Nd} (h:x∈t.nodes):x∈d.nodes:=by
 unfold Dm.nodes Dm.nodes1;rw [ht];exact List.mem_append.2 (.inr h)
theorem DmAt.head {w w':World} {d d':Dm} (h:DmAt w d) (hc:Chg (fun g => g=d.blk) w w') (hh:Blk w' d'.blk 125 (dmCells d')) (e0:d'.t0=d.t0) (e1:d'.t1=d.t1):DmAt w' d' where
 hd:=hh
 a0:=by rw [e0];exact h.a0.chg hc h.t0_ne fun x hx => (h.nd_ne (mem_nodes0 hx)).1
 a1:=fun t ht => by
  rw [e1] at ht
  exact (h.a1 t ht).chg hc (h.t1_ne ht) fun x hx => (h.nd_ne (mem_nodes1 ht hx)).1
 ne:=fun t ht => by rw [e1] at ht;rw [e0];exact h.ne t ht
 nodup:=by
  have:d'.nodes=d.nodes:=by unfold Dm.nodes Dm.nodes1;rw [e0,e1]
  rw [this];exact h.nodup
end Go.Proofs.YtehpmbmdadkhbaaGreatDoor.Dspaceitem

namespace Go.Proofs.YtehpmbmdadkhbaaGreatDoor.Dspaceitem
open Go.RowKit Pal
theorem dm_cells {w:World} {d:Dm} (h:DmAt w d):w.cell? ⟨d.blk,0,none⟩=some (.int .u32 (d.seed:Int))∧w.cell? ⟨d.blk,1,none⟩=some (tbVal d.t0)∧w.cell? ⟨d.blk,2,none⟩=some (t1Val d.t1) ∧
  w.cell? ⟨d.blk,3,none⟩=some (.int .i64 (d.at_:Int))∧w.cell? ⟨d.blk,4,none⟩=some (.int .i64 (d.n:Int))∧(∀ i,w.frozen? ⟨d.blk,i,none⟩=false)∧d.blk<w.heap.size :=
 ⟨h.hd.cell 0,h.hd.cell 1,h.hd.cell 2,h.hd.cell 3,h.hd.cell 4,fun i => h.hd.frozen i,h.hd.lt⟩
set_option maxHeartbeats 400000 in
theorem len_any (d:Dm) (w:World) (h:DmAt w d) :
  Calls Tryz.prog 35 #[ptr d.blk] w fun e w' => e=.returned (.int .i64 (d.n:Int))∧w=w':=by
 obtain ⟨c0,c1,c2,c3,c4,hf,hlt⟩:=dm_cells h
 unfold ptr
 go_enter Tryz.func35,Tryz.ntmps35
 go_wp2
 go_ret
 exact ⟨rfl,rfl⟩
set_option maxHeartbeats 400000 in
theorem isMoving_any (d:Dm) (w:World) (h:DmAt w d) :
  Calls Tryz.prog 74 #[ptr d.blk] w fun e w' => e=.returned (.bool d.t1.isSome)∧w=w':=by
 obtain ⟨c0,c1,c2,c3,c4,hf,hlt⟩:=dm_cells h
 unfold ptr
 cases ht:d.t1 with
 | none =>
  rw [ht] at c2
  simp only [t1Val] at c2
  go_enter Tryz.func74,Tryz.ntmps74
  go_wp2
  go_ret
  exact ⟨rfl,rfl⟩
 | some t =>
  rw [ht] at c2
  simp only [t1Val,tbVal] at c2
  go_enter Tryz.func74,Tryz.ntmps74
  go_wp2
  go_ret
  exact ⟨rfl,rfl⟩
set_option maxHeartbeats 400000 in
theorem slot_any (t:Tb) (s k:Nat) (w:World) (hs:s<4294967296) (hk:t.len=2 ^ k) (hk16:k≤16) :
  Calls Tryz.prog 106 #[tbVal t,.int .u32 (s:Int)] w fun e w' => e=.returned (.int .i64 ((s % t.len:Nat):Int))∧w=w':=by
 unfold tbVal
 have H:=Lib.hid (slot_bits s k hs hk16)
 have hp:(2:Nat) ^ k≤2 ^ 16:=pow_mono hk16
 have h1:1≤2 ^ k:=Nat.one_le_two_pow
 have hq:s % 2 ^ k<2 ^ k:=Nat.mod_lt _ h1
 have hw:=Lib.hid (IntWalk.wrap64_in ((s % 2 ^ k:Nat):Int) ⟨by omega,by omega⟩)
 rw [hk]
 obtain ⟨n,hn⟩:∃ n:Nat,Hid (n=2 ^ k):=⟨_,rfl⟩
 have e:((2 ^ k:Nat):Int)=(n:Int):=by rw [hn.out]
 rw [e] at H
 rw [← hn.out] at hp h1 ⊢
 have hn1:1≤(n:Int):=by omega
 have hn2:(n:Int)≤65536:=by omega
 clear e hk hq
 rw [← hn.out] at hw H
 go_enter Tryz.func106,Tryz.ntmps106
 go_wp2
 go_ret
 refine ⟨?_,rfl⟩
 simp only [H.out,hw.out]
 rfl
set_option maxHeartbeats 400000 in
theorem of_any (d:Dm) (key:ByteArray) (w:World) (h:DmAt w d) (hs:d.seed<4294967296) (hk:key.size≤9223372036854775807) :
  Calls Tryz.prog 105 #[ptr d.blk,.string key] w fun e w' => e=.returned (.agg #[.int .u32 (sumN d.seed key.data.toList:Int),.string key])∧Chg (fun _ => False) w w':=by
 obtain ⟨c0,c1,c2,c3,c4,hf,hlt⟩:=dm_cells h
 unfold ptr
 go_enter Tryz.func105,Tryz.ntmps105
 go_wp2_with fail
 refine (sum_any _ _ _ hs hk).mono ?_;rintro e w1 ⟨rfl,hc⟩
 have hb:Blk w1 w.heap.size 135 #[.int .u32 0,.string ⟨#[]⟩]:=(Blk.new w 135 _).chg hc id
 have hc1:Chg (fun _ => False) w w1:=((Chg.refl _ w).alloc _).trans hc
 have e0:=hb.cell 0
 have e1:=hb.cell 1
 have f0:=hb.frozen 0
 have f1:=hb.frozen 1
 simp only [List.getElem?_toArray,List.getElem?_cons_zero,List.getElem?_cons_succ] at e0 e1
 have hlt1:=hb.lt
 clear c0 c1 c2 c3 c4 hf hc h
 obtain ⟨q,HQ⟩:∃ q,Hid (sumN d.seed key.data.toList=q):=⟨_,rfl⟩
 rw [HQ.out]
 go_wp2_with fail
 have hb2:=(hb.set 0 (.int .u32 (q:Int))).set 1 (.string key)
 have hc2:Chg (fun _ => False) w ((w1.setCell ⟨w.heap.size,0,none⟩ (.int .u32 (q:Int))).setCell ⟨w.heap.size,1,none⟩ (.string key)) :=
  (hc1.setCell (p:=⟨w.heap.size,0,none⟩) (fun h => Nat.lt_irrefl _ h) _).setCell (p:=⟨w.heap.size,1,none⟩) (fun h => Nat.lt_irrefl _ h) _
 generalize (w1.setCell ⟨w.heap.size,0,none⟩ (.int .u32 (q:Int))).setCell ⟨w.heap.size,1,none⟩ (.string key)=w2 at hb2 hc2 ⊢
 have g0:=hb2.cell 0
 have g1:=hb2.cell 1
 simp at g0 g1
 refine bodyPost_ret (v:=.agg #[.int .u32 (q:Int),.string key]) (by simp [results,Tryz.results105,go_sem,g0,g1]) rfl ⟨by rw [HQ.out],hc2⟩
theorem ptr_info:(Tryz.prog.info? 136).map (fun i => (i.zero,i.size,i.bytes))=some (some (.pointer none),1,8):=by kernel_rfl
theorem run_make_tab (n:Nat) (hn:n≤65536) (w:World) :
  (Instr.makeSlice 122 (.int .i64 (n:Int)) (.int .i64 (n:Int))).run Tryz.prog w=.ok (.slice (some ⟨w.heap.size,0,none⟩) n n) (w.alloc (.cells (tbCells ⟨0,List.replicate n []⟩) 136)):=by
 obtain ⟨i0,hi,hz0,hz1,hz2⟩:=info_parts ptr_info
 have hr:=run_make (P:=Tryz.prog) w 122 136 i0 (.pointer none) Tryz.underlying122 hi hz0 .i64 .i64 n n (by omega) (by omega) (by rw [hz2];omega) (by omega)
 simp only [Int.toNat_natCast] at hr
 have h:madeCells (Value.pointer none).cells (n * i0.size)=tbCells ⟨0,List.replicate n []⟩:=by
  rw [hz1,Nat.mul_one]
  apply Array.toList_inj.1
  simp [Value.cells,toList_madeCells_one,tbCells,hd]
 rw [hr,h]
theorem sizeFor_le (n:Int):sizeFor n≤65536:=by
 obtain ⟨k,h2,h16,hk,_,_⟩:=sizeFor_spec n
 rw [hk];exact pow_mono h16
set_option maxHeartbeats 400000 in
theorem moves_any (d:Dm) (n:Int) (w:World) (h:DmAt w d) (ht:d.t1=none) :
  Calls Tryz.prog 75 #[ptr d.blk,.int .i64 n] w fun e w' => (∃ v,e=.returned v)∧∃ b,w.heap.size≤b∧DmAt w' { d with t1:=some ⟨b,List.replicate (sizeFor n) []⟩ }∧Chg (fun g => g=d.blk) w w':=by
 obtain ⟨c0,c1,c2,c3,c4,hf,hlt⟩:=dm_cells h
 have hmk:=run_make_tab (sizeFor n) (sizeFor_le n)
 unfold ptr
 go_enter Tryz.func75,Tryz.ntmps75
 go_wp2_with fail
 go_region_with (go_at_call 109;refine (sizeFor_any _ _).mono ?_;rintro e w1 ⟨rfl,hc1⟩;have hw1:=h.chg0 ((Chg.refl _ w).drew.trans hc1);obtain ⟨k0,k1,k2,k3,k4,kf,klt⟩:=dm_cells hw1)
 go_end0
 have hC:Chg (fun _ => False) w w1:=(Chg.refl _ w).drew.trans hc1
 refine ⟨⟨_,rfl⟩,w1.heap.size,hC.size,?_,?_⟩
 ·have hs:Chg (fun g => g=d.blk) w1 ((w1.setCell { block:=d.blk,off:=2 } (Value.slice (some { block:=w1.heap.size,off:=0 }) (sizeFor n) (sizeFor n))).alloc (Obj.cells (tbCells { blk:=0,slots:=List.replicate (sizeFor n) [] }) 136)) :=
   ((Chg.refl (fun g => g=d.blk) w1).store rfl 2 _).alloc _
  have hb:=Blk.new (w1.setCell { block:=d.blk,off:=2 } (Value.slice (some { block:=w1.heap.size,off:=0 }) (sizeFor n) (sizeFor n))) 136 (tbCells { blk:=0,slots:=List.replicate (sizeFor n) [] })
  rw [World.size_setCell] at hb
  refine { hd:=?_,a0:=hw1.a0.chg hs hw1.t0_ne (fun x hx => (hw1.nd_ne (mem_nodes0 hx)).1),a1:=?_,ne:=?_,nodup:=?_ }
  ·have:=(hw1.hd.set 2 (.slice (some ⟨w1.heap.size,0,none⟩) (sizeFor n) (sizeFor n))).alloc (Obj.cells (tbCells { blk:=0,slots:=List.replicate (sizeFor n) [] }) 136)
   simpa [dmCells,t1Val,tbVal,Tb.len] using this
  ·rintro t ht
   injection ht with ht
   subst ht
   exact ⟨hb,fun c hc => by rw [List.eq_of_mem_replicate hc];trivial⟩
  ·rintro t ht
   injection ht with ht
   subst ht
   exact Nat.ne_of_lt hw1.a0.1.lt
  ·have e:({ d with t1:=some ⟨w1.heap.size,List.replicate (sizeFor n) []⟩ }:Dm).nodes=d.nodes:=by
    unfold Dm.nodes Dm.nodes1 Tb.nodes;rw [ht];simp
   rw [e];exact h.nodup
 ·exact (hC.mono (fun _ _ h => h.elim)).trans (((Chg.refl (fun g => g=d.blk) w1).store rfl 2 _).alloc _)
end Go.Proofs.YtehpmbmdadkhbaaGreatDoor.Dspaceitem

namespace Go.Proofs.YtehpmbmdadkhbaaGreatDoor.Dspaceitem
open Go.RowKit Pal
attribute [local go_sem] Oper.semAt_some
def newDm (b c seed:Nat):Dm:={ blk:=b,seed:=seed,t0:=⟨c,List.replicate 4 []⟩,t1:=none,at_:=0,n:=0 }
set_option maxHeartbeats 400000 in
theorem New_any (seed:Nat) (w:World) :
  Calls Tryz.prog 51 #[.int .u32 (seed:Int)] w fun e w' => ∃ b c,e=.returned (ptr b)∧DmAt w' (newDm b c seed)∧w.heap.size≤b∧w.heap.size≤c∧Chg (fun _ => False) w w':=by
 obtain ⟨tc,HT⟩:∃ tc,Hid (tbCells ⟨0,List.replicate 4 []⟩=tc):=⟨_,rfl⟩
 have hmk:∀ w,(Instr.makeSlice 122 (.int .i64 4) (.int .i64 4)).run Tryz.prog w=.ok (.slice (some ⟨w.heap.size,0,none⟩) 4 4) (w.alloc (.cells tc 136)):=by
  intro w;rw [← HT.out];exact run_make_tab 4 (by omega) w
 go_enter Tryz.func51,Tryz.ntmps51
 go_wp2
 go_ret
 have hb:=Blk.new (w.alloc (.cells tc 136)) 125 #[Value.int IntKind.u32 (seed:Int),Value.slice (some { block:=w.heap.size,off:=0 }) 4 4,Value.slice none 0 0,Value.int IntKind.i64 0,Value.int IntKind.i64 0]
 rw [World.size_alloc] at hb
 have ht:=(Blk.new w 136 tc).alloc (Obj.cells #[Value.int IntKind.u32 (seed:Int),Value.slice (some { block:=w.heap.size,off:=0 }) 4 4,Value.slice none 0 0,Value.int IntKind.i64 0,Value.int IntKind.i64 0] 125)
 rw [← HT.out] at ht hb ⊢
 refine ⟨w.heap.size+1,w.heap.size,rfl,{ hd:=hb,a0:=⟨ht,fun c hc => (by rw [List.eq_of_mem_replicate hc];trivial)⟩,a1:=fun t h => (by cases h),ne:=fun t h => (by cases h),nodup:=List.nodup_nil },Nat.le_succ _,Nat.le_refl _,((Chg.refl _ w).alloc _).alloc _⟩
set_option maxHeartbeats 400000 in
theorem Sizes_any (d:Dm) (w:World) (h:DmAt w d) :
  Calls Tryz.prog 87 #[ptr d.blk] w fun e w' => e=.returned (.tuple #[.int .i64 (d.t0.len:Int),.int .i64 (((d.t1.map Tb.len).getD 0:Nat):Int),.int .i64 (d.at_:Int)])∧Chg (fun _ => False) w w':=by
 obtain ⟨c0,c1,c2,c3,c4,hf,hlt⟩:=dm_cells h
 unfold ptr
 unfold tbVal at c1
 cases ht:d.t1 with
 | none =>
  rw [ht] at c2
  simp only [t1Val] at c2
  go_enter Tryz.func87,Tryz.ntmps87
  go_wp2
  go_quiet (fail)
  go_wp2
  go_ret3
  exact ⟨rfl,(Chg.refl _ _).drewN _⟩
 | some t =>
  rw [ht] at c2
  simp only [t1Val,tbVal] at c2
  go_enter Tryz.func87,Tryz.ntmps87
  go_wp2
  go_quiet (fail)
  go_wp2
  go_ret3
  exact ⟨rfl,(Chg.refl _ _).drewN _⟩
set_option maxHeartbeats 400000 in
theorem chain_any (p:Option Addr) (w:World) :
  Calls Tryz.prog 103 #[.pointer p] w fun e w' => e=.returned (.func (.func 131) #[] #[ptr w.heap.size])∧w.alloc (.cells #[.pointer p] 136)=w':=by
 unfold ptr
 go_enter Tryz.func103,Tryz.ntmps103
 go_wp2
 go_ret
 exact ⟨rfl,rfl⟩
theorem chain1_any (l B:Nat) (J J2:Ch→World→Prop) (Jx:World→Prop)
  (hJ:∀ r W,J r W→W.cell? ⟨B,0,none⟩=some (hd r))
  (hY:∀ x r W,J (x :: r) W→W.cell? ⟨x.blk,3,none⟩=some (hd r)∧YieldAt Fence.wide 2 Tryz.prog l #[ptr x.blk] W fun e W' => (e=.returned (.bool true)∧J2 r W')∨(e=.returned (.bool false)∧Jx W'))
  (hS:∀ r W,J2 r W→(∃ v,W.cell? ⟨B,0,none⟩=some v)∧W.frozen? ⟨B,0,none⟩=false∧J r (W.setCell ⟨B,0,none⟩ (hd r)))
  (c:Ch) (W:World) (h0:J c W) :
  Calls Tryz.prog 131 #[.func (.yield l) #[] #[],ptr B] W fun e W' => (∃ v,e=.returned v)∧(J [] W'∨Jx W'):=by
 unfold ptr
 refine (callsIn_wide (n:=3)).1 ?_
 refine callsIn_of_wp Tryz.func131 rfl trivial ?_ rfl
 simp only [Tryz.ntmps131,List.size_toArray,List.length_cons,List.length_nil,Nat.reduceAdd,Nat.reduceSub,Array.replicate_succ,Array.replicate_zero,List.push_toArray,List.append_toArray,List.nil_append,List.cons_append]
 gi_wp2
 gi_loopw [3] (fun _ wr => ∃ n,∃ r:Ch,r.length=n∧J r wr) (fun _ wr => leastOf fun n => ∃ r:Ch,r.length=n∧J r wr)
 case atStart => exact ⟨_,c,rfl,h0⟩
 case round =>
  obtain ⟨⟨r,hr,hJr⟩,_⟩:=leastOf_spec hrel
  have HR:=Lib.hid hr
  clear hr hrel
  have hc:=hJ _ _ hJr
  cases r with
  | nil =>
   simp only [hd] at hc
   gi_wp2
   go_end0
   exact ⟨⟨_,rfl⟩,.inl hJr⟩
  | cons x r =>
   simp only [hd,ptr] at hc
   obtain ⟨hn,fn,tmps,assign,body,hy,hR⟩:=hY x r wr hJr
   unfold ptr at hy
   obtain ⟨q,hq⟩:∃ q,hd r=.pointer q:=by cases r <;> exact ⟨_,rfl⟩
   rw [hq] at hn
   have HQ:=Lib.hid hq
   clear hq
   gi_wp2
   refine hR.mono ?_
   rintro e W3 (⟨rfl,hJ3⟩ | ⟨rfl,hJx3⟩)
   ·obtain ⟨⟨v,hv⟩,hf,hJ4⟩:=hS r W3 hJ3
    rw [HQ.out] at hJ4
    gi_wp2
    go_roundw
    case rel => exact ⟨_,r,rfl,hJ4⟩
    case measure =>
     rw [← HR.out]
     exact Nat.lt_of_le_of_lt ((leastOf_spec ⟨_,r,rfl,hJ4⟩).2 _ ⟨r,rfl,hJ4⟩) (Nat.lt_succ_self _)
   ·gi_wp2
    refine bodyPost_ret (results_none rfl _ _ _) rfl ?_
    exact ⟨⟨_,rfl⟩,.inr hJx3⟩
end Go.Proofs.YtehpmbmdadkhbaaGreatDoor.Dspaceitem

namespace Go.Proofs.YtehpmbmdadkhbaaGreatDoor.Dspaceitem
open Go.RowKit Pal
def Tb.Sized (t:Tb):Prop:=∃ k,2≤k∧k≤16∧t.len=2 ^ k
theorem Tb.Sized.pos {t:Tb} (h:t.Sized):4≤t.len∧t.len≤65536:=by
 obtain ⟨k,h2,h16,e⟩:=h
 have h3:(2:Nat) ^ 2≤2 ^ k:=pow_mono h2
 have h4:(2:Nat) ^ k≤2 ^ 16:=pow_mono h16
 omega
theorem Tb.Sized.set {t:Tb} (h:t.Sized) (i:Nat) (c:Ch):(t.set i c).Sized:=by
 obtain ⟨k,h2,h16,e⟩:=h
 exact ⟨k,h2,h16,by rw [Tb.set_len];exact e⟩
def push (t:Tb) (x:Nd):Tb:=t.set (x.sum % t.len) (x :: t.at (x.sum % t.len))
theorem push_len (t:Tb) (x:Nd):(push t x).len=t.len:=Tb.set_len _ _ _
theorem push_blk (t:Tb) (x:Nd):(push t x).blk=t.blk:=rfl
theorem push_sized {t:Tb} (h:t.Sized) (x:Nd):(push t x).Sized:=h.set _ _
theorem fold_len:∀ (c:Ch) (t:Tb),(c.foldl push t).len=t.len
 | [],_ => rfl
 | x :: c,t => (fold_len c (push t x)).trans (push_len t x)
theorem fold_blk:∀ (c:Ch) (t:Tb),(c.foldl push t).blk=t.blk
 | [],_ => rfl
 | x :: c,t => (fold_blk c (push t x)).trans (push_blk t x)
theorem fold_sized:∀ (c:Ch) {t:Tb},t.Sized→(c.foldl push t).Sized
 | [],_,h => h
 | x :: c,_,h => fold_sized c (push_sized h x)
theorem flatten_set_perm {α:Type}:∀ (l:List (List α)) (i:Nat) (c:List α),i<l.length→((l.set i c).flatten++l.getD i []).Perm (l.flatten++c)
 | [],_,_,h => by cases h
 | a :: l,0,c,_ => by
  simp only [List.set_cons_zero,List.flatten_cons,List.getD_cons_zero,List.append_assoc]
  exact (List.perm_append_comm).trans ((List.perm_append_comm.append_right c).trans (by rw [List.append_assoc]))
 | a :: l,i+1,c,h => by
  simp only [List.set_cons_succ,List.flatten_cons,List.getD_cons_succ,List.append_assoc]
  exact List.Perm.append_left a (flatten_set_perm l i c (by simpa using h))
theorem nodes_set_perm (t:Tb) {i:Nat} (h:i<t.len) (c:Ch):((t.set i c).nodes++t.at i).Perm (t.nodes++c):=flatten_set_perm t.slots i c h
theorem nodes_push_perm {t:Tb} (h:0<t.len) (x:Nd):(push t x).nodes.Perm (x :: t.nodes):=by
 have:=nodes_set_perm t (Nat.mod_lt x.sum h) (x :: t.at (x.sum % t.len))
 have h2:(t.nodes++x :: t.at (x.sum % t.len)).Perm ((x :: t.nodes)++t.at (x.sum % t.len)):=by
  exact List.perm_middle (a:=x) (l₁:=t.nodes) (l₂:=t.at (x.sum % t.len))
 exact (List.perm_append_right_iff _).1 (this.trans h2)
theorem fold_push_perm:∀ (c:Ch) {t:Tb},0<t.len→(c.foldl push t).nodes.Perm (c++t.nodes)
 | [],_,_ => List.Perm.refl _
 | x :: c,t,h => by
  have h1:=fold_push_perm c (t:=push t x) (by rw [push_len];exact h)
  have h2:=List.Perm.append_left c (nodes_push_perm h x)
  exact (h1.trans h2).trans (List.perm_middle (a:=x) (l₁:=c) (l₂:=t.nodes))
def moveSlot (d:Dm):Dm :=
 match d.t1 with
 | none => d
 | some t =>
  if d.at_+1=d.t0.len then { d with t0:=(d.t0.at d.at_).foldl push t,t1:=none,at_:=0 }
  else { d with t0:=d.t0.set d.at_ [],t1:=some ((d.t0.at d.at_).foldl push t),at_:=d.at_+1 }
def moveN (d:Dm):Nat→Dm
 | 0 => d
 | k+1 => moveSlot (moveN d k)
def stepK (d:Dm) (n:Int):Nat:=if d.t1.isSome then min n.toNat (d.t0.len - d.at_) else 0
def stepD (d:Dm) (n:Int):Dm:=moveN d (stepK d n)
structure Dm.Ok (d:Dm):Prop where
 seed:d.seed<4294967296
 s0:d.t0.Sized
 s1:∀ t,d.t1=some t→t.Sized
 in0:∀ i x,i<d.t0.len→x∈d.t0.at i→x.sum % d.t0.len=i
 in1:∀ t,d.t1=some t→∀ i x,i<t.len→x∈t.at i→x.sum % t.len=i
 sums:∀ x∈d.nodes,x.sum=sumN d.seed x.key.data.toList
 keys:(d.nodes.map (·.key)).Nodup
 vok:∀ x∈d.nodes,VOk x.v
 count:d.n=d.nodes.length
 atlt:∀ t,d.t1=some t→d.at_<d.t0.len
 at0:d.t1=none→d.at_=0
 moved:∀ i,i<d.at_→d.t0.at i=[]
theorem Dm.Ok.sum_lt {d:Dm} (h:d.Ok) {x:Nd} (hx:x∈d.nodes):x.sum<4294967296:=by rw [h.sums x hx];exact sumN_lt _ _
theorem in_push {t:Tb} (h0:0<t.len) (h:∀ i x,i<t.len→x∈t.at i→x.sum % t.len=i) (x:Nd):∀ i y,i<(push t x).len→y∈(push t x).at i→y.sum % (push t x).len=i:=by
 intro i y hi hy
 rw [push_len] at hi ⊢
 unfold push at hy
 rw [Tb.set_at (Nat.mod_lt _ h0)] at hy
 split at hy
 ·rename_i e
  rcases List.mem_cons.1 hy with rfl | hy
  ·exact e
  ·rw [← e];exact h _ _ (Nat.mod_lt _ h0) hy
 ·exact h i y hi hy
theorem in_fold:∀ (c:Ch) {t:Tb},0<t.len→(∀ i x,i<t.len→x∈t.at i→x.sum % t.len=i)→∀ i y,i<(c.foldl push t).len→y∈(c.foldl push t).at i→y.sum % (c.foldl push t).len=i
 | [],_,_,h => h
 | x :: c,t,h0,h => in_fold c (t:=push t x) (by rw [push_len];exact h0) (in_push h0 h x)
theorem moveSlot_perm {d:Dm} (h:d.Ok):(moveSlot d).nodes.Perm d.nodes:=by
 unfold moveSlot
 split
 ·exact List.Perm.refl _
 ·rename_i t ht
  have hlt:=h.atlt t ht
  have hp:=fold_push_perm (d.t0.at d.at_) (t:=t) (by have:=(h.s1 t ht).pos;omega)
  have hs:=nodes_set_perm d.t0 hlt []
  rw [List.append_nil] at hs
  split
  ·rename_i hl
   have e:(d.t0.set d.at_ []).nodes=[]:=by
    rw [List.eq_nil_iff_forall_not_mem]
    intro x hx
    obtain ⟨i,hi,hxi⟩:=mem_nodes.1 hx
    rw [Tb.set_len] at hi
    rw [Tb.set_at hlt] at hxi
    split at hxi
    ·cases hxi
    ·rw [h.moved i (by omega)] at hxi;cases hxi
   rw [e,List.nil_append] at hs
   have e2:(({ d with t0:=(d.t0.at d.at_).foldl push t,t1:=none,at_:=0 }:Dm)).nodes=((d.t0.at d.at_).foldl push t).nodes:=by
    unfold Dm.nodes Dm.nodes1;simp
   rw [e2]
   refine hp.trans ?_
   unfold Dm.nodes Dm.nodes1
   rw [ht]
   exact hs.append_right _
  ·have e2:(({ d with t0:=d.t0.set d.at_ [],t1:=some ((d.t0.at d.at_).foldl push t),at_:=d.at_+1 }:Dm)).nodes=(d.t0.set d.at_ []).nodes++((d.t0.at d.at_).foldl push t).nodes:=rfl
   rw [e2]
   refine (List.Perm.append_left _ hp).trans ?_
   rw [← List.append_assoc]
   unfold Dm.nodes Dm.nodes1
   rw [ht]
   exact hs.append_right _
theorem moveSlot_ok {d:Dm} (h:d.Ok):(moveSlot d).Ok:=by
 have hp:=moveSlot_perm h
 have hseed:(moveSlot d).seed=d.seed:=by
   unfold moveSlot;split <;> try rfl
   split <;> rfl
 have hn:(moveSlot d).n=d.n:=by
   unfold moveSlot;split <;> try rfl
   split <;> rfl
 have hsums:∀ x∈(moveSlot d).nodes,x.sum=sumN (moveSlot d).seed x.key.data.toList:=fun x hx => by rw [hseed];exact h.sums x (hp.mem_iff.1 hx)
 have hkeys:((moveSlot d).nodes.map (·.key)).Nodup:=(hp.map _).nodup_iff.2 h.keys
 have hvok:∀ x∈(moveSlot d).nodes,VOk x.v:=fun x hx => h.vok x (hp.mem_iff.1 hx)
 have hcount:(moveSlot d).n=(moveSlot d).nodes.length:=by rw [hn,hp.length_eq];exact h.count
 cases ht:d.t1 with
 | none =>
  have:moveSlot d=d:=by unfold moveSlot;rw [ht]
  rw [this];exact h
 | some t =>
  have hlt:=h.atlt t ht
  have hpos:0<t.len:=by have:=(h.s1 t ht).pos;omega
  have hfs:=fold_sized (d.t0.at d.at_) (h.s1 t ht)
  have hfi:=in_fold (d.t0.at d.at_) hpos (h.in1 t ht)
  by_cases hl:d.at_+1=d.t0.len
  ·have e:moveSlot d={ d with t0:=(d.t0.at d.at_).foldl push t,t1:=none,at_:=0 }:=by unfold moveSlot;rw [ht];simp [hl]
   rw [e] at hsums hkeys hcount hvok ⊢
   exact { seed:=h.seed,s0:=hfs,s1:=fun _ h => (by cases h),in0:=hfi,in1:=fun _ h => (by cases h),sums:=hsums,keys:=hkeys,vok:=hvok,count:=hcount,atlt:=fun _ h => (by cases h),at0:=fun _ => rfl,moved:=fun i hi => (by cases hi) }
  ·have e:moveSlot d={ d with t0:=d.t0.set d.at_ [],t1:=some ((d.t0.at d.at_).foldl push t),at_:=d.at_+1 }:=by unfold moveSlot;rw [ht];simp [hl]
   rw [e] at hsums hkeys hcount hvok ⊢
   refine { seed:=h.seed,s0:=h.s0.set _ _,s1:=?_,in0:=?_,in1:=?_,sums:=hsums,keys:=hkeys,vok:=hvok,count:=hcount,atlt:=?_,at0:=fun h => (by cases h),moved:=?_ }
   ·intro t' ht';injection ht' with ht';subst ht';exact hfs
   ·intro i x hi hx
    show x.sum % (d.t0.set d.at_ []).len=i
    rw [Tb.set_len]
    have hi':i<d.t0.len:=by have:=Tb.set_len d.t0 d.at_ [];simp only [] at hi;omega
    have hx':x∈(d.t0.set d.at_ []).at i:=hx
    rw [Tb.set_at hlt] at hx'
    split at hx'
    ·cases hx'
    ·exact h.in0 i x hi' hx'
   ·intro t' ht';injection ht' with ht';subst ht';exact hfi
   ·intro t' _
    show d.at_+1<(d.t0.set d.at_ []).len
    rw [Tb.set_len];omega
   ·intro i hi
    show (d.t0.set d.at_ []).at i=[]
    have hi:i<d.at_+1:=hi
    rw [Tb.set_at hlt]
    split
    ·rfl
    ·exact h.moved i (by omega)
theorem moveN_ok {d:Dm} (h:d.Ok):∀ k,(moveN d k).Ok
 | 0 => h
 | k+1 => moveSlot_ok (moveN_ok h k)
theorem moveN_perm {d:Dm} (h:d.Ok):∀ k,(moveN d k).nodes.Perm d.nodes
 | 0 => List.Perm.refl _
 | k+1 => (moveSlot_perm (moveN_ok h k)).trans (moveN_perm h k)
theorem moveSlot_blk (d:Dm):(moveSlot d).blk=d.blk∧(moveSlot d).seed=d.seed∧(moveSlot d).n=d.n:=by
 unfold moveSlot;split
 ·exact ⟨rfl,rfl,rfl⟩
 ·split <;> exact ⟨rfl,rfl,rfl⟩
theorem moveN_blk (d:Dm):∀ k,(moveN d k).blk=d.blk∧(moveN d k).seed=d.seed∧(moveN d k).n=d.n
 | 0 => ⟨rfl,rfl,rfl⟩
 | k+1 => by
  obtain ⟨h1,h2,h3⟩:=moveSlot_blk (moveN d k)
  obtain ⟨g1,g2,g3⟩:=moveN_blk d k
  exact ⟨h1.trans g1,h2.trans g2,h3.trans g3⟩
theorem moveSlot_foot {d:Dm} (h:d.Ok) {g:Nat} (hg:(moveSlot d).foot g):d.foot g:=by
 have hp:=moveSlot_perm h
 have hb:=(moveSlot_blk d).1
 have hnd:∀ x,x∈(moveSlot d).nodes→x∈d.nodes:=fun x hx => hp.mem_iff.1 hx
 rcases hg with rfl | rfl | ⟨t,ht,rfl⟩ | ⟨x,hx,rfl⟩
 ·exact .inl hb
 ·unfold moveSlot
  split
  ·exact .inr (.inl rfl)
  ·rename_i t ht
   split
   ·exact .inr (.inr (.inl ⟨t,ht,fold_blk _ _⟩))
   ·exact .inr (.inl rfl)
 ·unfold moveSlot at ht
  split at ht
  ·exact .inr (.inr (.inl ⟨t,ht,rfl⟩))
  ·rename_i t' ht'
   split at ht
   ·cases ht
   ·injection ht with ht
    rw [← ht]
    exact .inr (.inr (.inl ⟨t',ht',fold_blk _ _⟩))
 ·exact .inr (.inr (.inr ⟨x,hnd x hx,rfl⟩))
theorem moveN_foot {d:Dm} (h:d.Ok):∀ (k:Nat) {g:Nat},(moveN d k).foot g→d.foot g
 | 0,_,hg => hg
 | k+1,_,hg => moveN_foot h k (moveSlot_foot (moveN_ok h k) hg)
theorem moveN_at {d:Dm} {t:Tb} (h:d.Ok) (ht:d.t1=some t):∀ k,d.at_+k<d.t0.len→((moveN d k).t1.isSome=true∧(moveN d k).at_=d.at_+k∧(moveN d k).t0.len=d.t0.len)
 | 0,_ => ⟨by simp [moveN,ht],rfl,rfl⟩
 | k+1,hk => by
  obtain ⟨h1,h2,h3⟩:=moveN_at h ht k (by omega)
  obtain ⟨t',ht'⟩:=Option.isSome_iff_exists.1 h1
  have hne:¬ (moveN d k).at_+1=(moveN d k).t0.len:=by omega
  have e:moveN d (k+1)={ moveN d k with t0:=(moveN d k).t0.set (moveN d k).at_ [],t1:=some (((moveN d k).t0.at (moveN d k).at_).foldl push t'),at_:=(moveN d k).at_+1 }:=by
   show moveSlot (moveN d k)=_
   unfold moveSlot;rw [ht'];simp [hne]
  rw [e]
  refine ⟨rfl,?_,?_⟩
  ·show (moveN d k).at_+1=d.at_+(k+1);omega
  ·show ((moveN d k).t0.set _ _).len=_;rw [Tb.set_len];exact h3
theorem moveN_all {d:Dm} {t:Tb} (h:d.Ok) (ht:d.t1=some t):(moveN d (d.t0.len - d.at_)).t1=none∧(moveN d (d.t0.len - d.at_)).t0.len=t.len:=by
 have hlt:=h.atlt t ht
 obtain ⟨k,hk⟩:∃ k,d.t0.len - d.at_=k+1:=⟨d.t0.len - d.at_ - 1,by omega⟩
 rw [hk]
 obtain ⟨h1,h2,h3⟩:=moveN_at h ht k (by omega)
 obtain ⟨t',ht'⟩:=Option.isSome_iff_exists.1 h1
 have hl:(moveN d k).at_+1=(moveN d k).t0.len:=by omega
 have e:moveN d (k+1)={ moveN d k with t0:=((moveN d k).t0.at (moveN d k).at_).foldl push t',t1:=none,at_:=0 }:=by
  show moveSlot (moveN d k)=_
  unfold moveSlot;rw [ht'];simp [hl]
 rw [e]
 refine ⟨rfl,?_⟩
 show (List.foldl push t' _).len=t.len
 rw [fold_len]
 have key:∀ j,d.at_+j<d.t0.len→∀ t'',(moveN d j).t1=some t''→t''.len=t.len:=by
  intro j
  induction j with
  | zero => intro _ t'' h'';have h'':d.t1=some t'':=h'';rw [ht] at h'';injection h'' with h'';rw [h'']
  | succ j ih =>
   intro hj t'' h''
   obtain ⟨g1,g2,g3⟩:=moveN_at h ht j (by omega)
   obtain ⟨u,hu⟩:=Option.isSome_iff_exists.1 g1
   have hne:¬ (moveN d j).at_+1=(moveN d j).t0.len:=by omega
   have e:moveN d (j+1)={ moveN d j with t0:=(moveN d j).t0.set (moveN d j).at_ [],t1:=some (((moveN d j).t0.at (moveN d j).at_).foldl push u),at_:=(moveN d j).at_+1 }:=by
    show moveSlot (moveN d j)=_
    unfold moveSlot;rw [hu];simp [hne]
   rw [e] at h''
   injection h'' with h''
   rw [← h'',fold_len]
   exact ih (by omega) u hu
 exact key k (by omega) t' ht'
end Go.Proofs.YtehpmbmdadkhbaaGreatDoor.Dspaceitem

namespace Go.Proofs.YtehpmbmdadkhbaaGreatDoor.Dspaceitem
open Go.RowKit Pal
attribute [local go_sem] Oper.semAt_some
set_option maxHeartbeats 400000 in
theorem put_any (t:Tb) (x:Nd) (nx:Value) (b:Nat) (w:World) (hz:t.Sized) (hs:x.sum<4294967296) (hT:Blk w t.blk 136 (tbCells t)) (hX:Blk w x.blk 138 (ndCells x nx))
  (hB:w.cell? ⟨b,0,none⟩=some (ptr x.blk)) :
  Calls Tryz.prog 104 #[tbVal t,.slice (some ⟨b,0,none⟩) 1 1] w fun e w' => (∃ v,e=.returned v) ∧
   (w.setCell ⟨x.blk,3,none⟩ (hd (t.at (x.sum % t.len)))).setCell ⟨t.blk,x.sum % t.len,none⟩ (ptr x.blk)=w':=by
 have hpos:=hz.pos
 obtain ⟨k,h2,h16,hk⟩:=hz
 have hi:x.sum % t.len<t.len:=Nat.mod_lt _ (by omega)
 have hc:=hT.cell (x.sum % t.len)
 rw [tbCells_get hi] at hc
 have hfT:=hT.frozen (x.sum % t.len)
 have hx0:=hX.cell 0
 have hx3:=hX.cell 3
 have hfX:=hX.frozen 3
 simp only [ndCells,List.getElem?_toArray,List.getElem?_cons_zero,List.getElem?_cons_succ] at hx0 hx3
 have hne:x.blk≠t.blk:=hX.ne_type hT (by decide)
 obtain ⟨q,hq⟩:∃ q,hd (t.at (x.sum % t.len))=.pointer q:=by cases t.at (x.sum % t.len) <;> exact ⟨_,rfl⟩
 rw [hq] at hc ⊢
 have HK:=Lib.hid hk
 have hlt:t.len≤9223372036854775807:=by omega
 have hne':(t.blk=x.blk)=False:=by simp only [eq_iff_iff,iff_false];exact fun h => hne h.symm
 obtain ⟨i,HI⟩:∃ i,Hid (x.sum % t.len=i):=⟨_,rfl⟩
 have hsl:∀ w,Calls Tryz.prog 106 #[tbVal t,.int .u32 (x.sum:Int)] w fun e w' => e=.returned (.int .i64 (i:Int))∧w=w':=fun w => by
  rw [← HI.out];exact slot_any t x.sum k w hs HK.out h16
 rw [HI.out] at hc hfT hi ⊢
 clear hq hk hX hT
 unfold ptr tbVal at *
 go_enter Tryz.func104,Tryz.ntmps104
 go_wp2
 refine wp_loop_rounds 2 ?_
 rw [rounds_succ]
 go_wp2_with (go_at_call 106;refine (hsl _).mono ?_;rintro e w' ⟨rfl,rfl⟩)
 rw [rounds_succ]
 go_wp2
 go_end0
 exact ⟨⟨_,rfl⟩,rfl⟩
end Go.Proofs.YtehpmbmdadkhbaaGreatDoor.Dspaceitem

namespace Go.Proofs.YtehpmbmdadkhbaaGreatDoor.Dspaceitem
open Go.RowKit Pal
structure Dis (e:Dm) (t:Tb) (c:Ch):Prop where
 d0:∀ x∈c,∀ y∈(e.t0.set e.at_ []).nodes,y.blk≠x.blk
 d1:∀ x∈c,∀ y∈t.nodes,y.blk≠x.blk
 nod:(c.map (·.blk)).Nodup
theorem DmAt.dis {w:World} {e:Dm} (h:DmAt w e) (hok:e.Ok) {t:Tb} (ht:e.t1=some t):Dis e t (e.t0.at e.at_):=by
 have hlt:=hok.atlt t ht
 have hp:=nodes_set_perm e.t0 hlt []
 rw [List.append_nil] at hp
 have hn:=h.nodup
 unfold Dm.nodes Dm.nodes1 at hn
 rw [ht] at hn
 have hn2:(((e.t0.set e.at_ []).nodes++e.t0.at e.at_++t.nodes).map (·.blk)).Nodup:=((hp.append_right t.nodes).map _).nodup_iff.2 hn
 rw [List.map_append,List.map_append,List.nodup_append] at hn2
 obtain ⟨h12,h3,hd⟩:=hn2
 rw [List.nodup_append] at h12
 obtain ⟨h1,h2,hd2⟩:=h12
 refine ⟨fun x hx y hy => ?_,fun x hx y hy => ?_,h2⟩
 ·exact hd2 _ (List.mem_map.2 ⟨y,hy,rfl⟩) _ (List.mem_map.2 ⟨x,hx,rfl⟩)
 ·exact fun e' => hd _ (List.mem_append.2 (.inr (List.mem_map.2 ⟨x,hx,rfl⟩))) _ (List.mem_map.2 ⟨y,hy,rfl⟩) e'.symm
structure Mid (e:Dm) (t':Tb) (W:World):Prop where
 hd:Blk W e.blk 125 (dmCells e)
 tb0:Blk W e.t0.blk 136 (tbCells e.t0)
 oth:∀ i,i<e.t0.len→i≠e.at_→chAt W (e.t0.at i)
 t1:tbAt W t'
 ne:e.t0.blk≠t'.blk
theorem DmAt.mid {w:World} {e:Dm} (h:DmAt w e) {t:Tb} (ht:e.t1=some t):Mid e t w :=
 ⟨h.hd,h.a0.1,fun _ hi _ => h.a0.2 _ (Tb.at_mem hi),h.a1 t ht,h.ne t ht⟩
theorem Mid.keep {e:Dm} {t':Tb} {w w':World} (h:Mid e t' w) (k:KeepC w w'):Mid e t' w' :=
 ⟨h.hd.keep k,h.tb0.keep k,fun i hi hne => (h.oth i hi hne).keep k,h.t1.keep k,h.ne⟩
theorem mem_set_nodes {t:Tb} {i:Nat} (hi:i<t.len) {j:Nat} (hj:j<t.len) (hne:j≠i) {x:Nd} (hx:x∈t.at j):x∈(t.set i []).nodes :=
 mem_nodes.2 ⟨j,by rw [Tb.set_len];exact hj,by rw [Tb.set_at hi,if_neg (fun h => hne h.symm)];exact hx⟩
theorem mid_put {e:Dm} {t t':Tb} {W:World} {x:Nd} {r:Ch} (h:Mid e t' W) (hlt:e.at_<e.t0.len) (hpos:0<t'.len) (hx:Blk W x.blk 138 (ndCells x (hd r))) (hr:chAt W r)
  (hd0:∀ y∈(e.t0.set e.at_ []).nodes,y.blk≠x.blk) (hd1:∀ y∈t'.nodes,y.blk≠x.blk) (hdr:∀ y∈r,y.blk≠x.blk) :
  ∀ W',(W.setCell ⟨x.blk,3,none⟩ (hd (t'.at (x.sum % t'.len)))).setCell ⟨t'.blk,x.sum % t'.len,none⟩ (ptr x.blk)=W' →
   Mid e (push t' x) W'∧chAt W' r∧Chg (fun g => g=x.blk∨g=t'.blk) W W':=by
 rintro W' rfl
 have hi:x.sum % t'.len<t'.len:=Nat.mod_lt _ hpos
 have hC:Chg (fun g => g=x.blk∨g=t'.blk) W ((W.setCell ⟨x.blk,3,none⟩ (hd (t'.at (x.sum % t'.len)))).setCell ⟨t'.blk,x.sum % t'.len,none⟩ (ptr x.blk)) :=
  ((Chg.refl _ W).store (.inl rfl) 3 _).store (.inr rfl) _ _
 have hxt:x.blk≠t'.blk:=hx.ne_type h.t1.1 (by decide)
 have hnt:∀ y∈t'.nodes,y.blk≠t'.blk:=fun y hy => by obtain ⟨nx,hb⟩:=h.t1.node hy;exact hb.ne_type h.t1.1 (by decide)
 have hsl:∀ y∈t'.at (x.sum % t'.len),y∈t'.nodes:=fun y hy => mem_nodes.2 ⟨_,hi,hy⟩
 have hch:∀ c:Ch,chAt W c→(∀ y∈c,y.blk≠x.blk)→chAt ((W.setCell ⟨x.blk,3,none⟩ (hd (t'.at (x.sum % t'.len)))).setCell ⟨t'.blk,x.sum % t'.len,none⟩ (ptr x.blk)) c:=fun c hc hne => by
  refine hc.chg hC fun y hy hS => ?_
  rcases hS with hS | hS
  ·exact hne y hy hS
  ·-- a node's block is no table's
   obtain ⟨pre,post,rfl⟩:=List.append_of_mem hy
   exact (hc.node rfl).ne_type h.t1.1 (by decide) hS
 refine ⟨⟨?_,?_,?_,⟨?_,?_⟩,h.ne⟩,hch r hr hdr,hC⟩
 ·exact h.hd.chg hC (by rintro (e' | e');exact hx.ne_type h.hd (by decide) e'.symm;exact h.t1.1.ne_type h.hd (by decide) e'.symm)
 ·exact h.tb0.chg hC (by rintro (e' | e');exact hx.ne_type h.tb0 (by decide) e'.symm;exact h.ne e')
 ·exact fun i hi' hne => hch _ (h.oth i hi' hne) fun y hy => hd0 y (mem_set_nodes hlt hi' hne hy)
 ·have hb:=(h.t1.1.far (p:=⟨x.blk,3,none⟩) (fun e' => hxt e'.symm) (hd (t'.at (x.sum % t'.len)))).set (x.sum % t'.len) (ptr x.blk)
  have e1:tbCells (push t' x)=(tbCells t').setIfInBounds (x.sum % t'.len) (ptr x.blk):=tbCells_set _ _ _
  rw [e1];exact hb
 ·intro c hc
  have hc':c∈t'.slots.set (x.sum % t'.len) (x :: t'.at (x.sum % t'.len)):=hc
  rcases List.mem_or_eq_of_mem_set hc' with hc | rfl
  ·exact hch c (h.t1.2 c hc) fun y hy => hd1 y (List.mem_flatten.2 ⟨c,hc,hy⟩)
  ·refine ⟨?_,hch _ (h.t1.2 _ (Tb.at_mem hi)) fun y hy => hd1 y (hsl y hy)⟩
   have hb:=(hx.set 3 (hd (t'.at (x.sum % t'.len)))).far (p:=⟨t'.blk,x.sum % t'.len,none⟩) hxt (ptr x.blk)
   have e1:(ndCells x (hd r)).setIfInBounds 3 (hd (t'.at (x.sum % t'.len)))=ndCells x (hd (t'.at (x.sum % t'.len))):=rfl
   rw [e1] at hb
   exact hb
theorem mid_next {e:Dm} {t t':Tb} {W W':World} (h:Mid e t' W) (hok:e.Ok) (ht:e.t1=some t) (ht':t'=(e.t0.at e.at_).foldl push t) (hnl:e.at_+1≠e.t0.len) (hnd:(e.nodes.map (·.blk)).Nodup)
  (hc:Chg (fun g => g=e.blk∨g=e.t0.blk) W W') (h1:Blk W' e.blk 125 ((dmCells e).setIfInBounds 3 (.int .i64 ((e.at_+1:Nat):Int)))) (h2:Blk W' e.t0.blk 136 ((tbCells e.t0).setIfInBounds e.at_ (.pointer none))) :
  DmAt W' (moveSlot e):=by
 have hlt:=hok.atlt t ht
 have hp:=moveSlot_perm hok
 have em:moveSlot e={ e with t0:=e.t0.set e.at_ [],t1:=some t',at_:=e.at_+1 }:=by unfold moveSlot;rw [ht,ht'];simp [hnl]
 have hnn:(((moveSlot e).nodes).map (·.blk)).Nodup:=(hp.map _).nodup_iff.2 hnd
 have hch:∀ c:Ch,chAt W c→chAt W' c:=fun c hcc => hcc.chg hc fun y hy hS => by
  obtain ⟨pre,post,rfl⟩:=List.append_of_mem hy
  have hb:=hcc.node rfl
  rcases hS with hS | hS
  ·exact hb.ne_type h.hd (by decide) hS
  ·exact hb.ne_type h.tb0 (by decide) hS
 have hvt:tbVal t'=tbVal t:=by unfold tbVal;rw [ht',fold_len,fold_blk]
 rw [em] at hnn ⊢
 refine { hd:=?_,a0:=⟨?_,?_⟩,a1:=?_,ne:=?_,nodup:=hnn }
 ·have e1:(dmCells e).setIfInBounds 3 (.int .i64 ((e.at_+1:Nat):Int))=dmCells { e with t0:=e.t0.set e.at_ [],t1:=some t',at_:=e.at_+1 }:=by
   simp [dmCells,t1Val,ht,hvt]
   unfold tbVal Tb.set Tb.len;simp
  rw [← e1];exact h1
 ·show Blk W' e.t0.blk _ _
  rw [tbCells_set];exact h2
 ·intro c hcm
  have hcm':c∈e.t0.slots.set e.at_ []:=hcm
  obtain ⟨i,hi,rfl⟩:=List.mem_iff_getElem.1 hcm'
  rw [List.getElem_set]
  split
  ·trivial
  ·rename_i hne
   have hi':i<e.t0.len:=by simpa [Tb.len] using hi
   have:=h.oth i hi' (fun e' => hne e'.symm)
   have e2:=Tb.at_lt hi'
   rw [List.getElem?_eq_getElem hi'] at e2
   injection e2 with e2
   have h3:=hch _ this
   rw [← e2] at h3
   exact h3
 ·intro u hu
  injection hu with hu
  subst hu
  refine ⟨h.t1.1.chg hc ?_,fun c hcm => hch c (h.t1.2 c hcm)⟩
  rintro (e' | e')
  ·exact h.t1.1.ne_type h.hd (by decide) e'
  ·exact h.ne e'.symm
 ·intro u hu
  injection hu with hu
  subst hu
  exact h.ne
theorem mid_last {e:Dm} {t t':Tb} {W W':World} (h:Mid e t' W) (hok:e.Ok) (ht:e.t1=some t) (ht':t'=(e.t0.at e.at_).foldl push t) (hl:e.at_+1=e.t0.len) (hnd:(e.nodes.map (·.blk)).Nodup)
  (hc:Chg (fun g => g=e.blk∨g=e.t0.blk) W W') (h1:Blk W' e.blk 125 #[.int .u32 (e.seed:Int),tbVal t,.slice none 0 0,.int .i64 0,.int .i64 (e.n:Int)]) :
  DmAt W' (moveSlot e):=by
 have hp:=moveSlot_perm hok
 have em:moveSlot e={ e with t0:=t',t1:=none,at_:=0 }:=by unfold moveSlot;rw [ht,ht'];simp [hl]
 have hnn:(((moveSlot e).nodes).map (·.blk)).Nodup:=(hp.map _).nodup_iff.2 hnd
 have hch:∀ c:Ch,chAt W c→chAt W' c:=fun c hcc => hcc.chg hc fun y hy hS => by
  obtain ⟨pre,post,rfl⟩:=List.append_of_mem hy
  have hb:=hcc.node rfl
  rcases hS with hS | hS
  ·exact hb.ne_type h.hd (by decide) hS
  ·exact hb.ne_type h.tb0 (by decide) hS
 have hvt:tbVal t'=tbVal t:=by unfold tbVal;rw [ht',fold_len,fold_blk]
 rw [em] at hnn ⊢
 refine { hd:=?_,a0:=⟨?_,fun c hcm => hch c (h.t1.2 c hcm)⟩,a1:=fun u hu => (by cases hu),ne:=fun u hu => (by cases hu),nodup:=hnn }
 ·unfold dmCells t1Val;dsimp only;rw [hvt];exact h1
 ·refine h.t1.1.chg hc ?_
  rintro (e' | e')
  ·exact h.t1.1.ne_type h.hd (by decide) e'
  ·exact h.ne e'.symm
end Go.Proofs.YtehpmbmdadkhbaaGreatDoor.Dspaceitem
