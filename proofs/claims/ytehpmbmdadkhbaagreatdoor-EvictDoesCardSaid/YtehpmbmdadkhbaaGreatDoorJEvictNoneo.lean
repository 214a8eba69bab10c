/- Texts joined for EvictNone: RZA, RZB, RZC, RSM, RSA, EVS. -/
import Derived.Test.YtehpmbmdadkhbaaGreatDoorJEvictNonec
import Derived.Test.YtehpmbmdadkhbaaGreatDoorJEvictNoneh
import Derived.Test.YtehpmbmdadkhbaaGreatDoorJEvictNonen
import Derived.Deep.RegionHeld3
import Derived.Deep.LoopGhost
set_option linter.unusedVariables false
set_option linter.unusedSimpArgs false

namespace Go.Proofs.YtehpmbmdadkhbaaGreatDoor
open Go.RowKit Pal
attribute [local go_sem] Oper.semAt_some
section
variable {w0 W W' W1:World} {rb:Nat} {es l1:List En} {is:Bool} {E M:Nat} {v v1:Value}
set_option maxRecDepth 100000 in
set_option maxHeartbeats 8000000 in
theorem rf_add_none (h:Rf w0 W rb es is E M v) (m:ByteArray) (s lv:Int) (hs:-9223372036854775808≤s∧s≤9223372036854775807) (he:addNo es m lv=none) (hl:lookE es m=none) (es1:List En) (he1:putE es m s=es1):Calls Tryz.prog 58 #[pt rb,.string m,.int .i64 s,.int .i64 lv] W (RPost w0 rb es1 (is || decide (E<es1.length∨M<m.size)) E M (.tuple #[.bool true,.int .i64 0]) W):=by
 obtain ⟨a1,a2,a3,a4⟩:=addNo_none he
 have h2':¬ (64:Int)<(m.size:Int):=by omega
 have h3:¬ lv<1:=by omega
 have h3':¬ 32<lv:=by omega
 have hz:=h.ok
 have hn4:=hz.n
 have hz1:Zok es1:=he1 ▸ putE_ok hz ⟨a1,hs⟩ fun h6 => by have:=a4 h6;omega
 have hn5:=hz1.n
 have n5:(es1.length:Int)≤400:=by omega
 obtain ⟨c0,_,_,_,l0,f0,_⟩:=h.cells
 have hfi:=fun W' (hc:Chg (fun _ => False) W W') => findR_any v es m W' ((h.chg0 hc).own.r) (by omega)
 have hd0:=dropM_none hl
 have a5:=a4 hl
 rw [findI_no hl] at hfi
 have hlen:¬ (400:Int)≤(es.length:Int):=by omega
 have hlen2:(400≤es.length)=False:=eq_false (by omega)
 have hlen3:decide (400≤es.length)=false:=decide_eq_false (by omega)
 have hlen4:decide ((400:Int)≤(es.length:Int))=false:=decide_eq_false hlen
 have hzd:=hz
 have hp:putE es m s=insE es ⟨m,s⟩:=by unfold putE;rw [hd0]
 have hso:=fun W' v' (hr:EntsR W' v' es) => sortedR_any v' es ⟨m,s⟩ W' hr hzd.so (fun x hx => by have:=(hzd.ok x hx).1;omega) (show m.size≤_ by omega) (by omega)
 rw [← hp,he1] at hso
 unfold RgPost En.val at hso
 have HH:=Lib.hid h
 have hvv:=h.val
 obtain ⟨vp,vc,hvv1,_,_⟩:=hvv
 have hv1':=Lib.hid hvv1
 unfold pt
 subst hvv1
 clear he hl he1 hp a1 a2 a3 a4 h hn4 hn5 hz hd0 a5
 by_cases q1:E<es1.length
 ·have k1':(E:Int)<(es1.length:Int):=by omega
  have hcond:=Lib.hid (show E<es1.length∨M<m.size from .inl q1)
  have k1a:decide (E<es1.length)=true:=decide_eq_true q1
  have k1b:decide ((E:Int)<(es1.length:Int))=true:=decide_eq_true k1'
  go_enter Tryz.func58,Tryz.ntmps58
  go_wp2_with (first | (go_at_call 83;refine (hfi _ (Chg.refl _ _)).mono ?_;rintro r9 w1 ⟨rfl,rfl⟩) | (go_at_call 85;refine (hso _ _ HH.out.own.r).mono ?_;rintro r9 w3 ⟨⟨v3,rfl,hv3⟩,hC3⟩;obtain ⟨p3,q3,rfl,g1,g2,_⟩:=hv3.is;obtain ⟨hR4,hc4⟩:=HH.out.store hC3 hv3 hz1;obtain ⟨d0,_,_,_,dl,df,_⟩:=(HH.out.chg0 hC3).cells) | fail)
  refine wp_region_held_drew (S:=fun W' => W'.cell? ⟨rb,0,none⟩=some (.slice p3 es1.length q3)∧W'.cell? ⟨rb,1,none⟩=some (.int .i64 (E:Int))∧W'.cell? ⟨rb,2,none⟩=some (.int .i64 (M:Int))) (by kernel_rfl) ((have:=(hR4.chg0 (Chg.refl _ _).drew).cells;⟨this.1,this.2.1,this.2.2.1⟩)) (fun hHeld => ?_)
  refine wpAnyH_take (i:=0) (oi:=Go.Oper.mk (some 60) _ _ _ _ _) (v:=?_) rfl (by kernel_rfl) (by kernel_rfl) (by kernel_rfl) (fun _ _ _ h => h) (Or.inl ⟨by kernel_rfl,?_⟩) (by assumption) ?_
  rotate_left
  ·intro w hSw
   try dsimp only at hSw
   go_simp
   try with_reducible rfl
  try simp only [Act.put,List.setIfInBounds_toArray,List.set_cons_zero,List.set_cons_succ]
  refine wpAnyH_take (i:=1) (oi:=Go.Oper.mk (some 61) _ _ _ _ _) (v:=?_) rfl (by kernel_rfl) (by kernel_rfl) (by kernel_rfl) (fun _ _ _ h => h) (Or.inl ⟨by kernel_rfl,?_⟩) (by assumption) ?_
  rotate_left
  ·intro w hSw
   try dsimp only at hSw
   go_simp
   try with_reducible rfl
  try simp only [Act.put,List.setIfInBounds_toArray,List.set_cons_zero,List.set_cons_succ]
  refine wpAnyH_take (i:=2) (oi:=Go.Oper.mk (some 62) _ _ _ _ _) (v:=?_) rfl (by kernel_rfl) (by kernel_rfl) (by kernel_rfl) (fun _ _ _ h => h) (Or.inl ⟨by kernel_rfl,?_⟩) (by assumption) ?_
  rotate_left
  ·intro w hSw
   try dsimp only at hSw
   go_simp
   try with_reducible rfl
  try simp only [Act.put,List.setIfInBounds_toArray,List.set_cons_zero,List.set_cons_succ]
  refine wpAnyH_take (i:=3) (oi:=Go.Oper.mk (some 63) _ _ _ _ _) (v:=?_) rfl (by kernel_rfl) (by kernel_rfl) (by kernel_rfl) (fun _ _ _ h => h) (Or.inl ⟨by kernel_rfl,?_⟩) (by assumption) ?_
  rotate_left
  ·intro w hSw
   try dsimp only at hSw
   go_simp
   try with_reducible rfl
  try simp only [Act.put,List.setIfInBounds_toArray,List.set_cons_zero,List.set_cons_succ]
  refine wpAnyH_take (i:=4) (oi:=Go.Oper.mk (some 64) _ _ _ _ _) (v:=?_) rfl (by kernel_rfl) (by kernel_rfl) (by kernel_rfl) (fun _ _ _ h => h) (Or.inl ⟨by kernel_rfl,?_⟩) (by assumption) ?_
  rotate_left
  ·intro w hSw
   try dsimp only at hSw
   go_simp
   try with_reducible rfl
  try simp only [Act.put,List.setIfInBounds_toArray,List.set_cons_zero,List.set_cons_succ]
  refine wpAnyH_take (i:=5) (oi:=Go.Oper.mk (some 65) _ _ _ _ _) (v:=?_) rfl (by kernel_rfl) (by kernel_rfl) (by kernel_rfl) (fun _ _ _ h => h) (Or.inl ⟨by kernel_rfl,?_⟩) (by assumption) ?_
  rotate_left
  ·intro w hSw
   try dsimp only at hSw
   go_simp
   try with_reducible rfl
  try simp only [Act.put,List.setIfInBounds_toArray,List.set_cons_zero,List.set_cons_succ]
  refine wpAnyH_take (i:=6) (oi:=Go.Oper.mk (some 66) _ _ _ _ _) (v:=?_) rfl (by kernel_rfl) (by kernel_rfl) (by kernel_rfl) (fun _ _ _ h => h) (Or.inl ⟨by kernel_rfl,?_⟩) (by assumption) ?_
  rotate_left
  ·intro w hSw
   try dsimp only at hSw
   go_simp
   try with_reducible rfl
  try simp only [Act.put,List.setIfInBounds_toArray,List.set_cons_zero,List.set_cons_succ]
  refine wpAnyH_take (i:=7) (oi:=Go.Oper.mk (some 67) _ _ _ _ _) (v:=?_) rfl (by kernel_rfl) (by kernel_rfl) (by kernel_rfl) (fun _ _ _ h => h) (Or.inl ⟨by kernel_rfl,?_⟩) (by assumption) ?_
  rotate_left
  ·intro w hSw
   try dsimp only at hSw
   go_simp
   try with_reducible rfl
  try simp only [Act.put,List.setIfInBounds_toArray,List.set_cons_zero,List.set_cons_succ]
  refine wpAnyH_take (i:=8) (oi:=Go.Oper.mk (some 68) _ _ _ _ _) (v:=?_) rfl (by kernel_rfl) (by kernel_rfl) (by kernel_rfl) (fun _ _ _ h => h) (Or.inl ⟨by kernel_rfl,?_⟩) (by assumption) ?_
  rotate_left
  ·intro w hSw
   try dsimp only at hSw
   go_simp
   try with_reducible rfl
  try simp only [Act.put,List.setIfInBounds_toArray,List.set_cons_zero,List.set_cons_succ]
  refine wpAnyH_take (i:=9) (oi:=Go.Oper.mk (some 69) _ _ _ _ _) (v:=?_) rfl (by kernel_rfl) (by kernel_rfl) (by kernel_rfl) (fun _ _ _ h => h) (Or.inl ⟨by kernel_rfl,?_⟩) (by assumption) ?_
  rotate_left
  ·intro w hSw
   try dsimp only at hSw
   go_simp
   try with_reducible rfl
  try simp only [Act.put,List.setIfInBounds_toArray,List.set_cons_zero,List.set_cons_succ]
  refine wpAnyH_take (i:=10) (oi:=Go.Oper.mk (some 70) _ _ _ _ _) (v:=?_) rfl (by kernel_rfl) (by kernel_rfl) (by kernel_rfl) (fun _ _ _ h => h) (Or.inl ⟨by kernel_rfl,?_⟩) (by assumption) ?_
  rotate_left
  ·intro w hSw
   try dsimp only at hSw
   go_simp
   try with_reducible rfl
  try simp only [Act.put,List.setIfInBounds_toArray,List.set_cons_zero,List.set_cons_succ]
  refine wpAnyH_take (i:=11) (oi:=Go.Oper.mk (some 71) _ _ _ _ _) (v:=?_) rfl (by kernel_rfl) (by kernel_rfl) (by kernel_rfl) (fun _ _ _ h => h) (Or.inl ⟨by kernel_rfl,?_⟩) (by assumption) ?_
  rotate_left
  ·intro w hSw
   try dsimp only at hSw
   go_simp
   try with_reducible rfl
  try simp only [Act.put,List.setIfInBounds_toArray,List.set_cons_zero,List.set_cons_succ]
  refine wpAnyH_take (i:=12) (oi:=Go.Oper.mk (some 72) _ _ _ _ _) (v:=undef) rfl (by kernel_rfl) (by kernel_rfl) (by kernel_rfl) (fun _ _ _ h => h) (Or.inr ⟨by kernel_rfl,rfl⟩) (by assumption) ?_
  try simp only [Act.put,List.setIfInBounds_toArray,List.set_cons_zero,List.set_cons_succ]
  refine wpAnyH_take (i:=13) (oi:=Go.Oper.mk (some 73) _ _ _ _ _) (v:=undef) rfl (by kernel_rfl) (by kernel_rfl) (by kernel_rfl) (fun _ _ _ h => h) (Or.inr ⟨by kernel_rfl,rfl⟩) (by assumption) ?_
  try simp only [Act.put,List.setIfInBounds_toArray,List.set_cons_zero,List.set_cons_succ]
  refine wpAnyH_take (i:=14) (oi:=Go.Oper.mk (some 74) _ _ _ _ _) (v:=undef) rfl (by kernel_rfl) (by kernel_rfl) (by kernel_rfl) (fun _ _ _ h => h) (Or.inr ⟨by kernel_rfl,rfl⟩) (by assumption) ?_
  try simp only [Act.put,List.setIfInBounds_toArray,List.set_cons_zero,List.set_cons_succ]
  refine wpAnyH_take (i:=15) (oi:=Go.Oper.mk (some 75) _ _ _ _ _) (v:=undef) rfl (by kernel_rfl) (by kernel_rfl) (by kernel_rfl) (fun _ _ _ h => h) (Or.inr ⟨by kernel_rfl,rfl⟩) (by assumption) ?_
  try simp only [Act.put,List.setIfInBounds_toArray,List.set_cons_zero,List.set_cons_succ]
  refine wpAnyH_take (i:=16) (oi:=Go.Oper.mk (some 76) _ _ _ _ _) (v:=undef) rfl (by kernel_rfl) (by kernel_rfl) (by kernel_rfl) (fun _ _ _ h => h) (Or.inr ⟨by kernel_rfl,rfl⟩) (by assumption) ?_
  try simp only [Act.put,List.setIfInBounds_toArray,List.set_cons_zero,List.set_cons_succ]
  refine wpAnyH_take (i:=17) (oi:=Go.Oper.mk (some 77) _ _ _ _ _) (v:=undef) rfl (by kernel_rfl) (by kernel_rfl) (by kernel_rfl) (fun _ _ _ h => h) (Or.inr ⟨by kernel_rfl,rfl⟩) (by assumption) ?_
  try simp only [Act.put,List.setIfInBounds_toArray,List.set_cons_zero,List.set_cons_succ]
  refine wpAnyH_take (i:=18) (oi:=Go.Oper.mk (some 78) _ _ _ _ _) (v:=undef) rfl (by kernel_rfl) (by kernel_rfl) (by kernel_rfl) (fun _ _ _ h => h) (Or.inr ⟨by kernel_rfl,rfl⟩) (by assumption) ?_
  try simp only [Act.put,List.setIfInBounds_toArray,List.set_cons_zero,List.set_cons_succ]
  refine wpAnyH_take (i:=19) (oi:=Go.Oper.mk (some 79) _ _ _ _ _) (v:=undef) rfl (by kernel_rfl) (by kernel_rfl) (by kernel_rfl) (fun _ _ _ h => h) (Or.inr ⟨by kernel_rfl,rfl⟩) (by assumption) ?_
  try simp only [Act.put,List.setIfInBounds_toArray,List.set_cons_zero,List.set_cons_succ]
  refine wpAnyH_take (i:=20) (oi:=Go.Oper.mk (some 80) _ _ _ _ _) (v:=?_) rfl (by kernel_rfl) (by kernel_rfl) (by kernel_rfl) (fun _ _ _ h => h) (Or.inl ⟨by kernel_rfl,?_⟩) (by assumption) ?_
  rotate_left
  ·intro w hSw
   try dsimp only at hSw
   go_simp
   try with_reducible rfl
  try simp only [Act.put,List.setIfInBounds_toArray,List.set_cons_zero,List.set_cons_succ]
  refine wpAnyH_done (by kernel_rfl) ?_ _
  clear hHeld
  have hR5:=hR4.chg0 (Chg.refl _ _).drew
  obtain ⟨_,_,_,e3,el,_,ef⟩:=hR5.cells
  go_wp2_with fail
  go_ret2
  obtain ⟨hR6,hc6⟩:=hR5.flag
  exact ⟨rfl,_,by rw [decide_eq_true hcond.out,Bool.or_true];exact hR6,(hc4.trans (((Chg.refl (fun _ => False) _).drew.mono fun _ _ h => h.elim).trans hc6))⟩
 by_cases q2:M<m.size
 ·have k1':¬ (E:Int)<(es1.length:Int):=by omega
  have k2':(M:Int)<(m.size:Int):=by omega
  have hcond:=Lib.hid (show E<es1.length∨M<m.size from .inr q2)
  have k1a:decide (E<es1.length)=false:=decide_eq_false q1
  have k1b:decide ((E:Int)<(es1.length:Int))=false:=decide_eq_false k1'
  have k2a:decide (M<m.size)=true:=decide_eq_true q2
  have k2b:decide ((M:Int)<(m.size:Int))=true:=decide_eq_true k2'
  go_enter Tryz.func58,Tryz.ntmps58
  go_wp2_with (first | (go_at_call 83;refine (hfi _ (Chg.refl _ _)).mono ?_;rintro r9 w1 ⟨rfl,rfl⟩) | (go_at_call 85;refine (hso _ _ HH.out.own.r).mono ?_;rintro r9 w3 ⟨⟨v3,rfl,hv3⟩,hC3⟩;obtain ⟨p3,q3,rfl,g1,g2,_⟩:=hv3.is;obtain ⟨hR4,hc4⟩:=HH.out.store hC3 hv3 hz1;obtain ⟨d0,_,_,_,dl,df,_⟩:=(HH.out.chg0 hC3).cells) | fail)
  refine wp_region_held_drew (S:=fun W' => W'.cell? ⟨rb,0,none⟩=some (.slice p3 es1.length q3)∧W'.cell? ⟨rb,1,none⟩=some (.int .i64 (E:Int))∧W'.cell? ⟨rb,2,none⟩=some (.int .i64 (M:Int))) (by kernel_rfl) ((have:=(hR4.chg0 (Chg.refl _ _).drew).cells;⟨this.1,this.2.1,this.2.2.1⟩)) (fun hHeld => ?_)
  refine wpAnyH_take (i:=0) (oi:=Go.Oper.mk (some 60) _ _ _ _ _) (v:=?_) rfl (by kernel_rfl) (by kernel_rfl) (by kernel_rfl) (fun _ _ _ h => h) (Or.inl ⟨by kernel_rfl,?_⟩) (by assumption) ?_
  rotate_left
  ·intro w hSw
   try dsimp only at hSw
   go_simp
   try with_reducible rfl
  try simp only [Act.put,List.setIfInBounds_toArray,List.set_cons_zero,List.set_cons_succ]
  refine wpAnyH_take (i:=1) (oi:=Go.Oper.mk (some 61) _ _ _ _ _) (v:=?_) rfl (by kernel_rfl) (by kernel_rfl) (by kernel_rfl) (fun _ _ _ h => h) (Or.inl ⟨by kernel_rfl,?_⟩) (by assumption) ?_
  rotate_left
  ·intro w hSw
   try dsimp only at hSw
   go_simp
   try with_reducible rfl
  try simp only [Act.put,List.setIfInBounds_toArray,List.set_cons_zero,List.set_cons_succ]
  refine wpAnyH_take (i:=2) (oi:=Go.Oper.mk (some 62) _ _ _ _ _) (v:=?_) rfl (by kernel_rfl) (by kernel_rfl) (by kernel_rfl) (fun _ _ _ h => h) (Or.inl ⟨by kernel_rfl,?_⟩) (by assumption) ?_
  rotate_left
  ·intro w hSw
   try dsimp only at hSw
   go_simp
   try with_reducible rfl
  try simp only [Act.put,List.setIfInBounds_toArray,List.set_cons_zero,List.set_cons_succ]
  refine wpAnyH_take (i:=3) (oi:=Go.Oper.mk (some 63) _ _ _ _ _) (v:=?_) rfl (by kernel_rfl) (by kernel_rfl) (by kernel_rfl) (fun _ _ _ h => h) (Or.inl ⟨by kernel_rfl,?_⟩) (by assumption) ?_
  rotate_left
  ·intro w hSw
   try dsimp only at hSw
   go_simp
   try with_reducible rfl
  try simp only [Act.put,List.setIfInBounds_toArray,List.set_cons_zero,List.set_cons_succ]
  refine wpAnyH_take (i:=4) (oi:=Go.Oper.mk (some 64) _ _ _ _ _) (v:=?_) rfl (by kernel_rfl) (by kernel_rfl) (by kernel_rfl) (fun _ _ _ h => h) (Or.inl ⟨by kernel_rfl,?_⟩) (by assumption) ?_
  rotate_left
  ·intro w hSw
   try dsimp only at hSw
   go_simp
   try with_reducible rfl
  try simp only [Act.put,List.setIfInBounds_toArray,List.set_cons_zero,List.set_cons_succ]
  refine wpAnyH_take (i:=5) (oi:=Go.Oper.mk (some 65) _ _ _ _ _) (v:=?_) rfl (by kernel_rfl) (by kernel_rfl) (by kernel_rfl) (fun _ _ _ h => h) (Or.inl ⟨by kernel_rfl,?_⟩) (by assumption) ?_
  rotate_left
  ·intro w hSw
   try dsimp only at hSw
   go_simp
   try with_reducible rfl
  try simp only [Act.put,List.setIfInBounds_toArray,List.set_cons_zero,List.set_cons_succ]
  refine wpAnyH_take (i:=6) (oi:=Go.Oper.mk (some 66) _ _ _ _ _) (v:=?_) rfl (by kernel_rfl) (by kernel_rfl) (by kernel_rfl) (fun _ _ _ h => h) (Or.inl ⟨by kernel_rfl,?_⟩) (by assumption) ?_
  rotate_left
  ·intro w hSw
   try dsimp only at hSw
   go_simp
   try with_reducible rfl
  try simp only [Act.put,List.setIfInBounds_toArray,List.set_cons_zero,List.set_cons_succ]
  refine wpAnyH_take (i:=7) (oi:=Go.Oper.mk (some 67) _ _ _ _ _) (v:=?_) rfl (by kernel_rfl) (by kernel_rfl) (by kernel_rfl) (fun _ _ _ h => h) (Or.inl ⟨by kernel_rfl,?_⟩) (by assumption) ?_
  rotate_left
  ·intro w hSw
   try dsimp only at hSw
   go_simp
   try with_reducible rfl
  try simp only [Act.put,List.setIfInBounds_toArray,List.set_cons_zero,List.set_cons_succ]
  refine wpAnyH_take (i:=8) (oi:=Go.Oper.mk (some 68) _ _ _ _ _) (v:=?_) rfl (by kernel_rfl) (by kernel_rfl) (by kernel_rfl) (fun _ _ _ h => h) (Or.inl ⟨by kernel_rfl,?_⟩) (by assumption) ?_
  rotate_left
  ·intro w hSw
   try dsimp only at hSw
   go_simp
   try with_reducible rfl
  try simp only [Act.put,List.setIfInBounds_toArray,List.set_cons_zero,List.set_cons_succ]
  refine wpAnyH_take (i:=9) (oi:=Go.Oper.mk (some 69) _ _ _ _ _) (v:=?_) rfl (by kernel_rfl) (by kernel_rfl) (by kernel_rfl) (fun _ _ _ h => h) (Or.inl ⟨by kernel_rfl,?_⟩) (by assumption) ?_
  rotate_left
  ·intro w hSw
   try dsimp only at hSw
   go_simp
   try with_reducible rfl
  try simp only [Act.put,List.setIfInBounds_toArray,List.set_cons_zero,List.set_cons_succ]
  refine wpAnyH_take (i:=10) (oi:=Go.Oper.mk (some 70) _ _ _ _ _) (v:=?_) rfl (by kernel_rfl) (by kernel_rfl) (by kernel_rfl) (fun _ _ _ h => h) (Or.inl ⟨by kernel_rfl,?_⟩) (by assumption) ?_
  rotate_left
  ·intro w hSw
   try dsimp only at hSw
   go_simp
   try with_reducible rfl
  try simp only [Act.put,List.setIfInBounds_toArray,List.set_cons_zero,List.set_cons_succ]
  refine wpAnyH_take (i:=11) (oi:=Go.Oper.mk (some 71) _ _ _ _ _) (v:=?_) rfl (by kernel_rfl) (by kernel_rfl) (by kernel_rfl) (fun _ _ _ h => h) (Or.inl ⟨by kernel_rfl,?_⟩) (by assumption) ?_
  rotate_left
  ·intro w hSw
   try dsimp only at hSw
   go_simp
   try with_reducible rfl
  try simp only [Act.put,List.setIfInBounds_toArray,List.set_cons_zero,List.set_cons_succ]
  refine wpAnyH_take (i:=12) (oi:=Go.Oper.mk (some 72) _ _ _ _ _) (v:=?_) rfl (by kernel_rfl) (by kernel_rfl) (by kernel_rfl) (fun _ _ _ h => h) (Or.inl ⟨by kernel_rfl,?_⟩) (by assumption) ?_
  rotate_left
  ·intro w hSw
   try dsimp only at hSw
   go_simp
   try with_reducible rfl
  try simp only [Act.put,List.setIfInBounds_toArray,List.set_cons_zero,List.set_cons_succ]
  refine wpAnyH_take (i:=13) (oi:=Go.Oper.mk (some 73) _ _ _ _ _) (v:=?_) rfl (by kernel_rfl) (by kernel_rfl) (by kernel_rfl) (fun _ _ _ h => h) (Or.inl ⟨by kernel_rfl,?_⟩) (by assumption) ?_
  rotate_left
  ·intro w hSw
   try dsimp only at hSw
   go_simp
   try with_reducible rfl
  try simp only [Act.put,List.setIfInBounds_toArray,List.set_cons_zero,List.set_cons_succ]
  refine wpAnyH_take (i:=14) (oi:=Go.Oper.mk (some 74) _ _ _ _ _) (v:=?_) rfl (by kernel_rfl) (by kernel_rfl) (by kernel_rfl) (fun _ _ _ h => h) (Or.inl ⟨by kernel_rfl,?_⟩) (by assumption) ?_
  rotate_left
  ·intro w hSw
   try dsimp only at hSw
   go_simp
   try with_reducible rfl
  try simp only [Act.put,List.setIfInBounds_toArray,List.set_cons_zero,List.set_cons_succ]
  refine wpAnyH_take (i:=15) (oi:=Go.Oper.mk (some 75) _ _ _ _ _) (v:=?_) rfl (by kernel_rfl) (by kernel_rfl) (by kernel_rfl) (fun _ _ _ h => h) (Or.inl ⟨by kernel_rfl,?_⟩) (by assumption) ?_
  rotate_left
  ·intro w hSw
   try dsimp only at hSw
   go_simp
   try with_reducible rfl
  try simp only [Act.put,List.setIfInBounds_toArray,List.set_cons_zero,List.set_cons_succ]
  refine wpAnyH_take (i:=16) (oi:=Go.Oper.mk (some 76) _ _ _ _ _) (v:=?_) rfl (by kernel_rfl) (by kernel_rfl) (by kernel_rfl) (fun _ _ _ h => h) (Or.inl ⟨by kernel_rfl,?_⟩) (by assumption) ?_
  rotate_left
  ·intro w hSw
   try dsimp only at hSw
   go_simp
   try with_reducible rfl
  try simp only [Act.put,List.setIfInBounds_toArray,List.set_cons_zero,List.set_cons_succ]
  refine wpAnyH_take (i:=17) (oi:=Go.Oper.mk (some 77) _ _ _ _ _) (v:=?_) rfl (by kernel_rfl) (by kernel_rfl) (by kernel_rfl) (fun _ _ _ h => h) (Or.inl ⟨by kernel_rfl,?_⟩) (by assumption) ?_
  rotate_left
  ·intro w hSw
   try dsimp only at hSw
   go_simp
   try with_reducible rfl
  try simp only [Act.put,List.setIfInBounds_toArray,List.set_cons_zero,List.set_cons_succ]
  refine wpAnyH_take (i:=18) (oi:=Go.Oper.mk (some 78) _ _ _ _ _) (v:=?_) rfl (by kernel_rfl) (by kernel_rfl) (by kernel_rfl) (fun _ _ _ h => h) (Or.inl ⟨by kernel_rfl,?_⟩) (by assumption) ?_
  rotate_left
  ·intro w hSw
   try dsimp only at hSw
   go_simp
   try with_reducible rfl
  try simp only [Act.put,List.setIfInBounds_toArray,List.set_cons_zero,List.set_cons_succ]
  refine wpAnyH_take (i:=19) (oi:=Go.Oper.mk (some 79) _ _ _ _ _) (v:=?_) rfl (by kernel_rfl) (by kernel_rfl) (by kernel_rfl) (fun _ _ _ h => h) (Or.inl ⟨by kernel_rfl,?_⟩) (by assumption) ?_
  rotate_left
  ·intro w hSw
   try dsimp only at hSw
   go_simp
   try with_reducible rfl
  try simp only [Act.put,List.setIfInBounds_toArray,List.set_cons_zero,List.set_cons_succ]
  refine wpAnyH_take (i:=20) (oi:=Go.Oper.mk (some 80) _ _ _ _ _) (v:=?_) rfl (by kernel_rfl) (by kernel_rfl) (by kernel_rfl) (fun _ _ _ h => h) (Or.inl ⟨by kernel_rfl,?_⟩) (by assumption) ?_
  rotate_left
  ·intro w hSw
   try dsimp only at hSw
   go_simp
   try with_reducible rfl
  try simp only [Act.put,List.setIfInBounds_toArray,List.set_cons_zero,List.set_cons_succ]
  refine wpAnyH_done (by kernel_rfl) ?_ _
  clear hHeld
  have hR5:=hR4.chg0 (Chg.refl _ _).drew
  obtain ⟨_,_,_,e3,el,_,ef⟩:=hR5.cells
  go_wp2_with fail
  go_ret2
  obtain ⟨hR6,hc6⟩:=hR5.flag
  exact ⟨rfl,_,by rw [decide_eq_true hcond.out,Bool.or_true];exact hR6,(hc4.trans (((Chg.refl (fun _ => False) _).drew.mono fun _ _ h => h.elim).trans hc6))⟩
 ·have k1':¬ (E:Int)<(es1.length:Int):=by omega
  have k2':¬ (M:Int)<(m.size:Int):=by omega
  have hcond:=Lib.hid (show ¬ (E<es1.length∨M<m.size) by omega)
  have k1a:decide (E<es1.length)=false:=decide_eq_false q1
  have k1b:decide ((E:Int)<(es1.length:Int))=false:=decide_eq_false k1'
  have k2a:decide (M<m.size)=false:=decide_eq_false q2
  have k2b:decide ((M:Int)<(m.size:Int))=false:=decide_eq_false k2'
  go_enter Tryz.func58,Tryz.ntmps58
  go_wp2_with (first | (go_at_call 83;refine (hfi _ (Chg.refl _ _)).mono ?_;rintro r9 w1 ⟨rfl,rfl⟩) | (go_at_call 85;refine (hso _ _ HH.out.own.r).mono ?_;rintro r9 w3 ⟨⟨v3,rfl,hv3⟩,hC3⟩;obtain ⟨p3,q3,rfl,g1,g2,_⟩:=hv3.is;obtain ⟨hR4,hc4⟩:=HH.out.store hC3 hv3 hz1;obtain ⟨d0,_,_,_,dl,df,_⟩:=(HH.out.chg0 hC3).cells) | fail)
  refine wp_region_held_drew (S:=fun W' => W'.cell? ⟨rb,0,none⟩=some (.slice p3 es1.length q3)∧W'.cell? ⟨rb,1,none⟩=some (.int .i64 (E:Int))∧W'.cell? ⟨rb,2,none⟩=some (.int .i64 (M:Int))) (by kernel_rfl) ((have:=(hR4.chg0 (Chg.refl _ _).drew).cells;⟨this.1,this.2.1,this.2.2.1⟩)) (fun hHeld => ?_)
  refine wpAnyH_take (i:=0) (oi:=Go.Oper.mk (some 60) _ _ _ _ _) (v:=?_) rfl (by kernel_rfl) (by kernel_rfl) (by kernel_rfl) (fun _ _ _ h => h) (Or.inl ⟨by kernel_rfl,?_⟩) (by assumption) ?_
  rotate_left
  ·intro w hSw
   try dsimp only at hSw
   go_simp
   try with_reducible rfl
  try simp only [Act.put,List.setIfInBounds_toArray,List.set_cons_zero,List.set_cons_succ]
  refine wpAnyH_take (i:=1) (oi:=Go.Oper.mk (some 61) _ _ _ _ _) (v:=?_) rfl (by kernel_rfl) (by kernel_rfl) (by kernel_rfl) (fun _ _ _ h => h) (Or.inl ⟨by kernel_rfl,?_⟩) (by assumption) ?_
  rotate_left
  ·intro w hSw
   try dsimp only at hSw
   go_simp
   try with_reducible rfl
  try simp only [Act.put,List.setIfInBounds_toArray,List.set_cons_zero,List.set_cons_succ]
  refine wpAnyH_take (i:=2) (oi:=Go.Oper.mk (some 62) _ _ _ _ _) (v:=?_) rfl (by kernel_rfl) (by kernel_rfl) (by kernel_rfl) (fun _ _ _ h => h) (Or.inl ⟨by kernel_rfl,?_⟩) (by assumption) ?_
  rotate_left
  ·intro w hSw
   try dsimp only at hSw
   go_simp
   try with_reducible rfl
  try simp only [Act.put,List.setIfInBounds_toArray,List.set_cons_zero,List.set_cons_succ]
  refine wpAnyH_take (i:=3) (oi:=Go.Oper.mk (some 63) _ _ _ _ _) (v:=?_) rfl (by kernel_rfl) (by kernel_rfl) (by kernel_rfl) (fun _ _ _ h => h) (Or.inl ⟨by kernel_rfl,?_⟩) (by assumption) ?_
  rotate_left
  ·intro w hSw
   try dsimp only at hSw
   go_simp
   try with_reducible rfl
  try simp only [Act.put,List.setIfInBounds_toArray,List.set_cons_zero,List.set_cons_succ]
  refine wpAnyH_take (i:=4) (oi:=Go.Oper.mk (some 64) _ _ _ _ _) (v:=?_) rfl (by kernel_rfl) (by kernel_rfl) (by kernel_rfl) (fun _ _ _ h => h) (Or.inl ⟨by kernel_rfl,?_⟩) (by assumption) ?_
  rotate_left
  ·intro w hSw
   try dsimp only at hSw
   go_simp
   try with_reducible rfl
  try simp only [Act.put,List.setIfInBounds_toArray,List.set_cons_zero,List.set_cons_succ]
  refine wpAnyH_take (i:=5) (oi:=Go.Oper.mk (some 65) _ _ _ _ _) (v:=?_) rfl (by kernel_rfl) (by kernel_rfl) (by kernel_rfl) (fun _ _ _ h => h) (Or.inl ⟨by kernel_rfl,?_⟩) (by assumption) ?_
  rotate_left
  ·intro w hSw
   try dsimp only at hSw
   go_simp
   try with_reducible rfl
  try simp only [Act.put,List.setIfInBounds_toArray,List.set_cons_zero,List.set_cons_succ]
  refine wpAnyH_take (i:=6) (oi:=Go.Oper.mk (some 66) _ _ _ _ _) (v:=?_) rfl (by kernel_rfl) (by kernel_rfl) (by kernel_rfl) (fun _ _ _ h => h) (Or.inl ⟨by kernel_rfl,?_⟩) (by assumption) ?_
  rotate_left
  ·intro w hSw
   try dsimp only at hSw
   go_simp
   try with_reducible rfl
  try simp only [Act.put,List.setIfInBounds_toArray,List.set_cons_zero,List.set_cons_succ]
  refine wpAnyH_take (i:=7) (oi:=Go.Oper.mk (some 67) _ _ _ _ _) (v:=?_) rfl (by kernel_rfl) (by kernel_rfl) (by kernel_rfl) (fun _ _ _ h => h) (Or.inl ⟨by kernel_rfl,?_⟩) (by assumption) ?_
  rotate_left
  ·intro w hSw
   try dsimp only at hSw
   go_simp
   try with_reducible rfl
  try simp only [Act.put,List.setIfInBounds_toArray,List.set_cons_zero,List.set_cons_succ]
  refine wpAnyH_take (i:=8) (oi:=Go.Oper.mk (some 68) _ _ _ _ _) (v:=?_) rfl (by kernel_rfl) (by kernel_rfl) (by kernel_rfl) (fun _ _ _ h => h) (Or.inl ⟨by kernel_rfl,?_⟩) (by assumption) ?_
  rotate_left
  ·intro w hSw
   try dsimp only at hSw
   go_simp
   try with_reducible rfl
  try simp only [Act.put,List.setIfInBounds_toArray,List.set_cons_zero,List.set_cons_succ]
  refine wpAnyH_take (i:=9) (oi:=Go.Oper.mk (some 69) _ _ _ _ _) (v:=?_) rfl (by kernel_rfl) (by kernel_rfl) (by kernel_rfl) (fun _ _ _ h => h) (Or.inl ⟨by kernel_rfl,?_⟩) (by assumption) ?_
  rotate_left
  ·intro w hSw
   try dsimp only at hSw
   go_simp
   try with_reducible rfl
  try simp only [Act.put,List.setIfInBounds_toArray,List.set_cons_zero,List.set_cons_succ]
  refine wpAnyH_take (i:=10) (oi:=Go.Oper.mk (some 70) _ _ _ _ _) (v:=?_) rfl (by kernel_rfl) (by kernel_rfl) (by kernel_rfl) (fun _ _ _ h => h) (Or.inl ⟨by kernel_rfl,?_⟩) (by assumption) ?_
  rotate_left
  ·intro w hSw
   try dsimp only at hSw
   go_simp
   try with_reducible rfl
  try simp only [Act.put,List.setIfInBounds_toArray,List.set_cons_zero,List.set_cons_succ]
  refine wpAnyH_take (i:=11) (oi:=Go.Oper.mk (some 71) _ _ _ _ _) (v:=?_) rfl (by kernel_rfl) (by kernel_rfl) (by kernel_rfl) (fun _ _ _ h => h) (Or.inl ⟨by kernel_rfl,?_⟩) (by assumption) ?_
  rotate_left
  ·intro w hSw
   try dsimp only at hSw
   go_simp
   try with_reducible rfl
  try simp only [Act.put,List.setIfInBounds_toArray,List.set_cons_zero,List.set_cons_succ]
  refine wpAnyH_take (i:=12) (oi:=Go.Oper.mk (some 72) _ _ _ _ _) (v:=?_) rfl (by kernel_rfl) (by kernel_rfl) (by kernel_rfl) (fun _ _ _ h => h) (Or.inl ⟨by kernel_rfl,?_⟩) (by assumption) ?_
  rotate_left
  ·intro w hSw
   try dsimp only at hSw
   go_simp
   try with_reducible rfl
  try simp only [Act.put,List.setIfInBounds_toArray,List.set_cons_zero,List.set_cons_succ]
  refine wpAnyH_take (i:=13) (oi:=Go.Oper.mk (some 73) _ _ _ _ _) (v:=?_) rfl (by kernel_rfl) (by kernel_rfl) (by kernel_rfl) (fun _ _ _ h => h) (Or.inl ⟨by kernel_rfl,?_⟩) (by assumption) ?_
  rotate_left
  ·intro w hSw
   try dsimp only at hSw
   go_simp
   try with_reducible rfl
  try simp only [Act.put,List.setIfInBounds_toArray,List.set_cons_zero,List.set_cons_succ]
  refine wpAnyH_take (i:=14) (oi:=Go.Oper.mk (some 74) _ _ _ _ _) (v:=?_) rfl (by kernel_rfl) (by kernel_rfl) (by kernel_rfl) (fun _ _ _ h => h) (Or.inl ⟨by kernel_rfl,?_⟩) (by assumption) ?_
  rotate_left
  ·intro w hSw
   try dsimp only at hSw
   go_simp
   try with_reducible rfl
  try simp only [Act.put,List.setIfInBounds_toArray,List.set_cons_zero,List.set_cons_succ]
  refine wpAnyH_take (i:=15) (oi:=Go.Oper.mk (some 75) _ _ _ _ _) (v:=?_) rfl (by kernel_rfl) (by kernel_rfl) (by kernel_rfl) (fun _ _ _ h => h) (Or.inl ⟨by kernel_rfl,?_⟩) (by assumption) ?_
  rotate_left
  ·intro w hSw
   try dsimp only at hSw
   go_simp
   try with_reducible rfl
  try simp only [Act.put,List.setIfInBounds_toArray,List.set_cons_zero,List.set_cons_succ]
  refine wpAnyH_take (i:=16) (oi:=Go.Oper.mk (some 76) _ _ _ _ _) (v:=?_) rfl (by kernel_rfl) (by kernel_rfl) (by kernel_rfl) (fun _ _ _ h => h) (Or.inl ⟨by kernel_rfl,?_⟩) (by assumption) ?_
  rotate_left
  ·intro w hSw
   try dsimp only at hSw
   go_simp
   try with_reducible rfl
  try simp only [Act.put,List.setIfInBounds_toArray,List.set_cons_zero,List.set_cons_succ]
  refine wpAnyH_take (i:=17) (oi:=Go.Oper.mk (some 77) _ _ _ _ _) (v:=?_) rfl (by kernel_rfl) (by kernel_rfl) (by kernel_rfl) (fun _ _ _ h => h) (Or.inl ⟨by kernel_rfl,?_⟩) (by assumption) ?_
  rotate_left
  ·intro w hSw
   try dsimp only at hSw
   go_simp
   try with_reducible rfl
  try simp only [Act.put,List.setIfInBounds_toArray,List.set_cons_zero,List.set_cons_succ]
  refine wpAnyH_take (i:=18) (oi:=Go.Oper.mk (some 78) _ _ _ _ _) (v:=?_) rfl (by kernel_rfl) (by kernel_rfl) (by kernel_rfl) (fun _ _ _ h => h) (Or.inl ⟨by kernel_rfl,?_⟩) (by assumption) ?_
  rotate_left
  ·intro w hSw
   try dsimp only at hSw
   go_simp
   try with_reducible rfl
  try simp only [Act.put,List.setIfInBounds_toArray,List.set_cons_zero,List.set_cons_succ]
  refine wpAnyH_take (i:=19) (oi:=Go.Oper.mk (some 79) _ _ _ _ _) (v:=?_) rfl (by kernel_rfl) (by kernel_rfl) (by kernel_rfl) (fun _ _ _ h => h) (Or.inl ⟨by kernel_rfl,?_⟩) (by assumption) ?_
  rotate_left
  ·intro w hSw
   try dsimp only at hSw
   go_simp
   try with_reducible rfl
  try simp only [Act.put,List.setIfInBounds_toArray,List.set_cons_zero,List.set_cons_succ]
  refine wpAnyH_take (i:=20) (oi:=Go.Oper.mk (some 80) _ _ _ _ _) (v:=?_) rfl (by kernel_rfl) (by kernel_rfl) (by kernel_rfl) (fun _ _ _ h => h) (Or.inl ⟨by kernel_rfl,?_⟩) (by assumption) ?_
  rotate_left
  ·intro w hSw
   try dsimp only at hSw
   go_simp
   try with_reducible rfl
  try simp only [Act.put,List.setIfInBounds_toArray,List.set_cons_zero,List.set_cons_succ]
  refine wpAnyH_done (by kernel_rfl) ?_ _
  clear hHeld
  have hR5:=hR4.chg0 (Chg.refl _ _).drew
  obtain ⟨_,_,_,e3,el,_,ef⟩:=hR5.cells
  go_wp2_with fail
  go_ret2
  exact ⟨rfl,_,by rw [decide_eq_false hcond.out,Bool.or_false];exact hR5,(hc4.trans ((Chg.refl (fun _ => False) _).drew.mono fun _ _ h => h.elim))⟩
set_option maxRecDepth 100000 in
set_option maxHeartbeats 8000000 in
theorem rf_add_some (h:Rf w0 W rb es is E M v) (m:ByteArray) (s lv:Int) (hs:-9223372036854775808≤s∧s≤9223372036854775807) (he:addNo es m lv=none) (so:Int) (hl:lookE es m=some so) (es1:List En) (he1:putE es m s=es1):Calls Tryz.prog 58 #[pt rb,.string m,.int .i64 s,.int .i64 lv] W (RPost w0 rb es1 (is || decide (E<es1.length∨M<m.size)) E M (.tuple #[.bool false,.int .i64 0]) W):=by
 obtain ⟨a1,a2,a3,a4⟩:=addNo_none he
 have h2':¬ (64:Int)<(m.size:Int):=by omega
 have h3:¬ lv<1:=by omega
 have h3':¬ 32<lv:=by omega
 have hz:=h.ok
 have hn4:=hz.n
 have hz1:Zok es1:=he1 ▸ putE_ok hz ⟨a1,hs⟩ fun h6 => by have:=a4 h6;omega
 have hn5:=hz1.n
 have n5:(es1.length:Int)≤400:=by omega
 obtain ⟨c0,_,_,_,l0,f0,_⟩:=h.cells
 have hfi:=fun W' (hc:Chg (fun _ => False) W W') => findR_any v es m W' ((h.chg0 hc).own.r) (by omega)
 have hat:=look_at hz hl
 have hk0:=(List.getElem?_eq_some_iff.1 hat).1
 rw [findI_at hz hl] at hfi
 have hzd:Zok (delE es (ahead es ⟨m,so⟩)):=hz.sub (delE_sub _ _)
 have hde:=fun W' (hc:Chg (fun _ => False) W W') => delR_any v es (ahead es ⟨m,so⟩) W' ((h.chg0 hc).own.r) hk0 (by omega)
 obtain ⟨es0,he0⟩:∃ es0,delE es (ahead es ⟨m,so⟩)=es0:=⟨_,rfl⟩
 have hd0:=dropM_some hz hl
 rw [he0] at hd0 hde hzd
 generalize ahead es ⟨m,so⟩=k at *
 have k0:¬ (k:Int)<0:=by omega
 have k1:(0:Int)≤(k:Int):=by omega
 unfold RgPost at hde
 have hsz:es0.length≤400:=hzd.n
 have hp:putE es m s=insE es0 ⟨m,s⟩:=by unfold putE;rw [← hd0]
 have hso:=fun W' v' (hr:EntsR W' v' es0) => sortedR_any v' es0 ⟨m,s⟩ W' hr hzd.so (fun x hx => by have:=(hzd.ok x hx).1;omega) (show m.size≤_ by omega) (by omega)
 rw [← hp,he1] at hso
 unfold RgPost En.val at hso
 have HH:=Lib.hid h
 have hvv:=h.val
 obtain ⟨vp,vc,hvv1,_,_⟩:=hvv
 have hv1':=Lib.hid hvv1
 unfold pt
 subst hvv1
 clear he hl he1 hp a1 a2 a3 a4 h hn4 hn5 hz hat hd0 he0
 by_cases q1:E<es1.length
 ·have k1':(E:Int)<(es1.length:Int):=by omega
  have hcond:=Lib.hid (show E<es1.length∨M<m.size from .inl q1)
  have k1a:decide (E<es1.length)=true:=decide_eq_true q1
  have k1b:decide ((E:Int)<(es1.length:Int))=true:=decide_eq_true k1'
  go_enter Tryz.func58,Tryz.ntmps58
  go_wp2_with (first | (go_at_call 83;refine (hfi _ (Chg.refl _ _)).mono ?_;rintro r9 w1 ⟨rfl,rfl⟩) | (go_at_call 84;refine (hde _ (Chg.refl _ _)).mono ?_;rintro r9 w2 ⟨⟨v1,rfl,hv1⟩,hC2⟩;obtain ⟨p1,q1,rfl,_,_,_⟩:=hv1.is;obtain ⟨hR2,hc2⟩:=HH.out.store hC2 hv1 hzd;obtain ⟨b0,_,_,_,bl,bf,_⟩:=(HH.out.chg0 hC2).cells) | (go_at_call 85;refine (hso _ _ hR2.own.r).mono ?_;rintro r9 w3 ⟨⟨v3,rfl,hv3⟩,hC3⟩;obtain ⟨p3,q3,rfl,g1,g2,_⟩:=hv3.is;obtain ⟨hR4,hc4⟩:=hR2.store hC3 hv3 hz1;obtain ⟨d0,_,_,_,dl,df,_⟩:=(hR2.chg0 hC3).cells) | fail)
  refine wp_region_held_drew (S:=fun W' => W'.cell? ⟨rb,0,none⟩=some (.slice p3 es1.length q3)∧W'.cell? ⟨rb,1,none⟩=some (.int .i64 (E:Int))∧W'.cell? ⟨rb,2,none⟩=some (.int .i64 (M:Int))) (by kernel_rfl) ((have:=(hR4.chg0 (Chg.refl _ _).drew).cells;⟨this.1,this.2.1,this.2.2.1⟩)) (fun hHeld => ?_)
  refine wpAnyH_take (i:=0) (oi:=Go.Oper.mk (some 60) _ _ _ _ _) (v:=?_) rfl (by kernel_rfl) (by kernel_rfl) (by kernel_rfl) (fun _ _ _ h => h) (Or.inl ⟨by kernel_rfl,?_⟩) (by assumption) ?_
  rotate_left
  ·intro w hSw
   try dsimp only at hSw
   go_simp
   try with_reducible rfl
  try simp only [Act.put,List.setIfInBounds_toArray,List.set_cons_zero,List.set_cons_succ]
  refine wpAnyH_take (i:=1) (oi:=Go.Oper.mk (some 61) _ _ _ _ _) (v:=?_) rfl (by kernel_rfl) (by kernel_rfl) (by kernel_rfl) (fun _ _ _ h => h) (Or.inl ⟨by kernel_rfl,?_⟩) (by assumption) ?_
  rotate_left
  ·intro w hSw
   try dsimp only at hSw
   go_simp
   try with_reducible rfl
  try simp only [Act.put,List.setIfInBounds_toArray,List.set_cons_zero,List.set_cons_succ]
  refine wpAnyH_take (i:=2) (oi:=Go.Oper.mk (some 62) _ _ _ _ _) (v:=?_) rfl (by kernel_rfl) (by kernel_rfl) (by kernel_rfl) (fun _ _ _ h => h) (Or.inl ⟨by kernel_rfl,?_⟩) (by assumption) ?_
  rotate_left
  ·intro w hSw
   try dsimp only at hSw
   go_simp
   try with_reducible rfl
  try simp only [Act.put,List.setIfInBounds_toArray,List.set_cons_zero,List.set_cons_succ]
  refine wpAnyH_take (i:=3) (oi:=Go.Oper.mk (some 63) _ _ _ _ _) (v:=?_) rfl (by kernel_rfl) (by kernel_rfl) (by kernel_rfl) (fun _ _ _ h => h) (Or.inl ⟨by kernel_rfl,?_⟩) (by assumption) ?_
  rotate_left
  ·intro w hSw
   try dsimp only at hSw
   go_simp
   try with_reducible rfl
  try simp only [Act.put,List.setIfInBounds_toArray,List.set_cons_zero,List.set_cons_succ]
  refine wpAnyH_take (i:=4) (oi:=Go.Oper.mk (some 64) _ _ _ _ _) (v:=?_) rfl (by kernel_rfl) (by kernel_rfl) (by kernel_rfl) (fun _ _ _ h => h) (Or.inl ⟨by kernel_rfl,?_⟩) (by assumption) ?_
  rotate_left
  ·intro w hSw
   try dsimp only at hSw
   go_simp
   try with_reducible rfl
  try simp only [Act.put,List.setIfInBounds_toArray,List.set_cons_zero,List.set_cons_succ]
  refine wpAnyH_take (i:=5) (oi:=Go.Oper.mk (some 65) _ _ _ _ _) (v:=?_) rfl (by kernel_rfl) (by kernel_rfl) (by kernel_rfl) (fun _ _ _ h => h) (Or.inl ⟨by kernel_rfl,?_⟩) (by assumption) ?_
  rotate_left
  ·intro w hSw
   try dsimp only at hSw
   go_simp
   try with_reducible rfl
  try simp only [Act.put,List.setIfInBounds_toArray,List.set_cons_zero,List.set_cons_succ]
  refine wpAnyH_take (i:=6) (oi:=Go.Oper.mk (some 66) _ _ _ _ _) (v:=?_) rfl (by kernel_rfl) (by kernel_rfl) (by kernel_rfl) (fun _ _ _ h => h) (Or.inl ⟨by kernel_rfl,?_⟩) (by assumption) ?_
  rotate_left
  ·intro w hSw
   try dsimp only at hSw
   go_simp
   try with_reducible rfl
  try simp only [Act.put,List.setIfInBounds_toArray,List.set_cons_zero,List.set_cons_succ]
  refine wpAnyH_take (i:=7) (oi:=Go.Oper.mk (some 67) _ _ _ _ _) (v:=?_) rfl (by kernel_rfl) (by kernel_rfl) (by kernel_rfl) (fun _ _ _ h => h) (Or.inl ⟨by kernel_rfl,?_⟩) (by assumption) ?_
  rotate_left
  ·intro w hSw
   try dsimp only at hSw
   go_simp
   try with_reducible rfl
  try simp only [Act.put,List.setIfInBounds_toArray,List.set_cons_zero,List.set_cons_succ]
  refine wpAnyH_take (i:=8) (oi:=Go.Oper.mk (some 68) _ _ _ _ _) (v:=?_) rfl (by kernel_rfl) (by kernel_rfl) (by kernel_rfl) (fun _ _ _ h => h) (Or.inl ⟨by kernel_rfl,?_⟩) (by assumption) ?_
  rotate_left
  ·intro w hSw
   try dsimp only at hSw
   go_simp
   try with_reducible rfl
  try simp only [Act.put,List.setIfInBounds_toArray,List.set_cons_zero,List.set_cons_succ]
  refine wpAnyH_take (i:=9) (oi:=Go.Oper.mk (some 69) _ _ _ _ _) (v:=?_) rfl (by kernel_rfl) (by kernel_rfl) (by kernel_rfl) (fun _ _ _ h => h) (Or.inl ⟨by kernel_rfl,?_⟩) (by assumption) ?_
  rotate_left
  ·intro w hSw
   try dsimp only at hSw
   go_simp
   try with_reducible rfl
  try simp only [Act.put,List.setIfInBounds_toArray,List.set_cons_zero,List.set_cons_succ]
  refine wpAnyH_take (i:=10) (oi:=Go.Oper.mk (some 70) _ _ _ _ _) (v:=?_) rfl (by kernel_rfl) (by kernel_rfl) (by kernel_rfl) (fun _ _ _ h => h) (Or.inl ⟨by kernel_rfl,?_⟩) (by assumption) ?_
  rotate_left
  ·intro w hSw
   try dsimp only at hSw
   go_simp
   try with_reducible rfl
  try simp only [Act.put,List.setIfInBounds_toArray,List.set_cons_zero,List.set_cons_succ]
  refine wpAnyH_take (i:=11) (oi:=Go.Oper.mk (some 71) _ _ _ _ _) (v:=?_) rfl (by kernel_rfl) (by kernel_rfl) (by kernel_rfl) (fun _ _ _ h => h) (Or.inl ⟨by kernel_rfl,?_⟩) (by assumption) ?_
  rotate_left
  ·intro w hSw
   try dsimp only at hSw
   go_simp
   try with_reducible rfl
  try simp only [Act.put,List.setIfInBounds_toArray,List.set_cons_zero,List.set_cons_succ]
  refine wpAnyH_take (i:=12) (oi:=Go.Oper.mk (some 72) _ _ _ _ _) (v:=undef) rfl (by kernel_rfl) (by kernel_rfl) (by kernel_rfl) (fun _ _ _ h => h) (Or.inr ⟨by kernel_rfl,rfl⟩) (by assumption) ?_
  try simp only [Act.put,List.setIfInBounds_toArray,List.set_cons_zero,List.set_cons_succ]
  refine wpAnyH_take (i:=13) (oi:=Go.Oper.mk (some 73) _ _ _ _ _) (v:=undef) rfl (by kernel_rfl) (by kernel_rfl) (by kernel_rfl) (fun _ _ _ h => h) (Or.inr ⟨by kernel_rfl,rfl⟩) (by assumption) ?_
  try simp only [Act.put,List.setIfInBounds_toArray,List.set_cons_zero,List.set_cons_succ]
  refine wpAnyH_take (i:=14) (oi:=Go.Oper.mk (some 74) _ _ _ _ _) (v:=undef) rfl (by kernel_rfl) (by kernel_rfl) (by kernel_rfl) (fun _ _ _ h => h) (Or.inr ⟨by kernel_rfl,rfl⟩) (by assumption) ?_
  try simp only [Act.put,List.setIfInBounds_toArray,List.set_cons_zero,List.set_cons_succ]
  refine wpAnyH_take (i:=15) (oi:=Go.Oper.mk (some 75) _ _ _ _ _) (v:=undef) rfl (by kernel_rfl) (by kernel_rfl) (by kernel_rfl) (fun _ _ _ h => h) (Or.inr ⟨by kernel_rfl,rfl⟩) (by assumption) ?_
  try simp only [Act.put,List.setIfInBounds_toArray,List.set_cons_zero,List.set_cons_succ]
  refine wpAnyH_take (i:=16) (oi:=Go.Oper.mk (some 76) _ _ _ _ _) (v:=undef) rfl (by kernel_rfl) (by kernel_rfl) (by kernel_rfl) (fun _ _ _ h => h) (Or.inr ⟨by kernel_rfl,rfl⟩) (by assumption) ?_
  try simp only [Act.put,List.setIfInBounds_toArray,List.set_cons_zero,List.set_cons_succ]
  refine wpAnyH_take (i:=17) (oi:=Go.Oper.mk (some 77) _ _ _ _ _) (v:=undef) rfl (by kernel_rfl) (by kernel_rfl) (by kernel_rfl) (fun _ _ _ h => h) (Or.inr ⟨by kernel_rfl,rfl⟩) (by assumption) ?_
  try simp only [Act.put,List.setIfInBounds_toArray,List.set_cons_zero,List.set_cons_succ]
  refine wpAnyH_take (i:=18) (oi:=Go.Oper.mk (some 78) _ _ _ _ _) (v:=undef) rfl (by kernel_rfl) (by kernel_rfl) (by kernel_rfl) (fun _ _ _ h => h) (Or.inr ⟨by kernel_rfl,rfl⟩) (by assumption) ?_
  try simp only [Act.put,List.setIfInBounds_toArray,List.set_cons_zero,List.set_cons_succ]
  refine wpAnyH_take (i:=19) (oi:=Go.Oper.mk (some 79) _ _ _ _ _) (v:=undef) rfl (by kernel_rfl) (by kernel_rfl) (by kernel_rfl) (fun _ _ _ h => h) (Or.inr ⟨by kernel_rfl,rfl⟩) (by assumption) ?_
  try simp only [Act.put,List.setIfInBounds_toArray,List.set_cons_zero,List.set_cons_succ]
  refine wpAnyH_take (i:=20) (oi:=Go.Oper.mk (some 80) _ _ _ _ _) (v:=?_) rfl (by kernel_rfl) (by kernel_rfl) (by kernel_rfl) (fun _ _ _ h => h) (Or.inl ⟨by kernel_rfl,?_⟩) (by assumption) ?_
  rotate_left
  ·intro w hSw
   try dsimp only at hSw
   go_simp
   try with_reducible rfl
  try simp only [Act.put,List.setIfInBounds_toArray,List.set_cons_zero,List.set_cons_succ]
  refine wpAnyH_done (by kernel_rfl) ?_ _
  clear hHeld
  have hR5:=hR4.chg0 (Chg.refl _ _).drew
  obtain ⟨_,_,_,e3,el,_,ef⟩:=hR5.cells
  go_wp2_with fail
  go_ret2
  obtain ⟨hR6,hc6⟩:=hR5.flag
  exact ⟨rfl,_,by rw [decide_eq_true hcond.out,Bool.or_true];exact hR6,hc2.trans (hc4.trans (((Chg.refl (fun _ => False) _).drew.mono fun _ _ h => h.elim).trans hc6))⟩
 by_cases q2:M<m.size
 ·have k1':¬ (E:Int)<(es1.length:Int):=by omega
  have k2':(M:Int)<(m.size:Int):=by omega
  have hcond:=Lib.hid (show E<es1.length∨M<m.size from .inr q2)
  have k1a:decide (E<es1.length)=false:=decide_eq_false q1
  have k1b:decide ((E:Int)<(es1.length:Int))=false:=decide_eq_false k1'
  have k2a:decide (M<m.size)=true:=decide_eq_true q2
  have k2b:decide ((M:Int)<(m.size:Int))=true:=decide_eq_true k2'
  go_enter Tryz.func58,Tryz.ntmps58
  go_wp2_with (first | (go_at_call 83;refine (hfi _ (Chg.refl _ _)).mono ?_;rintro r9 w1 ⟨rfl,rfl⟩) | (go_at_call 84;refine (hde _ (Chg.refl _ _)).mono ?_;rintro r9 w2 ⟨⟨v1,rfl,hv1⟩,hC2⟩;obtain ⟨p1,q1,rfl,_,_,_⟩:=hv1.is;obtain ⟨hR2,hc2⟩:=HH.out.store hC2 hv1 hzd;obtain ⟨b0,_,_,_,bl,bf,_⟩:=(HH.out.chg0 hC2).cells) | (go_at_call 85;refine (hso _ _ hR2.own.r).mono ?_;rintro r9 w3 ⟨⟨v3,rfl,hv3⟩,hC3⟩;obtain ⟨p3,q3,rfl,g1,g2,_⟩:=hv3.is;obtain ⟨hR4,hc4⟩:=hR2.store hC3 hv3 hz1;obtain ⟨d0,_,_,_,dl,df,_⟩:=(hR2.chg0 hC3).cells) | fail)
  refine wp_region_held_drew (S:=fun W' => W'.cell? ⟨rb,0,none⟩=some (.slice p3 es1.length q3)∧W'.cell? ⟨rb,1,none⟩=some (.int .i64 (E:Int))∧W'.cell? ⟨rb,2,none⟩=some (.int .i64 (M:Int))) (by kernel_rfl) ((have:=(hR4.chg0 (Chg.refl _ _).drew).cells;⟨this.1,this.2.1,this.2.2.1⟩)) (fun hHeld => ?_)
  refine wpAnyH_take (i:=0) (oi:=Go.Oper.mk (some 60) _ _ _ _ _) (v:=?_) rfl (by kernel_rfl) (by kernel_rfl) (by kernel_rfl) (fun _ _ _ h => h) (Or.inl ⟨by kernel_rfl,?_⟩) (by assumption) ?_
  rotate_left
  ·intro w hSw
   try dsimp only at hSw
   go_simp
   try with_reducible rfl
  try simp only [Act.put,List.setIfInBounds_toArray,List.set_cons_zero,List.set_cons_succ]
  refine wpAnyH_take (i:=1) (oi:=Go.Oper.mk (some 61) _ _ _ _ _) (v:=?_) rfl (by kernel_rfl) (by kernel_rfl) (by kernel_rfl) (fun _ _ _ h => h) (Or.inl ⟨by kernel_rfl,?_⟩) (by assumption) ?_
  rotate_left
  ·intro w hSw
   try dsimp only at hSw
   go_simp
   try with_reducible rfl
  try simp only [Act.put,List.setIfInBounds_toArray,List.set_cons_zero,List.set_cons_succ]
  refine wpAnyH_take (i:=2) (oi:=Go.Oper.mk (some 62) _ _ _ _ _) (v:=?_) rfl (by kernel_rfl) (by kernel_rfl) (by kernel_rfl) (fun _ _ _ h => h) (Or.inl ⟨by kernel_rfl,?_⟩) (by assumption) ?_
  rotate_left
  ·intro w hSw
   try dsimp only at hSw
   go_simp
   try with_reducible rfl
  try simp only [Act.put,List.setIfInBounds_toArray,List.set_cons_zero,List.set_cons_succ]
  refine wpAnyH_take (i:=3) (oi:=Go.Oper.mk (some 63) _ _ _ _ _) (v:=?_) rfl (by kernel_rfl) (by kernel_rfl) (by kernel_rfl) (fun _ _ _ h => h) (Or.inl ⟨by kernel_rfl,?_⟩) (by assumption) ?_
  rotate_left
  ·intro w hSw
   try dsimp only at hSw
   go_simp
   try with_reducible rfl
  try simp only [Act.put,List.setIfInBounds_toArray,List.set_cons_zero,List.set_cons_succ]
  refine wpAnyH_take (i:=4) (oi:=Go.Oper.mk (some 64) _ _ _ _ _) (v:=?_) rfl (by kernel_rfl) (by kernel_rfl) (by kernel_rfl) (fun _ _ _ h => h) (Or.inl ⟨by kernel_rfl,?_⟩) (by assumption) ?_
  rotate_left
  ·intro w hSw
   try dsimp only at hSw
   go_simp
   try with_reducible rfl
  try simp only [Act.put,List.setIfInBounds_toArray,List.set_cons_zero,List.set_cons_succ]
  refine wpAnyH_take (i:=5) (oi:=Go.Oper.mk (some 65) _ _ _ _ _) (v:=?_) rfl (by kernel_rfl) (by kernel_rfl) (by kernel_rfl) (fun _ _ _ h => h) (Or.inl ⟨by kernel_rfl,?_⟩) (by assumption) ?_
  rotate_left
  ·intro w hSw
   try dsimp only at hSw
   go_simp
   try with_reducible rfl
  try simp only [Act.put,List.setIfInBounds_toArray,List.set_cons_zero,List.set_cons_succ]
  refine wpAnyH_take (i:=6) (oi:=Go.Oper.mk (some 66) _ _ _ _ _) (v:=?_) rfl (by kernel_rfl) (by kernel_rfl) (by kernel_rfl) (fun _ _ _ h => h) (Or.inl ⟨by kernel_rfl,?_⟩) (by assumption) ?_
  rotate_left
  ·intro w hSw
   try dsimp only at hSw
   go_simp
   try with_reducible rfl
  try simp only [Act.put,List.setIfInBounds_toArray,List.set_cons_zero,List.set_cons_succ]
  refine wpAnyH_take (i:=7) (oi:=Go.Oper.mk (some 67) _ _ _ _ _) (v:=?_) rfl (by kernel_rfl) (by kernel_rfl) (by kernel_rfl) (fun _ _ _ h => h) (Or.inl ⟨by kernel_rfl,?_⟩) (by assumption) ?_
  rotate_left
  ·intro w hSw
   try dsimp only at hSw
   go_simp
   try with_reducible rfl
  try simp only [Act.put,List.setIfInBounds_toArray,List.set_cons_zero,List.set_cons_succ]
  refine wpAnyH_take (i:=8) (oi:=Go.Oper.mk (some 68) _ _ _ _ _) (v:=?_) rfl (by kernel_rfl) (by kernel_rfl) (by kernel_rfl) (fun _ _ _ h => h) (Or.inl ⟨by kernel_rfl,?_⟩) (by assumption) ?_
  rotate_left
  ·intro w hSw
   try dsimp only at hSw
   go_simp
   try with_reducible rfl
  try simp only [Act.put,List.setIfInBounds_toArray,List.set_cons_zero,List.set_cons_succ]
  refine wpAnyH_take (i:=9) (oi:=Go.Oper.mk (some 69) _ _ _ _ _) (v:=?_) rfl (by kernel_rfl) (by kernel_rfl) (by kernel_rfl) (fun _ _ _ h => h) (Or.inl ⟨by kernel_rfl,?_⟩) (by assumption) ?_
  rotate_left
  ·intro w hSw
   try dsimp only at hSw
   go_simp
   try with_reducible rfl
  try simp only [Act.put,List.setIfInBounds_toArray,List.set_cons_zero,List.set_cons_succ]
  refine wpAnyH_take (i:=10) (oi:=Go.Oper.mk (some 70) _ _ _ _ _) (v:=?_) rfl (by kernel_rfl) (by kernel_rfl) (by kernel_rfl) (fun _ _ _ h => h) (Or.inl ⟨by kernel_rfl,?_⟩) (by assumption) ?_
  rotate_left
  ·intro w hSw
   try dsimp only at hSw
   go_simp
   try with_reducible rfl
  try simp only [Act.put,List.setIfInBounds_toArray,List.set_cons_zero,List.set_cons_succ]
  refine wpAnyH_take (i:=11) (oi:=Go.Oper.mk (some 71) _ _ _ _ _) (v:=?_) rfl (by kernel_rfl) (by kernel_rfl) (by kernel_rfl) (fun _ _ _ h => h) (Or.inl ⟨by kernel_rfl,?_⟩) (by assumption) ?_
  rotate_left
  ·intro w hSw
   try dsimp only at hSw
   go_simp
   try with_reducible rfl
  try simp only [Act.put,List.setIfInBounds_toArray,List.set_cons_zero,List.set_cons_succ]
  refine wpAnyH_take (i:=12) (oi:=Go.Oper.mk (some 72) _ _ _ _ _) (v:=?_) rfl (by kernel_rfl) (by kernel_rfl) (by kernel_rfl) (fun _ _ _ h => h) (Or.inl ⟨by kernel_rfl,?_⟩) (by assumption) ?_
  rotate_left
  ·intro w hSw
   try dsimp only at hSw
   go_simp
   try with_reducible rfl
  try simp only [Act.put,List.setIfInBounds_toArray,List.set_cons_zero,List.set_cons_succ]
  refine wpAnyH_take (i:=13) (oi:=Go.Oper.mk (some 73) _ _ _ _ _) (v:=?_) rfl (by kernel_rfl) (by kernel_rfl) (by kernel_rfl) (fun _ _ _ h => h) (Or.inl ⟨by kernel_rfl,?_⟩) (by assumption) ?_
  rotate_left
  ·intro w hSw
   try dsimp only at hSw
   go_simp
   try with_reducible rfl
  try simp only [Act.put,List.setIfInBounds_toArray,List.set_cons_zero,List.set_cons_succ]
  refine wpAnyH_take (i:=14) (oi:=Go.Oper.mk (some 74) _ _ _ _ _) (v:=?_) rfl (by kernel_rfl) (by kernel_rfl) (by kernel_rfl) (fun _ _ _ h => h) (Or.inl ⟨by kernel_rfl,?_⟩) (by assumption) ?_
  rotate_left
  ·intro w hSw
   try dsimp only at hSw
   go_simp
   try with_reducible rfl
  try simp only [Act.put,List.setIfInBounds_toArray,List.set_cons_zero,List.set_cons_succ]
  refine wpAnyH_take (i:=15) (oi:=Go.Oper.mk (some 75) _ _ _ _ _) (v:=?_) rfl (by kernel_rfl) (by kernel_rfl) (by kernel_rfl) (fun _ _ _ h => h) (Or.inl ⟨by kernel_rfl,?_⟩) (by assumption) ?_
  rotate_left
  ·intro w hSw
   try dsimp only at hSw
   go_simp
   try with_reducible rfl
  try simp only [Act.put,List.setIfInBounds_toArray,List.set_cons_zero,List.set_cons_succ]
  refine wpAnyH_take (i:=16) (oi:=Go.Oper.mk (some 76) _ _ _ _ _) (v:=?_) rfl (by kernel_rfl) (by kernel_rfl) (by kernel_rfl) (fun _ _ _ h => h) (Or.inl ⟨by kernel_rfl,?_⟩) (by assumption) ?_
  rotate_left
  ·intro w hSw
   try dsimp only at hSw
   go_simp
   try with_reducible rfl
  try simp only [Act.put,List.setIfInBounds_toArray,List.set_cons_zero,List.set_cons_succ]
  refine wpAnyH_take (i:=17) (oi:=Go.Oper.mk (some 77) _ _ _ _ _) (v:=?_) rfl (by kernel_rfl) (by kernel_rfl) (by kernel_rfl) (fun _ _ _ h => h) (Or.inl ⟨by kernel_rfl,?_⟩) (by assumption) ?_
  rotate_left
  ·intro w hSw
   try dsimp only at hSw
   go_simp
   try with_reducible rfl
  try simp only [Act.put,List.setIfInBounds_toArray,List.set_cons_zero,List.set_cons_succ]
  refine wpAnyH_take (i:=18) (oi:=Go.Oper.mk (some 78) _ _ _ _ _) (v:=?_) rfl (by kernel_rfl) (by kernel_rfl) (by kernel_rfl) (fun _ _ _ h => h) (Or.inl ⟨by kernel_rfl,?_⟩) (by assumption) ?_
  rotate_left
  ·intro w hSw
   try dsimp only at hSw
   go_simp
   try with_reducible rfl
  try simp only [Act.put,List.setIfInBounds_toArray,List.set_cons_zero,List.set_cons_succ]
  refine wpAnyH_take (i:=19) (oi:=Go.Oper.mk (some 79) _ _ _ _ _) (v:=?_) rfl (by kernel_rfl) (by kernel_rfl) (by kernel_rfl) (fun _ _ _ h => h) (Or.inl ⟨by kernel_rfl,?_⟩) (by assumption) ?_
  rotate_left
  ·intro w hSw
   try dsimp only at hSw
   go_simp
   try with_reducible rfl
  try simp only [Act.put,List.setIfInBounds_toArray,List.set_cons_zero,List.set_cons_succ]
  refine wpAnyH_take (i:=20) (oi:=Go.Oper.mk (some 80) _ _ _ _ _) (v:=?_) rfl (by kernel_rfl) (by kernel_rfl) (by kernel_rfl) (fun _ _ _ h => h) (Or.inl ⟨by kernel_rfl,?_⟩) (by assumption) ?_
  rotate_left
  ·intro w hSw
   try dsimp only at hSw
   go_simp
   try with_reducible rfl
  try simp only [Act.put,List.setIfInBounds_toArray,List.set_cons_zero,List.set_cons_succ]
  refine wpAnyH_done (by kernel_rfl) ?_ _
  clear hHeld
  have hR5:=hR4.chg0 (Chg.refl _ _).drew
  obtain ⟨_,_,_,e3,el,_,ef⟩:=hR5.cells
  go_wp2_with fail
  go_ret2
  obtain ⟨hR6,hc6⟩:=hR5.flag
  exact ⟨rfl,_,by rw [decide_eq_true hcond.out,Bool.or_true];exact hR6,hc2.trans (hc4.trans (((Chg.refl (fun _ => False) _).drew.mono fun _ _ h => h.elim).trans hc6))⟩
 ·have k1':¬ (E:Int)<(es1.length:Int):=by omega
  have k2':¬ (M:Int)<(m.size:Int):=by omega
  have hcond:=Lib.hid (show ¬ (E<es1.length∨M<m.size) by omega)
  have k1a:decide (E<es1.length)=false:=decide_eq_false q1
  have k1b:decide ((E:Int)<(es1.length:Int))=false:=decide_eq_false k1'
  have k2a:decide (M<m.size)=false:=decide_eq_false q2
  have k2b:decide ((M:Int)<(m.size:Int))=false:=decide_eq_false k2'
  go_enter Tryz.func58,Tryz.ntmps58
  go_wp2_with (first | (go_at_call 83;refine (hfi _ (Chg.refl _ _)).mono ?_;rintro r9 w1 ⟨rfl,rfl⟩) | (go_at_call 84;refine (hde _ (Chg.refl _ _)).mono ?_;rintro r9 w2 ⟨⟨v1,rfl,hv1⟩,hC2⟩;obtain ⟨p1,q1,rfl,_,_,_⟩:=hv1.is;obtain ⟨hR2,hc2⟩:=HH.out.store hC2 hv1 hzd;obtain ⟨b0,_,_,_,bl,bf,_⟩:=(HH.out.chg0 hC2).cells) | (go_at_call 85;refine (hso _ _ hR2.own.r).mono ?_;rintro r9 w3 ⟨⟨v3,rfl,hv3⟩,hC3⟩;obtain ⟨p3,q3,rfl,g1,g2,_⟩:=hv3.is;obtain ⟨hR4,hc4⟩:=hR2.store hC3 hv3 hz1;obtain ⟨d0,_,_,_,dl,df,_⟩:=(hR2.chg0 hC3).cells) | fail)
  refine wp_region_held_drew (S:=fun W' => W'.cell? ⟨rb,0,none⟩=some (.slice p3 es1.length q3)∧W'.cell? ⟨rb,1,none⟩=some (.int .i64 (E:Int))∧W'.cell? ⟨rb,2,none⟩=some (.int .i64 (M:Int))) (by kernel_rfl) ((have:=(hR4.chg0 (Chg.refl _ _).drew).cells;⟨this.1,this.2.1,this.2.2.1⟩)) (fun hHeld => ?_)
  refine wpAnyH_take (i:=0) (oi:=Go.Oper.mk (some 60) _ _ _ _ _) (v:=?_) rfl (by kernel_rfl) (by kernel_rfl) (by kernel_rfl) (fun _ _ _ h => h) (Or.inl ⟨by kernel_rfl,?_⟩) (by assumption) ?_
  rotate_left
  ·intro w hSw
   try dsimp only at hSw
   go_simp
   try with_reducible rfl
  try simp only [Act.put,List.setIfInBounds_toArray,List.set_cons_zero,List.set_cons_succ]
  refine wpAnyH_take (i:=1) (oi:=Go.Oper.mk (some 61) _ _ _ _ _) (v:=?_) rfl (by kernel_rfl) (by kernel_rfl) (by kernel_rfl) (fun _ _ _ h => h) (Or.inl ⟨by kernel_rfl,?_⟩) (by assumption) ?_
  rotate_left
  ·intro w hSw
   try dsimp only at hSw
   go_simp
   try with_reducible rfl
  try simp only [Act.put,List.setIfInBounds_toArray,List.set_cons_zero,List.set_cons_succ]
  refine wpAnyH_take (i:=2) (oi:=Go.Oper.mk (some 62) _ _ _ _ _) (v:=?_) rfl (by kernel_rfl) (by kernel_rfl) (by kernel_rfl) (fun _ _ _ h => h) (Or.inl ⟨by kernel_rfl,?_⟩) (by assumption) ?_
  rotate_left
  ·intro w hSw
   try dsimp only at hSw
   go_simp
   try with_reducible rfl
  try simp only [Act.put,List.setIfInBounds_toArray,List.set_cons_zero,List.set_cons_succ]
  refine wpAnyH_take (i:=3) (oi:=Go.Oper.mk (some 63) _ _ _ _ _) (v:=?_) rfl (by kernel_rfl) (by kernel_rfl) (by kernel_rfl) (fun _ _ _ h => h) (Or.inl ⟨by kernel_rfl,?_⟩) (by assumption) ?_
  rotate_left
  ·intro w hSw
   try dsimp only at hSw
   go_simp
   try with_reducible rfl
  try simp only [Act.put,List.setIfInBounds_toArray,List.set_cons_zero,List.set_cons_succ]
  refine wpAnyH_take (i:=4) (oi:=Go.Oper.mk (some 64) _ _ _ _ _) (v:=?_) rfl (by kernel_rfl) (by kernel_rfl) (by kernel_rfl) (fun _ _ _ h => h) (Or.inl ⟨by kernel_rfl,?_⟩) (by assumption) ?_
  rotate_left
  ·intro w hSw
   try dsimp only at hSw
   go_simp
   try with_reducible rfl
  try simp only [Act.put,List.setIfInBounds_toArray,List.set_cons_zero,List.set_cons_succ]
  refine wpAnyH_take (i:=5) (oi:=Go.Oper.mk (some 65) _ _ _ _ _) (v:=?_) rfl (by kernel_rfl) (by kernel_rfl) (by kernel_rfl) (fun _ _ _ h => h) (Or.inl ⟨by kernel_rfl,?_⟩) (by assumption) ?_
  rotate_left
  ·intro w hSw
   try dsimp only at hSw
   go_simp
   try with_reducible rfl
  try simp only [Act.put,List.setIfInBounds_toArray,List.set_cons_zero,List.set_cons_succ]
  refine wpAnyH_take (i:=6) (oi:=Go.Oper.mk (some 66) _ _ _ _ _) (v:=?_) rfl (by kernel_rfl) (by kernel_rfl) (by kernel_rfl) (fun _ _ _ h => h) (Or.inl ⟨by kernel_rfl,?_⟩) (by assumption) ?_
  rotate_left
  ·intro w hSw
   try dsimp only at hSw
   go_simp
   try with_reducible rfl
  try simp only [Act.put,List.setIfInBounds_toArray,List.set_cons_zero,List.set_cons_succ]
  refine wpAnyH_take (i:=7) (oi:=Go.Oper.mk (some 67) _ _ _ _ _) (v:=?_) rfl (by kernel_rfl) (by kernel_rfl) (by kernel_rfl) (fun _ _ _ h => h) (Or.inl ⟨by kernel_rfl,?_⟩) (by assumption) ?_
  rotate_left
  ·intro w hSw
   try dsimp only at hSw
   go_simp
   try with_reducible rfl
  try simp only [Act.put,List.setIfInBounds_toArray,List.set_cons_zero,List.set_cons_succ]
  refine wpAnyH_take (i:=8) (oi:=Go.Oper.mk (some 68) _ _ _ _ _) (v:=?_) rfl (by kernel_rfl) (by kernel_rfl) (by kernel_rfl) (fun _ _ _ h => h) (Or.inl ⟨by kernel_rfl,?_⟩) (by assumption) ?_
  rotate_left
  ·intro w hSw
   try dsimp only at hSw
   go_simp
   try with_reducible rfl
  try simp only [Act.put,List.setIfInBounds_toArray,List.set_cons_zero,List.set_cons_succ]
  refine wpAnyH_take (i:=9) (oi:=Go.Oper.mk (some 69) _ _ _ _ _) (v:=?_) rfl (by kernel_rfl) (by kernel_rfl) (by kernel_rfl) (fun _ _ _ h => h) (Or.inl ⟨by kernel_rfl,?_⟩) (by assumption) ?_
  rotate_left
  ·intro w hSw
   try dsimp only at hSw
   go_simp
   try with_reducible rfl
  try simp only [Act.put,List.setIfInBounds_toArray,List.set_cons_zero,List.set_cons_succ]
  refine wpAnyH_take (i:=10) (oi:=Go.Oper.mk (some 70) _ _ _ _ _) (v:=?_) rfl (by kernel_rfl) (by kernel_rfl) (by kernel_rfl) (fun _ _ _ h => h) (Or.inl ⟨by kernel_rfl,?_⟩) (by assumption) ?_
  rotate_left
  ·intro w hSw
   try dsimp only at hSw
   go_simp
   try with_reducible rfl
  try simp only [Act.put,List.setIfInBounds_toArray,List.set_cons_zero,List.set_cons_succ]
  refine wpAnyH_take (i:=11) (oi:=Go.Oper.mk (some 71) _ _ _ _ _) (v:=?_) rfl (by kernel_rfl) (by kernel_rfl) (by kernel_rfl) (fun _ _ _ h => h) (Or.inl ⟨by kernel_rfl,?_⟩) (by assumption) ?_
  rotate_left
  ·intro w hSw
   try dsimp only at hSw
   go_simp
   try with_reducible rfl
  try simp only [Act.put,List.setIfInBounds_toArray,List.set_cons_zero,List.set_cons_succ]
  refine wpAnyH_take (i:=12) (oi:=Go.Oper.mk (some 72) _ _ _ _ _) (v:=?_) rfl (by kernel_rfl) (by kernel_rfl) (by kernel_rfl) (fun _ _ _ h => h) (Or.inl ⟨by kernel_rfl,?_⟩) (by assumption) ?_
  rotate_left
  ·intro w hSw
   try dsimp only at hSw
   go_simp
   try with_reducible rfl
  try simp only [Act.put,List.setIfInBounds_toArray,List.set_cons_zero,List.set_cons_succ]
  refine wpAnyH_take (i:=13) (oi:=Go.Oper.mk (some 73) _ _ _ _ _) (v:=?_) rfl (by kernel_rfl) (by kernel_rfl) (by kernel_rfl) (fun _ _ _ h => h) (Or.inl ⟨by kernel_rfl,?_⟩) (by assumption) ?_
  rotate_left
  ·intro w hSw
   try dsimp only at hSw
   go_simp
   try with_reducible rfl
  try simp only [Act.put,List.setIfInBounds_toArray,List.set_cons_zero,List.set_cons_succ]
  refine wpAnyH_take (i:=14) (oi:=Go.Oper.mk (some 74) _ _ _ _ _) (v:=?_) rfl (by kernel_rfl) (by kernel_rfl) (by kernel_rfl) (fun _ _ _ h => h) (Or.inl ⟨by kernel_rfl,?_⟩) (by assumption) ?_
  rotate_left
  ·intro w hSw
   try dsimp only at hSw
   go_simp
   try with_reducible rfl
  try simp only [Act.put,List.setIfInBounds_toArray,List.set_cons_zero,List.set_cons_succ]
  refine wpAnyH_take (i:=15) (oi:=Go.Oper.mk (some 75) _ _ _ _ _) (v:=?_) rfl (by kernel_rfl) (by kernel_rfl) (by kernel_rfl) (fun _ _ _ h => h) (Or.inl ⟨by kernel_rfl,?_⟩) (by assumption) ?_
  rotate_left
  ·intro w hSw
   try dsimp only at hSw
   go_simp
   try with_reducible rfl
  try simp only [Act.put,List.setIfInBounds_toArray,List.set_cons_zero,List.set_cons_succ]
  refine wpAnyH_take (i:=16) (oi:=Go.Oper.mk (some 76) _ _ _ _ _) (v:=?_) rfl (by kernel_rfl) (by kernel_rfl) (by kernel_rfl) (fun _ _ _ h => h) (Or.inl ⟨by kernel_rfl,?_⟩) (by assumption) ?_
  rotate_left
  ·intro w hSw
   try dsimp only at hSw
   go_simp
   try with_reducible rfl
  try simp only [Act.put,List.setIfInBounds_toArray,List.set_cons_zero,List.set_cons_succ]
  refine wpAnyH_take (i:=17) (oi:=Go.Oper.mk (some 77) _ _ _ _ _) (v:=?_) rfl (by kernel_rfl) (by kernel_rfl) (by kernel_rfl) (fun _ _ _ h => h) (Or.inl ⟨by kernel_rfl,?_⟩) (by assumption) ?_
  rotate_left
  ·intro w hSw
   try dsimp only at hSw
   go_simp
   try with_reducible rfl
  try simp only [Act.put,List.setIfInBounds_toArray,List.set_cons_zero,List.set_cons_succ]
  refine wpAnyH_take (i:=18) (oi:=Go.Oper.mk (some 78) _ _ _ _ _) (v:=?_) rfl (by kernel_rfl) (by kernel_rfl) (by kernel_rfl) (fun _ _ _ h => h) (Or.inl ⟨by kernel_rfl,?_⟩) (by assumption) ?_
  rotate_left
  ·intro w hSw
   try dsimp only at hSw
   go_simp
   try with_reducible rfl
  try simp only [Act.put,List.setIfInBounds_toArray,List.set_cons_zero,List.set_cons_succ]
  refine wpAnyH_take (i:=19) (oi:=Go.Oper.mk (some 79) _ _ _ _ _) (v:=?_) rfl (by kernel_rfl) (by kernel_rfl) (by kernel_rfl) (fun _ _ _ h => h) (Or.inl ⟨by kernel_rfl,?_⟩) (by assumption) ?_
  rotate_left
  ·intro w hSw
   try dsimp only at hSw
   go_simp
   try with_reducible rfl
  try simp only [Act.put,List.setIfInBounds_toArray,List.set_cons_zero,List.set_cons_succ]
  refine wpAnyH_take (i:=20) (oi:=Go.Oper.mk (some 80) _ _ _ _ _) (v:=?_) rfl (by kernel_rfl) (by kernel_rfl) (by kernel_rfl) (fun _ _ _ h => h) (Or.inl ⟨by kernel_rfl,?_⟩) (by assumption) ?_
  rotate_left
  ·intro w hSw
   try dsimp only at hSw
   go_simp
   try with_reducible rfl
  try simp only [Act.put,List.setIfInBounds_toArray,List.set_cons_zero,List.set_cons_succ]
  refine wpAnyH_done (by kernel_rfl) ?_ _
  clear hHeld
  have hR5:=hR4.chg0 (Chg.refl _ _).drew
  obtain ⟨_,_,_,e3,el,_,ef⟩:=hR5.cells
  go_wp2_with fail
  go_ret2
  exact ⟨rfl,_,by rw [decide_eq_false hcond.out,Bool.or_false];exact hR5,hc2.trans (hc4.trans ((Chg.refl (fun _ => False) _).drew.mono fun _ _ h => h.elim))⟩
end
end Go.Proofs.YtehpmbmdadkhbaaGreatDoor

namespace Go.Proofs.YtehpmbmdadkhbaaGreatDoor
open Go.RowKit Pal
attribute [local go_sem] Oper.semAt_some
section
variable {w0 W W' W1:World} {rb:Nat} {es l1:List En} {is:Bool} {E M:Nat} {v v1:Value}
set_option maxRecDepth 100000 in
set_option maxHeartbeats 4000000 in
theorem rf_add_no (h:Rf w0 W rb es is E M v) (m:ByteArray) (s lv:Int) (e:Int) (he:addNo es m lv=some e):Calls Tryz.prog 58 #[pt rb,.string m,.int .i64 s,.int .i64 lv] W (RPost w0 rb es is E M (.tuple #[.bool false,.int .i64 e]) W):=by
 unfold addNo at he
 have HH:=Lib.hid h
 obtain ⟨c0,_,_,_,l0,f0,_⟩:=h.cells
 by_cases h1:64<m.size∨lv<1∨32<lv
 ·rw [if_pos h1] at he
  injection he with he
  subst he
  have hcs:(64:Int)<(m.size:Int)∨(¬ (64:Int)<(m.size:Int)∧lv<1)∨(¬ (64:Int)<(m.size:Int)∧¬ lv<1∧32<lv):=by omega
  clear h1 h
  unfold pt
  rcases hcs with g1 | ⟨g1,g2⟩ | ⟨g1,g2,g3⟩
  ·go_enter Tryz.func58,Tryz.ntmps58
   go_wp2_with fail
   go_ret2
   exact ⟨rfl,v,HH.out,Chg.refl _ _⟩
  ·go_enter Tryz.func58,Tryz.ntmps58
   go_wp2_with fail
   go_ret2
   exact ⟨rfl,v,HH.out,Chg.refl _ _⟩
  ·go_enter Tryz.func58,Tryz.ntmps58
   go_wp2_with fail
   go_ret2
   exact ⟨rfl,v,HH.out,Chg.refl _ _⟩
 ·rw [if_neg h1] at he
  by_cases h4:lookE es m=none∧es.length=400
  ·rw [if_pos h4] at he
   injection he with he
   subst he
   obtain ⟨h5,h6⟩:=h4
   have h2':¬ (64:Int)<(m.size:Int):=by omega
   have h3:¬ lv<1:=by omega
   have h3':¬ 32<lv:=by omega
   have hfi:=fun W' (hc:Chg (fun _ => False) W W') => findR_any v es m W' ((h.chg0 hc).own.r) (by omega)
   rw [findI_no h5] at hfi
   obtain ⟨vp,vc,hvv,_,_⟩:=h.val
   rw [h6] at hvv
   subst hvv
   unfold pt
   clear h5 h h1
   go_enter Tryz.func58,Tryz.ntmps58
   go_wp2_with (go_at_call 83;refine (hfi _ (Chg.refl _ _)).mono ?_;rintro r9 w1 ⟨rfl,rfl⟩)
   go_ret2
   exact ⟨rfl,_,HH.out,Chg.refl _ _⟩
  ·rw [if_neg h4] at he;cases he
theorem rf_add (h:Rf w0 W rb es is E M v) (m:ByteArray) (s lv:Int) (hs:-9223372036854775808≤s∧s≤9223372036854775807):Calls Tryz.prog 58 #[pt rb,.string m,.int .i64 s,.int .i64 lv] W (RPost w0 rb (addL es m s lv) (addI es m s lv E M is) E M (.tuple #[.bool (addR es m lv).1,.int .i64 (addR es m lv).2]) W):=by
 unfold addL addI addR
 cases he:addNo es m lv with
 | some e => exact rf_add_no h m s lv e he
 | none =>
  dsimp only
  cases hl:lookE es m with
  | none => exact rf_add_none h m s lv hs he hl _ rfl
  | some so => exact rf_add_some h m s lv hs he so hl _ rfl
end
end Go.Proofs.YtehpmbmdadkhbaaGreatDoor

namespace Go.Proofs.YtehpmbmdadkhbaaGreatDoor
open Go.RowKit Pal
attribute [local go_sem] Oper.semAt_some
section
variable {w0 W W' W1:World} {rb:Nat} {es l1:List En} {is:Bool} {E M:Nat} {v v1:Value}
end
end Go.Proofs.YtehpmbmdadkhbaaGreatDoor

namespace Go.Proofs.YtehpmbmdadkhbaaGreatDoor
open Go.RowKit Pal
structure Ri where
 key:ByteArray
 rb:Nat
 v:Value
 es:List En
 is:Bool
 u:Us
def Ri.ct (i:Ri):Ct:=⟨i.key,i.es,i.is,i.u⟩
def Ri.cells (i:Ri):List Value:=[.string i.key,pt i.rb,.int .i64 i.u.c,.int .i64 i.u.a]
def Items (w:World) (base:Nat) (v:Value) (l:List Ri):Prop:=OwnL 94 4 Ri.cells w base v l
theorem ri_cells (i:Ri):i.cells.length=4:=rfl
theorem item_info:(Tryz.prog.info? 94).map (fun i => (i.zero,i.size,i.bytes))=some (some (.agg #[.string ⟨#[]⟩,.pointer none,.int .i64 0,.int .i64 0]),4,40):=by kernel_rfl
theorem items_one (l:List Ri):∀ u∈l.flatMap Ri.cells,u.oneCell'=true:=by
 intro u hu
 obtain ⟨x,_,hx⟩:=List.mem_flatMap.1 hu
 unfold Ri.cells at hx
 simp only [List.mem_cons,List.not_mem_nil,or_false] at hx
 rcases hx with rfl | rfl | rfl | rfl <;> rfl
structure Rs where
 blk:Nat
 E:Int
 M:Int
 seed:Nat
 mx:Int
 v:Value
 its:List Ri
structure RsAt (w0 W:World) (s:Rs):Prop where
 b:Blk W s.blk 63 #[s.v,.int .i64 s.E,.int .i64 s.M,.int .u32 (s.seed:Int),.int .i64 s.mx]
 own:Items W w0.heap.size s.v s.its
 ge:w0.heap.size≤s.blk
 it:∀ i∈s.its,Rf w0 W i.rb i.es i.is (clampL 200 s.E) (clampL 64 s.M) i.v
 u:∀ i∈s.its,i.u.Ok
 k:∀ i∈s.its,i.key.size≤64
 so:SoK Ri.key s.its
 n:s.its.length≤500
def Rs.foot (s:Rs) (g:Nat):Prop:=g=s.blk∨s.v.ownBlock=some g∨∃ i∈s.its,g=i.rb∨i.v.ownBlock=some g
section
variable {w0 W W':World} {s:Rs}
theorem RsAt.chg {S:Nat→Prop} (h:RsAt w0 W s) (hc:Chg S W W') (hn:∀ g,s.foot g→¬ S g):RsAt w0 W' s :=
 { h with b:=h.b.chg hc (hn _ (.inl rfl)),own:=OwnL.chg h.own hc fun g hg => hn g (.inr (.inl hg)),it:=fun i hi => (h.it i hi).keep hc (hn _ (.inr (.inr ⟨i,hi,.inl rfl⟩))) fun g hg => hn g (.inr (.inr ⟨i,hi,.inr hg⟩)) }
theorem RsAt.chg0 (h:RsAt w0 W s) (hc:Chg (fun _ => False) W W'):RsAt w0 W' s:=h.chg hc fun _ _ => id
theorem RsAt.lt (h:RsAt w0 W s) {g:Nat} (hg:s.foot g):w0.heap.size≤g∧g<W.heap.size:=by
 rcases hg with rfl | hg | ⟨i,hi,rfl | hg⟩
 ·exact ⟨h.ge,h.b.lt⟩
 ·exact h.own.own.lt g hg
 ·exact ⟨(h.it i hi).ge,(h.it i hi).b.lt⟩
 ·exact World.ownsRow.lt (h.it i hi).own g hg
theorem RsAt.cells (h:RsAt w0 W s):W.cell? ⟨s.blk,0,none⟩=some s.v∧W.cell? ⟨s.blk,1,none⟩=some (.int .i64 s.E)∧W.cell? ⟨s.blk,2,none⟩=some (.int .i64 s.M)∧s.blk<W.heap.size∧W.frozen? ⟨s.blk,0,none⟩=false:=by
 have h0:=h.b.cell 0
 have h1:=h.b.cell 1
 have h2:=h.b.cell 2
 exact ⟨by simpa using h0,by simpa using h1,by simpa using h2,h.b.lt,h.b.frozen 0⟩
end
end Go.Proofs.YtehpmbmdadkhbaaGreatDoor

namespace Go.Proofs.YtehpmbmdadkhbaaGreatDoor
open Go.RowKit Pal
attribute [local go_sem] Oper.semAt_some
def AtR (its:List Ri) (k:ByteArray) (v:Value):Prop:=(∃ (j:Nat) (i:Ri),its[j]?=some i∧i.key=k∧v=.int .i64 (j:Int))∨((∀ i∈its,i.key≠k)∧v=.int .i64 (-1))
section
variable {w0 W:World} {s:Rs}
theorem beq_strK (a b:ByteArray):(a.toList == b.toList)=decide (a=b):=by
 by_cases h:a=b
 ·subst h;rw [toListE,decide_eq_true rfl]
 ·rw [toListN h,decide_eq_false h]
set_option maxRecDepth 100000 in
set_option maxHeartbeats 1000000 in
theorem rs_at (h:RsAt w0 W s) (k:ByteArray):Calls Tryz.prog 42 #[pt s.blk,.string k] W fun r W' => (∃ v,r=.returned v∧AtR s.its k v)∧W=W':=by
 obtain ⟨c0,_,_,l0,_⟩:=h.cells
 have hn:=h.n
 obtain ⟨p,cap,hv,hcap,hcap2,_⟩:=OwnL.is h.own
 have hown:=h.own
 rw [hv] at c0 hown
 have hat:=fun j (hj:j<s.its.length) => OwnL.at_ hown ri_cells (List.getElem?_eq_getElem hj)
 have hn2:(s.its.length:Int)≤500:=by omega
 unfold pt
 generalize s.its=its at *
 go_enter Tryz.func42,Tryz.ntmps42
 go_wp2_with fail
 go_loopg [5] its.length (fun n vi Wr => ∃ j:Nat,vi=.int .i64 (j:Int)∧n=its.length - j∧j≤its.length∧(∀ i∈its.take j,i.key≠k)∧W=Wr)
 case atStart => exact ⟨0,rfl,rfl,Nat.zero_le _,by simp,rfl⟩
 case round =>
  obtain ⟨j,rfl,rfl,hj,hno,rfl⟩:=hrel
  by_cases hjl:j<its.length
  ·have h3:(j:Int)<(its.length:Int):=by omega
   obtain ⟨gb,gc,hge,_,_,hlt,hcell⟩:=hat j hjl
   injection hge with e1 _ _
   subst e1
   have hc0:=hcell 0 _ rfl
   have hta:its.take (j+1)=its.take j++[its[j]]:=by rw [List.take_add_one,List.getElem?_eq_getElem hjl];rfl
   have hgx:its[j]?=some its[j]:=List.getElem?_eq_getElem hjl
   rw [Nat.add_zero] at hc0
   generalize its[j]=x at hc0 hta hgx
   have hbq:(x.key.toList == k.toList)=decide (x.key=k):=beq_strK _ _
   have HT:=Lib.hid hta
   have HX:=Lib.hid hgx
   clear hta hgx hat hown hcell
   by_cases he:x.key=k
   ·rw [decide_eq_true he] at hbq
    have HE:=Lib.hid he
    clear he
    go_wp2_with fail
    go_ret
    exact ⟨⟨_,rfl,.inl ⟨j,x,HX.out,HE.out,rfl⟩⟩,rfl⟩
   ·rw [decide_eq_false he] at hbq
    have HE:=Lib.hid he
    clear he
    go_wp2_with fail
    go_roundg (its.length - (j+1))
    case measure => omega
    case rel =>
     refine ⟨j+1,rfl,rfl,by omega,?_,rfl⟩
     rw [HT.out]
     intro i hi
     rcases List.mem_append.1 hi with hi | hi
     ·exact hno i hi
     ·rw [List.mem_singleton.1 hi];exact HE.out
  ·have h3:¬ (j:Int)<(its.length:Int):=by omega
   obtain rfl:j=its.length:=by omega
   rw [List.take_length] at hno
   clear hat hown
   go_wp2_with fail
   go_ret
   exact ⟨⟨_,rfl,.inr ⟨hno,rfl⟩⟩,rfl⟩
end
def withR (k:ByteArray) (x:List Ri):Bool→List Ri→List Ri
 | d,[] => if d then [] else x
 | d,i :: l => (if d=false∧ltB k i.key then x else [])++((if i.key=k then [] else [i])++withR k x (d || decide (ltB k i.key)) l)
theorem withR_true (k:ByteArray) (x:List Ri):∀ (l:List Ri),(∀ i∈l,i.key≠k)→withR k x true l=l
 | [],_ => rfl
 | i :: l,h => by
  unfold withR
  rw [if_neg (by simp),if_neg (h i (List.mem_cons_self)),Bool.true_or,withR_true k x l fun j hj => h j (List.mem_cons_of_mem _ hj)]
  rfl
theorem withR_ins (x:Ri):∀ (l:List Ri),(∀ i∈l,i.key≠x.key)→SoK Ri.key l→withR x.key [x] false l=insK Ri.key x l
 | [],_,_ => rfl
 | i :: l,h,so => by
  unfold withR insK
  rw [if_neg (h i (List.mem_cons_self)),Bool.false_or]
  by_cases hl:ltB x.key i.key
  ·rw [if_pos ⟨rfl,hl⟩,if_pos hl,decide_eq_true hl,withR_true _ _ _ fun j hj => h j (List.mem_cons_of_mem _ hj)];rfl
  ·rw [if_neg (fun h2 => hl h2.2),if_neg hl,decide_eq_false hl,withR_ins x l (fun j hj => h j (List.mem_cons_of_mem _ hj)) (List.Pairwise.of_cons so)];rfl
end Go.Proofs.YtehpmbmdadkhbaaGreatDoor

namespace Go.Proofs.YtehpmbmdadkhbaaGreatDoor
open Go.RowKit Pal
attribute [local go_sem] Oper.semAt_some
structure DrsAt (w:World) (v:Value) (ds:List Nat):Prop where
 is:∃ p cap,v=.slice p ds.length cap∧ds.length≤cap∧cap≤maxLen
 at_:∀ (i d:Nat),ds[i]?=some d→∃ b o cap,v=.slice (some ⟨b,o,none⟩) ds.length cap∧b<w.heap.size∧w.cell? ⟨b,o+i,none⟩=some (.int .u32 (d:Int))∧d<4294967296
theorem cell_block {w:World} {b o:Nat} {v:Value} (h:w.cell? ⟨b,o,none⟩=some v):∃ cs t f,w.heap[b]?=some (Obj.cells cs t f):=by
 unfold World.cell? at h
 cases hb:w.heap[b]? with
 | none => simp [hb] at h
 | some x =>
  cases x with
  | cells cs t f => exact ⟨cs,t,f,rfl⟩
  | _ => simp [hb] at h
theorem cell_same {w w':World} {b o:Nat} (h:w'.heap[b]?=w.heap[b]?):w'.cell? ⟨b,o,none⟩=w.cell? ⟨b,o,none⟩:=by
 unfold World.cell?
 rw [h]
theorem DrsAt.chg {S:Nat→Prop} {w w':World} {v:Value} {ds:List Nat} (h:DrsAt w v ds) (hc:Chg S w w') (hn:∀ b o n c,v=.slice (some ⟨b,o,none⟩) n c→¬ S b):DrsAt w' v ds :=
 ⟨h.is,fun i d hd => by
  obtain ⟨b,o,cap,h1,h2,h3,h4⟩:=h.at_ i d hd
  exact ⟨b,o,cap,h1,Nat.lt_of_lt_of_le h2 hc.size,(cell_same (hc.block b h2 (hn _ _ _ _ h1))).trans h3,h4⟩⟩
theorem DrsAt.chg0 {w w':World} {v:Value} {ds:List Nat} (h:DrsAt w v ds) (hc:Chg (fun _ => False) w w'):DrsAt w' v ds:=h.chg hc fun _ _ _ _ _ => id
theorem DrsAt.nil (w:World) (p:Option Addr) (c:Nat) (hc:c≤maxLen):DrsAt w (.slice p 0 c) []:=⟨⟨p,c,rfl,Nat.zero_le _,hc⟩,fun i d h => by simp at h⟩
theorem DrsAt.recap {w:World} {p:Option Addr} {c:Nat} {ds:List Nat} (h:DrsAt w (.slice p ds.length c) ds) {c':Nat} (h1:ds.length≤c') (h2:c'≤maxLen):DrsAt w (.slice p ds.length c') ds :=
 ⟨⟨p,c',rfl,h1,h2⟩,fun i d hd => by
  obtain ⟨b,o,cap,he,k1,k2,k3⟩:=h.at_ i d hd
  injection he with he1 _ _
  subst he1
  exact ⟨b,o,c',rfl,k1,k2,k3⟩⟩
set_option maxRecDepth 100000 in
theorem nextE_any (v:Value) (ds:List Nat) (w:World) (h:DrsAt w v ds):Calls Tryz.prog 36 #[v] w fun r w' => (∃ v1 v2,r=.returned (.tuple #[v1,v2])∧DrsAt w' v1 (ds.take 5)∧DrsAt w' v2 (ds.drop 5)∧(∀ b o n c,v1=.slice (some ⟨b,o,none⟩) n c→∃ o' n' c',v=.slice (some ⟨b,o',none⟩) n' c')∧(ds.drop 5≠[]→∀ b o n c,v2=.slice (some ⟨b,o,none⟩) n c→∃ o' n' c',v=.slice (some ⟨b,o',none⟩) n' c'))∧Chg (fun _ => False) w w':=by
 obtain ⟨p,c,rfl,hc1,hc2⟩:=h.is
 by_cases h5:5<ds.length
 ·have hm:min (ds.length:Int) 5=5:=by omega
  have hc5:¬ c=5:=by omega
  have hc6:(c == 5)=false:=by rw [beq_eq_false_iff_ne];exact hc5
  have hh:=h
  obtain ⟨b,o,cap,he,hb,_,_⟩:=h.at_ 0 _ (List.getElem?_eq_getElem (by omega))
  injection he with he1 _ he2
  subst he1 he2
  have h1:(5:Int)≤c:=by omega
  have h2:(5:Int)≤ds.length:=by omega
  clear h
  go_enter Tryz.func36,Tryz.ntmps36
  go_wp2_with fail
  go_quiet (fail)
  go_wp2_with fail
  go_ret2
  have hC:Chg (fun _ => False) w (w.drewN nq):=(Chg.refl _ w).drewN nq
  refine ⟨⟨.slice (some ⟨b,o,none⟩) 5 5,.slice (some ⟨b,o+5,none⟩) (ds.length - 5) (c - 5),rfl,?_,?_,fun b' o' n' c' e => by injection e with e;injection e with e;injection e with e1 _;exact ⟨_,_,_,by rw [e1]⟩,fun _ b' o' n' c' e => by injection e with e;injection e with e;injection e with e1 _;exact ⟨_,_,_,by rw [e1]⟩⟩,hC⟩
  ·refine ⟨⟨_,5,by rw [List.length_take,show min 5 ds.length=5 by omega],by rw [List.length_take];omega,by unfold maxLen;omega⟩,fun i d hd => ?_⟩
   rw [List.getElem?_take] at hd
   split at hd
   ·obtain ⟨b',o',cap',he',k1,k2,k3⟩:=(hh.chg0 hC).at_ i d hd
    injection he' with he1 _ _
    injection he1 with he1
    injection he1 with e1 e2
    subst e1 e2
    exact ⟨b,o,5,by rw [List.length_take,show min 5 ds.length=5 by omega],k1,k2,k3⟩
   ·cases hd
  ·refine ⟨⟨_,c - 5,by rw [List.length_drop],by rw [List.length_drop];omega,by omega⟩,fun i d hd => ?_⟩
   rw [List.getElem?_drop] at hd
   obtain ⟨b',o',cap',he',k1,k2,k3⟩:=(hh.chg0 hC).at_ (5+i) d hd
   injection he' with he1 _ _
   injection he1 with he1
   injection he1 with e1 e2
   subst e1 e2
   exact ⟨b,o+5,c - 5,by rw [List.length_drop],k1,by rw [show o+5+i=o+(5+i) by omega];exact k2,k3⟩
 ·have hm:min (ds.length:Int) 5=ds.length:=by omega
  have hle:(ds.length:Int)≤5:=by omega
  have h1:(ds.length:Int)≤c:=by omega
  have ht:ds.take 5=ds:=List.take_of_length_le (by omega)
  have hd:ds.drop 5=[]:=List.drop_eq_nil_of_le (by omega)
  rw [ht,hd]
  have hh:=h
  clear h h5 ht hd
  by_cases hcl:c=ds.length
  ·subst hcl
   go_enter Tryz.func36,Tryz.ntmps36
   go_wp2_with fail
   go_quiet (fail)
   go_wp2_with fail
   go_ret2
   exact ⟨⟨.slice p ds.length ds.length,.slice p 0 0,rfl,hh.chg0 ((Chg.refl _ w).drewN nq),DrsAt.nil _ _ _ (by unfold maxLen;omega),fun b' o' n' c' e => by injection e with e _ _;exact ⟨_,_,_,by rw [e]⟩,fun h => absurd rfl h⟩,(Chg.refl _ w).drewN nq⟩
  ·have hc6:(c == ds.length)=false:=by rw [beq_eq_false_iff_ne];exact hcl
   go_enter Tryz.func36,Tryz.ntmps36
   go_wp2_with fail
   go_quiet (fail)
   go_wp2_with fail
   go_ret2
   exact ⟨⟨.slice p ds.length ds.length,.slice (Option.map (fun x => x.add ds.length) p) 0 (c - ds.length),rfl,(hh.chg0 ((Chg.refl _ w).drewN nq)).recap (Nat.le_refl _) (by omega),DrsAt.nil _ _ _ (by omega),fun b' o' n' c' e => by injection e with e _ _;exact ⟨_,_,_,by rw [e]⟩,fun h => absurd rfl h⟩,(Chg.refl _ w).drewN nq⟩
structure DrsF (F:Nat→Prop) (w:World) (v:Value) (ds:List Nat):Prop where
 d:DrsAt w v ds
 n:ds≠[]→∀ b o n c,v=.slice (some ⟨b,o,none⟩) n c→¬ F b
theorem DrsF.lt {F:Nat→Prop} {w:World} {b o n c:Nat} {ds:List Nat} (h:DrsF F w (.slice (some ⟨b,o,none⟩) n c) ds) (hne:ds≠[]):b<w.heap.size:=by
 obtain ⟨b',o',cap,he,h1,_⟩:=h.d.at_ 0 _ (List.getElem?_eq_getElem (List.length_pos_iff.2 hne))
 injection he with he _ _
 injection he with he
 injection he with e1 _
 rw [e1];exact h1
theorem DrsF.step {F F':Nat→Prop} {w w':World} {v:Value} {ds:List Nat} (h:DrsF F w v ds) (hc:Chg F w w') (hf:∀ g,F' g→F g∨w.heap.size≤g):DrsF F' w' v ds:=by
 by_cases hne:ds=[]
 ·subst hne
  exact ⟨⟨h.d.is,fun i d h => by simp at h⟩,fun h => absurd rfl h⟩
 ·refine ⟨h.d.chg hc (h.n hne),fun _ b o n c e hF => ?_⟩
  subst e
  rcases hf b hF with h1 | h1
  ·exact h.n hne b o n c rfl h1
  ·have:=h.lt hne;omega
theorem DrsF.chg0 {F:Nat→Prop} {w w':World} {v:Value} {ds:List Nat} (h:DrsF F w v ds) (hc:Chg (fun _ => False) w w'):DrsF F w' v ds:=h.step (hc.mono fun _ _ h => h.elim) fun _ => .inl
theorem nextF_any (v:Value) (ds:List Nat) (F:Nat→Prop) (w:World) (h:DrsF F w v ds):Calls Tryz.prog 36 #[v] w fun r w' => (∃ v1 v2,r=.returned (.tuple #[v1,v2])∧DrsF F w' v1 (ds.take 5)∧DrsF F w' v2 (ds.drop 5))∧Chg (fun _ => False) w w':=by
 refine (nextE_any v ds w h.d).mono ?_
 rintro r w' ⟨⟨v1,v2,rfl,h1,h2,h3,h4⟩,hc⟩
 refine ⟨⟨v1,v2,rfl,⟨h1,fun hne b o n c e => ?_⟩,⟨h2,fun hne b o n c e => ?_⟩⟩,hc⟩
 ·obtain ⟨o',n',c',e'⟩:=h3 b o n c e
  exact h.n (fun h0 => hne (by rw [h0];rfl)) b o' n' c' e'
 ·obtain ⟨o',n',c',e'⟩:=h4 hne b o n c e
  exact h.n (fun h0 => hne (by rw [h0];rfl)) b o' n' c' e'
def plcs (n:Nat) (ds:List Nat):List Nat:=(List.range 5).map fun i => ds.getD i 0 % n
theorem plcs_len (n:Nat) (ds:List Nat):(plcs n ds).length=5:=by unfold plcs;simp
theorem plcs_get {n:Nat} {ds:List Nat} {i:Nat} (h:i<5):(plcs n ds)[i]?=some (ds.getD i 0 % n):=by unfold plcs;rw [List.getElem?_map,List.getElem?_range h];rfl
def pcF (v:Value) (a:Nat) (g:Nat):Prop:=g=a∨g=a+1∨∃ o n c,0<n∧v=.slice (some ⟨g,o,none⟩) n c
theorem DrsAt.same {w w':World} {v:Value} {ds:List Nat} (h:DrsAt w v ds) (hs:w.heap.size≤w'.heap.size) (hF:∀ g o n c,0<n→v=.slice (some ⟨g,o,none⟩) n c→w'.heap[g]?=w.heap[g]?):DrsAt w' v ds :=
 ⟨h.is,fun i d hd => by
  obtain ⟨b,o,cap,h1,h2,h3,h4⟩:=h.at_ i d hd
  have h0:0<ds.length:=Nat.lt_of_le_of_lt (Nat.zero_le i) (List.getElem?_eq_some_iff.1 hd).1
  exact ⟨b,o,cap,h1,Nat.lt_of_lt_of_le h2 hs,(cell_same (hF b o _ cap h0 h1)).trans h3,h4⟩⟩
def pcIt (v:Value) (n:Nat) (ds r:List Nat) (W:World):Prop:=DrsAt W v ds∧∃ pre,pre++r=plcs n ds
def pcIt0 (v:Value) (a n:Nat) (ds r:List Nat) (W:World):Prop:=DrsAt W v ds∧Blk W a 3 #[.int .i64 (n:Int)]∧Blk W (a+1) 28 #[v]∧r=plcs n ds
set_option maxRecDepth 100000 in
set_option maxHeartbeats 4000000 in
theorem places1_any (v:Value) (a n:Nat) (hn:0<n) (hn2:n≤1000000) (ds:List Nat) (l:Nat) (I:List Nat→World→Prop) (Ix:World→Prop) (hI:∀ r W W',I r W→Chg (fun _ => False) W W'→I r W')
  (hY:∀ x r W,I (x :: r) W→pcIt v n ds (x :: r) W→YieldAt Fence.wide 2 Tryz.prog l #[.int .i64 (x:Int)] W fun e W' => W.heap.size≤W'.heap.size∧(∀ k,pcF v a k→W'.heap[k]?=W.heap[k]?)∧((e=.returned (.bool true)∧I r W')∨(e=.returned (.bool false)∧Ix W')))
  (w:World) (h0:I (plcs n ds) w) (h:DrsAt w v ds) (hb:Blk w a 3 #[.int .i64 (n:Int)]) (hb2:Blk w (a+1) 28 #[v]) :
  Calls Tryz.prog 62 #[.func (.yield l) #[] #[],pt (a+1),pt a] w fun e W' => (∃ u,e=.returned u)∧(I [] W'∨Ix W'):=by
 obtain ⟨p,c,rfl,h1,h2⟩:=h.is
 unfold pcIt at hY
 unfold pt
 go_enter Tryz.func62,Tryz.ntmps62
 go_wp2_with fail
 refine (wpIn_wide (n:=3)).1 ?_
 gi_loopg [6] 5 (fun m vi W => ∃ pre r,pre++r=plcs n ds∧m=r.length∧vi=.int .i64 (pre.length:Int)∧I r W∧DrsAt W (.slice p ds.length c) ds∧Blk W a 3 #[.int .i64 (n:Int)]∧Blk W (a+1) 28 #[.slice p ds.length c])
 case atStart => exact ⟨[],plcs n ds,rfl,(plcs_len n ds).symm,rfl,h0,h,hb,hb2⟩
 case round =>
  clear h h0 hb hb2
  obtain ⟨pre,r,hpr,rfl,rfl,hIr,hE,hB,hB2⟩:=hrel
  have hl2:pre.length+r.length=5:=by rw [← plcs_len n ds,← hpr,List.length_append]
  have HPR:=Lib.hid hpr
  have q0:=hB.cell 0
  have ql:=hB.lt
  have q1:=hB2.cell 0
  have qm:=hB2.lt
  simp only [List.getElem?_toArray,List.getElem?_cons_zero] at q0 q1
  cases r with
  | nil =>
   have hle:¬ (pre.length:Int)<5:=by rw [List.length_nil] at hl2;omega
   have HL2:=Lib.hid hl2
   clear hl2 hpr
   gi_wp2
   go_end0
   exact ⟨⟨_,rfl⟩,.inl hIr⟩
  | cons y r =>
   rw [List.length_cons] at hl2
   have hlt:(pre.length:Int)<5:=by omega
   have hy:y=ds.getD pre.length 0 % n:=by
    have e:=plcs_get (n:=n) (ds:=ds) (show pre.length<5 by omega)
    rw [← hpr,List.getElem?_append_right (Nat.le_refl _),Nat.sub_self,List.getElem?_cons_zero] at e
    injection e
   have HY:=Lib.hid hy
   have HL2:=Lib.hid hl2
   have hn0:((n:Int) == 0)=false:=by rw [beq_eq_false_iff_ne];omega
   clear hl2 hpr hy
   by_cases hd:pre.length<ds.length
   ·have hd3:(pre.length:Int)<(ds.length:Int):=by omega
    have hg:=List.getElem?_eq_getElem hd
    have hgd:ds.getD pre.length 0=ds[pre.length]:=getD_at _ _ hd
    generalize ds[pre.length]=d at hg hgd
    obtain ⟨b,o,cap,he,k1,k2,k3⟩:=hE.at_ _ d hg
    injection he with he1 _ he2
    subst he1 he2
    have hw1:wrap64 (d:Int)=d:=by unfold wrap64;omega
    have hyy:(d:Int).tmod n=(y:Int):=by
     rw [HY.out,hgd,Int.tmod_eq_emod_of_nonneg (Int.natCast_nonneg d)];exact (Int.natCast_emod d n).symm
    have hye:(d:Int) % n=(y:Int):=by rw [HY.out,hgd];exact (Int.natCast_emod d n).symm
    have hy4:(y:Int)≤1000000:=by
     have:=Nat.mod_lt (ds.getD pre.length 0) hn
     rw [← HY.out] at this;omega
    have hwy:wrap64 (y:Int)=y:=by unfold wrap64;omega
    have HG:=Lib.hid hg
    have HGD:=Lib.hid hgd
    obtain ⟨fn,tmps,assign,body,hy',hR⟩:=hY y r wr hIr ⟨hE,pre,HPR.out⟩
    clear hg hgd
    gi_wp2
    refine hR.mono ?_
    rintro e W3 ⟨hsz,hF,⟨rfl,hI3⟩ | ⟨rfl,hx3⟩⟩
    ·have hE3:=hE.same hsz fun g o n c h0 hv => hF g (.inr (.inr ⟨o,n,c,h0,hv⟩))
     have hB3:Blk W3 a 3 #[.int .i64 (n:Int)]:=(hF a (.inl rfl)).trans hB
     have hB4:Blk W3 (a+1) 28 #[.slice (some ⟨b,o,none⟩) ds.length c]:=(hF (a+1) (.inr (.inl rfl))).trans hB2
     clear hF
     gi_wp2
     gi_roundg r.length
     case rel => exact ⟨pre++[y],r,by rw [List.append_assoc];exact HPR.out,rfl,int_eq (by rw [List.length_append,List.length_cons,List.length_nil];omega),hI3,hE3,hB3,hB4⟩
     case measure => rw [List.length_cons];omega
    ·gi_wp2
     refine bodyPost_ret (results_none rfl _ _ _) rfl ?_
     exact ⟨⟨_,rfl⟩,.inr hx3⟩
   ·have hd3:¬ (pre.length:Int)<(ds.length:Int):=by omega
    have hgd:ds.getD pre.length 0=0:=by rw [List.getD_eq_getElem?_getD,List.getElem?_eq_none (by omega)];rfl
    have hyy:y=0:=by rw [HY.out,hgd];exact Nat.zero_mod n
    obtain ⟨fn,tmps,assign,body,hy',hR⟩:=hY y r wr hIr ⟨hE,pre,HPR.out⟩
    subst hyy
    simp only [Int.ofNat_zero,Int.natCast_zero,Int.cast_ofNat_Int] at hy'
    clear hgd
    gi_wp2
    refine hR.mono ?_
    rintro e W3 ⟨hsz,hF,⟨rfl,hI3⟩ | ⟨rfl,hx3⟩⟩
    ·have hE3:=hE.same hsz fun g o n c h0 hv => hF g (.inr (.inr ⟨o,n,c,h0,hv⟩))
     have hB3:Blk W3 a 3 #[.int .i64 (n:Int)]:=(hF a (.inl rfl)).trans hB
     have hB4:Blk W3 (a+1) 28 #[.slice p ds.length c]:=(hF (a+1) (.inr (.inl rfl))).trans hB2
     clear hF
     gi_wp2
     gi_roundg r.length
     case rel => exact ⟨pre++[0],r,by rw [List.append_assoc];exact HPR.out,rfl,int_eq (by rw [List.length_append,List.length_cons,List.length_nil];omega),hI3,hE3,hB3,hB4⟩
     case measure => rw [List.length_cons];omega
    ·gi_wp2
     refine bodyPost_ret (results_none rfl _ _ _) rfl ?_
     exact ⟨⟨_,rfl⟩,.inr hx3⟩
end Go.Proofs.YtehpmbmdadkhbaaGreatDoor
