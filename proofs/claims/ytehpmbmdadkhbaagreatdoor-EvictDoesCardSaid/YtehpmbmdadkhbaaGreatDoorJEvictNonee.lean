/- Texts joined for EvictNone: SKK, SKL, SKN, SKC, SKJ, ZP, ZP2, ZE, ZA, ZP3, ZP4. -/
import Derived.Test.YtehpmbmdadkhbaaGreatDoorJEvictNonec
import Derived.Test.YtehpmbmdadkhbaaGreatDoorJEvictNoned
import Derived.Deep.LoopGhost
import Derived.Stop.RegionWithIn
import Derived.Outline
import Derived.LaidEqlPtr
import Derived.Lib.LazyBuf
import Derived.Deep.RegionHeld3
set_option linter.unusedVariables false
set_option linter.unusedSimpArgs false

namespace Go.Proofs.YtehpmbmdadkhbaaGreatDoor
open Go.RowKit Pal Pal.Skip
attribute [local go_sem] Oper.semAt_some
theorem go_ptr (s:Sk) (o:Option Nat):∃ p,s.go o=.pointer p:=by
 cases o with
 | none => exact ⟨_,rfl⟩
 | some q => exact ⟨_,rfl⟩
theorem nd_ptr (s:Sk) (p:Nat):∃ q,s.nd p=.pointer q:=by
 unfold Sk.nd
 split
 ·exact ⟨_,rfl⟩
 ·exact ⟨_,rfl⟩
theorem nxt0_of {s:Sk} (hlo:∀ y∈s.ns,1≤y.lvl∧y.lvl≤32) (k:Nat):nxt s.lv 0 k=if k<s.n then some (k+1) else none:=by
 have hp:∀ p,1≤p→p≤s.n→ab s.lv 0 p:=fun p h1 h2 => by
  refine ⟨h1,by rw [s.lv_len];exact h2,?_⟩
  unfold Sk.lv
  rw [List.getD_eq_getElem?_getD,List.getElem?_map,List.getElem?_eq_getElem (by unfold Sk.n at h2;omega)]
  exact (hlo _ (List.getElem_mem _)).1
 split
 ·rename_i hk
  exact nxt_some.2 ⟨Nat.lt_succ_self _,hp _ (by omega) hk,fun r h1 h2 => by omega⟩
 ·rename_i hk
  exact nxt_none.2 fun r h1 h2 => by have:=h2.2.1;rw [s.lv_len] at this;omega
theorem put_foot {s:Sk} {k:Nat} {x:Sn} {g:Nat} (hk:k≤s.n) (h:s.foot g):(s.put k x).foot g:=by
 obtain ⟨p,hp,rfl⟩:=h
 have hp:p≤s.n:=hp
 refine ⟨if p≤k then p else p+1,by show _≤(s.put k x).n;rw [Sk.put_n hk];split <;> omega,?_⟩
 show s.at_ p=(s.put k x).at_ _
 rw [Sk.put_at hk]
 by_cases h1:p≤k
 ·rw [if_pos h1,if_pos h1]
 ·rw [if_neg h1,if_neg (by omega),if_neg (by omega),Nat.add_sub_cancel]
def TakesPost (s s':Sk) (w:World) (base:Nat) (r:Ending) (w':World):Prop:=(∃ v,r=.returned v)∧SkAt w' base s∧Chg s'.foot w w'
set_option maxRecDepth 100000 in
set_option maxHeartbeats 4000000 in
theorem takes_any (s:Sk) (k:Nat) (x:Sn) (w:World) (base:Nat) (h:SkAt w base (s.put k x)) (hk:k≤s.n) (hn:s.n≤10000) :
  Calls Tryz.prog 237 #[pt s.blk,pt x.blk,.agg ((s.put k x).nodesL k 0).toArray] w (TakesPost s (s.put k x) w base):=by
 have hmem:∀ y,y∈(s.put k x).ns ↔ y∈s.ns∨y=x:=fun y => by
  show y∈s.ns.take k++x :: s.ns.drop k ↔ _
  rw [List.mem_append,List.mem_cons]
  conv => rhs;rw [← List.take_append_drop k s.ns]
  rw [List.mem_append]
  constructor
  ·rintro (h | h | h)
   ·exact .inl (.inl h)
   ·exact .inr h
   ·exact .inl (.inr h)
  ·rintro ((h | h) | h)
   ·exact .inl h
   ·exact .inr (.inr h)
   ·exact .inr (.inl h)
 have hlo:∀ y∈s.ns,1≤y.lvl∧y.lvl≤32:=fun y hy => h.lo y ((hmem y).2 (.inl hy))
 obtain ⟨hx1,hx2⟩:=h.lo x ((hmem x).2 (.inr rfl))
 clear hmem
 obtain ⟨_,ht,_,hlt,hfr⟩:=h.head
 have hTop:=h.top_le
 have htop:top (s.put k x).lv=max (top s.lv) x.lvl:=by rw [Sk.put_lv,top_ins]
 rw [htop] at ht hTop
 obtain ⟨N,hN⟩:∃ N,(s.put k x).nodesL k 0=N:=⟨_,rfl⟩
 have hget:∀ j,j<max (top s.lv) x.lvl→N[j]?=some (pt (s.at_ (prev s.lv j k))):=fun j hj => by
  rw [← hN,(s.put k x).nodesL_get k (by rw [htop];exact hj) (by omega),Sk.put_lv,prev_put hk,Sk.put_at hk,if_pos (prev_spec _ _ _).1]
 have hNl:N.length=32:=by rw [← hN];unfold Sk.nodesL;simp
 rw [hN]
 have hV:=out_start h.v hk
 have hbx:(s.put k x).blk=s.blk:=rfl
 rw [hbx] at ht hlt hfr
 clear htop hN
 obtain ⟨T,hT⟩:∃ T,max (top s.lv) x.lvl=T:=⟨_,rfl⟩
 rw [hT] at hV ht hget hTop
 have hfl:∀ g,(s.put k x).foot g→g<w.heap.size:=fun g hg => (h.lt hg).2
 have hTx:x.lvl≤T:=by omega
 have hTt:top s.lv≤T:=by omega
 replace hT:=Lib.hid hT
 unfold pt
 go_enter Tryz.func237,Tryz.ntmps237
 go_wp2_with fail
 have hP:=Blk.new w 268 N.toArray
 have hV1:=hV.chg0 ((Chg.refl _ w).alloc (.cells N.toArray 268))
 have hC1:=(Chg.refl (s.put k x).foot w).alloc (.cells N.toArray 268)
 have hBl:∀ g,(s.put k x).foot g→g≠w.heap.size:=fun g hg => by have:=hfl g hg;omega
 clear ht hlt hfr hV
 generalize w.alloc (.cells N.toArray 268)=W1 at hP hV1 hC1 ⊢
 have hx:s.put k x={ s with ns:=(s.put k x).ns }:=rfl
 have hgx:(s.put k x).ns[k]?=some x:=by rw [Sk.put_get hk,if_neg (by omega),if_pos rfl]
 generalize w.heap.size=B at hP hBl ⊢
 go_loopg [13] T (fun j v W => ∃ i:Nat,v=.int .i64 (i:Int)∧j=T - i∧i≤T∧SvAt W base (outV s k x T i)∧Chg (s.put k x).foot w W∧Blk W B 268 N.toArray)
 case atStart => exact ⟨0,rfl,rfl,Nat.zero_le _,hV1,hC1,hP⟩
 case round =>
  clear hV1 hC1 hP hx
  obtain ⟨i,rfl,rfl,hi,hM,hC,hN⟩:=hrel
  obtain ⟨x0,x1,x66,x67,lx,ex⟩:=hM.ent (p:=k) hgx
  change wr.cell? ⟨x.blk,67,none⟩=some ((s.put k x).nd k) at x67
  rw [put_nd_low hk (Nat.le_refl _)] at x67
  have fx:=hM.fr (p:=k+1) (by rw [out_len hk];omega)
  rw [ex] at fx
  by_cases hiT:i<T
  ·have hi32:i<32:=by omega
   have hiT':(i:Int)<(T:Int):=by omega
   have hi32':(i:Int)<32:=by omega
   obtain ⟨q1,q2,q3,q4,q5⟩:=out_prev (x:=x) hk hiT
   have q3:=q3 i
   have cn:=(hN.cell i).trans (by rw [List.getElem?_toArray,hget i hiT])
   have cs:=hM.sp_ (by rw [out_len hk];exact q1) hi32 q3
   obtain ⟨ut,ct⟩:=hM.has (p:=prev s.lv i k) (by rw [out_len hk];exact q1) (i:=2+i * 2) (by have:=szP_le (prev s.lv i k);omega)
   have fA:=hM.fr (p:=prev s.lv i k) (by rw [out_len hk];exact q1)
   have lA:=(hM.lt ⟨prev s.lv i k,by rw [out_len hk];exact q1,rfl⟩).2
   have eA:(outV s k x T i).at_ (prev s.lv i k)=s.at_ (prev s.lv i k):=q2
   have hAB:s.at_ (prev s.lv i k)≠B:=by
    rw [← eA];exact hBl _ ⟨prev s.lv i k,by show _≤(s.put k x).n;rw [Sk.put_n hk];exact q1,rfl⟩
   have hxA:x.blk≠s.at_ (prev s.lv i k):=fun e => by
    rw [← eA,← ex] at e
    exact q5 (hM.inj _ _ (by rw [out_len hk];omega) (by rw [out_len hk];exact q1) e).symm
   have es:(outV s k x T i).sp (prev s.lv i k) i=(span (ins s.lv k x.lvl) i (prev s.lv i k):Int):=by show (if i<i∧_ then (span s.lv i (down k (prev s.lv i k)):Int) else _)=_;rw [if_neg (by omega)]
   rw [eA] at ct cs fA lA
   rw [es] at cs
   have hsp:=span_le (lv:=ins s.lv k x.lvl) (i:=i) (p:=prev s.lv i k)
   have hsx:=span_le (lv:=ins s.lv k x.lvl) (i:=i) (p:=k+1)
   rw [ins_len (by rw [s.lv_len];exact hk),s.lv_len] at hsp hsx
   have hAx:s.at_ (prev s.lv i k)≠x.blk:=Ne.symm hxA
   unfold pt at cn
   clear q1 q2 q3 q4 q5 eA es
   by_cases hil:i<x.lvl
   ·have hil':(i:Int)<(x.lvl:Int):=by omega
    obtain ⟨o1,o2,o3⟩:=out_own (s:=s) (x:=x) (T:=T) hk hil i
    have xt:=hM.to_ (by rw [out_len hk];omega) hi32 o1
    have xs:=hM.sp_ (by rw [out_len hk];omega) hi32 o1
    rw [ex,o2] at xt
    rw [ex,o3] at xs
    have hsum:=out_sum hk hil
    have hlow:=fun w' (b1 b2:Int) (h:SvAt w' base (outV s k x T i)) => out_low (b1:=b1) (b2:=b2) h hk hiT hi32 (Eq.refl (s.go (nxt s.lv i (prev s.lv i k))))
    obtain ⟨tp,htp⟩:=go_ptr s (nxt s.lv i (prev s.lv i k))
    simp only [htp] at xt hlow
    clear htp o1 o2 o3 ex
    replace hsum:=Lib.hid hsum
    generalize span s.lv i (prev s.lv i k)=so at hlow hsum
    generalize span (ins s.lv k x.lvl) i (prev s.lv i k)=sp at cs hsp hsum
    generalize span (ins s.lv k x.lvl) i (k+1)=sx at xs hsx hsum
    generalize s.at_ (prev s.lv i k)=A at cn ct cs fA lA hAB hAx hxA hlow
    have s1:(sp:Int)≤10001:=by omega
    have s2:(sx:Int)≤10001:=by omega
    go_wp2_with fail
    go_still_tail 22,(by kernel_rfl)
    go_wp2_with fail
    obtain ⟨v1,v2⟩:=hlow _ ((sp:Int)+sx) ((sp:Int)+sx - 1) hM hsum.out
    go_roundg (T - (i+1))
    case rel => exact ⟨i+1,int_eq (by omega),rfl,by omega,v1.chg0 ((Chg.refl _ _).drew),(hC.trans v2).drew,(((hN.far (p:=⟨A,2+i * 2,none⟩) (Ne.symm hAB) _).far (p:=⟨A,2+i * 2+1,none⟩) (Ne.symm hAB) _).far (p:=⟨A,2+i * 2+1,none⟩) (Ne.symm hAB) _).drew⟩
    case measure => omega
   ·have hil':¬ (i:Int)<(x.lvl:Int):=by omega
    have hov:=out_over hk (show x.lvl≤i by omega)
    have hhigh:=fun w' (b2:Int) (h:SvAt w' base (outV s k x T i)) => out_high (b2:=b2) h hk (show x.lvl≤i by omega) hiT hi32
    replace hov:=Lib.hid hov
    generalize span s.lv i (prev s.lv i k)=so at hhigh hov
    generalize span (ins s.lv k x.lvl) i (prev s.lv i k)=sp at cs hsp hov
    generalize s.at_ (prev s.lv i k)=A at cn ct cs fA lA hAB hAx hxA hhigh
    have s1:(sp:Int)≤10001:=by omega
    go_wp2_with fail
    obtain ⟨v1,v2⟩:=hhigh _ ((sp:Int) - 1) hM hov.out
    go_roundg (T - (i+1))
    case rel => exact ⟨i+1,int_eq (by omega),rfl,by omega,v1,hC.trans v2,hN.far (p:=⟨A,2+i * 2+1,none⟩) (Ne.symm hAB) _⟩
    case measure => omega
  ·obtain rfl:i=T:=by omega
   clear hiT hi hget hN hNl
   have hkl:k≤s.lv.length:=by rw [s.lv_len];exact hk
   obtain ⟨o1,o2,o3⟩:=out_own (s:=s) (x:=x) (T:=i) (i:=0) hk (by omega) i
   have xt:=hM.to_ (by rw [out_len hk];omega) (by omega) o1
   rw [ex,o2,nxt_prev,nxt0_of hlo] at xt
   simp only [Nat.zero_mul,Nat.add_zero] at xt
   obtain ⟨bp,hbp⟩:=nd_ptr s k
   have hback:=out_back hM hk hTt
   rw [hbp] at x67
   simp only [hbp] at hback
   clear o1 o2 o3 hbp
   obtain ⟨c0,c1,c2,c3,c4⟩:=hM.head
   change wr.cell? ⟨s.blk,68,none⟩=some _ at c0
   change wr.cell? ⟨s.blk,69,none⟩=some (.int .i64 (i:Int)) at c1
   change wr.cell? ⟨s.blk,70,none⟩=some (.int .i64 ((s.n:Int)+1)) at c2
   change s.blk<wr.heap.size at c3
   change ∀ i,wr.frozen? ⟨s.blk,i,none⟩=false at c4
   by_cases hk1:k<s.n
   ·rw [if_pos hk1] at xt
    have f2:=hM.fr (p:=k+2) (by rw [out_len hk];omega)
    obtain ⟨u2,c2'⟩:=hM.has (p:=k+2) (by rw [out_len hk];omega) (i:=67) (by have:=szP_le (k+2);omega)
    have l2:=(hM.lt ⟨k+2,by rw [out_len hk];omega,rfl⟩).2
    have e2:(outV s k x i i).at_ (k+2)=s.at_ (k+1):=by show (s.put k x).at_ _=_;rw [Sk.put_at hk,if_neg (by omega),if_neg (by omega)];rfl
    rw [e2] at c2' f2 l2
    have hb:=hback _ rfl
    rw [if_pos hk1] at hb
    simp only [Sk.go,pt] at xt
    go_wp2_with fail
    obtain ⟨hv2,hc2⟩:=hb
    have hC2:=hC.trans hc2
    clear hc2 hC c0 c1 c2 c3 c4 x0 x1 x66 x67 lx fx xt hback hM ex
    generalize wr.setCell ⟨s.at_ (k+1),67,none⟩ (.pointer bp)=W2 at hv2 hC2 ⊢
    obtain ⟨wo,rfl⟩:∃ wo:World,wo=wr:=⟨_,rfl⟩
    go_loopg [] i (fun j W => ∃ t:Nat,t=j∧top s.lv≤t∧t≤32∧SvAt W base { s.viewT t t with n:=(s.n:Int)+1 }∧Chg (s.put k x).foot w W)
    case atStart => exact ⟨i,rfl,hTt,by omega,hv2,hC2⟩
    case round =>
     clear hv2 hC2 W2
     obtain ⟨t,rfl,h1,h2,hM,hC⟩:=hrel
     obtain ⟨c0,c1,c2,c3,c4⟩:=hM.head
     change wr.cell? ⟨s.blk,69,none⟩=some (.int .i64 (t:Int)) at c1
     change wr.cell? ⟨s.blk,70,none⟩=some (.int .i64 ((s.n:Int)+1)) at c2
     change s.blk<wr.heap.size at c3
     change ∀ i,wr.frozen? ⟨s.blk,i,none⟩=false at c4
     have sn:(s.n:Int)≤10000:=by omega
     have sn0:0≤(s.n:Int):=by omega
     have fin:t=top s.lv→SkAt (wr.setCell ⟨s.blk,70,none⟩ (.int .i64 (s.n:Int))) base s∧Chg s.foot wr (wr.setCell ⟨s.blk,70,none⟩ (.int .i64 (s.n:Int))):=fun e => by subst e;exact out_done hM hlo
     by_cases ht0:t=0
     ·have hf:=fin (by omega)
      subst ht0
      change wr.cell? ⟨s.blk,69,none⟩=some (.int .i64 0) at c1
      clear fin
      go_wp2_with fail
      go_quiet (fail)
      go_wp2_with fail
      go_end0
      exact ⟨⟨_,rfl⟩,hf.1.chg0 ((Chg.refl _ _).drewN _),(hC.trans' hf.2 (fun g _ hg => put_foot hk hg)).drewN _⟩
     ·obtain ⟨m,rfl⟩:∃ m,t=m+1:=⟨t - 1,by omega⟩
      change wr.cell? ⟨s.blk,69,none⟩=some (.int .i64 ((m:Int)+1)) at c1
      have m32:(m:Int)<32:=by omega
      have m0:0≤(m:Int):=by omega
      have cl:=hM.to_ (p:=0) (i:=m) (Nat.zero_le _) (by omega) (.inl ⟨rfl,Nat.lt_succ_self m⟩)
      change wr.cell? ⟨s.blk,2+m * 2,none⟩=some (s.go (nxt s.lv m 0)) at cl
      have g0:decide ((m:Int)+1 > 0)=true:=decide_eq_true (by omega)
      by_cases htop:top s.lv≤m
      ·rw [nxt_top.2 htop] at cl
       simp only [Sk.go] at cl
       clear fin
       go_wp2_with fail
       go_quiet (fail)
       go_wp2_with fail
       obtain ⟨v1,v2⟩:=out_down hM htop
       go_roundg m
       case rel => exact ⟨m,rfl,htop,by omega,v1.chg0 ((Chg.refl _ _).drewN _),(hC.trans' v2 (fun g _ hg => put_foot hk hg)).drewN _⟩
       case measure => omega
      ·obtain ⟨q,hq⟩:∃ q,nxt s.lv m 0=some q:=by
        cases hx:nxt s.lv m 0 with
        | none => exact absurd (nxt_top.1 hx) htop
        | some q => exact ⟨q,rfl⟩
       rw [hq] at cl
       simp only [Sk.go,pt] at cl
       have hf:=fin (by omega)
       clear fin hq
       go_wp2_with fail
       go_quiet (fail)
       go_wp2_with fail
       go_end0
       exact ⟨⟨_,rfl⟩,hf.1.chg0 ((Chg.refl _ _).drewN _),(hC.trans' hf.2 (fun g _ hg => put_foot hk hg)).drewN _⟩
   ·rw [if_neg hk1] at xt
    have hb:=hback _ rfl
    rw [if_neg hk1] at hb
    simp only [Sk.go] at xt
    go_wp2_with fail
    obtain ⟨hv2,hc2⟩:=hb
    have hC2:=hC.trans hc2
    clear hc2 hC c0 c1 c2 c3 c4 x0 x1 x66 x67 lx fx xt hback hM ex
    generalize wr.setCell ⟨s.blk,68,none⟩ (.pointer bp)=W2 at hv2 hC2 ⊢
    obtain ⟨wo,rfl⟩:∃ wo:World,wo=wr:=⟨_,rfl⟩
    go_loopg [] i (fun j W => ∃ t:Nat,t=j∧top s.lv≤t∧t≤32∧SvAt W base { s.viewT t t with n:=(s.n:Int)+1 }∧Chg (s.put k x).foot w W)
    case atStart => exact ⟨i,rfl,hTt,by omega,hv2,hC2⟩
    case round =>
     clear hv2 hC2 W2
     obtain ⟨t,rfl,h1,h2,hM,hC⟩:=hrel
     obtain ⟨c0,c1,c2,c3,c4⟩:=hM.head
     change wr.cell? ⟨s.blk,69,none⟩=some (.int .i64 (t:Int)) at c1
     change wr.cell? ⟨s.blk,70,none⟩=some (.int .i64 ((s.n:Int)+1)) at c2
     change s.blk<wr.heap.size at c3
     change ∀ i,wr.frozen? ⟨s.blk,i,none⟩=false at c4
     have sn:(s.n:Int)≤10000:=by omega
     have sn0:0≤(s.n:Int):=by omega
     have fin:t=top s.lv→SkAt (wr.setCell ⟨s.blk,70,none⟩ (.int .i64 (s.n:Int))) base s∧Chg s.foot wr (wr.setCell ⟨s.blk,70,none⟩ (.int .i64 (s.n:Int))):=fun e => by subst e;exact out_done hM hlo
     by_cases ht0:t=0
     ·have hf:=fin (by omega)
      subst ht0
      change wr.cell? ⟨s.blk,69,none⟩=some (.int .i64 0) at c1
      clear fin
      go_wp2_with fail
      go_quiet (fail)
      go_wp2_with fail
      go_end0
      exact ⟨⟨_,rfl⟩,hf.1.chg0 ((Chg.refl _ _).drewN _),(hC.trans' hf.2 (fun g _ hg => put_foot hk hg)).drewN _⟩
     ·obtain ⟨m,rfl⟩:∃ m,t=m+1:=⟨t - 1,by omega⟩
      change wr.cell? ⟨s.blk,69,none⟩=some (.int .i64 ((m:Int)+1)) at c1
      have m32:(m:Int)<32:=by omega
      have m0:0≤(m:Int):=by omega
      have cl:=hM.to_ (p:=0) (i:=m) (Nat.zero_le _) (by omega) (.inl ⟨rfl,Nat.lt_succ_self m⟩)
      change wr.cell? ⟨s.blk,2+m * 2,none⟩=some (s.go (nxt s.lv m 0)) at cl
      have g0:decide ((m:Int)+1 > 0)=true:=decide_eq_true (by omega)
      by_cases htop:top s.lv≤m
      ·rw [nxt_top.2 htop] at cl
       simp only [Sk.go] at cl
       clear fin
       go_wp2_with fail
       go_quiet (fail)
       go_wp2_with fail
       obtain ⟨v1,v2⟩:=out_down hM htop
       go_roundg m
       case rel => exact ⟨m,rfl,htop,by omega,v1.chg0 ((Chg.refl _ _).drewN _),(hC.trans' v2 (fun g _ hg => put_foot hk hg)).drewN _⟩
       case measure => omega
      ·obtain ⟨q,hq⟩:∃ q,nxt s.lv m 0=some q:=by
        cases hx:nxt s.lv m 0 with
        | none => exact absurd (nxt_top.1 hx) htop
        | some q => exact ⟨q,rfl⟩
       rw [hq] at cl
       simp only [Sk.go,pt] at cl
       have hf:=fin (by omega)
       clear fin hq
       go_wp2_with fail
       go_quiet (fail)
       go_wp2_with fail
       go_end0
       exact ⟨⟨_,rfl⟩,hf.1.chg0 ((Chg.refl _ _).drewN _),(hC.trans' hf.2 (fun g _ hg => put_foot hk hg)).drewN _⟩
end Go.Proofs.YtehpmbmdadkhbaaGreatDoor

namespace Go.Proofs.YtehpmbmdadkhbaaGreatDoor
open Go.RowKit Pal Pal.Skip
attribute [local go_sem] Oper.semAt_some
def Sk.cut (s:Sk) (k:Nat):Sk:={ s with ns:=s.ns.take k++s.ns.drop (k+1) }
theorem Sk.cut_put {s:Sk} {k:Nat} {x:Sn} (hx:s.ns[k]?=some x):(s.cut k).put k x=s∧k≤(s.cut k).n∧(s.cut k).n+1=s.n:=by
 have hk:=(List.getElem?_eq_some_iff.1 hx).1
 have hl:(s.ns.take k).length=k:=by rw [List.length_take];omega
 refine ⟨?_,?_,?_⟩
 ·have:(s.ns.take k++s.ns.drop (k+1)).take k++x :: (s.ns.take k++s.ns.drop (k+1)).drop k=s.ns:=by
   rw [List.take_append_of_le_length (by omega),List.take_take,Nat.min_self,List.drop_append,List.drop_eq_nil_of_le (by omega),List.nil_append,hl,Nat.sub_self,List.drop_zero]
   have h1:=List.take_append_drop k s.ns
   rw [List.drop_eq_getElem_cons hk] at h1
   rw [List.getElem?_eq_getElem hk] at hx
   injection hx with hx
   rw [hx] at h1
   exact h1
  show ({ blk:=s.blk,ns:=_ }:Sk)=s
  rw [show (s.cut k).ns=s.ns.take k++s.ns.drop (k+1) from rfl,this]
 ·show k≤(s.ns.take k++s.ns.drop (k+1)).length
  rw [List.length_append,hl];omega
 ·show (s.ns.take k++s.ns.drop (k+1)).length+1=s.ns.length
  rw [List.length_append,hl,List.length_drop];omega
theorem Sk.cut_es (s:Sk) (k:Nat):(s.cut k).es=s.es.take k++s.es.drop (k+1):=by
 unfold Sk.cut Sk.es;simp [List.map_take,List.map_drop]
theorem Sk.put_es (s:Sk) (k:Nat) (x:Sn):(s.put k x).es=s.es.take k++x.en :: s.es.drop k:=by
 unfold Sk.put Sk.es;simp [List.map_take,List.map_drop]
theorem Sk.get_es {s:Sk} {k:Nat} {e:En} (h:s.es[k]?=some e):∃ x,s.ns[k]?=some x∧x.en=e:=by
 rw [s.es_get,Option.map_eq_some_iff] at h;exact h
theorem takes_at (s:Sk) (k:Nat) (x:Sn) (w:World) (base:Nat) (h:SkAt w base s) (hx:s.ns[k]?=some x) (hn:s.n≤10000) :
  Calls Tryz.prog 237 #[pt s.blk,pt x.blk,.agg (s.nodesL k 0).toArray] w (TakesPost (s.cut k) s w base):=by
 obtain ⟨e,h1,h2⟩:=Sk.cut_put hx
 have:=takes_any (s.cut k) k x w base (by rw [e];exact h) h1 (by omega)
 rw [e] at this
 exact this
theorem new_any (w:World):Calls Tryz.prog 116 #[] w fun r w' => r=.returned (pt w.heap.size)∧SkAt w' w.heap.size ⟨w.heap.size,[]⟩∧Chg (fun _ => False) w w':=by
 have hz:(Tryz.zeroCells252).size=71:=by kernel_rfl
 have z0:(Tryz.zeroCells252)[68]?=some (.pointer none):=by kernel_rfl
 have z1:(Tryz.zeroCells252)[69]?=some (.int .i64 0):=by kernel_rfl
 have z2:(Tryz.zeroCells252)[70]?=some (.int .i64 0):=by kernel_rfl
 have hb:=Blk.new w 252 Tryz.zeroCells252
 go_enter Tryz.func116,Tryz.ntmps116
 go_wp2
 go_ret
 refine ⟨rfl,⟨⟨fun p hp => ?_,fun p q hp hq _ => ?_,fun p hp => ?_⟩,fun x hx => (by cases hx)⟩,(Chg.refl _ w).alloc _⟩
 ·have hp:p≤0:=hp
  obtain rfl:p=0:=by omega
  refine ⟨_,hb,hz,fun i hi ho => ?_,fun x h1 _ => by omega,fun _ => ⟨z0,z1,z2⟩⟩
  rcases ho with ho | ho
  ·exact absurd ho.2 (Nat.not_lt_zero _)
  ·exact absurd ho.1 (by omega)
 ·have hp:p≤0:=hp
  have hq:q≤0:=hq
  omega
 ·have hp:p≤0:=hp
  obtain rfl:p=0:=by omega
  exact Nat.le_refl _
def DelPost' (s:Sk) (k:Nat) (w:World) (base:Nat) (r:Ending) (w':World):Prop:=r=.returned (.bool true)∧SkAt w' base (s.cut k)∧Chg s.foot w w'
set_option maxRecDepth 100000 in
set_option maxHeartbeats 1000000 in
theorem delete_any (s:Sk) (e:En) (w:World) (base:Nat) (h:SkAt w base s) (hs:s.es.Pairwise ltE) (hn:s.n≤10000) (he:e∈s.es) :
  Calls Tryz.prog 231 #[pt s.blk,e.val] w (DelPost' s (ahead s.es e) w base):=by
 have hto:=fun w (h:SkAt w base s) => to_any s e w base h hs (by omega)
 have hsk:=fun w (h:SkAt w base s) => seek_any s e w base h hs (by omega)
 rw [show decide (e∈s.es)=true from decide_eq_true he] at hsk
 have hx:=(ahead_mem hs).1 he
 obtain ⟨x,hx,hxe⟩:=Sk.get_es hx
 have htk:=fun w (h:SkAt w base s) => takes_at s _ x w base h hx hn
 have hkl:=(List.getElem?_eq_some_iff.1 hx).1
 have htop:=h.top_le
 have htop0:0<top s.lv:=by
  have:=h.top0
  have hsn:s.ns.length=s.n:=rfl
  omega
 obtain ⟨k,hke⟩:∃ k,k=ahead s.es e:=⟨_,rfl⟩
 rw [← hke] at hto hsk htk hx hkl ⊢
 clear hke hxe he
 have hzN:nil32.size=32:=rfl
 have hzP:zero32.size=32:=rfl
 have hlN:(s.nodesL k 0).length=32:=by unfold Sk.nodesL;simp
 have hlP:(s.placesL k 0).length=32:=by unfold Sk.placesL;simp
 have hN0:=s.nodesL_get k (j:=0) (by omega) (by omega)
 rw [h.prev0 (by unfold Sk.n;omega)] at hN0
 have hnx:=h.nxt0 k
 rw [if_pos (by unfold Sk.n;omega)] at hnx
 have hk0:k=0∨ab s.lv 0 k:=by
  rcases Nat.eq_zero_or_pos k with e | e
  ·exact .inl e
  ·exact .inr (h.lv_pos e (by unfold Sk.n;omega))
 have hxat:=(h.node hx).2.2.2.2.2
 have hfl:∀ g,s.foot g→g<w.heap.size:=fun g hg => (h.lt hg).2
 unfold En.val pt at hto hsk ⊢
 unfold pt at htk
 go_enter Tryz.func231,Tryz.ntmps231
 go_wp2_with (first | (go_at_call 145;refine (hsk _ (h.chg0 ((Chg.refl _ w).alloc _))).mono ?_;rintro r w1 ⟨rfl,hc1⟩;have hbe:=(Blk.new w 68 #[.string e.m,.int .i64 e.s]).chg hc1 id;have hC1:=((Chg.refl (fun _ => False) w).alloc (.cells #[.string e.m,.int .i64 e.s] 68)).trans hc1;have hlt1:=hbe.lt;clear hc1;have e0:=hbe.cell 0;have e1:=hbe.cell 1;simp only [List.getElem?_toArray,List.getElem?_cons_zero,List.getElem?_cons_succ] at e0 e1) | (go_at_call 146;refine (hto _ (h.chg0 hC1)).mono ?_;rintro r w4 ⟨rfl,hc4⟩;have hC4:=hC1.trans hc4;clear hc4 hC1 e0 e1 hlt1 hbe) | (show wpList _ _ _ (Oper.mk _ (Op.store 268 _ _) _ _ _ _ :: _) _ _;refine wpList_store_new rfl 268 _ _ rfl w4.heap.size (s.nodesL k 0) rfl rfl (two32 w4).1 hlN (by rw [hzN];kernel_rfl) (s.nodesL_one _ _) ?_;intro w5 hb5 ho5 hc5) | (show wpList _ _ _ (Oper.mk _ (Op.store 269 _ _) _ _ _ _ :: _) _ _;refine wpList_store_new rfl 269 _ _ rfl (w4.heap.size+1) (s.placesL k 0) rfl rfl ((two32 w4).2.other (ho5 _ (by omega))) hlP (by rw [hzP];kernel_rfl) (s.placesL_one _ _) ?_;intro w6 hb6 ho6 hc6;have hC6:Chg (fun _ => False) w w6:=hc6 (fun h => by have:=hC4.size;omega) (hc5 (fun h => by have:=hC4.size;omega) ((hC4.alloc _).alloc _));have hbN:=hb5.other (ho6 _ (by omega));have hS6:=h.chg0 hC6;clear hb5 hb6 ho5 ho6 hc5 hc6 hC4 hto hsk))
 have n0:=hbN.cell 0
 rw [List.getElem?_toArray,hN0] at n0
 have lk:=(hS6.link (p:=k) (i:=0) hk0 (by omega)).1
 rw [hnx] at lk
 simp only [Sk.go,Nat.zero_mul,Nat.add_zero] at lk
 unfold pt at lk n0
 rw [hxat] at lk
 clear hnx hN0 hxat hk0
 go_still_tail 9,(by kernel_rfl)
 refine wpStill_load_mid rfl 268 (.tmp 7) rfl w4.heap.size 0 rfl _ _ (Blk.range hbN.drew) Tryz.underlying268 rfl (by rw [hlN];kernel_rfl) ?_
 refine wpStill_nil ?_
 go_wp2_with (go_at_call 237;refine (htk _ (hS6.chg0 (Chg.refl _ _).drew)).mono ?_;rintro r w7 ⟨⟨v,rfl⟩,hS7,hC7⟩)
 go_ret
 exact ⟨rfl,hS7,(hC6.mono (fun _ _ h => h.elim)).trans ((Chg.refl _ _).drew.trans hC7)⟩
end Go.Proofs.YtehpmbmdadkhbaaGreatDoor

namespace Go.Proofs.YtehpmbmdadkhbaaGreatDoor
open Go.RowKit Pal Pal.Skip
attribute [local go_sem] Oper.semAt_some
theorem SkAt.same {w w':World} {base:Nat} {s:Sk} (h:SkAt w base s) (hF:∀ k,s.foot k→w'.heap[k]?=w.heap[k]?):SkAt w' base s :=
 ⟨⟨fun p hp => by obtain ⟨cs,hb,hi⟩:=h.v.nd p hp;exact ⟨cs,(hF _ ⟨p,hp,rfl⟩).trans hb,hi⟩,h.v.inj,h.v.ge⟩,h.lo⟩
def items (s:Sk) (i j:Int):List Sn:=(s.ns.drop (clampN s.n i)).take (max (clampN s.n i) (clampN s.n j) - clampN s.n i)
theorem items_get {s:Sk} {i j:Int} {k:Nat} {x:Sn} (h:(items s i j)[k]?=some x):s.ns[clampN s.n i+k]?=some x:=by
 unfold items at h
 rw [List.getElem?_take] at h
 split at h
 ·rwa [List.getElem?_drop] at h
 ·cases h
theorem items_len (s:Sk) (i j:Int):(items s i j).length=max (clampN s.n i) (clampN s.n j) - clampN s.n i:=by
 unfold items
 have:s.ns.length=s.n:=rfl
 have h1:clampN s.n i≤s.n:=Nat.min_le_right _ _
 have h2:clampN s.n j≤s.n:=Nat.min_le_right _ _
 rw [List.length_take,List.length_drop];omega
structure NdBox (W:World) (s:Sk) (a:Nat) (i j:Int):Prop where
 l:Blk W a 207 #[pt s.blk]
 i:Blk W (a+1) 3 #[.int .i64 i]
 j:Blk W (a+2) 3 #[.int .i64 j]
def ndF (s:Sk) (a:Nat) (g:Nat):Prop:=s.foot g∨g=a∨g=a+1∨g=a+2
def ndIt (s:Sk) (base:Nat) (i j:Int) (r:List Sn) (W:World):Prop:=SkAt W base s∧∃ pre,pre++r=items s i j
def ndIt0 (s:Sk) (base a:Nat) (i j:Int) (r:List Sn) (W:World):Prop:=SkAt W base s∧NdBox W s a i j∧r=items s i j
set_option maxRecDepth 100000 in
set_option maxHeartbeats 4000000 in
theorem nodes1_any (s:Sk) (base a:Nat) (i j:Int) (hn:s.n≤10000) (l:Nat) (I:List Sn→World→Prop) (Ix:World→Prop) (hI:∀ r W W',I r W→Chg (fun _ => False) W W'→I r W')
  (hY:∀ x r W,I (x :: r) W→ndIt s base i j (x :: r) W→YieldAt Fence.wide 2 Tryz.prog l #[pt x.blk] W fun e W' => W.heap.size≤W'.heap.size∧(∀ k,ndF s a k→W'.heap[k]?=W.heap[k]?)∧((e=.returned (.bool true)∧I r W')∨(e=.returned (.bool false)∧Ix W')))
  (w:World) (h0:I (items s i j) w) (h:SkAt w base s) (hb:NdBox w s a i j) :
  Calls Tryz.prog 234 #[.func (.yield l) #[] #[],pt a,pt (a+1),pt (a+2)] w fun e W' => (∃ v,e=.returned v)∧(I [] W'∨Ix W'):=by
 have b0:=hb.l.cell 0
 have b1:=hb.i.cell 0
 have b2:=hb.j.cell 0
 have l0:=hb.l.lt
 have l1:=hb.i.lt
 have l2:=hb.j.lt
 simp only [List.getElem?_toArray,List.getElem?_cons_zero] at b0 b1 b2
 have hwi:=within_any s i j w base h
 have hlen:=items_len s i j
 have hget:=@items_get s i j
 have hc1:clampN s.n i≤s.n:=Nat.min_le_right _ _
 have hc2:clampN s.n j≤s.n:=Nat.min_le_right _ _
 have hun:=fun w (h:SkAt w base s) => until_any s (clampN s.n i) w base h hc1 (by omega)
 generalize clampN s.n i=f at hwi hlen hget hc1 hun
 have ht2:max f (clampN s.n j)≤s.n:=by omega
 have ht1:f≤max f (clampN s.n j):=by omega
 generalize max f (clampN s.n j)=t at hwi hlen ht1 ht2
 clear hc2
 unfold ndIt at hY
 generalize items s i j=L at hlen hget hY h0
 have htop:=h.top_le
 by_cases hft:f=t
 ·subst hft
  have hL:L=[]:=List.eq_nil_of_length_eq_zero (by omega)
  subst hL
  unfold pt at hwi b0 ⊢
  go_enter Tryz.func234,Tryz.ntmps234
  go_wp2_with (go_at_call 235;refine hwi.mono ?_;rintro r w1 ⟨rfl,rfl⟩)
  refine bodyPost_ret (results_none rfl _ _ _) rfl ?_
  exact ⟨⟨_,rfl⟩,.inl h0⟩
 ·have hne:((f:Int) == (t:Int))=false:=by rw [beq_eq_false_iff_ne];omega
  have htop0:0<top s.lv:=by
   have:=h.top0
   omega
  have hzN:nil32.size=32:=rfl
  have hzP:zero32.size=32:=rfl
  have hlN:(s.nodesL f 0).length=32:=by unfold Sk.nodesL;simp
  have hlP:(s.placesL f 0).length=32:=by unfold Sk.placesL;simp
  have hN0:=s.nodesL_get f (j:=0) (by omega) (by omega)
  rw [h.prev0 hc1] at hN0
  have hfs:f<s.n:=by omega
  have hk0:f=0∨ab s.lv 0 f:=by
   rcases Nat.eq_zero_or_pos f with e | e
   ·exact .inl e
   ·exact .inr (h.lv_pos e hc1)
  have HL:=Lib.hid hlen
  clear hlen
  unfold pt at hwi b0 hun ⊢
  go_enter Tryz.func234,Tryz.ntmps234
  go_wp2_with (first | (go_at_call 235;refine hwi.mono ?_;rintro r w1 ⟨rfl,rfl⟩) | (go_at_call 236;refine (hun _ h).mono ?_;rintro r w4 ⟨rfl,hC4⟩) | (show wpList _ _ _ (Oper.mk _ (Op.store 268 _ _) _ _ _ _ :: _) _ _;refine wpList_store_new rfl 268 _ _ rfl w4.heap.size (s.nodesL f 0) rfl rfl (two32 w4).1 hlN (by rw [hzN];kernel_rfl) (s.nodesL_one _ _) ?_;intro w5 hb5 ho5 hc5) | (show wpList _ _ _ (Oper.mk _ (Op.store 269 _ _) _ _ _ _ :: _) _ _;refine wpList_store_new rfl 269 _ _ rfl (w4.heap.size+1) (s.placesL f 0) rfl rfl ((two32 w4).2.other (ho5 _ (by omega))) hlP (by rw [hzP];kernel_rfl) (s.placesL_one _ _) ?_;intro w6 hb6 ho6 hc6;have hC6:Chg (fun _ => False) w w6:=hc6 (fun h => by have:=hC4.size;omega) (hc5 (fun h => by have:=hC4.size;omega) ((hC4.alloc _).alloc _));have hbN:=hb5.other (ho6 _ (by omega));have hS6:=h.chg0 hC6;have h6:=hI _ _ _ h0 hC6;have n0:=hbN.cell 0;rw [List.getElem?_toArray,hN0] at n0;have lk:=(hS6.link (p:=f) (i:=0) hk0 (by omega)).1;simp only [Nat.zero_mul,Nat.add_zero] at lk;have hlk:=lk;rw [h.nxt0,if_pos hfs] at lk;simp only [Sk.go] at lk;unfold pt at lk n0;clear hlk hb5 hb6 ho5 ho6 hc5 hc6 hC4 hun hwi hbN b0 b1 b2 l0 l1 l2))
  clear h0 h hb hC6 n0 lk hN0 hk0
  have htf:(t:Int)≤10000:=by omega
  have htf2:(f:Int)≤(t:Int):=by omega
  refine (wpIn_wide (n:=3)).1 ?_
  gi_loopg [9,36] L.length (fun m vx vi W => ∃ pre r,pre++r=L∧m=r.length∧vi=.int .i64 (pre.length:Int)∧vx=s.go (nxt s.lv 0 (f+pre.length))∧I r W∧SkAt W base s)
  case atStart => exact ⟨[],L,rfl,rfl,rfl,by rw [hS6.nxt0,List.length_nil,if_pos (show f+0<s.n from hfs)];rfl,h6,hS6⟩
  case round =>
   clear hS6 h6
   obtain ⟨pre,r,hpr,rfl,rfl,hvx,hIr,hS⟩:=hrel
   have hl2:pre.length+r.length=t - f:=by rw [← HL.out,← hpr,List.length_append]
   have HPR:=Lib.hid hpr
   have HVX:=Lib.hid hvx
   clear hpr hvx
   cases r with
   | nil =>
    have h1:¬ (pre.length:Int)<(t:Int) - (f:Int):=by rw [List.length_nil] at hl2;omega
    have HL2:=Lib.hid hl2
    clear hl2
    gi_wp2
    go_end0
    exact ⟨⟨_,rfl⟩,.inl hIr⟩
   | cons y r =>
    rw [List.length_cons] at hl2
    have h1:(pre.length:Int)<(t:Int) - (f:Int):=by omega
    have hy:s.ns[f+pre.length]?=some y:=hget (by rw [← HPR.out];simp)
    have hps:f+pre.length<s.n:=by omega
    obtain ⟨_,_,_,_,xl,xat⟩:=hS.node hy
    have e:=HVX.out
    rw [hS.nxt0,if_pos hps] at e
    simp only [Sk.go,pt] at e
    rw [xat] at e
    subst e
    have hnext:∀ W,SkAt W base s→W.cell? ⟨y.blk,2,none⟩=some (s.go (nxt s.lv 0 (f+(pre++[y]).length))):=fun W h => by
     have:=(h.link (p:=f+pre.length+1) (i:=0) (.inr (h.lv_pos (by omega) (by omega))) htop0).1
     rw [xat] at this
     rw [List.length_append,List.length_cons,List.length_nil,← Nat.add_assoc]
     exact this
    have hl3:(pre.length:Int)≤10000:=by omega
    have HL2:=Lib.hid hl2
    clear HVX hl2 hy xat
    obtain ⟨fn,tmps,assign,body,hy',hR⟩:=hY y r wr hIr ⟨hS,pre,HPR.out⟩
    unfold pt at hy'
    gi_wp2
    refine hR.mono ?_
    rintro e W3 ⟨hsz,hF,⟨rfl,hI3⟩ | ⟨rfl,hx3⟩⟩
    ·have hS3:=hS.same (fun k hk => hF k (.inl hk))
     have hn3:=hnext _ hS3
     obtain ⟨q,hq⟩:∃ q,s.go (nxt s.lv 0 (f+(pre++[y]).length))=.pointer q:=go_ptr _ _
     rw [hq] at hn3
     have HQ:=Lib.hid hq
     clear hq hF hnext
     gi_wp2
     gi_roundg r.length
     case rel => exact ⟨pre++[y],r,by rw [List.append_assoc];exact HPR.out,rfl,int_eq (by rw [List.length_append,List.length_cons,List.length_nil];omega),HQ.out.symm,hI3,hS3⟩
     case measure => rw [List.length_cons];omega
    ·gi_wp2
     refine bodyPost_ret (results_none rfl _ _ _) rfl ?_
     exact ⟨⟨_,rfl⟩,.inr hx3⟩
theorem nodes_any (s:Sk) (i j:Int) (w:World):Calls Tryz.prog 229 #[pt s.blk,.int .i64 i,.int .i64 j] w fun r w' => r=.returned (fnv 234 #[pt w.heap.size,pt (w.heap.size+1),pt (w.heap.size+2)])∧NdBox w' s w.heap.size i j∧Chg (fun _ => False) w w'∧w'.heap.size=w.heap.size+3:=by
 have h0:=Blk.new w 207 #[pt s.blk]
 have h1:=Blk.new (w.alloc (.cells #[pt s.blk] 207)) 3 #[.int .i64 i]
 have h2:=Blk.new ((w.alloc (.cells #[pt s.blk] 207)).alloc (.cells #[.int .i64 i] 3)) 3 #[.int .i64 j]
 simp only [World.size_alloc] at h1 h2
 unfold pt fnv at *
 go_enter Tryz.func229,Tryz.ntmps229
 go_wp2
 go_ret
 exact ⟨rfl,⟨(h0.alloc _).alloc _,h1.alloc _,h2⟩,((((Chg.refl _ w).alloc _).alloc _).alloc _),by simp⟩
theorem nodes_spec (s:Sk) (base a:Nat) (i j:Int) (hn:s.n≤10000):IterSpec Tryz.prog 234 #[pt a,pt (a+1),pt (a+2)] (fun x:Sn => #[pt x.blk]) (ndF s a) (fun _ => False) (ndIt0 s base a i j) (ndIt s base i j) where
 sub:=fun _ h => h.elim
 cells:=by
  rintro r W k ⟨hS,hB,_⟩ (⟨p,hp,rfl⟩ | rfl | rfl | rfl)
  ·obtain ⟨cs,hb,_⟩:=hS.v.nd p hp
   exact ⟨_,_,_,hb⟩
  ·exact ⟨_,_,_,hB.l⟩
  ·exact ⟨_,_,_,hB.i⟩
  ·exact ⟨_,_,_,hB.j⟩
 far0:=by
  rintro r W W' ⟨hS,hB,hr⟩ _ hF
  exact ⟨hS.same fun k hk => hF k (.inl hk),⟨(hF _ (.inr (.inl rfl))).trans hB.l,(hF _ (.inr (.inr (.inl rfl)))).trans hB.i,(hF _ (.inr (.inr (.inr rfl)))).trans hB.j⟩,hr⟩
 far:=by
  rintro r W W' ⟨hS,hp⟩ _ hF
  exact ⟨hS.same fun k hk => hF k (.inl hk),hp⟩
 call:=by
  rintro l I Ix hI hIx hY c W h0 ⟨hS,hB,rfl⟩
  exact nodes1_any s base a i j hn l I Ix hI hY W h0 hS hB
def Sn.ens (l:List Sn):List En:=l.map Sn.en
structure RgI (w0:World) (c:List Sn) (OB M:Nat) (r:List Sn) (W:World):Prop where
 ex:∃ v,∃ pre,pre++r=c∧Blk W OB 64 #[v]∧Ents W M v (Sn.ens pre)
 st:Stay (fun _ => False) w0 W
 M:M≤W.heap.size
def RgPost (w:World) (l:List En) (r:Ending) (w':World):Prop:=(∃ v,r=.returned v∧Ents w' w.heap.size v l)∧Chg (fun _ => False) w w'
set_option maxRecDepth 100000 in
set_option maxHeartbeats 4000000 in
theorem range_any (s:Sk) (i j:Int) (w:World) (base:Nat) (h:SkAt w base s) (hn:s.n≤10000) :
  Calls Tryz.prog 225 #[pt s.blk,.int .i64 i,.int .i64 j] w (RgPost w (Sn.ens (items s i j))):=by
 have hnd:=fun w => nodes_any s i j w
 have hclen:(items s i j).length≤10000:=by
  rw [items_len]
  have h1:clampN s.n i≤s.n:=Nat.min_le_right _ _
  have h2:clampN s.n j≤s.n:=Nat.min_le_right _ _
  omega
 unfold pt at hnd ⊢
 refine calls_of_wp_marks Tryz.func225 rfl ?_
 simp only [Tryz.ntmps225,List.size_toArray,List.length_cons,List.length_nil,Nat.reduceAdd,Nat.reduceSub,Array.replicate_succ,Array.replicate_zero,List.push_toArray,List.append_toArray,List.nil_append,List.cons_append]
 go_wp2_with (go_at_call 229;refine (hnd _).mono ?_;rintro e w' ⟨rfl,hB,hC,hsz⟩)
 have hbo:=(Blk.new w 64 #[.slice none 0 0]).chg hC id
 have hS:Chg (fun _ => False) w w':=((Chg.refl _ w).alloc _).trans hC
 simp only [World.size_alloc] at hB hsz ⊢
 clear hC
 have hSk:=h.chg0 hS
 have hFlt:∀ k,ndF s (w.heap.size+1) k→k<w.heap.size+4∧k≠w.heap.size:=by
  rintro k (hk | rfl | rfl | rfl)
  ·have:=(h.lt hk).2;omega
  ·omega
  ·omega
  ·omega
 generalize hc:items s i j=c at *
 refine wp_range_it 234 #[pt (w.heap.size+1),pt (w.heap.size+1+1),pt (w.heap.size+1+2)] rfl (enters_of Tryz.func234 (by kernel_rfl) rfl) (nodes_spec s base (w.heap.size+1) i j hn) (fun _ => rfl)
  (RgI w c w.heap.size (w.heap.size+4)) ?_ (fun _ _ => False) (fun _ _ _ h => h.elim) c ?_ ?_ _ (fun l x W K hK => by gi_wp2;exact hK) ?_ ?_ (fun _ _ _ _ h => h.elim)
 ·rintro r W W' ⟨⟨v,pre,h1,h2,h3⟩,h4,h5⟩ hs
  exact ⟨⟨v,pre,h1,h2.stay hs id,h3.stay hs fun _ _ => id⟩,h4.trans' hs fun g hg h' => h',Nat.le_trans h5 hs.size⟩
 ·exact ⟨⟨_,[],rfl,hbo,Ents.nil _ _⟩,.of_chg hS,by omega⟩
 ·exact ⟨hSk,hB,hc.symm⟩
 ·rintro l x r W ⟨⟨v,pre,h1,h2,h3⟩,h4,h5⟩ ⟨g1,pre',hpre'⟩ hle
  rw [hc] at hpre'
  have hx:∃ p,s.ns[p]?=some x:=⟨_,items_get (i:=i) (j:=j) (k:=pre'.length) (by rw [hc,← hpre'];simp)⟩
  obtain ⟨p,hx⟩:=hx
  obtain ⟨k1,k2,_,_,l1,_⟩:=g1.node hx
  have H1:=Lib.hid h1
  have hlen:pre.length≤10000:=by
   have:pre.length≤c.length:=by rw [← h1];simp
   omega
  clear hpre' h1 hsz hc hS hbo hx g1 hSk h
  obtain ⟨pa,cp,rfl,hcp1,hcp2,hcp3⟩:=h3.is
  have hml:(Sn.ens pre).length=pre.length:=by unfold Sn.ens;simp
  rw [hml] at h2 h3 hcp1
  have k0:=h2.cell 0
  have kf:=h2.frozen 0
  simp only [List.getElem?_toArray,List.getElem?_cons_zero] at k0
  have l2:=h2.lt
  obtain ⟨i0,hi0,hz0,hz1,hz2⟩:=info_parts ent_info
  have hlen2:pre.length+1≤maxLen:=by unfold maxLen;omega
  have hlen3:(pre.length+1) * 24≤140737488355328:=by omega
  have hr:Reads (W.alloc (Obj.cells #[Value.string x.key,Value.int .i64 x.score] 68)).drew (W.heap.size+1) 2 (some ⟨W.heap.size,0,none⟩) 1 [Value.string x.key,Value.int .i64 x.score]:=by
   refine ⟨rfl,fun _ => ⟨_,rfl,Nat.lt_succ_self _,fun j u hu => ?_⟩⟩
   have hb:=(Blk.new W 68 #[Value.string x.key,Value.int .i64 x.score]).drew.cell j
   rw [addr_add']
   match j,hu with
   | 0,hu => exact hb.trans (by simpa using hu)
   | 1,hu => exact hb.trans (by simpa using hu)
   | j+2,hu => simp at hu
  have hc1:Chg (fun _ => False) W (W.alloc (Obj.cells #[Value.string x.key,Value.int .i64 x.score] 68)).drew:=((Chg.refl _ W).alloc _).drew
  have hown0:=h3.chg hc1 fun _ _ => id
  unfold Ents at hown0
  rw [hml] at hown0
  have hone:∀ u∈[Value.string x.key,Value.int .i64 x.score],u.oneCell'=true:=by
   intro u hu
   rcases List.mem_cons.1 hu with rfl | hu
   ·rfl
   ·rw [List.mem_singleton] at hu;rw [hu];rfl
  have hM1:w.heap.size+4≤(W.alloc (Obj.cells #[Value.string x.key,Value.int .i64 x.score] 68)).drew.heap.size:=Nat.le_trans h5 hc1.size
  have HL:=Lib.hid hlen
  have HM:=Lib.hid hml
  clear hlen hml
  unfold pt
  gi_wp2
  refine wpIn_region_plain (by kernel_rfl) (by kernel_rfl) (by rintro ⟨_,_,h⟩;exact h) ?_
  change wpAny _ _ _ _ _ _ _ (World.drew _)
  simp only [List.size_toArray,List.length_cons,List.length_nil,Nat.reduceAdd,Array.replicate_succ,Array.replicate_zero,List.push_toArray,List.nil_append,List.cons_append]
  repeat' (first
    | (refine wpAny_ready (rs:=[0]) ?_ ?_ ?_;decide +kernel;simp;refine (AllReady.cons rfl (fun K hK => ?_) AllReady.nil);go_simp;refine hK _ _ ?_;clear hK K)
    | (refine wpAny_ready (rs:=[1]) ?_ ?_ ?_;decide +kernel;simp;refine (AllReady.cons rfl (fun K hK => ?_) AllReady.nil);go_simp;refine hK _ _ ?_;clear hK K)
    | (refine wpAny_ready (rs:=[2]) ?_ ?_ ?_;decide +kernel;simp;refine (AllReady.cons rfl (fun K hK => ?_) AllReady.nil);go_simp;refine hK _ _ ?_;clear hK K)
    | (refine wpAny_ready (rs:=[3]) ?_ ?_ ?_;decide +kernel;simp;refine (AllReady.cons rfl (fun K hK => ?_) AllReady.nil);go_simp;refine hK _ _ ?_;clear hK K)
    | (refine wpAny_ready (rs:=[4]) ?_ ?_ ?_;decide +kernel;simp;refine (AllReady.cons rfl (fun K hK => ?_) AllReady.nil);go_simp;refine hK _ _ ?_;clear hK K)
    | (refine wpAny_ready (rs:=[5]) ?_ ?_ ?_;decide +kernel;simp;refine (AllReady.cons rfl (fun K hK => ?_) AllReady.nil);go_simp;refine hK _ _ ?_;clear hK K)
    | (refine wpAny_ready (rs:=[0,1]) ?_ ?_ ?_;decide +kernel;simp;refine (AllReady.cons rfl (fun K hK => ?_) (AllReady.cons rfl (fun K hK => ?_) AllReady.nil)) <;> (go_simp;refine hK _ _ ?_;clear hK K))
    | (refine wpAny_ready (rs:=[0,2]) ?_ ?_ ?_;decide +kernel;simp;refine (AllReady.cons rfl (fun K hK => ?_) (AllReady.cons rfl (fun K hK => ?_) AllReady.nil)) <;> (go_simp;refine hK _ _ ?_;clear hK K))
    | (refine wpAny_ready (rs:=[0,3]) ?_ ?_ ?_;decide +kernel;simp;refine (AllReady.cons rfl (fun K hK => ?_) (AllReady.cons rfl (fun K hK => ?_) AllReady.nil)) <;> (go_simp;refine hK _ _ ?_;clear hK K))
    | (refine wpAny_ready (rs:=[0,4]) ?_ ?_ ?_;decide +kernel;simp;refine (AllReady.cons rfl (fun K hK => ?_) (AllReady.cons rfl (fun K hK => ?_) AllReady.nil)) <;> (go_simp;refine hK _ _ ?_;clear hK K))
    | (refine wpAny_ready (rs:=[0,5]) ?_ ?_ ?_;decide +kernel;simp;refine (AllReady.cons rfl (fun K hK => ?_) (AllReady.cons rfl (fun K hK => ?_) AllReady.nil)) <;> (go_simp;refine hK _ _ ?_;clear hK K)))
  all_goals
   refine wpAny_ready (rs:=[6]) ?_ ?_ ?_
   decide +kernel
   simp
   refine (AllReady.cons rfl (fun K hK => ?_) AllReady.nil)
   refine step_append_any _ (by rfl) (.tmp 14) (.tmp 19) 64 (by rfl) (w.heap.size+4) 68 i0 _ 2 24 Tryz.underlying64 hi0 hz0 hz1 hz2 rfl (by omega) (.slice pa pre.length cp) pre.length ((Sn.ens pre).flatMap En.cells) (by rfl) hown0 (W.heap.size+1) (some ⟨W.heap.size,0,none⟩) 1 1 [Value.string x.key,Value.int .i64 x.score] (by rfl) hr hone hlen2 hlen3 hM1 ?_
   intro v1 w1 hown1 hg1 hat1
   refine hK _ _ ?_
   clear hK K
   obtain ⟨g1,cp1,rfl⟩:=ownsRow_succ hown1
   have a1:=app_chg hown0 hg1
   have a2:=app_keeps hown0 hg1
   have b1:Blk w1 w.heap.size 64 #[.slice pa pre.length cp]:=Blk.chg ((h2.alloc _).drew) a1 (by omega)
   have c1:=b1.cell 0
   have f1:=b1.frozen 0
   have lb:=b1.lt
   simp only [List.getElem?_toArray,List.getElem?_cons_zero] at c1
   refine wpAny_ready (rs:=[7]) ?_ ?_ ?_
   decide +kernel
   simp
   refine AllReady.cons rfl (fun K hK => ?_) AllReady.nil
   go_simp
   refine hK _ _ ?_
   clear hK K
   refine wpAny_done (by kernel_rfl) ?_ _
   have a3:Chg (fun k => k=w.heap.size∨w.heap.size+4≤k) W (w1.setCell ⟨w.heap.size,0,none⟩ (.slice (some ⟨g1,0,none⟩) (pre.length+1) cp1)) :=
    ((hc1.mono fun _ _ h => h.elim).trans' a1 fun _ _ h => .inr h).store (.inl rfl) 0 _
   refine ⟨((KeepsOthers.of_chg0 hc1).trans a2).trans (KeepsOthers.setCell _ _ _),fun k hk => a3.block k (by have:=hFlt k hk;omega) (by have:=hFlt k hk;omega),⟨⟨_,pre++[x],by rw [← H1.out];simp,b1.set 0 _,?_⟩,h4.trans' (.of_chg a3) (fun g hg h' => by omega),Nat.le_trans h5 a3.size⟩⟩
   have h9:=own_stay (F:=fun k => k=w.heap.size) hown1 (.of_chg ((Chg.refl (fun k => k=w.heap.size) w1).store rfl 0 (.slice (some ⟨g1,0,none⟩) (pre.length+1) cp1))) (fun g hg h' => by have:=(hown1.lt g hg).1;omega)
   exact Ents.mk h9 (by unfold Sn.ens;simp) (by unfold Sn.ens;rw [List.map_append,List.flatMap_append];rfl)
 ·rintro D W hD ⟨⟨v,pre,h1,h2,h3⟩,h4,h5⟩ hO hDd
  rw [List.append_nil] at h1
  subst h1
  have hwD:w.heap.size≤D:=Nat.le_trans hS.size hD
  have hC:Chg (fun _ => False) w W:=.of_stay h4 ((KeepsOthers.of_chg0 hS).trans hO)
  have k0:=h2.cell 0
  simp only [List.getElem?_toArray,List.getElem?_cons_zero] at k0
  have l0:=h2.lt
  clear hbo hS hsz hc hFlt hclen
  go_wp2_with fail
  refine bodyPostM_ret (D:=D) (v:=v) rfl hDd (by simp [results,Tryz.results225,go_sem]) ⟨⟨v,rfl,?_⟩,?_⟩
  ·exact (Ents.lower (h3.stay (Stay.put (F:=fun _ => False) hDd rfl _) fun _ _ => id) (by omega))
  ·exact hC.put (by omega) _
end Go.Proofs.YtehpmbmdadkhbaaGreatDoor

namespace Go.Proofs.YtehpmbmdadkhbaaGreatDoor
open Go.RowKit Pal Pal.Skip
attribute [local go_sem] Oper.semAt_some
theorem cut_foot {s:Sk} {k g:Nat} (hk:k<s.n) (h:(s.cut k).foot g):s.foot g:=by
 obtain ⟨x,hx⟩:∃ x,s.ns[k]?=some x:=⟨_,List.getElem?_eq_getElem hk⟩
 obtain ⟨e,h1,_⟩:=Sk.cut_put hx
 rw [← e]
 exact put_foot h1 h
theorem ret_int' {k:IntKind} {a b:Int} (h:a=b):Ending.returned (.int k a)=.returned (.int k b):=by rw [h]
end Go.Proofs.YtehpmbmdadkhbaaGreatDoor

namespace Go.Proofs.YtehpmbmdadkhbaaGreatDoor
open Go.RowKit Pal Pal.Skip
attribute [local go_sem] Oper.semAt_some
set_option maxRecDepth 100000 in
theorem neq_ptr_same {P:Program} (w:World) {tp te:TypeId} {j:TypeInfo} (a:Addr) (hp:P.underlying tp=some (.pointer te)) (hte:P.info? te=some j) :
  (binOp .neq tp (.pointer (some a)) (.pointer (some a))).run P w=.ok (.bool false) w:=by
 have h:∀ d:Nat,(Op.equalIn (d+1) tp (.pointer (some a)) (.pointer (some a))).run P w=.ok true w:=fun d => by
  simp [Op.equalIn,run_underlying hp,sizeOf,typeInfo,hte,run_sameAddr_same]
 simp only [binOp]
 simp [Op.equal,Op.maxDepth,h 9999]
theorem neq_ptr_other {P:Program} (w:World) {tp te:TypeId} {j:TypeInfo} {a b:Addr} {ca cb:Array Value} {ta tb:TypeId} (hp:P.underlying tp=some (.pointer te)) (hte:P.info? te=some j) (hsz:j.size≠0)
  (hne:a≠b) (ha:w.heap[a.block]?=some (.cells ca ta (0,0))) (hb:w.heap[b.block]?=some (.cells cb tb (0,0))) :
  (binOp .neq tp (.pointer (some a)) (.pointer (some b))).run P w=.ok (.bool true) w:=by
 have h:∀ d:Nat,(Op.equalIn (d+1) tp (.pointer (some a)) (.pointer (some b))).run P w=.ok false w:=fun d => by
  simp [Op.equalIn,run_underlying hp,sizeOf,typeInfo,hte,hsz,run_sameAddr_other w hne ha hb]
 simp only [binOp]
 simp [Op.equal,Op.maxDepth,h 9999]
theorem node_info:∃ j,Tryz.prog.info? 250=some j∧j.size≠0:=by
 have h:(Tryz.prog.info? 250).map (·.size)=some 68:=by kernel_rfl
 rw [Option.map_eq_some_iff] at h
 obtain ⟨j,h1,h2⟩:=h
 exact ⟨j,h1,by omega⟩
theorem mid_foot {s:Sk} {k:Nat} {x:Sn} {T i g:Nat} (hk:k≤s.n) (h:(midV s k x T i).foot g):s.foot g∨g=x.blk:=by
 obtain ⟨p,hp,rfl⟩:=h
 rw [mid_len hk] at hp
 rw [mid_at,Sk.put_at hk]
 split
 ·exact .inl ⟨p,by show p≤s.n;omega,rfl⟩
 ·split
  ·exact .inr rfl
  ·exact .inl ⟨p - 1,by show p - 1≤s.n;omega,rfl⟩
set_option maxRecDepth 100000 in
theorem max2_any (x y:Int) (b:Nat) (w:World) (hb:Blk w b 3 #[.int .i64 x,.int .i64 y]):Calls Tryz.prog 159 #[.slice (some ⟨b,0,none⟩) 2 2] w fun r w' => r=.returned (.int .i64 (max x y))∧w=w':=by
 have b0:=hb.cell 0
 have b1:=hb.cell 1
 simp only [List.getElem?_toArray,List.getElem?_cons_zero,List.getElem?_cons_succ] at b0 b1
 go_enter Tryz.func159,Tryz.ntmps159
 go_wp2
 refine wp_loop_rounds 2 ?_
 rw [rounds_succ]
 go_wp2
 rw [rounds_succ]
 go_wp2
 go_ret
 exact ⟨rfl,rfl⟩
theorem highest_any (x y:Int) (b:Nat) (w:World) (hb:Blk w b 3 #[.int .i64 x,.int .i64 y]):Calls Tryz.prog 147 #[.slice (some ⟨b,0,none⟩) 2 2] w fun r w' => r=.returned (.int .i64 (max x y))∧w=w':=by
 go_enter Tryz.func147,Tryz.ntmps147
 go_wp2_with (go_at_call 159;refine (max2_any x y b _ hb).mono ?_;rintro r w' ⟨rfl,rfl⟩)
 go_ret
 exact ⟨rfl,rfl⟩
def InsPost (s:Sk) (k:Nat) (e:En) (l:Nat) (w:World) (base:Nat) (r:Ending) (w':World):Prop :=
 r=.returned (.int .i64 0)∧∃ g,w.heap.size≤g∧SkAt w' base (s.put k ⟨g,e.m,e.s,l⟩)∧Chg s.foot w w'
set_option maxRecDepth 100000 in
set_option maxHeartbeats 4000000 in
theorem insert_any (s:Sk) (e:En) (l:Nat) (w:World) (base:Nat) (h:SkAt w base s) (hs:s.es.Pairwise ltE) (hn:s.n≤10000) (hne:e ∉ s.es) (hl:1≤l∧l≤32) :
  Calls Tryz.prog 138 #[pt s.blk,e.val,.int .i64 (l:Int)] w (InsPost s (ahead s.es e) e l w base):=by
 have hkn:ahead s.es e≤s.n:=by have:=ahead_le s.es e;rwa [s.es_len] at this
 have hto:=fun w (h:SkAt w base s) => to_any s e w base h hs (by omega)
 have hsk:=fun w (h:SkAt w base s) => seek_any s e w base h hs (by omega)
 rw [show decide (e∈s.es)=false from decide_eq_false hne] at hsk
 have htop:=h.top_le
 obtain ⟨k,hke⟩:∃ k,k=ahead s.es e:=⟨_,rfl⟩
 rw [← hke] at hto hsk hkn ⊢
 replace hke:=Lib.hid hke
 simp only [s.nodesU_top,s.placesU_top] at hto
 have hzN:nil32.size=32:=rfl
 have hzP:zero32.size=32:=rfl
 obtain ⟨hl1,hl2⟩:=hl
 have hl1':¬ (l:Int)<1:=by omega
 have hl2':¬ (l:Int) > 32:=by omega
 unfold En.val pt at hto hsk ⊢
 go_enter Tryz.func138,Tryz.ntmps138
 go_wp2_with (first | (go_at_call 145;refine (hsk _ (h.chg0 ((Chg.refl _ w).alloc _))).mono ?_;rintro r w1 ⟨rfl,hc1⟩;have hbe:=(Blk.new w 68 #[.string e.m,.int .i64 e.s]).chg hc1 id;have hC1:=((Chg.refl (fun _ => False) w).alloc (.cells #[.string e.m,.int .i64 e.s] 68)).trans hc1;have hlt1:=hbe.lt;clear hc1;have e0:=hbe.cell 0;have e1:=hbe.cell 1;simp only [List.getElem?_toArray,List.getElem?_cons_zero,List.getElem?_cons_succ] at e0 e1) | (go_at_call 146;refine (hto _ (h.chg0 hC1)).mono ?_;rintro r w4 ⟨rfl,hc4⟩;replace hbe:=hbe.chg hc4 id;have hC4:=hC1.trans hc4;have hlt4:=hbe.lt;clear hc4 hC1 e0 e1) | (show wpList _ _ _ (Oper.mk _ (Op.store 268 _ _) _ _ _ _ :: _) _ _;refine wpList_store_new rfl 268 _ _ rfl w4.heap.size (s.nodesU k (top s.lv)) rfl rfl (two32 w4).1 (s.nodesU_len _ _) (by rw [hzN];kernel_rfl) (by rw [← s.nodesU_top];exact s.nodesL_one _ _) ?_;intro w5 hb5 ho5 hc5) | (show wpList _ _ _ (Oper.mk _ (Op.store 269 _ _) _ _ _ _ :: _) _ _;refine wpList_store_new rfl 269 _ _ rfl (w4.heap.size+1) (s.placesU k (top s.lv)) rfl rfl ((two32 w4).2.other (ho5 _ (by omega))) (s.placesU_len _ _) (by rw [hzP];kernel_rfl) (by rw [← s.placesU_top];exact s.placesL_one _ _) ?_;intro w6 hb6 ho6 hc6;have hC6:Chg (fun _ => False) w w6:=hc6 (fun h => by have:=hC4.size;omega) (hc5 (fun h => by have:=hC4.size;omega) ((hC4.alloc _).alloc _));have hbe6:=(((hbe.alloc _).alloc _).other (ho5 _ (by omega))).other (ho6 _ (by omega));have hbN:=hb5.other (ho6 _ (by omega));have hbP:=hb6;have hS6:=h.chg0 hC6;obtain ⟨d0,d1,d2,d3,d4⟩:=hS6.head;clear hb5 hb6 ho5 ho6 hc5 hc6 hbe hC4 hto hsk;clear hlt1))
 generalize w4.heap.size=B at hbN hbP hlt4 ⊢
 have hBw:w.heap.size<B:=hlt4
 obtain ⟨T1,hT1⟩:∃ T1,max (top s.lv) l=T1:=⟨_,rfl⟩
 have hfl:∀ g,s.foot g→g<w.heap.size:=fun g hg => (h.lt hg).2
 go_loopg [11] (T1 - top s.lv) (fun j v W => ∃ T:Nat,v=.int .i64 (T:Int)∧j=T1 - T∧top s.lv≤T∧T≤T1∧SvAt W base (s.viewT T (top s.lv))∧Chg s.foot w W∧Blk W B 268 (s.nodesU k T).toArray∧Blk W (B+1) 269 (s.placesU k T).toArray∧Blk W w.heap.size 68 #[.string e.m,.int .i64 e.s])
 case atStart => exact ⟨_,rfl,rfl,Nat.le_refl _,by omega,hS6.v,hC6.mono (fun _ _ h => h.elim),hbN,hbP,hbe6⟩
 case round =>
  clear hbN hbP hbe6 hS6 hC6 d0 d1 d2 d3 d4 w6
  obtain ⟨T,rfl,rfl,hT,hTT,hS,hC,hN,hP,hE⟩:=hrel
  obtain ⟨d0,d1,d2,d3,d4⟩:=hS.head
  have d1:wr.cell? ⟨s.blk,69,none⟩=some (.int .i64 (top s.lv:Int)):=d1
  have d2:wr.cell? ⟨s.blk,70,none⟩=some (.int .i64 (s.n:Int)):=d2
  have d3:s.blk<wr.heap.size:=d3
  have d4:∀ i,wr.frozen? ⟨s.blk,i,none⟩=false:=d4
  have hsB:=hfl s.blk ⟨0,Nat.zero_le _,rfl⟩
  by_cases hTl:T<l
  ·have hTl':(T:Int)<(l:Int):=by omega
   have hT32:(T:Int)<32:=by omega
   have hT32n:T<32:=by omega
   obtain ⟨un,cn⟩:∃ u,wr.cell? ⟨B,T,none⟩=some u:=⟨_,(hN.cell T).trans (by rw [List.getElem?_toArray,List.getElem?_eq_getElem (by rw [s.nodesU_len];exact hT32n)])⟩
   obtain ⟨up_,cp⟩:∃ u,wr.cell? ⟨B+1,T,none⟩=some u:=⟨_,(hP.cell T).trans (by rw [List.getElem?_toArray,List.getElem?_eq_getElem (by rw [s.placesU_len];exact hT32n)])⟩
   have fn_:=hN.frozen T
   have fp_:=hP.frozen T
   obtain ⟨ul,cl⟩:=hS.has (p:=0) (Nat.zero_le _) (i:=2+T * 2) (by show 2+T * 2<71;omega)
   obtain ⟨um,cm⟩:=hS.has (p:=0) (Nat.zero_le _) (i:=2+T * 2+1) (by show 2+T * 2+1<71;omega)
   have cl:wr.cell? ⟨s.blk,2+T * 2,none⟩=some ul:=cl
   have cm:wr.cell? ⟨s.blk,2+T * 2+1,none⟩=some um:=cm
   have hb1:s.blk≠B:=by omega
   have hb2:s.blk≠B+1:=by omega
   go_wp2_with fail
   have hcc:Chg (fun g => g=B∨g=B+1) wr ((wr.setCell ⟨B,T,none⟩ (.pointer (some ⟨s.blk,0,none⟩))).setCell ⟨B+1,T,none⟩ (.int .i64 0)):=Chg.store (Chg.store (Chg.refl _ wr) (.inl rfl) _ _) (.inr rfl) _ _
   have hN1:=(hN.set T (.pointer (some ⟨s.blk,0,none⟩))).far (p:=⟨B+1,T,none⟩) (by simp) (.int .i64 0)
   have hP1:=(hP.far (p:=⟨B,T,none⟩) (by simp) (.pointer (some ⟨s.blk,0,none⟩))).set T (.int .i64 0)
   have hE1:=(hE.far (p:=⟨B,T,none⟩) (by simp;omega) (.pointer (some ⟨s.blk,0,none⟩))).far (p:=⟨B+1,T,none⟩) (by simp;omega) (.int .i64 0)
   rw [List.setIfInBounds_toArray] at hN1 hP1
   have eN:=s.nodesU_set k hT
   have eP:=s.placesU_set k hT
   unfold pt at eN
   rw [eN] at hN1
   rw [eP] at hP1
   generalize (wr.setCell ⟨B,T,none⟩ (.pointer (some ⟨s.blk,0,none⟩))).setCell ⟨B+1,T,none⟩ (.int .i64 0)=W1 at hcc hN1 hP1 hE1 ⊢
   have hS1:=hS.chg hcc (fun g hg e => by have:=hfl g hg;omega)
   have hC1:=hC.trans' hcc (fun g hg e => by omega)
   clear hS hC hN hP hE hcc d0 d1 d2 d3 d4 cn cp fn_ fp_ cl cm
   obtain ⟨_,_,d2,d3,d4⟩:=hS1.head
   have d2:W1.cell? ⟨s.blk,70,none⟩=some (.int .i64 (s.n:Int)):=d2
   have d4:∀ i,W1.frozen? ⟨s.blk,i,none⟩=false:=d4
   obtain ⟨ul,cl⟩:=hS1.has (p:=0) (Nat.zero_le _) (i:=2+T * 2) (by show 2+T * 2<71;omega)
   obtain ⟨um,cm⟩:=hS1.has (p:=0) (Nat.zero_le _) (i:=2+T * 2+1) (by show 2+T * 2+1<71;omega)
   have cl:W1.cell? ⟨s.blk,2+T * 2,none⟩=some ul:=cl
   have cm:W1.cell? ⟨s.blk,2+T * 2+1,none⟩=some um:=cm
   go_still_tail 11,(by kernel_rfl)
   go_wp2_with fail
   obtain ⟨v1,v2⟩:=viewT_up hS1 hT hT32n
   go_roundg (T1 - (T+1))
   case rel => exact ⟨T+1,int_eq (by omega),rfl,by omega,by omega,v1.chg0 (Chg.refl _ _).drew,(hC1.trans v2).drew,((hN1.far (p:=⟨s.blk,2+T * 2,none⟩) (by simp;omega) _).far (p:=⟨s.blk,2+T * 2+1,none⟩) (by simp;omega) _).drew,((hP1.far (p:=⟨s.blk,2+T * 2,none⟩) (by simp;omega) _).far (p:=⟨s.blk,2+T * 2+1,none⟩) (by simp;omega) _).drew,((hE1.far (p:=⟨s.blk,2+T * 2,none⟩) (by simp;omega) _).far (p:=⟨s.blk,2+T * 2+1,none⟩) (by simp;omega) _).drew⟩
   case measure => omega
  ·have hTl':¬ (T:Int)<(l:Int):=by omega
   have hTe:T=T1:=by omega
   subst hTe
   have hmx:max (top s.lv:Int) (l:Int)=(T:Int):=by omega
   have e0:=hE.cell 0
   have e1:=hE.cell 1
   have ef:=hE.lt
   simp only [List.getElem?_toArray,List.getElem?_cons_zero,List.getElem?_cons_succ] at e0 e1
   have p0:=hP.cell 0
   rw [List.getElem?_toArray,s.placesU_get k (show 0<T by omega) (by omega),h.prev0 hkn] at p0
   have pl:=hP.lt
   have pl2:B+1<wr.heap.size+1:=by omega
   have hb1:B≠s.blk:=by omega
   have hb2:B+1≠s.blk:=by omega
   have hb3:w.heap.size≠s.blk:=by omega
   go_wp2_with (first | (go_at_call 147;refine (highest_any _ _ wr.heap.size _ (Blk.new wr _ _)).mono ?_;rintro r w7 ⟨rfl,rfl⟩;rw [hmx]))
   have hsz0:w.heap.size≤wr.heap.size:=hC.size
   have hge:base≤wr.heap.size:=Nat.le_trans (h.lt ⟨0,Nat.zero_le _,rfl⟩).1 (by have:=(h.lt ⟨0,Nat.zero_le _,rfl⟩).2;omega)
   have hzc:(Tryz.zeroCells250).size=68:=by kernel_rfl
   obtain ⟨hM,hCM⟩:=mid_begin (o:=.cells #[.int .i64 (top s.lv:Int),.int .i64 (l:Int)] 3) (l:=l) (m:=e.m) (sc:=e.s) (k:=k) (cs:=((Tryz.zeroCells250.setIfInBounds 0 (.string e.m)).setIfInBounds 1 (.int .i64 e.s)).setIfInBounds 66 (.int .i64 (l:Int))) hS hkn (by simp [hzc]) ⟨by rw [set_other _ (by omega),set_other _ (by omega),set_same _ (by rw [hzc];omega)],by rw [set_other _ (by omega),set_same _ (by rw [Array.size_setIfInBounds,hzc];omega)],by rw [set_same _ (by rw [Array.size_setIfInBounds,Array.size_setIfInBounds,hzc];omega)],by rw [set_other _ (by omega),set_other _ (by omega),set_other _ (by omega)];rfl⟩ hge
   clear hS
   have hP0:=s.placesU_get k (j:=0) (T:=T) (by omega) (by omega)
   generalize hG:wr.heap.size+1=G at hM hCM ⊢
   generalize ((wr.setCell ⟨s.blk,69,none⟩ (.int .i64 (T:Int))).alloc (.cells #[.int .i64 (top s.lv:Int),.int .i64 (l:Int)] 3)).alloc (.cells (((Tryz.zeroCells250.setIfInBounds 0 (.string e.m)).setIfInBounds 1 (.int .i64 e.s)).setIfInBounds 66 (.int .i64 (l:Int))) 250)=W2 at hM hCM ⊢
   have hN2:=hN.chg hCM (fun hg => by have:=hfl _ hg;omega)
   have hP2:=hP.chg hCM (fun hg => by have:=hfl _ hg;omega)
   have hC2:=hC.trans hCM
   have hGB:B+1<G:=by omega
   clear hG hN hP hE hC hCM e0 e1 ef p0 pl pl2 hb1 hb2 hb3 hge hmx d0 d1 d2 d3 d4 hTl' hP0 hzc
   obtain ⟨wo,rfl⟩:∃ wo:World,wo=wr:=⟨_,rfl⟩
   go_loopg [88] T (fun j v W => ∃ i:Nat,v=.int .i64 (i:Int)∧j=T - i∧i≤T∧SvAt W base (midV s k ⟨G,e.m,e.s,l⟩ T i)∧Chg s.foot w W∧Blk W B 268 (s.nodesU k T).toArray∧Blk W (B+1) 269 (s.placesU k T).toArray)
   case atStart => exact ⟨0,rfl,rfl,Nat.zero_le _,hM,hC2,hN2,hP2⟩
   case round =>
    clear hM hC2 hN2 hP2 hsz0
    obtain ⟨i,rfl,rfl,hi,hM,hC,hN,hP⟩:=hrel
    by_cases hiT:i<T
    ·have hi32:i<32:=by omega
     have hiT':(i:Int)<(T:Int):=by omega
     have hi32':(i:Int)<32:=by omega
     obtain ⟨q1,q2,q3,q4,q5⟩:=mid_prev (x:=⟨G,e.m,e.s,l⟩) hkn (i:=i) (T:=T)
     have q3:=q3 hiT i
     have cn:=(hN.cell i).trans (by rw [List.getElem?_toArray,s.nodesU_get k hiT hi32])
     have cp:=(hP.cell i).trans (by rw [List.getElem?_toArray,s.placesU_get k hiT hi32])
     have ct:=hM.to_ (by rw [mid_len hkn];exact q1) hi32 q3
     have cs:=hM.sp_ (by rw [mid_len hkn];exact q1) hi32 q3
     have fA:=hM.fr (p:=prev s.lv i k) (by rw [mid_len hkn];exact q1)
     have fG:=hM.fr (p:=k+1) (by rw [mid_len hkn];omega)
     have lA:=(hM.lt ⟨prev s.lv i k,by rw [mid_len hkn];exact q1,rfl⟩).2
     have lG:=(hM.lt ⟨k+1,by rw [mid_len hkn];omega,rfl⟩).2
     obtain ⟨uG,cG⟩:=hM.has (p:=k+1) (by rw [mid_len hkn];omega) (i:=2+i * 2) (by have:=szP_le (k+1);omega)
     obtain ⟨uH,cH⟩:=hM.has (p:=k+1) (by rw [mid_len hkn];omega) (i:=2+i * 2+1) (by have:=szP_le (k+1);omega)
     have eG:(midV s k ⟨G,e.m,e.s,l⟩ T i).at_ (k+1)=G:=by rw [mid_at,Sk.put_at hkn,if_neg (by omega),if_pos rfl]
     have eA:(midV s k ⟨G,e.m,e.s,l⟩ T i).at_ (prev s.lv i k)=s.at_ (prev s.lv i k):=q2
     have et:(midV s k ⟨G,e.m,e.s,l⟩ T i).to (prev s.lv i k) i=s.go (nxt s.lv i (prev s.lv i k)):=by show (if i<i then _ else _)=_;rw [if_neg (Nat.lt_irrefl _),q4]
     have es:(midV s k ⟨G,e.m,e.s,l⟩ T i).sp (prev s.lv i k) i=(span s.lv i (prev s.lv i k):Int):=by show (if i<i then _ else _)=_;rw [if_neg (Nat.lt_irrefl _),q4]
     rw [eG] at cG cH fG lG
     rw [eA] at ct cs fA lA
     rw [et] at ct
     rw [es] at cs
     have hAw:s.at_ (prev s.lv i k)<w.heap.size:=hfl _ ⟨_,by have:=(prev_spec s.lv i k).1;show _≤s.n;omega,rfl⟩
     have hsp:=span_le (lv:=s.lv) (i:=i) (p:=prev s.lv i k)
     have hpr:=(prev_spec s.lv i k).1
     rw [s.lv_len] at hsp
     have hmlow:=fun w' (h:SvAt w' base (midV s k ⟨G,e.m,e.s,l⟩ T i)) (hi:i<l) => mid_low (x:=⟨G,e.m,e.s,l⟩) h hkn hi hi32
     have hmhigh:=fun w' (h:SvAt w' base (midV s k ⟨G,e.m,e.s,l⟩ T i)) (hi:l≤i) => mid_high (x:=⟨G,e.m,e.s,l⟩) h hkn hi hi32
     clear q1 q2 q3 q4 q5 eG eA et es
     unfold pt at cn
     obtain ⟨tp,htp⟩:=go_ptr s (nxt s.lv i (prev s.lv i k))
     simp only [htp] at ct hmlow
     clear htp
     generalize span s.lv i (prev s.lv i k)=sp at cs hsp hmlow hmhigh
     generalize s.at_ (prev s.lv i k)=A at cn ct cs fA lA hAw hmlow hmhigh
     generalize prev s.lv i k=pr at cp hpr hmlow
     have hAG:A≠G:=by omega
     have hGA:G≠A:=by omega
     have hAB:A≠B:=by omega
     have hAB1:A≠B+1:=by omega
     have hGB0:G≠B:=by omega
     have hGB1:G≠B+1:=by omega
     have s0:(sp:Int)≤10000:=by omega
     have s1:(pr:Int)≤(k:Int):=by omega
     have s2:(k:Int)≤10000:=by omega
     by_cases hil:i<l
     ·have hil':¬ (i:Int) ≥ (l:Int):=by omega
      go_wp2_with fail
      go_still_tail 16,(by kernel_rfl)
      go_wp2_with fail
      obtain ⟨v1,v2⟩:=hmlow _ hM hil
      go_roundg (T - (i+1))
      case rel => exact ⟨i+1,int_eq (by omega),rfl,by omega,v1.chg0 (Chg.refl _ _).drew,(hC.trans' v2 (fun g hg hf => (mid_foot hkn hf).resolve_right (by show g≠G;omega))).drew,(((((hN.far (p:=⟨G,2+i * 2,none⟩) (by simp;omega) _).far (p:=⟨G,2+i * 2+1,none⟩) (by simp;omega) _).far (p:=⟨A,2+i * 2,none⟩) (by simp;omega) _).far (p:=⟨A,2+i * 2+1,none⟩) (by simp;omega) _)).drew,(((((hP.far (p:=⟨G,2+i * 2,none⟩) (by simp;omega) _).far (p:=⟨G,2+i * 2+1,none⟩) (by simp;omega) _).far (p:=⟨A,2+i * 2,none⟩) (by simp;omega) _).far (p:=⟨A,2+i * 2+1,none⟩) (by simp;omega) _)).drew⟩
      case measure => omega
     ·have hil':(i:Int) ≥ (l:Int):=by omega
      go_wp2_with fail
      obtain ⟨v1,v2⟩:=hmhigh _ hM (by omega)
      go_roundg (T - (i+1))
      case rel => exact ⟨i+1,int_eq (by omega),rfl,by omega,v1,hC.trans' v2 (fun g hg hf => (mid_foot hkn hf).resolve_right (by show g≠G;omega)),hN.far (p:=⟨A,2+i * 2+1,none⟩) (by simp;omega) _,hP.far (p:=⟨A,2+i * 2+1,none⟩) (by simp;omega) _⟩
      case measure => omega
    ·obtain rfl:i=T:=by omega
     clear hiT hi
     have hi0:0<i:=by omega
     have hkl:k≤s.lv.length:=by rw [s.lv_len];exact hkn
     have n0:=(hN.cell 0).trans (by rw [List.getElem?_toArray,s.nodesU_get k hi0 (by omega),h.prev0 hkn])
     unfold pt at n0
     have eG:(midV s k ⟨G,e.m,e.s,l⟩ i i).at_ (k+1)=G:=by rw [mid_at,Sk.put_at hkn,if_neg (by omega),if_pos rfl]
     have ex:(midV s k ⟨G,e.m,e.s,l⟩ i i).to (k+1) 0=if k<s.n then .pointer (some ⟨s.at_ (k+1),0,none⟩) else .pointer none:=by
      show (if 0<i then (s.put k _).go (nxt (ins s.lv k l) 0 (k+1)) else _)=_
      rw [if_pos hi0,ins_nxt_behind hkl (Nat.le_refl _),h.nxt0 k]
      split
      ·show pt ((s.put k _).at_ (k+2))=_
       rw [Sk.put_at hkn,if_neg (by omega),if_neg (by omega)];rfl
      ·rfl
     have cx:=hM.to_ (p:=k+1) (i:=0) (by rw [mid_len hkn];omega) (by omega) (.inr (.inr ⟨rfl,hi0,by show 0<l;omega⟩))
     rw [eG,ex] at cx
     simp only [Nat.zero_mul,Nat.add_zero] at cx
     obtain ⟨j,hj1,hj2⟩:=node_info
     have nsame:=fun n => neq_ptr_same (P:=Tryz.prog) (wr.drewN n) ⟨s.blk,0,none⟩ Tryz.underlying244 hj1
     have nother:k≠0→∀ n,(binOp .neq 244 (.pointer (some ⟨s.at_ k,0,none⟩)) (.pointer (some ⟨s.blk,0,none⟩))).run Tryz.prog (wr.drewN n)=.ok (.bool true) (wr.drewN n):=fun h0 n => by
      obtain ⟨ca,ha,_⟩:=hM.nd k (by rw [mid_len hkn];omega)
      obtain ⟨cb,hb,_⟩:=hM.nd 0 (Nat.zero_le _)
      have e1:(midV s k ⟨G,e.m,e.s,l⟩ i i).at_ k=s.at_ k:=by rw [mid_at,Sk.put_at hkn,if_pos (Nat.le_refl _)]
      rw [e1] at ha
      refine neq_ptr_other _ Tryz.underlying244 hj1 hj2 (fun e => h0 ?_) ha hb
      injection e with e
      exact h.v.inj k 0 hkn (Nat.zero_le _) e
     clear hj1 hj2
     have fG:=hM.fr (p:=k+1) (by rw [mid_len hkn];omega)
     obtain ⟨uG,cG⟩:=hM.has (p:=k+1) (by rw [mid_len hkn];omega) (i:=67) (by have:=szP_le (k+1);omega)
     have lG:=(hM.lt ⟨k+1,by rw [mid_len hkn];omega,rfl⟩).2
     rw [eG] at cG fG lG
     obtain ⟨c0,c1,c2,c3,c4⟩:=hM.head
     change wr.cell? ⟨s.blk,68,none⟩=some (s.nd s.n) at c0
     change wr.cell? ⟨s.blk,70,none⟩=some (.int .i64 (s.n:Int)) at c2
     change s.blk<wr.heap.size at c3
     change ∀ i,wr.frozen? ⟨s.blk,i,none⟩=false at c4
     have hGs:G≠s.blk:=by omega
     have hsG:s.blk≠G:=by omega
     have lem:=fun w1 hb => mid_end (w:=w1) (base:=base) (x:=⟨G,e.m,e.s,l⟩) hb hkn hT1.symm ⟨hl1,hl2⟩ h.lo
     have hfo:∀ {w1 w2:World},Chg s.foot w w1→Chg (midV s k ⟨G,e.m,e.s,l⟩ i i).foot w1 w2→Chg s.foot w w2:=fun a b => a.trans' b (fun g hg hf => (mid_foot hkn hf).resolve_right (by show g≠G;omega))
     have sn:(s.n:Int)≤10000:=by omega
     have inj:=fun p q (hp:p≤s.n) (hq:q≤s.n) => h.v.inj p q hp hq
     change ∀ p q,p≤s.n→q≤s.n→s.at_ p=s.at_ q→p=q at inj
     clear hN hP ex eG c1
     go_wp2_with fail
     by_cases hk1:k<s.n
     ·rw [if_pos hk1] at cx
      have f2:=hM.fr (p:=k+2) (by rw [mid_len hkn];omega)
      obtain ⟨u2,c2'⟩:=hM.has (p:=k+2) (by rw [mid_len hkn];omega) (i:=67) (by have:=szP_le (k+2);omega)
      have l2:=(hM.lt ⟨k+2,by rw [mid_len hkn];omega,rfl⟩).2
      have e2:(midV s k ⟨G,e.m,e.s,l⟩ i i).at_ (k+2)=s.at_ (k+1):=by rw [mid_at,Sk.put_at hkn,if_neg (by omega),if_neg (by omega)];rfl
      rw [e2] at c2' f2 l2
      have hnb:s.at_ (k+1)≠s.blk:=fun e => by have:=inj (k+1) 0 (by omega) (by omega) e;omega
      have hA2:s.at_ (k+1)<w.heap.size:=hfl _ ⟨k+1,hk1,rfl⟩
      clear e2
      by_cases h0:k=0
      ·have b1:=mid_bk0 hM h0
       have e0:s.at_ k=s.blk:=by rw [h0];rfl
       clear nother
       obtain ⟨r1,r2⟩:=lem _ b1 _ rfl
       rw [if_pos hk1] at r1 r2
       have r3:=hfo hC r2
       rw [e0] at n0
       generalize s.at_ (k+1)=A2 at *
       clear e0 b1 lem inj
       go_quiet (fail)
       go_wp2_with fail
       go_ret
       exact ⟨rfl,G,by omega,r1.chg0 ((Chg.refl _ _).drewN _),r3.drewN _⟩
      ·have b1:=mid_bk1 hM hkn h0
       obtain ⟨r1,r2⟩:=lem _ b1.1 _ rfl
       rw [if_pos hk1] at r1 r2
       have r3:=hfo (hfo hC b1.2) r2
       have hAb:s.at_ k≠s.blk:=fun e => h0 (inj k 0 hkn (by omega) e)
       replace nother:=nother h0
       clear nsame
       have hAA:s.at_ (k+1)≠G:=by omega
       have hA1:s.at_ k<w.heap.size:=hfl _ ⟨k,hkn,rfl⟩
       clear b1 lem inj
       go_quiet (fail)
       go_wp2_with fail
       go_ret
       exact ⟨rfl,G,by omega,r1.chg0 ((Chg.refl _ _).drewN _),r3.drewN _⟩
     ·rw [if_neg hk1] at cx
      by_cases h0:k=0
      ·have b1:=mid_bk0 hM h0
       have e0:s.at_ k=s.blk:=by rw [h0];rfl
       clear nother
       obtain ⟨r1,r2⟩:=lem _ b1 _ rfl
       rw [if_neg hk1] at r1 r2
       have r3:=hfo hC r2
       rw [e0] at n0
       clear e0 b1 lem inj
       go_quiet (fail)
       go_wp2_with fail
       go_ret
       exact ⟨rfl,G,by omega,r1.chg0 ((Chg.refl _ _).drewN _),r3.drewN _⟩
      ·have b1:=mid_bk1 hM hkn h0
       obtain ⟨r1,r2⟩:=lem _ b1.1 _ rfl
       rw [if_neg hk1] at r1 r2
       have r3:=hfo (hfo hC b1.2) r2
       have hAb:s.at_ k≠s.blk:=fun e => h0 (inj k 0 hkn (by omega) e)
       replace nother:=nother h0
       clear nsame
       have hA1:s.at_ k<w.heap.size:=hfl _ ⟨k,hkn,rfl⟩
       clear b1 lem inj
       go_quiet (fail)
       go_wp2_with fail
       go_ret
       exact ⟨rfl,G,by omega,r1.chg0 ((Chg.refl _ _).drewN _),r3.drewN _⟩
end Go.Proofs.YtehpmbmdadkhbaaGreatDoor

namespace Go.Proofs.YtehpmbmdadkhbaaGreatDoor
open Go.RowKit Pal
attribute [local go_sem] Oper.semAt_some
set_option maxRecDepth 100000 in
set_option maxHeartbeats 1000000 in
theorem clone_any (v:Value) (l:List En) (w:World) (h:EntsR w v l) (hl:l.length≤100000):Calls Tryz.prog 204 #[v] w (RgPost w l):=by
 obtain ⟨i0,hi0,hz0,hz1,hz2⟩:=info_parts ent_info
 obtain ⟨p,c,rfl,h1,h2,h3⟩:=h
 have hnil:=fun w => run_eql_slice_nil (P:=Tryz.prog) w 64 68 p l.length c Tryz.underlying64
 cases p with
 | none =>
  have h0:l=[]:=by
   rcases Nat.eq_zero_or_pos l.length with h0 | h0
   ·exact List.eq_nil_of_length_eq_zero h0
   ·obtain ⟨ad,e,_⟩:=h3.2 h0;cases e
  subst h0
  simp only [Option.isNone_none,List.length_nil] at hnil ⊢
  go_enter Tryz.func204,Tryz.ntmps204
  go_wp2_with fail
  go_ret
  exact ⟨⟨_,rfl,Ents.nil _ _⟩,Chg.refl _ _⟩
 | some ad =>
  simp only [Option.isNone_some] at hnil
  have k1:0+l.length≤maxLen:=by unfold maxLen;omega
  have k2:(0+l.length) * 24≤140737488355328:=by omega
  go_enter Tryz.func204,Tryz.ntmps204
  have hown:(w.alloc (.cells #[] 68)).ownsRow w.heap.size 68 2 (.slice (some ⟨w.heap.size,0,none⟩) 0 0) 0 [] :=
   ⟨rfl,.inr ⟨w.heap.size,0,#[],rfl,Nat.le_refl _,World.alloc_heap_new w _,Nat.le_refl _,Nat.zero_le _,rfl,rfl⟩⟩
  have hr:Reads (w.alloc (.cells #[] 68)) w.heap.size 2 (some ad) l.length (l.flatMap En.cells):=h3.alloc (Nat.le_refl _) _
  have hsz:w.heap.size≤(w.alloc (.cells #[] 68)).heap.size:=by simp
  go_wp2_with (at_builtin;refine wpList_append_any _ rfl (.tmp 5) (.tmp 6) 64 rfl w.heap.size 68 i0 _ 2 24 Tryz.underlying64 hi0 hz0 hz1 hz2 rfl (by omega) _ 0 [] rfl hown w.heap.size (some ad) l.length c _ rfl hr (ents_one l) k1 k2 hsz ?_;intro v1 w1 hown1 hg1 _)
  go_ret
  refine ⟨⟨_,rfl,Ents.mk hown1 (Nat.zero_add _) (by simp)⟩,((Chg.refl _ w).alloc _).trans' (app_chg hown hg1) fun g hl h => by omega⟩
def sub (l:List En) (i j:Int):List En:=(l.drop (clampN l.length i)).take (max (clampN l.length i) (clampN l.length j) - clampN l.length i)
theorem POk.sub' {l l':List En} (h:POk l) (hl:l'.length≤l.length) (hs:∀ e∈l',e∈l):POk l':=⟨Nat.le_trans hl h.len,fun e he => h.ok e (hs e he)⟩
structure PkAt (w:World) (b:Nat) (es:List En):Prop where
 b:Blk w b 204 #[.string (pk es)]
 ok:POk es
section
variable {w:World} {b:Nat} {es:List En}
theorem PkAt.chg {w':World} {S:Nat→Prop} (h:PkAt w b es) (hc:Chg S w w') (hn:¬ S b):PkAt w' b es:=⟨h.b.chg hc hn,h.ok⟩
theorem PkAt.cell (h:PkAt w b es):w.cell? ⟨b,0,none⟩=some (.string (pk es)):=by have:=h.b.cell 0;simpa using this
theorem p_entries (h:PkAt w b es):Calls Tryz.prog 202 #[pt b] w (RgPost w es):=by
 have he:=fun w => entries_any es h.ok w
 unfold EntPost at he
 have c0:=h.cell
 have l0:=h.b.lt
 unfold pt
 go_enter Tryz.func202,Tryz.ntmps202
 go_wp2_with (go_at_call 211;refine (he _).mono ?_;rintro r w1 ⟨⟨v,rfl,hv⟩,hC⟩)
 go_ret
 exact ⟨⟨_,rfl,hv⟩,hC⟩
theorem p_len (h:PkAt w b es):Calls Tryz.prog 196 #[pt b] w fun r w' => r=.returned (.int .i64 (es.length:Int))∧Chg (fun _ => False) w w':=by
 have he:=p_entries h
 unfold RgPost at he
 unfold pt at he ⊢
 go_enter Tryz.func196,Tryz.ntmps196
 go_wp2_with (go_at_call 202;refine he.mono ?_;rintro r w1 ⟨⟨v,rfl,hv⟩,hC⟩;obtain ⟨p,c,rfl,_,_,_⟩:=hv.is)
 go_ret
 exact ⟨rfl,hC⟩
theorem p_bytes (h:PkAt w b es):Calls Tryz.prog 198 #[pt b] w fun r w' => r=.returned (.int .i64 ((pk es).size:Int))∧w=w':=by
 have c0:=h.cell
 have l0:=h.b.lt
 have hsz:=pk_le h.ok
 unfold pt
 go_enter Tryz.func198,Tryz.ntmps198
 go_wp2_with fail
 go_ret
 exact ⟨rfl,rfl⟩
set_option maxRecDepth 100000 in
set_option maxHeartbeats 1000000 in
theorem p_range (h:PkAt w b es) (i j:Int):Calls Tryz.prog 197 #[pt b,.int .i64 i,.int .i64 j] w (RgPost w (sub es i j)):=by
 have he:=p_entries h
 have hlen:=h.ok.len
 have hwi:=fun w => within3_any i j es.length w (by omega)
 have hc1:clampN es.length i≤es.length:=Nat.min_le_right _ _
 have hc2:clampN es.length j≤es.length:=Nat.min_le_right _ _
 unfold RgPost at he
 unfold pt at he ⊢
 have hcl:=fun v w h => clone_any v (sub es i j) w h (by unfold sub;rw [List.length_take,List.length_drop];omega)
 unfold sub at hcl ⊢
 generalize clampN es.length i=f at *
 have ht2:max f (clampN es.length j)≤es.length:=by omega
 have ht1:f≤max f (clampN es.length j):=by omega
 generalize max f (clampN es.length j)=t at *
 have x1:(f:Int)≤(t:Int):=by omega
 have x2:(t:Int)≤200:=by omega
 clear hc2
 go_enter Tryz.func197,Tryz.ntmps197
 go_wp2_with (first | (go_at_call 202;refine he.mono ?_;rintro r w1 ⟨⟨v,rfl,hv⟩,hC⟩;have hvr:=hv.r;obtain ⟨p,c,rfl,hpc,hpm,hpg⟩:=hv.is) | (go_at_call 203;refine (hwi _).mono ?_;rintro r w2 ⟨rfl,rfl⟩) | fail)
 all_goals
  have hvr':=hvr
  unfold maxLen at hpm
  first
   | refine (hcl _ _ (hvr'.part ht1 ht2 (p.map fun x => x.add (f * 2)) (fun _ => rfl) (c - f) ⟨by omega,by unfold maxLen;omega⟩)).mono ?_
   | refine (hcl _ _ (hvr'.part ht1 ht2 p (fun h => by omega) 0 ⟨by omega,Nat.zero_le _⟩)).mono ?_
  rintro r w3 ⟨⟨v,rfl,hv3⟩,hC3⟩
  go_wp2_with fail
  go_ret
  exact ⟨⟨_,rfl,hv3.lower hC.size⟩,hC.trans hC3⟩
end
end Go.Proofs.YtehpmbmdadkhbaaGreatDoor

namespace Go.Proofs.YtehpmbmdadkhbaaGreatDoor
open Go.RowKit Pal
attribute [local go_sem] Oper.semAt_some
def lookE (l:List En) (m:ByteArray):Option Int:=(l.find? fun e => decide (e.m=m)).map (·.s)
theorem findI_spec:∀ (l:List En) (m:ByteArray) (o:Nat),(∃ k e,l[k]?=some e∧e.m=m∧findI l m o=((o+k:Nat):Int)∧lookE l m=some e.s)∨(lookE l m=none∧findI l m o=-1∧∀ e∈l,e.m≠m)
 | [],m,o => .inr ⟨rfl,rfl,fun _ h => by cases h⟩
 | e :: l,m,o => by
  by_cases h:e.m=m
  ·refine .inl ⟨0,e,rfl,h,?_,?_⟩
   ·show (if e.m=m then (o:Int) else _)=_
    rw [if_pos h];rfl
   ·unfold lookE;rw [List.find?_cons_of_pos (by simpa using h)];rfl
  ·have e1:findI (e :: l) m o=findI l m (o+1):=if_neg h
   have e2:lookE (e :: l) m=lookE l m:=by unfold lookE;rw [List.find?_cons_of_neg (by simpa using h)]
   rw [e1,e2]
   rcases findI_spec l m (o+1) with ⟨k,x,h1,h2,h3,h4⟩ | ⟨h1,h2,h3⟩
   ·exact .inl ⟨k+1,x,by simpa using h1,h2,by rw [h3];congr 1;omega,h4⟩
   ·exact .inr ⟨h1,h2,fun y hy => by
     rcases List.mem_cons.1 hy with rfl | hy
     ·exact h
     ·exact h3 y hy⟩
theorem ent_lies (W W':World) (hc:Chg (fun _ => False) (W.alloc (.cells #[.string ⟨#[]⟩,.int .i64 0] 68)) W'):W'.cell? ⟨W.heap.size,0,none⟩=some (.string ⟨#[]⟩)∧W'.cell? ⟨W.heap.size,1,none⟩=some (.int .i64 0)∧(∀ i,W'.frozen? ⟨W.heap.size,i,none⟩=false)∧W.heap.size<W'.heap.size:=by
 have hb:=(Blk.new W 68 #[.string ⟨#[]⟩,.int .i64 0]).chg hc id
 exact ⟨hb.cell 0,hb.cell 1,hb.frozen,hb.lt⟩
section
variable {w:World} {b:Nat} {es:List En}
set_option maxRecDepth 100000 in
set_option maxHeartbeats 1000000 in
theorem p_score (h:PkAt w b es) (m:ByteArray):Calls Tryz.prog 201 #[pt b,.string m] w fun r w' => r=.returned (.tuple #[.int .i64 ((lookE es m).getD 0),.bool (lookE es m).isSome])∧Chg (fun _ => False) w w':=by
 have hfi:=fun w => find_any es h.ok m w
 have hgen:∀ W',Chg (fun _ => False) w W'→W'.cell? ⟨b,0,none⟩=some (.string (pk es)):=fun W' hc => (h.chg hc id).cell
 have c0:=h.cell
 have l0:=h.b.lt
 unfold pt
 rcases findI_spec es m 0 with ⟨k,e,h1,h2,h3,h4⟩ | ⟨h1,h2,h3⟩
 ·have hg:=fun w => get_yes es h.ok k e h1 w
  rw [h3,Nat.zero_add] at hfi
  rw [h4]
  unfold En.val at hg
  clear h1 h2 h3 h4
  go_enter Tryz.func201,Tryz.ntmps201
  go_wp2_with fail
  go_region_held3 (fun W' => W'.cell? ⟨b,0,none⟩=some (.string (pk es))) (first | exact hgen _ (Chg.refl _ _).drew | exact hgen _ ((Chg.refl _ _).alloc _).drew | exact hgen _ ((Chg.refl _ _).drew.alloc _) | exact hgen _ hc5 | exact hgen _ (hc5.alloc _) | exact hgen _ hc6 | exact hgen _ (hc6.alloc _) | exact hgen _ (Chg.setCell (Chg.setCell hc6 (p:=⟨w5.heap.size,0,none⟩) (fun h => by have:=hc5.size;simp at h;omega) _) (p:=⟨w5.heap.size,1,none⟩) (fun h => by have:=hc5.size;simp at h;omega) _) | exact hgen _ (Chg.setCell (Chg.setCell hc6 (p:=⟨w.heap.size,0,none⟩) (fun h => by simp at h) _) (p:=⟨w.heap.size,1,none⟩) (fun h => by simp at h) _) | fail) (first | (go_at_call 206;refine (hfi _).mono ?_;rintro r w5 ⟨rfl,hc5'⟩;have hc5:Chg (fun _ => False) w w5:=(show Chg (fun _ => False) w _ from (by first | exact (Chg.refl _ _).drew | exact ((Chg.refl _ _).alloc _).drew | exact (Chg.refl _ _).drew.alloc _)).trans hc5';(first | (have q5:=ent_lies w w5 ((Chg.refl _ _).drew.trans hc5');obtain ⟨a0,a1,a2,a3⟩:=q5) | skip)) | (go_at_call 210;refine (hg _).mono ?_;rintro r w6 ⟨rfl,hc6'⟩;have hc6:Chg (fun _ => False) w w6:=(show Chg (fun _ => False) w _ from (by first | exact hc5 | exact hc5.alloc _)).trans hc6';(first | (have q6:=ent_lies w5 w6 hc6';obtain ⟨d0,d1,d2,d3⟩:=q6) | (have q6:=ent_lies w w6 (((Chg.refl _ _).drew.trans hc5').trans hc6');obtain ⟨d0,d1,d2,d3⟩:=q6) | skip)) | fail)
  all_goals
   go_wp2_with fail
   go_ret2
   first
    | exact ⟨rfl,hc6.alloc _⟩
    | exact ⟨rfl,Chg.setCell (Chg.setCell hc6 (p:=⟨w5.heap.size,0,none⟩) (fun h => by have:=hc5.size;simp at h;omega) _) (p:=⟨w5.heap.size,1,none⟩) (fun h => by have:=hc5.size;simp at h;omega) _⟩
    | exact ⟨rfl,Chg.setCell (Chg.setCell hc6 (p:=⟨w.heap.size,0,none⟩) (fun h => by simp at h) _) (p:=⟨w.heap.size,1,none⟩) (fun h => by simp at h) _⟩
 ·have hg:=fun w => get_no es h.ok (-1) (.inl (by omega)) w
  rw [h2] at hfi
  rw [h1]
  unfold entZ at hg
  clear h1 h2 h3
  go_enter Tryz.func201,Tryz.ntmps201
  go_wp2_with fail
  go_region_held3 (fun W' => W'.cell? ⟨b,0,none⟩=some (.string (pk es))) (first | exact hgen _ (Chg.refl _ _).drew | exact hgen _ ((Chg.refl _ _).alloc _).drew | exact hgen _ ((Chg.refl _ _).drew.alloc _) | exact hgen _ hc5 | exact hgen _ (hc5.alloc _) | exact hgen _ hc6 | exact hgen _ (hc6.alloc _) | exact hgen _ (Chg.setCell (Chg.setCell hc6 (p:=⟨w5.heap.size,0,none⟩) (fun h => by have:=hc5.size;simp at h;omega) _) (p:=⟨w5.heap.size,1,none⟩) (fun h => by have:=hc5.size;simp at h;omega) _) | exact hgen _ (Chg.setCell (Chg.setCell hc6 (p:=⟨w.heap.size,0,none⟩) (fun h => by simp at h) _) (p:=⟨w.heap.size,1,none⟩) (fun h => by simp at h) _) | fail) (first | (go_at_call 206;refine (hfi _).mono ?_;rintro r w5 ⟨rfl,hc5'⟩;have hc5:Chg (fun _ => False) w w5:=(show Chg (fun _ => False) w _ from (by first | exact (Chg.refl _ _).drew | exact ((Chg.refl _ _).alloc _).drew | exact (Chg.refl _ _).drew.alloc _)).trans hc5';(first | (have q5:=ent_lies w w5 ((Chg.refl _ _).drew.trans hc5');obtain ⟨a0,a1,a2,a3⟩:=q5) | skip)) | (go_at_call 210;refine (hg _).mono ?_;rintro r w6 ⟨rfl,hc6'⟩;have hc6:Chg (fun _ => False) w w6:=(show Chg (fun _ => False) w _ from (by first | exact hc5 | exact hc5.alloc _)).trans hc6';(first | (have q6:=ent_lies w5 w6 hc6';obtain ⟨d0,d1,d2,d3⟩:=q6) | (have q6:=ent_lies w w6 (((Chg.refl _ _).drew.trans hc5').trans hc6');obtain ⟨d0,d1,d2,d3⟩:=q6) | skip)) | fail)
  all_goals
   go_wp2_with fail
   go_ret2
   first
    | exact ⟨rfl,hc6.alloc _⟩
    | exact ⟨rfl,Chg.setCell (Chg.setCell hc6 (p:=⟨w5.heap.size,0,none⟩) (fun h => by have:=hc5.size;simp at h;omega) _) (p:=⟨w5.heap.size,1,none⟩) (fun h => by have:=hc5.size;simp at h;omega) _⟩
    | exact ⟨rfl,Chg.setCell (Chg.setCell hc6 (p:=⟨w.heap.size,0,none⟩) (fun h => by simp at h) _) (p:=⟨w.heap.size,1,none⟩) (fun h => by simp at h) _⟩
end
end Go.Proofs.YtehpmbmdadkhbaaGreatDoor

namespace Go.Proofs.YtehpmbmdadkhbaaGreatDoor
open Go.RowKit Pal
theorem En.ext' {a b:En} (h1:a.m=b.m) (h2:a.s=b.s):a=b:=by cases a;cases b;simp_all
structure Zok (es:List En):Prop where
 so:es.Pairwise ltE
 nd:(es.map (·.m)).Nodup
 ok:∀ e∈es,EnOk e
 n:es.length≤400
theorem lookE_some {l:List En} (nd:(l.map (·.m)).Nodup) {m:ByteArray} {s:Int}:lookE l m=some s ↔ (⟨m,s⟩:En)∈l:=by
 unfold lookE
 rw [Option.map_eq_some_iff]
 constructor
 ·rintro ⟨e,h1,rfl⟩
  have h2:=List.find?_some h1
  have h3:e.m=m:=by simpa using h2
  subst h3
  exact List.mem_of_find?_eq_some h1
 ·intro h
  cases hf:l.find? (fun e => decide (e.m=m)) with
  | none => exact absurd (List.find?_eq_none.1 hf _ h) (by simp)
  | some e =>
   have h1:=List.mem_of_find?_eq_some hf
   have h2:e.m=m:=by simpa using List.find?_some hf
   refine ⟨e,rfl,?_⟩
   have:e=⟨m,s⟩:=by
    clear hf
    induction l with
    | nil => cases h
    | cons x l ih =>
     rw [List.map_cons,List.nodup_cons] at nd
     rcases List.mem_cons.1 h with h | h <;> rcases List.mem_cons.1 h1 with h1 | h1
     ·rw [h1,h]
     ·exact absurd (List.mem_map.2 ⟨e,h1,by rw [h2,← h]⟩) nd.1
     ·exact absurd (List.mem_map.2 ⟨⟨m,s⟩,h,by rw [← h1,h2]⟩) nd.1
     ·exact ih nd.2 h h1
   rw [this]
theorem lookE_none {l:List En} {m:ByteArray}:lookE l m=none ↔ m ∉ l.map (·.m):=by
 unfold lookE
 rw [Option.map_eq_none_iff,List.find?_eq_none]
 constructor
 ·intro h h2
  obtain ⟨e,he,rfl⟩:=List.mem_map.1 h2
  exact h e he (by simp)
 ·intro h e he
  simp only [decide_eq_true_eq]
  intro e2
  exact h (List.mem_map.2 ⟨e,he,e2⟩)
def insE (l:List En) (e:En):List En:=l.take (ahead l e)++e :: l.drop (ahead l e)
def delE (l:List En) (k:Nat):List En:=l.take k++l.drop (k+1)
theorem insE_perm (l:List En) (e:En):(insE l e).Perm (e :: l):=by
 unfold insE
 have h:=List.perm_middle (a:=e) (l₁:=l.take (ahead l e)) (l₂:=l.drop (ahead l e))
 rwa [List.take_append_drop] at h
theorem delE_perm {l:List En} {k:Nat} {e:En} (h:l[k]?=some e):l.Perm (e :: delE l k):=by
 have hk:=(List.getElem?_eq_some_iff.1 h).1
 have e1:l=l.take k++e :: l.drop (k+1):=by
  conv => lhs;rw [← List.take_append_drop k l,List.drop_eq_getElem_cons hk]
  rw [List.getElem?_eq_getElem hk] at h
  injection h with h
  rw [h]
 unfold delE
 conv => lhs;rw [e1]
 exact List.perm_middle
theorem delE_sub (l:List En) (k:Nat):(delE l k).Sublist l:=by
 unfold delE
 conv => rhs;rw [← List.take_append_drop k l]
 refine List.Sublist.append (List.Sublist.refl _) ?_
 rw [← List.drop_drop]
 exact List.drop_sublist _ _
theorem Zok.sub {l l':List En} (h:Zok l) (hs:l'.Sublist l):Zok l' :=
 ⟨h.so.sublist hs,(hs.map _).nodup h.nd,fun e he => h.ok e (hs.mem he),Nat.le_trans hs.length_le h.n⟩
theorem Zok.ins {l:List En} (h:Zok l) {e:En} (hn:e.m ∉ l.map (·.m)) (he:EnOk e) (hl:l.length<400):Zok (insE l e):=by
 have hp:=insE_perm l e
 have hne:e ∉ l:=fun h2 => hn (List.mem_map.2 ⟨e,h2,rfl⟩)
 refine ⟨ahead_ins h.so hne,?_,fun x hx => ?_,?_⟩
 ·rw [(hp.map _).nodup_iff,List.map_cons,List.nodup_cons];exact ⟨hn,h.nd⟩
 ·rcases List.mem_cons.1 (hp.mem_iff.1 hx) with rfl | hx
  ·exact he
  ·exact h.ok x hx
 ·rw [hp.length_eq,List.length_cons];omega
theorem lookE_ins {l:List En} {e:En} (nd:(l.map (·.m)).Nodup) (hn:e.m ∉ l.map (·.m)) (m:ByteArray):lookE (insE l e) m=if m=e.m then some e.s else lookE l m:=by
 have hp:=insE_perm l e
 have nd2:((insE l e).map (·.m)).Nodup:=by rw [(hp.map _).nodup_iff,List.map_cons,List.nodup_cons];exact ⟨hn,nd⟩
 split
 ·rename_i h
  rw [lookE_some nd2,hp.mem_iff,h]
  exact List.mem_cons_self
 ·rename_i h
  apply Option.ext
  intro s
  rw [lookE_some nd2,lookE_some nd,hp.mem_iff,List.mem_cons]
  exact ⟨fun h2 => h2.elim (fun e2 => absurd (by rw [← e2]) h) id,.inr⟩
theorem lookE_del {l:List En} {k:Nat} {e:En} (nd:(l.map (·.m)).Nodup) (he:l[k]?=some e) (m:ByteArray):lookE (delE l k) m=if m=e.m then none else lookE l m:=by
 have hp:=delE_perm he
 have nd3:=(hp.map (·.m)).nodup_iff.1 nd
 rw [List.map_cons,List.nodup_cons] at nd3
 split
 ·rename_i h
  rw [lookE_none,h];exact nd3.1
 ·rename_i h
  apply Option.ext
  intro s
  rw [lookE_some nd3.2,lookE_some nd,hp.mem_iff,List.mem_cons]
  exact ⟨.inr,fun h2 => h2.elim (fun e2 => absurd (by rw [← e2]) h) id⟩
theorem look_at {l:List En} (h:Zok l) {m:ByteArray} {s:Int} (hl:lookE l m=some s):l[ahead l ⟨m,s⟩]?=some ⟨m,s⟩:=(ahead_mem h.so).1 ((lookE_some h.nd).1 hl)
theorem findI_at {l:List En} (h:Zok l) {m:ByteArray} {s:Int} (hl:lookE l m=some s):findI l m 0=(ahead l ⟨m,s⟩:Int):=by
 rcases findI_spec l m 0 with ⟨k,e,h1,h2,h3,h4⟩ | ⟨h1,_,_⟩
 ·rw [h3,Nat.zero_add]
  rw [hl] at h4
  injection h4 with h4
  have he:e=⟨m,s⟩:=En.ext' h2 h4.symm
  rw [he] at h1
  have h5:=look_at h hl
  have hk:=(List.getElem?_eq_some_iff.1 h1).1
  have ha:=(List.getElem?_eq_some_iff.1 h5).1
  have:k=ahead l ⟨m,s⟩:=by
   rw [List.getElem?_eq_getElem hk] at h1
   rw [List.getElem?_eq_getElem ha] at h5
   injection h1 with h1
   injection h5 with h5
   rcases Nat.lt_trichotomy k (ahead l ⟨m,s⟩) with h6 | h6 | h6
   ·have:=(List.pairwise_iff_getElem.1 h.so) _ _ hk ha h6
    rw [h1,h5] at this
    exact absurd this (ltE_irrefl _)
   ·exact h6
   ·have:=(List.pairwise_iff_getElem.1 h.so) _ _ ha hk h6
    rw [h1,h5] at this
    exact absurd this (ltE_irrefl _)
  rw [← this]
 ·rw [h1] at hl;cases hl
end Go.Proofs.YtehpmbmdadkhbaaGreatDoor

namespace Go.Proofs.YtehpmbmdadkhbaaGreatDoor
open Go.RowKit Pal
def dropM (l:List En) (m:ByteArray):List En:=l.filter fun e => decide (e.m≠m)
theorem filter_id {α:Type} {p:α→Bool} {l:List α} (h:∀ x∈l,p x=true):l.filter p=l:=List.filter_eq_self.2 h
theorem dropM_none {l:List En} {m:ByteArray} (h:lookE l m=none):dropM l m=l:=by
 refine filter_id fun e he => decide_eq_true fun e2 => ?_
 exact lookE_none.1 h (List.mem_map.2 ⟨e,he,e2⟩)
theorem dropM_at {l:List En} (nd:(l.map (·.m)).Nodup) {k:Nat} {e:En} (h:l[k]?=some e):dropM l e.m=delE l k:=by
 have hk:=(List.getElem?_eq_some_iff.1 h).1
 have e1:l=l.take k++e :: l.drop (k+1):=by
  conv => lhs;rw [← List.take_append_drop k l,List.drop_eq_getElem_cons hk]
  rw [List.getElem?_eq_getElem hk] at h
  injection h with h
  rw [h]
 have nd':=((delE_perm h).map (·.m)).nodup_iff.1 nd
 rw [List.map_cons,List.nodup_cons] at nd'
 have hn:∀ x∈delE l k,x.m≠e.m:=fun x hx e2 => nd'.1 (by rw [← e2];exact List.mem_map.2 ⟨x,hx,rfl⟩)
 unfold delE at hn ⊢
 unfold dropM
 conv => lhs;rw [e1]
 rw [List.filter_append,List.filter_cons_of_neg (by simp)]
 rw [filter_id fun x hx => decide_eq_true (hn x (List.mem_append.2 (.inl hx))),filter_id fun x hx => decide_eq_true (hn x (List.mem_append.2 (.inr hx)))]
theorem dropM_some {l:List En} (h:Zok l) {m:ByteArray} {s:Int} (hl:lookE l m=some s):delE l (ahead l ⟨m,s⟩)=dropM l m:=(dropM_at h.nd (look_at h hl)).symm
theorem dropM_sub (l:List En) (m:ByteArray):(dropM l m).Sublist l:=List.filter_sublist
theorem dropM_not (l:List En) (m:ByteArray):m ∉ (dropM l m).map (·.m):=fun h => by
 obtain ⟨e,he,e2⟩:=List.mem_map.1 h
 exact (of_decide_eq_true (List.mem_filter.1 he).2) e2
theorem dropM_len {l:List En} (h:Zok l) (m:ByteArray):(dropM l m).length=if (lookE l m).isSome then l.length - 1 else l.length:=by
 cases hl:lookE l m with
 | none => rw [dropM_none hl];rfl
 | some s =>
  rw [← dropM_some h hl]
  show _=l.length - 1
  have:=(delE_perm (look_at h hl)).length_eq
  rw [List.length_cons] at this
  omega
theorem look_pos {l:List En} (h:Zok l) {m:ByteArray} (hl:(lookE l m).isSome):0<l.length:=by
 obtain ⟨s,hs⟩:=Option.isSome_iff_exists.1 hl
 exact List.length_pos_of_mem ((lookE_some h.nd).1 hs)
def putE (l:List En) (m:ByteArray) (s:Int):List En:=insE (dropM l m) ⟨m,s⟩
theorem putE_ok {l:List En} (h:Zok l) {m:ByteArray} {s:Int} (he:EnOk ⟨m,s⟩) (hl:lookE l m=none→l.length<400):Zok (putE l m s):=by
 refine (h.sub (dropM_sub l m)).ins (dropM_not l m) he ?_
 rw [dropM_len h]
 have:=h.n
 split
 ·rename_i h2
  have:=look_pos h h2
  omega
 ·rename_i h2
  exact hl (by simpa using h2)
def addNo (l:List En) (m:ByteArray) (lv:Int):Option Int:=if 64<m.size∨lv<1∨32<lv then some 2 else if lookE l m=none∧l.length=400 then some 51 else none
def addR (l:List En) (m:ByteArray) (lv:Int):Bool × Int:=match addNo l m lv with | some e => (false,e) | none => ((lookE l m).isNone,0)
def addL (l:List En) (m:ByteArray) (s lv:Int):List En:=match addNo l m lv with | some _ => l | none => putE l m s
def addI (l:List En) (m:ByteArray) (s lv:Int) (E M:Nat) (is:Bool):Bool:=match addNo l m lv with | some _ => is | none => is || decide (E<(putE l m s).length∨M<m.size)
theorem addNo_none {l:List En} {m:ByteArray} {lv:Int} (h:addNo l m lv=none):m.size≤64∧1≤lv∧lv≤32∧(lookE l m=none→l.length≠400):=by
 unfold addNo at h
 split at h
 ·cases h
 ·split at h
  ·cases h
  ·rename_i h1 h2
   exact ⟨by omega,by omega,by omega,fun h3 h4 => h2 ⟨h3,h4⟩⟩
theorem addL_ok {l:List En} (h:Zok l) {m:ByteArray} {s lv:Int} (hs:-9223372036854775808≤s∧s≤9223372036854775807):Zok (addL l m s lv):=by
 unfold addL
 split
 ·exact h
 ·rename_i h1
  obtain ⟨h2,_,_,h5⟩:=addNo_none h1
  exact putE_ok h ⟨h2,hs⟩ fun h6 => by have:=h5 h6;have:=h.n;omega
end Go.Proofs.YtehpmbmdadkhbaaGreatDoor

namespace Go.Proofs.YtehpmbmdadkhbaaGreatDoor
open Go.RowKit Pal
attribute [local go_sem] Oper.semAt_some
section
variable {w:World} {b:Nat} {es:List En}
set_option maxRecDepth 100000 in
set_option maxHeartbeats 1000000 in
theorem p_drop (h:PkAt w b es) (e:En) (k:Nat) (hk:k<es.length) (hfk:findI es e.m 0=(k:Int)):Calls Tryz.prog 199 #[pt b,e.val] w fun r w' => (∃ v,r=.returned v)∧PkAt w' b (es.take k++es.drop (k+1))∧Chg (fun g => g=b) w w':=by
 have hfi:=fun w => find_any es h.ok e.m w
 rw [hfk] at hfi
 have hdel:=fun w => delete_pk es h.ok k hk w
 have hok2:POk (es.take k++es.drop (k+1)):=h.ok.sub' (by rw [List.length_append,List.length_take,List.length_drop];omega) (fun x hx => by
  rcases List.mem_append.1 hx with h | h
  ·exact List.mem_of_mem_take h
  ·exact List.mem_of_mem_drop h)
 have HB:=Lib.hid h.b
 have c0:=h.cell
 have l0:=h.b.lt
 clear hfk hk
 generalize hq:pk es=q at *
 generalize hq2:pk (es.take k++es.drop (k+1))=q2 at *
 replace hq2:=Lib.hid hq2
 clear hq
 unfold pt En.val
 go_enter Tryz.func199,Tryz.ntmps199
 go_wp2_with fail
 have hbe:=Blk.new w 68 #[.string e.m,.int .i64 e.s]
 have hbw:=HB.out.alloc (.cells #[.string e.m,.int .i64 e.s] 68)
 have hC1:=(Chg.refl (fun _ => False) w).alloc (.cells #[.string e.m,.int .i64 e.s] 68)
 generalize w.alloc (.cells #[.string e.m,.int .i64 e.s] 68)=w2 at hbe hbw hC1 ⊢
 generalize w.heap.size=B at hbe ⊢
 have hgen:∀ W',Chg (fun _ => False) w2 W'→W'.cell? ⟨b,0,none⟩=some (.string q)∧W'.cell? ⟨B,0,none⟩=some (.string e.m):=fun W' hc => ⟨by have:=(hbw.chg hc id).cell 0;simpa using this,by have:=(hbe.chg hc id).cell 0;simpa using this⟩
 obtain ⟨x1,x2⟩:=hgen w2 (Chg.refl _ _)
 go_region_with (first | (go_at_call 206;refine (hfi _).mono ?_;rintro r w5 ⟨rfl,hc5'⟩;have hc5:Chg (fun _ => False) w2 w5:=(Chg.refl _ _).drew.trans hc5';obtain ⟨y1,y2⟩:=hgen w5 hc5) | (go_at_call 205;refine (hdel _).mono ?_;rintro r w6 ⟨rfl,hc6⟩;have hb6:=hbw.chg (hc5.trans hc6) id;have z1:=hb6.cell 0;have zf:=hb6.frozen 0;have zl:=hb6.lt;simp only [List.getElem?_toArray,List.getElem?_cons_zero] at z1) | fail)
 all_goals
  go_wp2_with fail
  go_end0
  refine ⟨⟨_,rfl⟩,⟨?_,hok2⟩,Chg.store (S:=fun g => g=b) ((hC1.trans (hc5.trans hc6)).mono fun _ _ h => h.elim) rfl 0 _⟩
  rw [hq2.out]
  exact hb6.set 0 _
end
end Go.Proofs.YtehpmbmdadkhbaaGreatDoor

namespace Go.Proofs.YtehpmbmdadkhbaaGreatDoor
open Go.RowKit Pal
attribute [local go_sem] Oper.semAt_some
section
variable {w:World} {b:Nat} {es:List En}
set_option maxRecDepth 100000 in
theorem put1_any (e x:En) (i A B:Nat) (v:Value) (W:World) (hA:Blk W A 68 #[.string e.m,.int .i64 e.s]) (hB:Blk W B 64 #[v]) (l:List En) (hv:EntsR W v l) (hx:l[i]?=some x) :
  Calls Tryz.prog 208 #[.int .i64 (i:Int),pt A,pt B] W fun r W' => r=.returned (.bool (decide (ltE e x)))∧Chg (fun _ => False) W W':=by
 obtain ⟨g,o,c,rfl,h1,h2,h3,k0,k1⟩:=hv.at_ hx
 have a0:=hA.cell 0
 have a1:=hA.cell 1
 have b0:=hB.cell 0
 have la:=hA.lt
 have lb:=hB.lt
 simp only [List.getElem?_toArray,List.getElem?_cons_zero,List.getElem?_cons_succ] at a0 a1 b0
 have hi:=(List.getElem?_eq_some_iff.1 hx).1
 have hi':(i:Int)<(l.length:Int):=by omega
 have hi0:0≤(i:Int):=by omega
 have hless:=fun W => less_E e x W
 unfold En.val at hless
 unfold pt maxLen at *
 clear hx hv hA hB
 go_enter Tryz.func208,Tryz.ntmps208
 go_wp2_with fail
 go_still_tail 5,(by kernel_rfl)
 go_wp2_with (go_at_call 158;refine (hless _).mono ?_;rintro r w1 ⟨rfl,hC⟩)
 go_ret
 exact ⟨rfl,(Chg.refl _ _).drew.trans hC⟩
theorem ahead_turn {l:List En} {e:En} (hs:l.Pairwise ltE) (hn:e ∉ l) {t:Nat} {x:En} (hx:l[t]?=some x):decide (ltE e x)=decide (ahead l e≤t):=by
 have h:=ahead_lt (e:=e) hs hx
 rw [decide_eq_decide]
 constructor
 ·intro h1
  rcases Nat.lt_or_ge t (ahead l e) with h2 | h2
  ·exact absurd (ltE_trans h1 (h.2 h2)) (ltE_irrefl _)
  ·exact h2
 ·intro h1
  exact ltE_total (fun h2 => by have:=h.1 h2;omega) (fun e2 => hn (by rw [← e2];exact List.mem_of_getElem? hx))
end
end Go.Proofs.YtehpmbmdadkhbaaGreatDoor
