/- Texts joined for EvictSamples: EVY, EvictNone, EvictSamples. -/
import Derived.Test.YtehpmbmdadkhbaaGreatDoorJEvictNonea
import Derived.Test.YtehpmbmdadkhbaaGreatDoorJEvictNoneb
import Derived.Test.YtehpmbmdadkhbaaGreatDoorJEvictNonec
import Derived.Test.YtehpmbmdadkhbaaGreatDoorJEvictNoned
import Derived.Test.YtehpmbmdadkhbaaGreatDoorJEvictNonee
import Derived.Test.YtehpmbmdadkhbaaGreatDoorJEvictNonef
import Derived.Test.YtehpmbmdadkhbaaGreatDoorJEvictNoneg
import Derived.Test.YtehpmbmdadkhbaaGreatDoorJEvictNoneh
import Derived.Test.YtehpmbmdadkhbaaGreatDoorJEvictNonei
import Derived.Test.YtehpmbmdadkhbaaGreatDoorJEvictNonej
import Derived.Test.YtehpmbmdadkhbaaGreatDoorJEvictNonek
import Derived.Test.YtehpmbmdadkhbaaGreatDoorJEvictNonel
import Derived.Test.YtehpmbmdadkhbaaGreatDoorJEvictNonem
import Derived.Test.YtehpmbmdadkhbaaGreatDoorJEvictNonen
import Derived.Test.YtehpmbmdadkhbaaGreatDoorJEvictNoneo
import Derived.Test.YtehpmbmdadkhbaaGreatDoorJEvictNonep
import Derived.Test.YtehpmbmdadkhbaaGreatDoorJEvictNoneq

set_option linter.unusedVariables false
set_option linter.unusedSimpArgs false

namespace Go.Proofs.YtehpmbmdadkhbaaGreatDoor
open Go.RowKit Pal
section
variable {w0 WW W W':World} {sb tb:Nat} {cf:Cf} {ls lt ls':List Ct} {F G:Nat→Prop}
def KeepS (W W':World):Prop:=∀ B v l,Strs W B v l→Strs W' B v l
theorem KeepS.of_chg0 (hc:Chg (fun _ => False) W W'):KeepS W W':=fun _ _ _ h => h.chg hc fun _ _ => id
end
theorem madeK_ok (E M:Nat) (ks:List Kk) (h:∀ k∈ks,k.N.size≤64∧k.M≤1000):Cok (madeK E M ks):=by
 unfold madeK
 suffices hs:∀ (ks:List Kk) (l:List Ct),(∀ k∈ks,k.N.size≤64∧k.M≤1000)→Cok l→Cok (ks.foldl (oneK E M) l) from hs ks [] h Cok.nil
 intro ks
 induction ks with
 | nil => intro l _ hl;exact hl
 | cons k ks ih =>
  intro l hk hl
  have h1:=hk k (List.mem_cons_self)
  exact ih _ (fun x hx => hk x (List.mem_cons_of_mem _ hx)) (oneK_ok hl h1.1 h1.2)
theorem ksK_ok (g:Nat→K3) (n:Nat):∀ k∈ksK g n,k.N.size≤64∧k.M≤1000:=by
 intro k hk
 obtain ⟨i,_,rfl⟩:=List.mem_map.1 hk
 have h1:=kkK_n (g i)
 have h2:=(kkK_m (g i)).2
 exact ⟨by omega,by omega⟩
end Go.Proofs.YtehpmbmdadkhbaaGreatDoor

namespace Go.Proofs.YtehpmbmdadkhbaaGreatDoor
open Go.RowKit Pal Go.ChangeShapes Go.WideShapes Go.Deep
attribute [local go_sem] Oper.semAt_some
end Go.Proofs.YtehpmbmdadkhbaaGreatDoor

namespace Go.Proofs.YtehpmbmdadkhbaaGreatDoor
open Go.RowKit Pal Go.ChangeShapes Go.WideShapes Go.Deep
attribute [local go_sem] Oper.semAt_some
def hasB (k:ByteArray) (l:List ByteArray):Bool:=l.any fun x => decide (x=k)
theorem hasB_mem {k:ByteArray} {l:List ByteArray} (h:k∈l):hasB k l=true:=List.any_eq_true.2 ⟨k,h,decide_eq_true rfl⟩
theorem hasB_snoc {k x:ByteArray} {l:List ByteArray} {j:Nat} (h:l[j]?=some x):hasB k (l.take (j+1))=(hasB k (l.take j) || decide (x=k)):=by
 unfold hasB
 rw [List.take_add_one,h,List.any_append]
 simp
theorem KeepS.trans {a b c:World} (h:KeepS a b) (k:KeepS b c):KeepS a c:=fun B v l x => k B v l (h B v l x)
theorem MR.call {w0 WW W:World} {sb rb:Nat} {cf:Cf} {ls lr ls':List Ct} (h:MR w0 WW sb rb cf ls lr W) {f:FuncId} {args:Array Value} {R:Ending→World→Prop} (hf:∀ F,Spa w0 W sb cf ls F→(∀ g,F g→WW.heap.size≤g)→Calls Tryz.prog f args W fun r W' => R r W'∧Sst w0 sb cf ls' F W W') :
  Calls Tryz.prog f args W fun r W' => R r W'∧MR w0 WW sb rb cf ls' lr W'∧KeepS W W':=by
 obtain ⟨F,hF,f1⟩:=h.s
 refine (hf F hF f1).mono ?_
 rintro r W' ⟨hr,hs⟩
 refine ⟨hr,h.sstep hF f1 hs,fun B v l h => ?_⟩
 obtain ⟨F',_,hn⟩:=hs
 exact h.chg hn.chg fun g hg => hF.no_own h.own (by decide) hg
set_option maxRecDepth 100000 in
set_option maxHeartbeats 4000000 in
theorem EvictSamples_walk {H:Type} {enc:TypeId × Value→H} (W:World) {v0 v1 v3:Value} {d0 d1 d3:DataW H} {p0 p1 p3:List MemPlace}
  (hv0:Value.okWide Tryz.prog W .any 0 26 v0) (h0:DataW.Trod enc Tryz.prog W 0 (fun _ => true) true 26 v0 d0 p0)
  (hv1:Value.okWide Tryz.prog W .any 0 27 v1) (h1:DataW.Trod enc Tryz.prog W 0 (fun _ => true) true 27 v1 d1 p1) (now:Int) (w2:(Lit.int .i64 now).wf=true)
  (hv3:Value.okWide Tryz.prog W .any 0 28 v3) (h3:DataW.Trod enc Tryz.prog W 0 (fun _ => true) true 28 v3 d3 p3) :
  Calls Tryz.prog 3 #[v0,v1,.int .i64 now,v3] W fun e w' => e=.returned (.bool true)∧Chg (fun _ => False) W w':=by
 obtain ⟨cf,rfl,hseed⟩:=open_cfg hv0 h0
 obtain ⟨n,g,hk⟩:=open_keys hv1 h1
 obtain ⟨ds,hd⟩:=open_draws hv3 h3
 have hw:=(i64_of_wf w2).2
 clear hv0 h0 hv1 h1 hv3 h3 w2
 have hsh:=fun w => shown16_any w
 have hC0:=(Chg.refl (fun _ => False) W).alloc (.cells cf.cs 26)
 have x0:=Blk.new W 26 cf.cs
 have hmk:=fun W2 (hc:Chg (fun _ => False) W W2) => made_any hc cf hseed (hk.chg hc)
 have hlate:=made_late (clampL 200 cf.E) (clampL 64 cf.M) (ksK g (min n 60))
 have hcok:=madeK_ok (clampL 200 cf.E) (clampL 64 cf.M) (ksK g (min n 60)) (ksK_ok g _)
 generalize clampL 200 cf.E=EE at *
 generalize clampL 64 cf.M=MM at *
 generalize hLe:madeK EE MM (ksK g (min n 60))=L at hmk hlate hcok
 obtain ⟨pk,ck,rfl⟩:=hk.is
 obtain ⟨pd,cd,rfl,_⟩:=hd.is
 have hch:=fun {sb rb:Nat} {W1 W2:World} (hW:Chg (fun _ => False) W W1) (h:MR W W1 sb rb cf L L W2) => h.call fun F hF f1 => choose_u hF _ ds (hd.outer (hW.trans h.c) fun g hg => Nat.le_trans hW.size (f1 g hg)) now hw
 have hle:=fun {sb rb:Nat} {W1 W2:World} (h:MR W W1 sb rb cf L L W2) => (show Calls Tryz.prog 12 #[pt sb] W2 fun r W' => r=.returned (.int .i64 (L.length:Int))∧W2=W' from (by obtain ⟨F,hF,_⟩:=h.s;exact spa_len hF))
 obtain ⟨CK,hCK⟩:∃ CK,(chooseC L now ds).1=CK:=⟨_,rfl⟩
 obtain ⟨CE,hCE⟩:∃ CE,(chooseC L now ds).2=CE:=⟨_,rfl⟩
 simp only [hCK,hCE] at hch
 generalize hnd:ds.length=nd at *
 clear hk
 unfold Cf.cs pt at *
 have hE:L=[]→CE=150:=fun h => by rw [← hCE,h];rfl
 have hLl:L=[] ↔ L.length=0:=List.length_eq_zero_iff.symm
 have hll5:L.length≤60:=by have:=madeK_len EE MM (ksK g (min n 60));rw [hLe] at this;unfold ksK at this;rw [List.length_map,List.length_range] at this;omega
 have hkl:(keysC L).length≤1000:=by unfold keysC;rw [List.length_map];omega
 generalize hll:L.length=ll at *
 by_cases h9:now<9
 ·by_cases hL:L=[]
  ·have hCE2:=hE hL
   have hl0:(ll:Int)=0:=by have:=hLl.1 hL;omega
   subst hCE2
   clear hE hL hLl hCE hCK
   go_enter Tryz.func3,Tryz.ntmps3
   go_wp2_with (first
    | (go_at_call 9;refine (hsh _).mono ?_;rintro r w1 ⟨rfl,hC1⟩;have x1:=x0.chg hC1 id;have y0:=x1.cell 0;have y1:=x1.cell 1;have y2:=x1.cell 2;have y3:=x1.cell 3;have yl:=x1.lt;simp only [List.getElem?_toArray,List.getElem?_cons_zero,List.getElem?_cons_succ] at y0 y1 y2 y3;have hW1:=hC0.trans hC1)
    | (go_at_call 10;(with_reducible refine (hmk _ hW1).mono ?_);rintro r w4 ⟨sb,rb,rfl,hM⟩;have hch4:=hch hW1 hM)
    | (go_at_call 11;(with_reducible refine hch4.mono ?_);rintro r w5 ⟨rfl,hM5,hK5⟩;have hl5:=hle hM5)
    | (go_at_call 12;(with_reducible refine hl5.mono ?_);rintro r w6 ⟨rfl,rfl⟩)
    | fail)
   go_ret
   exact ⟨rfl,hW1.trans hM5.c⟩
  ·have hl0:(0:Int)<(ll:Int):=by
    have:¬ ll=0:=fun h => hL (hLl.2 h)
    omega
   clear hE hL hLl hCE hCK
   go_enter Tryz.func3,Tryz.ntmps3
   go_wp2_with (first
    | (go_at_call 9;refine (hsh _).mono ?_;rintro r w1 ⟨rfl,hC1⟩;have x1:=x0.chg hC1 id;have y0:=x1.cell 0;have y1:=x1.cell 1;have y2:=x1.cell 2;have y3:=x1.cell 3;have yl:=x1.lt;simp only [List.getElem?_toArray,List.getElem?_cons_zero,List.getElem?_cons_succ] at y0 y1 y2 y3;have hW1:=hC0.trans hC1)
    | (go_at_call 10;(with_reducible refine (hmk _ hW1).mono ?_);rintro r w4 ⟨sb,rb,rfl,hM⟩;have hch4:=hch hW1 hM)
    | (go_at_call 11;(with_reducible refine hch4.mono ?_);rintro r w5 ⟨rfl,hM5,hK5⟩;have hl5:=hle hM5)
    | (go_at_call 12;(with_reducible refine hl5.mono ?_);rintro r w6 ⟨rfl,rfl⟩)
    | fail)
   go_ret
   exact ⟨rfl,hW1.trans hM5.c⟩
 ·by_cases hL:L=[]
  ·have hCE2:=hE hL
   have hl0:(ll:Int)=0:=by have:=hLl.1 hL;omega
   subst hCE2
   clear hE hL hLl hCE hCK
   go_enter Tryz.func3,Tryz.ntmps3
   go_wp2_with (first
    | (go_at_call 9;refine (hsh _).mono ?_;rintro r w1 ⟨rfl,hC1⟩;have x1:=x0.chg hC1 id;have y0:=x1.cell 0;have y1:=x1.cell 1;have y2:=x1.cell 2;have y3:=x1.cell 3;have yl:=x1.lt;simp only [List.getElem?_toArray,List.getElem?_cons_zero,List.getElem?_cons_succ] at y0 y1 y2 y3;have hW1:=hC0.trans hC1)
    | (go_at_call 10;(with_reducible refine (hmk _ hW1).mono ?_);rintro r w4 ⟨sb,rb,rfl,hM⟩;have hch4:=hch hW1 hM)
    | (go_at_call 11;(with_reducible refine hch4.mono ?_);rintro r w5 ⟨rfl,hM5,hK5⟩;have hl5:=hle hM5)
    | (go_at_call 12;(with_reducible refine hl5.mono ?_);rintro r w6 ⟨rfl,rfl⟩)
    | fail)
   go_ret
   exact ⟨rfl,hW1.trans hM5.c⟩
  ·have hl0:¬ ll=0:=fun h => hL (hLl.2 h)
   have hl0b:((ll:Int) == 0)=false:=by rw [beq_eq_false_iff_ne];omega
   have hl1:=hcok
   obtain ⟨hce,n0,hn0,hmin⟩:=chooseC_some (now:=now) hcok (fun c hc => by have:=hlate c hc;omega) hL ds
   obtain ⟨hin1,hin2⟩:=chooseC_mem hcok.u hce
   rw [hCK] at hn0 hin1 hin2
   rw [hCE] at hce
   subst hce
   have hkne:keysC L≠[]:=by unfold keysC;simpa using hL
   have hsl:=samplesL_len hkne ds
   have hsm:=fun k (hk:k∈samplesL (keysC L) ds) => samplesL_mem hk
   have hsa:=fun (B:Nat) (v:Value) (hn:(keysC L).length≤1000) (w:World) (h:Strs w B v (keysC L)) (hc:Chg (fun _ => False) W w) => samples_cons B v (keysC L) hkne hn _ ds w h (hd.chg hc fun _ _ _ _ _ => id)
   generalize samplesL (keysC L) ds=SL at *
   have hfk:∀ k∈keysC L,(findK Ct.key L k).isSome=true∧(useC L k).Ok∧k.size≤9223372036854775807:=fun k hk => by
    obtain ⟨c,hc,h1,h2,h3⟩:=useC_some hcok hk
    have h4:=hcok.k c hc
    exact ⟨by rw [h2];rfl,by rw [h3];exact hcok.u c hc,by rw [← h1];omega⟩
   obtain ⟨hCsome,hCok,hCs⟩:=hfk CK hin2
   have huse:=fun {sb rb:Nat} {W1 W2:World} (h:MR W W1 sb rb cf L L W2) (k:ByteArray) (hk:k.size≤9223372036854775807) => h.call fun F hF f1 => spa_use hF k hk
   have hcount:=fun (u:Us) (h:u.Ok) (n:Int) (hn:cntU u now=some n) w => count_yes u h now n hn hw w
   have hkeys:=fun {sb rb:Nat} {W1 W2:World} (h:MR W W1 sb rb cf L L W2) => (show Calls Tryz.prog 14 #[pt sb] W2 fun r W' => (∃ v,r=.returned v∧Strs W' W2.heap.size v (keysC L))∧Chg (fun _ => False) W2 W' from (by obtain ⟨F,hF,_⟩:=h.s;exact spa_keys hF))
   unfold cntV at hcount
   dsimp only at hcount
   unfold pt at huse hkeys
   unfold Us.cs at huse hcount
   obtain ⟨CU,hCU⟩:∃ u,useC L CK=u:=⟨_,rfl⟩
   rw [hCU] at hCok hn0
   clear hE hCE hCK hlate
   go_enter Tryz.func3,Tryz.ntmps3
   go_wp2_with (first
    | (go_at_call 9;refine (hsh _).mono ?_;rintro r w1 ⟨rfl,hC1⟩;have x1:=x0.chg hC1 id;have y0:=x1.cell 0;have y1:=x1.cell 1;have y2:=x1.cell 2;have y3:=x1.cell 3;have yl:=x1.lt;simp only [List.getElem?_toArray,List.getElem?_cons_zero,List.getElem?_cons_succ] at y0 y1 y2 y3;have hW1:=hC0.trans hC1)
    | (go_at_call 10;(with_reducible refine (hmk _ hW1).mono ?_);rintro r w4 ⟨sb,rb,rfl,hM⟩;have hch4:=hch hW1 hM)
    | (go_at_call 11;(with_reducible refine hch4.mono ?_);rintro r w5 ⟨rfl,hM5,hK5⟩;have hl5:=hle hM5)
    | (go_at_call 12;(with_reducible refine hl5.mono ?_);rintro r w6 ⟨rfl,rfl⟩;have hk6:=hkeys hM5)
    | (go_at_call 14;(with_reducible refine hk6.mono ?_);rintro r w7 ⟨⟨v7,rfl,hS7⟩,hC7⟩;have hM7:=hM5.chg0 hC7;obtain ⟨q7,c7,rfl,_⟩:=hS7.is;have hs7:=hsa _ _ hkl _ hS7 (hW1.trans hM7.c))
    | (go_at_call 13;(with_reducible refine hs7.mono ?_);rintro r w8 ⟨⟨v8,rfl,hS8⟩,hC8⟩;have hM8:=hM7.chg0 hC8;obtain ⟨q8,c8,rfl,_⟩:=hS8.is;have hu8:=huse hM8 CK hCs;rw [hCsome,hCU] at hu8;rw [hsl] at hS8)
    | (go_at_call 15;(with_reducible refine hu8.mono ?_);rintro r w9 ⟨rfl,hM9,hK9⟩;have hca:=(Chg.refl (fun _ => False) w9).alloc (.cells #[.int .i64 CU.c,.int .i64 CU.a] 42);have hc10:=hcount CU hCok n0 hn0 (w9.alloc (.cells #[.int .i64 CU.c,.int .i64 CU.a] 42)))
    | (go_at_call 16;(with_reducible refine hc10.mono ?_);rintro r w10 ⟨rfl,hC10⟩)
    | fail)
   have hMa:=hM9.chg0 (hca.trans hC10)
   have hSa:=hK9 _ _ _ hS8
   replace hSa:=KeepS.of_chg0 (hca.trans hC10) _ _ _ hSa
   have HIN:=Lib.hid hin1
   have HSL:=Lib.hid hsl
   clear hM9 hK9 hS8 hu8 hc10 hca hC10 hM8 hs7 hS7 hM7 hk6 hl5 hM5 hK5 hch4 hM hch hle hkeys hsa hmk hsh hsl hin1
   go_loopg [19,20] 5 (fun m v19 v20 Wr => ∃ j:Nat,v20=.int .i64 (j:Int)∧v19=.bool (hasB CK (SL.take j))∧m=5 - j∧j≤5∧MR W w1 sb rb cf L L Wr∧Strs Wr w7.heap.size (.slice q8 5 c8) SL)
   case atStart => exact ⟨0,rfl,by rw [List.take_zero];first | done | rfl,rfl,Nat.zero_le _,hMa,hSa⟩
   case round =>
    clear hMa hSa
    obtain ⟨j,rfl,rfl,rfl,hj,hM,hS⟩:=hrel
    by_cases hjl:j<5
    ·have h3:(j:Int)<5:=by omega
     have hjs:j<SL.length:=by rw [HSL.out];exact hjl
     have hxj:SL[j]?=some SL[j]:=List.getElem?_eq_getElem hjs
     obtain ⟨gx,rfl,_,_,_⟩:=hS.at_ hjs
     have hcl:∀ W',KeepS wr W'→gx<W'.heap.size∧W'.cell? ⟨gx,j,none⟩=some (.string SL[j]):=fun W' hk => by
      obtain ⟨gy,e1,_,h5,h6⟩:=(hk _ _ _ hS).at_ hjs
      injection e1 with e1
      injection e1 with e1
      subst e1
      exact ⟨h5,h6⟩
     have hkm:=List.mem_of_getElem? hxj
     have hta:=hasB_snoc (k:=CK) hxj
     generalize SL[j]=k at *
     obtain ⟨hks,hku,hkz⟩:=hfk k (hsm k hkm)
     obtain ⟨nk,hnk,hle9⟩:=hmin k hkm
     have hu1:=huse hM k hkz
     rw [hks] at hu1
     obtain ⟨ku,hku2⟩:∃ u,useC L k=u:=⟨_,rfl⟩
     rw [hku2] at hu1 hku hnk
     have hbq:(k.toList == CK.toList)=decide (k=CK):=beq_strK _ _
     obtain ⟨c0l,c0c⟩:=hcl wr fun _ _ _ h => h
     have hnlt:¬ nk<n0:=by omega
     have HTA:=Lib.hid hta
     have HS:=Lib.hid hS
     have hcd:=hcount ku hku nk hnk
     generalize hasB CK (SL.take j)=q at *
     generalize hqk:decide (k=CK)=qk at *
     clear hta hku2 hxj hkm hks hjs hmin hfk hsm hcount
     cases q with
     | true =>
      go_wp2_with (first
       | (go_at_call 15;(with_reducible refine hu1.mono ?_);rintro r wa ⟨rfl,hMb,hKb⟩;have hcb:=hcd (wa.alloc (.cells #[.int .i64 ku.c,.int .i64 ku.a] 42)))
       | (go_at_call 16;(with_reducible refine hcb.mono ?_);rintro r wb ⟨rfl,hCb⟩)
       | fail)
      go_roundg (5 - (j+1))
      case measure => omega
      case rel =>
       have hcc:=((Chg.refl (fun _ => False) wa).alloc (.cells #[.int .i64 ku.c,.int .i64 ku.a] 42)).trans hCb
       exact ⟨j+1,int_eq (by omega),by rw [HTA.out];first | done | rfl,rfl,by omega,hMb.chg0 hcc,KeepS.of_chg0 hcc _ _ _ (hKb _ _ _ HS.out)⟩
     | false =>
      go_wp2_with (first
       | (go_at_call 15;(with_reducible refine hu1.mono ?_);rintro r wa ⟨rfl,hMb,hKb⟩;have hcb:=hcd (wa.alloc (.cells #[.int .i64 ku.c,.int .i64 ku.a] 42)))
       | (go_at_call 16;(with_reducible refine hcb.mono ?_);rintro r wb ⟨rfl,hCb⟩;have hcc:=((Chg.refl (fun _ => False) wa).alloc (.cells #[.int .i64 ku.c,.int .i64 ku.a] 42)).trans hCb;obtain ⟨c1l,c1c⟩:=hcl wb (hKb.trans (KeepS.of_chg0 hcc)))
       | fail)
      go_roundg (5 - (j+1))
      case measure => omega
      case rel => exact ⟨j+1,int_eq (by omega),by rw [HTA.out];first | done | rfl,rfl,by omega,hMb.chg0 hcc,KeepS.of_chg0 hcc _ _ _ (hKb _ _ _ HS.out)⟩
    ·obtain rfl:j=5:=by omega
     have hq:hasB CK (SL.take 5)=true:=by
      rw [List.take_of_length_le (by rw [HSL.out];exact Nat.le_refl _)]
      exact hasB_mem HIN.out
     rw [hq]
     go_wp2_with fail
     go_ret
     exact ⟨rfl,hW1.trans hM.c⟩
end Go.Proofs.YtehpmbmdadkhbaaGreatDoor
