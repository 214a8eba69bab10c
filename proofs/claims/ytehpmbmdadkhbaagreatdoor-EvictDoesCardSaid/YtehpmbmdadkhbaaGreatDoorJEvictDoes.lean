/- Texts joined for EvictDoes: RSK, RSL, RSR, RSC, EvictNone, RSV, EVY, EvictSamples, EvictDoes. -/
import Derived.Test.YtehpmbmdadkhbaaGreatDoorJEvictNonea
import Derived.Test.YtehpmbmdadkhbaaGreatDoorJEvictNoneb
import Derived.Test.YtehpmbmdadkhbaaGreatDoorJEvictNonec
import Derived.Test.YtehpmbmdadkhbaaGreatDoorJEvictNoned
import Derived.Test.YtehpmbmdadkhbaaGreatDoorJEvictNonee
import Derived.Test.YtehpmbmdadkhbaaGreatDoorJEvictNonef
import Derived.Test.YtehpmbmdadkhbaaGreatDoorJEvictNoneg
import Derived.Test.YtehpmbmdadkhbaaGreatDoorJEvictNoneh
import Derived.Test.YtehpmbmdadkhbaaGreatDoorJEvictNonei
import Derived.Test.YtehpmbmdadkhbaaGreatDoorJEvictNonej
import Derived.Test.YtehpmbmdadkhbaaGreatDoorJEvictNonek
import Derived.Test.YtehpmbmdadkhbaaGreatDoorJEvictNonel
import Derived.Test.YtehpmbmdadkhbaaGreatDoorJEvictNonem
import Derived.Test.YtehpmbmdadkhbaaGreatDoorJEvictNonen
import Derived.Test.YtehpmbmdadkhbaaGreatDoorJEvictNoneo
import Derived.Test.YtehpmbmdadkhbaaGreatDoorJEvictNonep
import Derived.Test.YtehpmbmdadkhbaaGreatDoorJEvictNoneq
import Derived.Deep.LoopGhost
set_option linter.unusedVariables false
set_option linter.unusedSimpArgs false

namespace Go.Proofs.YtehpmbmdadkhbaaGreatDoor
open Go.RowKit Pal
attribute [local go_sem] Oper.semAt_some
section
variable {w0 W W' W1:World} {rb:Nat} {es l1:List En} {is:Bool} {E M:Nat} {v v1:Value}
def bytesR (is:Bool) (l:List En):Nat:=if is then 64*l.length+2*sumM l else 2+10*l.length+sumM l
theorem bytesR_eq (es:List En) (is:Bool):bytesZ es is=bytesR is es:=rfl
set_option maxRecDepth 100000 in
set_option maxHeartbeats 2000000 in
theorem rf_bytes (h:Rf w0 W rb es is E M v):Calls Tryz.prog 49 #[pt rb] W fun r W'=>r=.returned (.int .i64 (bytesZ es is:Int))∧W=W':=by
 obtain ⟨c0,_,_,c3,l0,_,_⟩:=h.cells
 have hr:=h.own.r
 have hn4:=h.ok.n
 have hm:∀ e∈es,e.m.size≤64:=fun e he=>(h.ok.ok e he).1
 obtain ⟨p,c,hv,h1,h2⟩:=h.val
 subst hv
 have h4:(es.length:Int)≤400:=by omega
 rw [bytesR_eq]
 unfold pt
 clear h
 cases is
 ·go_enter Tryz.func49,Tryz.ntmps49
  go_wp2_with fail
  go_loopg [3,4] es.length (fun k a iv W'=>∃ i:Nat,iv=.int .i64 (i:Int)∧k=es.length-i∧i≤es.length∧W=W'∧∃ n:Nat,a=.int .i64 (n:Int)∧Hid (n=bytesR false (es.take i))∧n≤100000*i+10)
  case atStart=>exact ⟨0,rfl,rfl,Nat.zero_le _,rfl,_,rfl,rfl,by simp [bytesR,sumM]⟩
  case round =>
   obtain ⟨i,rfl,rfl,hi,rfl,n,rfl,hn,hnb⟩:=hrel
   by_cases hil:i<es.length
   ·have h3:(i:Int)<(es.length:Int):=by omega
    have hx:=List.getElem?_eq_getElem hil
    generalize es[i]=e at hx
    have hst:=sumM_take hx
    have hem:=hm e (List.mem_of_getElem? hx)
    obtain ⟨b,o,c',he,k1,k2,k3,d0,d1⟩:=hr.at_ hx
    injection he with he1 he2 he3
    subst he1
    subst he3
    have b1:(n:Int)≤100000000:=by omega
    have b2:(e.m.size:Int)≤64:=by omega
    have hlt:(es.take (i+1)).length=(es.take i).length+1:=by rw [List.length_take,List.length_take];omega
    have hst':=Lib.hid hst
    have hlt':=Lib.hid hlt
    clear hst hlt hx he2
    go_wp2_with fail
    go_roundg (es.length-(i+1))
    case rel =>
     refine ⟨i+1,int_eq (by omega),rfl,by omega,rfl,(n+10+e.m.size),int_eq (by omega),?_,by omega⟩
     have hn:=hn.out
     show (n+10+e.m.size)=bytesR false (es.take (i+1))
     unfold bytesR at hn ⊢
     simp only [Bool.false_eq_true,if_false,if_true] at hn ⊢
     rw [hst'.out,hlt'.out]
     omega
    case measure=>omega
   ·obtain rfl:i=es.length:=by omega
    have h3:¬ (es.length:Int)<(es.length:Int):=by omega
    rw [List.take_length] at hn
    have b1:(n:Int)≤100000000:=by omega
    go_wp2_with fail
    go_ret
    exact ⟨by rw [← hn.out];rfl,rfl⟩
 ·go_enter Tryz.func49,Tryz.ntmps49
  go_wp2_with fail
  go_loopg [3,4] es.length (fun k a iv W'=>∃ i:Nat,iv=.int .i64 (i:Int)∧k=es.length-i∧i≤es.length∧W=W'∧∃ n:Nat,a=.int .i64 (n:Int)∧Hid (n=bytesR true (es.take i))∧n≤100000*i+10)
  case atStart=>exact ⟨0,rfl,rfl,Nat.zero_le _,rfl,_,rfl,rfl,by simp [bytesR,sumM]⟩
  case round =>
   obtain ⟨i,rfl,rfl,hi,rfl,n,rfl,hn,hnb⟩:=hrel
   by_cases hil:i<es.length
   ·have h3:(i:Int)<(es.length:Int):=by omega
    have hx:=List.getElem?_eq_getElem hil
    generalize es[i]=e at hx
    have hst:=sumM_take hx
    have hem:=hm e (List.mem_of_getElem? hx)
    obtain ⟨b,o,c',he,k1,k2,k3,d0,d1⟩:=hr.at_ hx
    injection he with he1 he2 he3
    subst he1
    subst he3
    have b1:(n:Int)≤100000000:=by omega
    have b2:(e.m.size:Int)≤64:=by omega
    have hlt:(es.take (i+1)).length=(es.take i).length+1:=by rw [List.length_take,List.length_take];omega
    have hst':=Lib.hid hst
    have hlt':=Lib.hid hlt
    clear hst hlt hx he2
    go_wp2_with fail
    go_roundg (es.length-(i+1))
    case rel =>
     refine ⟨i+1,int_eq (by omega),rfl,by omega,rfl,(n+64+2*e.m.size),int_eq (by omega),?_,by omega⟩
     have hn:=hn.out
     show (n+64+2*e.m.size)=bytesR true (es.take (i+1))
     unfold bytesR at hn ⊢
     simp only [Bool.false_eq_true,if_false,if_true] at hn ⊢
     rw [hst'.out,hlt'.out]
     omega
    case measure=>omega
   ·obtain rfl:i=es.length:=by omega
    have h3:¬ (es.length:Int)<(es.length:Int):=by omega
    rw [List.take_length] at hn
    have b1:(n:Int)≤100000000:=by omega
    go_wp2_with fail
    go_ret
    exact ⟨by rw [← hn.out];rfl,rfl⟩
end
end Go.Proofs.YtehpmbmdadkhbaaGreatDoor

namespace Go.Proofs.YtehpmbmdadkhbaaGreatDoor
open Go.RowKit Pal
attribute [local go_sem] Oper.semAt_some
section
variable {w0 W:World} {s:Rs}
end
theorem withR_cut (k:ByteArray):∀ (l:List Ri) (d:Bool),withR k [] d l=cutK Ri.key l k
 | [],d=>by unfold withR;cases d <;> rfl
 | i :: l,d=>by
  unfold withR cutK
  rw [withR_cut k l]
  by_cases h:i.key=k
  ·rw [if_pos h,List.filter_cons,decide_eq_true h];simp [cutK]
  ·rw [if_neg h,List.filter_cons,decide_eq_false h];simp [cutK]
end Go.Proofs.YtehpmbmdadkhbaaGreatDoor

namespace Go.Proofs.YtehpmbmdadkhbaaGreatDoor
open Go.RowKit Pal
section
variable {α:Type} {e:TypeId} {k:Nat} {cells:α→List Value} {w w':World} {base:Nat}
end
section
variable {w0 W W' W'':World} {s s' s'':Rs}
end
section
variable {w0 W W':World} {b:Nat} {cf:Cf} {l:List Ct} {F F':Nat→Prop} {s s':Rs}
theorem cut_rct (l:List Ri) (k:ByteArray):(cutK Ri.key l k).map Ri.ct=cutK Ct.key (l.map Ri.ct) k:=cutK_map (key:=Ri.key) (keyb:=Ct.key) rct_key l k
end
end Go.Proofs.YtehpmbmdadkhbaaGreatDoor

namespace Go.Proofs.YtehpmbmdadkhbaaGreatDoor
open Go.RowKit Pal
attribute [local go_sem] Oper.semAt_some
section
variable {w0 W:World} {s:Rs}
theorem take_map_snoc {α β:Type} (f:α→β) {l:List α} {j:Nat} {x:α} (h:l[j]?=some x):(l.map f).take (j+1)=(l.map f).take j++[f x]:=by
 rw [List.take_add_one,List.getElem?_map,h]
 rfl
set_option maxRecDepth 100000 in
set_option maxHeartbeats 4000000 in
theorem rs_keys (h:RsAt w0 W s):Calls Tryz.prog 20 #[pt s.blk] W fun r W'=>(∃ v,r=.returned v∧Strs W' W.heap.size v (s.its.map Ri.key))∧Chg (fun _=>False) W W':=by
 obtain ⟨i0,hi0,hz0,hz1,hz2⟩:=info_parts str_info
 have hn:=h.n
 have hS:∀ W',Chg (fun _=>False) W W'→W'.cell? ⟨s.blk,0,none⟩=some s.v∧s.blk<W'.heap.size:=fun W' hc=>by
  obtain ⟨c0,_,_,l0,_⟩:=(h.chg0 hc).cells
  exact ⟨c0,l0⟩
 have hL:∀ (j:Nat) (i:Ri),s.its[j]?=some i→∃ gb c,s.v=.slice (some ⟨gb,0,none⟩) s.its.length c∧∀ W',Chg (fun _=>False) W W'→gb<W'.heap.size∧W'.cell? ⟨gb,j*4,none⟩=some (.string i.key):=fun j i hj=>by
  obtain ⟨gb,c,hv,hl,k0,_⟩:=h.list hj
  exact ⟨gb,c,hv,fun W' hc=>⟨Nat.lt_of_lt_of_le hl hc.size,by rw [cell_same (hc.block gb hl id)];exact k0⟩⟩
 obtain ⟨p,cap,hv,_⟩:=OwnL.is h.own
 rw [hv] at hS hL
 have hlk:(s.its.map Ri.key).length=s.its.length:=List.length_map ..
 generalize s.its=its at *
 unfold pt
 clear h
 go_enter Tryz.func20,Tryz.ntmps20
 go_wp2_with fail
 go_loopg [3,4] its.length (fun m v3 v4 Wr=>∃ (j:Nat) (vp:Option Addr) (vc:Nat),v4=.int .i64 (j:Int)∧v3=.slice vp j vc∧m=its.length-j∧j≤its.length∧Strs Wr W.heap.size (.slice vp j vc) ((its.map Ri.key).take j)∧Chg (fun _=>False) W Wr)
 case atStart=>exact ⟨0,none,0,rfl,rfl,rfl,Nat.zero_le _,by rw [List.take_zero];exact Strs.nil _ _,Chg.refl _ _⟩
 case round =>
  obtain ⟨j,vp,vc,rfl,rfl,rfl,hj,hO,hC⟩:=hrel
  obtain ⟨c0,l0⟩:=hS _ hC
  by_cases hjl:j<its.length
  ·have h3:(j:Int)<(its.length:Int):=by omega
   have hxj:its[j]?=some its[j]:=List.getElem?_eq_getElem hjl
   obtain ⟨gb,c,hv2,hcl⟩:=hL j _ hxj
   injection hv2 with e1 _ e2
   subst e1
   subst e2
   obtain ⟨gl,k0⟩:=hcl _ hC
   have hsn:=take_map_snoc Ri.key hxj
   generalize its[j]=x at *
   have htl:((its.map Ri.key).take j).length=j:=by rw [List.length_take,hlk];omega
   have m1:((its.map Ri.key).take j).length+1≤maxLen:=by rw [htl];unfold maxLen;omega
   have m2:((its.map Ri.key).take j).length*16+16≤140737488355328:=by rw [htl];omega
   have m3:(((its.map Ri.key).take j).length+1)*16≤140737488355328:=by omega
   have hca:=(Chg.refl (fun _=>False) wr).alloc (.cells #[.string x.key] 9)
   have HSN:=Lib.hid hsn
   have HTL:=Lib.hid htl
   have HJ:=Lib.hid hjl
   have HLK:=Lib.hid hlk
   clear hsn htl hL hS hxj hlk m2
   go_wp2_with (first
    | (at_builtin;refine wpList_append_any _ rfl (.tmp 14) (.tmp 23) 38 rfl W.heap.size 9 i0 _ 1 16 Tryz.underlying38 hi0 hz0 hz1 hz2 rfl (by omega) _ _ _ rfl (Strs.own (hO.chg hca fun _ _=>id)) (wr.alloc (.cells #[.string x.key] 9)).heap.size _ 1 1 [.string x.key] rfl (reads_blk (cs:=[.string x.key]) (Blk.new wr 9 #[.string x.key]) rfl) (strs_one [x.key]) m1 m3 (hC.trans hca).size ?_;intro v9 w9 hown9 hg9 _;have hC9:Chg (fun _=>False) W w9:=(hC.trans hca).trans' (app_chg (Strs.own (hO.chg hca fun _ _=>id)) hg9) (fun g hg h=>by omega);have hO9:Strs w9 W.heap.size v9 ((its.map Ri.key).take (j+1)):=(by rw [HSN.out];exact Strs.mk hown9 (by rw [List.length_append];first | done | rfl) (by rw [List.map_append];first | done | rfl));obtain ⟨vp2,vc2,hv9,_,_,_⟩:=hO9.is;rw [HSN.out,List.length_append,HTL.out] at hv9;subst hv9)
    | fail)
   go_roundg (its.length-(j+1))
   case measure=>have:=HJ.out;omega
   case rel=>exact ⟨j+1,vp2,vc2,int_eq (by omega),rfl,rfl,HJ.out,hO9,hC9⟩
  ·obtain rfl:j=its.length:=by omega
   have h3:¬ (its.length:Int)<(its.length:Int):=by omega
   rw [List.take_of_length_le (by omega)] at hO
   clear hL hS hlk
   go_wp2_with fail
   go_ret
   exact ⟨⟨_,rfl,hO⟩,hC⟩
set_option maxRecDepth 100000 in
set_option maxHeartbeats 4000000 in
theorem rs_delete (h:RsAt w0 W s) (hw:Chg (fun _=>False) w0 W) (k:ByteArray) (hk:k.size≤9223372036854775807):Calls Tryz.prog 46 #[pt s.blk,.string k] W fun r W'=>(∃ v,r=.returned v)∧∃ v',Rx w0 s { s with v:=v',its:=cutK Ri.key s.its k } W W':=by
 obtain ⟨c0,_,_,l0,f0⟩:=h.cells
 have hat:=rs_at h k
 obtain ⟨p,cap,hv,_⟩:=OwnL.is h.own
 have hown:=h.own
 rw [hv] at c0 hown
 have hwith:=with_any hown h.n h.k k hk none 0 [] (Nat.zero_le _) Reads.none_
 rw [withR_cut] at hwith
 have hlen:(cutK Ri.key s.its k).length≤s.its.length:=by unfold cutK;exact List.length_filter_le ..
 have hS:∀ W',Chg (fun _=>False) W W'→s.blk<W'.heap.size∧W'.frozen? ⟨s.blk,0,none⟩=false∧W'.cell? ⟨s.blk,0,none⟩=some (.slice p s.its.length cap):=fun W' hc=>by
  obtain ⟨e0,_,_,el,ef⟩:=(h.chg0 hc).cells
  rw [hv] at e0
  exact ⟨el,ef,e0⟩
 have H:=Lib.hid h
 have HLE:=Lib.hid hlen
 unfold pt at *
 clear h hlen hown
 go_enter Tryz.func46,Tryz.ntmps46
 go_wp2_with (first
  | (go_at_call 42;refine hat.mono ?_;rintro r w1 ⟨⟨v,rfl,hv2⟩,rfl⟩;obtain ⟨jv,rfl⟩:∃ jv,v=.int .i64 jv:=(by rcases hv2 with ⟨j,_,_,_,e⟩ | ⟨_,e⟩ <;> exact ⟨_,e⟩))
  | (go_at_call 71;refine hwith.mono ?_;rintro r w2 ⟨⟨v2,rfl,hI⟩,hC2⟩;obtain ⟨dl,df,dc⟩:=hS _ hC2;obtain ⟨p2,c2,rfl,_⟩:=OwnL.is hI)
  | fail)
 go_ret
 refine ⟨⟨_,rfl⟩,_,Rx.items (Rx.zero H.out hC2) hI ?_ (cutK_so H.out.so k) (Nat.le_trans HLE.out H.out.n) hw.size⟩
 intro i hi
 have hi:=(mem_cutK.1 hi).1
 exact ⟨(H.out.chg0 hC2).it i hi,H.out.u i hi,H.out.k i hi,fun g hg=>.inl (.inr (.inr ⟨i,hi,hg⟩))⟩
def sizeR (l:List Ri):Nat:=64+(l.map fun i=>i.ct.size).sum
theorem sizeR_ct (l:List Ri):sizeC (l.map Ri.ct)=sizeR l:=by unfold sizeC sizeR;rw [List.map_map];rfl
theorem sizeR_snoc {l:List Ri} {j:Nat} {x:Ri} (h:l[j]?=some x):sizeR (l.take (j+1))=sizeR (l.take j)+(48+x.key.size+bytesZ x.es x.is):=by
 unfold sizeR
 rw [List.take_add_one,h]
 simp [List.sum_append,Ct.size,Ri.ct]
 omega
theorem sizeR_le {l:List Ri} (h:∀ i∈l,i.key.size≤64∧Zok i.es):sizeR l≤64+76914*l.length:=by
 unfold sizeR
 suffices hs:(l.map fun i=>i.ct.size).sum≤76914*l.length by omega
 induction l with
 | nil=>simp
 | cons c l ih =>
  have h1:=ih fun x hx=>h x (List.mem_cons_of_mem _ hx)
  obtain ⟨h2,h3⟩:=h c (List.mem_cons_self)
  have h4:=bytesZ_le h3 c.is
  simp only [List.map_cons,List.sum_cons,List.length_cons]
  have e:c.ct.size=48+c.key.size+bytesZ c.es c.is:=rfl
  omega
set_option maxRecDepth 100000 in
set_option maxHeartbeats 4000000 in
theorem rs_size (h:RsAt w0 W s):Calls Tryz.prog 24 #[pt s.blk] W fun r W'=>r=.returned (.int .i64 (sizeR s.its:Int))∧Chg (fun _=>False) W W':=by
 have hn:=h.n
 have hS:∀ W',Chg (fun _=>False) W W'→W'.cell? ⟨s.blk,0,none⟩=some s.v∧s.blk<W'.heap.size:=fun W' hc=>by
  obtain ⟨c0,_,_,l0,_⟩:=(h.chg0 hc).cells
  exact ⟨c0,l0⟩
 have hL:∀ (j:Nat) (i:Ri),s.its[j]?=some i→∃ gb c,s.v=.slice (some ⟨gb,0,none⟩) s.its.length c∧∀ W',Chg (fun _=>False) W W'→gb<W'.heap.size∧W'.cell? ⟨gb,j*4,none⟩=some (.string i.key)∧W'.cell? ⟨gb,j*4+1,none⟩=some (pt i.rb):=fun j i hj=>by
  obtain ⟨gb,c,hv,hl,k0,k1,_⟩:=h.list hj
  exact ⟨gb,c,hv,fun W' hc=>⟨Nat.lt_of_lt_of_le hl hc.size,by rw [cell_same (hc.block gb hl id)];exact k0,by rw [cell_same (hc.block gb hl id)];exact k1⟩⟩
 have hB:∀ (i:Ri),i∈s.its→∀ W',Chg (fun _=>False) W W'→Calls Tryz.prog 49 #[pt i.rb] W' fun r W''=>r=.returned (.int .i64 (bytesZ i.es i.is:Int))∧W'=W'':=fun i hi W' hc=>rf_bytes ((h.chg0 hc).it i hi)
 have hz:∀ i∈s.its,i.key.size≤64∧Zok i.es:=fun i hi=>⟨h.k i hi,(h.it i hi).ok⟩
 obtain ⟨p,cap,hv,_⟩:=OwnL.is h.own
 rw [hv] at hS hL
 generalize s.its=its at *
 unfold pt at *
 clear h
 have hz64:sizeR ([]:List Ri)=64:=rfl
 go_enter Tryz.func24,Tryz.ntmps24
 go_wp2_with fail
 go_loopg [3,4] its.length (fun m v3 v4 Wr=>∃ j:Nat,v4=.int .i64 (j:Int)∧v3=.int .i64 (sizeR (its.take j):Int)∧m=its.length-j∧j≤its.length∧Chg (fun _=>False) W Wr)
 case atStart=>exact ⟨0,rfl,by rw [List.take_zero,hz64];first | done | rfl,rfl,Nat.zero_le _,Chg.refl _ _⟩
 case round =>
  obtain ⟨j,rfl,rfl,rfl,hj,hC⟩:=hrel
  obtain ⟨c0,l0⟩:=hS _ hC
  by_cases hjl:j<its.length
  ·have h3:(j:Int)<(its.length:Int):=by omega
   have hxj:its[j]?=some its[j]:=List.getElem?_eq_getElem hjl
   obtain ⟨gb,c,hv2,hcl⟩:=hL j _ hxj
   injection hv2 with e1 _ e2
   subst e1
   subst e2
   have hCd:=Chg.drew hC
   obtain ⟨gl,k0,k1⟩:=hcl _ hCd
   obtain ⟨d0,dl⟩:=hS _ hCd
   have hsn:=sizeR_snoc hxj
   have hxm:=List.mem_of_getElem? hxj
   have hle:=sizeR_le (l:=its.take j) fun i hi=>hz i (List.mem_of_mem_take hi)
   rw [List.length_take] at hle
   have hby:=hB _ hxm _ hCd
   have hxk:=hz _ hxm
   have hbz:=bytesZ_le hxk.2 its[j].is
   generalize its[j]=x at *
   generalize sizeR (its.take j)=sj at *
   generalize hbv:bytesZ x.es x.is=bv at *
   have hsj:(sj:Int)≤40000000:=by omega
   have hxs:(x.key.size:Int)≤64:=by omega
   have hbi:(bv:Int)≤76802:=by omega
   have n1:IntKind.i64.wrap ((sj:Int)+48)=(sj:Int)+48:=IntWalk.i64_in _ (by omega)
   have n2:IntKind.i64.wrap ((sj:Int)+48+(x.key.size:Int))=(sj:Int)+48+(x.key.size:Int):=IntWalk.i64_in _ (by omega)
   have n3:IntKind.i64.wrap ((sj:Int)+48+(x.key.size:Int)+(bv:Int))=(sj:Int)+48+(x.key.size:Int)+(bv:Int):=IntWalk.i64_in _ (by omega)
   have HSN:=Lib.hid hsn
   have HJ:=Lib.hid hjl
   clear hsn hL hS hxj hB hz hxm hbv hle hbz hxk
   go_wp2_with fail
   go_region_held3 (fun W'=>W'.cell? ⟨s.blk,0,none⟩=some (.slice (some ⟨gb,0,none⟩) its.length cap)∧W'.cell? ⟨gb,j*4,none⟩=some (.string x.key)∧W'.cell? ⟨gb,j*4+1,none⟩=some (.pointer (some ⟨x.rb,0,none⟩))) (first | exact ⟨d0,k0,k1⟩ | fail)
    (first
    | (go_at_call 49;refine hby.mono ?_;rintro r w4 ⟨rfl,rfl⟩)
    | fail)
   all_goals
    go_wp2_with fail
    go_roundg (its.length-(j+1))
    case measure=>have:=HJ.out;omega
    case rel=>exact ⟨j+1,int_eq (by omega),by rw [HSN.out];exact int_eq (by clear n1 n2 n3 hby;omega),rfl,HJ.out,hCd⟩
  ·obtain rfl:j=its.length:=by omega
   have h3:¬ (its.length:Int)<(its.length:Int):=by omega
   rw [List.take_length]
   clear hL hS hB
   go_wp2_with fail
   go_ret
   exact ⟨rfl,hC⟩
end
end Go.Proofs.YtehpmbmdadkhbaaGreatDoor

namespace Go.Proofs.YtehpmbmdadkhbaaGreatDoor
open Go.RowKit Pal
attribute [local go_sem] Oper.semAt_some
section
variable {w0 W W':World} {b:Nat} {cf:Cf} {l:List Ct} {F:Nat→Prop}
theorem rsa_keys (h:Rsa w0 W b cf l F):Calls Tryz.prog 20 #[pt b] W fun r W'=>(∃ v,r=.returned v∧Strs W' W.heap.size v (keysC l))∧Chg (fun _=>False) W W':=by
 obtain ⟨⟨s,hs,rfl,_,rfl,rfl⟩,hw⟩:=h
 have:=rs_keys hs
 unfold keysC
 rw [List.map_map]
 exact this
theorem rsa_size (h:Rsa w0 W b cf l F):Calls Tryz.prog 24 #[pt b] W fun r W'=>r=.returned (.int .i64 (sizeC l:Int))∧Chg (fun _=>False) W W':=by
 obtain ⟨⟨s,hs,rfl,_,rfl,rfl⟩,hw⟩:=h
 rw [sizeR_ct]
 exact rs_size hs
theorem rsa_delete (h:Rsa w0 W b cf l F) (k:ByteArray) (hk:k.size≤9223372036854775807):Calls Tryz.prog 46 #[pt b,.string k] W fun r W'=>(∃ v,r=.returned v)∧Rst w0 b cf (cutK Ct.key l k) F W W':=by
 obtain ⟨⟨s,hs,rfl,⟨e1,e2,e3,e4⟩,rfl,rfl⟩,hw⟩:=h
 refine (rs_delete hs hw k hk).mono ?_
 rintro r W' ⟨hr,v',hx⟩
 have h1:=Rst.mk hw hs hx
 rw [e1,e2,e3,e4] at h1
 have e:(cutK Ri.key s.its k).map Ri.ct=cutK Ct.key (s.its.map Ri.ct) k:=cut_rct _ _
 rw [← e]
 exact ⟨hr,h1⟩
theorem Rsa.no_own (h:Rsa w0 W b cf l F) {base n sz:Nat} {e:TypeId} {v:Value} {xs:List Value} (ho:W.ownsRow base e sz v n xs) (he:e≠63∧e≠94∧e≠145∧e≠68) {g:Nat} (hg:v.ownBlock=some g):¬ F g:=fun hF=>by
 obtain ⟨s,hs,_,_,_,rfl⟩:=h.ex
 obtain ⟨t,cs,h1,h2⟩:=rs_tys hs hF
 rcases ho.2 with ⟨h3,_⟩ | ⟨g',c,cur,h3,_,h4,_⟩
 ·rw [h3] at hg;cases hg
 ·rw [h3] at hg
  injection hg with hg
  subst hg
  have e:=h1.symm.trans h4
  injection e with e
  injection e with _ e _
  rcases h2 with h | h | h | h
  ·exact he.1 (e.symm.trans h)
  ·exact he.2.1 (e.symm.trans h)
  ·exact he.2.2.1 (e.symm.trans h)
  ·exact he.2.2.2 (e.symm.trans h)
end
set_option maxRecDepth 100000 in
theorem draw_r {W:World} {vd:Value} {ds:List Nat} (hd:DrsAt W vd ds) (i:Nat) (hi:i≤1000):Calls Tryz.prog 44 #[vd,.int .i64 (i:Int)] W fun r W'=>r=.returned (.int .u32 (ds.getD i 0:Int))∧W=W':=by
 obtain ⟨p,c,rfl,h1,h2⟩:=hd.is
 unfold maxLen at h2
 have hnl:(ds.length:Int)≤9223372036854775807:=by omega
 by_cases hil:i<ds.length
 ·have h3:(i:Int)<(ds.length:Int):=by omega
  obtain ⟨bb,o,c',e,hl,hc,_⟩:=hd.at_ i _ (List.getElem?_eq_getElem hil)
  injection e with e1 _ e2
  subst e1
  have hg:ds.getD i 0=ds[i]:=getD_at _ _ hil
  rw [hg]
  generalize ds[i]=d at *
  generalize ds.length=n at *
  clear hd
  go_enter Tryz.func44,Tryz.ntmps44
  go_wp2_with fail
  go_ret
  exact ⟨rfl,rfl⟩
 ·have h3:¬ (i:Int)<(ds.length:Int):=by omega
  have hg:ds.getD i 0=0:=by rw [List.getD_eq_getElem?_getD,List.getElem?_eq_none (by omega)];rfl
  rw [hg]
  generalize ds.length=n at *
  clear hd
  go_enter Tryz.func44,Tryz.ntmps44
  go_wp2_with fail
  go_ret
  exact ⟨rfl,rfl⟩
def smpT (keys:List ByteArray) (ds:List Nat) (j:Nat):List ByteArray:=(List.range j).map fun i=>keys.getD (ds.getD i 0 % keys.length) ⟨#[]⟩
theorem smpT_snoc (keys:List ByteArray) (ds:List Nat) (j:Nat):smpT keys ds (j+1)=smpT keys ds j++[keys.getD (ds.getD j 0 % keys.length) ⟨#[]⟩]:=by unfold smpT;rw [List.range_succ,List.map_append];rfl
theorem smpT_len (keys:List ByteArray) (ds:List Nat) (j:Nat):(smpT keys ds j).length=j:=by unfold smpT;simp
set_option maxRecDepth 100000 in
set_option maxHeartbeats 4000000 in
theorem samples_r {W:World} {B:Nat} {v:Value} {keys:List ByteArray} (hk:Strs W B v keys) (hn:keys.length≤1000) {vd:Value} {ds:List Nat} (hd:DrsAt W vd ds) :
  Calls Tryz.prog 19 #[v,vd] W fun r W'=>(∃ u,r=.returned u∧Strs W' W.heap.size u (samplesL keys ds))∧Chg (fun _=>False) W W':=by
 obtain ⟨p,c,rfl,h1,h2,_⟩:=hk.is
 obtain ⟨pd,cd,rfl,hd1,hd2⟩:=hd.is
 by_cases hne:keys=[]
 ·subst hne
  have hs:samplesL [] ds=[]:=rfl
  rw [hs]
  clear hd hk
  go_enter Tryz.func19,Tryz.ntmps19
  go_wp2_with fail
  go_loopg [5,6] 0 (fun m v5 v6 Wr=>m=0∧v5=.slice none 0 0∧v6=.int .i64 0∧W=Wr)
  case atStart=>exact ⟨rfl,rfl,rfl,rfl⟩
  case round =>
   obtain ⟨rfl,rfl,rfl,rfl⟩:=hrel
   go_wp2_with fail
   go_ret
   exact ⟨⟨_,rfl,Strs.nil _ _⟩,Chg.refl _ _⟩
 ·have hkl:0<keys.length:=List.length_pos_iff.2 hne
  have hs:samplesL keys ds=smpT keys ds 5:=by unfold samplesL;rw [if_neg hne];rfl
  obtain ⟨i0,hi0,hz0,hz1,hz2⟩:=info_parts str_info
  have hdr:=fun {W1:World} (hc:Chg (fun _=>False) W W1) (i:Nat) (hi:i≤1000)=>draw_r (hd.chg hc fun _ _ _ _ _=>id) i hi
  have hd32:∀ i,ds.getD i 0<4294967296:=fun i=>by
   by_cases hil:i<ds.length
   ·rw [getD_at _ _ hil]
    obtain ⟨_,_,_,_,_,_,h⟩:=hd.at_ i _ (List.getElem?_eq_getElem hil)
    exact h
   ·rw [List.getD_eq_getElem?_getD,List.getElem?_eq_none (by omega)]
    decide
  have hcl:∀ i,i<keys.length→∃ gx,p=some ⟨gx,0,none⟩∧∀ W',Chg (fun _=>False) W W'→gx<W'.heap.size∧W'.cell? ⟨gx,i,none⟩=some (.string (keys.getD i ⟨#[]⟩)):=fun i hi=>by
   obtain ⟨gx,e,_,_,_⟩:=hk.at_ hi
   refine ⟨gx,e,fun W' hc=>?_⟩
   obtain ⟨gy,e',_,hl,hcc⟩:=(hk.chg hc fun _ _=>id).at_ hi
   rw [e] at e'
   injection e' with e'
   injection e' with e'
   subst e'
   rw [getD_at _ _ hi]
   exact ⟨hl,hcc⟩
  rw [hs]
  have hki:(0:Int)<(keys.length:Int):=by omega
  have hki2:(keys.length:Int)≤1000:=by omega
  generalize hnd:ds.length=nd at *
  clear hs hne hnd
  go_enter Tryz.func19,Tryz.ntmps19
  go_wp2_with fail
  go_loopg [5,6] 5 (fun m v5 v6 Wr=>∃ (j:Nat) (vp:Option Addr) (vc:Nat),v6=.int .i64 (j:Int)∧v5=.slice vp j vc∧m=5-j∧j≤5∧Strs Wr W.heap.size (.slice vp j vc) (smpT keys ds j)∧Chg (fun _=>False) W Wr)
  case atStart=>exact ⟨0,none,0,rfl,rfl,rfl,Nat.zero_le _,Strs.nil _ _,Chg.refl _ _⟩
  case round =>
   obtain ⟨j,vp,vc,rfl,rfl,rfl,hj,hO,hC⟩:=hrel
   by_cases hjl:j<5
   ·have h3:(j:Int)<5:=by omega
    have hdj:=hdr hC j (by omega)
    have hm:=Nat.mod_lt (ds.getD j 0) hkl
    have h32:=hd32 j
    obtain ⟨gx,rfl,hcx⟩:=hcl _ hm
    obtain ⟨gl,gc⟩:=hcx _ hC
    have hsn:=smpT_snoc keys ds j
    have hsl:=smpT_len keys ds j
    generalize hdv:ds.getD j 0=dv at *
    have htm:(dv:Int).tmod (keys.length:Int)=((dv % keys.length:Nat):Int):=by
     rw [Int.tmod_eq_emod_of_nonneg (Int.natCast_nonneg dv)];exact (Int.natCast_emod dv keys.length).symm
    generalize dv % keys.length=y at *
    generalize keys.getD y ⟨#[]⟩=x at *
    have m1:(smpT keys ds j).length+1≤maxLen:=by rw [hsl];unfold maxLen;omega
    have m3:((smpT keys ds j).length+1)*16≤140737488355328:=by rw [hsl];omega
    have hca:=(Chg.refl (fun _=>False) wr).alloc (.cells #[.string x] 9)
    have hyk:(y:Int)<(keys.length:Int):=by omega
    have hwr:IntKind.i64.wrap (dv:Int)=(dv:Int):=IntWalk.i64_in _ (by omega)
    have hk0:¬ (keys.length:Int)=0:=by omega
    have hk0n:¬ keys.length=0:=by omega
    have HSN:=Lib.hid hsn
    have HSL:=Lib.hid hsl
    have HKK:=Lib.hid hkl
    clear hsn hsl hdr hcl hd32 hcx hdv hd hk hkl hm h32
    generalize hkn:keys.length=kn at *
    clear hkn
    go_wp2_with (first
     | (go_at_call 44;refine hdj.mono ?_;rintro r w4 ⟨rfl,rfl⟩)
     | (at_builtin;refine wpList_append_any _ rfl (.tmp 16) (.tmp 27) 38 rfl W.heap.size 9 i0 _ 1 16 Tryz.underlying38 hi0 hz0 hz1 hz2 rfl (by omega) _ _ _ rfl (Strs.own (hO.chg hca fun _ _=>id)) (wr.alloc (.cells #[.string x] 9)).heap.size _ 1 1 [.string x] rfl (reads_blk (cs:=[.string x]) (Blk.new wr 9 #[.string x]) rfl) (strs_one [x]) m1 m3 (hC.trans hca).size ?_;intro v9 w9 hown9 hg9 _;have hC9:Chg (fun _=>False) W w9:=(hC.trans hca).trans' (app_chg (Strs.own (hO.chg hca fun _ _=>id)) hg9) (fun g hg h=>by omega);have hO9:Strs w9 W.heap.size v9 (smpT keys ds (j+1)):=(by rw [HSN.out];exact Strs.mk hown9 (by rw [List.length_append];first | done | rfl) (by rw [List.map_append];first | done | rfl));obtain ⟨vp2,vc2,hv9,_,_,_⟩:=hO9.is;rw [smpT_len] at hv9;subst hv9)
     | fail)
    go_roundg (5-(j+1))
    case measure=>omega
    case rel=>exact ⟨j+1,vp2,vc2,int_eq (by omega),rfl,rfl,by omega,hO9,hC9⟩
   ·obtain rfl:j=5:=by omega
    clear hcl hdr hd32
    go_wp2_with fail
    go_ret
    exact ⟨⟨_,rfl,hO⟩,hC⟩
end Go.Proofs.YtehpmbmdadkhbaaGreatDoor

namespace Go.Proofs.YtehpmbmdadkhbaaGreatDoor
open Go.RowKit Pal
attribute [local go_sem] Oper.semAt_some
theorem chooseC_take (l:List Ct) (now:Int) (ds:List Nat):chooseC l now (ds.take 5)=chooseC l now ds:=by
 have hs:∀ keys,samplesL keys (ds.take 5)=samplesL keys ds:=fun keys=>by
  unfold samplesL
  split
  ·rfl
  ·refine List.map_congr_left fun i hi=>?_
   have hi:=List.mem_range.1 hi
   have e:(ds.take 5).getD i 0=ds.getD i 0:=by rw [List.getD_eq_getElem?_getD,List.getD_eq_getElem?_getD,List.getElem?_take,if_pos hi]
   rw [e]
 unfold chooseC
 rw [hs]
def rA (ns:List Int):Int:=if ns=[] then -1 else ((leastF 0 256 0 ns).1:Int)
def rL (ns:List Int):Int:=if ns=[] then 0 else (leastF 0 256 0 ns).2
theorem rA_nil:rA []=-1:=rfl
theorem rA_pos {ns:List Int} (h:ns≠[]):¬ rA ns<0:=by unfold rA;rw [if_neg h];omega
theorem r_snoc {ns:List Int} {n:Int} (hn:n≤255) (h:rA ns<0∨n<rL ns):rA (ns++[n])=(ns.length:Int)∧rL (ns++[n])=n:=by
 have hsn:=leastF_snoc ns 0 0 256 n
 have hne:ns++[n]≠[]:=by simp
 unfold rA rL
 rw [if_neg hne,if_neg hne,hsn]
 by_cases h0:ns=[]
 ·subst h0
  rw [if_pos (show n<(leastF 0 256 0 []).2 from by show n<256;omega)]
  exact ⟨by simp,rfl⟩
 ·have hlt:=h.resolve_left (rA_pos h0)
  unfold rL at hlt
  rw [if_neg h0] at hlt
  rw [if_pos hlt]
  exact ⟨by simp,rfl⟩
theorem r_snoc_no {ns:List Int} {n:Int} (h0:¬ rA ns<0) (h:¬ n<rL ns):rA (ns++[n])=rA ns∧rL (ns++[n])=rL ns:=by
 have hsn:=leastF_snoc ns 0 0 256 n
 have hne:ns++[n]≠[]:=by simp
 have hns:ns≠[]:=fun e=>by subst e;exact h0 (by rw [rA_nil];omega)
 unfold rL at h
 rw [if_neg hns] at h
 unfold rA rL
 rw [if_neg hne,if_neg hne,hsn,if_neg hns,if_neg hns,if_neg h]
 exact ⟨rfl,rfl⟩
theorem cntsU_take {now:Int} {us:List Us} {j:Nat} {u:Us} (h:us[j]?=some u):cntsU now (us.take (j+1))=match cntsU now (us.take j) with | none=>none | some ns=>(cntU u now).map fun n=>ns++[n]:=by
 rw [List.take_add_one,h]
 exact cntsU_snoc now _ u
theorem leastV_none {now:Int} {us:List Us} (h:cntsU now us=none):leastV now us=.tuple #[.int .i64 0,.int .i64 130]:=by
 unfold leastV
 cases us with
 | nil=>rfl
 | cons u us=>rw [h]
theorem leastV_some {now:Int} {us:List Us} {ns:List Int} (h:cntsU now us=some ns) (hne:us≠[]):leastV now us=.tuple #[.int .i64 (rA ns),.int .i64 0]:=by
 have hl:=cntsU_len h
 have hns:ns≠[]:=fun e=>by
  subst e
  exact hne (List.eq_nil_of_length_eq_zero hl.symm)
 unfold leastV rA
 rw [if_neg hns]
 cases us with
 | nil=>exact absurd rfl hne
 | cons u us=>rw [h];rfl
set_option maxRecDepth 100000 in
set_option maxHeartbeats 4000000 in
theorem least_r {W:World} {B:Nat} {v:Value} {us:List Us} (h:Uses W B v us) (hn:us.length≤1000) (hok:∀ u∈us,u.Ok) (now:Int) (hw:now≤9223372036854775807) :
  Calls Tryz.prog 43 #[v,.int .i64 now] W fun r W'=>r=.returned (leastV now us)∧Chg (fun _=>False) W W':=by
 obtain ⟨p,c,rfl,h1,h2,_⟩:=OwnL.is h
 have hcl:∀ j u,us[j]?=some u→∃ gx,p=some ⟨gx,0,none⟩∧∀ W',Chg (fun _=>False) W W'→gx<W'.heap.size∧W'.cell? ⟨gx,j*2,none⟩=some (.int .i64 u.c)∧W'.cell? ⟨gx,j*2+1,none⟩=some (.int .i64 u.a):=fun j u hj=>by
  obtain ⟨gx,c',e,_,_,hl,hc⟩:=OwnL.at_ h us_cells hj
  injection e with e _ _
  exact ⟨gx,e,fun W' hc'=>⟨Nat.lt_of_lt_of_le hl hc'.size,by rw [cell_same (hc'.block gx hl id)];exact hc 0 _ rfl,by rw [cell_same (hc'.block gx hl id)];exact hc 1 _ rfl⟩⟩
 have hni:(us.length:Int)≤1000:=by omega
 obtain ⟨LV,hLV⟩:∃ x,leastV now us=x:=⟨_,rfl⟩
 rw [hLV]
 have HLV:=Lib.hid hLV
 clear h hLV
 go_enter Tryz.func43,Tryz.ntmps43
 go_wp2_with fail
 go_loopg [6,7,8] us.length (fun m v6 v7 v8 Wr=>∃ (j:Nat) (ns:List Int),v8=.int .i64 (j:Int)∧v6=.int .i64 (rA ns)∧v7=.int .i64 (rL ns)∧m=us.length-j∧j≤us.length∧cntsU now (us.take j)=some ns∧Chg (fun _=>False) W Wr)
 case atStart=>exact ⟨0,[],rfl,rfl,rfl,rfl,Nat.zero_le _,by rw [List.take_zero];first | done | rfl,Chg.refl _ _⟩
 case round =>
  obtain ⟨j,ns,rfl,rfl,rfl,rfl,hj,hcn,hC⟩:=hrel
  by_cases hjl:j<us.length
  ·have h3:(j:Int)<(us.length:Int):=by omega
   have hxj:us[j]?=some us[j]:=List.getElem?_eq_getElem hjl
   obtain ⟨gx,rfl,hcx⟩:=hcl _ _ hxj
   obtain ⟨gl,k0,k1⟩:=hcx _ hC
   have htk:=cntsU_take (now:=now) hxj
   rw [hcn] at htk
   dsimp only at htk
   have huo:=hok _ (List.getElem_mem hjl)
   have hnl:ns.length=j:=by
    have:=cntsU_len hcn
    rw [List.length_take] at this
    omega
   generalize us[j]=u at *
   cases hc:cntU u now with
   | none =>
    have hno:cntsU now us=none:=by
     rw [← List.take_append_drop (j+1) us]
     exact cntsU_app_none (by rw [htk,hc];rfl)
    have hcr:=count_rno u huo now (cntU_none.1 hc) wr
    unfold cntV Us.cs at hcr
    dsimp only at hcr
    have HR:=Lib.hid hno
    clear hno hc htk hcn hcl hxj hcx
    go_wp2_with (first
     | (go_at_call 70;refine hcr.mono ?_;rintro r w4 ⟨rfl,hC4⟩)
     | fail)
    go_ret2
    exact ⟨by rw [← HLV.out,leastV_none HR.out];first | done | rfl,hC.trans hC4⟩
   | some n =>
    have hcr:=count_ryes u huo now n hc hw wr
    have hn5:=(cntU_le huo hc).2.1
    unfold cntV Us.cs at hcr
    dsimp only at hcr
    rw [hc] at htk
    have HTK:=Lib.hid htk
    have HJ:=Lib.hid hjl
    have HNL:=Lib.hid hnl
    clear hc htk hcn hcl hxj hcx hnl
    by_cases hA:rA ns<0
    ·obtain ⟨s1,s2⟩:=r_snoc hn5 (.inl hA)
     rw [HNL.out] at s1
     have S1:=Lib.hid s1
     have S2:=Lib.hid s2
     clear s1 s2
     generalize rA ns=ra at *
     generalize rL ns=rl at *
     go_wp2_with (first
      | (go_at_call 70;refine hcr.mono ?_;rintro r w4 ⟨rfl,hC4⟩)
      | fail)
     go_roundg (us.length-(j+1))
     case measure=>have:=HJ.out;omega
     case rel=>exact ⟨j+1,ns++[n],int_eq (by omega),by rw [S1.out],by rw [S2.out],rfl,HJ.out,HTK.out,hC.trans hC4⟩
    ·by_cases hlt:n<rL ns
     ·obtain ⟨s1,s2⟩:=r_snoc hn5 (.inr hlt)
      rw [HNL.out] at s1
      have S1:=Lib.hid s1
      have S2:=Lib.hid s2
      clear s1 s2
      generalize rA ns=ra at *
      generalize rL ns=rl at *
      go_wp2_with (first
       | (go_at_call 70;refine hcr.mono ?_;rintro r w4 ⟨rfl,hC4⟩)
       | fail)
      go_roundg (us.length-(j+1))
      case measure=>have:=HJ.out;omega
      case rel=>exact ⟨j+1,ns++[n],int_eq (by omega),by rw [S1.out],by rw [S2.out],rfl,HJ.out,HTK.out,hC.trans hC4⟩
     ·obtain ⟨s1,s2⟩:=r_snoc_no hA hlt
      have S1:=Lib.hid s1
      have S2:=Lib.hid s2
      clear s1 s2
      generalize rA ns=ra at *
      generalize rL ns=rl at *
      go_wp2_with (first
       | (go_at_call 70;refine hcr.mono ?_;rintro r w4 ⟨rfl,hC4⟩)
       | fail)
      go_roundg (us.length-(j+1))
      case measure=>have:=HJ.out;omega
      case rel=>exact ⟨j+1,ns++[n],int_eq (by omega),by rw [S1.out],by rw [S2.out],rfl,HJ.out,HTK.out,hC.trans hC4⟩
  ·obtain rfl:j=us.length:=by omega
   have h3:¬ (us.length:Int)<(us.length:Int):=by omega
   rw [List.take_length] at hcn
   clear hcl
   by_cases hne:us=[]
   ·subst hne
    have e:ns=[]:=by unfold cntsU at hcn;injection hcn with e;exact e.symm
    subst e
    have hra:rA []=-1:=rfl
    have hlv:leastV now []=.tuple #[.int .i64 0,.int .i64 130]:=rfl
    rw [hra]
    have HLV2:=Lib.hid hlv
    clear hcn hra hlv
    go_wp2_with fail
    go_ret2
    exact ⟨by rw [← HLV.out,HLV2.out];first | done | rfl,hC⟩
   ·have hA:¬ rA ns<0:=rA_pos fun e=>by
     have:=cntsU_len hcn
     rw [e] at this
     exact hne (List.eq_nil_of_length_eq_zero this.symm)
    have HSV:=Lib.hid (leastV_some hcn hne)
    generalize rA ns=ra at *
    generalize rL ns=rl at *
    clear hcn
    go_wp2_with fail
    go_ret2
    exact ⟨by rw [← HLV.out,HSV.out];first | done | rfl,hC⟩
end Go.Proofs.YtehpmbmdadkhbaaGreatDoor

namespace Go.Proofs.YtehpmbmdadkhbaaGreatDoor
open Go.RowKit Pal
attribute [local go_sem] Oper.semAt_some
section
variable {w0 W:World} {b:Nat} {cf:Cf} {l:List Ct} {F:Nat→Prop} {s:Rs}
theorem RsAt.cok (h:RsAt w0 W s):Cok (s.its.map Ri.ct)∧(s.its.map Ri.ct).length≤500:=by
 refine ⟨⟨(so_map (key:=Ri.key) (keyb:=Ct.key) (f:=Ri.ct) rct_key).2 h.so,?_,?_,?_⟩,by rw [List.length_map];exact h.n⟩ <;>
 ·intro c hc
  obtain ⟨i,hi,rfl⟩:=List.mem_map.1 hc
  first | exact h.u i hi | exact h.k i hi | exact (h.it i hi).ok
theorem Rsa.cok (h:Rsa w0 W b cf l F):Cok l∧l.length≤500:=by
 obtain ⟨s,hs,_,_,rfl,_⟩:=h.ex
 exact hs.cok
set_option maxRecDepth 100000 in
set_option maxHeartbeats 4000000 in
theorem choose_r (h:Rsa w0 W b cf l F) (now:Int) (hw:now≤9223372036854775807) {vd:Value} {ds:List Nat} (hd:DrsAt W vd ds) :
  Calls Tryz.prog 17 #[pt b,.int .i64 now,vd] W fun r W'=>r=.returned (.tuple #[.string (chooseC l now ds).1,.int .i64 (chooseC l now ds).2])∧Chg (fun _=>False) W W':=by
 obtain ⟨CH,hCH⟩:∃ x,chooseC l now ds=x:=⟨_,rfl⟩
 rw [hCH]
 obtain ⟨hcok,hl5⟩:=h.cok
 have hks:=rsa_keys h
 have hkl:(keysC l).length≤1000:=by unfold keysC;rw [List.length_map];omega
 have hsm:=fun {B:Nat} {v:Value} {W1:World} (hS:Strs W1 B v (keysC l)) (hc:Chg (fun _=>False) W W1)=>samples_r hS hkl (hd.chg hc fun _ _ _ _ _=>id)
 obtain ⟨pd,cd,rfl,_⟩:=hd.is
 generalize hnd:ds.length=nd at *
 clear hnd
 unfold pt at *
 by_cases hl:l=[]
 ·subst hl
  have e:CH=(⟨#[]⟩,150):=by rw [← hCH];rfl
  subst e
  have hss:samplesL (keysC []) ds=[]:=rfl
  rw [hss] at hsm
  clear hCH hss h hd hcok hkl
  go_enter Tryz.func17,Tryz.ntmps17
  go_wp2_with (first
   | (go_at_call 20;refine hks.mono ?_;rintro r w1 ⟨⟨v1,rfl,hS1⟩,hC1⟩;have hs1:=hsm hS1 hC1;obtain ⟨q1,c1,rfl,_⟩:=hS1.is)
   | (go_at_call 19;(with_reducible refine hs1.mono ?_);rintro r w2 ⟨⟨v2,rfl,hS2⟩,hC2⟩;obtain ⟨q2,c2,rfl,_⟩:=hS2.is)
   | fail)
  go_ret2
  exact ⟨rfl,hC1.trans hC2⟩
 ·have hkne:keysC l≠[]:=by unfold keysC;simpa using hl
  have hsl:=samplesL_len hkne ds
  have hmem:=fun k (hk:k∈samplesL (keysC l) ds)=>samplesL_mem hk
  have hCE:CH=match cntsU now ((samplesL (keysC l) ds).map (useC l)) with | none=>(⟨#[]⟩,130) | some ns=>((samplesL (keysC l) ds).getD (leastL ns) ⟨#[]⟩,0):=by
   rw [← hCH]
   unfold chooseC
   rw [if_neg hl]
   cases cntsU now ((samplesL (keysC l) ds).map (useC l)) <;> rfl
  generalize samplesL (keysC l) ds=SL at *
  have hus:∀ u∈SL.map (useC l),u.Ok:=fun u hu=>by
   obtain ⟨k,hk,rfl⟩:=List.mem_map.1 hu
   obtain ⟨c,hc,_,_,e⟩:=useC_some hcok (hmem k hk)
   rw [e];exact hcok.u c hc
  obtain ⟨⟨s,hs,rfl,_,rfl,rfl⟩,hw0⟩:=h
  have hidx:∀ k∈SL,∃ (i0:Nat) (it:Ri),s.its[i0]?=some it∧it.key=k∧useC (s.its.map Ri.ct) k=it.u:=fun k hk=>by
   have h1:=hmem k hk
   unfold keysC at h1
   rw [List.map_map] at h1
   obtain ⟨it,hit,hkey⟩:=List.mem_map.1 h1
   obtain ⟨i0,hi0⟩:=List.getElem?_of_mem hit
   refine ⟨i0,it,hi0,hkey,?_⟩
   unfold useC
   rw [find_rct,(findK_some hs.so).2 ⟨hit,hkey⟩]
   rfl
  have hsn5:s.its.length≤500:=hs.n
  have HCE:=Lib.hid hCE
  have HSL:=Lib.hid hsl
  have HS:=Lib.hid hs
  obtain ⟨o0,ho0,ho1,ho2,ho3⟩:=info_parts use_info
  obtain ⟨l,hL⟩:∃ l,s.its.map Ri.ct=l:=⟨_,rfl⟩
  rw [hL] at hks hsm hus hidx HCE
  clear hCH hCE hd hcok hkl hl hkne hmem hs hw0 hL hl5
  go_enter Tryz.func17,Tryz.ntmps17
  go_wp2_with (first
   | (go_at_call 20;refine hks.mono ?_;rintro r w1 ⟨⟨v1,rfl,hS1⟩,hC1⟩;have hs1:=hsm hS1 hC1;obtain ⟨q1,c1,rfl,_⟩:=hS1.is)
   | (go_at_call 19;(with_reducible refine hs1.mono ?_);rintro r w2 ⟨⟨v2,rfl,hS2⟩,hC2⟩;obtain ⟨q2,c2,rfl,_⟩:=hS2.is;rw [hsl] at hS2)
   | fail)
  have hW2:=hC1.trans hC2
  clear hks hsm hs1 hS1 hsl
  go_loopg [9,10] 5 (fun m v9 v10 Wr=>∃ (j:Nat) (vp:Option Addr) (vc:Nat),v10=.int .i64 (j:Int)∧v9=.slice vp j vc∧m=5-j∧j≤5∧Uses Wr w2.heap.size (.slice vp j vc) ((SL.map (useC l)).take j)∧Chg (fun _=>False) w2 Wr)
  case atStart=>exact ⟨0,none,0,rfl,rfl,rfl,Nat.zero_le _,by rw [List.take_zero];exact OwnL.nil _ _,Chg.refl _ _⟩
  case round =>
   obtain ⟨j,vp,vc,rfl,rfl,rfl,hj,hO,hC⟩:=hrel
   by_cases hjl:j<5
   ·have h3:(j:Int)<5:=by omega
    have hjs:j<SL.length:=by rw [HSL.out];exact hjl
    have hxj:SL[j]?=some SL[j]:=List.getElem?_eq_getElem hjs
    obtain ⟨gx,rfl,_,hgl,hgc⟩:=hS2.at_ hjs
    obtain ⟨i0,it,hi0,hkey,hue⟩:=hidx _ (List.mem_of_getElem? hxj)
    have hsn:=take_map_snoc (useC l) hxj
    rw [hue] at hsn
    have hil:(i0:Int)<(s.its.length:Int):=by have:=(List.getElem?_eq_some_iff.1 hi0).1;omega
    have hcd:=(Chg.refl (fun _=>False) wr).drew
    have hWr:=hW2.trans hC
    have hat:=rs_at_yes (HS.out.chg0 (hWr.trans hcd)) hi0 hkey
    obtain ⟨gb,gc,hv,_,_,_,_,_,_⟩:=HS.out.list hi0
    have hSx:∀ W',Chg (fun _=>False) w2 W'→W'.cell? ⟨s.blk,0,none⟩=some (.slice (some ⟨gb,0,none⟩) s.its.length gc)∧W'.cell? ⟨gx,j,none⟩=some (.string SL[j])∧W'.cell? ⟨gb,i0*4+2,none⟩=some (.int .i64 it.u.c)∧W'.cell? ⟨gb,i0*4+2+1,none⟩=some (.int .i64 it.u.a):=fun W' hc=>by
     have h':=HS.out.chg0 (hW2.trans hc)
     obtain ⟨e0,_⟩:=h'.cells
     obtain ⟨gb',gc',hv',_,_,_,k2,k3,_⟩:=h'.list hi0
     rw [hv] at e0 hv'
     injection hv' with e1 _ e2
     injection e1 with e1
     injection e1 with e1
     subst e1
     exact ⟨e0,by rw [cell_same (hc.block gx hgl id)];exact hgc,k2,k3⟩
    have hsb:∀ W',Chg (fun _=>False) w2 W'→s.blk<W'.heap.size∧gb<W'.heap.size∧gx<W'.heap.size:=fun W' hc=>by
     have h':=HS.out.chg0 (hW2.trans hc)
     obtain ⟨_,_,_,e3,_⟩:=h'.cells
     obtain ⟨gb',gc',hv',hgl',_⟩:=h'.list hi0
     rw [hv] at hv'
     injection hv' with e1 _ e2
     injection e1 with e1
     injection e1 with e1
     subst e1
     exact ⟨e3,hgl',Nat.lt_of_lt_of_le hgl hc.size⟩
    generalize SL[j]=k at *
    have htl:((SL.map (useC l)).take j).length=j:=by rw [List.length_take,List.length_map,HSL.out];omega
    have m1:((SL.map (useC l)).take j).length+1≤maxLen:=by rw [htl];unfold maxLen;omega
    have m2:(((SL.map (useC l)).take j).length+1)*16≤140737488355328:=by rw [htl];omega
    have hda:Chg (fun _=>False) wr (wr.drew.alloc (.cells #[.int .i64 it.u.c,.int .i64 it.u.a] 42)):=hcd.alloc _
    have hre:Reads (wr.drew.alloc (.cells #[.int .i64 it.u.c,.int .i64 it.u.a] 42)) (wr.drew.alloc (.cells #[.int .i64 it.u.c,.int .i64 it.u.a] 42)).heap.size 2 (some ⟨wr.heap.size,0,none⟩) 1 [.int .i64 it.u.c,.int .i64 it.u.a]:=reads_blk (Blk.new wr.drew 42 #[.int .i64 it.u.c,.int .i64 it.u.a]) rfl
    have hone:∀ u∈[Value.int .i64 it.u.c,Value.int .i64 it.u.a],u.oneCell'=true:=by
     intro u hu
     simp only [List.mem_cons,List.not_mem_nil,or_false] at hu
     rcases hu with rfl | rfl <;> rfl
    have hsi:(s.its.length:Int)≤500:=by omega
    obtain ⟨sb1,sb2,sb3⟩:=hsb _ (hC.trans hcd)
    obtain ⟨sx1,sx2,sx3,sx4⟩:=hSx wr hC
    have HSN:=Lib.hid hsn
    have HTL:=Lib.hid htl
    have HU:=Lib.hid hus
    have HC2:=Lib.hid hS2
    unfold pt at hat
    generalize s.its.length=n at *
    clear hsn htl hidx hus hv hi0 hkey hue hxj hjs hgc hS2
    go_wp2_with fail
    go_region_held3 (fun W'=>W'.cell? ⟨s.blk,0,none⟩=some (.slice (some ⟨gb,0,none⟩) n gc)∧W'.cell? ⟨gx,j,none⟩=some (.string k)∧W'.cell? ⟨gb,i0*4+2,none⟩=some (.int .i64 it.u.c)∧W'.cell? ⟨gb,i0*4+2+1,none⟩=some (.int .i64 it.u.a)) (first | exact hSx _ (hC.trans hcd) | exact hSx _ (hC.trans hda) | exact hSx _ hC9 | fail)
     (first
      | (go_at_call 42;refine hat.mono ?_;rintro r w4 ⟨rfl,rfl⟩)
      | (refine step_append_any _ (by rfl) (.tmp 26) (.tmp 40) 72 (by rfl) w2.heap.size 42 o0 _ 2 16 Tryz.underlying72 ho0 ho1 ho2 ho3 rfl (by omega) _ _ _ (by rfl) (OwnL.own (OwnL.chg0 hO hda)) (wr.drew.alloc (.cells #[.int .i64 it.u.c,.int .i64 it.u.a] 42)).heap.size (some ⟨wr.heap.size,0,none⟩) 1 1 [.int .i64 it.u.c,.int .i64 it.u.a] (by rfl) hre hone m1 m2 (hC.trans hda).size ?_;intro v9 w9 hown9 hg9 _;have hC9:Chg (fun _=>False) w2 w9:=(hC.trans hda).trans' (app_chg (OwnL.own (OwnL.chg0 hO hda)) hg9) (fun g hg h=>by omega);have hO9:Uses w9 w2.heap.size v9 ((SL.map (useC l)).take (j+1)):=(by rw [HSN.out];exact OwnL.mk hown9 (by rw [List.length_append];first | done | rfl) (by rw [List.flatMap_append];first | done | rfl));obtain ⟨vp2,vc2,hv9,_,_,_⟩:=OwnL.is hO9;rw [HSN.out,List.length_append,HTL.out] at hv9;subst hv9)
      | fail)
    go_wp2_with fail
    go_roundg (5-(j+1))
    case measure=>omega
    case rel=>exact ⟨j+1,vp2,vc2,int_eq (by omega),rfl,rfl,by omega,hO9,hC9⟩
   ·obtain rfl:j=5:=by omega
    rw [List.take_of_length_le (by rw [List.length_map,HSL.out];exact Nat.le_refl _)] at hO
    have hul:(SL.map (useC l)).length=5:=by rw [List.length_map];exact HSL.out
    have hlr:=least_r hO (by rw [hul];omega) hus now hw
    cases hcn:cntsU now (SL.map (useC l)) with
    | none =>
     have e:CH=(⟨#[]⟩,130):=by rw [HCE.out,hcn]
     subst e
     rw [leastV_none hcn] at hlr
     clear hcn hul hO hidx hus hS2
     go_wp2_with (first
      | (go_at_call 43;(with_reducible refine hlr.mono ?_);rintro r w5 ⟨rfl,hC5⟩)
      | fail)
     go_ret2
     exact ⟨rfl,(hW2.trans hC).trans hC5⟩
    | some ns =>
     have hne:SL.map (useC l)≠[]:=fun e=>by rw [e] at hul;cases hul
     have hnl:ns.length=5:=(cntsU_len hcn).trans hul
     have hns:ns≠[]:=fun e=>by rw [e] at hnl;cases hnl
     have hyl:=leastL_lt hns (cntsU_le hus hcn)
     rw [hnl] at hyl
     rw [leastV_some hcn hne] at hlr
     have hra:rA ns=(leastL ns:Int):=if_neg hns
     rw [hra] at hlr
     have e:CH=(SL.getD (leastL ns) ⟨#[]⟩,0):=by rw [HCE.out,hcn]
     have hys:leastL ns<SL.length:=by rw [HSL.out];exact hyl
     obtain ⟨gx,rfl,_,hgl,hgc⟩:=hS2.at_ hys
     rw [getD_at _ _ hys] at e
     have hcx:∀ W',Chg (fun _=>False) w2 W'→gx<W'.heap.size∧W'.cell? ⟨gx,leastL ns,none⟩=some (.string SL[leastL ns]):=fun W' hc=>⟨Nat.lt_of_lt_of_le hgl hc.size,by rw [cell_same (hc.block gx hgl id)];exact hgc⟩
     generalize SL[leastL ns]=k at *
     generalize leastL ns=y at *
     subst e
     have hyi:(y:Int)<5:=by omega
     clear hcn hul hO hidx hus hS2 hgc hnl hns hne hra hys
     go_wp2_with (first
      | (go_at_call 43;(with_reducible refine hlr.mono ?_);rintro r w5 ⟨rfl,hC5⟩;obtain ⟨gl5,gc5⟩:=hcx _ (hC.trans hC5))
      | fail)
     go_ret2
     exact ⟨rfl,(hW2.trans hC).trans hC5⟩
end
end Go.Proofs.YtehpmbmdadkhbaaGreatDoor

namespace Go.Proofs.YtehpmbmdadkhbaaGreatDoor
open Go.RowKit Pal Go.ChangeShapes Go.WideShapes Go.Deep
attribute [local go_sem] Oper.semAt_some
theorem sizeC_le {l:List Ct} (h:Cok l) (hn:l.length≤500):sizeC l≤40000000:=by
 suffices hs:∀ l:List Ct,(∀ c∈l,c.size≤76914)→(l.map Ct.size).sum≤76914*l.length by
  have h1:=hs l fun c hc=>by
   have h2:=bytesZ_le (h.z c hc) c.is
   have h3:=h.k c hc
   unfold Ct.size
   omega
  unfold sizeC
  omega
 intro l
 induction l with
 | nil=>intro _;simp
 | cons c l ih =>
  intro hc
  have h1:=ih fun x hx=>hc x (List.mem_cons_of_mem _ hx)
  have h2:=hc c (List.mem_cons_self)
  simp only [List.map_cons,List.sum_cons,List.length_cons]
  omega
end Go.Proofs.YtehpmbmdadkhbaaGreatDoor

namespace Go.Proofs.YtehpmbmdadkhbaaGreatDoor
open Go.RowKit Pal
attribute [local go_sem] Oper.semAt_some
theorem drs_dropA {G:Nat→Prop} {w:World} {b o c:Nat} {ds:List Nat} (h:DrsF G w (.slice (some ⟨b,o,none⟩) ds.length c) ds) (h5:5<ds.length):DrsF G w (.slice (some ⟨b,o+5,none⟩) (ds.length-5) (c-5)) (ds.drop 5):=by
 obtain ⟨p,c',e,hc1,hc2⟩:=h.d.is
 injection e with _ _ e2
 subst e2
 refine ⟨⟨⟨_,c-5,by rw [List.length_drop],by rw [List.length_drop];omega,by omega⟩,fun i d hd=>?_⟩,fun _ b' o' n' c'' e=>?_⟩
 ·rw [List.getElem?_drop] at hd
  obtain ⟨b',o',cap',he',k1,k2,k3⟩:=h.d.at_ (5+i) d hd
  injection he' with he1 _ _
  injection he1 with he1
  injection he1 with e1 e2
  subst e1 e2
  exact ⟨b,o+5,c-5,by rw [List.length_drop],k1,by rw [show o+5+i=o+(5+i) by omega];exact k2,k3⟩
 ·injection e with e
  injection e with e
  injection e with e1 _
  subst e1
  exact h.n (fun e=>by rw [e] at h5;simp at h5) _ _ _ _ rfl
theorem drs_nil {G:Nat→Prop} {w:World} (p:Option Addr) (c:Nat) (hc:c≤maxLen):DrsF G w (.slice p 0 c) []:=⟨DrsAt.nil _ _ _ hc,fun h=>absurd rfl h⟩
section
variable {w0 W:World} {b:Nat} {cf:Cf} {l:List Ct} {F:Nat→Prop}
theorem rsa_list (h:Rsa w0 W b cf l F):∃ p c,W.cell? ⟨b,0,none⟩=some (.slice p l.length c)∧b<W.heap.size:=by
 obtain ⟨⟨s,hs,rfl,_,rfl,rfl⟩,hw⟩:=h
 obtain ⟨c0,_,_,l0,_⟩:=hs.cells
 obtain ⟨p,c,e,_⟩:=OwnL.is hs.own
 rw [e] at c0
 exact ⟨p,c,by rw [List.length_map];exact c0,l0⟩
set_option maxRecDepth 100000 in
set_option maxHeartbeats 4000000 in
theorem room_r (h:Rsa w0 W b cf l F) (most now:Int) (hw:now≤9223372036854775807) (vd:Value) (ds:List Nat) (hd:DrsF F W vd ds) :
  Calls Tryz.prog 22 #[pt b,.int .i64 most,.int .i64 now,vd] W fun r W'=>(∃ v,r=.returned (.tuple #[v,.int .i64 (roomU most now l ds).2.1])∧Strs W' W.heap.size v (roomU most now l ds).1)∧Rst w0 b cf (roomU most now l ds).2.2 F W W':=by
 obtain ⟨pd,cd,hv,_⟩:=hd.d.is
 by_cases hm:most≤0
 ·rw [show roomU most now l ds=([],0,l) from if_pos hm]
  subst hv
  generalize ds.length=nd at *
  have hm0:¬ 0<most:=by omega
  have HH:=Lib.hid h
  unfold pt
  clear hd h
  go_enter Tryz.func22,Tryz.ntmps22
  go_wp2_with fail
  go_loopg [3,10] 0 (fun m v3 v10 Wr=>m=0∧v3=.slice pd nd cd∧v10=.slice none 0 0∧W=Wr)
  case atStart=>exact ⟨rfl,rfl,rfl,rfl⟩
  case round =>
   obtain ⟨rfl,rfl,rfl,rfl⟩:=hrel
   go_wp2_with fail
   go_ret2
   exact ⟨⟨_,rfl,Strs.nil _ _⟩,F,HH.out,Nf.zero (Chg.refl _ _)⟩
 ·have hmp:0<most:=by omega
  rw [show roomU most now l ds=roomC most now l.length l ds from if_neg hm]
  obtain ⟨R,hR⟩:∃ R,roomC most now l.length l ds=R:=⟨_,rfl⟩
  rw [hR]
  have hsz:=fun {W1:World} {l1:List Ct} {F1:Nat→Prop} (h:Rsa w0 W1 b cf l1 F1)=>rsa_size h
  have hch:=fun {W1:World} {l1:List Ct} {F1:Nat→Prop} {vd:Value} {ds:List Nat} (h:Rsa w0 W1 b cf l1 F1) (hd:DrsAt W1 vd ds)=>choose_r h now hw hd
  have hdel:=fun {W1:World} {l1:List Ct} {F1:Nat→Prop} (h:Rsa w0 W1 b cf l1 F1) (k:ByteArray) (hk:k.size≤9223372036854775807)=>rsa_delete h k hk
  have hls:=fun {W1:World} {l1:List Ct} {F1:Nat→Prop} (h:Rsa w0 W1 b cf l1 F1)=>rsa_list h
  obtain ⟨j0,hj0,hy0,hy1,hy2⟩:=info_parts str_info
  have hl5:=h.cok.2
  have hW0:=h.chg.size
  have hd0:=hd.more (Nat.le_refl _)
  unfold pt at *
  go_enter Tryz.func22,Tryz.ntmps22
  go_wp2_with fail
  go_loopg [3,10] l.length (fun m v3 v10 Wr=>∃ (l1:List Ct) (F1:Nat→Prop) (ds1:List Nat) (out:List ByteArray) (pd:Option Addr) (cd:Nat),m=l1.length∧v3=.slice pd ds1.length cd∧out.length+l1.length=l.length∧R=(out++(roomC most now l1.length l1 ds1).1,(roomC most now l1.length l1 ds1).2.1,(roomC most now l1.length l1 ds1).2.2)∧Strs Wr W.heap.size v10 out∧Rsa w0 Wr b cf l1 F1∧Nf F F1 W Wr∧DrsF (fun g=>F1 g∨W.heap.size≤g) Wr (.slice pd ds1.length cd) ds1)
  case atStart=>exact ⟨l,F,ds,[],pd,cd,rfl,rfl,by simp,hR.symm,Strs.nil _ _,h,Nf.zero (Chg.refl _ _),by rw [← hv];exact hd0⟩
  case round =>
   clear hR h hd hd0 hv
   obtain ⟨l1,F1,ds1,out,pd,cd,rfl,rfl,hon,hRe,hv,hSp,hNf,hd⟩:=hrel
   obtain ⟨pa,ca,rfl,hpa⟩:=hv.is
   have hMF:∀ {F2:Nat→Prop} {W2:World},Rsa w0 W2 b cf l1 F2→Strs W2 W.heap.size (.slice pa out.length ca) out→∀ {g:Nat},Value.ownBlock (.slice pa out.length ca)=some g→¬ F2 g:=fun h hv _ hg=>h.no_own hv.own (by decide) hg
   have ho5:out.length≤500:=by omega
   have HRE:=Lib.hid hRe
   have HON:=Lib.hid hon
   have hs1:=hsz hSp
   obtain ⟨hok,hl15⟩:=hSp.cok
   have hz4:=sizeC_le hok hl15
   have hz4i:(sizeC l1:Int)≤40000000:=by omega
   have hli:(l1.length:Int)≤500:=by omega
   clear hRe hon
   by_cases hfl:most<(sizeC l1:Int)
   ·by_cases hne:l1=[]
    ·subst hne
     have hst:=roomC_stop (most:=most) (now:=now) 0 ds1 (fun h:most<(sizeC []:Int)∧([]:List Ct)≠[]=>h.2 rfl)
     rw [if_pos hfl] at hst
     have hz:R=(out,150,[]):=by rw [HRE.out];simp only [List.length_nil];rw [hst];simp
     obtain ⟨zc,hzc⟩:∃ zc,sizeC []=zc:=⟨_,rfl⟩
     rw [hzc] at hs1 hfl
     clear hst
     go_wp2_with (first
      | (go_at_call 24;(with_reducible refine hs1.mono ?_);rintro r w2 ⟨rfl,hC2⟩;have hSp2:=hSp.chg0 hC2;have hs2:=hsz hSp2;rw [hzc] at hs2;obtain ⟨pl,cl,k0,kl⟩:=hls hSp2;simp only [List.length_nil] at k0)
      | (go_at_call 24;(with_reducible refine hs2.mono ?_);rintro r w4 ⟨rfl,hC4⟩)
      | fail)
     go_ret2
     rw [hz]
     exact ⟨⟨_,rfl,Strs.chg hv (hC2.trans hC4) fun _ _=>id⟩,F1,hSp.chg0 (hC2.trans hC4),hNf.trans (Nf.zero (hC2.trans hC4))⟩
    ·have hpos:0<l1.length:=List.length_pos_iff.2 hne
     have hpi:0<(l1.length:Int):=by omega
     obtain ⟨n1,hn1⟩:∃ n1,l1.length=n1+1:=⟨l1.length-1,by omega⟩
     have hrm:roomC most now l1.length l1 ds1=if (chooseC l1 now ds1).2=0 then
       ((chooseC l1 now ds1).1 :: (roomC most now n1 (cutK Ct.key l1 (chooseC l1 now ds1).1) (ds1.drop 5)).1,(roomC most now n1 (cutK Ct.key l1 (chooseC l1 now ds1).1) (ds1.drop 5)).2.1,(roomC most now n1 (cutK Ct.key l1 (chooseC l1 now ds1).1) (ds1.drop 5)).2.2)
       else ([],(chooseC l1 now ds1).2,l1):=by rw [hn1];conv=>lhs;unfold roomC;rw [if_pos ⟨hfl,hne⟩,chooseC_take]
     have hcm:=fun h=>(chooseC_mem hok.u (now:=now) (ds:=ds1) h).2
     have hc1:=fun {W1:World} {F':Nat→Prop} {vd:Value} (h:Rsa w0 W1 b cf l1 F') (hd:DrsAt W1 vd ds1)=>hch h hd
     obtain ⟨key,hkey⟩:∃ key,(chooseC l1 now ds1).1=key:=⟨_,rfl⟩
     obtain ⟨e,he⟩:∃ e,(chooseC l1 now ds1).2=e:=⟨_,rfl⟩
     rw [hkey,he] at hrm hcm
     simp only [hkey,he] at hc1
     have HN1:=Lib.hid hn1
     have HOK:=Lib.hid hok
     obtain ⟨zc,hzc⟩:∃ zc,sizeC l1=zc:=⟨_,rfl⟩
     rw [hzc] at hs1 hfl hz4i
     clear hn1 hkey he hok hl5 hch hz4 hzc hpos
     by_cases he0:e=0
     ·subst he0
      rw [if_pos rfl] at hrm
      have hkm:=hcm rfl
      obtain ⟨c,hcm1,hck,hcf,_⟩:=useC_some HOK.out hkm
      have hks:key.size≤9223372036854775807:=by
       have:=HOK.out.k c hcm1
       rw [hck] at this
       omega
      have hd1:=fun {W1:World} {F':Nat→Prop} (h:Rsa w0 W1 b cf l1 F')=>hdel h key hks
      have hcl:(cutK Ct.key l1 key).length=n1:=by
       rw [cutK_len HOK.out.so,hcf,HN1.out]
       simp
      have HRM:=Lib.hid hrm
      have HCL:=Lib.hid hcl
      have hA1:out.length+1≤maxLen:=by unfold maxLen;omega
      have hA2:(out.length+1)*16≤140737488355328:=by omega
      clear hrm hcm hkm hcm1 hck hcf hcl hdel
      by_cases h5:5<ds1.length
      case' pos =>
       have hm5:min (5:Int) (ds1.length:Int)=5:=by omega
       obtain ⟨bb,oo,cap',hee,-⟩:=hd.d.at_ 0 _ (List.getElem?_eq_getElem (by omega))
       injection hee with he1 _ he2
       subst he1
       subst he2
       obtain ⟨pd9,cd9,hee3,hcc1,hcc2⟩:=hd.d.is
       injection hee3 with hee5 _ hee4
       clear hee5
       subst hee4
       have hc5:¬ cd=5:=by omega
       have hc6:(cd == 5)=false:=by rw [beq_eq_false_iff_ne];exact hc5
       have hq1:(5:Int)≤(cd:Int):=by omega
       have hq2:(5:Int)≤(ds1.length:Int):=by omega
       have HDA:=Lib.hid (drs_dropA hd h5)
       have HDD:=Lib.hid (List.length_drop (l:=ds1) (i:=5))
       clear h5
       generalize ds1.length=nd1 at *
      case' neg =>
       have hm5:min (5:Int) (ds1.length:Int)=(ds1.length:Int):=by omega
       have HDD:=Lib.hid (show ds1.drop 5=[] from List.drop_eq_nil_of_le (by omega))
       obtain ⟨pd9,cd9,hee3,hcc1,hcc2⟩:=hd.d.is
       injection hee3 with hee5 _ hee4
       clear hee5
       subst hee4
       have hq1:(ds1.length:Int)≤(cd:Int):=by omega
       have hle5:(ds1.length:Int)≤5:=by omega
       clear h5
       by_cases hcl2:cd=ds1.length
       case' pos=>subst hcl2
       case' neg=>have hc6:(cd == ds1.length)=false:=by rw [beq_eq_false_iff_ne];exact hcl2
       all_goals generalize ds1.length=nd1 at *
      all_goals
       generalize hlg:l1.length=ll at *
       go_wp2_with (first
        | (go_at_call 24;(with_reducible refine hs1.mono ?_);rintro r w2 ⟨rfl,hC2⟩;have hSp2:=hSp.chg0 hC2;obtain ⟨pl,cl,k0,kl⟩:=hls hSp2;rw [hlg] at k0;have hc2:=hc1 hSp2 (hd.chg0 hC2).d)
        | (go_at_call 17;(with_reducible refine hc2.mono ?_);rintro r w3 ⟨rfl,hC3⟩;have hC23:=hC2.trans hC3;have hd3:=hd1 (hSp.chg0 hC23))
        | (go_at_call 46;(with_reducible refine hd3.mono ?_);rintro r w6 ⟨⟨v6,rfl⟩,F6,hSp6,hNf6⟩;have hNf66:=(Nf.zero (F:=F1) hC23).trans hNf6;have hC7:=(Chg.refl (fun _=>False) w6).alloc (.cells #[.string key] 9);have hv60:=Strs.chg hv hNf66.chg fun g hg=>hMF hSp hv hg;have hv6:=Strs.chg hv60 hC7 fun _ _=>id;have hM6:=Nat.le_trans (Nat.le_trans hNf.chg.size hNf66.chg.size) hC7.size)
        | (at_builtin;refine wpList_append_any _ rfl (.tmp 48) (.tmp 50) 38 rfl W.heap.size 9 j0 _ 1 16 Tryz.underlying38 hj0 hy0 hy1 hy2 rfl (by omega) _ _ _ rfl (Strs.own hv6) (w6.alloc (.cells #[.string key] 9)).heap.size _ 1 1 [.string key] rfl (reads_blk (cs:=[.string key]) (Blk.new w6 9 #[.string key]) rfl) (strs_one [key]) hA1 hA2 hM6 ?_;intro v8 w8 hown8 hg8 _;obtain ⟨g8,c8,rfl⟩:=ownsRow_succ hown8)
        | fail)
       have hC8:Chg (fun g=>Value.ownBlock (.slice pa out.length ca)=some g) w6 w8:=(hC7.mono fun _ _ h=>h.elim).trans (Chg.of_grown (S:=fun g=>Value.ownBlock (.slice pa out.length ca)=some g) hg8 fun _ h=>h)
       have hMg:∀ g,Value.ownBlock (.slice pa out.length ca)=some g→W.heap.size≤g:=fun g hg=>(World.ownsRow.lt hv60.own g hg).1
       go_roundg (cutK Ct.key l1 key).length
       case measure=>rw [HCL.out,HN1.out];omega
       case rel =>
        refine ⟨cutK Ct.key l1 key,F6,ds1.drop 5,out++[key],_,_,rfl,by rw [HDD.out];first | done | rfl,?_,?_,Strs.mk hown8 (by rw [List.length_append];first | done | rfl) (by rw [List.map_append];first | done | rfl),hSp6.keep hC8 (fun g hg h=>hSp6.no_own hv60.own (by decide) h hg) (fun g h=>Nat.le_trans hW0 (hMg g h)),⟨(hNf.trans hNf66).chg.trans' hC8 fun g h1 h2=>absurd (hMg g h2) (by omega),(hNf.trans hNf66).foot⟩,?_⟩
        ·rw [List.length_append,HCL.out,← HON.out,HN1.out,List.length_singleton];omega
        ·rw [HRE.out,HRM.out,HCL.out];simp only [List.append_assoc,List.singleton_append]
        ·rw [HDD.out];first | exact drs_nil _ _ (by unfold maxLen at *;omega) | exact (((HDA.out).chg0 hC23).nf hNf6).step (hC8.mono fun g _ h=>.inr (hMg g h)) fun g h=>.inl h
     ·rw [if_neg he0] at hrm
      have hz:R=(out,e,l1):=by rw [HRE.out,hrm];simp
      clear hrm hcm hdel
      generalize ds1.length=nd1 at *
      generalize hlg:l1.length=ll at *
      go_wp2_with (first
       | (go_at_call 24;(with_reducible refine hs1.mono ?_);rintro r w2 ⟨rfl,hC2⟩;have hSp2:=hSp.chg0 hC2;obtain ⟨pl,cl,k0,kl⟩:=hls hSp2;rw [hlg] at k0;have hc2:=hc1 hSp2 (hd.chg0 hC2).d)
       | (go_at_call 17;(with_reducible refine hc2.mono ?_);rintro r w3 ⟨rfl,hC3⟩)
       | fail)
      go_ret2
      rw [hz]
      exact ⟨⟨_,rfl,Strs.chg hv (hC2.trans hC3) fun _ _=>id⟩,F1,hSp.chg0 (hC2.trans hC3),hNf.trans (Nf.zero (hC2.trans hC3))⟩
   ·have hst:=roomC_stop (most:=most) (now:=now) l1.length ds1 (fun h=>hfl h.1)
    rw [if_neg hfl] at hst
    have hz:R=(out,0,l1):=by rw [HRE.out,hst];simp
    obtain ⟨zc,hzc⟩:∃ zc,sizeC l1=zc:=⟨_,rfl⟩
    rw [hzc] at hs1 hfl hz4i
    clear hst hch hdel
    generalize ds1.length=nd1 at *
    go_wp2_with (first
     | (go_at_call 24;(with_reducible refine hs1.mono ?_);rintro r w2 ⟨rfl,hC2⟩;have hSp2:=hSp.chg0 hC2;have hs2:=hsz hSp2;rw [hzc] at hs2)
     | (go_at_call 24;(with_reducible refine hs2.mono ?_);rintro r w4 ⟨rfl,hC4⟩)
     | fail)
    go_ret2
    rw [hz]
    exact ⟨⟨_,rfl,Strs.chg hv (hC2.trans hC4) fun _ _=>id⟩,F1,hSp.chg0 (hC2.trans hC4),hNf.trans (Nf.zero (hC2.trans hC4))⟩
end
end Go.Proofs.YtehpmbmdadkhbaaGreatDoor

namespace Go.Proofs.YtehpmbmdadkhbaaGreatDoor
open Go.RowKit Pal
section
variable {w0 WW W W':World} {sb tb:Nat} {cf:Cf} {ls lt ls':List Ct} {F G:Nat→Prop}
def KeepS (W W':World):Prop:=∀ B v l,Strs W B v l→Strs W' B v l
end
theorem madeK_ok (E M:Nat) (ks:List Kk) (h:∀ k∈ks,k.N.size≤64∧k.M≤1000):Cok (madeK E M ks):=by
 unfold madeK
 suffices hs:∀ (ks:List Kk) (l:List Ct),(∀ k∈ks,k.N.size≤64∧k.M≤1000)→Cok l→Cok (ks.foldl (oneK E M) l) from hs ks [] h Cok.nil
 intro ks
 induction ks with
 | nil=>intro l _ hl;exact hl
 | cons k ks ih =>
  intro l hk hl
  have h1:=hk k (List.mem_cons_self)
  exact ih _ (fun x hx=>hk x (List.mem_cons_of_mem _ hx)) (oneK_ok hl h1.1 h1.2)
theorem ksK_ok (g:Nat→K3) (n:Nat):∀ k∈ksK g n,k.N.size≤64∧k.M≤1000:=by
 intro k hk
 obtain ⟨i,_,rfl⟩:=List.mem_map.1 hk
 have h1:=kkK_n (g i)
 have h2:=(kkK_m (g i)).2
 exact ⟨by omega,by omega⟩
end Go.Proofs.YtehpmbmdadkhbaaGreatDoor

namespace Go.Proofs.YtehpmbmdadkhbaaGreatDoor
open Go.RowKit Pal Go.ChangeShapes Go.WideShapes Go.Deep
attribute [local go_sem] Oper.semAt_some
theorem MR.call {w0 WW W:World} {sb rb:Nat} {cf:Cf} {ls lr ls':List Ct} (h:MR w0 WW sb rb cf ls lr W) {f:FuncId} {args:Array Value} {R:Ending→World→Prop} (hf:∀ F,Spa w0 W sb cf ls F→(∀ g,F g→WW.heap.size≤g)→Calls Tryz.prog f args W fun r W'=>R r W'∧Sst w0 sb cf ls' F W W') :
  Calls Tryz.prog f args W fun r W'=>R r W'∧MR w0 WW sb rb cf ls' lr W'∧KeepS W W':=by
 obtain ⟨F,hF,f1⟩:=h.s
 refine (hf F hF f1).mono ?_
 rintro r W' ⟨hr,hs⟩
 refine ⟨hr,h.sstep hF f1 hs,fun B v l h=>?_⟩
 obtain ⟨F',_,hn⟩:=hs
 exact h.chg hn.chg fun g hg=>hF.no_own h.own (by decide) hg
end Go.Proofs.YtehpmbmdadkhbaaGreatDoor

namespace Go.Proofs.YtehpmbmdadkhbaaGreatDoor
open Go.RowKit Pal Go.ChangeShapes Go.WideShapes Go.Deep
attribute [local go_sem] Oper.semAt_some
theorem DrsAt.take {w:World} {p:Option Addr} {n c:Nat} {ds:List Nat} (h:DrsAt w (.slice p ds.length c) ds) (hn:n≤ds.length):DrsAt w (.slice p n c) (ds.take n):=by
 obtain ⟨p',c',e,h1,h2⟩:=h.is
 injection e with _ _ e2
 subst e2
 have hl:(ds.take n).length=n:=by rw [List.length_take];omega
 refine ⟨⟨p,c,by rw [hl],by omega,h2⟩,fun i d hd=>?_⟩
 rw [List.getElem?_take] at hd
 split at hd
 ·obtain ⟨b,o,cap,e,k1,k2,k3⟩:=h.at_ i d hd
  injection e with e1 _ e3
  subst e1
  exact ⟨b,o,c,by rw [hl],k1,k2,k3⟩
 ·cases hd
theorem samples_u (B:Nat) (v:Value) (keys:List ByteArray) (hn:keys.length≤1000) (vd:Value) (ds:List Nat) (w:World) (h:Strs w B v keys) (hd:DrsAt w vd ds):Calls Tryz.prog 13 #[v,vd] w fun r w'=>(∃ u,r=.returned u∧Strs w' w.heap.size u (samplesL keys ds))∧Chg (fun _=>False) w w':=by
 by_cases hk:keys=[]
 ·subst hk
  obtain ⟨p,c,rfl,_⟩:=h.is
  refine (samples_nil p c vd w).mono ?_
  rintro r w' ⟨rfl,hC⟩
  exact ⟨⟨_,rfl,Strs.nil _ _⟩,hC⟩
 ·exact samples_cons B v keys hk hn vd ds w h hd
theorem MR.rcall {w0 WW W:World} {sb rb:Nat} {cf:Cf} {ls lr lr':List Ct} (h:MR w0 WW sb rb cf ls lr W) {f:FuncId} {args:Array Value} {R:Ending→World→Prop} (hf:∀ G,Rsa w0 W rb cf lr G→(∀ g,G g→WW.heap.size≤g)→Calls Tryz.prog f args W fun r W'=>R r W'∧Rst w0 rb cf lr' G W W') :
  Calls Tryz.prog f args W fun r W'=>R r W'∧MR w0 WW sb rb cf ls lr' W'∧KeepS W W':=by
 obtain ⟨G,hG,g1⟩:=h.r
 refine (hf G hG g1).mono ?_
 rintro r W' ⟨hr,hs⟩
 refine ⟨hr,h.rstep hG g1 hs,fun B v l h=>?_⟩
 obtain ⟨G',_,hn⟩:=hs
 exact h.chg hn.chg fun g hg=>hG.no_own h.own (by decide) hg
set_option maxRecDepth 100000 in
set_option maxHeartbeats 4000000 in
theorem EvictDoes_walk {H:Type} {enc:TypeId × Value→H} (W:World) {v0 v1 v4:Value} {d0 d1 d4:DataW H} {p0 p1 p4:List MemPlace}
  (hv0:Value.okWide Tryz.prog W .any 0 26 v0) (h0:DataW.Trod enc Tryz.prog W 0 (fun _=>true) true 26 v0 d0 p0)
  (hv1:Value.okWide Tryz.prog W .any 0 27 v1) (h1:DataW.Trod enc Tryz.prog W 0 (fun _=>true) true 27 v1 d1 p1) (most:Int) (w2:(Lit.int .i64 most).wf=true) (now:Int) (w3:(Lit.int .i64 now).wf=true)
  (hv4:Value.okWide Tryz.prog W .any 0 28 v4) (h4:DataW.Trod enc Tryz.prog W 0 (fun _=>true) true 28 v4 d4 p4) :
  Calls Tryz.prog 4 #[v0,v1,.int .i64 most,.int .i64 now,v4] W fun e w'=>e=.returned (.bool true)∧Chg (fun _=>False) W w':=by
 obtain ⟨cf,rfl,hseed⟩:=open_cfg hv0 h0
 obtain ⟨n,g,hk⟩:=open_keys hv1 h1
 obtain ⟨dq,hd⟩:=open_draws hv4 h4
 have hw:=(i64_of_wf w3).2
 clear hv0 h0 hv1 h1 hv4 h4 w2 w3
 have hsh:=fun w=>shown16_any w
 have hC0:=(Chg.refl (fun _=>False) W).alloc (.cells cf.cs 26)
 have x0:=Blk.new W 26 cf.cs
 have hmk:=fun W2 (hc:Chg (fun _=>False) W W2)=>made_any hc cf hseed (hk.chg hc)
 have hcok:=madeK_ok (clampL 200 cf.E) (clampL 64 cf.M) (ksK g (min n 60)) (ksK_ok g _)
 have hml:=madeK_len (clampL 200 cf.E) (clampL 64 cf.M) (ksK g (min n 60))
 generalize madeK (clampL 200 cf.E) (clampL 64 cf.M) (ksK g (min n 60))=L at hmk hcok hml
 have hkl:(keysC L).length≤1000:=by
  unfold keysC
  unfold ksK at hml
  rw [List.length_map,List.length_range] at hml
  rw [List.length_map]
  omega
 obtain ⟨pk,ck,rfl⟩:=hk.is
 obtain ⟨pd,cd,rfl,hcd1,hcd2⟩:=hd.is
 obtain ⟨n2,hn2⟩:∃ n2:Nat,n2=min dq.length 200:=⟨_,rfl⟩
 have hdt:=DrsAt.take hd (n:=n2) (by omega)
 have hm2:min (dq.length:Int) 200=(n2:Int):=by omega
 have hnc:(n2:Int)≤(cd:Int):=by omega
 have hdl:(dq.length:Int)≤9223372036854775807:=by unfold maxLen at hcd2;omega
 obtain ⟨ds,hds⟩:∃ ds,dq.take n2=ds:=⟨_,rfl⟩
 rw [hds] at hdt
 generalize dq.length=nd at *
 have hsch:=fun {sb rb:Nat} {W1 W2:World} (hW:Chg (fun _=>False) W W1) (h:MR W W1 sb rb cf L L W2)=>h.call fun F hF f1=>choose_u hF _ ds (hdt.outer (hW.trans h.c) fun g hg=>Nat.le_trans hW.size (f1 g hg)) now hw
 have hrch:=fun {sb rb:Nat} {W1 W2:World} (hW:Chg (fun _=>False) W W1) (h:MR W W1 sb rb cf L L W2)=>(show Calls Tryz.prog 17 #[pt rb,.int .i64 now,.slice pd n2 cd] W2 fun r W'=>r=.returned (.tuple #[.string (chooseC L now ds).1,.int .i64 (chooseC L now ds).2])∧Chg (fun _=>False) W2 W' from (by obtain ⟨G,hG,_⟩:=h.r;exact choose_r hG now hw (hdt.chg (hW.trans h.c) fun _ _ _ _ _=>id)))
 have hsk:=fun {sb rb:Nat} {W1 W2:World} {l1 l2:List Ct} (h:MR W W1 sb rb cf l1 l2 W2)=>(show Calls Tryz.prog 14 #[pt sb] W2 fun r W'=>(∃ v,r=.returned v∧Strs W' W2.heap.size v (keysC l1))∧Chg (fun _=>False) W2 W' from (by obtain ⟨F,hF,_⟩:=h.s;exact spa_keys hF))
 have hrk:=fun {sb rb:Nat} {W1 W2:World} {l1 l2:List Ct} (h:MR W W1 sb rb cf l1 l2 W2)=>(show Calls Tryz.prog 20 #[pt rb] W2 fun r W'=>(∃ v,r=.returned v∧Strs W' W2.heap.size v (keysC l2))∧Chg (fun _=>False) W2 W' from (by obtain ⟨G,hG,_⟩:=h.r;exact rsa_keys hG))
 have hss:=fun {B:Nat} {v:Value} {W2:World} (h:Strs W2 B v (keysC L)) (hc:Chg (fun _=>False) W W2)=>samples_u B v (keysC L) hkl _ ds W2 h (hdt.chg hc fun _ _ _ _ _=>id)
 have hrs:=fun {B:Nat} {v:Value} {W2:World} (h:Strs W2 B v (keysC L)) (hc:Chg (fun _=>False) W W2)=>samples_r h hkl (hdt.chg hc fun _ _ _ _ _=>id)
 have hsr:=fun {sb rb:Nat} {W1 W2:World} (hW:Chg (fun _=>False) W W1) (h:MR W W1 sb rb cf L L W2)=>h.call fun F hF f1=>room_u hF most now hw _ ds (hdt.outer (hW.trans h.c) fun g hg=>Nat.le_trans hW.size (f1 g hg))
 have hrr:=fun {sb rb:Nat} {W1 W2:World} {l1:List Ct} (hW:Chg (fun _=>False) W W1) (h:MR W W1 sb rb cf l1 L W2)=>h.rcall fun G hG g1=>room_r hG most now hw _ ds (hdt.outer (hW.trans h.c) fun g hg=>Nat.le_trans hW.size (g1 g hg))
 have hsz:=fun {sb rb:Nat} {W1 W2:World} {l1 l2:List Ct} (h:MR W W1 sb rb cf l1 l2 W2)=>h.call fun F hF f1=>spa_size hF
 have hrz:=fun {sb rb:Nat} {W1 W2:World} {l1 l2:List Ct} (h:MR W W1 sb rb cf l1 l2 W2)=>(show Calls Tryz.prog 24 #[pt rb] W2 fun r W'=>r=.returned (.int .i64 (sizeC l2:Int))∧Chg (fun _=>False) W2 W' from (by obtain ⟨G,hG,_⟩:=h.r;exact rsa_size hG))
 have htx:=fun {u v:Value} {l:List ByteArray} {b1 b2:Nat} {w:World} (hu:Strs w b1 u l) (hv:Strs w b2 v l)=>Texts_any u v l l b1 b2 w hu hv
 simp only [decide_true] at htx
 generalize chooseC L now ds=CH at *
 generalize samplesL (keysC L) ds=SL at *
 generalize roomU most now L ds=R at *
 clear hk hd hdt hds hn2 hkl hml hcok hcd1 hcd2
 unfold Cf.cs pt at *
 go_enter Tryz.func4,Tryz.ntmps4
 go_wp2_with (first
  | (go_at_call 9;refine (hsh _).mono ?_;rintro r w1 ⟨rfl,hC1⟩;have x1:=x0.chg hC1 id;have y0:=x1.cell 0;have y1:=x1.cell 1;have y2:=x1.cell 2;have y3:=x1.cell 3;have yl:=x1.lt;simp only [List.getElem?_toArray,List.getElem?_cons_zero,List.getElem?_cons_succ] at y0 y1 y2 y3;have hW1:=hC0.trans hC1)
  | (go_at_call 10;(with_reducible refine (hmk _ hW1).mono ?_);rintro r w4 ⟨sb,rb,rfl,hM4⟩;have k4:=hsk hM4)
  | (go_at_call 14;(with_reducible refine k4.mono ?_);rintro r w5 ⟨⟨v5,rfl,hS5⟩,hC5⟩;have hM5:=hM4.chg0 hC5;have c5:=hsch hW1 hM5;obtain ⟨q5,z5,rfl,_⟩:=hS5.is)
  | (go_at_call 11;(with_reducible refine c5.mono ?_);rintro r w6 ⟨rfl,hM6,hK6⟩;have c6:=hrch hW1 hM6;have hS6:=hK6 _ _ _ hS5)
  | (go_at_call 17;(with_reducible refine c6.mono ?_);rintro r w7 ⟨rfl,hC7⟩;have hM7:=hM6.chg0 hC7;have hS7:=hS6.chg hC7 fun _ _=>id;have s7:=hss hS7 (hW1.trans hM7.c))
  | (go_at_call 13;(with_reducible refine s7.mono ?_);rintro r w8 ⟨⟨v8,rfl,hS8⟩,hC8⟩;have hM8:=hM7.chg0 hC8;obtain ⟨q8,z8,rfl,_⟩:=hS8.is;have k8:=hrk hM8)
  | (go_at_call 20;(with_reducible refine k8.mono ?_);rintro r w9 ⟨⟨v9,rfl,hS9⟩,hC9⟩;have hM9:=hM8.chg0 hC9;obtain ⟨q9,z9,rfl,_⟩:=hS9.is;have s9:=hrs hS9 (hW1.trans hM9.c))
  | (go_at_call 19;(with_reducible refine s9.mono ?_);rintro r wa ⟨⟨va,rfl,hSa⟩,hCa⟩;have hMa:=hM9.chg0 hCa;obtain ⟨qa,za,rfl,_⟩:=hSa.is;have ta:=htx (hS8.chg (hC9.trans hCa) fun _ _=>id) hSa)
  | (go_at_call 18;(with_reducible refine ta.mono ?_);rintro r wb ⟨rfl,hCb⟩;have hMb:=hMa.chg0 hCb;have rb1:=hsr hW1 hMb)
  | (go_at_call 21;(with_reducible refine rb1.mono ?_);rintro r wc ⟨⟨vc,rfl,hSc⟩,hMc,hKc⟩;obtain ⟨qc,zc,rfl,_⟩:=hSc.is;have rc:=hrr hW1 hMc)
  | (go_at_call 22;(with_reducible refine rc.mono ?_);rintro r wd ⟨⟨vd,rfl,hSd⟩,hMd,hKd⟩;obtain ⟨qd,zd,rfl,_⟩:=hSd.is;have td:=htx (hKd _ _ _ hSc) hSd)
  | (go_at_call 18;(with_reducible refine td.mono ?_);rintro r we ⟨rfl,hCe⟩;have hMe:=hMd.chg0 hCe;have ke:=hsk hMe)
  | (go_at_call 14;(with_reducible refine ke.mono ?_);rintro r wf ⟨⟨vf,rfl,hSf⟩,hCf⟩;have hMf:=hMe.chg0 hCf;obtain ⟨qf,zf,rfl,_⟩:=hSf.is;have kf:=hrk hMf)
  | (go_at_call 20;(with_reducible refine kf.mono ?_);rintro r wg ⟨⟨vg,rfl,hSg⟩,hCg⟩;have hMg:=hMf.chg0 hCg;obtain ⟨qg,zg,rfl,_⟩:=hSg.is;have tg:=htx (hSf.chg hCg fun _ _=>id) hSg)
  | (go_at_call 18;(with_reducible refine tg.mono ?_);rintro r wh ⟨rfl,hCh⟩;have hMh:=hMg.chg0 hCh;have zh:=hsz hMh)
  | (go_at_call 23;(with_reducible refine zh.mono ?_);rintro r wi ⟨rfl,hMi,hKi⟩;have zi:=hrz hMi)
  | (go_at_call 24;(with_reducible refine zi.mono ?_);rintro r wj ⟨rfl,hCj⟩;have hMj:=hMi.chg0 hCj)
  | fail)
 go_ret
 exact ⟨rfl,hW1.trans hMj.c⟩
end Go.Proofs.YtehpmbmdadkhbaaGreatDoor
