/- Texts joined for EvictTimes: EVY, EvictNone, EvictTimes. -/
import Derived.Test.YtehpmbmdadkhbaaGreatDoorJEvictNonea
import Derived.Test.YtehpmbmdadkhbaaGreatDoorJEvictNoneb
import Derived.Test.YtehpmbmdadkhbaaGreatDoorJEvictNonec
import Derived.Test.YtehpmbmdadkhbaaGreatDoorJEvictNoned
import Derived.Test.YtehpmbmdadkhbaaGreatDoorJEvictNonee
import Derived.Test.YtehpmbmdadkhbaaGreatDoorJEvictNonef
import Derived.Test.YtehpmbmdadkhbaaGreatDoorJEvictNoneg
import Derived.Test.YtehpmbmdadkhbaaGreatDoorJEvictNoneh
import Derived.Test.YtehpmbmdadkhbaaGreatDoorJEvictNonei
import Derived.Test.YtehpmbmdadkhbaaGreatDoorJEvictNonej
import Derived.Test.YtehpmbmdadkhbaaGreatDoorJEvictNonek
import Derived.Test.YtehpmbmdadkhbaaGreatDoorJEvictNonel
import Derived.Test.YtehpmbmdadkhbaaGreatDoorJEvictNonem
import Derived.Test.YtehpmbmdadkhbaaGreatDoorJEvictNonen
import Derived.Test.YtehpmbmdadkhbaaGreatDoorJEvictNoneo
import Derived.Test.YtehpmbmdadkhbaaGreatDoorJEvictNonep
import Derived.Test.YtehpmbmdadkhbaaGreatDoorJEvictNoneq

set_option linter.unusedVariables false
set_option linter.unusedSimpArgs false

namespace Go.Proofs.YtehpmbmdadkhbaaGreatDoor
open Go.RowKit Pal
attribute [local go_sem] Oper.semAt_some
theorem room_none (most:Int) (v2 v3:Value) (w:World):Calls Tryz.prog 21 #[.pointer none,.int .i64 most,v2,v3] w fun r w' => r=.returned (.tuple #[.slice none 0 0,.int .i64 1])∧Chg (fun _ => False) w w':=by
 go_enter Tryz.func21,Tryz.ntmps21
 go_wp2_with fail
 go_step3
 go_wp2_with fail
 rw [Exit.noGoto_ret]
 go_ret2
 exact ⟨rfl,((Chg.refl _ w).alloc _).alloc _⟩
end Go.Proofs.YtehpmbmdadkhbaaGreatDoor

namespace Go.Proofs.YtehpmbmdadkhbaaGreatDoor
open Go.RowKit Pal
section
variable {w0 WW W W':World} {sb tb:Nat} {cf:Cf} {ls lt ls':List Ct} {F G:Nat→Prop}
end
theorem madeK_ok (E M:Nat) (ks:List Kk) (h:∀ k∈ks,k.N.size≤64∧k.M≤1000):Cok (madeK E M ks):=by
 unfold madeK
 suffices hs:∀ (ks:List Kk) (l:List Ct),(∀ k∈ks,k.N.size≤64∧k.M≤1000)→Cok l→Cok (ks.foldl (oneK E M) l) from hs ks [] h Cok.nil
 intro ks
 induction ks with
 | nil => intro l _ hl;exact hl
 | cons k ks ih =>
  intro l hk hl
  have h1:=hk k (List.mem_cons_self)
  exact ih _ (fun x hx => hk x (List.mem_cons_of_mem _ hx)) (oneK_ok hl h1.1 h1.2)
theorem ksK_ok (g:Nat→K3) (n:Nat):∀ k∈ksK g n,k.N.size≤64∧k.M≤1000:=by
 intro k hk
 obtain ⟨i,_,rfl⟩:=List.mem_map.1 hk
 have h1:=kkK_n (g i)
 have h2:=(kkK_m (g i)).2
 exact ⟨by omega,by omega⟩
end Go.Proofs.YtehpmbmdadkhbaaGreatDoor

namespace Go.Proofs.YtehpmbmdadkhbaaGreatDoor
open Go.RowKit Pal Go.ChangeShapes Go.WideShapes Go.Deep
attribute [local go_sem] Oper.semAt_some
end Go.Proofs.YtehpmbmdadkhbaaGreatDoor

namespace Go.Proofs.YtehpmbmdadkhbaaGreatDoor
open Go.RowKit Pal Go.ChangeShapes Go.WideShapes Go.Deep
attribute [local go_sem] Oper.semAt_some
theorem MR.call2 {w0 WW W:World} {sb rb:Nat} {cf:Cf} {ls lr ls':List Ct} (h:MR w0 WW sb rb cf ls lr W) {f:FuncId} {args:Array Value} {R:Ending→World→Prop} (hf:∀ F,Spa w0 W sb cf ls F→(∀ g,F g→WW.heap.size≤g)→Calls Tryz.prog f args W fun r W' => R r W'∧Sst w0 sb cf ls' F W W') :
  Calls Tryz.prog f args W fun r W' => R r W'∧MR w0 WW sb rb cf ls' lr W':=by
 obtain ⟨F,hF,f1⟩:=h.s
 refine (hf F hF f1).mono ?_
 rintro r W' ⟨hr,hs⟩
 exact ⟨hr,h.sstep hF f1 hs⟩
theorem findK_key {l:List Ct} {k:ByteArray} {c:Ct} (h:findK Ct.key l k=some c):c.key=k:=by
 have:=List.find?_some h
 simpa using this
theorem tchC_touch {l:List Ct} {k:ByteArray} (hs:Late 9 l):∀ c∈tchC l k 9 0,c.u.a=9∨(c∈l∧c.key≠k):=by
 intro c hc
 unfold tchC at hc
 cases hf:findK Ct.key l k with
 | none =>
  rw [hf] at hc
  exact .inr ⟨hc,findK_none.1 hf c hc⟩
 | some c0 =>
  rw [hf] at hc
  have h0:=hs c0 (List.mem_of_find?_eq_some hf)
  have hk:=findK_key hf
  cases ht:tchU c0.u 9 0 with
  | none =>
   unfold tchU at ht
   have:cntU c0.u 9≠none:=fun e => by have:=cntU_none.1 e;omega
   cases hn:cntU c0.u 9 with
   | none => exact absurd hn this
   | some n => rw [hn] at ht;cases ht
  | some u =>
   dsimp only at hc
   rw [ht] at hc
   rcases mem_updK hc with rfl | ⟨h1,h2⟩
   ·exact .inl (tchU_a ht)
   ·exact .inr ⟨h1,by rw [← hk];exact h2⟩
theorem tchs_touch {l:List Ct} {k:ByteArray} (hs:Late 9 l):∀ n,∀ c∈tchs l k n,c.u.a=9∨(c∈l∧(n=0∨c.key≠k))
 | 0,c,hc => .inr ⟨hc,.inl rfl⟩
 | n+1,c,hc => by
  rcases tchC_touch (hs.tchs k n) c hc with h | ⟨h1,h2⟩
  ·exact .inl h
  ·rcases tchs_touch hs n c h1 with h | ⟨h3,_⟩
   ·exact .inl h
   ·exact .inr ⟨h3,.inr h2⟩
theorem put_other {E M:Nat} {l:List Ct} {k:ByteArray} {xs:List En}:∀ c∈putC E M l k xs 0,c.key≠k→c∈l:=by
 intro c hc hk
 unfold putC at hc
 cases hf:findK Ct.key l k with
 | none =>
  rw [hf] at hc
  rcases mem_insK.1 hc with rfl | h
  ·exact absurd rfl hk
  ·exact h
 | some c0 =>
  rw [hf] at hc
  rcases mem_updK hc with rfl | ⟨h,_⟩
  ·exact absurd (findK_key hf) hk
  ·exact h
theorem made_nine (E M:Nat) (ks:List Kk) (h:∀ k∈ks,k.T≠0):∀ c∈madeK E M ks,c.u.a=9:=by
 unfold madeK
 suffices hs:∀ (ks:List Kk) (l:List Ct),(∀ k∈ks,k.T≠0)→Late 9 l→(∀ c∈l,c.u.a=9)→∀ c∈ks.foldl (oneK E M) l,c.u.a=9 from hs ks [] h nofun nofun
 intro ks
 induction ks with
 | nil => intro l _ _ hl;exact hl
 | cons k ks ih =>
  intro l hk hla hl
  refine ih _ (fun x hx => hk x (List.mem_cons_of_mem _ hx)) (hla.one k) ?_
  intro c hc
  rcases tchs_touch hla.put k.T c hc with h | ⟨h1,h2⟩
  ·exact h
  ·exact hl c (put_other c h1 (h2.resolve_left (hk k (List.mem_cons_self))))
theorem roomU_late {now:Int} {L:List Ct} (h:Cok L) (hl:∀ c∈L,now<c.u.a) (ds:List Nat):roomU 1 now L ds=([],if L=[] then 150 else 130,L):=by
 unfold roomU
 rw [if_neg (by omega)]
 by_cases hL:L=[]
 ·subst hL;rfl
 ·rw [if_neg hL]
  cases hn:L.length with
  | zero => exact absurd (List.eq_nil_of_length_eq_zero hn) hL
  | succ n =>
   unfold roomC
   have h64:(1:Int)<(sizeC L:Int):=by unfold sizeC;omega
   have hc:=chooseC_late h hl hL (ds.take 5)
   rw [if_pos ⟨h64,hL⟩,hc,if_neg (by omega)]
def K3.cells (x:K3):List Value:=[.string x.N,.int .i64 x.M,.int .i64 x.T]
theorem k3_cells (x:K3):x.cells.length=3:=rfl
theorem key_info:(Tryz.prog.info? 56).map (fun i => (i.zero,i.size,i.bytes))=some (some (.agg #[.string ⟨#[]⟩,.int .i64 0,.int .i64 0]),3,32):=by kernel_rfl
def tl (g:Nat→K3) (n:Nat):List K3:=(List.range n).map fun i => ⟨(g i).N,(g i).M,1⟩
theorem tl_len (g:Nat→K3) (n:Nat):(tl g n).length=n:=by unfold tl;simp
theorem tl_snoc (g:Nat→K3) (n:Nat):tl g (n+1)=tl g n++[⟨(g n).N,(g n).M,1⟩]:=by unfold tl;rw [List.range_succ,List.map_append];rfl
theorem tl_at (g:Nat→K3) {n i:Nat} (h:i<n):(tl g n)[i]?=some ⟨(g i).N,(g i).M,1⟩:=by
 unfold tl
 rw [List.getElem?_map,List.getElem?_range h]
 rfl
theorem keys_own {w:World} {base n c:Nat} {p:Option Addr} {g:Nat→K3} (h:OwnL 56 3 K3.cells w base (.slice p n c) (tl g n)) (hok:∀ i,i<n→(g i).Ok) (hn:n≤60):KeysAt w (.slice p n c) n (fun i => ⟨(g i).N,(g i).M,1⟩):=by
 refine ⟨⟨_,_,rfl⟩,by unfold maxLen;omega,fun i hi => ?_⟩
 obtain ⟨b,c',e,_,_,hl,hc⟩:=OwnL.at_ h k3_cells (tl_at g hi)
 rw [tl_len] at e
 refine ⟨b,0,c',e,hl,⟨?_,?_,?_⟩,⟨(hok i hi).n,(hok i hi).m,(by decide:(Lit.int .i64 1).wf=true)⟩⟩
 ·rw [Nat.zero_add];exact hc 0 _ rfl
 ·rw [Nat.zero_add];exact hc 1 _ rfl
 ·rw [Nat.zero_add];exact hc 2 _ rfl
theorem kk_one (N:ByteArray) (M:Int):(kkK ⟨N,M,1⟩).T=1:=by
 show ((IntKind.u64.wrap 1).tmod 10).toNat=1
 decide
set_option maxRecDepth 100000 in
set_option maxHeartbeats 4000000 in
theorem EvictTimes_walk {H:Type} {enc:TypeId × Value→H} (W:World) {v0 v1 v3:Value} {d0 d1 d3:DataW H} {p0 p1 p3:List MemPlace}
  (hv0:Value.okWide Tryz.prog W .any 0 26 v0) (h0:DataW.Trod enc Tryz.prog W 0 (fun _ => true) true 26 v0 d0 p0)
  (hv1:Value.okWide Tryz.prog W .any 0 27 v1) (h1:DataW.Trod enc Tryz.prog W 0 (fun _ => true) true 27 v1 d1 p1) (now:Int) (w2:(Lit.int .i64 now).wf=true)
  (hv3:Value.okWide Tryz.prog W .any 0 28 v3) (h3:DataW.Trod enc Tryz.prog W 0 (fun _ => true) true 28 v3 d3 p3) :
  Calls Tryz.prog 6 #[v0,v1,.int .i64 now,v3] W fun e w' => e=.returned (.bool true)∧Chg (fun _ => False) W w':=by
 obtain ⟨cf,rfl,hseed⟩:=open_cfg hv0 h0
 obtain ⟨n,g,hk⟩:=open_keys hv1 h1
 obtain ⟨ds,hd⟩:=open_draws hv3 h3
 have hw:=(i64_of_wf w2).2
 clear hv0 h0 hv1 h1 hv3 h3 w2
 have hsh:=fun w => shown16_any w
 have hC0:=(Chg.refl (fun _ => False) W).alloc (.cells cf.cs 26)
 have x0:=Blk.new W 26 cf.cs
 obtain ⟨pk,ck,hv⟩:=hk.is
 subst hv
 obtain ⟨pd,cd,rfl,_⟩:=hd.is
 by_cases hmo:now<0∨8<now
 ·have hmo2:now<0∨(¬ now<0∧8<now):=by omega
  generalize ds.length=nd at *
  clear hmo hd hk
  unfold Cf.cs at *
  rcases hmo2 with h9 | ⟨h9,h8⟩
  ·go_enter Tryz.func6,Tryz.ntmps6
   go_wp2_with (first
    | (go_at_call 9;refine (hsh _).mono ?_;rintro r w1 ⟨rfl,hC1⟩)
    | fail)
   go_ret
   exact ⟨rfl,hC0.trans hC1⟩
  ·go_enter Tryz.func6,Tryz.ntmps6
   go_wp2_with (first
    | (go_at_call 9;refine (hsh _).mono ?_;rintro r w1 ⟨rfl,hC1⟩)
    | fail)
   go_ret
   exact ⟨rfl,hC0.trans hC1⟩
 ·have h9:¬ now<0:=by omega
  have h8:¬ 8<now:=by omega
  have h8b:now≤8:=by omega
  clear hmo
  -- what is made of the touched keys
  have hok:∀ i,i<min n 60→(g i).Ok:=fun i hi => by
   obtain ⟨_,_,_,_,_,_,h⟩:=hk.at_ i (by omega)
   exact h
  have hmin:min (min n 60) 60=min n 60:=by omega
  have hnine:=made_nine (clampL 200 cf.E) (clampL 64 cf.M) (ksK (fun i => ⟨(g i).N,(g i).M,1⟩) (min n 60)) (fun k hk => by
   obtain ⟨i,_,rfl⟩:=List.mem_map.1 hk
   rw [kk_one];decide)
  have hcok:=madeK_ok (clampL 200 cf.E) (clampL 64 cf.M) (ksK (fun i => ⟨(g i).N,(g i).M,1⟩) (min n 60)) (ksK_ok _ _)
  have hmk:=fun {W1 W2:World} {vp:Option Addr} {vc:Nat} (hc:Chg (fun _ => False) W W2) (h:OwnL 56 3 K3.cells W2 W1.heap.size (.slice vp (min n 60) vc) (tl g (min n 60))) => made_any hc cf hseed (keys_own h hok (by omega))
  simp only [hmin] at hmk
  generalize madeK (clampL 200 cf.E) (clampL 64 cf.M) (ksK (fun i => ⟨(g i).N,(g i).M,1⟩) (min n 60))=L at hmk hnine hcok
  have hlt:∀ c∈L,now<c.u.a:=fun c hc => by have:=hnine c hc;omega
  have hRU:=roomU_late hcok hlt ds
  have hCE:(chooseC L now ds).2=if L=[] then 150 else 130:=by
   split
   ·rename_i h;rw [h];rfl
   ·rename_i h;exact chooseC_late hcok hlt h ds
  have hch:=fun {sb rb:Nat} {W1 W2:World} (hW:Chg (fun _ => False) W W1) (h:MR W W1 sb rb cf L L W2) => h.call2 fun F hF f1 => choose_u hF _ ds (hd.outer (hW.trans h.c) fun g hg => Nat.le_trans hW.size (f1 g hg)) now hw
  have hrm:=fun {sb rb:Nat} {W1 W2:World} (hW:Chg (fun _ => False) W W1) (h:MR W W1 sb rb cf L L W2) => h.call2 fun F hF f1 => room_u hF 1 now hw _ ds (hd.outer (hW.trans h.c) fun g hg => Nat.le_trans hW.size (f1 g hg))
  have hrn:=fun (w:World) => room_none 1 (.int .i64 now) (.slice pd ds.length cd) w
  have hle:=fun {sb rb:Nat} {W1 W2:World} (h:MR W W1 sb rb cf L L W2) => (show Calls Tryz.prog 12 #[pt sb] W2 fun r W' => r=.returned (.int .i64 (L.length:Int))∧W2=W' from (by obtain ⟨F,hF,_⟩:=h.s;exact spa_len hF))
  simp only [hRU] at hrm
  simp only [hCE] at hch
  obtain ⟨CK,hCK⟩:∃ CK,(chooseC L now ds).1=CK:=⟨_,rfl⟩
  simp only [hCK] at hch
  have hLl:L=[] ↔ L.length=0:=List.length_eq_zero_iff.symm
  generalize hll:L.length=ll at *
  obtain ⟨E0,hE0⟩:∃ E0:Int,(if L=[] then 150 else 130)=E0:=⟨_,rfl⟩
  simp only [hE0] at hch hrm
  have HE0:=Lib.hid hE0
  have HLL:=Lib.hid hLl
  clear hE0 hLl hCE hRU hCK hnine hcok hlt hll
  have hcl:∀ j,j<n→∃ kb ko,pk=some ⟨kb,ko,none⟩∧∀ W',Chg (fun _ => False) W W'→kb<W'.heap.size∧W'.cell? ⟨kb,ko+j * 3,none⟩=some (.string (g j).N)∧W'.cell? ⟨kb,ko+j * 3+1,none⟩=some (.int .i64 (g j).M):=fun j hj => by
   obtain ⟨kb,ko,kc,ke,_⟩:=hk.at_ j hj
   injection ke with e1 _ e2
   refine ⟨kb,ko,e1,fun W' hc => ?_⟩
   obtain ⟨kb',ko',kc',ke',hl',hc',_⟩:=(hk.chg hc).at_ j hj
   injection ke' with e1' _ _
   rw [e1] at e1'
   injection e1' with e1'
   injection e1' with e3 e4
   subst e3 e4
   exact ⟨hl',hc'.c0,hc'.c1⟩
  have hnm:=hk.le
  have hn2:(n:Int)≤9223372036854775807:=by unfold maxLen at hnm;omega
  obtain ⟨k0,hk0,hkz0,hkz1,hkz2⟩:=info_parts key_info
  generalize ds.length=nd at *
  clear hk hok hd hmin hnm
  unfold Cf.cs pt at *
  go_enter Tryz.func6,Tryz.ntmps6
  go_wp2_with (first
   | (go_at_call 9;refine (hsh _).mono ?_;rintro r w1 ⟨rfl,hC1⟩;have x1:=x0.chg hC1 id;have hW1:=hC0.trans hC1)
   | fail)
  clear hsh hC1 x0 hC0
  go_loopg [10,11] (min n 60) (fun m v10 v11 Wr => ∃ (j:Nat) (vp:Option Addr) (vc:Nat),v11=.int .i64 (j:Int)∧v10=.slice vp j vc∧m=min n 60 - j∧j≤min n 60∧OwnL 56 3 K3.cells Wr w1.heap.size (.slice vp j vc) (tl g j)∧Chg (fun _ => False) w1 Wr)
  case atStart => exact ⟨0,none,0,rfl,rfl,rfl,Nat.zero_le _,OwnL.nil _ _,Chg.refl _ _⟩
  case round =>
   obtain ⟨j,vp,vc,rfl,rfl,rfl,hj,hO,hC⟩:=hrel
   by_cases hjl:j<min n 60
   ·have h3:(j:Int)<(n:Int):=by omega
    have h4:(j:Int)<60:=by omega
    obtain ⟨kb,ko,rfl,hc⟩:=hcl j (by omega)
    obtain ⟨e1,e2,e3⟩:=hc _ (hW1.trans hC)
    have hsn:=tl_snoc g j
    have hlj:=tl_len g j
    generalize g j=x at *
    have m1:(tl g j).length+1≤maxLen:=by rw [hlj];unfold maxLen;omega
    have m2:((tl g j).length+1) * 32≤140737488355328:=by rw [hlj];omega
    have hone:∀ u∈[Value.string x.N,Value.int .i64 x.M,Value.int .i64 1],u.oneCell'=true:=by
     intro u hu
     simp only [List.mem_cons,List.not_mem_nil,or_false] at hu
     rcases hu with rfl | rfl | rfl <;> rfl
    have hda:Chg (fun _ => False) wr (wr.drew.alloc (.cells #[.string x.N,.int .i64 x.M,.int .i64 1] 56)):=((Chg.refl (fun _ => False) wr).drew).alloc _
    have hre:Reads (wr.drew.alloc (.cells #[.string x.N,.int .i64 x.M,.int .i64 1] 56)) (wr.drew.alloc (.cells #[.string x.N,.int .i64 x.M,.int .i64 1] 56)).heap.size 3 (some ⟨wr.heap.size,0,none⟩) 1 [.string x.N,.int .i64 x.M,.int .i64 1]:=reads_blk (Blk.new wr.drew 56 #[.string x.N,.int .i64 x.M,.int .i64 1]) rfl
    have HSN:=Lib.hid hsn
    have HLJ:=Lib.hid hlj
    have HJ:=Lib.hid hjl
    clear hsn hlj hcl
    go_wp2_with fail
    go_region_held3 (fun W' => W'.cell? ⟨kb,ko+j * 3,none⟩=some (.string x.N)∧W'.cell? ⟨kb,ko+j * 3+1,none⟩=some (.int .i64 x.M)) (first | exact ⟨e2,e3⟩ | exact (hc _ ((hW1.trans hC).trans hda)).2 | exact (hc _ (hW1.trans hC9)).2 | fail)
     (first
      | (refine step_append_any _ (by rfl) (.tmp 39) (.tmp 51) 27 (by rfl) w1.heap.size 56 k0 _ 3 32 Tryz.underlying27 hk0 hkz0 hkz1 hkz2 rfl (by omega) _ _ _ (by rfl) (OwnL.own (OwnL.chg0 hO hda)) (wr.drew.alloc (.cells #[.string x.N,.int .i64 x.M,.int .i64 1] 56)).heap.size (some ⟨wr.heap.size,0,none⟩) 1 1 [.string x.N,.int .i64 x.M,.int .i64 1] (by rfl) hre hone m1 m2 (hC.trans hda).size ?_;intro v9 w9 hown9 hg9 _;have hC9:Chg (fun _ => False) w1 w9:=(hC.trans hda).trans' (app_chg (OwnL.own (OwnL.chg0 hO hda)) hg9) (fun g hg h => by omega);have hO9:OwnL 56 3 K3.cells w9 w1.heap.size v9 (tl g (j+1)):=(by rw [HSN.out];exact OwnL.mk hown9 (by rw [List.length_append];first | done | rfl) (by rw [List.flatMap_append];first | done | rfl));obtain ⟨vp2,vc2,hv9,_,_,_⟩:=OwnL.is hO9;rw [tl_len] at hv9;subst hv9)
      | fail)
    go_wp2_with fail
    go_roundg (min n 60 - (j+1))
    case measure => have:=HJ.out;omega
    case rel => exact ⟨j+1,vp2,vc2,int_eq (by omega),rfl,rfl,HJ.out,hO9,hC9⟩
   ·obtain rfl:j=min n 60:=by omega
    have hcase:¬ ((min n 60:Nat):Int)<(n:Int)∨(((min n 60:Nat):Int)<(n:Int)∧¬ ((min n 60:Nat):Int)<60):=by omega
    have hWr:=hW1.trans hC
    have x2:=x1.chg hC id
    have y0:=x2.cell 0
    have y1:=x2.cell 1
    have y2:=x2.cell 2
    have y3:=x2.cell 3
    have yl:=x2.lt
    simp only [List.getElem?_toArray,List.getElem?_cons_zero,List.getElem?_cons_succ] at y0 y1 y2 y3
    clear hcl hj hjl
    generalize min n 60=mm at *
    by_cases hz:ll=0
    ·have he:E0=150:=by rw [← HE0.out,if_pos (HLL.out.2 hz)]
     subst he
     subst hz
     rcases hcase with h3 | ⟨h3,h4⟩
     ·go_wp2_with (first
       | (go_at_call 10;(with_reducible refine (hmk hWr hO).mono ?_);rintro r w4 ⟨sb,rb,rfl,hM⟩;have hl4:=hle hM)
       | (go_at_call 12;(with_reducible refine hl4.mono ?_);rintro r w5 ⟨rfl,rfl⟩;have hc4:=hch hWr hM)
       | (go_at_call 11;(with_reducible refine hc4.mono ?_);rintro r w5 ⟨rfl,hM5⟩;have hr5:=hrm hWr hM5)
       | (go_at_call 21;(with_reducible refine hr5.mono ?_);rintro r w6 ⟨⟨v6,rfl,hS6⟩,hM6⟩;obtain ⟨q6,c6,rfl,_⟩:=hS6.is)
       | (go_at_call 21;(with_reducible refine (hrn _).mono ?_);rintro r w7 ⟨rfl,hC7⟩;have hM7:=hM6.chg0 hC7;have hl7:=hle hM7)
       | (go_at_call 12;(with_reducible refine hl7.mono ?_);rintro r w8 ⟨rfl,rfl⟩)
       | fail)
      go_ret
      exact ⟨rfl,hWr.trans hM7.c⟩
     ·go_wp2_with (first
       | (go_at_call 10;(with_reducible refine (hmk hWr hO).mono ?_);rintro r w4 ⟨sb,rb,rfl,hM⟩;have hl4:=hle hM)
       | (go_at_call 12;(with_reducible refine hl4.mono ?_);rintro r w5 ⟨rfl,rfl⟩;have hc4:=hch hWr hM)
       | (go_at_call 11;(with_reducible refine hc4.mono ?_);rintro r w5 ⟨rfl,hM5⟩;have hr5:=hrm hWr hM5)
       | (go_at_call 21;(with_reducible refine hr5.mono ?_);rintro r w6 ⟨⟨v6,rfl,hS6⟩,hM6⟩;obtain ⟨q6,c6,rfl,_⟩:=hS6.is)
       | (go_at_call 21;(with_reducible refine (hrn _).mono ?_);rintro r w7 ⟨rfl,hC7⟩;have hM7:=hM6.chg0 hC7;have hl7:=hle hM7)
       | (go_at_call 12;(with_reducible refine hl7.mono ?_);rintro r w8 ⟨rfl,rfl⟩)
       | fail)
      go_ret
      exact ⟨rfl,hWr.trans hM7.c⟩
    ·have he:E0=130:=by rw [← HE0.out,if_neg fun h => hz (HLL.out.1 h)]
     subst he
     have hz2:((ll:Int) == 0)=false:=by rw [beq_eq_false_iff_ne];omega
     rcases hcase with h3 | ⟨h3,h4⟩
     ·go_wp2_with (first
       | (go_at_call 10;(with_reducible refine (hmk hWr hO).mono ?_);rintro r w4 ⟨sb,rb,rfl,hM⟩;have hl4:=hle hM)
       | (go_at_call 12;(with_reducible refine hl4.mono ?_);rintro r w5 ⟨rfl,rfl⟩;have hc4:=hch hWr hM)
       | (go_at_call 11;(with_reducible refine hc4.mono ?_);rintro r w5 ⟨rfl,hM5⟩;have hr5:=hrm hWr hM5)
       | (go_at_call 21;(with_reducible refine hr5.mono ?_);rintro r w6 ⟨⟨v6,rfl,hS6⟩,hM6⟩;obtain ⟨q6,c6,rfl,_⟩:=hS6.is)
       | (go_at_call 21;(with_reducible refine (hrn _).mono ?_);rintro r w7 ⟨rfl,hC7⟩;have hM7:=hM6.chg0 hC7;have hl7:=hle hM7)
       | (go_at_call 12;(with_reducible refine hl7.mono ?_);rintro r w8 ⟨rfl,rfl⟩)
       | fail)
      go_ret
      exact ⟨rfl,hWr.trans hM7.c⟩
     ·go_wp2_with (first
       | (go_at_call 10;(with_reducible refine (hmk hWr hO).mono ?_);rintro r w4 ⟨sb,rb,rfl,hM⟩;have hl4:=hle hM)
       | (go_at_call 12;(with_reducible refine hl4.mono ?_);rintro r w5 ⟨rfl,rfl⟩;have hc4:=hch hWr hM)
       | (go_at_call 11;(with_reducible refine hc4.mono ?_);rintro r w5 ⟨rfl,hM5⟩;have hr5:=hrm hWr hM5)
       | (go_at_call 21;(with_reducible refine hr5.mono ?_);rintro r w6 ⟨⟨v6,rfl,hS6⟩,hM6⟩;obtain ⟨q6,c6,rfl,_⟩:=hS6.is)
       | (go_at_call 21;(with_reducible refine (hrn _).mono ?_);rintro r w7 ⟨rfl,hC7⟩;have hM7:=hM6.chg0 hC7;have hl7:=hle hM7)
       | (go_at_call 12;(with_reducible refine hl7.mono ?_);rintro r w8 ⟨rfl,rfl⟩)
       | fail)
      go_ret
      exact ⟨rfl,hWr.trans hM7.c⟩
end Go.Proofs.YtehpmbmdadkhbaaGreatDoor
