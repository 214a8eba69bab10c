/- Texts joined for EvictNone: ZP5, ZL, DMint64, HS, DWint64, DW2int64, DPint64, DW3int64, DP2int64, DW4int64. -/
import Derived.Test.YtehpmbmdadkhbaaGreatDoorJEvictNonea
import Derived.Test.YtehpmbmdadkhbaaGreatDoorJEvictNoneb
import Derived.Test.YtehpmbmdadkhbaaGreatDoorJEvictNonee
import Derived.Test.YtehpmbmdadkhbaaGreatDoorProg
import Derived.OwnWalkIn
import Derived.TacticsInMore
import Derived.LoopNIn
import Derived.LoopIn
import Derived.Laws.MakeOwn
import Derived.Deep.QuietTactic
import Derived.BigQuiet
import Derived.Deep.LoopGhost
import Derived.StillTailTactics
import Derived.WalkSpells
import Derived.Deep.RegionWith
import Derived.Laws.OwnMore
import Derived.BigRegion
set_option linter.unusedVariables false
set_option linter.unusedSimpArgs false

namespace Go.Proofs.YtehpmbmdadkhbaaGreatDoor
open Go.RowKit Pal
attribute [local go_sem] Oper.semAt_some
section
variable {w:World} {b:Nat} {es:List En}
set_option maxRecDepth 100000 in
set_option maxHeartbeats 1000000 in
theorem p_put (h:PkAt w b es) (e:En) (lv:Int) (hs:es.Pairwise ltE) (hn:e ∉ es) (h200:es.length<200) (hx:EnOk e):Calls Tryz.prog 200 #[pt b,e.val,.int .i64 lv] w fun r w' => (∃ v,r=.returned v)∧PkAt w' b (es.take (ahead es e)++e :: es.drop (ahead es e))∧Chg (fun g => g=b) w w':=by
 have hkl:=ahead_le es e
 have hins:=fun w => insert_pk es h.ok (ahead es e) hkl h200 e hx w
 have hok2:POk (es.take (ahead es e)++e :: es.drop (ahead es e)):=⟨by rw [List.length_append,List.length_cons,List.length_take,List.length_drop];omega,fun x hx2 => by
  rcases List.mem_append.1 hx2 with h2 | h2
  ·exact h.ok.ok x (List.mem_of_mem_take h2)
  ·rcases List.mem_cons.1 h2 with rfl | h2
   ·exact hx
   ·exact h.ok.ok x (List.mem_of_mem_drop h2)⟩
 have hent:=fun w (h:PkAt w b es) => p_entries h
 have hsr:∀ (A B:Nat) (v:Value) (W:World),Blk W A 68 #[.string e.m,.int .i64 e.s]→Blk W B 64 #[v]→EntsR W v es→_:=fun A B v W hA hB hv =>
  search_any 208 #[pt A,pt B] es.length (ahead es e) (fun t => decide (ahead es e≤t)) W (enters_of Tryz.func208 (by kernel_rfl) rfl) (by omega) hkl (fun t ht => decide_eq_false (by omega)) (fun t ht _ => decide_eq_true ht)
   (fun i W' hi hc => by
    have:=put1_any e es[i] i A B v W' (hA.chg hc id) (hB.chg hc id) es (hv.chg0 hc) (List.getElem?_eq_getElem hi)
    rw [ahead_turn hs hn (List.getElem?_eq_getElem hi)] at this
    exact this)
 have HB:=Lib.hid h.b
 generalize hq2:pk (es.take (ahead es e)++e :: es.drop (ahead es e))=q2 at *
 replace hq2:=Lib.hid hq2
 generalize ahead es e=k at *
 unfold RgPost at hent
 unfold fnv at hsr
 unfold pt En.val at *
 go_enter Tryz.func200,Tryz.ntmps200
 go_wp2_with (first | (go_at_call 202;refine (hent _ (h.chg ((Chg.refl (fun _ => False) w).alloc _) id)).mono ?_;rintro r w1 ⟨⟨v,rfl,hv⟩,hC⟩;obtain ⟨p,c,rfl,_,_,_⟩:=hv.is) | (go_at_call 207;refine (hsr w.heap.size w1.heap.size _ _ (((Blk.new w 68 #[.string e.m,.int .i64 e.s]).chg hC id).alloc _) (Blk.new w1 64 _) (hv.r.chg0 ((Chg.refl _ w1).alloc _))).mono ?_;rintro r w2 ⟨rfl,hC2⟩) | fail)
 have hC3:Chg (fun _ => False) w w2:=((((Chg.refl _ w).alloc _).trans hC).alloc _).trans hC2
 have hbw:=HB.out.chg hC3 id
 have hbe:=((((Blk.new w 68 #[.string e.m,.int .i64 e.s]).chg hC id).alloc _).chg hC2 id)
 have c0:=hbw.cell 0
 have e0:=hbe.cell 0
 have e1:=hbe.cell 1
 have l0:=hbw.lt
 have l1:=hbe.lt
 simp only [List.getElem?_toArray,List.getElem?_cons_zero,List.getElem?_cons_succ] at c0 e0 e1
 clear hsr hent hv
 go_region_with (first | (go_at_call 209;refine (hins _).mono ?_;rintro r w4 ⟨rfl,hC4'⟩;have hC4:Chg (fun _ => False) w2 w4:=(Chg.refl _ _).drew.trans hC4';have hb4:=hbw.chg hC4 id;have d0:=hb4.cell 0;have df:=hb4.frozen 0;have dl:=hb4.lt;simp only [List.getElem?_toArray,List.getElem?_cons_zero] at d0) | fail)
 all_goals
  go_wp2_with fail
  go_end0
  refine ⟨⟨_,rfl⟩,⟨?_,hok2⟩,Chg.store (S:=fun g => g=b) ((hC3.trans hC4).mono fun _ _ h => h.elim) rfl 0 _⟩
  rw [hq2.out]
  exact hb4.set 0 _
end
end Go.Proofs.YtehpmbmdadkhbaaGreatDoor

namespace Go.Proofs.YtehpmbmdadkhbaaGreatDoor
open Go.RowKit Pal
attribute [local go_sem] Oper.semAt_some
set_option maxRecDepth 100000 in
theorem packNew_any (w:World):Calls Tryz.prog 115 #[] w fun r w' => r=.returned (.string (pk []))∧Chg (fun _ => False) w w':=by
 have hh:∀ w,Calls Tryz.prog 137 #[.int .i64 0] w fun r w' => r=.returned (.slice (some ⟨w.heap.size,0,none⟩) 2 2)∧w.alloc (.cells #[.int .u8 0,.int .u8 0] 5)=w':=fun w => head_any 0 w (by omega)
 have hb:=Blk.new w 5 #[.int .u8 0,.int .u8 0]
 have hbk:=Go.run_convert_bytes_back (P:=Tryz.prog) (w.alloc (.cells #[.int .u8 0,.int .u8 0] 5)) 66 9 5 ⟨w.heap.size,0,none⟩ 2 [0,0] Tryz.underlying66 Tryz.underlying5 Tryz.underlying9 (fun j hj => by
  have hj:j<2:=hj
  rw [addr_add',Nat.zero_add,hb.cell]
  match j,hj with
  | 0,_ => rfl
  | 1,_ => rfl)
 have e:(⟨([0,0]:List UInt8).toArray⟩:ByteArray)=pk []:=rfl
 rw [e] at hbk
 simp only [List.length_cons,List.length_nil,Nat.reduceAdd,Nat.reduceDiv,Nat.reduceMod] at hbk
 clear hb e
 go_enter Tryz.func115,Tryz.ntmps115
 go_wp2_with (go_at_call 137;refine (hh _).mono ?_;rintro r w1 ⟨rfl,rfl⟩)
 go_ret
 exact ⟨rfl,(Chg.refl _ _).alloc _⟩
end Go.Proofs.YtehpmbmdadkhbaaGreatDoor

namespace Go.Proofs.YtehpmbmdadkhbaaGreatDoor.Dint64
open Go.RowKit Pal
def VOk (v:Value):Prop:=∃ n:Int,v=.int .i64 n
structure Nd where
 blk:Nat
 sum:Nat
 key:ByteArray
 v:Value
abbrev Ch:=List Nd
def ptr (b:Nat):Value:=.pointer (some ⟨b,0,none⟩)
def hd:Ch→Value
 | [] => .pointer none
 | x :: _ => ptr x.blk
def ndCells (x:Nd) (nx:Value):Array Value:=#[.int .u32 (x.sum:Int),.string x.key,x.v,nx]
def chAt (w:World):Ch→Prop
 | [] => True
 | x :: r => Blk w x.blk 277 (ndCells x (hd r))∧chAt w r
structure Tb where
 blk:Nat
 slots:List Ch
def Tb.len (t:Tb):Nat:=t.slots.length
def Tb.at (t:Tb) (i:Nat):Ch:=t.slots.getD i []
def Tb.set (t:Tb) (i:Nat) (c:Ch):Tb:={ t with slots:=t.slots.set i c }
def Tb.nodes (t:Tb):List Nd:=t.slots.flatten
def tbCells (t:Tb):Array Value:=(t.slots.map hd).toArray
def tbVal (t:Tb):Value:=.slice (some ⟨t.blk,0,none⟩) t.len t.len
def tbAt (w:World) (t:Tb):Prop:=Blk w t.blk 275 (tbCells t)∧∀ c∈t.slots,chAt w c
structure Dm where
 blk:Nat
 seed:Nat
 t0:Tb
 t1:Option Tb
 at_:Nat
 n:Nat
def Dm.nodes1 (d:Dm):List Nd:=match d.t1 with | none => [] | some t => t.nodes
def Dm.nodes (d:Dm):List Nd:=d.t0.nodes++d.nodes1
def t1Val:Option Tb→Value
 | none => .slice none 0 0
 | some t => tbVal t
def dmCells (d:Dm):Array Value:=#[.int .u32 (d.seed:Int),tbVal d.t0,t1Val d.t1,.int .i64 (d.at_:Int),.int .i64 (d.n:Int)]
def Dm.foot (d:Dm) (g:Nat):Prop:=g=d.blk∨g=d.t0.blk∨(∃ t,d.t1=some t∧g=t.blk)∨∃ x∈d.nodes,g=x.blk
structure DmAt (w:World) (d:Dm):Prop where
 hd:Blk w d.blk 256 (dmCells d)
 a0:tbAt w d.t0
 a1:∀ t,d.t1=some t→tbAt w t
 ne:∀ t,d.t1=some t→d.t0.blk≠t.blk
 nodup:(d.nodes.map (·.blk)).Nodup
theorem Tb.at_lt {t:Tb} {i:Nat} (h:i<t.len):t.slots[i]?=some (t.at i):=by
 unfold Tb.at;rw [List.getD_eq_getElem?_getD];unfold Tb.len at h;rw [List.getElem?_eq_getElem h];rfl
theorem Tb.at_mem {t:Tb} {i:Nat} (h:i<t.len):t.at i∈t.slots:=List.mem_of_getElem? (Tb.at_lt h)
theorem Tb.set_len (t:Tb) (i:Nat) (c:Ch):(t.set i c).len=t.len:=by simp [Tb.set,Tb.len]
theorem Tb.set_at {t:Tb} {i:Nat} (h:i<t.len) (c:Ch) (j:Nat):(t.set i c).at j=if i=j then c else t.at j:=by
 unfold Tb.at Tb.set Tb.len at *
 simp only [List.getD_eq_getElem?_getD,List.getElem?_set]
 by_cases e:i=j
 ·subst e;simp [h]
 ·simp [e]
theorem tbCells_get {t:Tb} {i:Nat} (h:i<t.len):(tbCells t)[i]?=some (hd (t.at i)):=by
 unfold tbCells;simp [Tb.at_lt h]
theorem tbCells_set (t:Tb) (i:Nat) (c:Ch):tbCells (t.set i c)=(tbCells t).setIfInBounds i (hd c):=by
 unfold tbCells Tb.set;simp [List.map_set]
theorem tbCells_size (t:Tb):(tbCells t).size=t.len:=by simp [tbCells,Tb.len]
theorem mem_nodes {t:Tb} {x:Nd}:x∈t.nodes ↔ ∃ i,i<t.len∧x∈t.at i:=by
 unfold Tb.nodes;rw [List.mem_flatten]
 constructor
 ·rintro ⟨c,hc,hx⟩
  obtain ⟨i,hi,rfl⟩:=List.mem_iff_getElem.1 hc
  exact ⟨i,hi,by have:=Tb.at_lt (t:=t) hi;rw [List.getElem?_eq_getElem hi] at this;injection this with this;rw [← this];exact hx⟩
 ·rintro ⟨i,hi,hx⟩;exact ⟨_,Tb.at_mem hi,hx⟩
theorem chAt.chg {S:Nat→Prop} {w w':World} (hc:Chg S w w'):∀ {c:Ch},chAt w c→(∀ x∈c,¬ S x.blk)→chAt w' c
 | [],_,_ => trivial
 | _ :: _,⟨h1,h2⟩,hS => ⟨h1.chg hc (hS _ (by simp)),chAt.chg hc h2 (fun x hx => hS x (by simp [hx]))⟩
theorem chAt.node {w:World}:∀ {c:Ch} {pre:Ch} {x:Nd} {post:Ch},chAt w c→c=pre++x :: post→Blk w x.blk 277 (ndCells x (hd post))
 | _,[],_,_,h,rfl => h.1
 | _,_ :: pre,_,_,h,rfl => chAt.node (pre:=pre) h.2 rfl
theorem tbAt.chg {S:Nat→Prop} {w w':World} {t:Tb} (hc:Chg S w w') (h:tbAt w t) (ht:¬ S t.blk) (hS:∀ x∈t.nodes,¬ S x.blk):tbAt w' t :=
 ⟨h.1.chg hc ht,fun c hcm => (h.2 c hcm).chg hc fun x hx => hS x (List.mem_flatten.2 ⟨c,hcm,hx⟩)⟩
theorem DmAt.chg {S:Nat→Prop} {w w':World} {d:Dm} (h:DmAt w d) (hc:Chg S w w') (hS:∀ g,d.foot g→¬ S g):DmAt w' d where
 hd:=h.hd.chg hc (hS _ (.inl rfl))
 a0:=h.a0.chg hc (hS _ (.inr (.inl rfl))) fun x hx => hS _ (.inr (.inr (.inr ⟨x,by simp [Dm.nodes,hx],rfl⟩)))
 a1:=fun t ht => (h.a1 t ht).chg hc (hS _ (.inr (.inr (.inl ⟨t,ht,rfl⟩)))) fun x hx => hS _ (.inr (.inr (.inr ⟨x,by simp [Dm.nodes,Dm.nodes1,ht,hx],rfl⟩)))
 ne:=h.ne
 nodup:=h.nodup
theorem DmAt.chg0 {w w':World} {d:Dm} (h:DmAt w d) (hc:Chg (fun _ => False) w w'):DmAt w' d:=h.chg hc fun _ _ => id
theorem tbAt.node {w:World} {t:Tb} (h:tbAt w t) {x:Nd} (hx:x∈t.nodes):∃ nx,Blk w x.blk 277 (ndCells x nx):=by
 obtain ⟨c,hc,hxc⟩:=List.mem_flatten.1 hx
 obtain ⟨pre,post,rfl⟩:=List.append_of_mem hxc
 exact ⟨_,(h.2 _ hc).node rfl⟩
theorem DmAt.node {w:World} {d:Dm} (h:DmAt w d) {x:Nd} (hx:x∈d.nodes):∃ nx,Blk w x.blk 277 (ndCells x nx):=by
 unfold Dm.nodes Dm.nodes1 at hx
 rcases List.mem_append.1 hx with h0 | h1
 ·exact h.a0.node h0
 ·split at h1
  ·cases h1
  ·rename_i t ht;exact (h.a1 t ht).node h1
theorem DmAt.lt {w:World} {d:Dm} (h:DmAt w d) {g:Nat} (hg:d.foot g):g<w.heap.size:=by
 rcases hg with rfl | rfl | ⟨t,ht,rfl⟩ | ⟨x,hx,rfl⟩
 ·exact h.hd.lt
 ·exact h.a0.1.lt
 ·exact (h.a1 t ht).1.lt
 ·obtain ⟨nx,hb⟩:=h.node hx;exact hb.lt
theorem chAt.keep {w w':World} (k:KeepC w w'):∀ {c:Ch},chAt w c→chAt w' c
 | [],_ => trivial
 | _ :: _,⟨h1,h2⟩ => ⟨h1.keep k,chAt.keep k h2⟩
theorem tbAt.keep {w w':World} {t:Tb} (h:tbAt w t) (k:KeepC w w'):tbAt w' t:=⟨h.1.keep k,fun c hc => (h.2 c hc).keep k⟩
theorem DmAt.keep {w w':World} {d:Dm} (h:DmAt w d) (k:KeepC w w'):DmAt w' d where
 hd:=h.hd.keep k
 a0:=h.a0.keep k
 a1:=fun t ht => (h.a1 t ht).keep k
 ne:=h.ne
 nodup:=h.nodup
theorem DmAt.t0_ne {w:World} {d:Dm} (h:DmAt w d):d.t0.blk≠d.blk:=h.a0.1.ne_type h.hd (by decide)
theorem DmAt.t1_ne {w:World} {d:Dm} (h:DmAt w d) {t:Tb} (ht:d.t1=some t):t.blk≠d.blk:=(h.a1 t ht).1.ne_type h.hd (by decide)
theorem DmAt.nd_ne {w:World} {d:Dm} (h:DmAt w d) {x:Nd} (hx:x∈d.nodes):x.blk≠d.blk∧x.blk≠d.t0.blk∧∀ t,d.t1=some t→x.blk≠t.blk:=by
 obtain ⟨nx,hb⟩:=h.node hx
 exact ⟨hb.ne_type h.hd (by decide),hb.ne_type h.a0.1 (by decide),fun t ht => hb.ne_type (h.a1 t ht).1 (by decide)⟩
theorem mem_nodes0 {d:Dm} {x:Nd} (h:x∈d.t0.nodes):x∈d.nodes:=List.mem_append.2 (.inl h)
theorem mem_nodes1 {d:Dm} {t:Tb} (ht:d.t1=some t) {x:Nd} (h:x∈t.nodes):x∈d.nodes:=by
 unfold Dm.nodes Dm.nodes1;rw [ht];exact List.mem_append.2 (.inr h)
theorem DmAt.head {w w':World} {d d':Dm} (h:DmAt w d) (hc:Chg (fun g => g=d.blk) w w') (hh:Blk w' d'.blk 256 (dmCells d')) (e0:d'.t0=d.t0) (e1:d'.t1=d.t1):DmAt w' d' where
 hd:=hh
 a0:=by rw [e0];exact h.a0.chg hc h.t0_ne fun x hx => (h.nd_ne (mem_nodes0 hx)).1
 a1:=fun t ht => by
  rw [e1] at ht
  exact (h.a1 t ht).chg hc (h.t1_ne ht) fun x hx => (h.nd_ne (mem_nodes1 ht hx)).1
 ne:=fun t ht => by rw [e1] at ht;rw [e0];exact h.ne t ht
 nodup:=by
  have:d'.nodes=d.nodes:=by unfold Dm.nodes Dm.nodes1;rw [e0,e1]
  rw [this];exact h.nodup
end Go.Proofs.YtehpmbmdadkhbaaGreatDoor.Dint64

namespace Go.Proofs.YtehpmbmdadkhbaaGreatDoor
open Go.RowKit Pal
attribute [local go_sem] Oper.semAt_some
set_option maxHeartbeats 400000 in
theorem sizes_any (w:World):Calls Tryz.prog 133 #[] w fun e w' => e=.returned (.func (.func 143) #[] #[])∧w=w':=by
 go_enter Tryz.func133,Tryz.ntmps133
 go_wp2
 go_ret
 exact ⟨rfl,rfl⟩
theorem sizes1_any (l:Nat) (J:Int→World→Prop) (Jx:World→Prop)
  (hY:∀ (d:Nat) (k:Int) W,k=((2 ^ d:Nat):Int)→2≤d→d≤16→J k W→YieldAt Fence.wide 2 Tryz.prog l #[.int .i64 k] W fun e W' =>
   (e=.returned (.bool true)∧J (2 * k) W')∨(e=.returned (.bool false)∧Jx W'))
  (W:World) (h0:J 4 W) :
  Calls Tryz.prog 143 #[.func (.yield l) #[] #[]] W fun e W' => (∃ v,e=.returned v)∧(J 131072 W'∨Jx W'):=by
 refine (callsIn_wide (n:=3)).1 ?_
 refine callsIn_of_wp Tryz.func143 rfl trivial ?_ rfl
 simp only [Tryz.ntmps143,List.size_toArray,List.length_cons,List.length_nil,Nat.reduceAdd,Nat.reduceSub,Array.replicate_succ,Array.replicate_zero,List.push_toArray,List.append_toArray,List.nil_append,List.cons_append]
 gi_wp2
 gi_loopw [2] (fun p wr => ∃ (d:Nat) (k:Int),p=.int .i64 k∧Hid (k=((2 ^ d:Nat):Int))∧2≤d∧d≤17∧J k wr)
  (fun p wr => (131073 - intOf p).toNat)
 case atStart => exact ⟨2,4,rfl,rfl,by omega,by omega,h0⟩
 case round =>
  obtain ⟨d,k,rfl,hk,hd2,hd17,hJ⟩:=hrel
  have hb:4≤k∧k≤131072:=by
   have e:=hk.out
   have h3:(2:Nat) ^ 2≤2 ^ d:=pow_mono hd2
   have h4:(2:Nat) ^ d≤2 ^ 17:=pow_mono hd17
   omega
  obtain ⟨hb1,hb2⟩:=hb
  by_cases hd:d=17
  ·have hk17:k=131072:=by rw [hk.out,hd];decide
   subst hk17
   clear hd hk
   gi_wp2
   go_end0
   exact ⟨⟨_,rfl⟩,.inl hJ⟩
  ·have hle:k≤65536:=by
    have e:=hk.out
    have h4:(2:Nat) ^ d≤2 ^ 16:=pow_mono (by omega)
    omega
   obtain ⟨fn,tmps,assign,body,hy,hR⟩:=hY d k wr hk.out hd2 (by omega) hJ
   have hd':d+1≤17:=by omega
   clear hd
   gi_wp2
   refine hR.mono ?_
   rintro e W3 (⟨rfl,hJ3⟩ | ⟨rfl,hJx3⟩)
   ·gi_wp2
    go_roundw
    case rel => exact ⟨d+1,2 * k,int_eq (by omega),show _=_ by rw [Nat.pow_succ];have:=hk.out;omega,by omega,hd',hJ3⟩
    case measure => simp [intOf];omega
   ·gi_wp2
    refine bodyPost_ret (results_none rfl _ _ _) rfl ?_
    exact ⟨⟨_,rfl⟩,.inr hJx3⟩
set_option maxHeartbeats 400000 in
theorem sizeFor_any (n:Int) (w:World) :
  Calls Tryz.prog 109 #[.int .i64 n] w fun e w' => e=.returned (.int .i64 (sizeFor n:Int))∧Chg (fun _ => False) w w':=by
 refine calls_of_wp_marks Tryz.func109 rfl ?_
 simp only [Tryz.ntmps109,List.size_toArray,List.length_cons,List.length_nil,Nat.reduceAdd,Nat.reduceSub,Array.replicate_succ,Array.replicate_zero,List.push_toArray,List.append_toArray,List.nil_append,List.cons_append]
 go_wp2_with fail
 go_step3
 go_wp2_with fail
 go_step3
 go_wp2_with (go_at_call 133;refine (sizes_any _).mono ?_;rintro e w' ⟨rfl,rfl⟩)
 have hb1:Blk ((w.alloc (Obj.cells #[Value.int IntKind.i64 n] 3)).alloc (Obj.cells #[Value.int IntKind.i64 65536] 3)) w.heap.size 3 #[.int .i64 n]:=(Blk.new _ _ _).alloc _
 have hb2:Blk ((w.alloc (Obj.cells #[Value.int IntKind.i64 n] 3)).alloc (Obj.cells #[Value.int IntKind.i64 65536] 3)) (w.heap.size+1) 3 #[.int .i64 65536]:=by
  have:=Blk.new (w.alloc (Obj.cells #[Value.int IntKind.i64 n] 3)) 3 #[Value.int IntKind.i64 65536]
  rwa [World.size_alloc] at this
 have hc0:Chg (fun _ => False) w ((w.alloc (Obj.cells #[Value.int IntKind.i64 n] 3)).alloc (Obj.cells #[Value.int IntKind.i64 65536] 3)):=((Chg.refl _ _).alloc _).alloc _
 have hsz:((w.alloc (Obj.cells #[Value.int IntKind.i64 n] 3)).alloc (Obj.cells #[Value.int IntKind.i64 65536] 3)).heap.size > w.heap.size+1:=by simp
 generalize hw0:(w.alloc (Obj.cells #[Value.int IntKind.i64 n] 3)).alloc (Obj.cells #[Value.int IntKind.i64 65536] 3)=W0 at hb1 hb2 hc0 hsz ⊢
 clear hw0
 refine wp_range 143 #[] rfl (enters_of Tryz.func143 (by kernel_rfl) rfl) (fun fn rec hrec => ?_)
 refine (sizes1_any (W0.heap.size+1)
  (fun k W => Blk W w.heap.size 3 #[.int .i64 n]∧Blk W (w.heap.size+1) 3 #[.int .i64 65536]∧W.heap[W0.heap.size+1]?=some (.loop (rec .ready none))∧W.heap[W0.heap.size]?=some (.deferred (some []))∧Chg (fun _ => False) w W∧SB n k)
  (fun W => Blk W (w.heap.size+1) 3 #[.int .i64 (sizeFor n:Int)]∧W.heap[W0.heap.size+1]?=some (.loop (rec .done (some (.exit 0))))∧W.heap[W0.heap.size]?=some (.deferred (some []))∧Chg (fun _ => False) w W)
  ?_ _ ?_).mono ?_
 ·rintro d k W hkd hd2 hd16 ⟨hB1,hB2,hl,hD,hC,hS⟩
  have hb:=hS.lo
  have hle:k≤65536:=by
   have h4:(2:Nat) ^ d≤2 ^ 16:=pow_mono hd16
   omega
  clear hkd
  refine yield_body hrec hl rfl (fun K hK => by gi_wp2;exact hK) hl ?_
  clear hrec
  have g1:Blk (W.putObj (W0.heap.size+1) (Obj.loop (rec LoopState.busy none))) w.heap.size 3 #[.int .i64 n]:=hB1.putObj (by omega) _
  have g2:Blk (W.putObj (W0.heap.size+1) (Obj.loop (rec LoopState.busy none))) (w.heap.size+1) 3 #[.int .i64 65536]:=hB2.putObj (by omega) _
  have g3:(W.putObj (W0.heap.size+1) (Obj.loop (rec LoopState.busy none))).heap[W0.heap.size+1]?=some (.loop (rec .busy none)):=World.putObj_heap_same (Array.getElem?_eq_some_iff.1 hl).1
  have g4:(W.putObj (W0.heap.size+1) (Obj.loop (rec LoopState.busy none))).heap[W0.heap.size]?=some (.deferred (some [])):=(World.putObj_heap_other (by omega)).trans hD
  have g5:Chg (fun _ => False) w (W.putObj (W0.heap.size+1) (Obj.loop (rec LoopState.busy none))):=hC.putObj (by intro h;omega) _
  generalize W.putObj (W0.heap.size+1) (Obj.loop (rec LoopState.busy none))=W1 at g1 g2 g3 g4 g5 ⊢
  clear hB1 hB2 hl hD hC hb1 hb2 hc0
  have c1:=g1.cell 0
  have c2:=g2.cell 0
  have f2:=g2.frozen 0
  simp only [List.getElem?_toArray,List.getElem?_cons_zero] at c1 c2
  by_cases hn:n≤k
  ·have H:=Lib.hid (hS.yes hle hn)
   clear hS
   gi_wp2
   refine ⟨?_,.inr ⟨rfl,?_,?_,?_,?_⟩⟩
   ·exact (Below.heap_setCell _ _ _ _ (by simp;omega)).trans g3
   ·rw [H.out];exact (g2.set 0 _).putObj (by omega) _
   ·exact World.putObj_heap_same (by rw [World.size_setCell];exact (Array.getElem?_eq_some_iff.1 g3).1)
   ·exact (World.putObj_heap_other (by omega)).trans ((Below.heap_setCell _ _ _ _ (by simp;omega)).trans g4)
   ·exact (g5.setCell (by intro h;simp at h;omega) _).putObj (by intro h;omega) _
  ·have H:=Lib.hid (hS.next hle (by omega))
   clear hS
   gi_wp2
   refine ⟨g3,.inl ⟨rfl,g1.putObj (by omega) _,g2.putObj (by omega) _,World.putObj_heap_same (Array.getElem?_eq_some_iff.1 g3).1,(World.putObj_heap_other (by omega)).trans g4,g5.putObj (by intro h;omega) _,H.out⟩⟩
 ·refine ⟨(hb1.alloc _).alloc _,(hb2.alloc _).alloc _,?_,?_,(hc0.alloc _).alloc _,SB.start n⟩
  ·have:=World.alloc_heap_new (W0.alloc (.deferred (some []))) (.loop (rec .ready none))
   rwa [World.size_alloc] at this
  ·exact (Below.heap_alloc _ _ _ (by simp)).trans (World.alloc_heap_new _ _)
 ·rintro e W ⟨⟨v,rfl⟩,(⟨hB1,hB2,hl,hD,hC,hS⟩ | ⟨hB2,hl,hD,hC⟩)⟩
  ·have H:=hS.no (by omega)
   refine ⟨⟨_,rfl⟩,.inl ⟨hl,?_⟩⟩
   have g2:Blk (W.putObj (W0.heap.size+1) (Obj.loop (rec LoopState.exhausted none))) (w.heap.size+1) 3 #[.int .i64 65536]:=hB2.putObj (by omega) _
   have g4:(W.putObj (W0.heap.size+1) (Obj.loop (rec LoopState.exhausted none))).heap[W0.heap.size]?=some (.deferred (some [])):=(World.putObj_heap_other (by omega)).trans hD
   have g5:Chg (fun _ => False) w (W.putObj (W0.heap.size+1) (Obj.loop (rec LoopState.exhausted none))):=hC.putObj (by intro h;omega) _
   generalize W.putObj (W0.heap.size+1) (Obj.loop (rec LoopState.exhausted none))=W1 at g2 g4 g5 ⊢
   have c2:=g2.cell 0
   simp only [List.getElem?_toArray,List.getElem?_cons_zero] at c2
   rw [← H] at c2
   have H':=Lib.hid H
   clear H hS hl hD hC hB1 hB2 hb1 hb2 hc0 hrec
   go_wp2_with fail
   rw [Exit.noGoto_ret]
   exact bodyPostM_ret rfl g4 (results_tmp rfl _ _ _) ⟨rfl,g5.putObj (by intro h;omega) _⟩
  ·refine ⟨⟨_,rfl⟩,.inr ⟨.exit 0,hl,?_⟩⟩
   have g2:Blk (W.putObj (W0.heap.size+1) (Obj.loop (rec LoopState.exhausted (some (.exit 0))))) (w.heap.size+1) 3 #[.int .i64 (sizeFor n:Int)]:=hB2.putObj (by omega) _
   have g4:(W.putObj (W0.heap.size+1) (Obj.loop (rec LoopState.exhausted (some (.exit 0))))).heap[W0.heap.size]?=some (.deferred (some [])):=(World.putObj_heap_other (by omega)).trans hD
   have g5:Chg (fun _ => False) w (W.putObj (W0.heap.size+1) (Obj.loop (rec LoopState.exhausted (some (.exit 0))))):=hC.putObj (by intro h;omega) _
   generalize W.putObj (W0.heap.size+1) (Obj.loop (rec LoopState.exhausted (some (.exit 0))))=W1 at g2 g4 g5 ⊢
   have c2:=g2.cell 0
   simp only [List.getElem?_toArray,List.getElem?_cons_zero] at c2
   clear hl hD hC hB2 hb1 hb2 hc0 hrec
   go_wp2_with fail
   rw [Exit.noGoto_ret]
   exact bodyPostM_ret rfl g4 (results_tmp rfl _ _ _) ⟨rfl,g5.putObj (by intro h;omega) _⟩
set_option maxHeartbeats 400000 in
theorem each_any (s:ByteArray) (w:World):Calls Tryz.prog 141 #[.string s] w fun e w' => e=.returned (.func (.func 155) #[] #[.pointer (some ⟨w.heap.size,0,none⟩)])∧w.alloc (.cells #[.string s] 9)=w':=by
 go_enter Tryz.func141,Tryz.ntmps141
 go_wp2
 go_ret
 exact ⟨rfl,rfl⟩
theorem each1_any (l B:Nat) (s:ByteArray) (hs:s.size≤9223372036854775807) (J:Nat→World→Prop) (hJ:∀ k W,J k W→W.cell? ⟨B,0,none⟩=some (.string s))
  (hY:∀ (k:Nat) (W:World) (hk:k<s.size),J k W→YieldAt Fence.wide 2 Tryz.prog l #[.int .u32 (s[k].toNat:Int)] W fun e W' => e=.returned (.bool true)∧J (k+1) W')
  (W:World) (h0:J 0 W) :
  Calls Tryz.prog 155 #[.func (.yield l) #[] #[],.pointer (some ⟨B,0,none⟩)] W fun e W' => (∃ v,e=.returned v)∧J s.size W':=by
 have hc:=hJ _ _ h0
 refine (callsIn_wide (n:=3)).1 ?_
 refine callsIn_of_wp Tryz.func155 rfl trivial ?_ rfl
 simp only [Tryz.ntmps155,List.size_toArray,List.length_cons,List.length_nil,Nat.reduceAdd,Nat.reduceSub,Array.replicate_succ,Array.replicate_zero,List.push_toArray,List.append_toArray,List.nil_append,List.cons_append]
 gi_wp2
 clear hc
 gi_loopw [3,6] (fun _ p wr => ∃ (k:Nat),p=.int .i64 (k:Int)∧k≤s.size∧J k wr)
  (fun _ p wr => s.size - (intOf p).toNat)
 case atStart => exact ⟨0,rfl,Nat.zero_le _,h0⟩
 case round =>
  obtain ⟨k,rfl,hk,hJk⟩:=hrel
  have hc:=hJ _ _ hJk
  by_cases hlt:k<s.size
  ·obtain ⟨fn,tmps,assign,body,hy,hR⟩:=hY k wr hlt hJk
   have e:((s[k].toNat:Int) % 4294967296)=(s[k].toNat:Int):=by have:=s[k].toNat_lt;omega
   rw [← e] at hy
   clear e
   gi_wp2
   refine hR.mono ?_
   rintro e W3 ⟨rfl,hJ3⟩
   gi_wp2
   go_roundw
   case rel => exact ⟨k+1,by go_num,by omega,hJ3⟩
   case measure => simp [intOf];omega
  ·have hk':s.size≤k:=by omega
   gi_wp2
   go_end0
   exact ⟨⟨_,rfl⟩,by rw [show s.size=k by omega];exact hJk⟩
theorem mix_bits (h n:Nat) (hh:h<4294967296) (hn:n<4294967296):bits BinOp.xor IntKind.u32 (h:Int) (n:Int) * 16777619 % 4294967296=(((h ^^^ n) * 16777619 % 4294967296:Nat):Int):=by
 rw [u32_xor_nat _ _ hh hn];omega
set_option maxHeartbeats 400000 in
theorem mixed_one (h n:Nat) (b:Nat) (w:World) (hh:h<4294967296) (hn:n<4294967296) (hc:w.cell? ⟨b,0,none⟩=some (.int .u32 (n:Int))) :
  Calls Tryz.prog 142 #[.int .u32 (h:Int),.slice (some ⟨b,0,none⟩) 1 1] w fun e w' => e=.returned (.int .u32 (((h ^^^ n) * 16777619 % 4294967296:Nat):Int))∧w=w':=by
 have H:=Lib.hid (mix_bits h n hh hn)
 go_enter Tryz.func142,Tryz.ntmps142
 go_wp2
 refine wp_loop_rounds 2 ?_
 rw [rounds_succ]
 go_wp2
 rw [rounds_succ]
 go_wp2
 go_ret
 exact ⟨by rw [← H.out];rfl,rfl⟩
theorem sum_end_bits (h:Nat) (hh:h<4294967296) :
  bits BinOp.xor IntKind.u32 (bits BinOp.xor IntKind.u32 (h:Int) ((h:Int) / 32768) * 2246822519 % 4294967296) (bits BinOp.xor IntKind.u32 (h:Int) ((h:Int) / 32768) * 2246822519 % 4294967296 / 8192) =
   (endN (stirN h * 2246822519 % 4294967296):Int):=by
 have e1:(h:Int) / 32768=((h / 32768:Nat):Int):=rfl
 have e2:bits BinOp.xor IntKind.u32 (h:Int) ((h:Int) / 32768)=(stirN h:Int):=by rw [e1,u32_xor_nat _ _ hh (by omega)];rfl
 have e3:(stirN h:Int) * 2246822519 % 4294967296=((stirN h * 2246822519 % 4294967296:Nat):Int):=by omega
 rw [e2,e3]
 have hm:stirN h * 2246822519 % 4294967296<4294967296:=Nat.mod_lt _ (by omega)
 generalize stirN h * 2246822519 % 4294967296=m at hm ⊢
 have e4:(m:Int) / 8192=((m / 8192:Nat):Int):=rfl
 rw [e4,u32_xor_nat _ _ hm (by omega)];rfl
theorem take_snoc (s:ByteArray) (k:Nat) (h:k<s.size):s.data.toList.take (k+1)=s.data.toList.take k++[s[k]]:=by
 rw [List.take_succ_eq_append_getElem (by simpa using h)];rfl
theorem seed_bits (seed:Nat) (h:seed<4294967296):bits BinOp.xor IntKind.u32 (seed:Int) 2166136261=((seed ^^^ 2166136261:Nat):Int):=u32_xor_nat seed 2166136261 h (by omega)
set_option maxHeartbeats 400000 in
theorem sum_any (seed:Nat) (s:ByteArray) (w:World) (hseed:seed<4294967296) (hs:s.size≤9223372036854775807) :
  Calls Tryz.prog 132 #[.int .u32 (seed:Int),.string s] w fun e w' => e=.returned (.int .u32 (sumN seed s.data.toList:Int))∧Chg (fun _ => False) w w':=by
 have hx:Hid (bits BinOp.xor IntKind.u32 (seed:Int) 2166136261=((seed ^^^ 2166136261:Nat):Int)):=seed_bits seed hseed
 have hh0:seed ^^^ 2166136261<4294967296:=xor32 hseed (by omega)
 refine calls_of_wp_marks Tryz.func132 rfl ?_
 simp only [Tryz.ntmps132,List.size_toArray,List.length_cons,List.length_nil,Nat.reduceAdd,Nat.reduceSub,Array.replicate_succ,Array.replicate_zero,List.push_toArray,List.append_toArray,List.nil_append,List.cons_append]
 go_wp2_with (go_at_call 141;refine (each_any _ _).mono ?_;rintro e w' ⟨rfl,rfl⟩)
 rw [hx.out]
 clear hx
 generalize hh:seed ^^^ 2166136261=h0 at hh0 ⊢
 have HH:=Lib.hid hh
 clear hh
 have hb1:Blk ((w.alloc (Obj.cells #[Value.int IntKind.u32 (h0:Int)] 24)).alloc (Obj.cells #[Value.string s] 9)) w.heap.size 24 #[.int .u32 (h0:Int)]:=(Blk.new _ _ _).alloc _
 have hb2:Blk ((w.alloc (Obj.cells #[Value.int IntKind.u32 (h0:Int)] 24)).alloc (Obj.cells #[Value.string s] 9)) (w.heap.size+1) 9 #[.string s]:=by
  have:=Blk.new (w.alloc (Obj.cells #[Value.int IntKind.u32 (h0:Int)] 24)) 9 #[Value.string s]
  rwa [World.size_alloc] at this
 have hc0:Chg (fun _ => False) w ((w.alloc (Obj.cells #[Value.int IntKind.u32 (h0:Int)] 24)).alloc (Obj.cells #[Value.string s] 9)):=((Chg.refl _ _).alloc _).alloc _
 have hsz:((w.alloc (Obj.cells #[Value.int IntKind.u32 (h0:Int)] 24)).alloc (Obj.cells #[Value.string s] 9)).heap.size > w.heap.size+1:=by simp
 generalize hw0:(w.alloc (Obj.cells #[Value.int IntKind.u32 (h0:Int)] 24)).alloc (Obj.cells #[Value.string s] 9)=W0 at hb1 hb2 hc0 hsz ⊢
 clear hw0
 refine wp_range 155 #[.pointer (some ⟨w.heap.size+1,0,none⟩)] rfl (enters_of Tryz.func155 (by kernel_rfl) rfl) (fun fn rec hrec => ?_)
 refine (each1_any (W0.heap.size+1) (w.heap.size+1) s hs
  (fun k W => Blk W w.heap.size 24 #[.int .u32 (((s.data.toList.take k).foldl mixB h0:Nat):Int)]∧Blk W (w.heap.size+1) 9 #[.string s]∧W.heap[W0.heap.size+1]?=some (.loop (rec .ready none))∧W.heap[W0.heap.size]?=some (.deferred (some []))∧Chg (fun _ => False) w W)
  ?_ ?_ _ ?_).mono ?_
 ·rintro k W ⟨_,hB2,_⟩
  exact hB2.cell 0
 ·rintro k W hk ⟨hB1,hB2,hl,hD,hC⟩
  refine yield_body hrec hl rfl (fun K hK => by gi_wp2;exact hK) hl ?_
  have hfl:=fold_lt (s.data.toList.take k) h0 hh0
  have hst:Hid ((s.data.toList.take (k+1)).foldl mixB h0=mixB ((s.data.toList.take k).foldl mixB h0) s[k]):=by
   show _=_
   rw [take_snoc s k hk,List.foldl_append,List.foldl_cons,List.foldl_nil]
  have hbyte:s[k].toNat<4294967296:=by have:=s[k].toNat_lt;omega
  rw [show (fun e W' => e=Ending.returned (Value.bool true)∧Blk W' w.heap.size 24 #[.int .u32 (((s.data.toList.take (k+1)).foldl mixB h0:Nat):Int)]∧Blk W' (w.heap.size+1) 9 #[.string s]∧W'.heap[W0.heap.size+1]?=some (.loop (rec .ready none))∧W'.heap[W0.heap.size]?=some (.deferred (some []))∧Chg (fun _ => False) w W')=(fun e W' => e=Ending.returned (Value.bool true)∧Blk W' w.heap.size 24 #[.int .u32 ((mixB ((s.data.toList.take k).foldl mixB h0) s[k]:Nat):Int)]∧Blk W' (w.heap.size+1) 9 #[.string s]∧W'.heap[W0.heap.size+1]?=some (.loop (rec .ready none))∧W'.heap[W0.heap.size]?=some (.deferred (some []))∧Chg (fun _ => False) w W') by rw [hst.out]]
  clear hst
  generalize (s.data.toList.take k).foldl mixB h0=hk' at hfl hB1 ⊢
  unfold mixB
  generalize s[k].toNat=n at hbyte ⊢
  have g1:Blk (W.putObj (W0.heap.size+1) (Obj.loop (rec LoopState.busy none))) w.heap.size 24 #[.int .u32 (hk':Int)]:=hB1.putObj (by omega) _
  have g2:Blk (W.putObj (W0.heap.size+1) (Obj.loop (rec LoopState.busy none))) (w.heap.size+1) 9 #[.string s]:=hB2.putObj (by omega) _
  have g3:(W.putObj (W0.heap.size+1) (Obj.loop (rec LoopState.busy none))).heap[W0.heap.size+1]?=some (.loop (rec .busy none)):=World.putObj_heap_same (Array.getElem?_eq_some_iff.1 hl).1
  have g4:(W.putObj (W0.heap.size+1) (Obj.loop (rec LoopState.busy none))).heap[W0.heap.size]?=some (.deferred (some [])):=(World.putObj_heap_other (by omega)).trans hD
  have g5:Chg (fun _ => False) w (W.putObj (W0.heap.size+1) (Obj.loop (rec LoopState.busy none))):=hC.putObj (by intro h;omega) _
  generalize W.putObj (W0.heap.size+1) (Obj.loop (rec LoopState.busy none))=W1 at g1 g2 g3 g4 g5 ⊢
  clear hB1 hB2 hl hD hC hb1 hb2 hc0 hrec
  have c1:=g1.cell 0
  have f1:=g1.frozen 0
  simp only [List.getElem?_toArray,List.getElem?_cons_zero] at c1
  gi_wp2
  refine ⟨trivial,?_⟩
  have cn:(W1.alloc (Obj.cells #[Value.int IntKind.u32 (n:Int)] 24)).cell? ⟨W1.heap.size,0,none⟩=some (.int .u32 (n:Int)):=(Blk.new W1 24 #[Value.int IntKind.u32 (n:Int)]).cell 0
  refine (CallsIn.inRound _ (callsIn_wide.2 (mixed_one hk' n W1.heap.size _ hfl hbyte cn))).mono ?_
  rintro e w' ⟨rfl,rfl⟩
  have i1:=g1.alloc (Obj.cells #[Value.int IntKind.u32 (n:Int)] 24)
  have i2:=g2.alloc (Obj.cells #[Value.int IntKind.u32 (n:Int)] 24)
  have i3:=(Below.heap_alloc W1 (Obj.cells #[Value.int IntKind.u32 (n:Int)] 24) (W0.heap.size+1) (Array.getElem?_eq_some_iff.1 g3).1).trans g3
  have i4:=(Below.heap_alloc W1 (Obj.cells #[Value.int IntKind.u32 (n:Int)] 24) W0.heap.size (Array.getElem?_eq_some_iff.1 g4).1).trans g4
  have i5:=g5.alloc (Obj.cells #[Value.int IntKind.u32 (n:Int)] 24)
  generalize W1.alloc (Obj.cells #[Value.int IntKind.u32 (n:Int)] 24)=W2 at i1 i2 i3 i4 i5 ⊢
  clear cn g1 g2 g3 g4 g5 c1 f1
  have c1:=i1.cell 0
  have f1:=i1.frozen 0
  simp only [List.getElem?_toArray,List.getElem?_cons_zero] at c1
  gi_wp2
  refine ⟨?_,rfl,?_,?_,?_,?_,?_⟩
  ·exact (Below.heap_setCell _ _ _ _ (by simp;omega)).trans i3
  ·exact (i1.set 0 _).putObj (by omega) _
  ·exact (i2.far (by simp) _).putObj (by omega) _
  ·exact World.putObj_heap_same (by rw [World.size_setCell];exact (Array.getElem?_eq_some_iff.1 i3).1)
  ·exact (World.putObj_heap_other (by omega)).trans ((Below.heap_setCell _ _ _ _ (by simp;omega)).trans i4)
  ·exact (i5.setCell (by intro h;simp at h) _).putObj (by intro h;omega) _
 ·refine ⟨(hb1.alloc _).alloc _,(hb2.alloc _).alloc _,?_,?_,(hc0.alloc _).alloc _⟩
  ·have:=World.alloc_heap_new (W0.alloc (.deferred (some []))) (.loop (rec .ready none))
   rwa [World.size_alloc] at this
  ·exact (Below.heap_alloc _ _ _ (by simp)).trans (World.alloc_heap_new _ _)
 ·rintro e W ⟨⟨v,rfl⟩,hB1,hB2,hl,hD,hC⟩
  refine ⟨⟨_,rfl⟩,.inl ⟨hl,?_⟩⟩
  rw [List.take_of_length_le (by simp)] at hB1
  have hfl:=fold_lt s.data.toList h0 hh0
  have hfin:Hid (sumN seed s.data.toList=endN (stirN (s.data.toList.foldl mixB h0) * 2246822519 % 4294967296)):=by
   show _=_
   unfold sumN;rw [HH.out]
  have g1:Blk (W.putObj (W0.heap.size+1) (Obj.loop (rec LoopState.exhausted none))) w.heap.size 24 #[.int .u32 ((s.data.toList.foldl mixB h0:Nat):Int)]:=hB1.putObj (by omega) _
  have g4:(W.putObj (W0.heap.size+1) (Obj.loop (rec LoopState.exhausted none))).heap[W0.heap.size]?=some (.deferred (some [])):=(World.putObj_heap_other (by omega)).trans hD
  have g5:Chg (fun _ => False) w (W.putObj (W0.heap.size+1) (Obj.loop (rec LoopState.exhausted none))):=hC.putObj (by intro h;omega) _
  generalize W.putObj (W0.heap.size+1) (Obj.loop (rec LoopState.exhausted none))=W1 at g1 g4 g5 ⊢
  generalize s.data.toList.foldl mixB h0=hv at g1 hfin hfl
  have c1:=g1.cell 0
  have f1:=g1.frozen 0
  simp only [List.getElem?_toArray,List.getElem?_cons_zero] at c1
  clear hl hD hC hB1 hB2 hb1 hb2 hc0 hrec HH
  have hbits:=Lib.hid (sum_end_bits hv hfl)
  go_wp2_with fail
  refine bodyPostM_ret (D:=W0.heap.size) rfl ?_ (results_tmp rfl _ _ _) ⟨?_,?_⟩
  ·exact (Below.heap_setCell _ _ _ _ (by simp;omega)).trans ((Below.heap_setCell _ _ _ _ (by simp;omega)).trans g4)
  ·rw [hfin.out,← hbits.out];rfl
  ·refine Chg.putObj (Chg.setCell (Chg.setCell g5 ?_ _) ?_ _) ?_ _
   all_goals
    intro h
    try simp at h
    try omega
end Go.Proofs.YtehpmbmdadkhbaaGreatDoor

namespace Go.Proofs.YtehpmbmdadkhbaaGreatDoor.Dint64
open Go.RowKit Pal
theorem dm_cells {w:World} {d:Dm} (h:DmAt w d):w.cell? ⟨d.blk,0,none⟩=some (.int .u32 (d.seed:Int))∧w.cell? ⟨d.blk,1,none⟩=some (tbVal d.t0)∧w.cell? ⟨d.blk,2,none⟩=some (t1Val d.t1) ∧
  w.cell? ⟨d.blk,3,none⟩=some (.int .i64 (d.at_:Int))∧w.cell? ⟨d.blk,4,none⟩=some (.int .i64 (d.n:Int))∧(∀ i,w.frozen? ⟨d.blk,i,none⟩=false)∧d.blk<w.heap.size :=
 ⟨h.hd.cell 0,h.hd.cell 1,h.hd.cell 2,h.hd.cell 3,h.hd.cell 4,fun i => h.hd.frozen i,h.hd.lt⟩
set_option maxHeartbeats 400000 in
theorem len_any (d:Dm) (w:World) (h:DmAt w d) :
  Calls Tryz.prog 243 #[ptr d.blk] w fun e w' => e=.returned (.int .i64 (d.n:Int))∧w=w':=by
 obtain ⟨c0,c1,c2,c3,c4,hf,hlt⟩:=dm_cells h
 unfold ptr
 go_enter Tryz.func243,Tryz.ntmps243
 go_wp2
 go_ret
 exact ⟨rfl,rfl⟩
set_option maxHeartbeats 400000 in
theorem isMoving_any (d:Dm) (w:World) (h:DmAt w d) :
  Calls Tryz.prog 151 #[ptr d.blk] w fun e w' => e=.returned (.bool d.t1.isSome)∧w=w':=by
 obtain ⟨c0,c1,c2,c3,c4,hf,hlt⟩:=dm_cells h
 unfold ptr
 cases ht:d.t1 with
 | none =>
  rw [ht] at c2
  simp only [t1Val] at c2
  go_enter Tryz.func151,Tryz.ntmps151
  go_wp2
  go_ret
  exact ⟨rfl,rfl⟩
 | some t =>
  rw [ht] at c2
  simp only [t1Val,tbVal] at c2
  go_enter Tryz.func151,Tryz.ntmps151
  go_wp2
  go_ret
  exact ⟨rfl,rfl⟩
set_option maxHeartbeats 400000 in
theorem slot_any (t:Tb) (s k:Nat) (w:World) (hs:s<4294967296) (hk:t.len=2 ^ k) (hk16:k≤16) :
  Calls Tryz.prog 161 #[tbVal t,.int .u32 (s:Int)] w fun e w' => e=.returned (.int .i64 ((s % t.len:Nat):Int))∧w=w':=by
 unfold tbVal
 have H:=Lib.hid (slot_bits s k hs hk16)
 have hp:(2:Nat) ^ k≤2 ^ 16:=pow_mono hk16
 have h1:1≤2 ^ k:=Nat.one_le_two_pow
 have hq:s % 2 ^ k<2 ^ k:=Nat.mod_lt _ h1
 have hw:=Lib.hid (IntWalk.wrap64_in ((s % 2 ^ k:Nat):Int) ⟨by omega,by omega⟩)
 rw [hk]
 obtain ⟨n,hn⟩:∃ n:Nat,Hid (n=2 ^ k):=⟨_,rfl⟩
 have e:((2 ^ k:Nat):Int)=(n:Int):=by rw [hn.out]
 rw [e] at H
 rw [← hn.out] at hp h1 ⊢
 have hn1:1≤(n:Int):=by omega
 have hn2:(n:Int)≤65536:=by omega
 clear e hk hq
 rw [← hn.out] at hw H
 go_enter Tryz.func161,Tryz.ntmps161
 go_wp2
 go_ret
 refine ⟨?_,rfl⟩
 simp only [H.out,hw.out]
 rfl
set_option maxHeartbeats 400000 in
theorem of_any (d:Dm) (key:ByteArray) (w:World) (h:DmAt w d) (hs:d.seed<4294967296) (hk:key.size≤9223372036854775807) :
  Calls Tryz.prog 154 #[ptr d.blk,.string key] w fun e w' => e=.returned (.agg #[.int .u32 (sumN d.seed key.data.toList:Int),.string key])∧Chg (fun _ => False) w w':=by
 obtain ⟨c0,c1,c2,c3,c4,hf,hlt⟩:=dm_cells h
 unfold ptr
 go_enter Tryz.func154,Tryz.ntmps154
 go_wp2_with fail
 refine (sum_any _ _ _ hs hk).mono ?_;rintro e w1 ⟨rfl,hc⟩
 have hb:Blk w1 w.heap.size 135 #[.int .u32 0,.string ⟨#[]⟩]:=(Blk.new w 135 _).chg hc id
 have hc1:Chg (fun _ => False) w w1:=((Chg.refl _ w).alloc _).trans hc
 have e0:=hb.cell 0
 have e1:=hb.cell 1
 have f0:=hb.frozen 0
 have f1:=hb.frozen 1
 simp only [List.getElem?_toArray,List.getElem?_cons_zero,List.getElem?_cons_succ] at e0 e1
 have hlt1:=hb.lt
 clear c0 c1 c2 c3 c4 hf hc h
 obtain ⟨q,HQ⟩:∃ q,Hid (sumN d.seed key.data.toList=q):=⟨_,rfl⟩
 rw [HQ.out]
 go_wp2_with fail
 have hb2:=(hb.set 0 (.int .u32 (q:Int))).set 1 (.string key)
 have hc2:Chg (fun _ => False) w ((w1.setCell ⟨w.heap.size,0,none⟩ (.int .u32 (q:Int))).setCell ⟨w.heap.size,1,none⟩ (.string key)) :=
  (hc1.setCell (p:=⟨w.heap.size,0,none⟩) (fun h => Nat.lt_irrefl _ h) _).setCell (p:=⟨w.heap.size,1,none⟩) (fun h => Nat.lt_irrefl _ h) _
 generalize (w1.setCell ⟨w.heap.size,0,none⟩ (.int .u32 (q:Int))).setCell ⟨w.heap.size,1,none⟩ (.string key)=w2 at hb2 hc2 ⊢
 have g0:=hb2.cell 0
 have g1:=hb2.cell 1
 simp at g0 g1
 refine bodyPost_ret (v:=.agg #[.int .u32 (q:Int),.string key]) (by simp [results,Tryz.results154,go_sem,g0,g1]) rfl ⟨by rw [HQ.out],hc2⟩
theorem ptr_info:(Tryz.prog.info? 275).map (fun i => (i.zero,i.size,i.bytes))=some (some (.pointer none),1,8):=by kernel_rfl
theorem run_make_tab (n:Nat) (hn:n≤65536) (w:World) :
  (Instr.makeSlice 253 (.int .i64 (n:Int)) (.int .i64 (n:Int))).run Tryz.prog w=.ok (.slice (some ⟨w.heap.size,0,none⟩) n n) (w.alloc (.cells (tbCells ⟨0,List.replicate n []⟩) 275)):=by
 obtain ⟨i0,hi,hz0,hz1,hz2⟩:=info_parts ptr_info
 have hr:=run_make (P:=Tryz.prog) w 253 275 i0 (.pointer none) Tryz.underlying253 hi hz0 .i64 .i64 n n (by omega) (by omega) (by rw [hz2];omega) (by omega)
 simp only [Int.toNat_natCast] at hr
 have h:madeCells (Value.pointer none).cells (n * i0.size)=tbCells ⟨0,List.replicate n []⟩:=by
  rw [hz1,Nat.mul_one]
  apply Array.toList_inj.1
  simp [Value.cells,toList_madeCells_one,tbCells,hd]
 rw [hr,h]
theorem sizeFor_le (n:Int):sizeFor n≤65536:=by
 obtain ⟨k,h2,h16,hk,_,_⟩:=sizeFor_spec n
 rw [hk];exact pow_mono h16
set_option maxHeartbeats 400000 in
theorem moves_any (d:Dm) (n:Int) (w:World) (h:DmAt w d) (ht:d.t1=none) :
  Calls Tryz.prog 152 #[ptr d.blk,.int .i64 n] w fun e w' => (∃ v,e=.returned v)∧∃ b,w.heap.size≤b∧DmAt w' { d with t1:=some ⟨b,List.replicate (sizeFor n) []⟩ }∧Chg (fun g => g=d.blk) w w':=by
 obtain ⟨c0,c1,c2,c3,c4,hf,hlt⟩:=dm_cells h
 have hmk:=run_make_tab (sizeFor n) (sizeFor_le n)
 unfold ptr
 go_enter Tryz.func152,Tryz.ntmps152
 go_wp2_with fail
 go_region_with (go_at_call 109;refine (sizeFor_any _ _).mono ?_;rintro e w1 ⟨rfl,hc1⟩;have hw1:=h.chg0 ((Chg.refl _ w).drew.trans hc1);obtain ⟨k0,k1,k2,k3,k4,kf,klt⟩:=dm_cells hw1)
 go_end0
 have hC:Chg (fun _ => False) w w1:=(Chg.refl _ w).drew.trans hc1
 refine ⟨⟨_,rfl⟩,w1.heap.size,hC.size,?_,?_⟩
 ·have hs:Chg (fun g => g=d.blk) w1 ((w1.setCell { block:=d.blk,off:=2 } (Value.slice (some { block:=w1.heap.size,off:=0 }) (sizeFor n) (sizeFor n))).alloc (Obj.cells (tbCells { blk:=0,slots:=List.replicate (sizeFor n) [] }) 275)) :=
   ((Chg.refl (fun g => g=d.blk) w1).store rfl 2 _).alloc _
  have hb:=Blk.new (w1.setCell { block:=d.blk,off:=2 } (Value.slice (some { block:=w1.heap.size,off:=0 }) (sizeFor n) (sizeFor n))) 275 (tbCells { blk:=0,slots:=List.replicate (sizeFor n) [] })
  rw [World.size_setCell] at hb
  refine { hd:=?_,a0:=hw1.a0.chg hs hw1.t0_ne (fun x hx => (hw1.nd_ne (mem_nodes0 hx)).1),a1:=?_,ne:=?_,nodup:=?_ }
  ·have:=(hw1.hd.set 2 (.slice (some ⟨w1.heap.size,0,none⟩) (sizeFor n) (sizeFor n))).alloc (Obj.cells (tbCells { blk:=0,slots:=List.replicate (sizeFor n) [] }) 275)
   simpa [dmCells,t1Val,tbVal,Tb.len] using this
  ·rintro t ht
   injection ht with ht
   subst ht
   exact ⟨hb,fun c hc => by rw [List.eq_of_mem_replicate hc];trivial⟩
  ·rintro t ht
   injection ht with ht
   subst ht
   exact Nat.ne_of_lt hw1.a0.1.lt
  ·have e:({ d with t1:=some ⟨w1.heap.size,List.replicate (sizeFor n) []⟩ }:Dm).nodes=d.nodes:=by
    unfold Dm.nodes Dm.nodes1 Tb.nodes;rw [ht];simp
   rw [e];exact h.nodup
 ·exact (hC.mono (fun _ _ h => h.elim)).trans (((Chg.refl (fun g => g=d.blk) w1).store rfl 2 _).alloc _)
end Go.Proofs.YtehpmbmdadkhbaaGreatDoor.Dint64

namespace Go.Proofs.YtehpmbmdadkhbaaGreatDoor.Dint64
open Go.RowKit Pal
attribute [local go_sem] Oper.semAt_some
def newDm (b c seed:Nat):Dm:={ blk:=b,seed:=seed,t0:=⟨c,List.replicate 4 []⟩,t1:=none,at_:=0,n:=0 }
set_option maxHeartbeats 400000 in
theorem New_any (seed:Nat) (w:World) :
  Calls Tryz.prog 117 #[.int .u32 (seed:Int)] w fun e w' => ∃ b c,e=.returned (ptr b)∧DmAt w' (newDm b c seed)∧w.heap.size≤b∧w.heap.size≤c∧Chg (fun _ => False) w w':=by
 obtain ⟨tc,HT⟩:∃ tc,Hid (tbCells ⟨0,List.replicate 4 []⟩=tc):=⟨_,rfl⟩
 have hmk:∀ w,(Instr.makeSlice 253 (.int .i64 4) (.int .i64 4)).run Tryz.prog w=.ok (.slice (some ⟨w.heap.size,0,none⟩) 4 4) (w.alloc (.cells tc 275)):=by
  intro w;rw [← HT.out];exact run_make_tab 4 (by omega) w
 go_enter Tryz.func117,Tryz.ntmps117
 go_wp2
 go_ret
 have hb:=Blk.new (w.alloc (.cells tc 275)) 256 #[Value.int IntKind.u32 (seed:Int),Value.slice (some { block:=w.heap.size,off:=0 }) 4 4,Value.slice none 0 0,Value.int IntKind.i64 0,Value.int IntKind.i64 0]
 rw [World.size_alloc] at hb
 have ht:=(Blk.new w 275 tc).alloc (Obj.cells #[Value.int IntKind.u32 (seed:Int),Value.slice (some { block:=w.heap.size,off:=0 }) 4 4,Value.slice none 0 0,Value.int IntKind.i64 0,Value.int IntKind.i64 0] 256)
 rw [← HT.out] at ht hb ⊢
 refine ⟨w.heap.size+1,w.heap.size,rfl,{ hd:=hb,a0:=⟨ht,fun c hc => (by rw [List.eq_of_mem_replicate hc];trivial)⟩,a1:=fun t h => (by cases h),ne:=fun t h => (by cases h),nodup:=List.nodup_nil },Nat.le_succ _,Nat.le_refl _,((Chg.refl _ w).alloc _).alloc _⟩
set_option maxHeartbeats 400000 in
theorem chain_any (p:Option Addr) (w:World) :
  Calls Tryz.prog 160 #[.pointer p] w fun e w' => e=.returned (.func (.func 166) #[] #[ptr w.heap.size])∧w.alloc (.cells #[.pointer p] 275)=w':=by
 unfold ptr
 go_enter Tryz.func160,Tryz.ntmps160
 go_wp2
 go_ret
 exact ⟨rfl,rfl⟩
theorem chain1_any (l B:Nat) (J J2:Ch→World→Prop) (Jx:World→Prop)
  (hJ:∀ r W,J r W→W.cell? ⟨B,0,none⟩=some (hd r))
  (hY:∀ x r W,J (x :: r) W→W.cell? ⟨x.blk,3,none⟩=some (hd r)∧YieldAt Fence.wide 2 Tryz.prog l #[ptr x.blk] W fun e W' => (e=.returned (.bool true)∧J2 r W')∨(e=.returned (.bool false)∧Jx W'))
  (hS:∀ r W,J2 r W→(∃ v,W.cell? ⟨B,0,none⟩=some v)∧W.frozen? ⟨B,0,none⟩=false∧J r (W.setCell ⟨B,0,none⟩ (hd r)))
  (c:Ch) (W:World) (h0:J c W) :
  Calls Tryz.prog 166 #[.func (.yield l) #[] #[],ptr B] W fun e W' => (∃ v,e=.returned v)∧(J [] W'∨Jx W'):=by
 unfold ptr
 refine (callsIn_wide (n:=3)).1 ?_
 refine callsIn_of_wp Tryz.func166 rfl trivial ?_ rfl
 simp only [Tryz.ntmps166,List.size_toArray,List.length_cons,List.length_nil,Nat.reduceAdd,Nat.reduceSub,Array.replicate_succ,Array.replicate_zero,List.push_toArray,List.append_toArray,List.nil_append,List.cons_append]
 gi_wp2
 gi_loopw [3] (fun _ wr => ∃ n,∃ r:Ch,r.length=n∧J r wr) (fun _ wr => leastOf fun n => ∃ r:Ch,r.length=n∧J r wr)
 case atStart => exact ⟨_,c,rfl,h0⟩
 case round =>
  obtain ⟨⟨r,hr,hJr⟩,_⟩:=leastOf_spec hrel
  have HR:=Lib.hid hr
  clear hr hrel
  have hc:=hJ _ _ hJr
  cases r with
  | nil =>
   simp only [hd] at hc
   gi_wp2
   go_end0
   exact ⟨⟨_,rfl⟩,.inl hJr⟩
  | cons x r =>
   simp only [hd,ptr] at hc
   obtain ⟨hn,fn,tmps,assign,body,hy,hR⟩:=hY x r wr hJr
   unfold ptr at hy
   obtain ⟨q,hq⟩:∃ q,hd r=.pointer q:=by cases r <;> exact ⟨_,rfl⟩
   rw [hq] at hn
   have HQ:=Lib.hid hq
   clear hq
   gi_wp2
   refine hR.mono ?_
   rintro e W3 (⟨rfl,hJ3⟩ | ⟨rfl,hJx3⟩)
   ·obtain ⟨⟨v,hv⟩,hf,hJ4⟩:=hS r W3 hJ3
    rw [HQ.out] at hJ4
    gi_wp2
    go_roundw
    case rel => exact ⟨_,r,rfl,hJ4⟩
    case measure =>
     rw [← HR.out]
     exact Nat.lt_of_le_of_lt ((leastOf_spec ⟨_,r,rfl,hJ4⟩).2 _ ⟨r,rfl,hJ4⟩) (Nat.lt_succ_self _)
   ·gi_wp2
    refine bodyPost_ret (results_none rfl _ _ _) rfl ?_
    exact ⟨⟨_,rfl⟩,.inr hJx3⟩
end Go.Proofs.YtehpmbmdadkhbaaGreatDoor.Dint64

namespace Go.Proofs.YtehpmbmdadkhbaaGreatDoor.Dint64
open Go.RowKit Pal
def Tb.Sized (t:Tb):Prop:=∃ k,2≤k∧k≤16∧t.len=2 ^ k
theorem Tb.Sized.pos {t:Tb} (h:t.Sized):4≤t.len∧t.len≤65536:=by
 obtain ⟨k,h2,h16,e⟩:=h
 have h3:(2:Nat) ^ 2≤2 ^ k:=pow_mono h2
 have h4:(2:Nat) ^ k≤2 ^ 16:=pow_mono h16
 omega
theorem Tb.Sized.set {t:Tb} (h:t.Sized) (i:Nat) (c:Ch):(t.set i c).Sized:=by
 obtain ⟨k,h2,h16,e⟩:=h
 exact ⟨k,h2,h16,by rw [Tb.set_len];exact e⟩
def push (t:Tb) (x:Nd):Tb:=t.set (x.sum % t.len) (x :: t.at (x.sum % t.len))
theorem push_len (t:Tb) (x:Nd):(push t x).len=t.len:=Tb.set_len _ _ _
theorem push_blk (t:Tb) (x:Nd):(push t x).blk=t.blk:=rfl
theorem push_sized {t:Tb} (h:t.Sized) (x:Nd):(push t x).Sized:=h.set _ _
theorem fold_len:∀ (c:Ch) (t:Tb),(c.foldl push t).len=t.len
 | [],_ => rfl
 | x :: c,t => (fold_len c (push t x)).trans (push_len t x)
theorem fold_blk:∀ (c:Ch) (t:Tb),(c.foldl push t).blk=t.blk
 | [],_ => rfl
 | x :: c,t => (fold_blk c (push t x)).trans (push_blk t x)
theorem fold_sized:∀ (c:Ch) {t:Tb},t.Sized→(c.foldl push t).Sized
 | [],_,h => h
 | x :: c,_,h => fold_sized c (push_sized h x)
theorem flatten_set_perm {α:Type}:∀ (l:List (List α)) (i:Nat) (c:List α),i<l.length→((l.set i c).flatten++l.getD i []).Perm (l.flatten++c)
 | [],_,_,h => by cases h
 | a :: l,0,c,_ => by
  simp only [List.set_cons_zero,List.flatten_cons,List.getD_cons_zero,List.append_assoc]
  exact (List.perm_append_comm).trans ((List.perm_append_comm.append_right c).trans (by rw [List.append_assoc]))
 | a :: l,i+1,c,h => by
  simp only [List.set_cons_succ,List.flatten_cons,List.getD_cons_succ,List.append_assoc]
  exact List.Perm.append_left a (flatten_set_perm l i c (by simpa using h))
theorem nodes_set_perm (t:Tb) {i:Nat} (h:i<t.len) (c:Ch):((t.set i c).nodes++t.at i).Perm (t.nodes++c):=flatten_set_perm t.slots i c h
theorem nodes_push_perm {t:Tb} (h:0<t.len) (x:Nd):(push t x).nodes.Perm (x :: t.nodes):=by
 have:=nodes_set_perm t (Nat.mod_lt x.sum h) (x :: t.at (x.sum % t.len))
 have h2:(t.nodes++x :: t.at (x.sum % t.len)).Perm ((x :: t.nodes)++t.at (x.sum % t.len)):=by
  exact List.perm_middle (a:=x) (l₁:=t.nodes) (l₂:=t.at (x.sum % t.len))
 exact (List.perm_append_right_iff _).1 (this.trans h2)
theorem fold_push_perm:∀ (c:Ch) {t:Tb},0<t.len→(c.foldl push t).nodes.Perm (c++t.nodes)
 | [],_,_ => List.Perm.refl _
 | x :: c,t,h => by
  have h1:=fold_push_perm c (t:=push t x) (by rw [push_len];exact h)
  have h2:=List.Perm.append_left c (nodes_push_perm h x)
  exact (h1.trans h2).trans (List.perm_middle (a:=x) (l₁:=c) (l₂:=t.nodes))
def moveSlot (d:Dm):Dm :=
 match d.t1 with
 | none => d
 | some t =>
  if d.at_+1=d.t0.len then { d with t0:=(d.t0.at d.at_).foldl push t,t1:=none,at_:=0 }
  else { d with t0:=d.t0.set d.at_ [],t1:=some ((d.t0.at d.at_).foldl push t),at_:=d.at_+1 }
def moveN (d:Dm):Nat→Dm
 | 0 => d
 | k+1 => moveSlot (moveN d k)
def stepK (d:Dm) (n:Int):Nat:=if d.t1.isSome then min n.toNat (d.t0.len - d.at_) else 0
def stepD (d:Dm) (n:Int):Dm:=moveN d (stepK d n)
structure Dm.Ok (d:Dm):Prop where
 seed:d.seed<4294967296
 s0:d.t0.Sized
 s1:∀ t,d.t1=some t→t.Sized
 in0:∀ i x,i<d.t0.len→x∈d.t0.at i→x.sum % d.t0.len=i
 in1:∀ t,d.t1=some t→∀ i x,i<t.len→x∈t.at i→x.sum % t.len=i
 sums:∀ x∈d.nodes,x.sum=sumN d.seed x.key.data.toList
 keys:(d.nodes.map (·.key)).Nodup
 vok:∀ x∈d.nodes,VOk x.v
 count:d.n=d.nodes.length
 atlt:∀ t,d.t1=some t→d.at_<d.t0.len
 at0:d.t1=none→d.at_=0
 moved:∀ i,i<d.at_→d.t0.at i=[]
theorem Dm.Ok.sum_lt {d:Dm} (h:d.Ok) {x:Nd} (hx:x∈d.nodes):x.sum<4294967296:=by rw [h.sums x hx];exact sumN_lt _ _
theorem in_push {t:Tb} (h0:0<t.len) (h:∀ i x,i<t.len→x∈t.at i→x.sum % t.len=i) (x:Nd):∀ i y,i<(push t x).len→y∈(push t x).at i→y.sum % (push t x).len=i:=by
 intro i y hi hy
 rw [push_len] at hi ⊢
 unfold push at hy
 rw [Tb.set_at (Nat.mod_lt _ h0)] at hy
 split at hy
 ·rename_i e
  rcases List.mem_cons.1 hy with rfl | hy
  ·exact e
  ·rw [← e];exact h _ _ (Nat.mod_lt _ h0) hy
 ·exact h i y hi hy
theorem in_fold:∀ (c:Ch) {t:Tb},0<t.len→(∀ i x,i<t.len→x∈t.at i→x.sum % t.len=i)→∀ i y,i<(c.foldl push t).len→y∈(c.foldl push t).at i→y.sum % (c.foldl push t).len=i
 | [],_,_,h => h
 | x :: c,t,h0,h => in_fold c (t:=push t x) (by rw [push_len];exact h0) (in_push h0 h x)
theorem moveSlot_perm {d:Dm} (h:d.Ok):(moveSlot d).nodes.Perm d.nodes:=by
 unfold moveSlot
 split
 ·exact List.Perm.refl _
 ·rename_i t ht
  have hlt:=h.atlt t ht
  have hp:=fold_push_perm (d.t0.at d.at_) (t:=t) (by have:=(h.s1 t ht).pos;omega)
  have hs:=nodes_set_perm d.t0 hlt []
  rw [List.append_nil] at hs
  split
  ·rename_i hl
   have e:(d.t0.set d.at_ []).nodes=[]:=by
    rw [List.eq_nil_iff_forall_not_mem]
    intro x hx
    obtain ⟨i,hi,hxi⟩:=mem_nodes.1 hx
    rw [Tb.set_len] at hi
    rw [Tb.set_at hlt] at hxi
    split at hxi
    ·cases hxi
    ·rw [h.moved i (by omega)] at hxi;cases hxi
   rw [e,List.nil_append] at hs
   have e2:(({ d with t0:=(d.t0.at d.at_).foldl push t,t1:=none,at_:=0 }:Dm)).nodes=((d.t0.at d.at_).foldl push t).nodes:=by
    unfold Dm.nodes Dm.nodes1;simp
   rw [e2]
   refine hp.trans ?_
   unfold Dm.nodes Dm.nodes1
   rw [ht]
   exact hs.append_right _
  ·have e2:(({ d with t0:=d.t0.set d.at_ [],t1:=some ((d.t0.at d.at_).foldl push t),at_:=d.at_+1 }:Dm)).nodes=(d.t0.set d.at_ []).nodes++((d.t0.at d.at_).foldl push t).nodes:=rfl
   rw [e2]
   refine (List.Perm.append_left _ hp).trans ?_
   rw [← List.append_assoc]
   unfold Dm.nodes Dm.nodes1
   rw [ht]
   exact hs.append_right _
theorem moveSlot_ok {d:Dm} (h:d.Ok):(moveSlot d).Ok:=by
 have hp:=moveSlot_perm h
 have hseed:(moveSlot d).seed=d.seed:=by
   unfold moveSlot;split <;> try rfl
   split <;> rfl
 have hn:(moveSlot d).n=d.n:=by
   unfold moveSlot;split <;> try rfl
   split <;> rfl
 have hsums:∀ x∈(moveSlot d).nodes,x.sum=sumN (moveSlot d).seed x.key.data.toList:=fun x hx => by rw [hseed];exact h.sums x (hp.mem_iff.1 hx)
 have hkeys:((moveSlot d).nodes.map (·.key)).Nodup:=(hp.map _).nodup_iff.2 h.keys
 have hvok:∀ x∈(moveSlot d).nodes,VOk x.v:=fun x hx => h.vok x (hp.mem_iff.1 hx)
 have hcount:(moveSlot d).n=(moveSlot d).nodes.length:=by rw [hn,hp.length_eq];exact h.count
 cases ht:d.t1 with
 | none =>
  have:moveSlot d=d:=by unfold moveSlot;rw [ht]
  rw [this];exact h
 | some t =>
  have hlt:=h.atlt t ht
  have hpos:0<t.len:=by have:=(h.s1 t ht).pos;omega
  have hfs:=fold_sized (d.t0.at d.at_) (h.s1 t ht)
  have hfi:=in_fold (d.t0.at d.at_) hpos (h.in1 t ht)
  by_cases hl:d.at_+1=d.t0.len
  ·have e:moveSlot d={ d with t0:=(d.t0.at d.at_).foldl push t,t1:=none,at_:=0 }:=by unfold moveSlot;rw [ht];simp [hl]
   rw [e] at hsums hkeys hcount hvok ⊢
   exact { seed:=h.seed,s0:=hfs,s1:=fun _ h => (by cases h),in0:=hfi,in1:=fun _ h => (by cases h),sums:=hsums,keys:=hkeys,vok:=hvok,count:=hcount,atlt:=fun _ h => (by cases h),at0:=fun _ => rfl,moved:=fun i hi => (by cases hi) }
  ·have e:moveSlot d={ d with t0:=d.t0.set d.at_ [],t1:=some ((d.t0.at d.at_).foldl push t),at_:=d.at_+1 }:=by unfold moveSlot;rw [ht];simp [hl]
   rw [e] at hsums hkeys hcount hvok ⊢
   refine { seed:=h.seed,s0:=h.s0.set _ _,s1:=?_,in0:=?_,in1:=?_,sums:=hsums,keys:=hkeys,vok:=hvok,count:=hcount,atlt:=?_,at0:=fun h => (by cases h),moved:=?_ }
   ·intro t' ht';injection ht' with ht';subst ht';exact hfs
   ·intro i x hi hx
    show x.sum % (d.t0.set d.at_ []).len=i
    rw [Tb.set_len]
    have hi':i<d.t0.len:=by have:=Tb.set_len d.t0 d.at_ [];simp only [] at hi;omega
    have hx':x∈(d.t0.set d.at_ []).at i:=hx
    rw [Tb.set_at hlt] at hx'
    split at hx'
    ·cases hx'
    ·exact h.in0 i x hi' hx'
   ·intro t' ht';injection ht' with ht';subst ht';exact hfi
   ·intro t' _
    show d.at_+1<(d.t0.set d.at_ []).len
    rw [Tb.set_len];omega
   ·intro i hi
    show (d.t0.set d.at_ []).at i=[]
    have hi:i<d.at_+1:=hi
    rw [Tb.set_at hlt]
    split
    ·rfl
    ·exact h.moved i (by omega)
theorem moveN_ok {d:Dm} (h:d.Ok):∀ k,(moveN d k).Ok
 | 0 => h
 | k+1 => moveSlot_ok (moveN_ok h k)
theorem moveN_perm {d:Dm} (h:d.Ok):∀ k,(moveN d k).nodes.Perm d.nodes
 | 0 => List.Perm.refl _
 | k+1 => (moveSlot_perm (moveN_ok h k)).trans (moveN_perm h k)
theorem moveSlot_blk (d:Dm):(moveSlot d).blk=d.blk∧(moveSlot d).seed=d.seed∧(moveSlot d).n=d.n:=by
 unfold moveSlot;split
 ·exact ⟨rfl,rfl,rfl⟩
 ·split <;> exact ⟨rfl,rfl,rfl⟩
theorem moveN_blk (d:Dm):∀ k,(moveN d k).blk=d.blk∧(moveN d k).seed=d.seed∧(moveN d k).n=d.n
 | 0 => ⟨rfl,rfl,rfl⟩
 | k+1 => by
  obtain ⟨h1,h2,h3⟩:=moveSlot_blk (moveN d k)
  obtain ⟨g1,g2,g3⟩:=moveN_blk d k
  exact ⟨h1.trans g1,h2.trans g2,h3.trans g3⟩
theorem moveSlot_foot {d:Dm} (h:d.Ok) {g:Nat} (hg:(moveSlot d).foot g):d.foot g:=by
 have hp:=moveSlot_perm h
 have hb:=(moveSlot_blk d).1
 have hnd:∀ x,x∈(moveSlot d).nodes→x∈d.nodes:=fun x hx => hp.mem_iff.1 hx
 rcases hg with rfl | rfl | ⟨t,ht,rfl⟩ | ⟨x,hx,rfl⟩
 ·exact .inl hb
 ·unfold moveSlot
  split
  ·exact .inr (.inl rfl)
  ·rename_i t ht
   split
   ·exact .inr (.inr (.inl ⟨t,ht,fold_blk _ _⟩))
   ·exact .inr (.inl rfl)
 ·unfold moveSlot at ht
  split at ht
  ·exact .inr (.inr (.inl ⟨t,ht,rfl⟩))
  ·rename_i t' ht'
   split at ht
   ·cases ht
   ·injection ht with ht
    rw [← ht]
    exact .inr (.inr (.inl ⟨t',ht',fold_blk _ _⟩))
 ·exact .inr (.inr (.inr ⟨x,hnd x hx,rfl⟩))
theorem moveN_foot {d:Dm} (h:d.Ok):∀ (k:Nat) {g:Nat},(moveN d k).foot g→d.foot g
 | 0,_,hg => hg
 | k+1,_,hg => moveN_foot h k (moveSlot_foot (moveN_ok h k) hg)
theorem moveN_at {d:Dm} {t:Tb} (h:d.Ok) (ht:d.t1=some t):∀ k,d.at_+k<d.t0.len→((moveN d k).t1.isSome=true∧(moveN d k).at_=d.at_+k∧(moveN d k).t0.len=d.t0.len)
 | 0,_ => ⟨by simp [moveN,ht],rfl,rfl⟩
 | k+1,hk => by
  obtain ⟨h1,h2,h3⟩:=moveN_at h ht k (by omega)
  obtain ⟨t',ht'⟩:=Option.isSome_iff_exists.1 h1
  have hne:¬ (moveN d k).at_+1=(moveN d k).t0.len:=by omega
  have e:moveN d (k+1)={ moveN d k with t0:=(moveN d k).t0.set (moveN d k).at_ [],t1:=some (((moveN d k).t0.at (moveN d k).at_).foldl push t'),at_:=(moveN d k).at_+1 }:=by
   show moveSlot (moveN d k)=_
   unfold moveSlot;rw [ht'];simp [hne]
  rw [e]
  refine ⟨rfl,?_,?_⟩
  ·show (moveN d k).at_+1=d.at_+(k+1);omega
  ·show ((moveN d k).t0.set _ _).len=_;rw [Tb.set_len];exact h3
theorem moveN_all {d:Dm} {t:Tb} (h:d.Ok) (ht:d.t1=some t):(moveN d (d.t0.len - d.at_)).t1=none∧(moveN d (d.t0.len - d.at_)).t0.len=t.len:=by
 have hlt:=h.atlt t ht
 obtain ⟨k,hk⟩:∃ k,d.t0.len - d.at_=k+1:=⟨d.t0.len - d.at_ - 1,by omega⟩
 rw [hk]
 obtain ⟨h1,h2,h3⟩:=moveN_at h ht k (by omega)
 obtain ⟨t',ht'⟩:=Option.isSome_iff_exists.1 h1
 have hl:(moveN d k).at_+1=(moveN d k).t0.len:=by omega
 have e:moveN d (k+1)={ moveN d k with t0:=((moveN d k).t0.at (moveN d k).at_).foldl push t',t1:=none,at_:=0 }:=by
  show moveSlot (moveN d k)=_
  unfold moveSlot;rw [ht'];simp [hl]
 rw [e]
 refine ⟨rfl,?_⟩
 show (List.foldl push t' _).len=t.len
 rw [fold_len]
 have key:∀ j,d.at_+j<d.t0.len→∀ t'',(moveN d j).t1=some t''→t''.len=t.len:=by
  intro j
  induction j with
  | zero => intro _ t'' h'';have h'':d.t1=some t'':=h'';rw [ht] at h'';injection h'' with h'';rw [h'']
  | succ j ih =>
   intro hj t'' h''
   obtain ⟨g1,g2,g3⟩:=moveN_at h ht j (by omega)
   obtain ⟨u,hu⟩:=Option.isSome_iff_exists.1 g1
   have hne:¬ (moveN d j).at_+1=(moveN d j).t0.len:=by omega
   have e:moveN d (j+1)={ moveN d j with t0:=(moveN d j).t0.set (moveN d j).at_ [],t1:=some (((moveN d j).t0.at (moveN d j).at_).foldl push u),at_:=(moveN d j).at_+1 }:=by
    show moveSlot (moveN d j)=_
    unfold moveSlot;rw [hu];simp [hne]
   rw [e] at h''
   injection h'' with h''
   rw [← h'',fold_len]
   exact ih (by omega) u hu
 exact key k (by omega) t' ht'
end Go.Proofs.YtehpmbmdadkhbaaGreatDoor.Dint64

namespace Go.Proofs.YtehpmbmdadkhbaaGreatDoor.Dint64
open Go.RowKit Pal
attribute [local go_sem] Oper.semAt_some
set_option maxHeartbeats 400000 in
theorem put_any (t:Tb) (x:Nd) (nx:Value) (b:Nat) (w:World) (hz:t.Sized) (hs:x.sum<4294967296) (hT:Blk w t.blk 275 (tbCells t)) (hX:Blk w x.blk 277 (ndCells x nx))
  (hB:w.cell? ⟨b,0,none⟩=some (ptr x.blk)) :
  Calls Tryz.prog 153 #[tbVal t,.slice (some ⟨b,0,none⟩) 1 1] w fun e w' => (∃ v,e=.returned v) ∧
   (w.setCell ⟨x.blk,3,none⟩ (hd (t.at (x.sum % t.len)))).setCell ⟨t.blk,x.sum % t.len,none⟩ (ptr x.blk)=w':=by
 have hpos:=hz.pos
 obtain ⟨k,h2,h16,hk⟩:=hz
 have hi:x.sum % t.len<t.len:=Nat.mod_lt _ (by omega)
 have hc:=hT.cell (x.sum % t.len)
 rw [tbCells_get hi] at hc
 have hfT:=hT.frozen (x.sum % t.len)
 have hx0:=hX.cell 0
 have hx3:=hX.cell 3
 have hfX:=hX.frozen 3
 simp only [ndCells,List.getElem?_toArray,List.getElem?_cons_zero,List.getElem?_cons_succ] at hx0 hx3
 have hne:x.blk≠t.blk:=hX.ne_type hT (by decide)
 obtain ⟨q,hq⟩:∃ q,hd (t.at (x.sum % t.len))=.pointer q:=by cases t.at (x.sum % t.len) <;> exact ⟨_,rfl⟩
 rw [hq] at hc ⊢
 have HK:=Lib.hid hk
 have hlt:t.len≤9223372036854775807:=by omega
 have hne':(t.blk=x.blk)=False:=by simp only [eq_iff_iff,iff_false];exact fun h => hne h.symm
 obtain ⟨i,HI⟩:∃ i,Hid (x.sum % t.len=i):=⟨_,rfl⟩
 have hsl:∀ w,Calls Tryz.prog 161 #[tbVal t,.int .u32 (x.sum:Int)] w fun e w' => e=.returned (.int .i64 (i:Int))∧w=w':=fun w => by
  rw [← HI.out];exact slot_any t x.sum k w hs HK.out h16
 rw [HI.out] at hc hfT hi ⊢
 clear hq hk hX hT
 unfold ptr tbVal at *
 go_enter Tryz.func153,Tryz.ntmps153
 go_wp2
 refine wp_loop_rounds 2 ?_
 rw [rounds_succ]
 go_wp2_with (go_at_call 161;refine (hsl _).mono ?_;rintro e w' ⟨rfl,rfl⟩)
 rw [rounds_succ]
 go_wp2
 go_end0
 exact ⟨⟨_,rfl⟩,rfl⟩
end Go.Proofs.YtehpmbmdadkhbaaGreatDoor.Dint64

namespace Go.Proofs.YtehpmbmdadkhbaaGreatDoor.Dint64
open Go.RowKit Pal
structure Dis (e:Dm) (t:Tb) (c:Ch):Prop where
 d0:∀ x∈c,∀ y∈(e.t0.set e.at_ []).nodes,y.blk≠x.blk
 d1:∀ x∈c,∀ y∈t.nodes,y.blk≠x.blk
 nod:(c.map (·.blk)).Nodup
theorem DmAt.dis {w:World} {e:Dm} (h:DmAt w e) (hok:e.Ok) {t:Tb} (ht:e.t1=some t):Dis e t (e.t0.at e.at_):=by
 have hlt:=hok.atlt t ht
 have hp:=nodes_set_perm e.t0 hlt []
 rw [List.append_nil] at hp
 have hn:=h.nodup
 unfold Dm.nodes Dm.nodes1 at hn
 rw [ht] at hn
 have hn2:(((e.t0.set e.at_ []).nodes++e.t0.at e.at_++t.nodes).map (·.blk)).Nodup:=((hp.append_right t.nodes).map _).nodup_iff.2 hn
 rw [List.map_append,List.map_append,List.nodup_append] at hn2
 obtain ⟨h12,h3,hd⟩:=hn2
 rw [List.nodup_append] at h12
 obtain ⟨h1,h2,hd2⟩:=h12
 refine ⟨fun x hx y hy => ?_,fun x hx y hy => ?_,h2⟩
 ·exact hd2 _ (List.mem_map.2 ⟨y,hy,rfl⟩) _ (List.mem_map.2 ⟨x,hx,rfl⟩)
 ·exact fun e' => hd _ (List.mem_append.2 (.inr (List.mem_map.2 ⟨x,hx,rfl⟩))) _ (List.mem_map.2 ⟨y,hy,rfl⟩) e'.symm
structure Mid (e:Dm) (t':Tb) (W:World):Prop where
 hd:Blk W e.blk 256 (dmCells e)
 tb0:Blk W e.t0.blk 275 (tbCells e.t0)
 oth:∀ i,i<e.t0.len→i≠e.at_→chAt W (e.t0.at i)
 t1:tbAt W t'
 ne:e.t0.blk≠t'.blk
theorem DmAt.mid {w:World} {e:Dm} (h:DmAt w e) {t:Tb} (ht:e.t1=some t):Mid e t w :=
 ⟨h.hd,h.a0.1,fun _ hi _ => h.a0.2 _ (Tb.at_mem hi),h.a1 t ht,h.ne t ht⟩
theorem Mid.keep {e:Dm} {t':Tb} {w w':World} (h:Mid e t' w) (k:KeepC w w'):Mid e t' w' :=
 ⟨h.hd.keep k,h.tb0.keep k,fun i hi hne => (h.oth i hi hne).keep k,h.t1.keep k,h.ne⟩
theorem mem_set_nodes {t:Tb} {i:Nat} (hi:i<t.len) {j:Nat} (hj:j<t.len) (hne:j≠i) {x:Nd} (hx:x∈t.at j):x∈(t.set i []).nodes :=
 mem_nodes.2 ⟨j,by rw [Tb.set_len];exact hj,by rw [Tb.set_at hi,if_neg (fun h => hne h.symm)];exact hx⟩
theorem mid_put {e:Dm} {t t':Tb} {W:World} {x:Nd} {r:Ch} (h:Mid e t' W) (hlt:e.at_<e.t0.len) (hpos:0<t'.len) (hx:Blk W x.blk 277 (ndCells x (hd r))) (hr:chAt W r)
  (hd0:∀ y∈(e.t0.set e.at_ []).nodes,y.blk≠x.blk) (hd1:∀ y∈t'.nodes,y.blk≠x.blk) (hdr:∀ y∈r,y.blk≠x.blk) :
  ∀ W',(W.setCell ⟨x.blk,3,none⟩ (hd (t'.at (x.sum % t'.len)))).setCell ⟨t'.blk,x.sum % t'.len,none⟩ (ptr x.blk)=W' →
   Mid e (push t' x) W'∧chAt W' r∧Chg (fun g => g=x.blk∨g=t'.blk) W W':=by
 rintro W' rfl
 have hi:x.sum % t'.len<t'.len:=Nat.mod_lt _ hpos
 have hC:Chg (fun g => g=x.blk∨g=t'.blk) W ((W.setCell ⟨x.blk,3,none⟩ (hd (t'.at (x.sum % t'.len)))).setCell ⟨t'.blk,x.sum % t'.len,none⟩ (ptr x.blk)) :=
  ((Chg.refl _ W).store (.inl rfl) 3 _).store (.inr rfl) _ _
 have hxt:x.blk≠t'.blk:=hx.ne_type h.t1.1 (by decide)
 have hnt:∀ y∈t'.nodes,y.blk≠t'.blk:=fun y hy => by obtain ⟨nx,hb⟩:=h.t1.node hy;exact hb.ne_type h.t1.1 (by decide)
 have hsl:∀ y∈t'.at (x.sum % t'.len),y∈t'.nodes:=fun y hy => mem_nodes.2 ⟨_,hi,hy⟩
 have hch:∀ c:Ch,chAt W c→(∀ y∈c,y.blk≠x.blk)→chAt ((W.setCell ⟨x.blk,3,none⟩ (hd (t'.at (x.sum % t'.len)))).setCell ⟨t'.blk,x.sum % t'.len,none⟩ (ptr x.blk)) c:=fun c hc hne => by
  refine hc.chg hC fun y hy hS => ?_
  rcases hS with hS | hS
  ·exact hne y hy hS
  ·-- a node's block is no table's
   obtain ⟨pre,post,rfl⟩:=List.append_of_mem hy
   exact (hc.node rfl).ne_type h.t1.1 (by decide) hS
 refine ⟨⟨?_,?_,?_,⟨?_,?_⟩,h.ne⟩,hch r hr hdr,hC⟩
 ·exact h.hd.chg hC (by rintro (e' | e');exact hx.ne_type h.hd (by decide) e'.symm;exact h.t1.1.ne_type h.hd (by decide) e'.symm)
 ·exact h.tb0.chg hC (by rintro (e' | e');exact hx.ne_type h.tb0 (by decide) e'.symm;exact h.ne e')
 ·exact fun i hi' hne => hch _ (h.oth i hi' hne) fun y hy => hd0 y (mem_set_nodes hlt hi' hne hy)
 ·have hb:=(h.t1.1.far (p:=⟨x.blk,3,none⟩) (fun e' => hxt e'.symm) (hd (t'.at (x.sum % t'.len)))).set (x.sum % t'.len) (ptr x.blk)
  have e1:tbCells (push t' x)=(tbCells t').setIfInBounds (x.sum % t'.len) (ptr x.blk):=tbCells_set _ _ _
  rw [e1];exact hb
 ·intro c hc
  have hc':c∈t'.slots.set (x.sum % t'.len) (x :: t'.at (x.sum % t'.len)):=hc
  rcases List.mem_or_eq_of_mem_set hc' with hc | rfl
  ·exact hch c (h.t1.2 c hc) fun y hy => hd1 y (List.mem_flatten.2 ⟨c,hc,hy⟩)
  ·refine ⟨?_,hch _ (h.t1.2 _ (Tb.at_mem hi)) fun y hy => hd1 y (hsl y hy)⟩
   have hb:=(hx.set 3 (hd (t'.at (x.sum % t'.len)))).far (p:=⟨t'.blk,x.sum % t'.len,none⟩) hxt (ptr x.blk)
   have e1:(ndCells x (hd r)).setIfInBounds 3 (hd (t'.at (x.sum % t'.len)))=ndCells x (hd (t'.at (x.sum % t'.len))):=rfl
   rw [e1] at hb
   exact hb
theorem mid_next {e:Dm} {t t':Tb} {W W':World} (h:Mid e t' W) (hok:e.Ok) (ht:e.t1=some t) (ht':t'=(e.t0.at e.at_).foldl push t) (hnl:e.at_+1≠e.t0.len) (hnd:(e.nodes.map (·.blk)).Nodup)
  (hc:Chg (fun g => g=e.blk∨g=e.t0.blk) W W') (h1:Blk W' e.blk 256 ((dmCells e).setIfInBounds 3 (.int .i64 ((e.at_+1:Nat):Int)))) (h2:Blk W' e.t0.blk 275 ((tbCells e.t0).setIfInBounds e.at_ (.pointer none))) :
  DmAt W' (moveSlot e):=by
 have hlt:=hok.atlt t ht
 have hp:=moveSlot_perm hok
 have em:moveSlot e={ e with t0:=e.t0.set e.at_ [],t1:=some t',at_:=e.at_+1 }:=by unfold moveSlot;rw [ht,ht'];simp [hnl]
 have hnn:(((moveSlot e).nodes).map (·.blk)).Nodup:=(hp.map _).nodup_iff.2 hnd
 have hch:∀ c:Ch,chAt W c→chAt W' c:=fun c hcc => hcc.chg hc fun y hy hS => by
  obtain ⟨pre,post,rfl⟩:=List.append_of_mem hy
  have hb:=hcc.node rfl
  rcases hS with hS | hS
  ·exact hb.ne_type h.hd (by decide) hS
  ·exact hb.ne_type h.tb0 (by decide) hS
 have hvt:tbVal t'=tbVal t:=by unfold tbVal;rw [ht',fold_len,fold_blk]
 rw [em] at hnn ⊢
 refine { hd:=?_,a0:=⟨?_,?_⟩,a1:=?_,ne:=?_,nodup:=hnn }
 ·have e1:(dmCells e).setIfInBounds 3 (.int .i64 ((e.at_+1:Nat):Int))=dmCells { e with t0:=e.t0.set e.at_ [],t1:=some t',at_:=e.at_+1 }:=by
   simp [dmCells,t1Val,ht,hvt]
   unfold tbVal Tb.set Tb.len;simp
  rw [← e1];exact h1
 ·show Blk W' e.t0.blk _ _
  rw [tbCells_set];exact h2
 ·intro c hcm
  have hcm':c∈e.t0.slots.set e.at_ []:=hcm
  obtain ⟨i,hi,rfl⟩:=List.mem_iff_getElem.1 hcm'
  rw [List.getElem_set]
  split
  ·trivial
  ·rename_i hne
   have hi':i<e.t0.len:=by simpa [Tb.len] using hi
   have:=h.oth i hi' (fun e' => hne e'.symm)
   have e2:=Tb.at_lt hi'
   rw [List.getElem?_eq_getElem hi'] at e2
   injection e2 with e2
   have h3:=hch _ this
   rw [← e2] at h3
   exact h3
 ·intro u hu
  injection hu with hu
  subst hu
  refine ⟨h.t1.1.chg hc ?_,fun c hcm => hch c (h.t1.2 c hcm)⟩
  rintro (e' | e')
  ·exact h.t1.1.ne_type h.hd (by decide) e'
  ·exact h.ne e'.symm
 ·intro u hu
  injection hu with hu
  subst hu
  exact h.ne
theorem mid_last {e:Dm} {t t':Tb} {W W':World} (h:Mid e t' W) (hok:e.Ok) (ht:e.t1=some t) (ht':t'=(e.t0.at e.at_).foldl push t) (hl:e.at_+1=e.t0.len) (hnd:(e.nodes.map (·.blk)).Nodup)
  (hc:Chg (fun g => g=e.blk∨g=e.t0.blk) W W') (h1:Blk W' e.blk 256 #[.int .u32 (e.seed:Int),tbVal t,.slice none 0 0,.int .i64 0,.int .i64 (e.n:Int)]) :
  DmAt W' (moveSlot e):=by
 have hp:=moveSlot_perm hok
 have em:moveSlot e={ e with t0:=t',t1:=none,at_:=0 }:=by unfold moveSlot;rw [ht,ht'];simp [hl]
 have hnn:(((moveSlot e).nodes).map (·.blk)).Nodup:=(hp.map _).nodup_iff.2 hnd
 have hch:∀ c:Ch,chAt W c→chAt W' c:=fun c hcc => hcc.chg hc fun y hy hS => by
  obtain ⟨pre,post,rfl⟩:=List.append_of_mem hy
  have hb:=hcc.node rfl
  rcases hS with hS | hS
  ·exact hb.ne_type h.hd (by decide) hS
  ·exact hb.ne_type h.tb0 (by decide) hS
 have hvt:tbVal t'=tbVal t:=by unfold tbVal;rw [ht',fold_len,fold_blk]
 rw [em] at hnn ⊢
 refine { hd:=?_,a0:=⟨?_,fun c hcm => hch c (h.t1.2 c hcm)⟩,a1:=fun u hu => (by cases hu),ne:=fun u hu => (by cases hu),nodup:=hnn }
 ·unfold dmCells t1Val;dsimp only;rw [hvt];exact h1
 ·refine h.t1.1.chg hc ?_
  rintro (e' | e')
  ·exact h.t1.1.ne_type h.hd (by decide) e'
  ·exact h.ne e'.symm
end Go.Proofs.YtehpmbmdadkhbaaGreatDoor.Dint64

namespace Go.Proofs.YtehpmbmdadkhbaaGreatDoor.Dint64
open Go.RowKit Pal
attribute [local go_sem] Oper.semAt_some
theorem all80 {P:Array Value→Prop} (h:∀ u0 u1 u2 u3 u4 u5 u6 u7 u8 u9 u10 u11 u12 u13 u14 u15 u16 u17 u18 u19 u20 u21 u22 u23 u24 u25 u26 u27 u28 u29 u30 u31 u32 u33 u34 u35 u36 u37 u38 u39 u40 u41 u42 u43 u44 u45 u46 u47 u48 u49 u50 u51 u52 u53 u54 u55 u56 u57 u58 u59 u60 u61 u62 u63 u64 u65 u66 u67 u68 u69 u70 u71 u72 u73 u74 u75 u76 u77 u78 u79:Value,P #[u0,u1,u2,u3,u4,u5,u6,u7,u8,u9,u10,u11,u12,u13,u14,u15,u16,u17,u18,u19,u20,u21,u22,u23,u24,u25,u26,u27,u28,u29,u30,u31,u32,u33,u34,u35,u36,u37,u38,u39,u40,u41,u42,u43,u44,u45,u46,u47,u48,u49,u50,u51,u52,u53,u54,u55,u56,u57,u58,u59,u60,u61,u62,u63,u64,u65,u66,u67,u68,u69,u70,u71,u72,u73,u74,u75,u76,u77,u78,u79]) (a:Array Value) (hs:a.size=80):P a:=by
 obtain ⟨l⟩:=a
 have g:l.length=80:=hs
 clear hs
 iterate 80 (obtain ⟨_,l2,e,g2⟩:=Pal.len_cons g;clear g;subst e;have g:=g2;clear g2)
 obtain rfl:=List.length_eq_zero_iff.1 g
 exact h _ _ _ _ _ _ _ _ _ _ _ _ _ _ _ _ _ _ _ _ _ _ _ _ _ _ _ _ _ _ _ _ _ _ _ _ _ _ _ _ _ _ _ _ _ _ _ _ _ _ _ _ _ _ _ _ _ _ _ _ _ _ _ _ _ _ _ _ _ _ _ _ _ _ _ _ _ _ _ _
def StepAct (d:Dm) (n:Int) (B j:Nat) (Ds:List Nat) (a:Act):Prop :=
 a.tmps.size=80∧a.tmps[0]?=some (ptr d.blk)∧a.tmps[1]?=some (.int .i64 n)∧a.tmps[2]?=some (ptr B)∧a.tmps[5]?=some (.int .i64 (j:Int))∧a.defers=marks Ds
def StepInv (d:Dm) (n:Int) (w0:World) (m:Nat) (a:Act) (w:World):Prop :=
 ∃ (j:Nat) (Ds:List Nat),m=stepK d n - j∧j≤stepK d n∧StepAct d n w0.heap.size j Ds a∧DmAt w (moveN d j)∧Blk w w0.heap.size 209 #[ptr d.blk]∧Marked w w0.heap.size Ds∧Chg d.foot w0 w
set_option maxRecDepth 100000 in
set_option maxHeartbeats 1000000 in
theorem Step_any (d:Dm) (n:Int) (w:World) (h:DmAt w d) (hok:d.Ok) :
  Calls Tryz.prog 148 #[ptr d.blk,.int .i64 n] w fun e w' => e=.returned (.int .i64 (stepK d n:Int))∧DmAt w' (stepD d n)∧Chg d.foot w w':=by
 refine calls_of_wp_marks Tryz.func148 rfl ?_
 simp only [Tryz.ntmps148,List.size_toArray,List.length_cons,List.length_nil,Nat.reduceAdd,Nat.reduceSub,Array.replicate_succ,Array.replicate_zero,List.push_toArray,List.append_toArray,List.nil_append,List.cons_append]
 have hlt:=h.hd.lt
 unfold ptr
 go_wp2_with fail
 refine wp_loop_ghost (StepInv d n w) (stepK d n) ?_ ?_
 ·exact ⟨0,[],rfl,Nat.zero_le _,⟨rfl,rfl,rfl,rfl,rfl,rfl⟩,h.chg0 ((Chg.refl _ w).alloc _),Blk.new w _ _,Marked.nil _ _,(Chg.refl _ w).alloc _⟩
 ·rintro m ⟨tmps,ds⟩ W ⟨j,Ds,rfl,hj,⟨hsz,h0,h1,h2,h5,rfl⟩,hD,hB,hM,hC⟩
  replace hsz:tmps.size=80:=hsz
  dsimp only at h0 h1 h2 h5
  revert h0 h1 h2 h5
  revert hsz
  revert tmps
  refine all80 ?_
  intro u0 u1 u2 u3 u4 u5 u6 u7 u8 u9 u10 u11 u12 u13 u14 u15 u16 u17 u18 u19 u20 u21 u22 u23 u24 u25 u26 u27 u28 u29 u30 u31 u32 u33 u34 u35 u36 u37 u38 u39 u40 u41 u42 u43 u44 u45 u46 u47 u48 u49 u50 u51 u52 u53 u54 u55 u56 u57 u58 u59 u60 u61 u62 u63 u64 u65 u66 u67 u68 u69 u70 u71 u72 u73 u74 u75 u76 u77 u78 u79 h0 h1 h2 h5
  have hE:=moveN_ok hok j
  have hblk:=(moveN_blk d j).1
  obtain ⟨e,he⟩:∃ e,Hid (moveN d j=e):=⟨_,rfl⟩
  rw [he.out] at hD hE hblk
  rw [← hblk] at h0 hB
  simp only [ptr,List.getElem?_toArray,List.getElem?_cons_zero,List.getElem?_cons_succ,Option.some.injEq] at h0 h1 h2 h5
  subst h0 h1 h2 h5
  have hB0:=hB.cell 0
  simp only [ptr,List.getElem?_toArray,List.getElem?_cons_zero] at hB0
  have HBE:=Lib.hid hblk
  clear hblk
  by_cases hjn:(j:Int)<n
  ·have hmv:∀ W,DmAt W e→_:=fun W h => isMoving_any e W h
   unfold ptr at hmv
   cases ht:e.t1 with
   | none =>
    rw [ht] at hmv
    have hk:j=stepK d n:=by
     unfold stepK at hj ⊢
     have:=he.out
     cases hd:d.t1 with
     | none => rw [hd] at hj;simp at hj ⊢;exact hj
     | some u =>
      rw [hd] at hj
      simp only [Option.isSome_some,if_true] at hj ⊢
      rcases Nat.lt_or_ge (d.at_+j) d.t0.len with hlt2 | hge2
      ·have:=(moveN_at hok hd j hlt2).1
       rw [he.out,ht] at this
       cases this
      ·have:=hok.atlt u hd
       omega
    have HK:=Lib.hid hk
    have hfin:DmAt W (stepD d n):=by unfold stepD;rw [← hk,he.out];exact hD
    clear ht hk
    go_wp2_with (go_at_call 151;refine (hmv _ hD).mono ?_;rintro e w' ⟨rfl,rfl⟩)
    refine bodyPostM_marks (w0:=w) (fun _ => results_tmp rfl _ _ _) Ds W hM fun w' hc' => ⟨by rw [← HK.out];rfl,?_,?_⟩
    ·exact hfin.chg hc' fun g hg h' => Nat.lt_irrefl _ (Nat.lt_of_lt_of_le (h.lt (moveN_foot hok _ hg)) h')
    ·exact hC.trans' hc' fun g hg h' => absurd hg (Nat.not_lt.2 h')
   | some t =>
    rw [ht] at hmv
    have hlt0:=hE.atlt t ht
    obtain ⟨c0,c1,c2,c3,c4,cf,clt⟩:=dm_cells hD
    have ct:=hD.a0.1.cell e.at_
    rw [tbCells_get hlt0] at ct
    have hlti:(e.at_:Int)<(e.t0.len:Int):=by omega
    obtain ⟨q,HQ⟩:∃ q,Hid (hd (e.t0.at e.at_)=.pointer q):=by cases e.t0.at e.at_ <;> exact ⟨_,rfl⟩
    rw [HQ.out] at ct
    have HT:=Lib.hid ht
    rw [ht] at c2
    simp only [t1Val,tbVal] at c1 c2
    clear ht
    go_wp2_with (go_at_call 151;refine (hmv _ hD).mono ?_;rintro e w' ⟨rfl,rfl⟩)
    go_still_tail 11,(by kernel_rfl)
    go_wp2_with (go_at_call 160;refine (chain_any _ _).mono ?_;rintro e w' ⟨rfl,rfl⟩)
    have hA:Chg (fun _ => False) W (W.alloc (Obj.cells #[Value.pointer q] 275)).drew:=((Chg.refl _ W).alloc _).drew
    have hbox:Blk (W.alloc (Obj.cells #[Value.pointer q] 275)).drew W.heap.size 275 #[Value.pointer q]:=(Blk.new W _ _).drew
    have hD1:=hD.chg0 hA
    have hB1:=hB.chg hA id
    have hM1:=hM.chg hA fun _ _ _ => id
    have hC1:=hC.trans' hA fun _ _ h => h.elim
    have hs1:W.heap.size<(W.alloc (Obj.cells #[Value.pointer q] 275)).drew.heap.size:=by simp
    have hsW:=hC.size
    have hlow:w.heap.size<W.heap.size:=hB.lt
    generalize (W.alloc (Obj.cells #[Value.pointer q] 275)).drew=W1 at hA hbox hD1 hB1 hM1 hC1 hs1 ⊢
    obtain ⟨cb,hcb⟩:∃ cb,W.heap.size=cb:=⟨_,rfl⟩
    rw [hcb] at hbox hs1 hsW hlow ⊢
    rw [← HQ.out] at hbox
    have hcbn:∀ g,d.foot g→g≠cb:=fun g hg h' => by have:=h.lt hg;omega
    have hfoot:∀ g,e.foot g→d.foot g:=fun g hg => moveN_foot hok j (by rw [he.out];exact hg)
    clear hA c0 c1 c2 c3 c4 cf clt ct hmv hB0 hcb hD hB hM hC
    have hdis:=hD1.dis hE HT.out
    have hnd:=hD1.nodup
    have hmid:=hD1.mid HT.out
    have hpos:0<t.len:=by have:=(hE.s1 t HT.out).pos;omega
    refine wp_range 166 #[ptr cb] rfl (enters_of Tryz.func166 (by kernel_rfl) rfl) (fun fn rec hrec => ?_)
    refine (chain1_any (W1.heap.size+1) cb
     (fun r V => (∃ pre,pre++r=e.t0.at e.at_∧Mid e (pre.foldl push t) V)∧chAt V r∧Blk V cb 275 #[hd r]∧V.heap[W1.heap.size+1]?=some (.loop (rec .ready none))∧V.heap[W1.heap.size]?=some (.deferred (some []))∧Marked V w.heap.size Ds∧Blk V w.heap.size 209 #[ptr e.blk]∧Chg d.foot w V)
     (fun r V => (∃ pre,pre++r=e.t0.at e.at_∧Mid e (pre.foldl push t) V)∧chAt V r∧(∃ v,Blk V cb 275 #[v])∧V.heap[W1.heap.size+1]?=some (.loop (rec .ready none))∧V.heap[W1.heap.size]?=some (.deferred (some []))∧Marked V w.heap.size Ds∧Blk V w.heap.size 209 #[ptr e.blk]∧Chg d.foot w V)
     (fun _ => False) ?_ ?_ ?_ (e.t0.at e.at_) _ ?_).mono ?_
    ·rintro r V ⟨_,_,hb,_⟩
     exact hb.cell 0
    ·rintro x r V ⟨⟨pre,hpre,hm⟩,⟨hx,hr⟩,hb,hl,hDf,hMk,hBx,hCx⟩
     refine ⟨hx.cell 3,?_⟩
     refine yield_body hrec hl rfl (fun K hK => by gi_wp2;exact hK) hl ?_
     have kc:=KeepC.put_loop hl (Obj.loop (rec LoopState.busy none))
     have hxc:x∈e.t0.at e.at_:=by rw [← hpre];simp
     have hxn:x∈e.nodes:=mem_nodes0 (mem_nodes.2 ⟨_,hlt0,hxc⟩)
     have hxs:x.sum<4294967296:=hE.sum_lt hxn
     have hfs:=fold_sized pre (hE.s1 t HT.out)
     have hvt:tbVal (pre.foldl push t)=tbVal t:=by unfold tbVal;rw [fold_len,fold_blk]
     have hp:0<(pre.foldl push t).len:=by rw [fold_len];exact hpos
     have hcn:=hdis.nod
     rw [← hpre,List.map_append,List.map_cons] at hcn
     have hcn2:=(List.nodup_append.1 hcn).2.1
     have hd1:∀ y∈(pre.foldl push t).nodes,y.blk≠x.blk:=fun y hy => by
      have hy':=(fold_push_perm pre hpos).mem_iff.1 hy
      rcases List.mem_append.1 hy' with hy' | hy'
      ·exact (List.nodup_append.1 hcn).2.2 _ (List.mem_map.2 ⟨y,hy',rfl⟩) _ (by simp)
      ·exact hdis.d1 x hxc y hy'
     have hdr:∀ y∈r,y.blk≠x.blk:=fun y hy h' => by
      rw [List.nodup_cons] at hcn2
      exact hcn2.1 (h' ▸ List.mem_map.2 ⟨y,hy,rfl⟩)
     have htb:Hid ((pre.foldl push t).blk=t.blk):=fold_blk _ _
     have hft:d.foot t.blk:=hfoot _ (.inr (.inr (.inl ⟨t,HT.out,rfl⟩)))
     have hfx:d.foot x.blk:=hfoot _ (.inr (.inr (.inr ⟨x,hxn,rfl⟩)))
     have hsp:Hid ((pre++[x]).foldl push t=push (pre.foldl push t) x):=by show _=_;rw [List.foldl_append];rfl
     have HP:Hid (pre++x :: r=e.t0.at e.at_):=hpre
     have m2:=hm.keep kc
     have r2:=hr.keep kc
     have x2:=hx.keep kc
     have b2:=hb.keep kc
     have B2:=hBx.keep kc
     have g3:(V.putObj (W1.heap.size+1) (Obj.loop (rec LoopState.busy none))).heap[W1.heap.size+1]?=some (.loop (rec .busy none)):=World.putObj_heap_same (Array.getElem?_eq_some_iff.1 hl).1
     have g4:(V.putObj (W1.heap.size+1) (Obj.loop (rec LoopState.busy none))).heap[W1.heap.size]?=some (.deferred (some [])):=(World.putObj_heap_other (by omega)).trans hDf
     have g5:Chg d.foot w (V.putObj (W1.heap.size+1) (Obj.loop (rec LoopState.busy none))):=hCx.put (by omega) _
     have g6:Marked (V.putObj (W1.heap.size+1) (Obj.loop (rec LoopState.busy none))) w.heap.size Ds:=⟨hMk.1,fun D hDD => ⟨(hMk.2 D hDD).1,(World.putObj_heap_other (fun h' => by have:=(hMk.2 D hDD).2;rw [h',hl] at this;cases this)).trans (hMk.2 D hDD).2⟩⟩
     generalize V.putObj (W1.heap.size+1) (Obj.loop (rec LoopState.busy none))=V1 at m2 r2 x2 b2 B2 g3 g4 g5 g6 ⊢
     generalize pre.foldl push t=t' at hfs hvt hp hd1 htb hsp m2
     clear hm hr hx hb hl hDf hMk hBx hCx kc hpre hcn hcn2 hxc
     have k0:=B2.cell 0
     have k1:=m2.hd.cell 2
     simp only [dmCells,ptr,List.getElem?_toArray,List.getElem?_cons_zero,List.getElem?_cons_succ] at k0 k1
     rw [HT.out] at k1
     simp only [t1Val] at k1
     rw [← hvt] at k1
     have hlt1:=m2.hd.lt
     have hltB:=B2.lt
     simp only [tbVal] at k1
     clear hvt
     unfold ptr
     gi_wp2
     refine ⟨trivial,?_⟩
     have kA:=KeepC.alloc V1 (Obj.cells #[Value.pointer (some { block:=x.blk,off:=0 })] 275)
     have cn:=(Blk.new V1 275 #[Value.pointer (some { block:=x.blk,off:=0 })]).cell 0
     simp only [List.getElem?_toArray,List.getElem?_cons_zero] at cn
     have m3:=m2.keep kA
     have r3:=r2.keep kA
     have x3:=x2.keep kA
     have b3:=b2.keep kA
     have B3:=B2.keep kA
     have i3:=(Below.heap_alloc V1 (Obj.cells #[Value.pointer (some { block:=x.blk,off:=0 })] 275) _ (Array.getElem?_eq_some_iff.1 g3).1).trans g3
     have i4:=(Below.heap_alloc V1 (Obj.cells #[Value.pointer (some { block:=x.blk,off:=0 })] 275) _ (Array.getElem?_eq_some_iff.1 g4).1).trans g4
     have i5:=g5.alloc (Obj.cells #[Value.pointer (some { block:=x.blk,off:=0 })] 275)
     have i6:Marked (V1.alloc (Obj.cells #[Value.pointer (some { block:=x.blk,off:=0 })] 275)) w.heap.size Ds:=⟨g6.1,fun D hDD => ⟨(g6.2 D hDD).1,(Below.heap_alloc _ _ _ (Array.getElem?_eq_some_iff.1 (g6.2 D hDD).2).1).trans (g6.2 D hDD).2⟩⟩
     generalize V1.alloc (Obj.cells #[Value.pointer (some { block:=x.blk,off:=0 })] 275)=V2 at cn m3 r3 x3 b3 B3 i3 i4 i5 i6 ⊢
     refine (CallsIn.inRound _ (callsIn_wide.2 (put_any t' x _ V1.heap.size V2 hfs hxs m3.t1.1 x3 cn))).mono ?_
     rintro e4 V3 ⟨⟨v4,rfl⟩,hV3⟩
     obtain ⟨m4,r4,c4⟩:=mid_put (t:=t) m3 hlt0 hp x3 r3 (fun y hy => hdis.d0 x (by rw [← HP.out];simp) y hy) hd1 hdr V3 hV3
     gi_wp2
     have l3:V3.heap[W1.heap.size+1]?=some (.loop (rec .busy none)):=c4.same i3 (by rintro (h' | h');exact x3.ne_loop i3 h'.symm;exact m3.t1.1.ne_loop i3 h'.symm)
     have kp:=KeepC.put_loop l3 (Obj.loop (rec LoopState.ready none))
     have d3:V3.heap[W1.heap.size]?=some (.deferred (some [])):=c4.same i4 (by rintro (h' | h');exact x3.ne_def i4 h'.symm;exact m3.t1.1.ne_def i4 h'.symm)
     have c5:Chg d.foot w V3:=i5.trans' c4 (by rintro g _ (h' | h');exact h' ▸ hfx;exact (h'.trans htb.out) ▸ hft)
     have n5:Marked V3 w.heap.size Ds:=i6.chg c4 (by rintro D o hDD (h' | h');exact x3.ne_def hDD h'.symm;exact m3.t1.1.ne_def hDD h'.symm)
     refine ⟨l3,.inl ⟨rfl,⟨pre++[x],by rw [← HP.out];simp,?_⟩,r4.keep kp,⟨_,Blk.keep (b3.chg c4 (by rintro (h' | h');exact x3.ne_type b3 (by decide) h'.symm;exact hcbn _ hft (h'.trans htb.out).symm)) kp⟩,?_,?_,?_,?_,?_⟩⟩
     ·rw [hsp.out];exact m4.keep kp
     ·exact World.putObj_heap_same (Array.getElem?_eq_some_iff.1 l3).1
     ·exact (World.putObj_heap_other (by omega)).trans d3
     ·exact ⟨n5.1,fun D hDD => ⟨(n5.2 D hDD).1,(World.putObj_heap_other (fun h' => by have:=(n5.2 D hDD).2;rw [h',l3] at this;cases this)).trans (n5.2 D hDD).2⟩⟩
     ·exact Blk.keep (B3.chg c4 (by rintro (h' | h');exact x3.ne_type B3 (by decide) h'.symm;exact m3.t1.1.ne_type B3 (by decide) h'.symm)) kp
     ·exact c5.put (by omega) _
    ·rintro r V ⟨⟨pre,hpre,hm⟩,hr,⟨v,hb⟩,hl,hDf,hMk,hBx,hCx⟩
     have hcs:Chg (fun g => g=cb) V (V.setCell ⟨cb,0,none⟩ (hd r)):=(Chg.refl (fun g => g=cb) V).store rfl 0 _
     have hnt:∀ y∈(pre.foldl push t).nodes,y.blk≠cb:=fun y hy h' => by
      obtain ⟨nx,hb'⟩:=hm.t1.node hy
      exact hb'.ne_type hb (by decide) h'
     have hch:∀ c:Ch,chAt V c→chAt (V.setCell ⟨cb,0,none⟩ (hd r)) c:=fun c hcc => hcc.chg hcs fun y hy h' => by
      obtain ⟨p1,p2,rfl⟩:=List.append_of_mem hy
      exact (hcc.node rfl).ne_type hb (by decide) h'
     refine ⟨⟨v,hb.cell 0⟩,hb.frozen 0,⟨pre,hpre,⟨hm.hd.chg hcs (hm.hd.ne_type hb (by decide)),hm.tb0.chg hcs (hcbn _ (hfoot _ (.inr (.inl rfl)))),fun i hi hne => hch _ (hm.oth i hi hne),⟨hm.t1.1.chg hcs ?_,fun c hc => hch c (hm.t1.2 c hc)⟩,hm.ne⟩⟩,hch r hr,hb.set 0 _,?_,?_,?_,?_,?_⟩
     ·rw [fold_blk];exact hcbn _ (hfoot _ (.inr (.inr (.inl ⟨t,HT.out,rfl⟩))))
     ·exact hcs.same hl (fun h' => hb.ne_loop hl h'.symm)
     ·exact hcs.same hDf (fun h' => hb.ne_def hDf h'.symm)
     ·exact hMk.chg hcs fun D o hDD h' => hb.ne_def hDD h'.symm
     ·exact hBx.chg hcs (hBx.ne_type hb (by decide))
     ·exact hCx.store_new (by omega) 0 _
    ·have kd:=(KeepC.alloc W1 (.deferred (some []))).trans (KeepC.alloc _ (.loop (rec .ready none)))
     refine ⟨⟨[],rfl,hmid.keep kd⟩,(hD1.a0.2 _ (Tb.at_mem hlt0)).keep kd,hbox.keep kd,?_,?_,?_,hB1.keep kd,(hC1.alloc _).alloc _⟩
     ·have:=World.alloc_heap_new (W1.alloc (.deferred (some []))) (.loop (rec .ready none))
      rwa [World.size_alloc] at this
     ·exact (Below.heap_alloc _ _ _ (by simp)).trans (World.alloc_heap_new _ _)
     ·exact ⟨hM1.1,fun D hDD => ⟨(hM1.2 D hDD).1,by
       have hx:=(hM1.2 D hDD).2
       have hlt':=(Array.getElem?_eq_some_iff.1 hx).1
       exact (Below.heap_alloc _ _ _ (by simp;omega)).trans ((Below.heap_alloc _ _ _ hlt').trans hx)⟩⟩
    ·rintro e5 V ⟨⟨v,rfl⟩,(⟨⟨pre,hpre,hm⟩,_,_,hl,hDf,hMk,hBx,hCx⟩ | hF)⟩
     case inr => exact hF.elim
     rw [List.append_nil] at hpre
     subst hpre
     refine ⟨⟨_,rfl⟩,.inl ⟨hl,?_⟩⟩
     have kp:=KeepC.put_loop hl (Obj.loop (rec LoopState.exhausted none))
     have m2:=hm.keep kp
     have B2:=hBx.keep kp
     have g4:(V.putObj (W1.heap.size+1) (Obj.loop (rec LoopState.exhausted none))).heap[W1.heap.size]?=some (.deferred (some [])):=(World.putObj_heap_other (by omega)).trans hDf
     have g5:Chg d.foot w (V.putObj (W1.heap.size+1) (Obj.loop (rec LoopState.exhausted none))):=hCx.put (by omega) _
     have g6:Marked (V.putObj (W1.heap.size+1) (Obj.loop (rec LoopState.exhausted none))) w.heap.size (W1.heap.size :: Ds):=by
      refine Marked.cons ⟨hMk.1,fun D hDD => ⟨(hMk.2 D hDD).1,(World.putObj_heap_other (fun h' => by have:=(hMk.2 D hDD).2;rw [h',hl] at this;cases this)).trans (hMk.2 D hDD).2⟩⟩ g4 (by omega) fun hin => ?_
      have:=(Array.getElem?_eq_some_iff.1 (hM1.2 _ hin).2).1
      omega
     generalize V.putObj (W1.heap.size+1) (Obj.loop (rec LoopState.exhausted none))=V1 at m2 B2 g4 g5 g6 ⊢
     clear hm hl hDf hMk hBx hCx kp hD1 hB1 hM1 hC1 hbox hmid hrec g4
     have k0:=B2.cell 0
     have k1:=m2.hd.cell 1
     have k2:=m2.hd.cell 2
     have k3:=m2.hd.cell 3
     have kf1:=m2.hd.frozen 1
     have kf2:=m2.hd.frozen 2
     have kf3:=m2.hd.frozen 3
     simp only [dmCells,ptr,tbVal,List.getElem?_toArray,List.getElem?_cons_zero,List.getElem?_cons_succ] at k0 k1 k2 k3
     rw [HT.out] at k2
     simp only [t1Val,tbVal] at k2
     have ct:=m2.tb0.cell e.at_
     rw [tbCells_get hlt0,HQ.out] at ct
     have cf:=m2.tb0.frozen e.at_
     have hne1:e.blk≠e.t0.blk:=m2.hd.ne_type m2.tb0 (by decide)
     have hne2:e.t0.blk≠e.blk:=fun h' => hne1 h'.symm
     have hne3:w.heap.size≠e.t0.blk:=B2.ne_type m2.tb0 (by decide)
     have hne4:w.heap.size≠e.blk:=B2.ne_type m2.hd (by decide)
     have hat:e.at_≤65536:=by have:=hE.s0.pos;omega
     have hjb:j≤65536:=by
      have h0:=hok.s0.pos
      unfold stepK at hj
      split at hj <;> omega
     have hjs:j+1≤stepK d n:=by
      unfold stepK
      have hd1:∃ u,d.t1=some u:=by
       cases hdt:d.t1 with
       | some u => exact ⟨u,rfl⟩
       | none =>
        have:∀ k,moveN d k=d:=fun k => by
         induction k with
         | zero => rfl
         | succ k ih => show moveSlot (moveN d k)=d;rw [ih];unfold moveSlot;rw [hdt]
        have h9:=he.out
        rw [this] at h9
        rw [← h9,hdt] at HT
        cases HT.out
      obtain ⟨u,hu⟩:=hd1
      rw [hu]
      simp only [Option.isSome_some,if_true]
      have h9:d.at_+j<d.t0.len:=by
       rcases Nat.lt_or_ge (d.at_+j) d.t0.len with h9 | h9
       ·exact h9
       ·have hall:=moveN_all hok hu
        have h0:=hok.atlt u hu
        have hjj:j=d.t0.len - d.at_:=by
         unfold stepK at hj
         rw [hu] at hj
         simp only [Option.isSome_some,if_true] at hj
         omega
        rw [← hjj,he.out,HT.out] at hall
        cases hall.1
      omega
     go_wp2_with fail
     go_still_tail 10,(by kernel_rfl)
     go_wp2_with fail
     have n1:=((m2.hd.far (p:=⟨e.t0.blk,e.at_,none⟩) hne1 (.pointer none)).set 3 (.int .i64 ((e.at_:Int)+1))).drew
     have n2:=(((m2.tb0.set e.at_ (.pointer none))).far (p:=⟨e.blk,3,none⟩) hne2 (.int .i64 ((e.at_:Int)+1))).drew
     have n3:=((B2.far (p:=⟨e.t0.blk,e.at_,none⟩) hne3 (.pointer none)).far (p:=⟨e.blk,3,none⟩) hne4 (.int .i64 ((e.at_:Int)+1))).drew
     have n4:Chg (fun g => g=e.blk∨g=e.t0.blk) V1 ((V1.setCell { block:=e.t0.blk,off:=e.at_ } (Value.pointer none)).setCell { block:=e.blk,off:=3 } (Value.int IntKind.i64 ((e.at_:Int)+1))).drew :=
      (((Chg.refl _ V1).store (.inr rfl) _ _).store (.inl rfl) _ _).drew
     generalize ((V1.setCell { block:=e.t0.blk,off:=e.at_ } (Value.pointer none)).setCell { block:=e.blk,off:=3 } (Value.int IntKind.i64 ((e.at_:Int)+1))).drew=V2 at n1 n2 n3 n4 ⊢
     clear k0 k1 k2 k3 kf1 kf2 kf3 ct cf
     have k0:=n3.cell 0
     have k1:=n1.cell 1
     have k2:=n1.cell 2
     have k3:=n1.cell 3
     have kf1:=n1.frozen 1
     have kf2:=n1.frozen 2
     have kf3:=n1.frozen 3
     simp [dmCells,ptr,tbVal] at k0 k1 k2 k3
     rw [HT.out] at k2
     simp only [t1Val,tbVal] at k2
     have hfe:d.foot e.blk:=hfoot _ (.inl rfl)
     have hft0:d.foot e.t0.blk:=hfoot _ (.inr (.inl rfl))
     have q5:Chg d.foot w V2:=g5.trans' n4 (by rintro g _ (h' | h');exact h' ▸ hfe;exact h' ▸ hft0)
     have q6:Marked V2 w.heap.size (W1.heap.size :: Ds):=g6.chg n4 (by rintro D o hDD (h' | h');exact m2.hd.ne_def hDD h'.symm;exact m2.tb0.ne_def hDD h'.symm)
     by_cases hl:e.at_+1=e.t0.len
     ·have hb:((e.at_:Int)+1 == (e.t0.len:Int))=true:=by rw [beq_iff_eq];omega
      have HL:=Lib.hid hl
      clear hl
      go_quiet (fail)
      go_wp2_with fail
      have p1:=n1.drewN nq
      have p3:=n3.drewN nq
      go_region
      go_wp2_with fail
      have r1:=(((n1.drewN (nq+1)).set 1 (.slice (some ⟨t.blk,0,none⟩) t.len t.len)).set 2 (.slice none 0 0)).set 3 (.int .i64 0)
      have r4:Chg (fun g => g=e.blk) V2 ((((V2.drewN (nq+1)).setCell { block:=e.blk,off:=1 } (Value.slice (some { block:=t.blk,off:=0 }) t.len t.len)).setCell { block:=e.blk,off:=2 } (Value.slice none 0 0)).setCell { block:=e.blk,off:=3 } (Value.int IntKind.i64 0)) :=
       (((Chg.refl (fun g => g=e.blk) V2).drewN (nq+1)).store rfl 1 _).store rfl 2 _ |>.store rfl 3 _
      generalize (((V2.drewN (nq+1)).setCell { block:=e.blk,off:=1 } (Value.slice (some { block:=t.blk,off:=0 }) t.len t.len)).setCell { block:=e.blk,off:=2 } (Value.slice none 0 0)).setCell { block:=e.blk,off:=3 } (Value.int IntKind.i64 0)=V3 at r1 r4 ⊢
      refine ⟨stepK d n - (j+1),by omega,j+1,W1.heap.size :: Ds,rfl,hjs,⟨rfl,congrArg (fun b => some (ptr b)) HBE.out,rfl,rfl,congrArg some (int_eq (by omega)),rfl⟩,?_,by rw [← HBE.out];exact n3.chg r4 hne4,q6.chg r4 (fun D o hDD h' => n1.ne_def hDD h'.symm),q5.trans' r4 (fun g _ h' => h' ▸ hfe)⟩
      have e9:moveN d (j+1)=moveSlot e:=by show moveSlot (moveN d j)=_;rw [he.out]
      rw [e9]
      refine mid_last m2 hE HT.out rfl HL.out hnd (n4.trans' r4 (fun g _ h' => .inl h')) ?_
      simpa [dmCells,tbVal] using r1
     ·have hb:((e.at_:Int)+1 == (e.t0.len:Int))=false:=by rw [beq_eq_false_iff_ne];omega
      have HL:=Lib.hid hl
      clear hl
      go_quiet (fail)
      go_wp2_with fail
      have hdr:∀ k,Chg (fun _ => False) V2 (V2.drewN k):=fun k => (Chg.refl _ V2).drewN k
      refine ⟨stepK d n - (j+1),by omega,j+1,W1.heap.size :: Ds,rfl,hjs,⟨rfl,congrArg (fun b => some (ptr b)) HBE.out,rfl,rfl,congrArg some (int_eq (by omega)),rfl⟩,?_,by rw [← HBE.out];exact n3.drewN _,q6.chg (hdr _) (fun _ _ _ => id),q5.drewN _⟩
      have e9:moveN d (j+1)=moveSlot e:=by show moveSlot (moveN d j)=_;rw [he.out]
      rw [e9]
      refine DmAt.chg0 ?_ (hdr _)
      refine mid_next m2 hE HT.out rfl HL.out hnd n4 ?_ n2
      rw [show ((e.at_+1:Nat):Int)=(e.at_:Int)+1 by omega]
      exact n1
  ·have hk:j=stepK d n:=by
    unfold stepK at hj ⊢
    by_cases hd:d.t1.isSome=true
    ·rw [if_pos hd] at hj ⊢;omega
    ·rw [if_neg hd] at hj ⊢;omega
   have HK:=Lib.hid hk
   have hfin:DmAt W (stepD d n):=by unfold stepD;rw [← hk,he.out];exact hD
   clear hk
   go_wp2_with fail
   refine bodyPostM_marks (w0:=w) (fun _ => results_tmp rfl _ _ _) Ds W hM fun w' hc' => ⟨by rw [← HK.out];rfl,?_,?_⟩
   ·exact hfin.chg hc' fun g hg h' => Nat.lt_irrefl _ (Nat.lt_of_lt_of_le (h.lt (moveN_foot hok _ hg)) h')
   ·exact hC.trans' hc' fun g hg h' => absurd hg (Nat.not_lt.2 h')
end Go.Proofs.YtehpmbmdadkhbaaGreatDoor.Dint64
