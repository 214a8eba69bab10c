/- Texts joined for EvictNone: DP3int64, DW5int64, DW6int64, DP4int64, DW7int64, DP5int64, DW8int64, DW9int64, DIint64, OWint64. -/
import Derived.Test.YtehpmbmdadkhbaaGreatDoorJEvictNonef
import Derived.Laws.StructEq
import Derived.Deep.RegionHeld3
set_option linter.unusedVariables false
set_option linter.unusedSimpArgs false

namespace Go.Proofs.YtehpmbmdadkhbaaGreatDoor.Dint64
open Go.RowKit Pal
def Dm.tab (d:Dm) (i:Nat):Option Tb:=if i=0 then some d.t0 else d.t1
def Dm.setTab (d:Dm) (ti:Nat) (t:Tb):Dm:=if ti=0 then { d with t0:=t } else { d with t1:=some t }
theorem tab0 (d:Dm):d.tab 0=some d.t0:=rfl
theorem tab_ok {d:Dm} (h:d.Ok) {i:Nat} {t:Tb} (ht:d.tab i=some t):t.Sized∧(∀ j x,j<t.len→x∈t.at j→x.sum % t.len=j)∧∀ x∈t.nodes,x∈d.nodes:=by
 unfold Dm.tab at ht
 split at ht
 ·injection ht with ht;subst ht;exact ⟨h.s0,h.in0,fun x hx => mem_nodes0 hx⟩
 ·exact ⟨h.s1 t ht,h.in1 t ht,fun x hx => mem_nodes1 ht hx⟩
theorem tab_at {w:World} {d:Dm} (h:DmAt w d) {i:Nat} {t:Tb} (ht:d.tab i=some t):tbAt w t:=by
 unfold Dm.tab at ht
 split at ht
 ·injection ht with ht;subst ht;exact h.a0
 ·exact h.a1 t ht
theorem tab_foot {d:Dm} {i:Nat} {t:Tb} (ht:d.tab i=some t):d.foot t.blk:=by
 unfold Dm.tab at ht
 split at ht
 ·injection ht with ht;subst ht;exact .inr (.inl rfl)
 ·exact .inr (.inr (.inl ⟨t,ht,rfl⟩))
theorem tab_nodes {d:Dm} {i:Nat} {t:Tb} (ht:d.tab i=some t) {x:Nd} (hx:x∈t.nodes):x∈d.nodes:=by
 unfold Dm.tab at ht
 split at ht
 ·injection ht with ht;subst ht;exact mem_nodes0 hx
 ·exact mem_nodes1 ht hx
theorem setTab_perm {d:Dm} {ti:Nat} {t:Tb} (ht:d.tab ti=some t) {i:Nat} (hi:i<t.len) (c:Ch) :
  ((d.setTab ti (t.set i c)).nodes).Perm (c++(d.setTab ti (t.set i [])).nodes):=by
 have h1:=nodes_set_perm t hi c
 have h2:=nodes_set_perm t hi []
 rw [List.append_nil] at h2
 have h3:((t.set i c).nodes++t.at i).Perm ((c++(t.set i []).nodes)++t.at i):=by
  refine h1.trans ((h2.symm.append_right c).trans ?_)
  rw [List.append_assoc,List.append_assoc]
  refine (List.Perm.append_left _ List.perm_append_comm).trans ?_
  rw [← List.append_assoc,← List.append_assoc]
  exact List.perm_append_comm.append_right _
 have h4:=(List.perm_append_right_iff _).1 h3
 unfold Dm.setTab Dm.nodes Dm.nodes1
 by_cases e:ti=0
 ·simp only [if_pos e]
  rw [← List.append_assoc]
  exact h4.append_right _
 ·simp only [if_neg e]
  refine (List.Perm.append_left _ h4).trans ?_
  rw [← List.append_assoc,← List.append_assoc]
  exact List.perm_append_comm.append_right _
theorem tab_perm {d:Dm} {ti:Nat} {t:Tb} (ht:d.tab ti=some t) {i:Nat} (hi:i<t.len):d.nodes.Perm (t.at i++(d.setTab ti (t.set i [])).nodes):=by
 have h:=setTab_perm ht hi (t.at i)
 have e:t.set i (t.at i)=t:=by
  unfold Tb.set
  have:t.slots.set i (t.at i)=t.slots:=by
   apply List.ext_getElem?
   intro j
   rw [List.getElem?_set]
   split
   ·rename_i e;subst e;rw [Tb.at_lt hi];simp;exact hi
   ·rfl
  rw [this]
 rw [e] at h
 have e2:d.setTab ti t=d:=by
  unfold Dm.tab at ht
  unfold Dm.setTab
  split at ht
  ·rename_i h0;injection ht with ht;subst ht;rw [if_pos h0]
  ·rename_i h0;rw [if_neg h0,← ht]
 rw [e2] at h
 exact h
theorem upd_slot {W W':World} {d:Dm} {S:Nat→Prop} (h:DmAt W d) {ti:Nat} {t:Tb} (ht:d.tab ti=some t) {i:Nat} (hi:i<t.len) (c:Ch) (hc:Chg S W W')
  (hS:∀ g,S g→g=t.blk∨(∃ y∈t.at i,g=y.blk)∨¬ d.foot g) (hT:Blk W' t.blk 275 (tbCells (t.set i c))) (hch:chAt W' c) (hnd:((d.setTab ti (t.set i c)).nodes.map (·.blk)).Nodup) :
  DmAt W' (d.setTab ti (t.set i c)):=by
 have hta:=tab_at h ht
 have hp:=tab_perm ht hi
 have hn:((t.at i++(d.setTab ti (t.set i [])).nodes).map (·.blk)).Nodup:=(hp.map _).nodup_iff.1 h.nodup
 rw [List.map_append,List.nodup_append] at hn
 have hmem:∀ y∈t.at i,y∈d.nodes:=fun y hy => hp.mem_iff.2 (List.mem_append.2 (.inl hy))
 have hblk:¬ S d.blk:=fun hs => by
  rcases hS _ hs with e | ⟨y,hy,e⟩ | e
  ·exact hta.1.ne_type h.hd (by decide) e.symm
  ·exact (h.nd_ne (hmem y hy)).1 e.symm
  ·exact e (.inl rfl)
 -- another node's block is untouched
 have hoth:∀ x,x∈(d.setTab ti (t.set i [])).nodes→¬ S x.blk:=fun x hx hs => by
  have hxd:x∈d.nodes:=hp.mem_iff.2 (List.mem_append.2 (.inr hx))
  rcases hS _ hs with e | ⟨y,hy,e⟩ | e
  ·obtain ⟨nx,hb⟩:=h.node hxd;exact hb.ne_type hta.1 (by decide) e
  ·exact hn.2.2 _ (List.mem_map.2 ⟨y,hy,rfl⟩) _ (List.mem_map.2 ⟨x,hx,rfl⟩) e.symm
  ·exact e (.inr (.inr (.inr ⟨x,hxd,rfl⟩)))
 have hslots:∀ c'∈(t.set i c).slots,chAt W' c':=fun c' hc' => by
  have hc2:c'∈t.slots.set i c:=hc'
  obtain ⟨j,hj,rfl⟩:=List.mem_iff_getElem.1 hc2
  rw [List.getElem_set]
  split
  ·exact hch
  ·rename_i hne
   have hj':j<t.len:=by simpa [Tb.len] using hj
   have e2:=Tb.at_lt hj'
   rw [List.getElem?_eq_getElem hj'] at e2
   injection e2 with e2
   have:=(hta.2 _ (Tb.at_mem hj')).chg hc fun x hx => hoth x (by
    have:x∈(t.set i []).nodes:=mem_nodes.2 ⟨j,by rw [Tb.set_len];exact hj',by rw [Tb.set_at hi,if_neg hne];exact hx⟩
    unfold Dm.setTab Dm.nodes Dm.nodes1
    split
    ·exact List.mem_append.2 (.inl this)
    ·exact List.mem_append.2 (.inr this))
   rw [← e2] at this
   exact this
 have hval:tbVal (t.set i c)=tbVal t:=by unfold tbVal;rw [Tb.set_len];rfl
 unfold Dm.tab at ht
 by_cases e0:ti=0
 ·rw [if_pos e0] at ht
  injection ht with ht
  have es:d.setTab ti (t.set i c)={ d with t0:=t.set i c }:=by unfold Dm.setTab;rw [if_pos e0]
  have es2:(d.setTab ti (t.set i [])).nodes1=d.nodes1:=by unfold Dm.setTab;rw [if_pos e0];rfl
  rw [es] at hnd ⊢
  refine { hd:=?_,a0:=⟨hT,hslots⟩,a1:=fun u hu => ?_,ne:=fun u hu => by subst ht;exact h.ne u hu,nodup:=hnd }
  ·have:=h.hd.chg hc hblk
   have ev:dmCells { d with t0:=t.set i c }=dmCells d:=by unfold dmCells;dsimp only;rw [hval,ht]
   rw [ev];exact this
  ·have hu':d.t1=some u:=hu
   refine (h.a1 u hu').chg hc (fun hs => ?_) fun x hx => hoth x ?_
   ·rcases hS _ hs with e | ⟨y,hy,e⟩ | e
    ·exact h.ne u hu' (by rw [ht];exact e.symm)
    ·exact ((h.nd_ne (hmem y hy)).2.2 u hu') e.symm
    ·exact e (.inr (.inr (.inl ⟨u,hu',rfl⟩)))
   ·unfold Dm.nodes;rw [es2];unfold Dm.nodes1;rw [hu'];exact List.mem_append.2 (.inr hx)
 ·rw [if_neg e0] at ht
  have es:d.setTab ti (t.set i c)={ d with t1:=some (t.set i c) }:=by unfold Dm.setTab;rw [if_neg e0]
  have es2:(d.setTab ti (t.set i [])).t0=d.t0:=by unfold Dm.setTab;rw [if_neg e0]
  rw [es] at hnd ⊢
  refine { hd:=?_,a0:=?_,a1:=fun u hu => ?_,ne:=fun u hu => ?_,nodup:=hnd }
  ·have:=h.hd.chg hc hblk
   have ev:dmCells { d with t1:=some (t.set i c) }=dmCells d:=by unfold dmCells t1Val;dsimp only;rw [hval,ht]
   rw [ev];exact this
  ·refine h.a0.chg hc (fun hs => ?_) fun x hx => hoth x ?_
   ·rcases hS _ hs with e | ⟨y,hy,e⟩ | e
    ·exact h.ne t ht e
    ·exact ((h.nd_ne (hmem y hy)).2.1) e.symm
    ·exact e (.inr (.inl rfl))
   ·unfold Dm.nodes;rw [es2];exact List.mem_append.2 (.inl hx)
  ·injection hu with hu;subst hu;exact ⟨hT,hslots⟩
  ·injection hu with hu;subst hu;exact h.ne t ht
end Go.Proofs.YtehpmbmdadkhbaaGreatDoor.Dint64

namespace Go.Proofs.YtehpmbmdadkhbaaGreatDoor.Dint64
open Go.RowKit Pal
attribute [local go_sem] Oper.semAt_some
def loc (t:Tb) (i:Nat) (pre:Ch):Addr :=
 match pre.getLast? with
 | none => ⟨t.blk,i,none⟩
 | some y => ⟨y.blk,3,none⟩
theorem loc_nil (t:Tb) (i:Nat):loc t i []=⟨t.blk,i,none⟩:=rfl
theorem loc_snoc (t:Tb) (i:Nat) (pre:Ch) (y:Nd):loc t i (pre++[y])=⟨y.blk,3,none⟩:=by simp [loc]
theorem loc_cell {w:World} {t:Tb} (h:tbAt w t) {i:Nat} (hi:i<t.len) {pre rest:Ch} (e:t.at i=pre++rest):w.cell? (loc t i pre)=some (hd rest):=by
 rcases List.eq_nil_or_concat pre with rfl | ⟨p,y,rfl⟩
 ·rw [loc_nil,h.1.cell i,tbCells_get hi,e];rfl
 ·rw [List.concat_eq_append,loc_snoc]
  have hc:=h.2 _ (Tb.at_mem hi)
  rw [e,List.concat_eq_append,List.append_assoc] at hc
  exact (hc.node rfl).cell 3
def WithPost (d:Dm) (key:ByteArray) (w:World) (R:World→Prop) (e:Ending) (w':World):Prop :=
 (e=.returned (.bool true)∧(∃ x∈d.nodes,x.key=key)∧R w')∨(e=.returned (.bool false)∧(∀ x∈d.nodes,x.key≠key)∧Chg (fun _ => False) w w')
theorem all52 {P:Array Value→Prop} (h:∀ u0 u1 u2 u3 u4 u5 u6 u7 u8 u9 u10 u11 u12 u13 u14 u15 u16 u17 u18 u19 u20 u21 u22 u23 u24 u25 u26 u27 u28 u29 u30 u31 u32 u33 u34 u35 u36 u37 u38 u39 u40 u41 u42 u43 u44 u45 u46 u47 u48 u49 u50 u51:Value,P #[u0,u1,u2,u3,u4,u5,u6,u7,u8,u9,u10,u11,u12,u13,u14,u15,u16,u17,u18,u19,u20,u21,u22,u23,u24,u25,u26,u27,u28,u29,u30,u31,u32,u33,u34,u35,u36,u37,u38,u39,u40,u41,u42,u43,u44,u45,u46,u47,u48,u49,u50,u51]) (a:Array Value) (hs:a.size=52):P a:=by
 obtain ⟨l⟩:=a
 have g:l.length=52:=hs
 clear hs
 iterate 52 (obtain ⟨_,l2,e,g2⟩:=Pal.len_cons g;clear g;subst e;have g:=g2;clear g2)
 obtain rfl:=List.length_eq_zero_iff.1 g
 exact h _ _ _ _ _ _ _ _ _ _ _ _ _ _ _ _ _ _ _ _ _ _ _ _ _ _ _ _ _ _ _ _ _ _ _ _ _ _ _ _ _ _ _ _ _ _ _ _ _ _ _ _
def WithAct (d:Dm) (key:ByteArray) (f:FuncId) (cap:Array Value) (B ti:Nat) (a:Act):Prop :=
 a.tmps.size=52∧a.tmps[2]?=some (.func (.func f) #[] cap)∧a.tmps[7]?=some (ptr B)∧a.tmps[8]?=some (.bool false)∧a.tmps[18]?=some (.agg #[tbVal d.t0,t1Val d.t1])∧a.tmps[19]?=some (.int .i64 (ti:Int))∧a.defers=[]
def WithInv (d:Dm) (key:ByteArray) (f:FuncId) (cap:Array Value) (w0:World) (B:Nat) (q:Nat) (m:Nat) (a:Act) (w:World):Prop :=
 ∃ ti:Nat,m=2 - ti∧ti≤2∧WithAct d key f cap B ti a∧Blk w B 135 #[.int .u32 (q:Int),.string key]∧Chg (fun _ => False) w0 w ∧
  ∀ j t,j<ti→d.tab j=some t→∀ x∈t.nodes,x.key≠key
theorem idx0 (x0 x1:Value) (w:World):(Instr.index 254 (.agg #[x0,x1]) (.int .i64 0)).run Tryz.prog w=.ok x0 w:=by kernel_rfl
theorem idx1 (x0 x1:Value) (w:World):(Instr.index 254 (.agg #[x0,x1]) (.int .i64 1)).run Tryz.prog w=.ok x1 w:=by kernel_rfl
theorem idx_tab (d:Dm) (ti:Nat) (hti:ti<2) (w:World):(Instr.index 254 (.agg #[tbVal d.t0,t1Val d.t1]) (.int .i64 (ti:Int))).run Tryz.prog w=.ok (t1Val (d.tab ti)) w:=by
 have:ti=0∨ti=1:=by omega
 rcases this with rfl | rfl
 ·exact idx0 _ _ w
 ·exact idx1 _ _ w
theorem no_key {d:Dm} {key:ByteArray} (h:∀ j t,j<2→d.tab j=some t→∀ x∈t.nodes,x.key≠key):∀ x∈d.nodes,x.key≠key:=by
 intro x hx
 unfold Dm.nodes Dm.nodes1 at hx
 rcases List.mem_append.1 hx with h0 | h1
 ·exact h 0 d.t0 (by omega) rfl x h0
 ·split at h1
  ·cases h1
  ·rename_i t ht;exact h 1 t (by omega) ht x h1
set_option maxRecDepth 100000 in
set_option maxHeartbeats 1000000 in
theorem with_any (d:Dm) (key:ByteArray) (f:FuncId) (cap:Array Value) (w:World) (h:DmAt w d) (hok:d.Ok) (hk:key.size≤9223372036854775807) (hef:Enters Tryz.prog f) (R:World→Prop)
  (hdo:∀ ti t pre x post W,d.tab ti=some t→t.at (sumN d.seed key.data.toList % t.len)=pre++x :: post→x.key=key→Chg (fun _ => False) w W →
   Calls Tryz.prog f (#[.pointer (some (loc t (sumN d.seed key.data.toList % t.len) pre))]++cap) W fun e W' => (∃ v,e=.returned v)∧R W') :
  Calls Tryz.prog 149 #[ptr d.blk,.string key,.func (.func f) #[] cap] w (WithPost d key w R):=by
 obtain ⟨q,HQ⟩:∃ q,Hid (sumN d.seed key.data.toList=q):=⟨_,rfl⟩
 have hq32:q<4294967296:=by rw [← HQ.out];exact sumN_lt _ _
 rw [HQ.out] at hdo
 have hof:=of_any d key w h hok.seed hk
 rw [HQ.out] at hof
 unfold ptr at hof ⊢
 go_enter Tryz.func149,Tryz.ntmps149
 go_wp2_with fail
 go_step3
 go_wp2_with (go_at_call 154;refine hof.mono ?_;rintro e w1 ⟨rfl,hc1⟩)
 have hA:Chg (fun _ => False) w (w1.alloc (Obj.cells #[Value.int IntKind.u32 (q:Int),Value.string key] 135)):=hc1.alloc _
 have hbx:Blk (w1.alloc (Obj.cells #[Value.int IntKind.u32 (q:Int),Value.string key] 135)) w1.heap.size 135 #[Value.int IntKind.u32 (q:Int),Value.string key]:=Blk.new _ _ _
 generalize w1.alloc (Obj.cells #[Value.int IntKind.u32 (q:Int),Value.string key] 135)=W1 at hA hbx ⊢
 generalize w1.heap.size=B at hbx ⊢
 clear hc1 hof w1
 have hD1:=h.chg0 hA
 obtain ⟨c0,c1,c2,c3,c4,cf,clt⟩:=dm_cells hD1
 obtain ⟨v0,H0⟩:∃ v0,Hid (tbVal d.t0=v0):=⟨_,rfl⟩
 obtain ⟨v1,H1⟩:∃ v1,Hid (t1Val d.t1=v1):=⟨_,rfl⟩
 have hsn:∀ (w:World) (a:Option Addr) (n c:Nat),(binOp .eql 253 (.slice a n c) (.slice none 0 0)).run Tryz.prog w=.ok (.bool a.isNone) w:=fun w a n c => Go.Lib.run_eql_slice_nil w _ _ a n c 0 0 Tryz.underlying253
 go_step3
 go_wp2_with fail
 refine wp_loop_ghost (WithInv d key f cap w B q) 2 ?_ ?_
 ·exact ⟨0,rfl,by omega,⟨rfl,rfl,rfl,rfl,rfl,rfl,rfl⟩,hbx,hA,fun j t hj => absurd hj (Nat.not_lt_zero _)⟩
 ·rintro m ⟨tmps,ds⟩ W ⟨ti,rfl,hti,⟨hsz,h2,h7,h8,h18,h19,rfl⟩,hB,hC,hno⟩
  replace hsz:tmps.size=52:=hsz
  dsimp only at h2 h7 h8 h18 h19
  revert h2 h7 h8 h18 h19
  revert hsz
  revert tmps
  refine all52 ?_
  intro u0 u1 u2 u3 u4 u5 u6 u7 u8 u9 u10 u11 u12 u13 u14 u15 u16 u17 u18 u19 u20 u21 u22 u23 u24 u25 u26 u27 u28 u29 u30 u31 u32 u33 u34 u35 u36 u37 u38 u39 u40 u41 u42 u43 u44 u45 u46 u47 u48 u49 u50 u51 h2 h7 h8 h18 h19
  simp only [ptr,List.getElem?_toArray,List.getElem?_cons_zero,List.getElem?_cons_succ,Option.some.injEq] at h2 h7 h8 h18 h19
  subst h2 h7 h8 h18 h19
  clear c0 c1 c2 c3 c4 cf clt hD1 hA hbx
  have hD:=h.chg0 hC
  have hB0:=hB.cell 0
  have hB1:=hB.cell 1
  simp only [List.getElem?_toArray,List.getElem?_cons_zero,List.getElem?_cons_succ] at hB0 hB1
  by_cases h2:ti=2
  ·subst h2
   go_wp2_with fail
   rw [Exit.noGoto_ret]
   go_ret
   exact .inr ⟨rfl,no_key hno,hC⟩
  ·have hti2:ti<2:=by omega
   have hidx:=idx_tab d ti hti2
   have htii:(ti:Int)<2:=by omega
   rw [H0.out,H1.out] at hidx ⊢
   cases htab:d.tab ti with
   | none =>
    rw [htab] at hidx
    simp only [t1Val] at hidx
    have HT:=Lib.hid htab
    clear htab
    go_wp2_with fail
    rw [Exit.noGoto_ret]
    go_ret
    refine .inr ⟨rfl,no_key ?_,hC⟩
    intro j t hj ht
    have:ti=1:=by
     have hne:ti≠0:=fun h0 => by subst h0;cases HT.out
     omega
    subst this
    rcases (by omega:j=0∨j=1) with rfl | rfl
    ·exact hno 0 t (by omega) ht
    ·rw [HT.out] at ht;cases ht
   | some t =>
    rw [htab] at hidx
    simp only [t1Val,tbVal] at hidx
    obtain ⟨htz,htin,htn⟩:=tab_ok hok htab
    obtain ⟨k,hk2,hk16,hklen⟩:=htz
    have hsl:∀ W,_:=fun W => slot_any t q k W hq32 hklen hk16
    have hpos:0<t.len:=by rw [hklen];exact Nat.one_le_two_pow
    have hi:q % t.len<t.len:=Nat.mod_lt _ hpos
    have hil:((q % t.len:Nat):Int)<(t.len:Int):=by omega
    obtain ⟨i,HI⟩:∃ i,Hid (q % t.len=i):=⟨_,rfl⟩
    rw [HI.out] at hsl hi hil
    unfold tbVal at hsl
    have HT:=Lib.hid htab
    have HK:=Lib.hid hklen
    clear htab hklen
    go_wp2_with (go_at_call 161;refine (hsl _).mono ?_;rintro e w' ⟨rfl,rfl⟩)
    refine wp_loop_ghost (fun m a V => ∃ (pre rest:Ch) (b9 b30 b31 b32 b33 b34 b35 b36 b37 b38 b39 b40 b41 b42 b43 b44 b45 b46 b47 b48 b49 b50 b51:Value),m=rest.length∧Hid (t.at i=pre++rest)∧Hid (∀ x∈pre,x.key≠key) ∧
     a={ tmps:=#[u0,u1,.func (.func f) #[] cap,u3,u4,u5,u6,.pointer (some ⟨B,0,none⟩),.bool false,b9,.slice (some ⟨t.blk,0,none⟩) t.len t.len,.pointer (some (loc t i pre)),u12,u13,u14,u15,u16,u17,.agg #[v0,v1],.int .i64 (ti:Int),.bool true,.slice (some ⟨t.blk,0,none⟩) t.len t.len,.slice (some ⟨t.blk,0,none⟩) t.len t.len,.bool false,.slice (some ⟨t.blk,0,none⟩) t.len t.len,.slice (some ⟨t.blk,0,none⟩) t.len t.len,.pointer (some ⟨B,0,none⟩),.int .u32 (q:Int),.int .i64 (i:Int),.pointer (some ⟨t.blk,i,none⟩),b30,b31,b32,b33,b34,b35,b36,b37,b38,b39,b40,b41,b42,b43,b44,b45,b46,b47,b48,b49,b50,b51],defers:=[] } ∧
     Blk V B 135 #[.int .u32 (q:Int),.string key]∧Chg (fun _ => False) w V) (t.at i).length ?_ ?_
    ·exact ⟨[],t.at i,_,_,_,_,_,_,_,_,_,_,_,_,_,_,_,_,_,_,_,_,_,_,_,rfl,rfl,fun _ h => (by cases h),rfl,hB,hC⟩
    ·rintro m a V ⟨pre,rest,b9,b30,b31,b32,b33,b34,b35,b36,b37,b38,b39,b40,b41,b42,b43,b44,b45,b46,b47,b48,b49,b50,b51,rfl,hpr,hpk,rfl,hB,hC⟩
     have hDV:=h.chg0 hC
     have hloc:=loc_cell (tab_at hDV HT.out) hi hpr.out
     have hB0:=hB.cell 0
     have hB1:=hB.cell 1
     simp only [List.getElem?_toArray,List.getElem?_cons_zero,List.getElem?_cons_succ] at hB0 hB1
     cases rest with
     | nil =>
      simp only [hd] at hloc
      go_wp2_with fail
      refine ⟨2 - (ti+1),by omega,ti+1,rfl,by omega,⟨rfl,rfl,rfl,rfl,by rw [H0.out,H1.out];rfl,rfl,rfl⟩,hB,hC,?_⟩
      intro j t' hj ht' x hx
      rcases Nat.lt_or_ge j ti with hlt | hge
      ·exact hno j t' hlt ht' x hx
      ·have:j=ti:=by omega
       subst this
       rw [HT.out] at ht'
       injection ht' with ht'
       subst ht'
       intro hkx
       obtain ⟨j',hj',hxj⟩:=mem_nodes.1 hx
       have hs:x.sum=q:=by rw [hok.sums x (htn x hx),hkx];exact HQ.out
       have hji:j'=i:=by rw [← htin j' x hj' hxj,hs];exact HI.out
       subst hji
       rw [hpr.out,List.append_nil] at hxj
       exact hpk.out x hxj hkx
     | cons y r =>
      simp only [hd,ptr] at hloc
      have hyc:y∈t.at i:=by rw [hpr.out];simp
      have hyn:y∈d.nodes:=htn y (mem_nodes.2 ⟨i,hi,hyc⟩)
      have hch:=(tab_at hDV HT.out).2 _ (Tb.at_mem hi)
      have hnode:=hch.node hpr.out
      have k0:=hnode.cell 0
      have k1:=hnode.cell 1
      simp only [ndCells,List.getElem?_toArray,List.getElem?_cons_zero,List.getElem?_cons_succ] at k0 k1
      by_cases hky:y.key=key
      ·have hs:y.sum=q:=by rw [hok.sums y hyn,hky];exact HQ.out
       rw [hs] at k0
       rw [hky] at k1
       have HKY:=Lib.hid hky
       clear hs hky
       go_wp2_with fail
       have hef':∀ (args:Array Value) (w:World),(callFunc f args).run Tryz.prog w=.ok (.enter f args) w:=hef
       go_quiet (fail)
       have hcall:=hdo ti t pre y r (V.drewN nq) HT.out (by rw [HI.out];exact hpr.out) HKY.out (hC.drewN nq)
       rw [HI.out] at hcall
       have hcall':=Lib.hid hcall
       clear hcall
       go_wp2_with fail
       refine hcall'.out.mono ?_
       rintro e5 V5 ⟨⟨v5,rfl⟩,hR5⟩
       go_wp2_with fail
       rw [Exit.noGoto_ret]
       go_ret
       exact .inl ⟨rfl,⟨y,hyn,HKY.out⟩,hR5⟩
      ·have hne:¬ y.key.toList=key.toList:=fun h' => hky (by
        rw [ByteArray.toList_eq,ByteArray.toList_eq] at h'
        cases hx:y.key;cases hy:key;simp_all)
       have HKY:=Lib.hid hky
       clear hky
       go_wp2_with fail
       go_quiet (fail)
       go_wp2_with fail
       refine ⟨r.length,Nat.lt_succ_self _,pre++[y],r,_,_,_,_,_,_,_,_,_,_,_,_,_,_,_,_,_,_,_,_,_,_,_,rfl,?_,?_,by rw [loc_snoc],hB.drewN _,hC.drewN _⟩
       ·show _=_;rw [hpr.out];simp
       ·intro x hx
        rcases List.mem_append.1 hx with hx | hx
        ·exact hpk.out x hx
        ·rw [List.mem_singleton.1 hx];exact HKY.out
end Go.Proofs.YtehpmbmdadkhbaaGreatDoor.Dint64

namespace Go.Proofs.YtehpmbmdadkhbaaGreatDoor.Dint64
open Go.RowKit Pal
set_option maxHeartbeats 400000 in
theorem get1_any (L:Addr) (x:Nd) (nx u:Value) (vb:Nat) (W:World) (hL:W.cell? L=some (ptr x.blk)) (hx:Blk W x.blk 277 (ndCells x nx)) (hv:W.cell? ⟨vb,0,none⟩=some u) (hf:W.frozen? ⟨vb,0,none⟩=false) (hok:VOk x.v) :
  Calls Tryz.prog 239 #[.pointer (some L),ptr vb] W fun e W' => (∃ v,e=.returned v)∧W.setCell ⟨vb,0,none⟩ x.v=W':=by
 have k2:=hx.cell 2
 simp only [ndCells,List.getElem?_toArray,List.getElem?_cons_zero,List.getElem?_cons_succ] at k2
 obtain ⟨xv,hxv⟩:=hok
 rw [hxv] at k2 ⊢
 unfold ptr at *
 clear hxv
 go_enter Tryz.func239,Tryz.ntmps239
 go_wp2
 go_end0
 exact ⟨⟨_,rfl⟩,rfl⟩
set_option maxRecDepth 100000 in
set_option maxHeartbeats 400000 in
theorem set1_any (L:Addr) (x:Nd) (nx u:Value) (vb:Nat) (W:World) (hL:W.cell? L=some (ptr x.blk)) (hx:Blk W x.blk 277 (ndCells x nx)) (hv:W.cell? ⟨vb,0,none⟩=some u) (hok:VOk u) :
  Calls Tryz.prog 150 #[.pointer (some L),ptr vb] W fun e W' => (∃ v,e=.returned v)∧(W.setCell ⟨x.blk,2,none⟩ u).drew=W':=by
 have k2:=hx.cell 2
 have f2:=hx.frozen 2
 simp only [ndCells,List.getElem?_toArray,List.getElem?_cons_zero,List.getElem?_cons_succ] at k2
 obtain ⟨n,rfl⟩:=hok
 unfold ptr at *
 go_enter Tryz.func150,Tryz.ntmps150
 go_wp2
 go_still_tail 6,(by kernel_rfl)
 go_wp2
 go_end0
 exact ⟨⟨_,rfl⟩,rfl⟩
set_option maxHeartbeats 400000 in
theorem delete1_any (L:Addr) (x:Nd) (c:Ch) (W:World) (hL:W.cell? L=some (ptr x.blk)) (hx:Blk W x.blk 277 (ndCells x (hd c))) (hf:W.frozen? L=false) :
  Calls Tryz.prog 238 #[.pointer (some L)] W fun e W' => (∃ v,e=.returned v)∧W.setCell L (hd c)=W':=by
 have k3:=hx.cell 3
 simp only [ndCells,List.getElem?_toArray,List.getElem?_cons_zero,List.getElem?_cons_succ] at k3
 obtain ⟨q,hq⟩:∃ q,hd c=.pointer q:=by cases c <;> exact ⟨_,rfl⟩
 rw [hq] at k3 ⊢
 unfold ptr at *
 clear hq
 go_enter Tryz.func238,Tryz.ntmps238
 go_wp2
 go_end0
 exact ⟨⟨_,rfl⟩,rfl⟩
def GetPost (d:Dm) (key:ByteArray) (w:World) (e:Ending) (w':World):Prop :=
 ((∃ x∈d.nodes,x.key=key∧e=.returned (.tuple #[x.v,.bool true]))∨((∀ x∈d.nodes,x.key≠key)∧e=.returned (.tuple #[.int .i64 0,.bool false])))∧DmAt w' (stepD d 1)∧Chg d.foot w w'
set_option maxRecDepth 100000 in
set_option maxHeartbeats 400000 in
theorem Get_any (d:Dm) (key:ByteArray) (w:World) (h:DmAt w d) (hok:d.Ok) (hk:key.size≤9223372036854775807) :
  Calls Tryz.prog 233 #[ptr d.blk,.string key] w (GetPost d key w):=by
 have hlt:=h.hd.lt
 obtain ⟨e,he⟩:∃ e,Hid (stepD d 1=e):=⟨_,rfl⟩
 have hE:e.Ok:=by rw [← he.out];exact moveN_ok hok _
 have hblk:e.blk=d.blk:=by rw [← he.out];exact (moveN_blk d _).1
 have hperm:e.nodes.Perm d.nodes:=by rw [← he.out];exact moveN_perm hok _
 have hfoot:∀ g,e.foot g→d.foot g:=fun g hg => moveN_foot hok _ (by rw [← he.out] at hg;exact hg)
 have hst:∀ w,DmAt w d→_:=fun w h => Step_any d 1 w h hok
 rw [he.out] at hst
 have HB:=Lib.hid hblk
 clear hblk
 unfold ptr at hst ⊢
 go_enter Tryz.func233,Tryz.ntmps233
 go_wp2_with fail
 refine (hst _ (h.chg0 ((Chg.refl _ w).alloc _))).mono ?_
 rintro e1 w1 ⟨rfl,hD1,hC1⟩
 have hbx:Blk w1 w.heap.size 2 #[.int .i64 0]:=(Blk.new w _ _).chg hC1 fun hg => Nat.lt_irrefl _ (h.lt hg)
 have hC:Chg d.foot w w1:=((Chg.refl d.foot w).alloc _).trans hC1
 go_wp2_with fail
 rw [← HB.out]
 refine (with_any e key 239 #[ptr w.heap.size] w1 hD1 hE hk (enters_of Tryz.func239 (by kernel_rfl) rfl)
  (fun W => ∃ x∈e.nodes,x.key=key∧W.cell? ⟨w.heap.size,0,none⟩=some x.v∧Chg (fun g => g=w.heap.size) w1 W) ?_).mono ?_
 ·intro ti t pre x post W htab hat hxk hC2
  have htz:=(tab_ok hE htab).1.pos
  have hi:sumN e.seed key.data.toList % t.len<t.len:=Nat.mod_lt _ (by omega)
  have hDW:=hD1.chg0 hC2
  have hta:=tab_at hDW htab
  have hbW:=hbx.chg hC2 id
  have hL:=loc_cell hta hi hat
  have hX:=(hta.2 _ (Tb.at_mem hi)).node hat
  have hxn:x∈e.nodes:=tab_nodes htab (mem_nodes.2 ⟨_,hi,by rw [hat];simp⟩)
  refine (get1_any _ x _ _ _ W hL hX (hbW.cell 0) (hbW.frozen 0) (hE.vok x hxn)).mono ?_
  rintro e5 W5 ⟨hv,rfl⟩
  exact ⟨hv,x,hxn,hxk,(hbW.set 0 x.v).cell 0,Chg.store (S:=fun g => g=w.heap.size) (hC2.mono (fun _ _ h => h.elim)) rfl 0 _⟩
 ·have hfin:∀ W2,Chg (fun g => g=w.heap.size) w1 W2→DmAt W2 e∧Chg d.foot w W2:=fun W2 h2 =>
   ⟨hD1.chg h2 fun g hg h' => Nat.lt_irrefl _ (h' ▸ h.lt (hfoot g hg)),hC.trans' h2 fun g hg h' => absurd hg (by omega)⟩
  rintro e5 W5 (⟨rfl,⟨x,hx,hxk⟩,y,hy,hyk,hcell,hC5⟩ | ⟨rfl,hno,hC5⟩)
  ·obtain ⟨h6,h7⟩:=hfin W5 hC5
   obtain ⟨u,hu⟩:=hE.vok y hy
   rw [hu] at hcell
   go_wp2_with fail
   go_ret2
   unfold GetPost
   rw [← hu,he.out]
   exact ⟨.inl ⟨y,hperm.mem_iff.1 hy,hyk,rfl⟩,h6,h7⟩
  ·obtain ⟨h6,h7⟩:=hfin W5 (hC5.mono (fun _ _ h => h.elim))
   have hcell:=(hbx.chg hC5 id).cell 0
   simp only [List.getElem?_toArray,List.getElem?_cons_zero] at hcell
   go_wp2_with fail
   go_ret2
   unfold GetPost
   rw [he.out]
   exact ⟨.inr ⟨fun x hx => hno x (hperm.mem_iff.2 hx),rfl⟩,h6,h7⟩
end Go.Proofs.YtehpmbmdadkhbaaGreatDoor.Dint64

namespace Go.Proofs.YtehpmbmdadkhbaaGreatDoor.Dint64
open Go.RowKit Pal
def Dm.upd (d:Dm) (ti:Nat) (t:Tb) (i:Nat) (c:Ch) (n:Nat):Dm:={ d.setTab ti (t.set i c) with n:=n }
def Dm.rest (d:Dm) (ti:Nat) (t:Tb) (i:Nat):List Nd:=(d.setTab ti (t.set i [])).nodes
theorem upd_perm {d:Dm} {ti:Nat} {t:Tb} (ht:d.tab ti=some t) {i:Nat} (hi:i<t.len) (c:Ch) (n:Nat):(d.upd ti t i c n).nodes.Perm (c++d.rest ti t i):=setTab_perm ht hi c
theorem rest_perm {d:Dm} {ti:Nat} {t:Tb} (ht:d.tab ti=some t) {i:Nat} (hi:i<t.len):d.nodes.Perm (t.at i++d.rest ti t i):=tab_perm ht hi
def Dm.in1 (d:Dm) (k:ByteArray):Prop:=∃ t,d.t1=some t∧∃ x∈t.nodes,x.key=k
theorem mem_set {t:Tb} {i:Nat} (hi:i<t.len) {c:Ch} {y:Nd}:y∈(t.set i c).nodes ↔ y∈c∨∃ j,j<t.len∧j≠i∧y∈t.at j:=by
 rw [mem_nodes,Tb.set_len]
 constructor
 ·rintro ⟨j,hj,hy⟩
  rw [Tb.set_at hi] at hy
  split at hy
  ·exact .inl hy
  ·rename_i hne
   exact .inr ⟨j,hj,fun e => hne e.symm,hy⟩
 ·rintro (hy | ⟨j,hj,hne,hy⟩)
  ·exact ⟨i,hi,by rw [Tb.set_at hi,if_pos rfl];exact hy⟩
  ·exact ⟨j,hj,by rw [Tb.set_at hi,if_neg (fun e => hne e.symm)];exact hy⟩
theorem tab1_of {d:Dm} {ti:Nat} {t:Tb} (ht:d.tab ti=some t) (h0:ti≠0):d.t1=some t:=by
 unfold Dm.tab at ht;rw [if_neg h0] at ht;exact ht
theorem upd_in1_0 {d:Dm} {ti:Nat} (t:Tb) (i:Nat) (c:Ch) (n:Nat) (h0:ti=0) (k:ByteArray):(d.upd ti t i c n).in1 k ↔ d.in1 k:=by
 unfold Dm.in1 Dm.upd Dm.setTab
 rw [if_pos h0]
theorem upd_in1_1 {d:Dm} {ti:Nat} {t:Tb} {i:Nat} (hi:i<t.len) (c:Ch) (n:Nat) (h0:ti≠0) (k:ByteArray):(d.upd ti t i c n).in1 k ↔ (∃ y∈c,y.key=k)∨∃ j,j<t.len∧j≠i∧∃ y∈t.at j,y.key=k:=by
 unfold Dm.in1 Dm.upd Dm.setTab
 rw [if_neg h0]
 constructor
 ·rintro ⟨u,hu,y,hy,hk⟩
  injection hu with hu
  subst hu
  rcases (mem_set hi).1 hy with h | ⟨j,h1,h2,h3⟩
  ·exact .inl ⟨y,h,hk⟩
  ·exact .inr ⟨j,h1,h2,y,h3,hk⟩
 ·rintro (⟨y,hy,hk⟩ | ⟨j,h1,h2,y,h3,hk⟩)
  ·exact ⟨_,rfl,y,(mem_set hi).2 (.inl hy),hk⟩
  ·exact ⟨_,rfl,y,(mem_set hi).2 (.inr ⟨j,h1,h2,h3⟩),hk⟩
theorem in1_split {d:Dm} {ti:Nat} {t:Tb} (ht:d.tab ti=some t) {i:Nat} (hi:i<t.len) (h0:ti≠0) (k:ByteArray):d.in1 k ↔ (∃ y∈t.at i,y.key=k)∨∃ j,j<t.len∧j≠i∧∃ y∈t.at j,y.key=k:=by
 have h1:=tab1_of ht h0
 constructor
 ·rintro ⟨u,hu,y,hy,hk⟩
  rw [h1] at hu
  injection hu with hu
  subst hu
  obtain ⟨j,hj,hyj⟩:=mem_nodes.1 hy
  by_cases e:j=i
  ·subst e;exact .inl ⟨y,hyj,hk⟩
  ·exact .inr ⟨j,hj,e,y,hyj,hk⟩
 ·rintro (⟨y,hy,hk⟩ | ⟨j,hj,_,y,hy,hk⟩)
  ·exact ⟨t,h1,y,mem_nodes.2 ⟨i,hi,hy⟩,hk⟩
  ·exact ⟨t,h1,y,mem_nodes.2 ⟨j,hj,hy⟩,hk⟩
theorem in1_nodes {d:Dm} {k:ByteArray} (h:d.in1 k):∃ x∈d.nodes,x.key=k:=by
 obtain ⟨t,ht,x,hx,hk⟩:=h
 exact ⟨x,mem_nodes1 ht hx,hk⟩
theorem upd_in1_same {d:Dm} {ti:Nat} {t:Tb} (ht:d.tab ti=some t) {i:Nat} (hi:i<t.len) {c:Ch} (n:Nat) (hc:c.map (·.key)=(t.at i).map (·.key)) (k:ByteArray):(d.upd ti t i c n).in1 k ↔ d.in1 k:=by
 by_cases h0:ti=0
 ·exact upd_in1_0 t i c n h0 k
 ·rw [upd_in1_1 hi c n h0,in1_split ht hi h0]
  have:(∃ y∈c,y.key=k) ↔ ∃ y∈t.at i,y.key=k:=by
   rw [← List.mem_map,← List.mem_map,hc]
  rw [this]
theorem upd_in1_push {d:Dm} {ti:Nat} {t:Tb} (ht:d.tab ti=some t) (hti:ti=0→d.t1=none) {i:Nat} (hi:i<t.len) (x:Nd) (n:Nat) (k:ByteArray):(d.upd ti t i (x :: t.at i) n).in1 k ↔ d.in1 k∨(k=x.key∧d.t1.isSome=true):=by
 by_cases h0:ti=0
 ·rw [upd_in1_0 t i _ n h0,hti h0]
  simp
 ·rw [upd_in1_1 hi _ n h0,in1_split ht hi h0,tab1_of ht h0]
  simp only [List.mem_cons,exists_eq_or_imp,Option.isSome_some,and_true]
  constructor
  ·rintro ((h | h) | h)
   ·exact .inr h.symm
   ·exact .inl (.inl h)
   ·exact .inl (.inr h)
  ·rintro ((h | h) | h)
   ·exact .inl (.inr h)
   ·exact .inr h
   ·exact .inl (.inl h.symm)
theorem upd_in1_cut {d:Dm} (hk:(d.nodes.map (·.key)).Nodup) {ti:Nat} {t:Tb} (ht:d.tab ti=some t) {i:Nat} (hi:i<t.len) {pre post:Ch} {x:Nd} (hat:t.at i=pre++x :: post) (n:Nat) (hp:d.nodes.Perm (x :: (d.upd ti t i (pre++post) n).nodes)) (k:ByteArray) :
  (d.upd ti t i (pre++post) n).in1 k ↔ d.in1 k∧k≠x.key:=by
 have hno:∀ k,(d.upd ti t i (pre++post) n).in1 k→k≠x.key:=by
  intro k h e
  obtain ⟨y,hy,hyk⟩:=in1_nodes h
  have h1:=(hp.map (·.key)).nodup_iff.1 hk
  rw [List.map_cons,List.nodup_cons] at h1
  exact h1.1 (List.mem_map.2 ⟨y,hy,hyk.trans e⟩)
 refine ⟨fun h => ⟨?_,hno k h⟩,fun ⟨h,hne⟩ => ?_⟩
 ·by_cases h0:ti=0
  ·exact (upd_in1_0 t i _ n h0 k).1 h
  ·rw [upd_in1_1 hi _ n h0] at h
   rw [in1_split ht hi h0]
   rcases h with ⟨y,hy,hyk⟩ | h
   ·refine .inl ⟨y,?_,hyk⟩
    rw [hat]
    rcases List.mem_append.1 hy with h' | h'
    ·exact List.mem_append.2 (.inl h')
    ·exact List.mem_append.2 (.inr (List.mem_cons_of_mem _ h'))
   ·exact .inr h
 ·by_cases h0:ti=0
  ·exact (upd_in1_0 t i _ n h0 k).2 h
  ·rw [upd_in1_1 hi _ n h0]
   rw [in1_split ht hi h0] at h
   rcases h with ⟨y,hy,hyk⟩ | h
   ·refine .inl ⟨y,?_,hyk⟩
    rw [hat] at hy
    rcases List.mem_append.1 hy with h' | h'
    ·exact List.mem_append.2 (.inl h')
    ·rcases List.mem_cons.1 h' with h' | h'
     ·exact absurd (by rw [← hyk,h']) hne
     ·exact List.mem_append.2 (.inr h')
   ·exact .inr h
theorem setTab_t0 {d:Dm} {ti:Nat} {t:Tb} (ht:d.tab ti=some t) (i:Nat) (c:Ch):(d.setTab ti (t.set i c)).t0.len=d.t0.len∧(d.setTab ti (t.set i c)).t1.map Tb.len=d.t1.map Tb.len∧(d.setTab ti (t.set i c)).blk=d.blk∧(d.setTab ti (t.set i c)).seed=d.seed∧(d.setTab ti (t.set i c)).at_=d.at_∧(d.setTab ti (t.set i c)).n=d.n:=by
 unfold Dm.tab at ht
 unfold Dm.setTab
 split at ht
 ·rename_i h0
  injection ht with ht
  subst ht
  rw [if_pos h0]
  exact ⟨Tb.set_len _ _ _,rfl,rfl,rfl,rfl,rfl⟩
 ·rename_i h0
  rw [if_neg h0]
  exact ⟨rfl,by rw [ht];simp [Tb.set_len],rfl,rfl,rfl,rfl⟩
theorem upd_ok {d:Dm} (h:d.Ok) {ti:Nat} {t:Tb} (ht:d.tab ti=some t) {i:Nat} (hi:i<t.len) {c:Ch} {n:Nat} (hin:∀ x∈c,x.sum % t.len=i) (hm:ti=0→i<d.at_→c=[])
  (hs:∀ x∈c,x.sum=sumN d.seed x.key.data.toList) (hv:∀ x∈c,VOk x.v) (hk:((c++d.rest ti t i).map (·.key)).Nodup) (hn:n=(c++d.rest ti t i).length):(d.upd ti t i c n).Ok:=by
 have hp:=upd_perm ht hi c n
 have hr:=rest_perm ht hi
 obtain ⟨e0,e1,e2,e3,e4,e5⟩:=setTab_t0 ht i c
 have hmem:∀ x∈(d.upd ti t i c n).nodes,x∈c∨x∈d.nodes:=fun x hx => by
  rcases List.mem_append.1 (hp.mem_iff.1 hx) with h | h
  ·exact .inl h
  ·exact .inr (hr.mem_iff.2 (List.mem_append.2 (.inr h)))
 have hsum:∀ x∈(d.upd ti t i c n).nodes,x.sum=sumN (d.upd ti t i c n).seed x.key.data.toList:=fun x hx => by
  have e:(d.upd ti t i c n).seed=d.seed:=e3
  rw [e]
  exact (hmem x hx).elim (hs x) (h.sums x)
 have hvok:∀ x∈(d.upd ti t i c n).nodes,VOk x.v:=fun x hx => (hmem x hx).elim (hv x) (h.vok x)
 have hkeys:((d.upd ti t i c n).nodes.map (·.key)).Nodup:=(hp.map _).nodup_iff.2 hk
 have hcount:(d.upd ti t i c n).n=(d.upd ti t i c n).nodes.length:=by rw [hp.length_eq];exact hn
 have hsz:=(tab_ok h ht).1
 have htin:=(tab_ok h ht).2.1
 have hinset:∀ j x,j<(t.set i c).len→x∈(t.set i c).at j→x.sum % (t.set i c).len=j:=fun j x hj hx => by
  rw [Tb.set_len] at hj ⊢
  rw [Tb.set_at hi] at hx
  split at hx
  ·rename_i e;rw [← e];exact hin x hx
  ·exact htin j x hj hx
 unfold Dm.tab at ht
 by_cases h0:ti=0
 ·rw [if_pos h0] at ht
  injection ht with ht
  have eu:d.upd ti t i c n={ d with t0:=t.set i c,n:=n }:=by unfold Dm.upd Dm.setTab;rw [if_pos h0]
  rw [eu] at hsum hvok hkeys hcount ⊢
  refine { seed:=h.seed,s0:=hsz.set i c,s1:=h.s1,in0:=hinset,in1:=h.in1,sums:=hsum,keys:=hkeys,vok:=hvok,count:=hcount,atlt:=fun u hu => ?_,at0:=h.at0,moved:=fun j hj => ?_ }
  ·show d.at_<(t.set i c).len
   rw [Tb.set_len,← ht];exact h.atlt u hu
  ·show (t.set i c).at j=[]
   have hj:j<d.at_:=hj
   rw [Tb.set_at hi]
   split
   ·rename_i e;exact hm h0 (by omega)
   ·rw [← ht];exact h.moved j hj
 ·rw [if_neg h0] at ht
  have eu:d.upd ti t i c n={ d with t1:=some (t.set i c),n:=n }:=by unfold Dm.upd Dm.setTab;rw [if_neg h0]
  rw [eu] at hsum hvok hkeys hcount ⊢
  refine { seed:=h.seed,s0:=h.s0,s1:=fun u hu => ?_,in0:=h.in0,in1:=fun u hu => ?_,sums:=hsum,keys:=hkeys,vok:=hvok,count:=hcount,atlt:=fun u hu => h.atlt t ht,at0:=fun e => (by cases e),moved:=h.moved }
  ·injection hu with hu;subst hu;exact hsz.set i c
  ·injection hu with hu;subst hu;exact hinset
theorem DmAt.num {w w':World} {d:Dm} (h:DmAt w d) (n:Nat) (hc:Chg (fun g => g=d.blk) w w') (hh:Blk w' d.blk 256 ((dmCells d).setIfInBounds 4 (.int .i64 (n:Int)))):DmAt w' { d with n:=n } :=
 h.head hc (by exact hh) rfl rfl
theorem chAt_setv {W:World} (v:Value) (x:Nd) (post:Ch):∀ (pre:Ch),chAt W (pre++x :: post)→((pre++x :: post).map (·.blk)).Nodup→chAt (W.setCell ⟨x.blk,2,none⟩ v) (pre++{ x with v:=v } :: post)
 | [],⟨h1,h2⟩,hn => by
  refine ⟨?_,h2.chg ((Chg.refl (fun g => g=x.blk) W).store rfl 2 v) fun y hy e => ?_⟩
  ·exact h1.set 2 v
  ·simp only [List.nil_append,List.map_cons,List.nodup_cons] at hn
   exact hn.1 (List.mem_map.2 ⟨y,hy,e⟩)
 | y :: pre,⟨h1,h2⟩,hn => by
  simp only [List.cons_append,List.map_cons,List.nodup_cons] at hn
  refine ⟨?_,chAt_setv v x post pre h2 hn.2⟩
  have hne:y.blk≠x.blk:=fun e => hn.1 (List.mem_map.2 ⟨x,by simp,e.symm⟩)
  have:=h1.far (p:=⟨x.blk,2,none⟩) hne v
  have e:hd (pre++x :: post)=hd (pre++{ x with v:=v } :: post):=by cases pre <;> rfl
  exact e ▸ this
theorem chAt_cut {W:World} (y x:Nd) (post:Ch):∀ (pre:Ch),chAt W (pre++y :: x :: post)→((pre++y :: x :: post).map (·.blk)).Nodup→chAt (W.setCell ⟨y.blk,3,none⟩ (hd post)) (pre++y :: post)
 | [],⟨h1,h2⟩,hn => by
  refine ⟨h1.set 3 (hd post),h2.2.chg ((Chg.refl (fun g => g=y.blk) W).store rfl 3 (hd post)) fun z hz e => ?_⟩
  simp only [List.nil_append,List.map_cons,List.nodup_cons] at hn
  exact hn.1 (List.mem_cons.2 (.inr (List.mem_map.2 ⟨z,hz,e⟩)))
 | z :: pre,⟨h1,h2⟩,hn => by
  simp only [List.cons_append,List.map_cons,List.nodup_cons] at hn
  refine ⟨?_,chAt_cut y x post pre h2 hn.2⟩
  have hne:z.blk≠y.blk:=fun e => hn.1 (List.mem_map.2 ⟨y,by simp,e.symm⟩)
  have:=h1.far (p:=⟨y.blk,3,none⟩) hne (hd post)
  have e:hd (pre++y :: x :: post)=hd (pre++y :: post):=by cases pre <;> rfl
  exact e ▸ this
theorem tbCells_same {t:Tb} {i:Nat} (hi:i<t.len) {c:Ch} (e:hd c=hd (t.at i)):tbCells (t.set i c)=tbCells t:=by
 rw [tbCells_set,e]
 apply Array.ext_getElem?
 intro j
 by_cases h:i=j
 ·subst h;rw [Array.getElem?_setIfInBounds_self_of_lt (by rw [tbCells_size];exact hi),tbCells_get hi]
 ·rw [Array.getElem?_setIfInBounds_ne h]
theorem nodup_at {W:World} {d:Dm} (h:DmAt W d) {ti:Nat} {t:Tb} (ht:d.tab ti=some t) {i:Nat} (hi:i<t.len) (c:Ch) (hc:(c.map (·.blk)).Sublist ((t.at i).map (·.blk))):((c++d.rest ti t i).map (·.blk)).Nodup:=by
 have hn:((t.at i++d.rest ti t i).map (·.blk)).Nodup:=((rest_perm ht hi).map _).nodup_iff.1 h.nodup
 rw [List.map_append] at hn ⊢
 exact hn.sublist (hc.append_right _)
end Go.Proofs.YtehpmbmdadkhbaaGreatDoor.Dint64

namespace Go.Proofs.YtehpmbmdadkhbaaGreatDoor.Dint64
open Go.RowKit Pal
def shape (d:Dm):Nat × Option Nat × Nat:=(d.t0.len,d.t1.map Tb.len,d.at_)
def growS (s:Nat × Option Nat × Nat) (n:Nat):Nat × Option Nat × Nat:=if s.2.1=none∧s.1≤n∧s.1<65536 then (s.1,some (sizeFor (2 * n:Nat)),s.2.2) else s
def shrinkS (s:Nat × Option Nat × Nat) (n:Nat):Nat × Option Nat × Nat:=if s.2.1=none∧4<s.1∧8 * n<s.1 then (s.1,some (sizeFor (n:Nat)),s.2.2) else s
structure SetPost (d:Dm) (key:ByteArray) (v:Value) (w:World) (e:Ending) (w':World) (d':Dm):Prop where
 dm:DmAt w' d'
 ok:d'.Ok
 blk:d'.blk=d.blk
 seed:d'.seed=d.seed
 chg:Chg d.foot w w'
 foot:∀ g,d'.foot g→d.foot g∨w.heap.size≤g
 place:∀ k,d'.in1 k ↔ (stepD d 1).in1 k∨(k=key∧d'.t1.isSome=true∧∀ x∈d.nodes,x.key≠key)
 what:(e=.returned (.bool false)∧(∃ x r,d.nodes.Perm (x :: r)∧x.key=key∧d'.nodes.Perm ({ x with v:=v } :: r))∧shape d'=shape (stepD d 1)) ∨
  (e=.returned (.bool true)∧(∀ x∈d.nodes,x.key≠key)∧(∃ x,x.key=key∧x.v=v∧d'.nodes.Perm (x :: d.nodes))∧shape d'=growS (shape (stepD d 1)) d.n)
theorem upd_setv {W:World} {e:Dm} (h:DmAt W e) (hok:e.Ok) {ti:Nat} {t:Tb} (ht:e.tab ti=some t) {i:Nat} (hi:i<t.len) {pre post:Ch} {x:Nd} (hat:t.at i=pre++x :: post) {v:Value} (hv:VOk v) :
  ∃ d',DmAt (W.setCell ⟨x.blk,2,none⟩ v) d'∧d'.Ok∧d'.blk=e.blk∧d'.seed=e.seed∧(∀ g,d'.foot g→e.foot g)∧(∃ r,e.nodes.Perm (x :: r)∧d'.nodes.Perm ({ x with v:=v } :: r))∧shape d'=shape e∧∀ k,d'.in1 k ↔ e.in1 k:=by
 have hta:=tab_at h ht
 obtain ⟨hsz,hin,hmem⟩:=tab_ok hok ht
 obtain ⟨e0,e1,e2,e3,e4,e5⟩:=setTab_t0 ht i (pre++{ x with v:=v } :: post)
 have hxt:x∈t.nodes:=mem_nodes.2 ⟨i,hi,by rw [hat];simp⟩
 have hxn:=hmem x hxt
 have hp0:=rest_perm ht hi
 have hp1:=upd_perm ht hi (pre++{ x with v:=v } :: post) e.n
 have hn:((pre++x :: post).map (·.blk)).Nodup:=by
  have:=((hp0.map (·.blk)).nodup_iff.1 h.nodup)
  rw [List.map_append,List.nodup_append] at this
  rw [← hat];exact this.1
 have hX:=(hta.2 _ (Tb.at_mem hi)).node hat
 have hch:chAt (W.setCell ⟨x.blk,2,none⟩ v) (pre++{ x with v:=v } :: post):=chAt_setv v x post pre (by rw [← hat];exact hta.2 _ (Tb.at_mem hi)) hn
 have hC:Chg (fun g => g=x.blk) W (W.setCell ⟨x.blk,2,none⟩ v):=Chg.store (S:=fun g => g=x.blk) (Chg.refl _ W) rfl 2 v
 have hmapb:(pre++{ x with v:=v } :: post).map (·.blk)=(t.at i).map (·.blk):=by rw [hat];simp
 have hmapk:(pre++{ x with v:=v } :: post).map (·.key)=(t.at i).map (·.key):=by rw [hat];simp
 have hdm:DmAt (W.setCell ⟨x.blk,2,none⟩ v) (e.setTab ti (t.set i (pre++{ x with v:=v } :: post))):=by
  refine upd_slot h ht hi _ hC (fun g hg => .inr (.inl ⟨x,by rw [hat];simp,hg⟩)) ?_ hch ?_
  ·rw [tbCells_same hi (by rw [hat];cases pre <;> rfl)]
   exact hta.1.far (p:=⟨x.blk,2,none⟩) (fun h' => hX.ne_type hta.1 (by decide) h'.symm) v
  ·exact (hp1.map _).nodup_iff.2 (nodup_at h ht hi _ (by rw [hmapb];exact List.Sublist.refl _))
 have hu:e.upd ti t i (pre++{ x with v:=v } :: post) e.n=e.setTab ti (t.set i (pre++{ x with v:=v } :: post)):=by
  unfold Dm.upd;rw [← e5]
 have hsub:∀ y∈pre++{ x with v:=v } :: post,y={ x with v:=v }∨y∈t.at i:=fun y hy => by
  rw [hat]
  simp only [List.mem_append,List.mem_cons] at hy ⊢
  rcases hy with h' | h' | h'
  ·exact .inr (.inl h')
  ·exact .inl h'
  ·exact .inr (.inr (.inr h'))
 have hinn:∀ y∈t.at i,y∈e.nodes:=fun y hy => hmem y (mem_nodes.2 ⟨i,hi,hy⟩)
 refine ⟨e.setTab ti (t.set i (pre++{ x with v:=v } :: post)),hdm,?_,e2,e3,?_,⟨pre++post++e.rest ti t i,?_,?_⟩,?_,fun k => by rw [← hu];exact upd_in1_same ht hi e.n hmapk k⟩
 ·rw [← hu]
  refine upd_ok hok ht hi (fun y hy => ?_) (fun h0 hlt => ?_) (fun y hy => ?_) (fun y hy => ?_) ?_ ?_
  ·rcases hsub y hy with rfl | h'
   ·exact hin i x hi (by rw [hat];simp)
   ·exact hin i y hi h'
  ·have ht0:t=e.t0:=by unfold Dm.tab at ht;rw [if_pos h0] at ht;injection ht with ht;exact ht.symm
   have:=hok.moved i hlt
   rw [← ht0,hat] at this
   cases pre <;> cases this
  ·rcases hsub y hy with rfl | h'
   ·exact hok.sums x hxn
   ·exact hok.sums y (hinn y h')
  ·rcases hsub y hy with rfl | h'
   ·exact hv
   ·exact hok.vok y (hinn y h')
  ·rw [List.map_append,hmapk,← List.map_append]
   exact ((hp0.map (·.key)).nodup_iff.1 hok.keys)
  ·have:=hp0.length_eq
   rw [hok.count,this,hat];simp
 ·intro g hg
  rcases hg with rfl | rfl | ⟨u,hu',rfl⟩ | ⟨y,hy,rfl⟩
  ·exact .inl e2
  ·unfold Dm.setTab
   split
   ·rename_i h0
    have ht0:t=e.t0:=by unfold Dm.tab at ht;rw [if_pos h0] at ht;injection ht with ht;exact ht.symm
    exact .inr (.inl (by rw [← ht0];rfl))
   ·exact .inr (.inl rfl)
  ·unfold Dm.setTab at hu'
   split at hu'
   ·exact .inr (.inr (.inl ⟨u,hu',rfl⟩))
   ·rename_i h0
    injection hu' with hu'
    have ht1:e.t1=some t:=by unfold Dm.tab at ht;rw [if_neg h0] at ht;exact ht
    exact .inr (.inr (.inl ⟨t,ht1,by rw [← hu'];rfl⟩))
  ·have hy':=hp1.mem_iff.1 hy
   rcases List.mem_append.1 hy' with h' | h'
   ·rcases hsub y h' with rfl | h''
    ·exact .inr (.inr (.inr ⟨x,hxn,rfl⟩))
    ·exact .inr (.inr (.inr ⟨y,hinn y h'',rfl⟩))
   ·exact .inr (.inr (.inr ⟨y,hp0.mem_iff.2 (List.mem_append.2 (.inr h')),rfl⟩))
 ·refine hp0.trans ?_
  rw [hat,List.append_assoc,List.append_assoc]
  exact List.perm_middle
 ·refine hp1.trans ?_
  rw [List.append_assoc,List.append_assoc]
  exact List.perm_middle
 ·show ((e.setTab ti _).t0.len,(e.setTab ti _).t1.map Tb.len,(e.setTab ti _).at_)=(e.t0.len,e.t1.map Tb.len,e.at_)
  rw [e0,e1,e4]
end Go.Proofs.YtehpmbmdadkhbaaGreatDoor.Dint64

namespace Go.Proofs.YtehpmbmdadkhbaaGreatDoor.Dint64
open Go.RowKit Pal
theorem upd_shape {e:Dm} {ti:Nat} {t:Tb} (ht:e.tab ti=some t) (i:Nat) (c:Ch) (n:Nat):shape (e.upd ti t i c n)=shape e:=by
 obtain ⟨e0,e1,e2,e3,e4,e5⟩:=setTab_t0 ht i c
 show ((e.setTab ti _).t0.len,(e.setTab ti _).t1.map Tb.len,(e.setTab ti _).at_)=(e.t0.len,e.t1.map Tb.len,e.at_)
 rw [e0,e1,e4]
theorem upd_foot {e:Dm} {ti:Nat} {t:Tb} (ht:e.tab ti=some t) {i:Nat} (hi:i<t.len) (c:Ch) (n:Nat) {g:Nat} (hg:(e.upd ti t i c n).foot g):e.foot g∨∃ y∈c,g=y.blk:=by
 obtain ⟨e0,e1,e2,e3,e4,e5⟩:=setTab_t0 ht i c
 rcases hg with rfl | rfl | ⟨u,hu',rfl⟩ | ⟨y,hy,rfl⟩
 ·exact .inl (.inl e2)
 ·refine .inl ?_
  show e.foot (e.setTab ti (t.set i c)).t0.blk
  unfold Dm.setTab
  split
  ·rename_i h0
   have ht0:t=e.t0:=by unfold Dm.tab at ht;rw [if_pos h0] at ht;injection ht with ht;exact ht.symm
   exact .inr (.inl (by rw [← ht0];rfl))
  ·exact .inr (.inl rfl)
 ·refine .inl ?_
  have hu':(e.setTab ti (t.set i c)).t1=some u:=hu'
  unfold Dm.setTab at hu'
  split at hu'
  ·exact .inr (.inr (.inl ⟨u,hu',rfl⟩))
  ·rename_i h0
   injection hu' with hu'
   have ht1:e.t1=some t:=by unfold Dm.tab at ht;rw [if_neg h0] at ht;exact ht
   exact .inr (.inr (.inl ⟨t,ht1,by rw [← hu'];rfl⟩))
 ·rcases List.mem_append.1 ((upd_perm ht hi c n).mem_iff.1 hy) with h' | h'
  ·exact .inr ⟨y,h',rfl⟩
  ·exact .inl (.inr (.inr (.inr ⟨y,(rest_perm ht hi).mem_iff.2 (List.mem_append.2 (.inr h')),rfl⟩)))
theorem upd_at {W:World} {e:Dm} {ti:Nat} {t:Tb} {i:Nat} {c:Ch} (n:Nat) {W':World} (h:DmAt W (e.setTab ti (t.set i c))) (hc:Chg (fun g => g=e.blk) W W') (hb:(e.setTab ti (t.set i c)).blk=e.blk)
  (hh:Blk W' e.blk 256 ((dmCells (e.setTab ti (t.set i c))).setIfInBounds 4 (.int .i64 (n:Int)))):DmAt W' (e.upd ti t i c n) :=
 h.num n (by rw [hb];exact hc) (by rw [hb];exact hh)
theorem upd_cells {e:Dm} {ti:Nat} {t:Tb} (ht:e.tab ti=some t) (i:Nat) (c:Ch):dmCells (e.setTab ti (t.set i c))=dmCells e:=by
 have hval:tbVal (t.set i c)=tbVal t:=by unfold tbVal;rw [Tb.set_len];rfl
 unfold Dm.tab at ht
 unfold Dm.setTab
 split at ht
 ·rename_i h0;injection ht with ht;rw [if_pos h0];unfold dmCells;dsimp only;rw [hval,ht]
 ·rename_i h0;rw [if_neg h0];unfold dmCells t1Val;dsimp only;rw [hval,ht]
theorem upd_push {W:World} {e:Dm} (h:DmAt W e) (hok:e.Ok) {ti:Nat} {t:Tb} (ht:e.tab ti=some t) (hti:ti=0→e.t1=none) {x:Nd} {nx:Value} (hx:Blk W x.blk 277 (ndCells x nx)) (hnew:¬ e.foot x.blk)
  (hs:x.sum=sumN e.seed x.key.data.toList) (hv:VOk x.v) (hno:∀ y∈e.nodes,y.key≠x.key) {W':World}
  (hW:(W.setCell ⟨x.blk,3,none⟩ (hd (t.at (x.sum % t.len)))).setCell ⟨t.blk,x.sum % t.len,none⟩ (ptr x.blk)=W') :
  ∃ d',(∀ W2,Chg (fun g => g=e.blk) W' W2→Blk W2 e.blk 256 ((dmCells e).setIfInBounds 4 (.int .i64 ((e.n:Int)+1)))→DmAt W2 d')∧Blk W' e.blk 256 (dmCells e)∧Chg (fun g => g=t.blk∨g=x.blk) W W' ∧
   d'.Ok∧d'.blk=e.blk∧d'.seed=e.seed∧(∀ g,d'.foot g→e.foot g∨g=x.blk)∧d'.nodes.Perm (x :: e.nodes)∧shape d'=shape e∧∀ k,d'.in1 k ↔ e.in1 k∨(k=x.key∧e.t1.isSome=true):=by
 subst hW
 have hta:=tab_at h ht
 obtain ⟨hsz,hin,hmem⟩:=tab_ok hok ht
 have hi:x.sum % t.len<t.len:=Nat.mod_lt _ (by have:=hsz.pos;omega)
 obtain ⟨e0,e1,e2,e3,e4,e5⟩:=setTab_t0 ht (x.sum % t.len) (x :: t.at (x.sum % t.len))
 have hp0:=rest_perm ht hi
 have hp1:=upd_perm ht hi (x :: t.at (x.sum % t.len)) (e.n+1)
 have hxt:x.blk≠t.blk:=hx.ne_type hta.1 (by decide)
 have hinn:∀ y∈t.at (x.sum % t.len),y∈e.nodes:=fun y hy => hmem y (mem_nodes.2 ⟨_,hi,hy⟩)
 have hC:Chg (fun g => g=t.blk∨g=x.blk) W ((W.setCell ⟨x.blk,3,none⟩ (hd (t.at (x.sum % t.len)))).setCell ⟨t.blk,x.sum % t.len,none⟩ (ptr x.blk)) :=
  Chg.store (S:=fun g => g=t.blk∨g=x.blk) (Chg.store (S:=fun g => g=t.blk∨g=x.blk) (Chg.refl _ W) (.inr rfl) 3 _) (.inl rfl) _ _
 have hT:=(hta.1.far (p:=⟨x.blk,3,none⟩) (fun e' => hxt e'.symm) (hd (t.at (x.sum % t.len)))).set (x.sum % t.len) (ptr x.blk)
 have hnodeblk:∀ y∈e.nodes,y.blk≠x.blk∧y.blk≠t.blk:=fun y hy => ⟨fun e' => hnew (e' ▸ .inr (.inr (.inr ⟨y,hy,rfl⟩))),by obtain ⟨nx',hb⟩:=h.node hy;exact hb.ne_type hta.1 (by decide)⟩
 have hch:chAt ((W.setCell ⟨x.blk,3,none⟩ (hd (t.at (x.sum % t.len)))).setCell ⟨t.blk,x.sum % t.len,none⟩ (ptr x.blk)) (x :: t.at (x.sum % t.len)):=by
  refine ⟨?_,(hta.2 _ (Tb.at_mem hi)).chg hC fun y hy hS => ?_⟩
  ·have hb:=(hx.set 3 (hd (t.at (x.sum % t.len)))).far (p:=⟨t.blk,x.sum % t.len,none⟩) hxt (ptr x.blk)
   exact hb
  ·have:=hnodeblk y (hinn y hy)
   rcases hS with h' | h'
   ·exact this.2 h'
   ·exact this.1 h'
 have hndb:((x :: t.at (x.sum % t.len)++e.rest ti t (x.sum % t.len)).map (·.blk)).Nodup:=by
  rw [List.cons_append,List.map_cons,List.nodup_cons]
  refine ⟨fun hm => ?_,(hp0.map (·.blk)).nodup_iff.1 h.nodup⟩
  obtain ⟨y,hy,hyb⟩:=List.mem_map.1 hm
  exact (hnodeblk y (hp0.mem_iff.2 hy)).1 hyb
 have hndk:((x :: t.at (x.sum % t.len)++e.rest ti t (x.sum % t.len)).map (·.key)).Nodup:=by
  rw [List.cons_append,List.map_cons,List.nodup_cons]
  refine ⟨fun hm => ?_,(hp0.map (·.key)).nodup_iff.1 hok.keys⟩
  obtain ⟨y,hy,hyb⟩:=List.mem_map.1 hm
  exact hno y (hp0.mem_iff.2 hy) hyb
 have hdm:DmAt ((W.setCell ⟨x.blk,3,none⟩ (hd (t.at (x.sum % t.len)))).setCell ⟨t.blk,x.sum % t.len,none⟩ (ptr x.blk)) (e.setTab ti (t.set (x.sum % t.len) (x :: t.at (x.sum % t.len)))):=by
  refine upd_slot h ht hi _ hC (fun g hg => ?_) ?_ hch ?_
  ·rcases hg with h' | h'
   ·exact .inl h'
   ·exact .inr (.inr (by rw [h'];exact hnew))
  ·rw [tbCells_set];exact hT
  ·exact (hp1.map _).nodup_iff.2 hndb
 refine ⟨e.upd ti t (x.sum % t.len) (x :: t.at (x.sum % t.len)) (e.n+1),fun W2 hc2 hb2 => upd_at _ hdm hc2 e2 (by rw [upd_cells ht];exact hb2),?_,hC,?_,e2,e3,?_,?_,upd_shape ht _ _ _,upd_in1_push ht hti hi x _⟩
 ·have:=hdm.hd
  rw [upd_cells ht,e2] at this
  exact this
 ·refine upd_ok hok ht hi (fun y hy => ?_) (fun h0 hlt => ?_) (fun y hy => ?_) (fun y hy => ?_) hndk ?_
  ·rcases List.mem_cons.1 hy with rfl | h'
   ·rfl
   ·exact hin _ y hi h'
  ·have:=hok.at0 (hti h0);omega
  ·rcases List.mem_cons.1 hy with rfl | h'
   ·exact hs
   ·exact hok.sums y (hinn y h')
  ·rcases List.mem_cons.1 hy with rfl | h'
   ·exact hv
   ·exact hok.vok y (hinn y h')
  ·have:=hp0.length_eq
   rw [hok.count,this];simp
 ·intro g hg
  rcases upd_foot ht hi _ _ hg with h' | ⟨y,hy,rfl⟩
  ·exact .inl h'
  ·rcases List.mem_cons.1 hy with rfl | h'
   ·exact .inr rfl
   ·exact .inl (.inr (.inr (.inr ⟨y,hinn y h',rfl⟩)))
 ·refine hp1.trans ?_
  rw [List.cons_append]
  exact List.Perm.cons x hp0.symm
theorem upd_cut {W:World} {e:Dm} (h:DmAt W e) (hok:e.Ok) {ti:Nat} {t:Tb} (ht:e.tab ti=some t) {i:Nat} (hi:i<t.len) {pre post:Ch} {x:Nd} (hat:t.at i=pre++x :: post) {W':World} (hW:W.setCell (loc t i pre) (hd post)=W') :
  ∃ d',(∀ W2,Chg (fun g => g=e.blk) W' W2→Blk W2 e.blk 256 ((dmCells e).setIfInBounds 4 (.int .i64 ((e.n:Int) - 1)))→DmAt W2 d')∧Blk W' e.blk 256 (dmCells e)∧Chg e.foot W W'∧1≤e.n ∧
   d'.Ok∧d'.blk=e.blk∧d'.seed=e.seed∧(∀ g,d'.foot g→e.foot g)∧e.nodes.Perm (x :: d'.nodes)∧shape d'=shape e∧∀ k,d'.in1 k ↔ e.in1 k∧k≠x.key:=by
 subst hW
 have hta:=tab_at h ht
 obtain ⟨hsz,hin,hmem⟩:=tab_ok hok ht
 obtain ⟨e0,e1,e2,e3,e4,e5⟩:=setTab_t0 ht i (pre++post)
 have hp0:=rest_perm ht hi
 have hp1:=upd_perm ht hi (pre++post) (e.n - 1)
 have hchain:=hta.2 _ (Tb.at_mem hi)
 have hinn:∀ y∈t.at i,y∈e.nodes:=fun y hy => hmem y (mem_nodes.2 ⟨_,hi,hy⟩)
 have hsub:(pre++post).Sublist (t.at i):=by rw [hat];exact List.Sublist.append_left (List.sublist_cons_self x post) pre
 have hndb:=nodup_at h ht hi (pre++post) (hsub.map _)
 have hn:((t.at i).map (·.blk)).Nodup:=by
  have:=((hp0.map (·.blk)).nodup_iff.1 h.nodup)
  rw [List.map_append,List.nodup_append] at this
  exact this.1
 have hall:e.nodes.Perm (x :: (pre++post++e.rest ti t i)):=by
  refine hp0.trans ?_
  rw [hat,List.append_assoc,List.append_assoc]
  exact List.perm_middle
 have hcnt:e.n=(pre++post++e.rest ti t i).length+1:=by rw [hok.count,hall.length_eq];rfl
 have main:DmAt (W.setCell (loc t i pre) (hd post)) (e.setTab ti (t.set i (pre++post)))∧Chg e.foot W (W.setCell (loc t i pre) (hd post)):=by
  rcases List.eq_nil_or_concat pre with rfl | ⟨p,y,hpy⟩
  ·rw [loc_nil]
   have hC:Chg (fun g => g=t.blk) W (W.setCell ⟨t.blk,i,none⟩ (hd post)):=Chg.store (S:=fun g => g=t.blk) (Chg.refl _ W) rfl _ _
   rw [hat,List.nil_append] at hchain
   refine ⟨upd_slot h ht hi _ hC (fun g hg => .inl hg) ?_ ?_ ((hp1.map _).nodup_iff.2 hndb),hC.mono fun g _ hg => hg ▸ tab_foot ht⟩
   ·rw [tbCells_set];exact hta.1.set i (hd post)
   ·refine chAt.chg hC hchain.2 fun y hy hS => ?_
    obtain ⟨nx,hb⟩:=hta.node (mem_nodes.2 ⟨i,hi,by rw [hat];exact List.mem_cons_of_mem x hy⟩:y∈t.nodes)
    exact hb.ne_type hta.1 (by decide) hS
  ·rw [List.concat_eq_append] at hpy
   subst hpy
   rw [loc_snoc]
   rw [List.append_assoc] at hat
   have hyn:y∈t.at i:=by rw [hat];simp
   obtain ⟨nx,hyb⟩:=hta.node (mem_nodes.2 ⟨i,hi,hyn⟩:y∈t.nodes)
   have hC:Chg (fun g => g=y.blk) W (W.setCell ⟨y.blk,3,none⟩ (hd post)):=Chg.store (S:=fun g => g=y.blk) (Chg.refl _ W) rfl _ _
   rw [hat] at hchain hn
   refine ⟨upd_slot h ht hi _ hC (fun g hg => .inr (.inl ⟨y,hyn,hg⟩)) ?_ ?_ ((hp1.map _).nodup_iff.2 hndb),hC.mono fun g _ hg => hg ▸ .inr (.inr (.inr ⟨y,hinn y hyn,rfl⟩))⟩
   ·rw [tbCells_same hi (by rw [hat];cases p <;> rfl)]
    exact hta.1.far (p:=⟨y.blk,3,none⟩) (fun h' => hyb.ne_type hta.1 (by decide) h'.symm) _
   ·have:=chAt_cut y x post p hchain hn
    rw [List.append_assoc];exact this
 obtain ⟨hdm,hC⟩:=main
 refine ⟨e.upd ti t i (pre++post) (e.n - 1),fun W2 hc2 hb2 => upd_at _ hdm hc2 e2 (by rw [upd_cells ht,Int.ofNat_sub (by omega)];exact hb2),?_,hC,by omega,?_,e2,e3,?_,?_,upd_shape ht _ _ _,upd_in1_cut hok.keys ht hi hat _ (hall.trans (List.Perm.cons x hp1.symm))⟩
 ·have:=hdm.hd
  rw [upd_cells ht,e2] at this
  exact this
 ·refine upd_ok hok ht hi (fun y hy => hin i y hi (hsub.subset hy)) (fun h0 hlt => ?_) (fun y hy => hok.sums y (hinn y (hsub.subset hy))) (fun y hy => hok.vok y (hinn y (hsub.subset hy))) ?_ (by omega)
  ·have ht0:t=e.t0:=by unfold Dm.tab at ht;rw [if_pos h0] at ht;injection ht with ht;exact ht.symm
   have:=hok.moved i hlt
   rw [← ht0,hat] at this
   cases pre <;> cases this
  ·have:=(hall.map (·.key)).nodup_iff.1 hok.keys
   rw [List.map_cons,List.nodup_cons] at this
   exact this.2
 ·intro g hg
  rcases upd_foot ht hi _ _ hg with h' | ⟨y,hy,rfl⟩
  ·exact h'
  ·exact .inr (.inr (.inr ⟨y,hinn y (hsub.subset hy),rfl⟩))
 ·exact hall.trans (List.Perm.cons x hp1.symm)
end Go.Proofs.YtehpmbmdadkhbaaGreatDoor.Dint64

namespace Go.Proofs.YtehpmbmdadkhbaaGreatDoor.Dint64
open Go.RowKit Pal
def SetR (e:Dm) (key:ByteArray) (v:Value) (w1 w':World):Prop :=
 ∃ d',DmAt w' d'∧d'.Ok∧d'.blk=e.blk∧d'.seed=e.seed∧(∀ g,d'.foot g→e.foot g)∧(∃ x r,x.key=key∧e.nodes.Perm (x :: r)∧d'.nodes.Perm ({ x with v:=v } :: r))∧shape d'=shape e∧(∀ k,d'.in1 k ↔ e.in1 k)∧Chg e.foot w1 w'
theorem set_with (e:Dm) (key:ByteArray) (v:Value) (vb:Nat) (w1:World) (hD1:DmAt w1 e) (hE:e.Ok) (hk:key.size≤9223372036854775807) (hv:VOk v) (hbx:Blk w1 vb 2 #[v]) :
  Calls Tryz.prog 149 #[ptr e.blk,.string key,.func (.func 150) #[] #[ptr vb]] w1 (WithPost e key w1 (SetR e key v w1)):=by
 refine with_any e key 150 #[ptr vb] w1 hD1 hE hk (enters_of Tryz.func150 (by kernel_rfl) rfl) (SetR e key v w1) ?_
 intro ti t pre x post W htab hat hxk hC2
 have htz:=(tab_ok hE htab).1.pos
 have hi:sumN e.seed key.data.toList % t.len<t.len:=Nat.mod_lt _ (by omega)
 have hDW:=hD1.chg0 hC2
 have hta:=tab_at hDW htab
 have hbW:=hbx.chg hC2 id
 have hL:=loc_cell hta hi hat
 have hX:=(hta.2 _ (Tb.at_mem hi)).node hat
 refine (set1_any _ x _ _ _ W hL hX (hbW.cell 0) hv).mono ?_
 rintro e5 W5 ⟨hv5,rfl⟩
 obtain ⟨d',h1,h2,h3,h4,h5,⟨r,h6,h7⟩,h8,h9⟩:=upd_setv hDW hE htab hi hat hv
 have hxn:x∈e.nodes:=tab_nodes htab (mem_nodes.2 ⟨_,hi,by rw [hat];simp⟩)
 exact ⟨hv5,d',h1.chg0 ((Chg.refl _ _).drew),h2,h3,h4,h5,⟨x,r,hxk,h6,h7⟩,h8,h9,((Chg.store (S:=e.foot) (hC2.mono (fun _ _ h => h.elim)) (.inr (.inr (.inr ⟨x,hxn,rfl⟩))) 2 v)).drew⟩
theorem fresh_ok {d:Dm} (h:d.Ok) (ht:d.t1=none) (b:Nat) (n:Int):({ d with t1:=some ⟨b,List.replicate (sizeFor n) []⟩ }:Dm).Ok∧({ d with t1:=some ⟨b,List.replicate (sizeFor n) []⟩ }:Dm).nodes=d.nodes:=by
 have hn:({ d with t1:=some ⟨b,List.replicate (sizeFor n) []⟩ }:Dm).nodes=d.nodes:=by
  unfold Dm.nodes Dm.nodes1 Tb.nodes;rw [ht];simp
 have hat:∀ i,(⟨b,List.replicate (sizeFor n) []⟩:Tb).at i=[]:=fun i => by
  unfold Tb.at
  rw [List.getD_eq_getElem?_getD,List.getElem?_replicate]
  split <;> rfl
 have h0:=h.s0.pos
 refine ⟨{ seed:=h.seed,s0:=h.s0,s1:=fun t e => ?_,in0:=h.in0,in1:=fun t e i x _ hx => ?_,sums:=by rw [hn];exact h.sums,keys:=by rw [hn];exact h.keys,vok:=by rw [hn];exact h.vok,count:=by rw [hn];exact h.count,atlt:=fun t e => ?_,at0:=fun e => (by cases e),moved:=h.moved },hn⟩
 ·injection e with e
  obtain ⟨k,h2,h16,hk,_⟩:=sizeFor_spec n
  exact ⟨k,h2,h16,by rw [← e];unfold Tb.len;simpa using hk⟩
 ·injection e with e
  subst e
  rw [hat i] at hx
  cases hx
 ·show d.at_<d.t0.len
  have:=h.at0 ht
  omega
theorem moves_dm (e:Dm) (n:Int) (w:World) (h:DmAt w e) (hok:e.Ok) (ht:e.t1=none) :
  Calls Tryz.prog 152 #[ptr e.blk,.int .i64 n] w fun r w' => (∃ v,r=.returned v)∧∃ e2 t,DmAt w' e2∧e2.Ok∧e2.blk=e.blk∧e2.seed=e.seed∧e2.n=e.n∧e2.nodes=e.nodes ∧
   (∀ g,e2.foot g→e.foot g∨w.heap.size≤g)∧Chg (fun g => g=e.blk) w w'∧e2.t1=some t∧shape e2=(e.t0.len,some (sizeFor n),e.at_)∧∀ k,e2.in1 k ↔ e.in1 k:=by
 refine (moves_any e n w h ht).mono ?_
 rintro r w' ⟨hr,b,hb,hD,hC⟩
 obtain ⟨f1,f2⟩:=fresh_ok hok ht b n
 refine ⟨hr,_,_,hD,f1,rfl,rfl,rfl,f2,fun g hg => ?_,hC,rfl,?_,fun k => ?_⟩
 ·rcases hg with h' | h' | ⟨t,ht',h'⟩ | ⟨x,hx,h'⟩
  ·exact .inl (.inl h')
  ·exact .inl (.inr (.inl h'))
  ·injection ht' with ht'
   subst ht'
   exact .inr (by rw [h'];exact hb)
  ·rw [f2] at hx
   exact .inl (.inr (.inr (.inr ⟨x,hx,h'⟩)))
 ·unfold shape Tb.len;simp
 ·unfold Dm.in1
  rw [ht]
  constructor
  ·rintro ⟨t,he,x,hx,_⟩
   injection he with he
   subst he
   unfold Tb.nodes at hx
   simp at hx
  ·rintro ⟨t,he,_⟩
   cases he
theorem put_new (e:Dm) (ti:Nat) (t:Tb) (q:Nat) (key:ByteArray) (v:Value) (w9:World) (h:DmAt w9 e) (hok:e.Ok) (ht:e.tab ti=some t) (hti:ti=0→e.t1=none) (hno:∀ x∈e.nodes,x.key≠key) (hq:sumN e.seed key.data.toList=q) (hv:VOk v) :
  Calls Tryz.prog 153 #[tbVal t,.slice (some ⟨w9.heap.size+1,0,none⟩) 1 1] ((w9.alloc (.cells #[.int .u32 (q:Int),.string key,v,.pointer none] 277)).alloc (.cells #[.pointer (some ⟨w9.heap.size,0,none⟩)] 275)) fun r W' => (∃ v,r=.returned v) ∧
   ∃ d',(∀ W2,Chg (fun g => g=e.blk) W' W2→Blk W2 e.blk 256 ((dmCells e).setIfInBounds 4 (.int .i64 ((e.n:Int)+1)))→DmAt W2 d')∧Blk W' e.blk 256 (dmCells e)∧Chg e.foot w9 W' ∧
   d'.Ok∧d'.blk=e.blk∧d'.seed=e.seed∧(∀ g,d'.foot g→e.foot g∨w9.heap.size≤g)∧(∃ x,x.key=key∧x.v=v∧d'.nodes.Perm (x :: e.nodes))∧shape d'=shape e∧∀ k,d'.in1 k ↔ e.in1 k∨(k=key∧e.t1.isSome=true):=by
 have hC:Chg (fun _ => False) w9 ((w9.alloc (.cells #[.int .u32 (q:Int),.string key,v,.pointer none] 277)).alloc (.cells #[.pointer (some ⟨w9.heap.size,0,none⟩)] 275)):=((Chg.refl _ w9).alloc _).alloc _
 have hx:Blk ((w9.alloc (.cells #[.int .u32 (q:Int),.string key,v,.pointer none] 277)).alloc (.cells #[.pointer (some ⟨w9.heap.size,0,none⟩)] 275)) w9.heap.size 277 #[.int .u32 (q:Int),.string key,v,.pointer none]:=(Blk.new w9 _ _).alloc _
 have hb:Blk ((w9.alloc (.cells #[.int .u32 (q:Int),.string key,v,.pointer none] 277)).alloc (.cells #[.pointer (some ⟨w9.heap.size,0,none⟩)] 275)) (w9.heap.size+1) 275 #[.pointer (some ⟨w9.heap.size,0,none⟩)]:=by
  have:=Blk.new (w9.alloc (.cells #[.int .u32 (q:Int),.string key,v,.pointer none] 277)) 275 #[.pointer (some ⟨w9.heap.size,0,none⟩)]
  rw [World.size_alloc] at this
  exact this
 generalize (w9.alloc (.cells #[.int .u32 (q:Int),.string key,v,.pointer none] 277)).alloc (.cells #[.pointer (some ⟨w9.heap.size,0,none⟩)] 275)=W at hC hx hb ⊢
 have hDW:=h.chg0 hC
 have hqlt:q<4294967296:=by rw [← hq];exact sumN_lt _ _
 have hp:=put_any t ⟨w9.heap.size,q,key,v⟩ (.pointer none) (w9.heap.size+1) W (tab_ok hok ht).1 hqlt (tab_at hDW ht).1 hx (hb.cell 0)
 refine hp.mono ?_
 rintro r W' ⟨hr,hW'⟩
 obtain ⟨d',g1,g2,g3,g4,g5,g6,g7,g8,g9,g10⟩:=upd_push hDW hok ht hti (x:=⟨w9.heap.size,q,key,v⟩) hx (fun hf => Nat.lt_irrefl _ (h.lt hf)) hq.symm hv hno hW'
 refine ⟨hr,d',g1,g2,(hC.mono (fun _ _ h => h.elim)).trans' g3 ?_,g4,g5,g6,fun g hg => (g7 g hg).imp id fun e => by rw [e];exact Nat.le_refl _,⟨_,rfl,rfl,g8⟩,g9,g10⟩
 rintro g hg (rfl | rfl)
 ·exact tab_foot ht
 ·exact absurd hg (Nat.lt_irrefl _)
theorem place_new {d e f d':Dm} {key:ByteArray} (he:stepD d 1=e) (hp:e.nodes.Perm d.nodes) (hno:∀ x∈e.nodes,x.key≠key) (hs:shape d'=shape f) (h:∀ k,d'.in1 k ↔ e.in1 k∨(k=key∧f.t1.isSome=true)) :
  ∀ k,d'.in1 k ↔ (stepD d 1).in1 k∨(k=key∧d'.t1.isSome=true∧∀ x∈d.nodes,x.key≠key):=by
 intro k
 have h1:d'.t1.isSome=f.t1.isSome:=by
  have h2:d'.t1.map Tb.len=f.t1.map Tb.len:=congrArg (fun s => s.2.1) hs
  have h3:=congrArg Option.isSome h2
  simpa using h3
 rw [he,h k,h1]
 exact or_congr_right (and_congr_right fun _ => ⟨fun h => ⟨h,fun x hx => hno x (hp.mem_iff.2 hx)⟩,fun h => h.1⟩)
set_option maxRecDepth 100000 in
set_option maxHeartbeats 1000000 in
theorem Set_any (d:Dm) (key:ByteArray) (v:Value) (w:World) (h:DmAt w d) (hok:d.Ok) (hk:key.size≤9223372036854775807) (hv:VOk v) (hn:d.n<1152921504606846976) :
  Calls Tryz.prog 139 #[ptr d.blk,.string key,v] w fun e w' => ∃ d',SetPost d key v w e w' d':=by
 have hlt:=h.hd.lt
 have hn':(d.n:Int)<1152921504606846976:=by omega
 obtain ⟨e,he⟩:∃ e,Hid (stepD d 1=e):=⟨_,rfl⟩
 have hE:e.Ok:=by rw [← he.out];exact moveN_ok hok _
 have hblk:e.blk=d.blk:=by rw [← he.out];exact (moveN_blk d _).1
 have hseed:e.seed=d.seed:=by rw [← he.out];exact (moveN_blk d _).2.1
 have hen:e.n=d.n:=by rw [← he.out];exact (moveN_blk d _).2.2
 rw [← hen] at hn'
 have hperm:e.nodes.Perm d.nodes:=by rw [← he.out];exact moveN_perm hok _
 have hfoot:∀ g,e.foot g→d.foot g:=fun g hg => moveN_foot hok _ (by rw [← he.out] at hg;exact hg)
 have hst:∀ w,DmAt w d→_:=fun w h => Step_any d 1 w h hok
 rw [he.out] at hst
 have HB:=Lib.hid hblk
 have HN:=Lib.hid hen
 have HS:=Lib.hid hseed
 have HV:=hv
 obtain ⟨vv,rfl⟩:=hv
 have hsw:∀ w1,DmAt w1 e→∀ vb,Blk w1 vb 2 #[(.int .i64 vv)]→_:=fun w1 h1 vb hb => set_with e key _ vb w1 h1 hE hk HV hb
 clear hblk hen hseed
 unfold ptr at hst hsw ⊢
 rw [HB.out] at hsw
 go_enter Tryz.func139,Tryz.ntmps139
 go_wp2_with fail
 refine (hst _ (h.chg0 ((Chg.refl _ w).alloc _))).mono ?_
 rintro e1 w1 ⟨rfl,hD1,hC1⟩
 have hbx:Blk w1 w.heap.size 2 #[.int .i64 vv]:=(Blk.new w _ _).chg hC1 fun hg => Nat.lt_irrefl _ (h.lt hg)
 have hC:Chg d.foot w w1:=((Chg.refl d.foot w).alloc _).trans hC1
 go_wp2_with fail
 refine (hsw w1 hD1 w.heap.size hbx).mono ?_
 rintro e5 W5 (⟨rfl,⟨y,hy,hyk⟩,d',hR1,hR2,hR3,hR4,hR5,⟨x,r,hR6,hR7,hR8⟩,hR9,hR11,hR10⟩ | ⟨rfl,hno,hC5⟩)
 ·go_wp2_with fail
  go_ret
  exact ⟨d',hR1,hR2,hR3.trans HB.out,hR4.trans HS.out,hC.trans' hR10 (fun g _ hg => hfoot g hg),fun g hg => .inl (hfoot g (hR5 g hg)),
   fun k => by rw [he.out,hR11 k];exact ⟨.inl,fun h => h.elim id fun h => absurd hR6 (h.2.2 x (hperm.mem_iff.1 (hR7.mem_iff.2 List.mem_cons_self)))⟩,
   .inl ⟨rfl,⟨x,r,hperm.symm.trans hR7,hR6,hR8⟩,by rw [hR9,he.out]⟩⟩
 ·have hD5:=hD1.chg0 hC5
  have hbx5:=hbx.chg hC5 id
  have kb5:=hbx5.cell 0
  simp only [List.getElem?_toArray,List.getElem?_cons_zero] at kb5
  have hC':=hC.trans' hC5 fun _ _ h => h.elim
  clear hD1 hC1 hbx hC hsw hst
  obtain ⟨c0,c1,c2,c3,c4,cf,clt⟩:=dm_cells hD5
  rw [HB.out] at c0 c1 c2 c3 c4 cf clt
  have hmv:∀ W,DmAt W e→_:=fun W h => isMoving_any e W h
  unfold ptr at hmv
  rw [HB.out] at hmv
  have hlen:=hE.s0.pos
  obtain ⟨q,HQ⟩:∃ q,Hid (sumN e.seed key.data.toList=q):=⟨_,rfl⟩
  have hof:∀ W,DmAt W e→_:=fun W h => of_any e key W h hE.seed hk
  unfold ptr at hof
  rw [HB.out,HQ.out] at hof
  cases ht:e.t1 with
  | some t =>
   rw [ht] at hmv c2
   have HT:=Lib.hid ht
   simp only [t1Val,tbVal] at c1 c2
   clear ht
   go_wp2_with (go_at_call 151;refine (hmv _ hD5).mono ?_;rintro e8 w8 ⟨rfl,rfl⟩)
   have hpt:∀ W,DmAt W e→_:=fun W h => put_new e 1 t q key _ W h hE HT.out (fun h => by cases h) hno HQ.out HV
   unfold tbVal at hpt
   go_region_with (first
    | (go_at_call 154;refine (hof _ (hD5.chg0 ((Chg.refl _ _).drew))).mono ?_;rintro e9 w9 ⟨rfl,hc9⟩;have hC9:=(Chg.refl _ W5).drew.trans hc9;have kbx:=(hbx5.chg hC9 id).cell 0;simp only [List.getElem?_toArray,List.getElem?_cons_zero] at kbx)
    | (go_at_call 153;refine (hpt w9 (hD5.chg0 hC9)).mono ?_;rintro e10 w10 ⟨⟨v10,rfl⟩,d',g1,g2,g3,g4,g5,g6,g7,g8,g9,g10⟩))
   all_goals
    have k4:=g2.cell 4
    have kf:=g2.frozen 4
    simp only [dmCells,List.getElem?_toArray,List.getElem?_cons_zero,List.getElem?_cons_succ] at k4
    rw [HB.out] at k4 kf
    go_wp2_with fail
    go_ret
    have hdm:=g1 (w10.setCell ⟨d.blk,4,none⟩ (.int .i64 ((e.n:Int)+1))) (by rw [HB.out];exact Chg.store (S:=fun g => g=d.blk) (Chg.refl _ _) rfl 4 _) (by rw [HB.out];rw [HB.out] at g2;exact g2.set 4 _)
    refine ⟨d',hdm,g4,g5.trans HB.out,g6.trans HS.out,?_,?_,place_new he.out hperm hno g9 g10,.inr ⟨rfl,fun x hx => hno x (hperm.mem_iff.2 hx),?_,?_⟩⟩
    ·exact Chg.store (S:=d.foot) (hC'.trans' ((hC9.mono (fun _ _ h => h.elim):Chg e.foot W5 w9).trans g3) (fun g _ hg => hfoot g hg)) (.inl rfl) 4 _
    ·intro g hg
     exact (g7 g hg).elim (fun h9 => .inl (hfoot g h9)) (fun h9 => .inr (Nat.le_trans hC'.size (Nat.le_trans hC9.size h9)))
    ·obtain ⟨x,hx1,hx2,hx3⟩:=g8
     exact ⟨x,hx1,hx2,hx3.trans (List.Perm.cons x (hperm))⟩
    ·rw [g9,he.out]
     unfold growS shape
     rw [HT.out]
     simp
  | none =>
   rw [ht] at hmv c2
   have HT:=Lib.hid ht
   simp only [t1Val,tbVal] at c1 c2
   clear ht
   by_cases hg:e.t0.len≤e.n∧e.t0.len<65536
   ·have hg1:(e.n:Int) ≥ (e.t0.len:Int):=by omega
    have hg2:(e.t0.len:Int)<65536:=by omega
    have HG:=Lib.hid hg
    clear hg
    have hms:∀ W,DmAt W e→_:=fun W h => moves_dm e (2 * (e.n:Int)) W h hE HT.out
    unfold ptr at hms
    rw [HB.out] at hms
    go_wp2_with fail
    refine (hmv _ hD5).mono ?_
    rintro e8 w8 ⟨rfl,rfl⟩
    go_wp2_with fail
    refine (hms _ hD5).mono ?_
    rintro e8 w8 ⟨⟨v8,rfl⟩,e2,t,hD8,hE2,hb2,hs2,hn2,hnn2,hf2,hC8,ht2,hsh2,hin2⟩
    have HB2:=Lib.hid hb2
    have HS2:=Lib.hid hs2
    have HE2:=Lib.hid hn2
    have HN2:=Lib.hid hnn2
    have HT2:=Lib.hid (ht2:e2.tab 1=some t)
    have HSH:=Lib.hid hsh2
    have HIN:=Lib.hid hin2
    have hmv2:=isMoving_any e2 w8 hD8
    have hof2:∀ W,DmAt W e2→_:=fun W h => of_any e2 key W h hE2.seed hk
    obtain ⟨k0,k1,k2,k3,k4,kf,klt⟩:=dm_cells hD8
    rw [ht2] at k2 hmv2
    unfold ptr at hmv2 hof2
    rw [HB2.out] at k0 k1 k2 k3 k4 kf klt hmv2 hof2
    rw [HS2.out,HQ.out] at hof2
    simp only [t1Val,tbVal] at k1 k2
    have hbx8:=hbx5.chg hC8 (fun h' => by omega)
    have kb8:=hbx8.cell 0
    simp only [List.getElem?_toArray,List.getElem?_cons_zero] at kb8
    have hC8':Chg d.foot w w8:=hC'.trans' hC8 fun g _ hg => hg ▸ .inl rfl
    have hft2:∀ g,g<w.heap.size→e2.foot g→d.foot g:=fun g hl hg => (hf2 g hg).elim (hfoot g) fun h9 => absurd (Nat.le_trans hC'.size h9) (by omega)
    clear hb2 hs2 hn2 hnn2 ht2 hsh2 hin2 hof hmv hms k3 k4 c0 c1 c2 c3 c4 cf clt
    go_wp2_with fail
    refine hmv2.mono ?_
    rintro e8 w8' ⟨rfl,rfl⟩
    go_wp2_with fail
    have hpt:∀ W,DmAt W e2→_:=fun W h => put_new e2 1 t q key _ W h hE2 HT2.out (fun h => by cases h) (by rw [HN2.out];exact hno) (by rw [HS2.out];exact HQ.out) HV
    unfold tbVal at hpt
    go_region_with (first
     | (go_at_call 154;refine (hof2 _ (hD8.chg0 ((Chg.refl _ _).drew))).mono ?_;rintro e9 w9 ⟨rfl,hc9⟩;have hC9:=(Chg.refl _ w8).drew.trans hc9;have kbx:=(hbx8.chg hC9 id).cell 0;simp only [List.getElem?_toArray,List.getElem?_cons_zero] at kbx)
     | (go_at_call 153;refine (hpt w9 (hD8.chg0 hC9)).mono ?_;rintro e10 w10 ⟨⟨v10,rfl⟩,d',g1,g2,g3,g4,g5,g6,g7,g8,g9,g10⟩))
    all_goals
     have k4:=g2.cell 4
     have kf:=g2.frozen 4
     simp only [dmCells,List.getElem?_toArray,List.getElem?_cons_zero,List.getElem?_cons_succ] at k4
     rw [HE2.out] at k4 g1
     rw [HB2.out] at k4 kf
     go_wp2_with fail
     go_ret
     have hdm:=g1 (w10.setCell ⟨d.blk,4,none⟩ (.int .i64 ((e.n:Int)+1))) (by rw [HB2.out];exact Chg.store (S:=fun g => g=d.blk) (Chg.refl _ _) rfl 4 _) (by rw [HB2.out];rw [HB2.out] at g2;exact g2.set 4 _)
     refine ⟨d',hdm,g4,g5.trans HB2.out,(g6.trans HS2.out).trans HS.out,?_,?_,place_new he.out hperm hno g9 (fun k => (g10 k).trans (or_congr_left (HIN.out k))),.inr ⟨rfl,fun x hx => hno x (hperm.mem_iff.2 hx),?_,?_⟩⟩
     ·exact Chg.store (S:=d.foot) (hC8'.trans' ((hC9.mono (fun _ _ h => h.elim):Chg e2.foot w8 w9).trans g3) (fun g hl hg => hft2 g hl hg)) (.inl rfl) 4 _
     ·intro g hg
      exact (g7 g hg).elim (fun h9 => (hf2 g h9).elim (fun h9 => .inl (hfoot g h9)) (fun h9 => .inr (Nat.le_trans hC'.size h9))) (fun h9 => .inr (Nat.le_trans hC8'.size (Nat.le_trans hC9.size h9)))
     ·obtain ⟨x,hx1,hx2,hx3⟩:=g8
      exact ⟨x,hx1,hx2,hx3.trans (List.Perm.cons x (by rw [HN2.out];exact hperm))⟩
     ·rw [g9,he.out,HSH.out]
      unfold growS shape
      rw [HT.out,← HN.out,if_pos ⟨rfl,HG.out.1,HG.out.2⟩,show ((2 * e.n:Nat):Int)=2 * (e.n:Int) by omega]
   ·have HG:=Lib.hid hg
    have hcase:e.n<e.t0.len∨(e.t0.len≤e.n∧65536≤e.t0.len):=by omega
    clear hg
    rcases hcase with hg1 | ⟨hg1,hg2⟩
    ·have hx1:¬ e.t0.len≤e.n:=by omega
     go_wp2_with fail
     refine (hmv _ hD5).mono ?_
     rintro e8 w8 ⟨rfl,rfl⟩
     go_wp2_with fail
     refine (hmv _ hD5).mono ?_
     rintro e8 w8 ⟨rfl,rfl⟩
     go_wp2_with fail
     have hpt:∀ W,DmAt W e→_:=fun W h => put_new e 0 e.t0 q key _ W h hE rfl (fun _ => HT.out) hno HQ.out HV
     unfold tbVal at hpt
     go_region_with (first
      | (go_at_call 154;refine (hof _ (hD5.chg0 ((Chg.refl _ _).drew))).mono ?_;rintro e9 w9 ⟨rfl,hc9⟩;have hC9:=(Chg.refl _ W5).drew.trans hc9;have kbx:=(hbx5.chg hC9 id).cell 0;simp only [List.getElem?_toArray,List.getElem?_cons_zero] at kbx)
      | (go_at_call 153;refine (hpt w9 (hD5.chg0 hC9)).mono ?_;rintro e10 w10 ⟨⟨v10,rfl⟩,d',g1,g2,g3,g4,g5,g6,g7,g8,g9,g10⟩))
     all_goals
      have k4:=g2.cell 4
      have kf:=g2.frozen 4
      simp only [dmCells,List.getElem?_toArray,List.getElem?_cons_zero,List.getElem?_cons_succ] at k4
      rw [HB.out] at k4 kf
      go_wp2_with fail
      go_ret
      have hdm:=g1 (w10.setCell ⟨d.blk,4,none⟩ (.int .i64 ((e.n:Int)+1))) (by rw [HB.out];exact Chg.store (S:=fun g => g=d.blk) (Chg.refl _ _) rfl 4 _) (by rw [HB.out];rw [HB.out] at g2;exact g2.set 4 _)
      refine ⟨d',hdm,g4,g5.trans HB.out,g6.trans HS.out,?_,?_,place_new he.out hperm hno g9 g10,.inr ⟨rfl,fun x hx => hno x (hperm.mem_iff.2 hx),?_,?_⟩⟩
      ·exact Chg.store (S:=d.foot) (hC'.trans' ((hC9.mono (fun _ _ h => h.elim):Chg e.foot W5 w9).trans g3) (fun g _ hg => hfoot g hg)) (.inl rfl) 4 _
      ·intro g hg
       exact (g7 g hg).elim (fun h9 => .inl (hfoot g h9)) (fun h9 => .inr (Nat.le_trans hC'.size (Nat.le_trans hC9.size h9)))
      ·obtain ⟨x,hx1,hx2,hx3⟩:=g8
       exact ⟨x,hx1,hx2,hx3.trans (List.Perm.cons x (hperm))⟩
      ·rw [g9,he.out]
       unfold growS
       rw [if_neg]
       rintro ⟨_,h1,h2⟩
       refine HG.out ⟨?_,h2⟩
       rw [HN.out];exact h1
    ·have hx1:¬ e.t0.len<65536:=by omega
     have hg3:(e.n:Int) ≥ (e.t0.len:Int):=by omega
     have hx3:((e.t0.len:Int)<65536)=False:=by simp only [eq_iff_iff,iff_false];omega
     clear hg2 hlen hg1 hx1
     go_wp2_with fail
     refine (hmv _ hD5).mono ?_
     rintro e8 w8 ⟨rfl,rfl⟩
     go_wp2_with fail
     refine (hmv _ hD5).mono ?_
     rintro e8 w8 ⟨rfl,rfl⟩
     go_wp2_with fail
     have hpt:∀ W,DmAt W e→_:=fun W h => put_new e 0 e.t0 q key _ W h hE rfl (fun _ => HT.out) hno HQ.out HV
     unfold tbVal at hpt
     go_region_with (first
      | (go_at_call 154;refine (hof _ (hD5.chg0 ((Chg.refl _ _).drew))).mono ?_;rintro e9 w9 ⟨rfl,hc9⟩;have hC9:=(Chg.refl _ W5).drew.trans hc9;have kbx:=(hbx5.chg hC9 id).cell 0;simp only [List.getElem?_toArray,List.getElem?_cons_zero] at kbx)
      | (go_at_call 153;refine (hpt w9 (hD5.chg0 hC9)).mono ?_;rintro e10 w10 ⟨⟨v10,rfl⟩,d',g1,g2,g3,g4,g5,g6,g7,g8,g9,g10⟩))
     all_goals
      have k4:=g2.cell 4
      have kf:=g2.frozen 4
      simp only [dmCells,List.getElem?_toArray,List.getElem?_cons_zero,List.getElem?_cons_succ] at k4
      rw [HB.out] at k4 kf
      go_wp2_with fail
      go_ret
      have hdm:=g1 (w10.setCell ⟨d.blk,4,none⟩ (.int .i64 ((e.n:Int)+1))) (by rw [HB.out];exact Chg.store (S:=fun g => g=d.blk) (Chg.refl _ _) rfl 4 _) (by rw [HB.out];rw [HB.out] at g2;exact g2.set 4 _)
      refine ⟨d',hdm,g4,g5.trans HB.out,g6.trans HS.out,?_,?_,place_new he.out hperm hno g9 g10,.inr ⟨rfl,fun x hx => hno x (hperm.mem_iff.2 hx),?_,?_⟩⟩
      ·exact Chg.store (S:=d.foot) (hC'.trans' ((hC9.mono (fun _ _ h => h.elim):Chg e.foot W5 w9).trans g3) (fun g _ hg => hfoot g hg)) (.inl rfl) 4 _
      ·intro g hg
       exact (g7 g hg).elim (fun h9 => .inl (hfoot g h9)) (fun h9 => .inr (Nat.le_trans hC'.size (Nat.le_trans hC9.size h9)))
      ·obtain ⟨x,hx1,hx2,hx3⟩:=g8
       exact ⟨x,hx1,hx2,hx3.trans (List.Perm.cons x (hperm))⟩
      ·rw [g9,he.out]
       unfold growS
       rw [if_neg]
       rintro ⟨_,h1,h2⟩
       refine HG.out ⟨?_,h2⟩
       rw [HN.out];exact h1
end Go.Proofs.YtehpmbmdadkhbaaGreatDoor.Dint64

namespace Go.Proofs.YtehpmbmdadkhbaaGreatDoor.Dint64
open Go.RowKit Pal
structure DelPost (d:Dm) (key:ByteArray) (w:World) (e:Ending) (w':World) (d':Dm):Prop where
 dm:DmAt w' d'
 ok:d'.Ok
 blk:d'.blk=d.blk
 seed:d'.seed=d.seed
 chg:Chg d.foot w w'
 foot:∀ g,d'.foot g→d.foot g∨w.heap.size≤g
 place:∀ k,d'.in1 k ↔ (stepD d 1).in1 k∧k≠key
 what:(e=.returned (.bool false)∧(∀ x∈d.nodes,x.key≠key)∧d'.nodes.Perm d.nodes∧shape d'=shape (stepD d 1)) ∨
  (e=.returned (.bool true)∧(∃ x,x.key=key∧d.nodes.Perm (x :: d'.nodes))∧shape d'=shrinkS (shape (stepD d 1)) d'.n)
def DelR (e:Dm) (key:ByteArray) (w1 w':World):Prop :=
 ∃ d',(∀ W2,Chg (fun g => g=e.blk) w' W2→Blk W2 e.blk 256 ((dmCells e).setIfInBounds 4 (.int .i64 ((e.n:Int) - 1)))→DmAt W2 d')∧Blk w' e.blk 256 (dmCells e)∧Chg e.foot w1 w'∧1≤e.n ∧
  d'.Ok∧d'.blk=e.blk∧d'.seed=e.seed∧(∀ g,d'.foot g→e.foot g)∧(∃ x,x.key=key∧e.nodes.Perm (x :: d'.nodes))∧shape d'=shape e∧∀ k,d'.in1 k ↔ e.in1 k∧k≠key
theorem loc_frozen {w:World} {t:Tb} (h:tbAt w t) {i:Nat} (hi:i<t.len) {pre rest:Ch} (e:t.at i=pre++rest):w.frozen? (loc t i pre)=false:=by
 rcases List.eq_nil_or_concat pre with rfl | ⟨p,y,rfl⟩
 ·rw [loc_nil];exact h.1.frozen i
 ·rw [List.concat_eq_append,loc_snoc]
  have hc:=h.2 _ (Tb.at_mem hi)
  rw [e,List.concat_eq_append,List.append_assoc] at hc
  exact (hc.node rfl).frozen 3
theorem delete_with (e:Dm) (key:ByteArray) (w1:World) (hD1:DmAt w1 e) (hE:e.Ok) (hk:key.size≤9223372036854775807) :
  Calls Tryz.prog 149 #[ptr e.blk,.string key,.func (.func 238) #[] #[]] w1 (WithPost e key w1 (DelR e key w1)):=by
 refine with_any e key 238 #[] w1 hD1 hE hk (enters_of Tryz.func238 (by kernel_rfl) rfl) (DelR e key w1) ?_
 intro ti t pre x post W htab hat hxk hC2
 have htz:=(tab_ok hE htab).1.pos
 have hi:sumN e.seed key.data.toList % t.len<t.len:=Nat.mod_lt _ (by omega)
 have hDW:=hD1.chg0 hC2
 have hta:=tab_at hDW htab
 have hL:=loc_cell hta hi hat
 have hX:=(hta.2 _ (Tb.at_mem hi)).node hat
 refine (delete1_any _ x post W hL hX (loc_frozen hta hi hat)).mono ?_
 rintro e5 W5 ⟨hv5,hW5⟩
 obtain ⟨d',h1,h2,h3,h4,h5,h6,h7,h8,h9,h10,h11⟩:=upd_cut hDW hE htab hi hat hW5
 exact ⟨hv5,d',h1,h2,(hC2.mono (fun _ _ h => h.elim):Chg e.foot w1 W).trans h3,h4,h5,h6,h7,h8,⟨x,hxk,h9⟩,h10,fun k => by rw [h11 k,hxk]⟩
set_option maxRecDepth 100000 in
set_option maxHeartbeats 1000000 in
theorem Delete_any (d:Dm) (key:ByteArray) (w:World) (h:DmAt w d) (hok:d.Ok) (hk:key.size≤9223372036854775807) (hn:d.n<1152921504606846976) :
  Calls Tryz.prog 232 #[ptr d.blk,.string key] w fun e w' => ∃ d',DelPost d key w e w' d':=by
 have hlt:=h.hd.lt
 obtain ⟨e,he⟩:∃ e,Hid (stepD d 1=e):=⟨_,rfl⟩
 have hE:e.Ok:=by rw [← he.out];exact moveN_ok hok _
 have hblk:e.blk=d.blk:=by rw [← he.out];exact (moveN_blk d _).1
 have hseed:e.seed=d.seed:=by rw [← he.out];exact (moveN_blk d _).2.1
 have hen:e.n=d.n:=by rw [← he.out];exact (moveN_blk d _).2.2
 have hn':(e.n:Int)<1152921504606846976:=by omega
 have hperm:e.nodes.Perm d.nodes:=by rw [← he.out];exact moveN_perm hok _
 have hfoot:∀ g,e.foot g→d.foot g:=fun g hg => moveN_foot hok _ (by rw [← he.out] at hg;exact hg)
 have hst:∀ w,DmAt w d→_:=fun w h => Step_any d 1 w h hok
 rw [he.out] at hst
 have HB:=Lib.hid hblk
 have HN:=Lib.hid hen
 have HS:=Lib.hid hseed
 have hsw:∀ w1,DmAt w1 e→_:=fun w1 h1 => delete_with e key w1 h1 hE hk
 clear hblk hen hseed
 unfold ptr at hst hsw ⊢
 rw [HB.out] at hsw
 go_enter Tryz.func232,Tryz.ntmps232
 go_wp2_with fail
 refine (hst _ h).mono ?_
 rintro e1 w1 ⟨rfl,hD1,hC⟩
 go_wp2_with fail
 refine (hsw w1 hD1).mono ?_
 rintro e5 W5 (⟨rfl,⟨y,hy,hyk⟩,d',hR1,hR2,hR3,hR4,hR5,hR6,hR7,hR8,⟨x,hR9,hR10⟩,hR11,hR12⟩ | ⟨rfl,hno,hC5⟩)
 ·have k1:=hR2.cell 1
  have k4:=hR2.cell 4
  have kf:=hR2.frozen 4
  simp only [dmCells,tbVal,List.getElem?_toArray,List.getElem?_cons_zero,List.getElem?_cons_succ] at k1 k4
  rw [HB.out] at k1 k4 kf
  have hlen:=hE.s0.pos
  go_wp2_with fail
  have hC6:Chg (fun g => g=e.blk) W5 (W5.setCell ⟨d.blk,4,none⟩ (.int .i64 ((e.n:Int) - 1))):=by rw [HB.out];exact Chg.store (S:=fun g => g=d.blk) (Chg.refl _ _) rfl 4 _
  have hD6:=hR1 _ hC6 (by rw [HB.out];rw [HB.out] at hR2;exact hR2.set 4 _)
  have hCW:Chg d.foot w (W5.setCell ⟨d.blk,4,none⟩ (.int .i64 ((e.n:Int) - 1))):=(hC.trans' hR3 fun g _ hg => hfoot g hg).trans' hC6 fun g _ hg => hg ▸ hfoot _ (.inl rfl)
  generalize W5.setCell ⟨d.blk,4,none⟩ (.int .i64 ((e.n:Int) - 1))=W6 at hD6 hCW hC6 ⊢
  have hmv6:=isMoving_any d' W6 hD6
  obtain ⟨c0,c1,c2,c3,c4,cf,clt⟩:=dm_cells hD6
  unfold ptr at hmv6
  have hb':=hR6.trans HB.out
  have HB':=Lib.hid hb'
  have hsh:=hR11
  unfold shape at hsh
  injection hsh with hl0 hsh
  injection hsh with hl1 hl2
  have hdn:d'.n+1=e.n:=by rw [hR5.count,hE.count,hR10.length_eq];rfl
  have hdn':(d'.n:Int)<1152921504606846976:=by omega
  rw [hb'] at hmv6 c0 c1 c2 c3 c4 cf clt
  have HL0:=Lib.hid hl0
  have HL1:=Lib.hid hl1
  have HDN:=Lib.hid hdn
  have HR6:=Lib.hid hR6
  have HR7:=Lib.hid hR7
  have HR9:=Lib.hid hR9
  have HR11:=Lib.hid hR11
  have HR12:=Lib.hid hR12
  have hfin:∀ g,d'.foot g→d.foot g:=fun g hg => hfoot g (hR8 g hg)
  have hpp:=hperm.symm.trans hR10
  clear hb' hl0 hl1 hl2 hdn hR6 hR7 hR9 hR11 hR12 k1 k4 kf hR1 hR2 hR3 hsw hst
  cases ht:d'.t1 with
  | some t =>
   rw [ht] at hmv6
   have HT:=Lib.hid ht
   clear ht
   refine hmv6.mono ?_
   rintro e8 w8 ⟨rfl,rfl⟩
   go_wp2_with fail
   go_ret
   refine ⟨d',hD6,hR5,HB'.out,HR7.out.trans HS.out,hCW,fun g hg => .inl (hfin g hg),by rw [he.out];exact HR12.out,.inr ⟨rfl,⟨x,HR9.out,hpp⟩,?_⟩⟩
   rw [HR11.out,he.out]
   unfold shrinkS shape
   rw [← HL1.out,HT.out]
   simp
  | none =>
   rw [ht] at hmv6
   have HT:=Lib.hid ht
   clear ht
   have hms:=moves_dm d' (d'.n:Int) W6 hD6 hR5 HT.out
   unfold ptr at hms
   rw [HB'.out] at hms
   by_cases h4:4<e.t0.len
   ·by_cases h8:8 * d'.n<e.t0.len
    ·have h4':(e.t0.len:Int) > 4:=by omega
     have h8':8 * (d'.n:Int)<(e.t0.len:Int):=by omega
     refine hmv6.mono ?_
     rintro e8 w8 ⟨rfl,rfl⟩
     go_wp2_with fail
     refine hms.mono ?_
     rintro e8 w8 ⟨⟨v8,rfl⟩,e2,t,hD8,hE2,hb2,hs2,hn2,hnn2,hf2,hC8,ht2,hsh2,hin2⟩
     go_wp2_with fail
     go_ret
     refine ⟨e2,hD8,hE2,hb2,(hs2.trans HR7.out).trans HS.out,hCW.trans' hC8 fun g _ hg => (by rw [hg];exact .inl rfl),fun g hg => (hf2 g hg).imp (hfin g) fun h9 => Nat.le_trans hCW.size h9,by rw [he.out];exact fun k => (hin2 k).trans (HR12.out k),.inr ⟨rfl,⟨x,HR9.out,by rw [hnn2];exact hpp⟩,?_⟩⟩
     rw [hsh2,he.out,hn2]
     have h1:e.t1.map Tb.len=none:=by rw [← HL1.out,HT.out];rfl
     have hat:d'.at_=e.at_:=by have:=HR11.out;unfold shape at this;injection this with _ this;injection this with _ this
     unfold shrinkS shape
     rw [h1,if_pos ⟨rfl,h4,h8⟩,HL0.out,hat]
    ·have h4':(e.t0.len:Int) > 4:=by omega
     have h8':(8 * (d'.n:Int)<(e.t0.len:Int))=False:=by simp only [eq_iff_iff,iff_false];omega
     have H8:=Lib.hid h8
     clear h8
     refine hmv6.mono ?_
     rintro e8 w8 ⟨rfl,rfl⟩
     go_wp2_with fail
     go_ret
     refine ⟨d',hD6,hR5,HB'.out,HR7.out.trans HS.out,hCW,fun g hg => .inl (hfin g hg),by rw [he.out];exact HR12.out,.inr ⟨rfl,⟨x,HR9.out,hpp⟩,?_⟩⟩
     rw [HR11.out,he.out]
     unfold shrinkS
     rw [if_neg]
     rintro ⟨_,g1,g2⟩
     exact H8.out g2
   ·have H4:=Lib.hid h4
    have h4':((4:Int)<(e.t0.len:Int))=False:=by simp only [eq_iff_iff,iff_false];omega
    clear h4 hlen
    refine hmv6.mono ?_
    rintro e8 w8 ⟨rfl,rfl⟩
    go_wp2_with fail
    go_ret
    refine ⟨d',hD6,hR5,HB'.out,HR7.out.trans HS.out,hCW,fun g hg => .inl (hfin g hg),by rw [he.out];exact HR12.out,.inr ⟨rfl,⟨x,HR9.out,hpp⟩,?_⟩⟩
    rw [HR11.out,he.out]
    unfold shrinkS
    rw [if_neg]
    rintro ⟨_,g1,g2⟩
    exact H4.out g1
 ·go_wp2_with fail
  go_ret
  exact ⟨e,hD1.chg0 hC5,hE,HB.out,HS.out,hC.trans' hC5 fun _ _ h => h.elim,fun g hg => .inl (hfoot g hg),fun k => by rw [he.out];exact ⟨fun h => ⟨h,fun e => by obtain ⟨y,hy,hyk⟩:=in1_nodes h;exact hno y hy (hyk.trans e)⟩,fun h => h.1⟩,.inl ⟨rfl,fun x hx => hno x (hperm.mem_iff.2 hx),hperm,by rw [he.out]⟩⟩
end Go.Proofs.YtehpmbmdadkhbaaGreatDoor.Dint64

namespace Go.Proofs.YtehpmbmdadkhbaaGreatDoor.Dint64
open Go.RowKit Pal
def Dm.look (d:Dm) (k:ByteArray):Option Value:=(d.nodes.find? fun x => decide (x.key=k)).map (·.v)
theorem look_none {d:Dm} {k:ByteArray}:d.look k=none ↔ ∀ x∈d.nodes,x.key≠k:=by
 unfold Dm.look
 simp
theorem nodup_keys_eq:∀ {l:List Nd},(l.map (·.key)).Nodup→∀ {x y:Nd},x∈l→y∈l→x.key=y.key→x=y
 | [],_,_,_,hx,_,_ => by cases hx
 | z :: l,hn,x,y,hx,hy,e => by
  rw [List.map_cons,List.nodup_cons] at hn
  rcases List.mem_cons.1 hx with h1 | h1 <;> rcases List.mem_cons.1 hy with h2 | h2
  ·rw [h1,h2]
  ·exact absurd (List.mem_map.2 ⟨y,h2,by rw [← e,h1]⟩) hn.1
  ·exact absurd (List.mem_map.2 ⟨x,h1,by rw [e,h2]⟩) hn.1
  ·exact nodup_keys_eq hn.2 h1 h2 e
theorem look_of {d:Dm} (hk:(d.nodes.map (·.key)).Nodup) {x:Nd} (hx:x∈d.nodes):d.look x.key=some x.v:=by
 unfold Dm.look
 cases h:d.nodes.find? (fun y => decide (y.key=x.key)) with
 | none => rw [List.find?_eq_none] at h;exact absurd (h x hx) (by simp)
 | some y =>
  have h1:=List.mem_of_find?_eq_some h
  have h2:=List.find?_some h
  rw [nodup_keys_eq hk h1 hx (by simpa using h2)];rfl
theorem look_some {d:Dm} (hk:(d.nodes.map (·.key)).Nodup) {k:ByteArray} {v:Value}:d.look k=some v ↔ ∃ x∈d.nodes,x.key=k∧x.v=v:=by
 constructor
 ·intro h
  unfold Dm.look at h
  rw [Option.map_eq_some_iff] at h
  obtain ⟨x,h1,h2⟩:=h
  exact ⟨x,List.mem_of_find?_eq_some h1,by simpa using List.find?_some h1,h2⟩
 ·rintro ⟨x,hx,rfl,rfl⟩
  exact look_of hk hx
theorem look_ext {d d':Dm} (hk:(d.nodes.map (·.key)).Nodup) (hk':(d'.nodes.map (·.key)).Nodup) {k:ByteArray} (h:∀ v,(∃ x∈d'.nodes,x.key=k∧x.v=v) ↔ ∃ x∈d.nodes,x.key=k∧x.v=v):d'.look k=d.look k:=by
 apply Option.ext
 intro v
 rw [look_some hk,look_some hk']
 exact h v
theorem look_perm {d d':Dm} (hk:(d.nodes.map (·.key)).Nodup) (h:d'.nodes.Perm d.nodes) (k:ByteArray):d'.look k=d.look k :=
 look_ext hk ((h.map _).nodup_iff.2 hk) fun v => ⟨fun ⟨x,hx,e⟩ => ⟨x,h.mem_iff.1 hx,e⟩,fun ⟨x,hx,e⟩ => ⟨x,h.mem_iff.2 hx,e⟩⟩
theorem look_put {d d':Dm} {x:Nd} {v:Value} {r:List Nd} (hk:(d.nodes.map (·.key)).Nodup) (hk':(d'.nodes.map (·.key)).Nodup) (hp:d.nodes.Perm (x :: r)) (hp':d'.nodes.Perm ({ x with v:=v } :: r)) (k:ByteArray) :
  d'.look k=if k=x.key then some v else d.look k:=by
 split
 ·rename_i e
  exact (look_some hk').2 ⟨_,hp'.mem_iff.2 (List.mem_cons_self),e.symm,rfl⟩
 ·rename_i e
  refine look_ext hk hk' fun u => ⟨?_,?_⟩
  ·rintro ⟨y,hy,h1,h2⟩
   rcases List.mem_cons.1 (hp'.mem_iff.1 hy) with rfl | h
   ·exact absurd h1.symm e
   ·exact ⟨y,hp.mem_iff.2 (List.mem_cons_of_mem _ h),h1,h2⟩
  ·rintro ⟨y,hy,h1,h2⟩
   rcases List.mem_cons.1 (hp.mem_iff.1 hy) with rfl | h
   ·exact absurd h1.symm e
   ·exact ⟨y,hp'.mem_iff.2 (List.mem_cons_of_mem _ h),h1,h2⟩
theorem look_new {d d':Dm} {x:Nd} (hk:(d.nodes.map (·.key)).Nodup) (hk':(d'.nodes.map (·.key)).Nodup) (hp':d'.nodes.Perm (x :: d.nodes)) (k:ByteArray) :
  d'.look k=if k=x.key then some x.v else d.look k:=by
 split
 ·rename_i e
  exact (look_some hk').2 ⟨_,hp'.mem_iff.2 (List.mem_cons_self),e.symm,rfl⟩
 ·rename_i e
  refine look_ext hk hk' fun u => ⟨?_,?_⟩
  ·rintro ⟨y,hy,h1,h2⟩
   rcases List.mem_cons.1 (hp'.mem_iff.1 hy) with rfl | h
   ·exact absurd h1.symm e
   ·exact ⟨y,h,h1,h2⟩
  ·rintro ⟨y,hy,h1,h2⟩
   exact ⟨y,hp'.mem_iff.2 (List.mem_cons_of_mem _ hy),h1,h2⟩
theorem look_del {d d':Dm} {x:Nd} (hk:(d.nodes.map (·.key)).Nodup) (hp:d.nodes.Perm (x :: d'.nodes)) (k:ByteArray) :
  d'.look k=if k=x.key then none else d.look k:=by
 have hk2:=(hp.map (·.key)).nodup_iff.1 hk
 rw [List.map_cons,List.nodup_cons] at hk2
 split
 ·rename_i e
  rw [look_none]
  intro y hy h
  exact hk2.1 (List.mem_map.2 ⟨y,hy,h.trans e⟩)
 ·rename_i e
  refine look_ext hk hk2.2 fun u => ⟨?_,?_⟩
  ·rintro ⟨y,hy,h1,h2⟩
   exact ⟨y,hp.mem_iff.2 (List.mem_cons_of_mem _ hy),h1,h2⟩
  ·rintro ⟨y,hy,h1,h2⟩
   rcases List.mem_cons.1 (hp.mem_iff.1 hy) with rfl | h
   ·exact absurd h1.symm e
   ·exact ⟨y,h,h1,h2⟩
def stepS (s:Nat × Option Nat × Nat) (n:Int):Nat × Option Nat × Nat :=
 match s.2.1 with
 | none => s
 | some l => if s.2.2+n.toNat<s.1 then (s.1,some l,s.2.2+n.toNat) else (l,none,0)
theorem moveN_t1 {d:Dm} {t:Tb} (h:d.Ok) (ht:d.t1=some t):∀ k,d.at_+k<d.t0.len→(moveN d k).t1.map Tb.len=some t.len
 | 0,_ => by show d.t1.map Tb.len=_;rw [ht];rfl
 | k+1,hk => by
  have ih:=moveN_t1 h ht k (by omega)
  obtain ⟨h1,h2,h3⟩:=moveN_at h ht k (by omega)
  obtain ⟨t',ht'⟩:=Option.isSome_iff_exists.1 h1
  have hne:¬ (moveN d k).at_+1=(moveN d k).t0.len:=by omega
  have e:moveN d (k+1)={ moveN d k with t0:=(moveN d k).t0.set (moveN d k).at_ [],t1:=some (((moveN d k).t0.at (moveN d k).at_).foldl push t'),at_:=(moveN d k).at_+1 }:=by
   show moveSlot (moveN d k)=_
   unfold moveSlot;rw [ht'];simp [hne]
  rw [e]
  rw [ht'] at ih
  show some (Tb.len _)=_
  rw [fold_len]
  exact ih
theorem stepD_shape {d:Dm} (h:d.Ok) (n:Int):shape (stepD d n)=stepS (shape d) n:=by
 cases ht:d.t1 with
 | none =>
  have e:stepD d n=d:=by unfold stepD stepK;rw [ht];rfl
  rw [e];unfold stepS shape;rw [ht];rfl
 | some t =>
  have hlt:=h.atlt t ht
  have hk:stepK d n=min n.toNat (d.t0.len - d.at_):=by unfold stepK;rw [ht];rfl
  unfold stepS
  have e1:(shape d).2.1=some t.len:=by unfold shape;rw [ht];rfl
  have e2:(shape d).1=d.t0.len:=rfl
  have e3:(shape d).2.2=d.at_:=rfl
  rw [e1,e2,e3]
  dsimp only
  by_cases hc:d.at_+n.toNat<d.t0.len
  ·rw [if_pos hc]
   have hk':stepK d n=n.toNat:=by rw [hk];omega
   obtain ⟨h1,h2,h3⟩:=moveN_at h ht n.toNat hc
   have h4:=moveN_t1 h ht n.toNat hc
   unfold stepD shape
   rw [hk',h2,h3,h4]
  ·rw [if_neg hc]
   have hk':stepK d n=d.t0.len - d.at_:=by rw [hk];omega
   obtain ⟨h1,h2⟩:=moveN_all h ht
   have h3:=(moveN_ok h (d.t0.len - d.at_)).at0 h1
   unfold stepD shape
   rw [hk',h1,h2,h3];rfl
structure Nx (d d':Dm) (w w':World):Prop where
 dm:DmAt w' d'
 ok:d'.Ok
 blk:d'.blk=d.blk
 seed:d'.seed=d.seed
 chg:Chg d.foot w w'
 foot:∀ g,d'.foot g→d.foot g∨w.heap.size≤g
theorem Nx.step {d:Dm} {n:Int} {w w':World} (hok:d.Ok) (h:DmAt w' (stepD d n)) (hc:Chg d.foot w w'):Nx d (stepD d n) w w'∧(∀ k,(stepD d n).look k=d.look k)∧(stepD d n).n=d.n :=
 ⟨⟨h,moveN_ok hok _,(moveN_blk d _).1,(moveN_blk d _).2.1,hc,fun g hg => .inl (moveN_foot hok _ hg)⟩,fun k => look_perm hok.keys (moveN_perm hok _) k,(moveN_blk d _).2.2⟩
theorem Get_i (d:Dm) (key:ByteArray) (w:World) (h:DmAt w d) (hok:d.Ok) (hk:key.size≤9223372036854775807) :
  Calls Tryz.prog 233 #[ptr d.blk,.string key] w fun e w' => e=.returned (.tuple #[(d.look key).getD (.int .i64 0),.bool (d.look key).isSome])∧∃ d',Nx d d' w w'∧(∀ k,d'.look k=d.look k)∧d'.n=d.n∧shape d'=stepS (shape d) 1:=by
 refine (Get_any d key w h hok hk).mono ?_
 rintro e w' ⟨h1,h2,h3⟩
 obtain ⟨h4,h5,h6⟩:=Nx.step hok h2 h3
 refine ⟨?_,stepD d 1,h4,h5,h6,stepD_shape hok 1⟩
 rcases h1 with ⟨x,hx,rfl,rfl⟩ | ⟨hno,rfl⟩
 ·rw [look_of hok.keys hx];rfl
 ·rw [look_none.2 hno];rfl
theorem Set_i (d:Dm) (key:ByteArray) (v:Value) (w:World) (h:DmAt w d) (hok:d.Ok) (hk:key.size≤9223372036854775807) (hv:VOk v) (hn:d.n<1152921504606846976) :
  Calls Tryz.prog 139 #[ptr d.blk,.string key,v] w fun e w' => e=.returned (.bool (d.look key).isNone)∧∃ d',Nx d d' w w'∧(∀ k,d'.look k=if k=key then some v else d.look k) ∧
   d'.n=(if (d.look key).isNone then d.n+1 else d.n)∧shape d'=if (d.look key).isNone then growS (stepS (shape d) 1) d.n else stepS (shape d) 1:=by
 refine (Set_any d key v w h hok hk hv hn).mono ?_
 rintro e w' ⟨d',⟨h1,h2,h3,h4,h5,h6,_,h7⟩⟩
 have hnx:Nx d d' w w':=⟨h1,h2,h3,h4,h5,h6⟩
 rw [stepD_shape hok 1] at h7
 rcases h7 with ⟨rfl,⟨x,r,g1,rfl,g3⟩,g4⟩ | ⟨rfl,hno,⟨x,rfl,rfl,g3⟩,g4⟩
 ·have hx:=look_of hok.keys (g1.mem_iff.2 (List.mem_cons_self):x∈d.nodes)
  rw [hx]
  refine ⟨rfl,d',hnx,look_put hok.keys h2.keys g1 g3,?_,g4⟩
  rw [h2.count,hok.count,g1.length_eq,g3.length_eq];rfl
 ·rw [look_none.2 hno]
  refine ⟨rfl,d',hnx,look_new hok.keys h2.keys g3,?_,g4⟩
  rw [h2.count,hok.count,g3.length_eq];rfl
theorem Delete_i (d:Dm) (key:ByteArray) (w:World) (h:DmAt w d) (hok:d.Ok) (hk:key.size≤9223372036854775807) (hn:d.n<1152921504606846976) :
  Calls Tryz.prog 232 #[ptr d.blk,.string key] w fun e w' => e=.returned (.bool (d.look key).isSome)∧∃ d',Nx d d' w w'∧(∀ k,d'.look k=if k=key then none else d.look k) ∧
   d'.n=(if (d.look key).isSome then d.n - 1 else d.n)∧shape d'=if (d.look key).isSome then shrinkS (stepS (shape d) 1) (d.n - 1) else stepS (shape d) 1:=by
 refine (Delete_any d key w h hok hk hn).mono ?_
 rintro e w' ⟨d',⟨h1,h2,h3,h4,h5,h6,_,h7⟩⟩
 have hnx:Nx d d' w w':=⟨h1,h2,h3,h4,h5,h6⟩
 rw [stepD_shape hok 1] at h7
 rcases h7 with ⟨rfl,hno,g3,g4⟩ | ⟨rfl,⟨x,rfl,g1⟩,g4⟩
 ·have hl:=look_none.2 hno
  rw [hl]
  refine ⟨rfl,d',hnx,fun k => ?_,?_,g4⟩
  ·rw [look_perm hok.keys g3]
   split
   ·rename_i e;rw [e];exact hl
   ·rfl
  ·rw [h2.count,hok.count,g3.length_eq];rfl
 ·have hx:=look_of hok.keys (g1.mem_iff.2 (List.mem_cons_self):x∈d.nodes)
  have hdn:d'.n=d.n - 1:=by rw [h2.count,hok.count,g1.length_eq];rfl
  rw [hx]
  refine ⟨rfl,d',hnx,look_del hok.keys g1,hdn,?_⟩
  rw [g4,hdn];rfl
theorem New_i (seed:Nat) (hs:seed<4294967296) (w:World) :
  Calls Tryz.prog 117 #[.int .u32 (seed:Int)] w fun e w' => ∃ d,e=.returned (ptr d.blk)∧DmAt w' d∧d.Ok∧d.seed=seed∧d.n=0∧(∀ k,d.look k=none)∧shape d=(4,none,0)∧(∀ g,d.foot g→w.heap.size≤g)∧Chg (fun _ => False) w w':=by
 refine (New_any seed w).mono ?_
 rintro e w' ⟨b,c,rfl,h1,h2,h3,h4⟩
 have hat:∀ i,(newDm b c seed).t0.at i=[]:=fun i => by
  unfold Tb.at newDm
  dsimp only
  rw [List.getD_eq_getElem?_getD,List.getElem?_replicate]
  split <;> rfl
 refine ⟨newDm b c seed,rfl,h1,?_,rfl,rfl,fun k => rfl,rfl,fun g hg => ?_,h4⟩
 ·exact { seed:=hs,s0:=⟨2,by omega,by omega,rfl⟩,s1:=fun _ e => (by cases e),in0:=fun i x _ hx => (by rw [hat i] at hx;cases hx),in1:=fun _ e => (by cases e),sums:=fun x hx => (by cases hx),keys:=List.nodup_nil,vok:=fun x hx => (by cases hx),count:=rfl,atlt:=fun _ e => (by cases e),at0:=fun _ => rfl,moved:=fun i hi => (by cases hi) }
 ·rcases hg with rfl | rfl | ⟨t,ht,rfl⟩ | ⟨x,hx,rfl⟩
  ·exact h2
  ·exact h3
  ·cases ht
  ·cases hx
end Go.Proofs.YtehpmbmdadkhbaaGreatDoor.Dint64

namespace Go.Proofs.YtehpmbmdadkhbaaGreatDoor.Dint64
open Go.RowKit Pal
structure Mine (n:Nat) (w:World) (d:Dm):Prop where
 dm:DmAt w d
 ok:d.Ok
 new:∀ g,d.foot g→n≤g
end Go.Proofs.YtehpmbmdadkhbaaGreatDoor.Dint64
