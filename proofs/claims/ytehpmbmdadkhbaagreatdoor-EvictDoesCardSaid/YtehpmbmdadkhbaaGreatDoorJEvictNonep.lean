/- Texts joined for EvictNone: EVT, LFC, LFL, SPT, EVC, RSW. -/
import Derived.Test.YtehpmbmdadkhbaaGreatDoorJEvictNoneb
import Derived.Test.YtehpmbmdadkhbaaGreatDoorJEvictNonec
import Derived.Test.YtehpmbmdadkhbaaGreatDoorJEvictNoneh
import Derived.Test.YtehpmbmdadkhbaaGreatDoorJEvictNonek
import Derived.Test.YtehpmbmdadkhbaaGreatDoorJEvictNonel
import Derived.Test.YtehpmbmdadkhbaaGreatDoorJEvictNonen
import Derived.Test.YtehpmbmdadkhbaaGreatDoorJEvictNoneo
set_option linter.unusedVariables false
set_option linter.unusedSimpArgs false

namespace Go.Proofs.YtehpmbmdadkhbaaGreatDoor
open Go.RowKit Pal
attribute [local go_sem] Oper.semAt_some
theorem places_spec (v:Value) (a n:Nat) (hn:0<n) (hn2:n≤1000000) (ds:List Nat):IterSpec Tryz.prog 62 #[pt (a+1),pt a] (fun x:Nat => #[.int .i64 (x:Int)]) (pcF v a) (fun _ => False) (pcIt0 v a n ds) (pcIt v n ds) where
 sub:=fun _ h => h.elim
 cells:=by
  rintro r W k ⟨hE,hB,hB2,_⟩ (rfl | rfl | ⟨o,m,c,h0,rfl⟩)
  ·exact ⟨_,_,_,hB⟩
  ·exact ⟨_,_,_,hB2⟩
  ·obtain ⟨p,cap,e,_⟩:=hE.is
   injection e with e1 e2 e3
   subst e2
   obtain ⟨b,o',cap',he,k1,k2,_⟩:=hE.at_ 0 _ (List.getElem?_eq_getElem h0)
   injection he with he1 _ _
   injection he1 with he1
   injection he1 with e4 e5
   subst e4
   exact cell_block k2
 far0:=by rintro r W W' ⟨hE,hB,hB2,hr⟩ hs hF;exact ⟨hE.same hs fun g o n c h0 hv => hF g (.inr (.inr ⟨o,n,c,h0,hv⟩)),(hF a (.inl rfl)).trans hB,(hF _ (.inr (.inl rfl))).trans hB2,hr⟩
 far:=by rintro r W W' ⟨hE,hr⟩ hs hF;exact ⟨hE.same hs fun g o n c h0 hv => hF g (.inr (.inr ⟨o,n,c,h0,hv⟩)),hr⟩
 call:=by
  rintro l I Ix hI hIx hY c W h0 ⟨hE,hB,hB2,rfl⟩
  exact places1_any v a n hn hn2 ds l I Ix hI hY W h0 hE hB hB2
theorem places_any (n:Int) (p:Option Addr) (m c:Nat) (w:World):Calls Tryz.prog 37 #[.int .i64 n,.slice p m c] w fun r w' => r=.returned (fnv 62 #[pt (w.heap.size+1),pt w.heap.size])∧(w.alloc (.cells #[.int .i64 n] 3)).alloc (.cells #[.slice p m c] 28)=w':=by
 unfold pt fnv
 go_enter Tryz.func37,Tryz.ntmps37
 go_wp2
 go_ret
 exact ⟨rfl,rfl⟩
theorem samples_plcs {keys:List ByteArray} (h:keys≠[]) (ds:List Nat):samplesL keys ds=(plcs keys.length (ds.take 5)).map fun i => keys.getD i ⟨#[]⟩:=by
 unfold samplesL plcs
 rw [if_neg h,List.map_map]
 refine List.map_congr_left fun i hi => ?_
 have hi5:=List.mem_range.1 hi
 show keys.getD (ds.getD i 0 % keys.length) ⟨#[]⟩=keys.getD ((ds.take 5).getD i 0 % keys.length) ⟨#[]⟩
 rw [List.getD_eq_getElem?_getD (l:=ds.take 5),List.getElem?_take,if_pos hi5,← List.getD_eq_getElem?_getD]
def SmI (keys:List ByteArray) (L:List Nat) (OB M:Nat) (W0:World) (r:List Nat) (W:World):Prop:=(∃ u pre,pre++r=L∧Blk W OB 38 #[u]∧Strs W M u (pre.map fun i => keys.getD i ⟨#[]⟩))∧Stay (fun g => g=OB) W0 W∧M≤W.heap.size
def SmS (OB KB kb at_:Nat) (u kv:Value) (k:ByteArray) (W:World):Prop:=W.cell? ⟨OB,0,none⟩=some u∧W.cell? ⟨KB,0,none⟩=some kv∧W.cell? ⟨kb,at_,none⟩=some (.string k)
set_option maxRecDepth 100000 in
theorem samples_nil (p:Option Addr) (c:Nat) (vd:Value) (w:World):Calls Tryz.prog 13 #[.slice p 0 c,vd] w fun r w' => r=.returned (.slice none 0 0)∧Chg (fun _ => False) w w':=by
 go_enter Tryz.func13,Tryz.ntmps13
 go_wp2_with fail
 go_ret
 exact ⟨rfl,(Chg.refl _ w).alloc _⟩
set_option maxRecDepth 100000 in
set_option maxHeartbeats 4000000 in
theorem samples_cons (B:Nat) (v:Value) (keys:List ByteArray) (hne:keys≠[]) (hn:keys.length≤1000) (vd:Value) (ds:List Nat) (w:World) (h:Strs w B v keys) (hd:DrsAt w vd ds):Calls Tryz.prog 13 #[v,vd] w fun r w' => (∃ u,r=.returned u∧Strs w' w.heap.size u (samplesL keys ds))∧Chg (fun _ => False) w w':=by
 obtain ⟨own,hown⟩:∃ own,own=ds.take 5:=⟨_,rfl⟩
 rw [samples_plcs hne,← hown]
 have hl0:0<keys.length:=List.length_pos_iff.2 hne
 have hl1:((keys.length:Int) == 0)=false:=by rw [beq_eq_false_iff_ne];omega
 have hl2:¬ keys.length=0:=by omega
 have hnx:∀ W,DrsAt W vd ds→Calls Tryz.prog 36 #[vd] W fun r w' => (∃ v1 v2,r=.returned (.tuple #[v1,v2])∧DrsAt w' v1 own)∧Chg (fun _ => False) W w':=fun W hW => by
  refine (nextE_any vd ds W hW).mono ?_
  rintro r w' ⟨⟨v1,v2,rfl,h1,_⟩,hc⟩
  rw [← hown] at h1
  exact ⟨⟨v1,v2,rfl,h1⟩,hc⟩
 clear hown
 obtain ⟨kp,kc,rfl,hk1,hk2,_⟩:=h.is
 refine calls_of_wp_marks Tryz.func13 rfl ?_
 simp only [Tryz.ntmps13,List.size_toArray,List.length_cons,List.length_nil,Nat.reduceAdd,Nat.reduceSub,Array.replicate_succ,Array.replicate_zero,List.push_toArray,List.append_toArray,List.nil_append,List.cons_append]
 have hCa:=(Chg.refl (fun _ => False) w).alloc (.cells #[.slice kp keys.length kc] 38)
 have hCb:=hCa.alloc (.cells #[.slice none 0 0] 38)
 have xk:=(Blk.new w 38 #[.slice kp keys.length kc]).alloc (.cells #[.slice none 0 0] 38)
 have xo:=Blk.new (w.alloc (.cells #[.slice kp keys.length kc] 38)) 38 #[.slice none 0 0]
 rw [World.size_alloc] at xo
 go_wp2_with (first
  | (go_at_call 36;refine (hnx _ (hd.chg0 hCb)).mono ?_;rintro e w1 ⟨⟨v1,v2,rfl,hv1⟩,hC1⟩;obtain ⟨p1,c1,rfl,_,_⟩:=hv1.is;have xk1:=xk.chg hC1 id;have z0:=xk1.cell 0;have zl:=xk1.lt;simp only [List.getElem?_toArray,List.getElem?_cons_zero] at z0)
  | (go_at_call 37;refine (places_any _ _ _ _ _).mono ?_;rintro e w2 ⟨rfl,rfl⟩)
  | fail)
 have xo1:=xo.chg hC1 id
 have hC2:=((Chg.refl (fun _ => False) w1).alloc (.cells #[.int .i64 (keys.length:Int)] 3)).alloc (.cells #[.slice p1 own.length c1] 28)
 have xn:=(Blk.new w1 3 #[.int .i64 (keys.length:Int)]).alloc (.cells #[.slice p1 own.length c1] 28)
 have xd:=Blk.new (w1.alloc (.cells #[.int .i64 (keys.length:Int)] 3)) 28 #[.slice p1 own.length c1]
 rw [World.size_alloc] at xd
 have hs2:((w1.alloc (.cells #[.int .i64 (keys.length:Int)] 3)).alloc (.cells #[.slice p1 own.length c1] 28)).heap.size=w1.heap.size+2:=by simp
 generalize (w1.alloc (.cells #[.int .i64 (keys.length:Int)] 3)).alloc (.cells #[.slice p1 own.length c1] 28)=W0 at hC2 xn xd hs2 ⊢
 have xk2:=xk1.chg hC2 id
 have xo2:=xo1.chg hC2 id
 have hv0:=hv1.chg0 hC2
 have hCw:=hCb.trans (hC1.trans hC2)
 have h0:=Strs.chg h hCw fun _ _ => id
 have hsz1:w.heap.size+2≤w1.heap.size:=by have:=hC1.size;simp at this;omega
 have hplt:∀ k,pcF (.slice p1 own.length c1) w1.heap.size k→k<W0.heap.size∧k≠w.heap.size+1:=by
  rintro k (rfl | rfl | ⟨o,m,c,h9,e9⟩)
  ·omega
  ·omega
  ·injection e9 with e1 e2 e3
   subst e2
   obtain ⟨b,o',cap',he,k1,k2,_⟩:=hv0.at_ 0 _ (List.getElem?_eq_getElem h9)
   injection he with he1 _ _
   rw [he1] at e1
   injection e1 with e1
   injection e1 with e4 e5
   subst e4
   refine ⟨k1,fun e => ?_⟩
   subst e
   have hh:=xo2.cell (o'+0)
   rw [hh] at k2
   match o',k2 with
   | 0,k2 => simp at k2
   | o'+1,k2 => simp at k2
 generalize hL:plcs keys.length own=L at *
 have hLm:∀ x∈L,x<keys.length:=fun x hx => by
  rw [← hL] at hx
  obtain ⟨i,_,rfl⟩:=List.mem_map.1 hx
  exact Nat.mod_lt _ hl0
 have hL5:L.length=5:=by rw [← hL];exact plcs_len _ _
 refine wp_range_it 62 #[pt (w1.heap.size+1),pt w1.heap.size] rfl (enters_of Tryz.func62 (by kernel_rfl) rfl) (places_spec (.slice p1 own.length c1) w1.heap.size keys.length hl0 (by omega) own) (fun _ => rfl)
  (SmI keys L (w.heap.size+1) W0.heap.size W0) ?_ (fun _ _ => False) (fun _ _ _ h => h.elim) L ?_ ⟨hv0,xn,xd,hL.symm⟩ _ (fun l x W K hK => by gi_wp2;exact hK) ?_ ?_ (fun _ _ _ _ h => h.elim)
 ·rintro r W W' ⟨⟨u,pre,h1,h2,h3⟩,h4,h5⟩ hs
  exact ⟨⟨u,pre,h1,h2.stay hs id,Strs.stay h3 hs fun _ _ => id⟩,h4.trans' hs fun _ _ h => h.elim,Nat.le_trans h5 hs.size⟩
 ·exact ⟨⟨_,[],rfl,xo2,Strs.nil _ _⟩,Stay.refl _ _,Nat.le_refl _⟩
 ·rintro l x r W ⟨⟨u,pre,h1,h2,h3⟩,h4,h5⟩ _ hle
  have hxL:=hLm x (by rw [← h1];simp)
  have hpl:pre.length≤5:=by rw [← hL5,← h1];simp
  have hkW:=Strs.stay h0 h4 fun g hg e => by
   have:=xo2.not_own h0.own (by decide)
   exact this (e ▸ hg)
  obtain ⟨kb,rfl,g1,g2,d0⟩:=hkW.at_ (k:=x) hxL
  have hkx:keys[x]=keys.getD x ⟨#[]⟩:=(getD_at keys _ hxL).symm
  rw [hkx] at d0
  generalize keys.getD x ⟨#[]⟩=key at hkx d0
  have hxk:=xk2.stay h4 (by omega)
  obtain ⟨pa,ca,rfl,hca,hca2,hpa⟩:=h3.is
  rw [List.length_map] at h2 h3 hca
  have i0':=str_info
  obtain ⟨i0,hi0,hz0,hz1,hz2⟩:=info_parts str_info
  have k0:=h2.cell 0
  have kn:=hxk.cell 0
  simp only [List.getElem?_toArray,List.getElem?_cons_zero] at k0 kn
  have hxl3:(x:Int)<(keys.length:Int):=by omega
  have hSW:SmS (w.heap.size+1) w.heap.size kb x (.slice pa pre.length ca) (.slice (some ⟨kb,0,none⟩) keys.length kc) key W.drew:=⟨k0,kn,d0⟩
  have HP:=Lib.hid h1
  gi_wp2
  refine wpIn_region_held 7 (SmS (w.heap.size+1) w.heap.size kb x (.slice pa pre.length ca) (.slice (some ⟨kb,0,none⟩) keys.length kc) key) (by kernel_rfl) (by kernel_rfl) (by rintro ⟨_,_,h⟩;exact h) ?_
  simp only [List.size_toArray,List.length_cons,List.length_nil,Nat.reduceAdd,Array.replicate_succ,Array.replicate_zero,List.push_toArray,List.nil_append,List.cons_append]
  refine wpAnyF_take 0 (v:=.slice pa pre.length ca) rfl (by kernel_rfl) (by kernel_rfl) (by kernel_rfl) (by kernel_rfl) (fun _ _ _ h => h) hSW (by rfl) ?_ ?_
  ·rintro W' ⟨y0,y1,y2⟩
   go_simp
  simp only [Act.put,List.setIfInBounds_toArray,List.set_cons_zero,List.set_cons_succ]
  refine wpAnyF_take 1 (v:=.slice (some ⟨kb,0,none⟩) keys.length kc) rfl (by kernel_rfl) (by kernel_rfl) (by kernel_rfl) (by kernel_rfl) (fun _ _ _ h => h) hSW (by rfl) ?_ ?_
  ·rintro W' ⟨y0,y1,y2⟩
   go_simp
  simp only [Act.put,List.setIfInBounds_toArray,List.set_cons_zero,List.set_cons_succ]
  refine wpAnyF_take 2 (v:=.int .i64 (x:Int)) rfl (by kernel_rfl) (by kernel_rfl) (by kernel_rfl) (by kernel_rfl) (fun _ _ _ h => h) hSW (by rfl) ?_ ?_
  ·rintro W' ⟨y0,y1,y2⟩
   go_simp
  simp only [Act.put,List.setIfInBounds_toArray,List.set_cons_zero,List.set_cons_succ]
  refine wpAnyF_take 3 (v:=.pointer (some ⟨kb,x,none⟩)) rfl (by kernel_rfl) (by kernel_rfl) (by kernel_rfl) (by kernel_rfl) (fun _ _ _ h => h) hSW (by rfl) ?_ ?_
  ·rintro W' ⟨y0,y1,y2⟩
   go_simp
  simp only [Act.put,List.setIfInBounds_toArray,List.set_cons_zero,List.set_cons_succ]
  refine wpAnyF_take 4 (v:=.string key) rfl (by kernel_rfl) (by kernel_rfl) (by kernel_rfl) (by kernel_rfl) (fun _ _ _ h => h) hSW (by rfl) ?_ ?_
  ·rintro W' ⟨y0,y1,y2⟩
   go_simp
  simp only [Act.put,List.setIfInBounds_toArray,List.set_cons_zero,List.set_cons_succ]
  have cA:Chg (fun _ => False) W (W.alloc (.cells #[.string key] 9)).drew:=((Chg.refl _ W).alloc _).drew
  have k2l:w.heap.size+1<W.heap.size:=h2.lt
  have hSD:SmS (w.heap.size+1) w.heap.size kb x (.slice pa pre.length ca) (.slice (some ⟨kb,0,none⟩) keys.length kc) key (W.alloc (.cells #[.string key] 9)).drew:=⟨(World.cell?_alloc_lt _ _ _ k2l).trans k0,(World.cell?_alloc_lt _ _ _ hxk.lt).trans kn,(World.cell?_alloc_lt _ _ _ g2).trans d0⟩
  refine wpAnyF_one 5 (by kernel_rfl) rfl (fun K hK => ?_)
  go_simp
  refine hK _ _ (fun _ => hSD) ?_
  clear hK K
  have hr:Reads (W.alloc (.cells #[.string key] 9)).drew (W.heap.size+1) 1 (some ⟨W.heap.size,0,none⟩) 1 [Value.string key]:=by
   refine ⟨rfl,fun _ => ⟨_,rfl,Nat.lt_succ_self _,fun j u hu => ?_⟩⟩
   have hb:=(Blk.new W 9 #[Value.string key]).drew.cell j
   rw [addr_add']
   cases j with
   | zero => exact hb.trans (by simpa using hu)
   | succ j => simp at hu
  have hown0:=Strs.own (Strs.chg h3 cA fun _ _ => id)
  rw [List.length_map] at hown0
  have hone:∀ u∈[Value.string key],u.oneCell'=true:=by intro u hu;rw [List.mem_singleton] at hu;rw [hu];rfl
  have hl2':pre.length+1≤maxLen:=by unfold maxLen;omega
  have hl3':(pre.length+1) * 16≤140737488355328:=by omega
  have hM1:W0.heap.size≤(W.alloc (.cells #[.string key] 9)).drew.heap.size:=Nat.le_trans h5 cA.size
  refine wpAnyF_one 6 (by kernel_rfl) rfl (fun K hK => ?_)
  refine step_append_any _ (by rfl) (.tmp 22) (.tmp 27) 38 (by rfl) W0.heap.size 9 i0 _ 1 16 Tryz.underlying38 hi0 hz0 hz1 hz2 rfl (by omega) (.slice pa pre.length ca) pre.length ((pre.map fun i => keys.getD i ⟨#[]⟩).map Value.string) (by rfl) hown0 (W.heap.size+1) (some ⟨W.heap.size,0,none⟩) 1 1 [Value.string key] (by rfl) hr hone hl2' hl3' hM1 ?_
  intro v3 V3 hown3 hg3 hat3
  have a1:=app_chg hown0 hg3
  have a2:=app_keeps hown0 hg3
  obtain ⟨g3,cp3,rfl⟩:=ownsRow_succ hown3
  have hO2:=h2.chg cA id
  have hO3:Blk V3 (w.heap.size+1) 38 #[.slice pa pre.length ca]:=(hg3.block _ hO2.lt (fun e => hO2.not_own hown0 (by decide) e.symm)).trans hO2
  have hK2:=hxk.chg cA id
  have hK3:Blk V3 w.heap.size 38 #[.slice (some ⟨kb,0,none⟩) keys.length kc]:=(hg3.block _ hK2.lt (fun e => hK2.not_own hown0 (by decide) e.symm)).trans hK2
  have o0:=hO3.cell 0
  have of:=hO3.frozen 0
  have ol:=hO3.lt
  have n0:=hK3.cell 0
  simp only [List.getElem?_toArray,List.getElem?_cons_zero] at o0 n0
  have hkk:kb<W0.heap.size:=(World.ownsRow.lt h0.own kb rfl).2
  have d3:V3.cell? ⟨kb,x,none⟩=some (.string key):=(cell_same (a1.block kb (Nat.lt_of_lt_of_le g2 cA.size) (by omega))).trans ((World.cell?_alloc_lt _ _ _ g2).trans d0)
  refine hK _ _ (fun _ => ⟨o0,n0,d3⟩) ?_
  clear hK K
  refine wpAnyF_one 7 (by kernel_rfl) rfl (fun K hK => ?_)
  go_simp
  refine hK _ _ (fun h => absurd rfl h) ?_
  clear hK K
  refine wpAnyF_done (by kernel_rfl) ?_ _
  have a3:Chg (fun k => k=w.heap.size+1∨W0.heap.size≤k) W (V3.setCell ⟨w.heap.size+1,0,none⟩ (.slice (some ⟨g3,0,none⟩) (pre.length+1) cp3)) :=
   ((cA.mono fun _ _ h => h.elim).trans' a1 fun _ _ h => .inr h).store (.inl rfl) 0 _
  refine ⟨((KeepsOthers.of_chg0 cA).trans a2).trans (KeepsOthers.setCell _ _ _),fun k hk => a3.block k (Nat.lt_of_lt_of_le (hplt k hk).1 hle) (by have:=hplt k hk;omega),⟨⟨_,pre++[x],by rw [← HP.out];simp,hO3.set 0 _,?_⟩,h4.trans' (.of_chg a3) (fun g hg h' => by omega),Nat.le_trans h5 a3.size⟩⟩
  have h9:=own_stay (F:=fun k => k=w.heap.size+1) hown3 (.of_chg ((Chg.refl (fun k => k=w.heap.size+1) V3).store rfl 0 (.slice (some ⟨g3,0,none⟩) (pre.length+1) cp3))) (fun g hg h' => by have:=(hown3.lt g hg).1;omega)
  exact Strs.mk h9 (by simp) (by rw [List.map_append,List.map_append,List.map_cons,List.map_nil,List.map_cons,List.map_nil,← hkx,getD_at keys _ hxL])
 ·rintro D W hD ⟨⟨u,pre,h1,h2,h3⟩,h4,h5⟩ hO hDd
  rw [List.append_nil] at h1
  subst h1
  have hwD:w.heap.size≤D:=Nat.le_trans hCw.size hD
  have hC:Chg (fun _ => False) w W:=hCw.trans' (.of_stay h4 hO) fun g hg h => by omega
  have k0:=h2.cell 0
  have kl:=h2.lt
  simp only [List.getElem?_toArray,List.getElem?_cons_zero] at k0
  have HL:=Lib.hid hL
  clear hv0 xn xd xk2 xo2 hs2 hplt h0 hL
  go_wp2_with fail
  refine bodyPostM_ret (D:=D) (v:=u) rfl hDd (by simp [results,Tryz.results13,go_sem]) ⟨⟨u,rfl,?_⟩,hC.put (by omega) _⟩
  rw [HL.out]
  exact Strs.lower (Strs.stay h3 (Stay.put (F:=fun _ => False) hDd rfl _) fun _ _ => id) hCw.size
end Go.Proofs.YtehpmbmdadkhbaaGreatDoor

namespace Go.Proofs.YtehpmbmdadkhbaaGreatDoor
open Go.RowKit Pal
attribute [local go_sem] Oper.semAt_some
def Us.cells (u:Us):List Value:=[.int .i64 u.c,.int .i64 u.a]
theorem us_cells (u:Us):u.cells.length=2:=rfl
def Uses (w:World) (base:Nat) (v:Value) (l:List Us):Prop:=OwnL 42 2 Us.cells w base v l
theorem OwnL.same {α:Type} {e:TypeId} {k:Nat} {cells:α→List Value} {w w':World} {base:Nat} {v:Value} {l:List α} (h:OwnL e k cells w base v l) (hs:∀ g,v.ownBlock=some g→w'.heap[g]?=w.heap[g]?):OwnL e k cells w' base v l:=by
 refine ⟨h.1,?_⟩
 rcases h.2 with h0 | ⟨g,cap,cur,rfl,h1,hh,rest⟩
 ·exact .inl h0
 ·exact .inr ⟨g,cap,cur,rfl,h1,(hs g rfl).trans hh,rest⟩
theorem use_info:(Tryz.prog.info? 42).map (fun i => (i.zero,i.size,i.bytes))=some (some (.agg #[.int .i64 0,.int .i64 0]),2,16):=by kernel_rfl
def cntN (now:Int) (u:Us):Int:=(cntU u now).getD 0
def cntE (now:Int) (u:Us):Int:=if (cntU u now).isSome then 0 else 130
def cntA (now:Int) (u:Us):Array Value:=#[.int .i64 (cntN now u),.int .i64 (cntE now u)]
theorem countU_any (u:Us) (h:u.Ok) (now:Int) (hw:now≤9223372036854775807) (w:World):Calls Tryz.prog 16 #[.agg u.cs,.int .i64 now] w fun r w' => r=.returned (.tuple (cntA now u))∧Chg (fun _ => False) w w':=by
 unfold cntA cntN cntE
 cases hc:cntU u now with
 | none => exact count_no u h now (cntU_none.1 hc) w
 | some n => exact count_yes u h now n hc hw w
def ucF (v:Value) (a:Nat) (g:Nat):Prop:=g=a∨g=a+1∨v.ownBlock=some g
def ucIt (v:Value) (base:Nat) (us r:List Us) (W:World):Prop:=Uses W base v us∧∃ pre,pre++r=us
def ucIt0 (v:Value) (base a:Nat) (now:Int) (us r:List Us) (W:World):Prop:=Uses W base v us∧Blk W a 72 #[v]∧Blk W (a+1) 3 #[.int .i64 now]∧r=us
set_option maxRecDepth 100000 in
set_option maxHeartbeats 4000000 in
theorem counts1_any (v:Value) (base a:Nat) (now:Int) (hw:now≤9223372036854775807) (us:List Us) (hn:us.length≤1000) (hu:∀ u∈us,u.Ok) (l:Nat) (I:List Us→World→Prop) (Ix:World→Prop) (hI:∀ r W W',I r W→Chg (fun _ => False) W W'→I r W')
  (hY:∀ x r W,I (x :: r) W→ucIt v base us (x :: r) W→YieldAt Fence.wide 2 Tryz.prog l (cntA now x) W fun e W' => W.heap.size≤W'.heap.size∧(∀ k,ucF v a k→W'.heap[k]?=W.heap[k]?)∧((e=.returned (.bool true)∧I r W')∨(e=.returned (.bool false)∧Ix W')))
  (w:World) (h0:I us w) (h:Uses w base v us) (hb:Blk w a 72 #[v]) (hb2:Blk w (a+1) 3 #[.int .i64 now]) :
  Calls Tryz.prog 86 #[.func (.yield l) #[] #[],pt a,pt (a+1)] w fun e W' => (∃ u,e=.returned u)∧(I [] W'∨Ix W'):=by
 have hh:=h
 obtain ⟨p,c,rfl,h1,h2,_⟩:=h.is
 have b0:=hb.cell 0
 have l0:=hb.lt
 simp only [List.getElem?_toArray,List.getElem?_cons_zero] at b0
 unfold ucIt at hY
 unfold pt
 go_enter Tryz.func86,Tryz.ntmps86
 go_wp2_with fail
 refine (wpIn_wide (n:=3)).1 ?_
 gi_loopg [8] us.length (fun m vi W => ∃ pre r,pre++r=us∧m=r.length∧vi=.int .i64 (pre.length:Int)∧I r W∧Uses W base (.slice p us.length c) us∧Blk W (a+1) 3 #[.int .i64 now])
 case atStart => exact ⟨[],us,rfl,rfl,rfl,h0,hh,hb2⟩
 case round =>
  clear hh h h0 hb b0 l0 hb2
  obtain ⟨pre,r,hpr,rfl,rfl,hIr,hE,hB⟩:=hrel
  have hl2:pre.length+r.length=us.length:=by rw [← hpr,List.length_append]
  have HPR:=Lib.hid hpr
  cases r with
  | nil =>
   have hle:¬ (pre.length:Int)<(us.length:Int):=by rw [List.length_nil] at hl2;omega
   have HL2:=Lib.hid hl2
   clear hl2 hpr
   gi_wp2
   go_end0
   exact ⟨⟨_,rfl⟩,.inl hIr⟩
  | cons y r =>
   rw [List.length_cons] at hl2
   have hlt:(pre.length:Int)<(us.length:Int):=by omega
   have hy:us[pre.length]?=some y:=by rw [← hpr];simp
   have hyo:=hu y (by rw [← hpr];simp)
   have hl4:(us.length:Int)≤1000:=by omega
   obtain ⟨gb,c2,he2,g1,g2,g3,hk⟩:=OwnL.at_ hE us_cells hy
   injection he2 with he3 _ he4
   subst he3
   subst he4
   have k0:=hk 0 _ rfl
   have k1:=hk 1 _ rfl
   rw [Nat.add_zero] at k0
   have q0:=hB.cell 0
   have ql:=hB.lt
   simp only [List.getElem?_toArray,List.getElem?_cons_zero] at q0
   have hcn:=fun W => countU_any y hyo now hw W
   unfold Us.cs at hcn
   have HL2:=Lib.hid hl2
   clear hl2 hpr hy hk
   gi_wp2
   refine ⟨trivial,(callsIn_wide.2 (hcn _)).mono ?_⟩
   rintro r' w1 ⟨rfl,hC1⟩
   have hCa:=((Chg.refl (fun _ => False) wr).alloc (.cells #[.int .i64 y.c,.int .i64 y.a] 42)).trans hC1
   obtain ⟨fn,tmps,assign,body,hy',hR⟩:=hY y r w1 (hI _ _ _ hIr hCa) ⟨OwnL.chg0 hE hCa,pre,HPR.out⟩
   have hE1:=OwnL.chg0 hE hCa
   have hB1:=hB.chg hCa id
   clear k0 k1 q0 hcn
   generalize hca:cntA now y=ca at *
   obtain ⟨n1,e1,rfl⟩:∃ n1 e1,ca=#[n1,e1]:=by
    rw [← hca];exact ⟨_,_,rfl⟩
   clear hca
   gi_wp2
   refine hR.mono ?_
   rintro e W3 ⟨hsz,hF,⟨rfl,hI3⟩ | ⟨rfl,hx3⟩⟩
   ·have hE3:=OwnL.same hE1 (fun g hg => hF g (.inr (.inr hg)))
    have hB3:Blk W3 (a+1) 3 #[.int .i64 now]:=(hF (a+1) (.inr (.inl rfl))).trans hB1
    clear hF
    gi_wp2
    gi_roundg r.length
    case rel => exact ⟨pre++[y],r,by rw [List.append_assoc];exact HPR.out,rfl,int_eq (by rw [List.length_append,List.length_cons,List.length_nil];omega),hI3,hE3,hB3⟩
    case measure => rw [List.length_cons];omega
   ·gi_wp2
    refine bodyPost_ret (results_none rfl _ _ _) rfl ?_
    exact ⟨⟨_,rfl⟩,.inr hx3⟩
theorem counts_spec (v:Value) (base a:Nat) (now:Int) (hw:now≤9223372036854775807) (us:List Us) (hn:us.length≤1000) (hu:∀ u∈us,u.Ok):IterSpec Tryz.prog 86 #[pt a,pt (a+1)] (cntA now) (ucF v a) (fun _ => False) (ucIt0 v base a now us) (ucIt v base us) where
 sub:=fun _ h => h.elim
 cells:=by
  rintro r W k ⟨hE,hB,hB2,_⟩ (rfl | rfl | hk)
  ·exact ⟨_,_,_,hB⟩
  ·exact ⟨_,_,_,hB2⟩
  ·rcases hE.2 with ⟨rfl,_⟩ | ⟨g,cap,cur,rfl,_,hh,_⟩
   ·cases hk
   ·injection hk with hk
    subst hk
    exact ⟨_,_,_,hh⟩
 far0:=by rintro r W W' ⟨hE,hB,hB2,hr⟩ _ hF;exact ⟨OwnL.same hE fun g hg => hF g (.inr (.inr hg)),(hF a (.inl rfl)).trans hB,(hF _ (.inr (.inl rfl))).trans hB2,hr⟩
 far:=by rintro r W W' ⟨hE,hr⟩ _ hF;exact ⟨OwnL.same hE fun g hg => hF g (.inr (.inr hg)),hr⟩
 call:=by
  rintro l I Ix hI hIx hY c W h0 ⟨hE,hB,hB2,rfl⟩
  exact counts1_any v base a now hw c hn hu l I Ix hI hY W h0 hE hB hB2
theorem counts_any (p:Option Addr) (n c:Nat) (now:Int) (w:World):Calls Tryz.prog 61 #[.slice p n c,.int .i64 now] w fun r w' => r=.returned (fnv 86 #[pt w.heap.size,pt (w.heap.size+1)])∧(w.alloc (.cells #[.slice p n c] 72)).alloc (.cells #[.int .i64 now] 3)=w':=by
 unfold pt fnv
 go_enter Tryz.func61,Tryz.ntmps61
 go_wp2
 go_ret
 exact ⟨rfl,rfl⟩
end Go.Proofs.YtehpmbmdadkhbaaGreatDoor

namespace Go.Proofs.YtehpmbmdadkhbaaGreatDoor
open Go.RowKit Pal
attribute [local go_sem] Oper.semAt_some
theorem leastF_snoc:∀ (l:List Int) (i at_:Nat) (least n:Int),leastF at_ least i (l++[n])=if n<(leastF at_ least i l).2 then (i+l.length,n) else leastF at_ least i l
 | [],i,at_,least,n => by
  show leastF at_ least i [n]=if n<least then (i+0,n) else (at_,least)
  unfold leastF
  rfl
 | x :: l,i,at_,least,n => by
  rw [List.cons_append]
  unfold leastF
  split
  ·rw [leastF_snoc l (i+1) i x n,List.length_cons]
   congr 2
   omega
  ·rw [leastF_snoc l (i+1) at_ least n,List.length_cons]
   congr 2
   omega
theorem cntsU_snoc (now:Int):∀ (l:List Us) (u:Us),cntsU now (l++[u])=match cntsU now l with
  | none => none
  | some ns => (cntU u now).map fun n => ns++[n]
 | [],u => by
  show cntsU now [u]=_
  unfold cntsU
  cases cntU u now <;> rfl
 | x :: l,u => by
  rw [List.cons_append]
  unfold cntsU
  cases hx:cntU x now with
  | none => rfl
  | some n =>
   rw [cntsU_snoc now l u]
   cases hl:cntsU now l with
   | none => rfl
   | some ns => cases cntU u now <;> rfl
theorem cntsU_app_none {now:Int}:∀ {l m:List Us},cntsU now l=none→cntsU now (l++m)=none
 | [],m,h => by cases h
 | x :: l,m,h => by
  rw [List.cons_append]
  unfold cntsU at h ⊢
  cases hx:cntU x now with
  | none => rfl
  | some n =>
   rw [hx] at h
   have:cntsU now l=none:=by
    cases hl:cntsU now l with
    | none => rfl
    | some ns => rw [hl] at h;cases h
   rw [cntsU_app_none this];rfl
theorem leastF_le:∀ (l:List Int) (i at_:Nat) (least:Int),at_≤i→(leastF at_ least i l).1≤i+l.length∧((∀ n∈l,0≤n)→0≤least→0≤(leastF at_ least i l).2)∧(leastF at_ least i l).2≤least
 | [],i,at_,least,h => ⟨by simpa [leastF] using h,fun _ h => h,Int.le_refl _⟩
 | x :: l,i,at_,least,h => by
  unfold leastF
  split
  ·rename_i hx
   obtain ⟨h1,h2,h3⟩:=leastF_le l (i+1) i x (by omega)
   exact ⟨by rw [List.length_cons];omega,fun hn _ => h2 (fun n hn2 => hn n (List.mem_cons_of_mem _ hn2)) (hn x (List.mem_cons_self)),by omega⟩
  ·obtain ⟨h1,h2,h3⟩:=leastF_le l (i+1) at_ least (by omega)
   exact ⟨by rw [List.length_cons];omega,fun hn h0 => h2 (fun n hn2 => hn n (List.mem_cons_of_mem _ hn2)) h0,h3⟩
def leastV (now:Int) (us:List Us):Value:=match us,cntsU now us with
 | [],_ => .tuple #[.int .i64 0,.int .i64 130]
 | _ :: _,none => .tuple #[.int .i64 0,.int .i64 130]
 | _ :: _,some ns => .tuple #[.int .i64 (leastL ns:Int),.int .i64 0]
structure LsB (W:World) (A:Nat) (at_ least i wrong:Int):Prop where
 b0:Blk W A 3 #[.int .i64 at_]
 b1:Blk W (A+1) 3 #[.int .i64 least]
 b2:Blk W (A+1+1) 3 #[.int .i64 i]
 b3:Blk W (A+1+1+1) 34 #[.int .i64 wrong]
def LsI (now:Int) (us:List Us) (A:Nat) (W0:World) (r:List Us) (W:World):Prop:=(∃ pre ns,pre++r=us∧cntsU now pre=some ns∧LsB W A ((leastF 0 256 0 ns).1:Int) (leastF 0 256 0 ns).2 (pre.length:Int) 0)∧Stay (fun g => A≤g∧g<A+4) W0 W
def LsX (now:Int) (us:List Us) (A:Nat) (W0:World) (c:Code) (W:World):Prop:=c=.exit 0∧cntsU now us=none∧(∃ a b i,LsB W A a b i 130)∧Stay (fun g => A≤g∧g<A+4) W0 W
theorem LsB.stay {F:Nat→Prop} {W W':World} {A:Nat} {a b i x:Int} (h:LsB W A a b i x) (hs:Stay F W W') (hn:∀ g,A≤g→g<A+4→¬ F g):LsB W' A a b i x:=⟨h.b0.stay hs (hn _ (by omega) (by omega)),h.b1.stay hs (hn _ (by omega) (by omega)),h.b2.stay hs (hn _ (by omega) (by omega)),h.b3.stay hs (hn _ (by omega) (by omega))⟩
theorem st1 (W:World) (a:Nat) (v:Value):Chg (fun g => g=a) W (W.setCell ⟨a,0,none⟩ v):=(Chg.refl (fun g => g=a) W).store rfl 0 v
set_option maxRecDepth 100000 in
set_option maxHeartbeats 4000000 in
theorem least_cons (base:Nat) (v:Value) (us:List Us) (hne:us≠[]) (hn:us.length≤1000) (hu:∀ u∈us,u.Ok) (now:Int) (hw:now≤9223372036854775807) (w:World) (h:Uses w base v us):Calls Tryz.prog 34 #[v,.int .i64 now] w fun r w' => r=.returned (leastV now us)∧Chg (fun _ => False) w w':=by
 have hct:=counts_any
 obtain ⟨p,c,rfl,hc1,hc2,_⟩:=h.is
 have hl0:0<us.length:=List.length_pos_iff.2 hne
 have hl1:¬ (us.length:Int)=0:=by omega
 have hl2:((us.length:Int) == 0)=false:=by rw [beq_eq_false_iff_ne];exact hl1
 unfold pt fnv at hct
 refine calls_of_wp_marks Tryz.func34 rfl ?_
 simp only [Tryz.ntmps34,List.size_toArray,List.length_cons,List.length_nil,Nat.reduceAdd,Nat.reduceSub,Array.replicate_succ,Array.replicate_zero,List.push_toArray,List.append_toArray,List.nil_append,List.cons_append]
 go_wp2_with fail
 go_step3
 go_wp2_with fail
 go_step3
 go_wp2_with (go_at_call 61;refine (hct _ _ _ _ _).mono ?_;rintro e w' ⟨rfl,rfl⟩)
 have hC0:=(((((((Chg.refl (fun _ => False) w).alloc (.cells #[.int .i64 0] 3)).alloc (.cells #[.int .i64 256] 3)).alloc (.cells #[.int .i64 0] 3)).alloc (.cells #[.int .i64 0] 34)).alloc (.cells #[.slice p us.length c] 72)).alloc (.cells #[.int .i64 now] 3))
 have hB0:LsB ((((((w.alloc (.cells #[.int .i64 0] 3)).alloc (.cells #[.int .i64 256] 3)).alloc (.cells #[.int .i64 0] 3)).alloc (.cells #[.int .i64 0] 34)).alloc (.cells #[.slice p us.length c] 72)).alloc (.cells #[.int .i64 now] 3)) w.heap.size 0 256 0 0:=by
  refine ⟨(((((Blk.new _ _ _).alloc _).alloc _).alloc _).alloc _).alloc _,?_,?_,?_⟩
  ·have:=((((Blk.new (w.alloc (.cells #[.int .i64 0] 3)) 3 #[.int .i64 256]).alloc (.cells #[.int .i64 0] 3)).alloc (.cells #[.int .i64 0] 34)).alloc (.cells #[.slice p us.length c] 72)).alloc (.cells #[.int .i64 now] 3)
   simpa only [World.size_alloc] using this
  ·have:=(((Blk.new ((w.alloc (.cells #[.int .i64 0] 3)).alloc (.cells #[.int .i64 256] 3)) 3 #[.int .i64 0]).alloc (.cells #[.int .i64 0] 34)).alloc (.cells #[.slice p us.length c] 72)).alloc (.cells #[.int .i64 now] 3)
   simpa only [World.size_alloc] using this
  ·have:=((Blk.new (((w.alloc (.cells #[.int .i64 0] 3)).alloc (.cells #[.int .i64 256] 3)).alloc (.cells #[.int .i64 0] 3)) 34 #[.int .i64 0]).alloc (.cells #[.slice p us.length c] 72)).alloc (.cells #[.int .i64 now] 3)
   simpa only [World.size_alloc] using this
 have hb1:Blk ((((((w.alloc (.cells #[.int .i64 0] 3)).alloc (.cells #[.int .i64 256] 3)).alloc (.cells #[.int .i64 0] 3)).alloc (.cells #[.int .i64 0] 34)).alloc (.cells #[.slice p us.length c] 72)).alloc (.cells #[.int .i64 now] 3)) (w.heap.size+1+1+1+1) 72 #[.slice p us.length c]:=by
  have:=(Blk.new ((((w.alloc (.cells #[.int .i64 0] 3)).alloc (.cells #[.int .i64 256] 3)).alloc (.cells #[.int .i64 0] 3)).alloc (.cells #[.int .i64 0] 34)) 72 #[.slice p us.length c]).alloc (.cells #[.int .i64 now] 3)
  simpa only [World.size_alloc] using this
 have hb2:Blk ((((((w.alloc (.cells #[.int .i64 0] 3)).alloc (.cells #[.int .i64 256] 3)).alloc (.cells #[.int .i64 0] 3)).alloc (.cells #[.int .i64 0] 34)).alloc (.cells #[.slice p us.length c] 72)).alloc (.cells #[.int .i64 now] 3)) (w.heap.size+1+1+1+1+1) 3 #[.int .i64 now]:=by
  have:=Blk.new (((((w.alloc (.cells #[.int .i64 0] 3)).alloc (.cells #[.int .i64 256] 3)).alloc (.cells #[.int .i64 0] 3)).alloc (.cells #[.int .i64 0] 34)).alloc (.cells #[.slice p us.length c] 72)) 3 #[.int .i64 now]
  simpa only [World.size_alloc] using this
 have hs0:(((((((w.alloc (.cells #[.int .i64 0] 3)).alloc (.cells #[.int .i64 256] 3)).alloc (.cells #[.int .i64 0] 3)).alloc (.cells #[.int .i64 0] 34)).alloc (.cells #[.slice p us.length c] 72)).alloc (.cells #[.int .i64 now] 3))).heap.size=w.heap.size+6:=by simp
 generalize (((((w.alloc (.cells #[.int .i64 0] 3)).alloc (.cells #[.int .i64 256] 3)).alloc (.cells #[.int .i64 0] 3)).alloc (.cells #[.int .i64 0] 34)).alloc (.cells #[.slice p us.length c] 72)).alloc (.cells #[.int .i64 now] 3)=W0 at hC0 hB0 hb1 hb2 hs0 ⊢
 have hU0:=OwnL.chg0 h hC0
 have hFn:∀ k,ucF (.slice p us.length c) (w.heap.size+1+1+1+1) k→¬ (w.heap.size≤k∧k<w.heap.size+4):=by
  rintro k (rfl | rfl | hk) h9
  ·omega
  ·omega
  ·have:=(World.ownsRow.lt h k hk).2;omega
 refine wp_range_it 86 #[pt (w.heap.size+1+1+1+1),pt (w.heap.size+1+1+1+1+1)] rfl (enters_of Tryz.func86 (by kernel_rfl) rfl) (counts_spec (.slice p us.length c) base (w.heap.size+1+1+1+1) now hw us hn hu) (fun _ => rfl)
  (LsI now us w.heap.size W0) ?_ (LsX now us w.heap.size W0) ?_ us ?_ ⟨hU0,hb1,hb2,rfl⟩ _ (fun l x W K hK => by simp only [cntA];gi_wp2;exact hK) ?_ ?_ ?_
 ·rintro r W W' ⟨⟨pre,ns,h1,h2,h3⟩,h4⟩ hs
  exact ⟨⟨pre,ns,h1,h2,h3.stay hs fun _ _ _ => id⟩,h4.trans' hs fun _ _ h => h.elim⟩
 ·rintro c W W' ⟨h1,h2,⟨a,b,i,h3⟩,h4⟩ hs
  exact ⟨h1,h2,⟨a,b,i,h3.stay hs fun _ _ _ => id⟩,h4.trans' hs fun _ _ h => h.elim⟩
 ·exact ⟨⟨[],[],rfl,rfl,hB0⟩,Stay.refl _ _⟩
 ·rintro l x r W ⟨⟨pre,ns,h1,h2,h3⟩,h4⟩ ⟨hUW,_,_⟩ hle
  have hxu:x.Ok:=hu x (by rw [← h1];simp)
  have hpl:pre.length≤1000:=by rw [← h1,List.length_append] at hn;omega
  obtain ⟨g1,g2,g3⟩:=leastF_le ns 0 0 256 (Nat.le_refl _)
  have hsn:=leastF_snoc ns 0 0 256
  have hcn:=cntsU_len h2
  have c0:=h3.b0.cell 0
  have c1:=h3.b1.cell 0
  have c2:=h3.b2.cell 0
  have c3:=h3.b3.cell 0
  have f0:=h3.b0.frozen 0
  have f1:=h3.b1.frozen 0
  have f2:=h3.b2.frozen 0
  have f3:=h3.b3.frozen 0
  have k0:=h3.b0.lt
  have k1:=h3.b1.lt
  have k2:=h3.b2.lt
  have k3:=h3.b3.lt
  simp only [List.getElem?_toArray,List.getElem?_cons_zero] at c0 c1 c2 c3
  have hkO:∀ {W':World},Chg (fun g => w.heap.size≤g∧g<w.heap.size+4) W W'→KeepsOthers W W'∧∀ k,ucF (.slice p us.length c) (w.heap.size+1+1+1+1) k→W'.heap[k]?=W.heap[k]?:=fun hc => by
   refine ⟨others_chg hc fun k o hk ho hf => ?_,fun k hk => hc.block k ?_ (hFn k hk)⟩
   ·have hcase:k=w.heap.size∨k=w.heap.size+1∨k=w.heap.size+1+1∨k=w.heap.size+1+1+1:=by omega
    rcases hcase with rfl | rfl | rfl | rfl
    ·have h9:=h3.b0;unfold Blk at h9;rw [h9] at hk;cases hk;cases ho
    ·have h9:=h3.b1;unfold Blk at h9;rw [h9] at hk;cases hk;cases ho
    ·have h9:=h3.b2;unfold Blk at h9;rw [h9] at hk;cases hk;cases ho
    ·have h9:=h3.b3;unfold Blk at h9;rw [h9] at hk;cases hk;cases ho
   ·rcases hk with rfl | rfl | hk
    ·omega
    ·omega
    ·exact (World.ownsRow.lt hUW k hk).2
  have HP:=Lib.hid h1
  have H2:=Lib.hid h2
  have HSN:=Lib.hid hsn
  have HCN:=Lib.hid hcn
  generalize leastF 0 256 0 ns=L at *
  obtain ⟨la,lm⟩:=L
  dsimp only at c0 c1 g1 g3 h3
  have hpi:(pre.length:Int)≤1000:=by omega
  clear h1 h2 hsn hcn
  cases hc:cntU x now with
  | none =>
   have e1:cntN now x=0:=by unfold cntN;rw [hc];rfl
   have e2:cntE now x=130:=by unfold cntE;rw [hc];rfl
   rw [e1,e2]
   have hcf:Chg (fun g => w.heap.size≤g∧g<w.heap.size+4) W (W.setCell ⟨w.heap.size+1+1+1,0,none⟩ (.int .i64 130)):=(Chg.refl _ W).store ⟨by omega,by omega⟩ 0 _
   gi_wp2
   refine ⟨(hkO hcf).1,(hkO hcf).2,rfl,?_,⟨la,lm,pre.length,⟨h3.b0.chg ((Chg.refl (fun g => g=w.heap.size+1+1+1) W).store rfl 0 _) (by omega),h3.b1.chg ((Chg.refl (fun g => g=w.heap.size+1+1+1) W).store rfl 0 _) (by omega),h3.b2.chg ((Chg.refl (fun g => g=w.heap.size+1+1+1) W).store rfl 0 _) (by omega),by have:=h3.b3.set 0 (.int .i64 130);simpa using this⟩⟩,h4.trans (.of_chg hcf)⟩
   have:cntsU now (pre++[x])=none:=by rw [cntsU_snoc,H2.out,hc];rfl
   rw [← HP.out,show pre++x :: r=(pre++[x])++r by simp]
   exact cntsU_app_none this
  | some n =>
   have e1:cntN now x=n:=by unfold cntN;rw [hc];rfl
   have e2:cntE now x=0:=by unfold cntE;rw [hc];rfl
   have hn2:=cntU_le hxu hc
   have hns:cntsU now (pre++[x])=some (ns++[n]):=by rw [cntsU_snoc,H2.out,hc];rfl
   have hlen9:(pre++[x]).length=pre.length+1:=by simp
   rw [e1,e2]
   have HC:=Lib.hid hc
   clear hc
   by_cases hlt:n<lm
   ·have hcf:Chg (fun g => w.heap.size≤g∧g<w.heap.size+4) W (((W.setCell ⟨w.heap.size,0,none⟩ (.int .i64 (pre.length:Int))).setCell ⟨w.heap.size+1,0,none⟩ (.int .i64 n)).setCell ⟨w.heap.size+1+1,0,none⟩ (.int .i64 ((pre.length:Int)+1))):=(((Chg.refl _ W).store ⟨by omega,by omega⟩ 0 _).store ⟨by omega,by omega⟩ 0 _).store ⟨by omega,by omega⟩ 0 _
    have q0:=((h3.b0.set 0 (.int .i64 (pre.length:Int))).chg (st1 _ (w.heap.size+1) (.int .i64 n)) (by omega)).chg (st1 _ (w.heap.size+1+1) (.int .i64 ((pre.length:Int)+1))) (by omega)
    have q1:=((h3.b1.chg (st1 _ w.heap.size (.int .i64 (pre.length:Int))) (by omega)).set 0 (.int .i64 n)).chg (st1 _ (w.heap.size+1+1) (.int .i64 ((pre.length:Int)+1))) (by omega)
    have q2:=((h3.b2.chg (st1 _ w.heap.size (.int .i64 (pre.length:Int))) (by omega)).chg (st1 _ (w.heap.size+1) (.int .i64 n)) (by omega)).set 0 (.int .i64 ((pre.length:Int)+1))
    have q3:=((h3.b3.chg (st1 _ w.heap.size (.int .i64 (pre.length:Int))) (by omega)).chg (st1 _ (w.heap.size+1) (.int .i64 n)) (by omega)).chg (st1 _ (w.heap.size+1+1) (.int .i64 ((pre.length:Int)+1))) (by omega)
    simp only [List.setIfInBounds_toArray,List.set_cons_zero] at q0 q1 q2
    gi_wp2
    refine ⟨(hkO hcf).1,(hkO hcf).2,⟨pre++[x],ns++[n],by rw [← HP.out];simp,hns,?_⟩,h4.trans (.of_chg hcf)⟩
    rw [HSN.out,if_pos hlt,HCN.out,Nat.zero_add,hlen9]
    exact ⟨q0,q1,by rw [show ((pre.length+1:Nat):Int)=(pre.length:Int)+1 by omega];exact q2,q3⟩
   ·have hcf:Chg (fun g => w.heap.size≤g∧g<w.heap.size+4) W (W.setCell ⟨w.heap.size+1+1,0,none⟩ (.int .i64 ((pre.length:Int)+1))):=(Chg.refl _ W).store ⟨by omega,by omega⟩ 0 _
    have q0:=h3.b0.chg (st1 _ (w.heap.size+1+1) (.int .i64 ((pre.length:Int)+1))) (by omega)
    have q1:=h3.b1.chg (st1 _ (w.heap.size+1+1) (.int .i64 ((pre.length:Int)+1))) (by omega)
    have q2:=h3.b2.set 0 (.int .i64 ((pre.length:Int)+1))
    have q3:=h3.b3.chg (st1 _ (w.heap.size+1+1) (.int .i64 ((pre.length:Int)+1))) (by omega)
    simp only [List.setIfInBounds_toArray,List.set_cons_zero] at q2
    gi_wp2
    refine ⟨(hkO hcf).1,(hkO hcf).2,⟨pre++[x],ns++[n],by rw [← HP.out];simp,hns,?_⟩,h4.trans (.of_chg hcf)⟩
    rw [HSN.out,if_neg (show ¬ n<lm by omega),hlen9]
    exact ⟨q0,q1,by rw [show ((pre.length+1:Nat):Int)=(pre.length:Int)+1 by omega];exact q2,q3⟩
 ·rintro D W hD ⟨⟨pre,ns,h1,h2,h3⟩,h4⟩ hO hDd
  rw [List.append_nil] at h1
  subst h1
  have hwD:w.heap.size≤D:=Nat.le_trans hC0.size hD
  have hC:Chg (fun _ => False) w W:=hC0.trans' (.of_stay h4 hO) fun g hg h => by omega
  have c0:=h3.b0.cell 0
  have c3:=h3.b3.cell 0
  have k0:=h3.b0.lt
  have k3:=h3.b3.lt
  simp only [List.getElem?_toArray,List.getElem?_cons_zero] at c0 c3
  have hlv:leastV now pre=.tuple #[.int .i64 (leastL ns:Int),.int .i64 0]:=by
   cases pre with
   | nil => exact absurd rfl hne
   | cons a b => unfold leastV;rw [h2]
  unfold leastL at hlv
  clear hB0 hb1 hb2 hU0 hFn h2 hs0
  generalize (leastF 0 256 0 ns).1=la at *
  go_wp2_with fail
  try rw [Exit.noGoto_ret]
  refine bodyPostM_ret (D:=D) (v:=.tuple #[.int .i64 (la:Int),.int .i64 0]) rfl hDd (by simp [results,Tryz.results34,go_sem]) ⟨by rw [hlv],?_⟩
  exact hC.put (by omega) _
 ·rintro D c9 W hD ⟨rfl,h2,⟨xa,xb,xi,h3⟩,h4⟩ hO hDd
  have hwD:w.heap.size≤D:=Nat.le_trans hC0.size hD
  have hC:Chg (fun _ => False) w W:=hC0.trans' (.of_stay h4 hO) fun g hg h => by omega
  have c3:=h3.b3.cell 0
  have k3:=h3.b3.lt
  simp only [List.getElem?_toArray,List.getElem?_cons_zero] at c3
  have hlv:leastV now us=.tuple #[.int .i64 0,.int .i64 130]:=by
   cases us with
   | nil => exact absurd rfl hne
   | cons a b => unfold leastV;rw [h2]
  clear hB0 hb1 hb2 hU0 hFn h2 hs0
  go_wp2_with fail
  go_still_tail 2,(by kernel_rfl)
  go_wp2_with fail
  try rw [Exit.noGoto_ret]
  refine bodyPostM_ret (D:=D) (v:=.tuple #[.int .i64 0,.int .i64 130]) rfl hDd (by simp [results,Tryz.results34,go_sem]) ⟨by rw [hlv],?_⟩
  exact (hC.drew).put (by omega) _
end Go.Proofs.YtehpmbmdadkhbaaGreatDoor

namespace Go.Proofs.YtehpmbmdadkhbaaGreatDoor
open Go.RowKit Pal
def spTypes:List Nat:=[78,125,136,138,90,104,204,212,252,250,256,275,277]
theorem sp_tys {w:World} {base:Nat} {s:Spc} (h:SpAt w base s) {g:Nat} (hg:s.foot g):∃ t cs,Blk w g t cs∧t∈spTypes:=by
 rcases hg with rfl | hg | ⟨i,hi,hg⟩
 ·exact ⟨_,_,h.b,by decide⟩
 ·obtain ⟨t,cs,hb,ht⟩:=dmS_ty h.dm hg
  exact ⟨t,cs,hb,by rcases ht with rfl | rfl | rfl <;> decide⟩
 ·obtain ⟨t,cs,hb,ht⟩:=it_ty (h.it i hi) hg
  exact ⟨t,cs,hb,by rcases ht with rfl | rfl | rfl | rfl | rfl | rfl | rfl | rfl | rfl <;> decide⟩
section
variable {w0 W W':World} {b:Nat} {cf:Cf} {l:List Ct} {F:Nat→Prop}
theorem Spa.ty (h:Spa w0 W b cf l F) {g:Nat} (hg:F g):∃ t cs,Blk W g t cs∧t∈spTypes:=by
 obtain ⟨s,hs,_,_,_,rfl⟩:=h.ex
 exact sp_tys hs hg
theorem Spa.no_blk (h:Spa w0 W b cf l F) {g:Nat} {t:TypeId} {cs:Array Value} (hb:Blk W g t cs) (ht:t ∉ spTypes):¬ F g:=fun hg => by
 obtain ⟨t',cs',hb',ht'⟩:=h.ty hg
 exact hb.ne_type hb' (fun e => ht (e ▸ ht')) rfl
theorem Spa.no_own (h:Spa w0 W b cf l F) {base n sz:Nat} {e:TypeId} {v:Value} {xs:List Value} (ho:W.ownsRow base e sz v n xs) (he:e ∉ spTypes) {g:Nat} (hg:v.ownBlock=some g):¬ F g:=fun hF => by
 obtain ⟨t',cs',hb',ht'⟩:=h.ty hF
 exact hb'.not_own ho (fun e' => he (e' ▸ ht')) hg
end
end Go.Proofs.YtehpmbmdadkhbaaGreatDoor

namespace Go.Proofs.YtehpmbmdadkhbaaGreatDoor
open Go.RowKit Pal
attribute [local go_sem] Oper.semAt_some
structure Sm where
 k:ByteArray
 u:Us
def Sm.cells (s:Sm):List Value:=[.string s.k,.int .i64 s.u.c,.int .i64 s.u.a]
theorem sm_cells (s:Sm):s.cells.length=3:=rfl
theorem sm_info:(Tryz.prog.info? 74).map (fun i => (i.zero,i.size,i.bytes))=some (some (.agg #[.string ⟨#[]⟩,.int .i64 0,.int .i64 0]),3,32):=by kernel_rfl
def ChS (A:Nat) (c a:Int) (W:World):Prop:=W.cell? ⟨A,0,none⟩=some (.int .i64 c)∧W.cell? ⟨A,1,none⟩=some (.int .i64 a)
theorem ChS.of {W:World} {A:Nat} {c a:Int} (h:Blk W A 42 #[.int .i64 c,.int .i64 a]):ChS A c a W:=⟨by have:=h.cell 0;simpa using this,by have:=h.cell 1;simpa using this⟩
theorem reads_blk {w:World} {g n size:Nat} {t:TypeId} {cs:List Value} (hb:Blk w g t cs.toArray) (h:cs.length=n * size):Reads w w.heap.size size (some ⟨g,0,none⟩) n cs :=
 ⟨h,fun _ => ⟨_,rfl,hb.lt,fun j u hu => by rw [addr_add',Nat.zero_add,hb.cell];simpa using hu⟩⟩
theorem own_two {w:World} {b b' n n' sz sz':Nat} {e e':TypeId} {v v':Value} {xs xs':List Value} (h:w.ownsRow b e sz v n xs) (h':w.ownsRow b' e' sz' v' n' xs') (hne:e≠e') {g:Nat} (hg:v.ownBlock=some g):v'.ownBlock≠some g:=by
 rcases h.2 with ⟨rfl,_⟩ | ⟨g',cap,cur,rfl,_,hh,_⟩
 ·cases hg
 ·injection hg with hg
  subst hg
  exact Blk.not_own (t:=e) (cs:=cur) hh h' hne
set_option maxRecDepth 100000 in
set_option maxHeartbeats 4000000 in
theorem choose_any {w0 W:World} {b:Nat} {cf:Cf} {l:List Ct} {F:Nat→Prop} (h:Spa w0 W b cf l F) (hne:l≠[]) (vd:Value) (ds:List Nat) (hd:DrsF F W vd ds) (now:Int) (hw:now≤9223372036854775807) :
  Calls Tryz.prog 11 #[pt b,.int .i64 now,vd] W fun r W' => r=.returned (.tuple #[.string (chooseC l now ds).1,.int .i64 (chooseC l now ds).2])∧Sst w0 b cf l F W W':=by
 have hks:=spa_keys h
 have hkne:keysC l≠[]:=by unfold keysC;simpa using hne
 have hsl:=samplesL_len hkne ds
 obtain ⟨hok,hl5⟩:=h.cok
 have hkl:(keysC l).length≤1000:=by unfold keysC;rw [List.length_map];omega
 have hsm:=fun v W1 B (hv:Strs W1 B v (keysC l)) (hd1:DrsAt W1 vd ds) => samples_cons B v (keysC l) hkne hkl vd ds W1 hv hd1
 have husC:∀ k∈samplesL (keysC l) ds,(findK Ct.key l k).isSome=true∧k.size≤9223372036854775807∧(useC l k).Ok:=fun k hk => by
  obtain ⟨c,hc,rfl,hf,hu⟩:=useC_some hok (samplesL_mem hk)
  exact ⟨by rw [hf];rfl,by have:=hok.k c hc;omega,by rw [hu];exact hok.u c hc⟩
 have huse:=fun W1 F1 (h1:Spa w0 W1 b cf l F1) k (hk:k.size≤9223372036854775807) => spa_use h1 k hk
 obtain ⟨i0,hi0,hi1,hi2,hi3⟩:=info_parts sm_info
 obtain ⟨o0,ho0,ho1,ho2,ho3⟩:=info_parts use_info
 obtain ⟨X,hX⟩:∃ X,chooseC l now ds=X:=⟨_,rfl⟩
 rw [hX]
 unfold chooseC at hX
 rw [if_neg hne] at hX
 generalize samplesL (keysC l) ds=sam at *
 unfold pt Us.cs at *
 go_enter Tryz.func11,Tryz.ntmps11
 go_wp2_with (first
  | (go_at_call 14;refine hks.mono ?_;rintro r w1 ⟨⟨vk,rfl,hvk⟩,hC1⟩)
  | (go_at_call 13;refine (hsm _ _ _ hvk (hd.d.chg0 hC1)).mono ?_;rintro r w2 ⟨⟨vs,rfl,hvs⟩,hC2⟩;obtain ⟨ps,cs,rfl,_,_,_⟩:=hvs.is)
  | fail)
 have hCw:=hC1.trans hC2
 have h2:=h.chg0 hCw
 obtain ⟨M,hMd⟩:∃ M,M=w2.heap.size:=⟨_,rfl⟩
 have hps:∀ g,Value.ownBlock (.slice ps sam.length cs)=some g→g<M:=fun g hg => by rw [hMd];exact (World.ownsRow.lt hvs.own g hg).2
 have hN0:Nf F F W w2:=Nf.zero hCw
 have hW0:Chg (fun _ => False) w0 W:=h.chg
 have hWM:W.heap.size≤M:=by rw [hMd];exact hCw.size
 clear hks hsm hvk hC1 hC2 hCw
 go_loopg [8,9,23] sam.length (fun n vl vu iv Wr => ∃ (j:Nat) (F1:Nat→Prop),iv=.int .i64 (j:Int)∧n=sam.length - j∧j≤sam.length∧OwnL 74 3 Sm.cells Wr M vl ((sam.take j).map fun k => ⟨k,useC l k⟩)∧Uses Wr M vu ((sam.take j).map (useC l))∧Strs Wr w1.heap.size (.slice ps sam.length cs) sam∧Spa w0 Wr b cf l F1∧Nf F F1 W Wr∧M≤Wr.heap.size)
 case atStart => exact ⟨0,F,rfl,rfl,Nat.zero_le _,OwnL.nil _ _,OwnL.nil _ _,hvs,h2,hN0,Nat.le_of_eq hMd⟩
 case round =>
  clear h2 hN0 hvs hd
  obtain ⟨j,F1,rfl,rfl,hj,hl,hu,hv,hSp,hNf,hM⟩:=hrel
  by_cases hjl:j<sam.length
  ·have h3:(j:Int)<5:=by omega
   have hx:=List.getElem?_eq_getElem hjl
   have hkm:sam[j]∈sam:=List.getElem_mem hjl
   obtain ⟨kb,rfl,g1,g2,d0⟩:=hv.at_ hjl
   generalize sam[j]=key at hx hkm d0
   obtain ⟨hfs,hks9,huok⟩:=husC key hkm
   have hu1:=huse _ _ hSp key hks9
   rw [hfs] at hu1
   have hta:sam.take (j+1)=sam.take j++[key]:=by rw [List.take_add_one,hx];rfl
   have hLe:((sam.take j).map fun k => (⟨k,useC l k⟩:Sm)).length=j:=by rw [List.length_map,List.length_take];omega
   have hUe:((sam.take j).map (useC l)).length=j:=by rw [List.length_map,List.length_take];omega
   obtain ⟨pl,cl,rfl,_,_,_⟩:=OwnL.is hl
   obtain ⟨pu,cu,rfl,_,_,_⟩:=OwnL.is hu
   rw [hLe] at hl ⊢
   rw [hUe] at hu ⊢
   have hj5:(j:Int)≤5:=by omega
   have HSL:=Lib.hid hsl
   have HJ:=Lib.hid hj
   have HX:=Lib.hid hx
   have HTA:=Lib.hid hta
   obtain ⟨Lj,hLjd⟩:∃ Lj,Lj=(sam.take j).map fun k => (⟨k,useC l k⟩:Sm):=⟨_,rfl⟩
   obtain ⟨Uj,hUjd⟩:∃ Uj,Uj=(sam.take j).map (useC l):=⟨_,rfl⟩
   rw [← hLjd] at hl hLe
   rw [← hUjd] at hu hUe
   have HL:=Lib.hid hLjd
   have HU:=Lib.hid hUjd
   have hLj:=Lib.hid hLe
   have hUj:=Lib.hid hUe
   obtain ⟨u,hud⟩:∃ u,u=useC l key:=⟨_,rfl⟩
   rw [← hud] at hu1 huok
   have HUD:=Lib.hid hud
   have hpuW:∀ g,Value.ownBlock (.slice pu j cu)=some g→g<wr.heap.size:=fun g hg => by
    have h9:=OwnL.own hu
    rw [hUe] at h9
    exact (World.ownsRow.lt h9 g hg).2
   clear hx hta hLjd hUjd hLe hUe hud hj hsl
   go_wp2_with (first
    | (go_at_call 15;refine hu1.mono ?_;rintro r w4 ⟨rfl,F2,hSp2,hNf2⟩)
    | fail)
   have hA0:=(Chg.refl (fun _ => False) w4).alloc (.cells #[.int .i64 u.c,.int .i64 u.a] 42)
   have hbx:=Blk.new w4 42 #[.int .i64 u.c,.int .i64 u.a]
   have hl4:=OwnL.chg0 (OwnL.chg hl hNf2.chg fun g hg => hSp.no_own (OwnL.own hl) (by decide) hg) hA0
   have hu4:=OwnL.chg0 (OwnL.chg hu hNf2.chg fun g hg => hSp.no_own (OwnL.own hu) (by decide) hg) hA0
   have hv4:=Strs.chg (Strs.chg hv hNf2.chg fun g hg => hSp.no_own hv.own (by decide) hg) hA0 fun _ _ => id
   have hSp4:=hSp2.chg0 hA0
   have hNf4:=(hNf.trans hNf2).trans (Nf.zero hA0)
   have hM4:=Nat.le_trans hM (Nat.le_trans hNf2.chg.size hA0.size)
   have hpu:∀ g,Value.ownBlock (.slice pu j cu)=some g→g<w4.heap.size:=fun g hg => by have:=hpuW g hg;have:=hNf2.chg.size;omega
   have hpuD:∀ g,Value.ownBlock (.slice pu j cu)=some g→¬ F2 g∧M≤g:=fun g hg => by
    have h9:=OwnL.own hu4
    rw [hUj.out] at h9
    exact ⟨hSp4.no_own h9 (by decide) hg,(World.ownsRow.lt h9 g hg).1⟩
   have hplD:∀ g,Value.ownBlock (.slice pl j cl)=some g→¬ F2 g∧M≤g:=fun g hg => by
    have h9:=OwnL.own hl4
    rw [hLj.out] at h9
    exact ⟨hSp4.no_own h9 (by decide) hg,(World.ownsRow.lt h9 g hg).1⟩
   have hkbM:kb<M:=hps kb rfl
   generalize w4.alloc (.cells #[.int .i64 u.c,.int .i64 u.a] 42)=wa at hbx hl4 hu4 hv4 hSp4 hNf4 hM4 ⊢
   have hfin:∀ (w6:World) (v5 v6:Value),OwnL 74 3 Sm.cells w6 M v5 (Lj++[⟨key,u⟩])→Uses w6 M v6 (Uj++[u])→Chg (fun g => ¬ F2 g∧M≤g) wa w6→M≤w6.heap.size→∃ (j':Nat) (F1:Nat→Prop),Value.int .i64 ((j:Int)+1)=.int .i64 (j':Int)∧sam.length - (j+1)=sam.length - j'∧j'≤sam.length∧OwnL 74 3 Sm.cells w6 M v5 ((sam.take j').map fun k => ⟨k,useC l k⟩)∧Uses w6 M v6 ((sam.take j').map (useC l))∧Strs w6 w1.heap.size (.slice (some ⟨kb,0,none⟩) sam.length cs) sam∧Spa w0 w6 b cf l F1∧Nf F F1 W w6∧M≤w6.heap.size:=fun w6 v5 v6 k1 k2 k3 k4 => by
    have e1:(sam.take (j+1)).map (fun k => (⟨k,useC l k⟩:Sm))=Lj++[⟨key,u⟩]:=by rw [HTA.out,List.map_append,HL.out,HUD.out];rfl
    have e2:(sam.take (j+1)).map (useC l)=Uj++[u]:=by rw [HTA.out,List.map_append,HU.out,HUD.out];rfl
    refine ⟨j+1,F2,rfl,rfl,by omega,by rw [e1];exact k1,by rw [e2];exact k2,Strs.chg hv4 k3 fun g hg h => ?_,hSp4.keep k3 (fun g hg h => h.1 hg) fun g h => ?_,⟨hNf4.chg.trans' k3 fun g h1 h2 => ?_,hNf4.foot⟩,k4⟩
    ·injection hg with hg
     have h8:=h.2
     dsimp only at hg
     omega
    ·have:=hW0.size
     have h8:=h.2
     omega
    ·have h8:=h2.2
     omega
   clear hl hu hv hM hSp hNf hSp2 hNf2 hu1 hA0 d0 g1 g2 hps
   have m1:j+1≤maxLen:=by unfold maxLen;omega
   have m5:(j+1) * 32≤140737488355328:=by omega
   have m9:(j+1) * 16≤140737488355328:=by omega
   have hone5:∀ x∈[Value.string key,Value.int .i64 u.c,Value.int .i64 u.a],x.oneCell'=true:=by
    intro x hx
    simp only [List.mem_cons,List.not_mem_nil,or_false] at hx
    rcases hx with rfl | rfl | rfl <;> rfl
   have hone9:∀ x∈[Value.int .i64 u.c,Value.int .i64 u.a],x.oneCell'=true:=by
    intro x hx
    simp only [List.mem_cons,List.not_mem_nil,or_false] at hx
    rcases hx with rfl | rfl <;> rfl
   have hDr:=(Chg.refl (fun _ => False) wa).drew
   refine wp_region_heldF 11 (ChS w4.heap.size u.c u.a) (by kernel_rfl) ?_
   replace hbx:=hbx.chg hDr id
   have hl:=OwnL.chg0 hl4 hDr
   have hu:=OwnL.chg0 hu4 hDr
   have hCc:Chg (fun g => ¬ F2 g∧M≤g) wa wa.drew:=hDr.mono fun _ _ h => h.elim
   have hM:M≤wa.drew.heap.size:=hM4
   clear hl4 hu4 hv4 hSp4 hNf4 hM4 hDr
   generalize wa.drew=wd at hbx hl hu hCc hM ⊢
   simp only [List.size_toArray,List.length_cons,List.length_nil,Nat.reduceAdd,Array.replicate_succ,Array.replicate_zero,List.push_toArray,List.nil_append,List.cons_append]
   refine wpAnyF_take 0 (v:=.slice pl j cl) rfl (by kernel_rfl) (by kernel_rfl) (by kernel_rfl) (by kernel_rfl) (fun _ _ _ h => h) (ChS.of hbx) (by rfl) ?_ ?_
   ·rintro W' ⟨y0,y1⟩
    go_simp
   simp only [Act.put,List.setIfInBounds_toArray,List.set_cons_zero,List.set_cons_succ]
   refine wpAnyF_take 1 (v:=.string key) rfl (by kernel_rfl) (by kernel_rfl) (by kernel_rfl) (by kernel_rfl) (fun _ _ _ h => h) (ChS.of hbx) (by rfl) ?_ ?_
   ·rintro W' ⟨y0,y1⟩
    go_simp
   simp only [Act.put,List.setIfInBounds_toArray,List.set_cons_zero,List.set_cons_succ]
   refine wpAnyF_take 2 (v:=.agg #[.int .i64 u.c,.int .i64 u.a]) rfl (by kernel_rfl) (by kernel_rfl) (by kernel_rfl) (by kernel_rfl) (fun _ _ _ h => h) (ChS.of hbx) (by rfl) ?_ ?_
   ·rintro W' ⟨y0,y1⟩
    go_simp
   simp only [Act.put,List.setIfInBounds_toArray,List.set_cons_zero,List.set_cons_succ]
   refine wpAnyF_take 3 (v:=.agg #[.string key,.int .i64 u.c,.int .i64 u.a]) rfl (by kernel_rfl) (by kernel_rfl) (by kernel_rfl) (by kernel_rfl) (fun _ _ _ h => h) (ChS.of hbx) (by rfl) ?_ ?_
   ·rintro W' ⟨y0,y1⟩
    go_simp
   simp only [Act.put,List.setIfInBounds_toArray,List.set_cons_zero,List.set_cons_succ]
   refine wpAnyF_take 6 (v:=.slice pu j cu) rfl (by kernel_rfl) (by kernel_rfl) (by kernel_rfl) (by kernel_rfl) (fun _ _ _ h => h) (ChS.of hbx) (by rfl) ?_ ?_
   ·rintro W' ⟨y0,y1⟩
    go_simp
   simp only [Act.put,List.setIfInBounds_toArray,List.set_cons_zero,List.set_cons_succ]
   refine wpAnyF_take 7 (v:=.agg #[.int .i64 u.c,.int .i64 u.a]) rfl (by kernel_rfl) (by kernel_rfl) (by kernel_rfl) (by kernel_rfl) (fun _ _ _ h => h) (ChS.of hbx) (by rfl) ?_ ?_
   ·rintro W' ⟨y0,y1⟩
    go_simp
   simp only [Act.put,List.setIfInBounds_toArray,List.set_cons_zero,List.set_cons_succ]
   refine wpAnyF_ready [4,8] (by kernel_rfl) (by simp) (AllF.cons rfl (fun K hK => ?_) (AllF.cons rfl (fun K hK => ?_) AllF.nil))
   ·go_simp
    have hbS:=Blk.new wd 74 #[.string key,.int .i64 u.c,.int .i64 u.a]
    have hCn:=(Chg.refl (fun _ => False) wd).alloc (.cells #[.string key,.int .i64 u.c,.int .i64 u.a] 74)
    replace hbx:=hbx.chg hCn id
    replace hl:=OwnL.chg0 hl hCn
    replace hu:=OwnL.chg0 hu hCn
    replace hCc:=hCc.trans (hCn.mono (S':=fun g => ¬ F2 g∧M≤g) fun _ _ h => h.elim)
    have hMc:=hCn.size
    generalize wd.alloc (.cells #[.string key,.int .i64 u.c,.int .i64 u.a] 74)=wb at *
    replace hM:=Nat.le_trans hM hMc
    refine hK _ _ (fun _ => ChS.of hbx) ?_
    clear hK K hCn hMc
    refine wpAnyF_ready [5,8] (by kernel_rfl) (by simp) (AllF.cons rfl (fun K hK => ?_) (AllF.cons rfl (fun K hK => ?_) AllF.nil))
    ·have hown0:=OwnL.own hl
     rw [hLj.out] at hown0
     refine step_append_any _ (by rfl) (.tmp 33) (.tmp 37) 71 (by rfl) M 74 i0 _ 3 32 Tryz.underlying71 hi0 hi1 hi2 hi3 rfl (by omega) (.slice pl j cl) j (Lj.flatMap Sm.cells) (by rfl) hown0 wb.heap.size (some ⟨_,0,none⟩) 1 1 [.string key,.int .i64 u.c,.int .i64 u.a] (by rfl) (reads_blk hbS rfl) hone5 m1 m5 hM ?_
     intro vn wn hownN hgN _
     obtain ⟨gn,cn,rfl⟩:=ownsRow_succ hownN
     have hCn:=Chg.of_grown (S:=fun g => ¬ F2 g∧M≤g) hgN hplD
     have hne:∀ {g:Nat} {t:TypeId} {cs:Array Value},t≠74→Blk wb g t cs→Blk wn g t cs:=fun ht hb => (hgN.block _ hb.lt (fun e => hb.not_own hown0 ht e.symm)).trans hb
     replace hbx:=hne (by decide) hbx
     replace hu:Uses wn M (.slice pu j cu) Uj:=OwnL.chg hu (Chg.of_grown (S:=fun g => Value.ownBlock (.slice pl j cl)=some g) hgN fun _ h => h) fun g hg hg2 => own_two (OwnL.own hu) hown0 (by decide) hg hg2
     have hlN:OwnL 74 3 Sm.cells wn M (.slice (some ⟨gn,0,none⟩) (j+1) cn) (Lj++[⟨key,u⟩]):=OwnL.mk hownN (by rw [List.length_append,hLj.out];rfl) (by rw [flatL_snoc];rfl)
     clear hl
     replace hCc:=hCc.trans hCn
     replace hM:=Nat.le_trans hM hCn.size
     clear hne hown0 hownN hCn hgN
     refine hK _ _ (fun _ => ChS.of hbx) ?_
     clear hK K
     refine wpAnyF_one 8 (by kernel_rfl) rfl (fun K hK => ?_)
     go_simp
     have hbU:=Blk.new wn 42 #[.int .i64 u.c,.int .i64 u.a]
     have hCn:=(Chg.refl (fun _ => False) wn).alloc (.cells #[.int .i64 u.c,.int .i64 u.a] 42)
     replace hbx:=hbx.chg hCn id
     replace hlN:=OwnL.chg0 hlN hCn
     replace hu:=OwnL.chg0 hu hCn
     replace hCc:=hCc.trans (hCn.mono (S':=fun g => ¬ F2 g∧M≤g) fun _ _ h => h.elim)
     have hMc:=hCn.size
     generalize wn.alloc (.cells #[.int .i64 u.c,.int .i64 u.a] 42)=wc at *
     replace hM:=Nat.le_trans hM hMc
     refine hK _ _ (fun _ => ChS.of hbx) ?_
     clear hK K hCn hMc
     refine wpAnyF_one 9 (by kernel_rfl) rfl (fun K hK => ?_)
     have hown0:=OwnL.own hu
     rw [hUj.out] at hown0
     refine step_append_any _ (by rfl) (.tmp 39) (.tmp 41) 72 (by rfl) M 42 o0 _ 2 16 Tryz.underlying72 ho0 ho1 ho2 ho3 rfl (by omega) (.slice pu j cu) j (Uj.flatMap Us.cells) (by rfl) hown0 wc.heap.size (some ⟨_,0,none⟩) 1 1 [.int .i64 u.c,.int .i64 u.a] (by rfl) (reads_blk hbU rfl) hone9 m1 m9 hM ?_
     intro vn wf hownN hgN _
     obtain ⟨gn,cn,rfl⟩:=ownsRow_succ hownN
     have hCn:=Chg.of_grown (S:=fun g => ¬ F2 g∧M≤g) hgN hpuD
     have hne:∀ {g:Nat} {t:TypeId} {cs:Array Value},t≠42→Blk wc g t cs→Blk wf g t cs:=fun ht hb => (hgN.block _ hb.lt (fun e => hb.not_own hown0 ht e.symm)).trans hb
     replace hbx:Blk wf w4.heap.size 42 #[.int .i64 u.c,.int .i64 u.a]:=(hgN.block _ hbx.lt (fun e => by have:=hpu _ e.symm;omega)).trans hbx
     have hlF:OwnL 74 3 Sm.cells wf M _ (Lj++[⟨key,u⟩]):=OwnL.chg hlN (Chg.of_grown (S:=fun g => Value.ownBlock (.slice pu j cu)=some g) hgN fun _ h => h) fun g hg hg2 => own_two (OwnL.own hlN) hown0 (by decide) hg hg2
     have huF:Uses wf M (.slice (some ⟨gn,0,none⟩) (j+1) cn) (Uj++[u]):=OwnL.mk hownN (by rw [List.length_append,hUj.out];rfl) (by rw [flatL_snoc];rfl)
     clear hu
     replace hCc:=hCc.trans hCn
     replace hM:=Nat.le_trans hM hCn.size
     clear hne hown0 hownN hCn hgN
     refine hK _ _ (fun _ => ChS.of hbx) ?_
     clear hK K
     refine wpAnyF_one 10 (by kernel_rfl) rfl (fun K hK => ?_)
     go_simp
     refine hK _ _ (fun _ => ChS.of hbx) ?_
     clear hK K
     refine wpAnyF_one 11 (by kernel_rfl) rfl (fun K hK => ?_)
     go_simp
     refine hK _ _ (fun h => absurd rfl h) ?_
     clear hK K
     refine wpAnyF_done (by kernel_rfl) ?_ _
     go_wp2_with fail
     go_roundg (sam.length - (j+1))
     case measure => omega
     case rel => exact hfin _ _ _ hlF huF hCc hM
    ·go_simp
     have hbU:=Blk.new wb 42 #[.int .i64 u.c,.int .i64 u.a]
     have hCn:=(Chg.refl (fun _ => False) wb).alloc (.cells #[.int .i64 u.c,.int .i64 u.a] 42)
     replace hbx:=hbx.chg hCn id
     replace hl:=OwnL.chg0 hl hCn
     replace hu:=OwnL.chg0 hu hCn
     replace hbS:=hbS.chg hCn id
     replace hCc:=hCc.trans (hCn.mono (S':=fun g => ¬ F2 g∧M≤g) fun _ _ h => h.elim)
     have hMc:=hCn.size
     generalize wb.alloc (.cells #[.int .i64 u.c,.int .i64 u.a] 42)=wc at *
     replace hM:=Nat.le_trans hM hMc
     refine hK _ _ (fun _ => ChS.of hbx) ?_
     clear hK K hCn hMc
     refine wpAnyF_one 5 (by kernel_rfl) rfl (fun K hK => ?_)
     have hown0:=OwnL.own hl
     rw [hLj.out] at hown0
     refine step_append_any _ (by rfl) (.tmp 33) (.tmp 37) 71 (by rfl) M 74 i0 _ 3 32 Tryz.underlying71 hi0 hi1 hi2 hi3 rfl (by omega) (.slice pl j cl) j (Lj.flatMap Sm.cells) (by rfl) hown0 wc.heap.size (some ⟨_,0,none⟩) 1 1 [.string key,.int .i64 u.c,.int .i64 u.a] (by rfl) (reads_blk hbS rfl) hone5 m1 m5 hM ?_
     intro vn wn hownN hgN _
     obtain ⟨gn,cn,rfl⟩:=ownsRow_succ hownN
     have hCn:=Chg.of_grown (S:=fun g => ¬ F2 g∧M≤g) hgN hplD
     have hne:∀ {g:Nat} {t:TypeId} {cs:Array Value},t≠74→Blk wc g t cs→Blk wn g t cs:=fun ht hb => (hgN.block _ hb.lt (fun e => hb.not_own hown0 ht e.symm)).trans hb
     replace hbx:=hne (by decide) hbx
     replace hbU:=hne (by decide) hbU
     replace hu:Uses wn M (.slice pu j cu) Uj:=OwnL.chg hu (Chg.of_grown (S:=fun g => Value.ownBlock (.slice pl j cl)=some g) hgN fun _ h => h) fun g hg hg2 => own_two (OwnL.own hu) hown0 (by decide) hg hg2
     have hlN:OwnL 74 3 Sm.cells wn M (.slice (some ⟨gn,0,none⟩) (j+1) cn) (Lj++[⟨key,u⟩]):=OwnL.mk hownN (by rw [List.length_append,hLj.out];rfl) (by rw [flatL_snoc];rfl)
     clear hl
     replace hCc:=hCc.trans hCn
     replace hM:=Nat.le_trans hM hCn.size
     clear hne hown0 hownN hCn hgN
     refine hK _ _ (fun _ => ChS.of hbx) ?_
     clear hK K
     refine wpAnyF_one 9 (by kernel_rfl) rfl (fun K hK => ?_)
     have hown0:=OwnL.own hu
     rw [hUj.out] at hown0
     refine step_append_any _ (by rfl) (.tmp 39) (.tmp 41) 72 (by rfl) M 42 o0 _ 2 16 Tryz.underlying72 ho0 ho1 ho2 ho3 rfl (by omega) (.slice pu j cu) j (Uj.flatMap Us.cells) (by rfl) hown0 wn.heap.size (some ⟨_,0,none⟩) 1 1 [.int .i64 u.c,.int .i64 u.a] (by rfl) (reads_blk hbU rfl) hone9 m1 m9 hM ?_
     intro vn wf hownN hgN _
     obtain ⟨gn,cn,rfl⟩:=ownsRow_succ hownN
     have hCn:=Chg.of_grown (S:=fun g => ¬ F2 g∧M≤g) hgN hpuD
     have hne:∀ {g:Nat} {t:TypeId} {cs:Array Value},t≠42→Blk wn g t cs→Blk wf g t cs:=fun ht hb => (hgN.block _ hb.lt (fun e => hb.not_own hown0 ht e.symm)).trans hb
     replace hbx:Blk wf w4.heap.size 42 #[.int .i64 u.c,.int .i64 u.a]:=(hgN.block _ hbx.lt (fun e => by have:=hpu _ e.symm;omega)).trans hbx
     have hlF:OwnL 74 3 Sm.cells wf M _ (Lj++[⟨key,u⟩]):=OwnL.chg hlN (Chg.of_grown (S:=fun g => Value.ownBlock (.slice pu j cu)=some g) hgN fun _ h => h) fun g hg hg2 => own_two (OwnL.own hlN) hown0 (by decide) hg hg2
     have huF:Uses wf M (.slice (some ⟨gn,0,none⟩) (j+1) cn) (Uj++[u]):=OwnL.mk hownN (by rw [List.length_append,hUj.out];rfl) (by rw [flatL_snoc];rfl)
     clear hu
     replace hCc:=hCc.trans hCn
     replace hM:=Nat.le_trans hM hCn.size
     clear hne hown0 hownN hCn hgN
     refine hK _ _ (fun _ => ChS.of hbx) ?_
     clear hK K
     refine wpAnyF_one 10 (by kernel_rfl) rfl (fun K hK => ?_)
     go_simp
     refine hK _ _ (fun _ => ChS.of hbx) ?_
     clear hK K
     refine wpAnyF_one 11 (by kernel_rfl) rfl (fun K hK => ?_)
     go_simp
     refine hK _ _ (fun h => absurd rfl h) ?_
     clear hK K
     refine wpAnyF_done (by kernel_rfl) ?_ _
     go_wp2_with fail
     go_roundg (sam.length - (j+1))
     case measure => omega
     case rel => exact hfin _ _ _ hlF huF hCc hM
   ·go_simp
    have hbU:=Blk.new wd 42 #[.int .i64 u.c,.int .i64 u.a]
    have hCn:=(Chg.refl (fun _ => False) wd).alloc (.cells #[.int .i64 u.c,.int .i64 u.a] 42)
    replace hbx:=hbx.chg hCn id
    replace hl:=OwnL.chg0 hl hCn
    replace hu:=OwnL.chg0 hu hCn
    replace hCc:=hCc.trans (hCn.mono (S':=fun g => ¬ F2 g∧M≤g) fun _ _ h => h.elim)
    have hMc:=hCn.size
    generalize wd.alloc (.cells #[.int .i64 u.c,.int .i64 u.a] 42)=wb at *
    replace hM:=Nat.le_trans hM hMc
    refine hK _ _ (fun _ => ChS.of hbx) ?_
    clear hK K hCn hMc
    refine wpAnyF_one 4 (by kernel_rfl) rfl (fun K hK => ?_)
    go_simp
    have hbS:=Blk.new wb 74 #[.string key,.int .i64 u.c,.int .i64 u.a]
    have hCn:=(Chg.refl (fun _ => False) wb).alloc (.cells #[.string key,.int .i64 u.c,.int .i64 u.a] 74)
    replace hbx:=hbx.chg hCn id
    replace hl:=OwnL.chg0 hl hCn
    replace hu:=OwnL.chg0 hu hCn
    replace hbU:=hbU.chg hCn id
    replace hCc:=hCc.trans (hCn.mono (S':=fun g => ¬ F2 g∧M≤g) fun _ _ h => h.elim)
    have hMc:=hCn.size
    generalize wb.alloc (.cells #[.string key,.int .i64 u.c,.int .i64 u.a] 74)=wc at *
    replace hM:=Nat.le_trans hM hMc
    refine hK _ _ (fun _ => ChS.of hbx) ?_
    clear hK K hCn hMc
    refine wpAnyF_one 5 (by kernel_rfl) rfl (fun K hK => ?_)
    have hown0:=OwnL.own hl
    rw [hLj.out] at hown0
    refine step_append_any _ (by rfl) (.tmp 33) (.tmp 37) 71 (by rfl) M 74 i0 _ 3 32 Tryz.underlying71 hi0 hi1 hi2 hi3 rfl (by omega) (.slice pl j cl) j (Lj.flatMap Sm.cells) (by rfl) hown0 wc.heap.size (some ⟨_,0,none⟩) 1 1 [.string key,.int .i64 u.c,.int .i64 u.a] (by rfl) (reads_blk hbS rfl) hone5 m1 m5 hM ?_
    intro vn wn hownN hgN _
    obtain ⟨gn,cn,rfl⟩:=ownsRow_succ hownN
    have hCn:=Chg.of_grown (S:=fun g => ¬ F2 g∧M≤g) hgN hplD
    have hne:∀ {g:Nat} {t:TypeId} {cs:Array Value},t≠74→Blk wc g t cs→Blk wn g t cs:=fun ht hb => (hgN.block _ hb.lt (fun e => hb.not_own hown0 ht e.symm)).trans hb
    replace hbx:=hne (by decide) hbx
    replace hbU:=hne (by decide) hbU
    replace hu:Uses wn M (.slice pu j cu) Uj:=OwnL.chg hu (Chg.of_grown (S:=fun g => Value.ownBlock (.slice pl j cl)=some g) hgN fun _ h => h) fun g hg hg2 => own_two (OwnL.own hu) hown0 (by decide) hg hg2
    have hlN:OwnL 74 3 Sm.cells wn M (.slice (some ⟨gn,0,none⟩) (j+1) cn) (Lj++[⟨key,u⟩]):=OwnL.mk hownN (by rw [List.length_append,hLj.out];rfl) (by rw [flatL_snoc];rfl)
    clear hl
    replace hCc:=hCc.trans hCn
    replace hM:=Nat.le_trans hM hCn.size
    clear hne hown0 hownN hCn hgN
    refine hK _ _ (fun _ => ChS.of hbx) ?_
    clear hK K
    refine wpAnyF_one 9 (by kernel_rfl) rfl (fun K hK => ?_)
    have hown0:=OwnL.own hu
    rw [hUj.out] at hown0
    refine step_append_any _ (by rfl) (.tmp 39) (.tmp 41) 72 (by rfl) M 42 o0 _ 2 16 Tryz.underlying72 ho0 ho1 ho2 ho3 rfl (by omega) (.slice pu j cu) j (Uj.flatMap Us.cells) (by rfl) hown0 wn.heap.size (some ⟨_,0,none⟩) 1 1 [.int .i64 u.c,.int .i64 u.a] (by rfl) (reads_blk hbU rfl) hone9 m1 m9 hM ?_
    intro vn wf hownN hgN _
    obtain ⟨gn,cn,rfl⟩:=ownsRow_succ hownN
    have hCn:=Chg.of_grown (S:=fun g => ¬ F2 g∧M≤g) hgN hpuD
    have hne:∀ {g:Nat} {t:TypeId} {cs:Array Value},t≠42→Blk wn g t cs→Blk wf g t cs:=fun ht hb => (hgN.block _ hb.lt (fun e => hb.not_own hown0 ht e.symm)).trans hb
    replace hbx:Blk wf w4.heap.size 42 #[.int .i64 u.c,.int .i64 u.a]:=(hgN.block _ hbx.lt (fun e => by have:=hpu _ e.symm;omega)).trans hbx
    have hlF:OwnL 74 3 Sm.cells wf M _ (Lj++[⟨key,u⟩]):=OwnL.chg hlN (Chg.of_grown (S:=fun g => Value.ownBlock (.slice pu j cu)=some g) hgN fun _ h => h) fun g hg hg2 => own_two (OwnL.own hlN) hown0 (by decide) hg hg2
    have huF:Uses wf M (.slice (some ⟨gn,0,none⟩) (j+1) cn) (Uj++[u]):=OwnL.mk hownN (by rw [List.length_append,hUj.out];rfl) (by rw [flatL_snoc];rfl)
    clear hu
    replace hCc:=hCc.trans hCn
    replace hM:=Nat.le_trans hM hCn.size
    clear hne hown0 hownN hCn hgN
    refine hK _ _ (fun _ => ChS.of hbx) ?_
    clear hK K
    refine wpAnyF_one 10 (by kernel_rfl) rfl (fun K hK => ?_)
    go_simp
    refine hK _ _ (fun _ => ChS.of hbx) ?_
    clear hK K
    refine wpAnyF_one 11 (by kernel_rfl) rfl (fun K hK => ?_)
    go_simp
    refine hK _ _ (fun h => absurd rfl h) ?_
    clear hK K
    refine wpAnyF_done (by kernel_rfl) ?_ _
    go_wp2_with fail
    go_roundg (sam.length - (j+1))
    case measure => omega
    case rel => exact hfin _ _ _ hlF huF hCc hM
  ·have h3:¬ ((j:Int)<5):=by omega
   obtain rfl:j=sam.length:=by omega
   rw [List.take_length] at hl hu
   obtain ⟨pl,cl,rfl,_,_,_⟩:=OwnL.is hl
   obtain ⟨pu,cu,rfl,_,_,_⟩:=OwnL.is hu
   simp only [List.length_map,hsl] at hl hu ⊢
   rw [hsl] at h3
   have hune:sam.map (useC l)≠[]:=by
    intro e
    have:=congrArg List.length e
    rw [List.length_map,hsl] at this
    cases this
   have hul:(sam.map (useC l)).length≤1000:=by rw [List.length_map];omega
   have huk:∀ u∈sam.map (useC l),u.Ok:=by
    intro u hu9
    obtain ⟨k,hk,rfl⟩:=List.mem_map.1 hu9
    exact (husC k hk).2.2
   have hle:=least_cons M _ _ hune hul huk now hw _ hu
   rcases hcs:cntsU now (sam.map (useC l)) with _ | ns <;> rw [hcs] at hX
   ·have hlv:leastV now (sam.map (useC l))=.tuple #[.int .i64 0,.int .i64 130]:=by
     cases hm:sam.map (useC l) with
     | nil => exact absurd hm hune
     | cons a t => unfold leastV;rw [← hm,hcs];rw [hm]
    rw [hlv] at hle
    clear hlv hul huk hcs hv hsl
    go_wp2_with (first
     | (go_at_call 34;refine hle.mono ?_;rintro r w5 ⟨rfl,hC5⟩)
     | fail)
    go_ret2
    exact ⟨by subst hX;rfl,F1,hSp.chg0 hC5,hNf.trans (Nf.zero hC5)⟩
   ·have hlv:leastV now (sam.map (useC l))=.tuple #[.int .i64 (leastL ns:Int),.int .i64 0]:=by
     cases hm:sam.map (useC l) with
     | nil => exact absurd hm hune
     | cons a t => unfold leastV;rw [← hm,hcs];rw [hm]
    rw [hlv] at hle
    have hnl:ns.length=5:=by rw [cntsU_len hcs,List.length_map,hsl]
    have hlt:=leastL_lt (l:=ns) (by intro e;rw [e] at hnl;cases hnl) (cntsU_le huk hcs)
    dsimp only at hX
    generalize leastL ns=i at hle hlt hX ⊢
    have hi5:i<sam.length:=by omega
    have hgx:sam.getD i ⟨#[]⟩=sam[i]:=getD_at _ _ hi5
    have hxi:(sam.map fun k => (⟨k,useC l k⟩:Sm))[i]?=some ⟨sam[i],useC l sam[i]⟩:=by rw [List.getElem?_map,List.getElem?_eq_getElem hi5];rfl
    obtain ⟨gb,gc,hge,_,_,_,hcell⟩:=OwnL.at_ hl sm_cells hxi
    injection hge with e1 e2 e3
    subst e1
    clear e2 e3
    have hown:=OwnL.own hl
    have hc0:=hcell 0 _ rfl
    rw [Nat.add_zero] at hc0
    replace hX:(sam[i],(0:Int))=X:=by rw [← hgx];exact hX
    generalize sam[i]=key at hc0 hX
    have hi50:(i:Int)<5:=by omega
    have hgl:gb<wr.heap.size:=(World.ownsRow.lt hown gb rfl).2
    have hlC:∀ w5,Chg (fun _ => False) wr w5→w5.cell? ⟨gb,i * 3,none⟩=some (.string key):=fun w5 hc => (cell_same (hc.block gb hgl id)).trans hc0
    clear hlv hul huk hcs hv hsl
    go_wp2_with (first
     | (go_at_call 34;refine hle.mono ?_;rintro r w5 ⟨rfl,hC5⟩;have hcc:=hlC _ hC5)
     | fail)
    go_ret2
    exact ⟨by subst hX;rfl,F1,hSp.chg0 hC5,hNf.trans (Nf.zero hC5)⟩
theorem choose_none (v1 vd:Value) (w:World):Calls Tryz.prog 11 #[.pointer none,v1,vd] w fun r w' => r=.returned (.tuple #[.string ⟨#[]⟩,.int .i64 1])∧w=w':=by
 go_enter Tryz.func11,Tryz.ntmps11
 go_wp2_with fail
 go_ret2
 exact ⟨rfl,rfl⟩
set_option maxHeartbeats 1000000 in
theorem choose_empty {w0 W:World} {b:Nat} {cf:Cf} {F:Nat→Prop} (h:Spa w0 W b cf [] F) (vd:Value) (now:Int) :
  Calls Tryz.prog 11 #[pt b,.int .i64 now,vd] W fun r W' => r=.returned (.tuple #[.string ⟨#[]⟩,.int .i64 150])∧Sst w0 b cf [] F W W':=by
 have hks:=spa_keys h
 unfold pt at *
 go_enter Tryz.func11,Tryz.ntmps11
 go_wp2_with (first
  | (go_at_call 14;refine hks.mono ?_;rintro r w1 ⟨⟨vk,rfl,hvk⟩,hC1⟩;obtain ⟨ps,cs,rfl,_,_,_⟩:=hvk.is)
  | (go_at_call 13;refine (samples_nil _ _ _ _).mono ?_;rintro r w2 ⟨rfl,hC2⟩)
  | fail)
 have hCw:=hC1.trans hC2
 go_loopg [8,9,23] 0 (fun n vl vu iv Wr => vl=.slice none 0 0∧iv=.int .i64 0∧Chg (fun _ => False) W Wr)
 case atStart => exact ⟨rfl,rfl,hCw⟩
 case round =>
  obtain ⟨rfl,rfl,hC⟩:=hrel
  go_wp2_with fail
  go_ret2
  exact ⟨rfl,F,h.chg0 hC,Nf.zero hC⟩
end Go.Proofs.YtehpmbmdadkhbaaGreatDoor

namespace Go.Proofs.YtehpmbmdadkhbaaGreatDoor
open Go.RowKit Pal
attribute [local go_sem] Oper.semAt_some
set_option maxRecDepth 100000 in
set_option maxHeartbeats 4000000 in
theorem with_any {w:World} {base:Nat} {v:Value} {its:List Ri} (h:Items w base v its) (hn:its.length≤500) (hk:∀ i∈its,i.key.size≤64) (k:ByteArray) (hks:k.size≤9223372036854775807)
  (px:Option Addr) (cx:Nat) (xs:List Ri) (hx:xs.length≤1) (hr:Reads w w.heap.size 4 px xs.length (xs.flatMap Ri.cells)) :
  Calls Tryz.prog 71 #[v,.string k,.slice px xs.length cx] w fun r W' => (∃ v',r=.returned v'∧Items W' w.heap.size v' (withR k xs false its))∧Chg (fun _ => False) w W':=by
 obtain ⟨R,hR⟩:∃ R,withR k xs false its=R:=⟨_,rfl⟩
 rw [hR]
 obtain ⟨j0,hj0,hy0,hy1,hy2⟩:=info_parts item_info
 obtain ⟨p,cap,rfl,hcap,hcap2,_⟩:=OwnL.is h
 have hcW:∀ (j:Nat) (x:Ri),its[j]?=some x→∃ gb,p=some ⟨gb,0,none⟩∧gb<w.heap.size∧∀ W',Chg (fun _ => False) w W'→W'.cell? ⟨gb,j * 4,none⟩=some (.string x.key)∧W'.cell? ⟨gb,j * 4+1,none⟩=some (pt x.rb)∧W'.cell? ⟨gb,j * 4+2,none⟩=some (.int .i64 x.u.c)∧W'.cell? ⟨gb,j * 4+3,none⟩=some (.int .i64 x.u.a)∧gb<W'.heap.size:=fun j x hj => by
  obtain ⟨gb,gc,hge,_,_,hlt,hcell⟩:=OwnL.at_ h ri_cells hj
  injection hge with e1 _ _
  refine ⟨gb,e1,hlt,fun W' hc => ?_⟩
  have hs:∀ o,W'.cell? ⟨gb,o,none⟩=w.cell? ⟨gb,o,none⟩:=fun o => cell_same (hc.block gb hlt id)
  rw [hs,hs,hs,hs]
  exact ⟨hcell 0 _ rfl,hcell 1 _ rfl,hcell 2 _ rfl,hcell 3 _ rfl,Nat.lt_of_lt_of_le hlt hc.size⟩
 have hrW:=fun W' (hc:Chg (fun _ => False) w W') => hr.chg (S:=fun _ => False) hc (Nat.le_refl _) (fun _ _ => id)
 have hls:=fun (x:ByteArray) (hx:x.size≤64) W => less7_any k x W hks (by omega)
 unfold pt at hcW
 go_enter Tryz.func71,Tryz.ntmps71
 go_wp2_with fail
 go_loopg [7,8,9] its.length (fun n vo vd vi Wr => ∃ (j:Nat) (d:Bool) (out:List Ri),vi=.int .i64 (j:Int)∧vd=.bool d∧n=its.length - j∧j≤its.length∧Items Wr w.heap.size vo out∧out++withR k xs d (its.drop j)=R∧out.length≤j+(if d then xs.length else 0)∧Chg (fun _ => False) w Wr)
 case atStart => exact ⟨0,false,[],rfl,rfl,rfl,Nat.zero_le _,OwnL.nil _ _,hR,Nat.zero_le _,Chg.refl _ _⟩
 case round =>
  clear hR hr h
  obtain ⟨j,d,out,rfl,rfl,rfl,hj,ho,hRe,hol,hC⟩:=hrel
  obtain ⟨po,co,rfl,_⟩:=OwnL.is ho
  have hol5:out.length≤501:=by split at hol <;> omega
  by_cases hjl:j<its.length
  ·have h3:(j:Int)<(its.length:Int):=by omega
   have hx0:its[j]?=some its[j]:=List.getElem?_eq_getElem hjl
   have hkx:=hk _ (List.getElem_mem hjl)
   have hdr:its.drop j=its[j] :: its.drop (j+1):=List.drop_eq_getElem_cons hjl
   rw [hdr] at hRe
   unfold withR at hRe
   generalize its[j]=x at hx0 hkx hRe
   obtain ⟨gb,rfl,hgb,hcx⟩:=hcW j x hx0
   have hm1:∀ n,n≤600→n≤maxLen:=fun n hn => by unfold maxLen;omega
   have hbq:(x.key.toList == k.toList)=decide (x.key=k):=beq_strK _ _
   have hlx:=hls x.key hkx
   have hj4:(j:Int)≤500:=by omega
   have HJ:=Lib.hid hjl
   have HOL:=Lib.hid hol
   clear hx0 hdr hcW hk hls hjl hol hj
   cases d with
   | true =>
    by_cases he:x.key=k
    ·rw [if_neg (by simp),Bool.true_or] at hRe
     rw [if_pos he] at hRe
     rw [decide_eq_true he] at hbq
     have hm2:=hm1 (out.length+xs.length) (by omega)
     have hm3:(out.length+xs.length) * 40≤140737488355328:=by omega
     have hm4:=hm1 (out.length+1) (by omega)
     have hm5:(out.length+1) * 40≤140737488355328:=by omega
     have HRE:=Lib.hid hRe
     clear hRe hol5 he
     obtain ⟨c0,c1,c2,c3,c4⟩:=hcx _ hC
     go_wp2_with (first
      | fail)
     go_roundg (its.length - (j+1))
     case measure => have:=HJ.out;omega
     case rel =>
      refine ⟨j+1,true,out,rfl,rfl,rfl,HJ.out,ho,?_,?_,hC⟩
      ·rw [← HRE.out];simp only [List.append_assoc,List.nil_append,List.singleton_append,List.cons_append]
      ·have h9:=HOL.out;simp only [if_true] at h9;try rw [List.length_append,List.length_singleton]
       try simp only [if_true]
       omega
    ·rw [if_neg (by simp),Bool.true_or] at hRe
     rw [if_neg he] at hRe
     rw [decide_eq_false he] at hbq
     have hm2:=hm1 (out.length+xs.length) (by omega)
     have hm3:(out.length+xs.length) * 40≤140737488355328:=by omega
     have hm4:=hm1 (out.length+1) (by omega)
     have hm5:(out.length+1) * 40≤140737488355328:=by omega
     have HRE:=Lib.hid hRe
     clear hRe hol5 he
     obtain ⟨c0,c1,c2,c3,c4⟩:=hcx _ hC
     go_wp2_with (first
      | (at_builtin;have hC7:=hC.alloc (.cells #[.string x.key,.pointer (some ⟨x.rb,0,none⟩),.int .i64 x.u.c,.int .i64 x.u.a] 94);have ho7:=OwnL.chg0 ho ((Chg.refl (fun _ => False) wr).alloc (.cells #[.string x.key,.pointer (some ⟨x.rb,0,none⟩),.int .i64 x.u.c,.int .i64 x.u.a] 94));refine wpList_append_any _ rfl (.tmp 37) (.tmp 42) 61 rfl w.heap.size 94 j0 _ 4 40 Tryz.underlying61 hj0 hy0 hy1 hy2 rfl (by omega) _ _ _ rfl (OwnL.own ho7) (wr.alloc (.cells #[.string x.key,.pointer (some ⟨x.rb,0,none⟩),.int .i64 x.u.c,.int .i64 x.u.a] 94)).heap.size _ 1 1 (Ri.cells x) rfl (reads_blk (cs:=Ri.cells x) (Blk.new wr 94 #[.string x.key,.pointer (some ⟨x.rb,0,none⟩),.int .i64 x.u.c,.int .i64 x.u.a]) rfl) (by have h9:=items_one [x];rw [List.flatMap_singleton] at h9;exact h9) hm4 hm5 hC7.size ?_;intro v8 w8 hown8 hg8 _;have hC8:=hC7.trans' (app_chg (OwnL.own ho7) hg8) (fun g hg h2 => by omega);have ho8:Items w8 w.heap.size v8 (out++[x]):=OwnL.mk hown8 (by rw [List.length_append];first | done | rfl) (by rw [List.flatMap_append,List.flatMap_singleton]))
      | fail)
     go_roundg (its.length - (j+1))
     case measure => have:=HJ.out;omega
     case rel =>
      refine ⟨j+1,true,out++[x],rfl,rfl,rfl,HJ.out,ho8,?_,?_,hC8⟩
      ·rw [← HRE.out];simp only [List.append_assoc,List.nil_append,List.singleton_append,List.cons_append]
      ·have h9:=HOL.out;simp only [if_true] at h9;try rw [List.length_append,List.length_singleton]
       try simp only [if_true]
       omega
   | false =>
    by_cases hlt:ltB k x.key
    ·by_cases he:x.key=k
     ·rw [if_pos ⟨rfl,hlt⟩,decide_eq_true hlt,Bool.or_true] at hRe
      simp only [decide_eq_true hlt] at hlx
      rw [if_pos he] at hRe
      rw [decide_eq_true he] at hbq
      have hm2:=hm1 (out.length+xs.length) (by omega)
      have hm3:(out.length+xs.length) * 40≤140737488355328:=by omega
      obtain ⟨o2,ho2e⟩:∃ o2,o2=out++xs:=⟨_,rfl⟩
      have HO2:=Lib.hid ho2e
      have hm4:=hm1 (o2.length+1) (by rw [ho2e,List.length_append];omega)
      have hm5:(o2.length+1) * 40≤140737488355328:=by rw [ho2e,List.length_append];omega
      have HRE:=Lib.hid hRe
      clear ho2e
      clear hRe hol5 he hlt
      obtain ⟨c0,c1,c2,c3,c4⟩:=hcx _ hC
      go_wp2_with (first
       | (go_at_call 108;refine (hlx _).mono ?_;rintro r w1 ⟨rfl,n1,rfl⟩;have hC1:=hC.drewN n1;have ho1:=OwnL.chg0 ho ((Chg.refl (fun _ => False) _).drewN n1);obtain ⟨b0,b1,b2,b3,b4⟩:=hcx _ hC1)
       | (at_builtin;refine wpList_append_any _ rfl (.tmp 27) (.tmp 28) 61 rfl w.heap.size 94 j0 _ 4 40 Tryz.underlying61 hj0 hy0 hy1 hy2 rfl (by omega) _ _ _ rfl (OwnL.own ho1) w.heap.size _ xs.length _ (xs.flatMap Ri.cells) rfl (hrW _ hC1) (items_one xs) hm2 hm3 hC1.size ?_;intro v2 w2 hown2 hg2 _;have hC2:=hC1.trans' (app_chg (OwnL.own ho1) hg2) (fun g hg h2 => by omega);have ho2:Items w2 w.heap.size v2 o2:=OwnL.mk hown2 (by rw [HO2.out,List.length_append]) (by rw [HO2.out,List.flatMap_append]);obtain ⟨d0,d1,d2,d3,d4⟩:=hcx _ hC2;obtain ⟨po2,co2,rfl,_⟩:=OwnL.is ho2)
       | fail)
      go_roundg (its.length - (j+1))
      case measure => have:=HJ.out;omega
      case rel =>
       refine ⟨j+1,true,o2,rfl,rfl,rfl,HJ.out,ho2,?_,?_,hC2⟩
       ·rw [← HRE.out,HO2.out];simp only [List.append_assoc,List.nil_append,List.singleton_append,List.cons_append]
       ·have h9:=HOL.out;try rw [HO2.out]
        simp only [Bool.false_eq_true,if_false] at h9;try simp only [List.length_append,List.length_singleton,if_true]
        omega
     ·rw [if_pos ⟨rfl,hlt⟩,decide_eq_true hlt,Bool.or_true] at hRe
      simp only [decide_eq_true hlt] at hlx
      rw [if_neg he] at hRe
      rw [decide_eq_false he] at hbq
      have hm2:=hm1 (out.length+xs.length) (by omega)
      have hm3:(out.length+xs.length) * 40≤140737488355328:=by omega
      obtain ⟨o2,ho2e⟩:∃ o2,o2=out++xs:=⟨_,rfl⟩
      have HO2:=Lib.hid ho2e
      have hm4:=hm1 (o2.length+1) (by rw [ho2e,List.length_append];omega)
      have hm5:(o2.length+1) * 40≤140737488355328:=by rw [ho2e,List.length_append];omega
      have HRE:=Lib.hid hRe
      clear ho2e
      clear hRe hol5 he hlt
      obtain ⟨c0,c1,c2,c3,c4⟩:=hcx _ hC
      go_wp2_with (first
       | (go_at_call 108;refine (hlx _).mono ?_;rintro r w1 ⟨rfl,n1,rfl⟩;have hC1:=hC.drewN n1;have ho1:=OwnL.chg0 ho ((Chg.refl (fun _ => False) _).drewN n1);obtain ⟨b0,b1,b2,b3,b4⟩:=hcx _ hC1)
       | (at_builtin;refine wpList_append_any _ rfl (.tmp 27) (.tmp 28) 61 rfl w.heap.size 94 j0 _ 4 40 Tryz.underlying61 hj0 hy0 hy1 hy2 rfl (by omega) _ _ _ rfl (OwnL.own ho1) w.heap.size _ xs.length _ (xs.flatMap Ri.cells) rfl (hrW _ hC1) (items_one xs) hm2 hm3 hC1.size ?_;intro v2 w2 hown2 hg2 _;have hC2:=hC1.trans' (app_chg (OwnL.own ho1) hg2) (fun g hg h2 => by omega);have ho2:Items w2 w.heap.size v2 o2:=OwnL.mk hown2 (by rw [HO2.out,List.length_append]) (by rw [HO2.out,List.flatMap_append]);obtain ⟨d0,d1,d2,d3,d4⟩:=hcx _ hC2;obtain ⟨po2,co2,rfl,_⟩:=OwnL.is ho2)
       | (at_builtin;have hC7:=hC2.alloc (.cells #[.string x.key,.pointer (some ⟨x.rb,0,none⟩),.int .i64 x.u.c,.int .i64 x.u.a] 94);have ho7:=OwnL.chg0 ho2 ((Chg.refl (fun _ => False) w2).alloc (.cells #[.string x.key,.pointer (some ⟨x.rb,0,none⟩),.int .i64 x.u.c,.int .i64 x.u.a] 94));refine wpList_append_any _ rfl (.tmp 37) (.tmp 42) 61 rfl w.heap.size 94 j0 _ 4 40 Tryz.underlying61 hj0 hy0 hy1 hy2 rfl (by omega) _ _ _ rfl (OwnL.own ho7) (w2.alloc (.cells #[.string x.key,.pointer (some ⟨x.rb,0,none⟩),.int .i64 x.u.c,.int .i64 x.u.a] 94)).heap.size _ 1 1 (Ri.cells x) rfl (reads_blk (cs:=Ri.cells x) (Blk.new w2 94 #[.string x.key,.pointer (some ⟨x.rb,0,none⟩),.int .i64 x.u.c,.int .i64 x.u.a]) rfl) (by have h9:=items_one [x];rw [List.flatMap_singleton] at h9;exact h9) hm4 hm5 hC7.size ?_;intro v8 w8 hown8 hg8 _;have hC8:=hC7.trans' (app_chg (OwnL.own ho7) hg8) (fun g hg h2 => by omega);have ho8:Items w8 w.heap.size v8 (o2++[x]):=OwnL.mk hown8 (by rw [List.length_append];first | done | rfl) (by rw [List.flatMap_append,List.flatMap_singleton]))
       | fail)
      go_roundg (its.length - (j+1))
      case measure => have:=HJ.out;omega
      case rel =>
       refine ⟨j+1,true,o2++[x],rfl,rfl,rfl,HJ.out,ho8,?_,?_,hC8⟩
       ·rw [← HRE.out,HO2.out];simp only [List.append_assoc,List.nil_append,List.singleton_append,List.cons_append]
       ·have h9:=HOL.out;try rw [HO2.out]
        simp only [Bool.false_eq_true,if_false] at h9;try simp only [List.length_append,List.length_singleton,if_true]
        omega
    ·by_cases he:x.key=k
     ·rw [if_neg (fun h => hlt h.2),decide_eq_false hlt,Bool.or_false] at hRe
      simp only [decide_eq_false hlt] at hlx
      rw [if_pos he] at hRe
      rw [decide_eq_true he] at hbq
      have hm2:=hm1 (out.length+xs.length) (by omega)
      have hm3:(out.length+xs.length) * 40≤140737488355328:=by omega
      have hm4:=hm1 (out.length+1) (by omega)
      have hm5:(out.length+1) * 40≤140737488355328:=by omega
      have HRE:=Lib.hid hRe
      clear hRe hol5 he hlt
      obtain ⟨c0,c1,c2,c3,c4⟩:=hcx _ hC
      go_wp2_with (first
       | (go_at_call 108;refine (hlx _).mono ?_;rintro r w1 ⟨rfl,n1,rfl⟩;have hC1:=hC.drewN n1;have ho1:=OwnL.chg0 ho ((Chg.refl (fun _ => False) _).drewN n1);obtain ⟨b0,b1,b2,b3,b4⟩:=hcx _ hC1)
       | fail)
      go_roundg (its.length - (j+1))
      case measure => have:=HJ.out;omega
      case rel =>
       refine ⟨j+1,false,out,rfl,rfl,rfl,HJ.out,ho1,?_,?_,hC1⟩
       ·rw [← HRE.out];simp only [List.append_assoc,List.nil_append,List.singleton_append,List.cons_append]
       ·have h9:=HOL.out;simp only [Bool.false_eq_true,if_false] at h9;try simp only [List.length_append,List.length_singleton]
        simp only [Bool.false_eq_true,if_false]
        omega
     ·rw [if_neg (fun h => hlt h.2),decide_eq_false hlt,Bool.or_false] at hRe
      simp only [decide_eq_false hlt] at hlx
      rw [if_neg he] at hRe
      rw [decide_eq_false he] at hbq
      have hm2:=hm1 (out.length+xs.length) (by omega)
      have hm3:(out.length+xs.length) * 40≤140737488355328:=by omega
      have hm4:=hm1 (out.length+1) (by omega)
      have hm5:(out.length+1) * 40≤140737488355328:=by omega
      have HRE:=Lib.hid hRe
      clear hRe hol5 he hlt
      obtain ⟨c0,c1,c2,c3,c4⟩:=hcx _ hC
      go_wp2_with (first
       | (go_at_call 108;refine (hlx _).mono ?_;rintro r w1 ⟨rfl,n1,rfl⟩;have hC1:=hC.drewN n1;have ho1:=OwnL.chg0 ho ((Chg.refl (fun _ => False) _).drewN n1);obtain ⟨b0,b1,b2,b3,b4⟩:=hcx _ hC1)
       | (at_builtin;have hC7:=hC1.alloc (.cells #[.string x.key,.pointer (some ⟨x.rb,0,none⟩),.int .i64 x.u.c,.int .i64 x.u.a] 94);have ho7:=OwnL.chg0 ho1 ((Chg.refl (fun _ => False) (wr.drewN n1)).alloc (.cells #[.string x.key,.pointer (some ⟨x.rb,0,none⟩),.int .i64 x.u.c,.int .i64 x.u.a] 94));refine wpList_append_any _ rfl (.tmp 37) (.tmp 42) 61 rfl w.heap.size 94 j0 _ 4 40 Tryz.underlying61 hj0 hy0 hy1 hy2 rfl (by omega) _ _ _ rfl (OwnL.own ho7) ((wr.drewN n1).alloc (.cells #[.string x.key,.pointer (some ⟨x.rb,0,none⟩),.int .i64 x.u.c,.int .i64 x.u.a] 94)).heap.size _ 1 1 (Ri.cells x) rfl (reads_blk (cs:=Ri.cells x) (Blk.new (wr.drewN n1) 94 #[.string x.key,.pointer (some ⟨x.rb,0,none⟩),.int .i64 x.u.c,.int .i64 x.u.a]) rfl) (by have h9:=items_one [x];rw [List.flatMap_singleton] at h9;exact h9) hm4 hm5 hC7.size ?_;intro v8 w8 hown8 hg8 _;have hC8:=hC7.trans' (app_chg (OwnL.own ho7) hg8) (fun g hg h2 => by omega);have ho8:Items w8 w.heap.size v8 (out++[x]):=OwnL.mk hown8 (by rw [List.length_append];first | done | rfl) (by rw [List.flatMap_append,List.flatMap_singleton]))
       | fail)
      go_roundg (its.length - (j+1))
      case measure => have:=HJ.out;omega
      case rel =>
       refine ⟨j+1,false,out++[x],rfl,rfl,rfl,HJ.out,ho8,?_,?_,hC8⟩
       ·rw [← HRE.out];simp only [List.append_assoc,List.nil_append,List.singleton_append,List.cons_append]
       ·have h9:=HOL.out;simp only [Bool.false_eq_true,if_false] at h9;try simp only [List.length_append,List.length_singleton]
        simp only [Bool.false_eq_true,if_false]
        omega
  ·have h3:¬ (j:Int)<(its.length:Int):=by omega
   obtain rfl:j=its.length:=by omega
   rw [List.drop_length] at hRe
   unfold withR at hRe
   have hm1:∀ n,n≤600→n≤maxLen:=fun n hn => by unfold maxLen;omega
   clear hcW hk hls hj
   cases d with
   | true =>
    rw [if_pos rfl,List.append_nil] at hRe
    subst hRe
    go_wp2_with fail
    go_ret
    exact ⟨⟨_,rfl,ho⟩,hC⟩
   | false =>
    rw [if_neg (by simp)] at hRe
    subst hRe
    have hr1:=hrW _ hC
    have hm2:=hm1 (out.length+xs.length) (by omega)
    have hm3:(out.length+xs.length) * 40≤140737488355328:=by omega
    go_wp2_with (first
     | (at_builtin;refine wpList_append_any _ rfl (.tmp 46) (.tmp 47) 61 rfl w.heap.size 94 j0 _ 4 40 Tryz.underlying61 hj0 hy0 hy1 hy2 rfl (by omega) _ _ _ rfl (OwnL.own ho) w.heap.size _ xs.length _ (xs.flatMap Ri.cells) rfl hr1 (items_one xs) hm2 hm3 hC.size ?_;intro v8 w8 hown8 hg8 _)
     | fail)
    go_ret
    exact ⟨⟨_,rfl,OwnL.mk hown8 (by rw [List.length_append]) (by rw [List.flatMap_append])⟩,hC.trans' (app_chg (OwnL.own ho) hg8) fun g hg h2 => by omega⟩
end Go.Proofs.YtehpmbmdadkhbaaGreatDoor
