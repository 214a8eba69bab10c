/- Texts joined for EvictNone: SPY, Sh, SS, KS, CIspaceitem, BKspaceitem, BK2spaceitem, BK3spaceitem, CM, SCspaceitem, SC2spaceitem, SC3spaceitem, SC4spaceitem. -/
import Derived.Test.YtehpmbmdadkhbaaGreatDoorJEvictNonea
import Derived.Test.YtehpmbmdadkhbaaGreatDoorJEvictNoneb
import Derived.Test.YtehpmbmdadkhbaaGreatDoorJEvictNonec
import Derived.Test.YtehpmbmdadkhbaaGreatDoorJEvictNonei
import Derived.Test.YtehpmbmdadkhbaaGreatDoorJEvictNonek
import Derived.Test.YtehpmbmdadkhbaaGreatDoorProg
import Derived.Shelf.Small.Bits
import Derived.Shelf.Strconv.Itoa0
import Derived.Shelf.Sort.Plain
import Derived.Shelf.Slices.In.SortNone
import Derived.Sort.OwnSorted
import Derived.Lib.OwnBridge
import Derived.Stop.RegionWithIn
import Derived.Outline
import Derived.Laws.BitsAllLaws
set_option linter.unusedVariables false
set_option linter.unusedSimpArgs false

namespace Go.Proofs.YtehpmbmdadkhbaaGreatDoor
open Go.RowKit Pal
attribute [local go_sem] Oper.semAt_some
theorem updK_updK {α:Type} {key:α→ByteArray} (l:List α) {x y:α} (h:key x=key y):updK key (updK key l x) y=updK key l y:=by
 unfold updK
 rw [List.map_map]
 refine List.map_congr_left fun i _ => ?_
 show (if key (if key i=key x then x else i)=key y then y else (if key i=key x then x else i))=if key i=key y then y else i
 by_cases h1:key i=key x
 ·rw [if_pos h1,if_pos h,if_pos (h1.trans h)]
 ·rw [if_neg h1]
theorem mem_updK_self {α:Type} {key:α→ByteArray} {l:List α} {x:α} (h:∃ i∈l,key i=key x):x∈updK key l x:=by
 obtain ⟨i,hi,e⟩:=h
 exact List.mem_map.2 ⟨i,hi,if_pos e⟩
theorem updK_none {α:Type} {key:α→ByteArray} {l:List α} {x:α} (h:∀ c∈l,key c≠key x):updK key l x=l:=by
 unfold updK
 refine (List.map_congr_left (g:=id) fun i hi => ?_).trans (List.map_id _)
 exact if_neg (h i hi)
theorem updK_insK {α:Type} {key:α→ByteArray} {k:ByteArray} {x y:α} (hx:key x=k):∀ {l:List α},(∀ c∈l,key c≠k)→key y=k→updK key (insK key x l) y=insK key y l
 | [],_,hy => by unfold insK updK;simp [hx,hy]
 | c :: l,h,hy => by
  have hc:=h c (List.mem_cons_self)
  have hl:∀ c∈l,key c≠k:=fun c hc => h c (List.mem_cons_of_mem _ hc)
  unfold insK
  rw [hx,hy]
  split
  ·have:updK key (x :: c :: l) y=y :: c :: l:=by
    have h2:updK key (c :: l) y=c :: l:=updK_none (fun z hz => by rw [hy];exact h z hz)
    show (if key x=key y then y else x) :: updK key (c :: l) y=_
    rw [if_pos (hx.trans hy.symm),h2]
   exact this
  ·show (if key c=key y then y else c) :: updK key (insK key x l) y=_
   rw [if_neg (by rw [hy];exact hc),updK_insK hx hl hy]
section
variable {w w':World} {base:Nat} {s:Spc}
theorem SpAt.zstep (h:SpAt w base s) {i:It} (hi:i∈s.its) {z':Zs} {es':List En} (hx:Zx base i.z z' es' w w'):Sx base s { s with its:=updK It.key s.its { i with z:=z',es:=es' } } w w':=by
 have hI:=h.it i hi
 refine h.item hi rfl rfl (hx.chg.mono fun g _ hg => .inr hg) ⟨?_,hx.at_,hx.E.trans hI.E,hx.M.trans hI.M,hI.ge,hI.u,hI.k⟩ fun g hg => ?_
 ·have:=hI.b.chg hx.chg hI.b_z
  show Blk w' i.blk _ #[pt z'.blk,_,_]
  rw [hx.blk];exact this
 ·rcases hg with hg | hg
  ·exact .inl (.inl hg)
  ·exact (hx.foot g hg).imp .inr id
theorem SpAt.reset (h:SpAt w base s) {i:It} (hi:i∈s.its) {z:Zs} (hC:Chg (fun _ => False) w w') (hz:ZsAt w' w.heap.size z []) (hE:z.E=clampL 200 s.E) (hM:z.M=clampL 64 s.M):Sx base s { s with its:=updK It.key s.its { i with z:=z,es:=[] } } w (w'.setCell ⟨i.blk,0,none⟩ (pt z.blk)):=by
 have hI:=h.it i hi
 have hc:Chg (fun g => g=i.blk) w' (w'.setCell ⟨i.blk,0,none⟩ (pt z.blk)):=Chg.store (S:=fun g => g=i.blk) (Chg.refl _ w') rfl 0 _
 have hb:=(hI.b.chg hC id).set 0 (pt z.blk)
 simp only [List.setIfInBounds_toArray,List.set_cons_zero] at hb
 have hbw:base≤w.heap.size:=Nat.le_trans h.ge.1 (Nat.le_of_lt h.b.lt)
 refine h.item hi rfl rfl ((hC.mono fun _ _ h => h.elim).trans' hc fun g _ hg => .inl hg) ⟨hb,(hz.lower hbw).chg hc fun g hg e => ?_,hE,hM,hI.ge,hI.u,hI.k⟩ fun g hg => ?_
 ·have h1:=(hz.lt hg).1
  have h2:=hI.b.lt
  omega
 ·rcases hg with hg | hg
  ·exact .inl (.inl hg)
  ·exact .inr (hz.lt hg).1
theorem Ents.sx {B:Nat} {v:Value} {l:List En} (h:Ents w B v l) (hs:SpAt w base s) (hc:Chg s.foot w w'):Ents w' B v l:=h.chg hc fun g hg hf => by
 rcases hf with rfl | hf | ⟨i,hi,hf⟩
 ·exact hs.b.not_own h (by decide) hg
 ·obtain ⟨t,cs,hb,ht⟩:=dmS_ty hs.dm hf
  exact hb.not_own h (by rcases ht with rfl | rfl | rfl <;> decide) hg
 ·obtain ⟨t,cs,hb,ht⟩:=it_ty (hs.it i hi) hf
  exact hb.not_own h (by rcases ht with rfl | rfl | rfl | rfl | rfl | rfl | rfl | rfl | rfl <;> decide) hg
def PutI (base B:Nat) (s:Spc) (w0:World) (v:Value) (xs:List En) (L:List Ct) (k:ByteArray) (u:Us) (ib E M:Nat) (j:Nat) (W:World):Prop :=
 ∃ s' i,Sx base s s' w0 W∧i∈s'.its∧i.blk=ib∧i.ct=⟨k,(putsE E M (xs.take j)).1,(putsE E M (xs.take j)).2,u⟩∧s'.its.map It.ct=updK Ct.key L i.ct∧Ents W B v xs
theorem putsE_snoc {E M:Nat} {xs:List En} {j:Nat} {e:En} (h:xs[j]?=some e):putsE E M (xs.take (j+1))=(addL (putsE E M (xs.take j)).1 e.m e.s 1,addI (putsE E M (xs.take j)).1 e.m e.s 1 E M (putsE E M (xs.take j)).2):=by
 unfold putsE
 rw [List.take_add_one,h,List.foldl_append]
 rfl
set_option maxRecDepth 100000 in
set_option maxHeartbeats 4000000 in
theorem s_put (h:SpAt w base s) (k:ByteArray) (hk:k.size≤64) (h5:s.its.length<500) (B:Nat) (v:Value) (xs:List En) (hv:Ents w B v xs) (hn:xs.length≤1000) (hx:∀ e∈xs,e.m.size≤9223372036854775807∧-9223372036854775808≤e.s∧e.s≤9223372036854775807) :
  Calls Tryz.prog 30 #[pt s.blk,.string k,v,.int .i64 0] w fun r w' => r=.returned (.int .i64 0)∧∃ s',Sx base s s' w w'∧s'.its.map It.ct=putC (clampL 200 s.E) (clampL 64 s.M) (s.its.map It.ct) k xs 0∧Ents w' B v xs:=by
 -- made
 have hmd:Calls Tryz.prog 52 #[pt s.blk,.string k,.int .i64 0] w fun r w' => ∃ i s1,r=.returned (.tuple #[pt i.blk,.nilIface])∧Sx base s s1 w w'∧i∈s1.its∧i.key=k∧(∀ (es:List En) (is:Bool),updK Ct.key (s1.its.map It.ct) ⟨k,es,is,i.u⟩=match findK Ct.key (s.its.map It.ct) k with | some c => updK Ct.key (s.its.map It.ct) { c with es:=es,is:=is } | none => insK Ct.key ⟨k,es,is,⟨5,0⟩⟩ (s.its.map It.ct)):=by
  cases hf:findK It.key s.its k with
  | some i =>
   have hi:=(findK_some h.so).1 hf
   refine (s_made_old h k hk hf 0).mono ?_
   rintro r w' ⟨rfl,d',hx1⟩
   refine ⟨i,_,rfl,hx1,hi.1,hi.2,fun es is => ?_⟩
   rw [find_ct,hf]
   show updK Ct.key (s.its.map It.ct) ⟨k,es,is,i.u⟩=updK Ct.key (s.its.map It.ct) ⟨i.key,es,is,i.u⟩
   rw [hi.2]
  | none =>
   refine (s_made_new h k hk hf h5).mono ?_
   rintro r w' ⟨i,d',rfl,hct,hx1⟩
   have hik:i.key=k:=congrArg Ct.key hct
   have hu:i.u=⟨5,0⟩:=congrArg Ct.u hct
   refine ⟨i,_,rfl,hx1,mem_insK.2 (.inl rfl),hik,fun es is => ?_⟩
   rw [find_ct,hf]
   show updK Ct.key ((insK It.key i s.its).map It.ct) ⟨k,es,is,i.u⟩=insK Ct.key ⟨k,es,is,⟨5,0⟩⟩ (s.its.map It.ct)
   rw [ins_ct,hu]
   have hno:∀ c∈s.its.map It.ct,Ct.key c≠k:=fun c hc => by
    obtain ⟨j,hj,rfl⟩:=List.mem_map.1 hc
    exact findK_none.1 hf j hj
   exact updK_insK (key:=Ct.key) (x:=i.ct) hik hno rfl
 obtain ⟨p,c,rfl,hc1,hc2,_⟩:=hv.is
 have hst:=fun {W:World} {q:Spc} (hq:SpAt W base q) => s_set hq
 have hxl:(xs.length:Int)≤1000:=by omega
 unfold pt at hmd hst ⊢
 go_enter Tryz.func30,Tryz.ntmps30
 go_wp2_with (first
  | (go_at_call 52;refine hmd.mono ?_;rintro r w1 ⟨i,s1,rfl,hx1,hi1,hik,hL⟩;have hst1:=hst hx1.at_;rw [hx1.blk] at hst1;obtain ⟨y0,_,_,yl⟩:=(hx1.at_.it i hi1).cells)
  | (go_at_call 54;refine hst1.mono ?_;rintro r w2 ⟨z,rfl,⟨q1,q2,q3,q4⟩,hC2⟩;have hx2:=hx1.at_.reset hi1 hC2 q1 q3 q4;have yb:=((hx1.at_.it i hi1).chg hC2 fun _ _ => id).b;have yf:=yb.frozen;have yl2:=yb.lt;obtain ⟨e0,_⟩:=((hx1.at_.it i hi1).chg hC2 fun _ _ => id).cells;unfold pt at e0)
  | fail)
 have hv1:=hv.sx h hx1.chg
 have hv2:=hv1.sx hx1.at_ hx2.chg
 have hx12:=hx1.trans hx2
 have hiu:=(hx1.at_.it i hi1).u
 unfold pt at hx2 hx12 hv2
 have H0:PutI base B s w (.slice p xs.length c) xs (s1.its.map It.ct) k i.u i.blk (clampL 200 s.E) (clampL 64 s.M) 0 (w2.setCell ⟨i.blk,0,none⟩ (.pointer (some ⟨z.blk,0,none⟩))):=by
  refine ⟨_,{ i with z:=z,es:=[] },hx12,mem_updK_self ⟨i,hi1,rfl⟩,rfl,?_,?_,hv2⟩
  ·show (⟨i.key,[],z.f.is,i.u⟩:Ct)=_
   rw [hik,q2];rfl
  ·exact upd_ct _ _
 generalize w2.setCell ⟨i.blk,0,none⟩ (.pointer (some ⟨z.blk,0,none⟩))=W3 at H0 ⊢
 clear hx2 hx12 hv1 hv2 yb yf yl2 e0 hst1 y0 yl hmd
 have hrow:=hv
 clear hv
 go_loopg [31] xs.length (fun n iv W => ∃ j:Nat,iv=.int .i64 (j:Int)∧n=xs.length - j∧j≤xs.length∧PutI base B s w (.slice p xs.length c) xs (s1.its.map It.ct) k i.u i.blk (clampL 200 s.E) (clampL 64 s.M) j W)
 case atStart => exact ⟨0,rfl,rfl,Nat.zero_le _,H0⟩
 case round =>
  clear H0
  obtain ⟨j,rfl,rfl,hj,s',i',hX,hi',hib,hict,hits,hE⟩:=hrel
  by_cases hjl:j<xs.length
  ·have h3:(j:Int)<(xs.length:Int):=by omega
   have hxj:=List.getElem?_eq_getElem hjl
   have hxe:=hx _ (List.getElem_mem hjl)
   generalize xs[j]=e at hxj hxe
   obtain ⟨eb,eo,ec,ee,g1,g2,el,d0,d1⟩:=hE.r.at_ hxj
   injection ee with ee5 _ ee6
   subst ee5
   subst ee6
   have hsn:=putsE_snoc (E:=clampL 200 s.E) (M:=clampL 64 s.M) hxj
   have HSN:=Lib.hid hsn
   have HXJ:=Lib.hid hxj
   have HJ:=Lib.hid hj
   clear hsn hxj
   go_wp2_with fail
   have hCa:=(Chg.refl (fun _ => False) wr).alloc (.cells #[.string e.m,.int .i64 e.s] 68)
   have hbe:=Blk.new wr 68 #[.string e.m,.int .i64 e.s]
   generalize wr.alloc (.cells #[.string e.m,.int .i64 e.s] 68)=wa at hCa hbe ⊢
   have hXa:=hX.trans (Sx.zero hX.at_ hCa)
   have hEa:=hE.chg0 hCa
   obtain ⟨y0,_,_,yl⟩:=(hXa.at_.it i' hi').cells
   rw [hib] at y0 yl
   have f0:=hbe.cell 0
   have f1:=hbe.cell 1
   have fl:=hbe.lt
   simp only [List.getElem?_toArray,List.getElem?_cons_zero,List.getElem?_cons_succ] at f0 f1
   have hXd:=hXa.trans (Sx.zero hXa.at_ (Chg.refl (fun _ => False) _).drew)
   have hEd:=hEa.chg0 (Chg.refl (fun _ => False) _).drew
   have hId:=hXd.at_.it i' hi'
   have hadd:=z_add hId.z e.m e.s 1 hxe.1 hxe.2
   rw [hId.E,hId.M,hXd.E,hXd.M] at hadd
   unfold pt at hadd y0
   clear hE hEa hId d0 d1 hCa
   go_still_tail 8,(by kernel_rfl)
   go_wp2_with (first
    | (go_at_call 55;refine hadd.mono ?_;rintro r w4 ⟨⟨u4,rfl,_⟩,z',hZ,hZi⟩)
    | fail)
   have hX4:=hXd.trans (hXd.at_.zstep hi' hZ)
   go_roundg (xs.length - (j+1))
   case measure => omega
   case rel =>
    refine ⟨j+1,int_eq (by omega),rfl,by omega,_,{ i' with z:=z',es:=_ },hX4,mem_updK_self ⟨i',hi',rfl⟩,hib,?_,?_,?_⟩
    ·have k1:i'.key=k:=congrArg Ct.key hict
     have k2:i'.es=(putsE (clampL 200 s.E) (clampL 64 s.M) (xs.take j)).1:=congrArg Ct.es hict
     have k3:i'.z.f.is=(putsE (clampL 200 s.E) (clampL 64 s.M) (xs.take j)).2:=congrArg Ct.is hict
     have k4:i'.u=i.u:=congrArg Ct.u hict
     rw [HSN.out,← k2,← k3,← hZi]
     show (⟨i'.key,_,z'.f.is,i'.u⟩:Ct)=_
     rw [k1,k4]
    ·have k1:i'.key=k:=congrArg Ct.key hict
     rw [upd_ct,hits]
     exact updK_updK _ rfl
    ·exact hEd.sx hXd.at_ (hXd.at_.zstep hi' hZ).chg
  ·obtain rfl:j=xs.length:=by omega
   have h3:¬ (xs.length:Int)<(xs.length:Int):=by omega
   rw [List.take_length] at hict
   go_wp2_with fail
   go_ret
   refine ⟨rfl,s',hX,?_,hE⟩
   rw [hits,hict]
   exact hL _ _
end
end Go.Proofs.YtehpmbmdadkhbaaGreatDoor

namespace Go.Proofs
open Go.Shelf
def Tryz.lays190_ren:Go.Shelf.Ren:=⟨fun | 190 => 39 | 125 => 65 | 258 => 64 | 128 => 101 | 129 => 102 | 302 => 92 | 303 => 93 | 304 => 94 | 305 => 95 | 306 => 96 | 307 => 97 | 308 => 98 | 309 => 99 | 310 => 100 | 333 => 125 | 329 => 126 | 330 => 127 | 334 => 128 | 335 => 129 | 336 => 130 | 344 => 140 | n => n,fun | 31 => 38 | 9 => 9 | 3 => 3 | 46 => 65 | 0 => 0 | 51 => 24 | 53 => 181 | 4 => 4 | 183 => 172 | 182 => 171 | 131 => 177 | 5 => 5 | 218 => 220 | 222 => 224 | 228 => 259 | 229 => 260 | n => n,fun | n => n⟩
theorem Tryz.lays190:Go.Proofs.Lays.n190 Tryz.prog Tryz.lays190_ren:={
 mixed:=by kernel_rfl
 f125:=Tryz.func65.trans (congrArg some (by kernel_rfl))
 f128:=Tryz.func101.trans (congrArg some (by kernel_rfl))
 f129:=Tryz.func102.trans (congrArg some (by kernel_rfl))
 f190:=Tryz.func39.trans (congrArg some (by kernel_rfl))
 f258:=Tryz.func64.trans (congrArg some (by kernel_rfl))
 f302:=Tryz.func92.trans (congrArg some (by kernel_rfl))
 f303:=Tryz.func93.trans (congrArg some (by kernel_rfl))
 f304:=Tryz.func94.trans (congrArg some (by kernel_rfl))
 f305:=Tryz.func95.trans (congrArg some (by kernel_rfl))
 f306:=Tryz.func96.trans (congrArg some (by kernel_rfl))
 f307:=Tryz.func97.trans (congrArg some (by kernel_rfl))
 f308:=Tryz.func98.trans (congrArg some (by kernel_rfl))
 f309:=Tryz.func99.trans (congrArg some (by kernel_rfl))
 f310:=Tryz.func100.trans (congrArg some (by kernel_rfl))
 f329:=Tryz.func126.trans (congrArg some (by kernel_rfl))
 f330:=Tryz.func127.trans (congrArg some (by kernel_rfl))
 f333:=Tryz.func125.trans (congrArg some (by kernel_rfl))
 f334:=Tryz.func128.trans (congrArg some (by kernel_rfl))
 f335:=Tryz.func129.trans (congrArg some (by kernel_rfl))
 f336:=Tryz.func130.trans (congrArg some (by kernel_rfl))
 f344:=Tryz.func140.trans (congrArg some (by kernel_rfl))
 t0:=Tryz.underlying0
 a0:=Tryz.isAgg0
 z0:=Tryz.sizeOf0
 v0:=Tryz.zeroValue0
 t3:=Tryz.underlying3
 a3:=Tryz.isAgg3
 z3:=Tryz.sizeOf3
 v3:=Tryz.zeroValue3
 t4:=Tryz.underlying4
 a4:=Tryz.isAgg4
 z4:=Tryz.sizeOf4
 v4:=Tryz.zeroValue4
 t5:=Tryz.underlying5
 a5:=Tryz.isAgg5
 z5:=Tryz.sizeOf5
 v5:=Tryz.zeroValue5
 t9:=Tryz.underlying9
 a9:=Tryz.isAgg9
 z9:=Tryz.sizeOf9
 v9:=Tryz.zeroValue9
 t31:=Tryz.underlying38
 a31:=Tryz.isAgg38
 z31:=Tryz.sizeOf38
 v31:=Tryz.zeroValue38
 t46:=Tryz.underlying65
 a46:=Tryz.isAgg65
 z46:=Tryz.sizeOf65
 v46:=Tryz.zeroValue65
 t51:=Tryz.underlying24
 a51:=Tryz.isAgg24
 z51:=Tryz.sizeOf24
 v51:=Tryz.zeroValue24
 t53:=Tryz.underlying181
 a53:=Tryz.isAgg181
 z53:=Tryz.sizeOf181
 v53:=Tryz.zeroValue181
 t131:=Tryz.underlying177
 a131:=Tryz.isAgg177
 z131:=Tryz.sizeOf177
 v131:=Tryz.zeroValue177
 t182:=Tryz.underlying171
 a182:=Tryz.isAgg171
 z182:=Tryz.sizeOf171
 v182:=Tryz.zeroValue171
 t183:=Tryz.underlying172
 a183:=Tryz.isAgg172
 z183:=Tryz.sizeOf172
 v183:=Tryz.zeroValue172
 t218:=Tryz.underlying220
 a218:=Tryz.isAgg220
 z218:=Tryz.sizeOf220
 v218:=Tryz.zeroValue220
 t222:=Tryz.underlying224
 a222:=Tryz.isAgg224
 z222:=Tryz.sizeOf224
 v222:=Tryz.zeroValue224
 t228:=Tryz.underlying259
 a228:=Tryz.isAgg259
 z228:=Tryz.sizeOf259
 v228:=Tryz.zeroValue259
 t229:=Tryz.underlying260
 a229:=Tryz.isAgg260
 z229:=Tryz.sizeOf260
 v229:=Tryz.zeroValue260 }
open Go.Sort Go.RowKit in
theorem Tryz.slices_Sort_string (blk off cap:Nat) (ss:List (List UInt8)) (w:World) (hH:Holds encStr w blk off ss.toArray) (hblk:blk<w.heap.size) (hsz:ss.length<4611686018427387904) :
  Calls Tryz.prog 39 #[.slice (some ⟨blk,off,none⟩) ss.length cap] w fun e w' =>
   e=.returned (.tuple #[])∧∃ n os,w'=grow (putRow encStr (Sort.ahead w n) blk off (ss.mergeSort fun x y => decide (x≤y)).toArray) os:=Any.slices_Sort_string Tryz.lays190 blk off cap ss w hH hblk hsz
open Go.RowKit Go.Sort in
theorem Tryz.slices_Sort_string_none (p:Option Addr) (cap:Nat) (w:World) :
  Calls Tryz.prog 39 #[.slice p 0 cap] w fun e w' => e=.returned (.tuple #[])∧w'=w:=Any.slices_Sort_string_none Tryz.lays190 p cap w
end Go.Proofs

namespace Go.Proofs.YtehpmbmdadkhbaaGreatDoor
open Go.RowKit Pal Go.Sort
theorem str_info:(Tryz.prog.info? 9).map (fun i => (i.zero,i.size,i.bytes))=some (some (.string ⟨#[]⟩),1,16):=by kernel_rfl
def Strs (w:World) (base:Nat) (v:Value) (l:List ByteArray):Prop:=w.ownsRow base 9 1 v l.length (l.map Value.string)
theorem Strs.nil (w:World) (base:Nat):Strs w base (.slice none 0 0) []:=World.ownsRow_nil w base _ 1
theorem Strs.stay {w w':World} {base:Nat} {v:Value} {l:List ByteArray} {F:Nat→Prop} (h:Strs w base v l) (hs:Stay F w w') (hn:∀ g,v.ownBlock=some g→¬ F g):Strs w' base v l:=own_stay h hs hn
theorem Strs.chg {w w':World} {base:Nat} {v:Value} {l:List ByteArray} {F:Nat→Prop} (h:Strs w base v l) (hs:Chg F w w') (hn:∀ g,v.ownBlock=some g→¬ F g):Strs w' base v l:=own_stay h (.of_chg hs) hn
theorem Strs.lower {w:World} {base b:Nat} {v:Value} {l:List ByteArray} (h:Strs w base v l) (hb:b≤base):Strs w b v l:=by
 refine ⟨h.1,?_⟩
 rcases h.2 with h0 | ⟨g,cap,cur,rfl,h1,rest⟩
 ·exact .inl h0
 ·exact .inr ⟨g,cap,cur,rfl,Nat.le_trans hb h1,rest⟩
theorem Strs.is {w:World} {base:Nat} {v:Value} {l:List ByteArray} (h:Strs w base v l):∃ p cap,v=.slice p l.length cap∧l.length≤cap∧cap≤maxLen∧(∀ g,p=some g→base≤g.block∧g.block<w.heap.size):=by
 rcases h.2 with ⟨rfl,h0⟩ | ⟨g,cap,cur,rfl,h1,h2,h3,h4,_⟩
 ·exact ⟨none,0,by rw [h0],by omega,by simp [maxLen],fun _ h => (by cases h)⟩
 ·exact ⟨_,cap,rfl,h3,h4,fun g hg => by injection hg with hg;subst hg;exact ⟨h1,(Array.getElem?_eq_some_iff.1 h2).1⟩⟩
theorem Strs.reads {w:World} {base:Nat} {p:Option Addr} {n c:Nat} {l:List ByteArray} (h:Strs w base (.slice p n c) l):Reads w w.heap.size 1 p l.length (l.map Value.string):=by
 have hn:n=l.length:=by
  obtain ⟨_,_,e,_⟩:=h.is
  injection e
 subst hn
 exact Reads.of_own h
theorem Strs.own {w:World} {base:Nat} {v:Value} {l:List ByteArray} (h:Strs w base v l):w.ownsRow base 9 1 v l.length (l.map Value.string):=h
theorem Strs.mk {w:World} {base n:Nat} {v:Value} {l:List ByteArray} {xs:List Value} (h:w.ownsRow base 9 1 v n xs) (hn:n=l.length) (hx:xs=l.map Value.string):Strs w base v l:=by
 subst hn;subst hx;exact h
theorem strs_one (l:List ByteArray):∀ u∈l.map Value.string,u.oneCell'=true:=by
 intro u hu
 obtain ⟨x,_,rfl⟩:=List.mem_map.1 hu
 rfl
theorem Strs.at_ {w:World} {base k n c:Nat} {p:Option Addr} {l:List ByteArray} (h:Strs w base (.slice p n c) l) (hk:k<l.length):∃ g,p=some ⟨g,0,none⟩∧base≤g∧g<w.heap.size∧w.cell? ⟨g,k,none⟩=some (.string l[k]):=by
 have h':=h
 rcases h'.2 with ⟨_,h0⟩ | ⟨g,cap,cur,he,hb,hg,_⟩
 ·omega
 ·injection he with he
  subst he
  have hc:=World.ownsRow.cells h (g:=g) rfl k (.string l[k]) (by simp [hk])
  refine ⟨g,rfl,hb,(Array.getElem?_eq_some_iff.1 hg).1,?_⟩
  unfold Addr.add at hc
  split at hc
  ·rename_i e;subst e;exact hc
  ·simpa using hc
theorem toList_ne {a b:ByteArray} (h:¬ a=b):(a.toList == b.toList)=false:=by
 rw [beq_eq_false_iff_ne]
 intro h'
 apply h
 rw [ByteArray.toList_eq,ByteArray.toList_eq] at h'
 cases a;cases b;simp_all
theorem toList_eq (a:ByteArray):(a.toList == a.toList)=true:=by simp
def sortB (l:List ByteArray):List ByteArray:=((l.map (·.data.toList)).mergeSort fun x y => decide (x≤y)).map fun x => ⟨x.toArray⟩
theorem sortB_perm (l:List ByteArray):(sortB l).Perm l:=by
 have h:=(List.mergeSort_perm (l.map (·.data.toList)) fun x y => decide (x≤y)).map fun x => (⟨x.toArray⟩:ByteArray)
 rw [List.map_map] at h
 have e:l.map ((fun x:List UInt8 => (⟨x.toArray⟩:ByteArray)) ∘ (·.data.toList))=l:=by
  conv => rhs;rw [← List.map_id l]
  exact List.map_congr_left fun x _ => by simp
 rw [e] at h
 exact h
theorem sortB_length (l:List ByteArray):(sortB l).length=l.length:=(sortB_perm l).length_eq
theorem sort_any (v:Value) (l:List ByteArray) (base:Nat) (w:World) (h:Strs w base v l) (hl:l.length<4611686018427387904) :
  Calls Tryz.prog 39 #[v] w fun e w' => e=.returned (.tuple #[])∧Strs w' base v (sortB l)∧w.grownBy w' v.ownBlock:=by
 rcases h.2 with ⟨rfl,h0⟩ | ⟨g,cap,cur,rfl,h1,h2,h3,h4,h5,h6⟩
 ·have:=List.eq_nil_of_length_eq_zero h0
  subst this
  refine (Tryz.slices_Sort_string_none none 0 w).mono ?_
  rintro e w' ⟨rfl,rfl⟩
  exact ⟨rfl,by simpa [sortB] using Strs.nil w' base,World.grownBy.refl _ _⟩
 ·have ht:cur.toList.take (l.map (·.data.toList)).length=(l.map (·.data.toList)).map encStr:=by
   rw [List.length_map,Lib.map_encStr,← h6,Nat.mul_one]
  have hc:=Tryz.slices_Sort_string g 0 cap (l.map (·.data.toList)) w (holds_of_block h2 ht) (Array.getElem?_eq_some_iff.1 h2).1 (by simpa using hl)
  rw [List.length_map] at hc
  refine hc.mono ?_
  rintro e w' ⟨rfl,n,os,rfl⟩
  refine ⟨rfl,?_,grownBy_sorted _⟩
  have:=ownsRow_sorted (w:=w) (base:=base) (g:=g) (cap:=cap) (n:=n) (e:=9) (os:=os) (cur:=cur) (ss:=l.map (·.data.toList)) (ts:=(l.map (·.data.toList)).mergeSort fun x y => decide (x≤y)) (by simp) h1 h2 (by simpa using h3) h4 h5
  unfold Strs
  rw [sortB_length]
  have e:(sortB l).map Value.string=((l.map (·.data.toList)).mergeSort fun x y => decide (x≤y)).map encStr:=by
   unfold sortB
   rw [List.map_map]
   rfl
  rw [e]
  rw [List.length_map] at this
  exact this
end Go.Proofs.YtehpmbmdadkhbaaGreatDoor

namespace Go.Proofs.YtehpmbmdadkhbaaGreatDoor
open Go.RowKit Pal
theorem sortedK_eq:∀ (l m:List ByteArray),l.Pairwise ltB→m.Pairwise ltB→l.Perm m→l=m
 | [],m,_,_,h => (List.nil_perm.1 h).symm
 | x :: l,[],_,_,h => absurd h.length_eq (by simp)
 | x :: l,y :: m,hl,hm,h => by
  rw [List.pairwise_cons] at hl hm
  have hxy:x=y:=by
   rcases List.mem_cons.1 (h.mem_iff.1 List.mem_cons_self) with h1 | h1
   ·exact h1
   ·rcases List.mem_cons.1 (h.mem_iff.2 List.mem_cons_self) with h2 | h2
    ·exact h2.symm
    ·exact absurd (List.lt_trans (hl.1 y h2) (hm.1 x h1)) (List.lt_irrefl _)
  subst hxy
  rw [sortedK_eq l m hl.2 hm.2 ((List.perm_cons x).1 h)]
theorem sortK_sorted {l:List ByteArray} (h:l.Nodup):(sortB l).Pairwise ltB:=by
 have h1:=List.pairwise_mergeSort (le:=fun x y:List UInt8 => decide (x≤y)) (fun a b c => by simpa using fun h h' => List.le_trans h h') (fun a b => by simpa using List.le_total a b) (l.map (·.data.toList))
 have hnd:(sortB l).Nodup:=(sortB_perm l).nodup_iff.2 h
 unfold sortB at hnd ⊢
 rw [List.pairwise_map]
 unfold List.Nodup at hnd
 rw [List.pairwise_map] at hnd
 refine (h1.and hnd).imp fun {a b} hab => ?_
 obtain ⟨h2,h3⟩:=hab
 unfold ltB
 have h2:a≤b:=by simpa using h2
 rcases (List.le_iff_lt_or_eq).1 h2 with h4 | h4
 ·simpa using h4
 ·exact absurd (by rw [h4]) h3
theorem sortK_of {l m:List ByteArray} (h:m.Pairwise ltB) (hp:l.Perm m):sortB l=m:=by
 have hnd:m.Nodup:=h.imp fun h => ltK_ne h
 exact sortedK_eq _ _ (sortK_sorted (hp.nodup_iff.2 hnd)) h ((sortB_perm l).trans hp)
end Go.Proofs.YtehpmbmdadkhbaaGreatDoor

namespace Go.Proofs.YtehpmbmdadkhbaaGreatDoor.Dspaceitem
open Go.RowKit Pal
theorem chAt_suffix {w:World}:∀ {pre r:Ch},chAt w (pre++r)→chAt w r
 | [],_,h => h
 | _ :: pre,_,h => chAt_suffix (pre:=pre) h.2
theorem chAt_mem {w:World} {c:Ch} (h:chAt w c) {x:Nd} (hx:x∈c):∃ nx,Blk w x.blk 138 (ndCells x nx):=by
 obtain ⟨pre,post,rfl⟩:=List.append_of_mem hx
 exact ⟨_,h.node rfl⟩
theorem chAt_same {w w':World}:∀ {c:Ch},chAt w c→(∀ x∈c,w'.heap[x.blk]?=w.heap[x.blk]?)→chAt w' c
 | [],_,_ => trivial
 | x :: _,⟨h1,h2⟩,h => ⟨(h x (by simp)).trans h1,chAt_same h2 fun y hy => h y (by simp [hy])⟩
def chF (B:Nat) (c:Ch) (g:Nat):Prop:=g=B∨∃ x∈c,g=x.blk
def chIt (B:Nat) (c:Ch) (r:Ch) (W:World):Prop:=(∃ pre,pre++r=c)∧Blk W B 136 #[hd r]∧chAt W c
theorem chain_spec (B:Nat) (c:Ch):IterSpec Tryz.prog 131 #[ptr B] (fun x:Nd => #[ptr x.blk]) (chF B c) (fun g => g=B) (chIt B c) (chIt B c) where
 sub:=fun _ h => .inl h
 cells:=by
  rintro r W k ⟨_,hb,hc⟩ (rfl | ⟨x,hx,rfl⟩)
  ·exact ⟨_,_,_,hb⟩
  ·obtain ⟨nx,h⟩:=chAt_mem hc hx
   exact ⟨_,_,_,h⟩
 far0:=by
  rintro r W W' ⟨hp,hb,hc⟩ _ hF
  exact ⟨hp,(hF B (.inl rfl)).trans hb,chAt_same hc fun x hx => hF _ (.inr ⟨x,hx,rfl⟩)⟩
 far:=by
  rintro r W W' ⟨hp,hb,hc⟩ _ hF
  exact ⟨hp,(hF B (.inl rfl)).trans hb,chAt_same hc fun x hx => hF _ (.inr ⟨x,hx,rfl⟩)⟩
 call:=by
  intro l I Ix hI hIx hY c0 W h0 hit0
  refine (chain1_any l B (fun r W => I r W∧chIt B c r W) (fun r W => I r W∧(∃ pre,pre++r=c)∧(∃ v,Blk W B 136 #[v])∧chAt W c) Ix ?_ ?_ ?_ c0 W ⟨h0,hit0⟩).mono ?_
  ·rintro r W ⟨_,_,hb,_⟩
   exact hb.cell 0
  ·rintro x r W ⟨hi,hp,hb,hc⟩
   have hc':=hp
   obtain ⟨pre,hpre⟩:=hc'
   have hsuf:chAt W (x :: r):=chAt_suffix (pre:=pre) (by rw [hpre];exact hc)
   refine ⟨hsuf.1.cell 3,?_⟩
   obtain ⟨fn,tmps,assign,body,hy,hR⟩:=hY x r W hi ⟨hp,hb,hc⟩
   refine ⟨fn,tmps,assign,body,hy,hR.mono ?_⟩
   rintro e W' ⟨_,hF,⟨rfl,hi'⟩ | ⟨rfl,hx'⟩⟩
   ·exact .inl ⟨rfl,hi',⟨pre++[x],by simp [hpre]⟩,⟨_,(hF B (.inl rfl)).trans hb⟩,chAt_same hc fun x hx => hF _ (.inr ⟨x,hx,rfl⟩)⟩
   ·exact .inr ⟨rfl,hx'⟩
  ·rintro r W ⟨hi,hp,⟨v,hb⟩,hc⟩
   have hs:Chg (fun g => g=B) W (W.setCell ⟨B,0,none⟩ (hd r)):=(Chg.refl (fun g => g=B) W).store rfl 0 _
   refine ⟨⟨v,hb.cell 0⟩,hb.frozen 0,hI _ _ _ hi hs,hp,hb.set 0 _,hc.chg hs fun y hy h' => ?_⟩
   obtain ⟨nx,hy'⟩:=chAt_mem hc hy
   exact hy'.ne_type hb (by decide) h'
  ·rintro e W' ⟨hv,⟨h,_⟩ | h⟩
   ·exact ⟨hv,.inl h⟩
   ·exact ⟨hv,.inr h⟩
end Go.Proofs.YtehpmbmdadkhbaaGreatDoor.Dspaceitem

namespace Go.Proofs.YtehpmbmdadkhbaaGreatDoor.Dspaceitem
open Go.RowKit Pal
attribute [local go_sem] Oper.semAt_some
theorem addr_add (b o k:Nat):(⟨b,o,none⟩:Addr).add k=⟨b,o+k,none⟩:=by
 unfold Addr.add;split
 ·rename_i h;rw [h];rfl
 ·rfl
def keysAt (d:Dm) (ti si:Nat):List ByteArray:=match d.tab ti with
 | some t => sortB ((t.at si).map (·.key))
 | none => []
structure BkI (w0:World) (c:Ch) (OB M:Nat) (r:Ch) (W:World):Prop where
 ex:∃ v,∃ pre,pre++r=c∧Blk W OB 38 #[v]∧Strs W M v (pre.map (·.key))
 st:Stay (fun _ => False) w0 W
 M:M≤W.heap.size
set_option maxRecDepth 100000 in
set_option maxHeartbeats 1000000 in
theorem Bucket_yes (d:Dm) (ti si:Nat) (t:Tb) (w:World) (h:DmAt w d) (hok:d.Ok) (ht:d.tab ti=some t) (hti:ti<2) (hsi:si<t.len) (hn:d.n<1000000) :
  Calls Tryz.prog 121 #[ptr d.blk,.int .i64 (ti:Int),.int .i64 (si:Int)] w fun e w' => (∃ v,e=.returned (.tuple #[v,.int .i64 0])∧Strs w' w.heap.size v (keysAt d ti si))∧Chg (fun _ => False) w w':=by
 obtain ⟨c0,c1,c2,c3,c4,hf,hlt⟩:=dm_cells h
 have htab:=tab_at h ht
 have hct:=htab.1.cell si
 rw [tbCells_get hsi] at hct
 obtain ⟨q,HQ⟩:∃ q,Hid (hd (t.at si)=.pointer q):=by cases t.at si <;> exact ⟨_,rfl⟩
 rw [HQ.out] at hct
 have h0:(0:Int)≤(si:Int):=by omega
 have h1:((si:Int)<0)=False:=by simp only [eq_iff_iff,iff_false];omega
 have h2:((si:Int) ≥ (t.len:Int))=False:=by simp only [eq_iff_iff,iff_false];omega
 have h3:(si:Int)<(t.len:Int):=by omega
 have hcell:w.cell? ⟨d.blk,1+ti,none⟩=some (.slice (some ⟨t.blk,0,none⟩) t.len t.len):=by
  rcases (by omega:ti=0∨ti=1) with rfl | rfl
  ·injection ht with ht
   subst ht
   exact c1
  ·have ht:d.t1=some t:=ht
   rw [ht] at c2
   exact c2
 have h4:((ti:Int)<0)=False:=by simp only [eq_iff_iff,iff_false];omega
 have h5:((ti:Int) ≥ 2)=False:=by simp only [eq_iff_iff,iff_false];omega
 have h6:0≤(ti:Int):=by omega
 have h7:(ti:Int)<2:=by omega
 have hK:Hid (keysAt d ti si=sortB ((t.at si).map (·.key))):=by unfold Hid keysAt;rw [ht]
 have hltT:=htab.1.lt
 have hclen:(t.at si).length<1000000:=by
  have:=(tab_perm ht hsi).length_eq
  rw [List.length_append,← hok.count] at this
  omega
 have HD:=Lib.hid h
 unfold ptr
 have hnd:∀ y∈t.at si,y.blk<w.heap.size:=fun y hy => h.lt (.inr (.inr (.inr ⟨y,tab_nodes ht (mem_nodes.2 ⟨_,hsi,hy⟩),rfl⟩)))
 clear ht c0 c1 c2 c3 c4
 ·refine calls_of_wp_marks Tryz.func121 rfl ?_
  simp only [Tryz.ntmps121,List.size_toArray,List.length_cons,List.length_nil,Nat.reduceAdd,Nat.reduceSub,Array.replicate_succ,Array.replicate_zero,List.push_toArray,List.append_toArray,List.nil_append,List.cons_append]
  go_wp2_with (go_at_call 103;refine (chain_any _ _).mono ?_;rintro e w' ⟨rfl,rfl⟩)
  have hbo:Blk ((w.alloc (Obj.cells #[Value.slice none 0 0] 38)).alloc (Obj.cells #[Value.pointer q] 136)) w.heap.size 38 #[.slice none 0 0]:=(Blk.new _ _ _).alloc _
  have hbb:Blk ((w.alloc (Obj.cells #[Value.slice none 0 0] 38)).alloc (Obj.cells #[Value.pointer q] 136)) (w.heap.size+1) 136 #[hd (t.at si)]:=by
   have:=Blk.new (w.alloc (Obj.cells #[Value.slice none 0 0] 38)) 136 #[Value.pointer q]
   rw [HQ.out]
   rwa [World.size_alloc] at this
  have hS:Chg (fun _ => False) w ((w.alloc (Obj.cells #[Value.slice none 0 0] 38)).alloc (Obj.cells #[Value.pointer q] 136)):=((Chg.refl _ _).alloc _).alloc _
  have hsz:((w.alloc (Obj.cells #[Value.slice none 0 0] 38)).alloc (Obj.cells #[Value.pointer q] 136)).heap.size=w.heap.size+2:=by simp
  generalize (w.alloc (Obj.cells #[Value.slice none 0 0] 38)).alloc (Obj.cells #[Value.pointer q] 136)=W0 at hbo hbb hS hsz ⊢
  have hFlt:∀ k,chF (w.heap.size+1) (t.at si) k→k<w.heap.size+2∧k≠w.heap.size:=by
   rintro k (rfl | ⟨y,hy,rfl⟩)
   ·omega
   ·have:=hnd y hy
    omega
  generalize hc:t.at si=c at *
  have hch:chAt W0 c:=by
   rw [← hc]
   exact (htab.2 _ (Tb.at_mem hsi)).chg hS fun _ _ => id
  refine wp_range_it 131 #[ptr (w.heap.size+1)] rfl (enters_of Tryz.func131 (by kernel_rfl) rfl) (chain_spec (w.heap.size+1) c) (fun _ => rfl)
   (BkI w c w.heap.size (w.heap.size+2)) ?_ (fun _ _ => False) (fun _ _ _ h => h.elim) c ?_ ?_ _ (fun l x W K hK => by gi_wp2;exact hK) ?_ ?_ (fun _ _ _ _ h => h.elim)
  ·rintro r W W' ⟨⟨v,pre,h1,h2,h3⟩,h4,h5⟩ hs
   exact ⟨⟨v,pre,h1,h2.stay hs (by omega),h3.stay hs fun g hg h' => by have:=(h3.lt g hg).1;omega⟩,h4.trans' hs fun g hg h' => by omega,Nat.le_trans h5 hs.size⟩
  ·exact ⟨⟨_,[],rfl,hbo,Strs.nil _ _⟩,.of_chg hS,by omega⟩
  ·exact ⟨⟨[],rfl⟩,hbb,hch⟩
  ·rintro l x r W ⟨⟨v,pre,h1,h2,h3⟩,h4,h5⟩ ⟨⟨pre',hpre'⟩,g2,g3⟩ hle
   have hxc:x∈c:=by rw [← hpre'];simp
   obtain ⟨nx,hx⟩:=chAt_mem g3 hxc
   have H1:=Lib.hid h1
   clear hpre' h1 hsz hc hS hbo hbb g2
   obtain ⟨pa,cp,rfl,hcp1,hcp2,hcp3⟩:=h3.is
   simp only [List.length_map] at h2 h3 hcp1
   have k0:=h2.cell 0
   have kf:=h2.frozen 0
   have k1:=hx.cell 1
   simp only [ndCells,List.getElem?_toArray,List.getElem?_cons_zero,List.getElem?_cons_succ] at k0 k1
   have l1:=hx.lt
   have l2:=h2.lt
   obtain ⟨i0,hi0,hz0,hz1,hz2⟩:=info_parts str_info
   have hlen:pre.length<1000000:=by
    have h1:=H1.out
    have:pre.length≤c.length:=by rw [← h1];simp
    omega
   have hlen2:pre.length+1≤maxLen:=by unfold maxLen;omega
   have hlen3:(pre.length+1) * 16≤140737488355328:=by omega
   have hr:Reads (W.alloc (Obj.cells #[Value.string x.key] 9)).drew (W.heap.size+1) 1 (some ⟨W.heap.size,0,none⟩) 1 [Value.string x.key]:=by
    refine ⟨rfl,fun _ => ⟨_,rfl,Nat.lt_succ_self _,fun j u hu => ?_⟩⟩
    have hb:=(Blk.new W 9 #[Value.string x.key]).drew.cell j
    rw [addr_add]
    cases j with
    | zero => exact hb.trans (by simpa using hu)
    | succ j => simp at hu
   have hc1:Chg (fun _ => False) W (W.alloc (Obj.cells #[Value.string x.key] 9)).drew:=((Chg.refl _ W).alloc _).drew
   have hown0:=h3.chg hc1 fun _ _ => id
   unfold Strs at hown0
   rw [List.length_map] at hown0
   have hone:∀ u∈[Value.string x.key],u.oneCell'=true:=by intro u hu;rw [List.mem_singleton] at hu;rw [hu];rfl
   have hM1:w.heap.size+2≤(W.alloc (Obj.cells #[Value.string x.key] 9)).drew.heap.size:=Nat.le_trans h5 hc1.size
   have HL:=Lib.hid hlen
   clear hlen
   unfold ptr
   gi_wp2
   refine wpIn_region_plain (by kernel_rfl) (by kernel_rfl) (by rintro ⟨_,_,h⟩;exact h) ?_
   change wpAny _ _ _ _ _ _ _ (World.drew _)
   simp only [List.size_toArray,List.length_cons,List.length_nil,Nat.reduceAdd,Array.replicate_succ,Array.replicate_zero,List.push_toArray,List.nil_append,List.cons_append]
   repeat' (first
    | (refine wpAny_ready (rs:=[0]) ?_ ?_ ?_;decide +kernel;simp;refine (AllReady.cons rfl (fun K hK => ?_) AllReady.nil);go_simp;refine hK _ _ ?_;clear hK K)
    | (refine wpAny_ready (rs:=[1]) ?_ ?_ ?_;decide +kernel;simp;refine (AllReady.cons rfl (fun K hK => ?_) AllReady.nil);go_simp;refine hK _ _ ?_;clear hK K)
    | (refine wpAny_ready (rs:=[2]) ?_ ?_ ?_;decide +kernel;simp;refine (AllReady.cons rfl (fun K hK => ?_) AllReady.nil);go_simp;refine hK _ _ ?_;clear hK K)
    | (refine wpAny_ready (rs:=[3]) ?_ ?_ ?_;decide +kernel;simp;refine (AllReady.cons rfl (fun K hK => ?_) AllReady.nil);go_simp;refine hK _ _ ?_;clear hK K)
    | (refine wpAny_ready (rs:=[4]) ?_ ?_ ?_;decide +kernel;simp;refine (AllReady.cons rfl (fun K hK => ?_) AllReady.nil);go_simp;refine hK _ _ ?_;clear hK K)
    | (refine wpAny_ready (rs:=[5]) ?_ ?_ ?_;decide +kernel;simp;refine (AllReady.cons rfl (fun K hK => ?_) AllReady.nil);go_simp;refine hK _ _ ?_;clear hK K)
    | (refine wpAny_ready (rs:=[6]) ?_ ?_ ?_;decide +kernel;simp;refine (AllReady.cons rfl (fun K hK => ?_) AllReady.nil);go_simp;refine hK _ _ ?_;clear hK K)
    | (refine wpAny_ready (rs:=[0,1]) ?_ ?_ ?_;decide +kernel;simp;refine (AllReady.cons rfl (fun K hK => ?_) (AllReady.cons rfl (fun K hK => ?_) AllReady.nil)) <;> (go_simp;refine hK _ _ ?_;clear hK K))
    | (refine wpAny_ready (rs:=[0,2]) ?_ ?_ ?_;decide +kernel;simp;refine (AllReady.cons rfl (fun K hK => ?_) (AllReady.cons rfl (fun K hK => ?_) AllReady.nil)) <;> (go_simp;refine hK _ _ ?_;clear hK K))
    | (refine wpAny_ready (rs:=[0,3]) ?_ ?_ ?_;decide +kernel;simp;refine (AllReady.cons rfl (fun K hK => ?_) (AllReady.cons rfl (fun K hK => ?_) AllReady.nil)) <;> (go_simp;refine hK _ _ ?_;clear hK K))
    | (refine wpAny_ready (rs:=[0,4]) ?_ ?_ ?_;decide +kernel;simp;refine (AllReady.cons rfl (fun K hK => ?_) (AllReady.cons rfl (fun K hK => ?_) AllReady.nil)) <;> (go_simp;refine hK _ _ ?_;clear hK K))
    | (refine wpAny_ready (rs:=[0,5]) ?_ ?_ ?_;decide +kernel;simp;refine (AllReady.cons rfl (fun K hK => ?_) (AllReady.cons rfl (fun K hK => ?_) AllReady.nil)) <;> (go_simp;refine hK _ _ ?_;clear hK K))
    | (refine wpAny_ready (rs:=[0,6]) ?_ ?_ ?_;decide +kernel;simp;refine (AllReady.cons rfl (fun K hK => ?_) (AllReady.cons rfl (fun K hK => ?_) AllReady.nil)) <;> (go_simp;refine hK _ _ ?_;clear hK K)))
   all_goals
    refine wpAny_ready (rs:=[7]) ?_ ?_ ?_
    decide +kernel
    simp
    refine (AllReady.cons rfl (fun K hK => ?_) AllReady.nil)
    refine step_append_any _ (by rfl) (.tmp 46) (.tmp 52) 38 (by rfl) (w.heap.size+2) 9 i0 _ 1 16 Tryz.underlying38 hi0 hz0 hz1 hz2 rfl (by omega) (.slice pa pre.length cp) pre.length ((pre.map (·.key)).map Value.string) (by rfl) hown0 (W.heap.size+1) (some ⟨W.heap.size,0,none⟩) 1 1 [Value.string x.key] (by rfl) hr hone hlen2 hlen3 hM1 ?_
    intro v1 w1 hown1 hg1 hat1
    refine hK _ _ ?_
    clear hK K
    obtain ⟨g1,cp1,rfl⟩:=ownsRow_succ hown1
    have a1:=app_chg hown0 hg1
    have a2:=app_keeps hown0 hg1
    have b1:Blk w1 w.heap.size 38 #[.slice pa pre.length cp]:=Blk.chg ((h2.alloc _).drew) a1 (by omega)
    have c1:=b1.cell 0
    have f1:=b1.frozen 0
    have lb:=b1.lt
    simp only [List.getElem?_toArray,List.getElem?_cons_zero] at c1
    refine wpAny_ready (rs:=[8]) ?_ ?_ ?_
    decide +kernel
    simp
    refine AllReady.cons rfl (fun K hK => ?_) AllReady.nil
    go_simp
    refine hK _ _ ?_
    clear hK K
    refine wpAny_done (by kernel_rfl) ?_ _
    have a3:Chg (fun k => k=w.heap.size∨w.heap.size+2≤k) W (w1.setCell ⟨w.heap.size,0,none⟩ (.slice (some ⟨g1,0,none⟩) (pre.length+1) cp1)) :=
    ((hc1.mono fun _ _ h => h.elim).trans' a1 fun _ _ h => .inr h).store (.inl rfl) 0 _
    refine ⟨((KeepsOthers.of_chg0 hc1).trans a2).trans (KeepsOthers.setCell _ _ _),fun k hk => a3.block k (by have:=hFlt k hk;omega) (by have:=hFlt k hk;omega),⟨⟨_,pre++[x],by rw [← H1.out];simp,b1.set 0 _,?_⟩,h4.trans' (.of_chg a3) (fun g hg h' => by omega),Nat.le_trans h5 a3.size⟩⟩
    have e:((pre++[x]).map (·.key)).length=pre.length+1:=by simp
    unfold Strs
    rw [e]
    have:=own_stay (F:=fun k => k=w.heap.size) hown1 (.of_chg ((Chg.refl (fun k => k=w.heap.size) w1).store rfl 0 (.slice (some ⟨g1,0,none⟩) (pre.length+1) cp1))) (fun g hg h' => by have:=(hown1.lt g hg).1;omega)
    simpa using this
  ·rintro D W hD ⟨⟨v,pre,h1,h2,h3⟩,h4,h5⟩ hO hDd
   rw [List.append_nil] at h1
   rw [← h1] at hK hclen
   clear h1
   have hwD:w.heap.size≤D:=Nat.le_trans hS.size hD
   have hC:Chg (fun _ => False) w W:=.of_stay h4 ((KeepsOthers.of_chg0 hS).trans hO)
   have hll:(pre.map (·.key)).length<4611686018427387904:=by rw [List.length_map];omega
   have hsort:=sort_any v (pre.map (·.key)) (w.heap.size+2) W h3 hll
   have k0:=h2.cell 0
   simp only [List.getElem?_toArray,List.getElem?_cons_zero] at k0
   have l0:=h2.lt
   clear hbo hbb hS hsz hch hFlt
   go_wp2_with fail
   refine hsort.mono ?_
   rintro e W1 ⟨rfl,s1,s2⟩
   have b1:Blk W1 w.heap.size 38 #[v]:=(s2.block _ l0 (fun e => by have:=(h3.lt _ e.symm).1;omega)).trans h2
   have d1:W1.heap[D]?=some (.deferred (some [])):=(app_keeps h3 s2).same _ _ hDd rfl
   have C1:Chg (fun _ => False) w W1:=hC.trans' (app_chg h3 s2) fun g hg h' => by omega
   have k1:=b1.cell 0
   simp only [List.getElem?_toArray,List.getElem?_cons_zero] at k1
   clear k0 hsort
   go_wp2_with fail
   refine bodyPostM_ret (D:=D) (v:=.tuple #[v,.int .i64 0]) rfl d1 (by simp [results,Tryz.results121,go_sem]) ⟨⟨v,rfl,?_⟩,?_⟩
   ·rw [hK.out]
    exact (Strs.lower (s1.stay (Stay.put (F:=fun _ => False) d1 rfl _) fun _ _ => id) (by omega))
   ·exact C1.put (by omega) _
end Go.Proofs.YtehpmbmdadkhbaaGreatDoor.Dspaceitem

namespace Go.Proofs.YtehpmbmdadkhbaaGreatDoor.Dspaceitem
open Go.RowKit Pal
attribute [local go_sem] Oper.semAt_some
def tabLen (d:Dm) (ti:Nat):Nat:=((d.tab ti).map Tb.len).getD 0
end Go.Proofs.YtehpmbmdadkhbaaGreatDoor.Dspaceitem

namespace Go.Proofs.YtehpmbmdadkhbaaGreatDoor.Dspaceitem
open Go.RowKit Pal
theorem tab_cases {d:Dm} {ti si:Nat} (h:si<tabLen d ti):∃ t,d.tab ti=some t∧si<t.len:=by
 unfold tabLen at h
 cases ht:d.tab ti with
 | none => rw [ht] at h;cases h
 | some t => rw [ht] at h;exact ⟨t,rfl,h⟩
theorem Bucket_in (d:Dm) (ti si:Nat) (w:World) (h:DmAt w d) (hok:d.Ok) (hti:ti<2) (hsi:si<tabLen d ti) (hn:d.n<1000000) :
  Calls Tryz.prog 121 #[ptr d.blk,.int .i64 (ti:Int),.int .i64 (si:Int)] w fun e w' => (∃ v,e=.returned (.tuple #[v,.int .i64 0])∧Strs w' w.heap.size v (keysAt d ti si))∧Chg (fun _ => False) w w':=by
 obtain ⟨t,ht,hl⟩:=tab_cases hsi
 exact Bucket_yes d ti si t w h hok ht hti hl hn
theorem keysAt_perm {d:Dm} {ti si:Nat} {t:Tb} (h:d.tab ti=some t):(keysAt d ti si).Perm ((t.at si).map (·.key)):=by
 unfold keysAt;rw [h];exact sortB_perm _
theorem flatMap_perm {α β:Type} {f g:α→List β}:∀ (l:List α),(∀ x∈l,(f x).Perm (g x))→(l.flatMap f).Perm (l.flatMap g)
 | [],_ => List.Perm.refl _
 | a :: l,h => by
  rw [List.flatMap_cons,List.flatMap_cons]
  exact (h a (by simp)).append (flatMap_perm l fun x hx => h x (by simp [hx]))
end Go.Proofs.YtehpmbmdadkhbaaGreatDoor.Dspaceitem

namespace Pal
def pos (b c:Nat):Nat:=turn c / 2 ^ (32 - b)
theorem pow32 {b:Nat} (hb:b≤32):(4294967296:Nat)=2 ^ b * 2 ^ (32 - b):=by
 rw [← Nat.pow_add,show b+(32 - b)=32 by omega]
theorem pos_lt {b:Nat} (hb:b≤32) (c:Nat):pos b c<2 ^ b:=by
 unfold pos
 rw [Nat.div_lt_iff_lt_mul Nat.one_le_two_pow,← pow32 hb]
 exact turn_lt c
theorem pos_cur {b k:Nat} (hb:b≤32) (hk:k<2 ^ b):pos b (cur b k)=k:=by
 unfold pos cur;rw [turn_turn _ (mul_lt b k hb hk)];exact Nat.mul_div_cancel _ Nat.one_le_two_pow
theorem mod_cur {b c:Nat} (hb:b≤32) (hc:c<4294967296):c % 2 ^ b=cur b (pos b c):=by
 refine eq32 (Nat.lt_of_le_of_lt (Nat.mod_le _ _) hc) (cur_lt32 _ _) fun i hi => ?_
 unfold cur pos
 rw [Nat.testBit_mod_two_pow,turn_bit _ _ hi,Nat.testBit_mul_two_pow,← Nat.shiftRight_eq_div_pow,Nat.testBit_shiftRight]
 by_cases h:i<b
 ·have e:32 - b+(31 - i - (32 - b))=31 - i:=by omega
  rw [e,turn_bit _ _ (by omega),show 31 - (31 - i)=i by omega]
  simp [h];omega
 ·have:¬ 32 - b≤31 - i:=by omega
  simp [h,this]
theorem pos_down {a b:Nat} (hab:a≤b) (hb:b≤32) (c:Nat):pos a c=pos b c / 2 ^ (b - a):=by
 unfold pos
 rw [Nat.div_div_eq_div_mul,← Nat.pow_add,show 32 - b+(b - a)=32 - a by omega]
def curW (b k:Nat):Nat:=if k=2 ^ b then 0 else cur b k
theorem curW_lt32 (b k:Nat):curW b k<4294967296:=by
 unfold curW;split
 ·omega
 ·exact cur_lt32 _ _
theorem nextD_curW {b:Nat} (hb:b≤32) (c:Nat):nextD c b=curW b (pos b c+1):=by
 have hp:=pos_lt hb c
 unfold nextD curW
 show turn ((pos b c+1) * 2 ^ (32 - b) % 4294967296)=_
 split
 ·rename_i h
  rw [h,← pow32 hb];decide
 ·rename_i h
  rw [Nat.mod_eq_of_lt (mul_lt b _ hb (by omega))];rfl
theorem cur_up {a b:Nat} (hab:a≤b) (hb:b≤32) (q:Nat):cur b (q * 2 ^ (b - a))=cur a q:=by
 unfold cur
 rw [Nat.mul_assoc,← Nat.pow_add,show b - a+(32 - b)=32 - a by omega]
theorem pow_up {a b:Nat} (hab:a≤b):(2:Nat) ^ b=2 ^ a * 2 ^ (b - a):=by
 rw [← Nat.pow_add,show a+(b - a)=b by omega]
theorem curW_up {a b:Nat} (hab:a≤b) (hb:b≤32) (q:Nat):curW b (q * 2 ^ (b - a))=curW a q:=by
 unfold curW
 rw [pow_up hab,cur_up hab hb]
 by_cases h:q=2 ^ a
 ·rw [if_pos (by rw [h]),if_pos h]
 ·rw [if_neg (fun e => h (Nat.eq_of_mul_eq_mul_right Nat.one_le_two_pow e)),if_neg h]
theorem low_cur {a b k:Nat} (hab:a≤b) (hb:b≤32) (hk:k<2 ^ b):cur b k<2 ^ a ↔ k % 2 ^ (b - a)=0:=by
 have h1:=mod_cur (b:=a) (c:=cur b k) (by omega) (cur_lt32 _ _)
 rw [pos_down hab hb,pos_cur hb hk] at h1
 have h2:k / 2 ^ (b - a)<2 ^ a:=by rw [Nat.div_lt_iff_lt_mul Nat.one_le_two_pow,← pow_up hab];exact hk
 have hd:=Nat.div_add_mod k (2 ^ (b - a))
 constructor
 ·intro h
  rw [Nat.mod_eq_of_lt h,← cur_up hab hb] at h1
  have:=cur_inj b hb hk (by rw [pow_up hab];exact Nat.mul_lt_mul_of_pos_right h2 Nat.one_le_two_pow) h1
  rw [Nat.mul_comm] at hd
  omega
 ·intro h
  have e:k=k / 2 ^ (b - a) * 2 ^ (b - a):=by rw [Nat.mul_comm];omega
  rw [e,cur_up hab hb]
  exact cur_lt a _ (by omega) h2
theorem low_curW {a b k:Nat} (hab:a≤b) (hb:b≤32) (hk:k≤2 ^ b):curW b k<2 ^ a ↔ k % 2 ^ (b - a)=0:=by
 unfold curW
 split
 ·rename_i h
  rw [h,pow_up hab]
  exact ⟨fun _ => Nat.mul_mod_left _ _,fun _ => Nat.one_le_two_pow⟩
 ·rename_i h
  exact low_cur hab hb (by omega)
theorem curW_lt {b k:Nat} (hb:b≤32) (hk:k≤2 ^ b):curW b k<2 ^ b:=by
 unfold curW;split
 ·exact Nat.one_le_two_pow
 ·rename_i h;exact cur_lt b k hb (by omega)
theorem pos_curW {b k:Nat} (hb:b≤32) (hk:k<2 ^ b):pos b (curW b k)=k:=by
 unfold curW;rw [if_neg (by omega)];exact pos_cur hb hk
def slotsM (b k m:Nat):List (Nat × Nat):=(List.range m).map fun j => (cur b (k+j),curW b (k+j+1))
def slotsP (a b k:Nat):List (Nat × Nat):=slotsM b k (2 ^ (b - a) - k % 2 ^ (b - a))
theorem range_map_succ {α:Type} (f:Nat→α) (k m:Nat):(List.range (m+1)).map (fun j => f (k+j))=f k :: (List.range m).map fun j => f (k+1+j):=by
 rw [List.range_succ_eq_map,List.map_cons,List.map_map,Nat.add_zero]
 congr 1
 apply List.map_congr_left
 intro j _
 show f (k+(j+1))=f (k+1+j)
 rw [show k+(j+1)=k+1+j by omega]
theorem slotsM_succ (b k m:Nat):slotsM b k (m+1)=(cur b k,curW b (k+1)) :: slotsM b (k+1) m :=
 range_map_succ (fun i => (cur b i,curW b (i+1))) k m
theorem slotsP_cons (a b k:Nat):slotsP a b k=(cur b k,curW b (k+1)) :: if (k+1) % 2 ^ (b - a)=0 then [] else slotsP a b (k+1):=by
 have h1:0<2 ^ (b - a):=Nat.one_le_two_pow
 unfold slotsP
 generalize 2 ^ (b - a)=D at *
 have h2:=Nat.mod_lt k h1
 obtain ⟨m,hm⟩:∃ m,D - k % D=m+1:=⟨D - k % D - 1,by omega⟩
 rw [hm,slotsM_succ]
 congr 1
 by_cases hz:k % D+1=D
 ·have hm0:m=0:=by omega
  have:(k+1) % D=0:=by
    rw [Nat.add_mod,show k % D+1 % D=k % D+1 % D from rfl]
    rcases Nat.lt_or_ge 1 D with h | h
    ·rw [Nat.mod_eq_of_lt h,hz];simp
    ·have:D=1:=by omega
     subst this;simp [Nat.mod_one]
  rw [if_pos this,hm0];rfl
 ·have hlt:1<D:=by omega
  have:(k+1) % D=k % D+1:=by rw [Nat.add_mod,Nat.mod_eq_of_lt hlt,Nat.mod_eq_of_lt (by omega)]
  rw [if_neg (by omega),this]
  congr 1
  omega
theorem slotsM_last (b:Nat):∀ (m k u:Nat),(slotsM b k (m+1)).foldl (fun _ x => x.2) u=curW b (k+m+1)
 | 0,k,u => rfl
 | m+1,k,u => by
  rw [slotsM_succ,List.foldl_cons,slotsM_last b m (k+1) _,show k+1+m+1=k+(m+1)+1 by omega]
theorem slotsP_last {a b:Nat} (hab:a≤b) (hb:b≤32) (c u:Nat):(slotsP a b (pos b c)).foldl (fun _ x => x.2) u=curW a (pos a c+1):=by
 have h1:0<2 ^ (b - a):=Nat.one_le_two_pow
 have hd:=Nat.div_add_mod (pos b c) (2 ^ (b - a))
 have hm:=Nat.mod_lt (pos b c) h1
 unfold slotsP
 obtain ⟨m,hm'⟩:∃ m,2 ^ (b - a) - pos b c % 2 ^ (b - a)=m+1:=⟨2 ^ (b - a) - pos b c % 2 ^ (b - a) - 1,by omega⟩
 rw [hm',slotsM_last,pos_down hab hb,← curW_up hab hb,Nat.add_mul,Nat.one_mul,Nat.mul_comm (pos b c / _)]
 congr 1
 omega
theorem slotsP_mem {a b k:Nat} (hab:a≤b) (hb:b≤32) (hk:k<2 ^ b) {x:Nat × Nat} (hx:x∈slotsP a b k):x.1<2 ^ b∧x.2<4294967296:=by
 unfold slotsP slotsM at hx
 obtain ⟨j,hj,rfl⟩:=List.mem_map.1 hx
 rw [List.mem_range] at hj
 refine ⟨cur_lt b _ hb ?_,curW_lt32 _ _⟩
 have h1:0<2 ^ (b - a):=Nat.one_le_two_pow
 have hd:=Nat.div_add_mod k (2 ^ (b - a))
 have h2:k / 2 ^ (b - a)<2 ^ a:=by rw [Nat.div_lt_iff_lt_mul h1,← pow_up hab];exact hk
 have h3:(k / 2 ^ (b - a)+1) * 2 ^ (b - a)≤2 ^ a * 2 ^ (b - a):=Nat.mul_le_mul_right _ h2
 rw [← pow_up hab,Nat.add_mul,Nat.one_mul,Nat.mul_comm] at h3
 omega
theorem slotsP_length (a b k:Nat):(slotsP a b k).length≤2 ^ b:=by
 unfold slotsP slotsM
 rw [List.length_map,List.length_range]
 exact Nat.le_trans (Nat.sub_le _ _) (Nat.pow_le_pow_right (by omega) (Nat.sub_le _ _))
end Pal

namespace Go.Proofs.YtehpmbmdadkhbaaGreatDoor
open Go.RowKit Pal
theorem bit_within {a b:Nat} (hab:a≤b) (i:Nat):(2 ^ b - 2 ^ a).testBit i=(decide (a≤i) && decide (i<b)):=by
 have e:2 ^ b - 2 ^ a=2 ^ a * (2 ^ (b - a) - 1):=by
  rw [Nat.mul_sub,← pow_up hab];omega
 rw [e,Nat.mul_comm,Nat.testBit_mul_two_pow,Nat.testBit_two_pow_sub_one]
 by_cases h:a≤i
 ·by_cases h2:i<b
  ·have:i - a<b - a:=by omega
   simp [h,h2,this]
  ·have:¬ i - a<b - a:=by omega
   simp [h2,this]
 ·simp [h]
theorem and_within {a b c:Nat} (hab:a≤b):c &&& (2 ^ b - 2 ^ a)=c % 2 ^ b / 2 ^ a * 2 ^ a:=by
 apply Nat.eq_of_testBit_eq
 intro i
 rw [Nat.testBit_and,bit_within hab,Nat.testBit_mul_two_pow,← Nat.shiftRight_eq_div_pow,Nat.testBit_shiftRight,Nat.testBit_mod_two_pow]
 by_cases h:a≤i
 ·rw [show a+(i - a)=i by omega]
  by_cases h2:i<b <;> simp [h,h2]
 ·simp [h]
theorem within_zero {a b c:Nat} (hab:a≤b):(c &&& (2 ^ b - 2 ^ a)=0) ↔ c % 2 ^ b<2 ^ a:=by
 rw [and_within hab]
 have h1:0<2 ^ a:=Nat.one_le_two_pow
 constructor
 ·intro h
  rcases Nat.mul_eq_zero.1 h with h | h
  ·exact (Nat.div_eq_zero_iff_lt h1).1 h
  ·omega
 ·intro h
  rw [(Nat.div_eq_zero_iff_lt h1).2 h,Nat.zero_mul]
theorem andNot_mask {a b:Nat} (hab:a≤b) (hb:b≤16):bits BinOp.andNot IntKind.u32 ((2 ^ b - 1:Nat):Int) ((2 ^ a - 1:Nat):Int)=((2 ^ b - 2 ^ a:Nat):Int):=by
 have hp:(2:Nat) ^ b≤2 ^ 16:=pow_mono hb
 have hpa:(2:Nat) ^ a≤2 ^ b:=pow_mono hab
 have h1:1≤2 ^ a:=Nat.one_le_two_pow
 show IntKind.u32.wrap ((BitVec.ofInt 32 ((2 ^ b - 1:Nat):Int) &&& ~~~ BitVec.ofInt 32 ((2 ^ a - 1:Nat):Int)).toNat:Int)=_
 rw [BitVec.toNat_and,BitVec.toNat_not,ofInt_u32 _ (by omega),ofInt_u32 _ (by omega),IntKind.wrap_u32']
 have e:(2 ^ b - 1) &&& (2 ^ 32 - 1 - (2 ^ a - 1))=2 ^ b - 2 ^ a:=by
  apply Nat.eq_of_testBit_eq
  intro i
  rw [Nat.testBit_and,Nat.testBit_two_pow_sub_one,bit_within hab]
  by_cases hi:i<32
  ·rw [show 2 ^ 32 - 1 - (2 ^ a - 1)=4294967295 - (2 ^ a - 1) from rfl,bit_high a i (by omega) hi,Bool.and_comm]
  ·have:¬ i<b:=by omega
   simp [this]
 rw [e]
 omega
theorem withinC_any (a b:Nat) (s g:Int) (w:World) (hab:a≤b) (hb:b≤16) (hs:s=((2 ^ a:Nat):Int)) (hg:g=((2 ^ b:Nat):Int)) :
  Calls Tryz.prog 124 #[.int .i64 s,.int .i64 g] w fun e w' => e=.returned (.int .u32 ((2 ^ b - 2 ^ a:Nat):Int))∧w=w':=by
 have hp:(2:Nat) ^ b≤2 ^ 16:=pow_mono hb
 have hpa:(2:Nat) ^ a≤2 ^ b:=pow_mono hab
 have h1:1≤2 ^ a:=Nat.one_le_two_pow
 have s1:1≤s:=by omega
 have s2:s≤65536:=by omega
 have g1:1≤g:=by omega
 have g2:g≤65536:=by omega
 have hm:=fun w => mask_any s w s1 s2
 have hm2:=fun w => mask_any g w g1 g2
 have H:Hid (bits BinOp.andNot IntKind.u32 (g - 1) (s - 1)=((2 ^ b - 2 ^ a:Nat):Int)):=by
  show _=_
  have e1:g - 1=((2 ^ b - 1:Nat):Int):=by omega
  have e2:s - 1=((2 ^ a - 1:Nat):Int):=by omega
  rw [e1,e2]
  exact andNot_mask hab hb
 clear hs hg
 go_enter Tryz.func124,Tryz.ntmps124
 go_wp2_with fail
 refine (hm2 _).mono ?_
 rintro e w' ⟨rfl,rfl⟩
 go_wp2_with fail
 refine (hm _).mono ?_
 rintro e w' ⟨rfl,rfl⟩
 go_wp2_with fail
 go_ret
 exact ⟨by rw [← H.out];rfl,rfl⟩
end Go.Proofs.YtehpmbmdadkhbaaGreatDoor

namespace Go.Proofs.YtehpmbmdadkhbaaGreatDoor.Dspaceitem
open Go.RowKit Pal
attribute [local go_sem] Oper.semAt_some
set_option maxRecDepth 100000 in
set_option maxHeartbeats 1000000 in
theorem gathered_any (d:Dm) (ti si B:Nat) (w:World) (h:DmAt w d) (hok:d.Ok) (hti:ti<2) (hsi:si<tabLen d ti) (hn:d.n<1000000) (hB:w.cell? ⟨B,0,none⟩=some (.int .i64 (si:Int))) (hBl:B<w.heap.size) :
  Calls Tryz.prog 88 #[ptr d.blk,.int .i64 (ti:Int),.slice (some ⟨B,0,none⟩) 1 1] w fun e w' => (∃ v,e=.returned v∧Strs w' w.heap.size v (keysAt d ti si))∧Chg (fun _ => False) w w':=by
 obtain ⟨i0,hi0,hz0,hz1,hz2⟩:=info_parts str_info
 have hb:=fun W (hC:Chg (fun _ => False) w W) => Bucket_in d ti si W (h.chg0 hC) hok hti hsi hn
 have hlen:(keysAt d ti si).length≤d.n:=by
  obtain ⟨t,ht,hl⟩:=tab_cases hsi
  rw [(keysAt_perm ht).length_eq,List.length_map,hok.count]
  have:=(tab_perm ht hl).length_eq
  rw [List.length_append] at this
  omega
 generalize keysAt d ti si=ks at *
 unfold ptr at *
 go_enter Tryz.func88,Tryz.ntmps88
 go_wp2_with fail
 go_loopw [7,14] (fun v i wr => ∃ k:Nat,k≤1∧i=.int .i64 k∧Strs wr w.heap.size v (if k=0 then [] else ks)∧Chg (fun _ => False) w wr) (fun _ i _ => 1 - (intOf i).toNat)
 case atStart => exact ⟨0,Nat.zero_le _,rfl,Strs.nil _ _,Chg.refl _ _⟩
 case round =>
  obtain ⟨k,hk,rfl,hv,hC⟩:=hrel
  by_cases hlt:k=0
  ·subst hlt
   have hcB:wr.cell? ⟨B,0,none⟩=some (.int .i64 (si:Int)):=by
    rw [World.cell?_of_block (hC.block B hBl id)];exact hB
   have hb:=hb _ hC
   simp only [if_true] at hv
   go_wp2_with fail
   refine hb.mono ?_
   rintro e W2 ⟨⟨v2,rfl,hs2⟩,hC2⟩
   have hv2:=hv.chg hC2 (fun _ _ => id)
   obtain ⟨pa,ca,rfl,hpa⟩:=hs2.is
   have hA:([]:List ByteArray).length+ks.length≤maxLen:=by unfold maxLen;simp;omega
   have hBB:(([]:List ByteArray).length+ks.length) * 16≤140737488355328:=by simp;omega
   have hD:w.heap.size≤W2.heap.size:=Nat.le_trans hC.size hC2.size
   clear hb
   go_wp2_with (at_builtin;refine wpList_append_any _ rfl (.tmp 25) (.tmp 26) 38 rfl w.heap.size 9 i0 _ 1 16 Tryz.underlying38 hi0 hz0 hz1 hz2 rfl (by omega) _ _ _ rfl hv2.own W2.heap.size pa _ ca _ rfl hs2.reads (strs_one _) hA hBB hD ?_;intro v3 w3 hown3 hg3 hat3)
   go_roundw
   case rel => exact ⟨1,by omega,by go_num,Strs.mk hown3 (by simp) (by simp),(hC.trans hC2).trans' (app_chg hv2 hg3) fun g hg h' => by omega⟩
   case measure => simp [intOf]
  ·have hk1:k=1:=by omega
   subst hk1
   go_wp2_with fail
   go_ret
   exact ⟨⟨_,rfl,by simpa using hv⟩,hC⟩
theorem slots_any (c:Nat) (s g:Int) (w:World) :
  Calls Tryz.prog 91 #[.int .u32 (c:Int),.int .i64 s,.int .i64 g] w fun e w' => e=.returned (.func (.func 123) #[] #[.pointer (some ⟨w.heap.size,0,none⟩),.pointer (some ⟨w.heap.size+2,0,none⟩),.pointer (some ⟨w.heap.size+1,0,none⟩)]) ∧
   ((w.alloc (.cells #[.int .u32 (c:Int)] 24)).alloc (.cells #[.int .i64 s] 3)).alloc (.cells #[.int .i64 g] 3)=w':=by
 go_enter Tryz.func91,Tryz.ntmps91
 go_wp2
 go_ret
 exact ⟨rfl,rfl⟩
end Go.Proofs.YtehpmbmdadkhbaaGreatDoor.Dspaceitem

namespace Go.Proofs.YtehpmbmdadkhbaaGreatDoor.Dspaceitem
open Go.RowKit Pal
attribute [local go_sem] Oper.semAt_some
def slF (B1 Bg Bs:Nat) (k:Nat):Prop:=k=B1∨k=Bg∨k=Bs
structure slB (B1 Bg Bs:Nat) (s g:Int) (u:Nat) (W:World):Prop where
 b1:Blk W B1 24 #[.int .u32 (u:Int)]
 bg:Blk W Bg 3 #[.int .i64 g]
 bs:Blk W Bs 3 #[.int .i64 s]
def slIt0 (a b B1 Bg Bs:Nat) (s g:Int) (r:List (Nat × Nat)) (W:World):Prop:=∃ u,u<4294967296∧slB B1 Bg Bs s g u W∧r=slotsP a b (pos b u)
def slIt (B1 Bg Bs:Nat) (s g:Int) (_:List (Nat × Nat)) (W:World):Prop:=∃ u,slB B1 Bg Bs s g u W
theorem slB.far {B1 Bg Bs u:Nat} {s g:Int} {W W':World} (h:slB B1 Bg Bs s g u W) (hF:∀ k,slF B1 Bg Bs k→W'.heap[k]?=W.heap[k]?):slB B1 Bg Bs s g u W' :=
 ⟨(hF _ (.inl rfl)).trans h.b1,(hF _ (.inr (.inl rfl))).trans h.bg,(hF _ (.inr (.inr rfl))).trans h.bs⟩
def slEnc (x:Nat × Nat):Array Value:=#[.int .i64 (x.1:Int),.int .u32 (x.2:Int)]
set_option maxRecDepth 100000 in
set_option maxHeartbeats 2000000 in
theorem slots_spec (a b B1 Bg Bs:Nat) (s g:Int) (hab:a≤b) (hb:b≤16) (hs:s=((2 ^ a:Nat):Int)) (hg:g=((2 ^ b:Nat):Int)) (n1:B1≠Bg) (n2:B1≠Bs) :
  IterSpec Tryz.prog 123 #[.pointer (some ⟨B1,0,none⟩),.pointer (some ⟨Bg,0,none⟩),.pointer (some ⟨Bs,0,none⟩)] slEnc (slF B1 Bg Bs) (fun k => k=B1) (slIt0 a b B1 Bg Bs s g) (slIt B1 Bg Bs s g) where
 cells:=by
  rintro r W k ⟨u,_,h,_⟩ (rfl | rfl | rfl)
  ·exact ⟨_,_,_,h.b1⟩
  ·exact ⟨_,_,_,h.bg⟩
  ·exact ⟨_,_,_,h.bs⟩
 sub:=fun _ h => .inl h
 far0:=by
  rintro r W W' ⟨u,h1,h2,h3⟩ _ hF
  exact ⟨u,h1,h2.far hF,h3⟩
 far:=by
  rintro r W W' ⟨u,h⟩ _ hF
  exact ⟨u,h.far hF⟩
 call:=by
  intro l I Ix hI hIx hY c0 W h0 hit0
  have hp:(2:Nat) ^ b≤2 ^ 16:=pow_mono hb
  have h1p:1≤2 ^ b:=Nat.one_le_two_pow
  have hg1:1≤g:=by omega
  have hg2:g≤65536:=by omega
  have hmask:=fun w => mask_any g w hg1 hg2
  have hnext:=fun c w (hc:c<4294967296) => next_any c b g w hg hc hb
  have hwithin:=fun w => withinC_any a b s g w hab hb hs hg
  refine (callsIn_wide (n:=3)).1 ?_
  refine callsIn_of_wp Tryz.func123 rfl trivial ?_ rfl
  simp only [Tryz.ntmps123,List.size_toArray,List.length_cons,List.length_nil,Nat.reduceAdd,Nat.reduceSub,Array.replicate_succ,Array.replicate_zero,List.push_toArray,List.append_toArray,List.nil_append,List.cons_append]
  gi_wp2
  gi_loopw [5] (fun _ wr => ∃ n,∃ r:List (Nat × Nat),r.length=n∧I r wr∧slIt0 a b B1 Bg Bs s g r wr) (fun _ wr => leastOf fun n => ∃ r:List (Nat × Nat),r.length=n∧I r wr∧slIt0 a b B1 Bg Bs s g r wr)
  case atStart => exact ⟨_,c0,rfl,h0,hit0⟩
  case round =>
   obtain ⟨⟨r,hr,hJr,u,hu,hB,hru⟩,_⟩:=leastOf_spec hrel
   have HR:=Lib.hid hr
   have HRU:=Lib.hid hru
   have c1:=hB.b1.cell 0
   have cg:=hB.bg.cell 0
   have cs:=hB.bs.cell 0
   have f1:=hB.b1.frozen 0
   simp only [List.getElem?_toArray,List.getElem?_cons_zero] at c1 cg cs
   have l1:=hB.b1.lt
   have lg:=hB.bg.lt
   have ls:=hB.bs.lt
   have hat:Hid (wrap64 (bits BinOp.and IntKind.u32 (u:Int) (g - 1))=((cur b (pos b u):Nat):Int)):=by
    show _=_
    rw [hg,slot_bits u b hu hb,mod_cur (by omega) hu]
    have:=cur_lt b (pos b u) (by omega) (pos_lt (by omega) u)
    exact IntWalk.wrap64_in _ ⟨by omega,by omega⟩
   have hnx:Hid (nextD u b=curW b (pos b u+1)):=nextD_curW (by omega) u
   clear hr hrel hru hs hg
   gi_wp2
   refine wpIn_wide.2 ?_
   go_quiet ((go_at_call 89;exact Calls.quiet_of_same ((hmask _).mono fun _ _ hh => ⟨hh.1,hh.2.symm⟩)))
   have hdr:Chg (fun _ => False) wr (wr.drewN nq):=(Chg.refl _ wr).drewN nq
   have hB1:=hB.b1.chg hdr id
   gi_wp2_with fail
   refine ⟨trivial,?_⟩
   refine (callsIn_wide.2 (hnext u _ hu)).mono ?_
   rintro e w' ⟨rfl,rfl⟩
   gi_wp2_with fail
   rw [hat.out,hnx.out]
   have hk1:pos b u<2 ^ b:=pos_lt (by omega) u
   generalize hk:pos b u=k at *
   have hst:Chg (fun j => j=B1) (wr.drewN nq) ((wr.drewN nq).setCell ⟨B1,0,none⟩ (.int .u32 (curW b (k+1):Int))):=(Chg.refl (fun j => j=B1) _).store rfl 0 _
   have hJ1:I r ((wr.drewN nq).setCell ⟨B1,0,none⟩ (.int .u32 (curW b (k+1):Int))):=hI _ _ _ (hI _ _ _ hJr (hdr.mono fun _ _ h => h.elim)) hst
   have hB2:slB B1 Bg Bs s g (curW b (k+1)) ((wr.drewN nq).setCell ⟨B1,0,none⟩ (.int .u32 (curW b (k+1):Int))) :=
    ⟨hB1.set 0 _,(hB.bg.chg hdr id).chg hst (fun h => n1 h.symm),(hB.bs.chg hdr id).chg hst (fun h => n2 h.symm)⟩
   generalize (wr.drewN nq).setCell ⟨B1,0,none⟩ (.int .u32 (curW b (k+1):Int))=W1 at hst hJ1 hB2 ⊢
   clear c1 cg cs f1 l1 lg ls hB1 hB hJr hat hnx hu
   have hru:=HRU.out
   rw [slotsP_cons] at hru
   have hkk:=low_curW hab (by omega:b≤32) (show k+1≤2 ^ b by omega)
   have hpu:¬ (k+1) % 2 ^ (b - a)=0→pos b (curW b (k+1))=k+1:=fun hz => by
    refine pos_curW (by omega) ?_
    rcases Nat.lt_or_ge (k+1) (2 ^ b) with h' | h'
    ·exact h'
    ·have e:k+1=2 ^ b:=by omega
     rw [e,pow_up hab,Nat.mul_mod_left] at hz
     exact absurd rfl hz
   have hwz:=within_zero (a:=a) (b:=b) (c:=curW b (k+1)) hab
   rw [Nat.mod_eq_of_lt (curW_lt (by omega) (by omega)),hkk] at hwz
   have hba:Hid (bits BinOp.and IntKind.u32 (curW b (k+1):Int) ((2 ^ b - 2 ^ a:Nat):Int)=((curW b (k+1) &&& (2 ^ b - 2 ^ a):Nat):Int)):=u32_and_nat _ _ (curW_lt32 _ _) (Nat.lt_of_le_of_lt (Nat.sub_le _ _) (by omega))
   obtain ⟨rest,hrest⟩:∃ rest,(if (k+1) % 2 ^ (b - a)=0 then [] else slotsP a b (k+1))=rest:=⟨_,rfl⟩
   rw [hrest] at hru
   have HREST:=Lib.hid hrest
   have HRU2:=Lib.hid hru
   rw [hru] at hJ1
   have hIt1:slIt B1 Bg Bs s g ((cur b k,curW b (k+1)) :: rest) W1.drew:=⟨_,hB2.b1,hB2.bg,hB2.bs⟩
   have hJd:I ((cur b k,curW b (k+1)) :: rest) W1.drew:=hI _ _ _ hJ1 ((Chg.refl _ W1).drew)
   obtain ⟨fn,tmps,assign,body,hy,hR⟩:=hY _ _ _ hJd hIt1
   have hu':curW b (k+1)<4294967296:=curW_lt32 _ _
   have hlb:curW b (k+1)<2 ^ b:=curW_lt (by omega) (by omega)
   generalize hq:curW b (k+1)=u' at *
   generalize cur b k=at' at *
   have d1:=hB2.b1.drew.cell 0
   simp only [List.getElem?_toArray,List.getElem?_cons_zero] at d1
   simp only [slEnc] at hy
   clear hru hrest hk hk1 hst hdr hJd hIt1 hJ1
   refine wpIn_region_any (by kernel_rfl) ?_
   change wpAnyIn _ _ _ _ _ _ _ _ _ (World.drew _)
   simp only [List.size_toArray,List.length_cons,List.length_nil,Nat.reduceAdd,Array.replicate_succ,Array.replicate_zero,List.push_toArray,List.nil_append,List.cons_append]
   refine wpAnyIn_take (i:=0) (v:=.func (.yield l) #[] #[]) rfl rfl (by kernel_rfl) (by kernel_rfl) (by kernel_rfl) (fun _ _ _ h => h) ⟨Or.inl ⟨by rfl,?_⟩,fun _ => rfl⟩ ?_
   ·intro w;go_simp
   refine wpAnyIn_take (i:=1) (v:=.int .i64 (at':Int)) rfl rfl (by kernel_rfl) (by kernel_rfl) (by kernel_rfl) (fun _ _ _ h => h) ⟨Or.inl ⟨by rfl,?_⟩,fun _ => rfl⟩ ?_
   ·intro w;go_simp
   refine wpAnyIn_ready (rs:=[2]) (by kernel_rfl) (by simp) (AllReadyIn.cons rfl (fun K hK => ?_) AllReadyIn.nil)
   go_simp
   refine hK _ _ ?_
   clear hK K
   refine wpAnyIn_ready (rs:=[3]) (by kernel_rfl) (by simp) (AllReadyIn.cons rfl (fun K hK => ?_) AllReadyIn.nil)
   go_simp
   refine hR.mono ?_
   rintro e W3 ⟨hsz,hF,⟨rfl,hJ3⟩ | ⟨rfl,hx3⟩⟩
   ·refine hK _ _ ?_
    clear hK K
    have hB3:=hB2.far (W':=W3) (fun k hk => hF k hk)
    have e1:=hB3.b1.cell 0
    have eg:=hB3.bg.cell 0
    have es:=hB3.bs.cell 0
    simp only [List.getElem?_toArray,List.getElem?_cons_zero] at e1 eg es
    repeat' (first
     | (refine wpAnyIn_done ?_ ?_ _;decide +kernel)
     | (refine wpAnyIn_ready (rs:=[4]) ?_ ?_ ?_;decide +kernel;simp;refine (AllReadyIn.cons rfl (fun K hK => ?_) AllReadyIn.nil) <;> (go_simp;first | (refine hK _ _ ?_;clear hK K) | (refine ⟨trivial,?_⟩;refine hK _ _ ?_;clear hK K) | (refine ⟨trivial,?_⟩;refine (callsIn_wide.2 (hwithin _)).mono ?_;rintro e w' ⟨rfl,rfl⟩;refine hK _ _ ?_;clear hK K)))
     | (refine wpAnyIn_ready (rs:=[5]) ?_ ?_ ?_;decide +kernel;simp;refine (AllReadyIn.cons rfl (fun K hK => ?_) AllReadyIn.nil) <;> (go_simp;first | (refine hK _ _ ?_;clear hK K) | (refine ⟨trivial,?_⟩;refine hK _ _ ?_;clear hK K) | (refine ⟨trivial,?_⟩;refine (callsIn_wide.2 (hwithin _)).mono ?_;rintro e w' ⟨rfl,rfl⟩;refine hK _ _ ?_;clear hK K)))
     | (refine wpAnyIn_ready (rs:=[6,7,8]) ?_ ?_ ?_;decide +kernel;simp;refine (AllReadyIn.cons rfl (fun K hK => ?_) (AllReadyIn.cons rfl (fun K hK => ?_) (AllReadyIn.cons rfl (fun K hK => ?_) AllReadyIn.nil))) <;> (go_simp;first | (refine hK _ _ ?_;clear hK K) | (refine ⟨trivial,?_⟩;refine hK _ _ ?_;clear hK K) | (refine ⟨trivial,?_⟩;refine (callsIn_wide.2 (hwithin _)).mono ?_;rintro e w' ⟨rfl,rfl⟩;refine hK _ _ ?_;clear hK K)))
     | (refine wpAnyIn_ready (rs:=[7,8]) ?_ ?_ ?_;decide +kernel;simp;refine (AllReadyIn.cons rfl (fun K hK => ?_) (AllReadyIn.cons rfl (fun K hK => ?_) AllReadyIn.nil)) <;> (go_simp;first | (refine hK _ _ ?_;clear hK K) | (refine ⟨trivial,?_⟩;refine hK _ _ ?_;clear hK K) | (refine ⟨trivial,?_⟩;refine (callsIn_wide.2 (hwithin _)).mono ?_;rintro e w' ⟨rfl,rfl⟩;refine hK _ _ ?_;clear hK K)))
     | (refine wpAnyIn_ready (rs:=[6,8]) ?_ ?_ ?_;decide +kernel;simp;refine (AllReadyIn.cons rfl (fun K hK => ?_) (AllReadyIn.cons rfl (fun K hK => ?_) AllReadyIn.nil)) <;> (go_simp;first | (refine hK _ _ ?_;clear hK K) | (refine ⟨trivial,?_⟩;refine hK _ _ ?_;clear hK K) | (refine ⟨trivial,?_⟩;refine (callsIn_wide.2 (hwithin _)).mono ?_;rintro e w' ⟨rfl,rfl⟩;refine hK _ _ ?_;clear hK K)))
     | (refine wpAnyIn_ready (rs:=[6,7]) ?_ ?_ ?_;decide +kernel;simp;refine (AllReadyIn.cons rfl (fun K hK => ?_) (AllReadyIn.cons rfl (fun K hK => ?_) AllReadyIn.nil)) <;> (go_simp;first | (refine hK _ _ ?_;clear hK K) | (refine ⟨trivial,?_⟩;refine hK _ _ ?_;clear hK K) | (refine ⟨trivial,?_⟩;refine (callsIn_wide.2 (hwithin _)).mono ?_;rintro e w' ⟨rfl,rfl⟩;refine hK _ _ ?_;clear hK K)))
     | (refine wpAnyIn_ready (rs:=[6,9]) ?_ ?_ ?_;decide +kernel;simp;refine (AllReadyIn.cons rfl (fun K hK => ?_) (AllReadyIn.cons rfl (fun K hK => ?_) AllReadyIn.nil)) <;> (go_simp;first | (refine hK _ _ ?_;clear hK K) | (refine ⟨trivial,?_⟩;refine hK _ _ ?_;clear hK K) | (refine ⟨trivial,?_⟩;refine (callsIn_wide.2 (hwithin _)).mono ?_;rintro e w' ⟨rfl,rfl⟩;refine hK _ _ ?_;clear hK K)))
     | (refine wpAnyIn_ready (rs:=[6]) ?_ ?_ ?_;decide +kernel;simp;refine (AllReadyIn.cons rfl (fun K hK => ?_) AllReadyIn.nil) <;> (go_simp;first | (refine hK _ _ ?_;clear hK K) | (refine ⟨trivial,?_⟩;refine hK _ _ ?_;clear hK K) | (refine ⟨trivial,?_⟩;refine (callsIn_wide.2 (hwithin _)).mono ?_;rintro e w' ⟨rfl,rfl⟩;refine hK _ _ ?_;clear hK K)))
     | (refine wpAnyIn_ready (rs:=[7]) ?_ ?_ ?_;decide +kernel;simp;refine (AllReadyIn.cons rfl (fun K hK => ?_) AllReadyIn.nil) <;> (go_simp;first | (refine hK _ _ ?_;clear hK K) | (refine ⟨trivial,?_⟩;refine hK _ _ ?_;clear hK K) | (refine ⟨trivial,?_⟩;refine (callsIn_wide.2 (hwithin _)).mono ?_;rintro e w' ⟨rfl,rfl⟩;refine hK _ _ ?_;clear hK K)))
     | (refine wpAnyIn_ready (rs:=[8]) ?_ ?_ ?_;decide +kernel;simp;refine (AllReadyIn.cons rfl (fun K hK => ?_) AllReadyIn.nil) <;> (go_simp;first | (refine hK _ _ ?_;clear hK K) | (refine ⟨trivial,?_⟩;refine hK _ _ ?_;clear hK K) | (refine ⟨trivial,?_⟩;refine (callsIn_wide.2 (hwithin _)).mono ?_;rintro e w' ⟨rfl,rfl⟩;refine hK _ _ ?_;clear hK K)))
     | (refine wpAnyIn_ready (rs:=[9]) ?_ ?_ ?_;decide +kernel;simp;refine (AllReadyIn.cons rfl (fun K hK => ?_) AllReadyIn.nil) <;> (go_simp;first | (refine hK _ _ ?_;clear hK K) | (refine ⟨trivial,?_⟩;refine hK _ _ ?_;clear hK K) | (refine ⟨trivial,?_⟩;refine (callsIn_wide.2 (hwithin _)).mono ?_;rintro e w' ⟨rfl,rfl⟩;refine hK _ _ ?_;clear hK K)))
     | (refine wpAnyIn_ready (rs:=[10]) ?_ ?_ ?_;decide +kernel;simp;refine (AllReadyIn.cons rfl (fun K hK => ?_) AllReadyIn.nil) <;> (go_simp;first | (refine hK _ _ ?_;clear hK K) | (refine ⟨trivial,?_⟩;refine hK _ _ ?_;clear hK K) | (refine ⟨trivial,?_⟩;refine (callsIn_wide.2 (hwithin _)).mono ?_;rintro e w' ⟨rfl,rfl⟩;refine hK _ _ ?_;clear hK K)))
     | (refine wpAnyIn_ready (rs:=[11]) ?_ ?_ ?_;decide +kernel;simp;refine (AllReadyIn.cons rfl (fun K hK => ?_) AllReadyIn.nil) <;> (go_simp;first | (refine hK _ _ ?_;clear hK K) | (refine ⟨trivial,?_⟩;refine hK _ _ ?_;clear hK K) | (refine ⟨trivial,?_⟩;refine (callsIn_wide.2 (hwithin _)).mono ?_;rintro e w' ⟨rfl,rfl⟩;refine hK _ _ ?_;clear hK K)))
     | (refine wpAnyIn_ready (rs:=[12]) ?_ ?_ ?_;decide +kernel;simp;refine (AllReadyIn.cons rfl (fun K hK => ?_) AllReadyIn.nil) <;> (go_simp;first | (refine hK _ _ ?_;clear hK K) | (refine ⟨trivial,?_⟩;refine hK _ _ ?_;clear hK K) | (refine ⟨trivial,?_⟩;refine (callsIn_wide.2 (hwithin _)).mono ?_;rintro e w' ⟨rfl,rfl⟩;refine hK _ _ ?_;clear hK K))))
    all_goals
     rw [hba.out]
     by_cases hz:(k+1) % 2 ^ (b - a)=0
     ·have hr0:=HREST.out
      rw [if_pos hz] at hr0
      rw [hwz.2 hz]
      subst hr0
      gi_wp2
      refine bodyPost_ret (results_none rfl _ _ _) rfl ?_
      exact ⟨⟨_,rfl⟩,.inl hJ3⟩
     ·have hr0:=HREST.out
      rw [if_neg hz] at hr0
      have hwne:(((u' &&& (2 ^ b - 2 ^ a):Nat):Int) == 0)=false:=by
       rw [beq_eq_false_iff_ne]
       intro e
       exact hz (hwz.1 (by omega))
      rw [hwne]
      have HPU:=Lib.hid (hpu hz)
      have HR0:=Lib.hid hr0
      clear hpu hr0 hwz hwne hba
      have hIt3:slIt0 a b B1 Bg Bs s g rest W3:=⟨u',hu',hB3,by rw [HPU.out];exact HR0.out.symm⟩
      gi_wp2
      go_roundw
      case rel => exact ⟨_,rest,rfl,hJ3,hIt3⟩
      case measure =>
       rw [← HR.out]
       refine Nat.lt_of_le_of_lt ((leastOf_spec ⟨_,rest,rfl,hJ3,hIt3⟩).2 _ ⟨rest,rfl,hJ3,hIt3⟩) ?_
       rw [HRU2.out]
       exact Nat.lt_succ_self _
   ·refine hK _ _ ?_
    clear hK K
    have hB3:=hB2.far (W':=W3) (fun k hk => hF k hk)
    have e1:=hB3.b1.cell 0
    have eg:=hB3.bg.cell 0
    have es:=hB3.bs.cell 0
    simp only [List.getElem?_toArray,List.getElem?_cons_zero] at e1 eg es
    repeat' (first
     | (refine wpAnyIn_done ?_ ?_ _;decide +kernel)
     | (refine wpAnyIn_ready (rs:=[4]) ?_ ?_ ?_;decide +kernel;simp;refine (AllReadyIn.cons rfl (fun K hK => ?_) AllReadyIn.nil) <;> (go_simp;first | (refine hK _ _ ?_;clear hK K) | (refine ⟨trivial,?_⟩;refine hK _ _ ?_;clear hK K) | (refine ⟨trivial,?_⟩;refine (callsIn_wide.2 (hwithin _)).mono ?_;rintro e w' ⟨rfl,rfl⟩;refine hK _ _ ?_;clear hK K)))
     | (refine wpAnyIn_ready (rs:=[5]) ?_ ?_ ?_;decide +kernel;simp;refine (AllReadyIn.cons rfl (fun K hK => ?_) AllReadyIn.nil) <;> (go_simp;first | (refine hK _ _ ?_;clear hK K) | (refine ⟨trivial,?_⟩;refine hK _ _ ?_;clear hK K) | (refine ⟨trivial,?_⟩;refine (callsIn_wide.2 (hwithin _)).mono ?_;rintro e w' ⟨rfl,rfl⟩;refine hK _ _ ?_;clear hK K)))
     | (refine wpAnyIn_ready (rs:=[6,7,8]) ?_ ?_ ?_;decide +kernel;simp;refine (AllReadyIn.cons rfl (fun K hK => ?_) (AllReadyIn.cons rfl (fun K hK => ?_) (AllReadyIn.cons rfl (fun K hK => ?_) AllReadyIn.nil))) <;> (go_simp;first | (refine hK _ _ ?_;clear hK K) | (refine ⟨trivial,?_⟩;refine hK _ _ ?_;clear hK K) | (refine ⟨trivial,?_⟩;refine (callsIn_wide.2 (hwithin _)).mono ?_;rintro e w' ⟨rfl,rfl⟩;refine hK _ _ ?_;clear hK K)))
     | (refine wpAnyIn_ready (rs:=[7,8]) ?_ ?_ ?_;decide +kernel;simp;refine (AllReadyIn.cons rfl (fun K hK => ?_) (AllReadyIn.cons rfl (fun K hK => ?_) AllReadyIn.nil)) <;> (go_simp;first | (refine hK _ _ ?_;clear hK K) | (refine ⟨trivial,?_⟩;refine hK _ _ ?_;clear hK K) | (refine ⟨trivial,?_⟩;refine (callsIn_wide.2 (hwithin _)).mono ?_;rintro e w' ⟨rfl,rfl⟩;refine hK _ _ ?_;clear hK K)))
     | (refine wpAnyIn_ready (rs:=[6,8]) ?_ ?_ ?_;decide +kernel;simp;refine (AllReadyIn.cons rfl (fun K hK => ?_) (AllReadyIn.cons rfl (fun K hK => ?_) AllReadyIn.nil)) <;> (go_simp;first | (refine hK _ _ ?_;clear hK K) | (refine ⟨trivial,?_⟩;refine hK _ _ ?_;clear hK K) | (refine ⟨trivial,?_⟩;refine (callsIn_wide.2 (hwithin _)).mono ?_;rintro e w' ⟨rfl,rfl⟩;refine hK _ _ ?_;clear hK K)))
     | (refine wpAnyIn_ready (rs:=[6,7]) ?_ ?_ ?_;decide +kernel;simp;refine (AllReadyIn.cons rfl (fun K hK => ?_) (AllReadyIn.cons rfl (fun K hK => ?_) AllReadyIn.nil)) <;> (go_simp;first | (refine hK _ _ ?_;clear hK K) | (refine ⟨trivial,?_⟩;refine hK _ _ ?_;clear hK K) | (refine ⟨trivial,?_⟩;refine (callsIn_wide.2 (hwithin _)).mono ?_;rintro e w' ⟨rfl,rfl⟩;refine hK _ _ ?_;clear hK K)))
     | (refine wpAnyIn_ready (rs:=[6,9]) ?_ ?_ ?_;decide +kernel;simp;refine (AllReadyIn.cons rfl (fun K hK => ?_) (AllReadyIn.cons rfl (fun K hK => ?_) AllReadyIn.nil)) <;> (go_simp;first | (refine hK _ _ ?_;clear hK K) | (refine ⟨trivial,?_⟩;refine hK _ _ ?_;clear hK K) | (refine ⟨trivial,?_⟩;refine (callsIn_wide.2 (hwithin _)).mono ?_;rintro e w' ⟨rfl,rfl⟩;refine hK _ _ ?_;clear hK K)))
     | (refine wpAnyIn_ready (rs:=[6]) ?_ ?_ ?_;decide +kernel;simp;refine (AllReadyIn.cons rfl (fun K hK => ?_) AllReadyIn.nil) <;> (go_simp;first | (refine hK _ _ ?_;clear hK K) | (refine ⟨trivial,?_⟩;refine hK _ _ ?_;clear hK K) | (refine ⟨trivial,?_⟩;refine (callsIn_wide.2 (hwithin _)).mono ?_;rintro e w' ⟨rfl,rfl⟩;refine hK _ _ ?_;clear hK K)))
     | (refine wpAnyIn_ready (rs:=[7]) ?_ ?_ ?_;decide +kernel;simp;refine (AllReadyIn.cons rfl (fun K hK => ?_) AllReadyIn.nil) <;> (go_simp;first | (refine hK _ _ ?_;clear hK K) | (refine ⟨trivial,?_⟩;refine hK _ _ ?_;clear hK K) | (refine ⟨trivial,?_⟩;refine (callsIn_wide.2 (hwithin _)).mono ?_;rintro e w' ⟨rfl,rfl⟩;refine hK _ _ ?_;clear hK K)))
     | (refine wpAnyIn_ready (rs:=[8]) ?_ ?_ ?_;decide +kernel;simp;refine (AllReadyIn.cons rfl (fun K hK => ?_) AllReadyIn.nil) <;> (go_simp;first | (refine hK _ _ ?_;clear hK K) | (refine ⟨trivial,?_⟩;refine hK _ _ ?_;clear hK K) | (refine ⟨trivial,?_⟩;refine (callsIn_wide.2 (hwithin _)).mono ?_;rintro e w' ⟨rfl,rfl⟩;refine hK _ _ ?_;clear hK K)))
     | (refine wpAnyIn_ready (rs:=[9]) ?_ ?_ ?_;decide +kernel;simp;refine (AllReadyIn.cons rfl (fun K hK => ?_) AllReadyIn.nil) <;> (go_simp;first | (refine hK _ _ ?_;clear hK K) | (refine ⟨trivial,?_⟩;refine hK _ _ ?_;clear hK K) | (refine ⟨trivial,?_⟩;refine (callsIn_wide.2 (hwithin _)).mono ?_;rintro e w' ⟨rfl,rfl⟩;refine hK _ _ ?_;clear hK K)))
     | (refine wpAnyIn_ready (rs:=[10]) ?_ ?_ ?_;decide +kernel;simp;refine (AllReadyIn.cons rfl (fun K hK => ?_) AllReadyIn.nil) <;> (go_simp;first | (refine hK _ _ ?_;clear hK K) | (refine ⟨trivial,?_⟩;refine hK _ _ ?_;clear hK K) | (refine ⟨trivial,?_⟩;refine (callsIn_wide.2 (hwithin _)).mono ?_;rintro e w' ⟨rfl,rfl⟩;refine hK _ _ ?_;clear hK K)))
     | (refine wpAnyIn_ready (rs:=[11]) ?_ ?_ ?_;decide +kernel;simp;refine (AllReadyIn.cons rfl (fun K hK => ?_) AllReadyIn.nil) <;> (go_simp;first | (refine hK _ _ ?_;clear hK K) | (refine ⟨trivial,?_⟩;refine hK _ _ ?_;clear hK K) | (refine ⟨trivial,?_⟩;refine (callsIn_wide.2 (hwithin _)).mono ?_;rintro e w' ⟨rfl,rfl⟩;refine hK _ _ ?_;clear hK K)))
     | (refine wpAnyIn_ready (rs:=[12]) ?_ ?_ ?_;decide +kernel;simp;refine (AllReadyIn.cons rfl (fun K hK => ?_) AllReadyIn.nil) <;> (go_simp;first | (refine hK _ _ ?_;clear hK K) | (refine ⟨trivial,?_⟩;refine hK _ _ ?_;clear hK K) | (refine ⟨trivial,?_⟩;refine (callsIn_wide.2 (hwithin _)).mono ?_;rintro e w' ⟨rfl,rfl⟩;refine hK _ _ ?_;clear hK K))))
    all_goals
     gi_wp2
     refine bodyPost_ret (results_none rfl _ _ _) rfl ?_
     exact ⟨⟨_,rfl⟩,.inr hx3⟩
end Go.Proofs.YtehpmbmdadkhbaaGreatDoor.Dspaceitem

namespace Go.Proofs.YtehpmbmdadkhbaaGreatDoor.Dspaceitem
open Go.RowKit Pal
attribute [local go_sem] Oper.semAt_some
theorem tab0_len (d:Dm):tabLen d 0=d.t0.len:=rfl
theorem slot_in {a c:Nat}:c % 2 ^ a<2 ^ a:=Nat.mod_lt _ Nat.one_le_two_pow
set_option maxRecDepth 100000 in
set_option maxHeartbeats 2000000 in
theorem Scan_still (d:Dm) (a c:Nat) (w:World) (h:DmAt w d) (hok:d.Ok) (hn:d.n<1000000) (ht:d.t1=none) (ha:d.t0.len=2 ^ a) (ha16:a≤16) (hc:c<4294967296) :
  Calls Tryz.prog 63 #[ptr d.blk,.int .u32 (c:Int)] w fun e w' => (∃ v,e=.returned (.tuple #[v,.int .u32 (curW a (pos a c+1):Int)])∧Strs w' w.heap.size v (keysAt d 0 (c % 2 ^ a)))∧Chg (fun _ => False) w w':=by
 have hbx:Blk (w.alloc (.cells #[ptr d.blk] 76)) w.heap.size 76 #[ptr d.blk]:=Blk.new w _ _
 have hc0:Chg (fun _ => False) w (w.alloc (.cells #[ptr d.blk] 76)):=(Chg.refl _ w).alloc _
 have hz:=Sizes_any d _ (h.chg0 hc0)
 rw [ht,ha] at hz
 have h1p:1≤2 ^ a:=Nat.one_le_two_pow
 have hp:(2:Nat) ^ a≤2 ^ 16:=pow_mono ha16
 obtain ⟨g,hg⟩:∃ g:Int,g=((2 ^ a:Nat):Int):=⟨_,rfl⟩
 have hg1:1≤g:=by omega
 have hg2:g≤65536:=by omega
 have hg0:(g == 0)=false:=by rw [beq_eq_false_iff_ne];omega
 have hmask:=fun w => mask_any g w hg1 hg2
 have hnext:=fun w => next_any c a g w hg hc ha16
 have hga:=fun B W (hC:Chg (fun _ => False) w W) hB hBl => gathered_any d 0 (c % 2 ^ a) B W (h.chg0 hC) hok (by omega) (by rw [tab0_len,ha];exact slot_in) hn hB hBl
 have hat:Hid (IntKind.i64.wrap (bits BinOp.and IntKind.u32 (c:Int) (g - 1))=((c % 2 ^ a:Nat):Int)):=by
  show _=_
  rw [hg,slot_bits c a hc ha16]
  have:=slot_in (a:=a) (c:=c)
  exact IntWalk.i64_in _ ⟨by omega,by omega⟩
 have hnx:Hid (nextD c a=curW a (pos a c+1)):=nextD_curW (by omega) c
 rw [← hg] at hz
 simp only [Option.map_none,Option.getD_none] at hz
 clear ht ha hg
 generalize c % 2 ^ a=si at *
 unfold ptr at *
 go_enter Tryz.func63,Tryz.ntmps63
 go_wp2_with fail
 refine hz.mono ?_
 rintro e w1 ⟨rfl,hc1⟩
 have hb1:=hbx.chg hc1 id
 have hC1:=hc0.trans hc1
 have k0:=hb1.cell 0
 simp only [List.getElem?_toArray,List.getElem?_cons_zero] at k0
 have l0:=hb1.lt
 clear hz hbx hc0 hc1
 go_wp2_with fail
 refine wp_region_heldF 12 (fun W => Blk W w.heap.size 76 #[.pointer (some ⟨d.blk,0,none⟩)]) (by kernel_rfl) ?_
 simp only [List.size_toArray,List.length_cons,List.length_nil,Nat.reduceAdd,Array.replicate_succ,Array.replicate_zero,List.push_toArray,List.nil_append,List.cons_append]
 refine wpAnyF_take 0 (v:=.pointer (some ⟨d.blk,0,none⟩)) rfl (by kernel_rfl) (by kernel_rfl) (by kernel_rfl) (by kernel_rfl) (fun _ _ _ h => h) hb1.drew (by rfl) ?_ ?_
 ·intro W hS
  have k:=hS.cell 0
  simp only [List.getElem?_toArray,List.getElem?_cons_zero] at k
  go_simp
 refine wpAnyF_take 1 (v:=.int .u32 (c:Int)) rfl (by kernel_rfl) (by kernel_rfl) (by kernel_rfl) (by kernel_rfl) (fun _ _ _ h => h) hb1.drew (by rfl) ?_ ?_
 ·intro W hS
  go_simp
 refine wpAnyF_take 2 (v:=.int .i64 g) rfl (by kernel_rfl) (by kernel_rfl) (by kernel_rfl) (by kernel_rfl) (fun _ _ _ h => h) hb1.drew (by rfl) ?_ ?_
 ·intro W hS
  go_simp
 refine wpAnyF_take 8 (v:=.int .u32 (c:Int)) rfl (by kernel_rfl) (by kernel_rfl) (by kernel_rfl) (by kernel_rfl) (fun _ _ _ h => h) hb1.drew (by rfl) ?_ ?_
 ·intro W hS
  go_simp
 refine wpAnyF_take 9 (v:=.int .i64 g) rfl (by kernel_rfl) (by kernel_rfl) (by kernel_rfl) (by kernel_rfl) (fun _ _ _ h => h) hb1.drew (by rfl) ?_ ?_
 ·intro W hS
  go_simp
 refine wpAnyF_one 3 (by kernel_rfl) rfl (fun K hK => ?_)
 go_simp
 refine (hmask _).mono ?_
 rintro e w' ⟨rfl,rfl⟩
 refine hK _ _ (fun _ => hb1.drew) ?_
 clear hK K
 refine wpAnyF_take 4 (v:=.int .u32 (bits BinOp.and IntKind.u32 (c:Int) (g - 1))) rfl (by kernel_rfl) (by kernel_rfl) (by kernel_rfl) (by kernel_rfl) (fun _ _ _ h => h) hb1.drew (by rfl) ?_ ?_
 ·intro W hS
  go_simp
 refine wpAnyF_take 5 (v:=.int .i64 (IntKind.i64.wrap (bits BinOp.and IntKind.u32 (c:Int) (g - 1)))) rfl (by kernel_rfl) (by kernel_rfl) (by kernel_rfl) (by kernel_rfl) (fun _ _ _ h => h) hb1.drew (by rfl) ?_ ?_
 ·intro W hS
  go_simp
 rw [hat.out]
 refine wpAnyF_one 6 (by kernel_rfl) rfl (fun K hK => ?_)
 go_simp
 have hcA:Chg (fun _ => False) w1 (w1.alloc (Obj.cells #[Value.int IntKind.i64 (si:Int)] 3)).drew:=((Chg.refl _ w1).alloc _).drew
 have hbA:Blk (w1.alloc (Obj.cells #[Value.int IntKind.i64 (si:Int)] 3)).drew w1.heap.size 3 #[.int .i64 (si:Int)]:=(Blk.new w1 _ _).drew
 refine hK _ _ (fun _ => hb1.chg hcA id) ?_
 clear hK K
 refine wpAnyF_one 7 (by kernel_rfl) rfl (fun K hK => ?_)
 go_simp
 refine (hga _ _ (hC1.trans hcA) (hbA.cell 0) hbA.lt).mono ?_
 rintro e W2 ⟨⟨v,rfl,hs⟩,hc2⟩
 refine hK _ _ (fun _ => (hb1.chg hcA id).chg hc2 id) ?_
 clear hK K
 refine wpAnyF_one 10 (by kernel_rfl) rfl (fun K hK => ?_)
 go_simp
 refine (hnext _).mono ?_
 rintro e w' ⟨rfl,rfl⟩
 refine hK _ _ (fun _ => (hb1.chg hcA id).chg hc2 id) ?_
 clear hK K
 refine wpAnyF_one 11 (by kernel_rfl) rfl (fun K hK => ?_)
 go_simp
 refine hK _ _ (fun _ => (hb1.chg hcA id).chg hc2 id) ?_
 clear hK K
 refine wpAnyF_one 12 (by kernel_rfl) rfl (fun K hK => ?_)
 go_simp
 refine hK _ _ (fun h => absurd rfl h) ?_
 clear hK K
 refine wpAnyF_done (by kernel_rfl) ?_ _
 rw [hnx.out]
 go_wp2_with fail
 go_ret2
 exact ⟨⟨v,rfl,hs.lower (Nat.le_trans hC1.size hcA.size)⟩,(hC1.trans hcA).trans hc2⟩
end Go.Proofs.YtehpmbmdadkhbaaGreatDoor.Dspaceitem
