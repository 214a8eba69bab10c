/- Texts joined for EvictNone: LW, LB, RF, BD, KL, LFP, SKP, IT, SKM, SKO. -/
import Derived.Test.YtehpmbmdadkhbaaGreatDoorProg
import Derived.ProofKit
import Derived.OpenShut
import Derived.Below
import Derived.RangeFuncNested
import Derived.RangeFuncBound
import Derived.RangeFuncCalls
import Derived.RangeFuncLeaves
import Derived.Shelf.Abstract
import Derived.Laws.OwnMore
import Derived.Deep.Draws
import Derived.WalkKit
import Derived.Lib.Hide
import Derived.Deep.QuietTactic
import Derived.BigQuiet
import Derived.Deep.LoopGhost
import Derived.Deep.RegionHeld3
import Derived.Deep.DrawnRows
import Derived.Sort.Walk0
import Derived.Laws.Cover1
import Derived.RangeFuncOwn
set_option linter.unusedVariables false
set_option linter.unusedSimpArgs false

namespace Pal
open Go Go.RowKit Go.WideShapes Go.ChangeShapes
section
variable {H:Type} {enc:TypeId × Value→H} {P:Program}
theorem post_of_below {f:Func} {s:ChangeSpec} {apart fresh handsOn again:Bool} {W W':World} {args:Array Value} {v:Value} {ds gs:List (DataW H)} {before pa pv:List MemPlace}
  (hW:DataW.Whole enc P f.params.toList s.vars apart W args.toList ds gs before)
  (hres:∀ (b:Nat) (sp:Nat→Bool) (hd:Bool),DataW.TrodAll enc P W' b sp hd f.resultTypes.toList (v.resultList f.resultTypes.size) (s.fn H (ds++gs)).results [])
  (hargs:∀ sp:Nat→Bool,(∀ p∈before,sp p.block=true)→DataW.TrodAll enc P W' 0 sp true f.params.toList args.toList (s.fn H (ds++gs)).args pa)
  (hvars:∀ sp:Nat→Bool,(∀ p∈before,sp p.block=true)→DataW.TrodVars enc P W' sp s.vars (s.fn H (ds++gs)).vars pv)
  (hps:before=pa++pv) (hb:Below W.heap.size W W')
  (hok:∀ (j:Nat) (t:TypeId) (r:Value),f.resultTypes[j]?=some t→(v.resultList f.resultTypes.size)[j]?=some r→Value.okWide P W' .any 0 t r) :
  s.post enc P f apart fresh handsOn again W args v W':=by
 have hlt:∀ p∈before,p.block<W.heap.size:=fun p hp => hW.lt p hp
 have hold:∀ p∈before,(fun b => decide (b<W.heap.size)) p.block=true:=fun p hp => by simpa using hlt p hp
 refine ⟨ds,gs,before,[],pa,pv,hW,hres _ _ _,hargs _ hold,hvars _ hold,World.keptBut_mono (fun p hp => ⟨hp,?_⟩) (hb.frame (·∈before)),fun _ => ?_⟩
 ·rw [hps,List.mem_append] at hp
  exact Or.inr hp
 ·obtain ⟨_,_,_,_,_,hz,hn⟩:=hW
  refine ⟨hok,_,_,([]++pa)++pv,⟨[]++pa,pv,trodAll_append (hargs _ (fun _ _ => rfl)) (hres _ _ _),hvars _ (fun _ _ => rfl),rfl,?_,?_⟩,?_⟩
  ·intro b off hp
   have hin:MemPlace.cell b off∈before:=by rw [hps];simpa using hp
   rw [hb.frozen (hlt _ hin)]
   exact hz b off hin
  ·intro ha
   have:=hn ha
   rw [hps] at this
   simpa using this
  ·intro p hp _
   rw [hps]
   simpa using hp
theorem trodAll_stays {W W':World} {sp':Nat→Bool} (hl:laidOutB P=true):∀ {ts:List TypeId} {vs:List Value} {ds:List (DataW H)} {ps:List MemPlace},
  (ts.all fun t => P.readableRec t && decide (t<P.types.size))=true→DataW.TrodAll enc P W 0 (fun _ => true) true ts vs ds ps →
  (∀ p∈ps,W.sameAt W' p)→(∀ p∈ps,sp' p.block=true)→DataW.TrodAll enc P W' 0 sp' true ts vs ds ps:=by
 intro ts
 induction ts with
 | nil =>
  intro vs ds ps _ h _ _
  obtain ⟨rfl,rfl,rfl⟩:=trodAll_nil h
  exact trodAll_mk0
 | cons t ts ih =>
  intro vs ds ps hts h hsame hs
  simp only [List.all_cons,Bool.and_eq_true,decide_eq_true_iff] at hts
  obtain ⟨v,vs',d,ds',p,p',rfl,rfl,rfl,h1,h2⟩:=trodAll_cons h
  exact trodAll_cons_mk (WideElems.Trod_stays hl hts.1.1 hts.1.2 h1 (fun q hq => hsame q (by simp [hq])) (fun q hq => hs q (by simp [hq])))
   (ih hts.2 h2 (fun q hq => hsame q (by simp [hq])) (fun q hq => hs q (by simp [hq])))
theorem law_post {f:Func} {s:ChangeSpec} {again:Bool} {W W':World} {args:Array Value} {ds gs:List (DataW H)} {before:List MemPlace} {tb:TypeId} (hl:laidOutB P=true)
  (hts:(f.params.toList.all fun t => P.readableRec t && decide (t<P.types.size))=true) (htb:P.underlying tb=some .bool) (hr:f.resultTypes=#[tb]) (hv:s.vars=[])
  (hW:DataW.Whole enc P f.params.toList s.vars false W args.toList ds gs before) (hfn:(s.fn H (ds++gs)).results=[.lit (.bool true)]∧(s.fn H (ds++gs)).args=ds∧(s.fn H (ds++gs)).vars=[])
  (hb:Below W.heap.size W W'):s.post enc P f false true false again W args (.bool true) W':=by
 have hW':=hW
 obtain ⟨p,q,hA,hV,rfl,hfz,hnd⟩:=hW
 rw [hv] at hV
 obtain ⟨rfl,rfl⟩:=trodVars_none hV
 have hlt:∀ x∈p,x.block<W.heap.size:=fun x hx => hW'.lt x (by simp [hx])
 refine post_of_below (pa:=p) (pv:=[]) hW' ?_ ?_ ?_ rfl hb ?_
 ·intro b sp hd
  rw [hfn.1,hr]
  exact trodAll_cons_mk (shut_bool htb true) trodAll_mk0
 ·intro sp hsp
  rw [hfn.2.1]
  exact trodAll_stays hl hts hA (fun x hx => hb.same (hlt x hx)) (fun x hx => hsp x (by simp [hx]))
 ·intro sp _
  rw [hfn.2.2,hv]
  rfl
 ·exact ok_one hr rfl (okWide_bool_mk htb true)
end
end Pal

namespace Go.Proofs.YtehpmbmdadkhbaaGreatDoor
open Go
def ltB (a b:ByteArray):Prop:=a.data.toList<b.data.toList
instance (a b:ByteArray):Decidable (ltB a b):=inferInstanceAs (Decidable (a.data.toList<b.data.toList))
theorem lt_app (p s t:List UInt8):p++s<p++t ↔ s<t:=by
 induction p with
 | nil => rfl
 | cons x p ih => rw [List.cons_append,List.cons_append,List.cons_lt_cons_iff,ih];simp
theorem ltB_at {a b:ByteArray} {i:Nat} (h:a.data.toList.take i=b.data.toList.take i) (ha:i<a.size) (hb:i<b.size) (hne:a[i]≠b[i]):ltB a b ↔ a[i]<b[i]:=by
 have e1:a.data.toList=a.data.toList.take i++a[i] :: a.data.toList.drop (i+1):=by
  have:=List.take_append_drop i a.data.toList
  rw [List.drop_eq_getElem_cons (by simpa using ha)] at this
  exact this.symm
 have e2:b.data.toList=b.data.toList.take i++b[i] :: b.data.toList.drop (i+1):=by
  have:=List.take_append_drop i b.data.toList
  rw [List.drop_eq_getElem_cons (by simpa using hb)] at this
  exact this.symm
 unfold ltB
 rw [e1,e2,h,lt_app,List.cons_lt_cons_iff]
 constructor
 ·rintro (h | ⟨h,_⟩)
  ·exact h
  ·exact absurd h hne
 ·exact .inl
theorem ltB_len {a b:ByteArray} {i:Nat} (h:a.data.toList.take i=b.data.toList.take i) (hi:i=a.size∨i=b.size) (ha:i≤a.size) (hb:i≤b.size):ltB a b ↔ a.size<b.size:=by
 have la:a.data.toList.length=a.size:=Array.length_toList
 have lb:b.data.toList.length=b.size:=Array.length_toList
 have e1:=List.take_append_drop i a.data.toList
 have e2:=List.take_append_drop i b.data.toList
 unfold ltB
 rw [← e1,← e2,h,lt_app]
 rcases hi with hi | hi
 ·have:a.data.toList.drop i=[]:=List.drop_eq_nil_of_le (by omega)
  rw [this]
  cases hd:b.data.toList.drop i with
  | nil =>
   have:=congrArg List.length hd
   rw [List.length_drop,List.length_nil] at this
   simp;omega
  | cons y t =>
   have:=congrArg List.length hd
   rw [List.length_drop,List.length_cons] at this
   simp;omega
 ·have:b.data.toList.drop i=[]:=List.drop_eq_nil_of_le (by omega)
  rw [this]
  constructor
  ·intro h;simp at h
  ·intro h;omega
theorem ltB_irrefl (a:ByteArray):¬ ltB a a:=List.lt_irrefl _
theorem ltB_trans {a b c:ByteArray} (h:ltB a b) (h':ltB b c):ltB a c:=List.lt_trans h h'
theorem ltB_total {a b:ByteArray} (h:¬ ltB a b) (hne:a≠b):ltB b a:=by
 unfold ltB at h ⊢
 rcases List.le_total a.data.toList b.data.toList with h1 | h1
 ·rcases (List.le_iff_lt_or_eq).1 h1 with h2 | h2
  ·exact absurd h2 h
  ·exfalso;apply hne;cases a;cases b;simp_all
 ·rcases (List.le_iff_lt_or_eq).1 h1 with h2 | h2
  ·exact h2
  ·exfalso;apply hne;cases a;cases b;simp_all
end Go.Proofs.YtehpmbmdadkhbaaGreatDoor

namespace Pal
open Go Go.RowKit
structure Chg (S:Nat→Prop) (w w':World):Prop where
 os:w'.os=w.os
 tape:w'.tape=w.tape
 output:w'.output=w.output
 size:w.heap.size≤w'.heap.size
 block:∀ k,k<w.heap.size→¬ S k→w'.heap[k]?=w.heap[k]?
section
variable {S S':Nat→Prop} {a b c w w':World}
theorem Chg.refl (S:Nat→Prop) (w:World):Chg S w w:=⟨rfl,rfl,rfl,Nat.le_refl _,fun _ _ _ => rfl⟩
theorem Chg.trans' (h:Chg S a b) (k:Chg S' b c) (hs:∀ k,k<a.heap.size→S' k→S k):Chg S a c :=
 ⟨k.os.trans h.os,k.tape.trans h.tape,k.output.trans h.output,Nat.le_trans h.size k.size,
 fun i hi hn => (k.block i (Nat.lt_of_lt_of_le hi h.size) (fun e => hn (hs i hi e))).trans (h.block i hi hn)⟩
theorem Chg.trans (h:Chg S a b) (k:Chg S b c):Chg S a c:=h.trans' k fun _ _ e => e
theorem Chg.mono (h:Chg S a b) (hs:∀ k,k<a.heap.size→S k→S' k):Chg S' a b :=
 ⟨h.os,h.tape,h.output,h.size,fun i hi hn => h.block i hi fun e => hn (hs i hi e)⟩
theorem Chg.alloc (h:Chg S a w) (o:Obj):Chg S a (w.alloc o) :=
 h.trans ⟨rfl,rfl,rfl,by simp,fun k hk _ => Below.heap_alloc _ _ _ hk⟩
theorem Chg.drew (h:Chg S a w):Chg S a w.drew:=⟨h.os,h.tape,h.output,h.size,h.block⟩
theorem Chg.drewN (h:Chg S a w) (n:Nat):Chg S a (w.drewN n):=⟨h.os,h.tape,h.output,h.size,h.block⟩
theorem Chg.setCell (h:Chg S a w) {p:Addr} (hp:p.block<a.heap.size→S p.block) (u:Value):Chg S a (w.setCell p u) :=
 ⟨h.os,h.tape,h.output,by simpa [World.setCell] using h.size,fun k hk hn => (Below.heap_setCell _ _ _ _ (fun e => by subst e;exact hn (hp hk))).trans (h.block k hk hn)⟩
theorem Chg.store (h:Chg S a w) {b:Nat} (hb:S b) (i:Nat) (u:Value):Chg S a (w.setCell ⟨b,i,none⟩ u):=h.setCell (p:=⟨b,i,none⟩) (fun _ => hb) u
theorem Chg.store_new (h:Chg S a w) {b:Nat} (hb:a.heap.size≤b) (i:Nat) (u:Value):Chg S a (w.setCell ⟨b,i,none⟩ u) :=
 h.setCell (p:=⟨b,i,none⟩) (fun hlt => absurd hlt (Nat.not_lt.2 hb)) u
theorem Chg.put (h:Chg S a w) {l:Nat} (hb:a.heap.size≤l) (o:Obj):Chg S a (w.putObj l o) :=
 ⟨h.os,h.tape,h.output,by simpa using h.size,fun k hk hn => (World.putObj_heap_other (by omega)).trans (h.block k hk hn)⟩
theorem Chg.putObj (h:Chg S a w) {l:Nat} (hp:l<a.heap.size→S l) (o:Obj):Chg S a (w.putObj l o) :=
 ⟨h.os,h.tape,h.output,by simpa using h.size,fun k hk hn => (World.putObj_heap_other (fun e => by subst e;exact hn (hp hk))).trans (h.block k hk hn)⟩
theorem Chg.of_grown {row:Option Nat} (h:w.grownBy w' row) (hs:∀ g,row=some g→S g):Chg S w w' :=
 ⟨h.os,h.tape,h.output,h.size,fun k hk hn => h.block k hk (fun e => hn (hs k e.symm))⟩
theorem Chg.same (h:Chg S w w') {g:Nat} {o:Obj} (hg:w.heap[g]?=some o) (hn:¬ S g):w'.heap[g]?=some o :=
 (h.block g (Array.getElem?_eq_some_iff.1 hg).1 hn).trans hg
end
def Blk (w:World) (g:Nat) (t:TypeId) (cs:Array Value):Prop:=w.heap[g]?=some (.cells cs t (0,0))
section
variable {w w':World} {g:Nat} {t:TypeId} {cs:Array Value}
theorem Blk.lt (h:Blk w g t cs):g<w.heap.size:=(Array.getElem?_eq_some_iff.1 h).1
theorem Blk.cell (h:Blk w g t cs) (i:Nat):w.cell? ⟨g,i,none⟩=cs[i]?:=cell_of_row w g i cs t (0,0) h
theorem Blk.frozen (h:Blk w g t cs) (i:Nat):w.frozen? ⟨g,i,none⟩=false:=by
 unfold Blk at h
 simp [World.frozen?,h]
theorem Blk.new (w:World) (t:TypeId) (cs:Array Value):Blk (w.alloc (.cells cs t)) w.heap.size t cs:=World.alloc_heap_new w _
theorem Blk.drew (h:Blk w g t cs):Blk w.drew g t cs:=h
theorem Blk.drewN (h:Blk w g t cs) (n:Nat):Blk (w.drewN n) g t cs:=h
theorem Blk.alloc (h:Blk w g t cs) (o:Obj):Blk (w.alloc o) g t cs:=(Below.heap_alloc w o g h.lt).trans h
theorem Blk.set (h:Blk w g t cs) (i:Nat) (u:Value):Blk (w.setCell ⟨g,i,none⟩ u) g t (cs.setIfInBounds i u):=by
 unfold Blk at h ⊢
 simp [World.setCell,Array.getElem?_modify,h]
theorem Blk.far (h:Blk w g t cs) {p:Addr} (hp:g≠p.block) (u:Value):Blk (w.setCell p u) g t cs:=(Below.heap_setCell w p u g hp).trans h
theorem Blk.putObj (h:Blk w g t cs) {l:Nat} (hp:g≠l) (o:Obj):Blk (w.putObj l o) g t cs:=(World.putObj_heap_other hp).trans h
theorem Blk.chg {S:Nat→Prop} (h:Blk w g t cs) (hc:Chg S w w') (hn:¬ S g):Blk w' g t cs:=hc.same h hn
theorem Blk.ne_type (h:Blk w g t cs) {g':Nat} {t':TypeId} {cs':Array Value} (h':Blk w g' t' cs') (hne:t≠t'):g≠g':=by
 rintro rfl
 unfold Blk at h h'
 rw [h] at h'
 injection h' with h'
 injection h' with _ ht
 exact hne ht
theorem Blk.ne_loop (h:Blk w g t cs) {l:Nat} {r:Loop} (hl:w.heap[l]?=some (.loop r)):g≠l:=by
 rintro rfl;unfold Blk at h;rw [h] at hl;cases hl
theorem Blk.ne_def (h:Blk w g t cs) {l:Nat} {r} (hl:w.heap[l]?=some (.deferred r)):g≠l:=by
 rintro rfl;unfold Blk at h;rw [h] at hl;cases hl
end
structure KeepC (w w':World):Prop where
 size:w.heap.size≤w'.heap.size
 same:∀ (g:Nat) (c:Array Value) (t:TypeId) (f:Nat × Nat),w.heap[g]?=some (Obj.cells c t f)→w'.heap[g]?=some (Obj.cells c t f)
theorem KeepC.trans {a b c:World} (h:KeepC a b) (k:KeepC b c):KeepC a c:=⟨Nat.le_trans h.size k.size,fun g x t f e => k.same _ _ _ _ (h.same g x t f e)⟩
theorem KeepC.alloc (w:World) (o:Obj):KeepC w (w.alloc o):=⟨by simp,fun g _ _ _ h => (Below.heap_alloc w o g (Array.getElem?_eq_some_iff.1 h).1).trans h⟩
theorem KeepC.put_loop {w:World} {l:Nat} {r:Loop} (h:w.heap[l]?=some (.loop r)) (o:Obj):KeepC w (w.putObj l o) :=
 ⟨by simp,fun g _ _ _ e => (World.putObj_heap_other (fun h' => by subst h';rw [h] at e;cases e)).trans e⟩
theorem Blk.keep {w w':World} {g:Nat} {t:TypeId} {cs:Array Value} (h:Blk w g t cs) (k:KeepC w w'):Blk w' g t cs:=k.same _ _ _ _ h
theorem len_cons {α:Type} {l:List α} {n:Nat} (h:l.length=n+1):∃ x t,l=x :: t∧t.length=n:=by
 cases l with
 | nil => cases h
 | cons x t => exact ⟨x,t,rfl,by simpa using h⟩
section
variable {P:Program}
def recOf (fn:FuncId) (tmps:Array Value) (ps:Array Tmp) (assign body:Code) (D:Nat) (st:LoopState) (pe:Option Code):Loop :=
 { state:=st,pending:=pe,fn:=fn,tmps:=tmps,params:=ps,assign:=assign,body:=body,defers:=D }
def roundQ (l:Nat) (rec:LoopState→Option Code→Loop) (R:Ending→World→Prop):Exit→Act→World→Prop
 | .normal,_,w => w.heap[l]?=some (.loop (rec .busy none))∧R (.returned (.bool true)) (w.putObj l (.loop (rec .ready none)))
 | .ret,_,w => w.heap[l]?=some (.loop (rec .busy none))∧R (.returned (.bool false)) (w.putObj l (.loop (rec .done (some .ret))))
 | .exit id,_,w => w.heap[l]?=some (.loop (rec .busy none))∧R (.returned (.bool false)) (w.putObj l (.loop (rec .done (some (.exit id)))))
 | .goto t,_,w => w.heap[l]?=some (.loop (rec .busy none))∧R (.returned (.bool false)) (w.putObj l (.loop (rec .done (some (.goto t)))))
 | .panic _,_,_ => False
 | .outgrown,_,_ => False
theorem yield_body {m l:Nat} {fn:FuncId} {tmps:Array Value} {ps:Array Tmp} {assign body:Code} {D:Nat} {args:Array Value} {W:World} {R:Ending→World→Prop}
  {rec:LoopState→Option Code→Loop} (hrec:Hid (rec=recOf fn tmps ps assign body D))
  (hl:W.heap[l]?=some (.loop (rec .ready none))) (hsz:args.size=ps.size) {a₁:Act} {w₁:World}
  (hassign:∀ K:Act→World→Prop,K a₁ w₁→assign.wpIn (Fence.wide.inRound l) m P (Exit.then K (fun _ _ _ => False)) { tmps:=(ps.zip args).foldl (fun t (p,v) => t.setIfInBounds p v) tmps,defers:=[] } W)
  (hl1:w₁.heap[l]?=some (.loop (rec .ready none)))
  (hbody:body.wpIn (Fence.wide.inRound l) m P (roundQ l rec R) a₁ (w₁.putObj l (.loop (rec .busy none)))) :
  YieldAt Fence.wide m P l args W R:=by
 have hrec:=hrec.out
 subst hrec
 refine ⟨fn,_,assign,body,run_yield hl hsz,roundIn_of_wpIn trivial ?_⟩
 refine hassign _ ⟨_,run_beginRound hl1 rfl,wpIn_mono hbody ?_⟩
 rintro e a2 w2 hq2
 cases e with
 | normal => exact ⟨_,_,run_endRound none hq2.1,hq2.2⟩
 | ret => exact ⟨_,_,run_endRound (some .ret) hq2.1,hq2.2⟩
 | exit id => exact ⟨_,_,run_endRound (some (.exit id)) hq2.1,hq2.2⟩
 | goto t => exact ⟨_,_,run_endRound (some (.goto t)) hq2.1,hq2.2⟩
 | panic ch => exact hq2.elim
 | outgrown => exact hq2.elim
theorem wp_range {g:Operand} {ps:Array Tmp} {assign body:Code} {Q:Exit→Act→World→Prop} {a:Act} {w:World} (gf:Nat) (lb:Array Value)
  (hg:a.eval g=.func (.func gf) #[] lb) (eg:Proofs.Enters P gf)
  (h:∀ fn rec,Hid (rec=recOf fn a.tmps ps assign body w.heap.size)→Calls P gf (#[.func (.yield (w.heap.size+1)) #[] #[]]++lb) ((w.alloc (.deferred (some []))).alloc (.loop (rec .ready none)))
   fun e W => (∃ v,e=.returned v) ∧
    ((W.heap[w.heap.size+1]?=some (.loop (rec .ready none)) ∧
     Q .normal { a with defers:={ target:=.collected w.heap.size,args:=#[] } :: a.defers } (W.putObj (w.heap.size+1) (.loop (rec .exhausted none)))) ∨
    (∃ c,W.heap[w.heap.size+1]?=some (.loop (rec .done (some c))) ∧
     c.wp P Q { a with defers:={ target:=.collected w.heap.size,args:=#[] } :: a.defers } (W.putObj (w.heap.size+1) (.loop (rec .exhausted (some c))))))) :
  (Code.rangeFunc g ps assign body).wp P Q a w:=by
 refine (wpIn_wide (n:=2)).1 (wpIn_rangeFunc ?_)
 intro fn _
 obtain ⟨W1,hW1⟩:∃ W1,(w.alloc (.deferred (some []))).alloc (.loop (recOf fn a.tmps ps assign body w.heap.size .ready none))=W1:=⟨_,rfl⟩
 have h:=h fn _ rfl
 rw [hW1] at h
 refine ⟨w.heap.size+1,[{ target:=.collected w.heap.size,args:=#[] }],W1,{ target:=.fn (.func gf) lb,args:=#[.func (.yield (w.heap.size+1)) #[] #[]] },W1,gf,
  #[.func (.yield (w.heap.size+1)) #[] #[]]++lb,W1,?_,?_,?_,?_,fun _ => by omega,?_⟩
 ·rw [← hW1];exact run_enterLoop_outer _ _ _ _ _
 ·simp only [resolve,hg]
  simp [go_sem]
 ·intro f' _;trivial
 ·simp only [invoke]
  simpa [go_sem] using eg _ _
 ·refine callsIn_wide.2 (h.mono ?_)
  rintro e W ⟨⟨v,rfl⟩,⟨hl,hq⟩ | ⟨c,hl,hq⟩⟩
  ·exact ⟨none,_,run_endLoop hl (by simp [recOf]),hq⟩
  ·exact ⟨some c,_,run_endLoop hl (by simp [recOf]),wpIn_wide.2 hq⟩
theorem calls_of_wp_marks {f:FuncId} {fn:Func} {c:Code} {args:Array Value} {w:World} {R:Ending→World→Prop}
  (hf:P.funcs[f]?=some fn) (hb:fn.body=some c)
  (h:c.wp P (bodyPostM Fence.wide 2 P fn R) { tmps:=args++Array.replicate (fn.ntmps - args.size) undef,defers:=[] } w):Calls P f args w R :=
 callsIn_wide.1 (callsIn_of_wp_marks hf hb trivial (wpIn_wide.2 h))
theorem bodyPostM_ret {fn:Func} {R:Ending→World→Prop} {a:Act} {w:World} {D:Nat} {v:Value} (hd:a.defers=[{ target:=.collected D,args:=#[] }])
  (hK:w.heap[D]?=some (.deferred (some []))) (hv:(results fn a.tmps).run P (w.putObj D (.deferred none))=.ok v (w.putObj D (.deferred none)))
  (hR:R (.returned v) (w.putObj D (.deferred none))):bodyPostM Fence.wide 2 P fn R .ret a w:=by
 show LeavesInM Fence.wide 2 P fn a.tmps R a.defers .returning w
 rw [hd]
 exact ⟨by simp,.inl ⟨D,_,rfl,run_takeDeferred hK,⟨v,hv,hR⟩⟩⟩
def marks (Ds:List Nat):List Deferred:=Ds.map fun D => { target:=.collected D,args:=#[] }
def Marked (w:World) (B:Nat) (Ds:List Nat):Prop:=Ds.Nodup∧∀ D∈Ds,B≤D∧w.heap[D]?=some (.deferred (some []))
theorem Marked.nil (w:World) (B:Nat):Marked w B []:=⟨List.nodup_nil,fun _ h => by cases h⟩
theorem Marked.chg {S:Nat→Prop} {w w':World} {B:Nat} {Ds:List Nat} (h:Marked w B Ds) (hc:Chg S w w') (hS:∀ D o,w.heap[D]?=some (.deferred o)→¬ S D):Marked w' B Ds :=
 ⟨h.1,fun D hD => ⟨(h.2 D hD).1,hc.same (h.2 D hD).2 (hS _ _ (h.2 D hD).2)⟩⟩
theorem Marked.cons {w:World} {B D:Nat} {Ds:List Nat} (h:Marked w B Ds) (hD:w.heap[D]?=some (.deferred (some []))) (hB:B≤D) (hn:D ∉ Ds):Marked w B (D :: Ds) :=
 ⟨List.nodup_cons.2 ⟨hn,h.1⟩,fun E hE => by
  rcases List.mem_cons.1 hE with rfl | hE
  ·exact ⟨hB,hD⟩
  ·exact h.2 E hE⟩
theorem bodyPostM_marks {fn:Func} {R:Ending→World→Prop} {v:Value} {tmps:Array Value} {w0:World} (hv:∀ w,(results fn tmps).run P w=.ok v w) :
  ∀ (Ds:List Nat) (w:World),Marked w w0.heap.size Ds→(∀ w',Chg (fun g => w0.heap.size≤g) w w'→R (.returned v) w') →
   LeavesInM Fence.wide 2 P fn tmps R (marks Ds) .returning w:=by
 intro Ds
 induction Ds with
 | nil =>
  intro w _ hR
  exact ⟨v,hv w,hR w (Chg.refl _ _)⟩
 | cons D Ds ih =>
  intro w hm hR
  obtain ⟨hB,hD⟩:=hm.2 D (by simp)
  have hnd:=List.nodup_cons.1 hm.1
  refine ⟨by simp,.inl ⟨D,_,rfl,run_takeDeferred hD,ih _ ⟨hnd.2,fun E hE => ⟨(hm.2 E (by simp [hE])).1,?_⟩⟩ fun w' h2 => hR w' ?_⟩⟩
  ·exact (World.putObj_heap_other (fun e => by subst e;exact hnd.1 hE)).trans (hm.2 E (by simp [hE])).2
  ·have hp:Chg (fun g => w0.heap.size≤g) w (w.putObj D (.deferred none)):=(Chg.refl _ w).putObj (fun _ => hB) _
   exact hp.trans h2
end
end Pal

namespace Go.Proofs.YtehpmbmdadkhbaaGreatDoor
open Go.RowKit Pal
attribute [local go_sem ↓] Go.wp_at_zero Go.wp_at_succ
structure En where
 m:ByteArray
 s:Int
def En.val (e:En):Value:=.agg #[.string e.m,.int .i64 e.s]
def ltE (a b:En):Prop:=a.s<b.s∨(a.s=b.s∧ltB a.m b.m)
instance (a b:En):Decidable (ltE a b):=inferInstanceAs (Decidable (_∨_))
def cmpI (a b:Int):Int:=if a<b then -1 else if b<a then 1 else 0
def cmpS (a b:ByteArray):Int:=if ltB a b then -1 else if ltB b a then 1 else 0
theorem bytesLess_ltB (a b:ByteArray):Op.bytesLess a.toList b.toList=decide (ltB a b):=by
 rw [Go.Proofs.bytesLess_eq,ByteArray.toList_eq,ByteArray.toList_eq];rfl
theorem toListE (a:ByteArray):(a.toList == a.toList)=true:=by simp
theorem toListN {a b:ByteArray} (h:¬ a=b):(a.toList == b.toList)=false:=by
 rw [beq_eq_false_iff_ne]
 intro h'
 apply h
 rw [ByteArray.toList_eq,ByteArray.toList_eq] at h'
 cases a;cases b;simp_all
theorem isNaN_i (a:Int) (w:World):Calls Tryz.prog 168 #[.int .i64 a] w fun e w' => e=.returned (.bool false)∧w=w':=by
 go_enter Tryz.func168,Tryz.ntmps168
 go_wp2
 go_ret
 exact ⟨rfl,rfl⟩
theorem isNaN_s (a:ByteArray) (w:World):Calls Tryz.prog 130 #[.string a] w fun e w' => e=.returned (.bool false)∧w=w':=by
 go_enter Tryz.func130,Tryz.ntmps130
 go_wp2
 go_ret
 exact ⟨rfl,rfl⟩
theorem cmp_i (a b:Int) (w:World):Calls Tryz.prog 164 #[.int .i64 a,.int .i64 b] w fun e w' => e=.returned (.int .i64 (cmpI a b))∧w=w':=by
 rcases Int.lt_trichotomy a b with h | h | h
 ·have e:cmpI a b=-1:=by unfold cmpI;rw [if_pos h]
  rw [e]
  go_enter Tryz.func164,Tryz.ntmps164
  go_wp2_with (go_at_call 168;refine (isNaN_i _ _).mono ?_;rintro e w' ⟨rfl,rfl⟩)
  go_ret
  exact ⟨rfl,rfl⟩
 ·have e:cmpI a b=0:=by unfold cmpI;rw [if_neg (by omega),if_neg (by omega)]
  rw [e]
  subst h
  go_enter Tryz.func164,Tryz.ntmps164
  go_wp2_with (go_at_call 168;refine (isNaN_i _ _).mono ?_;rintro e w' ⟨rfl,rfl⟩)
  go_ret
  exact ⟨rfl,rfl⟩
 ·have e:cmpI a b=1:=by unfold cmpI;rw [if_neg (by omega),if_pos h]
  have h1:¬ a<b:=by omega
  have h2:a > b:=h
  rw [e]
  go_enter Tryz.func164,Tryz.ntmps164
  go_wp2_with (go_at_call 168;refine (isNaN_i _ _).mono ?_;rintro e w' ⟨rfl,rfl⟩)
  go_ret
  exact ⟨rfl,rfl⟩
theorem cmp_s (a b:ByteArray) (w:World):Calls Tryz.prog 165 #[.string a,.string b] w fun e w' => e=.returned (.int .i64 (cmpS a b))∧w=w':=by
 have hb:=bytesLess_ltB a b
 by_cases h1:ltB a b
 ·have e:cmpS a b=-1:=by unfold cmpS;rw [if_pos h1]
  rw [decide_eq_true h1] at hb
  rw [e]
  clear h1
  go_enter Tryz.func165,Tryz.ntmps165
  go_wp2_with (go_at_call 130;refine (isNaN_s _ _).mono ?_;rintro e w' ⟨rfl,rfl⟩)
  go_ret
  exact ⟨rfl,rfl⟩
 ·rw [decide_eq_false h1] at hb
  by_cases h2:a=b
  ·have e:cmpS a b=0:=by unfold cmpS;rw [if_neg h1,if_neg (by rw [← h2];exact ltB_irrefl a)]
   have he:=toListE a
   rw [e]
   subst h2
   clear h1 e
   go_enter Tryz.func165,Tryz.ntmps165
   go_wp2_with (go_at_call 130;refine (isNaN_s _ _).mono ?_;rintro e w' ⟨rfl,rfl⟩)
   go_ret
   exact ⟨rfl,rfl⟩
  ·have e:cmpS a b=1:=by unfold cmpS;rw [if_neg h1,if_pos (ltB_total h1 h2)]
   have he:=toListN h2
   rw [e]
   clear h1 h2 e
   go_enter Tryz.func165,Tryz.ntmps165
   go_wp2_with (go_at_call 130;refine (isNaN_s _ _).mono ?_;rintro e w' ⟨rfl,rfl⟩)
   go_ret
   exact ⟨rfl,rfl⟩
theorem all18 {P:Array Value→Prop} (h:∀ u0 u1 u2 u3 u4 u5 u6 u7 u8 u9 u10 u11 u12 u13 u14 u15 u16 u17:Value,P #[u0,u1,u2,u3,u4,u5,u6,u7,u8,u9,u10,u11,u12,u13,u14,u15,u16,u17]) (a:Array Value) (hs:a.size=18):P a:=by
 obtain ⟨l⟩:=a
 have g:l.length=18:=hs
 clear hs
 iterate 18 (obtain ⟨_,l2,e,g2⟩:=Pal.len_cons g;clear g;subst e;have g:=g2;clear g2)
 obtain rfl:=List.length_eq_zero_iff.1 g
 exact h _ _ _ _ _ _ _ _ _ _ _ _ _ _ _ _ _ _
def ActO (b i:Nat) (a:Act):Prop:=a.tmps.size=18∧a.tmps[3]?=some (.int .i64 0)∧a.tmps[6]?=some (.slice (some ⟨b,0,none⟩) 2 2)∧a.tmps[7]?=some (.int .i64 2)∧a.tmps[8]?=some (.int .i64 (i:Int))∧a.defers=[]
def InvO (w0:World) (b:Nat) (x y:Int) (m:Nat) (a:Act) (w:World):Prop :=
 ∃ i,m=2 - i∧i≤2∧ActO b i a∧w0=w∧(0<i→x=0)∧(1<i→y=0)
def orI (x y:Int):Int:=if x=0 then y else x
set_option maxHeartbeats 400000 in
theorem or_any (x y:Int) (b:Nat) (w:World) (hb:Blk w b 3 #[.int .i64 x,.int .i64 y]) :
  Calls Tryz.prog 163 #[.slice (some ⟨b,0,none⟩) 2 2] w fun e w' => e=.returned (.int .i64 (orI x y))∧w=w':=by
 have c0:=hb.cell 0
 have c1:=hb.cell 1
 have hl:=hb.lt
 simp only [List.getElem?_toArray,List.getElem?_cons_zero,List.getElem?_cons_succ] at c0 c1
 go_enter Tryz.func163,Tryz.ntmps163
 go_wp2_with fail
 refine wp_loop_ghost (InvO w b x y) 2 ?_ ?_
 ·exact ⟨0,rfl,by omega,⟨rfl,rfl,rfl,rfl,rfl,rfl⟩,rfl,fun h => by omega,fun h => by omega⟩
 ·rintro m ⟨tmps,ds⟩ W ⟨i,rfl,hi,⟨hsz,t3,t6,t7,t8,rfl⟩,rfl,hx,hy⟩
  replace hsz:tmps.size=18:=hsz
  dsimp only at t3 t6 t7 t8
  revert t3 t6 t7 t8
  revert hsz
  revert tmps
  refine all18 ?_
  intro u0 u1 u2 u3 u4 u5 u6 u7 u8 u9 u10 u11 u12 u13 u14 u15 u16 u17 t3 t6 t7 t8
  simp only [List.getElem?_toArray,List.getElem?_cons_zero,List.getElem?_cons_succ,Option.some.injEq] at t3 t6 t7 t8
  subst t3 t6 t7 t8
  rcases (by omega:i=0∨i=1∨i=2) with rfl | rfl | rfl
  ·by_cases h0:x=0
   ·subst h0
    go_wp2_with fail
    exact ⟨1,by omega,1,rfl,by omega,⟨rfl,rfl,rfl,rfl,rfl,rfl⟩,rfl,fun _ => rfl,fun h => by omega⟩
   ·have e:Hid (orI x y=x):=if_neg h0
    have h1:(x != 0)=true:=by rw [bne_iff_ne];exact h0
    go_wp2_with fail
    go_ret
    exact ⟨by rw [e.out];rfl,rfl⟩
  ·have hx:=hx (by omega)
   subst hx
   by_cases h0:y=0
   ·subst h0
    go_wp2_with fail
    exact ⟨2,rfl,by omega,⟨rfl,rfl,rfl,rfl,rfl,rfl⟩,rfl,fun _ => rfl,fun _ => rfl⟩
   ·have h1:(y != 0)=true:=by rw [bne_iff_ne];exact h0
    go_wp2_with fail
    go_ret
    exact ⟨rfl,rfl⟩
  ·have hx:=hx (by omega)
   subst hx
   have hy:=hy (by omega)
   subst hy
   go_wp2_with fail
   go_ret
   exact ⟨rfl,rfl⟩
theorem orI_lt (a b:En):orI (cmpI a.s b.s) (cmpS a.m b.m)<0 ↔ ltE a b:=by
 unfold orI cmpI cmpS ltE
 rcases Int.lt_trichotomy a.s b.s with h | h | h
 ·rw [if_pos h,if_neg (by decide:¬ (-1:Int)=0)]
  exact ⟨fun _ => .inl h,fun _ => by decide⟩
 ·have n1:¬ a.s<b.s:=by omega
  have n2:¬ b.s<a.s:=by omega
  rw [if_neg n1,if_neg n2,if_pos rfl]
  by_cases h1:ltB a.m b.m
  ·rw [if_pos h1];exact ⟨fun _ => .inr ⟨h,h1⟩,fun _ => by decide⟩
  ·rw [if_neg h1]
   refine ⟨fun h' => ?_,fun h' => h'.elim (fun h' => by omega) fun h' => absurd h'.2 h1⟩
   split at h' <;> omega
 ·have n1:¬ a.s<b.s:=by omega
  rw [if_neg n1,if_pos h,if_neg (by decide:¬ (1:Int)=0)]
  exact ⟨fun h' => absurd h' (by decide),fun h' => h'.elim (fun h' => by omega) fun h' => by omega⟩
set_option maxHeartbeats 1000000 in
theorem less_E (a b:En) (w:World):Calls Tryz.prog 158 #[a.val,b.val] w fun e w' => e=.returned (.bool (decide (ltE a b)))∧Chg (fun _ => False) w w':=by
 have hx:Blk ((w.alloc (.cells #[.string a.m,.int .i64 a.s] 68)).alloc (.cells #[.string b.m,.int .i64 b.s] 68)) w.heap.size 68 #[.string a.m,.int .i64 a.s]:=(Blk.new w _ _).alloc _
 have hy:Blk ((w.alloc (.cells #[.string a.m,.int .i64 a.s] 68)).alloc (.cells #[.string b.m,.int .i64 b.s] 68)) (w.heap.size+1) 68 #[.string b.m,.int .i64 b.s]:=by
  have:=Blk.new (w.alloc (.cells #[.string a.m,.int .i64 a.s] 68)) 68 #[.string b.m,.int .i64 b.s]
  rw [World.size_alloc] at this
  exact this
 have hC:Chg (fun _ => False) w ((w.alloc (.cells #[.string a.m,.int .i64 a.s] 68)).alloc (.cells #[.string b.m,.int .i64 b.s] 68)):=((Chg.refl _ w).alloc _).alloc _
 unfold En.val
 go_enter Tryz.func158,Tryz.ntmps158
 go_wp2_with fail
 generalize (w.alloc (.cells #[.string a.m,.int .i64 a.s] 68)).alloc (.cells #[.string b.m,.int .i64 b.s] 68)=W at *
 have hS:∀ W',Chg (fun _ => False) W W'→W'.cell? ⟨w.heap.size,0,none⟩=some (.string a.m)∧W'.cell? ⟨w.heap.size,1,none⟩=some (.int .i64 a.s)∧W'.cell? ⟨w.heap.size+1,0,none⟩=some (.string b.m)∧W'.cell? ⟨w.heap.size+1,1,none⟩=some (.int .i64 b.s):=fun W' hc =>
  ⟨(hx.chg hc id).cell 0,(hx.chg hc id).cell 1,(hy.chg hc id).cell 0,(hy.chg hc id).cell 1⟩
 have hor:=fun W' => or_any (cmpI a.s b.s) (cmpS a.m b.m) W.heap.size W'
 go_region_held3 (fun W' => W'.cell? ⟨w.heap.size,0,none⟩=some (.string a.m)∧W'.cell? ⟨w.heap.size,1,none⟩=some (.int .i64 a.s)∧W'.cell? ⟨w.heap.size+1,0,none⟩=some (.string b.m)∧W'.cell? ⟨w.heap.size+1,1,none⟩=some (.int .i64 b.s)) (first | exact hS _ (Chg.refl _ _).drew | exact hS _ ((Chg.refl _ _).alloc _).drew | fail)
  (first
   | (go_at_call 164;refine (cmp_i _ _ _).mono ?_;rintro e9 w9 ⟨rfl,rfl⟩)
   | (go_at_call 165;refine (cmp_s _ _ _).mono ?_;rintro e9 w9 ⟨rfl,rfl⟩)
   | (go_at_call 163;refine (hor _ ((Blk.new W _ _).drew)).mono ?_;rintro e9 w9 ⟨rfl,rfl⟩)
   | fail)
 all_goals
  go_wp2_with fail
  go_ret
  refine ⟨?_,hC.trans ((Chg.refl _ _).alloc _).drew⟩
  show Ending.returned (.bool (decide (orI (cmpI a.s b.s) (cmpS a.m b.m)<0)))=_
  rw [decide_eq_decide.2 (orI_lt a b)]
end Go.Proofs.YtehpmbmdadkhbaaGreatDoor

namespace Go.Proofs.YtehpmbmdadkhbaaGreatDoor
open Go.RowKit Pal
section
variable {α β:Type} (key:α→ByteArray) (keyb:β→ByteArray)
def SoK (l:List α):Prop:=l.Pairwise fun a b => ltB (key a) (key b)
def findK (l:List α) (k:ByteArray):Option α:=l.find? fun i => decide (key i=k)
def updK (l:List α) (x:α):List α:=l.map fun i => if key i=key x then x else i
def insK (x:α):List α→List α
 | [] => [x]
 | i :: l => if ltB (key x) (key i) then x :: i :: l else i :: insK x l
def cutK (l:List α) (k:ByteArray):List α:=l.filter fun i => !decide (key i=k)
variable {key keyb}
theorem ltK_ne {a b:ByteArray} (h:ltB a b):a≠b:=fun e => absurd h (by rw [e];exact List.lt_irrefl _)
theorem ltK_total {a b:ByteArray} (h:¬ ltB a b) (hne:a≠b):ltB b a:=by
 unfold ltB at *
 by_cases h2:b.data.toList<a.data.toList
 ·exact h2
 ·exact absurd (by cases a;cases b;congr;exact Array.toList_inj.1 (List.le_antisymm (List.not_lt.1 h2) (List.not_lt.1 h))) hne
theorem findK_some {l:List α} (so:SoK key l) {k:ByteArray} {i:α}:findK key l k=some i ↔ i∈l∧key i=k:=by
 unfold findK
 constructor
 ·intro h
  exact ⟨List.mem_of_find?_eq_some h,by simpa using List.find?_some h⟩
 ·rintro ⟨hi,rfl⟩
  induction l with
  | nil => cases hi
  | cons x l ih =>
   unfold SoK at so
   rw [List.pairwise_cons] at so
   rw [List.find?_cons]
   rcases List.mem_cons.1 hi with rfl | hi
   ·simp
   ·have hne:=ltK_ne (so.1 i hi)
    rw [decide_eq_false hne]
    exact ih so.2 hi
theorem findK_none {l:List α} {k:ByteArray}:findK key l k=none ↔ ∀ i∈l,key i≠k:=by
 unfold findK
 rw [List.find?_eq_none]
 constructor
 ·intro h i hi e
  exact h i hi (by simpa using e)
 ·intro h i hi e
  exact h i hi (by simpa using e)
theorem updK_len (l:List α) (x:α):(updK key l x).length=l.length:=by unfold updK;exact List.length_map ..
theorem updK_keys (l:List α) (x:α):(updK key l x).map key=l.map key:=by
 unfold updK
 rw [List.map_map]
 refine List.map_congr_left fun i _ => ?_
 show key (if key i=key x then x else i)=key i
 split
 ·rename_i h;exact h.symm
 ·rfl
theorem mem_updK {l:List α} {x j:α} (h:j∈updK key l x):j=x∨(j∈l∧key j≠key x):=by
 unfold updK at h
 obtain ⟨i,hi,rfl⟩:=List.mem_map.1 h
 split
 ·exact .inl rfl
 ·rename_i hne;exact .inr ⟨hi,hne⟩
theorem so_keys {l l':List α} (h:l'.map key=l.map key) (so:SoK key l):SoK key l':=by
 have h1:(l.map key).Pairwise ltB:=List.pairwise_map.2 so
 rw [← h] at h1
 exact List.pairwise_map.1 h1
theorem updK_so {l:List α} (so:SoK key l) (x:α):SoK key (updK key l x):=so_keys (updK_keys l x) so
theorem mem_insK {x j:α}:∀ {l:List α},j∈insK key x l ↔ j=x∨j∈l
 | [] => by simp [insK]
 | i :: l => by
  unfold insK
  split
  ·simp
  ·rw [List.mem_cons,mem_insK (l:=l),List.mem_cons]
   constructor
   ·rintro (h | h | h)
    ·exact .inr (.inl h)
    ·exact .inl h
    ·exact .inr (.inr h)
   ·rintro (h | h | h)
    ·exact .inr (.inl h)
    ·exact .inl h
    ·exact .inr (.inr h)
theorem insK_len (x:α):∀ l:List α,(insK key x l).length=l.length+1
 | [] => rfl
 | i :: l => by
  unfold insK
  split
  ·rfl
  ·rw [List.length_cons,insK_len x l,List.length_cons]
theorem insK_so {x:α}:∀ {l:List α},SoK key l→(∀ j∈l,key j≠key x)→SoK key (insK key x l)
 | [],_,_ => by unfold SoK;simp [insK]
 | i :: l,so,hno => by
  have so0:=so
  unfold SoK at so
  rw [List.pairwise_cons] at so
  unfold insK
  split
  ·rename_i h
   unfold SoK
   rw [List.pairwise_cons]
   refine ⟨fun j hj => ?_,so0⟩
   rcases List.mem_cons.1 hj with rfl | hj
   ·exact h
   ·exact List.lt_trans h (so.1 j hj)
  ·rename_i h
   unfold SoK
   rw [List.pairwise_cons]
   refine ⟨fun j hj => ?_,insK_so so.2 fun j hj => hno j (List.mem_cons_of_mem _ hj)⟩
   rcases mem_insK.1 hj with rfl | hj
   ·exact ltK_total h fun e => hno i (List.mem_cons_self) e.symm
   ·exact so.1 j hj
theorem cutK_so {l:List α} (so:SoK key l) (k:ByteArray):SoK key (cutK key l k):=List.Pairwise.filter _ so
theorem mem_cutK {l:List α} {k:ByteArray} {j:α}:j∈cutK key l k ↔ j∈l∧key j≠k:=by
 unfold cutK
 rw [List.mem_filter]
 simp
theorem cutK_none {l:List α} {k:ByteArray} (h:∀ i∈l,key i≠k):cutK key l k=l:=by
 unfold cutK
 rw [List.filter_eq_self]
 intro i hi
 rw [decide_eq_false (h i hi)];rfl
theorem cutK_len:∀ {l:List α},SoK key l→∀ (k:ByteArray),(cutK key l k).length=if (findK key l k).isSome then l.length - 1 else l.length
 | [],_,_ => rfl
 | i :: l,so,k => by
  unfold SoK at so
  rw [List.pairwise_cons] at so
  by_cases hk:key i=k
  ·have hno:∀ j∈l,key j≠k:=fun j hj e => ltK_ne (so.1 j hj) (hk.trans e.symm)
   have e1:cutK key (i :: l) k=l:=by
    unfold cutK
    rw [List.filter_cons_of_neg (by simp [hk])]
    exact cutK_none hno
   have e2:findK key (i :: l) k=some i:=by unfold findK;rw [List.find?_cons];simp [hk]
   rw [e1,e2];rfl
  ·have e1:cutK key (i :: l) k=i :: cutK key l k:=by unfold cutK;rw [List.filter_cons_of_pos (by simp [hk])]
   have e2:findK key (i :: l) k=findK key l k:=by unfold findK;rw [List.find?_cons,decide_eq_false hk]
   rw [e1,e2,List.length_cons,cutK_len so.2 k]
   split
   ·rename_i h
    have:0<l.length:=by
     cases l with
     | nil => simp [findK] at h
     | cons _ _ => simp
    rw [List.length_cons];omega
   ·rfl
theorem findK_upd {l:List α} (so:SoK key l) {x:α} (h:∃ i∈l,key i=key x) (k:ByteArray):findK key (updK key l x) k=if k=key x then some x else findK key l k:=by
 have so':=updK_so so x
 have hm:x∈updK key l x:=by
  obtain ⟨i,hi,e⟩:=h
  exact List.mem_map.2 ⟨i,hi,if_pos e⟩
 by_cases hk:k=key x
 ·rw [if_pos hk]
  exact (findK_some so').2 ⟨hm,hk.symm⟩
 ·rw [if_neg hk]
  cases hf:findK key l k with
  | none =>
   rw [findK_none] at hf ⊢
   intro j hj
   rcases mem_updK hj with rfl | ⟨hj,_⟩
   ·exact fun e => hk e.symm
   ·exact hf j hj
  | some i =>
   obtain ⟨hi,rfl⟩:=(findK_some so).1 hf
   exact (findK_some so').2 ⟨List.mem_map.2 ⟨i,hi,if_neg hk⟩,rfl⟩
theorem findK_ins {l:List α} (so:SoK key l) {x:α} (hno:∀ j∈l,key j≠key x) (k:ByteArray):findK key (insK key x l) k=if k=key x then some x else findK key l k:=by
 have so':=insK_so so hno
 by_cases hk:k=key x
 ·rw [if_pos hk]
  exact (findK_some so').2 ⟨mem_insK.2 (.inl rfl),hk.symm⟩
 ·rw [if_neg hk]
  cases hf:findK key l k with
  | none =>
   rw [findK_none] at hf ⊢
   intro j hj
   rcases mem_insK.1 hj with rfl | hj
   ·exact fun e => hk e.symm
   ·exact hf j hj
  | some i =>
   obtain ⟨hi,rfl⟩:=(findK_some so).1 hf
   exact (findK_some so').2 ⟨mem_insK.2 (.inr hi),rfl⟩
theorem findK_cut {l:List α} (so:SoK key l) (k0 k:ByteArray):findK key (cutK key l k0) k=if k=k0 then none else findK key l k:=by
 by_cases hk:k=k0
 ·rw [if_pos hk,findK_none]
  intro j hj
  rw [hk]
  exact (mem_cutK.1 hj).2
 ·rw [if_neg hk]
  cases hf:findK key l k with
  | none =>
   rw [findK_none] at hf ⊢
   exact fun j hj => hf j (mem_cutK.1 hj).1
  | some i =>
   obtain ⟨hi,rfl⟩:=(findK_some so).1 hf
   exact (findK_some (cutK_so so k0)).2 ⟨mem_cutK.2 ⟨hi,hk⟩,rfl⟩
variable {f:α→β} (hf:∀ x,keyb (f x)=key x)
include hf
theorem findK_map (l:List α) (k:ByteArray):findK keyb (l.map f) k=(findK key l k).map f:=by
 unfold findK
 rw [List.find?_map]
 congr 1
 congr 1
 funext x
 simp [hf]
theorem updK_map (l:List α) (x:α):(updK key l x).map f=updK keyb (l.map f) (f x):=by
 unfold updK
 rw [List.map_map,List.map_map]
 refine List.map_congr_left fun i _ => ?_
 simp only [Function.comp,hf]
 split <;> rfl
theorem insK_map (x:α):∀ l:List α,(insK key x l).map f=insK keyb (f x) (l.map f)
 | [] => rfl
 | i :: l => by
  rw [List.map_cons]
  unfold insK
  rw [hf,hf]
  split
  ·rfl
  ·rw [List.map_cons,insK_map x l]
theorem cutK_map (l:List α) (k:ByteArray):(cutK key l k).map f=cutK keyb (l.map f) k:=by
 unfold cutK
 rw [List.filter_map]
 congr 1
 congr 1
 funext x
 simp [hf]
theorem so_map {l:List α}:SoK keyb (l.map f) ↔ SoK key l:=by
 unfold SoK
 rw [List.pairwise_map]
 constructor
 ·intro h;exact h.imp fun h => by rw [hf,hf] at h;exact h
 ·intro h;exact h.imp fun h => by rw [hf,hf];exact h
end
end Go.Proofs.YtehpmbmdadkhbaaGreatDoor

namespace Go.Proofs.YtehpmbmdadkhbaaGreatDoor
open Go.RowKit Pal
structure Us where
 c:Int
 a:Int
def Us.Ok (u:Us):Prop:=(0≤u.c∧u.c≤255)∧0≤u.a∧u.a≤9223372036854775807
def Us.cs (u:Us):Array Value:=#[.int .i64 u.c,.int .i64 u.a]
def cntU (u:Us) (now:Int):Option Int:=if now<u.a then none else some (max 0 (u.c - (now - u.a)))
def stepsU (n:Int):Int:=10 * max 0 (n - 5)+1
def tchU (u:Us) (now:Int) (draw:Nat):Option Us:=(cntU u now).map fun n => ⟨if n<255∧(draw:Int) % stepsU n=0 then n+1 else n,now⟩
theorem cntU_le {u:Us} (h:u.Ok) {now n:Int} (hn:cntU u now=some n):0≤n∧n≤255∧u.a≤now:=by
 unfold cntU at hn
 split at hn
 ·cases hn
 ·injection hn with hn
  have:=h.1
  omega
theorem cntU_none {u:Us} {now:Int}:cntU u now=none ↔ now<u.a:=by
 unfold cntU
 split
 ·rename_i h;simp [h]
 ·rename_i h;simp [h]
theorem tchU_ok {u:Us} (h:u.Ok) {now:Int} (hw:now≤9223372036854775807) {draw:Nat} {u':Us} (ht:tchU u now draw=some u'):u'.Ok∧u'.a=now:=by
 unfold tchU at ht
 cases hc:cntU u now with
 | none => rw [hc] at ht;cases ht
 | some n =>
  rw [hc] at ht
  injection ht with ht
  have:=cntU_le h hc
  have h2:=h.2
  subst ht
  refine ⟨⟨?_,?_⟩,rfl⟩
  ·show 0≤(if n<255∧_ then n+1 else n)∧(if n<255∧_ then n+1 else n)≤255
   split <;> omega
  ·show 0≤now∧now≤9223372036854775807
   omega
def leastF (at_:Nat) (least:Int):Nat→List Int→Nat × Int
 | _,[] => (at_,least)
 | i,n :: l => if n<least then leastF i n (i+1) l else leastF at_ least (i+1) l
def leastL (l:List Int):Nat:=(leastF 0 256 0 l).1
theorem leastF_spec:∀ (l:List Int) (i at_:Nat) (least:Int) (p:List Int),p.length=i→(∀ n∈l,n≤255) →
  ((p=[]∧at_=0∧least=256)∨(p[at_]?=some least∧∀ n∈p,least≤n))→(p++l≠[])→(p++l)[(leastF at_ least i l).1]?=some (leastF at_ least i l).2∧∀ n∈p++l,(leastF at_ least i l).2≤n
 | [],i,at_,least,p,_,_,h,hne => by
  rw [List.append_nil] at hne ⊢
  rcases h with ⟨h,_⟩ | h
  ·exact absurd h hne
  ·exact h
 | n :: l,i,at_,least,p,hp,hl,h,hne => by
  have e:p++n :: l=(p++[n])++l:=by simp
  unfold leastF
  rw [e] at hne ⊢
  have h255:=hl n (List.mem_cons_self)
  split
  ·rename_i hlt
   refine leastF_spec l (i+1) i n (p++[n]) (by simp [hp]) (fun m hm => hl m (List.mem_cons_of_mem _ hm)) (.inr ⟨?_,fun m hm => ?_⟩) hne
   ·rw [List.getElem?_append_right (by omega),← hp];simp
   ·rcases List.mem_append.1 hm with hm | hm
    ·rcases h with ⟨rfl,_⟩ | h
     ·cases hm
     ·have:=h.2 m hm;omega
    ·rw [List.mem_singleton] at hm;omega
  ·rename_i hlt
   refine leastF_spec l (i+1) at_ least (p++[n]) (by simp [hp]) (fun m hm => hl m (List.mem_cons_of_mem _ hm)) (.inr ?_) hne
   rcases h with ⟨rfl,rfl,rfl⟩ | h
   ·omega
   ·refine ⟨?_,fun m hm => ?_⟩
    ·have:=(List.getElem?_eq_some_iff.1 h.1).1
     rw [List.getElem?_append_left this];exact h.1
    ·rcases List.mem_append.1 hm with hm | hm
     ·exact h.2 m hm
     ·rw [List.mem_singleton] at hm;omega
theorem leastL_spec {l:List Int} (hne:l≠[]) (hl:∀ n∈l,n≤255):∃ m,l[leastL l]?=some m∧∀ n∈l,m≤n:=by
 have:=leastF_spec l 0 0 256 [] rfl hl (.inl ⟨rfl,rfl,rfl⟩) (by simpa using hne)
 rw [List.nil_append] at this
 exact ⟨_,this.1,this.2⟩
theorem leastL_lt {l:List Int} (hne:l≠[]) (hl:∀ n∈l,n≤255):leastL l<l.length:=by
 obtain ⟨m,h,_⟩:=leastL_spec hne hl
 exact (List.getElem?_eq_some_iff.1 h).1
end Go.Proofs.YtehpmbmdadkhbaaGreatDoor

namespace Pal.Skip
def ab (lv:List Nat) (i q:Nat):Prop:=1≤q∧q≤lv.length∧i<lv.getD (q - 1) 0
instance (lv:List Nat) (i q:Nat):Decidable (ab lv i q):=inferInstanceAs (Decidable (_∧_∧_))
def find (lv:List Nat) (i p:Nat):Nat→Option Nat
 | 0 => none
 | m+1 => match find lv i p m with
  | some q => some q
  | none => if ab lv i (p+m+1) then some (p+m+1) else none
def nxt (lv:List Nat) (i p:Nat):Option Nat:=find lv i p (lv.length - p)
def span (lv:List Nat) (i p:Nat):Nat:=match nxt lv i p with
 | some q => q - p
 | none => lv.length - p
def prev (lv:List Nat) (i:Nat):Nat→Nat
 | 0 => 0
 | k+1 => if ab lv i (k+1) then k+1 else prev lv i k
theorem find_some {lv:List Nat} {i p:Nat}:∀ {m q:Nat},find lv i p m=some q ↔ p<q∧q≤p+m∧ab lv i q∧∀ r,p<r→r<q→¬ ab lv i r
 | 0,q => by
  unfold find
  constructor
  ·intro h;cases h
  ·rintro ⟨h1,h2,_⟩;omega
 | m+1,q => by
  unfold find
  cases h:find lv i p m with
  | some q' =>
   obtain ⟨h1,h2,h3,h4⟩:=find_some.1 h
   dsimp only
   constructor
   ·intro e;injection e with e;subst e;exact ⟨h1,by omega,h3,h4⟩
   ·rintro ⟨g1,g2,g3,g4⟩
    rcases Nat.lt_trichotomy q q' with h' | h' | h'
    ·exact absurd g3 (h4 q g1 h')
    ·rw [h']
    ·exact absurd h3 (g4 q' h1 h')
  | none =>
   have hn:∀ r,p<r→r≤p+m→¬ ab lv i r:=by
    intro r h1 h2 h3
    -- the least such
    have:∃ s,p<s∧s≤r∧ab lv i s∧∀ t,p<t→t<s→¬ ab lv i t:=by
     clear h
     induction r using Nat.strongRecOn with
     | _ r ih =>
      by_cases hx:∃ t,p<t∧t<r∧ab lv i t
      ·obtain ⟨t,t1,t2,t3⟩:=hx
       obtain ⟨s,s1,s2,s3,s4⟩:=ih t t2 t1 (by omega) t3
       exact ⟨s,s1,by omega,s3,s4⟩
      ·exact ⟨r,h1,Nat.le_refl _,h3,fun t t1 t2 t3 => hx ⟨t,t1,t2,t3⟩⟩
    obtain ⟨s,s1,s2,s3,s4⟩:=this
    have:=(find_some (m:=m) (q:=s)).2 ⟨s1,by omega,s3,s4⟩
    rw [h] at this
    cases this
   dsimp only
   split
   ·rename_i ha
    constructor
    ·intro e;injection e with e;subst e;exact ⟨by omega,by omega,ha,fun r h1 h2 => hn r h1 (by omega)⟩
    ·rintro ⟨g1,g2,g3,g4⟩
     rcases Nat.lt_or_ge q (p+m+1) with h' | h'
     ·exact absurd g3 (hn q g1 (by omega))
     ·rw [show q=p+m+1 by omega]
   ·rename_i ha
    constructor
    ·intro e;cases e
    ·rintro ⟨g1,g2,g3,g4⟩
     rcases Nat.lt_or_ge q (p+m+1) with h' | h'
     ·exact absurd g3 (hn q g1 (by omega))
     ·rw [show q=p+m+1 by omega] at g3;exact absurd g3 ha
theorem nxt_some {lv:List Nat} {i p q:Nat}:nxt lv i p=some q ↔ p<q∧ab lv i q∧∀ r,p<r→r<q→¬ ab lv i r:=by
 unfold nxt
 rw [find_some]
 constructor
 ·rintro ⟨h1,_,h2,h3⟩;exact ⟨h1,h2,h3⟩
 ·rintro ⟨h1,h2,h3⟩;exact ⟨h1,by have:=h2.2.1;omega,h2,h3⟩
theorem nxt_none {lv:List Nat} {i p:Nat}:nxt lv i p=none ↔ ∀ r,p<r→¬ ab lv i r:=by
 constructor
 ·intro h r h1 h2
  have:∃ s,p<s∧ab lv i s∧∀ t,p<t→t<s→¬ ab lv i t:=by
   clear h
   induction r using Nat.strongRecOn with
   | _ r ih =>
    by_cases hx:∃ t,p<t∧t<r∧ab lv i t
    ·obtain ⟨t,t1,t2,t3⟩:=hx
     exact ih t t2 t1 t3
    ·exact ⟨r,h1,h2,fun t t1 t2 t3 => hx ⟨t,t1,t2,t3⟩⟩
  obtain ⟨s,s1,s2,s3⟩:=this
  have:=nxt_some.2 ⟨s1,s2,s3⟩
  rw [h] at this
  cases this
 ·intro h
  cases hx:nxt lv i p with
  | none => rfl
  | some q => exact absurd (nxt_some.1 hx).2.1 (h q (nxt_some.1 hx).1)
theorem prev_spec (lv:List Nat) (i:Nat):∀ k,prev lv i k≤k∧(prev lv i k=0∨ab lv i (prev lv i k))∧∀ r,prev lv i k<r→r≤k→¬ ab lv i r
 | 0 => ⟨Nat.le_refl _,.inl rfl,fun r h1 h2 => by have h1:0<r:=h1;omega⟩
 | k+1 => by
  obtain ⟨h1,h2,h3⟩:=prev_spec lv i k
  unfold prev
  split
  ·rename_i h
   exact ⟨Nat.le_refl _,.inr h,fun r g1 g2 => by omega⟩
  ·rename_i h
   refine ⟨by omega,h2,fun r g1 g2 => ?_⟩
   rcases Nat.lt_or_ge k r with g3 | g3
   ·rw [show r=k+1 by omega];exact h
   ·exact h3 r g1 g3
theorem prev_eq {lv:List Nat} {i k p:Nat} (h1:p≤k) (h2:p=0∨ab lv i p) (h3:∀ r,p<r→r≤k→¬ ab lv i r):prev lv i k=p:=by
 obtain ⟨g1,g2,g3⟩:=prev_spec lv i k
 rcases Nat.lt_trichotomy (prev lv i k) p with h | h | h
 ·rcases h2 with h2 | h2
  ·omega
  ·exact absurd h2 (g3 p h h1)
 ·exact h
 ·rcases g2 with g2 | g2
  ·omega
  ·exact absurd g2 (h3 _ h g1)
theorem ab_up {lv:List Nat} {i j q:Nat} (h:i≤j) (ha:ab lv j q):ab lv i q:=⟨ha.1,ha.2.1,Nat.lt_of_le_of_lt h ha.2.2⟩
theorem walk_end {lv:List Nat} {i k p:Nat} (hp:p=0∨ab lv i p) (hk:p≤k) (hn:∀ q,nxt lv i p=some q→k<q):prev lv i k=p:=by
 refine prev_eq hk hp fun r h1 h2 h3 => ?_
 cases hx:nxt lv i p with
 | none => exact nxt_none.1 hx r h1 h3
 | some q =>
  have h4:=hn q hx
  exact (nxt_some.1 hx).2.2 r h1 (by omega) h3
theorem span_some {lv:List Nat} {i p q:Nat} (h:nxt lv i p=some q):p+span lv i p=q:=by
 unfold span;rw [h]
 have:=(nxt_some.1 h).1
 dsimp only
 omega
def ins (lv:List Nat) (k l:Nat):List Nat:=lv.take k++l :: lv.drop k
theorem ins_len {lv:List Nat} {k:Nat} (h:k≤lv.length) (l:Nat):(ins lv k l).length=lv.length+1:=by
 unfold ins;rw [List.length_append,List.length_cons,List.length_take,List.length_drop];omega
theorem ins_get {lv:List Nat} {k:Nat} (h:k≤lv.length) (l j:Nat):(ins lv k l).getD j 0=if j<k then lv.getD j 0 else if j=k then l else lv.getD (j - 1) 0:=by
 unfold ins
 rw [List.getD_eq_getElem?_getD,List.getD_eq_getElem?_getD,List.getD_eq_getElem?_getD]
 split
 ·rename_i hj
  rw [List.getElem?_append_left (by rw [List.length_take];omega),List.getElem?_take_of_lt hj]
 ·rename_i hj
  rw [List.getElem?_append_right (by rw [List.length_take];omega),List.length_take,Nat.min_eq_left h]
  split
  ·rename_i e;rw [e,Nat.sub_self];rfl
  ·rename_i e
   obtain ⟨m,hm⟩:∃ m,j - k=m+1:=⟨j - k - 1,by omega⟩
   rw [hm,List.getElem?_cons_succ,List.getElem?_drop,show k+m=j - 1 by omega]
theorem ins_ab {lv:List Nat} {k:Nat} (h:k≤lv.length) (l i q:Nat):ab (ins lv k l) i q ↔ if q≤k then ab lv i q else if q=k+1 then i<l else ab lv i (q - 1):=by
 unfold ab
 rw [ins_len h,ins_get h]
 by_cases h1:q≤k
 ·rw [if_pos h1]
  by_cases h0:1≤q
  ·rw [if_pos (by omega)]
   exact ⟨fun ⟨a,_,c⟩ => ⟨a,by omega,c⟩,fun ⟨a,_,c⟩ => ⟨a,by omega,c⟩⟩
  ·exact ⟨fun ⟨a,_⟩ => absurd a h0,fun ⟨a,_⟩ => absurd a h0⟩
 ·rw [if_neg h1,if_neg (by omega:¬ q - 1<k)]
  by_cases h2:q=k+1
  ·rw [if_pos h2,if_pos (by omega)]
   exact ⟨fun ⟨_,_,c⟩ => c,fun c => ⟨by omega,by omega,c⟩⟩
  ·rw [if_neg h2,if_neg (by omega)]
   exact ⟨fun ⟨_,b,c⟩ => ⟨by omega,by omega,c⟩,fun ⟨_,b,c⟩ => ⟨by omega,by omega,c⟩⟩
def up (k q:Nat):Nat:=if q≤k then q else q+1
theorem ins_nxt_far {lv:List Nat} {k:Nat} (h:k≤lv.length) {l i p q:Nat} (hn:nxt lv i p=some q) (hq:q≤k):nxt (ins lv k l) i p=some q:=by
 obtain ⟨h1,h2,h3⟩:=nxt_some.1 hn
 refine nxt_some.2 ⟨h1,(ins_ab h l i q).2 (by rw [if_pos hq];exact h2),fun r g1 g2 g3 => ?_⟩
 rw [ins_ab h,if_pos (by omega)] at g3
 exact h3 r g1 g2 g3
theorem ins_nxt_new {lv:List Nat} {k:Nat} (h:k≤lv.length) {l i p:Nat} (hp:p≤k) (hn:∀ q,nxt lv i p=some q→k<q) (hl:i<l):nxt (ins lv k l) i p=some (k+1):=by
 refine nxt_some.2 ⟨by omega,(ins_ab h l i _).2 (by rw [if_neg (by omega),if_pos rfl];exact hl),fun r g1 g2 g3 => ?_⟩
 rw [ins_ab h,if_pos (by omega)] at g3
 cases hx:nxt lv i p with
 | none => exact nxt_none.1 hx r g1 g3
 | some q => exact (nxt_some.1 hx).2.2 r g1 (by have:=hn q hx;omega) g3
theorem ins_nxt_over {lv:List Nat} {k:Nat} (h:k≤lv.length) {l i p:Nat} (hp:p≤k) (hn:∀ q,nxt lv i p=some q→k<q) (hl:l≤i):nxt (ins lv k l) i p=(nxt lv i p).map (·+1):=by
 cases hx:nxt lv i p with
 | none =>
  rw [Option.map_none,nxt_none]
  intro r g1 g3
  rw [ins_ab h] at g3
  split at g3
  ·exact nxt_none.1 hx r g1 g3
  ·split at g3
   ·omega
   ·exact nxt_none.1 hx (r - 1) (by omega) g3
 | some q =>
  have hq:=hn q hx
  obtain ⟨h1,h2,h3⟩:=nxt_some.1 hx
  rw [Option.map_some,nxt_some]
  refine ⟨by omega,(ins_ab h l i _).2 (by rw [if_neg (by omega),if_neg (by omega)];exact h2),fun r g1 g2 g3 => ?_⟩
  rw [ins_ab h] at g3
  split at g3
  ·exact h3 r g1 (by omega) g3
  ·split at g3
   ·omega
   ·exact h3 (r - 1) (by omega) (by omega) g3
theorem ins_nxt_behind {lv:List Nat} {k:Nat} (h:k≤lv.length) {l i p:Nat} (hp:k≤p):nxt (ins lv k l) i (p+1)=(nxt lv i p).map (·+1):=by
 cases hx:nxt lv i p with
 | none =>
  rw [Option.map_none,nxt_none]
  intro r g1 g3
  rw [ins_ab h,if_neg (by omega),if_neg (by omega)] at g3
  exact nxt_none.1 hx (r - 1) (by omega) g3
 | some q =>
  obtain ⟨h1,h2,h3⟩:=nxt_some.1 hx
  rw [Option.map_some,nxt_some]
  refine ⟨by omega,(ins_ab h l i _).2 (by rw [if_neg (by omega),if_neg (by omega)];exact h2),fun r g1 g2 g3 => ?_⟩
  rw [ins_ab h,if_neg (by omega),if_neg (by omega)] at g3
  exact h3 (r - 1) (by omega) (by omega) g3
theorem nxt_prev {lv:List Nat} {i k:Nat}:nxt lv i (prev lv i k)=nxt lv i k:=by
 obtain ⟨h1,h2,h3⟩:=prev_spec lv i k
 cases hx:nxt lv i k with
 | none =>
  rw [nxt_none]
  intro r g1 g2
  rcases Nat.lt_or_ge k r with g | g
  ·exact nxt_none.1 hx r g g2
  ·exact h3 r g1 g g2
 | some q =>
  obtain ⟨g1,g2,g3⟩:=nxt_some.1 hx
  rw [nxt_some]
  refine ⟨by omega,g2,fun r f1 f2 f3 => ?_⟩
  rcases Nat.lt_or_ge k r with g | g
  ·exact g3 r g f2 f3
  ·exact h3 r f1 g f3
theorem span_far {lv:List Nat} {k:Nat} (h:k≤lv.length) {l i p q:Nat} (hn:nxt lv i p=some q) (hq:q≤k):span (ins lv k l) i p=span lv i p:=by
 unfold span
 rw [ins_nxt_far h hn hq,hn]
theorem span_new {lv:List Nat} {k:Nat} (h:k≤lv.length) {l i p:Nat} (hp:p≤k) (hn:∀ q,nxt lv i p=some q→k<q) (hl:i<l):span (ins lv k l) i p=k - p+1:=by
 unfold span
 rw [ins_nxt_new h hp hn hl]
 dsimp only
 omega
theorem span_over {lv:List Nat} {k:Nat} (h:k≤lv.length) {l i p:Nat} (hp:p≤k) (hn:∀ q,nxt lv i p=some q→k<q) (hl:l≤i):span (ins lv k l) i p=span lv i p+1:=by
 unfold span
 rw [ins_nxt_over h hp hn hl]
 cases hx:nxt lv i p with
 | none => rw [Option.map_none];dsimp only;rw [ins_len h];omega
 | some q => rw [Option.map_some];have:=hn q hx;dsimp only;omega
theorem span_behind {lv:List Nat} {k:Nat} (h:k≤lv.length) {l i p:Nat} (hp:k≤p):span (ins lv k l) i (p+1)=span lv i p:=by
 unfold span
 rw [ins_nxt_behind h hp]
 cases hx:nxt lv i p with
 | none => rw [Option.map_none];dsimp only;rw [ins_len h];omega
 | some q => rw [Option.map_some];dsimp only;omega
theorem span_own {lv:List Nat} {k:Nat} (h:k≤lv.length) {l i:Nat}:(span (ins lv k l) i (k+1):Int)=(span lv i (prev lv i k):Int) - ((k:Int) - (prev lv i k:Int)):=by
 rw [span_behind h (Nat.le_refl _)]
 obtain ⟨h1,h2,h3⟩:=prev_spec lv i k
 have hn:=nxt_prev (lv:=lv) (i:=i) (k:=k)
 unfold span
 rw [hn]
 cases hx:nxt lv i k with
 | none => dsimp only;omega
 | some q => have:=(nxt_some.1 hx).1;dsimp only;omega
def top (lv:List Nat):Nat:=lv.foldr max 0
theorem top_le {lv:List Nat}:∀ l∈lv,l≤top lv:=by
 induction lv with
 | nil => intro l h;cases h
 | cons x t ih =>
  intro l h
  have e:top (x :: t)=max x (top t):=rfl
  rw [e]
  rcases List.mem_cons.1 h with rfl | h
  ·omega
  ·have:=ih l h;omega
theorem top_mem {lv:List Nat}:top lv=0∨top lv∈lv:=by
 induction lv with
 | nil => exact .inl rfl
 | cons x t ih =>
  have e:top (x :: t)=max x (top t):=rfl
  rw [e]
  rcases Nat.le_total x (top t) with h | h
  ·rw [Nat.max_eq_right h]
   rcases ih with h' | h'
   ·exact .inl h'
   ·exact .inr (List.mem_cons_of_mem _ h')
  ·rw [Nat.max_eq_left h];exact .inr List.mem_cons_self
theorem ab_mem {lv:List Nat} {i:Nat}:(∃ q,ab lv i q) ↔ ∃ l∈lv,i<l:=by
 constructor
 ·rintro ⟨q,h1,h2,h3⟩
  rw [List.getD_eq_getElem?_getD,List.getElem?_eq_getElem (by omega)] at h3
  exact ⟨_,List.getElem_mem (by omega),h3⟩
 ·rintro ⟨l,hl,h⟩
  obtain ⟨j,hj,rfl⟩:=List.mem_iff_getElem.1 hl
  exact ⟨j+1,by omega,by omega,by rw [Nat.add_sub_cancel,List.getD_eq_getElem?_getD,List.getElem?_eq_getElem hj];exact h⟩
theorem nxt_top {lv:List Nat} {i:Nat}:nxt lv i 0=none ↔ top lv≤i:=by
 rw [nxt_none]
 constructor
 ·intro h
  rcases Nat.lt_or_ge i (top lv) with h' | h'
  ·rcases top_mem (lv:=lv) with h2 | h2
   ·omega
   ·obtain ⟨q,hq⟩:=ab_mem.2 ⟨_,h2,h'⟩
    exact absurd hq (h q hq.1)
  ·exact h'
 ·intro h q _ hq
  obtain ⟨l,hl,h'⟩:=ab_mem.1 ⟨q,hq⟩
  have:=top_le l hl
  omega
end Pal.Skip

namespace Pal
open Go Go.RowKit
structure Stay (F:Nat→Prop) (w w':World):Prop where
 os:w'.os=w.os
 tape:w'.tape=w.tape
 output:w'.output=w.output
 size:w.heap.size≤w'.heap.size
 same:∀ g,¬ F g→∀ cs t f,w.heap[g]?=some (Obj.cells cs t f)→w'.heap[g]?=some (Obj.cells cs t f)
section
variable {F G:Nat→Prop} {a b c w w':World}
theorem Stay.refl (F:Nat→Prop) (w:World):Stay F w w:=⟨rfl,rfl,rfl,Nat.le_refl _,fun _ _ _ _ _ h => h⟩
theorem Stay.trans (h:Stay F a b) (k:Stay F b c):Stay F a c :=
 ⟨k.os.trans h.os,k.tape.trans h.tape,k.output.trans h.output,Nat.le_trans h.size k.size,fun g hg cs t f e => k.same g hg _ _ _ (h.same g hg _ _ _ e)⟩
theorem Stay.of_chg (h:Chg F w w'):Stay F w w':=⟨h.os,h.tape,h.output,h.size,fun _ hg _ _ _ e => h.same e hg⟩
theorem Stay.trans' (h:Stay F a b) (k:Stay G b c) (hs:∀ g,g<a.heap.size→G g→F g):Stay F a c :=
 ⟨k.os.trans h.os,k.tape.trans h.tape,k.output.trans h.output,Nat.le_trans h.size k.size,fun g hg cs t f e =>
  k.same g (fun hG => hg (hs g (Array.getElem?_eq_some_iff.1 e).1 hG)) _ _ _ (h.same g hg _ _ _ e)⟩
theorem Stay.alloc (F:Nat→Prop) (w:World) (o:Obj):Stay F w (w.alloc o):=.of_chg ((Chg.refl F w).alloc o)
theorem Stay.put {l:Nat} {o:Obj} (h:w.heap[l]?=some o) (ho:o.isCells=false) (o':Obj):Stay F w (w.putObj l o') :=
 ⟨rfl,rfl,rfl,by simp,fun g _ cs t f e => (World.putObj_heap_other (fun e' => by subst e';rw [h] at e;cases e;cases ho)).trans e⟩
theorem Chg.of_stay (h:Stay F w w') (k:KeepsOthers w w'):Chg F w w' :=
 ⟨h.os,h.tape,h.output,h.size,fun g hg hn => by
  obtain ⟨o,ho⟩:∃ o,w.heap[g]?=some o:=⟨_,Array.getElem?_eq_getElem hg⟩
  cases o with
  | cells cs t f => rw [h.same g hn _ _ _ ho,ho]
  | _ => rw [k.same g _ ho rfl,ho]⟩
theorem Blk.stay {g:Nat} {t:TypeId} {cs:Array Value} (h:Blk w g t cs) (hs:Stay F w w') (hn:¬ F g):Blk w' g t cs:=hs.same g hn _ _ _ h
theorem KeepC.of_stay (h:Stay (fun _ => False) w w'):KeepC w w':=⟨h.size,fun g c t f e => h.same g id _ _ _ e⟩
theorem own_stay {base n size:Nat} {e:TypeId} {v:Value} {xs:List Value} (h:w.ownsRow base e size v n xs) (hs:Stay F w w') (hn:∀ g,v.ownBlock=some g→¬ F g):w'.ownsRow base e size v n xs:=by
 refine ⟨h.1,?_⟩
 rcases h.2 with h0 | ⟨g,cap,cur,rfl,hb,hg,rest⟩
 ·exact .inl h0
 ·exact .inr ⟨g,cap,cur,rfl,hb,hs.same g (hn g rfl) _ _ _ hg,rest⟩
theorem others_chg (h:Chg F w w') (hF:∀ k o,w.heap[k]?=some o→o.isCells=false→¬ F k):KeepsOthers w w' :=
 ⟨h.size,fun k o hk ho => h.same hk (hF k o hk ho)⟩
end
structure IterSpec {α:Type} (P:Program) (gf:Nat) (lb:Array Value) (enc:α→Array Value) (F G:Nat→Prop) (It0 It:List α→World→Prop):Prop where
 cells:∀ r W k,It0 r W→F k→∃ cs t f,W.heap[k]?=some (Obj.cells cs t f)
 sub:∀ k,G k→F k
 far0:∀ r W W',It0 r W→W.heap.size≤W'.heap.size→(∀ k,F k→W'.heap[k]?=W.heap[k]?)→It0 r W'
 far:∀ r W W',It r W→W.heap.size≤W'.heap.size→(∀ k,F k→W'.heap[k]?=W.heap[k]?)→It r W'
 call:∀ (l:Nat) (I:List α→World→Prop) (Ix:World→Prop),(∀ r W W',I r W→Chg G W W'→I r W')→(∀ W W',Ix W→Chg G W W'→Ix W') →
  (∀ x r W,I (x :: r) W→It (x :: r) W→YieldAt Fence.wide 2 P l (enc x) W fun e W' => W.heap.size≤W'.heap.size∧(∀ k,F k→W'.heap[k]?=W.heap[k]?)∧((e=.returned (.bool true)∧I r W')∨(e=.returned (.bool false)∧Ix W'))) →
  ∀ c W,I c W→It0 c W→Calls P gf (#[.func (.yield l) #[] #[]]++lb) W fun e W' => (∃ v,e=.returned v)∧(I [] W'∨Ix W')
def rPost {α:Type} (F:Nat→Prop) (I:List α→World→Prop) (Ix:Code→World→Prop) (r:List α) (W:World):Exit→Act→World→Prop
 | .normal,_,W' => KeepsOthers W W'∧(∀ k,F k→W'.heap[k]?=W.heap[k]?)∧I r W'
 | .ret,_,W' => KeepsOthers W W'∧(∀ k,F k→W'.heap[k]?=W.heap[k]?)∧Ix .ret W'
 | .exit id,_,W' => KeepsOthers W W'∧(∀ k,F k→W'.heap[k]?=W.heap[k]?)∧Ix (.exit id) W'
 | .goto t,_,W' => KeepsOthers W W'∧(∀ k,F k→W'.heap[k]?=W.heap[k]?)∧Ix (.goto t) W'
 | .panic _,_,_ => False
 | .outgrown,_,_ => False
section
variable {P:Program} {α:Type}
theorem wp_range_it {g:Operand} {ps:Array Tmp} {assign body:Code} {Q:Exit→Act→World→Prop} {a:Act} {w:World} (gf:Nat) (lb:Array Value)
  (hg:a.eval g=.func (.func gf) #[] lb) (eg:Proofs.Enters P gf) {enc:α→Array Value} {F G:Nat→Prop} {It0 It:List α→World→Prop} (hit:IterSpec P gf lb enc F G It0 It) (hps:∀ x,(enc x).size=ps.size)
  (I:List α→World→Prop) (hI:∀ r W W',I r W→Stay G W W'→I r W') (Ix:Code→World→Prop) (hIx:∀ c W W',Ix c W→Stay G W W'→Ix c W') (c:List α) (h0:I c w) (hit0:It0 c w) (a₁:α→Act)
  (hassign:∀ l x W (K:Act→World→Prop),K (a₁ x) W→assign.wpIn (Fence.wide.inRound l) 2 P (Exit.then K (fun _ _ _ => False)) { tmps:=(ps.zip (enc x)).foldl (fun t (p,v) => t.setIfInBounds p v) a.tmps,defers:=[] } W)
  (hbody:∀ l x r W,I (x :: r) W→It (x :: r) W→w.heap.size≤W.heap.size→body.wpIn (Fence.wide.inRound l) 2 P (rPost F I Ix r W) (a₁ x) W)
  (hdone:∀ D W,w.heap.size≤D→I [] W→KeepsOthers w W→W.heap[D]?=some (.deferred (some []))→Q .normal { a with defers:={ target:=.collected D,args:=#[] } :: a.defers } W)
  (hstop:∀ D c W,w.heap.size≤D→Ix c W→KeepsOthers w W→W.heap[D]?=some (.deferred (some []))→c.wp P Q { a with defers:={ target:=.collected D,args:=#[] } :: a.defers } W) :
  (Code.rangeFunc g ps assign body).wp P Q a w:=by
 have hlF:∀ k,F k→k<w.heap.size:=fun k hk => by
  obtain ⟨cs,t,f,e⟩:=hit.cells _ _ k hit0 hk
  exact (Array.getElem?_eq_some_iff.1 e).1
 have keep:∀ {A B:World},KeepsOthers w A→Chg G A B→KeepsOthers w B:=fun hA hc =>
  ⟨Nat.le_trans hA.size hc.size,fun k o hk ho => hc.same (hA.same k o hk ho) fun hF => by
   obtain ⟨cs,t,f,e⟩:=hit.cells _ _ k hit0 (hit.sub k hF)
   rw [e] at hk;cases hk;cases ho⟩
 refine wp_range gf lb hg eg fun fn rec hrec => ?_
 obtain ⟨D,hD⟩:∃ D,w.heap.size=D:=⟨_,rfl⟩
 rw [hD]
 have hK1:KeepsOthers w ((w.alloc (.deferred (some []))).alloc (.loop (rec .ready none))):=(KeepsOthers.alloc w _).trans (KeepsOthers.alloc _ _)
 have hS1:Stay G w ((w.alloc (.deferred (some []))).alloc (.loop (rec .ready none))):=(Stay.alloc G w _).trans (Stay.alloc G _ _)
 have hL1:((w.alloc (.deferred (some []))).alloc (.loop (rec .ready none))).heap[D+1]?=some (.loop (rec .ready none)):=by
  have:=World.alloc_heap_new (w.alloc (.deferred (some []))) (.loop (rec .ready none))
  rwa [World.size_alloc,hD] at this
 have hD1:((w.alloc (.deferred (some []))).alloc (.loop (rec .ready none))).heap[D]?=some (.deferred (some [])):=by
  rw [← hD]
  exact (Below.heap_alloc _ _ _ (by simp)).trans (World.alloc_heap_new _ _)
 have hF1:∀ k,F k→((w.alloc (.deferred (some []))).alloc (.loop (rec .ready none))).heap[k]?=w.heap[k]?:=fun k hk => by
  have:=hlF k hk
  exact (Below.heap_alloc _ _ _ (by simp;omega)).trans (Below.heap_alloc _ _ _ this)
 have hIt1:=hit.far0 _ _ _ hit0 hS1.size hF1
 have hI1:=hI _ _ _ h0 hS1
 generalize (w.alloc (.deferred (some []))).alloc (.loop (rec .ready none))=W1 at hK1 hS1 hL1 hD1 hF1 hIt1 hI1 ⊢
 have hle:∀ {W:World},KeepsOthers w W→D≤W.heap.size:=fun h => by rw [← hD];exact h.size
 refine (hit.call (D+1)
  (fun r W => I r W∧W.heap[D+1]?=some (.loop (rec .ready none))∧W.heap[D]?=some (.deferred (some []))∧KeepsOthers w W)
  (fun W => ∃ c,Ix c W∧W.heap[D+1]?=some (.loop (rec .done (some c)))∧W.heap[D]?=some (.deferred (some []))∧KeepsOthers w W)
  ?_ ?_ ?_ c W1 ⟨hI1,hL1,hD1,hK1⟩ hIt1).mono ?_
 ·rintro r A B ⟨h1,h2,h3,h4⟩ hc
  exact ⟨hI _ _ _ h1 (.of_chg hc),hc.same h2 (fun h => by have:=hlF _ (hit.sub _ h);omega),hc.same h3 (fun h => by have:=hlF _ (hit.sub _ h);omega),keep h4 hc⟩
 ·rintro A B ⟨k,h1,h2,h3,h4⟩ hc
  exact ⟨k,hIx _ _ _ h1 (.of_chg hc),hc.same h2 (fun h => by have:=hlF _ (hit.sub _ h);omega),hc.same h3 (fun h => by have:=hlF _ (hit.sub _ h);omega),keep h4 hc⟩
 ·rintro x r W ⟨h1,h2,h3,h4⟩ hIt
  have hlt:D+1<W.heap.size:=(Array.getElem?_eq_some_iff.1 h2).1
  refine yield_body hrec h2 (hps x) (hassign _ x W) h2 ?_
  have hp:Stay G W (W.putObj (D+1) (.loop (rec .busy none))):=.put h2 rfl _
  have hpF:∀ k,F k→(W.putObj (D+1) (.loop (rec .busy none))).heap[k]?=W.heap[k]?:=fun k hk => World.putObj_heap_other (by have:=hlF k hk;omega)
  have hb:=hbody (D+1) x r _ (hI _ _ _ h1 hp) (hit.far _ _ _ hIt hp.size hpF) (Nat.le_trans h4.size hp.size)
  have g2:(W.putObj (D+1) (.loop (rec .busy none))).heap[D+1]?=some (.loop (rec .busy none)):=World.putObj_heap_same hlt
  have g3:(W.putObj (D+1) (.loop (rec .busy none))).heap[D]?=some (.deferred (some [])):=(World.putObj_heap_other (by omega)).trans h3
  have g4:KeepsOthers w (W.putObj (D+1) (.loop (rec .busy none))):=⟨by simpa using h4.size,fun k o hk ho => (World.putObj_heap_other (by have:=(Array.getElem?_eq_some_iff.1 hk).1;omega)).trans (h4.same k o hk ho)⟩
  have hsz:W.heap.size≤(W.putObj (D+1) (.loop (rec .busy none))).heap.size:=hp.size
  generalize W.putObj (D+1) (.loop (rec .busy none))=V at hb hpF g2 g3 g4 hsz
  have fin:∀ (st:Option Code) (k:LoopState) (V':World),KeepsOthers V V'→(∀ k,F k→V'.heap[k]?=V.heap[k]?) →
    V'.heap[D+1]?=some (.loop (rec .busy none))∧W.heap.size≤(V'.putObj (D+1) (.loop (rec k st))).heap.size∧(∀ j,F j→(V'.putObj (D+1) (.loop (rec k st))).heap[j]?=W.heap[j]?)∧Stay G V' (V'.putObj (D+1) (.loop (rec k st))) ∧
    (V'.putObj (D+1) (.loop (rec k st))).heap[D+1]?=some (.loop (rec k st))∧(V'.putObj (D+1) (.loop (rec k st))).heap[D]?=some (.deferred (some []))∧KeepsOthers w (V'.putObj (D+1) (.loop (rec k st))):=by
   intro st k V' hK hFs
   have e:=hK.same _ _ g2 rfl
   have e3:=hK.same _ _ g3 rfl
   have e4:=g4.trans hK
   refine ⟨e,by simpa using Nat.le_trans hsz hK.size,fun j hj => ((World.putObj_heap_other (by have:=hlF j hj;omega)).trans (hFs j hj)).trans (hpF j hj),.put e rfl _,World.putObj_heap_same (Array.getElem?_eq_some_iff.1 e).1,(World.putObj_heap_other (by omega)).trans e3,
    ⟨by simpa using e4.size,fun k o hk ho => (World.putObj_heap_other (by have:=(Array.getElem?_eq_some_iff.1 hk).1;omega)).trans (e4.same k o hk ho)⟩⟩
  refine wpIn_mono hb ?_
  rintro e a2 V' hq
  cases e with
  | normal =>
   obtain ⟨q1,q2,q3⟩:=hq
   obtain ⟨f1,f2,f3,f4,f5,f6,f7⟩:=fin none .ready V' q1 q2
   exact ⟨f1,f2,f3,.inl ⟨rfl,hI _ _ _ q3 f4,f5,f6,f7⟩⟩
  | ret =>
   obtain ⟨q1,q2,q3⟩:=hq
   obtain ⟨f1,f2,f3,f4,f5,f6,f7⟩:=fin (some .ret) .done V' q1 q2
   exact ⟨f1,f2,f3,.inr ⟨rfl,_,hIx _ _ _ q3 f4,f5,f6,f7⟩⟩
  | exit id =>
   obtain ⟨q1,q2,q3⟩:=hq
   obtain ⟨f1,f2,f3,f4,f5,f6,f7⟩:=fin (some (.exit id)) .done V' q1 q2
   exact ⟨f1,f2,f3,.inr ⟨rfl,_,hIx _ _ _ q3 f4,f5,f6,f7⟩⟩
  | goto t =>
   obtain ⟨q1,q2,q3⟩:=hq
   obtain ⟨f1,f2,f3,f4,f5,f6,f7⟩:=fin (some (.goto t)) .done V' q1 q2
   exact ⟨f1,f2,f3,.inr ⟨rfl,_,hIx _ _ _ q3 f4,f5,f6,f7⟩⟩
  | panic ch => exact hq.elim
  | outgrown => exact hq.elim
 ·rintro e W ⟨⟨v,rfl⟩,⟨h1,h2,h3,h4⟩ | ⟨k,h1,h2,h3,h4⟩⟩
  ·have g4:KeepsOthers w (W.putObj (D+1) (.loop (rec .exhausted none))):=⟨by simpa using h4.size,fun k o hk ho => (World.putObj_heap_other (by have:=(Array.getElem?_eq_some_iff.1 hk).1;omega)).trans (h4.same k o hk ho)⟩
   exact ⟨⟨_,rfl⟩,.inl ⟨h2,hdone D _ (Nat.le_of_eq hD) (hI _ _ _ h1 (.put h2 rfl _)) g4 ((World.putObj_heap_other (by omega)).trans h3)⟩⟩
  ·have g4:KeepsOthers w (W.putObj (D+1) (.loop (rec .exhausted (some k)))):=⟨by simpa using h4.size,fun k o hk ho => (World.putObj_heap_other (by have:=(Array.getElem?_eq_some_iff.1 hk).1;omega)).trans (h4.same k o hk ho)⟩
   exact ⟨⟨_,rfl⟩,.inr ⟨k,h2,hstop D k _ (Nat.le_of_eq hD) (hIx _ _ _ h1 (.put h2 rfl _)) g4 ((World.putObj_heap_other (by omega)).trans h3)⟩⟩
end
end Pal

namespace Go.Proofs.YtehpmbmdadkhbaaGreatDoor
open Go.RowKit Pal Pal.Skip
structure Sn where
 blk:Nat
 key:ByteArray
 score:Int
 lvl:Nat
structure Sv where
 blk:Nat
 ns:List Sn
 ok:Nat→Nat→Prop
 to:Nat→Nat→Value
 sp:Nat→Nat→Int
 bk:Nat→Value
 last:Value
 top:Nat
 n:Int
def pt (g:Nat):Value:=.pointer (some ⟨g,0,none⟩)
def atP (blk:Nat) (ns:List Sn):Nat→Nat
 | 0 => blk
 | p+1 => (ns.map (·.blk)).getD p 0
def Sv.at_ (v:Sv) (p:Nat):Nat:=atP v.blk v.ns p
def tyP (p:Nat):TypeId:=if p=0 then 252 else 250
def szP (p:Nat):Nat:=if p=0 then 71 else 68
structure IsNd (cs:Array Value) (v:Sv) (p:Nat):Prop where
 size:cs.size=szP p
 link:∀ i,i<32→v.ok p i→cs[2+i * 2]?=some (v.to p i)∧cs[2+i * 2+1]?=some (.int .i64 (v.sp p i))
 ent:∀ x,1≤p→v.ns[p - 1]?=some x→cs[0]?=some (.string x.key)∧cs[1]?=some (.int .i64 x.score)∧cs[66]?=some (.int .i64 (x.lvl:Int))∧cs[67]?=some (v.bk p)
 hd:p=0→cs[68]?=some v.last∧cs[69]?=some (.int .i64 (v.top:Int))∧cs[70]?=some (.int .i64 v.n)
structure SvAt (w:World) (base:Nat) (v:Sv):Prop where
 nd:∀ p,p≤v.ns.length→∃ cs,Blk w (v.at_ p) (tyP p) cs∧IsNd cs v p
 inj:∀ p q,p≤v.ns.length→q≤v.ns.length→v.at_ p=v.at_ q→p=q
 ge:∀ p,p≤v.ns.length→base≤v.at_ p
def Sv.foot (v:Sv) (g:Nat):Prop:=∃ p,p≤v.ns.length∧g=v.at_ p
section
variable {w w':World} {base:Nat} {v:Sv}
theorem SvAt.chg {F:Nat→Prop} (h:SvAt w base v) (hc:Chg F w w') (hn:∀ g,v.foot g→¬ F g):SvAt w' base v :=
 ⟨fun p hp => by obtain ⟨cs,hb,hi⟩:=h.nd p hp;exact ⟨cs,hb.chg hc (hn _ ⟨p,hp,rfl⟩),hi⟩,h.inj,h.ge⟩
theorem SvAt.chg0 (h:SvAt w base v) (hc:Chg (fun _ => False) w w'):SvAt w' base v:=h.chg hc fun _ _ => id
theorem SvAt.lt (h:SvAt w base v) {g:Nat} (hg:v.foot g):base≤g∧g<w.heap.size:=by
 obtain ⟨p,hp,rfl⟩:=hg
 obtain ⟨cs,hb,_⟩:=h.nd p hp
 exact ⟨h.ge p hp,hb.lt⟩
theorem SvAt.view {u:Sv} (h:SvAt w base v) (hb:u.blk=v.blk) (hns:u.ns=v.ns) (hl:∀ p i,p≤v.ns.length→i<32→u.ok p i→v.ok p i∧v.to p i=u.to p i∧v.sp p i=u.sp p i)
  (hk:∀ p,1≤p→p≤v.ns.length→v.bk p=u.bk p) (h1:v.last=u.last) (h2:v.top=u.top) (h3:v.n=u.n):SvAt w base u:=by
 have ha:∀ p,u.at_ p=v.at_ p:=fun p => by unfold Sv.at_;rw [hb,hns]
 refine ⟨fun p hp => ?_,fun p q hp hq e => ?_,fun p hp => ?_⟩
 ·rw [hns] at hp
  obtain ⟨cs,hc,hi⟩:=h.nd p hp
  refine ⟨cs,by rw [ha];exact hc,hi.size,fun i h32 ho => ?_,fun x h1p hx => ?_,fun e => ?_⟩
  ·obtain ⟨a,b,c⟩:=hl p i hp h32 ho
   rw [← b,← c];exact hi.link i h32 a
  ·rw [← hk p h1p hp];exact hi.ent x h1p (by rw [← hns];exact hx)
  ·rw [← h1,← h2,← h3];exact hi.hd e
 ·rw [hns] at hp hq;rw [ha,ha] at e;exact h.inj p q hp hq e
 ·rw [hns] at hp;rw [ha];exact h.ge p hp
theorem SvAt.fr (h:SvAt w base v) {p:Nat} (hp:p≤v.ns.length) (i:Nat):w.frozen? ⟨v.at_ p,i,none⟩=false:=by
 obtain ⟨cs,hb,_⟩:=h.nd p hp;exact hb.frozen i
theorem SvAt.has (h:SvAt w base v) {p:Nat} (hp:p≤v.ns.length) {i:Nat} (hi:i<szP p):∃ u,w.cell? ⟨v.at_ p,i,none⟩=some u:=by
 obtain ⟨cs,hb,hn⟩:=h.nd p hp
 exact ⟨cs[i]'(by rw [hn.size];exact hi),(hb.cell i).trans (Array.getElem?_eq_getElem _)⟩
theorem SvAt.to_ (h:SvAt w base v) {p i:Nat} (hp:p≤v.ns.length) (hi:i<32) (ho:v.ok p i):w.cell? ⟨v.at_ p,2+i * 2,none⟩=some (v.to p i):=by
 obtain ⟨cs,hb,hn⟩:=h.nd p hp;exact (hb.cell _).trans (hn.link i hi ho).1
theorem SvAt.sp_ (h:SvAt w base v) {p i:Nat} (hp:p≤v.ns.length) (hi:i<32) (ho:v.ok p i):w.cell? ⟨v.at_ p,2+i * 2+1,none⟩=some (.int .i64 (v.sp p i)):=by
 obtain ⟨cs,hb,hn⟩:=h.nd p hp;exact (hb.cell _).trans (hn.link i hi ho).2
theorem SvAt.ent (h:SvAt w base v) {p:Nat} {x:Sn} (hx:v.ns[p]?=some x):w.cell? ⟨x.blk,0,none⟩=some (.string x.key)∧w.cell? ⟨x.blk,1,none⟩=some (.int .i64 x.score) ∧
  w.cell? ⟨x.blk,66,none⟩=some (.int .i64 (x.lvl:Int))∧w.cell? ⟨x.blk,67,none⟩=some (v.bk (p+1))∧x.blk<w.heap.size∧v.at_ (p+1)=x.blk:=by
 have hl:=(List.getElem?_eq_some_iff.1 hx).1
 obtain ⟨cs,hb,hn⟩:=h.nd (p+1) hl
 have e:v.at_ (p+1)=x.blk:=by
  show (v.ns.map (·.blk)).getD p 0=_
  rw [List.getD_eq_getElem?_getD,List.getElem?_map,hx];rfl
 rw [e] at hb
 obtain ⟨a,b,c,d⟩:=hn.ent x (by omega) hx
 exact ⟨(hb.cell _).trans a,(hb.cell _).trans b,(hb.cell _).trans c,(hb.cell _).trans d,hb.lt,e⟩
theorem SvAt.head (h:SvAt w base v):w.cell? ⟨v.blk,68,none⟩=some v.last∧w.cell? ⟨v.blk,69,none⟩=some (.int .i64 (v.top:Int))∧w.cell? ⟨v.blk,70,none⟩=some (.int .i64 v.n)∧v.blk<w.heap.size∧(∀ i,w.frozen? ⟨v.blk,i,none⟩=false):=by
 obtain ⟨cs,hb,hn⟩:=h.nd 0 (Nat.zero_le _)
 obtain ⟨a,b,c⟩:=hn.hd rfl
 exact ⟨(hb.cell _).trans a,(hb.cell _).trans b,(hb.cell _).trans c,hb.lt,hb.frozen⟩
theorem SvAt.store {u:Sv} (h:SvAt w base v) {p j:Nat} (hp:p≤v.ns.length) (x:Value) (hb:u.blk=v.blk) (hns:u.ns=v.ns)
  (hq:∀ q,q≤v.ns.length→q≠p→∀ cs,IsNd cs v q→IsNd cs u q) (hpp:∀ cs,IsNd cs v p→IsNd (cs.setIfInBounds j x) u p) :
  SvAt (w.setCell ⟨v.at_ p,j,none⟩ x) base u∧Chg v.foot w (w.setCell ⟨v.at_ p,j,none⟩ x):=by
 have ha:∀ p,u.at_ p=v.at_ p:=fun p => by unfold Sv.at_;rw [hb,hns]
 refine ⟨⟨fun q hq' => ?_,fun q r hq hr e => ?_,fun q hq => ?_⟩,Chg.store (S:=v.foot) (Chg.refl _ w) ⟨p,hp,rfl⟩ j x⟩
 ·rw [hns] at hq'
  obtain ⟨cs,hc,hn⟩:=h.nd q hq'
  rw [ha]
  by_cases e:q=p
  ·subst e
   exact ⟨_,hc.set j x,hpp cs hn⟩
  ·exact ⟨cs,hc.far (fun e2 => e (h.inj q p hq' hp e2)) x,hq q hq' e cs hn⟩
 ·rw [hns] at hq hr;rw [ha,ha] at e;exact h.inj q r hq hr e
 ·rw [hns] at hq;rw [ha];exact h.ge q hq
theorem set_same {cs:Array Value} {j:Nat} (x:Value) (h:j<cs.size):(cs.setIfInBounds j x)[j]?=some x:=by rw [Array.getElem?_setIfInBounds,if_pos rfl,if_pos h]
theorem set_other {cs:Array Value} {j k:Nat} (x:Value) (h:j≠k):(cs.setIfInBounds j x)[k]?=cs[k]?:=by rw [Array.getElem?_setIfInBounds,if_neg h]
theorem szP_le (p:Nat):68≤szP p:=by unfold szP;split <;> omega
def up2 {α:Type} (f:Nat→Nat→α) (p i:Nat) (x:α):Nat→Nat→α:=fun q j => if q=p∧j=i then x else f q j
theorem up2_same {α:Type} (f:Nat→Nat→α) (p i:Nat) (x:α):up2 f p i x p i=x:=if_pos ⟨rfl,rfl⟩
theorem up2_other {α:Type} (f:Nat→Nat→α) {p i q j:Nat} (x:α) (h:¬ (q=p∧j=i)):up2 f p i x q j=f q j:=if_neg h
theorem SvAt.setLink (h:SvAt w base v) {p i:Nat} (hp:p≤v.ns.length) (hi:i<32) (x:Value) (n:Int) :
  SvAt ((w.setCell ⟨v.at_ p,2+i * 2,none⟩ x).setCell ⟨v.at_ p,2+i * 2+1,none⟩ (.int .i64 n)) base { v with ok:=fun q j => (q=p∧j=i)∨v.ok q j,to:=up2 v.to p i x,sp:=up2 v.sp p i n } ∧
   Chg v.foot w ((w.setCell ⟨v.at_ p,2+i * 2,none⟩ x).setCell ⟨v.at_ p,2+i * 2+1,none⟩ (.int .i64 n)):=by
 have hz:=szP_le p
 obtain ⟨h1,c1⟩:=h.store (j:=2+i * 2) (u:={ v with ok:=fun q j => ¬ (q=p∧j=i)∧v.ok q j,to:=up2 v.to p i x,sp:=up2 v.sp p i n }) hp x rfl rfl
  (fun q _ hne cs hc => ⟨hc.size,fun j hj ho => by
   show _=some (up2 v.to p i x q j)∧_=some (Value.int .i64 (up2 v.sp p i n q j))
   rw [up2_other _ _ ho.1,up2_other _ _ ho.1];exact hc.link j hj ho.2,hc.ent,hc.hd⟩)
  (fun cs hc => ⟨by simpa using hc.size,fun j hj ho => by
   show _=some (up2 v.to p i x p j)∧_=some (Value.int .i64 (up2 v.sp p i n p j))
   have hne:j≠i:=fun e => ho.1 ⟨rfl,e⟩
   rw [up2_other _ _ ho.1,up2_other _ _ ho.1,set_other _ (by omega),set_other _ (by omega)];exact hc.link j hj ho.2,
   fun y h1 hy => by rw [set_other _ (by omega),set_other _ (by omega),set_other _ (by omega),set_other _ (by omega)];exact hc.ent y h1 hy,
   fun e => by rw [set_other _ (by omega),set_other _ (by omega),set_other _ (by omega)];exact hc.hd e⟩)
 have hcell:(w.setCell ⟨v.at_ p,2+i * 2,none⟩ x).cell? ⟨v.at_ p,2+i * 2,none⟩=some x:=by
  obtain ⟨cs,hb,hn⟩:=h.nd p hp
  rw [(hb.set _ x).cell]
  exact set_same x (by rw [hn.size];omega)
 have hx:∀ cs,Blk (w.setCell ⟨v.at_ p,2+i * 2,none⟩ x) (v.at_ p) (tyP p) cs→cs[2+i * 2]?=some x:=fun cs hb => by rw [← hb.cell];exact hcell
 clear hcell
 obtain ⟨cs0,hb0,hn0⟩:=h1.nd p hp
 have hx0:=hx cs0 hb0
 generalize w.setCell ⟨v.at_ p,2+i * 2,none⟩ x=w1 at h1 c1 hb0
 have ha:∀ q,({ v with ok:=fun q j => ¬ (q=p∧j=i)∧v.ok q j,to:=up2 v.to p i x,sp:=up2 v.sp p i n }:Sv).at_ q=v.at_ q:=fun q => rfl
 refine ⟨⟨fun q hq => ?_,h1.inj,h1.ge⟩,c1.trans (Chg.store (S:=v.foot) (Chg.refl _ w1) ⟨p,hp,rfl⟩ _ _)⟩
 by_cases e:q=p
 ·subst e
  refine ⟨_,hb0.set (2+i * 2+1) (.int .i64 n),by simpa using hn0.size,fun j hj ho => ?_,fun y hy1 hy => ?_,fun e => ?_⟩
  ·show _=some (up2 v.to q i x q j)∧_=some (Value.int .i64 (up2 v.sp q i n q j))
   by_cases hji:j=i
   ·subst hji
    rw [up2_same,up2_same,set_other _ (by omega),set_same _ (by rw [hn0.size];omega)]
    exact ⟨hx0,rfl⟩
   ·rw [set_other _ (by omega),set_other _ (by omega)]
    rcases ho with ho | ho
    ·exact absurd ho.2 hji
    ·exact hn0.link j hj ⟨fun hh => hji hh.2,ho⟩
  ·rw [set_other _ (by omega),set_other _ (by omega),set_other _ (by omega),set_other _ (by omega)];exact hn0.ent y hy1 hy
  ·rw [set_other _ (by omega),set_other _ (by omega),set_other _ (by omega)];exact hn0.hd e
 ·obtain ⟨cs,hb,hn⟩:=h1.nd q hq
  refine ⟨cs,hb.far (fun e2 => e (h1.inj q p hq hp e2)) _,hn.size,fun j hj ho => ?_,hn.ent,hn.hd⟩
  rcases ho with ho | ho
  ·exact absurd ho.1 e
  ·exact hn.link j hj ⟨fun hh => e hh.1,ho⟩
theorem SvAt.setSp (h:SvAt w base v) {p i:Nat} (hp:p≤v.ns.length) (hi:i<32) (n:Int) :
  SvAt (w.setCell ⟨v.at_ p,2+i * 2+1,none⟩ (.int .i64 n)) base { v with sp:=up2 v.sp p i n }∧Chg v.foot w (w.setCell ⟨v.at_ p,2+i * 2+1,none⟩ (.int .i64 n)):=by
 have hz:=szP_le p
 exact h.store (j:=2+i * 2+1) (u:={ v with sp:=up2 v.sp p i n }) hp _ rfl rfl
  (fun q _ hne cs hc => ⟨hc.size,fun j hj ho => by
   show _∧_=some (Value.int .i64 (up2 v.sp p i n q j))
   rw [up2_other _ _ (fun e => hne e.1)];exact hc.link j hj ho,hc.ent,hc.hd⟩)
  (fun cs hc => ⟨by simpa using hc.size,fun j hj ho => by
   show _∧_=some (Value.int .i64 (up2 v.sp p i n p j))
   by_cases hji:j=i
   ·subst hji
    rw [up2_same,set_other _ (by omega),set_same _ (by rw [hc.size];omega)]
    exact ⟨(hc.link j hj ho).1,rfl⟩
   ·rw [up2_other _ _ (fun e => hji e.2),set_other _ (by omega),set_other _ (by omega)];exact hc.link j hj ho,
   fun y h1 hy => by rw [set_other _ (by omega),set_other _ (by omega),set_other _ (by omega),set_other _ (by omega)];exact hc.ent y h1 hy,
   fun e => by rw [set_other _ (by omega),set_other _ (by omega),set_other _ (by omega)];exact hc.hd e⟩)
theorem SvAt.setBk (h:SvAt w base v) {p:Nat} (hp1:1≤p) (hp:p≤v.ns.length) (x:Value) :
  SvAt (w.setCell ⟨v.at_ p,67,none⟩ x) base { v with bk:=fun q => if q=p then x else v.bk q }∧Chg v.foot w (w.setCell ⟨v.at_ p,67,none⟩ x):=by
 have hz:=szP_le p
 exact h.store (j:=67) (u:={ v with bk:=fun q => if q=p then x else v.bk q }) hp _ rfl rfl
  (fun q _ hne cs hc => ⟨hc.size,hc.link,fun y h1 hy => by
   show _∧_∧_∧_=some (if q=p then x else v.bk q)
   rw [if_neg hne];exact hc.ent y h1 hy,hc.hd⟩)
  (fun cs hc => ⟨by simpa using hc.size,fun j hj ho => by rw [set_other _ (by omega),set_other _ (by omega)];exact hc.link j hj ho,
   fun y h1 hy => by
    show _∧_∧_∧_=some (if p=p then x else v.bk p)
    rw [if_pos rfl,set_other _ (by omega),set_other _ (by omega),set_other _ (by omega),set_same _ (by rw [hc.size];omega)]
    obtain ⟨a,b,c,_⟩:=hc.ent y h1 hy
    exact ⟨a,b,c,rfl⟩,
   fun e => by omega⟩)
theorem SvAt.setHd (h:SvAt w base v) (j:Nat) (x:Value) (u:Sv) (hb:u.blk=v.blk) (hns:u.ns=v.ns) (ho:u.ok=v.ok) (ht:u.to=v.to) (hs:u.sp=v.sp) (hk:u.bk=v.bk)
  (hj:(j=68∧u.last=x∧u.top=v.top∧u.n=v.n)∨(j=69∧u.last=v.last∧.int .i64 (u.top:Int)=x∧u.n=v.n)∨(j=70∧u.last=v.last∧u.top=v.top∧.int .i64 u.n=x)) :
  SvAt (w.setCell ⟨v.blk,j,none⟩ x) base u∧Chg v.foot w (w.setCell ⟨v.blk,j,none⟩ x):=by
 have hj3:68≤j∧j<71:=by rcases hj with hj | hj | hj <;> omega
 refine h.store (p:=0) (j:=j) (u:=u) (Nat.zero_le _) x hb hns (fun q _ hne cs hc => ⟨hc.size,?_,?_,fun e => absurd e hne⟩) (fun cs hc => ⟨by simpa using hc.size,?_,?_,fun e => ?_⟩)
 ·rw [ho,ht,hs];exact hc.link
 ·rw [hns,hk];exact hc.ent
 ·rw [ho,ht,hs];intro i hi h1;rw [set_other _ (by omega),set_other _ (by omega)];exact hc.link i hi h1
 ·intro y h1 _;omega
 ·obtain ⟨a,b,c⟩:=hc.hd rfl
  have hz:=hc.size
  have hz2:szP 0=71:=rfl
  rcases hj with ⟨rfl,e1,e2,e3⟩ | ⟨rfl,e1,e2,e3⟩ | ⟨rfl,e1,e2,e3⟩
  ·rw [set_same _ (by omega),set_other _ (by omega),set_other _ (by omega),e1,e2,e3];exact ⟨rfl,b,c⟩
  ·rw [set_same _ (by omega),set_other _ (by omega),set_other _ (by omega),e1,e2,e3];exact ⟨a,rfl,c⟩
  ·rw [set_same _ (by omega),set_other _ (by omega),set_other _ (by omega),e1,e2,e3];exact ⟨a,b,rfl⟩
end
structure Sk where
 blk:Nat
 ns:List Sn
def Sk.lv (s:Sk):List Nat:=s.ns.map (·.lvl)
def Sk.n (s:Sk):Nat:=s.ns.length
def Sk.at_ (s:Sk) (p:Nat):Nat:=atP s.blk s.ns p
def Sk.go (s:Sk):Option Nat→Value
 | none => .pointer none
 | some q => pt (s.at_ q)
def Sk.nd (s:Sk) (p:Nat):Value:=if p=0 then .pointer none else pt (s.at_ p)
def Sk.view (s:Sk):Sv where
 blk:=s.blk
 ns:=s.ns
 ok p i:=(p=0∧i<top s.lv)∨ab s.lv i p
 to p i:=s.go (nxt s.lv i p)
 sp p i:=(span s.lv i p:Int)
 bk p:=s.nd (p - 1)
 last:=s.nd s.n
 top:=top s.lv
 n:=(s.n:Int)
structure SkAt (w:World) (base:Nat) (s:Sk):Prop where
 v:SvAt w base s.view
 lo:∀ x∈s.ns,1≤x.lvl∧x.lvl≤32
def Sk.foot (s:Sk) (g:Nat):Prop:=s.view.foot g
section
variable {w w':World} {base:Nat} {s:Sk}
theorem SkAt.chg {F:Nat→Prop} (h:SkAt w base s) (hc:Chg F w w') (hn:∀ g,s.foot g→¬ F g):SkAt w' base s:=⟨h.v.chg hc hn,h.lo⟩
theorem SkAt.chg0 (h:SkAt w base s) (hc:Chg (fun _ => False) w w'):SkAt w' base s:=h.chg hc fun _ _ => id
theorem SkAt.lt (h:SkAt w base s) {g:Nat} (hg:s.foot g):base≤g∧g<w.heap.size:=h.v.lt hg
theorem SkAt.top_le (h:SkAt w base s):top s.lv≤32:=by
 rcases top_mem (lv:=s.lv) with e | e
 ·omega
 ·obtain ⟨x,hx,e2⟩:=List.mem_map.1 e
  have:=h.lo x hx
  omega
theorem Sk.lv_len (s:Sk):s.lv.length=s.n:=by unfold Sk.lv Sk.n;simp
theorem SkAt.lv_pos (h:SkAt w base s) {p:Nat} (h1:1≤p) (hp:p≤s.n):ab s.lv 0 p:=by
 refine ⟨h1,by rw [s.lv_len];exact hp,?_⟩
 unfold Sk.lv
 rw [List.getD_eq_getElem?_getD,List.getElem?_map,List.getElem?_eq_getElem (by unfold Sk.n at hp;omega)]
 exact (h.lo _ (List.getElem_mem _)).1
theorem SkAt.link (h:SkAt w base s) {p i:Nat} (hp:p=0∨ab s.lv i p) (hi:i<top s.lv) :
  w.cell? ⟨s.at_ p,2+i * 2,none⟩=some (s.go (nxt s.lv i p))∧w.cell? ⟨s.at_ p,2+i * 2+1,none⟩=some (.int .i64 (span s.lv i p:Int)):=by
 have hp':p≤s.ns.length:=by
  rcases hp with rfl | hp
  ·exact Nat.zero_le _
  ·have:=hp.2.1;rw [s.lv_len] at this;exact this
 have ho:s.view.ok p i:=by
  rcases hp with rfl | hp
  ·exact .inl ⟨rfl,hi⟩
  ·exact .inr hp
 have:=h.top_le
 exact ⟨h.v.to_ hp' (by omega) ho,h.v.sp_ hp' (by omega) ho⟩
theorem SkAt.node (h:SkAt w base s) {p:Nat} {x:Sn} (hx:s.ns[p]?=some x):w.cell? ⟨x.blk,0,none⟩=some (.string x.key)∧w.cell? ⟨x.blk,1,none⟩=some (.int .i64 x.score) ∧
  w.cell? ⟨x.blk,66,none⟩=some (.int .i64 (x.lvl:Int))∧w.cell? ⟨x.blk,67,none⟩=some (s.nd p)∧x.blk<w.heap.size∧s.at_ (p+1)=x.blk:=by
 exact h.v.ent hx
theorem SkAt.head (h:SkAt w base s):w.cell? ⟨s.blk,68,none⟩=some (s.nd s.n)∧w.cell? ⟨s.blk,69,none⟩=some (.int .i64 (top s.lv:Int))∧w.cell? ⟨s.blk,70,none⟩=some (.int .i64 (s.n:Int))∧s.blk<w.heap.size∧(∀ i,w.frozen? ⟨s.blk,i,none⟩=false):=h.v.head
end
def Sk.nodesL (s:Sk) (k m:Nat):List Value:=(List.range 32).map fun j => if m≤j∧j<top s.lv then pt (s.at_ (prev s.lv j k)) else .pointer none
def Sk.placesL (s:Sk) (k m:Nat):List Value:=(List.range 32).map fun j => if m≤j∧j<top s.lv then .int .i64 (prev s.lv j k:Int) else .int .i64 0
theorem map_set {α:Type} (f g:Nat→α) (n i:Nat) (x:α) (hx:g i=x) (h:∀ j,j≠i→g j=f j):((List.range n).map f).set i x=(List.range n).map g:=by
 apply List.ext_getElem?
 intro j
 rw [List.getElem?_set,List.getElem?_map,List.getElem?_map,List.length_map,List.length_range]
 by_cases e:i=j
 ·subst e
  rw [if_pos rfl]
  split
  ·rw [List.getElem?_range ‹_›];rw [Option.map_some,hx]
  ·rw [List.getElem?_eq_none (by rw [List.length_range];omega)];rfl
 ·rw [if_neg e]
  rcases Nat.lt_or_ge j n with h' | h'
  ·rw [List.getElem?_range h',Option.map_some,Option.map_some,h j (fun e2 => e e2.symm)]
  ·rw [List.getElem?_eq_none (by rw [List.length_range];omega)];rfl
theorem Sk.nodesL_set (s:Sk) (k:Nat) {m:Nat} (hm:m<top s.lv):(s.nodesL k (m+1)).set m (pt (s.at_ (prev s.lv m k)))=s.nodesL k m:=by
 refine map_set _ _ _ _ _ (if_pos ⟨Nat.le_refl _,hm⟩) fun j hj => ?_
 by_cases h:m≤j∧j<top s.lv
 ·rw [if_pos h,if_pos (by omega)]
 ·rw [if_neg h,if_neg (by omega)]
theorem Sk.placesL_set (s:Sk) (k:Nat) {m:Nat} (hm:m<top s.lv):(s.placesL k (m+1)).set m (.int .i64 (prev s.lv m k:Int))=s.placesL k m:=by
 refine map_set _ _ _ _ _ (if_pos ⟨Nat.le_refl _,hm⟩) fun j hj => ?_
 by_cases h:m≤j∧j<top s.lv
 ·rw [if_pos h,if_pos (by omega)]
 ·rw [if_neg h,if_neg (by omega)]
theorem Sk.nodesL_top (s:Sk) (k:Nat):s.nodesL k (top s.lv)=List.replicate 32 (.pointer none):=by
 unfold Sk.nodesL
 rw [List.map_congr_left (g:=fun _ => Value.pointer none) (fun j _ => if_neg (by omega)),List.map_const',List.length_range]
theorem Sk.placesL_top (s:Sk) (k:Nat):s.placesL k (top s.lv)=List.replicate 32 (.int .i64 0):=by
 unfold Sk.placesL
 rw [List.map_congr_left (g:=fun _ => Value.int .i64 0) (fun j _ => if_neg (by omega)),List.map_const',List.length_range]
theorem Sk.nodesL_get (s:Sk) (k:Nat) {j:Nat} (hj:j<top s.lv) (h32:j<32):(s.nodesL k 0)[j]?=some (pt (s.at_ (prev s.lv j k))):=by
 unfold Sk.nodesL
 rw [List.getElem?_map,List.getElem?_range h32,Option.map_some,if_pos ⟨Nat.zero_le _,hj⟩]
theorem Sk.placesL_get (s:Sk) (k:Nat) {j:Nat} (hj:j<top s.lv) (h32:j<32):(s.placesL k 0)[j]?=some (.int .i64 (prev s.lv j k:Int)):=by
 unfold Sk.placesL
 rw [List.getElem?_map,List.getElem?_range h32,Option.map_some,if_pos ⟨Nat.zero_le _,hj⟩]
theorem Sk.nodesL_one (s:Sk) (k m:Nat):∀ v∈s.nodesL k m,v.oneCell'=true:=by
 intro v hv
 obtain ⟨j,_,rfl⟩:=List.mem_map.1 hv
 split <;> rfl
theorem Sk.placesL_one (s:Sk) (k m:Nat):∀ v∈s.placesL k m,v.oneCell'=true:=by
 intro v hv
 obtain ⟨j,_,rfl⟩:=List.mem_map.1 hv
 split <;> rfl
theorem prev_zero_top {lv:List Nat} {k:Nat}:prev lv (top lv) k=0:=by
 refine prev_eq (Nat.zero_le _) (.inl rfl) fun r h1 _ h3 => ?_
 exact nxt_none.1 (nxt_top.2 (Nat.le_refl _)) r h1 h3
end Go.Proofs.YtehpmbmdadkhbaaGreatDoor

namespace Go.Proofs.YtehpmbmdadkhbaaGreatDoor
open Go.RowKit Pal Pal.Skip
theorem ltE_irrefl (a:En):¬ ltE a a:=by
 rintro (h | ⟨_,h⟩)
 ·omega
 ·exact ltB_irrefl _ h
theorem ltE_trans {a b c:En} (h:ltE a b) (k:ltE b c):ltE a c:=by
 rcases h with h | ⟨h1,h2⟩ <;> rcases k with k | ⟨k1,k2⟩
 ·exact .inl (by omega)
 ·exact .inl (by omega)
 ·exact .inl (by omega)
 ·exact .inr ⟨by omega,ltB_trans h2 k2⟩
theorem ltE_total {a b:En} (h:¬ ltE a b) (hne:a≠b):ltE b a:=by
 by_cases h1:a.s=b.s
 ·refine .inr ⟨h1.symm,ltB_total (fun hl => h (.inr ⟨h1,hl⟩)) (fun e => hne ?_)⟩
  cases a;cases b
  simp only at h1 e
  rw [h1,e]
 ·by_cases h2:a.s<b.s
  ·exact absurd (.inl h2) h
  ·exact .inl (by omega)
instance:DecidableEq En:=fun a b => decidable_of_iff (a.m.data=b.m.data∧a.s=b.s) ⟨fun h => by
  obtain ⟨⟨x⟩,s⟩:=a
  obtain ⟨⟨y⟩,t⟩:=b
  obtain ⟨h1,h2⟩:=h
  simp only at h1 h2
  rw [h1,h2],fun h => by rw [h];exact ⟨rfl,rfl⟩⟩
def ahead (l:List En) (e:En):Nat:=(l.takeWhile fun x => decide (ltE x e)).length
theorem ahead_le (l:List En) (e:En):ahead l e≤l.length:=(List.takeWhile_sublist _).length_le
theorem ahead_cons (x:En) (l:List En) (e:En):ahead (x :: l) e=if ltE x e then ahead l e+1 else 0:=by
 unfold ahead
 rw [List.takeWhile_cons]
 by_cases h:ltE x e
 ·rw [if_pos (by simpa using h),if_pos h,List.length_cons]
 ·rw [if_neg (by simpa using h),if_neg h];rfl
theorem ahead_lt:∀ {l:List En} {e:En},l.Pairwise ltE→∀ {j:Nat} {x:En},l[j]?=some x→(ltE x e ↔ j<ahead l e)
 | y :: l,e,hs,j,x,hx => by
  rw [List.pairwise_cons] at hs
  rw [ahead_cons]
  cases j with
  | zero =>
   rw [List.getElem?_cons_zero] at hx
   injection hx with hx
   subst hx
   by_cases h:ltE y e
   ·rw [if_pos h];exact ⟨fun _ => Nat.succ_pos _,fun _ => h⟩
   ·rw [if_neg h];exact ⟨fun h' => absurd h' h,fun h' => absurd h' (Nat.lt_irrefl _)⟩
  | succ j =>
   rw [List.getElem?_cons_succ] at hx
   have ih:=ahead_lt (e:=e) hs.2 hx
   by_cases h:ltE y e
   ·rw [if_pos h,ih];omega
   ·rw [if_neg h]
    exact ⟨fun h' => absurd (ltE_trans (hs.1 x (List.mem_of_getElem? hx)) h') h,fun h' => by omega⟩
theorem ahead_mem {l:List En} {e:En} (hs:l.Pairwise ltE):e∈l ↔ l[ahead l e]?=some e:=by
 constructor
 ·intro h
  obtain ⟨j,hj,rfl⟩:=List.mem_iff_getElem.1 h
  have hx:=List.getElem?_eq_getElem hj
  have h1:¬ j<ahead l l[j]:=fun h' => ltE_irrefl _ ((ahead_lt hs hx).2 h')
  have h2:¬ ahead l l[j]<j:=by
   intro h'
   have hk:ahead l l[j]<l.length:=by omega
   have hy:=List.getElem?_eq_getElem hk
   have h3:=(List.pairwise_iff_getElem.1 hs) _ _ hk hj h'
   have:=(ahead_lt hs hy).1 h3
   omega
  have:ahead l l[j]=j:=by omega
  rw [this];exact hx
 ·exact List.mem_of_getElem?
theorem ahead_ins {l:List En} {e:En} (hs:l.Pairwise ltE) (hn:e ∉ l):(l.take (ahead l e)++e :: l.drop (ahead l e)).Pairwise ltE:=by
 induction l with
 | nil => simp [ahead]
 | cons x l ih =>
  rw [List.pairwise_cons] at hs
  rw [ahead_cons]
  by_cases h:ltE x e
  ·rw [if_pos h,List.take_succ_cons,List.drop_succ_cons,List.cons_append,List.pairwise_cons]
   refine ⟨fun y hy => ?_,ih hs.2 (fun h' => hn (List.mem_cons_of_mem _ h'))⟩
   rcases List.mem_append.1 hy with hy | hy
   ·exact hs.1 y (List.mem_of_mem_take hy)
   ·rcases List.mem_cons.1 hy with rfl | hy
    ·exact h
    ·exact hs.1 y (List.mem_of_mem_drop hy)
  ·rw [if_neg h,List.take_zero,List.drop_zero,List.nil_append,List.pairwise_cons]
   have hx:ltE e x:=ltE_total h (fun e2 => hn (by rw [e2];exact List.mem_cons_self))
   refine ⟨fun y hy => ?_,List.pairwise_cons.2 hs⟩
   rcases List.mem_cons.1 hy with rfl | hy
   ·exact hx
   ·exact ltE_trans hx (hs.1 y hy)
def Sn.en (x:Sn):En:=⟨x.key,x.score⟩
def Sk.es (s:Sk):List En:=s.ns.map Sn.en
theorem Sk.es_len (s:Sk):s.es.length=s.n:=by unfold Sk.es Sk.n;simp
theorem Sk.es_get (s:Sk) (j:Nat):s.es[j]?=(s.ns[j]?).map Sn.en:=by unfold Sk.es;simp
section
variable {w:World} {base:Nat} {s:Sk}
theorem SkAt.prev0 (h:SkAt w base s) {k:Nat} (hk:k≤s.n):prev s.lv 0 k=k :=
 prev_eq (Nat.le_refl _) (by rcases Nat.eq_zero_or_pos k with e | e;exact .inl e;exact .inr (h.lv_pos e hk)) fun r h1 h2 => absurd h2 (by omega)
theorem SkAt.nxt0 (h:SkAt w base s) (k:Nat):nxt s.lv 0 k=if k<s.n then some (k+1) else none:=by
 split
 ·rename_i hk
  exact nxt_some.2 ⟨Nat.lt_succ_self _,h.lv_pos (by omega) hk,fun r h1 h2 => by omega⟩
 ·rename_i hk
  exact nxt_none.2 fun r h1 h2 => by have:=h2.2.1;rw [s.lv_len] at this;omega
theorem SkAt.top0 (h:SkAt w base s):top s.lv=0 ↔ s.n=0:=by
 have h2:=nxt_top (lv:=s.lv) (i:=0)
 rw [h.nxt0 0] at h2
 constructor
 ·intro e
  have:=h2.2 (by omega)
  split at this
  ·cases this
  ·omega
 ·intro e
  have:=h2.1 (by rw [if_neg (by omega)])
  omega
end
end Go.Proofs.YtehpmbmdadkhbaaGreatDoor
