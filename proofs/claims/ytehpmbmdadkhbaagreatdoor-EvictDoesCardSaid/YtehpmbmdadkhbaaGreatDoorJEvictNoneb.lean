/- Texts joined for EvictNone: PKP, HM, HC, RR, MM, SKW, SKE. -/
import Derived.Test.YtehpmbmdadkhbaaGreatDoorJEvictNonea
import Derived.Test.YtehpmbmdadkhbaaGreatDoorProg
import Derived.WalkKit
import Derived.Outline
import Derived.Lib.Hide
import Derived.Laws.BitsLemmas
import Derived.Laws.BitsAllLaws
import Derived.WalkLawsBesides
import Derived.ScopeJumps
import Derived.WalkMore
import Derived.OwnWalkIn
import Derived.OrdersIn
import Derived.StillTailTactics
import Derived.RangeFuncCalls
import Derived.OrdersHeld
import Derived.Laws.MakeOwn
import Derived.Deep.MidRow
import Derived.OwnWalk
import Derived.Laws.Rows
import Derived.Laws.CopyOwn
import Derived.Lib.BufferWrite
import Derived.TacticsInMore
import Derived.LoopNIn
import Derived.LoopIn
import Derived.Sort.LoopGhostIn
import Derived.Deep.QuietTactic
import Derived.Laws.StructEq
set_option linter.unusedVariables false
set_option linter.unusedSimpArgs false

namespace Go.Proofs.YtehpmbmdadkhbaaGreatDoor
open Go.RowKit Pal
def u64N (s:Int):Nat:=(s % 18446744073709551616).toNat
def be8 (s:Int):List UInt8:=(List.range 8).map fun i => UInt8.ofNat (u64N s / 2 ^ (8 * (7 - i)))
theorem be8_len (s:Int):(be8 s).length=8:=rfl
theorem u64N_lt (s:Int):u64N s<18446744073709551616:=by unfold u64N;omega
def acc8 (f:Nat→Nat):Nat→Nat
 | 0 => 0
 | i+1 => acc8 f i * 256+f i
theorem acc8_lt {f:Nat→Nat} (hf:∀ i,f i<256):∀ i,acc8 f i<256 ^ i
 | 0 => by simp [acc8]
 | i+1 => by
  have:=acc8_lt hf i
  have:=hf i
  unfold acc8
  rw [Nat.pow_succ]
  omega
theorem acc8_be (s:Int):acc8 (fun i => u64N s / 2 ^ (8 * (7 - i)) % 256) 8=u64N s:=by
 have:=u64N_lt s
 generalize u64N s=u at this
 simp only [acc8,Nat.reduceSub,Nat.reduceMul,Nat.reducePow,Nat.zero_mul,Nat.zero_add,Nat.sub_zero,Nat.sub_self,Nat.mul_zero,Nat.div_one]
 omega
theorem wrap_u64N {s:Int} (h1:-9223372036854775808≤s) (h2:s≤9223372036854775807):IntKind.i64.wrap (u64N s:Int)=s:=by
 unfold u64N
 simp only [IntKind.wrap,IntKind.bits,IntKind.signed]
 rw [Int.toNat_of_nonneg (by omega)]
 simp
 omega
def EnOk (e:En):Prop:=e.m.size≤64∧-9223372036854775808≤e.s∧e.s≤9223372036854775807
def encE (e:En):List UInt8:=UInt8.ofNat e.m.size :: (e.m.data.toList++(be8 e.s++[UInt8.ofNat (e.m.size+9)]))
theorem size_toList (b:ByteArray):b.data.toList.length=b.size:=Array.length_toList
theorem encE_len (e:En):(encE e).length=e.m.size+10:=by
 unfold encE
 rw [List.length_cons,List.length_append,List.length_append,be8_len,size_toList];rfl
theorem encE_mem {e:En} {j:Nat} (hj:j<e.m.size):(encE e)[1+j]?=e.m.data.toList[j]?:=by
 unfold encE
 rw [Nat.add_comm 1 j,List.getElem?_cons_succ,List.getElem?_append_left (by rw [size_toList];exact hj)]
theorem encE_be {e:En} {j:Nat} (hj:j<8):(encE e)[1+e.m.size+j]?=some (UInt8.ofNat (u64N e.s / 2 ^ (8 * (7 - j)))):=by
 unfold encE
 rw [show 1+e.m.size+j=e.m.size+j+1 by omega,List.getElem?_cons_succ,List.getElem?_append_right (by rw [size_toList];omega),size_toList,Nat.add_sub_cancel_left,
  List.getElem?_append_left (by rw [be8_len];exact hj)]
 unfold be8
 rw [List.getElem?_map,List.getElem?_range hj];rfl
theorem encE_end (e:En):(encE e)[e.m.size+9]?=some (UInt8.ofNat (e.m.size+9)):=by
 unfold encE
 rw [show e.m.size+9=e.m.size+8+1 by omega,List.getElem?_cons_succ,List.getElem?_append_right (by rw [size_toList];omega),size_toList,Nat.add_sub_cancel_left,
  List.getElem?_append_right (by rw [be8_len];omega),be8_len];rfl
def enc2 (n:Nat):List UInt8:=[UInt8.ofNat (n / 256),UInt8.ofNat n]
def encs (l:List En):List UInt8:=l.flatMap encE
def enc (l:List En):List UInt8:=enc2 l.length++encs l
def pk (l:List En):ByteArray:=⟨(enc l).toArray⟩
def offE (l:List En) (k:Nat):Nat:=2+(encs (l.take k)).length
structure POk (l:List En):Prop where
 len:l.length≤200
 ok:∀ e∈l,EnOk e
theorem pk_size (l:List En):(pk l).size=2+(encs l).length:=by
 show ((enc l).toArray).size=_
 unfold enc enc2
 simp
 omega
theorem pk_toList (l:List En):(pk l).data.toList=enc l:=by unfold pk;simp
theorem encs_append (a b:List En):encs (a++b)=encs a++encs b:=List.flatMap_append
theorem offE_end (l:List En):offE l l.length=(pk l).size:=by unfold offE;rw [pk_size,List.take_length]
theorem offE_succ {l:List En} {k:Nat} {e:En} (h:l[k]?=some e):offE l (k+1)=offE l k+(e.m.size+10):=by
 unfold offE
 have hk:=(List.getElem?_eq_some_iff.1 h).1
 rw [List.getElem?_eq_getElem hk] at h
 injection h with h
 rw [List.take_succ_eq_append_getElem hk,encs_append,List.length_append,h]
 have:(encs [e]).length=e.m.size+10:=by unfold encs;rw [List.flatMap_cons,List.flatMap_nil,List.append_nil,encE_len]
 omega
theorem enc_split {l:List En} {k:Nat} {e:En} (h:l[k]?=some e):enc l=(enc2 l.length++encs (l.take k))++(encE e++encs (l.drop (k+1))):=by
 have hk:=(List.getElem?_eq_some_iff.1 h).1
 rw [List.getElem?_eq_getElem hk] at h
 injection h with h
 unfold enc
 have e1:encs l=encs (l.take k)++(encE e++encs (l.drop (k+1))):=by
  conv => lhs;rw [← List.take_append_drop k l,List.drop_eq_getElem_cons hk,encs_append]
  rw [h]
  show _++(encs (e :: _))=_
  unfold encs
  rw [List.flatMap_cons]
 rw [e1,List.append_assoc]
theorem enc_at {l:List En} {k j:Nat} {e:En} (h:l[k]?=some e) (hj:j<e.m.size+10):(enc l)[offE l k+j]?=(encE e)[j]?:=by
 have hl:(enc2 l.length++encs (l.take k)).length=offE l k:=by unfold offE enc2;simp;omega
 rw [enc_split h,List.getElem?_append_right (by omega),hl,Nat.add_sub_cancel_left,List.getElem?_append_left (by rw [encE_len];exact hj)]
theorem offE_lt {l:List En} {k:Nat} {e:En} (h:l[k]?=some e):offE l k+(e.m.size+10)≤(pk l).size:=by
 have hl:(enc2 l.length++encs (l.take k)).length=offE l k:=by unfold offE enc2;simp;omega
 have:(pk l).size=(enc l).length:=by rw [← size_toList,pk_toList]
 rw [this,enc_split h]
 simp only [List.length_append] at hl ⊢
 rw [encE_len]
 omega
theorem encs_len_le {l:List En} (h:∀ e∈l,EnOk e):(encs l).length≤l.length * 74:=by
 induction l with
 | nil => simp [encs]
 | cons x l ih =>
  have h1:=ih fun e he => h e (List.mem_cons_of_mem _ he)
  have h2:=(h x List.mem_cons_self).1
  have:encs (x :: l)=encE x++encs l:=rfl
  rw [this,List.length_append,encE_len,List.length_cons]
  omega
theorem pk_le {l:List En} (h:POk l):(pk l).size≤14802:=by
 have:=encs_len_le h.ok
 have:=h.len
 rw [pk_size];omega
theorem pk_get {l:List En} {i:Nat} (hi:i<(pk l).size):(enc l)[i]?=some ((pk l)[i]'hi):=by
 rw [← pk_toList]
 show _=some ((pk l).data[i]'hi)
 rw [List.getElem?_eq_getElem (by rw [size_toList];exact hi)]
 rfl
theorem pk_first {l:List En} {k:Nat} {e:En} (h:l[k]?=some e) (ho:e.m.size≤64) (hi:offE l k<(pk l).size):((pk l)[offE l k]'hi).toNat=e.m.size:=by
 have:=pk_get hi
 have h2:=enc_at h (j:=0) (by omega)
 rw [Nat.add_zero,this] at h2
 have h3:(encE e)[0]?=some (UInt8.ofNat e.m.size):=rfl
 rw [h3] at h2
 injection h2 with h2
 rw [h2,UInt8.toNat_ofNat']
 omega
theorem pk_last {l:List En} {k:Nat} {e:En} (h:l[k]?=some e) (ho:e.m.size≤64) (hi:offE l k+(e.m.size+9)<(pk l).size):((pk l)[offE l k+(e.m.size+9)]'hi).toNat=e.m.size+9:=by
 have:=pk_get hi
 have h2:=enc_at h (j:=e.m.size+9) (by omega)
 rw [this,encE_end] at h2
 injection h2 with h2
 rw [h2,UInt8.toNat_ofNat']
 omega
theorem pk_be {l:List En} {k j:Nat} {e:En} (h:l[k]?=some e) (hj:j<8) (hi:offE l k+1+e.m.size+j<(pk l).size):((pk l)[offE l k+1+e.m.size+j]'hi).toNat=u64N e.s / 2 ^ (8 * (7 - j)) % 256:=by
 have:=pk_get hi
 have h2:=enc_at h (j:=1+e.m.size+j) (by omega)
 rw [← Nat.add_assoc,← Nat.add_assoc,this,encE_be hj] at h2
 injection h2 with h2
 rw [h2,UInt8.toNat_ofNat']
theorem pk_extract {l:List En} {k:Nat} {e:En} (h:l[k]?=some e):(pk l).extract (offE l k+1) (offE l k+1+e.m.size)=e.m:=by
 have hle:=offE_lt h
 have h1:((pk l).extract (offE l k+1) (offE l k+1+e.m.size)).data.toList=e.m.data.toList:=by
  rw [ByteArray.data_extract,Array.toList_extract,pk_toList]
  apply List.ext_getElem?
  intro j
  rw [List.extract_eq_take_drop,List.getElem?_take,Nat.add_sub_cancel_left]
  by_cases hj:j<e.m.size
  ·rw [if_pos hj,List.getElem?_drop,Nat.add_assoc,enc_at h (by omega),encE_mem hj]
  ·rw [if_neg hj,List.getElem?_eq_none (by rw [size_toList];omega)]
 generalize (pk l).extract (offE l k+1) (offE l k+1+e.m.size)=x at h1
 obtain ⟨⟨x⟩⟩:=x
 obtain ⟨⟨⟨y⟩⟩,z⟩:=e
 simp only at h1
 rw [h1]
end Go.Proofs.YtehpmbmdadkhbaaGreatDoor

namespace Pal
def isSz (n:Int):Bool:=[4,8,16,32,64,128,256,512,1024,2048,4096,8192,16384,32768,65536].contains n
def szs:List Nat:=[4,8,16,32,64,128,256,512,1024,2048,4096,8192,16384,32768,65536]
def turnStep (p:Nat × Nat):Nat × Nat:=((2 * p.1+p.2 % 2) % 4294967296,p.2 / 2)
def turnAt (n:Nat):Nat→Nat × Nat
 | 0 => (0,n)
 | k+1 => turnStep (turnAt n k)
def turn (n:Nat):Nat:=(turnAt n 32).1
theorem turnAt_snd (n:Nat):∀ k,(turnAt n k).2=n / 2 ^ k
 | 0 => by simp [turnAt]
 | k+1 => by simp [turnAt,turnStep,turnAt_snd n k,Nat.pow_succ,Nat.div_div_eq_div_mul]
theorem turnAt_lt (n:Nat):∀ k,k≤32→(turnAt n k).1<2 ^ k
 | 0,_ => by simp [turnAt]
 | k+1,hk => by
  have ih:=turnAt_lt n k (by omega)
  have h2:(2:Nat) ^ (k+1)=2 * 2 ^ k:=by rw [Nat.pow_succ];omega
  simp only [turnAt,turnStep]
  have:=Nat.mod_le (2 * (turnAt n k).1+(turnAt n k).2 % 2) 4294967296
  omega
theorem turnAt_bit (n:Nat):∀ k i,k≤32→(turnAt n k).1.testBit i=(decide (i<k) && n.testBit (k - 1 - i))
 | 0,i,_ => by simp [turnAt]
 | k+1,i,hk => by
  have hl:=turnAt_lt n k (by omega)
  have hp:(2:Nat) ^ k≤2 ^ 31:=Nat.pow_le_pow_right (by omega) (by omega)
  have e:(turnAt n (k+1)).1=2 * (turnAt n k).1+(turnAt n k).2 % 2:=by
   simp only [turnAt,turnStep];exact Nat.mod_eq_of_lt (by omega)
  rw [e,turnAt_snd]
  cases i with
  | zero =>
   rw [Nat.testBit_zero]
   have:n.testBit (k+1 - 1 - 0)=decide (n / 2 ^ k % 2=1):=by
    simp [Nat.testBit_eq_decide_div_mod_eq]
   rw [this]
   have:(2 * (turnAt n k).1+n / 2 ^ k % 2) % 2=n / 2 ^ k % 2:=by omega
   rw [this];simp
  | succ i =>
   rw [Nat.testBit_succ]
   have:(2 * (turnAt n k).1+n / 2 ^ k % 2) / 2=(turnAt n k).1:=by omega
   rw [this,turnAt_bit n k i (by omega)]
   have:k+1 - 1 - (i+1)=k - 1 - i:=by omega
   rw [this];simp
theorem turn_lt (n:Nat):turn n<4294967296:=turnAt_lt n 32 (by omega)
theorem turn_bit (n i:Nat) (h:i<32):(turn n).testBit i=n.testBit (31 - i):=by
 unfold turn;rw [turnAt_bit n 32 i (by omega)];simp [h]
theorem bit_ge (n i:Nat) (hn:n<4294967296) (h:32≤i):n.testBit i=false :=
 Nat.testBit_lt_two_pow (Nat.lt_of_lt_of_le hn (Nat.pow_le_pow_right (by omega) h:2 ^ 32≤2 ^ i))
theorem eq32 {a b:Nat} (ha:a<4294967296) (hb:b<4294967296) (h:∀ i,i<32→a.testBit i=b.testBit i):a=b :=
 Nat.eq_of_testBit_eq fun i => by
  by_cases hi:i<32
  ·exact h i hi
  ·rw [bit_ge a i ha (by omega),bit_ge b i hb (by omega)]
theorem turn_turn (n:Nat) (h:n<4294967296):turn (turn n)=n :=
 eq32 (turn_lt _) h fun i hi => by
  rw [turn_bit _ _ hi,turn_bit _ _ (by omega)];congr 1;omega
theorem turn_inj {a b:Nat} (ha:a<4294967296) (hb:b<4294967296) (h:turn a=turn b):a=b:=by
 rw [← turn_turn a ha,h,turn_turn b hb]
def nextC (c size:Nat):Nat:=turn ((turn (c ||| (4294967295 - (size - 1)))+1) % 4294967296)
def nextD (c d:Nat):Nat:=turn ((turn c / 2 ^ (32 - d)+1) * 2 ^ (32 - d) % 4294967296)
theorem bit_high (d i:Nat) (hd:d≤32) (hi:i<32):(4294967295 - (2 ^ d - 1)).testBit i=decide (d≤i):=by
 have hp:(2:Nat) ^ 32=2 ^ d * 2 ^ (32 - d):=by rw [← Nat.pow_add];congr 1;omega
 have h1:1≤2 ^ d:=Nat.one_le_two_pow
 have h2:1≤2 ^ (32 - d):=Nat.one_le_two_pow
 have h32:(2:Nat) ^ 32=4294967296:=rfl
 have e:4294967295 - (2 ^ d - 1)=2 ^ d * (2 ^ (32 - d) - 1):=by
  rw [Nat.mul_sub,← hp];omega
 rw [e,Nat.mul_comm,Nat.testBit_mul_two_pow,Nat.testBit_two_pow_sub_one]
 by_cases h:d≤i
 ·simp [h];omega
 ·simp [h]
theorem turn_or_high (c d:Nat) (hd:d≤32) (hc:c<4294967296) :
  turn (c ||| (4294967295 - (2 ^ d - 1)))=turn c / 2 ^ (32 - d) * 2 ^ (32 - d)+(2 ^ (32 - d) - 1):=by
 have h2:1≤2 ^ (32 - d):=Nat.one_le_two_pow
 have hp:(2:Nat) ^ 32=2 ^ d * 2 ^ (32 - d):=by rw [← Nat.pow_add];congr 1;omega
 have ht:=turn_lt c
 have hq:turn c / 2 ^ (32 - d)<2 ^ d:=by
  rw [Nat.div_lt_iff_lt_mul (by omega),← hp];exact ht
 have hR:turn c / 2 ^ (32 - d) * 2 ^ (32 - d)+(2 ^ (32 - d) - 1)<4294967296:=by
  have:(turn c / 2 ^ (32 - d)+1) * 2 ^ (32 - d)≤2 ^ d * 2 ^ (32 - d):=Nat.mul_le_mul_right _ hq
  rw [← hp,Nat.add_mul] at this
  omega
 refine eq32 (turn_lt _) hR fun i hi => ?_
 rw [turn_bit _ _ hi,Nat.testBit_or,bit_high d _ hd (by omega),Nat.mul_comm,Nat.testBit_two_pow_mul_add _ (by omega)]
 by_cases h:i<32 - d
 ·rw [if_pos h,Nat.testBit_two_pow_sub_one]
  simp [h];right;omega
 ·rw [if_neg h,← Nat.shiftRight_eq_div_pow,Nat.testBit_shiftRight]
  have:32 - d+(i - (32 - d))=i:=by omega
  rw [this,turn_bit _ _ hi]
  have:¬ d≤31 - i:=by omega
  simp [this]
theorem nextC_eq (c d:Nat) (hd:d≤32) (hc:c<4294967296):nextC c (2 ^ d)=nextD c d:=by
 unfold nextC nextD
 rw [turn_or_high c d hd hc]
 congr 2
 have h2:1≤2 ^ (32 - d):=Nat.one_le_two_pow
 rw [Nat.add_mul];omega
def cur (d k:Nat):Nat:=turn (k * 2 ^ (32 - d))
theorem mul_lt (d k:Nat) (hd:d≤32) (hk:k<2 ^ d):k * 2 ^ (32 - d)<4294967296:=by
 have hp:(2:Nat) ^ 32=2 ^ d * 2 ^ (32 - d):=by rw [← Nat.pow_add];congr 1;omega
 have h2:1≤2 ^ (32 - d):=Nat.one_le_two_pow
 have:(k+1) * 2 ^ (32 - d)≤2 ^ d * 2 ^ (32 - d):=Nat.mul_le_mul_right _ hk
 rw [← hp,Nat.add_mul] at this
 omega
theorem cur_zero (d:Nat):cur d 0=0:=by unfold cur;rw [Nat.zero_mul];decide
theorem cur_lt32 (d k:Nat):cur d k<4294967296:=turn_lt _
theorem cur_lt (d k:Nat) (hd:d≤32) (hk:k<2 ^ d):cur d k<2 ^ d:=by
 refine Nat.lt_pow_two_of_testBit _ fun i hi => ?_
 by_cases h:i<32
 ·unfold cur
  rw [turn_bit _ _ h,Nat.testBit_mul_two_pow]
  have:¬ 32 - d≤31 - i:=by omega
  simp [this]
 ·exact bit_ge _ _ (cur_lt32 d k) (by omega)
theorem cur_inj (d:Nat) {j k:Nat} (hd:d≤32) (hj:j<2 ^ d) (hk:k<2 ^ d) (h:cur d j=cur d k):j=k:=by
 have:=turn_inj (mul_lt d j hd hj) (mul_lt d k hd hk) h
 exact Nat.eq_of_mul_eq_mul_right (Nat.one_le_two_pow) this
theorem isSz_pow (n:Int):isSz n=true ↔ ∃ d,2≤d∧d≤16∧n=((2 ^ d:Nat):Int):=by
 constructor
 ·intro h
  simp [isSz] at h
  rcases h with h | h | h | h | h | h | h | h | h | h | h | h | h | h | h
  ·exact ⟨2,by omega,by omega,h⟩
  ·exact ⟨3,by omega,by omega,h⟩
  ·exact ⟨4,by omega,by omega,h⟩
  ·exact ⟨5,by omega,by omega,h⟩
  ·exact ⟨6,by omega,by omega,h⟩
  ·exact ⟨7,by omega,by omega,h⟩
  ·exact ⟨8,by omega,by omega,h⟩
  ·exact ⟨9,by omega,by omega,h⟩
  ·exact ⟨10,by omega,by omega,h⟩
  ·exact ⟨11,by omega,by omega,h⟩
  ·exact ⟨12,by omega,by omega,h⟩
  ·exact ⟨13,by omega,by omega,h⟩
  ·exact ⟨14,by omega,by omega,h⟩
  ·exact ⟨15,by omega,by omega,h⟩
  ·exact ⟨16,by omega,by omega,h⟩
 ·rintro ⟨d,h1,h2,rfl⟩
  have:d=2∨d=3∨d=4∨d=5∨d=6∨d=7∨d=8∨d=9∨d=10∨d=11∨d=12∨d=13∨d=14∨d=15∨d=16:=by omega
  rcases this with h | h | h | h | h | h | h | h | h | h | h | h | h | h | h <;> subst h <;> decide
def mixB (h:Nat) (b:UInt8):Nat:=(h ^^^ b.toNat) * 16777619 % 4294967296
def stirN (h:Nat):Nat:=h ^^^ h / 32768
def endN (h:Nat):Nat:=h ^^^ h / 8192
def sumN (seed:Nat) (l:List UInt8):Nat:=endN (stirN (l.foldl mixB (seed ^^^ 2166136261)) * 2246822519 % 4294967296)
theorem xor32 {a b:Nat} (ha:a<4294967296) (hb:b<4294967296):a ^^^ b<4294967296:=Nat.xor_lt_two_pow (n:=32) ha hb
theorem mixB_lt (h:Nat) (b:UInt8):mixB h b<4294967296:=Nat.mod_lt _ (by omega)
theorem fold_lt (l:List UInt8):∀ h,h<4294967296→l.foldl mixB h<4294967296:=by
 induction l with
 | nil => intro h hh;exact hh
 | cons b l ih => intro h _;exact ih _ (mixB_lt _ _)
theorem endN_lt {h:Nat} (hh:h<4294967296):endN h<4294967296:=xor32 hh (by omega)
theorem sumN_lt (seed:Nat) (l:List UInt8):sumN seed l<4294967296:=endN_lt (Nat.mod_lt _ (by omega))
def sizeFor (n:Int):Nat:=(szs.find? (fun k:Nat => decide (n≤(k:Int)))).getD 65536
def NB (n:Int) (k:Int):Prop:=∃ d:Nat,2≤d∧d≤17∧k=((2 ^ d:Nat):Int)∧∀ e,2≤e→e<d→n≠((2 ^ e:Nat):Int)
theorem NB.start (n:Int):NB n 4:=⟨2,by omega,by omega,by decide,fun e h1 h2 => by omega⟩
theorem pow_mono {a b:Nat} (h:a≤b):(2:Nat) ^ a≤2 ^ b:=Nat.pow_le_pow_right (by omega) h
theorem NB.lo {n k:Int} (h:NB n k):4≤k∧k≤131072:=by
 obtain ⟨d,h2,h17,rfl,_⟩:=h
 have h3:(2:Nat) ^ 2≤2 ^ d:=pow_mono h2
 have h4:(2:Nat) ^ d≤2 ^ 17:=pow_mono h17
 omega
def SB (n:Int) (k:Int):Prop:=∃ d:Nat,2≤d∧d≤17∧k=((2 ^ d:Nat):Int)∧∀ e,2≤e→e<d→((2 ^ e:Nat):Int)<n
theorem SB.start (n:Int):SB n 4:=⟨2,by omega,by omega,by decide,fun e h1 h2 => by omega⟩
theorem SB.lo {n k:Int} (h:SB n k):4≤k∧k≤131072:=by
 obtain ⟨d,h2,h17,rfl,_⟩:=h
 have h3:(2:Nat) ^ 2≤2 ^ d:=pow_mono h2
 have h4:(2:Nat) ^ d≤2 ^ 17:=pow_mono h17
 omega
theorem SB.next {n k:Int} (h:SB n k) (hk:k≤65536) (hn:k<n):SB n (2 * k):=by
 obtain ⟨d,h2,h17,rfl,hl⟩:=h
 refine ⟨d+1,by omega,?_,by rw [Nat.pow_succ];omega,fun e h1 he => ?_⟩
 ·rcases Nat.lt_or_ge 16 d with hd | hd
  ·have:(2:Nat) ^ 17≤2 ^ d:=pow_mono hd
   omega
  ·omega
 ·rcases Nat.lt_or_ge e d with hlt | hge
  ·exact hl e h1 hlt
  ·have:e=d:=by omega
   subst this;exact hn
theorem find_szs (p:Nat→Bool) (d:Nat) (h2:2≤d) (h16:d≤16) (hn:∀ e,2≤e→e<d→p (2 ^ e)=false) (hp:p (2 ^ d)=true):szs.find? p=some (2 ^ d):=by
 have hd:d=2∨d=3∨d=4∨d=5∨d=6∨d=7∨d=8∨d=9∨d=10∨d=11∨d=12∨d=13∨d=14∨d=15∨d=16:=by omega
 have e2:=hn 2;have e3:=hn 3;have e4:=hn 4;have e5:=hn 5;have e6:=hn 6;have e7:=hn 7;have e8:=hn 8;have e9:=hn 9
 have e10:=hn 10;have e11:=hn 11;have e12:=hn 12;have e13:=hn 13;have e14:=hn 14;have e15:=hn 15
 clear hn
 rcases hd with rfl | rfl | rfl | rfl | rfl | rfl | rfl | rfl | rfl | rfl | rfl | rfl | rfl | rfl | rfl <;>
  simp_all [szs,List.find?_cons]
theorem find_none (p:Nat→Bool) (hn:∀ e,2≤e→e<17→p (2 ^ e)=false):szs.find? p=none:=by
 have e2:=hn 2;have e3:=hn 3;have e4:=hn 4;have e5:=hn 5;have e6:=hn 6;have e7:=hn 7;have e8:=hn 8;have e9:=hn 9
 have e10:=hn 10;have e11:=hn 11;have e12:=hn 12;have e13:=hn 13;have e14:=hn 14;have e15:=hn 15;have e16:=hn 16
 clear hn
 simp_all [szs,List.find?_cons]
theorem SB.yes {n k:Int} (h:SB n k) (hk:k≤65536) (hn:n≤k):(sizeFor n:Int)=k:=by
 obtain ⟨d,h2,h17,rfl,hl⟩:=h
 have h16:d≤16:=by
  rcases Nat.lt_or_ge 16 d with hd | hd
  ·have:(2:Nat) ^ 17≤2 ^ d:=pow_mono hd
   omega
  ·omega
 unfold sizeFor
 rw [find_szs _ d h2 h16 (fun e h1 h3 => by simpa using hl e h1 h3) (by simpa using hn)]
 rfl
theorem SB.no {n k:Int} (h:SB n k) (hk:65536≤k):(sizeFor n:Int)=65536:=by
 obtain ⟨d,h2,h17,rfl,hl⟩:=h
 have h16:16≤d:=by
  rcases Nat.lt_or_ge d 16 with hd | hd
  ·have:(2:Nat) ^ d≤2 ^ 15:=pow_mono (by omega)
   omega
  ·omega
 by_cases hn:n≤65536
 ·unfold sizeFor
  rw [find_szs _ 16 (by omega) (by omega) (fun e h1 h3 => by simpa using hl e h1 (by omega)) (by simpa using hn)]
  rfl
 ·unfold sizeFor
  rw [find_none _ (fun e h1 h3 => by
   have:(2:Nat) ^ e≤2 ^ 16:=pow_mono (by omega)
   rw [decide_eq_false_iff_not];omega)]
  rfl
theorem sizeFor_spec (n:Int):∃ d:Nat,2≤d∧d≤16∧sizeFor n=2 ^ d∧(∀ e,2≤e→e<d→((2 ^ e:Nat):Int)<n)∧(n≤((2 ^ d:Nat):Int)∨d=16):=by
 have key:∀ m d:Nat,d+m=17→2≤d→(∀ e,2≤e→e<d→((2 ^ e:Nat):Int)<n) →
   ∃ d:Nat,2≤d∧d≤16∧sizeFor n=2 ^ d∧(∀ e,2≤e→e<d→((2 ^ e:Nat):Int)<n)∧(n≤((2 ^ d:Nat):Int)∨d=16):=by
  intro m
  induction m with
  | zero =>
   intro d hd h2 hl
   have hs:SB n ((2 ^ d:Nat):Int):=⟨d,h2,by omega,rfl,hl⟩
   have:=hs.no (by rw [show d=17 by omega];decide)
   exact ⟨16,by omega,by omega,by omega,fun e h1 h3 => hl e h1 (by omega),.inr rfl⟩
  | succ m ih =>
   intro d hd h2 hl
   by_cases hn:n≤((2 ^ d:Nat):Int)
   ·have hs:SB n ((2 ^ d:Nat):Int):=⟨d,h2,by omega,rfl,hl⟩
    have hp:(2:Nat) ^ d≤2 ^ 16:=pow_mono (by omega)
    have:=hs.yes (by omega) hn
    exact ⟨d,h2,by omega,by omega,hl,.inl hn⟩
   ·exact ih (d+1) (by omega) (by omega) fun e h1 h3 => by
     rcases Nat.lt_or_ge e d with hlt | hge
     ·exact hl e h1 hlt
     ·have:e=d:=by omega
      subst this;omega
 exact key 15 2 (by omega) (by omega) (fun e h1 h2 => by omega)
end Pal

namespace Go.Proofs.YtehpmbmdadkhbaaGreatDoor
open Go.RowKit Pal
theorem u32_of_wf {a:Int} (h:(Lit.int .u32 a).wf=true):∃ n:Nat,a=(n:Int)∧n<4294967296:=by
 simp [Lit.wf,IntKind.min,IntKind.max,IntKind.signed,IntKind.bits] at h
 exact ⟨a.toNat,by omega,by omega⟩
theorem i64_of_wf {a:Int} (h:(Lit.int .i64 a).wf=true):-9223372036854775808≤a∧a≤9223372036854775807:=by
 simp [Lit.wf,IntKind.min,IntKind.max,IntKind.signed,IntKind.bits] at h
 exact h
set_option maxHeartbeats 400000 in
theorem mask_any (n:Int) (w:World) (h0:1≤n) (h1:n≤65536) :
  Calls Tryz.prog 89 #[.int .i64 n] w fun e w' => e=.returned (.int .u32 (n - 1))∧w=w':=by
 go_enter Tryz.func89,Tryz.ntmps89
 go_wp2
 go_ret
 exact ⟨rfl,rfl⟩
theorem int_eq {k:IntKind} {a b:Int} (h:a=b):Value.int k a=.int k b:=by rw [h]
theorem turnAt_fst_lt (n k:Nat) (hk:k≤32):(turnAt n k).1<4294967296 :=
 Nat.lt_of_lt_of_le (turnAt_lt n k hk) (Nat.pow_le_pow_right (by omega) hk:2 ^ k≤2 ^ 32)
theorem turnAt_snd_lt (n k:Nat) (hn:n<4294967296):(turnAt n k).2<4294967296:=by
 rw [turnAt_snd];exact Nat.lt_of_le_of_lt (Nat.div_le_self _ _) hn
theorem turn_step_eq (n k:Nat) (hk:k<32) (hn:n<4294967296):(bits BinOp.or IntKind.u32 (((turnAt n k).1:Int) * 2 % 4294967296) (bits BinOp.and IntKind.u32 ((turnAt n k).2:Int) 1))=((turnAt n (k+1)).1:Int):=by
 have h1:=turnAt_fst_lt n k (by omega)
 have h2:=turnAt_snd_lt n k hn
 have e1:((turnAt n k).1:Int) * 2 % 4294967296=((2 * (turnAt n k).1 % 4294967296:Nat):Int):=by omega
 have e2:=u32_and_nat (turnAt n k).2 1 h2 (by omega)
 rw [nat_mask1] at e2
 rw [e1,show (1:Int)=((1:Nat):Int) from rfl,e2,u32_or_nat _ _ (Nat.mod_lt _ (by omega)) (by omega),nat_join 1 _ _ (by omega) (by omega)]
 simp only [turnAt,turnStep]
 omega
set_option maxHeartbeats 400000 in
theorem turn_any (n:Nat) (w:World) (h1:n<4294967296) :
  Calls Tryz.prog 122 #[.int .u32 (n:Int)] w fun e w' => e=.returned (.int .u32 (turn n:Int))∧w=w':=by
 go_enter Tryz.func122,Tryz.ntmps122
 go_wp2
 go_loop [0,3,4] (fun m o i => ∃ k:Nat,k≤32∧i=.int .i64 (k:Int)∧o=.int .u32 ((turnAt n k).1:Int)∧m=.int .u32 ((turnAt n k).2:Int)) (fun _ _ i => 32 - (intOf i).toNat)
 case atStart => exact ⟨0,by omega,rfl,rfl,rfl⟩
 case round =>
  obtain ⟨k,hk,rfl,rfl,rfl⟩:=hrel
  by_cases hlt:k<32
  ·go_wp2
   go_round
   case rel => exact ⟨k+1,by omega,by go_num,int_eq (turn_step_eq n k hlt h1),int_eq (by simp [turnAt,turnStep])⟩
   case measure => simp [intOf];omega
  ·go_wp2
   go_ret
   exact ⟨by rw [show k=32 by omega];rfl,rfl⟩
theorem slot_bits (s d:Nat) (hs:s<4294967296) (hd:d≤16):bits BinOp.and IntKind.u32 (s:Int) (((2 ^ d:Nat):Int) - 1)=((s % 2 ^ d:Nat):Int):=by
 have hp:(2:Nat) ^ d≤2 ^ 16:=pow_mono hd
 have h1:1≤2 ^ d:=Nat.one_le_two_pow
 have e:((2 ^ d:Nat):Int) - 1=((2 ^ d - 1:Nat):Int):=by omega
 rw [e,u32_and_nat _ _ hs (by omega),Nat.and_two_pow_sub_one_eq_mod]
theorem u32_not_nat (m:Nat) (hm:m<4294967296):bits BinOp.xor IntKind.u32 IntKind.u32.max (m:Int)=((4294967295 - m:Nat):Int):=by
 have hx:IntKind.u32.max=((4294967295:Nat):Int):=rfl
 rw [hx,u32_xor_nat _ _ (by omega) hm]
 congr 1
 refine eq32 (xor32 (by omega) hm) (by omega) fun i hi => ?_
 have e:4294967295 - m=2 ^ 32 - (m+1):=by omega
 have e2:(4294967295:Nat)=2 ^ 32 - 1:=rfl
 rw [e,Nat.testBit_xor,e2,Nat.testBit_two_pow_sub_one,Nat.testBit_two_pow_sub_succ hm]
 simp [hi]
theorem cursor_bits (c d:Nat) (n:Int) (hn:n=((2 ^ d:Nat):Int)) (hc:c<4294967296) (h16:d≤16) :
  bits BinOp.or IntKind.u32 (c:Int) (bits BinOp.xor IntKind.u32 IntKind.u32.max (n - 1))=((c ||| (4294967295 - (2 ^ d - 1)):Nat):Int):=by
 have hp:(2:Nat) ^ d≤2 ^ 16:=pow_mono h16
 have h1:1≤2 ^ d:=Nat.one_le_two_pow
 have e:n - 1=((2 ^ d - 1:Nat):Int):=by omega
 rw [e,u32_not_nat _ (by omega),u32_or_nat _ _ hc (by omega)]
theorem or32 {a b:Nat} (ha:a<4294967296) (hb:b<4294967296):a ||| b<4294967296:=Nat.or_lt_two_pow (n:=32) ha hb
set_option maxHeartbeats 400000 in
theorem next_any (c:Nat) (d:Nat) (n:Int) (w:World) (hn:n=((2 ^ d:Nat):Int)) (hc:c<4294967296) (h16:d≤16) :
  Calls Tryz.prog 90 #[.int .u32 (c:Int),.int .i64 n] w fun e w' => e=.returned (.int .u32 (nextD c d:Int))∧w=w':=by
 have hp:(2:Nat) ^ d≤2 ^ 16:=pow_mono h16
 have h1:1≤2 ^ d:=Nat.one_le_two_pow
 have hb1:1≤n:=by omega
 have hb2:n≤65536:=by omega
 have H1:=Lib.hid (cursor_bits c d n hn hc h16)
 have hl:c ||| (4294967295 - (2 ^ d - 1))<4294967296:=or32 hc (by omega)
 have H2:=Lib.hid (nextC_eq c d (by omega) hc)
 clear hn
 go_enter Tryz.func90,Tryz.ntmps90
 go_wp2_with (go_at_call 89;refine (mask_any _ _ hb1 hb2).mono ?_;rintro e w' ⟨rfl,rfl⟩)
 rw [H1.out]
 refine (turn_any _ _ hl).mono ?_;rintro e w' ⟨rfl,rfl⟩
 go_wp2_with fail
 rw [show ((turn (c ||| 4294967295 - (2 ^ d - 1)):Nat):Int)+1=(((turn (c ||| 4294967295 - (2 ^ d - 1))+1):Nat):Int) from rfl,show (((turn (c ||| 4294967295 - (2 ^ d - 1))+1:Nat):Int)) % 4294967296=(((turn (c ||| 4294967295 - (2 ^ d - 1))+1) % 4294967296:Nat):Int) from rfl]
 refine (turn_any _ _ (Nat.mod_lt _ (by omega))).mono ?_;rintro e w' ⟨rfl,rfl⟩
 go_wp2_with fail
 go_ret
 exact ⟨by rw [← H2.out];rfl,rfl⟩
end Go.Proofs.YtehpmbmdadkhbaaGreatDoor

namespace Pal
open Go Go.RowKit
def noDefer (ops:Array Oper):Bool:=ops.toList.all fun o => match o.op with | .defer _ => false | _ => true
theorem noDefer_spec {ops:Array Oper} (h:noDefer ops=true) {i:Nat} {o:Oper} (ho:ops[i]?=some o):∀ c,o.op≠.defer c:=by
 intro c hc
 have hm:o∈ops.toList:=Array.mem_toList_iff.2 (Array.mem_of_getElem? ho)
 have:=List.all_eq_true.1 h o hm
 rw [hc] at this
 cases this
section
variable {P:Program} {l n:Nat} {Q:Exit→Act→World→Prop}
theorem rowsIn_of_rows {row:String} {args:Array Value} {w:World} {R:Value→World→Prop} (h:Rows P row args w R):RowsIn (Fence.wide.inRound l) n P row args w R:=fun c cs _ =>
 let ⟨v,w',r,s⟩:=h c cs
 ⟨v,w',r,stepsIn_wide.2 s⟩
theorem wpIn_of_wp {o:Oper} {a:Act} {w:World} {K:Act→World→Prop} (hd:∀ c,o.op≠.defer c) (h:o.wp P a w K Q):o.wpIn (Fence.wide.inRound l) n P a w K Q:=by
 refine ⟨fun _ _ => trivial,?_⟩
 rw [Oper.semAt_plain _ _ _ hd]
 unfold Oper.wp at h
 generalize (execOp a.eval o).run P w=r at h ⊢
 cases r with
 | ok x w' =>
  cases x with
  | value v => exact h
  | skip => exact h
  | defer d => exact h
  | enter f args => exact ⟨fun h => (by cases h),CallsIn.inRound l (callsIn_wide.2 h)⟩
  | row row args => exact ⟨fun h => (by cases h),rowsIn_of_rows h⟩
  | round _ _ _ _ _ => exact h.elim
  | _ => exact h.elim
 | halt x w' =>
  cases x with
  | panic v => exact h
  | _ => exact h.elim
theorem wpAnyIn_of_wpAny {md:Region.Mode} {ops:Array Oper} (hd:noDefer ops=true) (hQ:¬ LetsOut Q):∀ (fuel:Nat) (listed:Array Bool) (a:Act) (w:World),wpAny P md ops Q fuel listed a w→wpAnyIn (Fence.wide.inRound l) n P md ops Q fuel listed a w
 | 0,_,_,_,h => h
 | fuel+1,listed,a,w,h => ⟨h.1,fun i hi => by
   have h2:=h.2 i hi
   unfold wpOp at h2
   unfold wpOpIn
   cases ho:ops[i]? with
   | none => rw [ho] at h2;exact wpAnyIn_of_wpAny hd hQ fuel _ _ _ h2
   | some o =>
    simp only [ho] at h2 ⊢
    split at h2
    ·rename_i hw
     rw [if_pos hw]
     rcases h2 with h2 | h2
     ·exact Oper.wpIn_mono (fun a' w' h3 => wpAnyIn_of_wpAny hd hQ fuel _ _ _ h3) (wpIn_of_wp (noDefer_spec hd ho) h2)
     ·exact absurd h2.2 hQ
    ·rename_i hw
     rw [if_neg hw]
     exact ⟨fun _ _ => trivial,wpAnyIn_of_wpAny hd hQ fuel _ _ _ h2⟩⟩
theorem wpIn_region_plain {id:Nat} {ops:Array Oper} {a:Act} {w:World} (hm:P.follows .mixedOrders=true) (hd:noDefer ops=true) (hQ:¬ LetsOut Q)
  (h:wpAny P .any ops Q ops.size (Array.replicate ops.size false) a { w with drawn:=w.drawn+1 }):(Code.region id ops true).wpIn (Fence.wide.inRound l) n P Q a w :=
 wpIn_region_any hm (wpAnyIn_of_wpAny hd hQ _ _ _ _ h)
end
section
variable {P:Program} {ops:Array Oper} {Q:Exit→Act→World→Prop} {md:Region.Mode} {S:World→Prop}
def waitsB (md:Region.Mode) (ops:Array Oper) (x i:Nat):Bool:=match ops[x]? with
 | some o => o.after.any fun e => Region.binds md e && e.on == i
 | none => false
def wpAnyF (P:Program) (md:Region.Mode) (ops:Array Oper) (Q:Exit→Act→World→Prop) (S:World→Prop) (x:Nat):Nat→Array Bool→Act→World→Prop
 | 0,listed,a,w => Region.ready md ops listed=[]∧Q .normal a w
 | fuel+1,listed,a,w =>
  (Region.ready md ops listed=[]→Q .normal a w) ∧
  ∀ i∈Region.ready md ops listed,wpOp P ops Q i (fun a' w' => (i≠x→S w')∧wpAnyF P md ops Q S x fuel (listed.setIfInBounds i true) a' w') a w
theorem wpAny_of_wpAnyF {x:Nat}:∀ (fuel:Nat) (listed:Array Bool) (a:Act) (w:World),wpAnyF P md ops Q S x fuel listed a w→wpAny P md ops Q fuel listed a w
 | 0,_,_,_,h => h
 | fuel+1,_,_,_,h => ⟨h.1,fun i hi => wpOp_mono (fun _ _ h' => wpAny_of_wpAnyF fuel _ _ _ h'.2) (h.2 i hi)⟩
theorem not_waits {i:Nat} {listed:Array Bool} {oj:Oper} (hr:i∈Region.ready md ops listed) (hall:∀ e∈oj.after,Region.binds md e=true→listed.getD e.on false=true) :
  ∀ e∈oj.after,Region.binds md e=true→e.on≠i:=fun e he hb heq => by
 have h1:=hall e he hb
 have h0:=(mem_ready.1 hr).1
 rw [heq] at h1
 rcases Nat.lt_or_ge i listed.size with h' | h'
 ·simp [h'] at h0 h1;rw [h0] at h1;cases h1
 ·simp [Array.getElem?_eq_none h'] at h1
theorem wpAnyF_first {i x:Nat} {oi:Oper} {v:Value} (hi:ops[i]?=some oi) (hsel:∀ (j:Nat) (o:Oper) cs b,ops[j]?=some o→o.op≠.select cs b) (hx:waitsB md ops x i=true)
  (hQ:∀ c a w,Q (.panic c) (a.put oi.dst v) w→Q (.panic c) a w) :
  ∀ (fuel:Nat) (listed:Array Bool) (a:Act) (w:World),
   (∀ j oj,ops[j]?=some oj→j≠i→listed.getD j true=false→(∀ e∈oj.after,Region.binds md e=true→e.on≠i)→oi.apart ops oj=true) →
   i∈Region.ready md ops listed→YieldsIf P ops S oi v a→S w →
   wpAnyF P md ops Q S x fuel (listed.setIfInBounds i true) (a.put oi.dst v) w→wpAnyF P md ops Q S x (fuel+1) listed a w
 | fuel,listed,a,w,hfree,hr,hy,hS,H => by
  refine ⟨fun h => (by rw [h] at hr;cases hr),fun j hj => ?_⟩
  by_cases hji:j=i
  ·subst hji
   exact hy.wpOp hi hS ⟨fun _ => hS,H⟩
  ·have hj':=ready_mono hj hji
   cases fuel with
   | zero => rw [H.1] at hj';cases hj'
   | succ fuel =>
    obtain ⟨hjun,oj,hoj,hall⟩:=mem_ready.1 hj
    have hnw:=not_waits hr hall
    have hjx:j≠x:=fun e => by
     subst e
     unfold waitsB at hx
     rw [hoj] at hx
     obtain ⟨e,he,hb⟩:=Array.any_eq_true'.1 hx
     simp only [Bool.and_eq_true,beq_iff_eq] at hb
     exact hnw e he hb.1 hb.2
    have h2:=wpOp_putIf hoj (hfree j oj hoj hji hjun hnw) (fun cs b => hsel i oi cs b hi) (fun cs b => hsel j oj cs b hoj) hQ hy (H.2 j hj')
    have hr':i∈Region.ready md ops (listed.setIfInBounds j true):=ready_mono hr (Ne.symm hji)
    refine wpOp_mono (fun a' w' h3 => ?_) h2
    obtain ⟨hy',hS',H'⟩:=h3
    rw [Array.setIfInBounds_comm _ _ (Ne.symm hji)] at H'
    exact ⟨fun _ => hS' hjx,wpAnyF_first hi hsel hx hQ fuel _ a' w' (fun k ok hk hki hun hno => by
     refine hfree k ok hk hki ?_ hno
     by_cases hjk:j=k
     ·subst hjk;exact hjun
     ·rw [getD_set_ne true hjk] at hun;exact hun) hr' hy' (hS' hjx) H'⟩
theorem wpAnyF_take (i:Nat) {x:Nat} {oi:Oper} {v:Value} {fuel:Nat} {listed:Array Bool} {a:Act} {w:World} (hi:ops[i]?=some oi)
  (hs:Region.noSelect ops=true) (hf:Region.free md ops listed i=true) (hr:(Region.ready md ops listed).contains i=true) (hx:waitsB md ops x i=true)
  (hQ:∀ c a w,Q (.panic c) (a.put oi.dst v) w→Q (.panic c) a w) (hS:S w) (hw:Region.wanted oi (yielded ops a.tmps)=true) (hy:∀ w,S w→(execOp a.eval oi).run P w=.ok (.value v) w)
  (h:wpAnyF P md ops Q S x fuel (listed.setIfInBounds i true) (a.put oi.dst v) w):wpAnyF P md ops Q S x (fuel+1) listed a w :=
 wpAnyF_first hi (Region.noSelect_spec hs) hx hQ fuel listed a w (Region.free_spec hi hf) (by simpa using hr) (.inl ⟨hw,hy⟩) hS h
theorem wpAnyF_one (i:Nat) {x:Nat} {o:Oper} {fuel:Nat} {listed:Array Bool} {a:Act} {w:World} (hr:Region.ready md ops listed=[i]) (ho:ops[i]?=some o)
  (h:∀ K:Act→World→Prop,(∀ a' w',(i≠x→S w')→wpAnyF P md ops Q S x fuel (listed.setIfInBounds i true) a' w'→K a' w')→if Region.wanted o (yielded ops a.tmps)=true then Oper.wp P o a w K Q else K (a.put o.dst undef) w) :
  wpAnyF P md ops Q S x (fuel+1) listed a w:=by
 refine ⟨fun h0 => (by rw [h0] at hr;cases hr),fun j hj => ?_⟩
 rw [hr] at hj
 have hj:j=i:=by simpa using hj
 subst hj
 have h2:=h _ (fun a' w' h1 h2 => (⟨h1,h2⟩:(j≠x→S w')∧wpAnyF P md ops Q S x fuel (listed.setIfInBounds j true) a' w'))
 unfold wpOp
 rw [ho]
 dsimp only
 split
 ·rename_i hw;rw [if_pos hw] at h2;exact .inl h2
 ·rename_i hw;rw [if_neg hw] at h2;exact h2
def AllF (P:Program) (md:Region.Mode) (ops:Array Oper) (Q:Exit→Act→World→Prop) (S:World→Prop) (x fuel:Nat) (listed:Array Bool) (a:Act) (w:World) (rs:List Nat):Prop :=
 ∀ i∈rs,wpOp P ops Q i (fun a' w' => (i≠x→S w')∧wpAnyF P md ops Q S x fuel (listed.setIfInBounds i true) a' w') a w
theorem AllF.nil {x fuel:Nat} {listed:Array Bool} {a:Act} {w:World}:AllF P md ops Q S x fuel listed a w []:=fun _ h => by cases h
theorem AllF.cons {x fuel:Nat} {listed:Array Bool} {a:Act} {w:World} {i:Nat} {o:Oper} {rs:List Nat} (ho:ops[i]?=some o)
  (h:∀ K:Act→World→Prop,(∀ a' w',(i≠x→S w')→wpAnyF P md ops Q S x fuel (listed.setIfInBounds i true) a' w'→K a' w')→if Region.wanted o (yielded ops a.tmps)=true then Oper.wp P o a w K Q else K (a.put o.dst undef) w)
  (hs:AllF P md ops Q S x fuel listed a w rs):AllF P md ops Q S x fuel listed a w (i :: rs):=fun j hj => by
 rcases List.mem_cons.1 hj with rfl | hj
 ·have h2:=h _ (fun a' w' h1 h2 => (⟨h1,h2⟩:(j≠x→S w')∧wpAnyF P md ops Q S x fuel (listed.setIfInBounds j true) a' w'))
  unfold wpOp
  rw [ho]
  dsimp only
  split
  ·rename_i hw;rw [if_pos hw] at h2;exact .inl h2
  ·rename_i hw;rw [if_neg hw] at h2;exact h2
 ·exact hs j hj
theorem wpAnyF_ready {x:Nat} (rs:List Nat) {fuel:Nat} {listed:Array Bool} {a:Act} {w:World} (hr:Region.ready md ops listed=rs) (hne:rs≠[])
  (h:AllF P md ops Q S x fuel listed a w rs):wpAnyF P md ops Q S x (fuel+1) listed a w :=
 ⟨fun h0 => absurd (hr.symm.trans h0) hne,hr ▸ h⟩
theorem wpAnyF_done {x:Nat} {listed:Array Bool} {a:Act} {w:World} (hr:Region.ready md ops listed=[]) (h:Q .normal a w):∀ fuel,wpAnyF P md ops Q S x fuel listed a w
 | 0 => ⟨hr,h⟩
 | _+1 => ⟨fun _ => h,by rw [hr];simp⟩
theorem wpIn_region_held {l n id:Nat} {ol:List Oper} {a:Act} {w:World} (x:Nat) (S:World→Prop) (hm:P.follows .mixedOrders=true) (hd:noDefer ol.toArray=true) (hQ:¬ LetsOut Q)
  (h:wpAnyF P .any ol.toArray Q S x ol.toArray.size (Array.replicate ol.toArray.size false) a w.drew):(Code.region id ol.toArray true).wpIn (Fence.wide.inRound l) n P Q a w :=
 wpIn_region_plain hm hd hQ (wpAny_of_wpAnyF _ _ _ _ h)
theorem wp_region_heldF {id:Nat} {ol:List Oper} {a:Act} {w:World} (x:Nat) (S:World→Prop) (hm:P.follows .mixedOrders=true)
  (h:wpAnyF P .any ol.toArray Q S x ol.toArray.size (Array.replicate ol.toArray.size false) a w.drew):(Code.region id ol.toArray true).wp P Q a w :=
 wp_region_any hm (wpAny_of_wpAnyF _ _ _ _ h)
end
end Pal

namespace Pal
open Go Go.RowKit
theorem allocs_old:∀ (l:List Obj) (w:World) (k:Nat),k<w.heap.size→(l.foldl World.alloc w).heap[k]?=w.heap[k]?
 | [],_,_,_ => rfl
 | o :: l,w,k,h => (allocs_old l (w.alloc o) k (by simp;omega)).trans (Below.heap_alloc w o k h)
theorem allocs_get:∀ (l:List Obj) (w:World) (i:Nat) (o:Obj),l[i]?=some o→(l.foldl World.alloc w).heap[w.heap.size+i]?=some o
 | [],_,_,_,h => by cases h
 | x :: l,w,0,o,h => by
  injection h with h
  subst h
  exact (allocs_old l (w.alloc x) _ (by simp)).trans (World.alloc_heap_new w x)
 | x :: l,w,i+1,o,h => by
  have:=allocs_get l (w.alloc x) i o h
  rw [World.size_alloc] at this
  rw [show w.heap.size+(i+1)=w.heap.size+1+i by omega]
  exact this
theorem allocs_chg (S:Nat→Prop):∀ (l:List Obj) (w:World),Chg S w (l.foldl World.alloc w)
 | [],w => Chg.refl _ w
 | o :: l,w => ((Chg.refl S w).alloc o).trans (allocs_chg S l (w.alloc o))
theorem allocs_size:∀ (l:List Obj) (w:World),(l.foldl World.alloc w).heap.size=w.heap.size+l.length
 | [],w => rfl
 | o :: l,w => by
  show (l.foldl World.alloc (w.alloc o)).heap.size=_
  rw [allocs_size l,World.size_alloc,List.length_cons];omega
section
variable {w:World} {g:Nat} {t:TypeId}
theorem Blk.range {l:List Value} (h:Blk w g t l.toArray):w.rangeAt g 0 l:=fun j v hv => by
 rw [Nat.zero_add,h.cell,List.getElem?_toArray];exact hv
theorem Blk.there_ {cs:Array Value} (h:Blk w g t cs):w.there g 0 cs.size:=fun j hj => by
 rw [Nat.zero_add]
 exact ⟨by rw [h.cell,Array.getElem?_eq_getElem hj];rfl,h.frozen j⟩
theorem Blk.setCells_ex:∀ (vs:List Value) (o:Nat) (w:World) (cs:Array Value),Blk w g t cs→∃ cs',Blk (w.setCells g o vs) g t cs'∧cs'.size=cs.size
 | [],_,w,cs,h => ⟨cs,h,rfl⟩
 | v :: vs,o,w,cs,h => by
  obtain ⟨cs',h1,h2⟩:=Blk.setCells_ex vs (o+1) _ _ (h.set o v)
  exact ⟨cs',h1,by rw [h2];simp⟩
theorem Blk.setAll {cs:Array Value} (h:Blk w g t cs) (vs:List Value) (hl:vs.length=cs.size):Blk (w.setCells g 0 vs) g t vs.toArray:=by
 have hr:=World.rangeAt_setCells_same w g 0 vs (by rw [hl];exact h.there_)
 obtain ⟨cs',h1,h2⟩:=Blk.setCells_ex vs 0 w cs h
 have:cs'=vs.toArray:=by
  apply Array.ext_getElem?
  intro j
  rcases Nat.lt_or_ge j vs.length with hj | hj
  ·have:=hr j vs[j] (List.getElem?_eq_getElem hj)
   rw [Nat.zero_add,h1.cell] at this
   rw [this,List.getElem?_toArray,List.getElem?_eq_getElem hj]
  ·rw [Array.getElem?_eq_none (by omega),List.getElem?_toArray,List.getElem?_eq_none hj]
 rw [← this];exact h1
theorem Blk.farCells {cs:Array Value} (vs:List Value):∀ (o:Nat) (w:World) {b:Nat},g≠b→Blk w g t cs→Blk (w.setCells b o vs) g t cs:=by
 induction vs with
 | nil => intro o w b _ h;exact h
 | cons v vs ih => intro o w b hne h;exact ih (o+1) _ hne (h.far (p:=⟨b,o,none⟩) hne v)
theorem setCells_chg {S:Nat→Prop} {a:World} (vs:List Value):∀ (o:Nat) (w:World) {b:Nat},(b<a.heap.size→S b)→Chg S a w→Chg S a (w.setCells b o vs):=by
 induction vs with
 | nil => intro o w b _ h;exact h
 | cons v vs ih => intro o w b hb h;exact ih (o+1) _ hb (h.setCell (p:=⟨b,o,none⟩) hb v)
theorem heap_farCells (vs:List Value):∀ (o:Nat) (w:World) {b k:Nat},k≠b→(w.setCells b o vs).heap[k]?=w.heap[k]?:=by
 induction vs with
 | nil => intro o w b k _;rfl
 | cons v vs ih => intro o w b k hne;exact (ih (o+1) _ hne).trans (Below.heap_setCell _ _ _ _ (by simpa using hne))
end
section
variable {P:Program} {F:Fence} {n:Nat} {Q:Exit→Act→World→Prop} {a:Act} {w:World}
theorem stepR_scope {b:Frame} {k:List Item} {cs:List Frame} {c:Code}:step P (lone (b.atR a (.code (.scope c) :: k)) cs w)=.next (lone (b.atR a (.code c :: .inScope c :: k)) cs w) :=
 step_lone_go (by simp [stepG,stepG.exec,Frame.atR])
theorem stepR_inScope {b:Frame} {k:List Item} {cs:List Frame} {c:Code}:step P (lone (b.atR a (.inScope c :: k)) cs w)=.next (lone (b.atR a k) cs w) :=
 step_lone_go (by simp [stepG,stepG.exec,Frame.atR])
theorem wpIn_scope_straight {c:Code} (h:c.wpIn F n P (Exit.noGoto Q) a w):(Code.scope c).wpIn F n P Q a w:=by
 intro b k cs hro hb hr
 have h0:(lone (b.atR a (.code (.scope c) :: k)) cs w).fenced P F:=fenced_calm hb hr rfl
 obtain ⟨e,a₁,w₁,hq,harr⟩:=h b (.inScope c :: k) cs hro hb hr
 cases e with
 | normal => exact ⟨.normal,a₁,w₁,hq,.head h0 stepR_scope (StepsIn.trans harr (.one (fenced_calm hb hr rfl) stepR_inScope))⟩
 | exit id =>
  have hx:exitTo id (.inScope c :: k)=exitTo id k:=by simp [exitTo]
  exact ⟨.exit id,a₁,w₁,hq,fun k' hk => .head h0 stepR_scope (harr.1 k' (by rw [hx];exact hk)),
   fun hr' hk => let ⟨k₁,h1,h2⟩:=harr.2 hr' (by rw [hx];exact hk);⟨k₁,h1,.head h0 stepR_scope h2⟩⟩
 | goto l => exact hq.elim
 | ret => exact ⟨_,a₁,w₁,hq,.of_steps (.one h0 stepR_scope) harr⟩
 | panic ch => exact ⟨_,a₁,w₁,hq,.of_steps (.one h0 stepR_scope) harr⟩
 | outgrown => exact ⟨_,a₁,w₁,hq,.of_steps (.one h0 stepR_scope) harr⟩
theorem wp_normal {c:Code} {K:Act→World→Prop} (h:c.wp P (Exit.then K (fun _ _ _ => False)) a w):c.wp P (Exit.then K Q) a w :=
 (wpIn_wide (n:=2)).1 (wpIn_mono (wpIn_wide.2 h) fun e _ _ h => by cases e <;> first | exact h | exact h.elim)
theorem wp_world {c:Code} (W:World) (h:w=W) (k:c.wp P Q a W):c.wp P Q a w:=h ▸ k
theorem calls_world {f:FuncId} {args:Array Value} {R:Ending→World→Prop} (W:World) (h:w=W) (k:Calls P f args W R):Calls P f args w R:=h ▸ k
theorem exec_load_mid {op:Oper} (ty:TypeId) (x:Operand) (ho:op.op=.load ty x)
  (b o:Nat) (hx:a.eval x=.pointer (some ⟨b,o,none⟩)) (cs:List Value) (d:TypeDesc) (hc:w.rangeAt b o cs)
  (hu:P.underlying ty=some d) (hd:d.isRow=true) (hi:(P.info? ty).map (·.size)=some cs.length):(execOp a.eval op).run P w=.ok (.value (.agg cs.toArray)) w:=by
 unfold execOp
 simp only [ho,hx,Instr.loadAt,Instr.sureAddr,Sem.run_bind,Sem.run_pure,Result.andThen_ok,run_loadVar_mid w b o ty cs d hc hu hd hi]
theorem wpStill_load_mid {ops:Array Oper} {rest:List Oper} {o:Oper} {N:Act→Prop} (hgd:o.guard=none) (ty:TypeId) (x:Operand) (ho:o.op=.load ty x)
  (b k:Nat) (hx:a.eval x=.pointer (some ⟨b,k,none⟩)) (cs:List Value) (d:TypeDesc) (hc:w.rangeAt b k cs)
  (hu:P.underlying ty=some d) (hd:d.isRow=true) (hi:(P.info? ty).map (·.size)=some cs.length) (h:wpStill P ops w N rest (a.put o.dst (.agg cs.toArray))):wpStill P ops w N (o :: rest) a:=by
 refine wpStill_step (fun K hK => ?_)
 have hw:Region.wanted o (yielded ops a.tmps)=true:=by unfold Region.wanted;rw [hgd]
 rw [if_pos hw]
 unfold Oper.still
 rw [exec_load_mid ty x ho b k hx cs d hc hu hd hi,Oper.stillUpon_value]
 exact hK _ h
theorem wpList_copy_row {ops:Array Oper} {rest:List Oper} {o:Oper} (hgd:o.guard=none) (d x:Operand) (dT sT:TypeId) (hop:o.op=Op.call { callee:=Callee.builtin Builtin.copy,args:=#[d,x],argTypes:=#[dT,sT] })
  (elem:TypeId) (hu:P.underlying dT=some (.slice elem)) (hs:(P.info? elem).map (·.size)=some 1) (g off dLen dCap:Nat) (hd:a.eval d=.slice (some ⟨g,off,none⟩) dLen dCap) (s:ByteArray) (hx:a.eval x=.string s)
  (cur:Array Value) (t:TypeId) (hg:w.heap[g]?=some (.cells cur t (0,0))) (hle:s.size≤dLen) (hfit:off+s.size≤cur.size)
  (h:wpList P ops Q rest (a.put o.dst (goInt s.size)) (w.setRow g (cur.toList.take off++Lib.byteCells s.data.toList++cur.toList.drop (off+s.size)).toArray)):wpList P ops Q (o :: rest) a w :=
 wpList_plain hgd fun K hK => by
  have hrun:=Lib.run_copy_row_string (P:=P) w dT sT o.type elem g off dLen dCap s cur t hu hs hg hle hfit
  unfold Oper.wp
  simp [execOp,hop,resolve,invoke,builtin,hd,hx,hrun,Result.andThen]
  exact hK _ _ (by rw [← List.append_assoc];exact h)
theorem setRow_chg {S:Nat→Prop} {a:World} {g:Nat} (hb:g<a.heap.size→S g) (cs:Array Value) (h:Chg S a w):Chg S a (w.setRow g cs) :=
 ⟨h.os,h.tape,h.output,by simpa using h.size,fun k hk hn => (setRow_other w g k cs (fun e => by subst e;exact hn (hb hk))).trans (h.block k hk hn)⟩
theorem step_store_mid {op:Oper} {K:Act→World→Prop} {c:Bool} {E:Prop} (hcond:c=true) (ty:TypeId) (x y:Operand) (ho:op.op=.store ty x y)
  (b o:Nat) (cells:Array Value) (hx:a.eval x=.pointer (some ⟨b,o,none⟩)) (hy:a.eval y=.agg cells)
  (ht:w.there b o cells.size) (hi:(P.info? ty).map (·.size)=some cells.size) (h1:cells.all (·.oneCell')=true)
  (h:K (a.put op.dst undef) (w.setCells b o cells.toList)):if c=true then op.wp P a w K Q else E:=by
 rw [if_pos hcond];exact wp_store_mid ty x y ho b o cells hx hy ht hi h1 h
theorem wpList_store_blk {ops:Array Oper} {rest:List Oper} {op:Oper} (hgd:op.guard=none) (ty:TypeId) (x y:Operand) (ho:op.op=.store ty x y)
  (b:Nat) (cells:List Value) (hx:a.eval x=.pointer (some ⟨b,0,none⟩)) (hy:a.eval y=.agg cells.toArray) {t:TypeId} {cs:Array Value} (hb:Blk w b t cs) (hl:cells.length=cs.size)
  (hi:(P.info? ty).map (·.size)=some cs.size) (h1:∀ v∈cells,v.oneCell'=true)
  (h:Blk (w.setCells b 0 cells) b t cells.toArray→wpList P ops Q rest (a.put op.dst undef) (w.setCells b 0 cells)):wpList P ops Q (op :: rest) a w:=by
 have hz:cells.toArray.size=cs.size:=by rw [← hl];rfl
 refine wpList_store_mid hgd ty x y ho b 0 cells.toArray hx hy ?_ (by rw [hz];exact hi) (all_oneCell_toArray h1) (h (hb.setAll cells hl))
 rw [hz];exact hb.there_
theorem wpList_store_new {ops:Array Oper} {rest:List Oper} {op:Oper} (hgd:op.guard=none) (ty:TypeId) (x y:Operand) (ho:op.op=.store ty x y)
  (b:Nat) (cells:List Value) (hx:a.eval x=.pointer (some ⟨b,0,none⟩)) (hy:a.eval y=.agg cells.toArray) {t:TypeId} {cs:Array Value} (hb:Blk w b t cs) (hl:cells.length=cs.size)
  (hi:(P.info? ty).map (·.size)=some cs.size) (h1:∀ v∈cells,v.oneCell'=true)
  (h:∀ w',Blk w' b t cells.toArray→(∀ k,k≠b→w'.heap[k]?=w.heap[k]?)→(∀ {S:Nat→Prop} {w0:World},(b<w0.heap.size→S b)→Chg S w0 w→Chg S w0 w')→wpList P ops Q rest (a.put op.dst undef) w'):wpList P ops Q (op :: rest) a w :=
 wpList_store_blk hgd ty x y ho b cells hx hy hb hl hi h1 fun hb' => h _ hb' (fun _ hk => heap_farCells cells 0 w hk) fun hS hc => setCells_chg cells 0 w hS hc
theorem Blk.other {w':World} {g:Nat} {t:TypeId} {cs:Array Value} (h:Blk w g t cs) (e:w'.heap[g]?=w.heap[g]?):Blk w' g t cs:=e.trans h
theorem results_cells2 {fn:Func} {p q:Tmp} {ty uy:TypeId} (h:fn.results=#[.cell p ty,.cell q uy]) (tmps:Array Value) (g k:Nat) (t u:TypeId) (cs ds:Array Value) (d e:TypeDesc)
  (hp:tmps.getD p undef=.pointer (some ⟨g,0,none⟩)) (hg:Blk w g t cs) (hu:P.underlying ty=some d) (hd:d.isRow=true) (hi:(P.info? ty).map (·.size)=some cs.size)
  (hq:tmps.getD q undef=.pointer (some ⟨k,0,none⟩)) (hk:Blk w k u ds) (hu':P.underlying uy=some e) (he:e.isRow=true) (hi':(P.info? uy).map (·.size)=some ds.size) :
  (results fn tmps).run P w=.ok (.tuple #[.agg cs,.agg ds]) w:=by
 have hp':tmps[p]?.getD undef=.pointer (some ⟨g,0,none⟩):=by simpa using hp
 have hq':tmps[q]?.getD undef=.pointer (some ⟨k,0,none⟩):=by simpa using hq
 have hr:∀ (g:Nat) (t ty:TypeId) (cs:Array Value) (d:TypeDesc),Blk w g t cs→P.underlying ty=some d→d.isRow=true→(P.info? ty).map (·.size)=some cs.size→(loadVar ty ⟨g,0,none⟩).run P w=.ok (.agg cs) w:=fun g t ty cs d hg hu hd hi => by
  have:=run_loadVar_mid w g 0 ty cs.toList d (fun j v hv => by rw [Nat.zero_add,hg.cell,← Array.getElem?_toList];exact hv) hu hd (by simpa using hi)
  simpa using this
 simp [results,h,hp',hq',asAddr,hr g t ty cs d hg hu hd hi,hr k u uy ds e hk hu' he hi',Sem.run_bind]
end
end Pal

namespace Go.Proofs.YtehpmbmdadkhbaaGreatDoor
open Go.RowKit Pal Pal.Skip
attribute [local go_sem] Oper.semAt_some
theorem backward_any (p:Option Addr) (n c:Nat) (w:World):Calls Tryz.prog 162 #[.slice p n c] w fun e w' => e=.returned (.func (.func 167) #[] #[pt w.heap.size])∧w.alloc (.cells #[.slice p n c] 291)=w':=by
 unfold pt
 go_enter Tryz.func162,Tryz.ntmps162
 go_wp2
 go_ret
 exact ⟨rfl,rfl⟩
theorem backward1_any (l b g n c:Nat) (hn:n≤1000) (J:Nat→World→Prop)
  (hJ:∀ m W,J m W→W.cell? ⟨b,0,none⟩=some (.slice (some ⟨g,0,none⟩) n c)∧∀ i,i<n→∃ v,W.cell? ⟨g,i,none⟩=some v)
  (hY:∀ m u W,m<n→J (m+1) W→YieldAt Fence.wide 2 Tryz.prog l #[.int .i64 (m:Int),u] W fun e W' => e=.returned (.bool true)∧J m W')
  (W:World) (h0:J n W) :
  Calls Tryz.prog 167 #[.func (.yield l) #[] #[],pt b] W fun e W' => (∃ v,e=.returned v)∧J 0 W':=by
 unfold pt
 obtain ⟨hs,_⟩:=hJ _ _ h0
 refine (callsIn_wide (n:=3)).1 ?_
 refine callsIn_of_wp Tryz.func167 rfl trivial ?_ rfl
 simp only [Tryz.ntmps167,List.size_toArray,List.length_cons,List.length_nil,Nat.reduceAdd,Nat.reduceSub,Array.replicate_succ,Array.replicate_zero,List.push_toArray,List.append_toArray,List.nil_append,List.cons_append]
 gi_wp2
 clear hs
 gi_loopw [3] (fun p wr => ∃ (m:Nat),p=.int .i64 ((m:Int) - 1)∧m≤n∧J m wr) (fun p _ => (intOf p+1).toNat)
 case atStart => exact ⟨n,rfl,Nat.le_refl _,h0⟩
 case round =>
  obtain ⟨m,rfl,hm,hJm⟩:=hrel
  obtain ⟨hs,hc⟩:=hJ _ _ hJm
  cases m with
  | zero =>
   gi_wp2
   go_end0
   exact ⟨⟨_,rfl⟩,hJm⟩
  | succ m =>
   obtain ⟨u,hu⟩:=hc m (by omega)
   obtain ⟨fn,tmps,assign,body,hy,hR⟩:=hY m u wr (by omega) hJm
   have e:((m+1:Nat):Int) - 1=(m:Int):=by omega
   rw [e]
   gi_wp2
   refine hR.mono ?_
   rintro e W3 ⟨rfl,hJ3⟩
   gi_wp2
   go_roundw
   case rel => exact ⟨m,rfl,by omega,hJ3⟩
   case measure => simp [intOf]
def fnv (gf:Nat) (lb:Array Value):Value:=.func (.func gf) #[] lb
def Asks (s:Sk) (k gf:Nat) (lb:Array Value) (w:World):Prop :=
 ∀ q W,1≤q→q≤s.n→Chg (fun _ => False) w W→Calls Tryz.prog gf (#[pt (s.at_ q),.int .i64 (q:Int)]++lb) W fun e W' => e=.returned (.bool (decide (q≤k)))∧Chg (fun _ => False) W W'
structure PB (w:World) (top:Nat) (f:Value) (W:World) (N L:List Value) (x p:Value):Prop where
 c:Chg (fun _ => False) w W
 f:Blk W w.heap.size 282 #[f]
 r:Blk W (w.heap.size+1) 268 (List.replicate 32 (.pointer none)).toArray
 q:Blk W (w.heap.size+2) 269 (List.replicate 32 (.int .i64 0)).toArray
 n:Blk W (w.heap.size+3) 268 N.toArray
 l:Blk W (w.heap.size+4) 269 L.toArray
 x:Blk W (w.heap.size+5) 244 #[x]
 p:Blk W (w.heap.size+6) 3 #[p]
 s:Blk W (w.heap.size+7) 291 #[.slice (some ⟨w.heap.size+3,0,none⟩) top 32]
 d:W.heap[w.heap.size+8]?=some (.deferred (some []))
section
variable {w W W':World} {top:Nat} {f:Value} {N L:List Value} {x p:Value}
theorem PB.chg0 (h:PB w top f W N L x p) (hc:Chg (fun _ => False) W W'):PB w top f W' N L x p :=
 ⟨h.c.trans hc,h.f.chg hc id,h.r.chg hc id,h.q.chg hc id,h.n.chg hc id,h.l.chg hc id,h.x.chg hc id,h.p.chg hc id,h.s.chg hc id,hc.same h.d id⟩
theorem PB.hasN (h:PB w top f W N L x p) {i:Nat} (hi:i<N.length):∃ u,W.cell? ⟨w.heap.size+3,i,none⟩=some u:=⟨N[i],(h.n.cell i).trans (by rw [List.getElem?_toArray,List.getElem?_eq_getElem hi])⟩
theorem PB.hasL (h:PB w top f W N L x p) {i:Nat} (hi:i<L.length):∃ u,W.cell? ⟨w.heap.size+4,i,none⟩=some u:=⟨L[i],(h.l.cell i).trans (by rw [List.getElem?_toArray,List.getElem?_eq_getElem hi])⟩
theorem PB.putL (h:PB w top f W N L x p) (o:Obj):PB w top f (W.putObj (w.heap.size+9) o) N L x p :=
 ⟨h.c.put (by omega) o,h.f.putObj (by omega) o,h.r.putObj (by omega) o,h.q.putObj (by omega) o,h.n.putObj (by omega) o,h.l.putObj (by omega) o,h.x.putObj (by omega) o,h.p.putObj (by omega) o,h.s.putObj (by omega) o,(World.putObj_heap_other (by omega)).trans h.d⟩
theorem PB.setX (h:PB w top f W N L x p) (u:Value):PB w top f (W.setCell ⟨w.heap.size+5,0,none⟩ u) N L u p :=
 ⟨h.c.store_new (by omega) 0 u,h.f.far (by simp;try omega) u,h.r.far (by simp;try omega) u,h.q.far (by simp;try omega) u,h.n.far (by simp;try omega) u,h.l.far (by simp;try omega) u,h.x.set 0 u,h.p.far (by simp;try omega) u,h.s.far (by simp;try omega) u,
  (Below.heap_setCell _ _ _ _ (by simp;try omega)).trans h.d⟩
theorem PB.setP (h:PB w top f W N L x p) (u:Value):PB w top f (W.setCell ⟨w.heap.size+6,0,none⟩ u) N L x u :=
 ⟨h.c.store_new (by omega) 0 u,h.f.far (by simp;try omega) u,h.r.far (by simp;try omega) u,h.q.far (by simp;try omega) u,h.n.far (by simp;try omega) u,h.l.far (by simp;try omega) u,h.x.far (by simp;try omega) u,h.p.set 0 u,h.s.far (by simp;try omega) u,
  (Below.heap_setCell _ _ _ _ (by simp;try omega)).trans h.d⟩
theorem PB.setN (h:PB w top f W N L x p) (i:Nat) (u:Value):PB w top f (W.setCell ⟨w.heap.size+3,i,none⟩ u) (N.set i u) L x p :=
 ⟨h.c.store_new (by omega) i u,h.f.far (by simp;try omega) u,h.r.far (by simp;try omega) u,h.q.far (by simp;try omega) u,by have:=h.n.set i u;rwa [List.setIfInBounds_toArray] at this,h.l.far (by simp;try omega) u,h.x.far (by simp;try omega) u,h.p.far (by simp;try omega) u,h.s.far (by simp;try omega) u,
  (Below.heap_setCell _ _ _ _ (by simp;try omega)).trans h.d⟩
theorem PB.setL (h:PB w top f W N L x p) (i:Nat) (u:Value):PB w top f (W.setCell ⟨w.heap.size+4,i,none⟩ u) N (L.set i u) x p :=
 ⟨h.c.store_new (by omega) i u,h.f.far (by simp;try omega) u,h.r.far (by simp;try omega) u,h.q.far (by simp;try omega) u,h.n.far (by simp;try omega) u,by have:=h.l.set i u;rwa [List.setIfInBounds_toArray] at this,h.x.far (by simp;try omega) u,h.p.far (by simp;try omega) u,h.s.far (by simp;try omega) u,
  (Below.heap_setCell _ _ _ _ (by simp;try omega)).trans h.d⟩
end
set_option maxRecDepth 100000 in
set_option maxHeartbeats 1000000 in
theorem path_any (s:Sk) (k gf:Nat) (lb:Array Value) (w:World) (base:Nat) (h:SkAt w base s) (hk:k≤s.n) (hn:s.n≤100000) (eg:Proofs.Enters Tryz.prog gf) (ha:Asks s k gf lb w) :
  Calls Tryz.prog 156 #[pt s.blk,fnv gf lb] w fun e w' => e=.returned (.tuple #[.agg (s.nodesL k 0).toArray,.agg (s.placesL k 0).toArray])∧Chg (fun _ => False) w w':=by
 unfold pt fnv
 have hh:=h.head
 obtain ⟨_,ht,_,hlt,hfr⟩:=hh
 have htop:=h.top_le
 have htop':(top s.lv:Int)≤32:=by omega
 have e1:s.blk<w.heap.size+1:=by omega
 have e2:s.blk<w.heap.size+1+1:=by omega
 have e3:s.blk<w.heap.size+1+1+1:=by omega
 have e4:s.blk<w.heap.size+1+1+1+1:=by omega
 have e5:s.blk<w.heap.size+1+1+1+1+1:=by omega
 have e6:s.blk<w.heap.size+1+1+1+1+1+1:=by omega
 refine calls_of_wp_marks Tryz.func156 rfl ?_
 simp only [Tryz.ntmps156,List.size_toArray,List.length_cons,List.length_nil,Nat.reduceAdd,Nat.reduceSub,Array.replicate_succ,Array.replicate_zero,List.push_toArray,List.append_toArray,List.nil_append,List.cons_append]
 go_wp2_with (go_at_call 162;refine (backward_any _ _ _ _).mono ?_;rintro e w' ⟨rfl,rfl⟩)
 clear e1 e2 e3 e4 e5 e6 ht hfr hlt
 obtain ⟨l0,hl0⟩:∃ l0:List Obj,l0=[.cells #[fnv gf lb] 282,.cells (List.replicate 32 (.pointer none)).toArray 268,.cells (List.replicate 32 (.int .i64 0)).toArray 269,
  .cells (List.replicate 32 (.pointer none)).toArray 268,.cells (List.replicate 32 (.int .i64 0)).toArray 269,.cells #[pt s.blk] 244,.cells #[.int .i64 0] 3,.cells #[.slice (some ⟨w.heap.size+3,0,none⟩) (top s.lv) 32] 291]:=⟨_,rfl⟩
 refine wp_world (l0.foldl World.alloc w) (by rw [hl0];rfl) ?_
 have hlen:l0.length=8:=by rw [hl0];rfl
 have hget:∀ (i:Nat) (o:Obj),l0[i]?=some o→(l0.foldl World.alloc w).heap[w.heap.size+i]?=some o:=fun i o h => allocs_get l0 w i o h
 have hC0:Chg (fun _ => False) w (l0.foldl World.alloc w):=allocs_chg _ l0 w
 have hsz:=allocs_size l0 w
 rw [hlen] at hsz
 generalize l0.foldl World.alloc w=W0 at hget hC0 hsz ⊢
 have hg0:=hget 0 _ (by rw [hl0];rfl)
 have hg1:=hget 1 _ (by rw [hl0];rfl)
 have hg2:=hget 2 _ (by rw [hl0];rfl)
 have hg3:=hget 3 _ (by rw [hl0];rfl)
 have hg4:=hget 4 _ (by rw [hl0];rfl)
 have hg5:=hget 5 _ (by rw [hl0];rfl)
 have hg6:=hget 6 _ (by rw [hl0];rfl)
 have hg7:=hget 7 _ (by rw [hl0];rfl)
 clear hget hl0 hlen
 simp only [Nat.add_assoc,Nat.reduceAdd]
 refine wp_range 167 #[pt (w.heap.size+7)] rfl (enters_of Tryz.func167 (by kernel_rfl) rfl) (fun fn rec hrec => ?_)
 rw [hsz]
 refine (backward1_any (w.heap.size+8+1) (w.heap.size+7) (w.heap.size+3) (top s.lv) 32 (by omega)
  (fun m W => PB w (top s.lv) (fnv gf lb) W (s.nodesL k m) (s.placesL k m) (pt (s.at_ (prev s.lv m k))) (.int .i64 (prev s.lv m k:Int))∧W.heap[w.heap.size+9]?=some (.loop (rec .ready none)))
  ?_ ?_ _ ?_).mono ?_
 ·rintro m W ⟨hB,_⟩
  refine ⟨hB.s.cell 0,fun i hi => ?_⟩
  rw [hB.n.cell]
  exact ⟨_,List.getElem?_toArray ▸ List.getElem?_eq_getElem (l:=s.nodesL k m) (by unfold Sk.nodesL;simp;omega)⟩
 ·rintro m u W hm ⟨hB,hl⟩
  refine yield_body hrec hl rfl (fun K hK => by gi_wp2;exact hK) hl ?_
  clear hrec hg0 hg1 hg2 hg3 hg4 hg5 hg6 hg7
  have hB1:=hB.putL (.loop (rec .busy none))
  have hl1:(W.putObj (w.heap.size+9) (.loop (rec .busy none))).heap[w.heap.size+9]?=some (.loop (rec .busy none)):=World.putObj_heap_same (Array.getElem?_eq_some_iff.1 hl).1
  generalize W.putObj (w.heap.size+9) (.loop (rec .busy none))=W1 at hB1 hl1 ⊢
  clear hB hl W
  gi_wp2
  refine wpIn_scope_straight (wpIn_seq (wpIn_label ?_))
  show Code.wpIn _ _ _ _ _ _ _
  gi_wp2
  gi_loopg [] (s.n - prev s.lv (m+1) k) (fun j W => ∃ p,j=s.n - p∧(p=0∨ab s.lv m p)∧p≤k∧PB w (top s.lv) (fnv gf lb) W (s.nodesL k (m+1)) (s.placesL k (m+1)) (pt (s.at_ p)) (.int .i64 (p:Int))∧W.heap[w.heap.size+9]?=some (.loop (rec .busy none)))
  case atStart =>
   obtain ⟨g1,g2,_⟩:=prev_spec s.lv (m+1) k
   exact ⟨_,rfl,g2.imp id (ab_up (by omega)),g1,hB1,hl1⟩
  case round =>
   clear hB1 hl1 W1
   obtain ⟨p,rfl,hp,hpk,hB,hl⟩:=hrel
   have hS:=h.chg0 hB.c
   obtain ⟨l0,l1⟩:=hS.link hp hm
   have cx:=hB.x.cell 0
   have cp:=hB.p.cell 0
   have cf:=hB.f.cell 0
   simp only [List.getElem?_toArray,List.getElem?_cons_zero] at cx cp cf
   have kf:=hB.f.lt
   have kx:=hB.x.lt
   have kp:=hB.p.lt
   unfold pt at cx
   unfold fnv at cf
   cases hnx:nxt s.lv m p with
   | none =>
    rw [hnx] at l0
    simp only [Sk.go] at l0
    gi_wp2
    refine ⟨(fun _ h => nomatch h),?_⟩
    have hB':=hB.chg0 ((Chg.refl _ wr).alloc (.cells #[Value.pointer none,Value.int IntKind.i64 (span s.lv m p:Int)] 246))
    have hl':=(Below.heap_alloc wr (.cells #[Value.pointer none,Value.int IntKind.i64 (span s.lv m p:Int)] 246) _ (Array.getElem?_eq_some_iff.1 hl).1).trans hl
    have hpe:prev s.lv m k=p:=walk_end hp hpk (fun q hq => by rw [hnx] at hq;cases hq)
    gi_wp2
    clear hB hl l0 l1 cx cp cf kf kx kp hS
    generalize wr.alloc (Obj.cells #[Value.pointer none,Value.int IntKind.i64 (span s.lv m p:Int)] 246)=W2 at hB' hl' ⊢
    have cx:=hB'.x.cell 0
    have cp:=hB'.p.cell 0
    have cn:=hB'.hasN (i:=m) (by unfold Sk.nodesL;simp;omega)
    have cl:=hB'.hasL (i:=m) (by unfold Sk.placesL;simp;omega)
    simp only [List.getElem?_toArray,List.getElem?_cons_zero] at cx cp
    obtain ⟨un,cn⟩:=cn
    obtain ⟨ul,cl⟩:=cl
    have fn_:=hB'.n.frozen m
    have fl_:=hB'.l.frozen m
    have hm32:(m:Int)<32:=by omega
    unfold pt at cx
    have hS1:W2.drew.cell? ⟨w.heap.size+5,0,none⟩=some (.pointer (some ⟨s.at_ p,0,none⟩))∧W2.drew.cell? ⟨w.heap.size+6,0,none⟩=some (.int .i64 (p:Int)):=⟨cx,cp⟩
    refine wpIn_region_held 7 (fun V => V.cell? ⟨w.heap.size+5,0,none⟩=some (.pointer (some ⟨s.at_ p,0,none⟩))∧V.cell? ⟨w.heap.size+6,0,none⟩=some (.int .i64 (p:Int))) (by kernel_rfl) (by kernel_rfl) (by rintro ⟨_,_,h⟩;exact h) ?_
    simp only [List.size_toArray,List.length_cons,List.length_nil,Nat.reduceAdd,Array.replicate_succ,Array.replicate_zero,List.push_toArray,List.nil_append,List.cons_append]
    refine wpAnyF_take 0 (v:=.int .i64 (m:Int)) rfl (by kernel_rfl) (by kernel_rfl) (by kernel_rfl) (by kernel_rfl) (fun _ _ _ h => h) hS1 (by rfl) ?_ ?_
    ·rintro V ⟨y0,y1⟩
     go_simp
    simp only [Act.put,List.setIfInBounds_toArray,List.set_cons_zero,List.set_cons_succ]
    refine wpAnyF_take 1 (v:=.int .i64 (m:Int)) rfl (by kernel_rfl) (by kernel_rfl) (by kernel_rfl) (by kernel_rfl) (fun _ _ _ h => h) hS1 (by rfl) ?_ ?_
    ·rintro V ⟨y0,y1⟩
     go_simp
    simp only [Act.put,List.setIfInBounds_toArray,List.set_cons_zero,List.set_cons_succ]
    refine wpAnyF_take 2 (v:=.pointer (some ⟨s.at_ p,0,none⟩)) rfl (by kernel_rfl) (by kernel_rfl) (by kernel_rfl) (by kernel_rfl) (fun _ _ _ h => h) hS1 (by rfl) ?_ ?_
    ·rintro V ⟨y0,y1⟩
     go_simp
    simp only [Act.put,List.setIfInBounds_toArray,List.set_cons_zero,List.set_cons_succ]
    refine wpAnyF_take 3 (v:=.int .i64 (p:Int)) rfl (by kernel_rfl) (by kernel_rfl) (by kernel_rfl) (by kernel_rfl) (fun _ _ _ h => h) hS1 (by rfl) ?_ ?_
    ·rintro V ⟨y0,y1⟩
     go_simp
    simp only [Act.put,List.setIfInBounds_toArray,List.set_cons_zero,List.set_cons_succ]
    refine wpAnyF_take 4 (v:=.pointer (some ⟨w.heap.size+3,m,none⟩)) rfl (by kernel_rfl) (by kernel_rfl) (by kernel_rfl) (by kernel_rfl) (fun _ _ _ h => h) hS1 (by rfl) ?_ ?_
    ·rintro V ⟨y0,y1⟩
     go_simp
    simp only [Act.put,List.setIfInBounds_toArray,List.set_cons_zero,List.set_cons_succ]
    have hS2:(W2.drew.setCell ⟨w.heap.size+3,m,none⟩ (.pointer (some ⟨s.at_ p,0,none⟩))).cell? ⟨w.heap.size+5,0,none⟩=some (.pointer (some ⟨s.at_ p,0,none⟩))∧(W2.drew.setCell ⟨w.heap.size+3,m,none⟩ (.pointer (some ⟨s.at_ p,0,none⟩))).cell? ⟨w.heap.size+6,0,none⟩=some (.int .i64 (p:Int)):=by
     have h9:=(hB'.chg0 (Chg.refl _ W2).drew).setN m (.pointer (some ⟨s.at_ p,0,none⟩))
     exact ⟨h9.x.cell 0,h9.p.cell 0⟩
    refine wpAnyF_one 5 (by kernel_rfl) rfl (fun K hK => ?_)
    go_simp
    refine hK _ _ (fun _ => hS2) ?_
    clear hK K
    refine wpAnyF_one 6 (by kernel_rfl) rfl (fun K hK => ?_)
    go_simp
    refine hK _ _ (fun _ => hS2) ?_
    clear hK K
    refine wpAnyF_one 7 (by kernel_rfl) rfl (fun K hK => ?_)
    go_simp
    refine hK _ _ (fun h => absurd rfl h) ?_
    clear hK K
    refine wpAnyF_done (by kernel_rfl) ?_ _
    have h9:=(((hB'.setN m (.pointer (some ⟨s.at_ p,0,none⟩))).setL m (.int .i64 (p:Int))).chg0 (Chg.refl _ _).drew)
    have h9l:(((W2.setCell ⟨w.heap.size+3,m,none⟩ (.pointer (some ⟨s.at_ p,0,none⟩))).setCell ⟨w.heap.size+4,m,none⟩ (.int .i64 (p:Int))).drew).heap[w.heap.size+9]?=some (.loop (rec .busy none)) :=
     (Below.heap_setCell _ _ _ _ (by simp)).trans ((Below.heap_setCell _ _ _ _ (by simp)).trans hl')
    have e1:=s.nodesL_set k hm
    have e2:=s.placesL_set k hm
    rw [hpe] at e1 e2
    unfold pt at e1
    rw [e1,e2,← hpe] at h9
    rw [← hpe] at h9l ⊢
    exact ⟨h9l,rfl,h9.putL _,World.putObj_heap_same (Array.getElem?_eq_some_iff.1 h9l).1⟩
   | some q =>
    have hq:=(nxt_some.1 hnx).2.1
    have hq1:1≤q:=hq.1
    have hpq:=(nxt_some.1 hnx).1
    have hqn:q≤s.n:=by have:=hq.2.1;rwa [s.lv_len] at this
    have hsp:=span_some hnx
    rw [hnx] at l0
    simp only [Sk.go] at l0
    unfold pt at l0
    have hadd:IntKind.i64.wrap ((p:Int)+(span s.lv m p:Int))=(q:Int):=by
     rw [← hsp]
     have:(p:Int)+(span s.lv m p:Int)=((p+span s.lv m p:Nat):Int):=by omega
     rw [this,hsp]
     exact IntWalk.i64_in _ (by omega)
    gi_wp2
    refine ⟨trivial,?_⟩
    rw [eg _ _]
    gi_wp2
    refine CallsIn.inRound _ (callsIn_wide.2 ((ha q _ hq1 hqn (hB.c.trans ((Chg.refl _ wr).alloc _))).mono ?_))
    rintro e V ⟨rfl,hcv⟩
    have hcW:=((Chg.refl (fun _ => False) wr).alloc (.cells #[Value.pointer (some ⟨s.at_ q,0,none⟩),Value.int IntKind.i64 (span s.lv m p:Int)] 246)).trans hcv
    have hB':=hB.chg0 hcW
    have hl':=hcW.same hl id
    have hNx:=(Blk.new wr 246 #[Value.pointer (some ⟨s.at_ q,0,none⟩),Value.int IntKind.i64 (span s.lv m p:Int)]).chg hcv id
    clear hB hl l0 l1 cx cp cf hS kf kx kp hcv hcW
    obtain ⟨g,hg⟩:∃ g,wr.heap.size=g:=⟨_,rfl⟩
    rw [hg] at hNx ⊢
    by_cases hqk:q≤k
    ·rw [decide_eq_true hqk]
     have n0:=hNx.cell 0
     have n1:=hNx.cell 1
     have cx:=hB'.x.cell 0
     have cp:=hB'.p.cell 0
     simp only [List.getElem?_toArray,List.getElem?_cons_zero,List.getElem?_cons_succ] at n0 n1 cx cp
     have hfx:=hB'.x.frozen 0
     have hfp:=hB'.p.frozen 0
     gi_wp2
     have hS1:V.drew.cell? ⟨g,0,none⟩=some (.pointer (some ⟨s.at_ q,0,none⟩))∧V.drew.cell? ⟨g,1,none⟩=some (.int .i64 (span s.lv m p:Int))∧V.drew.cell? ⟨w.heap.size+6,0,none⟩=some (.int .i64 (p:Int)):=⟨n0,n1,cp⟩
     have hgx:g≠w.heap.size+5:=hNx.ne_type hB'.x (by decide)
     refine wpIn_region_held 7 (fun V => V.cell? ⟨g,0,none⟩=some (.pointer (some ⟨s.at_ q,0,none⟩))∧V.cell? ⟨g,1,none⟩=some (.int .i64 (span s.lv m p:Int))∧V.cell? ⟨w.heap.size+6,0,none⟩=some (.int .i64 (p:Int))) (by kernel_rfl) (by kernel_rfl) (by rintro ⟨_,_,h⟩;exact h) ?_
     simp only [List.size_toArray,List.length_cons,List.length_nil,Nat.reduceAdd,Array.replicate_succ,Array.replicate_zero,List.push_toArray,List.nil_append,List.cons_append]
     refine wpAnyF_take 0 (v:=.pointer (some ⟨g,0,none⟩)) rfl (by kernel_rfl) (by kernel_rfl) (by kernel_rfl) (by kernel_rfl) (fun _ _ _ h => h) hS1 (by rfl) ?_ ?_
     ·rintro U ⟨y0,y1,y2⟩
      go_simp
     simp only [Act.put,List.setIfInBounds_toArray,List.set_cons_zero,List.set_cons_succ]
     refine wpAnyF_take 1 (v:=.pointer (some ⟨s.at_ q,0,none⟩)) rfl (by kernel_rfl) (by kernel_rfl) (by kernel_rfl) (by kernel_rfl) (fun _ _ _ h => h) hS1 (by rfl) ?_ ?_
     ·rintro U ⟨y0,y1,y2⟩
      go_simp
     simp only [Act.put,List.setIfInBounds_toArray,List.set_cons_zero,List.set_cons_succ]
     refine wpAnyF_take 2 (v:=.int .i64 (p:Int)) rfl (by kernel_rfl) (by kernel_rfl) (by kernel_rfl) (by kernel_rfl) (fun _ _ _ h => h) hS1 (by rfl) ?_ ?_
     ·rintro U ⟨y0,y1,y2⟩
      go_simp
     simp only [Act.put,List.setIfInBounds_toArray,List.set_cons_zero,List.set_cons_succ]
     refine wpAnyF_take 3 (v:=.pointer (some ⟨g,1,none⟩)) rfl (by kernel_rfl) (by kernel_rfl) (by kernel_rfl) (by kernel_rfl) (fun _ _ _ h => h) hS1 (by rfl) ?_ ?_
     ·rintro U ⟨y0,y1,y2⟩
      go_simp
     simp only [Act.put,List.setIfInBounds_toArray,List.set_cons_zero,List.set_cons_succ]
     refine wpAnyF_take 4 (v:=.int .i64 (span s.lv m p:Int)) rfl (by kernel_rfl) (by kernel_rfl) (by kernel_rfl) (by kernel_rfl) (fun _ _ _ h => h) hS1 (by rfl) ?_ ?_
     ·rintro U ⟨y0,y1,y2⟩
      go_simp
     simp only [Act.put,List.setIfInBounds_toArray,List.set_cons_zero,List.set_cons_succ]
     refine wpAnyF_take 5 (v:=.int .i64 (q:Int)) rfl (by kernel_rfl) (by kernel_rfl) (by kernel_rfl) (by kernel_rfl) (fun _ _ _ h => h) hS1 (by rfl) ?_ ?_
     ·rintro U ⟨y0,y1,y2⟩
      go_simp
     simp only [Act.put,List.setIfInBounds_toArray,List.set_cons_zero,List.set_cons_succ]
     have hB2:=(hB'.chg0 (Chg.refl _ V).drew).setX (.pointer (some ⟨s.at_ q,0,none⟩))
     have hN2:=(hNx.drew).far (p:=⟨w.heap.size+5,0,none⟩) hgx (.pointer (some ⟨s.at_ q,0,none⟩))
     refine wpAnyF_one 6 (by kernel_rfl) rfl (fun K hK => ?_)
     go_simp
     refine hK _ _ (fun _ => ⟨hN2.cell 0,hN2.cell 1,hB2.p.cell 0⟩) ?_
     clear hK K
     refine wpAnyF_one 7 (by kernel_rfl) rfl (fun K hK => ?_)
     go_simp
     refine hK _ _ (fun h => absurd rfl h) ?_
     clear hK K
     refine wpAnyF_done (by kernel_rfl) ?_ _
     have hB3:=(hB2.setP (.int .i64 (q:Int)))
     have hl3:((V.drew.setCell ⟨w.heap.size+5,0,none⟩ (.pointer (some ⟨s.at_ q,0,none⟩))).setCell ⟨w.heap.size+6,0,none⟩ (.int .i64 (q:Int))).heap[w.heap.size+9]?=some (.loop (rec .busy none)) :=
      (Below.heap_setCell _ _ _ _ (by simp)).trans ((Below.heap_setCell _ _ _ _ (by simp)).trans hl')
     gi_wp2
     gi_roundg (s.n - q)
     case rel => exact ⟨q,rfl,.inr hq,hqk,hB3,hl3⟩
     case measure => omega
    ·rw [decide_eq_false hqk]
     have hpe:prev s.lv m k=p:=walk_end hp hpk (fun q' hq => by rw [hnx] at hq;injection hq with hq;omega)
     gi_wp2
     generalize V=W2 at hB' hl' ⊢
     have cx:=hB'.x.cell 0
     have cp:=hB'.p.cell 0
     have cn:=hB'.hasN (i:=m) (by unfold Sk.nodesL;simp;omega)
     have cl:=hB'.hasL (i:=m) (by unfold Sk.placesL;simp;omega)
     simp only [List.getElem?_toArray,List.getElem?_cons_zero] at cx cp
     obtain ⟨un,cn⟩:=cn
     obtain ⟨ul,cl⟩:=cl
     have fn_:=hB'.n.frozen m
     have fl_:=hB'.l.frozen m
     have hm32:(m:Int)<32:=by omega
     unfold pt at cx
     have hS1:W2.drew.cell? ⟨w.heap.size+5,0,none⟩=some (.pointer (some ⟨s.at_ p,0,none⟩))∧W2.drew.cell? ⟨w.heap.size+6,0,none⟩=some (.int .i64 (p:Int)):=⟨cx,cp⟩
     refine wpIn_region_held 7 (fun V => V.cell? ⟨w.heap.size+5,0,none⟩=some (.pointer (some ⟨s.at_ p,0,none⟩))∧V.cell? ⟨w.heap.size+6,0,none⟩=some (.int .i64 (p:Int))) (by kernel_rfl) (by kernel_rfl) (by rintro ⟨_,_,h⟩;exact h) ?_
     simp only [List.size_toArray,List.length_cons,List.length_nil,Nat.reduceAdd,Array.replicate_succ,Array.replicate_zero,List.push_toArray,List.nil_append,List.cons_append]
     refine wpAnyF_take 0 (v:=.int .i64 (m:Int)) rfl (by kernel_rfl) (by kernel_rfl) (by kernel_rfl) (by kernel_rfl) (fun _ _ _ h => h) hS1 (by rfl) ?_ ?_
     ·rintro V ⟨y0,y1⟩
      go_simp
     simp only [Act.put,List.setIfInBounds_toArray,List.set_cons_zero,List.set_cons_succ]
     refine wpAnyF_take 1 (v:=.int .i64 (m:Int)) rfl (by kernel_rfl) (by kernel_rfl) (by kernel_rfl) (by kernel_rfl) (fun _ _ _ h => h) hS1 (by rfl) ?_ ?_
     ·rintro V ⟨y0,y1⟩
      go_simp
     simp only [Act.put,List.setIfInBounds_toArray,List.set_cons_zero,List.set_cons_succ]
     refine wpAnyF_take 2 (v:=.pointer (some ⟨s.at_ p,0,none⟩)) rfl (by kernel_rfl) (by kernel_rfl) (by kernel_rfl) (by kernel_rfl) (fun _ _ _ h => h) hS1 (by rfl) ?_ ?_
     ·rintro V ⟨y0,y1⟩
      go_simp
     simp only [Act.put,List.setIfInBounds_toArray,List.set_cons_zero,List.set_cons_succ]
     refine wpAnyF_take 3 (v:=.int .i64 (p:Int)) rfl (by kernel_rfl) (by kernel_rfl) (by kernel_rfl) (by kernel_rfl) (fun _ _ _ h => h) hS1 (by rfl) ?_ ?_
     ·rintro V ⟨y0,y1⟩
      go_simp
     simp only [Act.put,List.setIfInBounds_toArray,List.set_cons_zero,List.set_cons_succ]
     refine wpAnyF_take 4 (v:=.pointer (some ⟨w.heap.size+3,m,none⟩)) rfl (by kernel_rfl) (by kernel_rfl) (by kernel_rfl) (by kernel_rfl) (fun _ _ _ h => h) hS1 (by rfl) ?_ ?_
     ·rintro V ⟨y0,y1⟩
      go_simp
     simp only [Act.put,List.setIfInBounds_toArray,List.set_cons_zero,List.set_cons_succ]
     have hS2:(W2.drew.setCell ⟨w.heap.size+3,m,none⟩ (.pointer (some ⟨s.at_ p,0,none⟩))).cell? ⟨w.heap.size+5,0,none⟩=some (.pointer (some ⟨s.at_ p,0,none⟩))∧(W2.drew.setCell ⟨w.heap.size+3,m,none⟩ (.pointer (some ⟨s.at_ p,0,none⟩))).cell? ⟨w.heap.size+6,0,none⟩=some (.int .i64 (p:Int)):=by
      have h9:=(hB'.chg0 (Chg.refl _ W2).drew).setN m (.pointer (some ⟨s.at_ p,0,none⟩))
      exact ⟨h9.x.cell 0,h9.p.cell 0⟩
     refine wpAnyF_one 5 (by kernel_rfl) rfl (fun K hK => ?_)
     go_simp
     refine hK _ _ (fun _ => hS2) ?_
     clear hK K
     refine wpAnyF_one 6 (by kernel_rfl) rfl (fun K hK => ?_)
     go_simp
     refine hK _ _ (fun _ => hS2) ?_
     clear hK K
     refine wpAnyF_one 7 (by kernel_rfl) rfl (fun K hK => ?_)
     go_simp
     refine hK _ _ (fun h => absurd rfl h) ?_
     clear hK K
     refine wpAnyF_done (by kernel_rfl) ?_ _
     have h9:=(((hB'.setN m (.pointer (some ⟨s.at_ p,0,none⟩))).setL m (.int .i64 (p:Int))).chg0 (Chg.refl _ _).drew)
     have h9l:(((W2.setCell ⟨w.heap.size+3,m,none⟩ (.pointer (some ⟨s.at_ p,0,none⟩))).setCell ⟨w.heap.size+4,m,none⟩ (.int .i64 (p:Int))).drew).heap[w.heap.size+9]?=some (.loop (rec .busy none)) :=
      (Below.heap_setCell _ _ _ _ (by simp)).trans ((Below.heap_setCell _ _ _ _ (by simp)).trans hl')
     have e1:=s.nodesL_set k hm
     have e2:=s.placesL_set k hm
     rw [hpe] at e1 e2
     unfold pt at e1
     rw [e1,e2,← hpe] at h9
     rw [← hpe] at h9l ⊢
     exact ⟨h9l,rfl,h9.putL _,World.putObj_heap_same (Array.getElem?_eq_some_iff.1 h9l).1⟩
 ·have ha:∀ i o,([Obj.deferred (some []),Obj.loop (rec .ready none)]:List Obj)[i]?=some o→((W0.alloc (.deferred (some []))).alloc (.loop (rec .ready none))).heap[w.heap.size+8+i]?=some o:=fun i o h => by
   have:=allocs_get [Obj.deferred (some []),Obj.loop (rec .ready none)] W0 i o h
   rwa [hsz] at this
  have hc:=hC0.trans (allocs_chg _ [Obj.deferred (some []),Obj.loop (rec .ready none)] W0)
  have hk0:∀ (i:Nat) (t:TypeId) (cs:Array Value),i<8→Blk W0 (w.heap.size+i) t cs→Blk ((W0.alloc (.deferred (some []))).alloc (.loop (rec .ready none))) (w.heap.size+i) t cs:=fun i t cs _ hb => (hb.alloc _).alloc _
  refine ⟨⟨hc,hk0 0 _ _ (by omega) hg0,hk0 1 _ _ (by omega) hg1,hk0 2 _ _ (by omega) hg2,?_,?_,?_,?_,hk0 7 _ _ (by omega) hg7,ha 0 _ rfl⟩,ha 1 _ rfl⟩
  ·rw [s.nodesL_top];exact hk0 3 _ _ (by omega) hg3
  ·rw [s.placesL_top];exact hk0 4 _ _ (by omega) hg4
  ·rw [prev_zero_top];exact hk0 5 _ _ (by omega) hg5
  ·rw [prev_zero_top];exact hk0 6 _ _ (by omega) hg6
 ·rintro e W ⟨⟨v,rfl⟩,hB,hl⟩
  refine ⟨⟨_,rfl⟩,.inl ⟨hl,?_⟩⟩
  clear hg0 hg1 hg2 hg3 hg4 hg5 hg6 hg7 hrec
  have hB1:=hB.putL (.loop (rec .exhausted none))
  generalize W.putObj (w.heap.size+9) (.loop (rec .exhausted none))=W1 at hB1 ⊢
  clear hB hl
  go_wp2_with fail
  refine wp_normal ?_
  have hlN:(s.nodesL k 0).length=32:=by unfold Sk.nodesL;simp
  have hlP:(s.placesL k 0).length=32:=by unfold Sk.placesL;simp
  refine wp_region_heldF 3 (fun V => Blk V (w.heap.size+3) 268 (s.nodesL k 0).toArray∧Blk V (w.heap.size+4) 269 (s.placesL k 0).toArray) (by kernel_rfl) ?_
  simp only [List.size_toArray,List.length_cons,List.length_nil,Nat.reduceAdd,Array.replicate_succ,Array.replicate_zero,List.push_toArray,List.nil_append,List.cons_append]
  refine wpAnyF_take 0 (v:=.agg (s.nodesL k 0).toArray) rfl (by kernel_rfl) (by kernel_rfl) (by kernel_rfl) (by kernel_rfl) (fun _ _ _ h => h) ⟨hB1.n.drew,hB1.l.drew⟩ (by rfl) ?_ ?_
  ·rintro V ⟨hV1,hV2⟩
   exact exec_load_mid 268 (.tmp 6) rfl (w.heap.size+3) 0 rfl _ _ hV1.range Tryz.underlying268 rfl (by rw [hlN];kernel_rfl)
  simp only [Act.put,List.getElem_toArray,List.getElem_cons_zero,List.getElem_cons_succ,List.setIfInBounds_toArray,List.set_cons_zero,List.set_cons_succ]
  refine wpAnyF_take 1 (v:=.agg (s.placesL k 0).toArray) rfl (by kernel_rfl) (by kernel_rfl) (by kernel_rfl) (by kernel_rfl) (fun _ _ _ h => h) ⟨hB1.n.drew,hB1.l.drew⟩ (by rfl) ?_ ?_
  ·rintro V ⟨hV1,hV2⟩
   exact exec_load_mid 269 (.tmp 7) rfl (w.heap.size+4) 0 rfl _ _ hV2.range Tryz.underlying269 rfl (by rw [hlP];kernel_rfl)
  simp only [Act.put,List.getElem_toArray,List.getElem_cons_zero,List.getElem_cons_succ,List.setIfInBounds_toArray,List.set_cons_zero,List.set_cons_succ]
  have hc2:=(hB1.chg0 (Chg.refl _ W1).drew)
  have hzN:(s.nodesL k 0).toArray.size=32:=by rw [← hlN];rfl
  have hzP:(s.placesL k 0).toArray.size=32:=by rw [← hlP];rfl
  refine wpAnyF_one 2 (by kernel_rfl) rfl (fun K hK => ?_)
  refine step_store_mid (by rfl) 268 (.tmp 4) (.tmp 55) rfl (w.heap.size+1) 0 (s.nodesL k 0).toArray rfl rfl (by have:=hc2.r.there_;rw [hzN];exact this) (by rw [hzN];kernel_rfl) (all_oneCell_toArray (s.nodesL_one k 0)) ?_
  refine hK _ _ (fun _ => ⟨Blk.farCells _ 0 _ (by omega) hc2.n,Blk.farCells _ 0 _ (by omega) hc2.l⟩) ?_
  clear hK K
  try simp only [Act.put,List.getElem_toArray,List.getElem_cons_zero,List.getElem_cons_succ,List.setIfInBounds_toArray,List.set_cons_zero,List.set_cons_succ]
  refine wpAnyF_one 3 (by kernel_rfl) rfl (fun K hK => ?_)
  refine step_store_mid (by rfl) 269 (.tmp 5) (.tmp 56) rfl (w.heap.size+2) 0 (s.placesL k 0).toArray rfl rfl (by have:=(Blk.farCells (s.nodesL k 0) 0 _ (b:=w.heap.size+1) (by omega) hc2.q).there_;rw [hzP];exact this) (by rw [hzP];kernel_rfl) (all_oneCell_toArray (s.placesL_one k 0)) ?_
  refine hK _ _ (fun h => absurd rfl h) ?_
  clear hK K
  try simp only [Act.put,List.getElem_toArray,List.getElem_cons_zero,List.getElem_cons_succ,List.setIfInBounds_toArray,List.set_cons_zero,List.set_cons_succ]
  have hr9:Blk ((W1.drew.setCells (w.heap.size+1) 0 (s.nodesL k 0)).setCells (w.heap.size+2) 0 (s.placesL k 0)) (w.heap.size+1) 268 (s.nodesL k 0).toArray:=Blk.farCells _ 0 _ (by omega) (hc2.r.setAll _ (by rw [hlN];rfl))
  have hq9:Blk ((W1.drew.setCells (w.heap.size+1) 0 (s.nodesL k 0)).setCells (w.heap.size+2) 0 (s.placesL k 0)) (w.heap.size+2) 269 (s.placesL k 0).toArray:=(Blk.farCells (s.nodesL k 0) 0 _ (b:=w.heap.size+1) (by omega) hc2.q).setAll _ (by rw [hlP];rfl)
  have hC9:Chg (fun _ => False) w ((W1.drew.setCells (w.heap.size+1) 0 (s.nodesL k 0)).setCells (w.heap.size+2) 0 (s.placesL k 0)):=setCells_chg _ 0 _ (by omega) (setCells_chg _ 0 _ (by omega) hc2.c)
  have hd9:((W1.drew.setCells (w.heap.size+1) 0 (s.nodesL k 0)).setCells (w.heap.size+2) 0 (s.placesL k 0)).heap[w.heap.size+8]?=some (.deferred (some [])):=(heap_farCells _ 0 _ (by omega)).trans ((heap_farCells _ 0 _ (by omega)).trans hc2.d)
  refine wpAnyF_done (by kernel_rfl) ?_ _
  try simp only [List.toList_toArray]
  generalize (W1.drew.setCells (w.heap.size+1) 0 (s.nodesL k 0)).setCells (w.heap.size+2) 0 (s.placesL k 0)=W9 at hr9 hq9 hC9 hd9 ⊢
  clear hB1 hc2
  go_wp2_with fail
  refine bodyPostM_ret (D:=w.heap.size+8) rfl hd9 (results_cells2 rfl _ (w.heap.size+1) (w.heap.size+2) _ _ (s.nodesL k 0).toArray (s.placesL k 0).toArray _ _ rfl (hr9.putObj (by omega) _) Tryz.underlying268 rfl (by rw [hzN];kernel_rfl) rfl (hq9.putObj (by omega) _) Tryz.underlying269 rfl (by rw [hzP];kernel_rfl)) ⟨rfl,hC9.put (by omega) _⟩
end Go.Proofs.YtehpmbmdadkhbaaGreatDoor

namespace Go.Proofs.YtehpmbmdadkhbaaGreatDoor
open Go.RowKit Pal
theorem en_beq (a b:En):(a.m.toList == b.m.toList && a.s == b.s)=decide (a=b):=by
 obtain ⟨⟨⟨x⟩⟩,s⟩:=a
 obtain ⟨⟨⟨y⟩⟩,t⟩:=b
 simp only [ByteArray.toList_eq]
 by_cases h:x=y
 ·subst h
  by_cases h2:s=t
  ·subst h2;simp
  ·have:(s == t)=false:=by rw [beq_eq_false_iff_ne];exact h2
   simp [this,h2]
 ·have:(x == y)=false:=by rw [beq_eq_false_iff_ne];exact h
  simp [this,h]
theorem ent_stood:Tryz.prog.stoodInHeld 68=false:=by kernel_rfl
set_option maxRecDepth 100000 in
theorem eq_entry (a b:En) (w:World):(binOp .eql 68 (.agg #[.string a.m,.int .i64 a.s]) (.agg #[.string b.m,.int .i64 b.s])).run Tryz.prog w=.ok (.bool (decide (a=b))) w:=by
 rw [← en_beq,run_eql_struct,run_equalIn_struct w 9999 _ _ _ (by kernel_rfl) ent_stood]
 simp [go_sem]
 by_cases h1:a.m.toList=b.m.toList
 ·by_cases h2:a.s=b.s
  ·simp [h1,h2]
  ·have:(a.s == b.s)=false:=by rw [beq_eq_false_iff_ne];exact h2
   simp [h1,h2]
 ·have:(a.m.toList == b.m.toList)=false:=by rw [beq_eq_false_iff_ne];exact h1
  simp [h1]
end Go.Proofs.YtehpmbmdadkhbaaGreatDoor
