/- Crc S1 S2 G2 W1 W2 G5 G7 G8 J1 U0a G3 G4 G6 -/
import Derived.Test.YtiihiocgbfafaaaGreatKKa
import Derived.Lib.MakeNoZero
import Derived.Laws.CopyOwn
import Derived.Deep.MidRow
import Derived.Lib.SliceRun
import Derived.ArgAppend
import Derived.Lib.SlFresh
import Derived.Shelf.SlIterI.Nil
import Derived.Ground.GgzProg
set_option linter.unusedSimpArgs false
set_option linter.unusedVariables false
set_option maxHeartbeats 8000000
set_option maxRecDepth 100000
namespace Go.Proofs.YtiihiocgbfafaaaGreat.Pl
def crcP:Nat:=2197175160
def st (x:Nat):Nat:=(x >>> 1) ^^^ (if x%2=1 then crcP else 0)
theorem st_lt {x:Nat} (h:x<4294967296):st x<4294967296:=by
 unfold st
 have h1:x >>> 1<2^32:=by rw [Nat.shiftRight_eq_div_pow];omega
 have h2:(if x%2=1 then crcP else 0)<2^32:=by split<;>simp [crcP]
 exact Nat.xor_lt_two_pow h1 h2
theorem xor_mod2 (a b:Nat):(a ^^^ b)%2=(a%2+b%2)%2:=by
 have h1:((a ^^^ b)%2=1)↔¬((a%2=1)↔(b%2=1)):=Nat.xor_mod_two_eq_one
 rcases Nat.mod_two_eq_zero_or_one a with ha|ha<;>rcases Nat.mod_two_eq_zero_or_one b with hb|hb<;>rcases Nat.mod_two_eq_zero_or_one (a ^^^ b) with hc|hc<;>simp_all
theorem st_xor (a b:Nat):st (a ^^^ b)=st a ^^^ st b:=by
 unfold st
 rw [Nat.shiftRight_xor_distrib,xor_mod2]
 rcases Nat.mod_two_eq_zero_or_one a with ha|ha<;>rcases Nat.mod_two_eq_zero_or_one b with hb|hb<;>simp only [ha,hb]
 ·simp
 ·simp [Nat.xor_assoc]
 ·simp only [if_true]
  simp
  rw [Nat.xor_assoc,Nat.xor_assoc]
  congr 1
  rw [Nat.xor_comm]
 ·simp
  rw [Nat.xor_assoc,←Nat.xor_assoc crcP,Nat.xor_comm crcP (b >>> 1),Nat.xor_assoc (b >>> 1),Nat.xor_self,Nat.xor_zero]
def feed (x:Nat) (l:List Nat):Nat:=l.foldl (fun x b=>st (x ^^^ b)) x
theorem feed_append (x:Nat) (l r:List Nat):feed x (l++r)=feed (feed x l) r:=by simp [feed]
theorem feed_lt {l:List Nat}:∀ {x:Nat},x<4294967296→(∀ b∈l,b<2)→feed x l<4294967296:=by
 induction l with
 | nil=>intro x h _;exact h
 | cons b l ih=>
   intro x h hb
   have hx:x ^^^ b<4294967296:=Nat.xor_lt_two_pow (n:=32) h (by have:=hb b (by simp);omega)
   exact ih (st_lt hx) (fun c hc=>hb c (by simp [hc]))
def num:List Nat→Nat
 | []=>0
 | b::r=>b+2*num r
def stN:Nat→Nat→Nat
 | 0,x=>x
 | n+1,x=>stN n (st x)
theorem st_split (x b m:Nat) (hb:b<2):st (x ^^^ (b+2*m))=st (x ^^^ b) ^^^ m:=by
 have e:b+2*m=b ^^^ (2*m):=by
  have h1:(b ^^^ (2*m))/2=m:=by
   have:(b ^^^ (2*m))/2=(b/2) ^^^ (2*m/2):=by
    have:=Nat.shiftRight_xor_distrib (a:=b) (b:=2*m) (i:=1)
    simpa [Nat.shiftRight_eq_div_pow] using this
   rw [this,Nat.div_eq_of_lt hb];simp
  have h2:(b ^^^ (2*m))%2=b:=by rw [xor_mod2];omega
  omega
 rw [e,←Nat.xor_assoc,st_xor]
 congr 1
 unfold st
 rw [if_neg (by omega),Nat.xor_zero,Nat.shiftRight_eq_div_pow]
 omega
theorem feed_num:∀ (l:List Nat) (x:Nat),(∀ b∈l,b<2)→feed x l=stN l.length (x ^^^ num l)
 | [],x,_=>by simp [feed,stN,num]
 | b::r,x,h=>by
   show feed (st (x ^^^ b)) r=stN r.length (st (x ^^^ (b+2*num r)))
   rw [feed_num r _ (fun c hc=>h c (by simp [hc])),st_split x b _ (h b (by simp))]
def bitsOf (b:Nat):List Nat:=[b%2,b/2%2,b/4%2,b/8%2,b/16%2,b/32%2,b/64%2,b/128%2]
theorem bitsOf_lt (b:Nat):∀ x∈bitsOf b,x<2:=by
 intro x hx
 simp only [bitsOf,List.mem_cons,List.not_mem_nil,or_false] at hx
 omega
theorem num_bitsOf (b:Nat) (h:b<256):num (bitsOf b)=b:=by
 simp only [bitsOf,num];omega
def crcByte (x b:Nat):Nat:=stN 8 (x ^^^ b)
theorem crcByte_feed (x b:Nat) (h:b<256):crcByte x b=feed x (bitsOf b):=by
 rw [feed_num _ _ (bitsOf_lt b),num_bitsOf b h];rfl
def crcFold (l:List UInt8):Nat:=l.foldl (fun x b=>crcByte x b.toNat) 4294967295
def crcL (l:List UInt8):Nat:=4294967295 ^^^ crcFold l
def bitsL (l:List UInt8):List Nat:=l.flatMap fun b=>bitsOf b.toNat
theorem crcFold_feed (l:List UInt8):crcFold l=feed 4294967295 (bitsL l):=by
 unfold crcFold bitsL
 generalize 4294967295=x
 induction l generalizing x with
 | nil=>rfl
 | cons b l ih=>
   rw [List.foldl_cons,ih,List.flatMap_cons,feed_append,crcByte_feed _ _ b.toNat_lt]
theorem bitsL_lt (l:List UInt8):∀ x∈bitsL l,x<2:=by
 intro x hx
 obtain ⟨b,_,h⟩:=List.mem_flatMap.1 hx
 exact bitsOf_lt _ x h
theorem crcFold_lt (l:List UInt8):crcFold l<4294967296:=by
 rw [crcFold_feed];exact feed_lt (by omega) (bitsL_lt l)
theorem crcL_lt (l:List UInt8):crcL l<4294967296:=Nat.xor_lt_two_pow (n:=32) (by omega) (crcFold_lt l)
end Go.Proofs.YtiihiocgbfafaaaGreat.Pl
namespace Go.Proofs.YtiihiocgbfafaaaGreat
open Go.RowKit
theorem foldl_crc_take {l:List UInt8} {k:Nat} {x:UInt8} (h:l[k]? = some x) (s:Nat):(l.take (k+1)).foldl (fun x b=>Pl.crcByte x b.toNat) s=Pl.crcByte ((l.take k).foldl (fun x b=>Pl.crcByte x b.toNat) s) x.toNat:=by
 have hk:k<l.length:=by
  rcases Nat.lt_or_ge k l.length with h'|h'
  ·exact h'
  ·rw [List.getElem?_eq_none h'] at h;cases h
 rw [Zg hk] at h
 injection h with h
 rw [List.take_succ_eq_append_getElem hk,List.foldl_append,List.foldl_cons,List.foldl_nil,h]
def crcTo (l:List UInt8) (k:Nat):Nat:=(l.take k).foldl (fun x b=>Pl.crcByte x b.toNat) 4294967295
theorem wrapu32_nat {n:Nat} (h:n<4294967296):IntKind.u32.wrap (n:Int)=(n:Int):=by
 rw [IntKind.wrap_u32];omega
theorem ofInt32 {a:Nat} (ha:a<4294967296):(BitVec.ofInt 32 (a:Int)).toNat=a:=by
 rw [BitVec.ofInt_natCast,BitVec.toNat_ofNat];omega
theorem u32_xor_nat (a b:Nat) (ha:a<4294967296) (hb:b<4294967296):bits .xor .u32 (a:Int) (b:Int)=((a ^^^ b:Nat):Int):=by
 unfold bits
 show IntKind.u32.wrap ((BitVec.ofInt 32 (a:Int) ^^^ BitVec.ofInt 32 (b:Int)).toNat:Int)=_
 rw [BitVec.toNat_xor,ofInt32 (by omega),ofInt32 (by omega)]
 exact wrapu32_nat (Nat.xor_lt_two_pow (n:=32) ha hb)
theorem u32_and_nat (a b:Nat) (ha:a<4294967296) (hb:b<4294967296):bits .and .u32 (a:Int) (b:Int)=((a &&& b:Nat):Int):=by
 unfold bits
 show IntKind.u32.wrap ((BitVec.ofInt 32 (a:Int) &&& BitVec.ofInt 32 (b:Int)).toNat:Int)=_
 rw [BitVec.toNat_and,ofInt32 (by omega),ofInt32 (by omega)]
 exact wrapu32_nat (Nat.lt_of_le_of_lt Nat.and_le_left ha)
theorem u32_and1 {a:Nat} (ha:a<4294967296):bits .and .u32 (a:Int) 1=((a%2:Nat):Int):=by
 rw [show (1:Int)=((1:Nat):Int) from rfl,u32_and_nat a 1 ha (by omega),Nat.and_one_is_mod]
theorem st_val {y:Nat} (hy:y<4294967296):bits .xor .u32 ((y:Int)/2) (bits .and .u32 2197175160 (-((y:Int)%2)%4294967296))=((Pl.st y:Nat):Int):=by
 have e0:(y:Int)/2=((y/2:Nat):Int):=by omega
 unfold Pl.st
 rw [Nat.shiftRight_eq_div_pow,Nat.pow_one,e0]
 rcases Nat.mod_two_eq_zero_or_one y with h|h
 ·rw [show -((y:Int)%2)%4294967296=((0:Nat):Int) by omega,show (2197175160:Int)=((2197175160:Nat):Int) from rfl,u32_and_nat _ _ (by omega) (by omega),u32_xor_nat _ _ (by omega) (by simp),h]
  simp
 ·rw [show -((y:Int)%2)%4294967296=((4294967295:Nat):Int) by omega,show (2197175160:Int)=((2197175160:Nat):Int) from rfl,u32_and_nat _ _ (by omega) (by omega),show (2197175160 &&& 4294967295:Nat)=2197175160 by decide,u32_xor_nat _ _ (by omega) (by omega),h]
  simp [Pl.crcP]
theorem crcTo_end {l:List UInt8} {n:Nat} (h:l.length=n):4294967295 ^^^ crcTo l n=Pl.crcL l:=by
 unfold crcTo Pl.crcL Pl.crcFold
 rw [List.take_of_length_le (by omega)]
theorem sumsCrc (A:OA) (n c:Nat) (l:List UInt8) (w:World) (hl:l.length=n) (hr:Bs w A l) (hn:n≤1000000000000):
 Calls Tryz.prog 87 #[.slice A n c] w fun e w'=>e=.returned (.int .i64 (Pl.crcL l:Nat))∧w'=w:=by
 have HL:=Lh hl
 have HR:=Lh hr
 clear hl hr
 go_enter Tryz.func87,Tryz.ntmps87
 go_wp2
 go_loopg [3,8] n (fun gg s3 s8 wr=>∃ k x:Nat,k≤n∧n-k≤gg∧s3=.int .u32 (x:Int)∧s8=.int .i64 (k:Int)∧x=crcTo l k∧x<4294967296∧wr=w)
 case atStart=>exact ⟨0,4294967295,by omega,by omega,rfl,rfl,by simp [crcTo],by omega,rfl⟩
 case round=>
  obtain ⟨k,x,hk,hgg,rfl,rfl,hx,hx32,rfl⟩:=hrel
  by_cases hkn:k<n
  ·obtain ⟨b,o,u,hA,hu,hc⟩:=HR.out.at_ (by rw [HL.out];exact hkn:k<l.length)
   subst hA
   have hu8:u.toNat<256:=u.toNat_lt
   have HX:=Lh hx
   clear hx
   have e1:=u32_xor_nat x u.toNat hx32 (by omega)
   have hx1:x ^^^ u.toNat<4294967296:=Nat.xor_lt_two_pow (n:=32) hx32 (by omega)
   go_wp2
   clear e1
   have HY:=Lh (rfl:x ^^^ u.toNat=x ^^^ u.toNat)
   generalize hy:x ^^^ u.toNat=y0 at HY hx1 ⊢
   go_loopg [3,16] 8 (fun gg s3 s16 wi=>∃ j y:Nat,j≤8∧8-j≤gg∧s3=.int .u32 (y:Int)∧s16=.int .i64 (j:Int)∧Pl.stN (8-j) y=Pl.stN 8 y0∧y<4294967296∧wi=wr)
   case atStart=>exact ⟨0,y0,by omega,by omega,rfl,rfl,rfl,hx1,rfl⟩
   case round=>
    obtain ⟨j,y,hj,hgj,rfl,rfl,hst,hy32,rfl⟩:=hrel
    by_cases hj8:j<8
    ·have HST:=Lh hst
     clear hst
     have e2:=u32_and1 hy32
     have HV:=Lh (st_val hy32)
     have hy1:=Pl.st_lt hy32
     go_wp2
     rw [HV.out]
     go_roundg (8-(j+1))
     case measure=>omega
     case rel=>exact ⟨j+1,Pl.st y,by omega,by omega,rfl,by go_num,by rw [←HST.out,show 8-j=(8-(j+1))+1 by omega];rfl,hy1,rfl⟩
    ·obtain rfl:j=8:=by omega
     have hn8:y=Pl.stN 8 y0:=by rw [←hst];rfl
     have HN:=Lh (show y=crcTo l (k+1) by rw [hn8,←hy];unfold crcTo;rw [foldl_crc_take hu];rw [show (l.take k).foldl (fun x b=>Pl.crcByte x b.toNat) 4294967295=x from HX.out.symm];rfl)
     clear hn8 hst
     go_wp2
     go_roundg (n-(k+1))
     case measure=>omega
     case rel=>exact ⟨k+1,y,by omega,by omega,rfl,by go_num,HN.out,hy32,rfl⟩
  ·obtain rfl:k=n:=by omega
   have HV:=Lh (show 4294967295 ^^^ x=Pl.crcL l by rw [hx];exact crcTo_end HL.out)
   clear hx
   have hx2:4294967295 ^^^ x<4294967296:=Nat.xor_lt_two_pow (n:=32) (by omega) hx32
   have HE:=Lh (show wrap64 (bits .xor .u32 IntKind.u32.max (x:Int))=((Pl.crcL l:Nat):Int) by
    rw [show IntKind.u32.max=((4294967295:Nat):Int) by decide,u32_xor_nat _ _ (by omega) hx32,HV.out,wrap64_nat (by rw [←HV.out];omega)])
   clear hx2
   go_wp2
   go_ret
   exact ⟨ret_int HE.out,rfl⟩
theorem Own.fresh (w:World) (e:TypeId) (xs:List Value) (n:Nat) (h:xs.length=n) (hn:n≤1000000000000:=by omega):Own (w.alloc (.cells xs.toArray e)) w.heap.size e (some ⟨w.heap.size,0,none⟩) n n xs:=
 ⟨by simpa using h,.inr ⟨w.heap.size,n,xs.toArray,rfl,Nat.le_refl _,heap_alloc_new w _,Nat.le_refl _,by unfold maxLen;omega,by simpa using h,by simp [List.take_of_length_le,h]⟩⟩
def sumOf (l:List UInt8):List UInt8:=[UInt8.ofNat (Pl.crcL l),UInt8.ofNat (Pl.crcL l/256),UInt8.ofNat (Pl.crcL l/65536),UInt8.ofNat (Pl.crcL l/16777216)]
theorem packSum (A:OA) (n c:Nat) (l:List UInt8) (w:World) (hl:l.length=n) (hr:Bs w A l) (hn:n≤1000000000000):
 Calls Tryz.prog 67 #[.slice A n c] w fun e w'=>∃ A' c',e=.returned (.slice A' 4 c')∧OwnB w' w.heap.size A' 4 c' (sumOf l)∧Below w.heap.size w w':=by
 have HC:=Lh (sumsCrc A n c l w hl hr hn)
 have hlt:=Pl.crcL_lt l
 generalize hx:Pl.crcL l=x at *
 have HX:=Lh hx
 clear hl hr hx
 go_enter Tryz.func67,Tryz.ntmps67
 go_wp2_with fail
 refine HC.out.mono ?_
 rintro e w1 ⟨rfl,rfl⟩
 go_wp2
 go_ret
 refine ⟨_,4,rfl,?_,(Below.refl _ _).alloc nL _⟩
 have e:(sumOf l).map u8v=[Value.int .u8 ((x:Int)%256),.int .u8 ((x:Int)/256%256),.int .u8 ((x:Int)/65536%256),.int .u8 ((x:Int)/16777216)]:=by
  unfold sumOf
  rw [HX.out]
  simp only [List.map_cons,List.map_nil,u8v,UInt8.toNat_ofNat']
  simp only [List.cons.injEq,Value.int.injEq,true_and,and_true]
  refine ⟨by omega,by omega,by omega,by omega⟩
 unfold OwnB
 rw [e]
 exact Own.fresh w1 5 _ 4 rfl
def NewB (w:World) (base:Nat) (A:OA) (n c:Nat) (l:List UInt8):Prop:=
 l.length=n∧Bs w A l∧(∀ b,bk A=some b→base≤b∧b<w.heap.size)∧n≤c∧c≤9223372036854775807∧∀ b o,A=some ⟨b,o,none⟩→∀ j,w.frozen? ⟨b,o+j,none⟩=false
theorem OwnB.newB {w:World} {base n c:Nat} {A:OA} {l:List UInt8} (h:OwnB w base A n c l):NewB w base A n c l:=by
 refine ⟨OwnB.length h,OwnB.bs h,fun b hb=>Own.lt h hb,(Own.cap h).1,(Own.cap h).2,?_⟩
 intro b o hA j
 rcases Own.form h with ⟨e,-⟩|⟨g,e,-⟩
 ·rw [e] at hA;cases hA
 ·rw [e] at hA
  injection hA with hA
  injection hA with h1 h2
  subst h1;subst h2;subst e
  rw [Nat.zero_add]
  exact World.ownsRow.frozenAt h j
theorem NewB.kept {w w':World} {row:Option Nat} {base n c:Nat} {A:OA} {l:List UInt8} (h:NewB w base A n c l) (hg:w.grownBy w' row) (hne:bk A=none∨bk A≠row):NewB w' base A n c l:=by
 obtain ⟨h1,h2,h3,h4,h5,h6⟩:=h
 refine ⟨h1,Rd.keptB h2 hg hne,fun b hb=>⟨(h3 b hb).1,lT (h3 b hb).2 hg.size⟩,h4,h5,fun b o hA j=>?_⟩
 rw [←h6 b o hA j]
 have hb:bk A=some b:=by rw [hA];rfl
 have:=hg.block b (h3 b hb).2 (fun e=>by
  rcases hne with h|h
  ·rw [hb] at h;cases h
  ·exact h (by rw [hb,e]))
 exact World.frozen?_of_block this
theorem NewB.later {w w':World} {base n c:Nat} {A:OA} {l:List UInt8} (h:NewB w base A n c l) (hb:Below w.heap.size w w'):NewB w' base A n c l:=by
 refine h.kept (grown_of_below hb) ?_
 cases A<;>simp [bk]
theorem NewB.mono {w:World} {base base' n c:Nat} {A:OA} {l:List UInt8} (h:NewB w base A n c l) (hb:base'≤base):NewB w base' A n c l:=
 ⟨h.1,h.2.1,fun b e=>⟨Nat.le_trans hb (h.2.2.1 b e).1,(h.2.2.1 b e).2⟩,h.2.2.2⟩
theorem NewB.nil (w:World) (base:Nat):NewB w base none 0 0 []:=⟨rfl,Rd.nil _ _,(fun b hb=>by cases hb),Nat.le_refl _,by omega,(fun b o hA=>by cases hA)⟩
theorem splice_fill (cur:List Value) (k m:Nat) (v:Value) (h:cur.take k=List.replicate k v) (hl:k+m≤cur.length):(splice cur k (List.replicate m v)).take (k+m)=List.replicate (k+m) v:=by
 unfold splice
 rw [h,←Za,List.replicate_append_replicate,List.take_left' (by simp)]
theorem bytesRepeat (A:OA) (c:Nat) (x:UInt8) (n:Nat) (w:World) (hr:Bs w A [x]) (hn:n≤65536):
 Calls Tryz.prog 63 #[.slice A 1 c,.int .i64 (n:Int)] w fun e w'=>∃ A' c',e=.returned (.slice A' n c')∧NewB w' w.heap.size A' n c' (List.replicate n x)∧Below w.heap.size w w':=by
 obtain ⟨b,o,u,rfl,hu,hc⟩:=hr.at_ (k:=0) (by simp)
 obtain rfl:x=u:=by simpa using hu
 clear hu hr
 rw [Nat.add_zero] at hc
 by_cases h0:n=0
 ·subst h0
  go_enter Tryz.func63,Tryz.ntmps63
  go_wp2
  go_ret
  refine ⟨_,0,rfl,⟨rfl,Rd.nil _ _,fun b hb=>by cases hb;exact ⟨Nat.le_refl _,by simp⟩,by omega,by omega,?_⟩,(Below.refl _ _).alloc nL _⟩
  intro b o hA j
  injection hA with hA
  injection hA with h1 h2
  subst h1;subst h2
  exact (Blk.new w 5 #[]).frozen _
 ·have hM:=Lh (show Calls Tryz.prog 92 #[.int .u64 1,.int .u64 (n:Int)] w fun e w'=>e=.returned (.tuple #[.int .u64 0,.int .u64 (n:Int)])∧w'=w from (Tryz.bits_Mul 1 n (by omega) (by omega) w).mono fun e w' ⟨h1,h2⟩=>⟨by rw [h1,Nat.one_mul,Nat.div_eq_of_lt (by omega),Nat.mod_eq_of_lt (by omega)];rfl,h2⟩)
  have e0:((n:Int)==0)=false:=bF (by omega)
  obtain ⟨cs,hrunM,hle,hcm⟩:=Lib.run_makeNoZero (P:=Tryz.prog) w #[3] 37 5 Tryz.underlying37 n (by omega)
  have hcall:(callFunc 93 #[.int .i64 (n:Int)]).run Tryz.prog w=.ok (.value (.slice (some ⟨w.heap.size,0,none⟩) n cs.size)) ((w.alloc (.cells cs 5)).drewN 2):=by
   rw [run_callFunc_extern Tryz.func93 (by kernel_rfl) (by kernel_rfl) (by kernel_rfl) (e:=Extern.BytealgMakeNoZero.makeNoZero #[3] #[37]) (by kernel_rfl),hrunM]
   rfl
  have HH:=Lh (heap_alloc_new w (.cells cs 5))
  have HB0:=Lh (show Below w.heap.size w ((w.alloc (.cells cs 5)).drewN 2) from ((Below.refl _ _).alloc nL _).trans ((below_drewN _ 2).mono (by simp)))
  obtain ⟨L,rfl⟩:∃ L:List Value,cs=L.toArray:=⟨cs.toList,by simp⟩
  have hL:n≤L.length:=by simpa using hle
  have hhb:w.heap.size≤w.heap.size:=Nat.le_refl _
  have hbw:=block_lt hc
  clear hrunM
  go_enter Tryz.func63,Tryz.ntmps63
  by_cases h8:8192<n
  all_goals
   go_wp2_with fail
   refine hM.out.mono ?_
   rintro e w1 ⟨rfl,rfl⟩
   go_wp2_with (with_reducible refine wpList_copy_splice rfl (.tmp 58) (.tmp 59) 37 37 ?ho 5 Tryz.underlying37 (by kernel_rfl) (some ⟨w1.heap.size,0,none⟩) (some ⟨b,o,none⟩) n n 1 c ?hd ?hs w1.heap.size 0 L 5 ?hg [u8v x] ?hn ?hpos ?hfit ?h1 w1.heap.size w1 ?hb ?hBg ?_;(case ho=>exact rfl))
   case hd=>rfl
   case hs=>rfl
   case hg=>exact HH.out
   case hn=>
    show 1=Nat.min 1 n
    rw [show Nat.min 1 n=1 from Nat.min_eq_left (by omega)]
   case hpos=>
    intro j v hj
    obtain rfl:j=0:=by
     have:=(Ze hj).1
     simp at this;omega
    rw [Nat.add_zero,hc]
    simpa [u8v] using hj
   case hfit=>simp;omega
   case h1=>intro v hv;simp at hv;subst hv;rfl
   case hb=>exact HB0.out
   case hBg=>exact Nat.le_refl _
   intro w2 hg2 hb2
   have HR2:=Lh (show ∃ cur:List Value,w2.heap[w1.heap.size]? = some (.cells cur.toArray 5 (0,0))∧n≤cur.length∧cur.take 1=List.replicate 1 (u8v x) from
    ⟨_,hg2.out,by rw [length_splice _ _ _ (by simp;omega)];exact hL,by simp [splice]⟩)
   have HB2:=Lh hb2
   clear hg2 hb2 hcall HH HB0 hc
   go_wp2
   go_loopg [10] n (fun gg s10 wr=>∃ (k:Nat) (cur:List Value),1≤k∧k≤n∧n-k≤gg∧s10=.int .i64 (k:Int)∧wr.heap[w1.heap.size]? = some (.cells cur.toArray 5 (0,0))∧n≤cur.length∧cur.take k=List.replicate k (u8v x)∧Below w1.heap.size w1 wr)
   case atStart=>
    obtain ⟨cur,q1,q2,q3⟩:=HR2.out
    exact ⟨1,cur,by omega,by omega,by omega,rfl,q1,q2,q3,HB2.out⟩
   case round=>
    obtain ⟨k,cur,hk1,hkn,hgg,rfl,hg,hlen,htake,hbel⟩:=hrel
    have HG:=Lh hg
    have HT:=Lh htake
    have HB:=Lh hbel
    clear hg htake hbel
    by_cases hlt:k<n
    ·obtain ⟨ch,hm1,hm2,hc1,hc2⟩:∃ ch:Nat,(8192<n→min (k:Int) 8192=ch)∧(¬8192<n→min (k:Int) n=ch)∧1≤ch∧ch≤k:=by
      by_cases h:8192<n
      ·exact ⟨min k 8192,fun _=>by omega,fun h'=>absurd h h',by omega,by omega⟩
      ·exact ⟨k,fun h'=>absurd h' h,fun _=>by omega,by omega,by omega⟩
     first|have hmin:=hm1 h8|have hmin:=hm2 h8
     clear hm1 hm2
     obtain ⟨m,hm,hm1,hm2⟩:∃ m,m=Nat.min ch (n-k)∧1≤m∧k+m≤n:=⟨_,rfl,by simp only [Nat.min_def];split<;>omega,by simp only [Nat.min_def];split<;>omega⟩
     have HSF:=Lh (splice_fill cur k m (u8v x) HT.out (by omega))
     have HSL:=Lh (length_splice cur k (List.replicate m (u8v x)) (by rw [List.length_replicate];omega))
     have HM:=Lh hm
     clear hm
     have i1:(0:Int)≤(ch:Int):=by omega
     have i2:(ch:Int)≤(n:Int):=by omega
     have i3:(0:Int)≤(k:Int):=by omega
     have i4:(k:Int)≤(n:Int):=by omega
     have i5:¬n=k:=by omega
     go_wp2
     have hmk:m≤k:=by
      have h1:=HM.out
      have h2:Nat.min ch (n-k)≤ch:=Nat.min_le_left _ _
      omega
     have Q1:=Lh (show (List.replicate m (u8v x)).length=Nat.min ch (n-k) by rw [List.length_replicate];exact HM.out)
     have Q2:=Lh (show 0<(List.replicate m (u8v x)).length→(some (⟨w1.heap.size,k,none⟩:Addr))=some ⟨w1.heap.size,k,none⟩∧∃ ad,(some (⟨w1.heap.size,0,none⟩:Addr))=some ad∧∀ j v,(List.replicate m (u8v x))[j]? = some v→wr.cell? (ad.add j)=some v from fun _=>⟨rfl,_,rfl,fun j v hj=>by
      have hjm:j<m:=by
       have:=(Ze hj).1
       simpa using this
      rw [Addr.add_lit,Nat.zero_add,cell_of_row wr w1.heap.size j cur.toArray 5 (0,0) HG.out,Zt,←List.getElem?_take_of_lt (show j<k by omega),HT.out]
      rw [List.getElem?_replicate,if_pos (by omega)]
      rw [List.getElem?_replicate,if_pos hjm] at hj
      exact hj⟩)
     have Q3:=Lh (show k+(List.replicate m (u8v x)).length≤cur.length by rw [List.length_replicate];omega)
     have Q4:=Lh (show ∀ v∈List.replicate m (u8v x),v.oneCell'=true from fun v hv=>by rw [List.eq_of_mem_replicate hv];rfl)
     go_region_law (refine step_copy_splice rfl (.tmp 70) (.tmp 73) 37 37 rfl 5 Tryz.underlying37 (by kernel_rfl) (some ⟨w1.heap.size,k,none⟩) (some ⟨w1.heap.size,0,none⟩) (n-k) (n-k) ch n ?hd ?hs w1.heap.size k cur 5 HG.out (List.replicate m (u8v x)) Q1.out Q2.out Q3.out Q4.out w1.heap.size w1 HB.out.drew nL ?_;(case hd=>simp [Act.eval,Act.put]);(case hs=>simp [Act.eval,Act.put]);intro w4 hg4 hb4;rw [List.length_replicate])
     all_goals go_wp2
     all_goals go_roundg (n-(k+m))
     all_goals first
      | omega
      | exact ⟨k+m,splice cur k (List.replicate m (u8v x)),by omega,by omega,by omega,int_eq (by rw [IntKind.wrap_i64];omega),hg4.out,by rw [HSL.out];exact hlen,HSF.out,hb4⟩
    ·obtain rfl:k=n:=by omega
     go_wp2
     go_ret
     refine ⟨_,k,rfl,⟨by simp,?_,fun b hb=>by cases hb;exact ⟨Nat.le_refl _,(Array.getElem?_eq_some_iff.1 HG.out).1⟩,Nat.le_refl _,by omega,?_⟩,HB.out⟩
     ·intro _
      refine ⟨_,0,rfl,fun j hj=>?_⟩
      have hjk:j<k:=by simpa using hj
      rw [Nat.zero_add,cell_of_row wr w1.heap.size j cur.toArray 5 (0,0) HG.out,Zt,←List.getElem?_take_of_lt hjk,HT.out,List.map_replicate]
     ·intro b o hA j
      injection hA with hA
      injection hA with h1 h2
      subst h1;subst h2
      exact frozen_of_row wr _ _ cur.toArray 5 HG.out
open Go.Maps
abbrev Fp:=Nat→Prop
structure Chg (F:Fp) (w w':World):Prop where
 os:w'.os=w.os
 tape:w'.tape=w.tape
 output:w'.output=w.output
 size:w.heap.size≤w'.heap.size
 block:∀ k,k<w.heap.size→¬F k→w'.heap[k]? = w.heap[k]?
def Fp.none:Fp:=fun _=>False
def Fp.In (F:Fp) (w:World):Prop:=∀ k,F k→k<w.heap.size
def Fp.Ap (F G:Fp):Prop:=∀ k,F k→¬G k
theorem Chg.refl (F:Fp) (w:World):Chg F w w:=⟨rfl,rfl,rfl,Nat.le_refl _,fun _ _ _=>rfl⟩
theorem Chg.mono {F G:Fp} {w w':World} (h:Chg F w w') (hs:∀ k,k<w.heap.size→F k→G k):Chg G w w':=⟨h.os,h.tape,h.output,h.size,fun k hk hn=>h.block k hk (fun hf=>hn (hs k hk hf))⟩
theorem Chg.trans {F G:Fp} {w w1 w2:World} (h:Chg F w w1) (h2:Chg G w1 w2) (hs:∀ k,k<w.heap.size→G k→F k):Chg F w w2:=
 ⟨h2.os.trans h.os,h2.tape.trans h.tape,h2.output.trans h.output,Nat.le_trans h.size h2.size,fun k hk hn=>(h2.block k (lT hk h.size) (fun hg=>hn (hs k hk hg))).trans (h.block k hk hn)⟩
theorem Chg.tr {F:Fp} {w w1 w2:World} (h:Chg F w w1) (h2:Chg F w1 w2):Chg F w w2:=h.trans h2 (fun _ _ h=>h)
theorem Chg.of_below {F:Fp} {w w':World} (h:Below w.heap.size w w'):Chg F w w':=⟨h.os,h.tape,h.output,h.size,fun k hk _=>h.block k hk⟩
theorem Chg.of_grown {F:Fp} {w w':World} {row:Option Nat} (h:w.grownBy w' row) (hr:∀ b,row=some b→b<w.heap.size→F b):Chg F w w':=
 ⟨h.os,h.tape,h.output,h.size,fun k hk hn=>h.block k hk (fun e=>hn (hr k e.symm hk))⟩
theorem Chg.below {F:Fp} {w w':World} {base:Nat} (h:Chg F w w') (hF:∀ k,F k→base≤k) (hb:base≤w.heap.size):Below base w w':=
 ⟨h.os,h.tape,h.output,h.size,fun k hk=>h.block k (by omega) (fun hf=>by have:=hF k hf;omega)⟩
theorem Chg.setCell {F:Fp} (w:World) (p:Addr) (u:Value) (hp:F p.block):Chg F w (w.setCell p u):=
 ⟨rfl,rfl,rfl,by simp [World.setCell],fun k _ hk=>Below.heap_setCell _ _ _ _ (fun e=>hk (by rw [e];exact hp))⟩
theorem Chg.drew (F:Fp) (w:World):Chg F w w.drew:=⟨rfl,rfl,rfl,Nat.le_refl _,fun _ _ _=>rfl⟩
theorem Chg.drewN (F:Fp) (w:World) (n:Nat):Chg F w (w.drewN n):=Chg.of_below (below_drewN w n)
theorem Own.same {w w':World} {base:Nat} {e:TypeId} {A:OA} {n c:Nat} {xs:List Value} (h:Own w base e A n c xs) (hb:∀ k,bk A=some k→w'.heap[k]? = w.heap[k]?):Own w' base e A n c xs:=by
 refine ⟨h.1,?_⟩
 rcases h.2 with h2|⟨g,cap,cur,hv,h1,hg,h3⟩
 ·exact .inl h2
 ·refine .inr ⟨g,cap,cur,hv,h1,?_,h3⟩
  simp only [Value.slice.injEq] at hv
  rw [hb g (by rw [hv.1];rfl)]
  exact hg
theorem Rd.same {w w':World} {A:OA} {xs:List Value} (h:Rd w A xs) (hb:∀ k,bk A=some k→w'.heap[k]? = w.heap[k]?):Rd w' A xs:=fun h0=>by
 obtain ⟨b,o,e,hc⟩:=h h0
 refine ⟨b,o,e,fun j hj=>?_⟩
 rw [←hc j hj]
 unfold World.cell?
 simp only []
 rw [hb b (by rw [e];rfl)]
theorem cell_same {w w':World} {a:Addr} (hb:w'.heap[a.block]? = w.heap[a.block]?):w'.cell? a=w.cell? a:=by
 unfold World.cell?
 rw [hb]
theorem Own.chg {F:Fp} {w w':World} {base:Nat} {e:TypeId} {A:OA} {n c:Nat} {xs:List Value} (h:Own w base e A n c xs) (hc:Chg F w w') (hn:∀ k,bk A=some k→¬F k):Own w' base e A n c xs:=
 h.same (fun k hk=>hc.block k (h.lt hk).2 (hn k hk))
theorem MapT.At.chg {κ α:Type} {T:MapT κ α} {F:Fp} {w w':World} {b n:Nat} {f:κ→Option α} (h:T.At w b n f) (hc:Chg F w w') (hn:¬F b):T.At w' b n f:=h.same (hc.block b h.lt hn)
def numB:Nat→Nat→List UInt8
 | 0,n=>[UInt8.ofNat n]
 | f+1,n=>if 128≤n then UInt8.ofNat (n%128+128)::numB f (n/128) else [UInt8.ofNat n]
theorem u8_or128 {n:Nat}:bits .or .u8 ((n:Int)%256) 128=((n%128+128:Nat):Int):=by
 have h:∀ x:Fin 256,bits .or .u8 (x.val:Int) 128=((x.val%128+128:Nat):Int):=by decide +kernel
 have h2:=h ⟨n%256,by omega⟩
 simp only at h2
 rw [show (n:Int)%256=((n%256:Nat):Int) by omega,h2]
 omega
theorem ownB_snoc {w:World} {base n c:Nat} {A:OA} {l:List UInt8} {v:Int} {b:UInt8} (h:Own w base 5 A n c (l.map u8v++[.int .u8 v])) (hv:v=(b.toNat:Int)):OwnB w base A n c (l++[b]):=by
 unfold OwnB;rw [List.map_append];subst hv;exact h
theorem putNum (A:OA) (n c:Nat) (l:List UInt8) (v:Nat) (w:World) (hl:l.length=n) (hr:Bs w A l) (hn:n≤1000000000000) (hv:v≤4294967295):
 Calls Tryz.prog 72 #[.slice A n c,.int .i64 (v:Int)] w fun e w'=>∃ A' m c',e=.returned (.tuple #[.slice A' m c',.int .i64 0])∧OwnB w' w.heap.size A' m c' (l++numB 5 v)∧Below w.heap.size w w':=by
 have HL:=Lh hl
 have HR:=Lh hr
 clear hl hr
 go_enter Tryz.func72,Tryz.ntmps72
 go_wp2_with (at_builtin;refine wpList_append_rd rfl _ _ elemB rfl w.heap.size none 0 0 [] rfl (Own.nil _ _ _) A n c (l.map u8v) rfl HR.out ?h1 (u8_one _) ?h2 ?h3 ?hb ?_)
 case h1=>rw [List.length_map];exact HL.out
 case h2=>omega
 case h3=>omega
 case hb=>exact Nat.le_refl _
 intro A' c' w1 hown hb hg hat
 have HO:=Lh (show OwnB w1 w.heap.size A' n c' l by
  exact hown)
 have HB:=Lh hb
 clear hown hb hg hat
 go_wp2
 go_loopg [1,6] 5 (fun gg s1 s6 wr=>∃ (f x m co:Nat) (Ao:OA) (out:List UInt8),f≤5∧f≤gg∧s1=.int .i64 (x:Int)∧s6=.slice Ao m co∧x<128*2^(7*f)∧x≤4294967295∧OwnB wr w.heap.size Ao m co out∧m≤1000000000010∧m+f≤n+5∧out++numB f x=l++numB 5 v∧Below w.heap.size w wr)
 case atStart=>exact ⟨5,v,n,c',A',l,by omega,by omega,rfl,by first|rfl|(rw [Nat.zero_add]),by omega,hv,HO.out,by omega,by omega,rfl,HB.out⟩
 case round=>
  obtain ⟨f,x,m,co,Ao,out,hf,hgg,rfl,rfl,hx,hx32,hown,hm,hmf,heq,hbel⟩:=hrel
  have HO:=Lh hown
  have HQ:=Lh heq
  have HBel:=Lh hbel
  have HX:=Lh hx
  clear hown heq hbel hx
  by_cases h128:128≤x
  ·obtain ⟨f',rfl⟩:∃ f',f=f'+1:=by
    have hx:=HX.out
    cases f with
    | zero=>omega
    | succ f=>exact ⟨f,rfl⟩
   have HE:=Lh (u8_or128 (n:=x))
   have HX2:=Lh (show x/128<128*2^(7*f') by
    have h:=HX.out
    rw [show 7*(f'+1)=7*f'+7 by omega,Nat.pow_add] at h
    generalize 2^(7*f')=p at *
    omega)
   have HQ2:=Lh (show (out++[UInt8.ofNat (x%128+128)])++numB f' (x/128)=l++numB 5 v by
    have h:=HQ.out
    rw [numB,if_pos h128] at h
    rw [Za]
    exact h)
   go_wp2_with (at_builtin;refine wpList_append_one rfl _ _ elemB rfl w.heap.size Ao m co (out.map u8v) wr (.int .u8 (bits .or .u8 ((x:Int)%256) 128)) rfl rfl HO.out rfl rfl ?d1 ?d2 ?d3 ?_)
   case d1=>omega
   case d2=>omega
   case d3=>exact HBel.out.size
   intro A3 c3 w3 hown3 hb3 hgr3 hat3
   have HO3:=Lh (ownB_snoc (b:=UInt8.ofNat (x%128+128)) hown3 (by rw [HE.out,UInt8.toNat_ofNat'];omega))
   have HB3:=Lh (HBel.out.trans hb3)
   clear hown3 hb3 hgr3 hat3
   go_wp2
   go_roundg f'
   case measure=>omega
   case rel=>exact ⟨f',x/128,m+1,c3,A3,out++[UInt8.ofNat (x%128+128)],by omega,by omega,by go_num,rfl,HX2.out,by omega,HO3.out,by omega,by omega,HQ2.out,HB3.out⟩
  ·have HQ2:=Lh (show out++[UInt8.ofNat x]=l++numB 5 v by
    have h:=HQ.out
    have:numB f x=[UInt8.ofNat x]:=by
     cases f with
     | zero=>rfl
     | succ f=>rw [numB,if_neg h128]
    rw [this] at h
    exact h)
   go_wp2_with (at_builtin;refine wpList_append_one rfl _ _ elemB rfl w.heap.size Ao m co (out.map u8v) wr (.int .u8 (x:Int)) rfl rfl HO.out rfl rfl ?d1 ?d2 ?d3 ?_)
   case d1=>omega
   case d2=>omega
   case d3=>exact HBel.out.size
   intro A3 c3 w3 hown3 hb3 hgr3 hat3
   have HO3:=Lh (ownB_snoc (b:=UInt8.ofNat x) hown3 (by rw [UInt8.toNat_ofNat'];omega))
   have HB3:=Lh (HBel.out.trans hb3)
   clear hown3 hb3 hgr3 hat3
   go_wp2
   go_ret2
   exact ⟨A3,m+1,c3,rfl,by rw [←HQ2.out];exact HO3.out,HB3.out⟩
structure IsWr (w:World) (B g:Nat) (bs:List UInt8) (acc n:Nat) (A:OA) (c:Nat):Prop where
 blk:Blk w g 248 #[.slice A bs.length c,.int .u64 (acc:Int),.int .i64 (n:Int)]
 own:OwnB w B A bs.length c bs
 base:B≤g
 size:B≤w.heap.size
theorem IsWr.acc_ {w:World} {B g acc n c:Nat} {bs:List UInt8} {A:OA} (h:IsWr w B g bs acc n A c) (x:Nat):IsWr (w.setCell ⟨g,1,none⟩ (.int .u64 (x:Int))) B g bs x n A c:=
 ⟨h.blk.set 1 _,Own.kept h.own (grown_set w ⟨g,1,none⟩ _) (.inr (Own.ne_blk h.own h.blk (by decide))),h.base,by have:=h.size;simpa [World.setCell] using this⟩
theorem IsWr.n_ {w:World} {B g acc n c:Nat} {bs:List UInt8} {A:OA} (h:IsWr w B g bs acc n A c) (x:Nat):IsWr (w.setCell ⟨g,2,none⟩ (.int .i64 (x:Int))) B g bs acc x A c:=
 ⟨h.blk.set 2 _,Own.kept h.own (grown_set w ⟨g,2,none⟩ _) (.inr (Own.ne_blk h.own h.blk (by decide))),h.base,by have:=h.size;simpa [World.setCell] using this⟩
theorem IsWr.drew {w:World} {B g acc n c:Nat} {bs:List UInt8} {A:OA} (h:IsWr w B g bs acc n A c):IsWr w.drew B g bs acc n A c:=⟨h.blk,h.own,h.base,h.size⟩
theorem IsWr.later {w w':World} {B g acc n c:Nat} {bs:List UInt8} {A:OA} (h:IsWr w B g bs acc n A c) (hb:Below w.heap.size w w'):IsWr w' B g bs acc n A c:=
 ⟨h.blk.later hb,Own.later h.own hb,h.base,Nat.le_trans h.size hb.size⟩
theorem IsWr.app {w w':World} {B g acc n c c':Nat} {bs:List UInt8} {b:UInt8} {A A':OA} (h:IsWr w B g bs acc n A c) (hg:w.grownBy w' (bk A)) (ho:OwnB w' B A' (bs.length+1) c' (bs++[b])):IsWr (w'.setCell ⟨g,0,none⟩ (.slice A' (bs.length+1) c')) B g (bs++[b]) acc n A' c':=by
 have hb:=h.blk.kept hg (Own.ne_blk h.own h.blk (by decide))
 have hl:(bs++[b]).length=bs.length+1:=by simp
 have hs:=hg.size
 have hz:=h.size
 refine ⟨by rw [hl];exact hb.set 0 _,by rw [hl];exact Own.kept ho (grown_set w' ⟨g,0,none⟩ _) (.inr (Own.ne_blk ho hb (by decide))),h.base,by simp [World.setCell];omega⟩
structure Two (g:Nat) (A:OA) (w w':World):Prop where
 os:w'.os=w.os
 tape:w'.tape=w.tape
 output:w'.output=w.output
 size:w.heap.size≤w'.heap.size
 block:∀ k,k<w.heap.size→k≠g→bk A≠some k→w'.heap[k]? = w.heap[k]?
theorem Two.of_below {g:Nat} {A:OA} {w w':World} (h:Below w.heap.size w w'):Two g A w w':=⟨h.os,h.tape,h.output,h.size,fun k hk _ _=>h.block k hk⟩
theorem Two.refl (g:Nat) (A:OA) (w:World):Two g A w w:=⟨rfl,rfl,rfl,Nat.le_refl _,fun _ _ _ _=>rfl⟩
theorem Two.trans {g:Nat} {A:OA} {a b c:World} (h:Two g A a b) (k:Two g A b c):Two g A a c:=
 ⟨k.os.trans h.os,k.tape.trans h.tape,k.output.trans h.output,Nat.le_trans h.size k.size,fun i hi h1 h2=>(k.block i (lT hi h.size) h1 h2).trans (h.block i hi h1 h2)⟩
theorem Two.set_g {g i:Nat} {A:OA} {w w':World} (h:Two g A w w') (v:Value):Two g A w (w'.setCell ⟨g,i,none⟩ v):=
 ⟨h.os,h.tape,h.output,by have:=h.size;simpa [World.setCell] using this,fun k hk h1 h2=>(Below.heap_setCell _ _ _ _ h1).trans (h.block k hk h1 h2)⟩
theorem Two.set_a {g i ga:Nat} {w w':World} (h:Two g (some ⟨ga,0,none⟩) w w') (v:Value):Two g (some ⟨ga,0,none⟩) w (w'.setCell ⟨ga,i,none⟩ v):=
 ⟨h.os,h.tape,h.output,by have:=h.size;simpa [World.setCell] using this,fun k hk h1 h2=>(Below.heap_setCell _ _ _ _ (fun e=>h2 (by simp [bk,e]))).trans (h.block k hk h1 h2)⟩
theorem Two.drewN {g:Nat} {A:OA} {w w':World} (h:Two g A w w') (q:Nat):Two g A w (w'.drewN q):=h.trans (.of_below (below_drewN w' q))
theorem Two.grown {g:Nat} {A:OA} {w w1 w2:World} {row:Option Nat} (h:Two g A w w1) (hg:w1.grownBy w2 row) (hr:∀ k,row=some k→k<w.heap.size→k=g∨bk A=some k):Two g A w w2:=by
 refine ⟨hg.os.trans h.os,hg.tape.trans h.tape,hg.output.trans h.output,Nat.le_trans h.size hg.size,fun k hk h1 h2=>?_⟩
 rw [←h.block k hk h1 h2]
 refine hg.block k (lT hk h.size) (fun e=>?_)
 rcases hr k e.symm hk with h3|h3
 ·exact h1 h3
 ·exact h2 h3
def NewTo (w:World) (A A':OA):Prop:=bk A'=bk A∨∃ k,bk A'=some k∧w.heap.size≤k
theorem NewTo.row {w:World} {A A':OA} (h:NewTo w A A') {g k:Nat} (hk:bk A'=some k) (hlt:k<w.heap.size):k=g∨bk A=some k:=by
 rcases h with h|⟨k',h1,h2⟩
 ·exact .inr (by rw [←h,hk])
 ·rw [hk] at h1;injection h1 with h1;omega
theorem NewTo.app {w w1:World} {A A' A6:OA} (h:NewTo w A A') (hs:w.heap.size≤w1.heap.size) (h6:bk A6=bk A'∨bk A6=some w1.heap.size):NewTo w A A6:=by
 rcases h6 with h6|h6
 ·rcases h with h|⟨k',h1,h2⟩
  ·exact .inl (h6.trans h)
  ·exact .inr ⟨k',h6.trans h1,h2⟩
 ·exact .inr ⟨_,h6,hs⟩
def flushW:Nat→List UInt8→Nat→Nat→List UInt8 × Nat × Nat
 | 0,bs,acc,n=>(bs,acc,n)
 | f+1,bs,acc,n=>if 8≤n then flushW f (bs++[UInt8.ofNat acc]) (acc/256) (n-8) else (bs,acc,n)
theorem u64_or_nat (a b:Nat) (ha:a<18446744073709551616) (hb:b<18446744073709551616):bits .or .u64 (a:Int) (b:Int)=((a ||| b:Nat):Int):=by
 unfold bits
 show IntKind.u64.wrap ((BitVec.ofInt 64 (a:Int) ||| BitVec.ofInt 64 (b:Int)).toNat:Int)=_
 rw [BitVec.toNat_or,ofInt64 (by omega),ofInt64 (by omega)]
 have:a ||| b<18446744073709551616:=Nat.or_lt_two_pow (n:=64) ha hb
 rw [IntKind.wrap_u64]
 omega
theorem put_test {k v:Nat} (hk:k≤32) (hv:v<2^k):decide (IntKind.u64.wrap ((2:Int)^k)≤IntKind.u64.wrap (v:Int))=false∧IntKind.u64.wrap (v:Int)<IntKind.u64.wrap ((2:Int)^k)∧IntKind.u64.wrap (v:Int)=(v:Int)∧v<4294967296:=by
 have hp:2^k≤2^32:=Nat.pow_le_pow_right (by omega) hk
 have e:(2:Int)^k=((2^k:Nat):Int):=by simp
 rw [e]
 generalize 2^k=p at *
 rw [IntKind.wrap_u64,IntKind.wrap_u64]
 refine ⟨qF (by omega),by omega,by omega,by omega⟩
theorem put_acc {acc n v:Nat} (hn:n<8) (hacc:acc<2^n) (hv:v<4294967296):bits .or .u64 (acc:Int) (IntKind.u64.wrap ((v:Int)*2^n))=((acc+v*2^n:Nat):Int)∧acc+v*2^n<1099511627776:=by
 have hp:2^n≤128:=(Nat.pow_le_pow_right (by omega) (by omega):2^n≤2^7)
 have h1:v*2^n≤v*128:=Nat.mul_le_mul_left _ hp
 have e:((v:Int)*2^n)=((v*2^n:Nat):Int):=by simp
 have e2:IntKind.u64.wrap ((v*2^n:Nat):Int)=((v*2^n:Nat):Int):=by rw [IntKind.wrap_u64];omega
 rw [e,e2,u64_or_nat _ _ (by omega) (by omega),or_add hacc]
 exact ⟨rfl,by omega⟩
theorem wrPut (B g:Nat) (bs:List UInt8) (acc n:Nat) (A:OA) (c k v:Nat) (w:World) (h:IsWr w B g bs acc n A c) (hn:n<8) (hacc:acc<2^n) (hk:k≤32) (hv:v<2^k) (hlen:bs.length≤1000000000000):
 Calls Tryz.prog 111 #[.pointer (some ⟨g,0,none⟩),.int .i64 (k:Int),.int .i64 (v:Int)] w fun e w'=>e=.returned (.int .i64 0)∧Below B w w'∧Two g A w w' ∧
  ∃ A' c',IsWr w' B g (flushW 5 bs (acc+v*2^n) (n+k)).1 (flushW 5 bs (acc+v*2^n) (n+k)).2.1 (flushW 5 bs (acc+v*2^n) (n+k)).2.2 A' c'∧NewTo w A A':=by
 obtain ⟨ht1,ht2,ht3,hv32⟩:=put_test hk hv
 obtain ⟨ha1,ha2⟩:=put_acc hn hacc hv32
 have HA1:=Lh ha1
 obtain ⟨T,hT⟩:∃ T,acc+v*2^n=T:=⟨_,rfl⟩
 rw [hT] at HA1 ha2 ⊢
 obtain ⟨R,hR⟩:∃ R,flushW 5 bs T (n+k)=R:=⟨_,rfl⟩
 rw [hR]
 have HR:=Lh hR
 have c0:=h.blk.cell 0
 have c1:=h.blk.cell 1
 have c2:=h.blk.cell 2
 simp only [Zt,Zz,Zs] at c0 c1 c2
 have f1:=h.blk.frozen 1
 have HH:=Lh h
 clear h hv hacc ha1 hT hR
 go_enter Tryz.func111,Tryz.ntmps111
 go_wp2
 clear ht1 ht2
 go_region
 rw [HA1.out]
 have HW2:=Lh (HH.out.acc_ T).drew
 have HB2:=Lh (show Below B w (w.setCell ⟨g,1,none⟩ (.int .u64 (T:Int))).drew from ((Below.refl B w).setCell HH.out.base _).drew)
 have HT2:=Lh (show Two g A w (w.setCell ⟨g,1,none⟩ (.int .u64 (T:Int))).drew from ((Two.refl g A w).set_g _).trans (.of_below (Below.refl _ _).drew))
 clear c0 c1 c2 f1 ht3
 generalize (w.setCell ⟨g,1,none⟩ (.int .u64 (T:Int))).drew=w2 at *
 have c2:=HW2.out.blk.cell 2
 simp only [Zt,Zz,Zs] at c2
 have f2:=HW2.out.blk.frozen 2
 have HW3:=Lh (HW2.out.n_ (n+k))
 have HB3:=Lh (show Below B w (w2.setCell ⟨g,2,none⟩ (.int .i64 ((n+k:Nat):Int))) from HB2.out.setCell HW2.out.base _)
 have HT3:=Lh (show Two g A w (w2.setCell ⟨g,2,none⟩ (.int .i64 ((n+k:Nat):Int))) from HT2.out.set_g _)
 go_wp2
 clear c2 f2
 go_loopg [] 5 (fun gg wr=>∃ (f acc' n' c':Nat) (bs':List UInt8) (A':OA),f≤5∧f≤gg∧IsWr wr B g bs' acc' n' A' c'∧n'<8*(f+1)∧acc'<1099511627776∧bs'.length+f≤bs.length+5∧flushW f bs' acc' n'=R∧Below B w wr∧Two g A w wr∧NewTo w A A')
 case atStart=>exact ⟨5,T,n+k,c,bs,A,by omega,by omega,HW3.out,by omega,ha2,by omega,HR.out,HB3.out,HT3.out,.inl rfl⟩
 case round=>
  obtain ⟨f,acc',n',c',bs',A',hf,hgg,hwr,hn',hacc',hbl,hfl,hbel,htw,hnt⟩:=hrel
  have HTw:=Lh htw
  have HNt:=Lh hnt
  clear htw hnt
  have HW:=Lh hwr
  have HF:=Lh hfl
  have HB:=Lh hbel
  have hsz:=hwr.size
  have c0:=hwr.blk.cell 0
  have c1:=hwr.blk.cell 1
  have c2:=hwr.blk.cell 2
  simp only [Zt,Zz,Zs] at c0 c1 c2
  clear hwr hfl hbel
  by_cases h8:8≤n'
  ·obtain ⟨f',rfl⟩:∃ f',f=f'+1:=⟨f-1,by omega⟩
   have HF2:=Lh (by have h:=HF.out;rw [flushW,if_pos h8] at h;exact h:flushW f' (bs'++[UInt8.ofNat acc']) (acc'/256) (n'-8)=R)
   have f0:=HW.out.blk.frozen 0
   have HLB:=Lh (rfl:bs'.length=bs'.length)
   obtain ⟨lb,hlb⟩:∃ lb,bs'.length=lb:=⟨_,rfl⟩
   rw [hlb] at c0 hbl
   have HOw:=Lh (show Own (wr.drew.alloc (.cells #[.int .u8 ((acc':Int)%256)] 5)) B 5 A' lb c' (bs'.map u8v) from by rw [←hlb];exact Own.alloc (Own.drew HW.out.own) _)
   have hBk:=HW.out.blk.later ((Below.refl wr.heap.size wr).drew.alloc nL (.cells #[.int .u8 ((acc':Int)%256)] 5))
   have hne:=Own.ne_blk HW.out.own HW.out.blk (by decide)
   have KC:=Lh (fun w' (hg:(wr.drew.alloc (.cells #[.int .u8 ((acc':Int)%256)] 5)).grownBy w' (bk A'))=>(show w'.cell? ⟨g,0,none⟩=some (.slice A' lb c')∧w'.frozen? ⟨g,0,none⟩=false from
    ⟨by rw [(hBk.kept hg hne).cell 0,←hlb];rfl,(hBk.kept hg hne).frozen 0⟩))
   have HLbl:=Lh hlb
   have n0:=World.new_ne wr _ c0
   have n1:=World.new_ne wr _ c1
   have hglt:=HW.out.blk.lt
   have a0:(wr.alloc (.cells #[.int .u8 ((acc':Int)%256)] 5)).cell? ⟨g,0,none⟩=some (.slice A' lb c'):=(((Below.refl wr.heap.size wr).alloc nL _).cell hglt).trans c0
   have Hrd:=Lh (Rd.one wr.drew (.int .u8 ((acc':Int)%256)) 5)
   clear hlb HLB hBk hne
   go_wp2
   go_region_law (first|(refine step_append_rd rfl _ _ elemB rfl B A' lb c' (bs'.map u8v) rfl HOw.out (some ⟨wr.heap.size,0,none⟩) 1 1 [.int .u8 ((acc':Int)%256)] rfl Hrd.out rfl (fun v hv=>by simp at hv;subst hv;rfl) (by omega) (by omega) (by simp;omega) ?_;intro A6 c6 w6 hown6 hb6 hgr6 hat6;have c7:=(KC.out _ hgr6).1;have f7:=(KC.out _ hgr6).2))
   all_goals clear c7 f7 c0 c1 c2 f0 a0 n0 n1
   all_goals
    have HWa:=Lh (HW.out.later ((Below.refl wr.heap.size wr).drew.alloc nL (.cells #[.int .u8 ((acc':Int)%256)] 5)))
    have HW6:=Lh (show IsWr (w6.setCell ⟨g,0,none⟩ (.slice A6 (lb+1) c6)) B g (bs'++[UInt8.ofNat acc']) acc' n' A6 c6 from by
     have:=HWa.out.app (c':=c6) (A':=A6) (b:=UInt8.ofNat acc') ⟨hgr6.os,hgr6.tape,hgr6.output,hgr6.size,hgr6.block⟩ (by rw [HLbl.out];exact ownB_snoc hown6 (by rw [UInt8.toNat_ofNat'];omega))
     rw [HLbl.out] at this
     exact this)
    have HB6:=Lh (show Below B w (w6.setCell ⟨g,0,none⟩ (.slice A6 (lb+1) c6)) from (HB.out.trans (((Below.refl B wr).drew.alloc hsz (.cells #[.int .u8 ((acc':Int)%256)] 5)).trans ⟨hb6.os,hb6.tape,hb6.output,hb6.size,hb6.block⟩)).setCell HW.out.base _)
    have HT6:=Lh (show Two g A w (w6.setCell ⟨g,0,none⟩ (.slice A6 (lb+1) c6)) from (((HTw.out.trans (.of_below ((Below.refl wr.heap.size wr).drew.alloc nL (.cells #[.int .u8 ((acc':Int)%256)] 5)))).grown (w2:=w6) (row:=bk A') ⟨hgr6.os,hgr6.tape,hgr6.output,hgr6.size,hgr6.block⟩ (fun k hk hlt=>HNt.out.row hk hlt)).set_g _))
    have HN6:=Lh (show NewTo w A A6 from HNt.out.app (w1:=wr.drew.alloc (.cells #[.int .u8 ((acc':Int)%256)] 5)) (Nat.le_trans HB.out.size ((Below.refl wr.heap.size wr).drew.alloc nL (.cells #[.int .u8 ((acc':Int)%256)] 5)).size) hat6)
    clear hown6 hb6 hgr6 hat6
    generalize (w6.setCell ⟨g,0,none⟩ (.slice A6 (lb+1) c6))=w7 at *
    have d1:=HW6.out.blk.cell 1
    have e1:=HW6.out.blk.frozen 1
    simp only [Zt,Zz,Zs] at d1
    have HW7:=Lh (HW6.out.acc_ (acc'/256))
    have HB7:=Lh (show Below B w (w7.setCell ⟨g,1,none⟩ (.int .u64 ((acc'/256:Nat):Int))) from HB6.out.setCell HW6.out.base _)
    have d2:=HW7.out.blk.cell 2
    have e2:=HW7.out.blk.frozen 2
    simp only [Zt,Zz,Zs] at d2
    have HW8:=Lh (HW7.out.n_ (n'-8))
    have HB8:=Lh (show Below B w ((w7.setCell ⟨g,1,none⟩ (.int .u64 ((acc'/256:Nat):Int))).setCell ⟨g,2,none⟩ (.int .i64 ((n'-8:Nat):Int))) from HB7.out.setCell HW7.out.base _)
    have HT8:=Lh (show Two g A w ((w7.setCell ⟨g,1,none⟩ (.int .u64 ((acc'/256:Nat):Int))).setCell ⟨g,2,none⟩ (.int .i64 ((n'-8:Nat):Int))) from (HT6.out.set_g _).set_g _)
    have e256:((acc'/256:Nat):Int)=(acc':Int)/256:=by omega
    have e8:((n'-8:Nat):Int)=(n':Int)-8:=by omega
    rw [e256] at d2 e2
    rw [e256,e8] at HW8 HB8 HT8
    clear e256 e8 HW7 HB7
    go_wp2
    go_roundg f'
   all_goals first
    | omega
    | exact ⟨f',acc'/256,n'-8,c6,bs'++[UInt8.ofNat acc'],A6,by omega,by omega,HW8.out,by omega,by omega,by simp only [Zl,List.length_singleton];rw [HLbl.out];omega,HF2.out,HB8.out,HT8.out,HN6.out⟩
  ·have HF2:=Lh (show R=(bs',acc',n') by
    have h:=HF.out
    cases f with
    | zero=>exact h.symm
    | succ f=>rw [flushW,if_neg h8] at h;exact h.symm)
   go_wp2
   go_ret
   refine ⟨rfl,HB.out,HTw.out,A',c',?_,HNt.out⟩
   rw [HF2.out]
   exact HW.out
structure RowT (α:Type) where
 st:TypeId
 e:TypeId
 k:Nat
 bytes:Nat
 z:Value
 hu:Tryz.prog.underlying st=some (.slice e)
 hi:(Tryz.prog.info? e).map (fun i=>(i.zero,i.size,i.bytes))=some (some z,k,bytes)
 hz:z.cells.size=k
 hk:0<k
 hb:bytes≤512
 cl:α→List Value
 hl:∀ a,(cl a).length=k
 h1:∀ a,∀ v∈cl a,v.oneCell'=true
def RowT.fl {α:Type} (T:RowT α) (l:List α):List Value:=l.flatMap T.cl
theorem RowT.fl_len {α:Type} (T:RowT α):∀ l:List α,(T.fl l).length=l.length*T.k
 | []=>by simp [RowT.fl]
 | a::l=>by
   have h:=T.fl_len l
   unfold RowT.fl at *
   rw [List.flatMap_cons,Zl,h,T.hl,List.length_cons,Nat.add_mul];omega
theorem RowT.fl_app {α:Type} (T:RowT α) (l m:List α):T.fl l++T.fl m=T.fl (l++m):=by simp [RowT.fl]
theorem RowT.fl_at {α:Type} (T:RowT α):∀ (l:List α) (i:Nat) (x:α),l[i]? = some x→∀ j,j<T.k→(T.fl l)[i*T.k+j]? = (T.cl x)[j]?
 | [],i,x,h,j,hj=>by simp at h
 | a::l,0,x,h,j,hj=>by
   simp only [Zz,Option.some.injEq] at h
   subst h
   unfold RowT.fl
   rw [List.flatMap_cons,Nat.zero_mul,Nat.zero_add,List.getElem?_append_left (by rw [T.hl];exact hj)]
 | a::l,i+1,x,h,j,hj=>by
   have hh:=T.fl_at l i x (by simpa using h) j hj
   unfold RowT.fl at *
   rw [List.flatMap_cons,List.getElem?_append_right (by rw [T.hl,Nat.add_mul];omega),T.hl,show (i+1)*T.k+j-T.k=i*T.k+j by rw [Nat.add_mul];omega]
   exact hh
theorem RowT.fl_one_el {α:Type} (T:RowT α) (a:α):T.fl [a]=T.cl a:=by simp [RowT.fl]
def RowT.Own {α:Type} (T:RowT α) (w:World) (base:Nat) (A:OA) (n c:Nat) (l:List α):Prop:=w.ownsRow base T.e T.k (.slice A n c) n (T.fl l)
theorem RowT.Own.nil {α:Type} (T:RowT α) (w:World) (base:Nat):T.Own w base none 0 0 []:=World.ownsRow_nil w base _ T.k
theorem RowT.Own.length {α:Type} {T:RowT α} {w:World} {base n c:Nat} {A:OA} {l:List α} (h:T.Own w base A n c l):l.length=n:=by
 have h1:=h.1
 rw [T.fl_len] at h1
 exact Nat.eq_of_mul_eq_mul_right T.hk h1
theorem RowT.Own.lt {α:Type} {T:RowT α} {w:World} {base n c:Nat} {A:OA} {l:List α} (h:T.Own w base A n c l) {k:Nat} (hk:bk A=some k):base≤k∧k<w.heap.size:=by
 rcases h.2 with ⟨hv,-⟩|⟨g,cap,cur,hv,h1,h2,-⟩
 ·simp only [Value.slice.injEq] at hv
  rw [hv.1] at hk;cases hk
 ·simp only [Value.slice.injEq] at hv
  rw [hv.1] at hk
  cases hk
  exact ⟨h1,(Array.getElem?_eq_some_iff.1 h2).1⟩
theorem RowT.Own.kept {α:Type} {T:RowT α} {w w':World} {row:Option Nat} {base n c:Nat} {A:OA} {l:List α} (h:T.Own w base A n c l) (hg:w.grownBy w' row) (hne:bk A=none∨bk A≠row):T.Own w' base A n c l:=
 World.ownsRow.kept h hg (by rw [ownBlock_eq];exact hne)
theorem RowT.Own.later {α:Type} {T:RowT α} {w w':World} {base n c:Nat} {A:OA} {l:List α} (h:T.Own w base A n c l) (hb:Below w.heap.size w w'):T.Own w' base A n c l:=by
 refine h.kept (grown_of_below hb) ?_
 cases A<;>simp [bk]
theorem RowT.Own.same {α:Type} {T:RowT α} {w w':World} {base n c:Nat} {A:OA} {l:List α} (h:T.Own w base A n c l) (hb:∀ k,bk A=some k→w'.heap[k]? = w.heap[k]?):T.Own w' base A n c l:=by
 refine ⟨h.1,?_⟩
 rcases h.2 with h2|⟨g,cap,cur,hv,h1,hg,h3⟩
 ·exact .inl h2
 ·refine .inr ⟨g,cap,cur,hv,h1,?_,h3⟩
  simp only [Value.slice.injEq] at hv
  rw [hb g (by rw [hv.1];rfl)]
  exact hg
theorem RowT.Own.chg {α:Type} {T:RowT α} {F:Fp} {w w':World} {base n c:Nat} {A:OA} {l:List α} (h:T.Own w base A n c l) (hc:Chg F w w') (hn:∀ k,bk A=some k→¬F k):T.Own w' base A n c l:=
 h.same (fun k hk=>hc.block k (h.lt hk).2 (hn k hk))
theorem RowT.Own.mono {α:Type} {T:RowT α} {w:World} {base base' n c:Nat} {A:OA} {l:List α} (h:T.Own w base A n c l) (hb:base'≤base):T.Own w base' A n c l:=by
 refine ⟨h.1,?_⟩
 rcases h.2 with h2|⟨g,cap,cur,hv,h1,h3⟩
 ·exact .inl h2
 ·exact .inr ⟨g,cap,cur,hv,Nat.le_trans hb h1,h3⟩
theorem RowT.Own.form {α:Type} {T:RowT α} {w:World} {base n c:Nat} {A:OA} {l:List α} (h:T.Own w base A n c l):(A=none∧n=0∧c=0)∨∃ g,A=some ⟨g,0,none⟩:=by
 rcases h.2 with ⟨hv,h0⟩|⟨g,cap,cur,hv,-⟩
 ·simp only [Value.slice.injEq] at hv
  exact .inl ⟨hv.1,hv.2.1,hv.2.2⟩
 ·simp only [Value.slice.injEq] at hv
  exact .inr ⟨g,hv.1⟩
theorem RowT.Own.cap {α:Type} {T:RowT α} {w:World} {base n c:Nat} {A:OA} {l:List α} (h:T.Own w base A n c l):n≤c∧c≤9223372036854775807:=by
 rcases h.2 with ⟨hv,h0⟩|⟨g,cap,cur,hv,-,-,h1,h2,-⟩
 ·simp only [Value.slice.injEq] at hv
  omega
 ·simp only [Value.slice.injEq] at hv
  unfold maxLen at h2
  omega
theorem RowT.Own.range {α:Type} {T:RowT α} {w:World} {base n c:Nat} {A:OA} {l:List α} (h:T.Own w base A n c l) {i:Nat} {x:α} (hx:l[i]? = some x):
 ∃ g,A=some ⟨g,0,none⟩∧base≤g∧g<w.heap.size∧w.rangeAt g (i*T.k) (T.cl x)∧∀ j,w.frozen? ⟨g,j,none⟩=false:=by
 have hl:=h.length
 have hi:i<l.length:=(Ze hx).1
 have hfl:=T.fl_len l
 rcases h.form with ⟨-,h0,-⟩|⟨g,rfl⟩
 ·omega
 have hg:=h.lt (k:=g) rfl
 refine ⟨g,rfl,hg.1,hg.2,fun j v hv=>?_,fun j=>World.ownsRow.frozenAt h j⟩
 have hj:j<T.k:=by rw [←T.hl x];exact (Ze hv).1
 have hlt:i*T.k+j<(T.fl l).length:=by
  rw [hfl]
  have:=Nat.mul_le_mul_right T.k (show i+1≤l.length from hi)
  rw [Nat.add_mul] at this
  omega
 have hcell:w.cell? ⟨g,i*T.k+j,none⟩=(T.fl l)[i*T.k+j]? := World.ownsRow.cellAt h _ (by rw [←hl,←hfl];exact hlt)
 rw [hcell,T.fl_at l i x hx j hj,hv]
theorem RowT.run_append {α:Type} (T:RowT α) (w:World) (ty:TypeId) (base:Nat) (A:OA) (n c:Nat) (l:List α) (hown:T.Own w base A n c l) (hn:n≤1000000000)
 (ad:Addr) (c':Nat) (u:α) (hnews:∀ j v,(T.cl u)[j]? = some v→w.cell? (ad.add j)=some v) (hbase:base≤w.heap.size):
 ∃ A' c2 w',(Builtin.append_ #[T.st,T.st] ty #[.slice A n c,.slice (some ad) 1 c']).run Tryz.prog w=.ok (.slice A' (n+1) c2) w' ∧
   T.Own w' base A' (n+1) c2 (l++[u])∧w.grownBy w' (bk A)∧NewTo w A A':=by
 obtain ⟨i,hi,hz0,hz1,hz2⟩:=info_parts T.hi
 have hb:=T.hb
 obtain ⟨v',w',hrun,h2,h3,h4,h5⟩:=run_append_own_at (P:=Tryz.prog) w base T.st ty T.e i T.z T.k T.bytes T.hu hi hz0 hz1 hz2 T.hz T.hk (.slice A n c) n (T.fl l) hown ad 1 c' (T.cl u) (by rw [T.hl];omega) hnews
  (T.h1 u) (by unfold maxLen;omega) (Nat.le_trans (Nat.mul_le_mul_left _ hb) (by omega)) hbase
 have hform:∃ A' c',v'=.slice A' (n+1) c':=by
  rcases h2.2 with ⟨rfl,h0⟩|⟨g,cap,cur,rfl,-⟩
  ·exact ⟨none,0,by rw [h0]⟩
  ·exact ⟨_,cap,rfl⟩
 obtain ⟨A',c',rfl⟩:=hform
 rw [ownBlock_eq] at h3 h5
 rw [ownBlock_eq] at h5
 rw [←T.fl_one_el u,T.fl_app] at h2
 refine ⟨A',c',w',hrun,h2,h3,?_⟩
 rcases h5 with h5|h5
 ·exact .inl h5
 ·exact .inr ⟨_,h5,by simp⟩
theorem RowT.step_append {α:Type} (T:RowT α) {w:World} {ops:Array Oper} {o:Oper} {a:Act} {K:Act→World→Prop} {Q:Exit→Act→World→Prop} {E':Prop} (hgd:o.guard=none) (s x:Operand)
 (ho:o.op=.call { callee:=.builtin .append,args:=#[s,x],argTypes:=#[T.st,T.st] })
 (base:Nat) (A:OA) (n c:Nat) (l:List α) (u:α) (hs:a.eval s=.slice A n c) (hown:T.Own w base A n c l) (ad:Addr) (c1:Nat) (hx:a.eval x=.slice (some ad) 1 c1)
 (hnews:∀ j v,(T.cl u)[j]? = some v→w.cell? (ad.add j)=some v) (hn:n≤1000000000) (hbase:base≤w.heap.size)
 (h:∀ A' c' w',T.Own w' base A' (n+1) c' (l++[u])→w.grownBy w' (bk A)→NewTo w A A'→K (a.put o.dst (.slice A' (n+1) c')) w'):
 if Region.wanted o (yielded ops a.tmps)=true then Oper.wp Tryz.prog o a w K Q else E':=by
 have hw:Region.wanted o (yielded ops a.tmps)=true:=by simp [Region.wanted,hgd]
 rw [if_pos hw]
 obtain ⟨A',c',w',hrun,h2,h3,h4⟩:=T.run_append w o.type base A n c l hown hn ad c1 u hnews hbase
 unfold Oper.wp execOp
 simp only [ho,resolve,invoke,builtin,Sem.run_bind,Sem.run_pure,Result.andThen_ok,List.map_toArray,List.map_cons,List.map_nil,hs,hx,hrun]
 exact h A' c' w' h2 h3 h4
theorem RowT.wpList_append {α:Type} (T:RowT α) {w:World} {ops:Array Oper} {rest:List Oper} {o:Oper} {a:Act} {Q:Exit→Act→World→Prop} (hgd:o.guard=none) (s x:Operand)
 (ho:o.op=.call { callee:=.builtin .append,args:=#[s,x],argTypes:=#[T.st,T.st] })
 (base:Nat) (A:OA) (n c:Nat) (l:List α) (u:α) (hs:a.eval s=.slice A n c) (hown:T.Own w base A n c l) (ad:Addr) (c1:Nat) (hx:a.eval x=.slice (some ad) 1 c1)
 (hnews:∀ j v,(T.cl u)[j]? = some v→w.cell? (ad.add j)=some v) (hn:n≤1000000000) (hbase:base≤w.heap.size)
 (h:∀ A' c' w',T.Own w' base A' (n+1) c' (l++[u])→w.grownBy w' (bk A)→NewTo w A A'→wpList Tryz.prog ops Q rest (a.put o.dst (.slice A' (n+1) c')) w'):wpList Tryz.prog ops Q (o::rest) a w:=by
 refine wpList_plain hgd fun K hK=>?_
 obtain ⟨A',c',w',hrun,h2,h3,h4⟩:=T.run_append w o.type base A n c l hown hn ad c1 u hnews hbase
 unfold Oper.wp execOp
 simp only [ho,resolve,invoke,builtin,Sem.run_bind,Sem.run_pure,Result.andThen_ok,List.map_toArray,List.map_cons,List.map_nil,hs,hx,hrun]
 exact hK _ _ (h A' c' w' h2 h3 h4)
theorem RowT.news_one {α:Type} (T:RowT α) (w:World) (u:α) (t:TypeId):∀ j v,(T.cl u)[j]? = some v→(w.alloc (.cells (T.cl u).toArray t)).cell? ((⟨w.heap.size,0,none⟩:Addr).add j)=some v:=fun j v hv=>by
 rw [Addr.add_mid,Nat.zero_add,World.cell?_alloc_at _ _ _ _ rfl]
 simpa using hv
def setL (xs:List Value):Nat→List Value→List Value
 | _,[]=>xs
 | o,v::vs=>setL (xs.set o v) (o+1) vs
theorem setL_eq:∀ (vs xs:List Value) (o:Nat),o+vs.length≤xs.length→setL xs o vs=xs.take o++vs++xs.drop (o+vs.length)
 | [],xs,o,h=>by simp [setL]
 | v::vs,xs,o,h=>by
   rw [List.length_cons] at h
   rw [setL,setL_eq vs (xs.set o v) (o+1) (by rw [List.length_set];omega)]
   have hlt:o<xs.length:=by omega
   rw [List.set_eq_take_append_cons_drop,if_pos hlt]
   have e1:(xs.take o++v::xs.drop (o+1)).take (o+1)=xs.take o++[v]:=by
    rw [List.take_append,List.take_of_length_le (by rw [List.length_take];omega),List.length_take,show o+1-min o xs.length=1 by omega];rfl
   have e2:(xs.take o++v::xs.drop (o+1)).drop (o+1+vs.length)=xs.drop (o+(v::vs).length):=by
    rw [List.drop_append,List.drop_of_length_le (by rw [List.length_take];omega),List.nil_append,List.length_take,show o+1+vs.length-min o xs.length=vs.length+1 by omega,List.drop_succ_cons,List.drop_drop,List.length_cons]
    congr 1;omega
   rw [e1,e2]
   simp
theorem setL_out:∀ (vs xs:List Value) (o:Nat),xs.length≤o→setL xs o vs=xs
 | [],_,_,_=>rfl
 | v::vs,xs,o,h=>by
   rw [setL,List.set_eq_of_length_le h,setL_out vs xs (o+1) (by omega)]
theorem raw_setCells {base g e k n c:Nat}:∀ (vs:List Value) (o:Nat) (w:World) (xs:List Value),w.ownsRow base e k (.slice (some ⟨g,0,none⟩) n c) n xs →
 (w.setCells g o vs).ownsRow base e k (.slice (some ⟨g,0,none⟩) n c) n (setL xs o vs)∧w.grownBy (w.setCells g o vs) (some g)
 | [],_,w,xs,h=>⟨h,grown_refl w _⟩
 | v::vs,o,w,xs,h=>by
   obtain ⟨h1,h2⟩:=World.ownsRow.stored h o v
   obtain ⟨h3,h4⟩:=raw_setCells vs (o+1) _ _ h1
   exact ⟨h3,grown_trans h2 h4⟩
theorem RowT.fl_split {α:Type} (T:RowT α) (l:List α) (i:Nat):T.fl l=T.fl (l.take i)++T.fl (l.drop i):=by rw [T.fl_app,List.take_append_drop]
theorem RowT.fl_set {α:Type} (T:RowT α) (l:List α) (i:Nat) (u:α) (h:i<l.length):setL (T.fl l) (i*T.k) (T.cl u)=T.fl (l.set i u):=by
 have hlen:=T.fl_len l
 have hmul:(i+1)*T.k≤l.length*T.k:=Nat.mul_le_mul_right _ h
 rw [Nat.add_mul,Nat.one_mul] at hmul
 rw [setL_eq _ _ _ (by rw [T.hl,hlen];exact hmul),T.hl]
 have e1:(T.fl l).take (i*T.k)=T.fl (l.take i):=by
  rw [T.fl_split l i,List.take_append_of_le_length (by rw [T.fl_len,List.length_take,Nat.min_eq_left (by omega)];exact Nat.le_refl _),List.take_of_length_le (by rw [T.fl_len,List.length_take,Nat.min_eq_left (by omega)];exact Nat.le_refl _)]
 have e2:(T.fl l).drop (i*T.k+T.k)=T.fl (l.drop (i+1)):=by
  have hl1:(T.fl (l.take (i+1))).length=i*T.k+T.k:=by rw [T.fl_len,List.length_take,Nat.min_eq_left (by omega),Nat.add_mul,Nat.one_mul]
  rw [T.fl_split l (i+1),List.drop_append_of_le_length (by omega),List.drop_of_length_le (by omega),List.nil_append]
 rw [e1,e2,List.set_eq_take_append_cons_drop,if_pos h,←T.fl_one_el u,T.fl_app,T.fl_app]
 simp
theorem RowT.fl_take {α:Type} (T:RowT α) (l:List α) (i:Nat) (h:i≤l.length):(T.fl l).take (i*T.k)=T.fl (l.take i):=by
 rw [T.fl_split l i,List.take_append_of_le_length (by rw [T.fl_len,List.length_take,Nat.min_eq_left h];exact Nat.le_refl _),List.take_of_length_le (by rw [T.fl_len,List.length_take,Nat.min_eq_left h];exact Nat.le_refl _)]
theorem RowT.Own.put {α:Type} {T:RowT α} {w:World} {base n c g:Nat} {l:List α} (h:T.Own w base (some ⟨g,0,none⟩) n c l) {i:Nat} (hi:i<n) (u:α):
 T.Own (w.setCells g (i*T.k) (T.cl u)) base (some ⟨g,0,none⟩) n c (l.set i u)∧w.grownBy (w.setCells g (i*T.k) (T.cl u)) (some g):=by
 have hl:=h.length
 obtain ⟨h1,h2⟩:=raw_setCells (T.cl u) (i*T.k) w (T.fl l) h
 rw [T.fl_set l i u (by omega)] at h1
 exact ⟨h1,h2⟩
theorem RowT.Own.take {α:Type} {T:RowT α} {w:World} {base n c g:Nat} {l:List α} (h:T.Own w base (some ⟨g,0,none⟩) n c l) {i:Nat} (hi:i≤n):T.Own w base (some ⟨g,0,none⟩) i c (l.take i):=by
 have hl:=h.length
 have hle:i*T.k≤n*T.k:=Nat.mul_le_mul_right _ hi
 rcases h.2 with ⟨hv,-⟩|⟨g',cap,cur,hv,h1,h2,h3,h4,h5,h6⟩
 ·simp only [Value.slice.injEq] at hv;exact absurd hv.1 (by simp)
 ·simp only [Value.slice.injEq] at hv
  refine ⟨by rw [T.fl_len,List.length_take,Nat.min_eq_left (by omega)],.inr ⟨g',cap,cur,by rw [hv.1,hv.2.2],h1,h2,by omega,h4,h5,?_⟩⟩
  rw [←T.fl_take l i (by omega),←h6,List.take_take,Nat.min_eq_left hle]
theorem RowT.Own.out {α:Type} {T:RowT α} {w:World} {base n c g:Nat} {l:List α} (h:T.Own w base (some ⟨g,0,none⟩) n c l) (vs:List Value) (o:Nat) (ho:n*T.k≤o):
 T.Own (w.setCells g o vs) base (some ⟨g,0,none⟩) n c l∧w.grownBy (w.setCells g o vs) (some g):=by
 obtain ⟨h1,h2⟩:=raw_setCells vs o w (T.fl l) h
 rw [setL_out _ _ _ (by rw [T.fl_len,h.length];exact ho)] at h1
 exact ⟨h1,h2⟩
theorem RowT.Own.clear {α:Type} {T:RowT α} {w:World} {base n c g:Nat} {l:List α} (h:T.Own w base (some ⟨g,0,none⟩) n c l) {i:Nat} (hi:i<n) (hz:∀ w,(zeroValue T.e).run Tryz.prog w=.ok T.z w) (hz1:∀ v∈T.z.cells,v.oneCell'=true) (ty:TypeId) (c':Nat):
 ∃ w',(Builtin.clear_ #[T.st] ty #[.slice (some ⟨g,i*T.k,none⟩) (n-i) c']).run Tryz.prog w=.ok (.tuple #[]) w'∧T.Own w' base (some ⟨g,0,none⟩) i c (l.take i)∧w.grownBy w' (some g):=by
 have hl:=h.length
 obtain ⟨m,hm⟩:∃ m,n-i=m+1:=⟨n-i-1,by omega⟩
 have hsz:(Builtin.zeroCells T.z.cells (n-i)).toList.length=(n-i)*T.k:=by
  simp [Builtin.zeroCells,T.hz]
 have hmul:n*T.k=i*T.k+(n-i)*T.k:=by rw [←Nat.add_mul];congr 1;omega
 have hone:∀ v∈(Builtin.zeroCells T.z.cells (n-i)).toList,v.oneCell'=true:=fun v hv=>by
  simp only [Builtin.zeroCells,Array.toList_map,List.mem_map,Array.toList_range,List.mem_range] at hv
  obtain ⟨j,hj,rfl⟩:=hv
  have hlt:j%T.z.cells.size<T.z.cells.size:=Nat.mod_lt _ (by rw [T.hz];exact T.hk)
  rw [getElem!_pos T.z.cells (j%T.z.cells.size) hlt]
  exact hz1 _ (Array.getElem_mem _)
 have hcell:∀ j,j<n*T.k→(w.cell? ⟨g,j,none⟩).isSome=true:=fun j hj=>by
  have h2:w.cell? ⟨g,j,none⟩=(T.fl l)[j]? := World.ownsRow.cellAt h j hj
  rw [h2,Zg (by rw [T.fl_len,hl];exact hj)];rfl
 have hst:=run_storeCells_cells (P:=Tryz.prog) g (i*T.k) (Builtin.zeroCells T.z.cells (n-i)).toList 0 w (fun j hj=>by
  rw [hsz] at hj
  exact hcell _ (by omega)) (fun j hj=>World.ownsRow.frozenAt h _) hone
 simp only [Nat.add_zero] at hst
 obtain ⟨h3,h4⟩:=RowT.Own.out (h.take (i:=i) (by omega)) (Builtin.zeroCells T.z.cells (n-i)).toList (i*T.k) nL
 refine ⟨_,?_,h3,h4⟩
 rw [hm] at hst ⊢
 simp [Builtin.clear_,run_underlying T.hu,hz,hst]
theorem RowT.wpList_clear {α:Type} (T:RowT α) {w:World} {ops:Array Oper} {rest:List Oper} {o:Oper} {a:Act} {Q:Exit→Act→World→Prop} (hgd:o.guard=none) (s:Operand)
 (ho:o.op=.call { callee:=.builtin .clear,args:=#[s],argTypes:=#[T.st] }) (base g n c i c':Nat) (l:List α) (hown:T.Own w base (some ⟨g,0,none⟩) n c l) (hi:i<n)
 (hz:∀ w,(zeroValue T.e).run Tryz.prog w=.ok T.z w) (hz1:∀ v∈T.z.cells,v.oneCell'=true) (hs:a.eval s=.slice (some ⟨g,i*T.k,none⟩) (n-i) c')
 (h:∀ w',T.Own w' base (some ⟨g,0,none⟩) i c (l.take i)→w.grownBy w' (some g)→wpList Tryz.prog ops Q rest (a.put o.dst (.tuple #[])) w'):wpList Tryz.prog ops Q (o::rest) a w:=by
 refine wpList_plain hgd fun K hK=>?_
 obtain ⟨w',hrun,h2,h3⟩:=RowT.Own.clear hown hi hz hz1 o.type c'
 unfold Oper.wp execOp
 simp only [ho,resolve,invoke,builtin,Sem.run_bind,Sem.run_pure,Result.andThen_ok,List.map_toArray,List.map_cons,List.map_nil,hs,hrun]
 exact hK _ _ (h w' h2 h3)
def NatR:RowT Nat:={
 st:=43
 e:=3
 k:=1
 bytes:=8
 z:=.int .i64 0
 hu:=Tryz.underlying43
 hi:=by kernel_rfl
 hz:=rfl
 hk:=by decide
 hb:=by decide
 cl x:=[natv x]
 hl _:=rfl
 h1 _ v hv:=by rw [List.mem_singleton] at hv;subst hv;rfl }
theorem NatR.fl (l:List Nat):NatR.fl l=l.map natv:=by
 induction l with
 | nil=>rfl
 | cons a l ih=>
   rw [List.map_cons,←ih];rfl
theorem NatR.own {w:World} {base n c:Nat} {A:OA} {l:List Nat}:NatR.Own w base A n c l↔OwnN w base A n c l:=by
 unfold RowT.Own OwnN Go.Proofs.YtiihiocgbfafaaaGreat.Own
 rw [NatR.fl]
 exact Iff.rfl
theorem RowT.Own.extend {α:Type} {T:RowT α} {w:World} {base n c g:Nat} {l:List α} (h:T.Own w base (some ⟨g,0,none⟩) n c l) (hn:n<c) (x:α):
 T.Own (w.setCells g (n*T.k) (T.cl x)) base (some ⟨g,0,none⟩) (n+1) c (l++[x])∧w.grownBy (w.setCells g (n*T.k) (T.cl x)) (some g) ∧
  (∀ j,j<T.k→(w.cell? ⟨g,n*T.k+j,none⟩).isSome=true)∧∀ j,w.frozen? ⟨g,j,none⟩=false:=by
 have hl:=h.length
 rcases h.2 with ⟨hv,-⟩|⟨g',cap,cur,hv,h1,h2,h3,h4,h5,h6⟩
 ·simp only [Value.slice.injEq] at hv;exact absurd hv.1 (by simp)
 simp only [Value.slice.injEq,Option.some.injEq,Addr.mk.injEq,and_true,true_and] at hv
 obtain ⟨rfl,rfl⟩:=hv
 have hk:(n+1)*T.k≤c*T.k:=Nat.mul_le_mul_right _ hn
 have hk2:(n+1)*T.k=n*T.k+T.k:=by rw [Nat.add_mul,Nat.one_mul]
 have raw:w.ownsRow base T.e T.k (.slice (some ⟨g,0,none⟩) (n+1) c) (n+1) (cur.toList.take ((n+1)*T.k)):=
  ⟨by rw [List.length_take,Array.length_toList,h5];omega,.inr ⟨g,c,cur,rfl,h1,h2,hn,h4,h5,rfl⟩⟩
 obtain ⟨r1,r2⟩:=raw_setCells (T.cl x) (n*T.k) w _ raw
 rw [setL_eq _ _ _ (by rw [T.hl,List.length_take,Array.length_toList,h5];omega),T.hl,List.take_take,Nat.min_eq_left (by omega),h6,List.drop_of_length_le (by rw [List.length_take];omega),List.append_nil,←T.fl_one_el x,T.fl_app] at r1
 rw [←T.fl_one_el x] at r2 ⊢
 refine ⟨r1,r2,fun j hj=>?_,fun j=>World.ownsRow.frozenAt h j⟩
 rw [cell_of_row w g _ cur T.e (0,0) h2,Array.getElem?_eq_getElem (by rw [h5];omega)];rfl
def OwnO (w:World) (A:OA) (n c:Nat) (l:List Nat):Prop:=
 (A=none∧n=0∧c=0∧l=[])∨∃ (g C:Nat) (pre:List Nat),A=some ⟨g,pre.length,none⟩∧NatR.Own w 0 (some ⟨g,0,none⟩) (pre.length+n) C (pre++l)∧pre.length+c≤C∧n≤c
theorem OwnO.nil (w:World):OwnO w none 0 0 []:=.inl ⟨rfl,rfl,rfl,rfl⟩
theorem OwnO.of {w:World} {base n c:Nat} {A:OA} {l:List Nat} (h:NatR.Own w base A n c l):OwnO w A n c l:=by
 have hl:=h.length
 have hc:=h.cap
 rcases h.form with ⟨rfl,h0,h1⟩|⟨g,rfl⟩
 ·exact .inl ⟨rfl,h0,h1,List.eq_nil_of_length_eq_zero (by omega)⟩
 ·exact .inr ⟨g,c,[],rfl,by simpa using h.mono (Nat.zero_le _),by simp,hc.1⟩
theorem OwnO.length {w:World} {n c:Nat} {A:OA} {l:List Nat} (h:OwnO w A n c l):l.length=n:=by
 rcases h with ⟨-,rfl,-,rfl⟩|⟨g,C,pre,rfl,h,-,-⟩
 ·rfl
 ·have:=h.length;rw [Zl] at this;omega
theorem OwnO.cap {w:World} {n c:Nat} {A:OA} {l:List Nat} (h:OwnO w A n c l):n≤c∧c≤9223372036854775807:=by
 rcases h with ⟨-,rfl,rfl,rfl⟩|⟨g,C,pre,rfl,h,h2,h3⟩
 ·exact ⟨Nat.le_refl _,by omega⟩
 ·have:=h.cap;omega
theorem OwnO.lt {w:World} {n c:Nat} {A:OA} {l:List Nat} (h:OwnO w A n c l) {k:Nat} (hk:bk A=some k):k<w.heap.size:=by
 rcases h with ⟨rfl,-⟩|⟨g,C,pre,rfl,h,-,-⟩
 ·cases hk
 ·cases hk;exact (h.lt (k:=g) rfl).2
theorem OwnO.same {w w':World} {n c:Nat} {A:OA} {l:List Nat} (h:OwnO w A n c l) (hb:∀ k,bk A=some k→w'.heap[k]? = w.heap[k]?):OwnO w' A n c l:=by
 rcases h with h|⟨g,C,pre,rfl,h,h2⟩
 ·exact .inl h
 ·exact .inr ⟨g,C,pre,rfl,h.same (fun k hk=>hb k (by cases hk;rfl)),h2⟩
theorem OwnO.chg {F:Fp} {w w':World} {n c:Nat} {A:OA} {l:List Nat} (h:OwnO w A n c l) (hc:Chg F w w') (hn:∀ k,bk A=some k→¬F k):OwnO w' A n c l:=
 h.same (fun k hk=>hc.block k (h.lt hk) (hn k hk))
theorem OwnO.below {w w':World} {n c:Nat} {A:OA} {l:List Nat} (h:OwnO w A n c l) (hb:Below w.heap.size w w'):OwnO w' A n c l:=h.same (fun k hk=>hb.block k (h.lt hk))
theorem OwnO.ns {w:World} {n c:Nat} {A:OA} {l:List Nat} (h:OwnO w A n c l):Ns w A l:=by
 rcases h with ⟨-,-,-,rfl⟩|⟨g,C,pre,rfl,h,-,-⟩
 ·exact fun h0=>by simp at h0
 ·have h1:Rd w (some ⟨g,0,none⟩) ((pre++l).map natv):=Own.rd (NatR.own.1 h)
  intro h0
  rw [List.length_map] at h0
  obtain ⟨b,o,e,hc⟩:=h1 (by rw [List.length_map,Zl];omega)
  cases e
  refine ⟨g,pre.length,rfl,fun j hj=>?_⟩
  rw [List.length_map] at hj
  have:=hc (pre.length+j) (by rw [List.length_map,Zl];omega)
  rw [Nat.zero_add] at this
  rw [this,List.map_append,List.getElem?_append_right (by rw [List.length_map];omega),List.length_map,Nat.add_sub_cancel_left]
theorem OwnO.tail {w:World} {n c:Nat} {A:OA} {x:Nat} {l:List Nat} (h:OwnO w A (n+1) c (x::l)):OwnO w (cutA A c 1) n (c-1) l:=by
 rcases h with ⟨-,h0,-⟩|⟨g,C,pre,rfl,h,h2,h3⟩
 ·omega
 by_cases hc:c=1
 ·obtain rfl:n=0:=by omega
  have hll:=h.length
  rw [Zl,List.length_cons] at hll
  obtain rfl:l=[]:=List.eq_nil_of_length_eq_zero (by omega)
  have e:cutA (some ⟨g,pre.length,none⟩) c 1=some ⟨g,pre.length,none⟩:=by unfold cutA;rw [if_pos hc]
  rw [e]
  refine .inr ⟨g,C,pre,rfl,?_,by omega,by omega⟩
  have:=h.take (i:=pre.length) (by omega)
  simpa using this
 ·have e:cutA (some ⟨g,pre.length,none⟩) c 1=some ⟨g,(pre++[x]).length,none⟩:=by
   unfold cutA
   rw [if_neg hc]
   simp [add_none]
  rw [e]
  refine .inr ⟨g,C,pre++[x],rfl,?_,by rw [Zl,List.length_singleton];omega,by omega⟩
  have h':=h
  rw [show pre++x::l=(pre++[x])++l by simp,show pre.length+(n+1)=(pre++[x]).length+n by rw [Zl,List.length_singleton];omega] at h'
  exact h'
theorem OwnO.run_append {w:World} {n c:Nat} {A:OA} {l:List Nat} (h:OwnO w A n c l) (hn:n≤1000000000) (ty:TypeId) (gb ob c1 u:Nat) (hnews:w.cell? ⟨gb,ob,none⟩=some (natv u)):
 ∃ A' c' w',(Builtin.append_ #[43,43] ty #[.slice A n c,.slice (some ⟨gb,ob,none⟩) 1 c1]).run Tryz.prog w=.ok (.slice A' (n+1) c') w'∧OwnO w' A' (n+1) c' (l++[u])∧w.grownBy w' (bk A)∧NewTo w A A':=by
 obtain ⟨ad,had⟩:∃ ad:Addr,ad=⟨gb,ob,none⟩:=⟨_,rfl⟩
 rw [←had] at hnews ⊢
 have hnews':∀ j v,(NatR.cl u)[j]? = some v→w.cell? (ad.add j)=some v:=fun j v hv=>by
  have hj:j<1:=(Ze hv).1
  obtain rfl:j=0:=by omega
  cases hv
  rw [had,Addr.add_mid,Nat.add_zero,←had];exact hnews
 have hl:=h.length
 rcases h with ⟨rfl,rfl,rfl,rfl⟩|⟨g,C,pre,rfl,h,h2,h3⟩
 ·obtain ⟨A',c',w',hrun,ho,hg,hnt⟩:=NatR.run_append w ty 0 none 0 0 [] (RowT.Own.nil _ _ _) (by omega) ad c1 u hnews' (Nat.zero_le _)
  exact ⟨A',c',w',hrun,OwnO.of ho,hg,hnt⟩
 ·obtain ⟨i,hi,hz0,hz1,hz2⟩:=info_parts NatR.hi
  by_cases hroom:n+1≤c
  ·obtain ⟨e1,e2,e3,e4⟩:=h.extend (by omega) u
   have hk1:NatR.k=1:=rfl
   have hi1:i.size=1:=hz1
   have hoff:pre.length+n*i.size=(pre.length+n)*NatR.k:=by rw [hi1,hk1];omega
   have hr:=run_append_room_cells (P:=Tryz.prog) w 43 ty 3 i Tryz.underlying43 hi g pre.length n c ad 1 c1 (NatR.cl u) (by rw [hi1];rfl) hnews' (NatR.h1 u) hroom
    (fun j hj=>by rw [hoff];exact e3 j hj) (fun j hj=>e4 _)
   rw [hoff] at hr
   refine ⟨_,c,_,hr,.inr ⟨g,C,pre,rfl,?_,h2,hroom⟩,e2,.inl rfl⟩
   rw [Za] at e1
   exact e1
  ·have holds:∀ j v,(RowT.fl NatR l)[j]? = some v→w.cell? ((⟨g,pre.length,none⟩:Addr).add j)=some v:=fun j v hv=>by
    have hr:Rd w (some ⟨g,0,none⟩) ((pre++l).map natv):=Own.rd (NatR.own.1 h)
    rw [NatR.fl] at hv
    have hj:j<l.length:=by simpa using (Ze hv).1
    obtain ⟨b,o,e,hc⟩:=hr (by rw [List.length_map,Zl];omega)
    cases e
    rw [Addr.add_mid]
    have:=hc (pre.length+j) (by rw [List.length_map,Zl];omega)
    rw [Nat.zero_add] at this
    rw [this,List.map_append,List.getElem?_append_right (by rw [List.length_map];omega),List.length_map,Nat.add_sub_cancel_left,hv]
   obtain ⟨v',w',hrun,hown,hgr⟩:=run_append_arg_grows (P:=Tryz.prog) w 43 ty 3 i NatR.z NatR.k NatR.bytes Tryz.underlying43 hi hz0 hz1 hz2 NatR.hz NatR.hk ⟨g,pre.length,none⟩ n c (RowT.fl NatR l) (by rw [RowT.fl_len,hl]) holds ad 1 c1 (NatR.cl u) rfl hnews' (by omega) (by unfold maxLen;omega) (Nat.le_trans (Nat.mul_le_mul_left _ NatR.hb) (by omega))
   have hform:∃ A' c',v'=.slice A' (n+1) c':=by
    rcases hown.2 with ⟨rfl,h0⟩|⟨g,cap,cur,rfl,-⟩
    ·exact ⟨none,0,by rw [h0]⟩
    ·exact ⟨_,cap,rfl⟩
   obtain ⟨A',c',rfl⟩:=hform
   rw [←RowT.fl_one_el NatR u,RowT.fl_app] at hown
   have hO:NatR.Own w' w.heap.size A' (n+1) c' (l++[u]):=hown
   refine ⟨A',c',w',hrun,OwnO.of hO,⟨hgr.os,hgr.tape,hgr.output,hgr.size,fun k hk _=>hgr.block k hk (by simp)⟩,?_⟩
   rcases hO.form with ⟨-,h0,-⟩|⟨gn,hgn⟩
   ·omega
   ·exact .inr ⟨gn,by rw [hgn];rfl,(hO.lt (k:=gn) (by rw [hgn];rfl)).1⟩
theorem OwnO.step_append {w:World} {ops:Array Oper} {o:Oper} {a:Act} {K:Act→World→Prop} {Q:Exit→Act→World→Prop} {E':Prop} (hgd:o.guard=none) (s x:Operand)
 (ho:o.op=.call { callee:=.builtin .append,args:=#[s,x],argTypes:=#[43,43] })
 (A:OA) (n c:Nat) (l:List Nat) (u:Nat) (hs:a.eval s=.slice A n c) (hown:OwnO w A n c l) (gb ob c1:Nat) (hx:a.eval x=.slice (some ⟨gb,ob,none⟩) 1 c1)
 (hnews:w.cell? ⟨gb,ob,none⟩=some (natv u)) (hn:n≤1000000000)
 (h:∀ A' c' w',OwnO w' A' (n+1) c' (l++[u])→w.grownBy w' (bk A)→NewTo w A A'→K (a.put o.dst (.slice A' (n+1) c')) w'):
 if Region.wanted o (yielded ops a.tmps)=true then Oper.wp Tryz.prog o a w K Q else E':=by
 have hw:Region.wanted o (yielded ops a.tmps)=true:=by simp [Region.wanted,hgd]
 rw [if_pos hw]
 obtain ⟨A',c',w',hrun,h2,h3,h4⟩:=hown.run_append hn o.type gb ob c1 u hnews
 unfold Oper.wp execOp
 simp only [ho,resolve,invoke,builtin,Sem.run_bind,Sem.run_pure,Result.andThen_ok,List.map_toArray,List.map_cons,List.map_nil,hs,hx,hrun]
 exact h A' c' w' h2 h3 h4
theorem blockSum (A:OA) (n c:Nat) (l:List UInt8) (w:World) (hl:l.length=n) (hr:Bs w A l) (hn:n≤1000000000000):
 Calls Tryz.prog 55 #[.slice A n c] w fun e w'=>∃ A' c',e=.returned (.slice A' 4 c')∧OwnB w' w.heap.size A' 4 c' (sumOf l)∧Below w.heap.size w w':=by
 have HC:=Lh (sumsCrc A n c l w hl hr hn)
 have hlt:=Pl.crcL_lt l
 generalize hx:Pl.crcL l=x at *
 have HX:=Lh hx
 clear hl hr hx
 go_enter Tryz.func55,Tryz.ntmps55
 go_wp2_with fail
 refine HC.out.mono ?_
 rintro e w1 ⟨rfl,rfl⟩
 go_wp2
 go_ret
 refine ⟨_,4,rfl,?_,(Below.refl _ _).alloc nL _⟩
 have e:(sumOf l).map u8v=[Value.int .u8 ((x:Int)%256),.int .u8 ((x:Int)/256%256),.int .u8 ((x:Int)/65536%256),.int .u8 ((x:Int)/16777216)]:=by
  unfold sumOf
  rw [HX.out]
  simp only [List.map_cons,List.map_nil,u8v,UInt8.toNat_ofNat']
  simp only [List.cons.injEq,Value.int.injEq,true_and,and_true]
  refine ⟨by omega,by omega,by omega,by omega⟩
 unfold OwnB
 rw [e]
 exact Own.fresh w1 5 _ 4 rfl
structure Bk where
 kind:Nat
 body:List UInt8
deriving DecidableEq
def Bk.ok (b:Bk):Prop:=1≤b.kind∧b.kind≤4∧b.body.length≤240
def headL (n:Nat) (b:Bk):List UInt8:=[UInt8.ofNat b.kind,UInt8.ofNat b.body.length,UInt8.ofNat n,UInt8.ofNat (n/256)]
def sectP (n:Nat) (b:Bk):List UInt8:=headL n b++List.replicate 4 0++b.body++List.replicate (244-b.body.length) 0
def sectL (n:Nat) (b:Bk):List UInt8:=sectP n b++sumOf (sectP n b)
theorem sectP_len {n:Nat} {b:Bk} (h:b.ok):(sectP n b).length=252:=by
 have:=h.2.2
 simp [sectP,headL];omega
theorem sumOf_len (l:List UInt8):(sumOf l).length=4:=rfl
theorem sectL_len {n:Nat} {b:Bk} (h:b.ok):(sectL n b).length=256:=by rw [sectL,Zl,sectP_len h,sumOf_len]
theorem splice_map {α β:Type} (f:α→β) (L:List α) (o:Nat) (cs:List α):splice (L.map f) o (cs.map f)=(splice L o cs).map f:=by
 simp [splice]
theorem splice_mid {α:Type} (a m c x:List α) (h:m.length=x.length):splice (a++m++c) a.length x=a++x++c:=by
 unfold splice
 rw [Za,List.take_left,List.drop_append,List.drop_of_length_le (by simp),List.nil_append,Nat.add_sub_cancel_left,List.drop_append,List.drop_of_length_le (by omega),h,Nat.sub_self]
 simp
theorem splice_at {α:Type} {L a m c x:List α} {o:Nat} (hL:L=a++m++c) (ho:o=a.length) (h:m.length=x.length):splice L o x=a++x++c:=by
 subst hL;subst ho;exact splice_mid a m c x h
theorem splice_head {h:List UInt8} (hl:h.length=4):splice (List.replicate 256 0) 0 h=h++List.replicate 4 0++List.replicate 248 0:=by
 rw [splice_at (o:=0) (a:=[]) (m:=List.replicate 4 0) (c:=List.replicate 252 0) (by rw [List.nil_append,List.replicate_append_replicate]) rfl (by simp [hl]),List.nil_append,Za]
 congr 1
theorem splice_body {h b:List UInt8} (hl:h.length=4) (hb:b.length≤240):splice (h++List.replicate 4 (0:UInt8)++List.replicate 248 0) 8 b=h++List.replicate 4 0++b++List.replicate (244-b.length) 0++List.replicate 4 0:=by
 rw [splice_at (a:=h++List.replicate 4 0) (m:=List.replicate b.length 0) (c:=List.replicate (248-b.length) 0) _ (by simp [hl]) (by simp)]
 ·rw [Za (h++_++b),List.replicate_append_replicate]
  congr 2;omega
 ·rw [Za (h++_),List.replicate_append_replicate]
  congr 2;omega
theorem splice_tail {p s:List UInt8} (hp:p.length=252) (hs:s.length=4):splice (p++List.replicate 4 (0:UInt8)) 252 s=p++s:=by
 rw [splice_at (a:=p) (m:=List.replicate 4 0) (c:=[]) (by simp) hp.symm (by simp [hs]),List.append_nil]
theorem Rd.src {w:World} {A:OA} {xs:List Value} (h:Rd w A xs):0<xs.length→∃ ad,A=some ad∧∀ j v,xs[j]? = some v→w.cell? (ad.add j)=some v:=fun h0=>by
 obtain ⟨b,o,rfl,hc⟩:=h h0
 refine ⟨_,rfl,fun j v hv=>?_⟩
 rw [Addr.add_mid,hc j (Ze hv).1,hv]
theorem blockPut_bad (n:Nat) (k:Int) (A:OA) (m c:Nat) (w:World) (hn:n≤65535) (hb:k<1∨4<k∨240<m):
 Calls Tryz.prog 31 #[.int .i64 (n:Int),.agg #[.int .i64 k,.slice A m c]] w fun e w'=>e=.returned (.tuple #[.slice none 0 0,.int .i64 1])∧Below w.heap.size w w':=by
 have i1:¬(n:Int)<0:=by omega
 have i2:¬(65535:Int)<n:=by omega
 have HB0:=Lh ((Below.refl w.heap.size w).alloc nL (.cells #[.int .i64 k,.slice A m c] 39))
 by_cases h1:k<1
 ·clear hb
  go_enter Tryz.func31,Tryz.ntmps31
  go_wp2
  go_ret2
  exact ⟨rfl,HB0.out⟩
 ·by_cases h2:4<k
  ·clear hb
   go_enter Tryz.func31,Tryz.ntmps31
   go_wp2
   go_ret2
   exact ⟨rfl,HB0.out⟩
  ·have h3:(240:Int)<m:=by omega
   clear hb
   go_enter Tryz.func31,Tryz.ntmps31
   go_wp2
   go_ret2
   exact ⟨rfl,HB0.out⟩
theorem blockPut (n:Nat) (b:Bk) (A:OA) (m c:Nat) (w:World) (hn:n≤65535) (hb:b.ok) (hl:b.body.length=m) (hr:Bs w A b.body):
 Calls Tryz.prog 31 #[.int .i64 (n:Int),.agg #[.int .i64 (b.kind:Int),.slice A m c]] w fun e w'=>∃ g,e=.returned (.tuple #[.slice (some ⟨g,0,none⟩) 256 256,.int .i64 0])∧w.heap.size≤g∧g<w'.heap.size∧Bs w' (some ⟨g,0,none⟩) (sectL n b)∧Below w.heap.size w w':=by
 obtain ⟨k,body⟩:=b
 obtain ⟨hk1,hk2,hm⟩:=hb
 simp only at hk1 hk2 hm hl hr
 rw [hl] at hm
 have i1:¬(n:Int)<0:=by omega
 have i2:¬(65535:Int)<n:=by omega
 have i3:¬(k:Int)<1:=by omega
 have i4:¬(4:Int)<k:=by omega
 have i5:¬(240:Int)<m:=by omega
 have HR:=Lh hr
 have HL:=Lh hl
 clear hr hl
 have HP0:=Lh (Blk.new w 39 #[.int .i64 (k:Int),.slice A m c])
 have HB0:=Lh ((Below.refl w.heap.size w).alloc nL (.cells #[.int .i64 (k:Int),.slice A m c] 39))
 go_enter Tryz.func31,Tryz.ntmps31
 go_wp2_with fail
 have hzc:Tryz.zeroCells128=((List.replicate 256 0).map u8v).toArray:=by kernel_rfl
 obtain ⟨wA,hwA⟩:∃ x,w.alloc (.cells #[.int .i64 (k:Int),.slice A m c] 39)=x:=⟨_,rfl⟩
 rw [hwA] at HP0 HB0 ⊢
 have hsA:w.heap.size<wA.heap.size:=Blk.lt HP0.out
 obtain ⟨wB,hwB⟩:∃ x,wA.alloc (.cells Tryz.zeroCells128 128)=x:=⟨_,rfl⟩
 rw [hwB]
 have HZB:=Lh (by rw [←hwB,hzc];exact Blk.new wA 128 _:Blk wB wA.heap.size 128 ((List.replicate 256 0).map u8v).toArray)
 have HBB:=Lh (by rw [←hwB];exact HB0.out.alloc HB0.out.size _:Below w.heap.size w wB)
 have HPB:=Lh (by rw [←hwB];exact HP0.out.later ((Below.refl _ _).alloc nL _):Blk wB w.heap.size 39 #[.int .i64 (k:Int),.slice A m c])
 have HRB:=Lh (HR.out.later HBB.out)
 have hsB:wA.heap.size<wB.heap.size:=Blk.lt HZB.out
 have hg6:wA.heap.size=w.heap.size+1:=by rw [←hwA];simp
 rw [hg6] at HZB hsA hsB
 generalize w.heap.size+1=g6 at *
 clear hwB hwA HP0 HB0 hzc
 have c0:=HPB.out.cell 0
 have c1:=HPB.out.cell 1
 simp only [Zt,Zz,Zs] at c0 c1
 obtain ⟨Z0,hZ0⟩:∃ Z,(List.replicate 256 (0:UInt8)).map u8v=Z:=⟨_,rfl⟩
 rw [hZ0] at HZB
 have HZ0:=Lh hZ0
 clear hZ0
 have HD:=Lh (show ∃ H,H=(headL n ⟨k,body⟩).map u8v∧H=[.int .u8 (IntKind.u8.wrap (k:Int)),.int .u8 (IntKind.u8.wrap (m:Int)),.int .u8 (IntKind.u8.wrap (n:Int)),.int .u8 (IntKind.u8.wrap ((n:Int)/256))] from ⟨_,rfl,by
  simp only [headL,List.map_cons,List.map_nil,u8v,UInt8.toNat_ofNat',HL.out,IntKind.wrap_u8]
  simp only [List.cons.injEq,Value.int.injEq,true_and,and_true]
  refine ⟨by omega,by omega,by omega,by omega⟩⟩)
 obtain ⟨H,hH⟩:=HD
 have HH:=Lh hH.1
 have HH2:=Lh hH.2
 have hHl:H.length=4:=by rw [hH.2];rfl
 clear hH
 have Q1:=Lh (by rw [hHl];rfl:H.length=Nat.min 4 256)
 have Q2:=Lh (by rw [hHl,←HZ0.out];simp:0+H.length≤Z0.length)
 have Q3:=Lh (by rw [HH.out];exact u8_one _:∀ v∈H,v.oneCell'=true)
 have Q4:=Lh (by
  intro j v hv
  rw [Addr.add_mid,Nat.zero_add]
  rw [HH2.out] at hv
  exact (World.cell?_alloc_at _ _ _ _ rfl).trans (by simpa using hv):∀ j v,H[j]? = some v→((wB.alloc (.cells #[.int .u8 (IntKind.u8.wrap (k:Int)),.int .u8 (IntKind.u8.wrap (m:Int)),.int .u8 (IntKind.u8.wrap (n:Int)),.int .u8 (IntKind.u8.wrap ((n:Int)/256))] 5)).drew).cell? ((⟨wB.heap.size,0,none⟩:Addr).add j)=some v)
 have Q5:=Lh ((((Below.refl _ wB).alloc nL (.cells #[.int .u8 (IntKind.u8.wrap (k:Int)),.int .u8 (IntKind.u8.wrap (m:Int)),.int .u8 (IntKind.u8.wrap (n:Int)),.int .u8 (IntKind.u8.wrap ((n:Int)/256))] 5)).drew).mono (Nat.le_of_lt hsB))
 go_region_held3 (fun w'=>w'.cell? ⟨w.heap.size,0,none⟩=some (.int .i64 (k:Int))∧w'.cell? ⟨w.heap.size,1,none⟩=some (.slice A m c)) (first|go_keep|(exact ⟨(hb4.cell hsA).trans c0,(hb4.cell hsA).trans c1⟩))
  ((refine step_copy_splice rfl (.tmp 29) (.tmp 42) 37 37 rfl 5 Tryz.underlying37 (by kernel_rfl) (some ⟨g6,0,none⟩) (some ⟨wB.heap.size,0,none⟩) 256 256 4 4 rfl rfl g6 0 Z0 128 (HZB.out.later ((Below.refl _ _).alloc nL _).drew) H Q1.out (fun _=>⟨rfl,_,rfl,Q4.out⟩) Q2.out Q3.out g6 wB Q5.out nL ?_;intro w4 hg4 hb4))
 have HG4:=Lh (show Blk w4 g6 128 (splice Z0 0 H).toArray from hg4.out)
 have HB4:=Lh (HBB.out.trans (hb4.mono (Nat.le_of_lt hsA)))
 have HP4:=Lh (show Blk w4 w.heap.size 39 #[.int .i64 (k:Int),.slice A m c] from (hb4.block _ hsA).trans HPB.out)
 clear hg4 hb4 c0 c1 HBB HZB HPB
 have c0:=HP4.out.cell 0
 have c1:=HP4.out.cell 1
 simp only [Zt,Zz,Zs] at c0 c1
 have hs4:g6<w4.heap.size:=Blk.lt HG4.out
 have HR4:=Lh (HR.out.later HB4.out)
 have E1:splice Z0 0 H=(headL n ⟨k,body⟩++List.replicate 4 0++List.replicate 248 0).map u8v:=by
  rw [←HZ0.out,HH.out,splice_map,splice_head rfl]
 have E2:splice (splice Z0 0 H) 8 (body.map u8v)=(sectP n ⟨k,body⟩++List.replicate 4 0).map u8v:=by
  rw [E1,splice_map,splice_body rfl (by rw [HL.out];exact hm)];rfl
 obtain ⟨Z1,hZ1⟩:∃ Z,splice Z0 0 H=Z:=⟨_,rfl⟩
 have hZ1l:Z1.length=256:=by rw [←hZ1,E1];simp [headL]
 rw [hZ1] at HG4 E2
 have HE2:=Lh E2
 clear E1 E2 hZ1 HH HH2 hHl HZ0 Q1 Q2 Q3 Q4 Q5
 obtain ⟨BV,hBV⟩:∃ V,body.map u8v=V:=⟨_,rfl⟩
 rw [hBV] at HE2
 have HBV:=Lh hBV
 have hBVl:BV.length=m:=by rw [←hBV,List.length_map,HL.out]
 clear hBV
 have hmin:m=Nat.min m 248:=(Nat.min_eq_left (by omega)).symm
 have HMin:=Lh hmin
 clear hmin
 have Q1:=Lh (by rw [hBVl];exact HMin.out:BV.length=Nat.min m 248)
 have Q2:=Lh (by rw [hBVl,hZ1l];omega:8+BV.length≤Z1.length)
 have Q3:=Lh (by rw [←HBV.out];exact u8_one _:∀ v∈BV,v.oneCell'=true)
 have Q4:=Lh (show Rd w4.drew A BV from by rw [←HBV.out];exact HR4.out)
 have Q5:=Lh ((Below.refl _ w4).drew.mono (Nat.le_of_lt hs4))
 go_wp2_with fail
 go_region_held3 (fun w'=>w'.cell? ⟨w.heap.size,1,none⟩=some (.slice A m c)) (first|go_keep|(exact (hb5.cell hsA).trans c1))
  ((refine step_copy_splice rfl (.tmp 44) (.tmp 46) 37 37 rfl 5 Tryz.underlying37 (by kernel_rfl) (some ⟨g6,8,none⟩) A 248 248 m c rfl rfl g6 8 Z1 128 HG4.out BV Q1.out (fun h0=>⟨rfl,Rd.src Q4.out h0⟩) Q2.out Q3.out g6 w4 Q5.out nL ?_;intro w5 hg5 hb5))
 have HG5:=Lh (show Blk w5 g6 128 ((sectP n ⟨k,body⟩++List.replicate 4 0).map u8v).toArray from by rw [←HE2.out];exact hg5.out)
 have HB5:=Lh (HB4.out.trans (hb5.mono (Nat.le_of_lt hsA)))
 have hs5:g6<w5.heap.size:=Blk.lt HG5.out
 have hPl:(sectP n ⟨k,body⟩).length=252:=sectP_len ⟨hk1,hk2,by simp only [];rw [HL.out];exact hm⟩
 have hSl:sectL n ⟨k,body⟩=sectP n ⟨k,body⟩++sumOf (sectP n ⟨k,body⟩):=rfl
 have HSL:=Lh hSl
 clear Q1 Q2 Q3 Q4 Q5 hg5 hb5 HG4 HB4 HP4 c0 c1 HR4 HE2 HBV hZ1l hSl HR HRB hsB
 obtain ⟨SP,hSP⟩:∃ L,sectP n ⟨k,body⟩=L:=⟨_,rfl⟩
 rw [hSP] at HG5 HSL hPl
 have HPB:=Lh (show Bs w5 (some ⟨g6,0,none⟩) SP from fun h0=>⟨g6,0,rfl,fun j hj=>by
  rw [Nat.zero_add,Blk.cell HG5.out]
  simp only [Zt,List.map_append]
  rw [List.getElem?_append_left hj]⟩)
 have HPl:=Lh hPl
 clear hSP
 have HG5d:=Lh (show Blk w5.drew g6 128 ((SP++List.replicate 4 (0:UInt8)).map u8v).toArray from HG5.out)
 have HPBd:=Lh (show Bs w5.drew (some ⟨g6,0,none⟩) SP from HPB.out)
 have hs5d:g6≤w5.drew.heap.size:=Nat.le_of_lt hs5
 have Q1:=Lh (by simp [hPl,sumOf_len]:252+((sumOf SP).map u8v).length≤((SP++List.replicate 4 0).map u8v).length)
 have HSum:=Lh (fun w1 h=>blockSum (some ⟨g6,0,none⟩) 252 256 SP w1 hPl h (by omega))
 clear hPl
 go_wp2_with fail
 go_region_held3 (fun _=>True) (trivial) (first|(go_at_call 55;refine (HSum.out w5.drew HPBd.out).mono ?_;rintro e w6 ⟨A6,c6,rfl,hown6,hb6⟩)|(refine step_copy_splice rfl (.tmp 48) (.tmp 50) 37 37 rfl 5 Tryz.underlying37 (by kernel_rfl) (some ⟨g6,252,none⟩) A6 4 4 4 c6 rfl rfl g6 252 _ 128 (Blk.later HG5d.out hb6) ((sumOf SP).map u8v) rfl (fun h0=>⟨rfl,Rd.src (OwnB.bs hown6) h0⟩) Q1.out (u8_one _) g6 w5.drew (hb6.mono hs5d) nL ?_;intro w7 hg7 hb7))
 have HG7:=Lh (show Blk w7 g6 128 ((sectL n ⟨k,body⟩).map u8v).toArray from by
  have h:=hg7.out
  rw [splice_map,splice_tail HPl.out rfl,←HSL.out] at h
  exact h)
 have HB7:=Lh (HB5.out.trans (((Below.refl g6 w5).drew.trans hb7).mono (Nat.le_of_lt hsA)))
 clear hown6 hb6 hg7 hb7 HG5 HB5 HPB HSum HG5d HPBd Q1
 have hSLl:(sectL n ⟨k,body⟩).length=256:=by rw [HSL.out,Zl,HPl.out];rfl
 go_wp2
 go_ret2
 exact ⟨g6,rfl,Nat.le_of_lt hsA,Blk.lt HG7.out,fun h0=>⟨g6,0,rfl,fun j hj=>by rw [Nat.zero_add,Blk.cell HG7.out,Zt]⟩,HB7.out⟩
theorem bytesEqual (A1 A2:OA) (n c m d:Nat) (l1 l2:List UInt8) (w:World) (h1:l1.length=n) (h2:l2.length=m) (hr1:Bs w A1 l1) (hr2:Bs w A2 l2):
 Calls Tryz.prog 39 #[.slice A1 n c,.slice A2 m d] w fun e w'=>e=.returned (.bool (l1==l2))∧w'=w:=by
 have key:∀ (A:OA) (l:List UInt8),Bs w A l→Lib.BytesIn w A l.length (Lib.numsL l):=by
  intro A l h h0
  obtain ⟨b,o,e,hc⟩:=h (by simpa using h0)
  refine ⟨b,o,e,fun i hi=>?_⟩
  rw [hc i (by simpa using hi)]
  simp [Lib.numsL,List.getD,Zg hi,u8v]
 have:=Tryz.bytes_Equal_all A1 A2 n c m d (Lib.numsL l1) (Lib.numsL l2) w (by rw [Lib.numsL_length,h1]) (by rw [Lib.numsL_length,h2]) (by rw [←h1];exact key A1 l1 hr1) (by rw [←h2];exact key A2 l2 hr2)
 rwa [Lib.bytesOf_numsL,Lib.bytesOf_numsL] at this
open Go.Sort Go.Shelf
def IntT {α:Type} (mt et:TypeId) (ht:Tryz.prog.underlying mt=some (.map 3 et)) (vv:α→Value) (vinj:∀ a b,vv a=vv b→a=b) (zero:α) (hz:∀ w,(zeroValue et).run Tryz.prog w=.ok (vv zero) w):MapT Nat α:={
 mt:=mt
 kt:=3
 et:=et
 ht:=ht
 K:=int_keyed Tryz.underlying3
 may x:=x<4611686018427387904
 kv:=natv
 kl x:=.int .i64 (x:Int)
 hkey x hx:=keyOf_int_mk Tryz.underlying3 (by
  have h1:IntKind.i64.min=-9223372036854775808:=by decide
  have h2:IntKind.i64.max=9223372036854775807:=by decide
  simp only [Lit.wf,h1,h2,Bool.and_eq_true,decide_eq_true_eq]
  omega)
 kinj x y _ _ h:=by simp only [Lit.int.injEq,true_and] at h;omega
 vv:=vv
 vinj:=vinj
 zero:=zero
 hz:=hz }
theorem nodup_lt:∀ (N:Nat) (l:List Nat),l.Nodup→(∀ x∈l,x<N)→l.length≤N
 | 0,l,_,h=>by
   cases l with
   | nil=>simp
   | cons a t=>have:=h a (by simp);omega
 | N+1,l,hd,h=>by
   have h1:=nodup_lt N (l.filter (fun x=>x≠N)) (hd.filter _) (fun x hx=>by
    have h2:=List.mem_filter.1 hx
    have h3:=h x h2.1
    have h4:x≠N:=by simpa using h2.2
    omega)
   by_cases hN:N∈l
   ·have e:(l.filter (fun x=>x≠N)).length+1=l.length:=by
     have h5:=List.Nodup.erase_eq_filter hd N
     have h6:=List.length_erase_of_mem hN
     have h7:l.filter (fun x=>x≠N)=l.erase N:=by
      rw [h5]
      congr 1
      funext x
      by_cases h:x=N<;>simp [h]
     rw [h7,h6]
     have:0<l.length:=List.length_pos_of_mem hN
     omega
    omega
   ·have e:l.filter (fun x=>x≠N)=l:=List.filter_eq_self.2 (fun x hx=>by
     have:x≠N:=fun h0=>hN (by rw [←h0];exact hx)
     simpa using this)
    rw [e] at h1;omega
section
variable {α:Type} {mt et:TypeId} {ht:Tryz.prog.underlying mt=some (.map 3 et)} {vv:α→Value} {vinj:∀ a b,vv a=vv b→a=b} {zero:α} {hz:∀ w,(zeroValue et).run Tryz.prog w=.ok (vv zero) w}
variable {w:World} {b n:Nat} {f:Nat→Option α}
theorem IntT.keys (h:(IntT mt et ht vv vinj zero hz).At w b n f):∃ D,w.ownsMap Tryz.prog 3 (IntT mt et ht vv vinj zero hz).R b n D∧Maps.size D=n∧(intKeys D).Nodup∧(intKeys D).length=n∧∀ x:Int,x∈intKeys D↔0≤x∧x<4611686018427387904∧(f x.toNat).isSome=true:=by
 obtain ⟨D,h1,hsz,hdom,h2⟩:=h
 obtain ⟨es,rfl,hpw,hkl⟩:=h1.entries (IntT mt et ht vv vinj zero hz).K
 have hint:∀ p∈es,∃ x:Nat,x<4611686018427387904∧p.1=.int .i64 (x:Int):=fun p hp=>by
  obtain ⟨x,hx,e⟩:=hdom p.1 (by rw [has_eq,List.any_eq_true];exact ⟨p,hp,WideAt.sameKey_self (hkl p hp)⟩)
  exact ⟨x,hx,e⟩
 refine ⟨_,h1,hsz,?_,by rw [←hsz];simp [intKeys,Maps.size],fun x=>?_⟩
 ·show (es.map fun p=>Go.intOf p.1).Nodup
  refine List.pairwise_map.2 (hpw.imp_of_mem fun {p q} hp' hq' hne e=>hne ?_)
  obtain ⟨a,_,ha⟩:=hint p hp'
  obtain ⟨b,_,hb⟩:=hint q hq'
  rw [ha,hb] at e ⊢
  exact congrArg _ e
 ·show x∈(es.map fun p=>Go.intOf p.1)↔_
  rw [List.mem_map]
  constructor
  ·rintro ⟨p,hp',rfl⟩
   obtain ⟨a,ha0,ha⟩:=hint p hp'
   rw [ha]
   refine ⟨by simp [Go.intOf],by simp only [Go.intOf];omega,?_⟩
   have h3:has (DataW.map es) (.int .i64 (a:Int))=true:=by
    rw [has_eq,List.any_eq_true]
    exact ⟨p,hp',by rw [ha];simp [Lit.sameKey]⟩
   have h4:=h2 a ha0
   show (f (a:Int).toNat).isSome=true
   rw [Int.toNat_natCast]
   cases hf:f a with
   | none=>rw [hf] at h4;exact absurd (h4.symm.trans h3) (by simp)
   | some _=>rfl
  ·rintro ⟨hx0,hx1,hx2⟩
   have h4:=h2 x.toNat (show x.toNat<4611686018427387904 by omega)
   have h3:has (DataW.map es) (.int .i64 x)=true:=by
    cases hf:f x.toNat with
    | none=>rw [hf] at hx2;cases hx2
    | some _=>
      rw [hf] at h4
      have:=h4.1
      change has _ (.int .i64 (x.toNat:Int))=true at this
      rwa [Int.toNat_of_nonneg hx0] at this
   rw [has_eq,List.any_eq_true] at h3
   obtain ⟨p,hp,hs⟩:=h3
   obtain ⟨a,_,ha⟩:=hint p hp
   rw [ha] at hs
   exact ⟨p,hp,by rw [ha];simpa [Lit.sameKey,Go.intOf] using hs⟩
theorem IntT.count (h:(IntT mt et ht vv vinj zero hz).At w b n f) (N:Nat) (hN:∀ x,(f x).isSome=true→x<N):n≤N:=by
 obtain ⟨D,_,_,hnd,hlen,hk⟩:=IntT.keys h
 have h1:=nodup_lt N ((intKeys D).map Int.toNat) (by
  refine List.pairwise_map.2 (hnd.imp_of_mem fun {p q} hp hq hne e=>hne ?_)
  have h3:=(hk p).1 hp
  have h4:=(hk q).1 hq
  have e':p.toNat=q.toNat:=e
  omega) (fun x hx=>by
  obtain ⟨y,hy,rfl⟩:=List.mem_map.1 hx
  exact hN _ ((hk y).1 hy).2.2)
 rw [List.length_map,hlen] at h1
 exact h1
end
def SetT:MapT Nat Unit:=IntT 85 88 Tryz.underlying85 (fun _=>.agg #[]) (fun _ _ _=>rfl) () (fun w=>Tryz.zeroValue88 w)
open Go.ChangeMaps Go.MapKept Go.WideShapes
theorem MapT.At.set_run {κ α:Type} {T:MapT κ α} {w:World} {b n:Nat} {f:κ→Option α} (h:T.At w b n f) (hn:n<1000000000) {p:κ} (hp:T.may p) (u:α) (dec:DecidableEq κ):
 ∃ w',(Instr.mapUpdate T.mt (.map (some b)) (T.kv p) (T.vv u)).run Tryz.prog w=.ok () w'∧T.At w' b (if (f p).isSome then n else n+1) (fun y=>if y=p then some u else f y)∧w.grownBy w' (some b):=by
 obtain ⟨D,h1,hsz,hdom,h2⟩:=h
 have hk:=T.hkey p hp
 obtain ⟨w',hrun,h3,h4⟩:=h1.update T.K T.ht (show n<maxLen by unfold maxLen;omega) hk (T.R_mk u)
 refine ⟨w',hrun,?_,h4⟩
 have hI:=h1.isMap
 have hT:=h1.tidy T.K
 have hs2:Maps.size (D.put (T.kl p) (.held u))=if (f p).isSome then n else n+1:=by
  rw [Maps.size_put hT,hsz]
  have h:=h2 p hp
  cases hf:f p with
  | none=>rw [hf] at h;rw [h];rfl
  | some y=>rw [hf] at h;rw [h.1];rfl
 refine ⟨_,?_,hs2,fun l hl=>?_,fun y hy=>?_⟩
 ·obtain ⟨es,clock,e1,e2,e3,e4⟩:=h3
  refine ⟨es,clock,e1,e2,?_,e4⟩
  rw [←hs2,e4]
  simp [Maps.size,length_sorted]
 ·by_cases e:l=T.kl p
  ·exact ⟨p,hp,e⟩
  ·rw [has_put_other e] at hl;exact hdom l hl
 ·by_cases e:y=p
  ·subst e
   show match (if y=y then some u else f y) with|some v=>_|none=>_
   rw [if_pos rfl]
   exact ⟨has_put_same hI (T.K.key hk) _,fun z=>atKey_put_same hI (T.K.key hk) _ z⟩
  ·show match (if y=p then some u else f y) with|some v=>_|none=>_
   rw [if_neg e]
   have hne:T.kl y≠T.kl p:=fun h=>e (T.kinj _ _ hy hp h)
   have:=h2 y hy
   rw [has_put_other hne]
   cases hf:f y with
   | none=>rw [hf] at this;exact this
   | some q=>
     rw [hf] at this
     exact ⟨this.1,fun z=>by rw [atKey_put_other hne];exact this.2 z⟩
theorem MapT.At.del_run {κ α:Type} {T:MapT κ α} {w:World} {b n:Nat} {f:κ→Option α} (h:T.At w b n f) {p:κ} (hp:T.may p) (dec:DecidableEq κ) (ty:TypeId):
 ∃ w',(Builtin.delete_ #[T.mt,T.kt] ty #[.map (some b),T.kv p]).run Tryz.prog w=.ok (.tuple #[]) w'∧T.At w' b (if (f p).isSome then n-1 else n) (fun y=>if y=p then none else f y)∧w.grownBy w' (some b):=by
 obtain ⟨D,h1,hsz,hdom,h2⟩:=h
 have hk:=T.hkey p hp
 obtain ⟨w',hrun,h3,hturn⟩:=h1.drop T.K T.ht hk ty
 refine ⟨w',hrun,?_,hturn.grown⟩
 have hT:=h1.tidy T.K
 have hs2:Maps.size (D.del (T.kl p))=if (f p).isSome then n-1 else n:=by
  have:=Maps.size_del (k:=T.kl p) hT
  rw [hsz] at this
  have h:=h2 p hp
  cases hf:f p with
  | none=>rw [hf] at h;rw [h] at this;simpa using this
  | some y=>rw [hf] at h;rw [h.1] at this;simp at this ⊢;omega
 refine ⟨_,?_,hs2,fun l hl=>?_,fun y hy=>?_⟩
 ·obtain ⟨es,clock,e1,e2,e3,e4⟩:=h3
  refine ⟨es,clock,e1,e2,?_,e4⟩
  rw [←hs2,e4]
  simp [Maps.size,length_sorted]
 ·by_cases e:l=T.kl p
  ·rw [e,has_del_same] at hl;cases hl
  ·rw [has_del_other e] at hl;exact hdom l hl
 ·by_cases e:y=p
  ·subst e
   show match (if y=y then none else f y) with|some v=>_|none=>_
   rw [if_pos rfl]
   exact has_del_same
  ·show match (if y=p then none else f y) with|some v=>_|none=>_
   rw [if_neg e]
   have hne:T.kl y≠T.kl p:=fun h=>e (T.kinj _ _ hy hp h)
   have:=h2 y hy
   rw [has_del_other hne]
   cases hf:f y with
   | none=>rw [hf] at this;exact this
   | some q=>
     rw [hf] at this
     exact ⟨this.1,fun z=>by rw [atKey_del_other hne];exact this.2 z⟩
theorem MapT.At.below {κ α:Type} {T:MapT κ α} {w w':World} {b n:Nat} {f:κ→Option α} (h:T.At w b n f) (hb:Below w.heap.size w w'):T.At w' b n f:=h.same (hb.block b h.lt)
end Go.Proofs.YtiihiocgbfafaaaGreat
