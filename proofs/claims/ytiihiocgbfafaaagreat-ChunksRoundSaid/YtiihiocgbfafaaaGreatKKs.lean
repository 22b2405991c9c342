/- X5 X6 X7 C5 C6 -/
import Derived.Test.YtiihiocgbfafaaaGreatKKk
import Derived.Test.YtiihiocgbfafaaaGreatKKr
import Derived.Lib.ItoaNum
set_option linter.unusedSimpArgs false
set_option linter.unusedVariables false
set_option maxHeartbeats 8000000
set_option maxRecDepth 100000
namespace Go.Proofs.YtiihiocgbfafaaaGreat
open Go.RowKit
theorem take_snocB {D:List UInt8} {q:Nat} (h:q<D.length):D.take q++[D.getD q 0]=D.take (q+1):=by
 rw [List.take_add_one,Zg h,List.getD,Zg h]
 rfl
theorem getD_take {D:List UInt8} {q i:Nat} (h:i<q):(D.take q).getD i 0=D.getD i 0:=by
 rw [List.getD,List.getD,List.getElem?_take_of_lt h]
theorem copyL_take (D:List UInt8) (d:Nat):∀ (n q:Nat),1≤d→d≤q→q+n≤D.length→(∀ j,j<n→D.getD (q-d+j) 0=D.getD (q+j) 0)→copyL d n (D.take q)=D.take (q+n)
 | 0,q,_,_,_,_=>rfl
 | n+1,q,h1,h2,h3,h4=>by
   have hl:(D.take q).length=q:=by rw [List.length_take];omega
   have h5:=h4 0 (by omega)
   rw [Nat.add_zero,Nat.add_zero] at h5
   rw [copyL,hl,getD_take (by omega),h5,take_snocB (by omega),copyL_take D d n (q+1) h1 (by omega) (by omega)]
   ·rw [show q+1+n=q+(n+1) by omega]
   ·intro j hj
    have:=h4 (j+1) (by omega)
    rw [show q-d+(j+1)=q+1-d+j by omega,show q+(j+1)=q+1+j by omega] at this
    exact this
theorem runGo_fit (D:List UInt8):∀ (L:List Sq) (p:Nat),FitL D p L→runGo D.length L (D.take p) (litsL (D.drop p) L)=some (D.take (fitEnd p L),D.drop (fitEnd p L))
 | [],p,_=>rfl
 | x::r,p,h=>by
   obtain ⟨h1,-,h3,h4,h5,h6,h7⟩:=h
   have hl:(D.take p).length=p:=by rw [List.length_take];omega
   have e1:litsL (D.drop p) (x::r)=(D.drop p).take x.lits++litsL (D.drop (p+x.lits+x.len)) r:=by
    rw [litsL,List.drop_drop,show p+(x.lits+x.len)=p+x.lits+x.len by omega]
   have hl2:((D.drop p).take x.lits).length=x.lits:=by rw [List.length_take,List.length_drop];omega
   have e2:((D.drop p).take x.lits++litsL (D.drop (p+x.lits+x.len)) r).take x.lits=(D.drop p).take x.lits:=by
    rw [List.take_append_of_le_length (by omega),List.take_of_length_le (by omega)]
   have e3:((D.drop p).take x.lits++litsL (D.drop (p+x.lits+x.len)) r).drop x.lits=litsL (D.drop (p+x.lits+x.len)) r:=by
    rw [List.drop_append_of_le_length (by omega),List.drop_of_length_le (by omega),List.nil_append]
   have e4:D.take p++(D.drop p).take x.lits=D.take (p+x.lits):=by
    rw [List.take_add]
   have hbad:runBad x (p+x.lits) ((D.drop p).take x.lits++litsL (D.drop (p+x.lits+x.len)) r).length D.length=false:=by
    have a1:decide (((D.drop p).take x.lits++litsL (D.drop (p+x.lits+x.len)) r).length<x.lits)=false:=qF (by rw [Zl];omega)
    have a2:decide (x.dist<1)=false:=qF (by omega)
    have a3:decide (p+x.lits<x.dist)=false:=qF (by omega)
    have a4:decide (x.len=0)=false:=qF (by omega)
    have a5:decide (D.length<p+x.lits)=false:=qF (by omega)
    have a6:decide (D.length-(p+x.lits)<x.len)=false:=qF (by omega)
    unfold runBad
    rw [a1,a2,a3,a4,a5,a6]
    simp
   rw [e1,runGo,hl,hbad,if_neg (by simp),e2,e3,e4,copyL_take D x.dist x.len (p+x.lits) h4 h5 h3 h6]
   exact runGo_fit D r _ h7
theorem FitL.end_le {D:List UInt8}:∀ {L:List Sq} {p:Nat},FitL D p L→fitEnd p L≤D.length
 | [],_,h=>h
 | x::r,p,h=>FitL.end_le (L:=r) (p:=p+x.lits+x.len) h.2.2.2.2.2.2
theorem run_back {D:List UInt8} {L:List Sq} (h:FitL D 0 L):runL (litsL D L) L D.length=some D:=by
 have h1:=runGo_fit D L 0 h
 have h2:=h.end_le
 rw [List.take_zero,List.drop_zero] at h1
 unfold runL
 rw [h1]
 show (if D.length-(D.take (fitEnd 0 L)).length<(D.drop (fitEnd 0 L)).length then none else some (D.take (fitEnd 0 L)++D.drop (fitEnd 0 L)))=_
 rw [List.length_take,List.length_drop,if_neg (by omega),List.take_append_drop]
theorem toL_at {l:List Nat} {s:Nat}:∀ {p i q:Nat},(toL l p s)[i]? = some q→symOf l q=s∧(toL l q s).length=i∧q<p
 | 0,i,q,h=>by simp [toL] at h
 | p+1,i,q,h=>by
   rw [toL] at h
   by_cases hs:symOf l p=s
   ·rw [if_pos hs] at h
    rcases Nat.lt_or_ge i (toL l p s).length with h1|h1
    ·rw [List.getElem?_append_left h1] at h
     obtain ⟨a,b,c⟩:=toL_at h
     exact ⟨a,b,by omega⟩
    ·rw [List.getElem?_append_right h1] at h
     have h2:i-(toL l p s).length=0:=by
      rcases Nat.eq_zero_or_pos (i-(toL l p s).length) with h3|h3
      ·exact h3
      ·rw [List.getElem?_eq_none (by rw [List.length_singleton];omega)] at h;cases h
     rw [h2] at h
     simp only [Zz,Option.some.injEq] at h
     subst h
     exact ⟨hs,by omega,by omega⟩
   ·rw [if_neg hs] at h
    obtain ⟨a,b,c⟩:=toL_at h
    exact ⟨a,b,by omega⟩
theorem nxt_val {l:List Nat} {s:Nat} (hs:s<l.length):∀ p,(nxt l p).getD s 0=l.getD s 0+(toL l p s).length
 | 0=>rfl
 | p+1=>by
   have ih:=nxt_val hs p
   have hl:=nxt_len l p
   rw [nxt,getD_set,toL]
   by_cases h:symOf l p=s
   ·rw [if_pos ⟨h.symm,by omega⟩,if_pos h,h,ih,Zl,List.length_singleton];omega
   ·rw [if_neg (fun e=>h e.1.symm),if_neg h,ih]
theorem nOf_at {l:List Nat} {s i q:Nat} (hs:s<l.length) (h:(toL l 64 s)[i]? = some q):symOf l q=s∧nOf l q=l.getD s 0+i∧q<64:=by
 obtain ⟨h1,h2,h3⟩:=toL_at h
 refine ⟨h1,?_,h3⟩
 unfold nOf
 rw [h1,nxt_val hs,h2]
theorem get_getD {l:List Nat} {i:Nat} (h:i<l.length):l[i]? = some (l.getD i 0):=by rw [List.getD,Zg h,Option.getD_some]
theorem bitLen7:∀ x:Fin 128,64≤x.val→Lib.bitLen x.val=7:=by decide +kernel
theorem bitLen_top:∀ x:Fin 256,∀ m:Fin 8,2^m.val≤x.val→x.val<2^(m.val+1)→Lib.bitLen x.val=m.val+1:=by decide +kernel
theorem pow_le64 {n:Nat} (h:n≤6):2^n≤64∧∃ k,64=2^n*k:=by
 refine ⟨(Nat.pow_le_pow_right (by omega) h:2^n≤2^6),2^(6-n),?_⟩
 rw [←Nat.pow_add,show n+(6-n)=6 by omega]
theorem enc_back {sh:List Nat} {k s:Nat} {X:Nat × WSt} (h:EncOk k X) (hsum:sumL sh=64) (h0:0<sh.getD s 0):
 ∃ nb,nb=nbL X.1 (sh.getD s 0)∧nb≤6∧symOf sh ((encStep sh X s).1-64)=s∧bitsOf sh ((encStep sh X s).1-64)=nb∧baseOf sh ((encStep sh X s).1-64)+X.1%2^nb=X.1-64:=by
 obtain ⟨-,h2,h3,h4,h5⟩:=encStep_facts h hsum h0
 have hs:s<sh.length:=by
  rcases Nat.lt_or_ge s sh.length with h|h
  ·exact h
  ·rw [getD_out h] at h0;omega
 refine ⟨_,rfl,h2,?_⟩
 obtain ⟨nb,hnb⟩:∃ nb,nb=nbL X.1 (sh.getD s 0):=⟨_,rfl⟩
 rw [←hnb] at h2 h3 h4 h5 ⊢
 have hlo:=h.lo
 have hhi:=h.hi
 obtain ⟨hp64,kk,hkk⟩:=pow_le64 h2
 have hget:(toL sh 64 s)[X.1/2^nb-sh.getD s 0]? = some ((toL sh 64 s).getD (X.1/2^nb-sh.getD s 0) 0):=get_getD h4
 obtain ⟨a1,a2,a3⟩:=nOf_at hs hget
 have hq:(encStep sh X s).1-64=(toL sh 64 s).getD (X.1/2^nb-sh.getD s 0) 0:=by
  unfold encStep
  rw [←hnb]
  show 64+_-64=_
  rw [Nat.add_sub_cancel_left]
 have hx:nOf sh ((toL sh 64 s).getD (X.1/2^nb-sh.getD s 0) 0)=X.1/2^nb:=by rw [a2];omega
 have hbl:Lib.bitLen X.1=nb+Lib.bitLen (X.1/2^nb):=Lib.bitLen_shift nb X.1 (by omega) (by omega)
 have h7:=bitLen7 ⟨X.1,hhi⟩ hlo
 have hbits:bitsOf sh ((toL sh 64 s).getD (X.1/2^nb-sh.getD s 0) 0)=nb:=by
  unfold bitsOf
  rw [hx]
  simp only at h7
  omega
 rw [hq]
 refine ⟨a1,hbits,?_⟩
 unfold baseOf
 rw [hbits,hx]
 have hdm:=Nat.div_add_mod X.1 (2^nb)
 have hge:64≤X.1/2^nb*2^nb:=by
  have:kk≤X.1/2^nb:=by
   rw [Nat.le_div_iff_mul_le (Nat.two_pow_pos _),Nat.mul_comm];omega
  have h8:=Nat.mul_le_mul_right (2^nb) this
  rw [Nat.mul_comm kk] at h8
  omega
 rw [Nat.mul_comm] at hdm
 omega
theorem fd_back {sh:List Nat} (hsum:sumL sh=64):∀ (l:List Nat),(∀ s∈l,0<sh.getD s 0)→∃ P,(encGo sh l.reverse).2=putsS w0 P∧putsOk P∧EncOk l.length (encGo sh l.reverse) ∧
 ∀ (rest:List (Nat × Nat)) (out:List Nat),putsOk rest→fdGo sh (bytesS (putsS w0 (P++rest))) l.length ((encGo sh l.reverse).1-64) (putsLen P) out=some (out++l,0,0)
 | [],_=>⟨[],rfl,(fun p hp=>by cases hp),⟨by show 64≤64;omega,by show 64<128;omega,w0_ok,by show 8*0+0≤_;omega⟩,fun rest out _=>by rw [List.append_nil];rfl⟩
 | s::r,hp=>by
   obtain ⟨P,hP1,hP2,hE,hfd⟩:=fd_back hsum r (fun q hq=>hp q (List.mem_cons_of_mem _ hq))
   have h0:=hp s (List.mem_cons_self)
   obtain ⟨nb,hnb,hnb6,hsy,hbi,hba⟩:=enc_back hE hsum h0
   have hE2:=(encStep_facts hE hsum h0).1
   rw [List.reverse_cons,encGo_snoc]
   obtain ⟨X,hX⟩:∃ X,X=encGo sh r.reverse:=⟨_,rfl⟩
   rw [←hX] at hP1 hE hfd hnb hsy hbi hba hE2 ⊢
   have hok1:putsOk [(nb,X.1%2^nb)]:=by
    intro p hp
    rw [List.mem_singleton] at hp
    subst hp
    exact ⟨by show nb≤32;omega,Nat.mod_lt _ (Nat.two_pow_pos _)⟩
   refine ⟨P++[(nb,X.1%2^nb)],?_,?_,hE2,?_⟩
   ·rw [putsS_append,←hP1]
    unfold encStep
    rw [←hnb];rfl
   ·intro p hp
    rcases List.mem_append.1 hp with h|h
    ·exact hP2 p h
    ·exact hok1 p h
   ·intro rest out hr
    have hok2:putsOk (P++(nb,X.1%2^nb)::rest):=by
     intro p hp
     rcases List.mem_append.1 hp with h|h
     ·exact hP2 p h
     ·rcases List.mem_cons.1 h with h|h
      ·exact hok1 p (by rw [h];exact List.mem_cons_self)
      ·exact hr p h
    have hnum:=num_puts [] hok2
    rw [List.append_nil] at hnum
    have e1:(P++[(nb,X.1%2^nb)])++rest=P++(nb,X.1%2^nb)::rest:=by rw [Za];rfl
    have e2:putsLen (P++[(nb,X.1%2^nb)])=putsLen P+nb:=by rw [putsLen_append];rfl
    rw [e1,e2,List.length_cons,fdGo,hbi,if_neg (by omega),Nat.add_sub_cancel,hnum,hba,hsy]
    have h1:=hfd ((nb,X.1%2^nb)::rest) (out++[s]) (fun p hp=>hok2 p (List.mem_append_right _ hp))
    rw [h1,Za];rfl
theorem last_byte {D:List UInt8} (h:0<D.length):leN D/2^(8*(D.length-1))=(D.getD (D.length-1) 0).toNat:=by
 have e:D=D.take (D.length-1)++[D.getD (D.length-1) 0]:=by
  rw [take_snocB (by omega),show D.length-1+1=D.length by omega,List.take_length]
 have hl:(D.take (D.length-1)).length=D.length-1:=by rw [List.length_take];omega
 have h1:=leN_append (D.take (D.length-1)) [D.getD (D.length-1) 0]
 rw [←e,hl] at h1
 have h2:=leN_lt (D.take (D.length-1))
 rw [hl] at h2
 rw [h1,Nat.add_mul_div_left _ _ (Nat.two_pow_pos _),Nat.div_eq_of_lt h2,Nat.zero_add]
 show (D.getD (D.length-1) 0).toNat+256*0=_
 omega
theorem fse_back {sh l:List Nat} (hm:fmayL sh 6=true) (hp:∀ s∈l,0<sh.getD s 0):fdecodeL sh (encodeL sh l) l.length=some l:=by
 obtain ⟨-,-,-,-,hsum⟩:=fmayL_facts hm
 have hsum:sumL sh=64:=hsum
 obtain ⟨P,hP1,hP2,hE,hfd⟩:=fd_back hsum l hp
 obtain ⟨X,hX⟩:∃ X,X=encGo sh l.reverse:=⟨_,rfl⟩
 rw [←hX] at hP1 hE hfd
 have hlo:=hE.lo
 have hhi:=hE.hi
 have hrest:putsOk [(6,X.1-64),(1,1)]:=by
  intro p hp
  rcases List.mem_cons.1 hp with h|h
  ·subst h;exact ⟨by show 6≤32;omega,by show X.1-64<64;omega⟩
  ·rw [List.mem_singleton] at h
   subst h;exact ⟨by show 1≤32;omega,by show 1<2;omega⟩
 have hok:putsOk (P++[(6,X.1-64),(1,1)]):=by
  intro p hp
  rcases List.mem_append.1 hp with h|h
  ·exact hP2 p h
  ·exact hrest p h
 have hD:encodeL sh l=bytesS (putsS w0 (P++[(6,X.1-64),(1,1)])):=by
  rw [putsS_append,←hP1,hX];rfl
 obtain ⟨D,hDD⟩:∃ D,D=encodeL sh l:=⟨_,rfl⟩
 rw [←hDD] at hD ⊢
 have hT:putsLen (P++[(6,X.1-64),(1,1)])=putsLen P+7:=by rw [putsLen_append];rfl
 have hlen:D.length=(putsLen P+7+7)/8:=by rw [hD,puts_length hok,hT]
 have hval:leN D=pvalP P+2^putsLen P*(X.1-64+64):=by
  rw [hD,leN_puts hok,pvalP_append]
  show pvalP P+2^putsLen P*(X.1-64+2^6*(1+2^1*0))=_
  rw [show (2:Nat)^6*(1+2^1*0)=64 by decide]
 have hpl:=pvalP_lt P hP2
 have hlow:2^(putsLen P+6)≤leN D:=by
  rw [hval,Nat.pow_add]
  have:2^putsLen P*2^6≤2^putsLen P*(X.1-64+64):=Nat.mul_le_mul_left _ (by omega)
  omega
 have hhigh:leN D<2^(putsLen P+7):=by
  rw [hval,Nat.pow_add]
  have:2^putsLen P*(X.1-64+64+1)≤2^putsLen P*2^7:=Nat.mul_le_mul_left _ (by omega)
  rw [Nat.mul_add] at this
  omega
 have hpos:0<D.length:=by omega
 have hlast:=last_byte hpos
 obtain ⟨m,hm1,hm2⟩:∃ m,putsLen P+6=8*(D.length-1)+m∧m<8:=⟨putsLen P+6-8*(D.length-1),by omega,by omega⟩
 have hb1:2^m≤(D.getD (D.length-1) 0).toNat:=by
  rw [←hlast,Nat.le_div_iff_mul_le (Nat.two_pow_pos _),←Nat.pow_add,Nat.add_comm m,←hm1];exact hlow
 have hb2:(D.getD (D.length-1) 0).toNat<2^(m+1):=by
  rw [←hlast,Nat.div_lt_iff_lt_mul (Nat.two_pow_pos _),←Nat.pow_add,show m+1+8*(D.length-1)=putsLen P+7 by omega];exact hhigh
 have hbl:Lib.bitLen (D.getD (D.length-1) 0).toNat=m+1:=bitLen_top ⟨(D.getD (D.length-1) 0).toNat,UInt8.toNat_lt _⟩ ⟨m,hm2⟩ hb1 hb2
 have hfb:fdBits D=putsLen P+6:=by unfold fdBits;rw [hbl];omega
 have hne:D.getD (D.length-1) 0≠0:=by
  intro e
  have:=Nat.two_pow_pos m
  rw [e] at hb1
  have e0:(0:UInt8).toNat=0:=rfl
  omega
 have hnum:=num_puts (a:=P) (k:=6) (v:=X.1-64) (b:=[(1,1)]) [] hok
 rw [List.append_nil,←hD] at hnum
 have hgo:=hfd [(6,X.1-64),(1,1)] [] hrest
 rw [←hD,List.nil_append] at hgo
 unfold fdecodeL
 rw [if_neg,hfb,Nat.add_sub_cancel,hnum,hgo]
 ·rfl
 ·rintro (h|h|h|h)
  ·rw [hm] at h;cases h
  ·omega
  ·exact hne h
  ·omega
theorem pkNum_back {v:Nat} {most:Int} (hv:v≤4294967295) (hm:(v:Int)≤most) (tail:List UInt8):pkNum (numB 5 v++tail) most=some (v,(numB 5 v).length):=by
 unfold pkNum
 rw [num_back hv]
 show (if most<(v:Int) then none else some (v,(numB 5 v).length))=_
 rw [if_neg (by omega)]
theorem lits_back {l B:List UInt8} {n:Nat} (h:LitsB l B) (hn:l.length≤n) (hn2:n≤65536) (tail:List UInt8):litL (B++tail) n=some (l,tail):=by
 rcases h with rfl|⟨lens,hL,rfl⟩
 ·unfold litL
  rw [Za,pkNum_back (by omega) (by omega)]
  show litHow ((numB 5 l.length++(0::l++tail)).drop (numB 5 l.length).length) l.length=_
  rw [List.drop_left]
  show litHow (0::(l++tail)) l.length=_
  simp only [litHow]
  rw [if_pos trivial,if_neg (by rw [Zl];omega),List.take_left,List.drop_left]
 ·obtain ⟨hm1,hm2,hm3⟩:=mayL_facts hL.may
  have hbl:=body_len hm3 l
  have hd:∀ b∈l,b.toNat<lens.length∧0<lens.getD b.toNat 0:=fun b hb=>hL.pos _ (cntB_pos hb)
  have hdec:=decode_body hL.may hd
  unfold litL
  rw [Za,pkNum_back (by omega) (by omega)]
  show litHow ((numB 5 l.length++((1::tableB lens++numB 5 (bodyB lens l).length++bodyB lens l)++tail)).drop (numB 5 l.length).length) l.length=_
  rw [List.drop_left]
  have e:(1::tableB lens++numB 5 (bodyB lens l).length++bodyB lens l)++tail=1::(tableB lens++(numB 5 (bodyB lens l).length++(bodyB lens l++tail))):=by simp
  rw [e]
  simp only [litHow]
  rw [if_neg (by decide),table_back hL.may]
  show (if (1:UInt8)≠1 then none else litNum ((tableB lens++(numB 5 (bodyB lens l).length++(bodyB lens l++tail))).drop (tableB lens).length) lens l.length (pkNum ((tableB lens++(numB 5 (bodyB lens l).length++(bodyB lens l++tail))).drop (tableB lens).length) (((tableB lens++(numB 5 (bodyB lens l).length++(bodyB lens l++tail))).drop (tableB lens).length).length:Int)))=_
  rw [if_neg (by simp),List.drop_left,pkNum_back (by omega) (by simp only [Zl];omega)]
  show (if ((numB 5 (bodyB lens l).length++(bodyB lens l++tail)).drop (numB 5 (bodyB lens l).length).length).length<(bodyB lens l).length then none else litDec (((numB 5 (bodyB lens l).length++(bodyB lens l++tail)).drop (numB 5 (bodyB lens l).length).length).drop (bodyB lens l).length) (decodeL lens (((numB 5 (bodyB lens l).length++(bodyB lens l++tail)).drop (numB 5 (bodyB lens l).length).length).take (bodyB lens l).length) l.length))=_
  rw [List.drop_left,List.drop_left,List.take_left,hdec,if_neg (by rw [Zl];omega)]
  rfl
theorem str_back {L:List Sq} {k:Nat} {B:List UInt8} (h:StrB k L B) (hL:L.length≤65536) (hs:∀ x∈L,symQ k x<17) (tail:List UInt8):streamL (B++tail) L.length=some (L.map (symQ k),tail):=by
 obtain ⟨sh,hsh,rfl⟩:=h
 have hlen17:(incT (List.replicate 17 0) (L.map (symQ k))).length=17:=by rw [incT_len,List.length_replicate]
 have hmay:=hsh.may (by omega)
 have hpos:∀ s∈L.map (symQ k),0<sh.getD s 0:=by
  intro s hs2
  refine hsh.has s (incT_pos _ _ _ hs2 ?_)
  obtain ⟨x,hx,rfl⟩:=List.mem_map.1 hs2
  rw [List.length_replicate];exact hs x hx
 have hbk:=fse_back hmay hpos
 have hel:=encodeL_len hsh.sum hpos
 rw [List.length_map] at hel hbk
 have hshl:=hsh.len
 obtain ⟨E,hE⟩:∃ E,E=encodeL sh (L.map (symQ k)):=⟨_,rfl⟩
 rw [←hE] at hbk hel ⊢
 unfold streamL
 rw [Za,share_back hmay]
 show (if (6:Nat)≠6∨17<sh.length then none else strNum ((shareB sh++((numB 5 E.length++E)++tail)).drop (shareB sh).length) sh L.length (pkNum ((shareB sh++((numB 5 E.length++E)++tail)).drop (shareB sh).length) (((shareB sh++((numB 5 E.length++E)++tail)).drop (shareB sh).length).length:Int)))=_
 rw [if_neg (by omega),List.drop_left,Za,pkNum_back (by omega) (by simp only [Zl];omega)]
 show (if ((numB 5 E.length++(E++tail)).drop (numB 5 E.length).length).length<E.length then none else strDec (((numB 5 E.length++(E++tail)).drop (numB 5 E.length).length).drop E.length) (fdecodeL sh (((numB 5 E.length++(E++tail)).drop (numB 5 E.length).length).take E.length) L.length))=_
 rw [List.drop_left,List.drop_left,List.take_left,hbk,if_neg (by rw [Zl];omega)]
 rfl
theorem bitLen_of0:Lib.bitLen 0=0:=rfl
theorem bitLen_in {v:Nat} (h0:0<v) (h:v≤65535):1≤Lib.bitLen v∧2^(Lib.bitLen v-1)≤v∧v<2^Lib.bitLen v∧Lib.bitLen v≤16:=
 have hb:=Lib.bitLenAux_bounds 64 v (by omega) (by omega)
 ⟨hb.1,hb.2.1,hb.2.2,Lib.bitLen_le v 16 (by omega) (by omega)⟩
theorem bitLen_most16 {v:Nat} (h:v≤65535):Lib.bitLen v≤16:=Lib.bitLen_le v 16 (by omega) (by omega)
theorem lowP_ok {v:Nat} (h:v≤65535):putsOk (lowP v):=by
 unfold lowP
 split
 ·intro p hp
  rw [List.mem_singleton] at hp
  subst hp
  obtain ⟨h1,h2,h3,h4⟩:=bitLen_in (v:=v) (by omega) h
  refine ⟨by show Lib.bitLen v-1≤32;omega,?_⟩
  show v-2^(Lib.bitLen v-1)<2^(Lib.bitLen v-1)
  have:2^Lib.bitLen v=2^(Lib.bitLen v-1)*2:=by rw [←Nat.pow_succ,show (Lib.bitLen v-1).succ=Lib.bitLen v by omega]
  omega
 ·intro p hp;cases hp
theorem num_low {v:Nat} (hv:v≤65535) {a b:List (Nat × Nat)} (h:putsOk (a++(lowP v++b))):numT (bytesS (putsS w0 (a++(lowP v++b)))) (putsLen a) (Lib.bitLen v)=(v,putsLen (a++lowP v),false):=by
 unfold numT
 rcases Nat.eq_zero_or_pos v with h0|h0
 ·subst h0
  have e:lowP 0=[]:=rfl
  rw [bitLen_of0,if_pos rfl,e,List.append_nil]
 ·obtain ⟨h1,h2,h3,h4⟩:=bitLen_in h0 hv
  have hlen:=puts_length h
  by_cases hv1:1<v
  ·have e:lowP v=[(Lib.bitLen v-1,v-2^(Lib.bitLen v-1))]:=by unfold lowP;rw [if_pos hv1]
   rw [e] at h hlen ⊢
   have hn:=num_puts (a:=a) (k:=Lib.bitLen v-1) (v:=v-2^(Lib.bitLen v-1)) (b:=b) [] h
   rw [List.append_nil] at hn
   have hT:putsLen (a++([(Lib.bitLen v-1,v-2^(Lib.bitLen v-1))]++b))=putsLen a+(Lib.bitLen v-1+putsLen b):=by rw [putsLen_append];rfl
   have hT2:putsLen (a++[(Lib.bitLen v-1,v-2^(Lib.bitLen v-1))])=putsLen a+(Lib.bitLen v-1):=by rw [putsLen_append];rfl
   rw [hT] at hlen
   rw [if_neg (by omega),if_neg (by omega),hT2]
   have e2:[(Lib.bitLen v-1,v-2^(Lib.bitLen v-1))]++b=(Lib.bitLen v-1,v-2^(Lib.bitLen v-1))::b:=rfl
   rw [e2,hn,show 2^(Lib.bitLen v-1)+(v-2^(Lib.bitLen v-1))=v by omega]
  ·obtain rfl:v=1:=by omega
   have e:lowP 1=[]:=rfl
   have e1:Lib.bitLen 1=1:=by decide +kernel
   rw [e] at hlen ⊢
   rw [e1,List.append_nil]
   have hT:putsLen (a++([]++b))=putsLen a+putsLen b:=by rw [List.nil_append,putsLen_append]
   rw [hT] at hlen
   rw [if_neg (by omega),if_neg (by omega)]
   rfl
theorem lowsP_ok {x:Sq} (h:SmallQ x):putsOk (lowsP x):=by
 intro p hp
 rcases List.mem_append.1 hp with h1|h1
 ·exact lowP_ok (numQ_le h 0) p h1
 ·rcases List.mem_append.1 h1 with h1|h1
  ·exact lowP_ok (numQ_le h 1) p h1
  ·exact lowP_ok (numQ_le h 2) p h1
theorem lowsL_ok:∀ {L:List Sq},(∀ x∈L,SmallQ x)→putsOk (L.flatMap lowsP)
 | [],_=>fun p hp=>by cases hp
 | x::r,h=>fun p hp=>by
   rw [List.flatMap_cons] at hp
   rcases List.mem_append.1 hp with h1|h1
   ·exact lowsP_ok (h x List.mem_cons_self) p h1
   ·exact lowsL_ok (fun y hy=>h y (List.mem_cons_of_mem _ hy)) p h1
theorem rd3_low {x:Sq} (hx:SmallQ x) {a b:List (Nat × Nat)} (h:putsOk (a++(lowsP x++b))):
 rd3 (bytesS (putsS w0 (a++(lowsP x++b)))) [symQ 0 x,symQ 1 x,symQ 2 x] (putsLen a) false []=(putsLen (a++lowsP x),false,[numQ 0 x,numQ 1 x,numQ 2 x]):=by
 have e0:a++(lowsP x++b)=a++(lowP (numQ 0 x)++(lowP (numQ 1 x)++(lowP (numQ 2 x)++b))):=by unfold lowsP;simp
 have e1:a++(lowsP x++b)=(a++lowP (numQ 0 x))++(lowP (numQ 1 x)++(lowP (numQ 2 x)++b)):=by unfold lowsP;simp
 have e2:a++(lowsP x++b)=(a++lowP (numQ 0 x)++lowP (numQ 1 x))++(lowP (numQ 2 x)++b):=by unfold lowsP;simp
 have e3:a++lowsP x=(a++lowP (numQ 0 x)++lowP (numQ 1 x))++lowP (numQ 2 x):=by unfold lowsP;simp
 have n0:=num_low (numQ_le hx 0) (e0 ▸ h)
 have n1:=num_low (numQ_le hx 1) (e1 ▸ h)
 have n2:=num_low (numQ_le hx 2) (e2 ▸ h)
 rw [←e0] at n0
 rw [←e1] at n1
 rw [←e2,←e3] at n2
 obtain ⟨D,hD⟩:∃ D,D=bytesS (putsS w0 (a++(lowsP x++b))):=⟨_,rfl⟩
 rw [←hD] at n0 n1 n2 ⊢
 unfold symQ
 rw [rd3,n0]
 show rd3 D [Lib.bitLen (numQ 1 x),Lib.bitLen (numQ 2 x)] (putsLen (a++lowP (numQ 0 x))) false [numQ 0 x]=_
 rw [rd3,n1]
 show rd3 D [Lib.bitLen (numQ 2 x)] (putsLen (a++lowP (numQ 0 x)++lowP (numQ 1 x))) false [numQ 0 x,numQ 1 x]=_
 rw [rd3,n2]
 rfl
theorem sqOf_back {x:Sq} (h:SmallQ x):sqOf [numQ 0 x,numQ 1 x,numQ 2 x]=x:=by
 obtain ⟨h1,h2,h3,h4,h5⟩:=h
 obtain ⟨a,b,c⟩:=x
 show Sq.mk a (b-4+4) (c-1+1)=_
 simp only at h2 h4
 rw [show b-4+4=b by omega,show c-1+1=c by omega]
theorem getD_map {L:List Sq} {i:Nat} {x:Sq} (f:Sq→Nat) (h:L[i]? = some x):(L.map f).getD i 0=f x:=by
 rw [List.getD,List.getElem?_map,h];rfl
theorem stepGo_back {L:List Sq} (hL:∀ x∈L,SmallQ x) (cs:Nat→List Nat) (h0:cs 0=L.map (symQ 0)) (h1:cs 1=L.map (symQ 1)) (h2:cs 2=L.map (symQ 2)):∀ (post pre:List Sq),L=pre++post →
 stepGo (bytesS (putsS w0 (L.flatMap lowsP))) cs post.length pre.length (putsLen (pre.flatMap lowsP)) false pre=(putsLen (L.flatMap lowsP),false,L)
 | [],pre,e=>by rw [List.append_nil] at e;subst e;rfl
 | x::post,pre,e=>by
   have hx:L[pre.length]? = some x:=by rw [e,List.getElem?_append_right nL,Nat.sub_self];rfl
   have hxm:=List.mem_of_getElem? hx
   have hok:=lowsL_ok hL
   have hE:L.flatMap lowsP=pre.flatMap lowsP++(lowsP x++post.flatMap lowsP):=by rw [e,List.flatMap_append,List.flatMap_cons]
   have hr:=rd3_low (hL x hxm) (hE ▸ hok)
   rw [←hE] at hr
   rw [List.length_cons,stepGo,h0,h1,h2,getD_map _ hx,getD_map _ hx,getD_map _ hx,hr]
   show stepGo _ cs post.length (pre.length+1) (putsLen (pre.flatMap lowsP++lowsP x)) false (pre++[sqOf [numQ 0 x,numQ 1 x,numQ 2 x]])=_
   rw [sqOf_back (hL x hxm)]
   have e1:pre.length+1=(pre++[x]).length:=by rw [Zl,List.length_singleton]
   have e2:pre.flatMap lowsP++lowsP x=(pre++[x]).flatMap lowsP:=by rw [List.flatMap_append];simp
   rw [e1,e2]
   exact stepGo_back hL cs h0 h1 h2 post (pre++[x]) (by rw [e,Za];rfl)
theorem low_len {v:Nat} (h:v≤65535):putsLen (lowP v)≤15:=by
 unfold lowP
 split
 ·have:=bitLen_most16 h
  show Lib.bitLen v-1+0≤15;omega
 ·exact Nat.zero_le _
theorem lows_len:∀ {L:List Sq},(∀ x∈L,SmallQ x)→putsLen (L.flatMap lowsP)≤45*L.length
 | [],_=>Nat.zero_le _
 | x::r,h=>by
   have h1:=lows_len (fun y hy=>h y (List.mem_cons_of_mem _ hy))
   have hx:=h x List.mem_cons_self
   have a0:=low_len (numQ_le hx 0)
   have a1:=low_len (numQ_le hx 1)
   have a2:=low_len (numQ_le hx 2)
   rw [List.flatMap_cons,putsLen_append,List.length_cons]
   have e:putsLen (lowsP x)=putsLen (lowP (numQ 0 x))+(putsLen (lowP (numQ 1 x))+putsLen (lowP (numQ 2 x))):=by
    unfold lowsP
    rw [putsLen_append,putsLen_append]
   omega
theorem rest_len {L:List Sq} (h:∀ x∈L,SmallQ x):(restB L).length≤6*L.length+1:=by
 have h1:=puts_length (lowsL_ok h)
 have h2:=lows_len h
 show (bytesS (putsS w0 (L.flatMap lowsP))).length≤_
 rw [h1];omega
theorem steps_back {L:List Sq} {B:List UInt8} {n:Nat} (h:StepsB L B) (hL:∀ x∈L,SmallQ x) (hn:L.length≤n/4) (hn2:n≤65536) (tail:List UInt8):stepsL (B++tail) n=some (L,tail):=by
 have hsym:∀ k,∀ x∈L,symQ k x<17:=fun k x hx=>by
  have:=bitLen_most16 (numQ_le (hL x hx) k)
  unfold symQ;omega
 rcases h with ⟨rfl,rfl⟩|⟨hne,b0,b1,b2,hb0,hb1,hb2,rfl⟩
 ·unfold stepsL
  rw [pkNum_back (by omega) (by omega)]
  simp only [stepsMany]
  rw [if_pos trivial,List.drop_left]
 ·have hlen0:L.length≠0:=fun e=>hne (List.eq_nil_of_length_eq_zero e)
  have hrl:=rest_len hL
  unfold stepsL
  rw [Za,pkNum_back (by omega) (by omega)]
  show (if L.length=0 then _ else stepsCodes L.length (str3 L.length 3 ((numB 5 L.length++((b0++(b1++(b2++(numB 5 (restB L).length++restB L))))++tail)).drop (numB 5 L.length).length) []))=_
  rw [if_neg hlen0,List.drop_left]
  have e:(b0++(b1++(b2++(numB 5 (restB L).length++restB L))))++tail=b0++(b1++(b2++(numB 5 (restB L).length++(restB L++tail)))):=by simp
  have h3:str3 L.length 3 (b0++(b1++(b2++(numB 5 (restB L).length++(restB L++tail))))) []=some ([L.map (symQ 0),L.map (symQ 1),L.map (symQ 2)],numB 5 (restB L).length++(restB L++tail)):=by
   rw [str3,str_back hb0 (by omega) (hsym 0)]
   show str3 L.length 2 (b1++_) [L.map (symQ 0)]=_
   rw [str3,str_back hb1 (by omega) (hsym 1)]
   show str3 L.length 1 (b2++_) [L.map (symQ 0),L.map (symQ 1)]=_
   rw [str3,str_back hb2 (by omega) (hsym 2)]
   rfl
  rw [e,h3]
  show stepsNum L.length [L.map (symQ 0),L.map (symQ 1),L.map (symQ 2)] (numB 5 (restB L).length++(restB L++tail)) (pkNum (numB 5 (restB L).length++(restB L++tail)) ((numB 5 (restB L).length++(restB L++tail)).length:Int))=_
  rw [pkNum_back (by omega) (by simp only [Zl];omega)]
  show (if ((numB 5 (restB L).length++(restB L++tail)).drop (numB 5 (restB L).length).length).length<(restB L).length then none else stepsEnd (((numB 5 (restB L).length++(restB L++tail)).drop (numB 5 (restB L).length).length).take (restB L).length) (((numB 5 (restB L).length++(restB L++tail)).drop (numB 5 (restB L).length).length).drop (restB L).length)
   (stepGo (((numB 5 (restB L).length++(restB L++tail)).drop (numB 5 (restB L).length).length).take (restB L).length) (fun k=>[L.map (symQ 0),L.map (symQ 1),L.map (symQ 2)].getD k []) L.length 0 0 false []))=_
  rw [List.drop_left,List.take_left,List.drop_left,if_neg (by rw [Zl];omega)]
  have hgo:=stepGo_back hL (fun k=>[L.map (symQ 0),L.map (symQ 1),L.map (symQ 2)].getD k []) rfl rfl rfl L [] rfl
  have hgo':stepGo (restB L) (fun k=>[L.map (symQ 0),L.map (symQ 1),L.map (symQ 2)].getD k []) L.length 0 0 false []=(putsLen (L.flatMap lowsP),false,L):=hgo
  rw [hgo']
  have hok:=lowsL_ok hL
  have hlen:(restB L).length=(putsLen (L.flatMap lowsP)+7)/8:=puts_length hok
  have hz:∀ k,numAt (restB L) (putsLen (L.flatMap lowsP)) k=0:=fun k=>rest_puts hok k
  show (if false=true∨numAt (restB L) (putsLen (L.flatMap lowsP)) ((8*(restB L).length-putsLen (L.flatMap lowsP))%8)≠0∨0<8*(restB L).length-(putsLen (L.flatMap lowsP)+(8*(restB L).length-putsLen (L.flatMap lowsP))%8) then none else some (L,tail))=_
  rw [hz,if_neg]
  rintro (h|h|h)
  ·cases h
  ·exact h rfl
  ·rw [hlen] at h;omega
theorem pack_back {d B:List UInt8} (h:BestB d B) (hd:d.length≤65536) (tail:List UInt8):∃ mode:UInt8,(d.length=0→mode=0)∧∀ most:Int,0≤most→most≤65536 →
 unpackL (B++tail) most=if most<(d.length:Int) then (11,[]) else endL mode d.length (some (d,tail)):=by
 have key:∀ (mode:UInt8) (body:List UInt8),¬2<mode.toNat→bodyL mode d.length (body++tail)=some (d,tail)→∀ most:Int,0≤most→most≤65536 →
  unpackL ((mode::(numB 5 d.length++body))++tail) most=if most<(d.length:Int) then (11,[]) else endL mode d.length (some (d,tail)):=by
  intro mode body hm hb most h0 h1
  unfold unpackL
  rw [if_neg (by omega)]
  show (if 2<mode.toNat then (5,[]) else numL mode ((numB 5 d.length++body)++tail) most (pkNum ((numB 5 d.length++body)++tail) 4294967295))=_
  rw [if_neg hm,Za,pkNum_back (by omega) (by omega)]
  show (if most<(d.length:Int) then (11,[]) else endL mode d.length (bodyL mode d.length ((numB 5 d.length++(body++tail)).drop (numB 5 d.length).length)))=_
  rw [List.drop_left,hb]
 cases h with
 | raw hr=>
   refine ⟨0,fun _=>rfl,key 0 d (by decide) ?_⟩
   unfold bodyL takeE
   rw [if_pos rfl,if_neg (by rw [Zl];omega),List.take_left,List.drop_left]
 | run x h1 hx=>
   refine ⟨1,fun e=>by omega,key 1 [x] (by decide) ?_⟩
   show (if (1:UInt8)=0 then _ else if (1:UInt8)=1 then some (List.replicate d.length x,tail) else _)=_
   rw [if_neg (by decide),if_pos rfl,←hx]
 | packed L b c h0 hL hb hc hlt hrun=>
   have hlen0:d.length≠0:=fun e=>h0 (List.eq_nil_of_length_eq_zero e)
   refine ⟨2,fun e=>absurd e hlen0,?_⟩
   have hk:=key 2 (b++c) (by decide) (by
    show (if (2:UInt8)=0 then _ else if (2:UInt8)=1 then _ else runLits d.length (litL ((b++c)++tail) d.length))=_
    have hll:=litsL_len L d
    have hmany:=hL.many
    rw [if_neg (by decide),if_neg (by decide),Za,lits_back hb hll hd]
    show runSteps (litsL d L) d.length (stepsL (c++tail) d.length)=_
    rw [steps_back hc (hL.small hd) (by omega) hd]
    show ((runL (litsL d L) L d.length).bind fun out=>some (out,tail))=_
    rw [run_back hL]
    rfl)
   intro most h1 h2
   have:=hk most h1 h2
   rw [←Za] at this
   exact this
def strsB:Nat→List Sq→List UInt8→Prop
 | 0,_,B=>B=[]
 | k+1,L,B=>∃ B1 b,strsB k L B1∧StrB k L b∧B=B1++b
theorem fn_any {k:Nat} (hk:k<3):∃ fn:FuncId,(∀ w:World,(Instr.index 193 (.agg #[.func (.func 137) #[] #[],.func (.func 138) #[] #[],.func (.func 139) #[] #[]]) (.int .i64 (k:Int))).run Tryz.prog w=.ok (.func (.func fn) #[] #[]) w) ∧
 (∀ (args:Array Value) (w:World),(callFunc fn args).run Tryz.prog w=.ok (.enter fn args) w) ∧
 ∀ (x:Sq) (w:World),SmallQ x→Calls Tryz.prog fn #[sqV x] w fun e w'=>e=.returned (.int .i64 ((numQ k x:Nat):Int))∧Below w.heap.size w w':=by
 obtain rfl|rfl|rfl:k=0∨k=1∨k=2:=by omega
 ·exact ⟨137,fun w=>by kernel_rfl,fun args w=>by kernel_rfl,fun x w h=>packStr1 x w⟩
 ·exact ⟨138,fun w=>by kernel_rfl,fun args w=>by kernel_rfl,fun x w h=>packStr2 x w h.2.1 h.2.2.1⟩
 ·exact ⟨139,fun w=>by kernel_rfl,fun args w=>by kernel_rfl,fun x w h=>packStr3 x w h.2.2.2.1 h.2.2.2.2⟩
def cntQ (k:Nat) (L:List Sq) (i:Nat):List Nat:=incT (List.replicate 17 0) ((L.take i).map (symQ k))
def symsQ (k:Nat) (L:List Sq) (i:Nat):List Nat:=(L.take i).map (symQ k)
theorem cntQ_step {k:Nat} {L:List Sq} {i:Nat} {x:Sq} (h:L[i]? = some x):cntQ k L (i+1)=(cntQ k L i).set (symQ k x) ((cntQ k L i).getD (symQ k x) 0+1):=by
 unfold cntQ
 rw [List.take_add_one,h,List.map_append]
 exact incT_snoc _ _ _
theorem symsQ_step {k:Nat} {L:List Sq} {i:Nat} {x:Sq} (h:L[i]? = some x):symsQ k L (i+1)=symsQ k L i++[symQ k x]:=by
 unfold symsQ
 rw [List.take_add_one,h,List.map_append];rfl
theorem cntQ_le (k:Nat) (L:List Sq) (i p:Nat):(cntQ k L i).getD p 0≤i:=by
 have h:=incT_le ((L.take i).map (symQ k)) (List.replicate 17 0) p
 rw [zeros_getD,List.length_map,List.length_take] at h
 unfold cntQ;omega
theorem cntQ_all {k:Nat} {L:List Sq} {i:Nat} (h:i=L.length):cntQ k L i=incT (List.replicate 17 0) (L.map (symQ k)):=by
 subst h;unfold cntQ;rw [List.take_length]
theorem symsQ_all {k:Nat} {L:List Sq} {i:Nat} (h:i=L.length):symsQ k L i=L.map (symQ k):=by
 subst h;unfold symsQ;rw [List.take_length]
theorem symQ_lt {L:List Sq} (hq:∀ x∈L,SmallQ x) (k:Nat):∀ x∈L,symQ k x<17:=fun x hx=>by
 have:=bitLen_most16 (numQ_le (hq x hx) k)
 unfold symQ;omega
theorem shareB_len (sh:List Nat):(shareB sh).length≤7+6*sh.length:=by
 have h1:=flat_len 5 sh
 have h2:=numB_len 5 sh.length
 unfold shareB
 simp only [Zl,List.length_singleton]
 omega
theorem getD_all_le {l:List Nat} {m:Nat} (h:∀ p,l.getD p 0≤m):∀ x∈l,x≤m:=fun x hx=>by
 obtain ⟨i,hi,rfl⟩:=List.getElem_of_mem hx
 have:=h i
 rwa [List.getD,Zg hi,Option.getD_some] at this
theorem WrS.put2 {w:World} {B g:Nat} {S:WSt} (h:WrS w B g S) (k v:Nat) (hk:k≤32) (hv:v<2^k) (hlen:wLen S≤800000000000):
 Calls Tryz.prog 111 #[.pointer (some ⟨g,0,none⟩),.int .i64 (k:Int),.int .i64 (v:Int)] w fun e w'=>e=.returned (.int .i64 0)∧WrS w' B g (putS S k v)∧Below B w w' ∧
  ∀ (p:Nat) (cs:Array Value),Blk w p 183 cs→Blk w' p 183 cs:=by
 obtain ⟨A,c,hw⟩:=h.wr
 refine (wrPut B g S.1 S.2.1 S.2.2 A c k v w hw h.ok.1 h.ok.2 hk hv (wLen_bytes (m:=1000000000000) (by omega))).mono ?_
 rintro e w' ⟨rfl,hb,ht,A',c',hw',-⟩
 exact ⟨rfl,⟨⟨A',c',hw'⟩,(putS_facts h.ok hk hv).1⟩,hb,fun p cs hp=>ht.blk hp (Blk.ne hp hw.blk (by decide)) (Own.ne_blk hw.own hp (by decide))⟩
def lowsQ (x:Sq):Nat→List (Nat × Nat)
 | 0=>[]
 | k+1=>lowsQ x k++lowP (numQ k x)
theorem lowsQ_three (x:Sq):lowsQ x 3=lowsP x:=by
 unfold lowsP
 show (([]++lowP (numQ 0 x))++lowP (numQ 1 x))++lowP (numQ 2 x)=_
 rw [List.nil_append,Za]
theorem putsS_one (S:WSt) (a b:Nat):putsS S [(a,b)]=putS S a b:=rfl
theorem low_int {v b:Nat} (hv:v≤65535) (hb:2^b≤v):wrap64 ((v:Int)-wrap64 (2^b))=((v-2^b:Nat):Int):=by
 have e:(2:Int)^b=((2^b:Nat):Int):=by push_cast;rfl
 have h:=Nat.sub_le v (2^b)
 rw [e,wrap64_nat (by omega),show (v:Int)-((2^b:Nat):Int)=((v-2^b:Nat):Int) by omega,wrap64_nat (Nat.lt_of_le_of_lt h (by omega))]
theorem packSteps (A0:OA) (n0 c0:Nat) (out:List UInt8) (A:OA) (n c:Nat) (L:List Sq) (w:World) (h0:out.length=n0) (hr0:Bs w A0 out) (hn0:n0≤400000) (hl:L.length=n) (hr:Ss w A L) (hq:∀ x∈L,SmallQ x) (hn:n≤65536):
 Calls Tryz.prog 76 #[.slice A0 n0 c0,.slice A n c] w fun e w'=>∃ S m cs B,e=.returned (.slice S m cs)∧OwnB w' w.heap.size S m cs (out++B)∧StepsB L B∧Below w.heap.size w w':=by
 have HPN:=Lh (putNum A0 n0 c0 out n w h0 hr0 (by omega) (by omega))
 have H0:=Lh h0
 have HL:=Lh hl
 have HR:=Lh hr
 have HQ:=Lh hq
 clear h0 hr0 hl hr hq
 go_enter Tryz.func76,Tryz.ntmps76
 go_wp2_with fail
 refine HPN.out.mono ?_
 rintro e w1 ⟨A1,m1,c1,rfl,hown1,hb1⟩
 have hm1:=OwnB.length hown1
 have hnb:=numB_len 5 n
 rw [Zl,H0.out] at hm1
 have HO1:=Lh hown1
 have HB1:=Lh hb1
 clear hown1 hb1 HPN
 rcases Nat.eq_zero_or_pos n with hz|hpos
 ·subst hz
  go_wp2
  go_ret
  refine ⟨A1,m1,c1,numB 5 0,rfl,HO1.out,.inl ⟨List.eq_nil_of_length_eq_zero HL.out,rfl⟩,HB1.out⟩
 have g1:((n:Int)==0)=false:=bF (by omega)
 have HS:=Lh (packStreams w1)
 go_wp2_with fail
 refine HS.out.mono ?_
 rintro e w2 ⟨rfl,hb2⟩
 have HB2:=Lh (HB1.out.trans (hb2.mono HB1.out.size))
 have HO2:=Lh (Own.later HO1.out hb2)
 clear hb2 HS HB1 HO1
 go_wp2_with fail
 go_loopg [0,37] 3 (fun gg s0 s37 wr=>∃ (k m co:Nat) (Ao:OA) (B1:List UInt8),k≤3∧3-k≤gg∧s0=.slice Ao m co∧s37=.int .i64 (k:Int)∧OwnB wr w.heap.size Ao m co (out++numB 5 n++B1)∧strsB k L B1∧B1.length≤k*(6*n+10000)∧Below w.heap.size w wr)
 case atStart=>exact ⟨0,m1,c1,A1,[],by omega,by omega,rfl,rfl,by rw [List.append_nil];exact HO2.out,rfl,by simp,HB2.out⟩
 case round=>
  clear HO2 HB2
  obtain ⟨k,m,co,Ao,B1,hk,hgg,rfl,rfl,hown,hst,hlen,hbel⟩:=hrel
  have HO:=Lh hown
  have HSt:=Lh hst
  have HB:=Lh hbel
  clear hown hst hbel
  by_cases hk3:k<3
  ·obtain ⟨fn,hix,hin,hfn⟩:=fn_any hk3
   have HFn:=Lh hfn
   clear hfn
   obtain ⟨ti,hi,hz0,hz1,hz2⟩:=info_parts elemN_info
   go_wp2_with (at_make;refine wpList_make_full _ rfl _ _ 43 rfl wr.heap.size 3 ti _ 1 Tryz.underlying43 hi hz0 hz1 .i64 .i64 17 17 17 rfl rfl rfl rfl (by rw [hz2];omega) (by unfold maxLen;omega) nL ?_)
   intro w3 hown3 hg3
   rw [made_zeros] at hown3
   have hlt3:=(Own.lt hown3 (k:=wr.heap.size) rfl).2
   have HO3:=Lh (show OwnN w3 wr.heap.size (some ⟨wr.heap.size,0,none⟩) 17 17 (cntQ k L 0) from hown3)
   have HB3:=Lh ((Below.refl _ _).grown hg3 nL (fun k hk=>by cases hk):Below wr.heap.size wr w3)
   clear hown3 hg3 hi hz0 hz1 hz2 hix
   go_wp2_with fail
   obtain ⟨wo,rfl⟩:∃ wo:World,wo=wr:=⟨_,rfl⟩
   go_loopg [8,43] n (fun gh s8 s43 wr=>∃ (i cs:Nat) (As:OA),i≤n∧n-i≤gh∧s8=.slice As i cs∧s43=.int .i64 (i:Int)∧OwnN wr wo.heap.size (some ⟨wo.heap.size,0,none⟩) 17 17 (cntQ k L i)∧OwnN wr w3.heap.size As i cs (symsQ k L i)∧Below wo.heap.size wo wr∧w3.heap.size≤wr.heap.size)
   case atStart=>exact ⟨0,0,none,by omega,by omega,rfl,rfl,HO3.out,OwnN.nil _ _,HB3.out,Nat.le_refl _⟩
   case round=>
    clear HO3 HB3
    obtain ⟨i,cs,As,hi,hgi,rfl,rfl,hoc,hos,hbel,hsz⟩:=hrel
    have HOC:=Lh hoc
    have HOS:=Lh hos
    have HBi:=Lh hbel
    clear hoc hos hbel
    by_cases hin':i<n
    ·obtain ⟨b,o,x,hA,hx,d0,d1,d2⟩:=((HR.out.later HB.out).later HBi.out).at_ (by rw [HL.out];exact hin':i<L.length)
     subst hA
     have hxq:=HQ.out x (List.mem_of_getElem? hx)
     have HC1:=Lh (cntQ_step (k:=k) hx)
     have HC2:=Lh (symsQ_step (k:=k) hx)
     obtain ⟨v,hv⟩:∃ v,v=numQ k x:=⟨_,rfl⟩
     have hvb:v≤65535:=by rw [hv];exact numQ_le hxq k
     obtain ⟨sy,hsy⟩:∃ sy,sy=Lib.bitLen v:=⟨_,rfl⟩
     have hsyb:sy≤16:=by rw [hsy];exact bitLen_most16 hvb
     have HSy:=Lh (show symQ k x=sy by rw [hsy,hv];rfl)
     have HCall:=Lh (HFn.out x (wr.alloc (.cells #[.int .i64 (x.lits:Int),.int .i64 (x.len:Int),.int .i64 (x.dist:Int)] 183)) hxq)
     rw [←hv] at HCall
     have HV:=Lh hsy
     have HBa:=Lh (HBi.out.alloc HBi.out.size (.cells #[.int .i64 (x.lits:Int),.int .i64 (x.len:Int),.int .i64 (x.dist:Int)] 183))
     clear hx hv hsy hxq
     obtain ⟨x1,x2,x3⟩:=x
     simp only at d0 d1 d2 HBa HCall
     unfold sqV at HCall
     simp only at HCall
     go_wp2_with fail
     refine HCall.out.mono ?_
     rintro e w5 ⟨rfl,hb5⟩
     have HB5:=Lh (HBa.out.trans (hb5.mono HBa.out.size))
     have hall:Below wr.heap.size wr w5:=((Below.refl _ _).alloc nL _).trans (hb5.mono (by simp))
     have HOC5:=Lh (Own.later HOC.out hall)
     have HOS5:=Lh (Own.later HOS.out hall)
     have hs5:=hall.size
     have HCode:=Lh (packCode v w5 hvb)
     rw [←HV.out] at HCode
     clear hb5 hall HCall HBa HOC HOS d0 d1 d2
     go_wp2_with fail
     refine HCode.out.mono ?_
     rintro e w6 ⟨rfl,rfl⟩
     obtain ⟨gz,xz,hgz,hg1,-,hxz,hcz,hfz⟩:=Own.at_ HOC5.out (k:=sy) (by omega)
     cases hgz
     obtain ⟨q,hq⟩:∃ q,q=(cntQ k L i).getD sy 0:=⟨_,rfl⟩
     have hqk:q≤i:=by rw [hq];exact cntQ_le k L i _
     have hxv:xz=.int .i64 (q:Int):=by
      rw [List.getElem?_map] at hxz
      rw [hq,List.getD]
      cases hh:(cntQ k L i)[sy]? with
      | none=>rw [hh] at hxz;cases hxz
      | some q=>rw [hh] at hxz;exact (Option.some.inj hxz).symm
     subst hxv
     have HOC6:=Lh (show OwnN (w6.setCell ⟨wo.heap.size,sy,none⟩ (.int .i64 ((q:Int)+1))) wo.heap.size (some ⟨wo.heap.size,0,none⟩) 17 17 (cntQ k L (i+1)) from by
      have h:=(Own.stored HOC5.out sy (natv (q+1))).1
      rw [←List.map_set,hq] at h
      rw [HC1.out,HSy.out]
      have e:natv ((cntQ k L i).getD sy 0+1)=.int .i64 ((q:Int)+1):=by unfold natv;rw [Int.natCast_add,hq];rfl
      rw [←e]
      exact h)
     have hne:bk As≠some wo.heap.size:=by
      intro he
      have:=(Own.lt HOS5.out he).1
      omega
     have HOS6:=Lh (Own.setCell HOS5.out (p:=⟨wo.heap.size,sy,none⟩) hne (.int .i64 ((q:Int)+1)))
     have HB6:=Lh (HB5.out.setCell (p:=⟨wo.heap.size,sy,none⟩) nL (.int .i64 ((q:Int)+1)))
     have hs6:(w6.setCell ⟨wo.heap.size,sy,none⟩ (.int .i64 ((q:Int)+1))).heap.size=w6.heap.size:=by simp
     have i1:(0:Int)≤(sy:Int):=by omega
     have i2:(sy:Int)<17:=by omega
     clear hxz hq HCode HOC5 HOS5 HB5
     go_wp2_with (at_builtin;refine wpList_append_one rfl _ _ elemN rfl w3.heap.size As i cs ((symsQ k L i).map natv) (w6.setCell ⟨wo.heap.size,sy,none⟩ (.int .i64 ((q:Int)+1))) (.int .i64 (sy:Int)) rfl rfl HOS6.out ?hx rfl ?d1 ?d2 ?d3 ?_)
     case hx=>simp [Act.eval]
     case d1=>omega
     case d2=>omega
     case d3=>omega
     intro A' c' w7 hown7 hb7 hgr7 hat7
     have HOS7:=Lh (show OwnN w7 w3.heap.size A' (i+1) c' (symsQ k L (i+1)) from by
      rw [HC2.out,HSy.out];exact ownN_snoc hown7)
     have HOC7:=Lh (Own.kept HOC6.out hgr7 (.inr (fun e=>hne e.symm)))
     have HB7:=Lh (HB6.out.trans (hb7.mono (by omega)))
     have hs7:=hb7.size
     clear hown7 hb7 hgr7 hat7 hcz hfz
     go_wp2
     go_roundg (n-(i+1))
     case measure=>omega
     case rel=>exact ⟨i+1,c',A',by omega,by omega,rfl,by go_num,HOC7.out,HOS7.out,HB7.out,by omega⟩
    ·obtain rfl:i=n:=by omega
     have hcl:(cntQ k L i).length=17:=OwnN.length HOC.out
     have hca:cntQ k L i=incT (List.replicate 17 0) (L.map (symQ k)):=cntQ_all HL.out.symm
     have hsa:symsQ k L i=L.map (symQ k):=symsQ_all HL.out.symm
     have hs17:=symQ_lt HQ.out k
     have hcb:∀ x∈cntQ k L i,x≤65536:=getD_all_le (fun p=>by have:=cntQ_le k L i p;omega)
     have hp0:∀ s∈L.map (symQ k),0<(cntQ k L i).getD s 0:=by
      intro s hs
      rw [hca]
      obtain ⟨x,hx,rfl⟩:=List.mem_map.1 hs
      exact incT_pos _ _ _ hs (by rw [List.length_replicate];exact hs17 x hx)
     have hnz0:0<nz (cntQ k L i):=by
      obtain ⟨x,hx⟩:∃ x,x∈L:=by
       cases hq:L with
       | nil=>have h:=HL.out;rw [hq] at h;simp at h;omega
       | cons b r=>exact ⟨b,List.mem_cons_self⟩
      exact nz_posC (hp0 _ (List.mem_map_of_mem hx))
     have hnz1:nz (cntQ k L i)≤32:=by have:=nz_leC (cntQ k L i);omega
     have HSh:=Lh (fseShare (some ⟨wo.heap.size,0,none⟩) 17 17 (cntQ k L i) wr hcl (OwnN.ns HOC.out) (by omega) hcb hnz0 hnz1)
     have HP0:=Lh hp0
     have HCa:=Lh hca
     have HSa:=Lh hsa
     clear hca hsa hs17 hcb hp0 hnz0 hnz1
     go_wp2_with fail
     refine HSh.out.mono ?_
     rintro e w5 ⟨S5,m5,c5,sh,rfl,hown5,hsh,hb5⟩
     have hm5:=OwnN.length hown5
     have hmay:=hsh.may (by omega)
     have hshl:=hsh.len
     have HMay:=Lh hmay
     have HShOk:=Lh hsh
     have HO5:=Lh hown5
     have HSy5:=Lh (Own.later HOS.out hb5)
     have HB5:=Lh (HBi.out.trans (hb5.mono HBi.out.size))
     have HPS:=Lh (fsePutShare S5 m5 c5 sh w5 hm5 (OwnN.ns hown5) hmay)
     clear hown5 hsh hb5 HSh hmay HOC HOS HBi
     go_wp2_with fail
     refine HPS.out.mono ?_
     rintro e w6 ⟨S6,m6,c6,rfl,hown6,hb6⟩
     have hm6:=OwnB.length hown6
     have htl:=shareB_len sh
     rw [hm6] at htl
     have HO6:=Lh hown6
     have HB6:=Lh (HB5.out.trans (hb6.mono HB5.out.size))
     have HEn:=Lh (fseEncode S5 m5 c5 sh As i cs (symsQ k L i) w6 hm5 ((OwnN.ns HO5.out).later hb6) HMay.out (OwnN.length HSy5.out) ((OwnN.ns HSy5.out).later hb6) (by omega) (by
      rw [HSa.out]
      intro s hs
      have h1:=HShOk.out.has s (HP0.out s hs)
      refine ⟨?_,h1⟩
      rw [←hm5]
      rcases Nat.lt_or_ge s sh.length with h|h
      ·exact h
      ·rw [getD_out h] at h1;omega))
     clear hown6 hb6 HPS HB5 HSy5 HO5
     go_wp2_with fail
     refine HEn.out.mono ?_
     rintro e w7 ⟨S7,m7,c7,rfl,hown7,hb7⟩
     have HO7:=Lh hown7
     have HT7:=Lh (Own.later HO6.out hb7)
     have HB7:=Lh (HB6.out.trans (hb7.mono HB6.out.size))
     have hbB:=HB.out.size
     have hs6:=HB6.out.size
     have hne7:bk S7=none∨bk S7≠bk Ao:=by
      cases hq:bk S7 with
      | none=>exact .inl rfl
      | some b=>
        refine .inr fun e=>?_
        have h1:=(Own.lt HO7.out hq).1
        have h2:=(Own.lt HO.out e.symm).2
        omega
     have HBw:=Lh (HB.out.trans (HB7.out.mono hbB))
     have HOu:=Lh (Own.later HO.out HB7.out)
     have hml:=OwnB.length HO.out
     have hm7:=OwnB.length hown7
     have hel:m7≤6*i+16:=by
      rw [←hm7,HSa.out]
      have:=encodeL_len (sh:=sh) (l:=L.map (symQ k)) HShOk.out.sum (fun s hs=>HShOk.out.has s (HP0.out s hs))
      rw [List.length_map,HL.out] at this
      exact this
     clear hown7 hb7 HEn HO6 HB6 HB7 HO
     obtain ⟨tb,htb⟩:∃ tb,tb=shareB sh:=⟨_,rfl⟩
     obtain ⟨bd,hbd⟩:∃ bd,bd=encodeL sh (symsQ k L i):=⟨_,rfl⟩
     have HTb:=Lh htb
     have HBd:=Lh hbd
     rw [←htb] at HT7 hm6
     rw [←hbd] at HO7 hm7
     have hB7:=HBw.out.size
     simp only [Zl,H0.out] at hml
     have hk10:k*(6*i+10000)≤2*(6*i+10000):=Nat.mul_le_mul_right _ (by omega)
     have h10:(k+1)*(6*i+10000)=k*(6*i+10000)+(6*i+10000):=by rw [Nat.succ_mul]
     clear htb hbd
     go_wp2_with (at_builtin;refine wpList_append_rd rfl _ _ elemB rfl w.heap.size Ao m co ((out++numB 5 i++B1).map u8v) rfl HOu.out S6 m6 c6 (tb.map u8v) rfl ?a1 ?a2 (u8_one _) ?a3 ?a4 ?a5 ?_)
     case a1=>exact Own.rd HT7.out
     case a2=>rw [List.length_map];exact hm6
     case a3=>omega
     case a4=>omega
     case a5=>exact hB7
     intro A8 c8 w8 hown8 hb8 hg8 hat8
     have HO8:=Lh (show OwnB w8 w.heap.size A8 (m+m6) c8 (out++numB 5 i++B1++tb) from by unfold OwnB;simp only [List.map_append,Za] at hown8 ⊢;exact hown8)
     have HB8:=Lh (HBw.out.trans hb8)
     have HBd8:=Lh (Own.kept HO7.out hg8 hne7)
     have HP9:=Lh (putNum A8 (m+m6) c8 _ m7 w8 (OwnB.length HO8.out) (OwnB.bs HO8.out) (by omega) (by omega))
     clear hown8 hb8 hg8 hat8 HO7 HT7 HOu HBw
     go_wp2_with fail
     refine HP9.out.mono ?_
     rintro e w9 ⟨A9,m9,c9,rfl,hown9,hb9⟩
     have hm9:=OwnB.length hown9
     have hnb7:=numB_len 5 m7
     simp only [Zl,H0.out] at hm9
     have hs8:=HB8.out.size
     have HO9:=Lh (Own.mono hown9 hs8)
     have HB9:=Lh (HB8.out.trans (hb9.mono hs8))
     have HBd9:=Lh (Own.later HBd8.out hb9)
     clear hown9 hb9 HP9 HB8 HO8 HBd8
     go_wp2_with (at_builtin;refine wpList_append_rd rfl _ _ elemB rfl w.heap.size A9 m9 c9 ((out++numB 5 i++B1++tb++numB 5 m7).map u8v) rfl HO9.out S7 m7 c7 (bd.map u8v) rfl ?a1 ?a2 (u8_one _) ?a3 ?a4 ?a5 ?_)
     case a1=>exact Own.rd HBd9.out
     case a2=>rw [List.length_map];exact hm7
     case a3=>omega
     case a4=>omega
     case a5=>exact HB9.out.size
     intro A10 c10 w10 hown10 hb10 hg10 hat10
     have HO10:=Lh (show OwnB w10 w.heap.size A10 (m9+m7) c10 (out++numB 5 i++(B1++(tb++(numB 5 m7++bd)))) from by unfold OwnB;simp only [List.map_append,Za] at hown10 ⊢;exact hown10)
     have HB10:=Lh (HB9.out.trans hb10)
     have HStr:=Lh (show strsB (k+1) L (B1++(tb++(numB 5 m7++bd))) from
      ⟨B1,_,HSt.out,⟨sh,by rw [←HCa.out];exact HShOk.out,by rw [HTb.out,←hm7,HBd.out,HSa.out]⟩,rfl⟩)
     have HLen:=Lh (show (B1++(tb++(numB 5 m7++bd))).length≤(k+1)*(6*i+10000) from by
      simp only [Zl];omega)
     clear hown10 hb10 hg10 hat10 HO9 HB9 HBd9
     go_wp2
     go_roundg (3-(k+1))
     case measure=>omega
     case rel=>exact ⟨k+1,m9+m7,c10,A10,_,by omega,by omega,rfl,by go_num,HO10.out,HStr.out,HLen.out,HB10.out⟩
  ·obtain rfl:k=3:=by omega
   go_wp2_with fail
   obtain ⟨wo,rfl⟩:∃ wo:World,wo=wr:=⟨_,rfl⟩
   refine (wrNew _).mono ?_
   rintro e w3 ⟨rfl,hw3,hb3⟩
   have HW3:=Lh hw3
   have HB3:=Lh hb3
   clear hw3 hb3
   go_wp2_with fail
   go_loopg [94] n (fun gh s94 wr=>∃ (i:Nat) (S:WSt),i≤n∧n-i≤gh∧s94=.int .i64 (i:Int)∧WrS wr wo.heap.size wo.heap.size S∧putsS w0 ((L.take i).flatMap lowsP)=S∧wLen S≤45*i∧Below wo.heap.size wo wr)
   case atStart=>exact ⟨0,w0,by omega,by omega,rfl,HW3.out,rfl,by show 8*0+0≤_;omega,HB3.out⟩
   case round=>
    clear HW3 HB3
    obtain ⟨i,S,hi,hgi,rfl,hw,hS,hwl,hbel⟩:=hrel
    have HW:=Lh hw
    have HSS:=Lh hS
    have HBi:=Lh hbel
    clear hw hS hbel
    obtain ⟨wi,rfl⟩:∃ wi:World,wi=wr:=⟨_,rfl⟩
    by_cases hin':i<n
    ·obtain ⟨b,o,x,hA,hx,d0,d1,d2⟩:=((HR.out.later HB.out).later HBi.out).at_ (by rw [HL.out];exact hin':i<L.length)
     subst hA
     have HXq:=Lh (HQ.out x (List.mem_of_getElem? hx))
     have HF:=Lh (flatMap_step lowsP hx)
     have hall:Below wi.heap.size wi (wi.alloc (.cells #[.int .i64 (x.lits:Int),.int .i64 (x.len:Int),.int .i64 (x.dist:Int)] 183)):=(Below.refl _ _).alloc nL _
     have HBa:=Lh (HBi.out.alloc HBi.out.size (.cells #[.int .i64 (x.lits:Int),.int .i64 (x.len:Int),.int .i64 (x.dist:Int)] 183))
     have HWa:=Lh (HW.out.later hall)
     have HK:=Lh (Blk.new wi 183 #[.int .i64 (x.lits:Int),.int .i64 (x.len:Int),.int .i64 (x.dist:Int)])
     have HSt2:=Lh (packStreams (wi.alloc (.cells #[.int .i64 (x.lits:Int),.int .i64 (x.len:Int),.int .i64 (x.dist:Int)] 183)))
     clear hx hall
     obtain ⟨x1,x2,x3⟩:=x
     simp only at d0 d1 d2 HBa HWa HK HSt2
     go_wp2_with fail
     refine HSt2.out.mono ?_
     rintro e w4 ⟨rfl,hb4⟩
     have HB4:=Lh (HBa.out.trans (hb4.mono HBa.out.size))
     have HW4:=Lh (HWa.out.later hb4)
     have HK4:=Lh (HK.out.later hb4)
     obtain ⟨pb,hpb⟩:∃ pb,pb=wi.heap.size:=⟨_,rfl⟩
     rw [←hpb] at HK4 ⊢
     clear hpb hb4 HSt2 HBa HWa HK d0 d1 d2
     go_wp2_with fail
     go_loopg [99] 3 (fun gj s99 wr=>∃ (k:Nat) (S':WSt),k≤3∧3-k≤gj∧s99=.int .i64 (k:Int)∧WrS wr wo.heap.size wo.heap.size S'∧putsS S (lowsQ ⟨x1,x2,x3⟩ k)=S'∧wLen S'≤45*i+15*k∧Blk wr pb 183 #[.int .i64 (x1:Int),.int .i64 (x2:Int),.int .i64 (x3:Int)]∧Below wo.heap.size wo wr)
     case atStart=>exact ⟨0,S,by omega,by omega,rfl,HW4.out,rfl,by omega,HK4.out,HB4.out⟩
     case round=>
      clear HW4 HK4 HB4
      obtain ⟨k,S',hk,hgj,rfl,hw,hS,hwl',hblk,hbel⟩:=hrel
      have HW5:=Lh hw
      have HS5:=Lh hS
      have HK5:=Lh hblk
      have HB5:=Lh hbel
      clear hw hS hblk hbel
      by_cases hk3:k<3
      ·obtain ⟨fn,hix,hin,hfn⟩:=fn_any hk3
       have HFn:=Lh hfn
       clear hfn
       have p0:=HK5.out.cell 0
       have p1:=HK5.out.cell 1
       have p2:=HK5.out.cell 2
       simp only [Zt,Zz,Zs] at p0 p1 p2
       have HCall:=Lh (HFn.out ⟨x1,x2,x3⟩ wr HXq.out)
       obtain ⟨v,hv⟩:∃ v,v=numQ k ⟨x1,x2,x3⟩:=⟨_,rfl⟩
       have hvb:v≤65535:=by rw [hv];exact numQ_le HXq.out k
       have HV:=Lh (show lowsQ ⟨x1,x2,x3⟩ (k+1)=lowsQ ⟨x1,x2,x3⟩ k++lowP v by rw [hv];rfl)
       rw [←hv] at HCall
       unfold sqV at HCall
       simp only at HCall
       clear hv
       go_wp2_with fail
       refine HCall.out.mono ?_
       rintro e w6 ⟨rfl,hb6⟩
       have HB6:=Lh (HB5.out.trans (hb6.mono HB5.out.size))
       have HW6:=Lh (HW5.out.later hb6)
       have HK6:=Lh (HK5.out.later hb6)
       clear hb6 HCall HB5 HW5 HK5 p0 p1 p2
       by_cases hv1:1<v
       ·have g3:decide ((1:Int)<(v:Int))=true:=qT (by omega)
        obtain ⟨hbl1,hbl2,hbl3,hbl4⟩:=bitLen_in (by omega:0<v) hvb
        have HCode:=Lh (packCode v w6 hvb)
        obtain ⟨bl,hbl⟩:∃ bl,bl=Lib.bitLen v:=⟨_,rfl⟩
        rw [←hbl] at HCode hbl1 hbl2 hbl3 hbl4
        have HBl:=Lh hbl
        clear hbl
        go_wp2_with fail
        refine HCode.out.mono ?_
        rintro e w7 ⟨rfl,rfl⟩
        go_wp2_with fail
        refine HCode.out.mono ?_
        rintro e w8 ⟨rfl,rfl⟩
        go_wp2_with fail
        have hlv:v-2^(bl-1)<2^(bl-1):=by
         have:2^bl=2^(bl-1)*2:=by rw [←Nat.pow_succ,show (bl-1).succ=bl by omega]
         omega
        have HPut:=Lh (HW6.out.put2 (bl-1) (v-2^(bl-1)) (by omega) hlv (by omega))
        have hl6:=(putS_facts (k:=bl-1) (v:=v-2^(bl-1)) HW6.out.ok (by omega) hlv).2
        have HS6:=Lh (show putsS S (lowsQ ⟨x1,x2,x3⟩ (k+1))=putS S' (bl-1) (v-2^(bl-1)) by
         rw [HV.out,putsS_append,HS5.out]
         have e:lowP v=[(bl-1,v-2^(bl-1))]:=by unfold lowP;rw [if_pos hv1,HBl.out]
         rw [e,putsS_one])
        rw [←low_int hvb hbl2,show ((bl-1:Nat):Int)=(bl:Int)-1 by omega] at HPut
        refine HPut.out.mono ?_
        rintro e w9 ⟨rfl,hw9,hb9,hk9⟩
        have HW9:=Lh hw9
        have HB9:=Lh (HB6.out.trans hb9)
        have HK9:=Lh (hk9 _ _ HK6.out)
        clear hw9 hb9 hk9 HPut HCode HK6 HW6 HB6 HS5 hlv hbl2 hbl3
        go_wp2
        go_roundg (3-(k+1))
        case measure=>omega
        case rel=>exact ⟨k+1,_,by omega,by omega,by go_num,HW9.out,HS6.out,by omega,HK9.out,HB9.out⟩
       ·have g3:decide ((1:Int)<(v:Int))=false:=qF (by omega)
        have HS6:=Lh (show putsS S (lowsQ ⟨x1,x2,x3⟩ (k+1))=S' by
         rw [HV.out,putsS_append,HS5.out]
         have e:lowP v=[]:=by unfold lowP;rw [if_neg hv1]
         rw [e];rfl)
        clear HS5
        go_wp2
        go_roundg (3-(k+1))
        case measure=>omega
        case rel=>exact ⟨k+1,S',by omega,by omega,by go_num,HW6.out,HS6.out,by omega,HK6.out,HB6.out⟩
      ·obtain rfl:k=3:=by omega
       have HS6:=Lh (show putsS w0 ((L.take (i+1)).flatMap lowsP)=S' by
        rw [HF.out,putsS_append,HSS.out,←HS5.out,lowsQ_three])
       clear HS5
       go_wp2
       go_roundg (n-(i+1))
       case measure=>omega
       case rel=>exact ⟨i+1,S',by omega,by omega,by go_num,HW5.out,HS6.out,by omega,HB5.out⟩
    ·obtain rfl:i=n:=by omega
     have hrl:(bytesS S).length≤45*i/8+1:=by
      have:=bytesS_len S
      omega
     have HRest:=Lh (show bytesS S=restB L by
      unfold restB
      rw [←HSS.out,List.take_of_length_le (by rw [HL.out];exact Nat.le_refl _)])
     have HBy:=Lh (HW.out.bytes (by omega))
     have hml:=OwnB.length HO.out
     simp only [Zl,H0.out] at hml
     go_wp2_with fail
     refine HBy.out.mono ?_
     rintro e w5 ⟨S5,m5,c5,rfl,hown5,hb5⟩
     have hm5:=OwnB.length hown5
     have hbB:=HB.out.size
     have hbi:=HBi.out.size
     have hb05:=HBi.out.trans (hb5.mono hbi)
     have HO5:=Lh hown5
     have HOu:=Lh (Own.later HO.out hb05)
     have HB5:=Lh (HB.out.trans (hb05.mono hbB))
     have HPN:=Lh (putNum Ao m co _ m5 w5 (OwnB.length HOu.out) (OwnB.bs HOu.out) (by omega) (by omega))
     clear hown5 hb5 HBy HO HW hb05
     go_wp2_with fail
     refine HPN.out.mono ?_
     rintro e w6 ⟨A6,m6,c6,rfl,hown6,hb6⟩
     have hm6:=OwnB.length hown6
     have hnb5:=numB_len 5 m5
     simp only [Zl,H0.out] at hm6
     have hs5:=HB5.out.size
     have HO6:=Lh (Own.mono hown6 hs5)
     have HB6:=Lh (HB5.out.trans (hb6.mono hs5))
     have HR6:=Lh (Own.later HO5.out hb6)
     obtain ⟨rb,hrb⟩:∃ rb,rb=bytesS S:=⟨_,rfl⟩
     have HRb:=Lh (hrb.trans HRest.out)
     rw [←hrb] at HR6 hm5 hrl
     clear hown6 hb6 HPN HB5 HOu HO5 hrb
     go_wp2_with (at_builtin;refine wpList_append_rd rfl _ _ elemB rfl w.heap.size A6 m6 c6 ((out++numB 5 i++B1++numB 5 m5).map u8v) ?hs HO6.out S5 m5 c5 (rb.map u8v) ?hx ?a1 ?a2 (u8_one _) ?a3 ?a4 ?a5 ?_;(case hs=>simp [Act.eval]);(case hx=>simp [Act.eval]))
     case a1=>exact Own.rd HR6.out
     case a2=>rw [List.length_map];exact hm5
     case a3=>omega
     case a4=>omega
     case a5=>exact HB6.out.size
     intro A7 c7 w7 hown7 hb7 hg7 hat7
     have HO7:=Lh (show OwnB w7 w.heap.size A7 (m6+m5) c7 (out++(numB 5 i++(B1++(numB 5 m5++rb)))) from by unfold OwnB;simp only [List.map_append,Za] at hown7 ⊢;exact hown7)
     have HB7:=Lh (HB6.out.trans hb7)
     clear hown7 hb7 hg7 hat7 HO6 HB6 HR6
     go_wp2
     go_ret
     refine ⟨A7,m6+m5,c7,_,rfl,HO7.out,.inr ⟨fun e=>?_,?_⟩,HB7.out⟩
     ·have h:=HL.out
      rw [e] at h;simp at h;omega
     ·obtain ⟨B2,b2,⟨B3,b1,⟨B4,b0,h00,h0,rfl⟩,h1,rfl⟩,h2,e2⟩:=HSt.out
      have h00:B4=[]:=h00
      subst h00
      refine ⟨b0,b1,b2,h0,h1,h2,?_⟩
      rw [HL.out,e2,←HRb.out,hm5]
      simp
theorem packHead (pd:Nat) (A:OA) (n c m:Nat) (w:World) (hm:m<256) (hn:n≤65536) (hc:w.cell? ⟨pd,0,none⟩=some (.slice A n c)):
 Calls Tryz.prog 71 #[.int .u8 (m:Int),.pointer (some ⟨pd,0,none⟩)] w fun e w'=>∃ S k cs,e=.returned (.slice S k cs)∧OwnB w' w.heap.size S k cs (UInt8.ofNat m::numB 5 n)∧Below w.heap.size w w':=by
 have hlt:=block_lt hc
 have hba:=(Below.refl w.heap.size w).alloc nL (.cells #[.int .u8 (m:Int)] 5)
 have e:u8v (UInt8.ofNat m)=.int .u8 (m:Int):=by
  unfold u8v
  rw [UInt8.toNat_ofNat',Nat.mod_eq_of_lt hm]
 have hr6:Bs (w.alloc (.cells #[.int .u8 (m:Int)] 5)) (some ⟨w.heap.size,0,none⟩) [UInt8.ofNat m]:=by
  unfold Bs
  rw [List.map_cons,List.map_nil,e]
  exact Rd.one w (.int .u8 (m:Int)) 5
 have HP:=Lh (putNum (some ⟨w.heap.size,0,none⟩) 1 1 [UInt8.ofNat m] n _ rfl hr6 (by omega) (by omega))
 have hc2:=(hba.cell (p:=⟨pd,0,none⟩) hlt).trans hc
 have HBa:=Lh hba
 clear hr6 e hba
 go_enter Tryz.func71,Tryz.ntmps71
 go_wp2_with fail
 refine HP.out.mono ?_
 rintro e w2 ⟨A2,m2,c2,rfl,hown2,hb2⟩
 have hsz:=HBa.out.size
 have HO2:=Lh (Own.mono hown2 hsz)
 have HB2:=Lh (HBa.out.trans (hb2.mono hsz))
 clear hown2 hb2 HP
 go_wp2
 go_ret
 exact ⟨A2,m2,c2,rfl,HO2.out,HB2.out⟩
theorem one_int (x:UInt8):∀ u∈[Value.int .u8 (x.toNat:Int)],u.oneCell'=true:=by
 intro u hu
 rw [List.mem_singleton] at hu
 subst hu;rfl
theorem countByte_nat (d:List UInt8) (x:UInt8):Lib.countByte (Lib.bytesOf (Lib.numsL d)) ((x.toNat:Int)).toNat.toUInt8=d.count x:=by
 rw [Lib.bytesOf_numsL]
 have e:((x.toNat:Int)).toNat.toUInt8=x:=by
  rw [Int.toNat_natCast]
  exact UInt8.ofNat_toNat
 rw [e];rfl
theorem run_iff {d:List UInt8} {x:UInt8} (h:d[0]? = some x):d.count x=d.length↔∃ y,d=List.replicate d.length y:=by
 rw [List.count_eq_length]
 constructor
 ·intro h2
  exact ⟨x,List.eq_replicate_iff.2 ⟨rfl,fun b hb=>(h2 b hb).symm⟩⟩
 ·rintro ⟨y,hy⟩ b hb
  have h3:=(List.eq_replicate_iff.1 hy).2
  rw [h3 b hb,h3 x (List.mem_of_getElem? h)]
def RunD (d:List UInt8):Prop:=1<d.length∧∃ y,d=List.replicate d.length y
theorem lits_pos {d:List UInt8} {L:List Sq} (h:FitL d 0 L) (h0:0<d.length):0<(litsL d L).length:=by
 cases L with
 | nil=>exact h0
 | cons x r=>
   obtain ⟨h1,h2,h3,h4,h5,-⟩:=h
   rw [litsL,Zl,List.length_take]
   omega
theorem litsB_len {l B:List UInt8} (h:LitsB l B) (hl:l.length≤65536):B.length≤140000:=by
 have h0:=numB_len 5 l.length
 rcases h with rfl|⟨lens,hL,rfl⟩
 ·rw [Zl,List.length_cons];omega
 ·have h1:=table_len hL.may
  have h2:=body_len (mayL_facts hL.may).2.2 l
  have h3:=numB_len 5 (bodyB lens l).length
  simp only [Zl,List.length_cons]
  omega
def BestO (d B:List UInt8):Prop:=
 (B=0::numB 5 d.length++d∧∀ x,1<d.length→d≠List.replicate d.length x)∨(∃ x,1<d.length∧d=List.replicate d.length x∧B=1::numB 5 d.length++[x])
theorem BestO.best {d B:List UInt8} (h:BestO d B):BestB d B:=by
 rcases h with ⟨rfl,h⟩|⟨x,h1,h2,rfl⟩
 ·exact .raw h
 ·exact .run x h1 h2
theorem BestO.less {d B b c:List UInt8} {L:List Sq} (h:BestO d B) (h0:d≠[]) (hL:FitL d 0 L) (hb:LitsB (litsL d L) b) (hc:StepsB L c) (hlt:(2::numB 5 d.length++b++c).length<B.length):BestB d (2::numB 5 d.length++b++c):=by
 rcases h with ⟨rfl,h⟩|⟨x,h1,h2,rfl⟩
 ·refine .packed L b c h0 hL hb hc ?_ (fun x h1 h2=>absurd h2 (h x h1))
  simp only [Zl,List.length_cons] at hlt ⊢
  omega
 ·refine .packed L b c h0 hL hb hc ?_ (fun x h1 h2=>?_)
  ·simp only [Zl,List.length_cons,List.length_nil] at hlt ⊢
   omega
  ·simp only [Zl,List.length_cons,List.length_nil] at hlt ⊢
   omega
theorem packPack (A:OA) (n c:Nat) (d:List UInt8) (w:World) (hl:d.length=n) (hr:Bs w A d) (hn:n≤65536) (hc:n≤c) (hc2:c≤9223372036854775807) (hlow:∀ b,bk A=some b→b<w.heap.size):
 Calls Tryz.prog 41 #[.slice A n c] w fun e w'=>∃ S m cs B,e=.returned (.tuple #[.slice S m cs,.int .i64 0])∧OwnB w' w.heap.size S m cs (B++sumOf d)∧BestB d B∧Below w.heap.size w w':=by
 have HL:=Lh hl
 have HR:=Lh hr
 have HLow:=Lh hlow
 have HBa:=Lh ((Below.refl w.heap.size w).alloc nL (.cells #[.slice A n c] 37))
 have HBn:=Lh (Blk.new w 37 #[.slice A n c])
 have g1:decide ((65536:Int)<(n:Int))=false:=qF (by omega)
 clear hl hr hlow
 go_enter Tryz.func41,Tryz.ntmps41
 go_wp2_with fail
 obtain ⟨wa,hwa⟩:∃ wa,wa=w.alloc (.cells #[.slice A n c] 37):=⟨_,rfl⟩
 obtain ⟨pd,hpd⟩:∃ pd,pd=w.heap.size:=⟨_,rfl⟩
 rw [←hwa,←hpd] at HBn ⊢
 rw [←hwa] at HBa
 have HPd:=Lh hpd
 clear hwa hpd
 have hcell:=HBn.out.cell 0
 simp only [Zt,Zz] at hcell
 have hplt:=HBn.out.lt
 have HH0:=Lh (fun (w1:World) (h:w1.cell? ⟨pd,0,none⟩=some (.slice A n c))=>packHead pd A n c 0 w1 (by omega) hn h)
 have HRa:=Lh (HR.out.later HBa.out)
 have hnb:=numB_len 5 n
 go_region_held3 (fun w'=>w'.cell? ⟨pd,0,none⟩=some (.slice A n c))
  (first|go_keep|(exact (hb1.cell (by simpa using hplt)).trans (by assumption))|(exact (hb2.cell (by simpa using hplt)).trans (by assumption)))
  ((first|(go_at_call 71;refine (HH0.out _ (by assumption)).mono ?_;rintro e w1 ⟨S1,m1,c1,rfl,hown1,hb1⟩)|(refine step_append_rd rfl _ _ elemB rfl wa.heap.size S1 m1 c1 _ rfl hown1 A n c (d.map u8v) rfl (Rd.later (HRa.out.later ((Below.refl _ _).drew)) hb1) (by rw [List.length_map];exact HL.out) (u8_one d) (by have:=OwnB.length hown1;rw [List.length_cons] at this;omega) (by have:=OwnB.length hown1;rw [List.length_cons] at this;omega) (by have:=hb1.size;simpa using this) ?_;intro A2 c2 w2 hown2 hb2 hg2 hat2)))
 have hm1:=OwnB.length hown1
 rw [List.length_cons] at hm1
 have hwa:=HBa.out.size
 have hb1':Below wa.heap.size wa w1:=(Below.refl _ _).drew.trans hb1
 have hb12:Below wa.heap.size wa w2:=hb1'.trans hb2
 have HO2:=Lh (show OwnB w2 w.heap.size A2 (m1+n) c2 (0::numB 5 n++d) from by
  have h:=Own.mono hown2 hwa
  unfold OwnB
  simp only [List.map_append,List.map_cons,List.cons_append] at h ⊢
  exact h)
 have HB2:=Lh (HBa.out.trans (hb12.mono hwa))
 have HK2:=Lh (HBn.out.later hb12)
 have HR2:=Lh (HRa.out.later hb12)
 have hlt2:=HK2.out.lt
 clear hown1 hb1 hb1' hb12 hown2 hb2 hg2 hat2 HBn HBa HRa hplt hcell
 have HH:=Lh (fun (m:Nat) (hm:m<256) (w1:World) (h:w1.cell? ⟨pd,0,none⟩=some (.slice A n c))=>packHead pd A n c m w1 hm hn h)
 clear HH0
 go_upto_if 21 with fail
 go_cut [5] from 6 to 63 (fun s5 wx=>∃ (S:OA) (m cs:Nat) (B:List UInt8),s5=.slice S m cs∧OwnB wx w.heap.size S m cs B∧BestB d B∧m≤1000000∧wx.cell? ⟨pd,0,none⟩=some (.slice A n c)∧Below w.heap.size w wx)
 case first=>
  rcases Nat.eq_zero_or_pos n with hz|hpos
  ·have g2:decide ((0:Int)<(n:Int))=false:=qF (by omega)
   go_wp2_with fail
   go_meet
   case rel=>
    have hlz:=HL.out
    refine ⟨A2,m1+n,c2,_,rfl,HO2.out,?_,by omega,by assumption,HB2.out⟩
    rw [show n=d.length from hlz.symm]
    exact .raw (fun x h=>by omega)
  ·have g2:decide ((0:Int)<(n:Int))=true:=qT (by omega)
   obtain ⟨b,o,x,hA,hx,hcx⟩:=HR2.out.at_ (by rw [HL.out];exact hpos:0<d.length)
   subst hA
   rw [Nat.add_zero] at hcx
   have hbc:∀ q,∀ i,i<n→(w2.drewN q).cell? ⟨b,o+i,none⟩=some (.int .u8 ((Lib.numsL d).getD i 0)):=by
    intro q i hi
    obtain ⟨b',o',e,hc⟩:=HR2.out (by rw [List.length_map,HL.out];exact hpos)
    cases e
    have h2:=hc i (by rw [List.length_map,HL.out];exact hi)
    have hi':i<d.length:=by rw [HL.out];exact hi
    have h3:w2.cell? ⟨b,o+i,none⟩=some (.int .u8 ((Lib.numsL d).getD i 0)):=by
     rw [h2]
     simp [Lib.numsL,List.getD,Zg hi',u8v]
    exact ((below_drewN w2 q).cell (block_lt h3)).trans h3
   have HCnt:=Lh (fun q=>Tryz.bytes_Count_one b o n c b o c (Lib.numsL d) (x.toNat:Int) (w2.drewN q) (by rw [Lib.numsL_length,HL.out]) (hbc q) (((below_drewN w2 q).cell (block_lt hcx)).trans hcx))
   simp only [countByte_nat] at HCnt
   obtain ⟨k,hk⟩:∃ k,k=d.count x:=⟨_,rfl⟩
   have HKr:=Lh (show (k=n∧1<n)↔RunD d by
    unfold RunD
    have h:=run_iff hx
    rw [←hk] at h
    rw [HL.out] at h ⊢
    constructor
    ·intro h2;exact ⟨h2.2,h.1 h2.1⟩
    ·intro h2;exact ⟨h.2 h2.2,h2.1⟩)
   rw [←hk] at HCnt
   have HXd:=Lh hx
   clear hk hbc hx
   go_upto_region 6 with fail
   go_cut [33] from 22 to 32 (fun s33 wx=>∃ t:Bool,s33=.bool t∧(t=true↔RunD d)∧∃ q,wx=w2.drewN q)
   case first=>
    by_cases h1:k=n
    ·have e1:((k:Int)==(n:Int))=true:=by rw [h1];exact beq_self_eq_true _
     by_cases h2:1<n
     ·have e2:decide ((1:Int)<(n:Int))=true:=qT (by omega)
      have HT:=Lh (show RunD d from HKr.out.1 ⟨h1,h2⟩)
      clear h1
      go_quiet ((go_at_call 73;exact Calls.quiet_of_same (HCnt.out _)))
      go_wp2_with fail
      go_meet
      case rel=>exact ⟨true,rfl,⟨fun _=>HT.out,fun _=>rfl⟩,_,rfl⟩
     ·have e2:decide ((1:Int)<(n:Int))=false:=qF (by omega)
      have HT:=Lh (show ¬RunD d from fun h=>h2 (HKr.out.2 h).2)
      clear h1
      go_quiet ((go_at_call 73;exact Calls.quiet_of_same (HCnt.out _)))
      go_wp2_with fail
      go_meet
      case rel=>exact ⟨false,rfl,⟨(fun h=>by cases h),(fun h=>absurd h HT.out)⟩,_,rfl⟩
    ·have e1:((k:Int)==(n:Int))=false:=bF (by omega)
     have HT:=Lh (show ¬RunD d from fun h=>h1 (HKr.out.2 h).1)
     clear h1
     go_quiet ((go_at_call 73;exact Calls.quiet_of_same (HCnt.out _)))
     go_wp2_with fail
     go_meet
     case rel=>exact ⟨false,rfl,⟨(fun h=>by cases h),(fun h=>absurd h HT.out)⟩,_,rfl⟩
   case rest=>
    obtain ⟨t,rfl,ht,q,rfl⟩:=hcut
    have HT:=Lh ht
    have hbq:=below_drewN w2 q
    have HOq:=Lh (Own.later HO2.out hbq)
    have HBq:=Lh (HB2.out.trans (hbq.mono HB2.out.size))
    have HKq:=Lh (HK2.out.later hbq)
    have HRq:=Lh (HR2.out.later hbq)
    have hcq:=(hbq.cell (block_lt hcx)).trans hcx
    clear ht HO2 HB2 HK2 HR2 HCnt HKr hcx hbq
    obtain ⟨w3,hw3⟩:∃ w3,w3=w2.drewN q:=⟨_,rfl⟩
    rw [←hw3] at HOq HBq HKq HRq hcq ⊢
    clear hw3
    go_upto_if 33 with fail
    go_cut [5] from 21 to 40 (fun s5 wx=>∃ (S:OA) (m cs:Nat) (B:List UInt8),s5=.slice S m cs∧OwnB wx w.heap.size S m cs B∧BestO d B∧m≤1000000∧Blk wx pd 37 #[.slice (some ⟨b,o,none⟩) n c]∧Below w.heap.size w wx)
    case first=>
     rcases t with _|_
     ·have hnr:¬RunD d:=fun h=>by have h2:=HT.out.2 h;cases h2
      go_wp2_with fail
      go_meet
      case rel=>
       refine ⟨A2,m1+n,c2,_,rfl,HOq.out,.inl ⟨?_,fun x h1 h2=>hnr ⟨h1,x,h2⟩⟩,by omega,HKq.out,HBq.out⟩
       rw [HL.out]
     ·have hrun:=HT.out.1 rfl
      have hkc:=HKq.out.cell 0
      simp only [Zt,Zz] at hkc
      have hlp:=HKq.out.lt
      have hlb:=block_lt hcq
      have HH1:=Lh (fun (wq:World) (h:wq.cell? ⟨pd,0,none⟩=some (.slice (some ⟨b,o,none⟩) n c))=>HH.out 1 (by omega) wq h)
      have i1:(0:Int)<(n:Int):=by omega
      go_wp2_with fail
      have hal:=(Below.refl w3.heap.size w3).alloc nL (.cells #[.int .u8 (x.toNat:Int)] 5)
      have hcA:=(hal.cell hlp).trans hkc
      go_region_held3 (fun w'=>w'.cell? ⟨pd,0,none⟩=some (.slice (some ⟨b,o,none⟩) n c)∧w'.cell? ⟨b,o,none⟩=some (.int .u8 (x.toNat:Int)))
       (first|go_keep|(exact K5)|(exact K4))
       ((first|(go_at_call 71;refine (HH1.out _ ?_).mono ?_;(first|exact hkc|exact hcA);rintro e w4 ⟨S4,m4,c4,rfl,hown4,hb4⟩;have hm4:=OwnB.length hown4;rw [List.length_cons] at hm4;have hb34:Below w3.heap.size w3 w4:=(by first|exact (Below.refl _ _).drew.trans hb4|exact hal.drew.trans (hb4.mono (by simp)));have K4:=(show w4.cell? ⟨pd,0,none⟩=some (.slice (some ⟨b,o,none⟩) n c)∧w4.cell? ⟨b,o,none⟩=some (.int .u8 (x.toNat:Int)) from ⟨(hb34.cell hlp).trans hkc,(hb34.cell hlb).trans hcq⟩))|(refine step_append_rd rfl _ _ elemB rfl w3.heap.size S4 m4 c4 _ rfl (Own.alloc hown4 _) (some ⟨w4.heap.size,0,none⟩) 1 1 [.int .u8 (x.toNat:Int)] rfl (Rd.one w4 _ 5) rfl (one_int x) ?_ ?_ ?_ ?_;omega;omega;(exact Nat.le_trans hb34.size (by simp));intro A5 c5 w5 hown5 hb5 hg5 hat5;have hb35:Below w3.heap.size w3 w5:=(hb34.alloc hb34.size _).trans hb5;have K5:=(show w5.cell? ⟨pd,0,none⟩=some (.slice (some ⟨b,o,none⟩) n c)∧w5.cell? ⟨b,o,none⟩=some (.int .u8 (x.toNat:Int)) from ⟨(hb35.cell hlp).trans hkc,(hb35.cell hlb).trans hcq⟩))|(refine step_append_rd rfl _ _ elemB rfl w3.heap.size S4 m4 c4 _ rfl (Own.mono hown4 (by simp)) (some ⟨w3.heap.size,0,none⟩) 1 1 [.int .u8 (x.toNat:Int)] rfl (Rd.later (Rd.one w3 _ 5) ((Below.refl _ _).drew.trans hb4)) rfl (one_int x) ?_ ?_ ?_ ?_;omega;omega;(exact hb34.size);intro A5 c5 w5 hown5 hb5 hg5 hat5;have hb35:Below w3.heap.size w3 w5:=hb34.trans hb5;have K5:=(show w5.cell? ⟨pd,0,none⟩=some (.slice (some ⟨b,o,none⟩) n c)∧w5.cell? ⟨b,o,none⟩=some (.int .u8 (x.toNat:Int)) from ⟨(hb35.cell hlp).trans hkc,(hb35.cell hlb).trans hcq⟩))))
      all_goals
       have hs3:=HBq.out.size
       have HO5:=Lh (show OwnB w5 w.heap.size A5 (m4+1) c5 (1::numB 5 n++[x]) from by
        have h:=Own.mono hown5 hs3
        unfold OwnB
        simp only [List.map_append,List.map_cons,List.cons_append,List.map_nil] at h ⊢
        exact h)
       have HK5:=Lh (HKq.out.later hb35)
       have HB5:=Lh (HBq.out.trans (hb35.mono hs3))
       clear hown4 hown5 hb4 hb5 hb34 hb35 K5 hg5 hat5 HKq HBq HOq HRq
       go_wp2_with fail
       go_meet
       case rel=>
        refine ⟨A5,m4+1,c5,_,rfl,HO5.out,.inr ⟨x,hrun.1,?_,by rw [HL.out]⟩,by omega,HK5.out,HB5.out⟩
        obtain ⟨-,y,hy⟩:=hrun
        have h0:=HXd.out
        rw [(List.eq_replicate_iff.1 hy).2 x (List.mem_of_getElem? h0)]
        exact hy
    case rest=>
     clear HOq HKq HBq hcq
     obtain ⟨S4,m4,c4,B4,rfl,hown4,hbo,hm4,hk4,hb4⟩:=hcut
     clear HRq HXd HT
     have HO4:=Lh hown4
     have HBo:=Lh hbo
     have HK4:=Lh hk4
     have HB4:=Lh hb4
     have hml4:=OwnB.length hown4
     have hs4:=hb4.size
     have hkc:=hk4.cell 0
     simp only [Zt,Zz] at hkc
     have HFi:=Lh (mFind (some ⟨b,o,none⟩) n c d wc HL.out (HR.out.later hb4) hn hc (fun b' hb'=>lT (HLow.out b' hb') hs4))
     clear hown4 hbo hk4 hb4
     go_wp2_with fail
     refine HFi.out.mono ?_
     rintro e w5 ⟨S5,m5,c5,L,rfl,hown5,hfit,hb5⟩
     have hm5:=hown5.length
     have hmany:=hfit.many
     rw [HL.out] at hmany
     have HFit:=Lh hfit
     have HS5:=Lh hown5
     have HB5:=Lh (HB4.out.trans (hb5.mono hs4))
     have HO5:=Lh (Own.later HO4.out hb5)
     have HK5:=Lh (HK4.out.later hb5)
     have HLi:=Lh (matchLits (some ⟨b,o,none⟩) n c d S5 m5 c5 L w5 HL.out ((HR.out.later HB4.out).later hb5) hn hc hc2 hm5 hown5.ss (by omega) (hfit.fits (by rw [HL.out];omega)))
     have hlp:=lits_pos hfit (by rw [HL.out];exact hpos)
     have hll:=litsL_len L d
     rw [HL.out] at hll
     have hkc5:=HK5.out.cell 0
     simp only [Zt,Zz] at hkc5
     clear hown5 hfit hb5 HFi HO4 HK4 HB4 hkc
     go_wp2_with fail
     refine HLi.out.mono ?_
     rintro e w6 ⟨S6,m6,c6,rfl,hown6,hb6⟩
     have hm6:=OwnB.length hown6
     rw [hm6] at hlp hll
     have hs5:=HB5.out.size
     have HL6:=Lh hown6
     have HB6:=Lh (HB5.out.trans (hb6.mono hs5))
     have HO6:=Lh (Own.later HO5.out hb6)
     have HS6:=Lh (HS5.out.later hb6)
     have HK6:=Lh (HK5.out.later hb6)
     have hkc6:=HK6.out.cell 0
     simp only [Zt,Zz] at hkc6
     have HH2:=Lh (HH.out 2 (by omega) w6 hkc6)
     clear hown6 hb6 HLi HB5 HO5 HS5 HK5 hkc5
     go_wp2_with fail
     refine HH2.out.mono ?_
     rintro e w7 ⟨S7,m7,c7,rfl,hown7,hb7⟩
     have hm7:=OwnB.length hown7
     rw [List.length_cons] at hm7
     have hs6:=HB6.out.size
     have HB7:=Lh (HB6.out.trans (hb7.mono hs6))
     have HO7:=Lh (Own.later HO6.out hb7)
     have HS7:=Lh (HS6.out.later hb7)
     have HK7:=Lh (HK6.out.later hb7)
     have HPL:=Lh (packLiterals S7 m7 c7 _ S6 m6 c6 (litsL d L) w7 (OwnB.length hown7) (OwnB.bs hown7) (by omega) hm6 ((OwnB.bs HL6.out).later hb7) hlp (by omega))
     clear hown7 hb7 HH2 HB6 HO6 HS6 HK6 HL6 hkc6
     go_wp2_with fail
     refine HPL.out.mono ?_
     rintro e w8 ⟨S8,m8,c8,b8,rfl,hown8,hlits,hb8⟩
     have hm8:=OwnB.length hown8
     simp only [Zl,List.length_cons] at hm8
     have hlb:=litsB_len hlits (by omega)
     have hs7:=HB7.out.size
     have HB8:=Lh (HB7.out.trans (hb8.mono hs7))
     have HO8:=Lh (Own.later HO7.out hb8)
     have HK8:=Lh (HK7.out.later hb8)
     have HLt:=Lh hlits
     have HPS:=Lh (packSteps S8 m8 c8 _ S5 m5 c5 L w8 (OwnB.length hown8) (OwnB.bs hown8) (by omega) hm5 (HS7.out.later hb8).ss (HFit.out.small (by rw [HL.out];exact hn)) (by omega))
     clear hown8 hb8 HPL HB7 HO7 HS7 HK7 hlits
     go_wp2_with fail
     refine HPS.out.mono ?_
     rintro e w9 ⟨S9,m9,c9,b9,rfl,hown9,hsteps,hb9⟩
     have hm9:=OwnB.length hown9
     have hs8:=HB8.out.size
     have HB9:=Lh (HB8.out.trans (hb9.mono hs8))
     have HO9:=Lh (Own.later HO8.out hb9)
     have HK9:=Lh (HK8.out.later hb9)
     have HX9:=Lh (Own.mono hown9 hs8)
     have HSt:=Lh hsteps
     have hkc9:=HK9.out.cell 0
     simp only [Zt,Zz] at hkc9
     clear hown9 hb9 HPS HB8 HO8 HK8 hsteps
     by_cases hlt9:m9<m4
     ·have g9:decide ((m9:Int)<(m4:Int))=true:=qT (by omega)
      go_wp2_with fail
      go_meet
      case rel=>
       refine ⟨S9,m9,c9,_,rfl,HX9.out,?_,by omega,hkc9,HB9.out⟩
       have h:=HBo.out.less (b:=b8) (c:=b9) (fun e=>by have:=HL.out;rw [e] at this;simp at this;omega) HFit.out HLt.out HSt.out
       rw [HL.out] at h
       exact h (by rw [hml4];exact Nat.lt_of_le_of_lt (Nat.le_of_eq hm9) hlt9)
     ·have g9:decide ((m9:Int)<(m4:Int))=false:=qF (by omega)
      go_wp2_with fail
      go_meet
      case rel=>exact ⟨S4,m4,c4,B4,rfl,HO9.out,HBo.out.best,hm4,hkc9,HB9.out⟩
 case rest=>
  obtain ⟨S3,m3,c3,B,rfl,hown3,hbest,hm3,hcell3,hb3⟩:=hcut
  have HO3:=Lh hown3
  have HBe:=Lh hbest
  have HB3:=Lh hb3
  have hs3:=hb3.size
  have HSum:=Lh (packSum A n c d wc HL.out (HR.out.later hb3) (by omega))
  clear hown3 hbest hb3 HO2 HB2 HK2 HR2 HH HLow
  go_wp2_with fail
  refine HSum.out.mono ?_
  rintro e w4 ⟨A4,c4,rfl,hown4,hb4⟩
  have HO4:=Lh hown4
  have HP4:=Lh (Own.later HO3.out hb4)
  have HB4:=Lh (HB3.out.trans (hb4.mono hs3))
  have hlen4:=OwnB.length hown4
  clear hown4 hb4 HSum HO3 HB3
  go_wp2_with (at_builtin;refine wpList_append_rd rfl _ _ elemB rfl w.heap.size S3 m3 c3 (B.map u8v) rfl HP4.out A4 4 c4 ((sumOf d).map u8v) rfl ?a1 ?a2 (u8_one _) ?a3 ?a4 ?a5 ?_)
  case a1=>exact Own.rd HO4.out
  case a2=>rw [List.length_map];exact hlen4
  case a3=>omega
  case a4=>omega
  case a5=>exact HB4.out.size
  intro A5 c5 w5 hown5 hb5 hg5 hat5
  have HO5:=Lh (show OwnB w5 w.heap.size A5 (m3+4) c5 (B++sumOf d) from by unfold OwnB;rw [List.map_append];exact hown5)
  have HB5:=Lh (HB4.out.trans hb5)
  clear hown5 hb5 hg5 hat5
  go_wp2
  go_ret2
  exact ⟨A5,m3+4,c5,B,rfl,HO5.out,HBe.out,HB5.out⟩
end Go.Proofs.YtiihiocgbfafaaaGreat
