/- H1 H2 H3 M1 H4 F1 F2 R0 -/
import Derived.Test.YtiihiocgbfafaaaGreatKKa
set_option linter.unusedSimpArgs false
set_option linter.unusedVariables false
set_option maxHeartbeats 8000000
set_option maxRecDepth 100000
namespace Go.Proofs.YtiihiocgbfafaaaGreat
open Go.RowKit
def kraft:List Nat→Nat
 | []=>0
 | k::r=>(if 0<k then 2^(11-k) else 0)+kraft r
def cntPos:List Nat→Nat
 | []=>0
 | k::r=>(if 0<k then 1 else 0)+cntPos r
theorem kraft_append (a b:List Nat):kraft (a++b)=kraft a+kraft b:=by
 induction a with
 | nil=>simp [kraft]
 | cons k r ih=>rw [List.cons_append,kraft,kraft,ih];omega
theorem cntPos_append (a b:List Nat):cntPos (a++b)=cntPos a+cntPos b:=by
 induction a with
 | nil=>simp [cntPos]
 | cons k r ih=>rw [List.cons_append,cntPos,cntPos,ih];omega
theorem take_snocN {l:List Nat} {k x:Nat} (h:l[k]? = some x):l.take (k+1)=l.take k++[x]:=by
 rw [List.take_add_one,h];rfl
theorem kraft_step {l:List Nat} {k x:Nat} (h:l[k]? = some x):kraft (l.take (k+1))=kraft (l.take k)+(if 0<x then 2^(11-x) else 0):=by
 rw [take_snocN h,kraft_append];rfl
theorem cntPos_step {l:List Nat} {k x:Nat} (h:l[k]? = some x):cntPos (l.take (k+1))=cntPos (l.take k)+(if 0<x then 1 else 0):=by
 rw [take_snocN h,cntPos_append];rfl
theorem kraft_le (l:List Nat):kraft l≤2048*l.length:=by
 induction l with
 | nil=>simp [kraft]
 | cons k r ih=>
   rw [kraft,List.length_cons]
   have:(if 0<k then 2^(11-k) else 0)≤2048:=by
    split
    ·exact (Nat.pow_le_pow_right (by omega) (by omega):2^(11-k)≤2^11)
    ·omega
   omega
theorem cntPos_le (l:List Nat):cntPos l≤l.length:=by
 induction l with
 | nil=>simp [cntPos]
 | cons k r ih=>rw [cntPos,List.length_cons];split<;>omega
def mayL (l:List Nat):Bool:=decide (0<l.length)&&decide (l.length≤256)&&(l.getD (l.length-1) 0 != 0)&&l.all (fun k=>decide (k≤11))&&(kraft l==2048||(cntPos l==1&&l.getD (l.length-1) 0==1))
theorem mayL_head {l:List Nat} (h:l.length=0∨256<l.length∨l.getD (l.length-1) 0=0):mayL l=false:=by
 unfold mayL
 rcases h with h|h|h
 ·rw [h];simp
 ·rw [qF (by omega:¬l.length≤256)];simp
 ·rw [h];simp
theorem mayL_big {l:List Nat} {k x:Nat} (h:l[k]? = some x) (hx:11<x):mayL l=false:=by
 have:l.all (fun k=>decide (k≤11))=false:=by
  rw [List.all_eq_false]
  exact ⟨x,List.mem_of_getElem? h,by simp;omega⟩
 unfold mayL
 rw [this];simp
def Small (l:List Nat) (k:Nat):Prop:=∀ j x,j<k→l[j]? = some x→x≤11
theorem Small.step {l:List Nat} {k x:Nat} (h:Small l k) (hx:l[k]? = some x) (hle:x≤11):Small l (k+1):=by
 intro j y hj hy
 by_cases e:j=k
 ·subst e;rw [hx] at hy;cases hy;exact hle
 ·exact h j y (by omega) hy
theorem mayL_end {l:List Nat} {n x:Nat} (hl:l.length=n+1) (h256:n+1≤256) (hx:l[n]? = some x) (h0:x≠0) (hs:Small l (n+1)):
 mayL l=(kraft (l.take (n+1))==2048||(cntPos (l.take (n+1))==1&&x==1)):=by
 have e:l.take (n+1)=l:=List.take_of_length_le (by omega)
 have hall:l.all (fun k=>decide (k≤11))=true:=by
  rw [List.all_eq_true]
  intro y hy
  obtain ⟨j,hj,hy'⟩:=List.getElem_of_mem hy
  simp only [decide_eq_true_eq]
  exact hs j y (by omega) (by rw [Zg hj,hy'])
 have hd:l.getD (l.length-1) 0=x:=by rw [hl];simp [List.getD,hx]
 unfold mayL
 rw [e,hall,hd,hl,qT (by omega:0<n+1),qT h256]
 have:(x != 0)=true:=by simpa using h0
 rw [this];simp
theorem huffMay (A:OA) (n c:Nat) (l:List Nat) (w:World) (hl:l.length=n) (hr:Ns w A l) (hn:n≤140737488351232) (hb:∀ x∈l,x≤140737488351232):
 Calls Tryz.prog 123 #[.slice A n c] w fun e w'=>e=.returned (.bool (mayL l))∧w'=w:=by
 by_cases h0:n=0
 ·subst h0
  have HM:=Lh (mayL_head (.inl hl))
  clear hl hr hb
  go_enter Tryz.func123,Tryz.ntmps123
  go_wp2
  go_ret
  exact ⟨ret_bool HM.out.symm,rfl⟩
 ·have hne:((n:Int)==0)=false:=bF (by omega)
  by_cases h256:256<n
  ·have HM:=Lh (mayL_head (.inr (.inl (by omega:256<l.length))))
   clear hl hr hb
   go_enter Tryz.func123,Tryz.ntmps123
   go_wp2
   go_ret
   exact ⟨ret_bool HM.out.symm,rfl⟩
  ·obtain ⟨N,rfl⟩:∃ N,n=N+1:=⟨n-1,by omega⟩
   have hne:(((N:Int)+1)==0)=false:=bF (by omega)
   have h256':(N:Int)+1≤256:=by omega
   obtain ⟨b,o,x,rfl,hx,hc⟩:=hr.at_ (by omega:N<l.length)
   by_cases hx0:x=0
   ·have HM:=Lh (mayL_head (.inr (.inr (by rw [hl];simp [List.getD,hx,hx0]))):mayL l=false)
    have hx0':((x:Int)==0)=true:=by rw [hx0];rfl
    clear hl hr hb hx hx0
    go_enter Tryz.func123,Tryz.ntmps123
    go_wp2
    go_ret
    exact ⟨ret_bool HM.out.symm,rfl⟩
   ·have hx0':((x:Int)==0)=false:=bF (by omega)
    have HL:=Lh hl
    have HR:=Lh hr
    have HB:=Lh hb
    have HX:=Lh hx
    have HX0:=Lh hx0
    clear hl hr hb hx hx0
    go_enter Tryz.func123,Tryz.ntmps123
    go_wp2
    go_loopg [3,4,26] (N+1) (fun g s3 s4 s26 wr=>∃ k:Nat,k≤N+1∧N+1-k≤g∧s3=.int .i64 (kraft (l.take k):Nat)∧s4=.int .i64 (cntPos (l.take k):Nat)∧s26=.int .i64 k∧Small l k∧wr=w)
    case atStart=>exact ⟨0,Nat.zero_le _,by omega,rfl,rfl,rfl,fun j y hj=>absurd hj (Nat.not_lt_zero _),rfl⟩
    case round=>
     obtain ⟨k,hk,hg,rfl,rfl,rfl,hsm,rfl⟩:=hrel
     by_cases hlt:k<N+1
     ·obtain ⟨b',o',y,e',hy,hcy⟩:=HR.out.at_ (by rw [HL.out];exact hlt:k<l.length)
      cases e'
      have hk1:=kraft_step hy
      have hk2:=cntPos_step hy
      have hk3:=kraft_le (l.take k)
      have hk4:=cntPos_le (l.take k)
      rw [List.length_take] at hk3 hk4
      by_cases h11:11<y
      ·have HM:=Lh (mayL_big hy h11)
       clear hy hk1 hk2
       generalize kraft (l.take k)=s at *
       generalize cntPos (l.take k)=m at *
       go_wp2
       go_ret
       exact ⟨ret_bool HM.out.symm,rfl⟩
      ·by_cases h0y:0<y
       ·rw [if_pos h0y] at hk1 hk2
        have hpw:2^(11-y)≤2048:=(Nat.pow_le_pow_right (by omega) (by omega):2^(11-y)≤2^11)
        have E:wrap64 ((2:Int)^(11-y))=((2^(11-y):Nat):Int):=by
         rw [show ((2:Int)^(11-y))=((2^(11-y):Nat):Int) from by simp,wrap64_nat (by omega)]
        have K1:=Lh hk1
        have K2:=Lh hk2
        have Hs:=Lh (hsm.step hy (by omega))
        clear hy hk1 hk2 hsm
        generalize kraft (l.take k)=s at *
        generalize cntPos (l.take k)=m at *
        generalize 2^(11-y)=pw at *
        go_wp2
        go_roundg (N+1-(k+1))
        case measure=>omega
        case rel=>exact ⟨k+1,by omega,by omega,int_eq (by rw [K1.out];omega),int_eq (by rw [K2.out];omega),by go_num,Hs.out,rfl⟩
       ·rw [if_neg h0y] at hk1 hk2
        have K1:=Lh hk1
        have K2:=Lh hk2
        have Hs:=Lh (hsm.step hy (by omega))
        clear hy hk1 hk2 hsm
        generalize kraft (l.take k)=s at *
        generalize cntPos (l.take k)=m at *
        go_wp2
        go_roundg (N+1-(k+1))
        case measure=>omega
        case rel=>exact ⟨k+1,by omega,by omega,int_eq (by rw [K1.out];omega),int_eq (by rw [K2.out];omega),by go_num,Hs.out,rfl⟩
     ·obtain rfl:k=N+1:=by omega
      have HM:=Lh (mayL_end HL.out (by omega) HX.out HX0.out hsm)
      clear hsm
      generalize kraft (l.take (N+1))=s at *
      generalize cntPos (l.take (N+1))=m at *
      have F1:((s:Int)==2048)=(s==2048):=by rw [Bool.eq_iff_iff,beq_iff_eq,beq_iff_eq];omega
      have F2:((m:Int)==1)=(m==1):=by rw [Bool.eq_iff_iff,beq_iff_eq,beq_iff_eq];omega
      have F3:((x:Int)==1)=(x==1):=by rw [Bool.eq_iff_iff,beq_iff_eq,beq_iff_eq];omega
      generalize (s==2048)=b1 at *
      generalize (m==1)=b2 at *
      generalize (x==1)=b3 at *
      cases b1<;>cases b2<;>cases b3
      all_goals
       go_wp2
       go_ret
       exact ⟨ret_bool (by rw [HM.out];rfl),rfl⟩
def BlkN (w:World) (g:Nat) (t:TypeId) (l:List Nat):Prop:=Blk w g t (l.map natv).toArray
theorem BlkN.cell {w:World} {g:Nat} {t:TypeId} {l:List Nat} (h:BlkN w g t l) {i x:Nat} (hx:l[i]? = some x):w.cell? ⟨g,i,none⟩=some (.int .i64 (x:Int)):=by
 rw [Blk.cell h,Zt,List.getElem?_map,hx];rfl
theorem BlkN.set {w:World} {g:Nat} {t:TypeId} {l:List Nat} (h:BlkN w g t l) (i x:Nat):BlkN (w.setCell ⟨g,i,none⟩ (.int .i64 (x:Int))) g t (l.set i x):=by
 have:=Blk.set h i (.int .i64 (x:Int))
 unfold BlkN
 rw [List.map_set]
 simpa [natv] using this
theorem BlkN.kept {w w':World} {row:Option Nat} {g:Nat} {t:TypeId} {l:List Nat} (h:BlkN w g t l) (hg:w.grownBy w' row) (hne:row≠some g):BlkN w' g t l:=Blk.kept h hg hne
theorem getN {l:List Nat} {i:Nat} (h:i<l.length):∃ x,l[i]? = some x:=⟨l[i],Zg h⟩
def cStep (l:List Nat) (k:Nat) (s:List Nat × Nat) (b:Nat):List Nat × Nat:=if l[b]? = some k then (s.1.set b s.2,s.2+1) else s
def cRow (l:List Nat) (k:Nat) (s:List Nat × Nat):Nat→List Nat × Nat
 | 0=>s
 | m+1=>cStep l k (cRow l k s m) m
def cAll (l:List Nat):Nat→List Nat × Nat
 | 0=>(List.replicate 256 0,0)
 | k+1=>cRow l (k+1) ((cAll l k).1,2*(cAll l k).2) l.length
def codesL (l:List Nat):List Nat:=(cAll l 11).1
theorem cRow_facts (l:List Nat) (k:Nat) (s:List Nat × Nat):∀ m,(cRow l k s m).1.length=s.1.length∧(cRow l k s m).2≤s.2+m
 | 0=>⟨rfl,by simp [cRow]⟩
 | m+1=>by
   have h:=cRow_facts l k s m
   rw [cRow];unfold cStep
   split
   ·simp;omega
   ·exact ⟨h.1,by omega⟩
theorem cAll_facts (l:List Nat) (hl:l.length≤256):∀ k,(cAll l k).1.length=256∧(cAll l k).2+256≤256*2^k
 | 0=>⟨List.length_replicate,by show 0+256≤256*2^0;omega⟩
 | k+1=>by
   have h:=cAll_facts l hl k
   have h2:=cRow_facts l (k+1) ((cAll l k).1,2*(cAll l k).2) l.length
   have e:2^(k+1)=2*2^k:=by rw [Nat.pow_succ];omega
   refine ⟨h2.1.trans h.1,?_⟩
   show (cRow l (k+1) ((cAll l k).1,2*(cAll l k).2) l.length).2+256≤256*2^(k+1)
   have h3:(cRow l (k+1) ((cAll l k).1,2*(cAll l k).2) l.length).2≤2*(cAll l k).2+l.length:=h2.2
   rw [e];omega
theorem info138:(Tryz.prog.info? 220).map (·.size)=some 256:=by kernel_rfl
theorem zero138:Tryz.zeroCells220=((List.replicate 256 0).map natv).toArray:=by kernel_rfl
theorem codes_any (A:OA) (n c:Nat) (l:List Nat) (w:World) (hl:l.length=n) (hr:Ns w A l) (hn:n≤256) (hb:∀ x∈l,x≤11):
 Calls Tryz.prog 124 #[.slice A n c] w fun e w'=>e=.returned (.agg ((codesL l).map natv).toArray)∧Below w.heap.size w w':=by
 have HL:=Lh hl
 have HR:=Lh hr
 have HB:=Lh hb
 have hz1:BlkN ((w.alloc (.cells Tryz.zeroCells220 220)).alloc (.cells Tryz.zeroCells220 220)) (w.heap.size+1) 220 (List.replicate 256 0):=by
  unfold BlkN;rw [←zero138];have:=Blk.new (w.alloc (.cells Tryz.zeroCells220 220)) 220 Tryz.zeroCells220
  simpa using this
 have hz0:BlkN ((w.alloc (.cells Tryz.zeroCells220 220)).alloc (.cells Tryz.zeroCells220 220)) w.heap.size 220 (List.replicate 256 0):=by
  unfold BlkN;rw [←zero138];exact (Blk.new w 220 Tryz.zeroCells220).later ((Below.refl _ _).alloc nL _)
 have hbl:Below w.heap.size w ((w.alloc (.cells Tryz.zeroCells220 220)).alloc (.cells Tryz.zeroCells220 220)):=((Below.refl _ _).alloc nL _).alloc (by simp) _
 clear hl hr hb
 go_enter Tryz.func124,Tryz.ntmps124
 go_wp2
 generalize ((w.alloc (.cells Tryz.zeroCells220 220)).alloc (.cells Tryz.zeroCells220 220))=w0 at *
 go_loopg [4,5] 12 (fun g s4 s5 wr=>∃ k:Nat,1≤k∧k≤12∧12-k≤g∧s4=.int .i64 ((cAll l (k-1)).2:Nat)∧s5=.int .i64 k∧BlkN wr (w.heap.size+1) 220 (cAll l (k-1)).1∧BlkN wr w.heap.size 220 (List.replicate 256 0)∧Below w.heap.size w wr)
 case atStart=>exact ⟨1,Nat.le_refl _,by omega,by omega,rfl,rfl,hz1,hz0,hbl⟩
 case round=>
  obtain ⟨k,hk1,hk,hg,rfl,rfl,hB1,hB0,hbel⟩:=hrel
  clear hz0 hz1 hbl
  obtain ⟨wo,rfl⟩:∃ wo:World,wo=wr:=⟨_,rfl⟩
  by_cases hlt:k≤11
  ·have hf:=cAll_facts l (by rw [HL.out];exact hn) (k-1)
   have hp11:2^(k-1)≤2048:=(Nat.pow_le_pow_right (by omega) (by omega):2^(k-1)≤2^11)
   have hcode:(cAll l (k-1)).2≤1000000:=by omega
   have hnext:cAll l k=cRow l k ((cAll l (k-1)).1,2*(cAll l (k-1)).2) l.length:=by
    obtain ⟨k',rfl⟩:∃ k',k=k'+1:=⟨k-1,by omega⟩
    rfl
   have HF:=Lh hf.1
   have HN:=Lh hnext
   clear hf hp11 hnext
   generalize cAll l (k-1)=st at *
   obtain ⟨st1,st2⟩:=st
   have hB1':=Lh hB1
   clear hB1
   go_wp2
   go_loopg [4,16] n (fun g s4 s16 wr=>∃ j:Nat,j≤n∧n-j≤g∧s4=.int .i64 ((cRow l k (st1,2*st2) j).2:Nat)∧s16=.int .i64 j∧BlkN wr (w.heap.size+1) 220 (cRow l k (st1,2*st2) j).1∧BlkN wr w.heap.size 220 (List.replicate 256 0)∧Below w.heap.size w wr)
   case atStart=>exact ⟨0,Nat.zero_le _,by omega,int_eq (by show _=((2*st2:Nat):Int);omega),rfl,hB1'.out,hB0,hbel⟩
   case round=>
    obtain ⟨j,hj,hgj,rfl,rfl,hC1,hC0,hbel2⟩:=hrel
    have hcf:=cRow_facts l k (st1,2*st2) j
    have hC1':=Lh hC1
    have hC0':=Lh hC0
    have hB2:=Lh hbel2
    have HCF:=Lh hcf.1
    have hcode2:(cRow l k (st1,2*st2) j).2≤3000000:=by have:=hcf.2;simp only at this;omega
    by_cases hjn:j<n
    ·obtain ⟨b,o,x,hA,hx,hc⟩:=HR.out.at_ (by rw [HL.out];exact hjn:j<l.length)
     subst hA
     have hlt2:=block_lt hc
     have hc2:wr.cell? ⟨b,o+j,none⟩=some (.int .i64 (x:Int)):=by rw [hB2.out.cell (by simpa using hlt2)];exact hc
     have hs:cRow l k (st1,2*st2) (j+1)=cStep l k (cRow l k (st1,2*st2) j) j:=rfl
     have hold:=HCF.out
     simp only at hold
     by_cases hxk:x=k
     ·subst hxk
      obtain ⟨y,hy⟩:=getN (by rw [hold,HF.out];omega:j<(cRow l x (st1,2*st2) j).1.length)
      have hcell:=hC1.cell hy
      have hfr:=Blk.frozen hC1 j
      have hst:cStep l x (cRow l x (st1,2*st2) j) j=((cRow l x (st1,2*st2) j).1.set j (cRow l x (st1,2*st2) j).2,(cRow l x (st1,2*st2) j).2+1):=by unfold cStep;rw [if_pos hx]
      rw [hst] at hs
      have HS:=Lh hs
      have hj256:(j:Int)<256:=by omega
      clear hC1 hC0 hbel2 hcf hx hs hst hold hy hc
      generalize cRow l x (st1,2*st2) j=cr at *
      obtain ⟨cr1,cr2⟩:=cr
      go_wp2
      go_roundg (n-(j+1))
      case measure=>omega
      case rel=>exact ⟨j+1,by omega,by omega,int_eq (by rw [HS.out];omega),by go_num,by rw [HS.out];exact hC1'.out.set j cr2,BlkN.kept hC0'.out (grown_set _ ⟨_,j,none⟩ _) (by simp),hB2.out.setCell (by simp) _⟩
     ·have hst:cStep l k (cRow l k (st1,2*st2) j) j=cRow l k (st1,2*st2) j:=by unfold cStep;rw [if_neg (by rw [hx];simpa using hxk)]
      rw [hst] at hs
      have HS:=Lh hs
      have hne:((x:Int)==(k:Int))=false:=bF (by omega)
      clear hC1 hC0 hbel2 hcf hx hs hst hold hxk hc
      generalize cRow l k (st1,2*st2) j=cr at *
      obtain ⟨cr1,cr2⟩:=cr
      go_wp2
      go_roundg (n-(j+1))
      case measure=>omega
      case rel=>exact ⟨j+1,by omega,by omega,int_eq (by rw [HS.out]),by go_num,by rw [HS.out];exact hC1'.out,hC0'.out,hB2.out⟩
    ·obtain rfl:j=n:=by omega
     rw [HL.out] at HN
     clear hC1 hC0 hbel2 hcf
     generalize cRow l k (st1,2*st2) j=cr at *
     go_wp2
     go_roundg (12-(k+1))
     case measure=>omega
     case rel=>exact ⟨k+1,by omega,by omega,by omega,int_eq (by rw [Nat.add_sub_cancel,HN.out]),by go_num,by rw [Nat.add_sub_cancel,HN.out];exact hC1'.out,hC0'.out,hB2.out⟩
  ·obtain rfl:k=12:=by omega
   have hf:=cAll_facts l (by rw [HL.out];exact hn) 11
   have hB1':=Lh hB1
   have hB0':=Lh hB0
   have hbel':=Lh hbel
   have HC:=Lh (rfl:codesL l=(cAll l 11).1)
   have hlen:(((cAll l 11).1).map natv).toArray.size=256:=by simp [hf.1]
   have HLen:=Lh hlen
   have HF:=Lh hf.1
   clear hB1 hB0 hbel hf hlen hlt
   go_wp2_with (first|(refine wpList_load_row rfl _ _ rfl (w.heap.size+1) rfl 220 _ (0,0) _ hB1'.out Tryz.underlying220 rfl ?_ ?_)|(refine wpList_store_row rfl _ _ _ rfl w.heap.size _ rfl rfl 220 _ hB0'.out ?_ ?_ ?_ ?_))
   ·obtain ⟨a,h1,h2⟩:=Option.map_eq_some_iff.1 info138
    exact ⟨a,h1,by rw [h2,HF.out]⟩
   ·obtain ⟨a,h1,h2⟩:=Option.map_eq_some_iff.1 info138
    exact ⟨a,h1,by rw [h2,HF.out]⟩
   ·exact HF.out.symm
   ·intro x _;rfl
   ·have hrow:=setRow_heap wo w.heap.size _ ((List.map natv (cAll l 11).1).toArray) 220 (0,0) hB0'.out
    refine bodyPost_ret (v:=.agg (List.map natv (codesL l)).toArray) (results_cell_row rfl _ _ w.heap.size 220 _ (0,0) _ rfl hrow Tryz.underlying220 rfl ?_) rfl ⟨rfl,?_⟩
    ·unfold codesL;rw [HLen.out];exact info138
    ·exact hbel'.out.trans ⟨rfl,rfl,rfl,by simp,fun k hk=>setRow_other wo w.heap.size k _ (by omega)⟩
theorem reader_take_ok (g a c k:Nat) (l:List UInt8) (A:OA) (w:World) (h:IsRow w 229 g l a A c) (hl:l.length≤140737488351232) (hk:k≤32) (hak:a+k≤8*l.length):
 Calls Tryz.prog 98 #[.pointer (some ⟨g,0,none⟩),.int .i64 (k:Int)] w fun e w'=>e=.returned (.tuple #[.int .i64 (numAt l a k:Nat),.int .i64 0])∧IsRow w' 229 g l (a+k) A c∧w.grownBy w' (some g):=by
 have hm:mayE (k:Int) ((8*l.length-a:Nat):Int)=0:=by unfold mayE;rw [if_neg (by omega),if_neg (by omega)]
 have h1:takeV l a (k:Int)=.tuple #[.int .i64 (numAt l a k:Nat),.int .i64 0]:=by unfold takeV;rw [if_pos hm,Int.toNat_natCast]
 have h2:takeA l a (k:Int)=a+k:=by unfold takeA;rw [if_pos hm,Int.toNat_natCast]
 have:=reader_take g a c l A (k:Int) w h hl (by omega) (by omega) (by omega)
 rwa [h1,h2] at this
theorem reader_take_bad (g a c k:Nat) (l:List UInt8) (A:OA) (w:World) (h:IsRow w 229 g l a A c) (hl:l.length≤140737488351232) (hk:k≤32) (ha:a≤8*l.length) (hak:8*l.length<a+k):
 Calls Tryz.prog 98 #[.pointer (some ⟨g,0,none⟩),.int .i64 (k:Int)] w fun e w'=>e=.returned (.tuple #[.int .i64 0,.int .i64 3])∧IsRow w' 229 g l a A c∧w.grownBy w' (some g):=by
 have hm:mayE (k:Int) ((8*l.length-a:Nat):Int)=3:=by unfold mayE;rw [if_neg (by omega),if_pos (by omega)]
 have h1:takeV l a (k:Int)=.tuple #[.int .i64 0,.int .i64 3]:=by unfold takeV;rw [hm];rfl
 have h2:takeA l a (k:Int)=a:=by unfold takeA;rw [hm];rfl
 have:=reader_take g a c l A (k:Int) w h hl ha (by omega) (by omega)
 rwa [h1,h2] at this
theorem IsRow.keptN {w w':World} {t g a c base n' c':Nat} {l:List UInt8} {A A':OA} {xs:List Nat} (h:IsRow w t g l a A c) (ht:3≠t) (ho:OwnN w base A' n' c' xs) (hg:w.grownBy w' (bk A')):IsRow w' t g l a A c:=
 h.kept hg (Own.ne_blk ho h.blk ht) (Own.ne_own h.own ho (by decide))
theorem OwnN.keptR {w w':World} {t g a c base n' c':Nat} {l:List UInt8} {A A':OA} {xs:List Nat} (ho:OwnN w base A' n' c' xs) (h:IsRow w t g l a A c) (ht:3≠t) (hg:w.grownBy w' (some g)):OwnN w' base A' n' c' xs:=
 Own.kept ho hg (.inr (Own.ne_blk ho h.blk ht))
theorem ownN_snoc {w:World} {base n c x:Nat} {A:OA} {out:List Nat} (h:Own w base 3 A n c (out.map natv++[.int .i64 (x:Int)])):OwnN w base A n c (out++[x]):=by
 unfold OwnN;rw [List.map_append];exact h
theorem ownN_zeros {w:World} {base n c k:Nat} {A:OA} {out:List Nat} (h:Own w base 3 A n c (out.map natv++List.replicate k (.int .i64 0))):OwnN w base A n c (out++List.replicate k 0):=by
 unfold OwnN;rw [List.map_append,List.map_replicate];exact h
def tabGo (l:List UInt8) (n:Nat):Nat→Nat→List Nat→Bool→Option (List Nat × Nat)
 | 0,a,out,_=>some (out,a)
 | f+1,a,out,short=>
   if n≤out.length then some (out,a)
   else if 8*l.length<a+4 then none
   else if numAt l a 4≠0 then tabGo l n f (a+4) (out++[numAt l a 4]) false
   else if 8*l.length<a+4+4 then none
   else if short=true∨n-out.length<numAt l (a+4) 4+1 then none
   else tabGo l n f (a+4+4) (out++List.replicate (numAt l (a+4) 4+1) 0) (decide (numAt l (a+4) 4<15))
def tabEnd (l:List UInt8):Option (List Nat × Nat)→Option (List Nat × Nat)
 | none=>none
 | some (out,a)=>if numAt l a ((8*l.length-a)%8)≠0∨mayL out=false then none else some (out,l.length-(8*l.length-(a+(8*l.length-a)%8))/8)
def tableL (l:List UInt8):Option (List Nat × Nat):=
 if 8*l.length<8 then none else tabEnd l (tabGo l (numAt l 0 8+1) (numAt l 0 8+1) 8 [] false)
def tabPost (l:List UInt8) (w:World) (e:Ending) (w':World):Prop:=
 Below w.heap.size w w'∧match tableL l with
 | none=>∃ E:Int,E≠0∧e=.returned (.tuple #[.slice none 0 0,.int .i64 0,.int .i64 E])
 | some (out,k)=>∃ A' c',e=.returned (.tuple #[.slice A' out.length c',.int .i64 (k:Int),.int .i64 0])∧OwnN w' w.heap.size A' out.length c' out
theorem tabPost_bad {l:List UInt8} {w w':World} {E:Int} (h:tableL l=none) (hE:E≠0) (hb:Below w.heap.size w w'):tabPost l w (.returned (.tuple #[.slice none 0 0,.int .i64 0,.int .i64 E])) w':=by
 unfold tabPost;rw [h];exact ⟨hb,E,hE,rfl⟩
theorem tabPost_ok {l:List UInt8} {w w' w5:World} {out:List Nat} {k m co:Nat} {A:OA} {i:Int} (h:tableL l=some (out,k)) (hm:out.length=m) (_:OwnN w5 w.heap.size A m co out) (ho:OwnN w' w.heap.size A m co out) (hb:Below w.heap.size w w') (hi:i=(k:Int)):
 tabPost l w (.returned (.tuple #[.slice A m co,.int .i64 i,.int .i64 0])) w':=by
 subst hm;subst hi
 unfold tabPost;rw [h];exact ⟨hb,A,co,rfl,ho⟩
theorem tableL_of {l:List UInt8} {n:Nat} {R:Option (List Nat × Nat)} (h8:¬8*l.length<8) (hn:n=numAt l 0 8+1) (h:tabGo l n n 8 [] false=R):
 tableL l=tabEnd l R:=by
 unfold tableL;rw [if_neg h8,←hn,h]
theorem tabGo_done {l:List UInt8} {n f a:Nat} {out:List Nat} {s:Bool} (h:n≤out.length):tabGo l n f a out s=some (out,a):=by
 cases f with
 | zero=>rfl
 | succ f=>rw [tabGo,if_pos h]
theorem snoc15 {out:List Nat} {x:Nat} (h:∀ y∈out,y≤15) (hx:x≤15):∀ y∈out++[x],y≤15:=by
 intro y hy
 rcases List.mem_append.1 hy with h1|h1
 ·exact h y h1
 ·rw [List.mem_singleton.1 h1];exact hx
theorem zeros15 {out:List Nat} {k:Nat} (h:∀ y∈out,y≤15):∀ y∈out++List.replicate k 0,y≤15:=by
 intro y hy
 rcases List.mem_append.1 hy with h1|h1
 ·exact h y h1
 ·rw [List.eq_of_mem_replicate h1];omega
theorem huffTable (A:OA) (n c:Nat) (l:List UInt8) (w:World) (hl:l.length=n) (hr:Bs w A l) (hn:n≤140737488351232):
 Calls Tryz.prog 94 #[.slice A n c] w (tabPost l w):=by
 have HNR:=Lh (newReader A n c l w hl hr (by omega))
 have HL:=Lh hl
 clear hr hl
 go_enter Tryz.func94,Tryz.ntmps94
 go_wp2_with fail
 refine HNR.out.mono ?_
 rintro e w1 ⟨g,Ar,cr,rfl,hg,hAr,hrow,hb1⟩
 have HB1:=Lh hb1
 have HAR:=Lh hAr
 clear hb1 hAr HNR
 by_cases h8:8*l.length<8
 ·have HT:=Lh (reader_take_bad g 0 cr 8 l Ar w1 hrow (by rw [HL.out];omega) (by omega) (by omega) (by omega))
  have HM:=Lh (by unfold tableL;rw [if_pos h8]:tableL l=none)
  clear h8 hrow
  go_wp2_with fail
  refine HT.out.mono ?_
  rintro e w2 ⟨rfl,hrow2,hgr2⟩
  have HB2:=Lh (HB1.out.trans (below_grown hgr2 (HB1.out.size) (fun k hk=>by cases hk;exact hg)))
  clear hrow2 hgr2
  go_wp2
  go_ret3
  exact tabPost_bad HM.out (by omega) HB2.out
 ·have HT:=Lh (reader_take_ok g 0 cr 8 l Ar w1 hrow (by rw [HL.out];omega) (by omega) (by omega))
  clear hrow
  go_wp2_with fail
  refine HT.out.mono ?_
  rintro e w2 ⟨rfl,hrow2,hgr2⟩
  have HB2:=Lh (HB1.out.trans (below_grown hgr2 (HB1.out.size) (fun k hk=>by cases hk;exact hg)))
  have hlt:=numAt_lt l 0 8
  generalize hN:numAt l 0 8=N0 at *
  obtain ⟨R,hR⟩:∃ R,tabGo l (N0+1) (N0+1) 8 [] false=R:=⟨_,rfl⟩
  have HM:=Lh (tableL_of h8 (by rw [hN]) hR)
  have HR:=Lh hR
  have HROW:=Lh hrow2
  have HG:=Lh hg
  have H8:=Lh (by omega:8≤8*l.length)
  clear hR hN h8 hrow2 hgr2 HT hg
  go_wp2
  go_loopg [8,9] (N0+1) (fun gg s8 s9 wr=>∃ (f a m co:Nat) (Ao:OA) (out:List Nat) (short:Bool),N0+1-m≤f∧m≤N0+1∧N0+1-m≤gg∧s8=.slice Ao m co∧s9=.bool short∧OwnN wr w.heap.size Ao m co out ∧
   IsRow wr 229 g l a Ar cr∧a≤8*l.length∧tabGo l (N0+1) f a out short=R∧(∀ x∈out,x≤15)∧Below w.heap.size w wr)
  case atStart=>exact ⟨N0+1,8,0,0,none,[],false,by omega,by omega,by omega,rfl,rfl,OwnN.nil _ _,HROW.out,H8.out,HR.out,by simp,HB2.out⟩
  case round=>
   obtain ⟨f,a,m,co,Ao,out,short,hf,hmn,hgg,rfl,rfl,hown,hrow,ha,hgo,h15,hbel⟩:=hrel
   have hlen:=OwnN.length hown
   by_cases hlt2:m<N0+1
   ·obtain ⟨f,rfl⟩:∃ f',f=f'+1:=⟨f-1,by omega⟩
    rw [tabGo,if_neg (by omega)] at hgo
    have hne15:=numAt_lt l a 4
    by_cases h4:8*l.length<a+4
    ·have HT:=Lh (reader_take_bad g a cr 4 l Ar wr hrow (by rw [HL.out];omega) (by omega) ha h4)
     rw [if_pos h4] at hgo
     have HM2:=Lh (HM.out.trans (by rw [←hgo];rfl):tableL l=none)
     have HBel:=Lh hbel
     clear hgo h15 hown hrow hbel hlen hne15
     go_wp2_with fail
     refine HT.out.mono ?_
     rintro e w3 ⟨rfl,-,hgr⟩
     go_wp2
     go_ret3
     exact tabPost_bad HM2.out (by omega) (HBel.out.trans (below_grown hgr HBel.out.size (fun k hk=>by cases hk;exact HG.out)))
    ·have HT:=Lh (reader_take_ok g a cr 4 l Ar wr hrow (by rw [HL.out];omega) (by omega) (by omega))
     rw [if_neg h4] at hgo
     have HO:=Lh (fun w' hgr=>OwnN.keptR (w':=w') hown hrow (by decide) hgr)
     have HBel:=Lh hbel
     have HLen:=Lh hlen
     have H15:=Lh h15
     have HGO:=Lh hgo
     clear hgo h15 hown hrow hbel hlen
     generalize hx:numAt l a 4=x at *
     clear hx
     go_wp2_with fail
     refine HT.out.mono ?_
     rintro e w3 ⟨rfl,hrow3,hgr⟩
     have HO3:=Lh (HO.out w3 hgr)
     have HR3:=Lh hrow3
     have HB3:=Lh (HBel.out.trans (below_grown hgr HBel.out.size (fun k hk=>by cases hk;exact HG.out)))
     clear HT HO hrow3 hgr
     by_cases hx0:x=0
     ·have hxe:((x:Int)==0)=true:=beq_iff_eq.2 (by omega)
      rw [if_neg (by omega)] at HGO
      by_cases h8:8*l.length<a+4+4
      ·have HT:=Lh (reader_take_bad g (a+4) cr 4 l Ar w3 HR3.out (by rw [HL.out];omega) (by omega) (by omega) h8)
       rw [if_pos h8] at HGO
       have HM2:=Lh (HM.out.trans (by rw [←HGO.out];rfl):tableL l=none)
       clear HGO h8 h4
       go_wp2_with fail
       refine HT.out.mono ?_
       rintro e w4 ⟨rfl,-,hgr⟩
       go_wp2
       go_ret3
       exact tabPost_bad HM2.out (by omega) (HB3.out.trans (below_grown hgr HB3.out.size (fun k hk=>by cases hk;exact HG.out)))
      ·have HT:=Lh (reader_take_ok g (a+4) cr 4 l Ar w3 HR3.out (by rw [HL.out];omega) (by omega) (by omega))
       rw [if_neg h8] at HGO
       have hyl:=numAt_lt l (a+4) 4
       generalize hy:numAt l (a+4) 4=y at *
       have H8b:=Lh (by omega:a+4+4≤8*l.length)
       clear hy h8 h4
       go_wp2_with fail
       refine HT.out.mono ?_
       rintro e w4 ⟨rfl,hrow4,hgr⟩
       have HO4:=Lh (OwnN.keptR HO3.out HR3.out (by decide) hgr)
       have HR4:=Lh hrow4
       have HB4:=Lh (HB3.out.trans (below_grown hgr HB3.out.size (fun k hk=>by cases hk;exact HG.out)))
       clear HT hrow4 hgr
       cases short with
       | true=>
         rw [if_pos (.inl rfl)] at HGO
         have HM2:=Lh (HM.out.trans (by rw [←HGO.out];rfl):tableL l=none)
         clear HGO
         go_wp2
         go_ret3
         exact tabPost_bad HM2.out (by omega) HB4.out
       | false=>
         by_cases hroom:N0+1-m<y+1
         ·rw [if_pos (.inr (by rw [HLen.out];exact hroom))] at HGO
          have HM2:=Lh (HM.out.trans (by rw [←HGO.out];rfl):tableL l=none)
          clear HGO
          have hroom':(N0:Int)+1-m<(y:Int)+1:=by omega
          go_wp2
          go_ret3
          exact tabPost_bad HM2.out (by omega) HB4.out
         ·rw [if_neg (by rw [HLen.out];rintro (h|h);cases h;omega)] at HGO
          have hroom':(y:Int)+1≤(N0:Int)+1-m:=by omega
          go_wp2_with (at_builtin;refine wpList_append_zeros rfl _ _ elemN .i64 .i64 Tryz.underlying3 rfl w.heap.size Ao m co (out.map natv) rfl HO4.out (y+1) ?c0 ?c1 rfl ?c2 ?c3 ?c4 ?_)
          case c0=>rfl
          case c1=>omega
          case c2=>omega
          case c3=>omega
          case c4=>exact HB4.out.size
          intro A' c' w5 hown5 hb5 hgr5 _
          have HO5:=Lh (ownN_zeros hown5)
          have HR5:=Lh (IsRow.keptN HR4.out (by decide) HO4.out hgr5)
          have HB5:=Lh (HB4.out.trans hb5)
          clear hown5 hb5 hgr5
          go_wp2
          go_roundg (N0+1-(m+(y+1)))
          case measure=>omega
          case rel=>exact ⟨f,a+4+4,m+(y+1),c',A',out++List.replicate (y+1) 0,decide (y<15),by omega,by omega,by omega,rfl,by rw [show decide (y<15)=decide ((y:Int)<15) from decide_eq_decide.2 (by omega)],HO5.out,HR5.out,H8b.out,HGO.out,zeros15 H15.out,HB5.out⟩
     ·have hxne:((x:Int)==0)=false:=bF (by omega)
      rw [if_pos hx0] at HGO
      go_wp2_with (at_builtin;refine wpList_append_one rfl _ _ elemN rfl w.heap.size Ao m co (out.map natv) w3 (.int .i64 (x:Int)) rfl rfl HO3.out rfl rfl ?c1 ?c2 ?c3 ?_)
      case c1=>omega
      case c2=>omega
      case c3=>exact HB3.out.size
      intro A' c' w4 hown4 hb4 hgr4 _
      have HO4:=Lh (ownN_snoc hown4)
      have HR4:=Lh (IsRow.keptN HR3.out (by decide) HO3.out hgr4)
      have HB4:=Lh (HB3.out.trans hb4)
      clear hown4 hb4 hgr4
      go_wp2
      go_roundg (N0+1-(m+1))
      case measure=>omega
      case rel=>exact ⟨f,a+4,m+1,c',A',out++[x],false,by omega,by omega,by omega,rfl,rfl,HO4.out,HR4.out,by omega,HGO.out,snoc15 H15.out (by omega),HB4.out⟩
   ·obtain rfl:m=N0+1:=by omega
    rw [tabGo_done (by omega)] at hgo
    have hleft:(8*l.length-a)%8<8:=Nat.mod_lt _ (by omega)
    have HLeft:=Lh (reader_left g a cr l Ar wr hrow (by rw [HL.out];omega) ha)
    have HT:=Lh (fun q=>reader_take_ok g a cr ((8*l.length-a)%8) l Ar (wr.drewN q) (hrow.later (below_drewN wr q)) (by rw [HL.out];omega) (by omega) (by have:=Nat.mod_le (8*l.length-a) 8;omega))
    have ha8:a+(8*l.length-a)%8≤8*l.length:=by have:=Nat.mod_le (8*l.length-a) 8;omega
    have HM2:=Lh (HM.out.trans (by rw [←hgo];rfl):tableL l=if numAt l a ((8*l.length-a)%8)≠0∨mayL out=false then none else some (out,l.length-(8*l.length-(a+(8*l.length-a)%8))/8))
    have HLL:=Lh (fun wq h=>reader_left g (a+(8*l.length-a)%8) cr l Ar wq h (by rw [HL.out];omega) ha8)
    have HO:=Lh (fun w' hgr=>OwnN.keptR (w':=w') hown hrow (by decide) hgr)
    have HMay:=Lh (fun wq h=>huffMay Ao (N0+1) co out wq hlen h (by omega) (fun x hx=>by have:=h15 x hx;omega))
    have HBel:=Lh hbel
    have HLen:=Lh hlen
    clear hgo h15 hown hrow hbel hlen
    generalize hL:8*l.length-a=left at *
    have hE:((left:Int))%8=((left%8:Nat):Int):=by omega
    generalize left%8=q8 at *
    go_wp2_with fail
    refine HLeft.out.mono ?_
    rintro e w3 ⟨rfl,q,rfl⟩
    go_wp2_with fail
    refine (HT.out q).mono ?_
    rintro e w4 ⟨rfl,hrow4,hgr4⟩
    generalize numAt l a q8=rest at *
    have HO4:=Lh (HO.out w4 (grown_trans (grown_below (below_drewN wr q)) hgr4))
    have HR4:=Lh hrow4
    have HB4:=Lh (HBel.out.trans (below_grown (grown_trans (grown_below (below_drewN wr q)) hgr4) HBel.out.size (fun k hk=>by cases hk;exact HG.out)))
    clear hrow4 hgr4 HO HT
    by_cases hrest:rest=0
    ·have hr0:((rest:Int) != 0)=false:=by rw [hrest];rfl
     cases hmay:mayL out with
     | false=>
       have HMay4:=Lh (HMay.out w4 (OwnN.ns HO4.out))
       rw [hmay] at HMay4
       have HM3:=Lh (HM2.out.trans (if_pos (.inr hmay)))
       clear hmay
       go_wp2_with fail
       refine HMay4.out.mono ?_
       rintro e w5 ⟨rfl,rfl⟩
       go_wp2
       go_ret3
       exact tabPost_bad HM3.out (by omega) HB4.out
     | true=>
       have HMay4:=Lh (HMay.out w4 (OwnN.ns HO4.out))
       rw [hmay] at HMay4
       have HM3:=Lh (HM2.out.trans (if_neg (by rw [hmay];rintro (h|h);exact h hrest;cases h)))
       have HLL4:=Lh (HLL.out w4 HR4.out)
       clear hmay
       go_wp2_with fail
       refine HMay4.out.mono ?_
       rintro e w5 ⟨rfl,rfl⟩
       go_wp2_with fail
       refine HLL4.out.mono ?_
       rintro e w6 ⟨rfl,q',rfl⟩
       go_wp2
       go_ret3
       exact tabPost_ok HM3.out HLen.out HO4.out (HO4.out.later (below_drewN _ _)) (HB4.out.trans ((below_drewN w5 q').mono HB4.out.size)) (by have e0:=HL.out;have e1:=IntWalk.wrap64_in (((8*l.length-(a+q8):Nat):Int)/8) ⟨by omega,by omega⟩;rw [e1,IntWalk.wrap64_in _ ⟨by omega,by omega⟩];omega)
    ·have hr0:((rest:Int) != 0)=true:=by simpa using hrest
     have HM3:=Lh (HM2.out.trans (if_pos (.inl hrest)))
     go_wp2
     go_ret3
     exact tabPost_bad HM3.out (by omega) HB4.out
open Go.Maps
def keyV (a b:Nat):Value:=.agg #[.int .i64 (a:Int),.int .i64 (b:Int)]
def keyL (a b:Nat):Lit:=.string (keyBytes [.int .i64 (a:Int),.int .i64 (b:Int)])
theorem key_at:Tryz.prog.keyTypeAt 2 223=true:=by kernel_rfl
theorem key_tiled:Tryz.prog.tiled 2 223=true:=by kernel_rfl
theorem keyLaw:WideMaps.KeyLaw Tryz.prog 223:=by
 refine deep_law (P:=Tryz.prog) (m:=2) (by decide) key_at key_tiled ?_
 rw [Tryz.underlying223]
theorem keyKeyed:Keyed Tryz.prog 223:=Keyed.of_law keyLaw
theorem keyLits_int (d:Nat) {a:Int} (h:(Lit.int .i64 a).wf=true):Tryz.prog.keyLits (d+1) 3 [.int .i64 a]=some [.int .i64 a]:=by
 rw [Program.keyLits.eq_def]
 simp only [Tryz.underlying3]
 rw [if_pos ⟨trivial,h⟩]
theorem key_cells:Tryz.prog.cellsOf 223=2:=by kernel_rfl
theorem int_cells:Tryz.prog.cellsOf 3=1:=by kernel_rfl
theorem key_type:Tryz.prog.keyType 223=true:=by kernel_rfl
theorem types_size:∃ d,Tryz.prog.types.size+1=d+2:=by
 have h:Nat.ble 1 Tryz.prog.types.size=true:=by kernel_rfl
 have:=Nat.le_of_ble_eq_true h
 exact ⟨Tryz.prog.types.size-1,by omega⟩
theorem keyLits_key (d:Nat) {a b:Int} (ha:(Lit.int .i64 a).wf=true) (hb:(Lit.int .i64 b).wf=true):Tryz.prog.keyLits (d+2) 223 [.int .i64 a,.int .i64 b]=some [.int .i64 a,.int .i64 b]:=by
 rw [Program.keyLits.eq_def]
 simp only [Tryz.underlying223,key_cells]
 simp [int_cells,keyLits_int d ha,keyLits_int d hb]
theorem keyOf_key {a b:Nat} (ha:a<9223372036854775808) (hb:b<9223372036854775808):keyOf Tryz.prog 223 (keyV a b)=some (keyL a b):=by
 obtain ⟨d,hd⟩:=types_size
 unfold keyOf keyV keyL
 have hf:(Value.agg #[.int .i64 (a:Int),.int .i64 (b:Int)]).formed Tryz.prog 223=true:=by simp [Value.formed,Tryz.underlying223,key_cells]
 simp only [Tryz.underlying223,key_type,hf,hd]
 simp [Value.cells,keyLits_key d (WalkArith.wf_i64 (n:=(a:Int)) (by omega)) (WalkArith.wf_i64 (n:=(b:Int)) (by omega))]
theorem keyL_inj {a b a' b':Nat} (ha:a<9223372036854775808) (hb:b<9223372036854775808) (ha':a'<9223372036854775808) (hb':b'<9223372036854775808) (h:keyL a b=keyL a' b'):a=a'∧b=b':=by
 have h1:=keyOf_key ha hb
 rw [h] at h1
 have:=keyKeyed.inj h1 (keyOf_key ha' hb')
 unfold keyV at this
 have h2:(a:Int)=a'∧(b:Int)=b':=by simpa using this
 omega
def Mp (w:World) (b n:Nat) (f:Nat→Nat→Option UInt8):Prop:=
 ∃ D:DataW Unit,w.ownsMap Tryz.prog 223 (plainElem Tryz.prog 5) b n D∧∀ x y,x<1099511627776→y<1099511627776 →
   match f x y with
   | some v=>has D (keyL x y)=true∧∀ z,D.atKey (keyL x y) z=.lit (.int .u8 (v.toNat:Int))
   | none=>has D (keyL x y)=false
theorem Mp.made (w:World):Mp (w.alloc (.map #[] 0)) w.heap.size 0 (fun _ _=>none):=
 ⟨.map [],World.ownsMap_made w _ _ _,fun _ _ _ _=>rfl⟩
theorem Mp.kept {w w':World} {row:Option Nat} {b n:Nat} {f:Nat→Nat→Option UInt8} (h:Mp w b n f) (hg:w.grownBy w' row) (hne:row≠some b):Mp w' b n f:=by
 obtain ⟨D,h1,h2⟩:=h
 exact ⟨D,h1.kept hg (fun e=>hne e.symm),h2⟩
theorem Mp.mono {w:World} {b n n':Nat} {f:Nat→Nat→Option UInt8} (h:Mp w b n f) (hn:n≤n'):Mp w b n' f:=by
 obtain ⟨D,h1,h2⟩:=h
 exact ⟨D,h1.mono hn,h2⟩
theorem Mp.ext {w:World} {b n:Nat} {f f':Nat→Nat→Option UInt8} (h:Mp w b n f) (e:∀ x y,f x y=f' x y):Mp w b n f':=by
 obtain rfl:f=f':=by funext x y;exact e x y
 exact h
theorem isMap_of_owns {w:World} {b n:Nat} {D:DataW Unit} (h:w.ownsMap Tryz.prog 223 (plainElem Tryz.prog 5) b n D):IsMap D:=by
 obtain ⟨es,clock,-,-,-,rfl⟩:=h
 exact ⟨_,rfl⟩
theorem Mp.ne_own {w:World} {b n base m c:Nat} {e:TypeId} {A:OA} {xs:List Value} {f:Nat→Nat→Option UInt8} (h:Mp w b n f) (ho:Own w base e A m c xs):bk A≠some b:=by
 obtain ⟨D,⟨es,clock,hb,-⟩,-⟩:=h
 rcases ho.2 with ⟨hv,_⟩|⟨g,cap,cur,hv,_,hh,_⟩
 ·simp only [Value.slice.injEq] at hv
  rw [hv.1];simp [bk]
 ·simp only [Value.slice.injEq] at hv
  rw [hv.1]
  intro he
  obtain rfl:g=b:=by simpa [bk] using he
  rw [hh] at hb
  cases hb
theorem Mp.ne_blk {w:World} {b n g:Nat} {t:TypeId} {cs:Array Value} {f:Nat→Nat→Option UInt8} (h:Mp w b n f) (ho:Blk w g t cs):g≠b:=by
 obtain ⟨D,⟨es,clock,hb,-⟩,-⟩:=h
 rintro rfl
 unfold Blk at ho
 rw [ho] at hb
 cases hb
theorem wpList_Mp_set {P':Program} (hP:P'=Tryz.prog) {w:World} {ops:Array Oper} {rest:List Oper} {o:Oper} {a:Act} {Q:Exit→Act→World→Prop} (hg:o.guard=none) (m x v:Operand) (hop:o.op=Op.mapUpdate 219 m x v)
 (b n:Nat) (f:Nat→Nat→Option UInt8) (hm:a.eval m=.map (some b)) (hown:Mp w b n f) (hn:n<1000000) (p q:Nat) (u:UInt8) (hp:p<1099511627776) (hq:q<1099511627776) (hx:a.eval x=keyV p q) (hv:a.eval v=.int .u8 (u.toNat:Int))
 (hK:∀ w',Mp w' b (n+1) (fun x y=>if x=p∧y=q then some u else f x y)→w.grownBy w' (some b)→wpList P' ops Q rest (a.put o.dst undef) w'):wpList P' ops Q (o::rest) a w:=by
 subst hP
 obtain ⟨D,h1,h2⟩:=hown
 have hu:plainElem (H:=Unit) Tryz.prog 5 (.int .u8 (u.toNat:Int))=some (.lit (.int .u8 (u.toNat:Int)),[]):=plainElem_int Tryz.underlying5 (WalkArith.wf_u8 (by have:=u.toNat_lt;omega))
 have hk:=keyOf_key (a:=p) (b:=q) (by omega) (by omega)
 refine wpList_mapUpdate_own w hg m x v 219 hop 223 5 keyKeyed Tryz.underlying219 (plainElem Tryz.prog 5) b n D hm h1 (by unfold maxLen;omega) _ _ (keyL p q) hx hv hk _ [] hu (fun w' h3 h4=>hK w' ⟨_,h3,fun x y hx hy=>?_⟩ h4)
 have hI:=isMap_of_owns h1
 by_cases hxy:x=p∧y=q
 ·obtain ⟨rfl,rfl⟩:=hxy
  show match (if x=x∧y=y then some u else f x y) with|some v=>_|none=>_
  rw [if_pos ⟨rfl,rfl⟩]
  exact ⟨has_put_same hI (keyKeyed.key hk) _,fun z=>atKey_put_same hI (keyKeyed.key hk) _ z⟩
 ·show match (if x=p∧y=q then some u else f x y) with|some v=>_|none=>_
  rw [if_neg hxy]
  have hne:keyL x y≠keyL p q:=fun e=>hxy (keyL_inj (by omega) (by omega) (by omega) (by omega) e)
  have:=h2 x y hx hy
  rw [has_put_other hne]
  cases hf:f x y with
  | none=>rw [hf] at this;exact this
  | some v=>
    rw [hf] at this
    exact ⟨this.1,fun z=>by rw [atKey_put_other hne];exact this.2 z⟩
theorem wpList_Mp_get {P':Program} (hP:P'=Tryz.prog) {w:World} {ops:Array Oper} {rest:List Oper} {o:Oper} {a:Act} {Q:Exit→Act→World→Prop} (hg:o.guard=none) (m x:Operand) (hop:o.op=Op.lookup 219 m x true)
 (b n:Nat) (f:Nat→Nat→Option UInt8) (hm:a.eval m=.map (some b)) (hown:Mp w b n f) (p q:Nat) (hp:p<1099511627776) (hq:q<1099511627776) (hx:a.eval x=keyV p q)
 (hK:∀ i:Int,(match f p q with|some u=>i=(u.toNat:Int)|none=>True)→wpList P' ops Q rest (a.put o.dst (.tuple #[.int .u8 i,.bool (f p q).isSome])) w):wpList P' ops Q (o::rest) a w:=by
 subst hP
 obtain ⟨D,h1,h2⟩:=hown
 have hk:=keyOf_key (a:=p) (b:=q) (by omega) (by omega)
 refine wpList_lookup_own_ok w hg m x 219 hop 223 5 keyKeyed Tryz.underlying219 (plainElem Tryz.prog 5) (z:=.int .u8 0) (by kernel_rfl) _ [] (plainElem_int Tryz.underlying5 rfl) b n D hm h1 _ _ hx hk (fun v ps hv=>?_)
 obtain ⟨c,rfl,hc,-⟩:=plainElem_int_inv Tryz.underlying5 hv
 simp only [Prod.mk.injEq] at hc
 have h:=h2 p q hp hq
 cases hf:f p q with
 | none=>
   rw [hf] at h
   rw [h]
   have:=hK c (by rw [hf];trivial)
   rw [hf] at this
   exact this
 | some u=>
   rw [hf] at h
   rw [h.1]
   have hcu:c=(u.toNat:Int):=by
    have:=hc.1
    rw [h.2] at this
    simpa using this.symm
   have:=hK c (by rw [hf];exact hcu)
   rw [hf] at this
   exact this
theorem wpList_Mp_hit {P':Program} (hP:P'=Tryz.prog) {w:World} {ops:Array Oper} {rest:List Oper} {o:Oper} {a:Act} {Q:Exit→Act→World→Prop} (hg:o.guard=none) (m x:Operand) (hop:o.op=Op.lookup 219 m x true)
 (b n:Nat) (f:Nat→Nat→Option UInt8) (hm:a.eval m=.map (some b)) (hown:Mp w b n f) (p q:Nat) (hp:p<1099511627776) (hq:q<1099511627776) (hx:a.eval x=keyV p q) (u:UInt8) (hf:f p q=some u)
 (hK:wpList P' ops Q rest (a.put o.dst (.tuple #[.int .u8 (u.toNat:Int),.bool true])) w):wpList P' ops Q (o::rest) a w:=
 wpList_Mp_get hP hg m x hop b n f hm hown p q hp hq hx (fun i hi=>by rw [hf] at hi ⊢;simp only at hi;subst hi;exact hK)
theorem wpList_Mp_miss {P':Program} (hP:P'=Tryz.prog) {w:World} {ops:Array Oper} {rest:List Oper} {o:Oper} {a:Act} {Q:Exit→Act→World→Prop} (hg:o.guard=none) (m x:Operand) (hop:o.op=Op.lookup 219 m x true)
 (b n:Nat) (f:Nat→Nat→Option UInt8) (hm:a.eval m=.map (some b)) (hown:Mp w b n f) (p q:Nat) (hp:p<1099511627776) (hq:q<1099511627776) (hx:a.eval x=keyV p q) (hf:f p q=none)
 (hK:∀ i:Int,wpList P' ops Q rest (a.put o.dst (.tuple #[.int .u8 i,.bool false])) w):wpList P' ops Q (o::rest) a w:=
 wpList_Mp_get hP hg m x hop b n f hm hown p q hp hq hx (fun i _=>by rw [hf];exact hK i)
def decF (l cs:List Nat):Nat→Nat→Nat→Option UInt8
 | 0=>fun _ _=>none
 | k+1=>fun x y=>if 0<l.getD k 0∧x=l.getD k 0∧y=cs.getD k 0 then some (UInt8.ofNat k) else decF l cs k x y
def symD (F:Nat→Nat→Option UInt8) (l:List UInt8):Nat→Nat→Nat→Nat→Option (UInt8 × Nat)
 | 0,_,_,_=>none
 | f+1,a,len,code=>
   if 8*l.length<a+1∨len=11 then none
   else match F (len+1) (2*code+bitAt l a) with
    | some b=>some (b,a+1)
    | none=>symD F l f (a+1) (len+1) (2*code+bitAt l a)
def decGo (F:Nat→Nat→Option UInt8) (l:List UInt8):Nat→Nat→List UInt8→Option (List UInt8 × Nat)
 | 0,a,out=>some (out,a)
 | f+1,a,out=>match symD F l 12 a 0 0 with
   | some (b,a')=>decGo F l f a' (out++[b])
   | none=>none
def decNext (F:Nat→Nat→Option UInt8) (l:List UInt8) (r:Nat) (out:List UInt8):Option (UInt8 × Nat)→Option (List UInt8 × Nat)
 | some (b,a')=>decGo F l r a' (out++[b])
 | none=>none
theorem decGo_succ (F:Nat→Nat→Option UInt8) (l:List UInt8) (r a:Nat) (out:List UInt8):decGo F l (r+1) a out=decNext F l r out (symD F l 12 a 0 0):=by
 rw [decGo];cases symD F l 12 a 0 0 with
 | none=>rfl
 | some x=>rfl
theorem num1 (l:List UInt8) (a:Nat):numAt l a 1=bitAt l a:=by simp [numAt]
theorem or_step {code bit nc len:Nat} (hcode:code<2^len) (hlen:len≤11) (hbit:bit<2) (hnc:nc=2*code+bit):
 bits .or .i64 (wrap64 ((code:Int)*2)) (bit:Int)=(nc:Int)∧nc<2^(len+1)∧nc<5000:=by
 have hp11:2^len≤2048:=(Nat.pow_le_pow_right (by omega) hlen:2^len≤2^11)
 have h3:2^(len+1)=2*2^len:=by rw [Nat.pow_succ];omega
 rw [h3]
 generalize 2^len=p at *
 refine ⟨?_,by omega,by omega⟩
 have h:=or_shl (y:=bit) (x:=code) (j:=1) (by omega) (by omega)
 rw [show (code:Int)*2^1=(code:Int)*2 by omega] at h
 have e1:wrap64 ((code:Int)*2)=((2*code:Nat):Int):=by
  rw [show (code:Int)*2=((2*code:Nat):Int) by omega,wrap64_nat (by omega)]
 rw [e1] at h ⊢
 rw [i64_or_nat _ _ (by omega) (by omega)] at h ⊢
 rw [Nat.or_comm,h,hnc]
 omega
theorem sep_symm {a b:Option Nat} (h:a=none∨a≠b):b=none∨b≠a:=by
 rcases h with rfl|h
 ·cases b<;>simp
 ·exact .inr (Ne.symm h)
def decEnd (l:List UInt8):Option (List UInt8 × Nat)→Option (List UInt8)
 | none=>none
 | some (out,a)=>if numAt l a ((8*l.length-a)%8)≠0∨0<8*l.length-(a+(8*l.length-a)%8) then none else some out
def decodeL (lens:List Nat) (l:List UInt8) (n:Nat):Option (List UInt8):=
 if mayL lens=false then none else decEnd l (decGo (decF lens (codesL lens) 256) l n 0 [])
def decPost (r:Option (List UInt8)) (w:World) (e:Ending) (w':World):Prop:=
 Below w.heap.size w w'∧match r with
 | none=>∃ E:Int,E≠0∧e=.returned (.tuple #[.slice none 0 0,.int .i64 E])
 | some out=>∃ A' c',e=.returned (.tuple #[.slice A' out.length c',.int .i64 0])∧OwnB w' w.heap.size A' out.length c' out
theorem decPost_bad {r:Option (List UInt8)} {w w':World} {E:Int} (h:r=none) (hE:E≠0) (hb:Below w.heap.size w w'):decPost r w (.returned (.tuple #[.slice none 0 0,.int .i64 E])) w':=by
 subst h;exact ⟨hb,E,hE,rfl⟩
theorem decPost_ok {r:Option (List UInt8)} {w w':World} {out:List UInt8} {m co:Nat} {A:OA} (h:r=some out) (hm:out.length=m) (ho:OwnB w' w.heap.size A m co out) (hb:Below w.heap.size w w'):
 decPost r w (.returned (.tuple #[.slice A m co,.int .i64 0])) w':=by
 subst hm;subst h
 exact ⟨hb,A,co,rfl,ho⟩
theorem mayL_facts {l:List Nat} (h:mayL l=true):0<l.length∧l.length≤256∧∀ x∈l,x≤11:=by
 unfold mayL at h
 simp only [Bool.and_eq_true,decide_eq_true_eq,List.all_eq_true] at h
 exact ⟨h.1.1.1.1,h.1.1.1.2,h.1.2⟩
theorem int_plain:Tryz.prog.plainKey 3=true:=by kernel_rfl
theorem run_index_int {t:TypeId} {n:Nat} (ht:Tryz.prog.underlying t=some (.array n 3)) {arr:Array Value} {k:Nat} {v:Value} (w:World) (hk:k<n) (hv:arr[k]? = some v):
 (Instr.index t (.agg arr) (.int .i64 (k:Int))).run Tryz.prog w=.ok v w:=by
 obtain ⟨i,hi,-,h1,-⟩:=info_parts elemN.hi
 have hn:(0≤(k:Int)∧(k:Int)<(n:Int)):=by omega
 simp [Instr.index,run_underlying ht,asIntOf,hn,sizeOf,typeInfo,hi,h1,run_part_plain w int_plain hv,hk]
theorem cRow_small (l:List Nat) (k B:Nat) (s:List Nat × Nat) (h:∀ x∈s.1,x≤B) (h2:s.2+l.length≤B):∀ m,m≤l.length→(∀ x∈(cRow l k s m).1,x≤B)
 | 0,_=>h
 | m+1,hm=>by
   have h3:=cRow_small l k B s h h2 m (by omega)
   have h4:=(cRow_facts l k s m).2
   rw [cRow];unfold cStep
   split
   ·intro x hx
    rcases List.mem_or_eq_of_mem_set hx with hx|rfl
    ·exact h3 x hx
    ·omega
   ·exact h3
theorem cAll_small (l:List Nat) (hl:l.length≤256):∀ k,∀ x∈(cAll l k).1,x≤256*2^k
 | 0=>fun x hx=>by
   have:x=0:=List.eq_of_mem_replicate hx
   omega
 | k+1=>by
   have h:=cAll_small l hl k
   have h2:=(cAll_facts l hl k).2
   have e:2^(k+1)=2*2^k:=by rw [Nat.pow_succ];omega
   have h0:0<2^k:=Nat.two_pow_pos k
   exact cRow_small l (k+1) (256*2^(k+1)) ((cAll l k).1,2*(cAll l k).2) (fun x hx=>by have:=h x hx;omega) (by show 2*(cAll l k).2+l.length≤_;omega) l.length nL
theorem codesL_small {l:List Nat} (hl:l.length≤256) {x:Nat} (h:x∈codesL l):x≤524288:=cAll_small l hl 11 x h
theorem decF_hit {l cs:List Nat} {k x c:Nat} (h:l[k]? = some x) (hc:cs[k]? = some c) (h0:0<x):∀ p q,(if p=x∧q=c then some (UInt8.ofNat k) else decF l cs k p q)=decF l cs (k+1) p q:=by
 intro p q
 have e1:l.getD k 0=x:=by simp [List.getD,h]
 have e2:cs.getD k 0=c:=by simp [List.getD,hc]
 rw [decF,e1,e2]
 simp [h0]
theorem decF_miss {l cs:List Nat} {k:Nat} (h:l.getD k 0=0):∀ p q,decF l cs k p q=decF l cs (k+1) p q:=by
 intro p q
 rw [decF,h]
 simp
theorem huffDecode (A:OA) (m c:Nat) (lens:List Nat) (A2:OA) (m2 c2:Nat) (l:List UInt8) (n:Nat) (w:World) (hl:lens.length=m) (hr:Ns w A lens) (hm:m≤140737488351232) (hb:∀ x∈lens,x≤140737488351232)
 (hl2:l.length=m2) (hr2:Bs w A2 l) (hm2:m2≤140737488351232) (hn:n≤65536):
 Calls Tryz.prog 95 #[.slice A m c,.slice A2 m2 c2,.int .i64 (n:Int)] w (decPost (decodeL lens l n) w):=by
 have HMay:=Lh (huffMay A m c lens w hl hr hm hb)
 cases hmay:mayL lens with
 | false=>
   rw [hmay] at HMay
   have HD:=Lh (by unfold decodeL;rw [if_pos hmay]:decodeL lens l n=none)
   clear hl hr hb hl2 hr2 hmay
   go_enter Tryz.func95,Tryz.ntmps95
   go_wp2_with fail
   refine HMay.out.mono ?_
   rintro e w1 ⟨rfl,rfl⟩
   go_wp2
   go_ret2
   exact decPost_bad HD.out (by omega) (Below.refl _ _)
 | true=>
   rw [hmay] at HMay
   obtain ⟨hf1,hf2,hf3⟩:=mayL_facts hmay
   have HC:=Lh (fun w0 hr=>codes_any A m c lens w0 hl hr (by omega) hf3)
   have HD:=Lh (by unfold decodeL;rw [if_neg (by rw [hmay];simp)]:decodeL lens l n=decEnd l (decGo (decF lens (codesL lens) 256) l n 0 []))
   have HCL:=Lh (by unfold codesL;exact (cAll_facts lens hf2 11).1:(codesL lens).length=256)
   have HCS:=Lh (fun x h=>codesL_small hf2 (x:=x) h)
   have HL:=Lh hl
   have HR:=Lh hr
   have HL2:=Lh hl2
   have HR2:=Lh hr2
   have HB:=Lh hf3
   have hm256:m≤256:=by omega
   clear hl hr hb hl2 hr2 hmay hf1 hf2 hf3
   have hmm:=@run_makeMap Tryz.prog
   go_enter Tryz.func95,Tryz.ntmps95
   go_wp2_with fail
   refine HMay.out.mono ?_
   rintro e w1 ⟨rfl,rfl⟩
   have hmap:=Lh (Mp.made w1)
   go_wp2_with fail
   refine (HC.out _ (HR.out.later (Below.alloc (Below.refl _ _) nL _))).mono ?_
   rintro e w2 ⟨rfl,hb2⟩
   generalize codesL lens=cs at *
   have HB2:=Lh ((Below.alloc (Below.refl _ _) nL _:Below w1.heap.size w1 (w1.alloc (.map #[] 0))).trans (hb2.mono (by simp)))
   have HMp:=Lh (Mp.kept hmap.out (row:=none) (grown_of_below hb2) (by simp))
   clear hb2 hmap HC hmm
   go_wp2
   go_loopg [34] 256 (fun g s34 wr=>∃ k:Nat,k≤256∧256-k≤g∧s34=.int .i64 k∧Mp wr w1.heap.size k (decF lens cs k)∧Below w1.heap.size w1 wr)
   case atStart=>exact ⟨0,by omega,by omega,rfl,HMp.out,HB2.out⟩
   case round=>
    obtain ⟨k,hk,hg,rfl,hmp,hbel⟩:=hrel
    have HM:=Lh hmp
    have HBel:=Lh hbel
    clear hmp hbel
    by_cases hlt:k<256
    ·obtain ⟨cv,hcv⟩:=getN (by rw [HCL.out];exact hlt:k<cs.length)
     have hcell:(List.map natv cs).toArray[k]? = some (.int .i64 (cv:Int)):=by rw [Zt,List.getElem?_map,hcv];rfl
     have hix:=fun w=>run_index_int Tryz.underlying220 w hlt hcell
     generalize (List.map natv cs).toArray=arr at *
     clear hcell
     by_cases hkm:k<m
     ·obtain ⟨b,o,x,hA,hx,hc⟩:=HR.out.at_ (by rw [HL.out];exact hkm:k<lens.length)
      subst hA
      have hlt2:=block_lt hc
      have hc2:wr.cell? ⟨b,o+k,none⟩=some (.int .i64 (x:Int)):=by rw [HBel.out.cell (by simpa using hlt2)];exact hc
      by_cases hx0:0<x
      ·have HF:=Lh (decF_hit hx hcv hx0)
       have hx11:=HB.out x (List.mem_of_getElem? hx)
       have hcvs:=HCS.out cv (List.mem_of_getElem? hcv)
       have hx0':0<(x:Int):=by omega
       clear hc hx hcv hx0
       go_wp2_with (at_mapUpdate;refine wpList_Mp_set rfl rfl _ _ _ rfl w1.heap.size k _ rfl HM.out ?c1 x cv (UInt8.ofNat k) ?c2 ?c3 ?c4 ?c5 ?_)
       case c1=>omega
       case c2=>omega
       case c3=>omega
       case c4=>rfl
       case c5=>exact int_eq (by rw [UInt8.toNat_ofNat'];first|omega|(rw [IntKind.wrap_u8];omega))
       intro w3 hmp3 hgr3
       have HM3:=Lh (hmp3.ext HF.out)
       have HB3:=Lh (HBel.out.trans (below_grown hgr3 HBel.out.size (fun k hk=>by cases hk;exact Nat.le_refl _)))
       clear hmp3 hgr3
       go_wp2
       go_roundg (256-(k+1))
       case measure=>omega
       case rel=>exact ⟨k+1,by omega,by omega,by go_num,HM3.out,HB3.out⟩
      ·have HF:=Lh (decF_miss (cs:=cs) (by simp [List.getD,hx];omega:lens.getD k 0=0))
       have hx0':(x:Int)≤0:=by omega
       clear hc hx hcv hx0
       go_wp2
       go_roundg (256-(k+1))
       case measure=>omega
       case rel=>exact ⟨k+1,by omega,by omega,by go_num,(HM.out.ext HF.out).mono (Nat.le_succ k),HBel.out⟩
     ·have HF:=Lh (decF_miss (cs:=cs) (by simp [List.getD,List.getElem?_eq_none (by rw [HL.out];omega:lens.length≤k)]:lens.getD k 0=0))
      clear hcv
      go_wp2
      go_roundg (256-(k+1))
      case measure=>omega
      case rel=>exact ⟨k+1,by omega,by omega,by go_num,(HM.out.ext HF.out).mono (Nat.le_succ k),HBel.out⟩
    ·obtain rfl:k=256:=by omega
     have HR2':=Lh (HR2.out.later HBel.out)
     have HNR:=Lh (fun wq h=>newReader A2 m2 c2 l wq HL2.out h (by omega))
     clear hlt hg hk
     generalize decF lens cs 256=F at *
     go_wp2_with fail
     refine (HNR.out wr HR2'.out).mono ?_
     rintro e w3 ⟨g,Ar,cr,rfl,hg,hAr,hrow,hb1⟩
     have HB3:=Lh (HBel.out.trans (hb1.mono HBel.out.size))
     have HM3:=Lh (HM.out.kept (row:=none) (grown_of_below hb1) (by simp))
     have HG:=Lh (Nat.le_trans HBel.out.size hg)
     have HROW:=Lh hrow
     have HAR:=Lh hAr
     clear hb1 hg hrow hAr HNR HR2' HM HBel
     go_wp2
     go_loopg [12] n (fun gg s12 wr=>∃ (a k co:Nat) (Ao:OA) (out:List UInt8),k≤n∧n-k≤gg∧s12=.slice Ao k co∧OwnB wr w1.heap.size Ao k co out∧(bk Ao=none∨bk Ao≠bk Ar) ∧
      IsRow wr 229 g l a Ar cr∧a≤8*l.length∧Mp wr w1.heap.size 256 F∧decodeL lens l n=decEnd l (decGo F l (n-k) a out)∧Below w1.heap.size w1 wr)
     case atStart=>exact ⟨0,0,0,none,[],by omega,by omega,rfl,OwnB.nil _ _,.inl rfl,HROW.out,by omega,HM3.out,HD.out,HB3.out⟩
     case round=>
      obtain ⟨a,k,co,Ao,out,hk,hgg,rfl,hown,hsep,hrow,ha,hmp,hdec,hbel⟩:=hrel
      have HO:=Lh hown
      have HS:=Lh hsep
      have HRw:=Lh hrow
      have HMp:=Lh hmp
      have HDc:=Lh hdec
      have HBl:=Lh hbel
      clear hown hsep hrow hmp hdec hbel
      by_cases hkn:k<n
      ·obtain ⟨S,hS⟩:∃ S,symD F l 12 a 0 0=S:=⟨_,rfl⟩
       obtain ⟨r,hr⟩:∃ r,n-k=r+1:=⟨n-k-1,by omega⟩
       have HD2:=Lh (by rw [HDc.out,hr,decGo_succ,hS]:decodeL lens l n=decEnd l (decNext F l r out S))
       have HS0:=Lh hS
       have hal:∀ row,wr.grownBy (wr.alloc (.cells #[.int .i64 0,.int .i64 0] 223)) row:=fun row=>World.grownBy_alloc _ _ _
       have HO0:=Lh (Own.alloc HO.out (.cells #[.int .i64 0,.int .i64 0] 223))
       have HRw0:=Lh (HRw.out.later ((Below.refl _ _).alloc nL (.cells #[.int .i64 0,.int .i64 0] 223)))
       have HMp0:=Lh (HMp.out.kept (hal none) (by simp))
       have HBl0:=Lh (HBl.out.alloc HBl.out.size (.cells #[.int .i64 0,.int .i64 0] 223))
       have HK0:=Lh (Blk.new wr 223 #[.int .i64 0,.int .i64 0])
       have hkb:∀ b,bk Ar=some b→b≠wr.heap.size:=fun b e=>by have:=(Own.lt HRw.out.own e).2;omega
       have HKB:=Lh hkb
       have hgk:g≠wr.heap.size:=by have:=HRw.out.blk.lt;omega
       have hsz:w1.heap.size≤wr.heap.size:=HBl.out.size
       clear hS hal hkb
       go_wp2
       generalize wr.heap.size=kb at *
       go_loopg [12] 12 (fun gg2 s12 wi=>∃ (a2 len code:Nat),s12=.slice Ao k co∧len≤11∧11-len≤gg2∧code<2^len∧a2≤8*l.length∧Blk wi kb 223 #[.int .i64 (len:Int),.int .i64 (code:Int)]∧OwnB wi w1.heap.size Ao k co out ∧
        IsRow wi 229 g l a2 Ar cr∧Mp wi w1.heap.size 256 F∧symD F l (12-len) a2 len code=S∧Below w1.heap.size w1 wi)
       case atStart=>exact ⟨a,0,0,rfl,by omega,by omega,by omega,ha,HK0.out,HO0.out,HRw0.out,HMp0.out,HS0.out,HBl0.out⟩
       case round=>
        obtain ⟨a2,len,code,rfl,hlen,hgg2,hcode,ha2,hblk,hown,hrow,hmp,hsy,hbel⟩:=hrel
        by_cases hb1:8*l.length<a2+1
        ·have HT:=Lh (reader_take_bad g a2 cr 1 l Ar wr hrow (by rw [HL2.out];omega) (by omega) ha2 hb1)
         have hsn:S=none:=by
          rw [←hsy,show 12-len=11-len+1 by omega,symD,if_pos (.inl hb1)]
         have HD3:=Lh (HD2.out.trans (by rw [hsn];rfl):decodeL lens l n=none)
         have HBi:=Lh hbel
         clear hblk hown hrow hmp hsy hbel hb1
         go_wp2_with fail
         refine HT.out.mono ?_
         rintro e w4 ⟨rfl,-,hgr⟩
         go_wp2
         go_ret2
         exact decPost_bad HD3.out (by omega) (HBi.out.trans (below_grown hgr HBi.out.size (fun k hk=>by cases hk;exact HG.out)))
        ·have HT:=Lh (reader_take_ok g a2 cr 1 l Ar wr hrow (by rw [HL2.out];omega) (by omega) (by omega))
         rw [num1] at HT
         have hbit:=bitAt_lt l a2
         have HBi:=Lh hbel
         have HSy:=Lh hsy
         have HK1:=Lh (fun w' (hg:wr.grownBy w' (some g))=>hblk.kept hg (by simpa using hgk))
         have HO1:=Lh (fun w' (hg:wr.grownBy w' (some g))=>Own.kept hown hg (.inr (Own.ne_blk hown hrow.blk (by decide))))
         have HMp1:=Lh (fun w' (hg:wr.grownBy w' (some g))=>hmp.kept hg (by simpa using hmp.ne_blk hrow.blk))
         have hb1':=Lh hb1
         clear hblk hown hrow hmp hsy hbel hb1
         rw [show 12-len=11-len+1 by omega,symD] at HSy
         generalize bitAt l a2=bit at *
         go_wp2_with fail
         refine HT.out.mono ?_
         rintro e w4 ⟨rfl,hrow4,hgr⟩
         have HK4:=Lh (HK1.out w4 hgr)
         have HO4:=Lh (HO1.out w4 hgr)
         have HMp4:=Lh (HMp1.out w4 hgr)
         have HB4:=Lh (HBi.out.trans (below_grown hgr HBi.out.size (fun k hk=>by cases hk;exact HG.out)))
         have HR4:=Lh hrow4
         clear hrow4 hgr HT HK1 HO1 HMp1
         have c0:=HK4.out.cell 0
         have c1:=HK4.out.cell 1
         simp only [Zt,Zz,Zs] at c0 c1
         by_cases h11:len=11
         ·have hsn:S=none:=by
           rw [←HSy.out,if_pos (.inr h11)]
          have HD3:=Lh (HD2.out.trans (by rw [hsn];rfl):decodeL lens l n=none)
          have h11':((len:Int)==11)=true:=beq_iff_eq.2 (by omega)
          clear h11
          go_wp2
          go_ret2
          exact decPost_bad HD3.out (by omega) HB4.out
         ·have h11':((len:Int)==11)=false:=bF (by omega)
          have f0:=HK4.out.frozen 0
          have f1:=HK4.out.frozen 1
          rw [if_neg (by intro h;rcases h with h|h;exact hb1'.out h;exact h11 h)] at HSy
          have hp11:2^len≤2048:=(Nat.pow_le_pow_right (by omega) hlen:2^len≤2^11)
          obtain ⟨nc,hnc⟩:∃ nc,nc=2*code+bit:=⟨_,rfl⟩
          obtain ⟨E,hncl,hnc40⟩:=or_step hcode hlen hbit hnc
          rw [←hnc] at HSy
          have HNC:=Lh hncl
          have h10:len≤10:=by omega
          clear h11 hnc hncl hcode hp11
          have g1:=grown_trans (grown_set w4 ⟨kb,0,none⟩ (.int .i64 ((len:Int)+1))) (grown_set (w4.setCell ⟨kb,0,none⟩ (.int .i64 ((len:Int)+1))) ⟨kb,1,none⟩ (.int .i64 (nc:Int)))
          have HK5:=Lh (show Blk ((w4.setCell ⟨kb,0,none⟩ (.int .i64 ((len:Int)+1))).setCell ⟨kb,1,none⟩ (.int .i64 (nc:Int))) kb 223 #[.int .i64 ((len+1:Nat):Int),.int .i64 (nc:Int)] from (HK4.out.set 0 _).set 1 _)
          have hKB2:bk Ar≠some kb:=fun e=>HKB.out kb e rfl
          have HO5:=Lh (Own.kept HO4.out g1 (.inr (Own.ne_blk HO4.out HK4.out (by decide))))
          have HMp5:=Lh (HMp4.out.kept g1 (by simpa using HMp4.out.ne_blk HK4.out))
          have HR5:=Lh (HR4.out.kept g1 (by simpa using fun e=>hgk e.symm) (.inr hKB2))
          have HB5:=Lh (HB4.out.trans (below_grown g1 HB4.out.size (fun j hj=>by cases hj;exact hsz)))
          clear g1 HK4 HO4 HMp4 HR4 HB4
          cases hF:F (len+1) nc with
          | none=>
            rw [hF] at HSy
            have HF:=Lh hF
            clear hF
            go_wp2_with (at_lookup;go_loud (refine wpList_Mp_miss rfl rfl _ _ rfl w1.heap.size 256 F rfl HMp5.out (len+1) nc ?c1 ?c2 ?c3 HF.out ?_))
            case c1=>omega
            case c2=>omega
            case c3=>rfl
            clear c0 c1 f0 f1
            generalize (w4.setCell ⟨kb,0,none⟩ (.int .i64 ((len:Int)+1))).setCell ⟨kb,1,none⟩ (.int .i64 (nc:Int))=w5 at *
            intro i
            go_wp2
            go_roundg (11-(len+1))
            case measure=>omega
            case rel=>exact ⟨a2+1,len+1,nc,rfl,by omega,by omega,HNC.out,by have:=hb1'.out;omega,HK5.out,HO5.out,HR5.out,HMp5.out,by rw [show 12-(len+1)=11-len by omega];exact HSy.out,HB5.out⟩
          | some u=>
            rw [hF] at HSy
            have HF:=Lh hF
            clear hF
            go_wp2_with (first|(at_lookup;refine wpList_Mp_hit rfl rfl _ _ rfl w1.heap.size 256 F rfl HMp5.out (len+1) nc ?c1 ?c2 ?c3 u HF.out ?_)|(at_builtin;refine wpList_append_one rfl _ _ elemB rfl w1.heap.size Ao k co (out.map u8v) ((w4.setCell ⟨kb,0,none⟩ (.int .i64 ((len:Int)+1))).setCell ⟨kb,1,none⟩ (.int .i64 (nc:Int))) (.int .u8 (u.toNat:Int)) rfl rfl HO5.out ?hx rfl ?d1 ?d2 ?d3 ?_))
            case c1=>omega
            case c2=>omega
            case c3=>rfl
            case hx=>
             show Value.slice (some ⟨w4.heap.size,0,none⟩) 1 1=_
             simp [World.setCell]
            case d1=>omega
            case d2=>omega
            case d3=>exact HB5.out.size
            clear c0 c1 f0 f1
            have hsz5:((w4.setCell ⟨kb,0,none⟩ (.int .i64 ((len:Int)+1))).setCell ⟨kb,1,none⟩ (.int .i64 (nc:Int))).heap.size=w4.heap.size:=by simp [World.setCell]
            generalize (w4.setCell ⟨kb,0,none⟩ (.int .i64 ((len:Int)+1))).setCell ⟨kb,1,none⟩ (.int .i64 (nc:Int))=w5 at *
            intro A' c' w6 hown6 hb6 hgr6 hat6
            have HD6:=Lh (by rw [HD2.out,←HSy.out,decNext,show r=n-(k+1) by omega]:decodeL lens l n=decEnd l (decGo F l (n-(k+1)) (a2+1) (out++[u])))
            have HO6:=Lh (by unfold OwnB;rw [List.map_append];exact hown6:OwnB w6 w1.heap.size A' (k+1) c' (out++[u]))
            have hArlt:∀ b,bk Ar=some b→b<w5.heap.size:=fun b e=>(Own.lt HR5.out.own e).2
            have HS6:=Lh (by
             cases hA:bk A' with
             | none=>exact .inl rfl
             | some q=>
               rcases hat6 with h|h
               ·rw [←hA,h];exact HS.out
               ·right;intro e
                rw [hA] at h
                have:=hArlt q e.symm
                have h':w4.heap.size≤q:=h
                omega:bk A'=none∨bk A'≠bk Ar)
            have HR6:=Lh (HR5.out.kept hgr6 (Own.ne_blk HO5.out HR5.out.blk (by decide)) (sep_symm HS.out))
            have HMp6:=Lh (HMp5.out.kept hgr6 (HMp5.out.ne_own HO5.out))
            have HB6:=Lh (HB5.out.trans hb6)
            have hle:=hb1'.out
            clear hown6 hb6 hgr6 hat6 hArlt
            go_wp2
            go_roundg (n-(k+1))
            case measure=>omega
            case rel=>exact ⟨a2+1,k+1,c',A',out++[u],by omega,by omega,rfl,HO6.out,HS6.out,HR6.out,by omega,HMp6.out,HD6.out,HB6.out⟩
      ·obtain rfl:k=n:=by omega
       have HDc2:=Lh (by rw [HDc.out,Nat.sub_self];rfl:decodeL lens l k=if numAt l a ((8*l.length-a)%8)≠0∨0<8*l.length-(a+(8*l.length-a)%8) then none else some out)
       have hleft:(8*l.length-a)%8<8:=Nat.mod_lt _ (by omega)
       have ha8:a+(8*l.length-a)%8≤8*l.length:=by have:=Nat.mod_le (8*l.length-a) 8;omega
       have HLeft:=Lh (reader_left g a cr l Ar wr HRw.out (by rw [HL2.out];omega) ha)
       have HT:=Lh (fun q=>reader_take_ok g a cr ((8*l.length-a)%8) l Ar (wr.drewN q) (HRw.out.later (below_drewN wr q)) (by rw [HL2.out];omega) (by omega) ha8)
       have HLL:=Lh (fun wq h=>reader_left g (a+(8*l.length-a)%8) cr l Ar wq h (by rw [HL2.out];omega) ha8)
       have HO2:=Lh (fun w' (hg:wr.grownBy w' (some g))=>Own.kept HO.out hg (.inr (Own.ne_blk HO.out HRw.out.blk (by decide))))
       have HLen:=Lh (OwnB.length HO.out)
       generalize hL:8*l.length-a=left at *
       have hE:((left:Int))%8=((left%8:Nat):Int):=by omega
       generalize left%8=q8 at *
       clear hL
       go_wp2_with fail
       refine HLeft.out.mono ?_
       rintro e w4 ⟨rfl,q,rfl⟩
       go_wp2_with fail
       refine (HT.out q).mono ?_
       rintro e w5 ⟨rfl,hrow5,hgr5⟩
       generalize numAt l a q8=rest at *
       have hgr:=grown_trans (grown_below (row:=some g) (below_drewN wr q)) hgr5
       have HO5:=Lh (HO2.out w5 hgr)
       have HB5:=Lh (HBl.out.trans (below_grown hgr HBl.out.size (fun k hk=>by cases hk;exact HG.out)))
       have HLL5:=Lh (HLL.out w5 hrow5)
       clear hrow5 hgr5 hgr HO2 HT HLL HLeft
       by_cases hrest:rest=0
       ·have hr0:((rest:Int) != 0)=false:=by rw [hrest];rfl
        generalize hl5:8*l.length-(a+q8)=left5 at *
        by_cases h5:0<left5
        ·have HD5:=Lh (HDc2.out.trans (if_pos (.inr h5)))
         have h5':0<(left5:Int):=by omega
         clear hl5
         go_wp2_with fail
         refine HLL5.out.mono ?_
         rintro e w6 ⟨rfl,q',rfl⟩
         go_wp2
         go_ret2
         exact decPost_bad HD5.out (by omega) (HB5.out.trans ((below_drewN w5 q').mono HB5.out.size))
        ·have HD5:=Lh (HDc2.out.trans (if_neg (by rintro (h|h);exact h hrest;exact h5 h)))
         have h5':(left5:Int)≤0:=by omega
         clear hl5
         go_wp2_with fail
         refine HLL5.out.mono ?_
         rintro e w6 ⟨rfl,q',rfl⟩
         go_wp2
         go_ret2
         exact decPost_ok HD5.out HLen.out (Own.later HO5.out (below_drewN w5 q')) (HB5.out.trans ((below_drewN w5 q').mono HB5.out.size))
       ·have hr0:((rest:Int) != 0)=true:=by simpa using hrest
        have HD5:=Lh (HDc2.out.trans (if_pos (.inl hrest)))
        go_wp2
        go_ret2
        exact decPost_bad HD5.out (by omega) HB5.out
def sumL:List Nat→Nat
 | []=>0
 | k::r=>k+sumL r
theorem sumL_append (a b:List Nat):sumL (a++b)=sumL a+sumL b:=by
 induction a with
 | nil=>simp [sumL]
 | cons k r ih=>rw [List.cons_append,sumL,sumL,ih];omega
theorem sumL_step {l:List Nat} {k x:Nat} (h:l[k]? = some x):sumL (l.take (k+1))=sumL (l.take k)+x:=by
 rw [take_snocN h,sumL_append];simp [sumL]
def fmayL (l:List Nat) (lg:Nat):Bool:=decide (0<l.length)&&decide (l.length≤64)&&(l.getD (l.length-1) 0 != 0)&&l.all (fun k=>decide (k≤2^lg))&&(sumL l==2^lg)
theorem fmayL_head {l:List Nat} {lg:Nat} (h:l.length=0∨64<l.length∨l.getD (l.length-1) 0=0):fmayL l lg=false:=by
 unfold fmayL
 rcases h with h|h|h
 ·rw [h];simp
 ·rw [qF (by omega:¬l.length≤64)];simp
 ·rw [h];simp
theorem fmayL_big {l:List Nat} {lg k x:Nat} (h:l[k]? = some x) (hx:2^lg<x):fmayL l lg=false:=by
 have:l.all (fun k=>decide (k≤2^lg))=false:=by
  rw [List.all_eq_false]
  exact ⟨x,List.mem_of_getElem? h,by simp;omega⟩
 unfold fmayL
 rw [this];simp
def SmallB (B:Nat) (l:List Nat) (k:Nat):Prop:=∀ j x,j<k→l[j]? = some x→x≤B
theorem SmallB.step {B:Nat} {l:List Nat} {k x:Nat} (h:SmallB B l k) (hx:l[k]? = some x) (hle:x≤B):SmallB B l (k+1):=by
 intro j y hj hy
 by_cases e:j=k
 ·subst e;rw [hx] at hy;cases hy;exact hle
 ·exact h j y (by omega) hy
theorem fmayL_end {l:List Nat} {lg n x:Nat} (hl:l.length=n+1) (h64:n+1≤64) (hx:l[n]? = some x) (h0:x≠0) (hs:SmallB (2^lg) l (n+1)):
 fmayL l lg=(sumL (l.take (n+1))==2^lg):=by
 have e:l.take (n+1)=l:=List.take_of_length_le (by omega)
 have hall:l.all (fun k=>decide (k≤2^lg))=true:=by
  rw [List.all_eq_true]
  intro y hy
  obtain ⟨j,hj,hy'⟩:=List.getElem_of_mem hy
  simp only [decide_eq_true_eq]
  exact hs j y (by omega) (by rw [Zg hj,hy'])
 have hd:l.getD (l.length-1) 0=x:=by rw [hl];simp [List.getD,hx]
 unfold fmayL
 rw [e,hall,hd,hl,qT (by omega:0<n+1),qT h64]
 have:(x != 0)=true:=by simpa using h0
 rw [this];simp
theorem fmayL_facts {l:List Nat} {lg:Nat} (h:fmayL l lg=true):0<l.length∧l.length≤64∧l.getD (l.length-1) 0≠0∧(∀ x∈l,x≤2^lg)∧sumL l=2^lg:=by
 unfold fmayL at h
 simp only [Bool.and_eq_true,decide_eq_true_eq,List.all_eq_true,bne_iff_ne,beq_iff_eq] at h
 exact ⟨h.1.1.1.1,h.1.1.1.2,h.1.1.2,h.1.2,h.2⟩
theorem fseMay (A:OA) (n c:Nat) (l:List Nat) (lg:Nat) (w:World) (hl:l.length=n) (hr:Ns w A l) (hn:n≤140737488351232) (hb:∀ x∈l,x≤140737488351232) (hg5:5≤lg) (hg9:lg≤9):
 Calls Tryz.prog 143 #[.slice A n c,.int .i64 (lg:Int)] w fun e w'=>e=.returned (.bool (fmayL l lg))∧w'=w:=by
 by_cases h0:n=0
 ·subst h0
  have HM:=Lh (fmayL_head (lg:=lg) (.inl hl))
  clear hl hr hb
  go_enter Tryz.func143,Tryz.ntmps143
  go_wp2
  go_ret
  exact ⟨ret_bool HM.out.symm,rfl⟩
 ·have hne:((n:Int)==0)=false:=bF (by omega)
  by_cases h256:64<n
  ·have HM:=Lh (fmayL_head (lg:=lg) (.inr (.inl (by omega:64<l.length))))
   clear hl hr hb
   go_enter Tryz.func143,Tryz.ntmps143
   go_wp2
   go_ret
   exact ⟨ret_bool HM.out.symm,rfl⟩
  ·obtain ⟨N,rfl⟩:∃ N,n=N+1:=⟨n-1,by omega⟩
   have hne:(((N:Int)+1)==0)=false:=bF (by omega)
   have h256':(N:Int)+1≤64:=by omega
   obtain ⟨b,o,x,rfl,hx,hc⟩:=hr.at_ (by omega:N<l.length)
   have hp9:2^lg≤512:=(Nat.pow_le_pow_right (by omega) hg9:2^lg≤2^9)
   by_cases hx0:x=0
   ·have HM:=Lh (fmayL_head (.inr (.inr (by rw [hl];simp [List.getD,hx,hx0]))):fmayL l lg=false)
    have hx0':((x:Int)==0)=true:=by rw [hx0];rfl
    clear hl hr hb hx hx0
    go_enter Tryz.func143,Tryz.ntmps143
    go_wp2
    go_ret
    exact ⟨ret_bool HM.out.symm,rfl⟩
   ·have hx0':((x:Int)==0)=false:=bF (by omega)
    have HL:=Lh hl
    have HR:=Lh hr
    have HB:=Lh hb
    have HX:=Lh hx
    have HX0:=Lh hx0
    have E:wrap64 ((2:Int)^lg)=((2^lg:Nat):Int):=by
     rw [show ((2:Int)^lg)=((2^lg:Nat):Int) from by simp,wrap64_nat (by omega)]
    have HM:=Lh (fun h=>fmayL_end (lg:=lg) hl (by omega) hx hx0 h)
    have HBig:=Lh (fun k x (h:l[k]? = some x)=>fmayL_big (lg:=lg) h)
    clear hl hr hb hx hx0
    generalize 2^lg=pw at *
    go_enter Tryz.func143,Tryz.ntmps143
    go_wp2
    go_loopg [5,35] (N+1) (fun g s5 s35 wr=>∃ k:Nat,k≤N+1∧N+1-k≤g∧s5=.int .i64 (sumL (l.take k):Nat)∧s35=.int .i64 k∧SmallB pw l k∧sumL (l.take k)≤512*k∧wr=w)
    case atStart=>exact ⟨0,Nat.zero_le _,by omega,rfl,rfl,fun j y hj=>absurd hj (Nat.not_lt_zero _),by simp [sumL],rfl⟩
    case round=>
     obtain ⟨k,hk,hg,rfl,rfl,hsm,hsl,rfl⟩:=hrel
     by_cases hlt:k<N+1
     ·obtain ⟨b',o',y,e',hy,hcy⟩:=HR.out.at_ (by rw [HL.out];exact hlt:k<l.length)
      cases e'
      have hk1:=sumL_step hy
      by_cases h11:pw<y
      ·have HM2:=Lh (HBig.out k y hy h11)
       have h11':(pw:Int)<y:=by omega
       clear hy hk1
       generalize sumL (l.take k)=s at *
       go_wp2
       go_ret
       exact ⟨ret_bool HM2.out.symm,rfl⟩
      ·have h11':(y:Int)≤pw:=by omega
       have K1:=Lh hk1
       have Hs:=Lh (hsm.step hy (by omega))
       clear hy hk1 hsm
       generalize sumL (l.take k)=s at *
       go_wp2
       go_roundg (N+1-(k+1))
       case measure=>omega
       case rel=>exact ⟨k+1,by omega,by omega,int_eq (by rw [K1.out];omega),by go_num,Hs.out,by rw [K1.out];omega,rfl⟩
     ·obtain rfl:k=N+1:=by omega
      have HM2:=Lh (HM.out hsm)
      clear hsm
      generalize sumL (l.take (N+1))=s at *
      have F1:((s:Int)==(pw:Int))=(s==pw):=by rw [Bool.eq_iff_iff,beq_iff_eq,beq_iff_eq];omega
      generalize (s==pw)=b1 at *
      cases b1
      all_goals
       go_wp2
       go_ret
       exact ⟨ret_bool (by rw [HM2.out]),rfl⟩
theorem results_tmp4 {fn:Func} {t u v x:Tmp} (h:fn.results=#[.tmp t,.tmp u,.tmp v,.tmp x]) (tmps:Array Value) (P:Program) (w:World):
 (results fn tmps).run P w=.ok (.tuple #[tmps.getD t undef,tmps.getD u undef,tmps.getD v undef,tmps.getD x undef]) w:=by
 simp [results,h]
theorem wpList_slice_lo {P:Program} {w:World} {ops:Array Oper} {rest:List Oper} {o:Oper} {a:Act} {Q:Exit→Act→World→Prop} (hgd:o.guard=none) (s lo:Operand) {t e:TypeId} {z:Value} {bytes:Nat} (E:Elem P t e z bytes)
 (ho:o.op=.slice t s (some lo) none none) (A:OA) (n c k:Nat) (hs:a.eval s=.slice A n c) (hlo:a.eval lo=.int .i64 (k:Int)) (hk:k≤n)
 (h:wpList P ops Q rest (a.put o.dst (.slice (cutA A c k) (n-k) (c-k))) w):wpList P ops Q (o::rest) a w:=by
 refine wpList_plain hgd fun K hK=>?_
 obtain ⟨i,hi,-,h1,-⟩:=info_parts E.hi
 have he:P.elem t=e:=by simp [Program.elem,E.ht]
 have hrun:(Instr.sliceAt t (.slice A n c) (some (.int .i64 (k:Int))) none none).run P w=.ok (.slice (cutA A c k) (n-k) (c-k)) w:=by
  have ht':P.underlying t=some (.slice (P.elem t)):=by rw [he];exact E.ht
  rw [run_sliceAt_slice w t _ _ _ _ ht',run_slice_l w t A n c ht' .i64 (k:Int) (by omega) (by omega),he]
  simp [sizeOf,typeInfo,hi,h1,sliced,cutA,Result.andThen]
 unfold Oper.wp execOp
 simp only [ho,hs,hlo,hrun,Option.map_some,Option.map_none,Sem.run_bind,Sem.run_pure,Result.andThen_ok]
 exact hK _ _ h
def getGo (l:List UInt8):Nat→Nat→List Nat→Option (List Nat × Nat)
 | 0,at_,sh=>some (sh,at_)
 | r+1,at_,sh=>match numGo (l.drop at_) 0 0 with
   | none=>none
   | some (x,k)=>getGo l r (at_+k) (sh++[x])
def getEnd (lg:Nat):Option (List Nat × Nat)→Option (List Nat × Nat × Nat)
 | none=>none
 | some (sh,at_)=>if fmayL sh lg then some (sh,lg,at_) else none
def getMid (l:List UInt8) (lg:Nat):Option (Nat × Nat)→Option (List Nat × Nat × Nat)
 | none=>none
 | some (n,k)=>if lg<5∨9<lg∨64<n then none else getEnd lg (getGo l n (1+k) [])
def shareL (l:List UInt8):Option (List Nat × Nat × Nat):=
 match l with
 | []=>none
 | b::r=>getMid (b::r) b.toNat (numGo r 0 0)
theorem shareL_nil:shareL []=none:=rfl
theorem shareL_cons (b:UInt8) (r:List UInt8):shareL (b::r)=getMid (b::r) b.toNat (numGo r 0 0):=rfl
def sharePost (r:Option (List Nat × Nat × Nat)) (w:World) (e:Ending) (w':World):Prop:=
 Below w.heap.size w w'∧match r with
 | none=>∃ E:Int,E≠0∧e=.returned (.tuple #[.slice none 0 0,.int .i64 0,.int .i64 0,.int .i64 E])
 | some (sh,lg,k)=>∃ A' c',e=.returned (.tuple #[.slice A' sh.length c',.int .i64 (lg:Int),.int .i64 (k:Int),.int .i64 0])∧OwnN w' w.heap.size A' sh.length c' sh
theorem sharePost_bad {r:Option (List Nat × Nat × Nat)} {w w':World} {E:Int} (h:r=none) (hE:E≠0) (hb:Below w.heap.size w w'):sharePost r w (.returned (.tuple #[.slice none 0 0,.int .i64 0,.int .i64 0,.int .i64 E])) w':=by
 subst h;exact ⟨hb,E,hE,rfl⟩
theorem sharePost_ok {r:Option (List Nat × Nat × Nat)} {w w':World} {sh:List Nat} {lg k m co:Nat} {A:OA} (h:r=some (sh,lg,k)) (hm:sh.length=m) (ho:OwnN w' w.heap.size A m co sh) (hb:Below w.heap.size w w'):
 sharePost r w (.returned (.tuple #[.slice A m co,.int .i64 (lg:Int),.int .i64 (k:Int),.int .i64 0])) w':=by
 subst hm;subst h
 exact ⟨hb,A,co,rfl,ho⟩
theorem snocB {B:Nat} {out:List Nat} {x:Nat} (h:∀ y∈out,y≤B) (hx:x≤B):∀ y∈out++[x],y≤B:=by
 intro y hy
 rcases List.mem_append.1 hy with h1|h1
 ·exact h y h1
 ·rw [List.mem_singleton.1 h1];exact hx
theorem fseGetShare (A:OA) (n c:Nat) (l:List UInt8) (w:World) (hl:l.length=n) (hr:Bs w A l) (hn:n≤140737488351232) (hc:n≤c):
 Calls Tryz.prog 125 #[.slice A n c] w (sharePost (shareL l) w):=by
 obtain ⟨R,hR⟩:∃ R,shareL l=R:=⟨_,rfl⟩
 rw [hR]
 cases l with
 | nil=>
   obtain rfl:n=0:=hl.symm
   have HS:=Lh (hR.symm.trans shareL_nil)
   clear hR
   clear hr hl
   go_enter Tryz.func125,Tryz.ntmps125
   go_wp2
   (try simp only [Exit.inBlock,Exit.then]);refine bodyPost_ret (results_tmp4 rfl _ _ _) rfl ?_
   exact sharePost_bad HS.out (by omega) (Below.refl _ _)
 | cons x0 r0=>
   have hn0:0<n:=by rw [←hl];simp
   have hne:((n:Int)==0)=false:=bF (by omega)
   obtain ⟨b,o,x,rfl,hx,hcell⟩:=hr.at_ (k:=0) (by simp)
   obtain rfl:x0=x:=by simpa using hx
   have hx256:=x0.toNat_lt
   have HN1:=Lh (num_any (cutA (some ⟨b,o,none⟩) c 1) (n-1) (c-1) r0 w (by rw [←hl];simp) (Bs.cut (n:=1) hr (by simp) (by omega)) (by omega))
   have HSh:=Lh (hR.symm.trans (shareL_cons x0 r0))
   clear hR
   rw [Nat.add_zero] at hcell
   cases hg:numGo r0 0 0 with
   | none=>
     rw [hg] at HN1 HSh
     simp only [numV] at HN1
     have HS:=Lh (HSh.out.trans rfl:R=none)
     clear hg HSh hl hr hx
     go_enter Tryz.func125,Tryz.ntmps125
     go_wp2_with (refine wpList_slice_lo rfl _ _ elemB rfl (some ⟨b,o,none⟩) n c 1 rfl rfl ?_ ?_;omega)
     refine HN1.out.mono ?_
     rintro e w1 ⟨rfl,rfl⟩
     go_wp2
     (try simp only [Exit.inBlock,Exit.then]);refine bodyPost_ret (results_tmp4 rfl _ _ _) rfl ?_
     exact sharePost_bad HS.out (by omega) (Below.refl _ _)
   | some nk=>
     obtain ⟨m,k⟩:=nk
     rw [hg] at HN1 HSh
     simp only [numV] at HN1
     have hk5:=numGo_le r0 0 0 m k hg
     rw [Nat.zero_add] at hk5
     have hrl:r0.length+1=n:=by rw [←hl];simp
     by_cases hbad:x0.toNat<5∨9<x0.toNat∨64<m
     ·have HS:=Lh (HSh.out.trans (if_pos hbad):R=none)
      have hbad':(x0.toNat:Int)<5∨9<(x0.toNat:Int)∨64<(m:Int):=by omega
      clear hg HSh hl hr hx hbad
      go_enter Tryz.func125,Tryz.ntmps125
      go_wp2_with (refine wpList_slice_lo rfl _ _ elemB rfl (some ⟨b,o,none⟩) n c 1 rfl rfl ?_ ?_;omega)
      refine HN1.out.mono ?_
      rintro e w1 ⟨rfl,rfl⟩
      go_wp2
      all_goals
       (try simp only [Exit.inBlock,Exit.then]);refine bodyPost_ret (results_tmp4 rfl _ _ _) rfl ?_
       exact sharePost_bad HS.out (by omega) (Below.refl _ _)
     ·have HS:=Lh (HSh.out.trans (if_neg hbad):R=getEnd x0.toNat (getGo (x0::r0) m (1+k) []))
      have hbad1:5≤(x0.toNat:Int):=by omega
      have hbad2:(x0.toNat:Int)≤9:=by omega
      have hbad3:(m:Int)≤64:=by omega
      have HR:=Lh hr
      have HL:=Lh hl
      generalize x0::r0=L at *
      clear hg HSh hl hr hx hbad
      go_enter Tryz.func125,Tryz.ntmps125
      go_wp2_with (refine wpList_slice_lo rfl _ _ elemB rfl (some ⟨b,o,none⟩) n c 1 rfl rfl ?_ ?_;omega)
      refine HN1.out.mono ?_
      rintro e w1 ⟨rfl,rfl⟩
      go_wp2
      go_loopg [7,11,49] m (fun gg s7 s11 s49 wr=>∃ (i at_ co:Nat) (Ao:OA) (sh:List Nat),i≤m∧m-i≤gg∧s7=.int .i64 (at_:Int)∧s11=.slice Ao i co∧s49=.int .i64 (i:Int)∧at_≤n∧OwnN wr w.heap.size Ao i co sh∧(∀ y∈sh,y≤4294967295) ∧
       R=getEnd x0.toNat (getGo L (m-i) at_ sh)∧Below w.heap.size w wr)
      case atStart=>exact ⟨0,1+k,0,none,[],by omega,by omega,by go_num,rfl,rfl,by omega,OwnN.nil _ _,by simp,HS.out,Below.refl _ _⟩
      case round=>
       obtain ⟨i,at_,co,Ao,sh,hi,hgg,rfl,rfl,rfl,hat,hown,hB,hS,hbel⟩:=hrel
       have HO:=Lh hown
       have HBs:=Lh hB
       have HBl:=Lh hbel
       have HRr:=Lh (Bs.cut (n:=at_) (HR.out.later hbel) (by rw [HL.out];exact hat) (by rw [HL.out];exact hc))
       by_cases him:i<m
       ·obtain ⟨r,hr⟩:∃ r,m-i=r+1:=⟨m-i-1,by omega⟩
        rw [hr,getGo] at hS
        have HNx:=Lh (num_any (cutA (some ⟨b,o,none⟩) c at_) (n-at_) (c-at_) (L.drop at_) wr (by rw [List.length_drop,HL.out]) HRr.out (by omega))
        cases hg:numGo (L.drop at_) 0 0 with
        | none=>
          rw [hg] at HNx hS
          simp only [numV] at HNx
          have HS2:=Lh (hS.trans rfl:R=none)
          clear hg hS hown hB hbel hr
          go_wp2_with (refine wpList_slice_lo rfl _ _ elemB rfl (some ⟨b,o,none⟩) n c at_ rfl rfl ?_ ?_;omega)
          refine HNx.out.mono ?_
          rintro e w2 ⟨rfl,rfl⟩
          go_wp2
          (try simp only [Exit.inBlock,Exit.then]);refine bodyPost_ret (results_tmp4 rfl _ _ _) rfl ?_
          exact sharePost_bad HS2.out (by omega) HBl.out
        | some xk=>
          obtain ⟨x,k2⟩:=xk
          rw [hg] at HNx hS
          simp only [numV] at HNx
          have hk6:=numGo_le _ 0 0 x k2 hg
          rw [List.length_drop,HL.out] at hk6
          have HS2:=Lh (hS:R=getEnd x0.toNat (getGo L r (at_+k2) (sh++[x])))
          clear hg hS hown hB hbel
          go_wp2_with (refine wpList_slice_lo rfl _ _ elemB rfl (some ⟨b,o,none⟩) n c at_ rfl rfl ?_ ?_;omega)
          refine HNx.out.mono ?_
          rintro e w2 ⟨rfl,rfl⟩
          go_wp2_with (at_builtin;refine wpList_append_one rfl _ _ elemN rfl w.heap.size Ao i co (sh.map natv) wr (.int .i64 (x:Int)) rfl rfl HO.out rfl rfl ?d1 ?d2 ?d3 ?_)
          case d1=>omega
          case d2=>omega
          case d3=>exact HBl.out.size
          intro A' c' w6 hown6 hb6 hgr6 _
          have HO6:=Lh (ownN_snoc hown6)
          have HB6:=Lh (HBl.out.trans hb6)
          clear hown6 hb6 hgr6
          go_wp2
          go_roundg (m-(i+1))
          case measure=>omega
          case rel=>exact ⟨i+1,at_+k2,c',A',sh++[x],by omega,by omega,by go_num,rfl,by go_num,by omega,HO6.out,snocB HBs.out (by omega),by rw [show m-(i+1)=r by omega];exact HS2.out,HB6.out⟩
       ·obtain rfl:i=m:=by omega
        have HLen:=Lh (OwnN.length hown)
        have HMay:=Lh (fseMay Ao i co sh x0.toNat wr HLen.out (OwnN.ns hown) (by omega) (fun y hy=>by have:=hB y hy;omega) (by omega) (by omega))
        have HS2:=Lh (hS.trans (by rw [Nat.sub_self];rfl):R=if fmayL sh x0.toNat then some (sh,x0.toNat,at_) else none)
        clear hS hown hB hbel
        cases hm:fmayL sh x0.toNat with
        | false=>
          rw [hm] at HMay HS2
          go_wp2_with fail
          refine HMay.out.mono ?_
          rintro e w2 ⟨rfl,rfl⟩
          go_wp2
          (try simp only [Exit.inBlock,Exit.then]);refine bodyPost_ret (results_tmp4 rfl _ _ _) rfl ?_
          exact sharePost_bad (HS2.out.trans rfl) (by omega) HBl.out
        | true=>
          rw [hm] at HMay HS2
          go_wp2_with fail
          refine HMay.out.mono ?_
          rintro e w2 ⟨rfl,rfl⟩
          go_wp2
          (try simp only [Exit.inBlock,Exit.then]);refine bodyPost_ret (results_tmp4 rfl _ _ _) rfl ?_
          exact sharePost_ok (HS2.out.trans rfl) HLen.out HO.out HBl.out
theorem wpList_slice_hi {P:Program} {w:World} {ops:Array Oper} {rest:List Oper} {o:Oper} {a:Act} {Q:Exit→Act→World→Prop} (hgd:o.guard=none) (s hi:Operand) {t e:TypeId} {z:Value} {bytes:Nat} (E:Elem P t e z bytes)
 (ho:o.op=.slice t s none (some hi) none) (A:OA) (n c k:Nat) (hs:a.eval s=.slice A n c) (hhi:a.eval hi=.int .i64 (k:Int)) (hk:k≤c)
 (h:wpList P ops Q rest (a.put o.dst (.slice A k c)) w):wpList P ops Q (o::rest) a w:=by
 refine wpList_plain hgd fun K hK=>?_
 obtain ⟨i,hi',-,h1,-⟩:=info_parts E.hi
 have he:P.elem t=e:=by simp [Program.elem,E.ht]
 have hrun:(Instr.sliceAt t (.slice A n c) none (some (.int .i64 (k:Int))) none).run P w=.ok (.slice A k c) w:=by
  have ht':P.underlying t=some (.slice (P.elem t)):=by rw [he];exact E.ht
  rw [run_sliceAt_slice w t _ _ _ _ ht',run_slice_h w t A n c ht' .i64 (k:Int) (by omega) (by omega),he]
  simp [sizeOf,typeInfo,hi',h1,sliced,Result.andThen]
  cases A<;>simp [Addr.add]
 unfold Oper.wp execOp
 simp only [ho,hs,hhi,hrun,Option.map_some,Option.map_none,Sem.run_bind,Sem.run_pure,Result.andThen_ok]
 exact hK _ _ h
structure Sq where
 lits:Nat
 len:Nat
 dist:Nat
def sqC (x:Sq):List Value:=[natv x.lits,natv x.len,natv x.dist]
def flatS (l:List Sq):List Value:=l.flatMap sqC
theorem flatS_len:∀ l:List Sq,(flatS l).length=3*l.length
 | []=>rfl
 | x::r=>by
   have:=flatS_len r
   show (sqC x++flatS r).length=_
   rw [Zl,this,List.length_cons];simp [sqC];omega
theorem flatS_at:∀ (l:List Sq) (k:Nat) (x:Sq),l[k]? = some x→(flatS l)[3*k]? = some (natv x.lits)∧(flatS l)[3*k+1]? = some (natv x.len)∧(flatS l)[3*k+2]? = some (natv x.dist)
 | [],_,_,h=>by simp at h
 | y::r,0,x,h=>by
   obtain rfl:y=x:=by simpa using h
   exact ⟨rfl,rfl,rfl⟩
 | y::r,k+1,x,h=>by
   have:=flatS_at r k x (by simpa using h)
   have e:∀ j,(flatS (y::r))[j+3]? = (flatS r)[j]? := fun j=>rfl
   rw [show 3*(k+1)=3*k+3 by omega,show 3*k+3+1=3*k+1+3 by omega,show 3*k+3+2=3*k+2+3 by omega,e,e,e]
   exact this
def Ss (w:World) (A:OA) (l:List Sq):Prop:=Rd w A (flatS l)
theorem Ss.later {w w':World} {A:OA} {l:List Sq} (h:Ss w A l) (hb:Below w.heap.size w w'):Ss w' A l:=Rd.later h hb
theorem Ss.at_ {w:World} {A:OA} {l:List Sq} (h:Ss w A l) {k:Nat} (hk:k<l.length):
 ∃ b o x,A=some ⟨b,o,none⟩∧l[k]? = some x∧w.cell? ⟨b,o+k*3,none⟩=some (.int .i64 (x.lits:Int))∧w.cell? ⟨b,o+k*3+1,none⟩=some (.int .i64 (x.len:Int))∧w.cell? ⟨b,o+k*3+2,none⟩=some (.int .i64 (x.dist:Int)):=by
 have hfl:=flatS_len l
 obtain ⟨b,o,e,hc⟩:=h (by omega)
 obtain ⟨h1,h2,h3⟩:=flatS_at l k l[k] (Zg hk)
 refine ⟨b,o,l[k],e,Zg hk,?_,?_,?_⟩
 ·rw [show o+k*3=o+3*k by omega,hc _ (by omega),h1];rfl
 ·rw [show o+k*3+1=o+(3*k+1) by omega,hc _ (by omega),h2];rfl
 ·rw [show o+k*3+2=o+(3*k+2) by omega,hc _ (by omega),h3];rfl
def OwnS (w:World) (base:Nat) (A:OA) (n c:Nat) (l:List Sq):Prop:=w.ownsRow base 183 3 (.slice A n c) n (flatS l)
theorem OwnS.nil (w:World) (base:Nat):OwnS w base none 0 0 []:=World.ownsRow_nil w base _ 3
theorem OwnS.length {w:World} {base n c:Nat} {A:OA} {l:List Sq} (h:OwnS w base A n c l):l.length=n:=by
 have h1:=h.1
 rw [flatS_len] at h1
 omega
theorem OwnS.lt {w:World} {base n c:Nat} {A:OA} {l:List Sq} (h:OwnS w base A n c l) {k:Nat} (hk:bk A=some k):base≤k∧k<w.heap.size:=by
 rcases h.2 with ⟨hv,-⟩|⟨g,cap,cur,hv,h1,h2,-⟩
 ·simp only [Value.slice.injEq] at hv
  rw [hv.1] at hk;cases hk
 ·simp only [Value.slice.injEq] at hv
  rw [hv.1] at hk
  cases hk
  exact ⟨h1,(Array.getElem?_eq_some_iff.1 h2).1⟩
theorem OwnS.kept {w w':World} {row:Option Nat} {base n c:Nat} {A:OA} {l:List Sq} (h:OwnS w base A n c l) (hg:w.grownBy w' row) (hne:bk A=none∨bk A≠row):OwnS w' base A n c l:=
 World.ownsRow.kept h hg (by rw [ownBlock_eq];exact hne)
theorem OwnS.later {w w':World} {base n c:Nat} {A:OA} {l:List Sq} (h:OwnS w base A n c l) (hb:Below w.heap.size w w'):OwnS w' base A n c l:=by
 refine h.kept (grown_of_below hb) ?_
 cases A<;>simp [bk]
theorem OwnS.ss {w:World} {base n c:Nat} {A:OA} {l:List Sq} (h:OwnS w base A n c l):Ss w A l:=fun h0=>by
 have hl:=h.length
 have hfl:=flatS_len l
 rcases h.2 with ⟨hv,h2⟩|⟨g,cap,cur,hv,-⟩
 ·omega
 ·simp only [Value.slice.injEq] at hv
  obtain ⟨rfl,-,rfl⟩:=hv
  refine ⟨g,0,rfl,fun j hj=>?_⟩
  rw [Nat.zero_add]
  exact World.ownsRow.cellAt h j (by omega)
theorem OwnS.ne_blk {w:World} {base n c g:Nat} {t:TypeId} {A:OA} {l:List Sq} {cs:Array Value} (h:OwnS w base A n c l) (hg:Blk w g t cs) (hne:183≠t):bk A≠some g:=by
 rcases h.2 with ⟨hv,_⟩|⟨g',cap,cur,hv,_,hh,_⟩
 ·simp only [Value.slice.injEq] at hv
  rw [hv.1];simp [bk]
 ·simp only [Value.slice.injEq] at hv
  rw [hv.1]
  intro he
  have:g'=g:=by simpa [bk] using he
  subst this
  unfold Blk at hg
  rw [hh] at hg
  injection hg with hg
  injection hg with _ ht
  exact hne ht
theorem OwnS.ne_own {w:World} {base n c base' n' c':Nat} {e':TypeId} {A A':OA} {l:List Sq} {xs':List Value} (h:OwnS w base A n c l) (h':Own w base' e' A' n' c' xs') (hne:183≠e'):bk A=none∨bk A≠bk A':=by
 rcases h'.2 with ⟨hv,_⟩|⟨g',cap,cur,hv,_,hh,_⟩
 ·simp only [Value.slice.injEq] at hv
  rw [hv.1]
  cases A
  ·exact .inl rfl
  ·exact .inr (by simp [bk])
 ·simp only [Value.slice.injEq] at hv
  rw [hv.1]
  exact .inr (h.ne_blk (g:=g') (t:=e') (cs:=cur) hh hne)
end Go.Proofs.YtiihiocgbfafaaaGreat
