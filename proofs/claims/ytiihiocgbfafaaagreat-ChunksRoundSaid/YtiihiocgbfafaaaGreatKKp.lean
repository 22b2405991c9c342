/- F8 F9a I1 F9b M2 M3 M4 M5 T8a T8b T8c T8d I2 I3 -/
import Derived.Test.YtiihiocgbfafaaaGreatKKi
import Derived.Test.YtiihiocgbfafaaaGreatKKo
import Derived.RangeFuncNested
import Derived.RangeFuncBound
import Derived.RangeFuncCalls
import Derived.RangeFuncLeaves
import Derived.RangeFuncBox
import Derived.Shelf.Abstract
import Derived.Shelf.RegionOpen
import Derived.OwnWalkIn
import Derived.TacticsInMore
import Derived.LoopNIn
import Derived.LoopIn
set_option linter.unusedSimpArgs false
set_option linter.unusedVariables false
set_option maxHeartbeats 8000000
set_option maxRecDepth 100000
namespace Go.Proofs.YtiihiocgbfafaaaGreat
open Go.RowKit
theorem ShareOk.may {counts sh:List Nat} (h:ShareOk counts sh) (hc:counts.length≤64):fmayL sh 6=true:=by
 have h1:sh≠[]:=by
  rintro rfl
  have:=h.sum
  simp [sumL] at this
 have h2:0<sh.length:=List.length_pos_iff.2 h1
 have h3:sh.all (fun k=>decide (k≤2^6))=true:=by
  rw [List.all_eq_true]
  intro x hx
  have:=mem_le_sum hx
  have:=h.sum
  simp only [decide_eq_true_eq]
  omega
 unfold fmayL
 rw [h3,qT h2,qT (show sh.length≤64 by have:=h.len;omega),h.sum]
 have h4:(sh.getD (sh.length-1) 0 != 0)=true:=bne_iff_ne.2 (by have:=h.last;omega)
 rw [h4];rfl
def shareB (sh:List Nat):List UInt8:=[6]++numB 5 sh.length++sh.flatMap (numB 5)
theorem flatMap_step {α β:Type} (f:α→List β) {l:List α} {k:Nat} {x:α} (h:l[k]? = some x):(l.take (k+1)).flatMap f=(l.take k).flatMap f++f x:=by
 rw [List.take_add_one,h,List.flatMap_append]
 simp
theorem numB_len:∀ (f n:Nat),(numB f n).length≤f+1
 | 0,_=>by simp [numB]
 | f+1,n=>by
   unfold numB
   split
   ·have:=numB_len f (n/128);simp only [List.length_cons];omega
   ·simp
theorem flat_len (f:Nat):∀ (l:List Nat),(l.flatMap (numB f)).length≤(f+1)*l.length
 | []=>Nat.zero_le _
 | x::r=>by
   have h1:=flat_len f r
   have h2:=numB_len f x
   rw [List.flatMap_cons,Zl,List.length_cons,Nat.mul_add,Nat.mul_one]
   omega
theorem fsePutShare (A:OA) (n c:Nat) (sh:List Nat) (w:World) (hl:sh.length=n) (hr:Ns w A sh) (hmay:fmayL sh 6=true):
 Calls Tryz.prog 108 #[.slice A n c,.int .i64 6] w fun e w'=>∃ S m cs,e=.returned (.tuple #[.slice S m cs,.int .i64 0])∧OwnB w' w.heap.size S m cs (shareB sh)∧Below w.heap.size w w':=by
 obtain ⟨hf1,hf2,-,hf4,-⟩:=fmayL_facts hmay
 rw [hl] at hf1 hf2
 have HMay:=Lh (show Calls Tryz.prog 143 #[.slice A n c,.int .i64 6] w fun e w'=>e=.returned (.bool true)∧w'=w from by
  have h:=fseMay A n c sh 6 w hl hr (by omega) (fun x hx=>by have:=hf4 x hx;omega) (by omega) (by omega)
  rw [hmay] at h;exact h)
 have HL:=Lh hl
 have HR:=Lh hr
 have H4:=Lh hf4
 clear hl hr hmay hf4
 go_enter Tryz.func108,Tryz.ntmps108
 go_wp2_with fail
 refine HMay.out.mono ?_
 rintro e w1 ⟨rfl,hw1⟩
 subst hw1
 have HB1:=Lh ((Below.refl w1.heap.size w1).alloc nL (.cells #[.int .u8 6] 5))
 have hr6:Bs (w1.alloc (.cells #[.int .u8 6] 5)) (some ⟨w1.heap.size,0,none⟩) [6]:=Rd.one w1 (.int .u8 6) 5
 have HP:=Lh (putNum (some ⟨w1.heap.size,0,none⟩) 1 1 [6] n _ rfl hr6 (by omega) (by omega))
 clear hr6
 go_wp2_with fail
 refine HP.out.mono ?_
 rintro e w2 ⟨A2,m2,c2,rfl,hown2,hb2⟩
 have hsz:=((Below.refl w1.heap.size w1).alloc nL (.cells #[.int .u8 6] 5)).size
 have HO2:=Lh (show OwnB w2 w1.heap.size A2 m2 c2 ([6]++numB 5 n++(sh.take 0).flatMap (numB 5)) from by
  rw [List.take_zero,List.flatMap_nil,List.append_nil]
  exact Own.mono hown2 hsz)
 have HB2:=Lh (HB1.out.trans (hb2.mono hsz))
 clear hown2 hb2 hsz HP
 go_wp2_with fail
 go_loopg [6,25] n (fun gg s6 s25 wr=>∃ (k m co:Nat) (Ao:OA),k≤n∧n-k≤gg∧s6=.slice Ao m co∧s25=.int .i64 (k:Int)∧OwnB wr w1.heap.size Ao m co ([6]++numB 5 n++(sh.take k).flatMap (numB 5))∧Below w1.heap.size w1 wr)
 case atStart=>exact ⟨0,m2,c2,A2,by omega,by omega,rfl,rfl,HO2.out,HB2.out⟩
 case round=>
  clear HO2 HB2
  obtain ⟨k,m,co,Ao,hk,hgg,rfl,rfl,hown,hbel⟩:=hrel
  have HO:=Lh hown
  have HB:=Lh hbel
  have HM:=Lh (OwnB.length hown)
  have hm:m≤1000:=by
   have h:=HM.out
   have h1:=flat_len 5 (sh.take k)
   have h2:=numB_len 5 n
   have h3:(sh.take k).length≤64:=by rw [List.length_take];omega
   simp only [Zl,List.length_singleton] at h
   omega
  clear hown hbel
  by_cases hkn:k<n
  ·obtain ⟨b,o,x,hA,hx,hc⟩:=HR.out.at_ (by rw [HL.out];exact hkn:k<sh.length)
   subst hA
   have hc2:=(HB.out.cell (by simpa using block_lt hc)).trans hc
   have hx64:=H4.out x (List.mem_of_getElem? hx)
   have HP:=Lh (putNum Ao m co _ x wr HM.out (OwnB.bs HO.out) (by omega) (by omega))
   have HF:=Lh (flatMap_step (numB 5) hx)
   clear hx hc
   go_wp2_with fail
   refine HP.out.mono ?_
   rintro e w3 ⟨A3,m3,c3,rfl,hown3,hb3⟩
   have HO3:=Lh (show OwnB w3 w1.heap.size A3 m3 c3 ([6]++numB 5 n++(sh.take (k+1)).flatMap (numB 5)) from by
    rw [HF.out,←Za]
    exact Own.mono hown3 HB.out.size)
   have HB3:=Lh (HB.out.trans (hb3.mono HB.out.size))
   clear hown3 hb3 HP hc2
   go_wp2
   go_roundg (n-(k+1))
   case measure=>omega
   case rel=>exact ⟨k+1,m3,c3,A3,by omega,by omega,rfl,by go_num,HO3.out,HB3.out⟩
  ·obtain rfl:k=n:=by omega
   have HO3:=Lh (show OwnB wr w1.heap.size Ao m co (shareB sh) from by
    have h:=HO.out
    rw [List.take_of_length_le (by rw [HL.out];exact Nat.le_refl _)] at h
    unfold shareB
    rw [HL.out];exact h)
   go_wp2
   go_ret2
   exact ⟨Ao,m,co,rfl,HO3.out,HB.out⟩
theorem fseStrange (Bs:Nat) (A:OA) (n c:Nat) (sh:List Nat) (x:Nat) (w:World) (hB:w.cell? ⟨Bs,0,none⟩=some (.slice A n c)) (hl:sh.length=n) (hr:Ns w A sh) (hn:n≤1000000000) (hx:x<n) (h0:0<sh.getD x 0):
 Calls Tryz.prog 145 #[.int .i64 (x:Int),.pointer (some ⟨Bs,0,none⟩)] w fun e w'=>e=.returned (.bool false)∧w'=w:=by
 obtain ⟨b,o,y,hA,hy,hc⟩:=hr.at_ (by rw [hl];exact hx:x<sh.length)
 subst hA
 have hy0:0<y:=by simpa [List.getD,hy] using h0
 have g1:decide ((x:Int)<0)=false:=qF (by omega)
 have g2:decide ((n:Int)≤(x:Int))=false:=qF (by omega)
 have g3:((y:Int)==0)=false:=bF (by omega)
 clear hy h0
 go_enter Tryz.func145,Tryz.ntmps145
 go_wp2
 go_ret
 refine ⟨?_,rfl⟩
 show Ending.returned (.bool (decide (n≤x)))=_
 rw [qF (by omega)]
theorem fseIndexFunc (Bs:Nat) (A:OA) (n c:Nat) (sh:List Nat) (A2:OA) (n2 c2:Nat) (l:List Nat) (w:World) (hB:w.cell? ⟨Bs,0,none⟩=some (.slice A n c)) (hl:sh.length=n) (hr:Ns w A sh) (hn:n≤1000000000)
 (hl2:l.length=n2) (hr2:Ns w A2 l) (hn2:n2≤1000000000) (hx:∀ x∈l,x<n∧0<sh.getD x 0):
 Calls Tryz.prog 88 #[.slice A2 n2 c2,.func (.func 145) #[] #[.pointer (some ⟨Bs,0,none⟩)]] w fun e w'=>e=.returned (.int .i64 (-1))∧w'=w:=by
 have HS:=Lh (fun x (h:x∈l)=>fseStrange Bs A n c sh x w hB hl hr hn (hx x h).1 (hx x h).2)
 have HR2:=Lh hr2
 have HL2:=Lh hl2
 clear hB hl hr hl2 hr2 hx
 go_enter Tryz.func88,Tryz.ntmps88
 go_wp2_with fail
 go_loopg [8] n2 (fun gg s8 wr=>∃ k:Nat,k≤n2∧n2-k≤gg∧s8=.int .i64 (k:Int)∧w=wr)
 case atStart=>exact ⟨0,by omega,by omega,rfl,rfl⟩
 case round=>
  obtain ⟨k,hk,hgg,rfl,rfl⟩:=hrel
  by_cases hkn:k<n2
  ·obtain ⟨b,o,x,hA,hx,hc⟩:=HR2.out.at_ (by rw [HL2.out];exact hkn:k<l.length)
   subst hA
   have HX:=Lh (HS.out x (List.mem_of_getElem? hx))
   clear hx
   go_wp2_with fail
   refine HX.out.mono ?_
   rintro e w1 ⟨rfl,rfl⟩
   go_wp2
   go_roundg (n2-(k+1))
   case measure=>omega
   case rel=>exact ⟨k+1,by omega,by omega,by go_num,rfl⟩
  ·go_wp2
   go_ret
   exact ⟨rfl,rfl⟩
theorem fseContains (Bs:Nat) (A:OA) (n c:Nat) (sh:List Nat) (A2:OA) (n2 c2:Nat) (l:List Nat) (w:World) (hB:w.cell? ⟨Bs,0,none⟩=some (.slice A n c)) (hl:sh.length=n) (hr:Ns w A sh) (hn:n≤1000000000)
 (hl2:l.length=n2) (hr2:Ns w A2 l) (hn2:n2≤1000000000) (hx:∀ x∈l,x<n∧0<sh.getD x 0):
 Calls Tryz.prog 144 #[.slice A2 n2 c2,.func (.func 145) #[] #[.pointer (some ⟨Bs,0,none⟩)]] w fun e w'=>e=.returned (.bool false)∧w'=w:=by
 have HI:=Lh (fseIndexFunc Bs A n c sh A2 n2 c2 l w hB hl hr hn hl2 hr2 hn2 hx)
 clear hB hl hr hl2 hr2 hx
 go_enter Tryz.func144,Tryz.ntmps144
 go_wp2_with fail
 refine HI.out.mono ?_
 rintro e w1 ⟨rfl,rfl⟩
 go_wp2
 go_ret
 exact ⟨rfl,rfl⟩
open Go.Shelf
attribute [local go_sem] Oper.semAt_some
def upto {α:Type} (f:Nat→α) (k:Nat):List α:=(List.range k).map f
def backAt (zs:List Nat) (j:Nat):Nat × Nat:=(zs.length-1-j,zs.getD (zs.length-1-j) 0)
structure KB (n₀ Bs:Nat) (W W':World):Prop where
 below:Below n₀ W W'
 box:Bs<W.heap.size→W'.heap[Bs]? = W.heap[Bs]?
theorem KB.refl (n₀ Bs:Nat) (W:World):KB n₀ Bs W W:=⟨Below.refl _ _,fun _=>rfl⟩
theorem KB.trans {n₀ Bs:Nat} {A B C:World} (h:KB n₀ Bs A B) (k:KB n₀ Bs B C):KB n₀ Bs A C:=
 ⟨h.below.trans k.below,fun hb=>(k.box (lT hb h.below.size)).trans (h.box hb)⟩
theorem KB.put {n₀ Bs:Nat} {w:World} (hn:n₀≤w.heap.size) (hB:Bs<w.heap.size) (W:World) (l:Nat) (o o':Obj) (hl:w.heap.size≤l) (h:W.heap[l]? = some o) (h1:o.isCells=false) (h2:o.isWalk=false):KB n₀ Bs W (W.putObj l o'):=
 ⟨belowK_b hn W l o o' hl h h1 h2,fun _=>World.putObj_heap_other (by omega)⟩
theorem KB.cell {n₀ Bs:Nat} {W W':World} (h:KB n₀ Bs W W') {v:Value} (hc:W.cell? ⟨Bs,0,none⟩=some v):W'.cell? ⟨Bs,0,none⟩=some v:=by
 have hlt:=block_lt hc
 rw [←hc]
 unfold World.cell?
 rw [h.box hlt]
theorem backward1_in {α:Type} (e1 e2:α→Nat) (xs:List α) (F:Fence) (n:Nat) (h8:F.fn 171) (hro:F.round=none) (hn:1≤n) (l Bs n₀ b off cap len:Nat) (zs:List Nat) (hlen:zs.length=len) (hxs:xs.length=len) (hxe:∀ (j:Nat) (h:j<xs.length),e1 xs[j]=len-1-j∧e2 xs[j]=zs.getD (len-1-j) 0) (hreach:len≤1000000000) (hb:b<n₀) (J Jx:List α→World→Prop)
 (hY:∀ pre x W,J pre W→pre.length<len→YieldAt F (n-1) Tryz.prog l #[.int .i64 (e1 x:Int),.int .i64 (e2 x:Int)] W fun e W'=>
   (e=.returned (.bool true)∧J (pre++[x]) W'∧KB n₀ Bs W W')∨(e=.returned (.bool false)∧Jx (pre++[x]) W'))
 (W:World) (hBs:W.cell? ⟨Bs,0,none⟩=some (.slice (some ⟨b,off,none⟩) len cap)) (hc:∀ j,j<len→W.cell? ⟨b,off+j,none⟩=some (.int .i64 ((zs.getD j 0:Nat):Int))) (h0:J [] W):
 CallsIn F n Tryz.prog 171 #[.func (.yield l) #[] #[],.pointer (some ⟨Bs,0,none⟩)] W fun e W'=>(∃ v,e=.returned v) ∧
  ((∃ ys,ys=xs∧J ys W')∨(∃ pre,(∃ k,k≤len∧pre=xs.take k)∧Jx pre W')):=by
 have HL:=Lh hlen
 have HC:=Lh hc
 have HXS:=Lh hxs
 have HXE:=Lh hxe
 clear hlen hc hxs hxe
 refine callsIn_of_wp Tryz.func171 rfl h8 ?_ hro
 simp only [Tryz.ntmps171,List.size_toArray,List.length_cons,List.length_nil,Nat.reduceAdd,Nat.reduceSub,Array.replicate_succ,Array.replicate_zero,List.push_toArray,List.append_toArray,List.nil_append,List.cons_append]
 have e0:IntKind.i64.wrap ((len:Int)-1)=(len:Int)-1:=wrapi64 (by omega) (by omega)
 gi_wp2
 gi_loopw [3] (fun i wr=>∃ m:Nat,m≤len∧i=.int .i64 ((m:Int)-1)∧J (xs.take (len-m)) wr∧KB n₀ Bs W wr)
  (fun i _=>(intOf i+1).toNat)
 case atStart=>exact ⟨len,Nat.le_refl _,by go_num,by rw [Nat.sub_self,List.take_zero];exact h0,KB.refl _ _ _⟩
 case round=>
  obtain ⟨m,hm,rfl,hJs,hnx⟩:=hrel
  have hbs:=hnx.cell hBs
  cases m with
  | zero=>
    gi_wp2
    go_end0
    exact ⟨⟨_,rfl⟩,.inl ⟨_,List.take_of_length_le (by rw [HXS.out];omega),hJs⟩⟩
  | succ p=>
    have ep:((p+1:Nat):Int)-1=(p:Int):=by omega
    rw [ep]
    have hcx:=(hnx.below.cell (p:=⟨b,off+p,none⟩) hb).trans (HC.out p (by omega))
    obtain ⟨z,hz⟩:∃ z,zs.getD p 0=z:=⟨_,rfl⟩
    rw [hz] at hcx
    have hjx:len-(p+1)<xs.length:=by rw [HXS.out];omega
    obtain ⟨x,hx⟩:∃ x,xs[len-(p+1)]'hjx=x:=⟨_,rfl⟩
    have hxe:=HXE.out (len-(p+1)) hjx
    rw [hx,show len-1-(len-(p+1))=p by omega,hz] at hxe
    have hup:xs.take (len-p)=xs.take (len-(p+1))++[x]:=by
     rw [show len-p=len-(p+1)+1 by omega,List.take_add_one,Zg hjx,hx];rfl
    have HUp:=Lh hup
    clear hz hx hup
    obtain ⟨fn,tmps,assign,body,hy,hR⟩:=hY _ x wr hJs (by rw [List.length_take,HXS.out];omega)
    rw [hxe.1,hxe.2] at hy
    gi_wp2
    refine hR.mono ?_
    rintro e W3 (⟨rfl,hJ3,hk3⟩|⟨rfl,hJx3⟩)
    ·gi_wp2
     go_roundw
     case rel=>exact ⟨p,by omega,by go_num,by rw [HUp.out];exact hJ3,hnx.trans hk3⟩
     case measure=>simp only [intOf];omega
    ·gi_wp2
     refine bodyPost_ret (results_none rfl _ _ _) rfl ?_
     exact ⟨⟨_,rfl⟩,.inr ⟨_,⟨len-p,by omega,HUp.out.symm⟩,hJx3⟩⟩
theorem backward1_nil_in (F:Fence) (n:Nat) (h8:F.fn 171) (hro:F.round=none) (l Bs cap:Nat) (a:OA) {α:Type} (J:List α→World→Prop) (W:World) (hBs:W.cell? ⟨Bs,0,none⟩=some (.slice a 0 cap)) (h0:J [] W):
 CallsIn F n Tryz.prog 171 #[.func (.yield l) #[] #[],.pointer (some ⟨Bs,0,none⟩)] W fun e W'=>(∃ v,e=.returned v)∧J [] W':=by
 refine callsIn_of_wp Tryz.func171 rfl h8 ?_ hro
 simp only [Tryz.ntmps171,List.size_toArray,List.length_cons,List.length_nil,Nat.reduceAdd,Nat.reduceSub,Array.replicate_succ,Array.replicate_zero,List.push_toArray,List.append_toArray,List.nil_append,List.cons_append]
 gi_wp2
 gi_loopw [3] (fun i wr=>i=.int .i64 (-1)∧J [] wr) (fun _ _=>0)
 case atStart=>exact ⟨rfl,h0⟩
 case round=>
  obtain ⟨rfl,hJs⟩:=hrel
  gi_wp2
  go_end0
  exact ⟨⟨_,rfl⟩,hJs⟩
theorem backward_in (F:Fence) (n:Nat) (h5:F.fn 147) (hro:F.round=none) (a:OA) (len cap:Nat) (w:World):
 CallsIn F n Tryz.prog 147 #[.slice a len cap] w fun e w'=>e=.returned (.func (.func 171) #[] #[.pointer (some ⟨w.heap.size,0,none⟩)])∧w'=w.alloc (.cells #[.slice a len cap] 43):=by
 refine callsIn_of_wp Tryz.func147 rfl h5 ?_ hro
 simp only [Tryz.ntmps147,List.size_toArray,List.length_cons,List.length_nil,Nat.reduceAdd,Nat.reduceSub,Array.replicate_succ,Array.replicate_zero,List.push_toArray,List.append_toArray,List.nil_append,List.cons_append]
 gi_wp2
 go_ret
 exact ⟨rfl,rfl⟩
theorem backward_stops {α:Type} (e1 e2:α→Nat) (xs:List α) (F:Fence) (n:Nat) (h8:F.fn 171) (hro:F.round=none) (hn:1≤n) (Bs n₀ cap:Nat) (a:OA) (zs:List Nat) (hxs:xs.length=zs.length) (hxe:∀ (j:Nat) (h:j<xs.length),e1 xs[j]=zs.length-1-j∧e2 xs[j]=zs.getD (zs.length-1-j) 0) (hreach:zs.length≤1000000000) (w:World) (hn₀:n₀≤w.heap.size)
 (hc:w.cell? ⟨Bs,0,none⟩=some (.slice a zs.length cap)) (hI:Ns w a zs) (hlow:0<zs.length→∀ b,bk a=some b→b<n₀):
 SeqStopsK F n Tryz.prog 171 #[.pointer (some ⟨Bs,0,none⟩)] (fun x:α=>#[Value.int .i64 (e1 x:Int),Value.int .i64 (e2 x:Int)]) (KB n₀ Bs) (fun ys=>ys=xs)
  (fun pre=>∃ k,k≤zs.length∧pre=xs.take k) zs.length w:=fun l J Jx W hW _ _ hY h0=>by
 have hc':=(hW.cell (p:=⟨Bs,0,none⟩) (block_lt hc)).trans hc
 by_cases h:zs.length=0
 ·rw [h] at hc'
  have hnil:xs=[]:=List.length_eq_zero_iff.1 (hxs.trans h)
  exact (backward1_nil_in F n h8 hro l Bs cap a J W hc' h0).mono fun e W' ⟨he,hj⟩=>⟨he,.inl ⟨_,hnil.symm,hj⟩⟩
 ·obtain ⟨b,o,rfl,hcs⟩:=hI (by simp;omega)
  have hb:b<n₀:=hlow (by omega) b rfl
  refine backward1_in e1 e2 xs F n h8 hro hn l Bs n₀ b o cap zs.length zs rfl hxs hxe hreach hb J Jx hY W hc' (fun j hj=>?_) h0
  rw [(hW.cell (p:=⟨b,o+j,none⟩) (lT hb hn₀)),hcs j (by simpa using hj),List.getElem?_map,Zg hj]
  simp [List.getD,Zg hj,natv]
abbrev WSt:=List UInt8 × Nat × Nat
def putS (S:WSt) (k v:Nat):WSt:=flushW 5 S.1 (S.2.1+v*2^S.2.2) (S.2.2+k)
def wOk (S:WSt):Prop:=S.2.2<8∧S.2.1<2^S.2.2
def wLen (S:WSt):Nat:=8*S.1.length+S.2.2
theorem putS_facts {S:WSt} {k v:Nat} (h:wOk S) (hk:k≤32) (hv:v<2^k):wOk (putS S k v)∧wLen (putS S k v)=wLen S+k:=by
 obtain ⟨h1,h2,h3⟩:=flushW_facts 5 S.1 (S.2.1+v*2^S.2.2) (S.2.2+k) (put_sum h.2 hv) (by have:=h.1;omega)
 refine ⟨⟨h1,h2⟩,?_⟩
 unfold wLen putS
 rw [h3];omega
theorem toL_filter (l:List Nat) (s:Nat):∀ p,toL l p s=(List.range p).filter (fun q=>decide (symOf l q=s))
 | 0=>rfl
 | p+1=>by
   rw [toL,List.range_succ,List.filter_append,←toL_filter l s p]
   by_cases h:symOf l p=s
   ·simp [h]
   ·simp [h]
theorem count_symL:∀ (l:List Nat) (o s:Nat),((symL l o).filter (fun x=>decide (x=o+s))).length=l.getD s 0
 | [],o,s=>by simp [symL]
 | n::r,o,s=>by
   rw [symL,List.filter_append,Zl]
   cases s with
   | zero=>
     have h1:(List.replicate n o).filter (fun x=>decide (x=o+0))=List.replicate n o:=by
      rw [List.filter_eq_self]
      intro x hx
      have:=(List.mem_replicate.1 hx).2
      simp [this]
     have h2:(symL r (o+1)).filter (fun x=>decide (x=o+0))=[]:=by
      rw [List.filter_eq_nil_iff]
      intro x hx
      have:=(symL_mem r (o+1) x hx).1
      simp only [decide_eq_true_eq]
      omega
     rw [h1,h2];simp
   | succ s=>
     have h1:(List.replicate n o).filter (fun x=>decide (x=o+(s+1)))=[]:=by
      rw [List.filter_eq_nil_iff]
      intro x hx
      have:=(List.mem_replicate.1 hx).2
      simp only [decide_eq_true_eq]
      omega
     have h2:=count_symL r (o+1) s
     rw [show o+1+s=o+(s+1) by omega] at h2
     rw [h1,h2];simp
theorem perm64:((List.range 64).map (fun q=>3*q%64)).Perm (List.range 64):=by decide +kernel
theorem range_getD (l:List Nat) (h:l.length=64):(List.range 64).map (fun j=>l.getD j 0)=l:=by
 apply List.ext_getElem
 ·simp [h]
 ·intro i h1 h2
  simp [List.getD,h2]
theorem toL_full {l:List Nat} (h:sumL l=64) (s:Nat):(toL l 64 s).length=l.getD s 0:=by
 have hl:(symL l 0).length=64:=by rw [symL_len,h]
 have h1:(List.range 64).map (symOf l)=((List.range 64).map (fun q=>3*q%64)).map (fun j=>(symL l 0).getD j 0):=by
  rw [List.map_map];rfl
 have h2:((List.range 64).map (symOf l)).Perm (symL l 0):=by
  rw [h1]
  have:=perm64.map (fun j=>(symL l 0).getD j 0)
  rw [range_getD _ hl] at this
  exact this
 have h3:=(h2.filter (fun x=>decide (x=s))).length_eq
 rw [List.filter_map,List.length_map] at h3
 rw [toL_filter]
 have h4:=count_symL l 0 s
 rw [Nat.zero_add] at h4
 rw [←h4,←h3]
 rfl
def nbGo:Nat→Nat→Nat→Nat→Nat
 | 0,_,_,n=>n
 | f+1,st,q,n=>if 2*q≤st/2^n then nbGo f st q (n+1) else n
theorem nbGo_facts {st q:Nat} (h1:st<128) (hq:0<q):∀ (f n:Nat),n+f=7→q≤st/2^n→q≤st/2^(nbGo f st q n)∧st/2^(nbGo f st q n)<2*q∧nbGo f st q n≤6
 | 0,n,hn,h=>by
   exfalso
   obtain rfl:n=7:=by omega
   have:st/2^7=0:=Nat.div_eq_of_lt h1
   omega
 | f+1,n,hn,h=>by
   rw [nbGo]
   by_cases hc:2*q≤st/2^n
   ·rw [if_pos hc]
    refine nbGo_facts h1 hq f (n+1) (by omega) ?_
    rw [Nat.pow_succ,←Nat.div_div_eq_div_mul]
    omega
   ·rw [if_neg hc]
    exact ⟨h,by omega,by omega⟩
def nbL (st q:Nat):Nat:=nbGo 7 st q 0
def encStep (sh:List Nat) (X:Nat × WSt) (s:Nat):Nat × WSt:=
 (64+(toL sh 64 s).getD (X.1/2^nbL X.1 (sh.getD s 0)-sh.getD s 0) 0,putS X.2 (nbL X.1 (sh.getD s 0)) (X.1%2^nbL X.1 (sh.getD s 0)))
def encGo (sh:List Nat) (pre:List Nat):Nat × WSt:=pre.foldl (encStep sh) (64,([],0,0))
theorem encGo_snoc (sh pre:List Nat) (x:Nat):encGo sh (pre++[x])=encStep sh (encGo sh pre) x:=by simp [encGo]
structure EncOk (k:Nat) (X:Nat × WSt):Prop where
 lo:64≤X.1
 hi:X.1<128
 ok:wOk X.2
 len:wLen X.2≤6*k
theorem encStep_facts {sh:List Nat} {k s:Nat} {X:Nat × WSt} (h:EncOk k X) (hsum:sumL sh=64) (h0:0<sh.getD s 0):
 EncOk (k+1) (encStep sh X s)∧nbL X.1 (sh.getD s 0)≤6∧sh.getD s 0≤X.1/2^nbL X.1 (sh.getD s 0)∧X.1/2^nbL X.1 (sh.getD s 0)-sh.getD s 0<(toL sh 64 s).length∧X.1/2^nbL X.1 (sh.getD s 0)<2*sh.getD s 0:=by
 have hq:sh.getD s 0≤64:=by
  rw [←hsum]
  by_cases hs:s<sh.length
  ·exact le_sumL (by simp [List.getD,Zg hs])
  ·simp [List.getD,List.getElem?_eq_none (Nat.le_of_not_lt hs)]
 obtain ⟨h1,h2,h3⟩:=nbGo_facts (st:=X.1) (q:=sh.getD s 0) h.hi h0 7 0 (by omega) (by have:=h.lo;rw [Nat.pow_zero,Nat.div_one];omega)
 have hlen:=toL_full hsum s
 have hidx:X.1/2^nbL X.1 (sh.getD s 0)-sh.getD s 0<(toL sh 64 s).length:=by
  rw [hlen];unfold nbL;omega
 have hput:=putS_facts (S:=X.2) (k:=nbL X.1 (sh.getD s 0)) (v:=X.1%2^nbL X.1 (sh.getD s 0)) h.ok (by unfold nbL;omega) (Nat.mod_lt _ (Nat.two_pow_pos _))
 refine ⟨⟨by simp only [encStep];omega,?_,hput.1,?_⟩,h3,h1,hidx,h2⟩
 ·simp only [encStep]
  have:=toL_lt sh s 64 ((toL sh 64 s).getD (X.1/2^nbL X.1 (sh.getD s 0)-sh.getD s 0) 0) (getD_mem' hidx)
  omega
 ·simp only [encStep]
  rw [hput.2]
  have:=h.len
  unfold nbL
  omega
def encodeL (sh l:List Nat):List UInt8:=
 markedW (putS (encGo sh l.reverse).2 6 ((encGo sh l.reverse).1-64)).1 (putS (encGo sh l.reverse).2 6 ((encGo sh l.reverse).1-64)).2.1 (putS (encGo sh l.reverse).2 6 ((encGo sh l.reverse).1-64)).2.2
theorem upto_back (l:List Nat):(upto (backAt l) l.length).map (·.2)=l.reverse:=by
 apply List.ext_getElem
 ·simp [upto]
 ·intro i h1 h2
  simp at h2
  simp [upto,backAt,List.getElem_reverse,List.getD,Zg (show l.length-1-i<l.length by omega)]
abbrev SymAt (sh:List Nat):={ x:Nat × Nat // x.2<sh.length∧0<sh.getD x.2 0 }
theorem sym_rows (sh l:List Nat) (h:∀ x∈l,x<sh.length∧0<sh.getD x 0):∃ xs:List (SymAt sh),xs.length=l.length∧(∀ (j:Nat) (hj:j<xs.length),xs[j].1.1=l.length-1-j∧xs[j].1.2=l.getD (l.length-1-j) 0)∧xs.map (·.1.2)=l.reverse:=by
 have hall:∀ y∈upto (backAt l) l.length,y.2<sh.length∧0<sh.getD y.2 0:=by
  intro y hy
  simp only [upto,List.mem_map,List.mem_range] at hy
  obtain ⟨j,hj,rfl⟩:=hy
  exact h _ (getD_mem' (by omega))
 refine ⟨(upto (backAt l) l.length).pmap (fun y hy=>⟨y,hy⟩) hall,by simp [upto],fun j hj=>?_,?_⟩
 ·simp only [List.getElem_pmap]
  simp [upto,backAt]
 ·rw [List.map_pmap,←upto_back l]
  exact List.pmap_eq_map ..
theorem Two.blk {g k:Nat} {t:TypeId} {A:OA} {w W:World} {cs:Array Value} (h:Two g A w W) (hb:Blk w k t cs) (h1:k≠g) (h2:bk A≠some k):Blk W k t cs:=(h.block k hb.lt h1 h2).trans hb
theorem Two.cells {g k n:Nat} {t:TypeId} {A:OA} {w W:World} {F:Nat→Value} (h:Two g A w W) (hb:Cells w k t n F) (h1:k≠g) (h2:bk A≠some k):Cells W k t n F:=by
 obtain ⟨cs,hb1,hb2⟩:=hb
 exact ⟨cs,h.blk hb1 h1 h2,hb2⟩
theorem Two.own {g:Nat} {Aa:OA} {w W:World} {base n c:Nat} {e:TypeId} {A:OA} {xs:List Value} (ht:Two g Aa w W) (h:Own w base e A n c xs) (h1:bk A≠some g) (h2:bk A=none∨bk A≠bk Aa):Own W base e A n c xs:=by
 refine ⟨h.1,?_⟩
 rcases h.2 with h3|⟨b,cap,cur,hv,h3,h4,h5⟩
 ·exact .inl h3
 ·refine .inr ⟨b,cap,cur,hv,h3,?_,h5⟩
  simp only [Value.slice.injEq] at hv
  have hb:bk A=some b:=by rw [hv.1];rfl
  rw [ht.block b (Array.getElem?_eq_some_iff.1 h4).1 (fun e=>h1 (by rw [hb,e])) (fun e=>by
   rcases h2 with h2|h2
   ·rw [hb] at h2;cases h2
   ·exact h2 (by rw [hb,e]))]
  exact h4
theorem Own.isCells {w:World} {base n c k:Nat} {e:TypeId} {A:OA} {xs:List Value} (h:Own w base e A n c xs) (hk:bk A=some k):∃ o:Obj,w.heap[k]? = some o∧o.isCells=true:=by
 rcases h.2 with ⟨hv,-⟩|⟨b,cap,cur,hv,-,h4,-⟩
 ·simp only [Value.slice.injEq] at hv
  rw [hv.1] at hk;cases hk
 ·simp only [Value.slice.injEq] at hv
  rw [hv.1] at hk
  cases hk
  exact ⟨_,h4,rfl⟩
theorem and_mask':∀ (m:Fin 7) (st:Fin 128),bits .and .i64 (st.val:Int) (wrap64 (wrap64 (2^m.val)-1))=((st.val%2^m.val:Nat):Int):=by decide +kernel
theorem and_mask {m st:Nat} (hm:m≤6) (hs:st<128):bits .and .i64 (st:Int) (wrap64 (wrap64 (2^m)-1))=((st%2^m:Nat):Int):=and_mask' ⟨m,by omega⟩ ⟨st,hs⟩
theorem NewTo.ne {w:World} {A:OA} {k:Nat} (h:NewTo w none A) (hk:k<w.heap.size):bk A≠some k:=by
 intro e
 rcases h with h|⟨j,h1,h2⟩
 ·rw [e] at h;simp [bk] at h
 ·rw [e] at h1;injection h1 with h1;omega
theorem NewTo.trans' {w W:World} {A A':OA} (h:NewTo w none A) (hs:w.heap.size≤W.heap.size) (h2:NewTo W A A'):NewTo w none A':=by
 rcases h2 with h2|⟨k,h2,h3⟩
 ·rcases h with h|⟨k,h,h3⟩
  ·exact .inl (h2.trans h)
  ·exact .inr ⟨k,h2.trans h,h3⟩
 ·exact .inr ⟨k,h2,Nat.le_trans hs h3⟩
theorem Two.newTo {g:Nat} {A Aw:OA} {w W W':World} (h:Two g A w W) (hn:NewTo w none Aw) (k:Two g Aw W W'):Two g A w W':=
 ⟨k.os.trans h.os,k.tape.trans h.tape,k.output.trans h.output,Nat.le_trans h.size k.size,fun i hi h1 h2=>(k.block i (lT hi h.size) h1 (hn.ne hi)).trans (h.block i hi h1 h2)⟩
structure EncI (w w7:World) (p q k:Nat) (X:Nat × WSt) (W:World):Prop where
 wr:∃ Aw cw,IsWr W (q+1) (q+1) X.2.1 X.2.2.1 X.2.2.2 Aw cw∧NewTo w7 none Aw
 ok:EncOk k X
 box:Blk W (p+1) 3 #[.int .i64 (X.1:Int)]
 two:Two (q+1) (some ⟨p+1,0,none⟩) w7 W
 below:Below w.heap.size w W
theorem EncI.later {w w7 W W':World} {p q k:Nat} {X:Nat × WSt} (h:EncI w w7 p q k X W) (hb:Below W.heap.size W W'):EncI w w7 p q k X W':=by
 obtain ⟨Aw,cw,hw,hnt⟩:=h.wr
 exact ⟨⟨Aw,cw,hw.later hb,hnt⟩,h.ok,h.box.later hb,h.two.trans (.of_below hb),h.below.trans (hb.mono h.below.size)⟩
theorem EncI.kept {w w7 W W':World} {p q k:Nat} {X:Nat × WSt} {row:Option Nat} (h:EncI w w7 p q k X W) (h7:w.heap.size≤w7.heap.size) (hg:W.grownBy W' row) (hr:∀ r,row=some r→w7.heap.size≤r∧∃ o:Obj,W.heap[r]? = some o∧o.isCells=false):EncI w w7 p q k X W':=by
 have hno:∀ k t cs,Blk W k t cs→row≠some k:=by
  intro k t cs hb e
  obtain ⟨-,o,ho,hc⟩:=hr k e
  unfold Blk at hb
  rw [hb] at ho
  cases ho
  cases hc
 obtain ⟨Aw,cw,hw,hnt⟩:=h.wr
 refine ⟨⟨Aw,cw,⟨hw.blk.kept hg (hno _ _ _ hw.blk),Own.kept hw.own hg ?_,hw.base,Nat.le_trans hw.size hg.size⟩,hnt⟩,h.ok,h.box.kept hg (hno _ _ _ h.box),h.two.grown hg (fun k e hk=>by have:=(hr k e).1;omega),h.below.grown hg (Nat.le_trans h7 h.two.size) (fun k e=>by have:=(hr k e).1;omega)⟩
 cases hA:bk Aw with
 | none=>exact .inl rfl
 | some b=>
   right
   intro e
   obtain ⟨o,ho,hc⟩:=Own.isCells hw.own hA
   obtain ⟨-,o',ho',hc'⟩:=hr b e.symm
   rw [ho] at ho'
   cases ho'
   rw [hc] at hc'
   cases hc'
def fourL (l:List UInt8) (i:Nat):Nat:=(l.getD i 0).toNat+(l.getD (i+1) 0).toNat*256+(l.getD (i+2) 0).toNat*65536+(l.getD (i+3) 0).toNat*16777216
def markL (l:List UInt8) (i:Nat):Nat:=fourL l i*2654435761%4294967296/1048576
theorem markL_lt (l:List UInt8) (i:Nat):markL l i<4096:=by unfold markL;omega
theorem u32_or_nat (a b:Nat) (ha:a<4294967296) (hb:b<4294967296):bits .or .u32 (a:Int) (b:Int)=((a ||| b:Nat):Int):=by
 unfold bits
 show IntKind.u32.wrap ((BitVec.ofInt 32 (a:Int) ||| BitVec.ofInt 32 (b:Int)).toNat:Int)=_
 rw [BitVec.toNat_or,ofInt32 (by omega),ofInt32 (by omega)]
 exact wrapu32_nat (Nat.or_lt_two_pow (n:=32) ha hb)
theorem four_or {a b c d:Nat} (ha:a<256) (hb:b<256) (hc:c<256) (hd:d<256):
 bits .or .u32 (bits .or .u32 (bits .or .u32 (a:Int) ((b:Int)*256)) ((c:Int)*65536)) ((d:Int)*16777216)=((a+b*256+c*65536+d*16777216:Nat):Int):=by
 have w1:(b:Int)*256=((b*256:Nat):Int):=by omega
 have w2:(c:Int)*65536=((c*65536:Nat):Int):=by omega
 have w3:(d:Int)*16777216=((d*16777216:Nat):Int):=by omega
 rw [w1,w2,w3,u32_or_nat _ _ (by omega) (by omega)]
 have e1:a ||| b*256=a+b*256:=or_add (v:=a) (i:=8) (y:=b) (by simpa using ha)
 rw [e1,u32_or_nat _ _ (by omega) (by omega)]
 have e2:(a+b*256) ||| c*65536=a+b*256+c*65536:=or_add (v:=a+b*256) (i:=16) (y:=c) (by simp;omega)
 rw [e2,u32_or_nat _ _ (by omega) (by omega)]
 have e3:(a+b*256+c*65536) ||| d*16777216=a+b*256+c*65536+d*16777216:=or_add (v:=a+b*256+c*65536) (i:=24) (y:=d) (by simp;omega)
 rw [e3]
theorem mMark (g:Nat) (A:OA) (n c i:Nat) (l:List UInt8) (w:World) (hc0:w.cell? ⟨g,0,none⟩=some (.slice A n c)) (hl:l.length=n) (hr:Bs w A l) (hn:n≤1000000000) (hc:n≤c) (hi:i+4≤n):
 Calls Tryz.prog 135 #[.pointer (some ⟨g,0,none⟩),.int .i64 (i:Int)] w fun e w'=>e=.returned (.int .i64 (markL l i:Nat))∧∃ q,w'=w.drewN q:=by
 obtain ⟨b,o,rfl,hcell⟩:=hr (by simp;omega)
 have hx:∀ k,k<4→w.cell? ⟨b,o+i+k,none⟩=some (.int .u8 ((l.getD (i+k) 0).toNat:Int)):=by
  intro k hk
  have hlt:i+k<l.length:=by omega
  rw [Nat.add_assoc,hcell (i+k) (by simpa using hlt),List.getElem?_map,Zg hlt]
  simp [List.getD,Zg hlt,u8v]
 have x0:=hx 0 (by omega)
 have x1:=hx 1 (by omega)
 have x2:=hx 2 (by omega)
 have x3:=hx 3 (by omega)
 rw [Nat.add_zero,Nat.add_zero] at x0
 obtain ⟨M,hM⟩:∃ M,markL l i=M:=⟨_,rfl⟩
 rw [hM]
 unfold markL fourL at hM
 have b0:(l.getD i 0).toNat<256:=UInt8.toNat_lt _
 have b1:(l.getD (i+1) 0).toNat<256:=UInt8.toNat_lt _
 have b2:(l.getD (i+2) 0).toNat<256:=UInt8.toNat_lt _
 have b3:(l.getD (i+3) 0).toNat<256:=UInt8.toNat_lt _
 generalize (l.getD i 0).toNat=y0 at *
 generalize (l.getD (i+1) 0).toNat=y1 at *
 generalize (l.getD (i+2) 0).toNat=y2 at *
 generalize (l.getD (i+3) 0).toNat=y3 at *
 have HM:=Lh hM
 clear hM
 have HE:=Lh (four_or b0 b1 b2 b3)
 have i1:(0:Int)<((n-i:Nat):Int):=by omega
 have i2:(1:Int)<((n-i:Nat):Int):=by omega
 have i3:(2:Int)<((n-i:Nat):Int):=by omega
 have i4:(3:Int)<((n-i:Nat):Int):=by omega
 have i5:¬c=i:=by omega
 clear hx hcell hr hl
 go_enter Tryz.func135,Tryz.ntmps135
 go_wp2
 go_quiet (fail)
 go_wp2
 go_ret
 exact ⟨ret_int (by rw [HE.out,←HM.out];omega),_,rfl⟩
theorem drewN_add (w:World) (q:Nat):∀ p,(w.drewN q).drewN p=w.drewN (q+p)
 | 0=>rfl
 | p+1=>by
   show ((w.drewN q).drewN p).drew=(w.drewN (q+p)).drew
   rw [drewN_add w q p]
def SameN (l:List UInt8) (a b n:Nat):Prop:=n≤259∧b+n≤l.length∧∀ j,j<n→l.getD (a+j) 0=l.getD (b+j) 0
theorem mSame (g:Nat) (A:OA) (n c a b:Nat) (l:List UInt8) (w:World) (hc0:w.cell? ⟨g,0,none⟩=some (.slice A n c)) (hl:l.length=n) (hr:Bs w A l) (hn:n≤1000000000) (hab:a≤b) (hb:b≤n):
 Calls Tryz.prog 136 #[.pointer (some ⟨g,0,none⟩),.int .i64 (a:Int),.int .i64 (b:Int)] w fun e w'=>∃ m:Nat,e=.returned (.int .i64 (m:Int))∧SameN l a b m∧∃ q,w'=w.drewN q:=by
 have HL:=Lh hl
 have HR:=Lh hr
 have HC:=Lh hc0
 clear hl hr hc0
 go_enter Tryz.func136,Tryz.ntmps136
 go_wp2
 go_loopg [7] 259 (fun gg s7 wr=>∃ m:Nat,m≤259∧259-m≤gg∧s7=.int .i64 (m:Int)∧b+m≤n∧(∀ j,j<m→l.getD (a+j) 0=l.getD (b+j) 0)∧∃ q,wr=w.drewN q)
 case atStart=>exact ⟨0,by omega,by omega,rfl,by omega,by simp,0,rfl⟩
 case round=>
  obtain ⟨m,hm,hgg,rfl,hbm,hsame,q,rfl⟩:=hrel
  have HS:=Lh hsame
  clear hsame
  have c0:=HC.out
  by_cases h259:m<259
  ·by_cases hbn:b+m<n
   ·obtain ⟨bb,o,x,hA,hx,hcx⟩:=HR.out.at_ (by rw [HL.out];omega:a+m<l.length)
    obtain ⟨bb2,o2,y,hA2,hy,hcy⟩:=HR.out.at_ (by rw [HL.out];omega:b+m<l.length)
    rw [hA] at hA2
    obtain ⟨rfl,rfl⟩:bb=bb2∧o=o2:=by
     injection hA2 with h;injection h with h1 h2;exact ⟨h1,h2⟩
    subst hA
    have E1:l.getD (a+m) 0=x:=by simp [List.getD,hx]
    have E2:l.getD (b+m) 0=y:=by simp [List.getD,hy]
    clear hx hy hA2
    have g1:decide ((m:Int)<259)=true:=qT (by omega)
    have g2:decide ((b:Int)+m<n)=true:=qT (by omega)
    have i1:(0:Int)≤(a:Int)+m:=by omega
    have i2:(a:Int)+m<(n:Int):=by omega
    have i3:(0:Int)≤(b:Int)+m:=by omega
    have t1:((a:Int)+m).toNat=a+m:=by omega
    have t2:((b:Int)+m).toNat=b+m:=by omega
    have e1:IntKind.i64.wrap ((a:Int)+m)=(a:Int)+m:=wrapi64 (by omega) (by omega)
    have e2:IntKind.i64.wrap ((b:Int)+m)=(b:Int)+m:=wrapi64 (by omega) (by omega)
    have HE1:=Lh E1
    have HE2:=Lh E2
    clear E1 E2
    go_wp2
    go_quiet (fail)
    clear g1 g2 i1 i2 i3 t1 t2 e1 e2
    by_cases hxy:x=y
    ·have hb:((x.toNat:Int)==y.toNat)=true:=by rw [hxy];simp
     have HS2:=Lh (show ∀ j,j<m+1→l.getD (a+j) 0=l.getD (b+j) 0 from fun j hj=>by
      by_cases e:j=m
      ·rw [e,HE1.out,HE2.out,hxy]
      ·exact HS.out j (by omega))
     clear hxy
     go_wp2
     go_roundg (259-(m+1))
     case measure=>omega
     case rel=>exact ⟨m+1,by omega,by omega,by go_num,by omega,HS2.out,_,rfl⟩
    ·have hb:((x.toNat:Int)==y.toNat)=false:=bF (fun e=>hxy (UInt8.toNat_inj.1 (by omega)))
     clear hxy
     go_wp2
     go_ret
     exact ⟨m,rfl,⟨by omega,by rw [HL.out];omega,HS.out⟩,_,drewN_add w q _⟩
   ·have g1:decide ((m:Int)<259)=true:=qT (by omega)
    have g2:decide ((b:Int)+m<n)=false:=qF (by omega)
    have e2:IntKind.i64.wrap ((b:Int)+m)=(b:Int)+m:=wrapi64 (by omega) (by omega)
    go_wp2
    go_quiet (fail)
    clear g1 g2 e2
    go_wp2
    go_ret
    exact ⟨m,rfl,⟨by omega,by rw [HL.out];omega,HS.out⟩,_,drewN_add w q _⟩
  ·have g1:decide ((m:Int)<259)=false:=qF (by omega)
   go_wp2
   go_quiet (fail)
   clear g1
   go_wp2
   go_ret
   exact ⟨m,rfl,⟨by omega,by rw [HL.out];omega,HS.out⟩,_,drewN_add w q _⟩
def finF (A:OA) (n c win:Nat) (head:Nat→Nat) (Aa:OA) (ca known:Nat) (i:Nat):Value:=
 if i=0 then .slice A n c else if i=1 then .int .i64 (win:Int) else if i<4098 then .int .i64 (head (i-2):Nat) else if i=4098 then .slice Aa n ca else .int .i64 (known:Int)
structure Fin_ (w:World) (B g:Nat) (l:List UInt8) (A:OA) (n c win:Nat) (head:Nat→Nat) (Aa:OA) (ca known:Nat) (ah:List Nat):Prop where
 cells:Cells w g 188 4100 (finF A n c win head Aa ca known)
 data:Bs w A l
 ahead:OwnN w B Aa n ca ah
 h1:∀ m,m<4096→head m≤known
 h2:∀ p,p<known→ah.getD p 0≤p
 h3:known≤n
 low:∀ b,bk A=some b→b<B
 base:B≤g
 size:B≤w.heap.size
theorem Fin_.later {w w':World} {B g n c win ca known:Nat} {l:List UInt8} {A Aa:OA} {head:Nat→Nat} {ah:List Nat} (h:Fin_ w B g l A n c win head Aa ca known ah) (hb:Below w.heap.size w w'):Fin_ w' B g l A n c win head Aa ca known ah:=
 ⟨h.cells.later hb,h.data.later hb,Own.later h.ahead hb,h.h1,h.h2,h.h3,h.low,h.base,Nat.le_trans h.size hb.size⟩
theorem Fin_.c0 {w:World} {B g n c win ca known:Nat} {l:List UInt8} {A Aa:OA} {head:Nat→Nat} {ah:List Nat} (h:Fin_ w B g l A n c win head Aa ca known ah):w.cell? ⟨g,0,none⟩=some (.slice A n c):=h.cells.cell (by omega)
theorem Fin_.c1 {w:World} {B g n c win ca known:Nat} {l:List UInt8} {A Aa:OA} {head:Nat→Nat} {ah:List Nat} (h:Fin_ w B g l A n c win head Aa ca known ah):w.cell? ⟨g,1,none⟩=some (.int .i64 (win:Int)):=h.cells.cell (by omega)
theorem Fin_.cA {w:World} {B g n c win ca known:Nat} {l:List UInt8} {A Aa:OA} {head:Nat→Nat} {ah:List Nat} (h:Fin_ w B g l A n c win head Aa ca known ah):w.cell? ⟨g,4098,none⟩=some (.slice Aa n ca):=h.cells.cell (by omega)
theorem Fin_.cK {w:World} {B g n c win ca known:Nat} {l:List UInt8} {A Aa:OA} {head:Nat→Nat} {ah:List Nat} (h:Fin_ w B g l A n c win head Aa ca known ah):w.cell? ⟨g,4099,none⟩=some (.int .i64 (known:Int)):=h.cells.cell (by omega)
theorem Fin_.cH {w:World} {B g n c win ca known m:Nat} {l:List UInt8} {A Aa:OA} {head:Nat→Nat} {ah:List Nat} (h:Fin_ w B g l A n c win head Aa ca known ah) (hm:m<4096):w.cell? ⟨g,2+m,none⟩=some (.int .i64 (head m:Nat)):=by
 rw [h.cells.cell (i:=2+m) (by omega)]
 unfold finF
 rw [if_neg (by omega),if_neg (by omega),if_pos (by omega),show 2+m-2=m by omega]
theorem Fin_.step {w:World} {B g n c win ca known m ga:Nat} {l:List UInt8} {A:OA} {head:Nat→Nat} {ah:List Nat} (h:Fin_ w B g l A n c win head (some ⟨ga,0,none⟩) ca known ah) (hm:m<4096) (hk:known<n):
 Fin_ (((w.setCell ⟨ga,known,none⟩ (.int .i64 (head m:Nat))).setCell ⟨g,2+m,none⟩ (.int .i64 ((known+1:Nat):Int))).setCell ⟨g,4099,none⟩ (.int .i64 ((known+1:Nat):Int))) B g l A n c win (fun j=>if j=m then known+1 else head j) (some ⟨ga,0,none⟩) ca (known+1) (ah.set known (head m)):=by
 have hga:ga≠g:=by simpa [bk] using h.cells.ne_own h.ahead (by decide)
 have hgB:=(Own.lt h.ahead (k:=ga) rfl).1
 have hal:=OwnN.length h.ahead
 have hs1:=Own.stored h.ahead known (.int .i64 (head m:Nat))
 have gr1:=hs1.2
 have gr2:=grown_set (w.setCell ⟨ga,known,none⟩ (.int .i64 (head m:Nat))) ⟨g,2+m,none⟩ (.int .i64 ((known+1:Nat):Int))
 have gr3:=grown_set ((w.setCell ⟨ga,known,none⟩ (.int .i64 (head m:Nat))).setCell ⟨g,2+m,none⟩ (.int .i64 ((known+1:Nat):Int))) ⟨g,4099,none⟩ (.int .i64 ((known+1:Nat):Int))
 have hAg:bk A=none∨bk A≠some g:=by
  cases hA:bk A with
  | none=>exact .inl rfl
  | some b=>right;have:=h.low b hA;have:=h.base;simp only [ne_eq,Option.some.injEq];omega
 have hAa:bk A=none∨bk A≠some ga:=by
  cases hA:bk A with
  | none=>exact .inl rfl
  | some b=>right;have:=h.low b hA;simp only [ne_eq,Option.some.injEq];omega
 refine ⟨(((h.cells.kept gr1 (by simpa using hga)).set (2+m) _).set 4099 _).ext ?_,Rd.keptB (Rd.keptB (Rd.keptB h.data gr1 hAa) gr2 hAg) gr3 hAg,?_,?_,?_,by omega,h.low,h.base,by have:=h.size;simpa [World.setCell] using this⟩
 ·intro i hi
  unfold finF
  by_cases e1:i=4099
  ·subst e1
   rw [if_pos rfl,if_neg (by omega),if_neg (by omega),if_neg (by omega),if_neg (by omega)]
  ·rw [if_neg e1]
   by_cases e2:i=2+m
   ·subst e2
    rw [if_pos rfl,if_neg (by omega),if_neg (by omega),if_pos (by omega),show 2+m-2=m by omega]
    simp only [if_true]
   ·rw [if_neg e2]
    by_cases e3:i=0
    ·rw [if_pos e3,if_pos e3]
    ·rw [if_neg e3,if_neg e3]
     by_cases e4:i=1
     ·rw [if_pos e4,if_pos e4]
     ·rw [if_neg e4,if_neg e4]
      by_cases e5:i<4098
      ·have e6:¬i-2=m:=by omega
       rw [if_pos e5,if_pos e5]
       simp only [if_neg e6]
      ·rw [if_neg e5,if_neg e5,if_pos (by omega),if_pos (by omega)]
 ·have:(ah.set known (head m)).map natv=(ah.map natv).set known (.int .i64 (head m:Nat)):=by rw [List.map_set];rfl
  unfold OwnN
  rw [this]
  exact Own.kept (Own.kept hs1.1 gr2 (.inr (by simpa [bk] using hga))) gr3 (.inr (by simpa [bk] using hga))
 ·intro j hj
  show (if j=m then known+1 else head j)≤known+1
  split
  ·exact Nat.le_refl _
  ·have:=h.h1 j hj;omega
 ·intro p hp
  by_cases e:p=known
  ·subst e
   simp only [List.getD,List.getElem?_set,if_true]
   rw [if_pos (by omega)]
   simpa using h.h1 m hm
  ·have h5:=h.h2 p (by omega)
   simp only [List.getD,List.getElem?_set] at h5 ⊢
   rw [if_neg (fun e'=>e e'.symm)]
   exact h5
theorem Fin_.kept {w w':World} {row:Option Nat} {B g n c win ca known:Nat} {l:List UInt8} {A Aa:OA} {head:Nat→Nat} {ah:List Nat} (h:Fin_ w B g l A n c win head Aa ca known ah) (hg:w.grownBy w' row) (h1:row≠some g) (h2:bk Aa=none∨bk Aa≠row) (h3:∀ k,row=some k→B≤k):Fin_ w' B g l A n c win head Aa ca known ah:=by
 refine ⟨h.cells.kept hg h1,Rd.keptB h.data hg ?_,Own.kept h.ahead hg h2,h.h1,h.h2,h.h3,h.low,h.base,Nat.le_trans h.size hg.size⟩
 cases hA:bk A with
 | none=>exact .inl rfl
 | some b=>
   right
   intro e
   have:=h.low b hA
   have:=h3 b e.symm
   omega
theorem OwnS.two {g:Nat} {Aa:OA} {w w':World} {base n c:Nat} {A:OA} {l:List Sq} (h:OwnS w base A n c l) (ht:Two g Aa w w') (h1:bk A≠some g) (h2:bk A=none∨bk A≠bk Aa):OwnS w' base A n c l:=by
 refine ⟨h.1,?_⟩
 rcases h.2 with h3|⟨b,cap,cur,hv,h3,h4,h5⟩
 ·exact .inl h3
 ·refine .inr ⟨b,cap,cur,hv,h3,?_,h5⟩
  simp only [Value.slice.injEq] at hv
  have hb:bk A=some b:=by rw [hv.1];rfl
  rw [ht.block b (Array.getElem?_eq_some_iff.1 h4).1 (fun e=>h1 (by rw [hb,e])) (fun e=>by
   rcases h2 with h2|h2
   ·rw [hb] at h2;cases h2
   ·exact h2 (by rw [hb,e]))]
  exact h4
theorem mLink (B g:Nat) (l:List UInt8) (A:OA) (n c win:Nat) (head:Nat→Nat) (Aa:OA) (ca known:Nat) (ah:List Nat) (i:Nat) (w:World) (h:Fin_ w B g l A n c win head Aa ca known ah) (hl:l.length=n) (hn:n≤65536) (hc:n≤c) (hi:i≤n) (hki:known≤i):
 Calls Tryz.prog 134 #[.pointer (some ⟨g,0,none⟩),.int .i64 (i:Int)] w fun e w'=>(∃ v,e=.returned v)∧Below B w w'∧Two g Aa w w'∧∃ head' known' ah',known'≤i∧Fin_ w' B g l A n c win head' Aa ca known' ah':=by
 have HF0:=Lh h
 have HL:=Lh hl
 clear h hl
 go_enter Tryz.func134,Tryz.ntmps134
 go_wp2
 go_loopg [4] (i-known) (fun gg s4 wr=>∃ (head':Nat→Nat) (known':Nat) (ah':List Nat),known'≤i∧i-known'≤gg∧Fin_ wr B g l A n c win head' Aa ca known' ah'∧Below B w wr∧Two g Aa w wr)
 case atStart=>exact ⟨head,known,ah,hki,by omega,HF0.out,Below.refl _ _,Two.refl _ _ _⟩
 case round=>
  obtain ⟨head',k,ah',hk,hgg,hf,hbel,htwo⟩:=hrel
  have HT:=Lh htwo
  clear htwo
  have HF:=Lh hf
  have HB:=Lh hbel
  have c0:=hf.c0
  have cK:=hf.cK
  have cA:=hf.cA
  clear hf hbel
  by_cases hki:k<i
  ·have g1:decide ((k:Int)<i)=true:=qT (by omega)
   by_cases h4:k+4≤n
   ·have g2:decide ((k:Int)+4≤n)=true:=qT (by omega)
    have e2:IntKind.i64.wrap ((k:Int)+4)=(k:Int)+4:=wrapi64 (by omega) (by omega)
    go_wp2
    go_quiet (fail)
    clear g1 g2 e2
    have HF2:=Lh (HF.out.later (below_drewN wr nq))
    obtain ⟨m,hmk,hcall⟩:∃ m,m<4096∧Calls Tryz.prog 135 #[.pointer (some ⟨g,0,none⟩),.int .i64 (k:Int)] (wr.drewN nq) fun e w'=>e=.returned (.int .i64 (m:Nat))∧∃ q,w'=(wr.drewN nq).drewN q:=
     ⟨_,markL_lt l k,mMark g A n c k l (wr.drewN nq) HF2.out.c0 HL.out HF2.out.data (by omega) hc h4⟩
    have HMk:=Lh hcall
    clear hcall
    go_wp2_with fail
    refine HMk.out.mono ?_
    rintro e w3 ⟨rfl,q2,rfl⟩
    have HF3:=Lh (HF2.out.later (below_drewN (wr.drewN nq) q2))
    have HT3:=Lh ((HT.out.drewN nq).drewN q2)
    have HB3:=Lh ((HB.out.trans ((below_drewN wr nq).mono HF.out.size)).trans ((below_drewN (wr.drewN nq) q2).mono HF2.out.size))
    clear HMk HF2 c0 cK cA
    obtain ⟨w3,hw3⟩:∃ w3,w3=(wr.drewN nq).drewN q2:=⟨_,rfl⟩
    rw [←hw3] at HF3 HB3 HT3 ⊢
    clear hw3
    obtain ⟨ga,xa,hAa,hga1,hga2,-,hcga,hfga⟩:=Own.at_ HF3.out.ahead (k:=k) (by omega)
    subst hAa
    have cK:=HF3.out.cK
    have cA:=HF3.out.cA
    have cH:=HF3.out.cH hmk
    have i1:(0:Int)≤(m:Int):=by omega
    have i2:(m:Int)<4096:=by omega
    have HMK:=Lh hmk
    have i3:(0:Int)≤(k:Int):=by omega
    have i4:(k:Int)<(n:Int):=by omega
    have HHk:=Lh (show k<n by omega)
    go_wp2
    go_region
    have hga:ga≠g:=by simpa [bk] using HF3.out.cells.ne_own HF3.out.ahead (by decide)
    have HS:=Lh (show Fin_ (((w3.setCell ⟨ga,k,none⟩ (.int .i64 (head' m:Nat))).setCell ⟨g,2+m,none⟩ (.int .i64 ((k:Int)+1))).setCell ⟨g,4099,none⟩ (.int .i64 ((k:Int)+1))) B g l A n c win (fun j=>if j=m then k+1 else head' j) (some ⟨ga,0,none⟩) ca (k+1) (ah'.set k (head' m)) from HF3.out.step HMK.out HHk.out)
    obtain ⟨w4,hw4⟩:∃ w4,w4=w3.setCell ⟨ga,k,none⟩ (.int .i64 (head' m:Nat)):=⟨_,rfl⟩
    rw [←hw4] at HS ⊢
    have HC4:Cells w4 g 188 4100 (finF A n c win head' (some ⟨ga,0,none⟩) ca k):=by
     rw [hw4];exact HF3.out.cells.kept (grown_set w3 ⟨ga,k,none⟩ _) (by simpa using hga)
    have HT4:=Lh (show Two g (some ⟨ga,0,none⟩) w w4 by rw [hw4];exact HT3.out.set_a _)
    have HB4:=Lh (show Below B w w4 by rw [hw4];exact HB3.out.setCell hga1 _)
    clear hw4 cK cA cH hcga hfga
    have cK:w4.cell? ⟨g,4099,none⟩=some (.int .i64 (k:Int)):=HC4.cell (by omega)
    have cH:w4.cell? ⟨g,2+m,none⟩=some (.int .i64 (head' m:Nat)):=by
     rw [HC4.cell (i:=2+m) (by omega)]
     unfold finF
     rw [if_neg (by omega),if_neg (by omega),if_pos (by omega),show 2+m-2=m by omega]
    have cf:w4.frozen? ⟨g,2+m,none⟩=false:=HC4.frozen _
    have HC4':=Lh HC4
    clear HC4
    have e1:IntKind.i64.wrap ((k:Int)+1)=((k+1:Nat):Int):=by rw [wrapi64 (by omega) (by omega)];rfl
    go_wp2
    go_region
    have HB5:=Lh (show Below B w (w4.setCell ⟨g,2+m,none⟩ (.int .i64 ((k:Int)+1))) from HB4.out.setCell HF3.out.base _)
    have HC5:=HC4'.out.set (2+m) (.int .i64 ((k:Int)+1))
    have HT5:=Lh (show Two g (some ⟨ga,0,none⟩) w (w4.setCell ⟨g,2+m,none⟩ (.int .i64 ((k:Int)+1))) from HT4.out.set_g _)
    obtain ⟨w5,hw5⟩:∃ w5,w5=w4.setCell ⟨g,2+m,none⟩ (.int .i64 ((k:Int)+1)):=⟨_,rfl⟩
    rw [←hw5] at HS HB5 HC5 HT5 ⊢
    have cK5:w5.cell? ⟨g,4099,none⟩=some (.int .i64 (k:Int)):=by
     rw [HC5.cell (i:=4099) (by omega),if_neg (by omega)]
     unfold finF
     rw [if_neg (by omega),if_neg (by omega),if_neg (by omega),if_neg (by omega)]
    have cf5:w5.frozen? ⟨g,4099,none⟩=false:=HC5.frozen _
    clear hw5 cK cH cf HC5
    go_wp2
    go_roundg (i-(k+1))
    case measure=>omega
    case rel=>exact ⟨_,k+1,_,by omega,by omega,HS.out.later (((Below.refl _ _).drew).drew),((HB5.out.setCell (p:=⟨g,4099,none⟩) HF3.out.base _).drew).drew,(HT5.out.set_g (i:=4099) _).trans (.of_below (((Below.refl _ _).drew).drew))⟩
   ·have g2:decide ((k:Int)+4≤n)=false:=qF (by omega)
    have e2:IntKind.i64.wrap ((k:Int)+4)=(k:Int)+4:=wrapi64 (by omega) (by omega)
    go_wp2
    go_quiet (fail)
    clear g1 g2 e2
    go_wp2
    go_end0
    exact ⟨⟨_,rfl⟩,HB.out.trans ((below_drewN wr nq).mono HF.out.size),HT.out.drewN nq,_,k,_,hk,HF.out.later (below_drewN wr nq)⟩
  ·have g1:decide ((k:Int)<i)=false:=qF (by omega)
   go_wp2
   go_quiet (fail)
   clear g1
   go_wp2
   go_end0
   exact ⟨⟨_,rfl⟩,HB.out.trans ((below_drewN wr nq).mono HF.out.size),HT.out.drewN nq,_,k,_,hk,HF.out.later (below_drewN wr nq)⟩
def BestOk (l:List UInt8) (i L D:Nat):Prop:=(L=0∧D=0)∨(4≤L∧L≤259∧i+L≤l.length∧1≤D∧D≤i∧∀ j,j<L→l.getD (i-D+j) 0=l.getD (i+j) 0)
theorem mBest (B g:Nat) (l:List UInt8) (A:OA) (n c win:Nat) (head:Nat→Nat) (Aa:OA) (ca known:Nat) (ah:List Nat) (i:Nat) (w:World) (h:Fin_ w B g l A n c win head Aa ca known ah) (hl:l.length=n) (hn:n≤65536) (hc:n≤c) (hi:i≤n) (hki:known≤i) (hwin:win≤65536):
 Calls Tryz.prog 104 #[.pointer (some ⟨g,0,none⟩),.int .i64 (i:Int)] w fun e w'=>(∃ L D:Nat,e=.returned (.tuple #[.int .i64 (L:Int),.int .i64 (D:Int)])∧BestOk l i L D)∧Below B w w'∧Two g Aa w w'∧∃ head' known' ah',known'≤i∧Fin_ w' B g l A n c win head' Aa ca known' ah':=by
 have HF0:=Lh h
 have HL:=Lh hl
 have c0:=h.c0
 clear h hl
 have e1:IntKind.i64.wrap ((i:Int)+4)=(i:Int)+4:=wrapi64 (by omega) (by omega)
 go_enter Tryz.func104,Tryz.ntmps104
 by_cases h4:i+4≤n
 ·have g1:decide ((n:Int)<(i:Int)+4)=false:=qF (by omega)
  have HK:=Lh (mLink B g l A n c win head Aa ca known ah i w HF0.out HL.out hn hc hi hki)
  go_wp2_with fail
  go_step3
  go_wp2_with fail
  clear e1 g1 c0
  refine HK.out.mono ?_
  rintro e w1 ⟨⟨v,rfl⟩,hb1,ht1,head1,known1,ah1,hk1,hf1⟩
  have HB1:=Lh hb1
  have HF1:=Lh hf1
  have HT1:=Lh ht1
  clear hb1 hf1 ht1 HK
  obtain ⟨m,hmk,hcall⟩:∃ m,m<4096∧∀ q,Calls Tryz.prog 135 #[.pointer (some ⟨g,0,none⟩),.int .i64 (i:Int)] (w1.drewN q) fun e w'=>e=.returned (.int .i64 (m:Nat))∧∃ p,w'=(w1.drewN q).drewN p:=
   ⟨_,markL_lt l i,fun q=>mMark g A n c i l (w1.drewN q) (HF1.out.later (below_drewN w1 q)).c0 HL.out (HF1.out.later (below_drewN w1 q)).data (by omega) hc h4⟩
  have HMk:=Lh hcall
  clear hcall
  go_wp2_with fail
  go_step3
  go_wp2_with fail
  have cH:=HF1.out.cH hmk
  have i1:(0:Int)≤(m:Int):=by omega
  have i2:(m:Int)<4096:=by omega
  go_quiet ((go_at_call 135;exact Calls.quiet_of (HMk.out _)))
  clear cH i1 i2 HMk
  go_wp2_with fail
  have hm1:=HF1.out.h1 m hmk
  have HH2:=Lh HF1.out.h2
  go_loopg [6,7,8] (head1 m) (fun gg s6 s7 s8 wr=>∃ L D a q:Nat,s6=.int .i64 (L:Int)∧s7=.int .i64 (D:Int)∧s8=.int .i64 (a:Int)∧a≤known1∧a≤gg∧BestOk l i L D∧wr=w1.drewN q)
  case atStart=>exact ⟨0,0,head1 m,nq,rfl,rfl,rfl,hm1,Nat.le_refl _,.inl ⟨rfl,rfl⟩,rfl⟩
  case round=>
   obtain ⟨L,D,a,q,rfl,rfl,rfl,hak,hag,hok,rfl⟩:=hrel
   have HOK:=Lh hok
   clear hok
   by_cases ha:0<a
   ·have g1:decide ((0:Int)<a)=true:=qT (by omega)
    have e1:IntKind.i64.wrap ((a:Int)-1)=((a-1:Nat):Int):=by rw [wrapi64 (by omega) (by omega)];omega
    obtain ⟨d,hd⟩:∃ d,i-(a-1)=d:=⟨_,rfl⟩
    have e2:IntKind.i64.wrap ((i:Int)-((a-1:Nat):Int))=(d:Int):=by rw [wrapi64 (by omega) (by omega)];omega
    have HD:=Lh hd
    clear hd
    have HFq:=Lh (HF1.out.later (below_drewN w1 q))
    have HSame:=Lh (mSame g A n c (a-1) i l (w1.drewN q) HFq.out.c0 HL.out HFq.out.data (by omega) (by omega) (by omega))
    go_wp2_with fail
    refine HSame.out.mono ?_
    rintro e w2 ⟨M,rfl,hs,q2,rfl⟩
    clear HSame
    have HS:=Lh hs
    have hM:M≤259:=hs.1
    clear hs
    have c1:=HF1.out.c1
    obtain ⟨ga,xa,hAa,-,-,hxa,hcga,-⟩:=Own.at_ HF1.out.ahead (k:=a-1) (by omega)
    subst hAa
    have hlen:=OwnN.length HF1.out.ahead
    have hxv:xa=.int .i64 ((ah1.getD (a-1) 0:Nat):Int):=by
     rw [List.getElem?_map,Zg (by omega)] at hxa
     rw [←Option.some.inj hxa]
     simp [List.getD,Zg (show a-1<ah1.length by omega),natv]
    subst hxv
    have hle:=HH2.out (a-1) (by omega)
    clear hxa hlen
    have cA:=HF1.out.cA
    obtain ⟨y,hy⟩:∃ y,ah1.getD (a-1) 0=y:=⟨_,rfl⟩
    rw [hy] at hcga hle
    clear hy
    have i3:(0:Int)≤((a-1:Nat):Int):=by omega
    have i4:((a-1:Nat):Int)<(n:Int):=by omega
    by_cases hw:win<d∨L=259
    ·have gw:(decide ((win:Int)<(d:Int))=true)∨(decide ((win:Int)<(d:Int))=false∧((L:Int)==259)=true):=by
      by_cases h:win<d
      ·exact .inl (qT (by omega))
      ·refine .inr ⟨qF (by omega),?_⟩
       have:L=259:=by omega
       rw [this];rfl
     clear hw
     rcases gw with gw|⟨gw,gl⟩
     ·have gn:=of_decide_eq_true gw
      go_wp2
      all_goals first
       | (exfalso;omega)
       | (rw [Exit.noGoto_ret]
          go_ret2
          exact ⟨⟨L,D,rfl,HOK.out⟩,HB1.out.trans ((below_drewN w1 _).mono HF1.out.size),HT1.out.drewN _,_,_,_,hk1,HF1.out.later (below_drewN w1 _)⟩)
     ·have gn:=of_decide_eq_false gw
      have gn2:L=259:=by have:=eq_of_beq gl;omega
      go_wp2
      all_goals first
       | (exfalso;omega)
       | (rw [Exit.noGoto_ret]
          go_ret2
          exact ⟨⟨259,D,rfl,gn2 ▸ HOK.out⟩,HB1.out.trans ((below_drewN w1 _).mono HF1.out.size),HT1.out.drewN _,_,_,_,hk1,HF1.out.later (below_drewN w1 _)⟩)
    ·have gw:decide ((win:Int)<(d:Int))=false:=qF (by omega)
     have gl:((L:Int)==259)=false:=bF (by omega)
     have gn:d≤win:=by have:=of_decide_eq_false gw;omega
     clear hw
     by_cases hm:4≤M∧L<M
     ·have g4:decide ((4:Int)≤(M:Int))=true:=qT (by omega)
      have g5:decide ((L:Int)<(M:Int))=true:=qT (by omega)
      have HOK2:=Lh (show BestOk l i M d from .inr ⟨hm.1,hM,by have:=HS.out.2.1;omega,by have:=HD.out;omega,by have:=HD.out;omega,fun j hj=>by rw [show i-d=a-1 by have:=HD.out;omega];exact HS.out.2.2 j hj⟩)
      go_wp2
      go_roundg y
      case measure=>omega
      case rel=>exact ⟨M,d,y,_,rfl,rfl,rfl,by omega,Nat.le_refl _,HOK2.out,rfl⟩
     ·by_cases h4m:4≤M
      ·have g4:decide ((4:Int)≤(M:Int))=true:=qT (by omega)
       have g5:decide ((L:Int)<(M:Int))=false:=qF (by omega)
       go_wp2
       go_roundg y
       case measure=>omega
       case rel=>exact ⟨L,D,y,_,rfl,rfl,rfl,by omega,Nat.le_refl _,HOK.out,rfl⟩
      ·have g4:decide ((4:Int)≤(M:Int))=false:=qF (by omega)
       go_wp2
       go_roundg y
       case measure=>omega
       case rel=>exact ⟨L,D,y,_,rfl,rfl,rfl,by omega,Nat.le_refl _,HOK.out,rfl⟩
   ·have g1:decide ((0:Int)<a)=false:=qF (by omega)
    go_wp2
    rw [Exit.noGoto_ret]
    go_ret2
    exact ⟨⟨L,D,rfl,HOK.out⟩,HB1.out.trans ((below_drewN w1 _).mono HF1.out.size),HT1.out.drewN _,_,_,_,hk1,HF1.out.later (below_drewN w1 _)⟩
 ·have g1:decide ((n:Int)<(i:Int)+4)=true:=qT (by omega)
  go_wp2
  go_step3
  go_wp2
  try rw [Exit.noGoto_ret]
  go_ret2
  exact ⟨⟨0,0,rfl,.inl ⟨rfl,rfl⟩⟩,Below.refl _ _,Two.refl _ _ _,head,known,ah,hki,HF0.out⟩
def FitL (l:List UInt8):Nat→List Sq→Prop
 | p,[]=>p≤l.length
 | p,x::r=>4≤x.len∧x.len≤259∧p+x.lits+x.len≤l.length∧1≤x.dist∧x.dist≤p+x.lits∧(∀ j,j<x.len→l.getD (p+x.lits-x.dist+j) 0=l.getD (p+x.lits+j) 0)∧FitL l (p+x.lits+x.len) r
def fitEnd:Nat→List Sq→Nat
 | p,[]=>p
 | p,x::r=>fitEnd (p+x.lits+x.len) r
theorem FitL.append {l:List UInt8} {x:Sq}:∀ {L:List Sq} {p:Nat},FitL l p L→FitL l (fitEnd p L) [x]→FitL l p (L++[x])
 | [],_,_,h=>h
 | _::_,_,h,h2=>⟨h.1,h.2.1,h.2.2.1,h.2.2.2.1,h.2.2.2.2.1,h.2.2.2.2.2.1,FitL.append h.2.2.2.2.2.2 h2⟩
theorem fitEnd_append (x:Sq):∀ (L:List Sq) (p:Nat),fitEnd p (L++[x])=fitEnd p L+x.lits+x.len
 | [],_=>rfl
 | _::r,_=>fitEnd_append x r _
theorem elemN_info:(Tryz.prog.info? 3).map (fun i=>(i.zero,i.size,i.bytes))=some (some (.int .i64 0),1,8):=by kernel_rfl
theorem made_zeros (n:Nat):(madeCells #[Value.int .i64 0] n).toList=(List.replicate n 0).map natv:=by
 unfold madeCells
 apply List.ext_getElem
 ·simp
 ·intro i h1 h2
  simp [natv,Nat.mod_one]
theorem zero_gen2 (p:Nat) (a b v y z x0 x1 x2:Value):(((((a::b::(List.replicate p v++[y,z])).toArray).setIfInBounds 0 x0).setIfInBounds 1 x1).setIfInBounds (p+2) x2).size=p+4 ∧
 ∀ i,i<p+4→(((((a::b::(List.replicate p v++[y,z])).toArray).setIfInBounds 0 x0).setIfInBounds 1 x1).setIfInBounds (p+2) x2)[i]? = some (if i=0 then x0 else if i=1 then x1 else if i<p+2 then v else if i=p+2 then x2 else z):=by
 constructor
 ·simp
 ·intro i hi
  simp only [Array.getElem?_setIfInBounds]
  by_cases e1:p+2=i
  ·subst e1;simp
  ·rw [if_neg e1]
   by_cases e2:1=i
   ·subst e2;simp
   ·rw [if_neg e2]
    by_cases e3:0=i
    ·subst e3;simp
    ·rw [if_neg e3,if_neg (fun e=>e3 e.symm),if_neg (fun e=>e2 e.symm),Zt]
     obtain ⟨j,rfl⟩:∃ j,i=j+1+1:=⟨i-2,by omega⟩
     rw [Zs,Zs]
     by_cases e4:j<p
     ·rw [if_pos (by omega),List.getElem?_append_left (by rw [List.length_replicate];omega),List.getElem?_replicate,if_pos e4]
     ·have:j=p+1:=by omega
      subst this
      rw [if_neg (by omega),if_neg (by omega),List.getElem?_append_right (by rw [List.length_replicate];omega),List.length_replicate,show p+1-p=1 by omega]
      rfl
theorem zero_finder:Tryz.zeroCells188=(Value.slice none 0 0::Value.int .i64 0::(List.replicate 4096 (Value.int .i64 0)++[Value.slice none 0 0,Value.int .i64 0])).toArray:=by kernel_rfl
theorem zero_fin (A:OA) (n c win:Nat) (Aa:OA) (ca:Nat) (x y z:Value) (hx:x=.slice A n c) (hy:y=.int .i64 (win:Int)) (hz:z=.slice Aa n ca):
 (((Tryz.zeroCells188.setIfInBounds 0 x).setIfInBounds 1 y).setIfInBounds 4098 z).size=4100∧∀ i,i<4100→(((Tryz.zeroCells188.setIfInBounds 0 x).setIfInBounds 1 y).setIfInBounds 4098 z)[i]? = some (finF A n c win (fun _=>0) Aa ca 0 i):=by
 subst hx hy hz
 rw [zero_finder]
 obtain ⟨h1,h2⟩:=zero_gen2 4096 (Value.slice none 0 0) (Value.int .i64 0) (Value.int .i64 0) (Value.slice none 0 0) (Value.int .i64 0) (.slice A n c) (.int .i64 (win:Int)) (.slice Aa n ca)
 refine ⟨h1,fun i hi=>(h2 i hi).trans ?_⟩
 unfold finF
 rfl
theorem mFind (A:OA) (n c:Nat) (l:List UInt8) (w:World) (hl:l.length=n) (hr:Bs w A l) (hn:n≤65536) (hc:n≤c) (hlow:∀ b,bk A=some b→b<w.heap.size):
 Calls Tryz.prog 74 #[.slice A n c,.int .i64 65536] w fun e w'=>∃ S m cs L,e=.returned (.tuple #[.slice S m cs,.int .i64 0])∧OwnS w' w.heap.size S m cs L∧FitL l 0 L∧Below w.heap.size w w':=by
 have HL:=Lh hl
 have HR:=Lh hr
 have HLow:=Lh hlow
 clear hl hr hlow
 have g1:decide ((65536:Int)<(n:Int))=false:=qF (by omega)
 obtain ⟨ti,hi,hz0,hz1,hz2⟩:=info_parts elemN_info
 go_enter Tryz.func74,Tryz.ntmps74
 go_wp2_with (at_make;refine wpList_make_full _ rfl _ _ 43 rfl w.heap.size 3 ti _ 1 Tryz.underlying43 hi hz0 hz1 .i64 .i64 n n n rfl rfl rfl rfl (by rw [hz2];omega) (by unfold maxLen;omega) nL ?_)
 intro w1 hown1 hg1
 rw [made_zeros] at hown1
 have hb1:Below w.heap.size w w1:=(Below.refl _ _).grown hg1 nL (fun k hk=>by cases hk)
 have hfin:Fin_ (w1.alloc (.cells (((Tryz.zeroCells188.setIfInBounds 0 (.slice A n c)).setIfInBounds 1 (.int .i64 65536)).setIfInBounds 4098 (.slice (some ⟨w.heap.size,0,none⟩) n n)) 188)) w.heap.size w1.heap.size l A n c 65536 (fun _=>0) (some ⟨w.heap.size,0,none⟩) n 0 (List.replicate n 0):=by
  have hz:=zero_fin A n c 65536 (some ⟨w.heap.size,0,none⟩) n _ _ _ rfl rfl rfl
  refine ⟨Cells.new w1 188 _ hz.1 hz.2,(HR.out.later hb1).later ((Below.refl _ _).alloc nL _),Own.later (w:=w1) hown1 ((Below.refl _ _).alloc nL _),fun _ _=>Nat.le_refl _,fun p hp=>by omega,Nat.zero_le _,HLow.out,hb1.size,?_⟩
  have:=((Below.refl w1.heap.size w1).alloc nL (.cells (((Tryz.zeroCells188.setIfInBounds 0 (.slice A n c)).setIfInBounds 1 (.int .i64 65536)).setIfInBounds 4098 (.slice (some ⟨w.heap.size,0,none⟩) n n)) 188)).size
  have:=hb1.size
  omega
 have HF1:=Lh hfin
 have HB1:=Lh (hb1.alloc hb1.size (.cells (((Tryz.zeroCells188.setIfInBounds 0 (.slice A n c)).setIfInBounds 1 (.int .i64 65536)).setIfInBounds 4098 (.slice (some ⟨w.heap.size,0,none⟩) n n)) 188))
 clear hfin hb1 hown1 hg1 hi hz0 hz1 hz2
 go_wp2_with fail
 obtain ⟨w2,hw2⟩:∃ w2,w2=w1.alloc (.cells (((Tryz.zeroCells188.setIfInBounds 0 (.slice A n c)).setIfInBounds 1 (.int .i64 65536)).setIfInBounds 4098 (.slice (some ⟨w.heap.size,0,none⟩) n n)) 188):=⟨_,rfl⟩
 rw [←hw2] at HF1 HB1 ⊢
 clear hw2
 obtain ⟨g,hg⟩:∃ g,g=w1.heap.size:=⟨_,rfl⟩
 rw [←hg] at HF1 ⊢
 clear hg
 refine (mBest w.heap.size g l A n c 65536 _ _ n 0 _ 0 w2 HF1.out HL.out hn hc (Nat.zero_le _) nL nL).mono ?_
 rintro e w3 ⟨⟨nn,dd,rfl,hok⟩,hb3,-,head3,known3,ah3,hk3,hf3⟩
 have HF3:=Lh hf3
 have HB3:=Lh (HB1.out.trans hb3)
 have HOK:=Lh hok
 clear hf3 hb3 hok HF1 HB1
 go_wp2_with fail
 go_loopg [7,8,9,10,11] n (fun gg s7 s8 s9 s10 s11 wr=>∃ (So:OA) (mo co:Nat) (L:List Sq) (from_ i nn dd:Nat) (head:Nat→Nat) (known:Nat) (ah:List Nat),s7=.slice So mo co∧s8=.int .i64 (from_:Int)∧s9=.int .i64 (nn:Int)∧s10=.int .i64 (dd:Int)∧s11=.int .i64 (i:Int)∧OwnS wr w.heap.size So mo co L∧mo≤i∧fitEnd 0 L=from_∧FitL l 0 L∧from_≤i∧i≤n∧n-i≤gg∧BestOk l i nn dd∧known≤i∧Fin_ wr w.heap.size g l A n c 65536 head (some ⟨w.heap.size,0,none⟩) n known ah∧Below w.heap.size w wr)
 case atStart=>exact ⟨none,0,0,[],0,0,nn,dd,head3,known3,ah3,rfl,rfl,rfl,rfl,rfl,OwnS.nil _ _,Nat.le_refl _,rfl,Nat.zero_le _,Nat.le_refl _,Nat.zero_le _,by omega,HOK.out,hk3,HF3.out,HB3.out⟩
 case round=>
  clear HF3 HB3 HOK hk3
  obtain ⟨So,mo,co,L,from_,i,nn,dd,head,known,ah,rfl,rfl,rfl,rfl,rfl,hso,hmo,hend,hfit,hfi,hi,hgg,hok,hki,hf,hb⟩:=hrel
  have HSo:=Lh hso
  have HEnd:=Lh hend
  have HFit:=Lh hfit
  have HOK:=Lh hok
  have HF:=Lh hf
  have HB:=Lh hb
  clear hso hend hfit hok hf hb
  have hn1:bk So≠some g:=by
   obtain ⟨cs,h1,-⟩:=HF.out.cells
   exact HSo.out.ne_blk h1 (by decide)
  have hn2:=HSo.out.ne_own HF.out.ahead (by decide)
  by_cases hin:i<n
  ·have g1:decide ((i:Int)<n)=true:=qT (by omega)
   have hbe:Calls Tryz.prog 104 #[.pointer (some ⟨g,0,none⟩),.int .i64 ((i:Int)+1)] wr _:=mBest w.heap.size g l A n c 65536 _ _ n known _ (i+1) wr HF.out HL.out hn hc (by omega) (by omega) nL
   have HBe:=Lh hbe
   clear hbe
   by_cases h0:nn=0
   ·have g2:((nn:Int)==0)=true:=by rw [h0];rfl
    clear h0
    go_wp2_with fail
    refine HBe.out.mono ?_
    rintro e w4 ⟨⟨nn4,dd4,rfl,hok4⟩,hb4,ht4,head4,known4,ah4,hk4,hf4⟩
    have HF4:=Lh hf4
    have HB4:=Lh (HB.out.trans hb4)
    have HSo4:=Lh (HSo.out.two ht4 hn1 hn2)
    have HOK4:=Lh hok4
    clear hf4 hb4 ht4 hok4 g2 HBe
    go_wp2
    go_roundg (n-(i+1))
    case measure=>omega
    case rel=>exact ⟨So,mo,co,L,from_,i+1,nn4,dd4,head4,known4,ah4,rfl,rfl,rfl,rfl,by go_num,HSo4.out,by omega,HEnd.out,HFit.out,by omega,by omega,by omega,HOK4.out,hk4,HF4.out,HB4.out⟩
   ·have g2:((nn:Int)==0)=false:=bF (by omega)
    have HOKn:=Lh (HOK.out.resolve_left (fun h=>h0 h.1))
    clear h0
    go_wp2_with fail
    refine HBe.out.mono ?_
    rintro e w4 ⟨⟨nn4,dd4,rfl,hok4⟩,hb4,ht4,head4,known4,ah4,hk4,hf4⟩
    have HF4:=Lh hf4
    have HB4:=Lh (HB.out.trans hb4)
    have HSo4:=Lh (HSo.out.two ht4 hn1 hn2)
    have HOK4:=Lh hok4
    clear hf4 hb4 ht4 hok4 g2 HBe
    by_cases hm:nn<nn4
    ·have g3:decide ((nn:Int)<nn4)=true:=qT (by omega)
     go_wp2
     go_roundg (n-(i+1))
     case measure=>omega
     case rel=>exact ⟨So,mo,co,L,from_,i+1,nn4,dd4,head4,known4,ah4,rfl,rfl,rfl,rfl,by go_num,HSo4.out,by omega,HEnd.out,HFit.out,by omega,by omega,by omega,HOK4.out,hk4,HF4.out,HB4.out⟩
    ·have g3:decide ((nn:Int)<nn4)=false:=qF (by omega)
     have e1:IntKind.i64.wrap ((i:Int)-from_)=((i-from_:Nat):Int):=by rw [wrapi64 (by omega) (by omega)];omega
     have HN2:=Lh (show nn≤259∧i+nn≤n∧4≤nn from ⟨HOKn.out.2.1,by have:=HOKn.out.2.2.1;rw [HL.out] at this;exact this,HOKn.out.1⟩)
     have hi2:=HN2.out
     go_wp2_with (at_builtin;go_loud (refine wpList_append_sq rfl _ _ rfl w.heap.size So mo co L w4 ⟨i-from_,nn,dd⟩ ?hw ?hs HSo4.out ?hx ?hb ?hbase ?_;(case hs=>simp [Act.eval]);(case hx=>simp [Act.eval])))
     case hw=>rfl
     case hb=>omega
     case hbase=>exact HB4.out.size
     intro A9 c9 w9 hown9 hg9
     have hf9:=HF4.out.kept hg9 hn1 (hn2.elim (fun h=>.inr (by rw [h];simp [bk])) (fun h=>.inr (fun e=>h e.symm))) (fun k hk=>(HSo.out.lt hk).1)
     have HF9:=Lh hf9
     have HB9:=Lh (HB4.out.grown hg9 HB4.out.size (fun k hk=>(HSo.out.lt hk).1))
     have HSo9:=Lh hown9
     have hfit9:FitL l 0 (L++[⟨i-from_,nn,dd⟩]):=by
      refine HFit.out.append ?_
      rw [HEnd.out]
      have h:=HOKn.out
      show 4≤nn∧nn≤259∧from_+(i-from_)+nn≤l.length∧1≤dd∧dd≤from_+(i-from_)∧(∀ j,j<nn→l.getD (from_+(i-from_)-dd+j) 0=l.getD (from_+(i-from_)+j) 0)∧from_+(i-from_)+nn≤l.length
      rw [show from_+(i-from_)=i by omega]
      exact ⟨h.1,h.2.1,h.2.2.1,h.2.2.2.1,h.2.2.2.2.1,h.2.2.2.2.2,h.2.2.1⟩
     have HFit9:=Lh hfit9
     have HEnd9:=Lh (show fitEnd 0 (L++[⟨i-from_,nn,dd⟩])=i+nn by rw [fitEnd_append,HEnd.out];show from_+(i-from_)+nn=_;omega)
     clear hf9 hown9 hg9 hfit9
     have hbe:Calls Tryz.prog 104 #[.pointer (some ⟨g,0,none⟩),.int .i64 ((i:Int)+nn)] w9 _:=mBest w.heap.size g l A n c 65536 _ _ n known4 _ (i+nn) w9 HF9.out HL.out hn hc (by omega) (by omega) nL
     have HBe:=Lh hbe
     clear hbe
     go_wp2_with fail
     refine HBe.out.mono ?_
     rintro e w5 ⟨⟨nn5,dd5,rfl,hok5⟩,hb5,ht5,head5,known5,ah5,hk5,hf5⟩
     have hn3:bk A9≠some g:=by
      obtain ⟨cs,h1,-⟩:=HF9.out.cells
      exact HSo9.out.ne_blk h1 (by decide)
     have hn4:=HSo9.out.ne_own HF9.out.ahead (by decide)
     have HF5:=Lh hf5
     have HB5:=Lh (HB9.out.trans hb5)
     have HSo5:=Lh (HSo9.out.two ht5 hn3 hn4)
     have HOK5:=Lh hok5
     clear hf5 hb5 ht5 hok5 HBe
     go_wp2
     go_roundg (n-(i+nn))
     case measure=>omega
     case rel=>exact ⟨A9,mo+1,c9,L++[⟨i-from_,nn,dd⟩],i+nn,i+nn,nn5,dd5,head5,known5,ah5,by go_num,by go_num,rfl,rfl,by go_num,HSo5.out,by omega,HEnd9.out,HFit9.out,by omega,by omega,by omega,HOK5.out,hk5,HF5.out,HB5.out⟩
  ·have g1:decide ((i:Int)<n)=false:=qF (by omega)
   go_wp2
   go_ret2
   exact ⟨So,mo,co,L,rfl,HSo.out,HFit.out,HB.out⟩
def PartsR (w:World) (go:Nat) (l:List Th):Prop:=∀ x∈l,OwnN w (go+1) x.pa x.pn x.pc x.ps
theorem PartsR.perm {w:World} {go:Nat} {l l':List Th} (h:PartsR w go l) (hp:∀ x∈l',x∈l):PartsR w go l':=fun x hx=>h x (hp x hx)
theorem PartsR.later {w w':World} {go:Nat} {l:List Th} (h:PartsR w go l) (hb:Below w.heap.size w w'):PartsR w' go l:=fun x hx=>Own.later (h x hx) hb
theorem PartsR.two {w w':World} {go B hb n c:Nat} {A:OA} {l ts:List Th} (h:PartsR w go l) (hh:HeapR w B hb A n c ts) (ht:Two hb A w w'):PartsR w' go l:=fun x hx=>
 ht.own (h x hx) (Own.ne_blk (h x hx) hh.box (by decide)) (by
  rcases hh.row.ne_own (h x hx) (by decide) with h1|h1
  ·cases hA:bk x.pa with
   | none=>exact .inl rfl
   | some k=>exact .inr (by rw [h1];simp)
  ·exact .inr (fun e=>h1 e.symm))
theorem own_one (w:World) (v:Value) (t:TypeId):Own (w.alloc (.cells #[v] t)) w.heap.size t (some ⟨w.heap.size,0,none⟩) 1 1 [v]:=
 ⟨rfl,.inr ⟨w.heap.size,1,#[v],rfl,Nat.le_refl _,World.alloc_heap_new w _,Nat.le_refl _,by unfold maxLen;omega,rfl,rfl⟩⟩
theorem two_below {w w':World} {B b hb n c:Nat} {A:OA} {l:List Th} (hh:HeapR w B hb A n c l) (ht:Two hb A w w') (h1:b≤B) (h2:b≤hb) (h3:b≤w.heap.size):Below b w w':=
 ⟨ht.os,ht.tape,ht.output,ht.size,fun k hk=>ht.block k (by omega) (by omega) (fun e=>by have:=(hh.row.lt e).1;omega)⟩
structure LeafR (counts:List Nat) (k:Nat) (ts:List Th):Prop where
 forest:Forest ((List.range k).filter (fun p=>decide (0<counts.getD p 0))) (sumL (counts.take k)) (List.replicate counts.length 0) ts
 low:∀ x∈ts,x.ht=0
 len:ts.length≤k
theorem getD_rep (n p:Nat):(List.replicate n 0).getD p 0=0:=by
 simp only [List.getD,List.getElem?_replicate]
 split<;>rfl
theorem LeafR.skip {counts:List Nat} {k:Nat} {ts:List Th} (h:LeafR counts k ts) (hc:counts[k]? = some 0):LeafR counts (k+1) ts:=by
 refine ⟨?_,h.low,Nat.le_succ_of_le h.len⟩
 have e:(List.range (k+1)).filter (fun p=>decide (0<counts.getD p 0))=(List.range k).filter (fun p=>decide (0<counts.getD p 0)):=by
  rw [List.range_succ,List.filter_append]
  simp [List.getD,hc]
 rw [e,sumL_step hc,Nat.add_zero]
 exact h.forest
theorem LeafR.put {counts:List Nat} {k c:Nat} {ts:List Th} (h:LeafR counts k ts) (hc:counts[k]? = some c) (h0:0<c) (num:Nat) (pa:OA) (pn pc:Nat):LeafR counts (k+1) (ts++[⟨c,num,pa,pn,pc,[k],0⟩]):=by
 have e:(List.range (k+1)).filter (fun p=>decide (0<counts.getD p 0))=(List.range k).filter (fun p=>decide (0<counts.getD p 0))++[k]:=by
  rw [List.range_succ,List.filter_append]
  simp [List.getD,hc,h0]
 refine ⟨⟨fun x hx=>?_,?_,?_,?_,fun p _=>getD_rep _ p⟩,fun x hx=>?_,by rw [Zl,List.length_singleton];have:=h.len;omega⟩
 ·rcases List.mem_append.1 hx with hx|hx
  ·exact h.forest.ok x hx
  ·obtain rfl:x=_:=List.mem_singleton.1 hx
   exact ⟨h0,fun p _=>by rw [getD_rep];exact Nat.zero_le _,fun H _=>by simp only [List.map_cons,List.map_nil,sumL,getD_rep];simp⟩
 ·rw [List.pairwise_append]
  refine ⟨h.forest.pair,by simp,fun x hx y hy=>?_⟩
  obtain rfl:y=_:=List.mem_singleton.1 hy
  have h1:=h.low x hx
  have h2:=(h.forest.ok x hx).fib
  have h3:=fibT_pos x.ht
  refine ⟨?_,?_⟩
  ·rw [h1];exact h0
  ·show 1≤x.wt;omega
 ·rw [sumL_step hc,←h.forest.wts]
  unfold wtsT
  rw [List.map_append,sumL_append];simp [sumL]
 ·rw [e]
  unfold allP
  rw [List.flatMap_append]
  exact h.forest.all.append (List.Perm.of_eq (by simp))
 ·rcases List.mem_append.1 hx with hx|hx
  ·exact h.low x hx
  ·obtain rfl:x=_:=List.mem_singleton.1 hx
   rfl
theorem one_ps {out:List Nat} {x:Th} (h:ThOk out x) (h0:x.ht=0):∃ p,x.ps=[p]:=by
 have h1:=h.kraft 0 (by omega)
 have h2:x.ps.map (fun p=>2^(0-out.getD p 0))=List.replicate x.ps.length 1:=by
  apply List.ext_getElem
  ·simp
  ·intro i h1 h2;simp
 have h3:∀ m:Nat,sumL (List.replicate m 1)=m:=by
  intro m
  induction m with
  | zero=>rfl
  | succ m ih=>rw [List.replicate_succ,sumL,ih];omega
 rw [h2,h3] at h1
 exact List.length_eq_one_iff.1 h1
theorem TreeOk.one {counts:List Nat} {p:Nat} {x:Th} (h:Forest (posL counts) (sumL counts) (List.replicate counts.length 0) [x]) (hp:x.ps=[p]):TreeOk counts ((List.replicate counts.length 0).set p 1)∧p<counts.length:=by
 have hpos:posL counts=[p]:=by
  have:=h.all
  unfold allP at this
  rw [List.flatMap_cons,List.flatMap_nil,List.append_nil,hp] at this
  exact List.perm_singleton.1 this.symm
 have hlt:=posL_lt counts p (by rw [hpos];exact List.mem_singleton_self _)
 refine ⟨⟨by simp,fun q hq=>?_,1,?_,fun q=>?_,.inr ⟨p,hpos,rfl,?_⟩⟩,hlt⟩
 ·rw [getD_set]
  split
  ·rename_i h1
   exfalso
   have:p∈posL counts:=by rw [hpos];exact List.mem_singleton_self _
   have:=(List.mem_filter.1 this).2
   simp only [decide_eq_true_eq] at this
   rw [h1.1] at hq
   omega
  ·exact getD_rep _ _
 ·have h1:=(h.ok x (List.mem_singleton_self _)).fib
  have h2:=h.wts
  have h3:=fibT_pos x.ht
  rw [wtsT_cons] at h2
  show 1≤_
  omega
 ·rw [getD_set]
  split
  ·exact Nat.le_refl _
  ·rw [getD_rep];omega
 ·rw [getD_set,if_pos ⟨rfl,by rw [List.length_replicate];exact hlt⟩]
theorem TreeOk.many {counts out:List Nat} {x:Th} (h:Forest (posL counts) (sumL counts) out [x]) (hlen:out.length=counts.length):TreeOk counts out:=by
 have ok:=h.ok x (List.mem_singleton_self _)
 have hps:x.ps.Perm (posL counts):=by
  have:=h.all
  unfold allP at this
  rw [List.flatMap_cons,List.flatMap_nil,List.append_nil] at this
  exact this
 have hz:∀ q,q ∉ posL counts→out.getD q 0=0:=h.rest
 refine ⟨hlen,fun q hq=>hz q (fun hm=>?_),x.ht,?_,fun q=>?_,.inl ?_⟩
 ·have:=(List.mem_filter.1 hm).2
  simp only [decide_eq_true_eq] at this
  omega
 ·have h1:=ok.fib
  have h2:=h.wts
  rw [wtsT_cons] at h2
  have:wtsT ([]:List Th)=0:=rfl
  omega
 ·by_cases hm:q∈posL counts
  ·exact ok.le q (hps.symm.subset hm)
  ·rw [hz q hm];exact Nat.zero_le _
 ·rw [←ok.kraft x.ht nL]
  exact sumL_perm (hps.symm.map _)
structure TreeR (w0:World) (hb:Nat) (A:OA) (c n M:Nat) (hs ex:List Th) (out:List Nat) (w:World):Prop where
 heap:HeapR w (w0.heap.size+1) hb A M c hs
 all:HAll (fnT hs) M 0
 parts:PartsR w w0.heap.size (ex++hs)
 out_:OwnN w w0.heap.size (some ⟨w0.heap.size,0,none⟩) n n out
 lt:hb<w.heap.size
 below:Below w0.heap.size w0 w
theorem TreeR.later {w0 w w':World} {hb c n M:Nat} {A:OA} {hs ex:List Th} {out:List Nat} (h:TreeR w0 hb A c n M hs ex out w) (hb':Below w.heap.size w w'):TreeR w0 hb A c n M hs ex out w':=
 ⟨h.heap.later hb',h.all,h.parts.later hb',Own.later h.out_ hb',lT h.lt hb'.size,h.below.trans (hb'.mono h.below.size)⟩
theorem TreeR.drew {w0 w:World} {hb c n M:Nat} {A:OA} {hs ex:List Th} {out:List Nat} (h:TreeR w0 hb A c n M hs ex out w):TreeR w0 hb A c n M hs ex out w.drew:=h.later (Below.refl _ _).drew
theorem TreeR.alloc {w0 w:World} {hb c n M:Nat} {A:OA} {hs ex:List Th} {out:List Nat} (o:Obj) (h:TreeR w0 hb A c n M hs ex out w):TreeR w0 hb A c n M hs ex out (w.alloc o):=h.later ((Below.refl _ _).alloc nL _)
theorem own_row_ne {w:World} {B hb n c base n' c':Nat} {A A':OA} {ts:List Th} {xs:List Value} (hh:HeapR w B hb A n c ts) (h:Own w base 3 A' n' c' xs):bk A'≠some hb∧(bk A'=none∨bk A'≠bk A):=by
 refine ⟨Own.ne_blk h hh.box (by decide),?_⟩
 rcases hh.row.ne_own h (by decide) with h1|h1
 ·cases hA:bk A' with
  | none=>exact .inl rfl
  | some k=>exact .inr (by rw [h1];simp)
 ·exact .inr (fun e=>h1 e.symm)
theorem TreeR.two {w0 w w':World} {hb c n M:Nat} {A:OA} {hs ex:List Th} {out:List Nat} (h:TreeR w0 hb A c n M hs ex out w) (ht:Two hb A w w') (hlt:w0.heap.size<hb):PartsR w' w0.heap.size (ex++hs)∧OwnN w' w0.heap.size (some ⟨w0.heap.size,0,none⟩) n n out∧hb<w'.heap.size∧Below w0.heap.size w0 w':=
 ⟨h.parts.two h.heap ht,ht.own h.out_ (own_row_ne h.heap h.out_).1 (own_row_ne h.heap h.out_).2,lT h.lt ht.size,h.below.trans (two_below h.heap ht (by omega) (by omega) h.below.size)⟩
theorem popAt {w0 w:World} {hb c n M:Nat} {A:OA} {hs ex:List Th} {out:List Nat} (h:TreeR w0 hb A c n (M+1) hs ex out w) (hM:1≤M) (hM2:M≤999999) (hc:M+1≤c) (hlt:w0.heap.size<hb):
 Calls Tryz.prog 78 #[.iface 285 (.pointer (some ⟨hb,0,none⟩))] w fun e w'=>∃ x l',e=.returned (thV x)∧TreeR w0 hb A c n M l' (x::ex) out w'∧(x::l').Perm hs∧(∀ y∈l',leT x y)∧Two hb A w w':=by
 refine (hpPop (w0.heap.size+1) hb A M c hs w h.heap hM hM2 hc h.all).mono ?_
 rintro e w' ⟨x,l',rfl,hh,hp,ha,hm,ht⟩
 obtain ⟨h1,h2,h3,h4⟩:=h.two ht hlt
 refine ⟨x,l',rfl,⟨hh,ha,h1.perm (fun y hy=>?_),h2,h3,h4⟩,hp,hm,ht⟩
 rcases List.mem_append.1 hy with hy|hy
 ·rcases List.mem_cons.1 hy with rfl|hy
  ·exact List.mem_append_right _ (hp.subset (List.mem_cons_self))
  ·exact List.mem_append_left _ hy
 ·exact List.mem_append_right _ (hp.subset (List.mem_cons_of_mem _ hy))
structure LocR (w0:World) (hb:Nat) (A:OA) (b:Nat) (cs:Array Value) (w:World):Prop where
 blk:Blk w b 283 cs
 ne:bk A≠some b
 ge:w0.heap.size≤b
theorem LocR.alloc {w0 w:World} {hb b:Nat} {A:OA} {cs:Array Value} (o:Obj) (h:LocR w0 hb A b cs w):LocR w0 hb A b cs (w.alloc o):=⟨h.blk.later ((Below.refl _ _).alloc nL _),h.ne,h.ge⟩
theorem LocR.two {w0 w w':World} {hb b c n M:Nat} {A:OA} {cs:Array Value} {hs ex:List Th} {out:List Nat} (ht:Two hb A w w') (hh:TreeR w0 hb A c n M hs ex out w) (h:LocR w0 hb A b cs w):LocR w0 hb A b cs w':=
 ⟨ht.blk h.blk (Blk.ne h.blk hh.heap.box (by decide)) h.ne,h.ne,h.ge⟩
theorem LocR.new {w0 w:World} {hb c n M:Nat} {A:OA} {hs ex:List Th} {out:List Nat} (cs:Array Value) (hh:TreeR w0 hb A c n M hs ex out w):LocR w0 hb A w.heap.size cs (w.alloc (.cells cs 283)):=
 ⟨Blk.new w _ cs,fun e=>by have:=(hh.heap.row.lt e).2;omega,hh.below.size⟩
theorem thSwapSame (base:Nat) (A:OA) (n c:Nat) (l:List Th) (i:Nat) (x:Th) (w:World) (h:OwnT w base A n c l) (hx:l[i]? = some x):
 Calls Tryz.prog 217 #[.slice A n c,.int .i64 (i:Int),.int .i64 (i:Int)] w fun e w'=>(∃ v,e=.returned v)∧OwnT w' base A n c l∧w.grownBy w' (bk A):=by
 have hl:=h.length
 have hi:i<n:=by rw [←hl];exact (Ze hx).1
 have hset:l.set i x=l:=by
  obtain ⟨h1,h2⟩:=Ze hx
  rw [←h2];exact List.set_getElem_self h1
 obtain ⟨g,x',rfl,hg1,hg2,hx',a0,a1,a2,f0⟩:=h.at_ hi
 rw [hx] at hx';cases hx'
 obtain ⟨xw,xn,xa,xpn,xpc,xps,xht⟩:=x
 simp only at a0 a1 a2
 have i1:(0:Int)≤(i:Int):=by omega
 have i2:(i:Int)<(n:Int):=by omega
 have h3:=h.set hi ⟨xw,xn,xa,xpn,xpc,xps,xht⟩
 rw [hset] at h3
 obtain ⟨g',y',hg',-,-,hy',d0,d1,d2,df⟩:=h3.at_ hi
 cases hg'
 rw [hx] at hy'
 cases hy'
 have h4:=h3.set hi ⟨xw,xn,xa,xpn,xpc,xps,xht⟩
 rw [hset] at h4
 simp only at d0 d1 d2 h4
 have HO:=Lh h4
 have df0:=df (i*3)
 have df1:=df (i*3+1)
 have df2:=df (i*3+2)
 have ff0:=f0 (i*3)
 have ff1:=f0 (i*3+1)
 have ff2:=f0 (i*3+2)
 clear h hx hl h3 h4 df f0 hset
 go_enter Tryz.func217,Tryz.ntmps217
 go_wp2
 go_region
 go_wp2
 go_end0
 exact ⟨⟨_,rfl⟩,HO.out.later ((Below.refl _ _).drew),grown6 _ _ _ _ _ _ _ _ _ _ _ _ _ _⟩
theorem hpPop0 (B hb:Nat) (A:OA) (c:Nat) (x:Th) (w:World) (h:HeapR w B hb A 1 c [x]) (hc:1≤c):
 Calls Tryz.prog 78 #[.iface 285 (.pointer (some ⟨hb,0,none⟩))] w fun e w'=>e=.returned (thV x)∧HeapR w' B hb A 0 c []∧Two hb A w w':=by
 have H0:=Lh h
 have hml:=m_Len h.cell
 have HLen0:=Lh (thLen A 1 c w)
 have hms:=m_Swap h.cell
 have HSw:=Lh (show Calls Tryz.prog 217 #[.slice A 1 c,.int .i64 0,.int .i64 0] w _ from thSwapSame B A 1 c [x] 0 x w h.row rfl)
 clear h
 go_enter Tryz.func78,Tryz.ntmps78
 go_wp2_with fail
 refine HLen0.out.mono ?_
 rintro e w1 ⟨rfl,hw1⟩
 obtain rfl:=hw1.symm
 go_wp2_with fail
 refine HSw.out.mono ?_
 rintro e w2 ⟨⟨v2,rfl⟩,hrow2,hgr2⟩
 have hh2:HeapR w2 B hb A 1 c [x]:=⟨H0.out.box.kept hgr2 H0.out.ne,hrow2⟩
 have HT2:=Lh ((Two.refl hb A w).grown hgr2 (fun k hk _=>.inr hk))
 have HDn:=Lh (show Calls Tryz.prog 114 #[.iface 285 (.pointer (some ⟨hb,0,none⟩)),.int .i64 0,.int .i64 0] w2 _ from hpDown B hb A 1 c [x] 0 0 0 w2 hh2 (by omega) (by omega) nL nL ⟨fun m h1 h2=>by omega,fun m h1 h2=>by omega⟩)
 clear hrow2 hgr2 hh2 hml hms HSw
 go_wp2_with fail
 refine HDn.out.mono ?_
 rintro e w3 ⟨⟨v3,rfl⟩,⟨l3,hh3,hp3,-,-⟩,ht3⟩
 have hl3:l3=[x]:=List.perm_singleton.1 hp3
 subst hl3
 have HPop:=Lh (thPop B hb A 0 c [x] x w3 hh3 rfl (by omega) hc)
 have HT3:=Lh (HT2.out.trans ht3)
 have hmp:=m_Pop ⟨hb,0,none⟩ w3
 clear hh3 hp3 ht3 HDn
 go_wp2_with fail
 refine HPop.out.mono ?_
 rintro e w4 ⟨rfl,hh4,ht4⟩
 have HH4:=Lh hh4
 have HT4:=Lh (HT3.out.trans ht4)
 clear hh4 ht4 HPop hmp
 go_wp2
 go_ret
 exact ⟨rfl,HH4.out,HT4.out⟩
theorem popAny {w0 w:World} {hb c n M:Nat} {A:OA} {hs ex:List Th} {out:List Nat} (h:TreeR w0 hb A c n (M+1) hs ex out w) (hM2:M≤999999) (hc:M+1≤c) (hlt:w0.heap.size<hb):
 Calls Tryz.prog 78 #[.iface 285 (.pointer (some ⟨hb,0,none⟩))] w fun e w'=>∃ x l',e=.returned (thV x)∧TreeR w0 hb A c n M l' (x::ex) out w'∧(x::l').Perm hs∧(∀ y∈l',leT x y)∧Two hb A w w':=by
 by_cases hM:1≤M
 ·exact popAt h hM hM2 hc hlt
 ·obtain rfl:M=0:=by omega
  obtain ⟨x,rfl⟩:∃ x,hs=[x]:=List.length_eq_one_iff.1 h.heap.row.length
  refine (hpPop0 (w0.heap.size+1) hb A c x w h.heap hc).mono ?_
  rintro e w' ⟨rfl,hh,ht⟩
  obtain ⟨h1,h2,h3,h4⟩:=h.two ht hlt
  refine ⟨x,[],rfl,⟨hh,fun m h1 h2=>by omega,h1.perm (fun y hy=>?_),h2,h3,h4⟩,List.Perm.refl _,by simp,ht⟩
  rw [List.append_nil] at hy
  rcases List.mem_cons.1 hy with rfl|hy
  ·exact List.mem_append_right _ (List.mem_singleton_self _)
  ·exact List.mem_append_left _ hy
def zTh:Array Value:=#[.int .i64 0,.int .i64 0,.slice none 0 0]
def vTh (x:Th):Array Value:=#[natv x.wt,natv x.num,.slice x.pa x.pn x.pc]
theorem blk_cells {w:World} {b:Nat} {v0 v1 v2:Value} {t:TypeId} (h:Blk w b t #[v0,v1,v2]):w.cell? ⟨b,0,none⟩=some v0∧w.cell? ⟨b,1,none⟩=some v1∧w.cell? ⟨b,2,none⟩=some v2∧w.frozen? ⟨b,0,none⟩=false∧w.frozen? ⟨b,1,none⟩=false∧w.frozen? ⟨b,2,none⟩=false∧b<w.heap.size:=by
 have h0:=h.cell 0
 have h1:=h.cell 1
 have h2:=h.cell 2
 simp only [Zt,Zz,Zs] at h0 h1 h2
 exact ⟨h0,h1,h2,h.frozen 0,h.frozen 1,h.frozen 2,h.lt⟩
def put3 (w:World) (b:Nat) (x:Th):World:=((w.setCell ⟨b,0,none⟩ (natv x.wt)).setCell ⟨b,1,none⟩ (natv x.num)).setCell ⟨b,2,none⟩ (.slice x.pa x.pn x.pc)
theorem put3_grown (w:World) (b:Nat) (x:Th):w.grownBy (put3 w b x) (some b):=
 grown_trans (grown_trans (grown_set w ⟨b,0,none⟩ _) (grown_set _ ⟨b,1,none⟩ _)) (grown_set _ ⟨b,2,none⟩ _)
theorem put3_blk {w:World} {b:Nat} {v0 v1 v2:Value} (x:Th) (h:Blk w b 283 #[v0,v1,v2]):Blk (put3 w b x) b 283 (vTh x):=((h.set 0 _).set 1 _).set 2 _
theorem TreeR.put3 {w0 w:World} {hb c n M b:Nat} {A:OA} {hs ex:List Th} {out:List Nat} {v0 v1 v2:Value} (x:Th) (h:TreeR w0 hb A c n M hs ex out w) (hl:LocR w0 hb A b #[v0,v1,v2] w):TreeR w0 hb A c n M hs ex out (put3 w b x):=by
 have hg:=put3_grown w b x
 have h1:some b≠some hb:=fun e=>Blk.ne hl.blk h.heap.box (by decide) (by injection e)
 refine ⟨⟨h.heap.box.kept hg h1,h.heap.row.kept hg (.inr hl.ne)⟩,h.all,fun y hy=>Own.kept (h.parts y hy) hg (.inr (Own.ne_blk (h.parts y hy) hl.blk (by decide))),Own.kept h.out_ hg (.inr (Own.ne_blk h.out_ hl.blk (by decide))),lT h.lt hg.size,h.below.grown hg h.below.size (fun k e=>by cases e;exact hl.ge)⟩
def KA (k:Nat) (x:Th):Prop:=x.wt=2^k∧x.ht≤k
def KB2 (k:Nat) (x:Th):Prop:=x.wt=2^k*2∧x.ht≤k+1
def KC (k:Nat) (x:Th):Prop:=2^k<x.wt∧x.wt<2^k*2∧x.ht≤k+1
def KD (k:Nat) (x:Th):Prop:=2^k*2<x.wt∧x.wt<2^k*4∧x.ht≤k+2
def Kind (k:Nat) (x:Th):Prop:=KA k x∨KB2 k x∨KC k x∨KD k x
def OddT (k:Nat) (x:Th):Prop:=x.wt≠2^k∧x.wt≠2^k*2
def BigT (k:Nat) (x:Th):Prop:=2^k*2<x.wt
def RelT (k:Nat) (x y:Th):Prop:=¬(OddT k x∧OddT k y)∧¬(BigT k x∧y.wt=2^k)∧¬(BigT k y∧x.wt=2^k)
theorem RelT.symm {k:Nat} {x y:Th} (h:RelT k x y):RelT k y x:=⟨fun e=>h.1 ⟨e.2,e.1⟩,h.2.2,h.2.1⟩
structure Phase (k:Nat) (l:List Th):Prop where
 kind:∀ x∈l,Kind k x
 rel:l.Pairwise (RelT k)
theorem Phase.perm {k:Nat} {l l':List Th} (h:Phase k l) (hp:l'.Perm l):Phase k l':=
 ⟨fun x hx=>h.kind x (hp.subset hx),(hp.pairwise_iff (fun h=>h.symm)).2 h.rel⟩
theorem Phase.merge {k:Nat} {l:List Th} {a b x:Th} (h:Phase k (a::b::l)) (ha:∀ y∈l,a.wt≤y.wt) (hb:∀ y∈l,b.wt≤y.wt) (hab:a.wt≤b.wt) (hw:x.wt=a.wt+b.wt) (hh:x.ht=max a.ht b.ht+1):∃ k',Phase k' (x::l):=by
 have ka:=h.kind a (List.mem_cons_self)
 have kb:=h.kind b (List.mem_cons_of_mem _ List.mem_cons_self)
 have kl:∀ y∈l,Kind k y:=fun y hy=>h.kind y (List.mem_cons_of_mem _ (List.mem_cons_of_mem _ hy))
 have hpw:=h.rel
 rw [List.pairwise_cons,List.pairwise_cons] at hpw
 obtain ⟨ra,rb,rl⟩:=hpw
 have rab:=ra b (List.mem_cons_self)
 have ral:∀ y∈l,RelT k a y:=fun y hy=>ra y (List.mem_cons_of_mem _ hy)
 have hp:0<2^k:=Nat.two_pow_pos k
 have e1:2^(k+1)=2^k*2:=Nat.pow_succ ..
 by_cases hBB:b.wt≥2^k*2∧a.wt≥2^k*2
 ·refine ⟨k+1,fun y hy=>?_,?_⟩
  ·unfold Kind KA KB2 KC KD
   rw [e1]
   rcases List.mem_cons.1 hy with rfl|hy
   ·unfold Kind KA KB2 KC KD at ka kb
    unfold RelT OddT BigT at rab
    omega
   ·have k1:=kl y hy
    have k2:=ha y hy
    unfold Kind KA KB2 KC KD at k1
    omega
  ·rw [List.pairwise_cons]
   refine ⟨fun z hz=>?_,?_⟩
   ·have k1:=kl z hz
    have k2:=ha z hz
    have k3:=hb z hz
    have k4:=rb z hz
    have k5:=ral z hz
    unfold Kind KA KB2 KC KD at k1 ka kb
    unfold RelT OddT BigT at *
    rw [e1]
    omega
   ·refine rl.imp_of_mem (fun {y z} hy hz hyz=>?_)
    have k1:=kl y hy
    have k2:=ha y hy
    have k3:=kl z hz
    have k4:=ha z hz
    unfold Kind KA KB2 KC KD at k1 k3
    unfold RelT OddT BigT at *
    rw [e1]
    omega
 ·refine ⟨k,fun y hy=>?_,?_⟩
  ·rcases List.mem_cons.1 hy with rfl|hy
   ·unfold Kind KA KB2 KC KD at *
    unfold RelT OddT BigT at rab
    omega
   ·exact kl y hy
  ·rw [List.pairwise_cons]
   refine ⟨fun z hz=>?_,rl⟩
   have k1:=kl z hz
   have k2:=ha z hz
   have k3:=hb z hz
   have k4:=rb z hz
   have k5:=ral z hz
   unfold Kind KA KB2 KC KD at k1 ka kb
   unfold RelT OddT BigT at *
   omega
theorem Phase.low {k:Nat} {x:Th} (h:Phase k [x]) (hw:x.wt≤512):x.ht≤11:=by
 have hk:=h.kind x (List.mem_singleton_self _)
 have hp:k≤9:=by
  rcases Nat.lt_or_ge 9 k with h9|h9
  ·exfalso
   have:2^10≤2^k:=Nat.pow_le_pow_right (by omega) h9
   unfold Kind KA KB2 KC KD at hk
   omega
  ·exact h9
 unfold Kind KA KB2 KC KD at hk
 omega
theorem Phase.leaves {ts:List Th} (h:∀ x∈ts,x.ht=0∧(x.wt=1∨x.wt=2)):Phase 0 ts:=by
 refine ⟨fun x hx=>?_,?_⟩
 ·obtain ⟨h1,h2⟩:=h x hx
  unfold Kind KA KB2
  rcases h2 with h2|h2
  ·exact .inl ⟨h2,by omega⟩
  ·exact .inr (.inl ⟨h2,by omega⟩)
 ·refine List.Pairwise.imp_of_mem (R:=fun _ _=>True) (fun {x y} hx hy _=>?_) (List.pairwise_of_forall (fun _ _=>trivial))
  obtain ⟨-,h1⟩:=h x hx
  obtain ⟨-,h2⟩:=h y hy
  unfold RelT OddT BigT
  simp only [Nat.pow_zero]
  omega
theorem upon_round {lo n:Nat} {P:Program} {o:Oper} {a:Act} {K K':Act→World→Prop} {Q:Exit→Act→World→Prop} (hQ:¬LetsOut Q) (hK:∀ a w,K a w→K' a w):
 ∀ r,o.upon P a K Q r→o.uponIn (Fence.wide.inRound lo) n P a K' Q r
 | .ok (.value _) _,h=>hK _ _ h
 | .ok .skip _,h=>hK _ _ h
 | .ok (.defer _) _,h=>hK _ _ h
 | .ok (.enter f args) w',h=>⟨fun hd=>by simp [Fence.wide] at hd,CallsIn.inRound lo (callsIn_wide.2 (Calls.mono h fun e w'' he=>by
    cases e with
    | returned v=>exact hK _ _ he
    | panicked c=>exact he
    | outgrown=>exact absurd he hQ))⟩
 | .ok (.row row args) w',h=>⟨fun hd=>by simp [Fence.wide] at hd,fun c cs _=>by
    obtain ⟨v,w'',r,s⟩:=h c cs
    exact ⟨v,w'',hK _ _ r,stepsIn_wide.2 s⟩⟩
 | .halt (.panic _) _,h=>h
def plainOp (o:Oper):Bool:=match o.op with|.defer _=>false|_=>true
theorem op_round {lo n:Nat} {P:Program} {ops:Array Oper} {Q:Exit→Act→World→Prop} (hQ:¬LetsOut Q) (hd:ops.all plainOp=true) {i:Nat} {K K':Act→World→Prop} (hK:∀ a w,K a w→K' a w) {a:Act} {w:World}
 (h:wpOp P ops Q i K a w):wpOpIn (Fence.wide.inRound lo) n P ops Q i K' a w:=by
 unfold wpOp at h
 unfold wpOpIn
 cases ho:ops[i]? with
 | none=>rw [ho] at h;exact hK _ _ h
 | some o=>
   rw [ho] at h
   simp only at h ⊢
   have hpl:∀ c,o.op≠.defer c:=by
    intro c e
    have h1:=Array.all_eq_true.1 hd i (Array.getElem?_eq_some_iff.1 ho).1
    rw [(Array.getElem?_eq_some_iff.1 ho).2] at h1
    unfold plainOp at h1
    rw [e] at h1
    cases h1
   split
   ·rename_i hw
    rw [if_pos hw] at h
    rcases h with h|⟨-,h⟩
    ·refine ⟨fun _ _=>trivial,?_⟩
     rw [Oper.semAt_eq _ _ _ hpl]
     exact upon_round hQ hK _ h
    ·exact absurd h hQ
   ·rename_i hw
    rw [if_neg hw] at h
    exact ⟨fun _ _=>trivial,hK _ _ h⟩
theorem any_round {lo n:Nat} {P:Program} {ops:Array Oper} {md:Region.Mode} {Q:Exit→Act→World→Prop} (hQ:¬LetsOut Q) (hd:ops.all plainOp=true):∀ (fuel:Nat) (listed:Array Bool) (a:Act) (w:World),
 wpAny P md ops Q fuel listed a w→wpAnyIn (Fence.wide.inRound lo) n P md ops Q fuel listed a w
 | 0,_,_,_,h=>h
 | fuel+1,_,_,_,h=>⟨h.1,fun i hi=>op_round hQ hd (fun a w hK=>any_round hQ hd fuel _ a w hK) (h.2 i hi)⟩
theorem wpR_region_quiet {lo n id:Nat} {P:Program} {Q:Exit→Act→World→Prop} {a:Act} {w:World} {l:List Oper} (hQ:¬LetsOut Q) (hd:l.toArray.all plainOp=true) (hm:P.follows .mixedOrders=true) (hB:Region.lexB .any l.toArray=true)
 (h:wpQuiet P l.toArray (fun w'=>∃ n,w'=w.drewN n) (fun a'=>∀ w',(∃ n,w'=w.drewN n)→Q .normal a' w') l a):(Code.region id l.toArray true).wpIn (Fence.wide.inRound lo) n P Q a w:=by
 simp only [Region.lexB,Bool.and_eq_true] at hB
 refine wpIn_region_any hm (any_round hQ hd _ _ _ _ (wpAny_of_quiet (C:=fun w'=>∃ n,w'=w.drewN n) (Q:=fun a'=>∀ w',(∃ n,w'=w.drewN n)→Q .normal a' w') (fun _ w' hw' h=>h w' hw') _ _ _ _ ⟨1,rfl⟩ ?_))
 have:=wpAnyQ_lex (C:=fun w'=>∃ n,w'=w.drewN n) (md:=.any) hB.1 l 0 (Array.replicate l.toArray.size false) a (by simp) (by simpa using hB.2) h
 simpa using this
theorem wpR_region_tail {lo m id:Nat} {P:Program} {Q:Exit→Act→World→Prop} {a:Act} {w:World} {l:List Oper} (n:Nat) (hQ:¬LetsOut Q) (hd:l.toArray.all plainOp=true) (hm:P.follows .mixedOrders=true) (hB:Region.lexTailB .any l.toArray n=true)
 (h:wpStill P l.toArray w.drew (fun a'=>wpList P l.toArray Q (l.drop n) a' w.drew) (l.take n) a):(Code.region id l.toArray true).wpIn (Fence.wide.inRound lo) m P Q a w:=by
 simp only [Region.lexTailB,Bool.and_eq_true,decide_eq_true_eq] at hB
 obtain ⟨⟨⟨⟨hsel,hn⟩,hs⟩,hc⟩,hlex⟩:=hB
 have hn':n<l.length:=by simpa using hn
 have htl:(l.take n).length=n:=by simp;omega
 have hdl:(l.drop n).length=l.toArray.size-n:=by simp
 have inv0:HeadInv .any l.toArray n (Array.replicate l.toArray.size false):=
  ⟨by simp,fun j oj _ hl=>(by rw [getD_replicate_false] at hl;cases hl),fun t _ ht=>getD_in (by simpa using ht) (getD_replicate_false _ _)⟩
 have H:=wpAnyL_lex (md:=.any) (g:=l.toArray.size-n) hsel hs hc hn (l.take n) 0 _ a (fun j hj=>by
  have hj':j<n:=by rw [htl] at hj;exact hj
  simp [hj']) (by simpa using htl) inv0 (by rw [htl];exact hlex) h
 refine wpIn_region_any hm (any_round hQ hd _ _ _ _ ?_)
 have:=wpAny_of_head (Q':=Q) (g:=l.toArray.size-n) (fun listed a' hL=>by
  have:=wpAny_of_seq (md:=.any) (Q':=Q) (l.drop n) n listed a' w.drew (fun j=>by simp [List.getElem?_drop]) (by rw [hdl];exact hL.1) hL.2
  rwa [hdl] at this) _ _ _ H
 rw [htl,show n+(l.toArray.size-n)=l.toArray.size by omega] at this
 exact this
def undone (listed:Array Bool):Nat:=(listed.toList.filter (fun b=>!b)).length
theorem undone_list:∀ (l:List Bool) (i:Nat),l[i]? = some false→((l.set i true).filter (fun b=>!b)).length+1=(l.filter (fun b=>!b)).length
 | [],i,h=>by simp at h
 | b::r,0,h=>by
   obtain rfl:b=false:=by simpa using h
   simp
 | b::r,i+1,h=>by
   have:=undone_list r i (by simpa using h)
   rw [List.set_cons_succ]
   cases b<;>simp_all<;>omega
theorem undone_set {listed:Array Bool} {i:Nat} (h:listed.getD i true=false):undone (listed.setIfInBounds i true)+1=undone listed:=by
 unfold undone
 rw [Array.toList_setIfInBounds]
 refine undone_list _ i ?_
 rw [Array.getElem?_toList]
 rcases Nat.lt_or_ge i listed.size with h'|h'
 ·rw [Array.getElem?_eq_getElem h']
  simpa [Array.getD,h'] using h
 ·exfalso
  simp [Array.getD,Nat.not_lt.2 h'] at h
theorem undone_zero {listed:Array Bool} (h:undone listed=0) (i:Nat):listed.getD i true=true:=by
 unfold undone at h
 have h2:=List.length_eq_zero_iff.1 h
 rw [List.filter_eq_nil_iff] at h2
 rcases Nat.lt_or_ge i listed.size with h'|h'
 ·have:=h2 listed[i] (by simp)
  simpa [Array.getD,h'] using this
 ·simp [Array.getD,Nat.not_lt.2 h']
theorem wpAny_inv {P:Program} {ops:Array Oper} {md:Region.Mode} {Q:Exit→Act→World→Prop} (I:Array Bool→Act→World→Prop)
 (hstep:∀ listed a w,I listed a w→∀ i∈Region.ready md ops listed,wpOp P ops Q i (I (listed.setIfInBounds i true)) a w)
 (hdone:∀ listed a w,I listed a w→Region.ready md ops listed=[]→Q .normal a w):
 ∀ (fuel:Nat) (listed:Array Bool) (a:Act) (w:World),undone listed≤fuel→I listed a w→wpAny P md ops Q fuel listed a w
 | 0,listed,a,w,hf,h=>by
   have hr:Region.ready md ops listed=[]:=by
    apply List.eq_nil_iff_forall_not_mem.2
    intro i hi
    have h1:=(mem_ready.1 hi).1
    rw [undone_zero (by omega) i] at h1
    cases h1
   exact ⟨hr,hdone listed a w h hr⟩
 | fuel+1,listed,a,w,hf,h=>by
   refine ⟨fun hr=>hdone listed a w h hr,fun i hi=>?_⟩
   have h1:=(mem_ready.1 hi).1
   have h2:=undone_set h1
   exact wpOp_mono (fun a' w' h'=>wpAny_inv I hstep hdone fuel _ a' w' (by omega) h') (hstep listed a w h i hi)
theorem wp_region_inv {P:Program} {ops:Array Oper} {Q:Exit→Act→World→Prop} {id:Nat} {a:Act} {w:World} (I0:Act→Array Bool→Act→World→Prop) (hm:P.follows .mixedOrders=true)
 (hstep:∀ listed a' w,I0 a listed a' w→∀ i∈Region.ready .any ops listed,wpOp P ops Q i (I0 a (listed.setIfInBounds i true)) a' w)
 (hdone:∀ listed a' w,I0 a listed a' w→Region.ready .any ops listed=[]→Q .normal a' w)
 (h0:I0 a (Array.replicate ops.size false) a w.drew):(Code.region id ops true).wp P Q a w:=by
 refine wp_region_any hm (wpAny_inv (I0 a) hstep hdone _ _ _ _ ?_ h0)
 unfold undone
 simp
end Go.Proofs.YtiihiocgbfafaaaGreat
