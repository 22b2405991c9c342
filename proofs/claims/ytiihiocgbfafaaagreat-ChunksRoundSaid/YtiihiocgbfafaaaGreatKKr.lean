/- F9 C0 M6 C1 L4 L6 C2 C4 C3 X1 X2 X3 X4 -/
import Derived.Test.YtiihiocgbfafaaaGreatKKq
import Derived.Deep.WholeRow
import Derived.Laws.EntriesVeiled
set_option linter.unusedSimpArgs false
set_option linter.unusedVariables false
set_option maxHeartbeats 8000000
set_option maxRecDepth 100000
namespace Go.Proofs.YtiihiocgbfafaaaGreat
open Go.RowKit Go.Shelf
attribute [local go_sem] Oper.semAt_some
theorem fseEncode (A:OA) (n c:Nat) (sh:List Nat) (A2:OA) (n2 c2:Nat) (l:List Nat) (w:World) (hl:sh.length=n) (hr:Ns w A sh) (hmay:fmayL sh 6=true) (hl2:l.length=n2) (hr2:Ns w A2 l) (hn2:n2≤65536) (hx:∀ x∈l,x<n∧0<sh.getD x 0):
 Calls Tryz.prog 109 #[.slice A n c,.int .i64 6,.slice A2 n2 c2] w fun e w'=>∃ S m cs,e=.returned (.tuple #[.slice S m cs,.int .i64 0])∧OwnB w' w.heap.size S m cs (encodeL sh l)∧Below w.heap.size w w':=by
 obtain ⟨hf1,hf2,-,hf4,hf5⟩:=fmayL_facts hmay
 rw [hl] at hf1 hf2
 have hba:=(Below.refl w.heap.size w).alloc nL (.cells #[.slice A n c] 43)
 have hr':=Rd.later hr hba
 have hr2':=Rd.later hr2 hba
 have HMay:=Lh (by have h:=fseMay A n c sh 6 _ hl hr' (by omega) (fun x hx=>by have:=hf4 x hx;omega) (by omega) (by omega);rw [hmay] at h;exact h:
  Calls Tryz.prog 143 #[.slice A n c,.int .i64 6] (w.alloc (.cells #[.slice A n c] 43)) fun e w'=>e=.returned (.bool true)∧w'=w.alloc (.cells #[.slice A n c] 43))
 have hk0:=Blk.new w 43 #[.slice A n c]
 have b0:=hk0.cell 0
 simp only [Zt,Zz] at b0
 have HCon:=Lh (fseContains w.heap.size A n c sh A2 n2 c2 l _ b0 hl hr' (by omega) hl2 hr2' (by omega) hx)
 have HMade:=Lh (fseMade A n c sh _ hl hr' hf1 hf2 hf5)
 have HBa:=Lh hba
 have HR:=Lh hr'
 have HR2:=Lh hr2'
 have HL:=Lh hl
 have HL2:=Lh hl2
 obtain ⟨xs,hxs1,hxs2,hxs3⟩:=sym_rows sh l (fun x hxm=>by rw [hl];exact hx x hxm)
 have HXS1:=Lh hxs1
 have HXS2:=Lh hxs2
 have HXS3:=Lh hxs3
 have HLow:=Lh (show 0<l.length→∀ b,bk A2=some b→b<w.heap.size from fun h b hb=>by
  obtain ⟨b',o,x,rfl,-,hc⟩:=hr2.at_ h
  cases hb
  exact block_lt hc)
 have HRw:=Lh hr
 have HRw2:=Lh hr2
 clear hxs1 hxs2 hxs3
 have HS:=Lh hf5
 have hsz0:(w.alloc (.cells #[.slice A n c] 43)).heap.size=w.heap.size+1:=by simp
 clear hl hr hmay hl2 hr2 hx hf4 hf5 hr' hr2' hba
 refine (callsIn_wide (n:=3)).1 ?_
 refine callsIn_of_wp_marks Tryz.func109 rfl trivial ?_ rfl
 simp only [Tryz.ntmps109,List.size_toArray,List.length_cons,List.length_nil,Nat.reduceAdd,Nat.reduceSub,Array.replicate_succ,Array.replicate_zero,List.push_toArray,List.append_toArray,List.nil_append,List.cons_append]
 obtain ⟨w1,hw1⟩:∃ w1,w1=w.alloc (.cells #[.slice A n c] 43):=⟨_,rfl⟩
 rw [←hw1] at HMay HCon HMade HBa HR HR2 b0 hsz0 hk0
 have g1:decide ((65536:Int)<(n2:Int))=false:=qF (by omega)
 gi_wp2_with fail
 rw [←hw1]
 clear hw1
 refine ⟨trivial,(callsIn_wide.2 HMay.out).mono ?_⟩
 rintro e w' ⟨rfl,hw⟩
 obtain rfl:=hw.symm
 gi_wp2_with fail
 refine ⟨trivial,(callsIn_wide.2 HCon.out).mono ?_⟩
 rintro e w' ⟨rfl,hw⟩
 obtain rfl:=hw.symm
 gi_wp2_with fail
 refine ⟨trivial,(callsIn_wide.2 HMade.out).mono ?_⟩
 rintro e w2 ⟨rfl,⟨As,cs,An,cn,htab⟩,hb2⟩
 gi_wp2_with fail
 refine ⟨trivial,(callsIn_wide.2 (newWriter _)).mono ?_⟩
 rintro e w4 ⟨rfl,hw4,hb4⟩
 have HB2:=Lh (HBa.out.trans (hb2.mono (by omega)))
 have HAs:=Lh (fun s (hs:s<64) k (hk:bk (As s)=some k)=>(Own.lt (htab.rows s hs) hk).2)
 have HT2:=Lh htab
 have hsz2:=hb2.size
 have hk0':=hk0.later hb2
 clear htab hb2 HMay HCon HMade
 have hk8:=Blk.new w2 236 #[.pointer (some ⟨w1.heap.size,0,none⟩)]
 have hba2:=(Below.refl w2.heap.size w2).alloc nL (.cells #[.pointer (some ⟨w1.heap.size,0,none⟩)] 236)
 have hsz3:(w2.alloc (.cells #[.pointer (some ⟨w1.heap.size,0,none⟩)] 236)).heap.size=w2.heap.size+1:=by simp
 rw [hsz0] at hk8 hba2 hsz3
 rw [hsz3] at hw4 hb4 ⊢
 have hk8':=hk8.later (by rw [hsz3];exact hb4)
 have hk0'':=(hk0'.later hba2).later (by rw [hsz3];exact hb4)
 have HT4:=Lh ((HT2.out.later hba2).later (by rw [hsz3];exact hb4))
 have hsz4:=hb4.size
 rw [hsz3] at hsz4
 have HB4:=Lh (HB2.out.trans ((hba2.mono (by omega)).trans (hb4.mono (by omega))))
 have HW4:=Lh hw4
 clear hk0' hk8 hba2 hb4 hw4 HT2 HB2 hsz3
 have HK0:=Lh hk0''
 have HK8:=Lh hk8'
 have d8:=hk8'.cell 0
 simp only [Zt,Zz] at d8
 have dT:w4.cell? ⟨w.heap.size+1,1600,none⟩=some (.int .i64 64):=by
  have h:=HT4.out.cells.cell (i:=1600) (by omega)
  rw [hsz0] at h
  rw [h];unfold G3;rfl
 clear hk0'' hk8' hk0
 have hba5:=(Below.refl w4.heap.size w4).alloc nL (.cells #[.pointer (some ⟨w2.heap.size+1,0,none⟩)] 198)
 have d8':=(hba5.cell (p:=⟨w2.heap.size,0,none⟩) (block_lt d8)).trans d8
 have dT':=(hba5.cell (p:=⟨w.heap.size+1,1600,none⟩) (block_lt dT)).trans dT
 clear d8 dT hba5 hw
 gi_wp2_with fail
 refine ⟨trivial,(backward_in Fence.wide 2 trivial rfl _ _ _ _).mono ?_⟩
 rintro e w7 ⟨rfl,hw7⟩
 obtain ⟨p,hp⟩:∃ p,p=w4.heap.size:=⟨_,rfl⟩
 obtain ⟨q,hq⟩:∃ q,q=w2.heap.size:=⟨_,rfl⟩
 rw [←hq,←hp] at hsz4
 rw [←hq] at HW4 HK8 HAs hsz2 hw7 ⊢
 have hqp:=HW4.out.blk.lt
 rw [←hp] at hqp
 have k9:=Blk.new w4 198 #[.pointer (some ⟨q+1,0,none⟩)]
 have hbA:=(Below.refl w4.heap.size w4).alloc nL (.cells #[.pointer (some ⟨q+1,0,none⟩)] 198)
 have hsA:(w4.alloc (.cells #[.pointer (some ⟨q+1,0,none⟩)] 198)).heap.size=p+1:=by rw [hp];simp
 obtain ⟨wA,hwA⟩:∃ wA,wA=w4.alloc (.cells #[.pointer (some ⟨q+1,0,none⟩)] 198):=⟨_,rfl⟩
 rw [←hwA] at k9 hbA hsA hw7 ⊢
 clear hwA
 have k10:=Blk.new wA 3 #[.int .i64 64]
 have hbB:=(Below.refl wA.heap.size wA).alloc nL (.cells #[.int .i64 64] 3)
 have hsB:(wA.alloc (.cells #[.int .i64 64] 3)).heap.size=p+2:=by simp [hsA]
 obtain ⟨wB,hwB⟩:∃ wB,wB=wA.alloc (.cells #[.int .i64 64] 3):=⟨_,rfl⟩
 rw [←hwB] at k10 hbB hsB hw7 ⊢
 clear hwB
 have kBs:=Blk.new wB 43 #[.slice A2 n2 c2]
 have hbC:=(Below.refl wB.heap.size wB).alloc nL (.cells #[.slice A2 n2 c2] 43)
 have hsC:(wB.alloc (.cells #[.slice A2 n2 c2] 43)).heap.size=p+3:=by simp [hsB]
 rw [←hw7] at kBs hbC hsC
 clear hw7
 rw [←hp] at k9 hbA
 rw [hsA] at k10 hbB
 rw [hsB] at kBs hbC ⊢
 have hb47:=(hbA.trans (hbB.mono (by omega))).trans (hbC.mono (by omega))
 have HK9:=Lh ((k9.later (by rw [hsA];exact hbB)).later (by rw [hsB];exact hbC))
 have HK10:=Lh (k10.later (by rw [hsB];exact hbC))
 have HKB:=Lh kBs
 have HB7:=Lh (HB4.out.trans (hb47.mono (by have:=HB4.out.size;omega)))
 rw [hp] at hb47
 have HK0b:=Lh (HK0.out.later hb47)
 have HK8b:=Lh (HK8.out.later hb47)
 have HT7:=Lh (HT4.out.later hb47)
 have HW7:=Lh (HW4.out.later hb47)
 rw [←hp] at hb47
 have hs1:w.heap.size+1≤q:=by omega
 have HRA:=Lh (HRw.out.later HB7.out)
 have HRL:=Lh (HRw2.out.later HB7.out)
 clear hb47 hbA hbB hbC k9 k10 kBs HK0 HK8 HT4 HW4 HB4 HR HR2 HBa d8' dT' b0 g1 hsA hsB
 rw [←hp]
 clear hp hq
 have HPre:=Lh (show Blk w7 (p+2) 43 #[.slice A2 n2 c2] from HKB.out)
 have hkb:=HKB.out.cell 0
 simp only [Zt,Zz] at hkb
 gi_wp2_with fail
 refine wpIn_rangeFunc_ownG rfl (by omega) (gf:=171) (lb:=#[.pointer (some ⟨p+2,0,none⟩)]) rfl trivial (enters_of Tryz.func171 (by kernel_rfl) rfl)
  (backward_stops (fun x:SymAt sh=>x.1.1) (fun x:SymAt sh=>x.1.2) xs Fence.wide 2 trivial rfl (by omega) (p+2) w.heap.size c2 A2 l HXS1.out HXS2.out (by rw [HL2.out];omega) w7 HB7.out.size (by rw [HL2.out];exact hkb) HRL.out HLow.out)
  KB.trans (KB.put HB7.out.size (by omega)) (Below.refl _ _) (fun _=>rfl)
  (fun pre W=>EncI w w7 p q pre.length (encGo sh (pre.map (·.1.2))) W)
  (fun _ _ _=>False) ?hI (fun _ _ _ _ _ hs _ _=>hs) ?h0 ?a1 ?assign ?body ?done ?stop
 case assign=>
  intro lo x W K hK
  gi_wp2
  exact hK
 case hI=>
  intro pre W W' row hs hg hr
  exact hs.kept HB7.out.size hg hr
 case h0=>exact ⟨⟨none,0,HW7.out,.inl rfl⟩,⟨Nat.le_refl _,by show 64<128;omega,⟨by show 0<8;omega,by show 0<2^0;decide⟩,Nat.le_refl _⟩,HK10.out,Two.refl _ _ _,HB7.out⟩
 case body=>
  rintro lo pre x W hi hlen
  obtain ⟨⟨i,s⟩,hs1,hs2⟩:=x
  simp only at hs1 hs2
  rw [HL.out] at hs1
  rw [HL2.out] at hlen
  obtain ⟨X,hX⟩:∃ X,encGo sh (pre.map (·.1.2))=X:=⟨_,rfl⟩
  have hsnoc:encGo sh ((pre++[(⟨(i,s),by rw [HL.out];exact hs1,hs2⟩:SymAt sh)]).map (·.1.2))=encStep sh X s:=by rw [List.map_append,List.map_cons,List.map_nil,encGo_snoc,hX]
  have HSn:=Lh hsnoc
  rw [hX] at hi
  clear hsnoc hX
  have HI:=Lh hi
  obtain ⟨Aw,cw,hw,hnt⟩:=hi.wr
  have k9:=(hi.two.blk HK9.out (by omega) (by simp [bk])).cell 0
  have k0:=(hi.two.blk HK0b.out (by omega) (by simp [bk];omega)).cell 0
  have k8:=(hi.two.blk HK8b.out (by omega) (by simp [bk];omega)).cell 0
  have k10:=hi.box.cell 0
  have f10:=hi.box.frozen 0
  simp only [Zt,Zz] at k9 k0 k8 k10
  have hlo:=hi.ok.lo
  have hhi:=hi.ok.hi
  have hnsW:Ns W A sh:=Rd.later HRw.out hi.below
  obtain ⟨b,o,y,hA,hy,hcy⟩:=hnsW.at_ (k:=s) (by rw [HL.out];exact hs1)
  clear hnsW
  subst hA
  have hbw:b<w.heap.size:=by
   obtain ⟨b',o',y',e,-,hc'⟩:=HRw.out.at_ (k:=s) (by rw [HL.out];exact hs1)
   cases e
   exact block_lt hc'
  have hyd:sh.getD s 0=y:=by simp [List.getD,hy]
  have hs2':=hs2
  rw [hyd] at hs2
  have HStep:=Lh (encStep_facts (s:=s) hi.ok HS.out (by rw [hyd];exact hs2))
  have HY:=Lh hyd
  obtain ⟨N,hN⟩:∃ N,nbL X.1 y=N:=⟨_,rfl⟩
  have HN:=Lh hN
  obtain ⟨st,hst⟩:∃ st,X.1=st:=⟨_,rfl⟩
  rw [hst] at hlo hhi hN k10
  have HSt:=Lh hst
  have HK:=Lh hnt
  have HW:=Lh hw
  have hy64:y≤64:=by rw [←hyd];have:=le_sumL (l:=sh) (x:=sh.getD s 0) (getD_mem' (by rw [HL.out];exact hs1));rw [HS.out] at this;omega
  clear hi hw hnt hy hyd hst
  gi_wp2_with fail
  gi_loopw [13] (fun s13 wr=>∃ m f k:Nat,m+f=7∧s13=.int .i64 (m:Int)∧nbGo f st y m=N∧y≤st/2^m∧wr=W.drewN k) (fun s13 _=>7-(intOf s13).toNat)
  case atStart=>exact ⟨0,7,0,rfl,rfl,hN,by rw [Nat.pow_zero,Nat.div_one];omega,rfl⟩
  case round=>
   obtain ⟨m,f,k,hmf,rfl,hgo,hle,rfl⟩:=hrel
   have i1:(0:Int)≤(s:Int):=by omega
   have i2:(s:Int)<(n:Int):=by omega
   have e2:IntKind.i64.wrap (2*(y:Int))=2*(y:Int):=wrapi64 (by omega) (by omega)
   have hcast:((st/2^m:Nat):Int)=(st:Int)/2^m:=by simp
   have HCast:=Lh hcast
   clear hcast
   by_cases hc:2*y≤st/2^m
   ·have g2:decide (2*(y:Int)≤(st:Int)/2^m)=true:=qT (by rw [←HCast.out];omega)
    obtain ⟨f',rfl⟩:∃ f',f=f'+1:=by
     cases f with
     | zero=>
       exfalso
       obtain rfl:m=7:=by omega
       have:st/2^7=0:=Nat.div_eq_of_lt (by omega)
       omega
     | succ f'=>exact ⟨f',rfl⟩
    have HGo:=Lh (by have h:=hgo;rw [nbGo,if_pos hc] at h;exact h:nbGo f' st y (m+1)=N)
    have HLe:=Lh (by rw [Nat.pow_succ,←Nat.div_div_eq_div_mul];omega:y≤st/2^(m+1))
    clear hc hgo hle
    gi_wp2_with fail
    refine wpR_region_quiet (by rintro ⟨a,w,h⟩;exact h) (by kernel_rfl) (by kernel_rfl) (by kernel_rfl) ?_
    repeat (quiet_step (fail))
    refine wpQuiet_nil ?_
    intro _ hw'
    obtain ⟨nq,hw''⟩:=hw'
    subst hw''
    gi_wp2
    go_roundw
    case rel=>exact ⟨m+1,f',_,by omega,by go_num,HGo.out,HLe.out,rfl⟩
    case measure=>simp only [intOf];omega
   ·have g2:decide (2*(y:Int)≤(st:Int)/2^m)=false:=qF (by rw [←HCast.out];omega)
    have HGo:=Lh (by
     have h:=hgo
     cases f with
     | zero=>exact h
     | succ f=>rw [nbGo,if_neg hc] at h;exact h:m=N)
    clear hc hgo hle
    gi_wp2_with fail
    refine wpR_region_quiet (by rintro ⟨a,w,h⟩;exact h) (by kernel_rfl) (by kernel_rfl) (by kernel_rfl) ?_
    repeat (quiet_step (fail))
    refine wpQuiet_nil ?_
    intro _ hw'
    obtain ⟨nq,hw''⟩:=hw'
    subst hw''
    clear g2 e2
    have hb5:=(below_drewN W k).trans ((below_drewN (W.drewN k) nq).mono (below_drewN W k).size)
    have HI5:=Lh (HI.out.later hb5)
    have HW5:=Lh (HW.out.later hb5)
    have c9:=(hb5.cell (p:=⟨p,0,none⟩) (block_lt k9)).trans k9
    have c0:=(hb5.cell (p:=⟨w.heap.size,0,none⟩) (block_lt k0)).trans k0
    have c8:=(hb5.cell (p:=⟨q,0,none⟩) (block_lt k8)).trans k8
    have c10:=(hb5.cell (p:=⟨p+1,0,none⟩) (block_lt k10)).trans k10
    have cy:=(hb5.cell (p:=⟨b,o+s,none⟩) (block_lt hcy)).trans hcy
    have HR5:=Lh hb5
    gi_wp2_with fail
    obtain ⟨w5,hw5⟩:∃ w5,w5=(W.drewN k).drewN nq:=⟨_,rfl⟩
    rw [←hw5] at HI5 HW5 c9 c0 c8 c10 cy HR5 ⊢
    clear hw5 k9 k0 k8 k10 f10 hcy hb5
    have d9:w5.drew.cell? ⟨p,0,none⟩=_:=c9
    have d10:w5.drew.cell? ⟨p+1,0,none⟩=_:=c10
    refine wpR_region_tail 7 (by rintro ⟨a,w,h⟩;exact h) (by kernel_rfl) (by kernel_rfl) (by kernel_rfl) ?_
    simp only [List.take_succ_cons,List.take_zero,List.drop_succ_cons,List.drop_zero]
    repeat still_step
    refine wpStill_nil ?_
    go_wp2_with fail
    obtain rfl:m=N:=HGo.out
    have hstep:=HStep.out
    rw [HY.out,HN.out,HSt.out] at hstep
    have hm6:m≤6:=hstep.2.1
    have HMod:=Lh (Nat.mod_lt st (Nat.two_pow_pos m))
    have hbs:X.2.1.length≤1000000000000:=by
     have:=HI5.out.ok.len
     unfold wLen at this
     omega
    have hput:=wrPut (q+1) (q+1) X.2.1 X.2.2.1 X.2.2.2 Aw cw m (st%2^m) w5.drew HW5.out.drew HI5.out.ok.ok.1 HI5.out.ok.ok.2 (by omega) HMod.out hbs
    rw [and_mask hm6 hhi]
    refine hput.mono ?_
    clear hput hbs
    rintro e w6 ⟨rfl,hb6,ht6,A6,c6,hw6,hnt6⟩
    have hw6':IsWr w6 (q+1) (q+1) (putS X.2 m (st%2^m)).1 (putS X.2 m (st%2^m)).2.1 (putS X.2 m (st%2^m)).2.2 A6 c6:=hw6
    have HW6:=Lh hw6'
    have HNT6:=Lh (HK.out.trans' (Nat.le_trans HI5.out.two.size nL) hnt6)
    have ht6:Two (q+1) Aw w5 w6:=⟨ht6.os,ht6.tape,ht6.output,ht6.size,ht6.block⟩
    have ht7:=HI5.out.two.newTo HK.out ht6
    have HT67:=Lh ht7
    have HB6:=Lh (show Below w.heap.size w w6 from (show Below w.heap.size w w5.drew from HI5.out.below.drew).trans (hb6.mono (by omega)))
    have hbox6:=ht6.blk HI5.out.box (by omega) (HK.out.ne (by omega))
    have HT56:=Lh ht6
    have HBox6:=Lh hbox6
    have HB56:=Lh (show Below w.heap.size w5 w6 from (show Below w.heap.size w5 w5.drew from (Below.refl _ _).drew).trans (hb6.mono (by omega)))
    have b9:=(ht7.blk HK9.out (by omega) (by simp [bk])).cell 0
    have b0:=(ht7.blk HK0b.out (by omega) (by simp [bk];omega)).cell 0
    have b8:=(ht7.blk HK8b.out (by omega) (by simp [bk];omega)).cell 0
    have b10:=hbox6.cell 0
    have fb10:=hbox6.frozen 0
    rw [HSt.out] at b10
    simp only [Zt,Zz] at b9 b0 b8 b10
    have cy6:=(hb6.cell (p:=⟨b,o+s,none⟩) (show b<q+1 by omega)).trans cy
    obtain ⟨x,hxx⟩:∃ x,st/2^m-y=x:=⟨_,rfl⟩
    have hxlt:=hstep.2.2.2.1
    have hyle:=hstep.2.2.1
    rw [hxx] at hxlt
    have hs64:s<64:=by omega
    have hrow:=HT7.out.rows s hs64
    have hnoq:∀ k,bk (As s)=some k→k<q:=HAs.out s hs64
    have hrow6:OwnN w6 w1.heap.size (As s) (toL sh 64 s).length (cs s) (toL sh 64 s):=ht7.own hrow (fun e=>by have:=hnoq _ e;omega) (by
     cases hA:bk (As s) with
     | none=>exact .inl rfl
     | some k=>exact .inr (fun e=>by have:=hnoq _ hA;simp only [bk,Option.map_some,Option.some.injEq] at e;omega))
    have ct0:=(ht7.cells HT7.out.cells (by omega) (by simp [bk];omega)).cell (i:=1600) (by omega)
    have ct1:=(ht7.cells HT7.out.cells (by omega) (by simp [bk];omega)).cell (i:=1536+s) (by omega)
    have e1600:G3 sh 64 As cs 1600=.int .i64 64:=by unfold G3;rfl
    have e1536:G3 sh 64 As cs (1536+s)=.slice (As s) (toL sh 64 s).length (cs s):=by unfold G3;rw [if_neg (by omega),if_pos (by omega),Nat.add_sub_cancel_left]
    rw [e1600,hsz0] at ct0
    rw [e1536,hsz0] at ct1
    obtain ⟨ga,xa,hga,-,-,hxa,hcga,-⟩:=Own.at_ hrow6 hxlt
    rw [hga] at ct1
    obtain ⟨z,hz⟩:∃ z,(toL sh 64 s).getD x 0=z:=⟨_,rfl⟩
    have hxv:xa=.int .i64 (z:Int):=by
     rw [List.getElem?_map,Zg hxlt] at hxa
     rw [←Option.some.inj hxa,←hz]
     simp [List.getD,Zg hxlt,natv]
    subst hxv
    have hz64:z<64:=by rw [←hz];exact toL_lt sh s 64 _ (getD_mem' hxlt)
    have HEnc:=Lh (show encStep sh X s=(64+z,putS X.2 m (st%2^m)) by
     unfold encStep
     rw [HY.out,HN.out,HSt.out,hxx,hz])
    have HOk6:=Lh hstep.1
    have e76:IntKind.i64.wrap ((st:Int)/2^m-y)=(x:Int):=by
     rw [←HCast.out]
     have:st/2^m≤st:=Nat.div_le_self _ _
     rw [wrapi64 (by omega) (by omega)];omega
    have i76:(0:Int)≤(x:Int):=by omega
    have i77:(x:Int)<((toL sh 64 s).length:Int):=by omega
    have e79:IntKind.i64.wrap (64+(z:Int))=((64+z:Nat):Int):=by rw [wrapi64 (by omega) (by omega)];rfl
    clear hrow hnoq hrow6 e1600 e1536 hga hxa hz hxx hstep ht7 ht6 hb6 cy hxlt hyle hbox6 HCast
    gi_wp2_with fail
    refine wpList_nil ?_
    gi_wp2_with fail
    have d8:w6.drew.cell? ⟨q,0,none⟩=_:=b8
    have dt0:w6.drew.cell? ⟨w.heap.size+1,1600,none⟩=_:=ct0
    have dt1:w6.drew.cell? ⟨w.heap.size+1,1536+s,none⟩=_:=ct1
    have d10:w6.drew.cell? ⟨p+1,0,none⟩=_:=b10
    have d0:w6.drew.cell? ⟨w.heap.size,0,none⟩=_:=b0
    have dy:w6.drew.cell? ⟨b,o+s,none⟩=_:=cy6
    have da:w6.drew.cell? ⟨ga,x,none⟩=_:=hcga
    have f10:w6.drew.frozen? ⟨p+1,0,none⟩=false:=fb10
    have j1:(s:Int)<64:=by omega
    refine wpR_region_tail 21 (by rintro ⟨a,w,h⟩;exact h) (by kernel_rfl) (by kernel_rfl) (by kernel_rfl) ?_
    simp only [List.take_succ_cons,List.take_zero,List.drop_succ_cons,List.drop_zero]
    repeat still_step
    refine wpStill_nil ?_
    clear d8 dt0 dt1 d0 dy da b8 ct0 ct1 b0 cy6 hcga
    go_wp2_with fail
    have hW:EncI w w7 p q (pre++[(⟨(i,s),by rw [HL.out];exact hs1,hs2'⟩:SymAt sh)]).length (encGo sh ((pre++[(⟨(i,s),by rw [HL.out];exact hs1,hs2'⟩:SymAt sh)]).map (·.1.2))) (w6.drew.setCell ⟨p+1,0,none⟩ (.int .i64 ((64+z:Nat):Int))):=by
     have hok:=HOk6.out
     rw [HEnc.out] at hok
     rw [HSn.out,HEnc.out,Zl,List.length_singleton]
     have hgs:=grown_set w6.drew ⟨p+1,0,none⟩ (.int .i64 ((64+z:Nat):Int))
     refine ⟨⟨A6,c6,⟨HW6.out.drew.blk.kept hgs (by simp;omega),Own.kept HW6.out.drew.own hgs (.inr (HNT6.out.ne (k:=p+1) (by omega))),Nat.le_refl _,Nat.le_trans HW6.out.drew.size hgs.size⟩,HNT6.out⟩,hok,HBox6.out.set 0 _,?_,?_⟩
     ·exact Two.set_a (show Two (q+1) (some ⟨p+1,0,none⟩) w7 w6.drew from ⟨HT67.out.os,HT67.out.tape,HT67.out.output,HT67.out.size,HT67.out.block⟩) _
     ·exact (show Below w.heap.size w w6.drew from HB6.out.drew).setCell (p:=⟨p+1,0,none⟩) (show w.heap.size≤p+1 by omega) _
    have hKB:KB w.heap.size (p+2) W (w6.drew.setCell ⟨p+1,0,none⟩ (.int .i64 ((64+z:Nat):Int))):=by
     refine ⟨((HR5.out.mono HI.out.below.size).trans (show Below w.heap.size w5 w6.drew from HB56.out.drew)).setCell (p:=⟨p+1,0,none⟩) (show w.heap.size≤p+1 by omega) _,fun hlt=>?_⟩
     rw [Below.heap_setCell _ _ _ _ (show p+2≠p+1 by omega)]
     exact (HT56.out.block (p+2) (lT hlt HR5.out.size) (by omega) (HK.out.ne (by omega))).trans (HR5.out.block _ hlt)
    have hKF:KeepsFrom w7.heap.size W (w6.drew.setCell ⟨p+1,0,none⟩ (.int .i64 ((64+z:Nat):Int))):=by
     refine ⟨hKB.below.size,fun k o hk ho hoc=>?_⟩
     have hlt:=(Array.getElem?_eq_some_iff.1 ho).1
     have h5:=(HR5.out.block k hlt).trans ho
     rw [Below.heap_setCell _ _ _ _ (show k≠p+1 by omega)]
     refine (HT56.out.block k (lT hlt HR5.out.size) (by omega) (fun e=>?_)).trans h5
     obtain ⟨o',ho',hc'⟩:=Own.isCells HW5.out.own e
     rw [h5] at ho'
     cases ho'
     rw [hoc] at hc'
     cases hc'
    exact ⟨hKF,hKB,hW⟩
 case done=>
  rintro D ys W hD hys hi hK
  subst hys
  obtain ⟨X,hX⟩:∃ X,encGo sh (ys.map (·.1.2))=X:=⟨_,rfl⟩
  have hX2:encGo sh l.reverse=X:=by rw [←HXS3.out];exact hX
  have HX2:=Lh hX2
  rw [hX] at hi
  clear hX hX2
  have HI:=Lh hi
  obtain ⟨Aw,cw,hw,hnt⟩:=hi.wr
  have k9:=(hi.two.blk HK9.out (by omega) (by simp [bk])).cell 0
  have k8:=(hi.two.blk HK8b.out (by omega) (by simp [bk];omega)).cell 0
  have k10:=hi.box.cell 0
  have kt:=(hi.two.cells HT7.out.cells (by omega) (by simp [bk];omega)).cell (i:=1600) (by omega)
  have e1600:G3 sh 64 As cs 1600=.int .i64 64:=by unfold G3;rfl
  rw [e1600,hsz0] at kt
  simp only [Zt,Zz] at k9 k8 k10
  have hlo:=hi.ok.lo
  have hhi:=hi.ok.hi
  have hlen8:=hi.ok.len
  obtain ⟨st,hst⟩:∃ st,X.1=st:=⟨_,rfl⟩
  rw [hst] at hlo hhi k10
  have HSt:=Lh hst
  have HW:=Lh hw
  have HNT:=Lh hnt
  have HKD:=Lh hK
  have hyl:ys.length=n2:=by rw [HXS1.out,HL2.out]
  have hbs:X.2.1.length≤1000000:=by unfold wLen at hlen8;omega
  have d9:W.drew.cell? ⟨p,0,none⟩=_:=k9
  have d8:W.drew.cell? ⟨q,0,none⟩=_:=k8
  have d10:W.drew.cell? ⟨p+1,0,none⟩=_:=k10
  have dt:W.drew.cell? ⟨w.heap.size+1,1600,none⟩=_:=kt
  have e87:IntKind.i64.wrap ((st:Int)-64)=((st-64:Nat):Int):=by rw [wrapi64 (by omega) (by omega)];omega
  have hput:=wrPut (q+1) (q+1) X.2.1 X.2.2.1 X.2.2.2 Aw cw 6 (st-64) W.drew hw.drew hi.ok.ok.1 hi.ok.ok.2 (by omega) (by omega) (by omega)
  have HPut:=Lh hput
  clear hi hw hnt hK hst k9 k8 k10 kt e1600 hlen8 hput
  gi_wp2_with fail
  refine wpIn_wide.2 ?_
  refine wp_region_still_tail 8 (by kernel_rfl) (by kernel_rfl) ?_
  simp only [List.take_succ_cons,List.take_zero,List.drop_succ_cons,List.drop_zero]
  repeat still_step
  refine wpStill_nil ?_
  clear d8 d10 dt
  change wpList _ _ _ _ _ W.drew
  go_wp2_with fail
  refine HPut.out.mono ?_
  rintro e w6 ⟨rfl,hb6,ht6,A6,c6,hw6,-⟩
  have ht6:Two (q+1) Aw W w6:=⟨ht6.os,ht6.tape,ht6.output,ht6.size,ht6.block⟩
  have hw6':IsWr w6 (q+1) (q+1) (putS X.2 6 (st-64)).1 (putS X.2 6 (st-64)).2.1 (putS X.2 6 (st-64)).2.2 A6 c6:=hw6
  have hok6:=putS_facts (S:=X.2) (k:=6) (v:=st-64) HI.out.ok.ok (by omega) (by omega)
  have hD6:w6.heap[D]? = some (.deferred (some [])):=by
   have hlt:=(Array.getElem?_eq_some_iff.1 HKD.out).1
   refine (ht6.block D hlt (by omega) (fun e=>?_)).trans HKD.out
   obtain ⟨o',ho',hc'⟩:=Own.isCells HW.out.own e
   rw [HKD.out] at ho'
   cases ho'
   cases hc'
  have hB6:Below w.heap.size w w6:=(show Below w.heap.size w W.drew from HI.out.below.drew).trans (hb6.mono (by omega))
  have b9:w6.cell? ⟨p,0,none⟩=some (.pointer (some ⟨q+1,0,none⟩)):=by
   have h:=((HI.out.two.newTo HNT.out ht6).blk HK9.out (by omega) (by simp [bk])).cell 0
   simpa only [Zt,Zz] using h
  have hbs6:(putS X.2 6 (st-64)).1.length≤100000000000:=by
   have h1:=hok6.2
   unfold wLen at h1
   have h2:=HI.out.ok.ok.1
   omega
  have hmk:=wrMarked (q+1) (q+1) (putS X.2 6 (st-64)).1 (putS X.2 6 (st-64)).2.1 (putS X.2 6 (st-64)).2.2 A6 c6 w6 hw6' hok6.1.1 hok6.1.2 hbs6
  have HMk:=Lh hmk
  have HD6:=Lh hD6
  have HB6:=Lh hB6
  clear hw6 hw6' hok6 hD6 hB6 hbs6 hmk hb6 ht6 HPut d9
  gi_wp2_with fail
  refine wpList_nil ?_
  gi_wp2_with fail
  refine ⟨trivial,(callsIn_wide.2 HMk.out).mono ?_⟩
  rintro e w9 ⟨S,ms,cs9,rfl,hown9,hb9⟩
  have hD9:=(hb9.block D (Array.getElem?_eq_some_iff.1 HD6.out).1).trans HD6.out
  have HO9:=Lh hown9
  have HB9:=Lh hb9
  have HD9:=Lh hD9
  clear hown9 hb9 hD9 HMk
  gi_wp2_with fail
  refine ⟨by simp,.inl ⟨_,_,rfl,run_takeDeferred HD9.out,?_⟩⟩
  have hDlt:=(Array.getElem?_eq_some_iff.1 HD6.out).1
  have hgp:=grownBy_putObj' w9 D (.deferred none)
  have hown:OwnB (w9.putObj D (.deferred none)) w.heap.size S ms cs9 (encodeL sh l):=by
   have h:=Own.kept HO9.out hgp (by
    cases hS:bk S with
    | none=>exact .inl rfl
    | some k=>exact .inr (fun e=>by injection e with e;have:=(Own.lt HO9.out hS).1;omega))
   have h2:=Own.mono h HB6.out.size
   unfold encodeL
   rw [HX2.out,HSt.out]
   exact h2
  have hbel:Below w.heap.size w (w9.putObj D (.deferred none)):=(HB6.out.trans (HB9.out.mono HB6.out.size)).grown hgp (Nat.le_trans HB6.out.size HB9.out.size) (fun k e=>by cases e;have:=HB7.out.size;omega)
  exact ⟨_,results_tmp2 rfl _ _ _,S,ms,cs9,rfl,hown,hbel⟩
 case stop=>
  rintro D cc pre W hD hS hF hK
  exact hF.elim
theorem incT_ge:∀ (ps:List Nat) (out:List Nat) (p:Nat),out.getD p 0≤(incT out ps).getD p 0
 | [],_,_=>Nat.le_refl _
 | q::r,out,p=>by
   have h:=incT_ge r (out.set q (out.getD q 0+1)) p
   rw [incT]
   rw [getD_set] at h
   split at h
   ·rename_i e
    rw [e.1]
    rw [e.1] at h
    omega
   ·exact h
theorem incT_pos:∀ (ps:List Nat) (out:List Nat) (p:Nat),p∈ps→p<out.length→0<(incT out ps).getD p 0
 | q::r,out,p,h,hl=>by
   rw [incT]
   rcases List.mem_cons.1 h with e|h
   ·subst e
    have h1:=incT_ge r (out.set p (out.getD p 0+1)) p
    rw [getD_set,if_pos ⟨rfl,hl⟩] at h1
    omega
   ·exact incT_pos r _ p h (by rw [List.length_set];exact hl)
theorem getD_mem {l:List Nat} {x:Nat} (h:x∈l):∃ p,p<l.length∧l.getD p 0=x:=by
 obtain ⟨p,hp,e⟩:=List.getElem_of_mem h
 exact ⟨p,hp,by rw [List.getD,Zg hp,Option.getD_some,e]⟩
theorem zeros_getD (n p:Nat):(List.replicate n 0).getD p 0=0:=by
 rw [List.getD,List.getElem?_replicate]
 split<;>rfl
theorem incT_small {n:Nat} {ps:List Nat} {x:Nat} (h:x∈incT (List.replicate n 0) ps):x≤ps.length:=by
 obtain ⟨p,-,rfl⟩:=getD_mem h
 have:=incT_le ps (List.replicate n 0) p
 rw [zeros_getD] at this
 omega
def cntB (l:List UInt8):List Nat:=incT (List.replicate 256 0) (l.map UInt8.toNat)
theorem cntB_len (l:List UInt8):(cntB l).length=256:=by unfold cntB;rw [incT_len,List.length_replicate]
theorem cntB_pos {l:List UInt8} {b:UInt8} (h:b∈l):0<(cntB l).getD b.toNat 0:=
 incT_pos _ _ _ (List.mem_map_of_mem h) (by rw [List.length_replicate];exact b.toNat_lt)
theorem cntB_le {l:List UInt8} {x:Nat} (h:x∈cntB l):x≤l.length:=by
 have:=incT_small h
 rw [List.length_map] at this
 exact this
theorem nz_leC:∀ l:List Nat,nz l≤l.length
 | []=>Nat.le_refl _
 | k::r=>by
   have:=nz_leC r
   rw [nz,List.length_cons]
   split<;>omega
theorem nz_posC:∀ {l:List Nat} {p:Nat},0<l.getD p 0→0<nz l
 | [],p,h=>by simp at h
 | k::r,0,h=>by
   have h:0<k:=h
   rw [nz,if_pos h];omega
 | k::r,p+1,h=>by
   have h:0<r.getD p 0:=h
   have:=nz_posC h
   rw [nz];omega
theorem encGo_ok {sh:List Nat} (hsum:sumL sh=64):∀ (l:List Nat) (k:Nat) (X:Nat × WSt),EncOk k X→(∀ s∈l,0<sh.getD s 0)→EncOk (k+l.length) (l.foldl (encStep sh) X)
 | [],_,_,h,_=>h
 | s::r,k,X,h,hp=>by
   have h1:=(encStep_facts (s:=s) h hsum (hp s (List.mem_cons_self))).1
   have h2:=encGo_ok hsum r (k+1) _ h1 (fun q hq=>hp q (List.mem_cons_of_mem _ hq))
   rw [List.length_cons,show k+(r.length+1)=k+1+r.length by omega]
   exact h2
theorem encodeL_len {sh l:List Nat} (hsum:sumL sh=64) (hp:∀ s∈l,0<sh.getD s 0):(encodeL sh l).length≤6*l.length+16:=by
 have h0:EncOk 0 (64,(([],0,0):WSt)):=⟨by show 64≤64;omega,by show 64<128;omega,⟨by show 0<8;omega,by show 0<2^0;decide⟩,by show 8*0+0≤_;omega⟩
 have h1:=encGo_ok hsum l.reverse 0 _ h0 (fun s hs=>hp s (List.mem_reverse.1 hs))
 rw [List.length_reverse,Nat.zero_add] at h1
 obtain ⟨X,hX⟩:∃ X,X=encGo sh l.reverse:=⟨_,rfl⟩
 have h1:EncOk l.length X:=by rw [hX];exact h1
 obtain ⟨h2,h3⟩:=putS_facts (k:=6) (v:=X.1-64) h1.ok (by omega) (by have:=h1.hi;show _<64;omega)
 have h4:=(putS_facts (k:=1) (v:=1) h2 (by omega) (by show 1<2;omega)).2
 have h5:=bytesS_len (putS (putS X.2 6 (X.1-64)) 1 1)
 have h6:encodeL sh l=bytesS (putS (putS X.2 6 (X.1-64)) 1 1):=by rw [hX];rfl
 have h7:=h1.len
 rw [h6]
 omega
theorem w0_ok:wOk w0:=⟨by show 0<8;omega,by show 0<2^0;decide⟩
theorem putsLen_cons (p:Nat × Nat) (l:List (Nat × Nat)):putsLen (p::l)=p.1+putsLen l:=rfl
theorem putsLen_append (a b:List (Nat × Nat)):putsLen (a++b)=putsLen a+putsLen b:=by
 unfold putsLen;rw [List.map_append,sumL_append]
theorem puts_le {l:List (Nat × Nat)} (h:putsOk l):(bytesS (putsS w0 l)).length≤putsLen l/8+1:=by
 have h1:=bytesS_len (putsS w0 l)
 have h2:=(putsS_facts l w0 w0_ok h).2
 have h3:wLen w0=0:=rfl
 rw [h3] at h2
 omega
theorem body_len {lens:List Nat} (h:∀ x∈lens,x≤11) (l:List UInt8):(bodyB lens l).length≤2*l.length+1:=by
 have h1:=puts_le (encP_ok lens l)
 have h2:=encP_len lens h l
 show (bytesS (putsS w0 (encP lens l))).length≤_
 omega
theorem tabP_ok {l:List Nat} (h:∀ x∈l,x≤11):∀ f i,putsOk (tabP l f i)
 | 0,_=>fun p hp=>by cases hp
 | f+1,i=>by
   rw [tabP]
   split
   ·split
    ·intro p hp
     rcases List.mem_cons.1 hp with e|hp
     ·subst e;exact ⟨by show 4≤32;omega,by show 0<2^4;decide⟩
     ·rcases List.mem_cons.1 hp with e|hp
      ·subst e;exact ⟨by show 4≤32;omega,by have:=zr_le l 15 i;show zr l 15 i<2^4;omega⟩
      ·exact tabP_ok h f _ p hp
    ·intro p hp
     rcases List.mem_cons.1 hp with e|hp
     ·subst e;exact ⟨by show 4≤32;omega,by have:=getD_leA h i;show l.getD i 0<2^4;omega⟩
     ·exact tabP_ok h f _ p hp
   ·intro p hp;cases hp
theorem tabP_len (l:List Nat):∀ f i,putsLen (tabP l f i)≤8*f
 | 0,_=>Nat.le_refl _
 | f+1,i=>by
   rw [tabP]
   split
   ·split
    ·have:=tabP_len l f (i+zr l 15 i+1)
     rw [putsLen_cons,putsLen_cons]
     show 4+(4+_)≤_;omega
    ·have:=tabP_len l f (i+1)
     rw [putsLen_cons]
     show 4+_≤_;omega
   ·exact Nat.zero_le _
def tabAll (l:List Nat):List (Nat × Nat):=(8,l.length-1)::tabP l l.length 0
theorem tabAll_ok {l:List Nat} (hm:mayL l=true):putsOk (tabAll l):=by
 obtain ⟨h1,h2,h3⟩:=mayL_facts hm
 intro p hp
 rcases List.mem_cons.1 hp with e|hp
 ·subst e;exact ⟨by show 8≤32;omega,by show l.length-1<2^8;omega⟩
 ·exact tabP_ok h3 _ _ p hp
theorem table_len {l:List Nat} (hm:mayL l=true):(tableB l).length≤300:=by
 have h1:=puts_le (tabAll_ok hm)
 have h2:=tabP_len l l.length 0
 have h3:=(mayL_facts hm).2.1
 have h4:putsLen (tabAll l)=8+putsLen (tabP l l.length 0):=rfl
 show (bytesS (putsS w0 (tabAll l))).length≤_
 omega
def litsL:List UInt8→List Sq→List UInt8
 | rest,[]=>rest
 | rest,x::r=>rest.take x.lits++litsL (rest.drop (x.lits+x.len)) r
def fitsN:Nat→List Sq→Prop
 | _,[]=>True
 | n,x::r=>x.lits+x.len≤n∧fitsN (n-(x.lits+x.len)) r
theorem FitL.fits {l:List UInt8}:∀ {L:List Sq} {p n:Nat},FitL l p L→p+n=l.length→fitsN n L
 | [],_,_,_,_=>trivial
 | x::r,p,n,h,e=>⟨by have:=h.2.2.1;omega,FitL.fits (p:=p+x.lits+x.len) h.2.2.2.2.2.2 (by have:=h.2.2.1;omega)⟩
theorem drop_step {α:Type} {l:List α} {k:Nat} {x:α} (h:l[k]? = some x):l.drop k=x::l.drop (k+1):=by
 have hk:k<l.length:=by
  rcases Nat.lt_or_ge k l.length with h'|h'
  ·exact h'
  ·rw [List.getElem?_eq_none h'] at h;cases h
 rw [List.drop_eq_getElem_cons hk]
 rw [Zg hk] at h
 injection h with h
 rw [h]
theorem litsL_len:∀ (L:List Sq) (rest:List UInt8),(litsL rest L).length≤rest.length
 | [],_=>Nat.le_refl _
 | x::r,rest=>by
   have:=litsL_len r (rest.drop (x.lits+x.len))
   rw [List.length_drop] at this
   rw [litsL,Zl,List.length_take]
   omega
theorem matchLits (A:OA) (n c:Nat) (data:List UInt8) (A2:OA) (n2 c2:Nat) (l:List Sq) (w:World) (hl:data.length=n) (hr:Bs w A data) (hn:n≤65536) (hc:n≤c) (hc2:c≤9223372036854775807)
 (hl2:l.length=n2) (hr2:Ss w A2 l) (hn2:n2≤1000000000) (hfit:fitsN n l):
 Calls Tryz.prog 75 #[.slice A n c,.slice A2 n2 c2] w fun e w'=>∃ S m cs,e=.returned (.tuple #[.slice S m cs,.int .i64 0])∧OwnB w' w.heap.size S m cs (litsL data l)∧Below w.heap.size w w':=by
 have HR2:=Lh hr2
 have HL2:=Lh hl2
 have HR0:=Lh hr
 have HL0:=Lh hl
 clear hr2 hl2 hr hl
 go_enter Tryz.func75,Tryz.ntmps75
 go_wp2
 go_loopg [6,7,13] n2 (fun gg s6 s7 s13 wr=>∃ (k no co nr cr:Nat) (Ao Ar:OA) (out rest:List UInt8),k≤n2∧n2-k≤gg∧s6=.slice Ao no co∧s7=.slice Ar nr cr∧s13=.int .i64 (k:Int)∧OwnB wr w.heap.size Ao no co out∧no+nr≤n ∧
  Bs w Ar rest∧rest.length=nr∧nr≤cr∧cr≤9223372036854775807∧fitsN nr (l.drop k)∧litsL data l=out++litsL rest (l.drop k)∧Below w.heap.size w wr)
 case atStart=>exact ⟨0,0,0,n,c,none,A,[],data,by omega,by omega,rfl,rfl,rfl,OwnB.nil _ _,by omega,HR0.out,HL0.out,hc,hc2,hfit,rfl,Below.refl _ _⟩
 case round=>
  clear hfit
  obtain ⟨k,no,co,nr,cr,Ao,Ar,out,rest,hk,hgg,rfl,rfl,rfl,hown,hno,hrr,hrl,hcr,hcr2,hfit,hrun,hbel⟩:=hrel
  have HO:=Lh hown
  have HR:=Lh hrr
  have HL:=Lh hrl
  have HRun:=Lh hrun
  have HBel:=Lh hbel
  have HOl:=Lh (OwnB.length hown)
  have HFit:=Lh hfit
  clear hown hrr hrl hrun hbel hfit
  by_cases hkn:k<n2
  ·obtain ⟨b,o,x,hA,hx,c0,c1,c2⟩:=(HR2.out.later HBel.out).at_ (by rw [HL2.out];exact hkn:k<l.length)
   subst hA
   have hds:=drop_step hx
   have hfx:=HFit.out
   rw [hds] at hfx
   have hrx:=HRun.out
   rw [hds,litsL,←Za] at hrx
   obtain ⟨x1,x2,x3⟩:=x
   simp only at c0 c1 c2 hfx hrx
   have hx12:x1+x2≤nr:=hfx.1
   have HFx:=Lh hfx.2
   have HRx:=Lh hrx
   clear hx hds hfx hrx HFit HRun
   have hP5:=Lh (Blk.new wr 183 #[.int .i64 (x1:Int),.int .i64 (x2:Int),.int .i64 (x3:Int)])
   have HBA:=Lh (HBel.out.alloc HBel.out.size (.cells #[.int .i64 (x1:Int),.int .i64 (x2:Int),.int .i64 (x3:Int)] 183))
   have HOA:=Lh (Own.alloc HO.out (.cells #[.int .i64 (x1:Int),.int .i64 (x2:Int),.int .i64 (x3:Int)] 183))
   have HT:=Lh (Bs.take x1 HR.out)
   have HTl:(rest.take x1).length=x1:=by rw [List.length_take,HL.out];omega
   have HTL:=Lh HTl
   have HC:=Lh (Bs.cut (c:=cr) HR.out (n:=x1+x2) (by rw [HL.out];exact hx12) (by rw [HL.out];exact hcr))
   have HCl:=Lh (by rw [List.length_drop,HL.out]:(rest.drop (x1+x2)).length=nr-(x1+x2))
   have i1:(x1:Int)≤(nr:Int):=by omega
   have i2:(x2:Int)≤(nr:Int)-x1:=by omega
   clear HTl
   obtain ⟨tk,htk⟩:∃ tk,tk=rest.take x1:=⟨_,rfl⟩
   rw [←htk] at HT HTL HRx
   clear htk
   go_wp2_with (first|(at_builtin;refine wpList_append_rd rfl _ _ elemB rfl w.heap.size Ao no co (out.map u8v) rfl HOA.out Ar x1 cr (tk.map u8v) rfl ?a1 ?a2 (u8_one _) ?a3 ?a4 ?a5 ?_)|(with_reducible refine wpList_slice_hi ?g ?s ?h elemB ?ho Ar nr cr x1 ?hs ?hh ?hk ?_;(case ho=>exact rfl);(case g=>exact rfl);(case hs=>exact rfl);(case hh=>exact rfl);(case hk=>omega)))
   case a1=>exact HT.out.later HBA.out
   case a2=>exact HTL.out
   case a3=>omega
   case a4=>omega
   case a5=>have:=HBel.out.size;omega
   intro A' c' w2 hown2 hb2 hgr2 hat2
   have HO2:=Lh (by unfold OwnB;rw [List.map_append];exact hown2:OwnB w2 w.heap.size A' (no+x1) c' (out++tk))
   have HP2:=Lh (hP5.out.kept hgr2 (Own.ne_blk HOA.out hP5.out (by decide)))
   have HB2:=Lh (HBA.out.trans hb2)
   clear hown2 hb2 hgr2 hat2 HOA hP5 HBA c0 c1 c2
   obtain ⟨pb,hpb⟩:∃ pb,pb=wr.heap.size:=⟨_,rfl⟩
   rw [←hpb] at HP2 ⊢
   clear hpb
   have p0:=HP2.out.cell 0
   have p1:=HP2.out.cell 1
   simp only [Zt,Zz,Zs] at p0 p1
   have e1:IntKind.i64.wrap ((x1:Int)+x2)=((x1+x2:Nat):Int):=by rw [wrapi64 (by omega) (by omega)];rfl
   go_wp2_with (with_reducible refine wpList_slice_lo ?g ?s ?h elemB ?ho Ar nr cr (x1+x2) ?hs ?hh ?hk ?_;(case ho=>exact rfl);(case g=>exact rfl);(case hs=>simp [Act.eval]);(case hh=>simp [Act.eval]);(case hk=>omega))
   go_roundg (n2-(k+1))
   case measure=>omega
   case rel=>exact ⟨k+1,no+x1,c',nr-(x1+x2),cr-(x1+x2),A',cutA Ar cr (x1+x2),out++tk,rest.drop (x1+x2),by omega,by omega,rfl,rfl,by go_num,HO2.out,by omega,HC.out,HCl.out,by omega,by omega,HFx.out,HRx.out,HB2.out⟩
  ·have hkk:k=n2:=by omega
   subst hkk
   have HD:=Lh (by rw [HRun.out,List.drop_of_length_le (by rw [HL2.out];exact Nat.le_refl _),litsL]:litsL data l=out++rest)
   go_wp2_with (at_builtin;go_loud (refine wpList_append_rd rfl _ _ elemB rfl w.heap.size Ao no co (out.map u8v) ?hs HO.out Ar nr cr (rest.map u8v) ?hh ?a1 ?a2 (u8_one _) ?a3 ?a4 ?a5 ?_;(case hs=>simp [Act.eval]);(case hh=>simp [Act.eval])))
   case a1=>exact HR.out.later HBel.out
   case a2=>rw [List.length_map];exact HL.out
   case a3=>omega
   case a4=>omega
   case a5=>exact HBel.out.size
   intro A' c' w2 hown2 hb2 hgr2 hat2
   have HO2:=Lh (by unfold OwnB;rw [HD.out,List.map_append];exact hown2:OwnB w2 w.heap.size A' (no+nr) c' (litsL data l))
   have HB2:=Lh (HBel.out.trans hb2)
   clear hown2 hb2 hgr2 hat2
   go_wp2
   go_ret2
   exact ⟨A',no+nr,c',rfl,HO2.out,HB2.out⟩
def LitsB (l B:List UInt8):Prop:=
 B=numB 5 l.length++0::l∨∃ lens,LensOk (cntB l) lens∧B=numB 5 l.length++(1::tableB lens++numB 5 (bodyB lens l).length++bodyB lens l)
def numQ (k:Nat) (x:Sq):Nat:=if k=0 then x.lits else if k=1 then x.len-4 else x.dist-1
def symQ (k:Nat) (x:Sq):Nat:=Lib.bitLen (numQ k x)
def StrB (k:Nat) (L:List Sq) (B:List UInt8):Prop:=
 ∃ sh,ShareOk (incT (List.replicate 17 0) (L.map (symQ k))) sh∧B=shareB sh++(numB 5 (encodeL sh (L.map (symQ k))).length++encodeL sh (L.map (symQ k)))
def lowP (v:Nat):List (Nat × Nat):=if 1<v then [(Lib.bitLen v-1,v-2^(Lib.bitLen v-1))] else []
def lowsP (x:Sq):List (Nat × Nat):=lowP (numQ 0 x)++(lowP (numQ 1 x)++lowP (numQ 2 x))
def restB (L:List Sq):List UInt8:=bytesS (putsS ([],0,0) (L.flatMap lowsP))
def StepsB (L:List Sq) (B:List UInt8):Prop:=
 (L=[]∧B=numB 5 0)∨(L≠[]∧∃ b0 b1 b2,StrB 0 L b0∧StrB 1 L b1∧StrB 2 L b2∧B=numB 5 L.length++(b0++(b1++(b2++(numB 5 (restB L).length++restB L)))))
def SmallQ (x:Sq):Prop:=x.lits≤65535∧4≤x.len∧x.len≤65535∧1≤x.dist∧x.dist≤65535
theorem FitL.small {l:List UInt8} (hl:l.length≤65536):∀ {L:List Sq} {p:Nat},FitL l p L→∀ x∈L,SmallQ x
 | [],_,_,_,h=>by cases h
 | y::r,p,h,x,hx=>by
   rcases List.mem_cons.1 hx with e|hx
   ·subst e
    obtain ⟨h1,h2,h3,h4,h5,-⟩:=h
    exact ⟨by omega,h1,by omega,h4,by omega⟩
   ·exact FitL.small hl h.2.2.2.2.2.2 x hx
theorem FitL.many {l:List UInt8}:∀ {L:List Sq} {p:Nat},FitL l p L→p+4*L.length≤l.length
 | [],_,h=>h
 | y::r,p,h=>by
   have h1:=FitL.many h.2.2.2.2.2.2
   have h2:=h.1
   rw [List.length_cons];omega
theorem numQ_le {x:Sq} (h:SmallQ x) (k:Nat):numQ k x≤65535:=by
 obtain ⟨h1,h2,h3,h4,h5⟩:=h
 unfold numQ
 split
 ·exact h1
 ·split<;>omega
inductive BestB (d:List UInt8):List UInt8→Prop
 | raw (h:∀ x,1<d.length→d≠List.replicate d.length x):BestB d (0::numB 5 d.length++d)
 | run (x:UInt8) (h:1<d.length) (hd:d=List.replicate d.length x):BestB d (1::numB 5 d.length++[x])
 | packed (L:List Sq) (b c:List UInt8) (h0:d≠[]) (hL:FitL d 0 L) (hb:LitsB (litsL d L) b) (hc:StepsB L c) (hlt:(2::numB 5 d.length++b++c).length<1+(numB 5 d.length).length+d.length)
    (hrun:∀ x,1<d.length→d=List.replicate d.length x→(2::numB 5 d.length++b++c).length<2+(numB 5 d.length).length):
    BestB d (2::numB 5 d.length++b++c)
theorem huffPutTable (A:OA) (n c:Nat) (l:List Nat) (w:World) (hl:l.length=n) (hr:Ns w A l) (hmay:mayL l=true):
 Calls Tryz.prog 150 #[.slice A n c] w fun e w'=>∃ S m cs,e=.returned (.tuple #[.slice S m cs,.int .i64 0])∧OwnB w' w.heap.size S m cs (tableB l)∧Below w.heap.size w w':=by
 obtain ⟨hn0,hn,h11⟩:=mayL_facts hmay
 have hlast:=mayL_last hmay
 have HMay:=Lh (by have h:=huffMay A n c l w hl hr (by omega) (fun x hx=>by have:=h11 x hx;omega);rw [hmay] at h;exact h:
  Calls Tryz.prog 123 #[.slice A n c] w fun e w'=>e=.returned (.bool true)∧w'=w)
 have HL:=Lh hl
 have HR:=Lh hr
 have H11:=Lh h11
 have HLast:=Lh hlast
 rw [hl] at hn0 hn
 clear hl hr hmay h11 hlast
 go_enter Tryz.func150,Tryz.ntmps150
 go_wp2_with fail
 refine HMay.out.mono ?_
 rintro e w1 ⟨rfl,rfl⟩
 go_wp2_with fail
 refine (wrNew _).mono ?_
 rintro e w2 ⟨rfl,hw2,hb2⟩
 have HPut:=Lh (hw2.put 8 (n-1) (by omega) (by show n-1<2^8;omega) (by show 8*0+0≤_;omega))
 have h1:wLen (putS ([],0,0) 8 (n-1))=8:=(putS_facts (S:=([],0,0)) ⟨by show 0<8;omega,by show 0<2^0;decide⟩ (by omega) (by show n-1<2^8;omega)).2
 have HB2:=Lh hb2
 have e8:((n-1:Nat):Int)=(n:Int)-1:=by omega
 rw [e8] at HPut
 clear hw2 hb2 e8
 go_wp2_with fail
 refine HPut.out.mono ?_
 rintro e w3 ⟨rfl,hw3,hb3⟩
 obtain ⟨F,hF⟩:∃ F,F=putsS ([],0,0) ((8,l.length-1)::tabP l l.length 0):=⟨_,rfl⟩
 have HW3:=Lh hw3
 have HB3:=Lh (HB2.out.trans hb3)
 have HF:=Lh hF
 clear hw3 hb3 hF HPut HB2
 go_wp2_with fail
 go_loopg [5] n (fun gg s5 wr=>∃ (i f:Nat) (S:WSt),i≤n∧n-i≤f∧f≤gg∧s5=.int .i64 (i:Int)∧WrS wr w1.heap.size w1.heap.size S∧putsS S (tabP l f i)=F∧wLen S≤8+8*i∧Below w1.heap.size w1 wr)
 case atStart=>exact ⟨0,n,_,by omega,by omega,Nat.le_refl _,rfl,HW3.out,by rw [HF.out,HL.out,putsS_cons],by show wLen (putS ([],0,0) 8 (n-1))≤_;omega,HB3.out⟩
 case round=>
  clear HW3 HB3
  obtain ⟨i,f,S,hi,hf,hfg,rfl,hw,hF,hlen,hb⟩:=hrel
  have HW:=Lh hw
  have HB:=Lh hb
  have HFin:=Lh hF
  clear hw hb hF
  by_cases hin:i<n
  ·obtain ⟨f',rfl⟩:∃ f',f=f'+1:=⟨f-1,by omega⟩
   obtain ⟨b,o,x,hA,hx,hc⟩:=HR.out.at_ (by rw [HL.out];exact hin:i<l.length)
   subst hA
   have hlt:=block_lt hc
   have hc2:=(HB.out.cell (by simpa using hlt)).trans hc
   have hx11:=H11.out x (List.mem_of_getElem? hx)
   have hxd:l.getD i 0=x:=by simp [List.getD,hx]
   have HXd:=Lh hxd
   have HPut:=Lh (HW.out.put 4 x (by omega) (by show x<2^4;omega) (by omega))
   have hl4:=(putS_facts (k:=4) (v:=x) HW.out.ok (by omega) (by show x<2^4;omega)).2
   clear hx hxd
   go_wp2_with fail
   refine HPut.out.mono ?_
   rintro e w4 ⟨rfl,hw4,hb4⟩
   have HW4:=Lh hw4
   have HB4:=Lh (HB.out.trans hb4)
   have hc4:=((HB.out.trans hb4).cell (by simpa using hlt)).trans hc
   clear hw4 hb4 HPut hc2 HW HB hlt
   by_cases hx0:x=0
   ·have g1:((x:Int) != 0)=false:=by rw [hx0];rfl
    subst hx0
    have hz:l.getD i 0=0:=HXd.out
    go_wp2_with fail
    go_loopg [6,5] 15 (fun gh s6 s5 wr=>∃ j:Nat,j≤15∧15-j≤gh∧s6=.int .i64 (j:Int)∧s5=.int .i64 ((i+j:Nat):Int)∧i+j<n∧l.getD (i+j) 0=0∧zr l 15 i=j+zr l (15-j) (i+j)∧w4=wr)
    case atStart=>exact ⟨0,by omega,by omega,rfl,rfl,hin,hz,by rw [Nat.zero_add,Nat.sub_zero,Nat.add_zero],rfl⟩
    case round=>
     obtain ⟨j,hj,hjg,rfl,rfl,hij,hzj,hzr,rfl⟩:=hrel
     have hnx:i+j+1<n:=by
      rcases Nat.lt_or_ge (i+j+1) n with h|h
      ·exact h
      ·exfalso
       have h1:=HLast.out
       have h2:l.length-1=i+j:=by rw [HL.out];omega
       rw [h2] at h1;omega
     obtain ⟨b',o',y,e',hy,hcy⟩:=HR.out.at_ (by rw [HL.out];exact hnx:i+j+1<l.length)
     cases e'
     have hyd:l.getD (i+j+1) 0=y:=by simp [List.getD,hy]
     have hcy2:=(HB4.out.cell (by simpa using block_lt hcy)).trans hcy
     clear hcy hy hz hzj
     by_cases hj15:j<15
     ·have e15:15-j=(15-(j+1))+1:=by omega
      rw [e15,show zr l (15-(j+1)+1) (i+j)=if l.getD (i+j+1) 0=0 then zr l (15-(j+1)) (i+j+1)+1 else 0 from rfl,hyd] at hzr
      by_cases hy0:y=0
      ·have g2:((y:Int)==0)=true:=by rw [hy0];rfl
       subst hy0
       rw [if_pos rfl] at hzr
       have HZ:=Lh (show zr l 15 i=(j+1)+zr l (15-(j+1)) (i+(j+1)) by rw [hzr,Nat.add_assoc i j 1];omega)
       have HYd:=Lh hyd
       clear hzr hyd e15
       go_wp2
       go_roundg (15-(j+1))
       case measure=>omega
       case rel=>exact ⟨j+1,by omega,Nat.le_refl _,by go_num,by go_num,by omega,HYd.out,HZ.out,rfl⟩
      ·have g2:((y:Int)==0)=false:=bF (by omega)
       rw [if_neg hy0] at hzr
       have HJ:=Lh (show zr l 15 i=j by omega)
       clear hzr hyd e15
       have HPut2:=Lh (HW4.out.put 4 j (by omega) (by show j<2^4;omega) (by omega))
       have hl5:=(putS_facts (k:=4) (v:=j) HW4.out.ok (by omega) (by show j<2^4;omega)).2
       have HF2:=Lh (show putsS (putS (putS S 4 0) 4 j) (tabP l f' (i+j+1))=F by
        have h:=HFin.out
        rw [tabP,if_pos (by rw [HL.out];exact hin),HXd.out,if_pos rfl,putsS_cons,putsS_cons,HJ.out] at h
        exact h)
       clear HFin
       go_wp2_with fail
       refine HPut2.out.mono ?_
       rintro e w5 ⟨rfl,hw5,hb5⟩
       have HW5:=Lh hw5
       have HB5:=Lh (HB4.out.trans hb5)
       clear hw5 hb5 HPut2 HB4 HW4
       go_wp2
       go_roundg f'
       case measure=>omega
       case rel=>exact ⟨i+j+1,f',_,by omega,by omega,Nat.le_refl _,by go_num,HW5.out,HF2.out,by omega,HB5.out⟩
     ·obtain rfl:j=15:=by omega
      have HJ:=Lh (show zr l 15 i=15 by rw [hzr];rfl)
      clear hzr hyd
      have HPut2:=Lh (HW4.out.put 4 15 (by omega) (by show 15<2^4;omega) (by omega))
      have hl5:=(putS_facts (k:=4) (v:=15) HW4.out.ok (by omega) (by show 15<2^4;omega)).2
      have HF2:=Lh (show putsS (putS (putS S 4 0) 4 15) (tabP l f' (i+15+1))=F by
       have h:=HFin.out
       rw [tabP,if_pos (by rw [HL.out];exact hin),HXd.out,if_pos rfl,putsS_cons,putsS_cons,HJ.out] at h
       exact h)
      clear HFin hcy2
      go_wp2_with fail
      refine HPut2.out.mono ?_
      rintro e w5 ⟨rfl,hw5,hb5⟩
      have HW5:=Lh hw5
      have HB5:=Lh (HB4.out.trans hb5)
      clear hw5 hb5 HPut2 HB4 HW4
      go_wp2
      go_roundg f'
      case measure=>omega
      case rel=>exact ⟨i+15+1,f',_,by omega,by omega,Nat.le_refl _,by go_num,HW5.out,HF2.out,by omega,HB5.out⟩
   ·have g1:((x:Int) != 0)=true:=bne_iff_ne.2 (by omega)
    have HF2:=Lh (show putsS (putS S 4 x) (tabP l f' (i+1))=F by
     have h:=HFin.out
     rw [tabP,if_pos (by rw [HL.out];exact hin),HXd.out,if_neg hx0,putsS_cons] at h
     exact h)
    clear HFin
    go_wp2
    go_roundg f'
    case measure=>omega
    case rel=>exact ⟨i+1,f',putS S 4 x,by omega,by omega,Nat.le_refl _,by go_num,HW4.out,HF2.out,by omega,HB4.out⟩
  ·obtain rfl:i=n:=by omega
   have HF2:=Lh (show S=F by
    have h:=HFin.out
    rw [tabP_end l f i (by rw [HL.out];exact Nat.le_refl _)] at h
    exact h)
   have HBy:=Lh (HW.out.bytes (by omega))
   go_wp2_with fail
   refine HBy.out.mono ?_
   rintro e w5 ⟨A5,m5,c5,rfl,hown,hb5⟩
   have HO5:=Lh (Own.mono hown HB.out.size)
   have HB5:=Lh (HB.out.trans (hb5.mono HB.out.size))
   clear hown hb5 HBy
   go_wp2
   go_ret2
   refine ⟨A5,m5,c5,rfl,?_,HB5.out⟩
   unfold tableB
   rw [←HF.out,←HF2.out]
   exact HO5.out
theorem bit_shr {cv j:Nat} (h:cv≤524288):bits .and .i64 ((cv:Int)/2^j) 1=((cv/2^j%2:Nat):Int):=by
 have:=div_pow_le cv j
 rw [div_pow_cast,i64_and1 (by omega)]
theorem natv_one (l:List Nat):(l.map natv).toArray.all (·.oneCell')=true:=by
 simp only [List.all_toArray,List.all_map,List.all_eq_true]
 intro x _;rfl
theorem encP_step {lens:List Nat} {l:List UInt8} {k:Nat} {x:UInt8} (h:l[k]? = some x):encP lens (l.take (k+1))=encP lens (l.take k)++byteP lens x:=by
 rw [List.take_add_one,h,←encP_snoc];rfl
theorem huffEncode (A:OA) (n c:Nat) (lens:List Nat) (A2:OA) (n2 c2:Nat) (l:List UInt8) (w:World) (hl:lens.length=n) (hr:Ns w A lens) (hmay:mayL lens=true) (hl2:l.length=n2) (hr2:Bs w A2 l) (hn2:n2≤65536)
 (hx:∀ b∈l,b.toNat<n∧0<lens.getD b.toNat 0):
 Calls Tryz.prog 151 #[.slice A n c,.slice A2 n2 c2] w fun e w'=>∃ S m cs,e=.returned (.tuple #[.slice S m cs,.int .i64 0])∧OwnB w' w.heap.size S m cs (bodyB lens l)∧Below w.heap.size w w':=by
 obtain ⟨hf1,hf2,hf3⟩:=mayL_facts hmay
 have HCL:=Lh (by unfold codesL;exact (cAll_facts lens hf2 11).1:(codesL lens).length=256)
 have HCS:=Lh (fun x h=>codesL_small hf2 (x:=x) h)
 have HC:=Lh (codes_any A n c lens w hl hr (by omega) hf3)
 have HMay:=Lh (by have h:=huffMay A n c lens w hl hr (by omega) (fun x hx=>by have:=hf3 x hx;omega);rw [hmay] at h;exact h:
  Calls Tryz.prog 123 #[.slice A n c] w fun e w'=>e=.returned (.bool true)∧w'=w)
 have HL:=Lh hl
 have HR:=Lh hr
 have HL2:=Lh hl2
 have HR2:=Lh hr2
 have H11:=Lh hf3
 have HX:=Lh hx
 rw [hl] at hf1 hf2
 clear hl hr hmay hl2 hr2 hf3 hx
 go_enter Tryz.func151,Tryz.ntmps151
 go_wp2_with fail
 refine HMay.out.mono ?_
 rintro e w1 ⟨rfl,rfl⟩
 go_wp2_with fail
 refine HC.out.mono ?_
 rintro e w2 ⟨rfl,hb2⟩
 clear HC HMay
 obtain ⟨cs,hcs⟩:∃ cs,cs=codesL lens:=⟨_,rfl⟩
 have HCs:=Lh hcs
 rw [←hcs] at HCL HCS ⊢
 clear hcs
 have HK:=Lh (show BlkN (w2.alloc (.cells (cs.map natv).toArray 220)) w2.heap.size 220 cs from Blk.new w2 220 (cs.map natv).toArray)
 have HB2:=Lh (hb2.alloc hb2.size (.cells (cs.map natv).toArray 220))
 have hsz2:(w2.alloc (.cells (cs.map natv).toArray 220)).heap.size=w2.heap.size+1:=by simp
 clear hb2
 have HLn:=Lh (show 256=((cs.map natv).toArray).size by simp [HCL.out])
 have hB0:=heap_alloc_last w2 (.cells Tryz.zeroCells220 220)
 go_wp2_with (refine wpList_store_row rfl _ _ _ rfl w2.heap.size _ rfl rfl 220 _ hB0 ?_ ?_ ?_ ?_)
 ·rw [info138,HLn.out]
 ·rw [←HLn.out,zero138];simp
 ·exact natv_one cs
 rw [World.setRow_alloc_new]
 obtain ⟨wb,hwb⟩:∃ wb,wb=w2.alloc (.cells (cs.map natv).toArray 220):=⟨_,rfl⟩
 obtain ⟨cb,hcb⟩:∃ cb,cb=w2.heap.size:=⟨_,rfl⟩
 rw [←hwb,←hcb] at HK hsz2 ⊢
 rw [←hwb] at HB2
 have HSZ:=Lh hsz2
 clear hwb hcb hsz2 hB0 HLn
 refine (wrNew _).mono ?_
 rintro e w3 ⟨rfl,hw3,hb3⟩
 have HW3:=Lh hw3
 have HB3:=Lh hb3
 clear hw3 hb3
 go_wp2_with fail
 go_loopg [19] n2 (fun gg s5 wr=>∃ (i:Nat) (S:WSt),i≤n2∧n2-i≤gg∧s5=.int .i64 (i:Int)∧WrS wr wb.heap.size wb.heap.size S∧putsS w0 (encP lens (l.take i))=S∧wLen S≤11*i∧Below wb.heap.size wb wr)
 case atStart=>exact ⟨0,_,by omega,by omega,rfl,HW3.out,rfl,by show 8*0+0≤_;omega,HB3.out⟩
 case round=>
  clear HW3 HB3
  obtain ⟨i,S,hi,hig,rfl,hw,hS,hlen,hb⟩:=hrel
  have HW:=Lh hw
  have HS:=Lh hS
  have HB:=Lh hb
  clear hw hS hb
  by_cases hin:i<n2
  ·obtain ⟨b,o,x,hA,hx,hc⟩:=HR2.out.at_ (by rw [HL2.out];exact hin:i<l.length)
   subst hA
   have hcb2:=(HB.out.cell (by have:=HB2.out.size;have:=block_lt hc;show b<wb.heap.size;omega)).trans ((HB2.out.cell (by simpa using block_lt hc)).trans hc)
   obtain ⟨hxn,hx0⟩:=HX.out x (List.mem_of_getElem? hx)
   have HSt:=Lh (encP_step (lens:=lens) hx)
   obtain ⟨bl,ol,y,hAl,hy,hcl⟩:=HR.out.at_ (by rw [HL.out];exact hxn:x.toNat<lens.length)
   subst hAl
   have hcl2:=(HB.out.cell (by have:=HB2.out.size;have:=block_lt hcl;show bl<wb.heap.size;omega)).trans ((HB2.out.cell (by simpa using block_lt hcl)).trans hcl)
   have hyd:lens.getD x.toNat 0=y:=by simp [List.getD,hy]
   have hy11:=H11.out y (List.mem_of_getElem? hy)
   rw [hyd] at hx0
   obtain ⟨cv,hcv⟩:=getN (by rw [HCL.out];exact x.toNat_lt:x.toNat<cs.length)
   have hcvs:=HCS.out cv (List.mem_of_getElem? hcv)
   have hcvd:(codesL lens).getD x.toNat 0=cv:=by rw [←HCs.out];simp [List.getD,hcv]
   have HF:=Lh (show byteP lens x=bitsP cv y by unfold byteP;rw [hcvd,hyd])
   have HCv:=Lh hcv
   have hxl:=x.toNat_lt
   have g1:decide (n≤x.toNat)=false:=qF (by omega)
   have g2:((y:Int)==0)=false:=bF (by omega)
   have i1:(0:Int)≤(x.toNat:Int):=by omega
   have i2:(x.toNat:Int)<(n:Int):=by omega
   have i3:(x.toNat:Int)<256:=by omega
   obtain ⟨F,hF⟩:∃ F,F=putsS S (bitsP cv y):=⟨_,rfl⟩
   have HFF:=Lh hF
   clear hx hc hy hcl hyd hcv hcvd hF
   go_wp2_with fail
   go_loopg [10] y (fun gh s6 wi=>∃ (j:Nat) (S':WSt),j≤y∧j≤gh∧s6=.int .i64 ((j:Int)-1)∧WrS wi wb.heap.size wb.heap.size S'∧putsS S' (bitsP cv j)=F∧wLen S'+j≤11*i+y∧Below wb.heap.size wb wi)
   case atStart=>exact ⟨y,S,by omega,by omega,rfl,HW.out,HFF.out.symm,by omega,HB.out⟩
   case round=>
    obtain ⟨j0,S',hj,hjg,rfl,hw',hF',hlen',hb'⟩:=hrel
    have HW':=Lh hw'
    have HF':=Lh hF'
    have HB':=Lh hb'
    clear hw' hF' hb' hcb2 hcl2
    by_cases hj0:0<j0
    ·obtain ⟨j,rfl⟩:∃ j,j0=j+1:=⟨j0-1,by omega⟩
     have ej:((j+1:Nat):Int)-1=(j:Int):=by omega
     have hck:=(HB'.out.cell (by have:=HSZ.out;show cb<wb.heap.size;omega)).trans (BlkN.cell HK.out HCv.out)
     have HPut:=Lh (HW'.out.put 1 (cv/2^j%2) (by omega) (by show _<2^1;omega) (by omega))
     have hl4:=(putS_facts (k:=1) (v:=cv/2^j%2) HW'.out.ok (by omega) (by show _<2^1;omega)).2
     have HF2:=Lh (show putsS (putS S' 1 (cv/2^j%2)) (bitsP cv j)=F by
      have h:=HF'.out
      rw [bitsP,putsS_cons] at h
      exact h)
     rw [←bit_shr hcvs] at HPut
     rw [ej]
     clear HF'
     go_wp2_with fail
     refine HPut.out.mono ?_
     rintro e w4 ⟨rfl,hw4,hb4⟩
     have HW4:=Lh hw4
     have HB4:=Lh (HB'.out.trans hb4)
     clear hw4 hb4 HPut
     go_wp2
     go_roundg j
     case measure=>omega
     case rel=>exact ⟨j,_,by omega,Nat.le_refl _,rfl,HW4.out,HF2.out,by omega,HB4.out⟩
    ·obtain rfl:j0=0:=by omega
     have HS2:=Lh (show putsS w0 (encP lens (l.take (i+1)))=S' by
      rw [HSt.out,putsS_append,HS.out,HF.out,←HFF.out,←HF'.out];rfl)
     clear HF'
     go_wp2
     go_roundg (n2-(i+1))
     case measure=>omega
     case rel=>exact ⟨i+1,S',by omega,by omega,by go_num,HW'.out,HS2.out,by omega,HB'.out⟩
  ·obtain rfl:i=n2:=by omega
   have HBy:=Lh (HW.out.bytes (by omega))
   go_wp2_with fail
   refine HBy.out.mono ?_
   rintro e w5 ⟨A5,m5,c5,rfl,hown,hb5⟩
   have hbs:=HB2.out.size
   have hbs3:=HB.out.size
   have HO5:=Lh (Own.mono hown (by omega:w1.heap.size≤wr.heap.size))
   have HB5:=Lh (HB2.out.trans ((HB.out.mono hbs).trans (hb5.mono (by omega))))
   clear hown hb5 HBy
   go_wp2
   go_ret2
   refine ⟨A5,m5,c5,rfl,?_,HB5.out⟩
   have h:=HO5.out
   rw [←HS.out,List.take_of_length_le (by rw [HL2.out];exact Nat.le_refl _)] at h
   exact h
def cntTo (l:List UInt8) (k:Nat):List Nat:=incT (List.replicate 256 0) ((l.take k).map UInt8.toNat)
theorem cntTo_step {l:List UInt8} {k:Nat} {x:UInt8} (h:l[k]? = some x):cntTo l (k+1)=(cntTo l k).set x.toNat ((cntTo l k).getD x.toNat 0+1):=by
 unfold cntTo
 rw [List.take_add_one,h,List.map_append]
 exact incT_snoc _ _ _
theorem cntTo_le (l:List UInt8) (k p:Nat):(cntTo l k).getD p 0≤k:=by
 have h:=incT_le ((l.take k).map UInt8.toNat) (List.replicate 256 0) p
 rw [zeros_getD,List.length_map,List.length_take] at h
 unfold cntTo;omega
theorem cntTo_all {l:List UInt8} {k:Nat} (h:k=l.length):cntTo l k=cntB l:=by
 subst h;unfold cntTo cntB;rw [List.take_length]
theorem packCoded (A:OA) (n c:Nat) (l:List UInt8) (w:World) (hl:l.length=n) (hr:Bs w A l) (hn0:0<n) (hn:n≤65536):
 Calls Tryz.prog 113 #[.slice A n c] w fun e w'=>∃ S m cs lens,e=.returned (.tuple #[.slice S m cs,.bool true])∧OwnB w' w.heap.size S m cs (1::tableB lens++numB 5 (bodyB lens l).length++bodyB lens l)∧LensOk (cntB l) lens∧Below w.heap.size w w':=by
 have HL:=Lh hl
 have HR:=Lh hr
 clear hl hr
 obtain ⟨ti,hi,hz0,hz1,hz2⟩:=info_parts elemN_info
 go_enter Tryz.func113,Tryz.ntmps113
 go_wp2_with (at_make;refine wpList_make_full _ rfl _ _ 43 rfl w.heap.size 3 ti _ 1 Tryz.underlying43 hi hz0 hz1 .i64 .i64 256 256 256 rfl rfl rfl rfl (by rw [hz2];omega) (by unfold maxLen;omega) nL ?_)
 intro w1 hown1 hg1
 rw [made_zeros] at hown1
 have HO1:=Lh (show OwnN w1 w.heap.size (some ⟨w.heap.size,0,none⟩) 256 256 (cntTo l 0) from hown1)
 have HB1:=Lh ((Below.refl _ _).grown hg1 nL (fun k hk=>by cases hk):Below w.heap.size w w1)
 clear hown1 hg1 hi hz0 hz1 hz2
 go_wp2_with fail
 go_loopg [18] n (fun gg s5 wr=>∃ k:Nat,k≤n∧n-k≤gg∧s5=.int .i64 (k:Int)∧OwnN wr w.heap.size (some ⟨w.heap.size,0,none⟩) 256 256 (cntTo l k)∧Below w.heap.size w wr)
 case atStart=>exact ⟨0,by omega,by omega,rfl,HO1.out,HB1.out⟩
 case round=>
  clear HO1 HB1
  obtain ⟨k,hk,hgg,rfl,hown,hbel⟩:=hrel
  have HO:=Lh hown
  have HB:=Lh hbel
  clear hown hbel
  by_cases hkn:k<n
  ·obtain ⟨b,o,x,hA,hx,hc⟩:=HR.out.at_ (by rw [HL.out];exact hkn:k<l.length)
   subst hA
   have hc2:=(HB.out.cell (by simpa using block_lt hc)).trans hc
   have HSt:=Lh (cntTo_step hx)
   have hxl:=x.toNat_lt
   obtain ⟨gz,xz,hgz,hg1,-,hxz,hcz,hfz⟩:=Own.at_ HO.out (k:=x.toNat) hxl
   cases hgz
   obtain ⟨v,hv⟩:∃ v,v=(cntTo l k).getD x.toNat 0:=⟨_,rfl⟩
   have hvk:v≤k:=by rw [hv];exact cntTo_le l k _
   have hxv:xz=.int .i64 (v:Int):=by
    rw [List.getElem?_map] at hxz
    rw [hv,List.getD]
    cases hq:(cntTo l k)[x.toNat]? with
    | none=>rw [hq] at hxz;cases hxz
    | some q=>rw [hq] at hxz;exact (Option.some.inj hxz).symm
   subst hxv
   have HO2:=Lh (show OwnN (wr.setCell ⟨w.heap.size,x.toNat,none⟩ (.int .i64 ((v:Int)+1))) w.heap.size (some ⟨w.heap.size,0,none⟩) 256 256 (cntTo l (k+1)) from by
    have h:=(Own.stored HO.out x.toNat (natv (v+1))).1
    rw [←List.map_set,hv,←HSt.out] at h
    have e:natv (v+1)=.int .i64 ((v:Int)+1):=by unfold natv;rw [Int.natCast_add];rfl
    rw [←hv,e] at h
    exact h)
   have HB2:=Lh (HB.out.setCell (p:=⟨w.heap.size,x.toNat,none⟩) hg1 (.int .i64 ((v:Int)+1)))
   have i1:(0:Int)≤(x.toNat:Int):=by omega
   have i2:(x.toNat:Int)<256:=by omega
   clear hx hc hxz hv HSt
   go_wp2
   go_roundg (n-(k+1))
   case measure=>omega
   case rel=>exact ⟨k+1,by omega,by omega,by go_num,HO2.out,HB2.out⟩
  ·obtain rfl:k=n:=by omega
   have HO2:=Lh (show OwnN wr w.heap.size (some ⟨w.heap.size,0,none⟩) 256 256 (cntB l) from by
    have h:=HO.out
    rw [cntTo_all HL.out.symm] at h;exact h)
   have HLn:=Lh (huffLens (some ⟨w.heap.size,0,none⟩) 256 256 (cntB l) wr (cntB_len l) (OwnN.ns HO2.out) (by omega) (by omega) (fun x hx=>by have:=cntB_le hx;have:=HL.out;omega) (by
    obtain ⟨b,hb⟩:∃ b,b∈l:=by
     cases hq:l with
     | nil=>have h:=HL.out;rw [hq] at h;simp at h;omega
     | cons b r=>exact ⟨b,List.mem_cons_self⟩
    exact ⟨b.toNat,cntB_pos hb⟩))
   clear HO
   go_wp2_with fail
   refine HLn.out.mono ?_
   rintro e w3 ⟨S3,m3,c3,lens,rfl,hown3,hlens,hb3⟩
   have hm3:=OwnN.length hown3
   have HO3:=Lh hown3
   have HLens:=Lh hlens
   have HB3:=Lh (HB.out.trans (hb3.mono HB.out.size))
   have HPT:=Lh (huffPutTable S3 m3 c3 lens w3 hm3 (OwnN.ns hown3) hlens.may)
   have h11:=(mayL_facts hlens.may).2.2
   have hbl:=body_len h11 l
   have H11:=Lh h11
   clear hown3 hlens hb3 HLn HO2 HB h11
   go_wp2_with fail
   refine HPT.out.mono ?_
   rintro e w4 ⟨S4,m4,c4,rfl,hown4,hb4⟩
   have HO4:=Lh hown4
   have HB4:=Lh (HB3.out.trans (hb4.mono HB3.out.size))
   have HEn:=Lh (huffEncode S3 m3 c3 lens A k c l w4 hm3 ((OwnN.ns HO3.out).later hb4) HLens.out.may HL.out (HR.out.later HB4.out) (by omega) (fun b hb=>by rw [←hm3];exact HLens.out.pos _ (cntB_pos hb)))
   clear hown4 hb4 HPT HB3
   go_wp2_with fail
   refine HEn.out.mono ?_
   rintro e w5 ⟨S5,m5,c5,rfl,hown5,hb5⟩
   have HO5:=Lh hown5
   have HT5:=Lh (Own.later HO4.out hb5)
   have HB5:=Lh (HB4.out.trans (hb5.mono HB4.out.size))
   have hm5:=OwnB.length hown5
   have hm4:=OwnB.length HO4.out
   clear hown5 hb5 HEn HB4
   have htl:=table_len HLens.out.may
   rw [hm4] at htl
   rw [hm5] at hbl
   obtain ⟨tb,htb⟩:∃ tb,tb=tableB lens:=⟨_,rfl⟩
   obtain ⟨bd,hbd⟩:∃ bd,bd=bodyB lens l:=⟨_,rfl⟩
   have HTb:=Lh htb
   have HBd:=Lh hbd
   rw [←htb] at HT5 hm4
   rw [←hbd] at HO5 hm5
   have hln:=HL.out
   clear htb hbd HO4 HO3 H11
   go_wp2_with (at_builtin;refine wpList_append_rd rfl _ _ elemB rfl w5.heap.size (some ⟨w5.heap.size,0,none⟩) 1 1 [.int .u8 1] rfl (Own.fresh w5 5 [.int .u8 1] 1 rfl) S4 m4 c4 (tb.map u8v) rfl ?a1 ?a2 (u8_one _) ?a3 ?a4 ?a5 ?_)
   case a1=>exact Rd.alloc (Own.rd HT5.out) _
   case a2=>rw [List.length_map];exact hm4
   case a3=>omega
   case a4=>omega
   case a5=>simp
   intro A6 c6 w6 hown6 hb6 hg6 hat6
   have hba:=(Below.refl w5.heap.size w5).alloc nL (.cells #[.int .u8 1] 5)
   have hb56:Below w5.heap.size w5 w6:=hba.trans hb6
   have HO6:=Lh (show OwnB w6 w5.heap.size A6 (1+m4) c6 (1::tb) from hown6)
   have HB6:=Lh (HB5.out.trans (hb56.mono HB5.out.size))
   have HBd6:=Lh (Own.later HO5.out hb56)
   have HPN:=Lh (putNum A6 (1+m4) c6 (1::tb) m5 w6 (OwnB.length hown6) (OwnB.bs hown6) (by omega) (by omega))
   clear hown6 hb6 hg6 hat6 hba HT5 HO5 hb56
   go_wp2_with fail
   refine HPN.out.mono ?_
   rintro e w7 ⟨A7,m7,c7,rfl,hown7,hb7⟩
   have hm7:=OwnB.length hown7
   have hnb:=numB_len 5 m5
   rw [Zl,List.length_cons] at hm7
   have HO7:=Lh hown7
   have HB7:=Lh (HB6.out.trans (hb7.mono HB6.out.size))
   have HBd7:=Lh (Own.later HBd6.out hb7)
   have hs6:=HB6.out.size
   clear hown7 hb7 HPN HO6 HBd6 HB6
   go_wp2_with (at_builtin;refine wpList_append_rd rfl _ _ elemB rfl w.heap.size A7 m7 c7 ((1::tb++numB 5 m5).map u8v) rfl (Own.mono HO7.out hs6) S5 m5 c5 (bd.map u8v) rfl ?a1 ?a2 (u8_one _) ?a3 ?a4 ?a5 ?_)
   case a1=>exact Own.rd HBd7.out
   case a2=>rw [List.length_map];exact hm5
   case a3=>omega
   case a4=>omega
   case a5=>exact HB7.out.size
   intro A8 c8 w8 hown8 hb8 hg8 hat8
   have HO8:=Lh (show OwnB w8 w.heap.size A8 (m7+m5) c8 (1::tb++numB 5 m5++bd) from by unfold OwnB;simp only [List.map_append,List.map_cons,List.cons_append,Za] at hown8 ⊢;exact hown8)
   have HB8:=Lh (HB7.out.trans hb8)
   clear hown8 hb8 hg8 hat8
   go_wp2
   go_ret2
   refine ⟨A8,m7+m5,c8,lens,rfl,?_,HLens.out,HB8.out⟩
   rw [←HTb.out,←HBd.out,hm5]
   exact HO8.out
theorem packLiterals (A0:OA) (n0 c0:Nat) (out:List UInt8) (A:OA) (n c:Nat) (l:List UInt8) (w:World) (h0:out.length=n0) (hr0:Bs w A0 out) (hn0:n0≤1000) (hl:l.length=n) (hr:Bs w A l) (hp:0<n) (hn:n≤65536):
 Calls Tryz.prog 77 #[.slice A0 n0 c0,.slice A n c] w fun e w'=>∃ S m cs B,e=.returned (.slice S m cs)∧OwnB w' w.heap.size S m cs (out++B)∧LitsB l B∧Below w.heap.size w w':=by
 have HPN:=Lh (putNum A0 n0 c0 out n w h0 hr0 (by omega) (by omega))
 have H0:=Lh h0
 have HL:=Lh hl
 have HR:=Lh hr
 clear h0 hr0 hl hr
 go_enter Tryz.func77,Tryz.ntmps77
 go_wp2_with fail
 refine HPN.out.mono ?_
 rintro e w1 ⟨A1,m1,c1,rfl,hown1,hb1⟩
 have hm1:=OwnB.length hown1
 have hnb:=numB_len 5 n
 rw [Zl,H0.out] at hm1
 have HO1:=Lh hown1
 have HB1:=Lh hb1
 clear hown1 hb1 HPN
 go_wp2_with (at_builtin;refine wpList_append_rd rfl _ _ elemB rfl w1.heap.size (some ⟨w1.heap.size,0,none⟩) 1 1 [.int .u8 0] rfl (Own.fresh w1 5 [.int .u8 0] 1 rfl) A n c (l.map u8v) rfl ?a1 ?a2 (u8_one _) ?a3 ?a4 ?a5 ?_)
 case a1=>exact Rd.alloc (HR.out.later HB1.out) _
 case a2=>rw [List.length_map];exact HL.out
 case a3=>omega
 case a4=>omega
 case a5=>simp
 intro A2 c2 w2 hown2 hb2 hg2 hat2
 have hb12:=((Below.refl w1.heap.size w1).alloc nL (.cells #[.int .u8 0] 5)).trans hb2
 have HB12:=Lh hb12
 have HB2:=Lh (HB1.out.trans (hb12.mono HB1.out.size))
 have HO2:=Lh (show OwnB w2 w1.heap.size A2 (1+n) c2 (0::l) from hown2)
 have HO12:=Lh (Own.later HO1.out hb12)
 have HC:=Lh (packCoded A n c l w2 HL.out (HR.out.later HB2.out) hp hn)
 clear hown2 hb2 hg2 hat2 hb12
 go_wp2_with fail
 refine HC.out.mono ?_
 rintro e w3 ⟨A3,m3,c3,lens,rfl,hown3,hlens,hb3⟩
 have HB3:=Lh (HB2.out.trans (hb3.mono HB2.out.size))
 have HO3:=Lh hown3
 have HLens:=Lh hlens
 have HP3:=Lh (Own.later HO2.out hb3)
 have HQ3:=Lh (Own.later HO12.out hb3)
 clear hown3 hlens hb3 HC HO2 HO12
 have hs3:=HB3.out.size
 obtain ⟨cd,hcd⟩:∃ cd,cd=1::tableB lens++numB 5 (bodyB lens l).length++bodyB lens l:=⟨_,rfl⟩
 have HCd:=Lh hcd
 rw [←hcd] at HO3
 clear hcd
 have hm3:=OwnB.length HO3.out
 by_cases hlt:m3<1+n
 ·have g1:decide ((m3:Int)<((1+n:Nat):Int))=true:=qT (by omega)
  go_wp2_with (at_builtin;refine wpList_append_rd rfl _ _ elemB rfl w.heap.size A1 m1 c1 ((out++numB 5 n).map u8v) rfl HQ3.out A3 m3 c3 (cd.map u8v) rfl ?a1 ?a2 (u8_one _) ?a3 ?a4 ?a5 ?_)
  case a1=>exact Own.rd HO3.out
  case a2=>rw [List.length_map];exact hm3
  case a3=>omega
  case a4=>omega
  case a5=>exact hs3
  intro A4 c4 w4 hown4 hb4 hg4 hat4
  have HO4:=Lh (show OwnB w4 w.heap.size A4 (m1+m3) c4 (out++numB 5 n++cd) from by unfold OwnB;simp only [List.map_append,List.map_cons,List.cons_append,Za] at hown4 ⊢;exact hown4)
  have HB4:=Lh (HB3.out.trans hb4)
  clear hown4 hb4 hg4 hat4
  go_wp2
  go_ret
  refine ⟨A4,m1+m3,c4,numB 5 n++cd,rfl,?_,.inr ⟨lens,HLens.out,?_⟩,HB4.out⟩
  ·rw [←Za];exact HO4.out
  ·rw [HCd.out,HL.out]
 ·have g1:decide ((m3:Int)<((1+n:Nat):Int))=false:=qF (by omega)
  go_wp2_with (at_builtin;refine wpList_append_rd rfl _ _ elemB rfl w.heap.size A1 m1 c1 ((out++numB 5 n).map u8v) rfl HQ3.out A2 (1+n) c2 ((0::l).map u8v) rfl ?a1 ?a2 (u8_one _) ?a3 ?a4 ?a5 ?_)
  case a1=>exact Own.rd HP3.out
  case a2=>rw [List.length_map,List.length_cons,HL.out];omega
  case a3=>omega
  case a4=>omega
  case a5=>exact hs3
  intro A4 c4 w4 hown4 hb4 hg4 hat4
  have HO4:=Lh (show OwnB w4 w.heap.size A4 (m1+(1+n)) c4 (out++numB 5 n++(0::l)) from by unfold OwnB;simp only [List.map_append,List.map_cons,List.cons_append,Za] at hown4 ⊢;exact hown4)
  have HB4:=Lh (HB3.out.trans hb4)
  clear hown4 hb4 hg4 hat4
  go_wp2
  go_ret
  refine ⟨A4,m1+(1+n),c4,numB 5 n++0::l,rfl,?_,.inl ?_,HB4.out⟩
  ·rw [←Za];exact HO4.out
  ·rw [HL.out]
theorem packCode (v:Nat) (w:World) (hv:v≤65535):Calls Tryz.prog 106 #[.int .i64 (v:Int)] w fun e w'=>e=.returned (.int .i64 ((Lib.bitLen v:Nat):Int))∧w'=w:=by
 have HLen:=Lh (Tryz.bits_Len ((v:Nat):Int))
 rw [Int.toNat_natCast] at HLen
 go_enter Tryz.func106,Tryz.ntmps106
 go_wp2_with fail
 refine (HLen.out _ (by omega) (by omega)).mono ?_
 rintro e w1 ⟨rfl,rfl⟩
 go_wp2
 go_ret
 exact ⟨rfl,rfl⟩
def sqV (x:Sq):Value:=.agg #[.int .i64 (x.lits:Int),.int .i64 (x.len:Int),.int .i64 (x.dist:Int)]
theorem packStr1 (x:Sq) (w:World):Calls Tryz.prog 137 #[sqV x] w fun e w'=>e=.returned (.int .i64 ((numQ 0 x:Nat):Int))∧Below w.heap.size w w':=by
 obtain ⟨a,b,c⟩:=x
 unfold sqV
 go_enter Tryz.func137,Tryz.ntmps137
 go_wp2
 go_ret
 exact ⟨rfl,(Below.refl _ _).alloc nL _⟩
theorem packStr2 (x:Sq) (w:World) (h4:4≤x.len) (hb:x.len≤65535):Calls Tryz.prog 138 #[sqV x] w fun e w'=>e=.returned (.int .i64 ((numQ 1 x:Nat):Int))∧Below w.heap.size w w':=by
 obtain ⟨a,b,c⟩:=x
 have e:((numQ 1 ⟨a,b,c⟩:Nat):Int)=(b:Int)-4:=by
  show (((b-4:Nat)):Int)=_
  have h4:4≤b:=h4
  omega
 rw [e]
 have h4:4≤b:=h4
 have hb:b≤65535:=hb
 clear e
 unfold sqV
 go_enter Tryz.func138,Tryz.ntmps138
 go_wp2
 go_ret
 exact ⟨rfl,(Below.refl _ _).alloc nL _⟩
theorem packStr3 (x:Sq) (w:World) (h4:1≤x.dist) (hb:x.dist≤65535):Calls Tryz.prog 139 #[sqV x] w fun e w'=>e=.returned (.int .i64 ((numQ 2 x:Nat):Int))∧Below w.heap.size w w':=by
 obtain ⟨a,b,c⟩:=x
 have e:((numQ 2 ⟨a,b,c⟩:Nat):Int)=(c:Int)-1:=by
  show (((c-1:Nat)):Int)=_
  have h4:1≤c:=h4
  omega
 rw [e]
 have h4:1≤c:=h4
 have hb:c≤65535:=hb
 clear e
 unfold sqV
 go_enter Tryz.func139,Tryz.ntmps139
 go_wp2
 go_ret
 exact ⟨rfl,(Below.refl _ _).alloc nL _⟩
theorem packStreams (w:World):Calls Tryz.prog 105 #[] w fun e w'=>e=.returned (.agg #[.func (.func 137) #[] #[],.func (.func 138) #[] #[],.func (.func 139) #[] #[]])∧Below w.heap.size w w':=by
 go_enter Tryz.func105,Tryz.ntmps105
 go_wp2
 have hrow:=heap_alloc_last w (.cells #[.func (.func 137) #[] #[],.func (.func 138) #[] #[],.func (.func 139) #[] #[]] 193)
 exact bodyPost_ret (results_cell_row rfl _ _ w.heap.size 193 _ (0,0) _ rfl hrow Tryz.underlying193 rfl (by kernel_rfl)) rfl ⟨rfl,(Below.refl _ _).alloc nL _⟩
def leN:List UInt8→Nat
 | []=>0
 | b::r=>b.toNat+256*leN r
theorem pow8 (k:Nat):2^(8*(k+1))=256*2^(8*k):=by
 rw [show 8*(k+1)=8*k+8 by omega,Nat.pow_add];omega
theorem leN_append:∀ (a b:List UInt8),leN (a++b)=leN a+2^(8*a.length)*leN b
 | [],b=>by simp [leN]
 | x::a,b=>by
   rw [List.cons_append,leN,leN_append a b,leN,List.length_cons,pow8,Nat.mul_add,Nat.mul_assoc];omega
theorem leN_lt:∀ (a:List UInt8),leN a<2^(8*a.length)
 | []=>by simp [leN]
 | x::a=>by
   have h:=leN_lt a
   have hx:=x.toNat_lt
   rw [leN,List.length_cons,pow8]
   generalize 2^(8*a.length)=p at *
   omega
theorem bitAt_leN:∀ (l:List UInt8) (i:Nat),bitAt l i=leN l/2^i%2
 | [],i=>by simp [bitAt,leN]
 | b::r,i=>by
   by_cases h:i<8
   ·unfold bitAt leN
    rw [Nat.div_eq_of_lt h,Nat.mod_eq_of_lt h,List.getD_cons_zero]
    obtain ⟨j,hj⟩:∃ j,8=i+(j+1):=⟨7-i,by omega⟩
    have e:256*leN r=2^i*(2*(2^j*leN r)):=by
     rw [show (256:Nat)=2^8 from rfl,hj,Nat.pow_add,Nat.pow_succ]
     simp only [Nat.mul_assoc,Nat.mul_comm,Nat.mul_left_comm]
    rw [e,Nat.add_mul_div_left _ _ (Nat.two_pow_pos i),Nat.add_mul_mod_self_left]
   ·obtain ⟨j,rfl⟩:∃ j,i=j+8:=⟨i-8,by omega⟩
    have h1:=bitAt_leN r j
    have e1:bitAt (b::r) (j+8)=bitAt r j:=by
     unfold bitAt
     rw [show (j+8)/8=j/8+1 by omega,show (j+8)%8=j%8 by omega,List.getD_cons_succ]
    rw [e1,h1,leN,Nat.pow_add,show 2^j*2^8=256*2^j by rw [Nat.mul_comm],←Nat.div_div_eq_div_mul]
    have hb:=b.toNat_lt
    rw [show (b.toNat+256*leN r)/256=leN r by omega]
theorem numAt_leN (l:List UInt8) (a:Nat):∀ n,numAt l a n=leN l/2^a%2^n
 | 0=>by rw [numAt,Nat.pow_zero,Nat.mod_one]
 | n+1=>by
   rw [numAt,numAt_leN l a n,bitAt_leN,Nat.pow_add,←Nat.div_div_eq_div_mul,Nat.pow_succ,Nat.mod_mul]
   rw [Nat.mul_comm (2^n)]
def valS (S:WSt):Nat:=leN S.1+2^(8*S.1.length)*S.2.1
theorem u8_ofNat (n:Nat):(UInt8.ofNat n).toNat=n%256:=UInt8.toNat_ofNat' ..
theorem valS_flush:∀ (f:Nat) (bs:List UInt8) (acc n:Nat),valS (flushW f bs acc n)=leN bs+2^(8*bs.length)*acc
 | 0,bs,acc,n=>rfl
 | f+1,bs,acc,n=>by
   rw [flushW]
   by_cases h:8≤n
   ·rw [if_pos h,valS_flush f,leN_append,Zl,List.length_singleton,pow8]
    have e:leN [UInt8.ofNat acc]=acc%256:=by show (UInt8.ofNat acc).toNat+256*0=_;rw [u8_ofNat];omega
    rw [e]
    have e2:256*2^(8*bs.length)*(acc/256)=2^(8*bs.length)*(256*(acc/256)):=by rw [Nat.mul_comm 256,Nat.mul_assoc]
    rw [e2,Nat.add_assoc,←Nat.mul_add,Nat.mod_add_div]
   ·rw [if_neg h];rfl
theorem valS_put (S:WSt) (k v:Nat):valS (putS S k v)=valS S+2^wLen S*v:=by
 unfold putS
 rw [valS_flush]
 unfold valS wLen
 rw [Nat.pow_add,Nat.mul_add,Nat.mul_comm v,Nat.mul_assoc];omega
theorem leN_bytes {S:WSt} (h:wOk S):leN (bytesS S)=valS S:=by
 obtain ⟨h1,h2⟩:=h
 unfold bytesS bytesW valS
 by_cases h0:0<S.2.2
 ·rw [if_pos h0,leN_append]
  have h3:S.2.1<256:=by
   have:2^S.2.2≤2^8:=Nat.pow_le_pow_right (by omega) (by omega)
   omega
  have e:leN [UInt8.ofNat S.2.1]=S.2.1:=by show (UInt8.ofNat S.2.1).toNat+256*0=_;rw [u8_ofNat];omega
  rw [e]
 ·rw [if_neg h0]
  have e0:S.2.2=0:=by omega
  rw [e0,Nat.pow_zero] at h2
  have e1:S.2.1=0:=by omega
  rw [e1,Nat.mul_zero,Nat.add_zero]
theorem bytesS_length {S:WSt} (h:wOk S):(bytesS S).length=(wLen S+7)/8:=by
 obtain ⟨h1,-⟩:=h
 unfold bytesS bytesW wLen
 split
 ·rw [Zl,List.length_singleton];omega
 ·omega
def pvalP:List (Nat × Nat)→Nat
 | []=>0
 | p::r=>p.2+2^p.1*pvalP r
theorem valS_puts:∀ (l:List (Nat × Nat)) (S:WSt),wOk S→putsOk l→valS (putsS S l)=valS S+2^wLen S*pvalP l
 | [],S,_,_=>by rw [pvalP,Nat.mul_zero,Nat.add_zero];rfl
 | p::l,S,h,hl=>by
   obtain ⟨h1,h2⟩:=putS_facts h (hl p (List.mem_cons_self)).1 (hl p (List.mem_cons_self)).2
   rw [putsS_cons,valS_puts l _ h1 (fun q hq=>hl q (List.mem_cons_of_mem _ hq)),valS_put,h2,pvalP,Nat.pow_add,Nat.mul_add,Nat.mul_assoc];omega
theorem pvalP_append:∀ (a b:List (Nat × Nat)),pvalP (a++b)=pvalP a+2^putsLen a*pvalP b
 | [],b=>by show pvalP b=0+2^0*pvalP b;omega
 | p::a,b=>by
   rw [List.cons_append,pvalP,pvalP_append a b,pvalP,putsLen_cons,Nat.pow_add,Nat.mul_add,Nat.mul_assoc];omega
theorem pvalP_lt:∀ (l:List (Nat × Nat)),putsOk l→pvalP l<2^putsLen l
 | [],_=>by show 0<2^0;decide
 | p::l,h=>by
   have h1:=pvalP_lt l (fun q hq=>h q (List.mem_cons_of_mem _ hq))
   have h2:=(h p (List.mem_cons_self)).2
   rw [pvalP,putsLen_cons,Nat.pow_add]
   have h3:2^p.1*(pvalP l+1)≤2^p.1*2^putsLen l:=Nat.mul_le_mul_left _ (by omega)
   rw [Nat.mul_add] at h3
   omega
theorem leN_puts {l:List (Nat × Nat)} (h:putsOk l):leN (bytesS (putsS w0 l))=pvalP l:=by
 rw [leN_bytes (putsS_facts l w0 w0_ok h).1,valS_puts l w0 w0_ok h]
 show 0+2^(8*0)*0+2^(8*0+0)*pvalP l=_
 omega
theorem puts_length {l:List (Nat × Nat)} (h:putsOk l):(bytesS (putsS w0 l)).length=(putsLen l+7)/8:=by
 obtain ⟨h1,h2⟩:=putsS_facts l w0 w0_ok h
 rw [bytesS_length h1,h2]
 show (8*0+0+putsLen l+7)/8=_
 rw [show 8*0+0+putsLen l+7=putsLen l+7 by omega]
theorem putsOk_left {a b:List (Nat × Nat)} (h:putsOk (a++b)):putsOk a:=fun p hp=>h p (List.mem_append_left _ hp)
theorem putsOk_right {a b:List (Nat × Nat)} (h:putsOk (a++b)):putsOk b:=fun p hp=>h p (List.mem_append_right _ hp)
theorem num_puts {a b:List (Nat × Nat)} {k v:Nat} (tail:List UInt8) (h:putsOk (a++(k,v)::b)):numAt (bytesS (putsS w0 (a++(k,v)::b))++tail) (putsLen a) k=v:=by
 have h1:=pvalP_lt a (putsOk_left h)
 have h2:=(putsOk_right h (k,v) (List.mem_cons_self)).2
 have hlen:=puts_length h
 rw [numAt_leN,leN_append,leN_puts h,hlen,pvalP_append,pvalP]
 have hle:putsLen a+k≤8*((putsLen (a++(k,v)::b)+7)/8):=by
  rw [putsLen_append,putsLen_cons];show putsLen a+k≤8*((putsLen a+(k+putsLen b)+7)/8);omega
 obtain ⟨j,hj⟩:∃ j,8*((putsLen (a++(k,v)::b)+7)/8)=putsLen a+k+j:=⟨_,(Nat.add_sub_of_le hle).symm⟩
 rw [hj]
 show (pvalP a+2^putsLen a*(v+2^k*pvalP b)+2^(putsLen a+k+j)*leN tail)/2^putsLen a%2^k=v
 rw [Nat.pow_add,Nat.pow_add,Nat.mul_assoc,Nat.mul_assoc,Nat.add_assoc,←Nat.mul_add,Nat.add_mul_div_left _ _ (Nat.two_pow_pos _),Nat.div_eq_of_lt h1,Nat.zero_add,Nat.add_assoc,←Nat.mul_add,Nat.add_mul_mod_self_left]
 exact Nat.mod_eq_of_lt h2
theorem bit_puts {a b:List (Nat × Nat)} {v:Nat} (tail:List UInt8) (h:putsOk (a++(1,v)::b)):bitAt (bytesS (putsS w0 (a++(1,v)::b))++tail) (putsLen a)=v:=by
 have:=num_puts tail h
 rw [num1] at this
 exact this
theorem rest_puts {l:List (Nat × Nat)} (h:putsOk l) (k:Nat):numAt (bytesS (putsS w0 l)) (putsLen l) k=0:=by
 rw [numAt_leN,leN_puts h,Nat.div_eq_of_lt (pvalP_lt l h),Nat.zero_mod]
def cdC (l:List Nat):Nat→Nat
 | 0=>0
 | k+1=>2*cdC l k+l.count (k+1)
def cdOf (l:List Nat) (b:Nat):Nat:=2*cdC l (l.getD b 0-1)+(l.take b).count (l.getD b 0)
theorem count_step {l:List Nat} {m x:Nat} (h:l[m]? = some x) (k:Nat):(l.take (m+1)).count k=(l.take m).count k+if x=k then 1 else 0:=by
 rw [take_snocN h,List.count_append,List.count_singleton]
 simp only [beq_iff_eq]
theorem cRow_val (l:List Nat) (k:Nat) (s:List Nat × Nat):∀ m,m≤l.length→(cRow l k s m).2=s.2+(l.take m).count k ∧
 ∀ b,(cRow l k s m).1.getD b 0=if b<m∧l.getD b 0=k∧b<s.1.length then s.2+(l.take b).count k else s.1.getD b 0
 | 0,_=>⟨by simp [cRow],fun b=>by rw [cRow,if_neg (by omega)]⟩
 | m+1,hm=>by
   obtain ⟨h1,h2⟩:=cRow_val l k s m (by omega)
   have hlen:=(cRow_facts l k s m).1
   obtain ⟨x,hx⟩:∃ x,l[m]? = some x:=⟨_,Zg (by omega)⟩
   have hxd:l.getD m 0=x:=by simp [List.getD,hx]
   rw [cRow];unfold cStep
   rw [hx,count_step hx]
   by_cases hk:x=k
   ·subst hk
    rw [if_pos rfl,if_pos rfl]
    refine ⟨by show _+1=_;omega,fun b=>?_⟩
    show ((cRow l x s m).1.set m (cRow l x s m).2).getD b 0=_
    rw [getD_set,hlen,h1]
    by_cases hb:b=m
    ·subst hb
     by_cases hbl:b<s.1.length
     ·rw [if_pos ⟨rfl,hbl⟩,if_pos ⟨by omega,hxd,hbl⟩]
     ·rw [if_neg (fun h=>hbl h.2),if_neg (fun h=>hbl h.2.2),h2,if_neg (by omega)]
    ·rw [if_neg (fun h=>hb h.1),h2]
     by_cases hc:b<m∧l.getD b 0=x∧b<s.1.length
     ·rw [if_pos hc,if_pos ⟨by omega,hc.2⟩]
     ·rw [if_neg hc,if_neg (fun h=>hc ⟨by omega,h.2⟩)]
   ·rw [if_neg (fun h=>hk (Option.some.inj h)),if_neg hk]
    refine ⟨h1,fun b=>?_⟩
    rw [h2]
    by_cases hc:b<m∧l.getD b 0=k∧b<s.1.length
    ·rw [if_pos hc,if_pos ⟨by omega,hc.2⟩]
    ·rw [if_neg hc,if_neg]
     rintro ⟨h3,h4,h5⟩
     refine hc ⟨?_,h4,h5⟩
     rcases Nat.lt_or_ge b m with h6|h6
     ·exact h6
     ·exfalso
      obtain rfl:b=m:=by omega
      exact hk (hxd.symm.trans h4)
theorem cAll_val (l:List Nat) (hl:l.length≤256):∀ k,(cAll l k).2=cdC l k∧∀ b,b<l.length→0<l.getD b 0→l.getD b 0≤k→(cAll l k).1.getD b 0=cdOf l b
 | 0=>⟨rfl,fun b _ h1 h2=>by omega⟩
 | k+1=>by
   obtain ⟨h1,h2⟩:=cAll_val l hl k
   have hlen:=(cAll_facts l hl k).1
   obtain ⟨h3,h4⟩:=cRow_val l (k+1) ((cAll l k).1,2*(cAll l k).2) l.length nL
   rw [List.take_length] at h3
   refine ⟨?_,fun b hb h0 hle=>?_⟩
   ·show (cRow l (k+1) ((cAll l k).1,2*(cAll l k).2) l.length).2=_
    rw [h3,cdC,h1]
   ·show (cRow l (k+1) ((cAll l k).1,2*(cAll l k).2) l.length).1.getD b 0=_
    rw [h4 b]
    by_cases he:l.getD b 0=k+1
    ·rw [if_pos ⟨hb,he,by show b<(cAll l k).1.length;omega⟩]
     show 2*(cAll l k).2+_=_
     unfold cdOf
     rw [h1,he,Nat.add_sub_cancel]
    ·rw [if_neg (fun h=>he h.2.1)]
     exact h2 b hb h0 (by omega)
theorem codesL_val {l:List Nat} (hl:l.length≤256) {b:Nat} (hb:b<l.length) (h0:0<l.getD b 0) (h11:l.getD b 0≤11):(codesL l).getD b 0=cdOf l b:=(cAll_val l hl 11).2 b hb h0 h11
theorem cdC_mono (l:List Nat) (k:Nat):∀ d,2^d*cdC l k≤cdC l (k+d)
 | 0=>by rw [Nat.pow_zero,Nat.one_mul];exact Nat.le_refl _
 | d+1=>by
   have h:=cdC_mono l k d
   rw [show k+(d+1)=k+d+1 by omega,cdC,Nat.pow_succ,Nat.mul_comm (2^d) 2,Nat.mul_assoc]
   omega
theorem count_lt {l:List Nat} {b:Nat} (hb:b<l.length):(l.take b).count (l.getD b 0)<l.count (l.getD b 0):=by
 have hx:l[b]? = some (l.getD b 0):=by rw [List.getD,Zg hb,Option.getD_some]
 have h:=count_step hx (l.getD b 0)
 rw [if_pos rfl] at h
 have h2:=(List.take_sublist (b+1) l).count_le (l.getD b 0)
 omega
theorem cdOf_lt {l:List Nat} {b:Nat} (hb:b<l.length) (h0:0<l.getD b 0):cdOf l b<cdC l (l.getD b 0):=by
 have h:=count_lt hb
 unfold cdOf
 obtain ⟨x,hx⟩:∃ x,l.getD b 0=x+1:=⟨l.getD b 0-1,by omega⟩
 rw [hx] at h ⊢
 rw [Nat.add_sub_cancel,cdC]
 omega
theorem cdOf_far {l:List Nat} {b k d:Nat} (hx:l.getD b 0=k+(d+1)):cdC l k≤cdOf l b/2^(d+1):=by
 have h:=cdC_mono l k d
 rw [Nat.le_div_iff_mul_le (Nat.two_pow_pos _)]
 unfold cdOf
 rw [hx,show k+(d+1)-1=k+d by omega,Nat.pow_succ,Nat.mul_comm (cdC l k),Nat.mul_comm (2^d) 2,Nat.mul_assoc]
 omega
theorem count_inj {l:List Nat} {a b x:Nat} (ha:a<b) (hb:b≤l.length) (he:l.getD a 0=x):(l.take a).count x<(l.take b).count x:=by
 have hx:l[a]? = some x:=by rw [←he,List.getD,Zg (by omega:a<l.length),Option.getD_some]
 have h:=count_step hx x
 rw [if_pos rfl] at h
 have h2:((l.take b).take (a+1)).count x≤(l.take b).count x:=(List.take_sublist (a+1) (l.take b)).count_le x
 rw [List.take_take,Nat.min_eq_left (by omega)] at h2
 omega
theorem cdOf_inj {l:List Nat} {a b:Nat} (ha:a<l.length) (hb:b<l.length) (he:l.getD a 0=l.getD b 0) (hc:cdOf l a=cdOf l b):a=b:=by
 unfold cdOf at hc
 rw [he] at hc
 rcases Nat.lt_trichotomy a b with h|h|h
 ·have:=count_inj h (by omega) he;omega
 ·exact h
 ·have:=count_inj h (by omega) he.symm
  rw [he] at this
  omega
def kraftTo (k:Nat):List Nat→Nat
 | []=>0
 | x::r=>(if 0<x∧x≤k then 2^(11-x) else 0)+kraftTo k r
theorem kraftTo_zero:∀ l,kraftTo 0 l=0
 | []=>rfl
 | x::r=>by rw [kraftTo,kraftTo_zero r,if_neg (by omega)]
theorem kraftTo_succ (k:Nat):∀ l:List Nat,kraftTo (k+1) l=kraftTo k l+l.count (k+1)*2^(11-(k+1))
 | []=>by simp [kraftTo]
 | x::r=>by
   rw [kraftTo,kraftTo,kraftTo_succ k r,List.count_cons]
   by_cases h1:x=k+1
   ·subst h1
    rw [if_pos ⟨by omega,Nat.le_refl _⟩,if_neg (by omega)]
    simp only [beq_self_eq_true,if_true]
    rw [Nat.add_mul,Nat.one_mul]
    omega
   ·have h2:(x==k+1)=false:=bF h1
    rw [h2]
    simp only [Bool.false_eq_true,if_false,Nat.add_zero]
    by_cases h3:0<x∧x≤k
    ·rw [if_pos ⟨h3.1,by omega⟩,if_pos h3];omega
    ·rw [if_neg (by omega),if_neg h3];omega
theorem kraftTo_le (k:Nat):∀ l,kraftTo k l≤kraft l
 | []=>Nat.le_refl _
 | x::r=>by
   have:=kraftTo_le k r
   rw [kraftTo,kraft]
   by_cases h:0<x
   ·rw [if_pos h]
    generalize 2^(11-x)=y
    split<;>omega
   ·rw [if_neg (fun h2=>h h2.1),if_neg h];omega
theorem cdC_kraft (l:List Nat):∀ k,k≤11→cdC l k*2^(11-k)=kraftTo k l
 | 0,_=>by rw [cdC,kraftTo_zero,Nat.zero_mul]
 | k+1,h=>by
   have ih:=cdC_kraft l k (by omega)
   rw [kraftTo_succ,←ih,cdC,Nat.add_mul,show 11-k=(11-(k+1))+1 by omega,Nat.pow_succ]
   rw [Nat.mul_comm 2 (cdC l k),Nat.mul_assoc,Nat.mul_comm 2]
theorem kraft_cnt:∀ l,kraft l≤1024*cntPos l
 | []=>Nat.le_refl _
 | x::r=>by
   have:=kraft_cnt r
   rw [kraft,cntPos]
   by_cases h:0<x
   ·rw [if_pos h,if_pos h]
    have:2^(11-x)≤2^10:=Nat.pow_le_pow_right (by omega) (by omega)
    omega
   ·rw [if_neg h,if_neg h];omega
theorem kraft_may {l:List Nat} (h:mayL l=true):kraft l≤2048:=by
 unfold mayL at h
 simp only [Bool.and_eq_true,Bool.or_eq_true,beq_iff_eq] at h
 rcases h.2 with h|h
 ·omega
 ·have:=kraft_cnt l
  omega
theorem cdC_le {l:List Nat} (h:kraft l≤2048) {k:Nat} (hk:k≤11):cdC l k≤2^k:=by
 have h1:=cdC_kraft l k hk
 have h2:=kraftTo_le k l
 have h3:cdC l k*2^(11-k)≤2^k*2^(11-k):=by
  rw [←Nat.pow_add,show k+(11-k)=11 by omega,h1];omega
 exact Nat.le_of_mul_le_mul_right h3 (Nat.two_pow_pos _)
theorem decF_no {l cs:List Nat} {p q:Nat}:∀ K,(∀ k,k<K→¬(0<l.getD k 0∧p=l.getD k 0∧q=cs.getD k 0))→decF l cs K p q=none
 | 0,_=>rfl
 | K+1,h=>by
   show (if 0<l.getD K 0∧p=l.getD K 0∧q=cs.getD K 0 then some (UInt8.ofNat K) else decF l cs K p q)=_
   rw [if_neg (h K (by omega))]
   exact decF_no K (fun k hk=>h k (by omega))
theorem decF_yes {l cs:List Nat} {p q b:Nat} (h1:0<l.getD b 0∧p=l.getD b 0∧q=cs.getD b 0):∀ K,b<K→(∀ k,k<K→(0<l.getD k 0∧p=l.getD k 0∧q=cs.getD k 0)→k=b)→decF l cs K p q=some (UInt8.ofNat b)
 | 0,hb,_=>by omega
 | K+1,hb,h=>by
   show (if 0<l.getD K 0∧p=l.getD K 0∧q=cs.getD K 0 then some (UInt8.ofNat K) else decF l cs K p q)=_
   by_cases hK:0<l.getD K 0∧p=l.getD K 0∧q=cs.getD K 0
   ·rw [if_pos hK,h K (by omega) hK]
   ·rw [if_neg hK]
    refine decF_yes h1 K ?_ (fun k hk=>h k (by omega))
    rcases Nat.lt_or_ge b K with h2|h2
    ·exact h2
    ·exfalso
     obtain rfl:b=K:=by omega
     exact hK h1
theorem bitsP_split (c:Nat):∀ x j,j<x→∃ p q,bitsP c x=p++(1,c/2^(x-1-j)%2)::q∧putsLen p=j
 | 0,j,h=>by omega
 | x+1,0,_=>⟨[],bitsP c x,by rw [bitsP,List.nil_append,Nat.add_sub_cancel,Nat.sub_zero],rfl⟩
 | x+1,j+1,h=>by
   obtain ⟨p,q,h1,h2⟩:=bitsP_split c x j (by omega)
   refine ⟨(1,c/2^x%2)::p,q,?_,by rw [putsLen_cons,h2];omega⟩
   rw [bitsP,h1,List.cons_append,show x+1-1-(j+1)=x-1-j by omega]
structure CdOk (l:List Nat) (b x c:Nat):Prop where
 lt:b<l.length
 len:l.getD b 0=x
 pos:0<x
 le:x≤11
 code:(codesL l).getD b 0=c
 lt2:c<2^x
theorem CdOk.of {l:List Nat} (hm:mayL l=true) {b:Nat} (hb:b<l.length) (h0:0<l.getD b 0):CdOk l b (l.getD b 0) (cdOf l b):=by
 obtain ⟨-,h2,h3⟩:=mayL_facts hm
 have h11:=getD_leA h3 b
 exact ⟨hb,rfl,h0,h11,codesL_val h2 hb h0 h11,lT (cdOf_lt hb h0) (cdC_le (kraft_may hm) h11)⟩
theorem decF_short {l:List Nat} (hm:mayL l=true) {b k d:Nat} (hb:b<l.length) (hx:l.getD b 0=k+(d+1)):decF l (codesL l) 256 k (cdOf l b/2^(d+1))=none:=by
 obtain ⟨-,h2,h3⟩:=mayL_facts hm
 refine decF_no 256 fun a _ h=>?_
 obtain ⟨ha0,ha1,ha2⟩:=h
 have hal:a<l.length:=by
  rcases Nat.lt_or_ge a l.length with h|h
  ·exact h
  ·rw [getD_out h] at ha0;omega
 rw [codesL_val h2 hal ha0 (getD_leA h3 a)] at ha2
 have h4:=cdOf_lt hal ha0
 rw [←ha1,←ha2] at h4
 have h5:=cdOf_far hx
 omega
theorem decF_full {l:List Nat} (hm:mayL l=true) {b:Nat} (hb:b<l.length) (h0:0<l.getD b 0):decF l (codesL l) 256 (l.getD b 0) (cdOf l b)=some (UInt8.ofNat b):=by
 obtain ⟨-,h2,h3⟩:=mayL_facts hm
 refine decF_yes (b:=b) ⟨h0,rfl,(codesL_val h2 hb h0 (getD_leA h3 b)).symm⟩ 256 (by omega) fun a _ h=>?_
 obtain ⟨ha0,ha1,ha2⟩:=h
 have hal:a<l.length:=by
  rcases Nat.lt_or_ge a l.length with h|h
  ·exact h
  ·rw [getD_out h] at ha0;omega
 rw [codesL_val h2 hal ha0 (getD_leA h3 a)] at ha2
 exact cdOf_inj hal hb ha1.symm ha2.symm
theorem symD_code {l:List Nat} (hm:mayL l=true) {b:Nat} (hb:b<l.length) (h0:0<l.getD b 0) (D:List UInt8) (a:Nat) (hfit:a+l.getD b 0≤8*D.length)
 (hbits:∀ j,j<l.getD b 0→bitAt D (a+j)=cdOf l b/2^(l.getD b 0-1-j)%2):∀ r j,j+r=l.getD b 0→0<r →
 symD (decF l (codesL l) 256) D (12-j) (a+j) j (cdOf l b/2^r)=some (UInt8.ofNat b,a+l.getD b 0)
 | 0,j,_,h=>by omega
 | r+1,j,hj,_=>by
   have h11:=getD_leA (mayL_facts hm).2.2 b
   rw [show 12-j=(11-j)+1 by omega,symD,if_neg (by omega)]
   have hbit:=hbits j (by omega)
   have e1:l.getD b 0-1-j=r:=by omega
   rw [e1] at hbit
   have e2:2*(cdOf l b/2^(r+1))+bitAt D (a+j)=cdOf l b/2^r:=by
    rw [hbit,Nat.pow_succ,←Nat.div_div_eq_div_mul];omega
   rw [e2]
   cases r with
   | zero=>
     have e3:j+1=l.getD b 0:=by omega
     rw [Nat.pow_zero,Nat.div_one,e3,decF_full hm hb h0]
     show some (UInt8.ofNat b,a+j+1)=_
     rw [show a+j+1=a+l.getD b 0 by omega]
   | succ r=>
     rw [decF_short hm hb (k:=j+1) (d:=r) (by omega)]
     show symD _ D (11-j) (a+j+1) (j+1) (cdOf l b/2^(r+1))=_
     have:=symD_code hm hb h0 D a hfit hbits (r+1) (j+1) (by omega) (by omega)
     rw [show 12-(j+1)=11-j by omega,show a+(j+1)=a+j+1 by omega] at this
     exact this
theorem byteP_len (lens:List Nat) (b:UInt8):putsLen (byteP lens b)=lens.getD b.toNat 0:=by unfold byteP;rw [bitsP_len]
theorem encP_append (lens:List Nat):∀ (a b:List UInt8),encP lens (a++b)=encP lens a++encP lens b
 | [],_=>rfl
 | x::a,b=>by
   show byteP lens x++encP lens (a++b)=(byteP lens x++encP lens a)++encP lens b
   rw [encP_append lens a b,Za]
theorem decGo_enc {l:List Nat} (hm:mayL l=true) {data:List UInt8} (hd:∀ b∈data,b.toNat<l.length∧0<l.getD b.toNat 0):∀ (post pre:List UInt8),data=pre++post →
 decGo (decF l (codesL l) 256) (bodyB l data) post.length (putsLen (encP l pre)) pre=some (data,putsLen (encP l data))
 | [],pre,e=>by rw [List.append_nil] at e;subst e;rfl
 | b::post,pre,e=>by
   obtain ⟨hb1,hb2⟩:=hd b (by rw [e];exact List.mem_append_right _ List.mem_cons_self)
   have hok:=encP_ok l data
   have hlen:=puts_length hok
   have hE:encP l data=encP l pre++(byteP l b++encP l post):=by rw [e,encP_append];rfl
   obtain ⟨h11,h22,h33⟩:=mayL_facts hm
   have hsym:=symD_code hm hb1 hb2 (bodyB l data) (putsLen (encP l pre)) (by
    unfold bodyB
    show _≤8*(bytesS (putsS w0 (encP l data))).length
    rw [hlen,hE,putsLen_append,putsLen_append,byteP_len];omega) (fun j hj=>by
    obtain ⟨p,q,h1,h2⟩:=bitsP_split (cdOf l b.toNat) (l.getD b.toNat 0) j hj
    have h3:byteP l b=p++(1,cdOf l b.toNat/2^(l.getD b.toNat 0-1-j)%2)::q:=by
     unfold byteP
     rw [codesL_val h22 hb1 hb2 (getD_leA h33 _),h1]
    have h4:encP l data=(encP l pre++p)++(1,cdOf l b.toNat/2^(l.getD b.toNat 0-1-j)%2)::(q++encP l post):=by
     rw [hE,h3];simp
    have h5:=bit_puts [] (h4 ▸ hok)
    rw [List.append_nil,←h4,putsLen_append,h2] at h5
    exact h5) (l.getD b.toNat 0) 0 (by omega) hb2
   rw [Nat.div_eq_of_lt (CdOk.of hm hb1 hb2).lt2,Nat.add_zero,Nat.sub_zero] at hsym
   rw [List.length_cons,decGo,hsym]
   have e2:UInt8.ofNat b.toNat=b:=UInt8.ofNat_toNat
   have e3:putsLen (encP l pre)+l.getD b.toNat 0=putsLen (encP l (pre++[b])):=by rw [encP_snoc,putsLen_append,byteP_len]
   show decGo _ _ post.length (putsLen (encP l pre)+l.getD b.toNat 0) (pre++[UInt8.ofNat b.toNat])=_
   rw [e2,e3]
   exact decGo_enc hm hd post (pre++[b]) (by rw [e,Za];rfl)
theorem decode_body {l:List Nat} (hm:mayL l=true) {data:List UInt8} (hd:∀ b∈data,b.toNat<l.length∧0<l.getD b.toNat 0):decodeL l (bodyB l data) data.length=some data:=by
 have h:=decGo_enc hm hd data [] rfl
 have hok:=encP_ok l data
 have hlen:=puts_length hok
 unfold decodeL
 rw [if_neg (by rw [hm];simp)]
 have h':decGo (decF l (codesL l) 256) (bodyB l data) data.length 0 []=some (data,putsLen (encP l data)):=h
 rw [h']
 have hlen':(bodyB l data).length=(putsLen (encP l data)+7)/8:=hlen
 have hr:∀ k,numAt (bodyB l data) (putsLen (encP l data)) k=0:=fun k=>rest_puts hok k
 show (if numAt (bodyB l data) (putsLen (encP l data)) ((8*(bodyB l data).length-putsLen (encP l data))%8)≠0∨0<8*(bodyB l data).length-(putsLen (encP l data)+(8*(bodyB l data).length-putsLen (encP l data))%8) then none else some data)=_
 rw [if_neg]
 intro h3
 rcases h3 with h3|h3
 ·exact h3 (hr _)
 ·rw [hlen'] at h3
  omega
theorem zr_facts (l:List Nat):∀ f i,(∀ j,1≤j→j≤zr l f i→l.getD (i+j) 0=0)∧(zr l f i<f→l.getD (i+zr l f i+1) 0≠0)
 | 0,i=>⟨fun j h1 h2=>by rw [zr] at h2;omega,fun h=>by omega⟩
 | f+1,i=>by
   obtain ⟨h1,h2⟩:=zr_facts l f (i+1)
   rw [zr]
   by_cases h:l.getD (i+1) 0=0
   ·rw [if_pos h]
    refine ⟨fun j hj1 hj2=>?_,fun hz=>?_⟩
    ·by_cases hj:j=1
     ·rw [hj];exact h
     ·have:=h1 (j-1) (by omega) (by omega)
      rwa [show i+1+(j-1)=i+j by omega] at this
    ·have:=h2 (by omega)
     rwa [show i+1+zr l f (i+1)+1=i+(zr l f (i+1)+1)+1 by omega] at this
   ·rw [if_neg h]
    exact ⟨fun j hj1 hj2=>by omega,fun _=>h⟩
theorem take_zeros {l:List Nat}:∀ (k i:Nat),i+k≤l.length→(∀ j,j<k→l.getD (i+j) 0=0)→l.take (i+k)=l.take i++List.replicate k 0
 | 0,i,_,_=>by simp
 | k+1,i,hk,h=>by
   have h1:=take_zeros k i (by omega) (fun j hj=>h j (by omega))
   have h2:=h k (by omega)
   have h3:l[i+k]? = some 0:=by
    rw [List.getD,Zg (by omega:i+k<l.length),Option.getD_some] at h2
    rw [Zg (by omega:i+k<l.length),h2]
   rw [show i+(k+1)=i+k+1 by omega,take_snocN h3,h1,Za]
   congr 1
   exact (List.replicate_succ' ..).symm
theorem tabGo_tab {l:List Nat} (hm:mayL l=true) (tail:List UInt8):∀ (f i f2:Nat) (pre:List (Nat × Nat)) (short:Bool),tabAll l=pre++tabP l f i→l.length-i≤f→l.length-i≤f2→i≤l.length→(short=true→i<l.length→l.getD i 0≠0) →
 tabGo (bytesS (putsS w0 (tabAll l))++tail) l.length f2 (putsLen pre) (l.take i) short=some (l,putsLen (tabAll l)):=by
 have hlast:=mayL_last hm
 have hok:=tabAll_ok hm
 have hlen:=puts_length hok
 obtain ⟨hm1,hm2,hm3⟩:=mayL_facts hm
 intro f
 induction f with
 | zero=>
   intro i f2 pre short hE hf hf2 hi hs
   obtain rfl:i=l.length:=by omega
   rw [List.take_length,tabGo_done nL,hE,tabP,List.append_nil]
 | succ f ih=>
   intro i f2 pre short hE hf hf2 hi hs
   by_cases hin:i<l.length
   ·obtain ⟨f3,rfl⟩:∃ f3,f2=f3+1:=⟨f2-1,by omega⟩
    have htl:(l.take i).length=i:=by rw [List.length_take];omega
    have hDl:(bytesS (putsS w0 (tabAll l))++tail).length=(putsLen (tabAll l)+7)/8+tail.length:=by rw [Zl,hlen]
    rw [tabP,if_pos hin] at hE
    rw [tabGo,htl,if_neg (by omega)]
    by_cases hx:l.getD i 0=0
    ·rw [if_pos hx] at hE
     have hz:=zr_facts l 15 i
     have hz15:=zr_le l 15 i
     obtain ⟨z,hzz⟩:∃ z,z=zr l 15 i:=⟨_,rfl⟩
     rw [←hzz] at hE hz hz15
     have hiz:i+z+1≤l.length:=by
      rcases Nat.lt_or_ge (i+z) l.length with h|h
      ·omega
      ·exfalso
       by_cases h0:i=l.length-1
       ·rw [h0] at hx;omega
       ·have h1:=hz.1 (l.length-1-i) (by omega) (by omega)
        rw [show i+(l.length-1-i)=l.length-1 by omega] at h1
        omega
     have e1:=num_puts (a:=pre) (k:=4) (v:=0) (b:=(4,z)::tabP l f (i+z+1)) tail (hE ▸ hok)
     have e2:=num_puts (a:=pre++[(4,0)]) (k:=4) (v:=z) (b:=tabP l f (i+z+1)) tail (by rw [Za];exact hE ▸ hok)
     rw [←hE] at e1
     rw [Za,show [((4:Nat),(0:Nat))]++(4,z)::tabP l f (i+z+1)=(4,0)::(4,z)::tabP l f (i+z+1) from rfl,←hE,putsLen_append] at e2
     have e3:putsLen pre+putsLen [((4:Nat),(0:Nat))]=putsLen pre+4:=rfl
     rw [e3] at e2
     have hL:putsLen (tabAll l)=putsLen pre+(4+(4+putsLen (tabP l f (i+z+1)))):=by rw [hE,putsLen_append];rfl
     rw [if_neg (by omega),e1,if_neg (by simp),if_neg (by omega),e2,if_neg]
     ·have e4:l.take i++List.replicate (z+1) 0=l.take (i+z+1):=by
       rw [show i+z+1=i+(z+1) by omega,take_zeros (z+1) i (by omega)]
       intro j hj
       by_cases hj0:j=0
       ·rw [hj0];exact hx
       ·exact hz.1 j (by omega) (by omega)
      have e5:putsLen pre+4+4=putsLen (pre++[(4,0),(4,z)]):=by rw [putsLen_append];rfl
      rw [e4,e5]
      refine ih (i+z+1) f3 _ _ ?_ (by omega) (by omega) hiz ?_
      ·rw [hE,Za];rfl
      ·intro hs2 _
       have h15:=of_decide_eq_true hs2
       exact hz.2 h15
     ·rintro (h|h)
      ·exact hs h hin hx
      ·omega
    ·rw [if_neg hx] at hE
     have e1:=num_puts (a:=pre) (k:=4) (v:=l.getD i 0) (b:=tabP l f (i+1)) tail (hE ▸ hok)
     rw [←hE] at e1
     have hL:putsLen (tabAll l)=putsLen pre+(4+putsLen (tabP l f (i+1))):=by rw [hE,putsLen_append];rfl
     rw [if_neg (by omega),e1,if_pos hx]
     have hxi:l[i]? = some (l.getD i 0):=by rw [List.getD,Zg hin,Option.getD_some]
     have e5:putsLen pre+4=putsLen (pre++[(4,l.getD i 0)]):=by rw [putsLen_append];rfl
     rw [←take_snocN hxi,e5]
     refine ih (i+1) f3 _ _ ?_ (by omega) (by omega) (by omega) (fun h=>by cases h)
     rw [hE,Za];rfl
   ·obtain rfl:i=l.length:=by omega
    rw [List.take_length,tabGo_done nL,hE,tabP_end _ _ _ nL,List.append_nil]
theorem table_back {l:List Nat} (hm:mayL l=true) (tail:List UInt8):tableL (tableB l++tail)=some (l,(tableB l).length):=by
 have hok:=tabAll_ok hm
 have hlen:=puts_length hok
 obtain ⟨hm1,hm2,hm3⟩:=mayL_facts hm
 have hB:tableB l=bytesS (putsS w0 (tabAll l)):=rfl
 have hlen':(tableB l).length=(putsLen (tabAll l)+7)/8:=hlen
 have h8:numAt (tableB l++tail) 0 8=l.length-1:=num_puts (a:=[]) (k:=8) (v:=l.length-1) (b:=tabP l l.length 0) tail hok
 have hgo:=tabGo_tab hm tail l.length 0 l.length [(8,l.length-1)] false rfl (by omega) (by omega) (by omega) (fun h=>by cases h)
 have hp8:putsLen [((8:Nat),l.length-1)]=8:=rfl
 rw [hp8,List.take_zero,←hB] at hgo
 have hL:putsLen (tabAll l)=8+putsLen (tabP l l.length 0):=rfl
 have hDl:(tableB l++tail).length=(putsLen (tabAll l)+7)/8+tail.length:=by rw [Zl,hlen']
 unfold tableL
 rw [if_neg (by omega),h8,show l.length-1+1=l.length by omega,hgo]
 unfold tabEnd
 have hpad:∃ k,(8*(tableB l++tail).length-putsLen (tabAll l))%8=k∧putsLen (tabAll l)+k=8*((putsLen (tabAll l)+7)/8):=⟨_,rfl,by rw [hDl];omega⟩
 obtain ⟨k,hk,hk2⟩:=hpad
 have hz:numAt (tableB l++tail) (putsLen (tabAll l)) k=0:=by
  rw [numAt_leN,leN_append,hB,leN_puts hok,hlen,←hk2,Nat.pow_add,Nat.mul_assoc,Nat.add_mul_div_left _ _ (Nat.two_pow_pos _),Nat.div_eq_of_lt (pvalP_lt _ hok),Nat.zero_add,Nat.mul_mod_right]
 show (if numAt (tableB l++tail) (putsLen (tabAll l)) ((8*(tableB l++tail).length-putsLen (tabAll l))%8)≠0∨mayL l=false then none else _)=_
 rw [hk,hz,if_neg (by rw [hm];simp),hk2,hlen',hDl]
 congr 2
 omega
theorem num_any_back:∀ (f x i n:Nat) (tail:List UInt8),f+i=5→i≤4→x<2^(32-7*i)→n+x*2^(7*i)≤4294967295→(0<i→0<x) →
 numGo (numB f x++tail) i n=some (n+x*2^(7*i),i+(numB f x).length)
 | 0,x,i,n,tail,h1,h2,_,_,_=>by omega
 | f+1,x,i,n,tail,h1,h2,hx,hn,h0=>by
   rw [numB]
   by_cases h:128≤x
   ·rw [if_pos h,List.cons_append,numGo,if_pos (by omega)]
    have hb:(UInt8.ofNat (x%128+128)).toNat=x%128+128:=by rw [u8_ofNat];omega
    rw [hb,if_pos (by omega),show (x%128+128)%128=x%128 by omega]
    have hi3:i≤3:=by
     rcases Nat.lt_or_ge i 4 with h3|h3
     ·omega
     ·obtain rfl:i=4:=by omega
      have:(2:Nat)^(32-7*4)=16:=by decide
      omega
    have e1:2^(7*(i+1))=128*2^(7*i):=by rw [show 7*(i+1)=7*i+7 by omega,Nat.pow_add];omega
    have e2:n+x%128*2^(7*i)+x/128*2^(7*(i+1))=n+x*2^(7*i):=by
     rw [e1,←Nat.mul_assoc,Nat.add_assoc,←Nat.add_mul,show x%128+x/128*128=x by omega]
    have e3:x/128<2^(32-7*(i+1)):=by
     have h4:2^(32-7*i)=128*2^(32-7*(i+1)):=by rw [show 32-7*i=(32-7*(i+1))+7 by omega,Nat.pow_add];omega
     rw [h4] at hx
     omega
    rw [num_any_back f (x/128) (i+1) _ tail (by omega) (by omega) e3 (by rw [e2];exact hn) (fun _=>by omega),e2,List.length_cons]
    congr 2
    omega
   ·rw [if_neg h,List.cons_append,List.nil_append,numGo,if_pos (by omega)]
    have hb:(UInt8.ofNat x).toNat=x:=by rw [u8_ofNat];omega
    rw [hb,if_neg (by omega),show x%128=x by omega,if_neg]
    ·rfl
    ·rintro (h3|h3)
     ·omega
     ·have:=h0 h3.1;omega
theorem num_back {v:Nat} (hv:v≤4294967295) (tail:List UInt8):numGo (numB 5 v++tail) 0 0=some (v,(numB 5 v).length):=by
 have:=num_any_back 5 v 0 0 tail rfl (by omega) (by show v<2^32;omega) (by omega) (fun h=>by omega)
 rw [this]
 simp
theorem getGo_back:∀ (sh pre:List Nat) (front tail:List UInt8),(∀ x∈sh,x≤64)→getGo (front++(sh.flatMap (numB 5)++tail)) sh.length front.length pre=some (pre++sh,front.length+(sh.flatMap (numB 5)).length)
 | [],pre,front,tail,_=>by simp [getGo]
 | x::r,pre,front,tail,h=>by
   have hx:=h x (List.mem_cons_self)
   have h1:=num_back (v:=x) (by omega) (r.flatMap (numB 5)++tail)
   have h2:=getGo_back r (pre++[x]) (front++numB 5 x) tail (fun y hy=>h y (List.mem_cons_of_mem _ hy))
   rw [List.length_cons,getGo,List.drop_left,List.flatMap_cons,Za,h1]
   show getGo _ r.length (front.length+(numB 5 x).length) (pre++[x])=_
   rw [Zl,Za] at h2
   rw [h2,Za,Zl,Nat.add_assoc]
   rfl
theorem share_back {sh:List Nat} (hm:fmayL sh 6=true) (tail:List UInt8):shareL (shareB sh++tail)=some (sh,6,(shareB sh).length):=by
 obtain ⟨h1,h2,-,h4,-⟩:=fmayL_facts hm
 have e:shareB sh++tail=6::(numB 5 sh.length++(sh.flatMap (numB 5)++tail)):=by
  unfold shareB;simp
 have e2:(6::(numB 5 sh.length++(sh.flatMap (numB 5)++tail)):List UInt8)=(6::numB 5 sh.length)++(sh.flatMap (numB 5)++tail):=rfl
 have h5:=getGo_back sh [] (6::numB 5 sh.length) tail (fun x hx=>h4 x hx)
 rw [e,shareL_cons,num_back (v:=sh.length) (by omega)]
 show (if (6:UInt8).toNat<5∨9<(6:UInt8).toNat∨64<sh.length then none else getEnd (6:UInt8).toNat (getGo _ sh.length (1+(numB 5 sh.length).length) []))=_
 have e6:(6:UInt8).toNat=6:=rfl
 rw [e6,if_neg (by omega),e2,show 1+(numB 5 sh.length).length=(6::numB 5 sh.length).length by rw [List.length_cons];omega,h5]
 show (if fmayL ([]++sh) 6 then _ else none)=_
 rw [List.nil_append,if_pos hm]
 congr 3
 unfold shareB
 simp
 omega
end Go.Proofs.YtiihiocgbfafaaaGreat
