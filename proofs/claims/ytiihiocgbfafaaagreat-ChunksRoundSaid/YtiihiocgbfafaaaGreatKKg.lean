/- L11 -/
import Derived.Test.YtiihiocgbfafaaaGreatKKf
set_option linter.unusedSimpArgs false
set_option linter.unusedVariables false
set_option maxHeartbeats 8000000
set_option maxRecDepth 100000
namespace Go.Proofs.YtiihiocgbfafaaaGreat
open Go.RowKit Go.Maps
theorem chunksRead (sg:Nat) (c:Cch) (d:Dsk) (b:Nat) (len:Int) (w:World) (h:c.Mem d w) (hi:c.Inv d) (hb:b≤65535) (hs:w.cell? ⟨sg,0,none⟩=some (.pointer (some ⟨c.g,0,none⟩))) (hsg:¬c.fp d sg):
 Calls Tryz.prog 34 #[.pointer (some ⟨sg,0,none⟩),.agg #[.int .i64 (b:Int),.int .i64 len]] w (readPost c d b len w):=by
 have HB0:=Lh ((Below.refl w.heap.size w).alloc nL (.cells #[.int .i64 (b:Int),.int .i64 len] 24))
 have HW0:=Lh (Blk.new w 24 #[.int .i64 (b:Int),.int .i64 len])
 have HM:=Lh h
 have HInv:=Lh hi
 have HSg:=Lh hsg
 have HS:=Lh hs
 have hsl:sg<w.heap.size:=World.block_lt_of_cell? w _ hs
 obtain ⟨R,hR⟩:∃ R,readPost c d b len w=R:=⟨_,rfl⟩
 rw [hR]
 have HRe:=Lh hR
 clear h hi hR hsg hs
 go_enter Tryz.func34,Tryz.ntmps34
 go_wp2_with fail
 obtain ⟨wA,hwA⟩:∃ x,w.alloc (.cells #[.int .i64 (b:Int),.int .i64 len] 24)=x:=⟨_,rfl⟩
 rw [hwA] at HB0 HW0 ⊢
 have hsA:w.heap.size<wA.heap.size:=Blk.lt HW0.out
 clear hwA
 have HMay:=Lh (chunksMay len wA)
 have p0:=HW0.out.cell 0
 have p1:=HW0.out.cell 1
 simp only [Zt,Zz,Zs] at p0 p1
 have HSA:=Lh ((HB0.out.cell hsl).trans HS.out)
 refine HMay.out.mono ?_
 rintro e w1 ⟨rfl,rfl⟩
 by_cases hmay:1≤len∧len≤512
 ·have hde:decide (1≤len∧len≤512)=true:=qT hmay
  rw [hde]
  have HMay2:=Lh hmay
  have HMA:=Lh (HM.out.later HB0.out)
  have k0:=HSA.out
  have HIn:=Lh (HM.out.in_)
  have hsgA:sg<w1.heap.size:=Nat.lt_trans hsl hsA
  have KS:=Lh (fun (W w2:World) (hB:Below w1.heap.size w1 W) (hC:Chg (c.fp d) W w2)=>(⟨((cell_same (hC.block sg (by have:=hB.size;omega) HSg.out)).trans (hB.cell hsgA)).trans k0,((cell_same (hC.block w.heap.size (by have:=hB.size;omega) (fun hf=>by have:=HIn.out _ hf;omega))).trans (hB.cell hsA)).trans p0⟩:w2.cell? ⟨sg,0,none⟩=some (.pointer (some ⟨c.g,0,none⟩))∧w2.cell? ⟨w.heap.size,0,none⟩=some (.int .i64 (b:Int))))
  have B1:=Lh ((Below.refl w1.heap.size w1).drew)
  have B2:=Lh (((Below.refl w1.heap.size w1).alloc nL (.cells #[.int .i64 0,.slice none 0 0] 39)).drew)
  have B3:=Lh ((Below.refl w1.heap.size w1).alloc nL (.cells #[.int .i64 0,.slice none 0 0] 39))
  have S1:=Lh (KS.out _ _ B1.out (Chg.refl _ _))
  have S2:=Lh (KS.out _ _ B2.out (Chg.refl _ _))
  have Z2:=Lh (show Blk (w1.alloc (.cells #[.int .i64 0,.slice none 0 0] 39)).drew w1.heap.size 39 #[.int .i64 0,.slice none 0 0] from Blk.new w1 39 _)
  have KZ:=Lh (fun (w2:World) (hC:Chg (c.fp d) (w1.alloc (.cells #[.int .i64 0,.slice none 0 0] 39)).drew w2)=>(Blk.chg Z2.out hC (fun hf=>by have:=HIn.out _ hf;omega):Blk w2 w1.heap.size 39 #[.int .i64 0,.slice none 0 0]))
  have KA:=Lh (fun (w2:World) (hs:w1.heap.size≤w2.heap.size) (h:w2.cell? ⟨sg,0,none⟩=some (.pointer (some ⟨c.g,0,none⟩))∧w2.cell? ⟨w.heap.size,0,none⟩=some (.int .i64 (b:Int)))=>(⟨(((Below.refl w1.heap.size w2).alloc hs (.cells #[.int .i64 0,.slice none 0 0] 39)).cell hsgA).trans h.1,(((Below.refl w1.heap.size w2).alloc hs (.cells #[.int .i64 0,.slice none 0 0] 39)).cell hsA).trans h.2⟩:(w2.alloc (.cells #[.int .i64 0,.slice none 0 0] 39)).cell? ⟨sg,0,none⟩=some (.pointer (some ⟨c.g,0,none⟩))∧(w2.alloc (.cells #[.int .i64 0,.slice none 0 0] 39)).cell? ⟨w.heap.size,0,none⟩=some (.int .i64 (b:Int))))
  have KT:=Lh (fun (w2:World) (u v:Value) (g:Nat) (hg:w1.heap.size≤g) (h:w2.cell? ⟨sg,0,none⟩=some (.pointer (some ⟨c.g,0,none⟩))∧w2.cell? ⟨w.heap.size,0,none⟩=some (.int .i64 (b:Int)))=>(⟨((cell_set2 w2 sg 0 g 0 1 u v (by omega))).trans h.1,(cell_set2 w2 w.heap.size 0 g 0 1 u v (by omega)).trans h.2⟩:((w2.setCell ⟨g,0,none⟩ u).setCell ⟨g,1,none⟩ v).cell? ⟨sg,0,none⟩=some (.pointer (some ⟨c.g,0,none⟩))∧((w2.setCell ⟨g,0,none⟩ u).setCell ⟨g,1,none⟩ v).cell? ⟨w.heap.size,0,none⟩=some (.int .i64 (b:Int))))
  have HGet:=Lh (fun W (hB:Below w1.heap.size w1 W)=>cacheGet c d b W (HMA.out.later hB) HInv.out hb)
  have HGA:=Lh ((HGet.out w1.drew B1.out).mono (fun (e:Ending) (w2:World) hp=>by
   obtain ⟨c2,k,A,m,cc,body,E,he,hN2,hl2,hn2,ho2,hq2,hgE⟩:=hp.flat
   exact (⟨c2,k,A,m,cc,body,E,he,KS.out _ _ B1.out hN2.chg,KA.out w2 (Nat.le_trans B1.out.size hN2.chg.size) (KS.out _ _ B1.out hN2.chg),RdB.call_first B1.out hN2 hl2 hn2 ho2 hq2,hgE⟩:∃ (c2:Cch) (k:Int) (A:OA) (m cc:Nat) (body:List UInt8) (E:Int),e=Ending.returned (.tuple #[.agg #[Value.int .i64 k,Value.slice A m cc],Value.int .i64 E])∧(w2.cell? ⟨sg,0,none⟩=some (Value.pointer (some ⟨c.g,0,none⟩))∧w2.cell? ⟨w.heap.size,0,none⟩=some (Value.int .i64 (b:Int)))∧((w2.alloc (.cells #[Value.int .i64 0,Value.slice none 0 0] 39)).cell? ⟨sg,0,none⟩=some (Value.pointer (some ⟨c.g,0,none⟩))∧(w2.alloc (.cells #[Value.int .i64 0,Value.slice none 0 0] 39)).cell? ⟨w.heap.size,0,none⟩=some (Value.int .i64 (b:Int)))∧RdB c c2 d w1 (w2.alloc (.cells #[Value.int .i64 k,Value.slice A m cc] 39)) w2.heap.size k A m cc body∧GotE (c.view d b) k body E)))
  have HGB:=Lh ((HGet.out _ B2.out).mono (fun (e:Ending) (w2:World) hp=>by
   obtain ⟨c2,k,A,m,cc,body,E,he,hN2,hl2,hn2,ho2,hq2,hgE⟩:=hp.flat
   exact (⟨c2,k,A,m,cc,body,E,he,KS.out _ _ B2.out hN2.chg,KZ.out w2 hN2.chg,RdB.var_first HMA.out B2.out hN2 hl2 hn2 ho2 hq2 _ _ Z2.out nL,hgE⟩:∃ (c2:Cch) (k:Int) (A:OA) (m cc:Nat) (body:List UInt8) (E:Int),e=Ending.returned (.tuple #[.agg #[Value.int .i64 k,Value.slice A m cc],Value.int .i64 E])∧(w2.cell? ⟨sg,0,none⟩=some (Value.pointer (some ⟨c.g,0,none⟩))∧w2.cell? ⟨w.heap.size,0,none⟩=some (Value.int .i64 (b:Int)))∧Blk w2 w1.heap.size 39 #[Value.int .i64 0,Value.slice none 0 0]∧RdB c c2 d w1 ((w2.setCell ⟨w1.heap.size,0,none⟩ (Value.int .i64 k)).setCell ⟨w1.heap.size,1,none⟩ (Value.slice A m cc)) w1.heap.size k A m cc body∧GotE (c.view d b) k body E)))
  clear hde hmay HMay
  go_wp2_with fail
  refine Code.wp_mono (Q:=fun e a wv=>e=.normal∧∃ (g7:Nat) (c2:Cch) (k:Int) (A:OA) (m cc:Nat) (body:List UInt8) (E:Int),a=⟨#[.pointer (some ⟨sg,0,none⟩),.agg #[.int .i64 (b:Int),.int .i64 len],undef,.pointer (some ⟨w.heap.size,0,none⟩),.slice none 0 0,.slice none 0 0,.int .i64 0,.pointer (some ⟨g7,0,none⟩),.int .i64 E,undef,undef,undef,undef,undef,undef,undef,undef,undef,undef,.pointer (some ⟨w.heap.size,1,none⟩),.int .i64 len,.bool true,.bool false,.tuple #[.agg #[.int .i64 k,.slice A m cc],.int .i64 E],.pointer (some ⟨sg,0,none⟩),.pointer (some ⟨sg,0,none⟩),.pointer (some ⟨sg,0,none⟩),.pointer (some ⟨c.g,0,none⟩),.pointer (some ⟨w.heap.size,0,none⟩),.int .i64 (b:Int),.tuple #[.agg #[.int .i64 k,.slice A m cc],.int .i64 E],.agg #[.int .i64 k,.slice A m cc],.int .i64 E,undef,undef,undef,undef,undef,undef,undef,undef,undef,undef,undef,undef,undef,undef,undef,undef,undef,undef,undef,undef,undef,undef,undef,undef,undef,undef,undef,undef,undef,undef,undef,undef,undef,undef,undef,undef,undef,undef,undef,undef,undef,undef,undef,undef,undef,undef,undef,undef,undef,undef,undef,undef,undef,undef,undef,undef,undef,undef,undef,undef,undef,undef,undef,undef,undef,undef,undef,undef,undef,undef,undef,undef,undef,undef,undef,undef,undef,undef,undef,undef,undef,undef,undef,undef,undef,undef,undef,undef,undef,undef,undef,undef,undef,undef,undef,undef,undef,undef,undef,undef,undef,undef,undef,undef,undef,undef,undef,undef,undef,undef,undef,undef,undef,undef,undef,undef,undef,undef,undef,undef,undef,undef,undef,undef,undef,undef,undef,undef,undef,undef,undef],[]⟩∧RdB c c2 d w1 wv g7 k A m cc body∧GotE (c.view d b) k body E) ?imp ?reg
  case reg=>
   go_region_held3 (fun W=>W.cell? ⟨sg,0,none⟩=some (.pointer (some ⟨c.g,0,none⟩))∧W.cell? ⟨w.heap.size,0,none⟩=some (.int .i64 (b:Int)))
    (first|(exact ⟨k0,p0⟩)|(exact S1.out)|(exact S2.out)|(exact T2.out)|(exact U2.out)|(exact V2.out _ _)|go_keep)
    (first|(go_at_call 59;refine HGA.out.mono ?_;rintro e w2 ⟨c2,k,A,m,cc,body,E,rfl,t2,u2,e2,gE⟩;have T2:=Lh t2;have U2:=Lh u2;have E2:=Lh e2;have GE:=Lh gE;clear gE;have V2:=Lh (fun u v=>KT.out _ u v w2.heap.size e2.g7a u2))|(go_at_call 59;refine HGB.out.mono ?_;rintro e w2 ⟨c2,k,A,m,cc,body,E,rfl,t2,z2,e2,gE⟩;have T2:=Lh t2;have E2:=Lh e2;have GE:=Lh gE;clear gE;have V2:=Lh (fun u v=>KT.out w2 u v w1.heap.size e2.g7a t2);have z20:=z2.cell 0;have z21:=z2.cell 1;have f20:=z2.frozen 0;have f21:=z2.frozen 1))
   all_goals exact ⟨rfl,_,c2,k,A,m,cc,body,E,rfl,E2.out,GE.out⟩
  case imp=>
   clear HGA HGB HGet KT KA KZ KS S1 S2 Z2 B1 B2 B3 p0 p1 k0
   rintro e a w3 ⟨rfl,g7,c2,k,A,m,cc,body,E,ha,hrd,hgE⟩
   dsimp only at ha
   subst ha
   have HRd:=Lh hrd
   have HN3:=Lh (hrd.next.before HB0.out)
   have q0:=hrd.blk.cell 0
   have q1:=hrd.blk.cell 1
   simp only [Zt,Zz,Zs] at q0 q1
   have hlen:=hrd.len
   clear hrd
   cases hv:c.view d b with
   | none=>
     rw [hv] at hgE
     have hE2:(E != 0)=true:=bne_iff_ne.2 hgE
     have HE:=Lh (show E≠0 from hgE)
     have HRr:=Lh (by unfold readL;rw [if_pos HMay2.out,hv]:readL (c.view d) b len=none)
     clear hgE hv
     go_wp2
     go_ret3
     rw [←HRe.out]
     exact readPost_bad HRr.out HN3.out E HE.out
   | some y=>
     rw [hv] at hgE
     obtain ⟨rfl,rfl,rfl⟩:=hgE
     have HV:=Lh hv
     clear hv
     by_cases hk:y.kind=3
     ·have hk3:(y.kind:Int)=3:=by omega
      have HK3:=Lh hk
      rw [hk3] at q0 ⊢
      clear hk hk3
      by_cases hm5:5≤m
      ·have i5:¬(m:Int)<5:=by omega
       obtain ⟨gx,rfl⟩:∃ gx,A=some ⟨gx,0,none⟩:=by
        rcases Own.form HRd.out.own with ⟨-,h0,-⟩|⟨g,h,-⟩
        ·omega
        ·exact ⟨g,h⟩
       have hBs:=OwnB.bs HRd.out.own
       have HBs:=Lh hBs
       obtain ⟨BD,hBD⟩:∃ B,y.body=B:=⟨_,rfl⟩
       have HBD:=Lh hBD
       rw [hBD] at hBs hlen
       have z0:=hBs.cellD (i:=0) (by omega)
       have z1:=hBs.cellD (i:=1) (by omega)
       have z2:=hBs.cellD (i:=2) (by omega)
       have z3:=hBs.cellD (i:=3) (by omega)
       have z4:=hBs.cellD (i:=4) (by omega)
       simp only [Nat.zero_add] at z0 z1 z2 z3 z4
       clear hBs hBD
       obtain ⟨Y0,hY0⟩:∃ n,(BD.getD 0 0).toNat=n:=⟨_,rfl⟩
       obtain ⟨Y1,hY1⟩:∃ n,(BD.getD 1 0).toNat=n:=⟨_,rfl⟩
       obtain ⟨Y2,hY2⟩:∃ n,(BD.getD 2 0).toNat=n:=⟨_,rfl⟩
       obtain ⟨Y3,hY3⟩:∃ n,(BD.getD 3 0).toNat=n:=⟨_,rfl⟩
       obtain ⟨Y4,hY4⟩:∃ n,(BD.getD 4 0).toNat=n:=⟨_,rfl⟩
       have l0:Y0<256:=by rw [←hY0];exact UInt8.toNat_lt _
       have l1:Y1<256:=by rw [←hY1];exact UInt8.toNat_lt _
       have l2:Y2<256:=by rw [←hY2];exact UInt8.toNat_lt _
       have l3:Y3<256:=by rw [←hY3];exact UInt8.toNat_lt _
       have l4:Y4<256:=by rw [←hY4];exact UInt8.toNat_lt _
       rw [hY0] at z0
       rw [hY1] at z1
       rw [hY2] at z2
       rw [hY3] at z3
       rw [hY4] at z4
       have HYs:=Lh (⟨hY0,hY1,hY2,hY3,hY4⟩:(BD.getD 0 0).toNat=Y0∧(BD.getD 1 0).toNat=Y1∧(BD.getD 2 0).toNat=Y2∧(BD.getD 3 0).toNat=Y3∧(BD.getD 4 0).toNat=Y4)
       clear hY0 hY1 hY2 hY3 hY4
       have j0:(0:Int)<m:=by omega
       have j1:(1:Int)<m:=by omega
       have j2:(2:Int)<m:=by omega
       have j3:(3:Int)<m:=by omega
       have j4:(4:Int)<m:=by omega
       obtain ⟨N,hN⟩:∃ N,Y0+Y1*2^8=N:=⟨_,rfl⟩
       obtain ⟨SZ,hSZ⟩:∃ N,Y2+Y3*2^8=N:=⟨_,rfl⟩
       have o1:=or_shl8 l0 l1 hN
       have o2:=or_shl8 l2 l3 hSZ
       have hNl:N≤65535:=by omega
       have hSZl:SZ≤65535:=by omega
       have HX2:=Lh (⟨by unfold x2;rw [HYs.out.1,HYs.out.2.1,hN],by unfold x2;rw [HYs.out.2.2.1,HYs.out.2.2.2.1,hSZ],HYs.out.2.2.2.2⟩:x2 BD 0=N∧x2 BD 2=SZ∧(BD.getD 4 0).toNat=Y4)
       clear hN hSZ
       have HRd3:=Lh (by unfold readL;rw [if_pos HMay2.out,HV.out];simp only;rw [if_pos ⟨HK3.out,by rw [HBD.out,hlen];exact hm5⟩,HBD.out,HX2.out.1,HX2.out.2.1,HX2.out.2.2]:
        readL (c.view d) b len=if ((N:Nat):Int)=len∧Y4≤2∧Y4=moreN SZ∧BD.length=5+2*Y4+min SZ (235-2*Y4) then (restL (c.view d) SZ ((List.range Y4).map (fun i=>x2 BD (5+2*i))) (BD.drop (5+2*Y4))).map (fun o=>(b::(List.range Y4).map (fun i=>x2 BD (5+2*i)),o)) else none)
       go_wp2_with fail
       go_region
       clear q0 q1 z0 z1 z2 z3 z4 HBs o1 o2 j0 j1 j2 j3 j4
       have HRdD:=Lh HRd.out.drew
       clear HRd HN3
       generalize w3.drew=w4 at *
       have HN4:=Lh (HRdD.out.next.before HB0.out)
       have HBx4:=Lh (Blk.chg HW0.out HRdD.out.next.chg (fun hf=>by have:=HIn.out _ hf;omega))
       have p0:=HBx4.out.cell 0
       have p1:=HBx4.out.cell 1
       simp only [Zt,Zz,Zs] at p0 p1
       by_cases hNn:(N:Int)=len
       ·have HNn:=Lh hNn
        have hNn2:((N:Int) != len)=false:=by rw [hNn];simp
        clear hNn
        by_cases hY42:Y4≤2
        ·have i42:¬(2:Int)<Y4:=by omega
         have HMo:=Lh (chunksMore SZ w4 (by omega))
         go_wp2_with fail
         refine HMo.out.mono ?_
         rintro e w5 ⟨rfl,rfl⟩
         by_cases hYm:Y4=moreN SZ
         ·rw [←hYm]
          have HYm:=Lh hYm
          clear hYm
          have HRo:=Lh (chunksRoom Y4 w5 (by omega))
          obtain ⟨MN,hMN⟩:∃ q,min SZ (235-2*Y4)=q:=⟨_,rfl⟩
          have hmin:min (SZ:Int) (235-2*(Y4:Int))=(MN:Int):=by omega
          have HMN:=Lh hMN
          have hMNl:MN≤235:=by omega
          have r1:IntKind.i64.wrap (2*(Y4:Int))=2*Y4:=wrapi64 (by omega) (by omega)
          have r2:IntKind.i64.wrap (5+2*(Y4:Int))=5+2*Y4:=wrapi64 (by omega) (by omega)
          have r3:IntKind.i64.wrap (5+2*(Y4:Int)+MN)=5+2*Y4+MN:=wrapi64 (by omega) (by omega)
          clear hMN
          go_wp2_with fail
          refine HRo.out.mono ?_
          rintro e w6 ⟨rfl,rfl⟩
          by_cases hml:m=5+2*Y4+MN
          ·have hml2:((m:Int) != 5+2*Y4+MN)=false:=by subst hml;simp
           have hcap:m≤cc∧cc≤9223372036854775807:=Own.cap HRdD.out.own
           obtain ⟨K5,hK5⟩:∃ q,5+2*Y4=q:=⟨_,rfl⟩
           have hK5i:(5:Int)+2*(Y4:Int)=(K5:Int):=by omega
           have HK5:=Lh hK5
           obtain ⟨CA,hCA⟩:∃ q,cutA (some ⟨gx,0,none⟩) cc K5=q:=⟨_,rfl⟩
           have HCA:=Lh hCA
           have s1:(0:Int)≤5+2*(Y4:Int):=by omega
           have HML:=Lh hml
           clear hCA hK5
           have s2:(K5:Int)≤m:=by omega
           have r4:IntKind.i64.wrap (K5:Int)=K5:=wrapi64 (by omega) (by omega)
           have S12:(w6.alloc (.cells #[.int .i64 (b:Int)] 3)).drew.cell? ⟨w.heap.size,0,none⟩=some (.int .i64 (b:Int)):=(((Below.refl w6.heap.size w6).alloc nL _).cell HBx4.out.lt).trans p0
           have s3:(m:Int)≤cc:=by omega
           have s4:K5≤m:=by omega
           clear hml
           go_wp2_with fail
           refine wp_region_noPanic ?_
           refine wp_region_held_drew (S:=fun W=>W.cell? ⟨w.heap.size,0,none⟩=some (.int .i64 (b:Int))) (by kernel_rfl) p0 (fun hHeld=>?_)
           refine wpAnyH_take (i := 0) (oi := { dst := some 98, op := Op.fieldAddr 24 (Operand.tmp 3) 0, type := 0, pos := "chunks.go:167", after := #[], guard := none }) (v := .pointer (some ⟨w.heap.size, 0, none⟩)) rfl (by kernel_rfl) (by kernel_rfl) (by kernel_rfl) (fun _ _ _ h => h) (Or.inl ⟨by rfl, fun W hW => by skip; go_simp⟩) (by assumption) ?_
           try simp only [Act.put,List.setIfInBounds_toArray,List.set_cons_zero,List.set_cons_succ]
           refine wpAnyH_take (i := 1) (oi := { dst := some 99, op := Op.load 3 (Operand.tmp 98), type := 3, pos := "chunks.go:167", after := #[{ on := 0, ground := Ground.data }], guard := none }) (v := .int .i64 (b : Int)) rfl (by kernel_rfl) (by kernel_rfl) (by kernel_rfl) (fun _ _ _ h => h) (Or.inl ⟨by rfl, fun W hW => by skip; go_simp⟩) (by assumption) ?_
           try simp only [Act.put,List.setIfInBounds_toArray,List.set_cons_zero,List.set_cons_succ]
           refine wpAnyH_take (i := 3) (oi := { dst := some 101, op := Op.move (Operand.tmp 9), type := 37, pos := "chunks.go:167", after := #[], guard := none }) (v := .slice (some ⟨gx, 0, none⟩) m cc) rfl (by kernel_rfl) (by kernel_rfl) (by kernel_rfl) (fun _ _ _ h => h) (Or.inl ⟨by rfl, fun W hW => by skip; go_simp⟩) (by assumption) ?_
           try simp only [Act.put,List.setIfInBounds_toArray,List.set_cons_zero,List.set_cons_succ]
           refine wpAnyH_take (i := 4) (oi := { dst := some 102, op := Op.move (Operand.tmp 12), type := 3, pos := "chunks.go:167", after := #[], guard := none }) (v := .int .i64 (Y4 : Int)) rfl (by kernel_rfl) (by kernel_rfl) (by kernel_rfl) (fun _ _ _ h => h) (Or.inl ⟨by rfl, fun W hW => by skip; go_simp⟩) (by assumption) ?_
           try simp only [Act.put,List.setIfInBounds_toArray,List.set_cons_zero,List.set_cons_succ]
           refine wpAnyH_take (i := 5) (oi := { dst := some 103, op := Op.binOp BinOp.mul 3 (Operand.const (Value.int IntKind.i64 2)) (Operand.tmp 102) 3, type := 3, pos := "chunks.go:167", after := #[{ on := 4, ground := Ground.data }], guard := none }) (v := .int .i64 (2 * (Y4 : Int))) rfl (by kernel_rfl) (by kernel_rfl) (by kernel_rfl) (fun _ _ _ h => h) (Or.inl ⟨by rfl, fun W hW => by skip; go_simp⟩) (by assumption) ?_
           try simp only [Act.put,List.setIfInBounds_toArray,List.set_cons_zero,List.set_cons_succ]
           refine wpAnyH_take (i := 6) (oi := { dst := some 104, op := Op.binOp BinOp.add 3 (Operand.const (Value.int IntKind.i64 5)) (Operand.tmp 103) 3, type := 3, pos := "chunks.go:167", after := #[{ on := 5, ground := Ground.data }], guard := none }) (v := .int .i64 (K5 : Int)) rfl (by kernel_rfl) (by kernel_rfl) (by kernel_rfl) (fun _ _ _ h => h) (Or.inl ⟨by rfl, fun W hW => by skip; go_simp⟩) (by assumption) ?_
           try simp only [Act.put,List.setIfInBounds_toArray,List.set_cons_zero,List.set_cons_succ]
           refine wpAnyH_take (i := 7) (oi := { dst := some 105, op := Op.slice 37 (Operand.tmp 101) (some (Operand.tmp 104)) none none, type := 37, pos := "chunks.go:167", after := #[{ on := 3, ground := Ground.data }, { on := 6, ground := Ground.data }], guard := none }) (v := .slice (cutA (some ⟨gx, 0, none⟩) cc K5) (m - K5) (cc - K5)) rfl (by kernel_rfl) (by kernel_rfl) (by kernel_rfl) (fun _ _ _ h => h) (yieldsIf_slice_lo (by rfl) elemB _ _ rfl (some ⟨gx, 0, none⟩) m cc K5 rfl rfl s4) (by assumption) ?_
           try simp only [Act.put,List.setIfInBounds_toArray,List.set_cons_zero,List.set_cons_succ]
           refine wpAnyH_ready (rs:=[2]) (by kernel_rfl) (by simp) ?_
           refine AllReadyH.cons (o := { dst := some 100, op := Op.buildSlice 43 1 #[(0, Operand.tmp 99)], type := 43, pos := "chunks.go:167", after := #[{ on := 1, ground := Ground.data }], guard := none }) rfl (fun K hK => ?_) AllReadyH.nil
           go_simp
           refine hK.out _ _ ((by assumption)) (fun hHeld=>?_)
           clear hK K
           try simp only [Act.put,List.setIfInBounds_toArray,List.set_cons_zero,List.set_cons_succ]
           refine wpAnyH_take (i := 8) (oi := { dst := some 13, op := Op.assign (Operand.tmp 100), type := 43, pos := "chunks.go:167", after := #[{ on := 2, ground := Ground.data }, { on := 0, ground := Ground.phase }, { on := 1, ground := Ground.phase }, { on := 2, ground := Ground.phase }, { on := 3, ground := Ground.textOnly Departure.lateStores }, { on := 4, ground := Ground.textOnly Departure.lateStores }, { on := 5, ground := Ground.textOnly Departure.lateStores }, { on := 6, ground := Ground.textOnly Departure.lateStores }, { on := 7, ground := Ground.textOnly Departure.lateStoresUnsure }], guard := none }) (v := .slice (some ⟨w6.heap.size, 0, none⟩) 1 1) rfl (by kernel_rfl) (by kernel_rfl) (by kernel_rfl) (fun _ _ _ h => h) (Or.inl ⟨by rfl, fun W hW => by skip; go_simp⟩) (by assumption) ?_
           try simp only [Act.put,List.setIfInBounds_toArray,List.set_cons_zero,List.set_cons_succ]
           refine wpAnyH_take (i := 9) (oi := { dst := some 14, op := Op.assign (Operand.tmp 105), type := 37, pos := "chunks.go:167", after := #[{ on := 7, ground := Ground.data }, { on := 8, ground := Ground.chain }, { on := 0, ground := Ground.phase }, { on := 1, ground := Ground.phase }, { on := 2, ground := Ground.phase }, { on := 3, ground := Ground.phase }, { on := 4, ground := Ground.phase }, { on := 5, ground := Ground.phase }, { on := 6, ground := Ground.phase }, { on := 7, ground := Ground.phase }, { on := 8, ground := Ground.phase }], guard := none }) (v := .slice (cutA (some ⟨gx, 0, none⟩) cc K5) (m - K5) (cc - K5)) rfl (by kernel_rfl) (by kernel_rfl) (by kernel_rfl) (fun _ _ _ h => h) (Or.inl ⟨by rfl, fun W hW => by skip; go_simp⟩) (by assumption) ?_
           try simp only [Act.put,List.setIfInBounds_toArray,List.set_cons_zero,List.set_cons_succ]
           refine wpAnyH_done (by kernel_rfl) ?_ _
           refine NoPanic.normal ?_
           have HLp:=Lh (by
            have hown:=HRdD.out.own
            have hb6:Below w6.heap.size w6 (w6.alloc (.cells #[.int .i64 (b:Int)] 3)).drew:=((Below.refl _ _).alloc nL _).drew
            have hs1:=HB0.out.size
            have hs6:=HRdD.out.next.chg.size
            have hgx:=Own.lt hown (k:=gx) rfl
            have hob:=HRdD.out.ob gx rfl
            have hg7:=HRdD.out.blk.lt
            have hP:OwnP w6 (cutA (some ⟨gx,0,none⟩) cc K5) (m-K5) (cc-K5) (BD.drop K5):=OwnP.cut (OwnP.of (by rw [←HBD.out];exact hown)) s4
            have hbk:bk (cutA (some ⟨gx,0,none⟩) cc K5)=some gx:=bk_cut _ _ _
            have key:∀ G PRE,OwnQ w6 G PRE (cutA (some ⟨gx,0,none⟩) cc K5) (m-K5) (cc-K5) (BD.drop K5)→w.heap.size≤G→¬c2.fp d G→LpS c c2 d w (w6.alloc (.cells #[.int .i64 (b:Int)] 3)).drew G PRE (some ⟨w6.heap.size,0,none⟩) 1 1 [b] (cutA (some ⟨gx,0,none⟩) cc K5) (m-K5) (cc-K5) (BD.drop K5) Fp.none:=fun G PRE hQ hG1 hG2=>
             { next:=HN4.out.chg2 (F:=Fp.none) (Chg.of_below hb6) (fun _ h=>h.elim)
               hs:=Nat.le_trans (Nat.le_of_lt hsA) (Nat.le_trans hs6 hb6.size)
               o1:=Own.mono (Own.drew (Own.fresh w6 3 [natv b] 1 rfl)) (by omega)
               f1:=fun q hq=>by
                obtain rfl:w6.heap.size=q:=by simpa [bk] using hq
                refine ⟨fun hf=>?_,fun e=>?_,fun e=>?_,fun h=>h⟩
                ·have:=HN4.out.mem.in_ _ hf;omega
                ·rw [hbk] at e;cases e;omega
                ·subst e;have:=hQ.lt;omega
               o2:=hQ.below hb6
               f2:=fun q hq=>by
                rw [hbk] at hq
                cases hq
                exact ⟨by omega,hob.1,fun h=>h⟩
               fg:=⟨hG1,hG2,fun h=>h⟩
               fF:=fun q hq=>hq.elim }
            by_cases h0:Y4=0
            ·refine ⟨g7,[],key g7 [] (.inr ⟨by rw [hbk];intro e;cases e;exact hob.2 rfl,fun h=>by simp at h,hg7,hP⟩) (by have:=HRdD.out.g7a;omega) HRdD.out.g7b,fun h=>absurd h0 (by omega)⟩
            ·have hcck:¬cc=K5:=by
              have h1:=HML.out
              have h2:=HK5.out
              have h3:=HMN.out
              have h4:=HYm.out
              unfold moreN at h4
              omega
             have hl:(BD.take K5).length=K5:=by rw [List.length_take,hlen];omega
             refine ⟨gx,BD.take K5,key gx (BD.take K5) (.inl ⟨?_,cc,?_,by omega,by omega⟩) (by omega) hob.1,fun _=>⟨rfl,rfl⟩⟩
             ·unfold cutA
              rw [if_neg hcck,hl]
              simp [add_none]
             ·rw [hl,List.take_append_drop,show K5+(m-K5)=m by omega,←HBD.out]
              exact Own.mono hown (Nat.zero_le _):∃ G PRE,LpS c c2 d w (w6.alloc (.cells #[.int .i64 (b:Int)] 3)).drew G PRE (some ⟨w6.heap.size,0,none⟩) 1 1 [b] (cutA (some ⟨gx,0,none⟩) cc K5) (m-K5) (cc-K5) (BD.drop K5) Fp.none∧(0<Y4→G=gx∧PRE=BD.take K5))
           have hml5:m=K5+MN:=by have:=HML.out;have:=HK5.out;omega
           have HML5:=Lh hml5
           have hmk:m-K5≤SZ:=by have:=HMN.out;omega
           generalize (w6.alloc (.cells #[.int .i64 (b:Int)] 3)).drew=wL at *
           generalize w6.heap.size=gB at *
           obtain ⟨CA2,hCA2⟩:∃ q,cutA (some ⟨gx,0,none⟩) cc K5=q:=⟨_,rfl⟩
           rw [hCA2] at HLp ⊢
           obtain ⟨G,PRE,hLp,hGP⟩:=HLp.out
           have HGP:=Lh hGP
           have HL0:=Lh hLp
           obtain ⟨ats,hats⟩:∃ l,(List.range Y4).map (fun i=>x2 BD (5+2*i))=l:=⟨_,rfl⟩
           rw [hats] at HRd3
           have HAts:=Lh hats
           have hal:ats.length=Y4:=by rw [←hats];simp
           have hvl:(BD.drop K5).length=m-K5:=by rw [List.length_drop,hlen]
           obtain ⟨out0,hout0⟩:∃ l,BD.drop K5=l:=⟨_,rfl⟩
           rw [hout0] at HL0 hvl
           have HOut:=Lh hout0
           clear hLp hGP hats hout0 HLp hml5 hCA2 S12 hHeld p0 p1 HMo HRo HBx4 HCA
           clear hHeld
           go_wp2_with fail
           go_loopg [13,14,107] Y4 (fun gg s13 s14 s107 wr=>∃ (i:Nat) (c3:Cch) (A1:OA) (cc1:Nat) (A2:OA) (n2 cc2:Nat) (out:List UInt8),i≤Y4∧Y4-i≤gg∧s107=.int .i64 (i:Int)∧s13=.slice A1 (i+1) cc1∧s14=.slice A2 n2 cc2 ∧
            LpS c c3 d w wr G PRE A1 (i+1) cc1 (b::ats.take i) A2 n2 cc2 out Fp.none∧n2≤SZ∧restL (c.view d) SZ (ats.drop i) out=restL (c.view d) SZ ats out0)
           case atStart=>exact ⟨0,c2,_,_,_,_,_,out0,by omega,by omega,rfl,rfl,rfl,by simpa using HL0.out,hmk,rfl⟩
           case round=>
            obtain ⟨i,c3,A1,cc1,A2,n2,cc2,out,hi,hgg,rfl,rfl,rfl,hL,hn2,hrest⟩:=hrel
            have HGg:=Lh hgg
            have HRest:=Lh hrest
            have HL:=Lh hL
            clear hgg hrest hL
            by_cases hlt:i<Y4
            ·have HGq:=Lh (HGP.out (by omega))
             have hpre:Bs wr (some ⟨gx,0,none⟩) (BD.take K5):=by have h:=HL.out.o2.pre;rw [HGq.out.1,HGq.out.2] at h;exact h
             have hL2:LpS c c3 d w wr gx (BD.take K5) A1 (i+1) cc1 (b::ats.take i) A2 n2 cc2 out Fp.none:=by have h:=HL.out;rw [HGq.out.1,HGq.out.2] at h;exact h
             have hrdF:readL (c.view d) b len=Option.map (fun o=>(b::ats,o)) (restL (c.view d) SZ ats out0):=by
              rw [HRd3.out,if_pos ⟨HNn.out,hY42,HYm.out,by rw [hlen,HML.out,HMN.out]⟩,show 5+2*Y4=K5 from HK5.out,HOut.out]
             refine readRound hsl HSg.out HS.out hlen s4 hcap.1 hcap.2 HK5.out hY42 hSZl HAts.out hrdF hlt hpre hL2 hn2 HRest.out (fun v4 v5 v6 v15 v16 v17 v18 v108 v109 v110 v111 v112 v113 v114 v115 v116 v117 v118 v119 v120 v121 v122 v123 v124 v125 v126 v127 v128 v129 v130 v131 v132 v133 v134 v135 v136 v137 v138 v139 v140 v141 v142 v143 v144 v145 v146 v147 v148 v149 v150 v151 v152 v153 v154 v155 v156 v157 v158 v159 v160 v161 c5 A1' c1' A2' n2' c2' out' W hLn hn2n hrestn=>?_) (fun a W E c5 hE hno hNx h4 h5 h6 hdf=>?_)
             ·have HLn:=Lh (by rw [HGq.out.1,HGq.out.2];exact hLn:LpS c c5 d w W G PRE A1' (i+1+1) c1' (b::ats.take (i+1)) A2' n2' c2' out' Fp.none)
              have HRn:=Lh hrestn
              clear hLn hrestn hpre hL2 hrdF
              dsimp only
              go_wp2
              go_roundg (Y4-(i+1))
              case measure=>have:=HGg.out;omega
              case rel=>exact ⟨i+1,c5,A1',c1',A2',n2',c2',out',by omega,by omega,by go_num,rfl,rfl,HLn.out,hn2n,HRn.out⟩
             ·show bodyPost Tryz.prog Tryz.f34 R .ret a W
              refine bodyPost_ret (results_tmp3 rfl a.tmps _ W) hdf ?_
              rw [h4,h5,h6,←HRe.out]
              exact readPost_bad hno hNx E hE
            ·have hc:¬(i:Int)<(Y4:Int):=by omega
             have hie:i=Y4:=by omega
             have HIe:=Lh hie
             clear hie hlt
             go_wp2
             go_ret3
             rw [←HRe.out]
             have hL:=HL.out
             rw [HIe.out] at hL
             have hr:readL (c.view d) b len=some (b::ats,out):=by
              rw [HRd3.out,if_pos ⟨HNn.out,hY42,HYm.out,by rw [hlen,HML.out,HMN.out]⟩,show 5+2*Y4=K5 from HK5.out,HOut.out,←HRest.out,List.drop_of_length_le (by rw [hal,HIe.out];exact Nat.le_refl _)];rfl
             refine ⟨c3,hL.next,?_⟩
             rw [hr]
             rw [HIe.out]
             refine ⟨A1,Y4+1,cc1,A2,n2,cc2,rfl,by rw [List.length_cons,hal],?_,fun q hq=>(hL.f1 q hq).1,hL.o2.own.length,hL.o2.own,fun q hq=>⟨(hL.f2 q hq).1,(hL.f2 q hq).2.1⟩⟩
             have h:=hL.o1
             rwa [List.take_of_length_le (by rw [hal];exact Nat.le_refl _)] at h
          ·have hml2:((m:Int) != 5+2*Y4+MN)=true:=by rw [bne_iff_ne];omega --DONE
           have HRr:=Lh (HRd3.out.trans (by rw [if_neg (by rintro ⟨-,-,-,h⟩;rw [hlen,HMN.out] at h;exact hml h)]))
           clear hml
           go_wp2
           go_ret3
           rw [←HRe.out]
           exact readPost_bad HRr.out HN4.out 7 (by decide)
         ·have hYm2:((Y4:Int)==(moreN SZ:Nat))=false:=by rw [beq_eq_false_iff_ne];omega --DONE
          have HRr:=Lh (HRd3.out.trans (by rw [if_neg (by rintro ⟨-,-,h,-⟩;exact hYm h)]))
          clear hYm
          go_wp2
          go_ret3
          rw [←HRe.out]
          exact readPost_bad HRr.out HN4.out 7 (by decide)
        ·have i42:(2:Int)<Y4:=by omega --DONE
         have HRr:=Lh (HRd3.out.trans (by rw [if_neg (by rintro ⟨-,h,-⟩;exact hY42 h)]))
         go_wp2
         go_ret3
         rw [←HRe.out]
         exact readPost_bad HRr.out HN4.out 7 (by decide)
       ·have hNn2:((N:Int) != len)=true:=by rw [bne_iff_ne];exact hNn --DONE
        have HRr:=Lh (HRd3.out.trans (by rw [if_neg (by rintro ⟨h,-⟩;exact hNn h)]))
        clear hNn
        go_wp2
        go_ret3
        rw [←HRe.out]
        exact readPost_bad HRr.out HN4.out 7 (by decide)
      ·have i5:(m:Int)<5:=by omega --DONE
       have HRr:=Lh (by unfold readL;rw [if_pos HMay2.out,HV.out];simp only;rw [if_neg (by rw [hlen];omega)]:readL (c.view d) b len=none)
       go_wp2
       go_ret3
       rw [←HRe.out]
       exact readPost_bad HRr.out HN3.out 7 (by decide)
     ·have hk3:¬(y.kind:Int)=3:=by omega --DONE
      have HRr:=Lh (by unfold readL;rw [if_pos HMay2.out,HV.out];simp only;rw [if_neg (by rintro ⟨h,-⟩;exact hk h)]:readL (c.view d) b len=none)
      clear hk
      go_wp2
      go_ret3
      rw [←HRe.out]
      exact readPost_bad HRr.out HN3.out 7 (by decide)
 ·have hde:decide (1≤len∧len≤512)=false:=qF hmay
  rw [hde]
  have hr:readL (c.view d) b len=none:=by unfold readL;rw [if_neg hmay]
  have HRr:=Lh hr
  clear hmay hde hr
  go_wp2
  go_ret3
  rw [←HRe.out]
  exact readPost_bad HRr.out (Cch.Next.refl HM.out HInv.out HB0.out) 1 (by decide)
end Go.Proofs.YtiihiocgbfafaaaGreat
