/- J9 L9 G9 L10 G10 L12 L12b L12c -/
import Derived.Test.YtiihiocgbfafaaaGreatKKd
import Derived.Test.YtiihiocgbfafaaaGreatKKe
set_option linter.unusedSimpArgs false
set_option linter.unusedVariables false
set_option maxHeartbeats 8000000
set_option maxRecDepth 100000
namespace Go.Proofs.YtiihiocgbfafaaaGreat
open Go.RowKit Go.Maps
theorem getL_ok {n:Nat} {s:List UInt8} {b:Bk} (h:getL n s=some b):b.ok:=by
 unfold getL at h
 split at h
 ·rename_i h1;cases h;exact h1.1
 ·cases h
theorem Chg.set2 (w:World) (g i j:Nat) (u v:Value):Chg (fun b=>b=g) w ((w.setCell ⟨g,i,none⟩ u).setCell ⟨g,j,none⟩ v):=
 (Chg.setCell (F:=fun b=>b=g) w ⟨g,i,none⟩ u rfl).tr (Chg.setCell (F:=fun b=>b=g) _ ⟨g,j,none⟩ v rfl)
structure Cch.Next (c c':Cch) (d:Dsk) (w w':World):Prop where
 mem:c'.Mem d w'
 inv:c'.Inv d
 eg:c'.g=c.g
 er:c'.room=c.room
 view:∀ n,c'.view d n=c.view d n
 chg:Chg (c.fp d) w w'
 fp:∀ b,c'.fp d b→c.fp d b∨w.heap.size≤b
theorem Cch.nB_lt {c:Cch} {d:Dsk} {w:World} (h:c.Mem d w) (hi:c.Inv d):c.nB<1000000000∧c.nY<1000000000:=by
 have hN:=h.dsk.hN
 have h1:=IntT.count h.mB d.N (fun x hx=>by
  obtain ⟨y,hy⟩:=Option.isSome_iff_exists.1 hx
  exact (hi.dom x y hy).2.1)
 have h2:=IntT.count h.mY d.N (fun x hx=>by
  obtain ⟨y,hy⟩:=Option.isSome_iff_exists.1 (hi.dty x hx)
  exact (hi.dom x y hy).2.1)
 omega
theorem cacheAskedN (c:Cch) (d:Dsk) (n:Nat) (w:World) (h:c.Mem d w) (hi:c.Inv d) (hn1:50≤n) (hn2:n<d.N) (hd:c.dty n=none):
 Calls Tryz.prog 49 #[.pointer (some ⟨c.g,0,none⟩),.int .i64 (n:Int)] w fun e w'=>e=.returned (.tuple #[])∧∃ c',c.Next c' d w w'∧(∀ b,c.dty b=c'.dty b)∧Chg c.w2 w w':=by
 refine (cacheAsked c d n w h hi hn1 hn2 hd).mono ?_
 rintro e w' ⟨rfl,s,L,f,nB,hm,hc,hat,hL,hsub,hcl,hmem⟩
 refine ⟨rfl,_,⟨hm,⟨hi.r1,hi.r2,fun y x hx=>hi.dom y x (hsub y x hx),fun y hy=>?_,fun y hy=>?_,hL,fun y x hx hy=>hi.clean y x (hsub y x hx) hy⟩,rfl,rfl,fun y=>?_,hc.mono (fun b _ hb=>?_),?_⟩,fun _=>rfl,hc⟩
 ·show (f y).isSome=true
  rcases hcl y with h1|⟨-,h2⟩
  ·rw [h1];exact hi.dty y hy
  ·have hy:(c.dty y).isSome=true:=hy
   rw [h2] at hy;cases hy
 ·rcases hmem y hy with h1|rfl
  ·exact hi.ol y h1
  ·exact ⟨hn1,hn2,hd⟩
 ·unfold Cch.view
  by_cases hr:50≤y∧y<d.N
  ·rw [if_pos hr,if_pos hr]
   rcases hcl y with h1|⟨h1,h2⟩
   ·simp only [h1]
   ·simp only [h1]
    cases hy:c.blk y with
    | none=>rfl
    | some x=>exact hi.clean y x hy h2
  ·rw [if_neg hr,if_neg hr]
 ·rcases hb with h1|h1|h1
  ·exact .inr (.inl (.inl h1))
  ·exact .inr (.inl (.inr (.inl h1)))
  ·exact .inr (.inl (.inr (.inr (.inr h1))))
 ·exact Cch.fp_step rfl rfl rfl hat (fun y x hx=>.inl (hsub y x hx))
def gotPost (c:Cch) (d:Dsk) (n:Nat) (w:World) (e:Ending) (w':World):Prop:=
 ∃ c',c.Next c' d w w'∧match c.view d n with
   | some b=>∃ A m cc,e=.returned (.tuple #[.agg #[.int .i64 (b.kind:Int),.slice A m cc],.int .i64 0])∧b.body.length=m∧(A=none→m=0∧cc=0)∧OwnB w' w.heap.size A m cc b.body∧∀ q,bk A=some q→¬c'.fp d q
   | none=>∃ E:Int,E≠0∧e=.returned (.tuple #[.agg #[.int .i64 0,.slice none 0 0],.int .i64 E])
theorem Cch.Next.refl {c:Cch} {d:Dsk} {w w':World} (h:c.Mem d w) (hi:c.Inv d) (hb:Below w.heap.size w w'):c.Next c d w w':=
 ⟨h.later hb,hi,rfl,rfl,fun _=>rfl,Chg.of_below hb,fun _ h=>.inl h⟩
theorem cacheGet (c:Cch) (d:Dsk) (n:Nat) (w:World) (h:c.Mem d w) (hi:c.Inv d) (hn:n≤65535):
 Calls Tryz.prog 59 #[.pointer (some ⟨c.g,0,none⟩),.int .i64 (n:Int)] w (gotPost c d n w):=by
 have hN:=h.dsk.hN
 have hf:n<4611686018427387904:=by omega
 have HB0:=Lh ((Below.refl w.heap.size w).alloc nL (.cells #[.int .i64 0,.slice none 0 0] 39))
 have HW0:=Lh (Blk.new w 39 #[.int .i64 0,.slice none 0 0])
 have HI:=Lh (by kernel_rfl:(Tryz.prog.info? 39).map (·.size)=some 2)
 have HM:=Lh h
 have HInv:=Lh hi
 obtain ⟨R,hR⟩:∃ R,gotPost c d n w=R:=⟨_,rfl⟩
 rw [hR]
 have HRe:=Lh hR
 clear h hi hR
 go_enter Tryz.func59,Tryz.ntmps59
 go_wp2_with fail
 obtain ⟨wA,hwA⟩:∃ x,w.alloc (.cells #[.int .i64 0,.slice none 0 0] 39)=x:=⟨_,rfl⟩
 rw [hwA] at HB0 HW0 ⊢
 clear hwA
 have HMA:=Lh (HM.out.later HB0.out)
 have HTh:=Lh (cacheThere c d n wA HMA.out)
 have hsA:w.heap.size<wA.heap.size:=Blk.lt HW0.out
 --WALK
 have hsA1:wA.heap.size=wA.heap.size:=rfl
 clear hsA1
 have c0:=HW0.out.cell 0
 have c1':=HW0.out.cell 1
 have f0:=HW0.out.frozen 0
 have f1:=HW0.out.frozen 1
 simp only [Zt,Zz,Zs] at c0 c1'
 refine HTh.out.mono ?_
 rintro e w1 ⟨rfl,rfl⟩
 by_cases hth:50≤n∧n<d.N
 ·have hde:decide (50≤n∧n<d.N)=true:=qT hth
  rw [hde]
  obtain ⟨-,-,k2,k3,-⟩:=HMA.out.cells
  have HBA:=Lh ((Below.refl w1.heap.size w1).alloc nL (.cells #[.int .i64 0,.slice none 0 0] 39))
  cases hbn:c.blk n with
  | some y=>
    obtain ⟨kind,⟨pp,mm,cc⟩⟩:=y
    have Hget:=Lh (by unfold MapT.get;rw [hbn];rfl:BlkT.get c.blk n=⟨kind,⟨pp,mm,cc⟩⟩)
    have hsome:(c.blk n).isSome=true:=by rw [hbn];rfl
    obtain ⟨b1,b2,b3,b4⟩:=HMA.out.body n _ hbn
    obtain ⟨-,-,hok⟩:=HInv.out.dom n _ hbn
    have HV:=Lh (by unfold Cch.view;rw [if_pos hth];simp only [hbn]:c.view d n=some ⟨kind,c.body n⟩)
    obtain ⟨BD,hBD⟩:∃ B,c.body n=B:=⟨_,rfl⟩
    simp only at b1 b2 b3 b4 hok
    rw [hBD] at b1 b2 hok HV
    have hm240:mm≤240:=by have:=hok.2.2;simp only at this;omega
    have HLen:=Lh b2
    have HNil:=Lh b3
    have HBs1:=Lh b1
    have Hb4:=Lh b4
    have Hth:=Lh hth
    have Hbn:=Lh hbn
    clear b1 b2 b3 b4 hok hBD hbn hde
    obtain ⟨wz,hwz⟩:∃ x,w1.alloc (.cells #[.int .i64 (kind:Int),.slice pp mm cc] 39)=x:=⟨_,rfl⟩
    have HBz:=Lh (by rw [←hwz];exact (Below.refl _ _).alloc nL _:Below w1.heap.size w1 wz)
    have HZz:=Lh (by rw [←hwz];exact Blk.new w1 39 _:Blk wz w1.heap.size 39 #[.int .i64 (kind:Int),.slice pp mm cc])
    have HMz:=Lh (HMA.out.later HBz.out)
    obtain ⟨-,-,k2z,k3z,-⟩:=HMz.out.cells
    obtain ⟨wy,hwy⟩:∃ x,wz.alloc (.cells #[] 88)=x:=⟨_,rfl⟩
    have HBy:=Lh (by rw [←hwy];exact (Below.refl _ _).alloc nL _:Below wz.heap.size wz wy)
    have HB1y:=Lh (HBz.out.trans (HBy.out.mono HBz.out.size))
    have HMy:=Lh (HMz.out.later HBy.out)
    have H7y:=Lh (HZz.out.later HBy.out)
    have HWy:=Lh (Blk.later HW0.out HB1y.out)
    have HBsy:=Lh (Rd.later HBs1.out HB1y.out)
    cases hdy:c.dty n with
    | none=>
      have hds:(c.dty n).isSome=false:=by rw [hdy];rfl
      have HAsk:=Lh (cacheAskedN c d n wy HMy.out HInv.out hth.1 hth.2 hdy)
      clear hdy
      go_wp2_with (first|(refine wpList_MapT_look_ok BlkT rfl _ _ rfl c.gB c.nB c.blk rfl HMA.out.mB n hf rfl ?_;rw [Hget.out,hsome];show wpList _ _ _ _ (Act.put _ _ (.tuple #[.agg #[.int .i64 (kind:Int),.slice pp mm cc],.bool true])) _)|(refine wpList_MapT_look_ok SetT rfl _ _ rfl c.gY c.nY c.dty rfl HMz.out.mY n hf rfl ?_;rw [hds];show wpList _ _ _ _ (Act.put _ _ (.tuple #[.agg #[],.bool false])) _))
      refine HAsk.out.mono ?_
      rintro e w6 ⟨rfl,c2,hN2,-,hcw⟩
      have hw2:∀ b,c.w2 b→c.wr b:=fun b hb=>by
       rcases hb with h|h|h
       ·exact .inl h
       ·exact .inr (.inl h)
       ·exact .inr (.inr (.inr h))
      have hw2l:∀ b,c.w2 b→b<w.heap.size:=fun b hb=>HM.out.wr_lt (hw2 b hb)
      have HW6:=Lh (Blk.chg HWy.out hcw (fun h=>by have:=hw2l _ h;omega))
      have H6:=Lh (Blk.chg H7y.out hcw (fun h=>by have:=hw2l _ h;omega))
      have HBs6:=Lh (Rd.same HBsy.out (fun k hk=>hcw.block k (lT (Hb4.out k hk).1 HB1y.out.size) (fun h=>(Hb4.out k hk).2.1 (hw2 k h))))
      have N6:=Lh (⟨hN2.mem,hN2.inv,hN2.eg,hN2.er,hN2.view,(Chg.of_below (HB0.out.trans (HB1y.out.mono (Nat.le_of_lt hsA)))).trans hN2.chg (fun _ _ h=>h),fun b hb=>(hN2.fp b hb).imp id (fun h=>Nat.le_trans HB1y.out.size h)⟩:c2.Mem d w6∧c2.Inv d∧c2.g=c.g∧c2.room=c.room∧(∀ y,c2.view d y=c.view d y)∧Chg (c.fp d) w w6∧∀ b,c2.fp d b→c.fp d b∨w1.heap.size≤b)
      have hs6:w1.heap.size≤w6.heap.size:=Nat.le_trans HB1y.out.size hcw.size
      clear hN2 hcw hw2 hw2l
      have HOwn:=Lh (cacheOwn (kind:Int) pp mm cc BD w6 HLen.out HBs6.out (by omega) HNil.out)
      have p0:=H6.out.cell 0
      have p1:=H6.out.cell 1
      simp only [Zt,Zz,Zs] at p0 p1
      go_wp2_with fail
      refine HOwn.out.mono ?_
      rintro e w7 ⟨A7,c7,rfl,hA7,hO7,hb7⟩
      have HW7:=Lh (Blk.later HW6.out hb7)
      have f0:=HW7.out.frozen 0
      have f1:=HW7.out.frozen 1
      have q0:=HW7.out.cell 0
      have q1:=HW7.out.cell 1
      simp only [Zt,Zz,Zs] at q0 q1
      go_wp2
      refine bodyPost_ret (results_row_tmp rfl _ _ w.heap.size 39 _ (0,0) _ rfl (Blk.set (Blk.set HW7.out 0 (.int .i64 (kind:Int))) 1 (.slice A7 mm c7)) Tryz.underlying39 rfl HI.out) rfl ?_
      rw [←HRe.out]
      unfold gotPost
      obtain ⟨n1,n2,n3,n4,n5,n6,n7⟩:=N6.out
      have hs7:=hb7.size
      have hfpw:∀ b,c2.fp d b→b≠w.heap.size:=fun b hb e=>by
       rcases n7 b hb with h|h
       ·have:=HM.out.in_ b h;omega
       ·omega
      have hset:Chg (fun b=>b=w.heap.size) w7 ((w7.setCell ⟨w.heap.size,0,none⟩ (.int .i64 (kind:Int))).setCell ⟨w.heap.size,1,none⟩ (.slice A7 mm c7)):=Chg.set2 _ _ _ _ _ _
      have hne7:bk A7≠some w.heap.size:=fun e=>by have:=(Own.lt hO7 e).1;omega
      refine ⟨c2,⟨(n1.later hb7).chg hset (fun b hb=>hfpw b hb),n2,(by first|exact n3|rfl),(by first|exact n4|rfl),(by first|exact n5|exact fun _=>rfl),(n6.trans (Chg.of_below (F:=c.fp d) hb7) (fun _ _ h=>h)).trans hset (fun k hk e=>by omega),fun b hb=>?_⟩,?_⟩
      ·rcases n7 b hb with h|h
       ·exact .inl h
       ·exact .inr (by omega)
      ·rw [HV.out]
       exact ⟨A7,mm,c7,rfl,HLen.out,hA7,Own.mono (Own.chg hO7 hset (fun k hk e=>hne7 (by rw [hk,e]))) (by omega),fun q hq hf=>by
        have h1:=(Own.lt hO7 hq).1
        have h2:=n1.in_ q hf
        omega⟩
    | some u=>
      have hds:(c.dty n).isSome=true:=by rw [hdy];rfl
      clear hdy
      obtain ⟨w6,hw6⟩:∃ x,wy=x:=⟨_,rfl⟩
      have HW6:=Lh (by rw [←hw6];exact HWy.out:Blk w6 w.heap.size 39 #[.int .i64 0,.slice none 0 0])
      have H6:=Lh (by rw [←hw6];exact H7y.out:Blk w6 w1.heap.size 39 #[.int .i64 (kind:Int),.slice pp mm cc])
      have HBs6:=Lh (by rw [←hw6];exact HBsy.out:Bs w6 pp BD)
      have N6:=Lh (by rw [←hw6];exact ⟨HMy.out,HInv.out,rfl,rfl,fun _=>rfl,Chg.of_below (HB0.out.trans (HB1y.out.mono (Nat.le_of_lt hsA))),fun b hb=>.inl hb⟩:c.Mem d w6∧c.Inv d∧c.g=c.g∧c.room=c.room∧(∀ y,c.view d y=c.view d y)∧Chg (c.fp d) w w6∧∀ b,c.fp d b→c.fp d b∨w1.heap.size≤b)
      have hs6:w1.heap.size≤w6.heap.size:=by rw [←hw6];exact HB1y.out.size
      have HOwn:=Lh (cacheOwn (kind:Int) pp mm cc BD w6 HLen.out HBs6.out (by omega) HNil.out)
      have p0:=H6.out.cell 0
      have p1:=H6.out.cell 1
      simp only [Zt,Zz,Zs] at p0 p1
      go_wp2_with (first|(refine wpList_MapT_look_ok BlkT rfl _ _ rfl c.gB c.nB c.blk rfl HMA.out.mB n hf rfl ?_;rw [Hget.out,hsome];show wpList _ _ _ _ (Act.put _ _ (.tuple #[.agg #[.int .i64 (kind:Int),.slice pp mm cc],.bool true])) _)|(refine wpList_MapT_look_ok SetT rfl _ _ rfl c.gY c.nY c.dty rfl HMz.out.mY n hf rfl ?_;rw [hds];show wpList _ _ _ _ (Act.put _ _ (.tuple #[.agg #[],.bool true])) _))
      refine HOwn.out.mono ?_
      rintro e w7 ⟨A7,c7,rfl,hA7,hO7,hb7⟩
      have HW7:=Lh (Blk.later HW6.out hb7)
      have f0:=HW7.out.frozen 0
      have f1:=HW7.out.frozen 1
      have q0:=HW7.out.cell 0
      have q1:=HW7.out.cell 1
      simp only [Zt,Zz,Zs] at q0 q1
      go_wp2
      refine bodyPost_ret (results_row_tmp rfl _ _ w.heap.size 39 _ (0,0) _ rfl (Blk.set (Blk.set HW7.out 0 (.int .i64 (kind:Int))) 1 (.slice A7 mm c7)) Tryz.underlying39 rfl HI.out) rfl ?_
      rw [←HRe.out]
      unfold gotPost
      obtain ⟨n1,n2,n3,n4,n5,n6,n7⟩:=N6.out
      have hs7:=hb7.size
      have hfpw:∀ b,c.fp d b→b≠w.heap.size:=fun b hb e=>by
       rcases n7 b hb with h|h
       ·have:=HM.out.in_ b h;omega
       ·omega
      have hset:Chg (fun b=>b=w.heap.size) w7 ((w7.setCell ⟨w.heap.size,0,none⟩ (.int .i64 (kind:Int))).setCell ⟨w.heap.size,1,none⟩ (.slice A7 mm c7)):=Chg.set2 _ _ _ _ _ _
      have hne7:bk A7≠some w.heap.size:=fun e=>by have:=(Own.lt hO7 e).1;omega
      refine ⟨c,⟨(n1.later hb7).chg hset (fun b hb=>hfpw b hb),n2,(by first|exact n3|rfl),(by first|exact n4|rfl),(by first|exact n5|exact fun _=>rfl),(n6.trans (Chg.of_below (F:=c.fp d) hb7) (fun _ _ h=>h)).trans hset (fun k hk e=>by omega),fun b hb=>?_⟩,?_⟩
      ·rcases n7 b hb with h|h
       ·exact .inl h
       ·exact .inr (by omega)
      ·rw [HV.out]
       exact ⟨A7,mm,c7,rfl,HLen.out,hA7,Own.mono (Own.chg hO7 hset (fun k hk e=>hne7 (by rw [hk,e]))) (by omega),fun q hq hf=>by
        have h1:=(Own.lt hO7 hq).1
        have h2:=n1.in_ q hf
        omega⟩
  | none=>
    have Hget:=Lh (by unfold MapT.get;rw [hbn];rfl:BlkT.get c.blk n=⟨0,⟨none,0,0⟩⟩)
    have hsome:(c.blk n).isSome=false:=by rw [hbn];rfl
    have hvw:c.view d n=getL n (d.sec n):=by unfold Cch.view;rw [if_pos hth];simp only [hbn]
    have Hvw:=Lh hvw
    have hdy:c.dty n=none:=by
     cases h:c.dty n with
     | none=>rfl
     | some u=>have:=HInv.out.dty n (by rw [h];rfl);rw [hbn] at this;cases this
    have Hbn:=Lh hbn
    obtain ⟨wu,hwu⟩:∃ x,w1.alloc (.cells #[.int .i64 0,.slice none 0 0] 39)=x:=⟨_,rfl⟩
    have hBu:Below w1.heap.size w1 wu:=by rw [←hwu];exact (Below.refl _ _).alloc nL _
    have hZu:Blk wu w1.heap.size 39 #[.int .i64 0,.slice none 0 0]:=by rw [←hwu];exact Blk.new w1 39 _
    have u0:=hZu.cell 0
    have u1:=hZu.cell 1
    have v0:=hZu.frozen 0
    have v1:=hZu.frozen 1
    simp only [Zt,Zz,Zs] at u0 u1
    obtain ⟨wz,hwz⟩:∃ x,(wu.setCell ⟨w1.heap.size,0,none⟩ (.int .i64 0)).setCell ⟨w1.heap.size,1,none⟩ (.slice none 0 0)=x:=⟨_,rfl⟩
    have HBz:=Lh (by rw [←hwz];exact (hBu.setCell nL _).setCell nL _:Below w1.heap.size w1 wz)
    have HZz:=Lh (by rw [←hwz];exact Blk.set (Blk.set hZu 0 (.int .i64 0)) 1 (.slice none 0 0):Blk wz w1.heap.size 39 #[.int .i64 0,.slice none 0 0])
    have HMz:=Lh (HMA.out.later HBz.out)
    obtain ⟨k0z,-,k2z,k3z,-⟩:=HMz.out.cells
    have HRd:=Lh (diskRead d n wz HMz.out.dsk hth.2)
    have hsl:=Dsk.sec_len HMz.out.dsk hth.2
    clear hvw hde hbn
    go_wp2_with (first|(refine wpList_MapT_look_ok BlkT rfl _ _ rfl c.gB c.nB c.blk rfl HMA.out.mB n hf rfl ?_;rw [Hget.out,hsome];show wpList _ _ _ _ (Act.put _ _ (.tuple #[.agg #[.int .i64 0,.slice none 0 0],.bool false])) _))
    refine HRd.out.mono ?_
    rintro e w2 ⟨g8,rfl,hbs,hg8,hg8l,hb2⟩
    have HGet:=Lh (blockGet n g8 (d.sec n) w2 hn hsl hbs)
    have HB2:=Lh (HBz.out.trans (hb2.mono HBz.out.size))
    have hz2:=Nat.le_trans HBz.out.size hb2.size
    have HZ2:=Lh (Blk.later HZz.out hb2)
    have hz2l:w1.heap.size<w2.heap.size:=Blk.lt HZ2.out
    clear hbs hg8 hg8l hb2 HRd HZz hBu hZu u0 u1 v0 v1 hwu hwz k0z k2z k3z
    go_wp2_with fail
    refine HGet.out.mono ?_
    rintro e w3 ⟨hb3,hp3⟩
    have HB3:=Lh (HB2.out.trans (hb3.mono HB2.out.size))
    have HZ3:=Lh (Blk.later HZ2.out hb3)
    have HW3:=Lh (Blk.later HW0.out HB3.out)
    have z0:=HZ3.out.cell 0
    have z1:=HZ3.out.cell 1
    have y0:=HZ3.out.frozen 0
    have y1:=HZ3.out.frozen 1
    have x0:=HW3.out.cell 0
    have x1:=HW3.out.cell 1
    have r0:=HW3.out.frozen 0
    have r1:=HW3.out.frozen 1
    simp only [Zt,Zz,Zs] at z0 z1 x0 x1
    have hgne:w.heap.size≠w1.heap.size:=by omega
    clear HGet HB2 HZ2 hb3
    cases hgl:getL n (d.sec n) with
    | none=>
      rw [hgl] at hp3 Hvw
      obtain ⟨E,hE,rfl⟩:=hp3
      have hE2:(E==0)=false:=bF hE
      have hE3:(E != 0)=true:=bne_iff_ne.2 hE
      have HE:=Lh hE
      clear hgl hE
      go_wp2
      refine bodyPost_ret (results_row_tmp rfl _ _ w.heap.size 39 _ (0,0) _ rfl (Blk.set (Blk.set (Blk.chg HW3.out (Chg.set2 w3 w1.heap.size 0 1 (.int .i64 0) (.slice none 0 0)) hgne) 0 (.int .i64 0)) 1 (.slice none 0 0)) Tryz.underlying39 rfl HI.out) rfl ?_
      rw [←HRe.out]
      have hbe:Below w.heap.size w w3:=HB0.out.trans (HB3.out.mono (Nat.le_of_lt hsA))
      refine ⟨c,Cch.Next.refl HM.out HInv.out ((((hbe.setCell (Nat.le_of_lt hsA) _).setCell (Nat.le_of_lt hsA) _).setCell nL _).setCell nL _),?_⟩
      rw [Hvw.out]
      exact ⟨E,HE.out,rfl⟩
    | some bb=>
      rw [hgl] at hp3 Hvw
      obtain ⟨kind,BD⟩:=bb
      obtain ⟨pp,mm,cc,rfl,hlen,hnil,hown⟩:=hp3
      obtain ⟨wv,hwv⟩:∃ x,(w3.setCell ⟨w1.heap.size,0,none⟩ (.int .i64 (kind:Int))).setCell ⟨w1.heap.size,1,none⟩ (.slice pp mm cc)=x:=⟨_,rfl⟩
      have hset:Chg (fun b=>b=w1.heap.size) w3 wv:=by rw [←hwv];exact Chg.set2 _ _ _ _ _ _
      have H7:=Lh (by rw [←hwv];exact Blk.set (Blk.set HZ3.out 0 (.int .i64 (kind:Int))) 1 (.slice pp mm cc):Blk wv w1.heap.size 39 #[.int .i64 (kind:Int),.slice pp mm cc])
      have HBv:=Lh (by rw [←hwv];exact (HB3.out.setCell nL _).setCell nL _:Below w1.heap.size w1 wv)
      have HWv:=Lh (Blk.later HW0.out HBv.out)
      have HMv:=Lh (HMA.out.later HBv.out)
      have HOv:=Lh (Own.chg hown hset (fun k hk e=>by
       have:=(Own.lt hown hk).1
       omega):OwnB wv w2.heap.size pp mm cc BD)
      have HLen:=Lh hlen
      have HNil:=Lh hnil
      have Hgl:=Lh hgl
      obtain ⟨-,-,k2v,k3v,-⟩:=HMv.out.cells
      have t0:=H7.out.cell 0
      have t1:=H7.out.cell 1
      simp only [Zt,Zz,Zs] at t0 t1
      have Hdy:=Lh hdy
      clear hset hown hlen hnil hgl hdy HZ3 HW3 HB3 x0 x1 r0 r1
      go_wp2_with fail
      have hnB:=(Cch.nB_lt HMA.out HInv.out).1
      obtain ⟨w5,hrun,hAt5,hg5⟩:=MapT.At.set_run (w:=wv.drew) (show BlkT.At wv.drew c.gB c.nB c.blk from HMv.out.mB) hnB (p:=n) hf ⟨kind,⟨pp,mm,cc⟩⟩ inferInstance
      have hrun':(Instr.mapUpdate 84 (.map (some c.gB)) (.int .i64 (n:Int)) (.agg #[.int .i64 (kind:Int),.slice pp mm cc])).run Tryz.prog wv.drew=.ok () w5:=hrun
      have hg5':wv.grownBy w5 (some c.gB):=⟨hg5.os,hg5.tape,hg5.output,hg5.size,hg5.block⟩
      have hc5:Chg (fun b=>b=c.gB) wv w5:=Chg.of_grown hg5' (fun b hb _=>by cases hb;rfl)
      have hgB:c.gB<w.heap.size:=HM.out.wr_lt (.inr (.inl rfl))
      have h75:Blk w5 w1.heap.size 39 #[.int .i64 (kind:Int),.slice pp mm cc]:=Blk.chg H7.out hc5 (fun e=>by omega)
      have s0:=h75.cell 0
      have s1:=h75.cell 1
      simp only [Zt,Zz,Zs] at s0 s1
      have k25:w5.cell? ⟨c.g,2,none⟩=some (.map (some c.gB)):=(cell_same (hc5.block c.g HMv.out.row.lt HM.out.a1)).trans k2v
      go_region_held3 (fun W=>W.cell? ⟨c.g,2,none⟩=some (.map (some c.gB))∧W.cell? ⟨w1.heap.size,0,none⟩=some (.int .i64 (kind:Int))∧W.cell? ⟨w1.heap.size,1,none⟩=some (.slice pp mm cc)) (first|(exact ⟨k2v,t0,t1⟩)|(exact ⟨k25,s0,s1⟩)) (fail)
      have hoq:∀ q,bk pp=some q→w2.heap.size≤q∧q<wv.heap.size:=fun q hq=>Own.lt HOv.out hq
      have hc15:Chg c.wr w1 w5:=(Chg.of_below HBv.out).trans hc5 (fun k hk e=>.inr (.inl e))
      obtain ⟨nB',hnB'⟩:∃ k,(if (c.blk n).isSome then c.nB else c.nB+1)=k:=⟨_,rfl⟩
      rw [hnB'] at hAt5
      obtain ⟨c1,hc1⟩:∃ c1:Cch,c1={ c with nB:=nB',blk:=fun y=>if y=n then some ⟨kind,⟨pp,mm,cc⟩⟩ else c.blk y,body:=fun y=>if y=n then BD else c.body y }:=⟨_,rfl⟩
      have hok:=getL_ok Hgl.out
      have hord:∀ q,bk c.ord.p=some q→q<w1.heap.size:=fun q hq=>HMA.out.own.lt hq
      have HM1:=Lh (by
       rw [hc1]
       refine HMA.out.step hc15 rfl rfl rfl ((hc5.block c.g HMv.out.row.lt HM.out.a1).trans HMv.out.row) hAt5 (HMv.out.mY.chg hc5 (fun e=>HM.out.a3 e.symm)) (HMv.out.own.chg hc5 (fun k hk e=>HM.out.a4.2.1 (by rw [hk,e]))) (fun q hq=>.inl hq) (fun y x hx=>?_)
       have hx:(if y=n then some (⟨kind,⟨pp,mm,cc⟩⟩:Bx) else c.blk y)=some x:=hx
       show (c.blk y=some x∧(if y=n then BD else c.body y)=c.body y)∨(Bs w5 x.s.p (if y=n then BD else c.body y)∧(if y=n then BD else c.body y).length=x.s.n∧_)
       by_cases e:y=n
       ·rw [if_pos e] at hx
        cases hx
        rw [if_pos e]
        exact .inr ⟨Rd.same (OwnB.bs HOv.out) (fun k hk=>hc5.block k (hoq k hk).2 (fun e=>by have:=hoq k hk;omega)),HLen.out,HNil.out,fun q hq=>⟨by have:=hoq q hq;omega,lT (hoq q hq).2 hc5.size,fun e=>by have:=hord q e;have:=hoq q hq;omega⟩⟩
       ·rw [if_neg e] at hx ⊢
        exact .inl ⟨hx,rfl⟩:c1.Mem d w5)
      have HI1:=Lh (by
       rw [hc1]
       have hi:=HInv.out
       refine ⟨hi.r1,hi.r2,fun y x hx=>?_,fun y hy=>?_,hi.ol,hi.ln,fun y x hx hy=>?_⟩
       ·have hx:(if y=n then some (⟨kind,⟨pp,mm,cc⟩⟩:Bx) else c.blk y)=some x:=hx
        show 50≤y∧y<d.N∧(⟨x.kind,if y=n then BD else c.body y⟩:Bk).ok
        by_cases e:y=n
        ·rw [if_pos e] at hx ⊢
         cases hx
         subst e
         exact ⟨hth.1,hth.2,hok⟩
        ·rw [if_neg e] at hx ⊢
         exact hi.dom y x hx
       ·show (if y=n then some (⟨kind,⟨pp,mm,cc⟩⟩:Bx) else c.blk y).isSome=true
        by_cases e:y=n
        ·rw [if_pos e];rfl
        ·rw [if_neg e];exact hi.dty y hy
       ·have hx:(if y=n then some (⟨kind,⟨pp,mm,cc⟩⟩:Bx) else c.blk y)=some x:=hx
        show getL y (d.sec y)=some ⟨x.kind,if y=n then BD else c.body y⟩
        by_cases e:y=n
        ·rw [if_pos e] at hx ⊢
         cases hx
         subst e
         exact Hgl.out
        ·rw [if_neg e] at hx ⊢
         exact hi.clean y x hx hy:c1.Inv d)
      have HVw:=Lh (by
       rw [hc1]
       intro y
       unfold Cch.view
       by_cases hr:50≤y∧y<d.N
       ·rw [if_pos hr,if_pos hr]
        by_cases e:y=n
        ·subst e
         simp only [if_true,Hbn.out,Hgl.out]
        ·simp only [if_neg e]
       ·rw [if_neg hr,if_neg hr]:∀ y,c1.view d y=c.view d y)
      have HF1:=Lh (by
       rw [hc1]
       exact Cch.fp_step rfl rfl rfl (fun q hq=>.inl hq) (fun y x hx=>by
        have hx:(if y=n then some (⟨kind,⟨pp,mm,cc⟩⟩:Bx) else c.blk y)=some x:=hx
        by_cases e:y=n
        ·rw [if_pos e] at hx
         cases hx
         exact .inr (fun q hq=>by have:=hoq q hq;omega)
        ·rw [if_neg e] at hx
         exact .inl hx):∀ b,c1.fp d b→c.fp d b∨w1.heap.size≤b)
      have HDy1:=Lh (by rw [hc1];exact Hdy.out:c1.dty n=none)
      have HE1:=Lh (by rw [hc1];exact ⟨rfl,rfl,rfl,rfl,rfl⟩:c1.g=c.g∧c1.gB=c.gB∧c1.gY=c.gY∧c1.room=c.room∧c1.ord=c.ord)
      have HC1:=Lh ((Chg.of_below (HB0.out.trans (HBv.out.mono (Nat.le_of_lt hsA)))).trans hc5 (fun k hk e=>by subst e;exact .inr (.inl (.inr (.inl rfl)))):Chg (c.fp d) w w5)
      have HW5:=Lh (Blk.chg HWv.out hc5 (fun e=>by omega))
      have H75:=Lh h75
      have HBs5:=Lh (Rd.same (OwnB.bs HOv.out) (fun k hk=>hc5.block k (hoq k hk).2 (fun e=>by have:=hoq k hk;omega)):Bs w5 pp BD)
      have Hoq:=Lh hoq
      have h5s:=hc5.size
      have hm240:mm≤240:=by have:=hok.2.2;have:=HLen.out;simp only at *;omega
      clear hc1 hoq hc15 hord hAt5 hrun hrun' hg5 hg5' hc5 h75 s0 s1 k25 k2v k3v t0 t1 hok hnB'
      have k35:w5.cell? ⟨c.g,3,none⟩=some (.map (some c.gY)):=by
       have h:=HM1.out.cells.2.2.2.1
       rw [HE1.out.1,HE1.out.2.2.1] at h
       exact h
      have HmY:=Lh (by
       have h:=HM1.out.mY
       rw [HE1.out.2.2.1] at h
       exact h:SetT.At w5 c.gY c1.nY c1.dty)
      have hds:(c1.dty n).isSome=false:=by rw [HDy1.out];rfl
      obtain ⟨wy,hwy⟩:∃ x,w5.alloc (.cells #[] 88)=x:=⟨_,rfl⟩
      have HBy:=Lh (by rw [←hwy];exact (Below.refl _ _).alloc nL _:Below w5.heap.size w5 wy)
      have HMy:=Lh (HM1.out.later HBy.out)
      have HAsk:=Lh (by
       have h:=cacheAskedN c1 d n wy HMy.out HI1.out hth.1 hth.2 HDy1.out
       rw [HE1.out.1] at h
       exact h)
      go_wp2_with (first|(refine wpList_MapT_look_ok SetT rfl _ _ rfl c.gY c1.nY c1.dty rfl HmY.out n hf rfl ?_;rw [hds];show wpList _ _ _ _ (Act.put _ _ (.tuple #[.agg #[],.bool false])) _))
      refine HAsk.out.mono ?_
      rintro e w6 ⟨rfl,c2,hN2,-,hcw⟩
      have hw2l:∀ b,c1.w2 b→b<w.heap.size:=fun b hb=>by
       unfold Cch.w2 at hb
       rw [HE1.out.1,HE1.out.2.1,HE1.out.2.2.2.2] at hb
       rcases hb with h|h|h
       ·exact HM.out.wr_lt (.inl h)
       ·exact HM.out.wr_lt (.inr (.inl h))
       ·exact HM.out.wr_lt (.inr (.inr (.inr h)))
      have HW6:=Lh (Blk.chg (HW5.out.later HBy.out) hcw (fun h=>by have:=hw2l _ h;omega))
      have H6:=Lh (Blk.chg (H75.out.later HBy.out) hcw (fun h=>by have:=hw2l _ h;omega))
      have HBs6:=Lh (Rd.same (Rd.later HBs5.out HBy.out) (fun k hk=>hcw.block k (by have:=Hoq.out k hk;have:=HBy.out.size;omega) (fun h=>by have:=hw2l _ h;have:=Hoq.out k hk;omega)))
      have HV:=Lh Hvw.out
      have hBys:=HBy.out.size
      have h1w5:w1.heap.size≤w5.heap.size:=Nat.le_trans HBv.out.size h5s
      have N6:=Lh (⟨hN2.mem,hN2.inv,hN2.eg.trans HE1.out.1,hN2.er.trans HE1.out.2.2.2.1,fun y=>(hN2.view y).trans (HVw.out y),(HC1.out.trans (Chg.of_below (F:=c.fp d) HBy.out) (fun _ _ h=>h)).trans hN2.chg (fun k hk hf=>(HF1.out k hf).elim id (fun h=>by omega)),fun b hb=>(hN2.fp b hb).elim (fun h=>HF1.out b h) (fun h=>.inr (by omega))⟩:c2.Mem d w6∧c2.Inv d∧c2.g=c.g∧c2.room=c.room∧(∀ y,c2.view d y=c.view d y)∧Chg (c.fp d) w w6∧∀ b,c2.fp d b→c.fp d b∨w1.heap.size≤b)
      have hs6:w1.heap.size≤w6.heap.size:=Nat.le_trans h1w5 (Nat.le_trans hBys hcw.size)
      clear hN2 hcw hw2l
      have HOwn:=Lh (cacheOwn (kind:Int) pp mm cc BD w6 HLen.out HBs6.out (by omega) HNil.out)
      have p0:=H6.out.cell 0
      have p1:=H6.out.cell 1
      simp only [Zt,Zz,Zs] at p0 p1
      go_wp2_with fail
      refine HOwn.out.mono ?_
      rintro e w7 ⟨A7,c7,rfl,hA7,hO7,hb7⟩
      have HW7:=Lh (Blk.later HW6.out hb7)
      have f0:=HW7.out.frozen 0
      have f1:=HW7.out.frozen 1
      have q0:=HW7.out.cell 0
      have q1:=HW7.out.cell 1
      simp only [Zt,Zz,Zs] at q0 q1
      go_wp2
      refine bodyPost_ret (results_row_tmp rfl _ _ w.heap.size 39 _ (0,0) _ rfl (Blk.set (Blk.set HW7.out 0 (.int .i64 (kind:Int))) 1 (.slice A7 mm c7)) Tryz.underlying39 rfl HI.out) rfl ?_
      rw [←HRe.out]
      unfold gotPost
      obtain ⟨n1,n2,n3,n4,n5,n6,n7⟩:=N6.out
      have hs7:=hb7.size
      have hfpw:∀ b,c2.fp d b→b≠w.heap.size:=fun b hb e=>by
       rcases n7 b hb with h|h
       ·have:=HM.out.in_ b h;omega
       ·omega
      have hset:Chg (fun b=>b=w.heap.size) w7 ((w7.setCell ⟨w.heap.size,0,none⟩ (.int .i64 (kind:Int))).setCell ⟨w.heap.size,1,none⟩ (.slice A7 mm c7)):=Chg.set2 _ _ _ _ _ _
      have hne7:bk A7≠some w.heap.size:=fun e=>by have:=(Own.lt hO7 e).1;omega
      refine ⟨c2,⟨(n1.later hb7).chg hset (fun b hb=>hfpw b hb),n2,(by first|exact n3|rfl),(by first|exact n4|rfl),(by first|exact n5|exact fun _=>rfl),(n6.trans (Chg.of_below (F:=c.fp d) hb7) (fun _ _ h=>h)).trans hset (fun k hk e=>by omega),fun b hb=>?_⟩,?_⟩
      ·rcases n7 b hb with h|h
       ·exact .inl h
       ·exact .inr (by omega)
      ·rw [HV.out]
       exact ⟨A7,mm,c7,rfl,HLen.out,hA7,Own.mono (Own.chg hO7 hset (fun k hk e=>hne7 (by rw [hk,e]))) (by omega),fun q hq hf=>by
        have h1:=(Own.lt hO7 hq).1
        have h2:=n1.in_ q hf
        omega⟩
 ·have hde:decide (50≤n∧n<d.N)=false:=qF hth
  have hv:c.view d n=none:=by unfold Cch.view;rw [if_neg hth]
  have HV:=Lh hv
  rw [hde]
  clear hv hth hde
  go_wp2
  refine bodyPost_ret (results_row_tmp rfl _ _ w.heap.size 39 _ (0,0) _ rfl (Blk.set (Blk.set HW0.out 0 (.int .i64 0)) 1 (.slice none 0 0)) Tryz.underlying39 rfl HI.out) rfl ?_
  rw [←HRe.out]
  refine ⟨c,Cch.Next.refl HM.out HInv.out ((HB0.out.setCell nL _).setCell nL _),?_⟩
  rw [HV.out]
  exact ⟨2,by decide,rfl⟩
theorem chunksMay (n:Int) (w:World):Calls Tryz.prog 36 #[.int .i64 n] w fun e w'=>e=.returned (.bool (decide (1≤n∧n≤512)))∧w'=w:=by
 by_cases h1:1≤n
 ·by_cases h2:n≤512
  ·have H:=Lh (qT (And.intro h1 h2))
   go_enter Tryz.func36,Tryz.ntmps36
   go_wp2
   go_ret
   exact ⟨by rw [H.out];rfl,rfl⟩
  ·go_enter Tryz.func36,Tryz.ntmps36
   go_wp2
   go_ret
   exact ⟨by rw [qF (show ¬n≤512 by omega)];rfl,rfl⟩
 ·go_enter Tryz.func36,Tryz.ntmps36
  go_wp2
  go_ret
  exact ⟨by rw [qF (show ¬1≤n by omega)];rfl,rfl⟩
theorem chunksRoom (k:Nat) (w:World) (hk:k≤1000000):Calls Tryz.prog 60 #[.int .i64 (k:Int)] w fun e w'=>e=.returned (.int .i64 (235-2*(k:Int)))∧w'=w:=by
 have e1:IntKind.i64.wrap (2*(k:Int))=2*k:=wrapi64 (by omega) (by omega)
 have e2:IntKind.i64.wrap (235-2*(k:Int))=235-2*k:=wrapi64 (by omega) (by omega)
 go_enter Tryz.func60,Tryz.ntmps60
 go_wp2
 go_ret
 exact ⟨rfl,rfl⟩
def moreN (n:Nat):Nat:=(n-235+237)/238
theorem chunksMore (n:Nat) (w:World) (hn:n≤1000000):Calls Tryz.prog 42 #[.int .i64 (n:Int)] w fun e w'=>e=.returned (.int .i64 (moreN n:Nat))∧w'=w:=by
 have hm:moreN n=(n-235+237)/238:=rfl
 generalize moreN n=M at *
 have HM:=Lh hm
 have hMb:M≤1000000:=by omega
 clear hm
 go_enter Tryz.func42,Tryz.ntmps42
 go_wp2_with fail
 go_loopg [3] M (fun gg s3 wr=>∃ k:Nat,k≤M∧M-k≤gg∧s3=.int .i64 (k:Int)∧wr=w)
 case atStart=>exact ⟨0,Nat.zero_le _,by omega,rfl,rfl⟩
 case round=>
  obtain ⟨k,hk,hgg,rfl,rfl⟩:=hrel
  have hM:=HM.out
  have HR:=Lh (chunksRoom k wr (by omega))
  have e1:IntKind.i64.wrap ((k:Int)*240)=k*240:=wrapi64 (by omega) (by omega)
  have e2:IntKind.i64.wrap (235-2*(k:Int)+k*240)=235-2*k+k*240:=wrapi64 (by omega) (by omega)
  by_cases hlt:k<M
  ·have hg:decide ((235:Int)-2*k+k*240<n)=true:=qT (by omega)
   clear hM
   go_wp2_with fail
   refine HR.out.mono ?_
   rintro e w1 ⟨rfl,rfl⟩
   go_wp2
   go_roundg (M-(k+1))
   case measure=>omega
   case rel=>exact ⟨k+1,by omega,by omega,by go_num,rfl⟩
  ·obtain rfl:k=M:=by omega
   have hg:decide ((235:Int)-2*k+k*240<n)=false:=qF (by omega)
   clear hM
   go_wp2_with fail
   refine HR.out.mono ?_
   rintro e w1 ⟨rfl,rfl⟩
   go_wp2
   go_ret
   exact ⟨rfl,rfl⟩
theorem OwnB.extend {w:World} {base n c g:Nat} {l:List UInt8} (h:OwnB w base (some ⟨g,0,none⟩) n c l) (xs:List UInt8) (hn:n+xs.length≤c):
 OwnB (w.setCells g n (xs.map u8v)) base (some ⟨g,0,none⟩) (n+xs.length) c (l++xs)∧w.grownBy (w.setCells g n (xs.map u8v)) (some g) ∧
  (∀ j,j<c→(w.cell? ⟨g,j,none⟩).isSome=true)∧∀ j,w.frozen? ⟨g,j,none⟩=false:=by
 have hl:=OwnB.length h
 rcases h.2 with ⟨hv,-⟩|⟨g',cap,cur,hv,h1,h2,h3,h4,h5,h6⟩
 ·simp only [Value.slice.injEq] at hv;exact absurd hv.1 (by simp)
 simp only [Value.slice.injEq,Option.some.injEq,Addr.mk.injEq,and_true,true_and] at hv
 obtain ⟨rfl,rfl⟩:=hv
 rw [Nat.mul_one] at h5 h6
 have hcl:cur.toList.length=c:=by simpa using h5
 have raw:w.ownsRow base 5 1 (.slice (some ⟨g,0,none⟩) (n+xs.length) c) (n+xs.length) (cur.toList.take (n+xs.length)):=
  ⟨by rw [List.length_take,hcl];omega,.inr ⟨g,c,cur,rfl,h1,h2,hn,h4,by rw [h5,Nat.mul_one],by rw [Nat.mul_one]⟩⟩
 obtain ⟨r1,r2⟩:=raw_setCells (xs.map u8v) n w _ raw
 rw [setL_eq _ _ _ (by rw [List.length_map,List.length_take,hcl];omega),List.length_map,List.take_take,Nat.min_eq_left (by omega),h6,List.drop_of_length_le (by rw [List.length_take];omega),List.append_nil,←List.map_append] at r1
 refine ⟨r1,r2,fun j hj=>?_,fun j=>World.ownsRow.frozenAt h j⟩
 rw [cell_of_row w g j cur 5 (0,0) h2,Array.getElem?_eq_getElem (by rw [h5];omega)];rfl
def OwnP (w:World) (A:OA) (n c:Nat) (l:List UInt8):Prop:=
 (A=none∧n=0∧c=0∧l=[])∨∃ (g C:Nat) (pre:List UInt8),A=some ⟨g,pre.length,none⟩∧OwnB w 0 (some ⟨g,0,none⟩) (pre.length+n) C (pre++l)∧pre.length+c≤C∧n≤c
theorem OwnP.of {w:World} {base n c:Nat} {A:OA} {l:List UInt8} (h:OwnB w base A n c l):OwnP w A n c l:=by
 have hl:=OwnB.length h
 have hc:=Own.cap h
 rcases Own.form h with ⟨rfl,h0,h1⟩|⟨g,rfl,-⟩
 ·exact .inl ⟨rfl,h0,h1.1,List.eq_nil_of_length_eq_zero (by omega)⟩
 ·exact .inr ⟨g,c,[],rfl,by rw [List.length_nil,Nat.zero_add];exact Own.mono h (Nat.zero_le _),by simp,hc.1⟩
theorem OwnP.length {w:World} {n c:Nat} {A:OA} {l:List UInt8} (h:OwnP w A n c l):l.length=n:=by
 rcases h with ⟨-,rfl,-,rfl⟩|⟨g,C,pre,rfl,h,-,-⟩
 ·rfl
 ·have:=OwnB.length h;rw [Zl] at this;omega
theorem OwnP.cap {w:World} {n c:Nat} {A:OA} {l:List UInt8} (h:OwnP w A n c l):n≤c∧c≤9223372036854775807∧(A=none→c=0):=by
 rcases h with ⟨-,rfl,rfl,rfl⟩|⟨g,C,pre,rfl,h,h2,h3⟩
 ·exact ⟨Nat.le_refl _,by omega,fun _=>rfl⟩
 ·have:=Own.cap h;exact ⟨by omega,by omega,fun e=>by cases e⟩
theorem OwnP.lt {w:World} {n c:Nat} {A:OA} {l:List UInt8} (h:OwnP w A n c l) {k:Nat} (hk:bk A=some k):k<w.heap.size:=by
 rcases h with ⟨rfl,-⟩|⟨g,C,pre,rfl,h,-,-⟩
 ·cases hk
 ·cases hk;exact (Own.lt h (k:=g) rfl).2
theorem OwnP.same {w w':World} {n c:Nat} {A:OA} {l:List UInt8} (h:OwnP w A n c l) (hb:∀ k,bk A=some k→w'.heap[k]? = w.heap[k]?):OwnP w' A n c l:=by
 rcases h with h|⟨g,C,pre,rfl,h,h2⟩
 ·exact .inl h
 ·exact .inr ⟨g,C,pre,rfl,Own.same h (fun k hk=>hb k (by cases hk;rfl)),h2⟩
theorem OwnP.bs {w:World} {n c:Nat} {A:OA} {l:List UInt8} (h:OwnP w A n c l):Bs w A l:=by
 rcases h with ⟨-,-,-,rfl⟩|⟨g,C,pre,rfl,h,-,-⟩
 ·exact fun h0=>by simp at h0
 ·have h1:=(OwnB.bs h)
  intro h0
  rw [List.length_map] at h0
  obtain ⟨b,o,e,hc⟩:=h1 (by rw [List.length_map,Zl];omega)
  cases e
  refine ⟨g,pre.length,rfl,fun j hj=>?_⟩
  rw [List.length_map] at hj
  have:=hc (pre.length+j) (by rw [List.length_map,Zl];omega)
  rw [Nat.zero_add] at this
  rw [this,List.map_append,List.getElem?_append_right (by rw [List.length_map];omega),List.length_map,Nat.add_sub_cancel_left]
theorem OwnP.cut {w:World} {n c:Nat} {A:OA} {l:List UInt8} (h:OwnP w A n c l) {k:Nat} (hk:k≤n):OwnP w (cutA A c k) (n-k) (c-k) (l.drop k):=by
 have hl:=h.length
 rcases h with ⟨rfl,rfl,rfl,rfl⟩|⟨g,C,pre,rfl,h,h2,h3⟩
 ·obtain rfl:k=0:=by omega
  exact .inl ⟨rfl,rfl,rfl,rfl⟩
 by_cases hc:c=k
 ·have e:cutA (some ⟨g,pre.length,none⟩) c k=some ⟨g,pre.length,none⟩:=by unfold cutA;rw [if_pos hc]
  rw [e]
  obtain rfl:k=n:=by omega
  rw [List.drop_of_length_le (by omega),Nat.sub_self]
  refine .inr ⟨g,C,pre,rfl,?_,by omega,by omega⟩
  have hh:=h.2
  rcases hh with ⟨hv,-⟩|⟨g',cap,cur,hv,q1,q2,q3,q4,q5,q6⟩
  ·simp only [Value.slice.injEq] at hv;exact absurd hv.1 (by simp)
  ·simp only [Value.slice.injEq,Option.some.injEq,Addr.mk.injEq,and_true,true_and] at hv
   obtain ⟨rfl,rfl⟩:=hv
   refine ⟨by simp,.inr ⟨g,C,cur,by simp,q1,q2,by omega,q4,q5,?_⟩⟩
   have:=congrArg (fun l=>l.take pre.length) q6
   simp only [List.take_take] at this
   rw [Nat.min_eq_left (by omega)] at this
   rw [Nat.add_zero,Nat.mul_one,this,List.append_nil,List.map_append,List.take_append_of_le_length (by simp),List.take_of_length_le (by simp)]
 ·have hkl:k≤l.length:=by omega
  have e:cutA (some ⟨g,pre.length,none⟩) c k=some ⟨g,(pre++l.take k).length,none⟩:=by
   unfold cutA
   rw [if_neg hc]
   simp [add_none,Nat.min_eq_left hkl]
  have hlen:(pre++l.take k).length=pre.length+k:=by rw [Zl,List.length_take,Nat.min_eq_left hkl]
  rw [e]
  refine .inr ⟨g,C,pre++l.take k,rfl,?_,by rw [hlen];omega,by omega⟩
  rw [hlen,Za,List.take_append_drop,show pre.length+k+(n-k)=pre.length+n by omega]
  exact h
theorem OwnP.run_append {w:World} {n c:Nat} {A:OA} {l:List UInt8} (h:OwnP w A n c l) (ty:TypeId) (A2:OA) (m c2:Nat) (xs:List UInt8) (hr:Bs w A2 xs) (hm:xs.length=m) (hn:n+m≤1000000000):
 ∃ A' c' w',(Builtin.append_ #[37,37] ty #[.slice A n c,.slice A2 m c2]).run Tryz.prog w=.ok (.slice A' (n+m) c') w'∧OwnP w' A' (n+m) c' (l++xs)∧w.grownBy w' (bk A)∧NewTo w A A':=by
 have hl:=h.length
 rcases h with ⟨rfl,rfl,rfl,rfl⟩|⟨g,C,pre,rfl,h,h2,h3⟩
 ·obtain ⟨A',c',w',hrun,h2,h3,h4⟩:=run_append_rd w elemB ty 0 none 0 0 [] (Own.nil _ _ _) A2 m c2 (xs.map u8v) hr (by rw [List.length_map];exact hm) (u8_one _) (by omega) (by omega) (Nat.zero_le _)
  refine ⟨A',c',w',hrun,OwnP.of (base:=0) (by unfold OwnB;simpa using h2),h3,?_⟩
  rcases h4 with h|h
  ·exact .inl h
  ·exact .inr ⟨_,h,Nat.le_refl _⟩
 ·by_cases hm0:m=0
  ·subst hm0
   obtain rfl:xs=[]:=List.eq_nil_of_length_eq_zero hm
   obtain ⟨i,hi,hz0,hz1,hz2⟩:=info_parts elemB.hi
   have hrun:(Builtin.append_ #[37,37] ty #[.slice (some ⟨g,pre.length,none⟩) n c,.slice A2 0 c2]).run Tryz.prog w=.ok (.slice (some ⟨g,pre.length,none⟩) n c) w:=by
    have hlc:∀ ad:Addr,(loadCells ad 0).run Tryz.prog w=.ok #[] w:=fun ad=>by unfold loadCells loadCellsFrom;rfl
    cases A2<;>simp [hlc,Builtin.append_,run_underlying elemB.ht,sizeOf,typeInfo,hi,Builtin.lenOf,h3,Builtin.firstCells,storeCells]
   exact ⟨_,c,w,hrun,.inr ⟨g,C,pre,rfl,by simpa using h,h2,h3⟩,grown_refl _ _,.inl rfl⟩
  ·obtain ⟨b2,o2,rfl,hc2⟩:=hr (by rw [List.length_map];omega)
   have hnews:∀ j v,(xs.map u8v)[j]? = some v→w.cell? ((⟨b2,o2,none⟩:Addr).add j)=some v:=fun j v hv=>by
    rw [Addr.add_mid,hc2 j (Ze hv).1,hv]
   obtain ⟨i,hi,hz0,hz1,hz2⟩:=info_parts elemB.hi
   by_cases hroom:n+m≤c
   ·obtain ⟨e1,e2,e3,e4⟩:=OwnB.extend h xs (by rw [hm];omega)
    have hoff:pre.length+n*i.size=pre.length+n:=by rw [hz1,Nat.mul_one]
    have hrun:=run_append_room_cells (P:=Tryz.prog) w 37 ty 5 i elemB.ht hi g pre.length n c ⟨b2,o2,none⟩ m c2 (xs.map u8v) (by rw [hz1,List.length_map,hm,Nat.mul_one]) hnews (u8_one _) hroom
     (fun j hj=>by rw [hoff];exact e3 _ (by rw [List.length_map] at hj;omega)) (fun j hj=>e4 _)
    rw [hoff] at hrun
    refine ⟨_,c,_,hrun,.inr ⟨g,C,pre,rfl,?_,h2,hroom⟩,e2,.inl rfl⟩
    rw [hm,Nat.add_assoc,Za] at e1
    exact e1
   ·have holds:∀ j v,(l.map u8v)[j]? = some v→w.cell? ((⟨g,pre.length,none⟩:Addr).add j)=some v:=fun j v hv=>by
     have hj:=(Ze hv).1
     rw [List.length_map] at hj
     obtain ⟨b,o,e,hc⟩:=OwnB.bs h (by rw [List.length_map,Zl];omega)
     cases e
     rw [Addr.add_mid]
     have:=hc (pre.length+j) (by rw [List.length_map,Zl];omega)
     rw [Nat.zero_add] at this
     rw [this,List.map_append,List.getElem?_append_right (by rw [List.length_map];omega),List.length_map,Nat.add_sub_cancel_left,hv]
    obtain ⟨v',w',hrun,hown,hgr⟩:=run_append_arg_grows (P:=Tryz.prog) w 37 ty 5 i (.int .u8 0) 1 1 elemB.ht hi hz0 hz1 hz2 rfl (by omega) ⟨g,pre.length,none⟩ n c (l.map u8v) (by rw [List.length_map,hl,Nat.mul_one]) holds ⟨b2,o2,none⟩ m c2 (xs.map u8v) (by rw [List.length_map,hm,Nat.mul_one]) hnews (by omega) (by unfold maxLen;omega) (by omega)
    have hform:∃ A' c',v'=.slice A' (n+m) c':=by
     rcases hown.2 with ⟨rfl,h0⟩|⟨g,cap,cur,rfl,-⟩
     ·exact ⟨none,0,by rw [h0]⟩
     ·exact ⟨_,cap,rfl⟩
    obtain ⟨A',c',rfl⟩:=hform
    rw [←List.map_append] at hown
    have hO:OwnB w' w.heap.size A' (n+m) c' (l++xs):=hown
    refine ⟨A',c',w',hrun,OwnP.of hO,⟨hgr.os,hgr.tape,hgr.output,hgr.size,fun k hk _=>hgr.block k hk (by simp)⟩,?_⟩
    rcases Own.form hO with ⟨-,h0,-⟩|⟨gn,hgn⟩
    ·omega
    ·exact .inr ⟨gn,by rw [hgn.1];rfl,hgn.2.1⟩
def restL (vw:Nat→Option Bk) (size:Nat):List Nat→List UInt8→Option (List UInt8)
 | [],out=>some out
 | a::r,out=>match vw a with
   | some b=>if b.kind=4∧b.body.length=min (size-out.length) 240 then restL vw size r (out++b.body) else none
   | none=>none
def x2 (l:List UInt8) (i:Nat):Nat:=(l.getD i 0).toNat+(l.getD (i+1) 0).toNat*2^8
def readL (vw:Nat→Option Bk) (b:Nat) (len:Int):Option (List Nat × List UInt8):=
 if 1≤len∧len≤512 then match vw b with
  | some y=>
    if y.kind=3∧5≤y.body.length then
     if ((x2 y.body 0:Nat):Int)=len∧(y.body.getD 4 0).toNat≤2∧(y.body.getD 4 0).toNat=moreN (x2 y.body 2) ∧
         y.body.length=5+2*(y.body.getD 4 0).toNat+min (x2 y.body 2) (235-2*(y.body.getD 4 0).toNat) then
      (restL vw (x2 y.body 2) ((List.range (y.body.getD 4 0).toNat).map (fun i=>x2 y.body (5+2*i))) (y.body.drop (5+2*(y.body.getD 4 0).toNat))).map
        (fun o=>(b::(List.range (y.body.getD 4 0).toNat).map (fun i=>x2 y.body (5+2*i)),o))
     else none
    else none
  | none=>none
 else none
def readPost (c:Cch) (d:Dsk) (b:Nat) (len:Int) (w:World) (e:Ending) (w':World):Prop:=
 ∃ c',c.Next c' d w w'∧match readL (c.view d) b len with
   | some (bs,out)=>∃ A1 n1 c1 A2 n2 c2,e=.returned (.tuple #[.slice A1 n1 c1,.slice A2 n2 c2,.int .i64 0])∧bs.length=n1∧OwnN w' w.heap.size A1 n1 c1 bs∧(∀ q,bk A1=some q→¬c'.fp d q) ∧
      out.length=n2∧OwnP w' A2 n2 c2 out∧(∀ q,bk A2=some q→w.heap.size≤q∧¬c'.fp d q)
   | none=>∃ E:Int,E≠0∧e=.returned (.tuple #[.slice none 0 0,.slice none 0 0,.int .i64 E])
theorem readPost_bad {c c':Cch} {d:Dsk} {b:Nat} {len:Int} {w w':World} (h:readL (c.view d) b len=none) (hn:c.Next c' d w w') (E:Int) (hE:E≠0):
 readPost c d b len w (.returned (.tuple #[.slice none 0 0,.slice none 0 0,.int .i64 E])) w':=by
 refine ⟨c',hn,?_⟩
 rw [h]
 exact ⟨E,hE,rfl⟩
theorem Cch.Next.trans {c c1 c2:Cch} {d:Dsk} {w w1 w2:World} (h:c.Next c1 d w w1) (h2:c1.Next c2 d w1 w2) (hs:w.heap.size≤w1.heap.size):c.Next c2 d w w2:={
 mem:=h2.mem
 inv:=h2.inv
 eg:=h2.eg.trans h.eg
 er:=h2.er.trans h.er
 view n:=(h2.view n).trans (h.view n)
 chg:=h.chg.trans h2.chg (fun k hk hf=>(h.fp k hf).elim id (fun h=>by omega))
 fp b hb:=(h2.fp b hb).elim (fun h1=>h.fp b h1) (fun h1=>.inr (by omega)) }
structure RdB (c c2:Cch) (d:Dsk) (w wv:World) (g7:Nat) (k:Int) (A:OA) (m cc:Nat) (body:List UInt8):Prop where
 next:c.Next c2 d w wv
 blk:Blk wv g7 39 #[.int .i64 k,.slice A m cc]
 g7a:w.heap.size≤g7
 g7b:¬c2.fp d g7
 len:body.length=m
 nil:A=none→m=0∧cc=0
 own:OwnB wv w.heap.size A m cc body
 ob:∀ q,bk A=some q→¬c2.fp d q∧q≠g7
theorem Cch.Next.chg2 {c c2:Cch} {d:Dsk} {w w1 w2:World} (h:c.Next c2 d w w1) {F:Fp} (hc:Chg F w1 w2) (hF:∀ b,F b→b<w1.heap.size→¬c2.fp d b∧w.heap.size≤b):c.Next c2 d w w2:={
 mem:=h.mem.same (fun b hb=>hc.block b (h.mem.in_ b hb) (fun hf=>(hF b hf (h.mem.in_ b hb)).1 hb)) hc.size
 inv:=h.inv
 eg:=h.eg
 er:=h.er
 view:=h.view
 chg:=h.chg.trans hc (fun k hk hf=>by
  have h1:=(hF k hf (lT hk h.chg.size)).2
  omega)
 fp:=h.fp }
theorem Cch.Next.before {c c2:Cch} {d:Dsk} {w w1 w2:World} (h:c.Next c2 d w1 w2) (hb:Below w.heap.size w w1):c.Next c2 d w w2:={
 mem:=h.mem
 inv:=h.inv
 eg:=h.eg
 er:=h.er
 view:=h.view
 chg:=(Chg.of_below (F:=c.fp d) hb).trans h.chg (fun _ _ h=>h)
 fp b hf:=(h.fp b hf).imp id (fun h=>Nat.le_trans hb.size h) }
theorem RdB.call_first {c c2:Cch} {d:Dsk} {w W w2:World} {k:Int} {A:OA} {m cc:Nat} {body:List UInt8} (hW:Below w.heap.size w W) (h:c.Next c2 d W w2) (hl:body.length=m) (hn:A=none→m=0∧cc=0)
 (ho:OwnB w2 W.heap.size A m cc body) (hq:∀ q,bk A=some q→¬c2.fp d q):
 RdB c c2 d w (w2.alloc (.cells #[.int .i64 k,.slice A m cc] 39)) w2.heap.size k A m cc body:=by
 have hb2:Below w2.heap.size w2 (w2.alloc (.cells #[.int .i64 k,.slice A m cc] 39)):=(Below.refl _ _).alloc nL _
 have hN:=h.before hW
 refine ⟨hN.chg2 (F:=Fp.none) (Chg.of_below hb2) (fun _ h=>h.elim),Blk.new w2 39 _,hN.chg.size,fun hf=>?_,hl,hn,Own.mono (Own.later ho hb2) hW.size,fun q hk=>⟨hq q hk,fun e=>?_⟩⟩
 ·have:=h.mem.in_ _ hf;omega
 ·have:=(Own.lt ho hk).2;omega
theorem RdB.var_first {c c2:Cch} {d:Dsk} {w W w2:World} {g7:Nat} {k:Int} {A:OA} {m cc:Nat} {body:List UInt8} (hM:c.Mem d w) (hW:Below w.heap.size w W) (h:c.Next c2 d W w2) (hl:body.length=m) (hn:A=none→m=0∧cc=0)
 (ho:OwnB w2 W.heap.size A m cc body) (hq:∀ q,bk A=some q→¬c2.fp d q) (x y:Value) (hz:Blk W g7 39 #[x,y]) (hg:w.heap.size≤g7):
 RdB c c2 d w ((w2.setCell ⟨g7,0,none⟩ (.int .i64 k)).setCell ⟨g7,1,none⟩ (.slice A m cc)) g7 k A m cc body:=by
 have hset:Chg (fun b=>b=g7) w2 ((w2.setCell ⟨g7,0,none⟩ (.int .i64 k)).setCell ⟨g7,1,none⟩ (.slice A m cc)):=Chg.set2 _ _ _ _ _ _
 have hN:=h.before hW
 have hgf:¬c.fp d g7:=fun hf=>by have:=hM.in_ _ hf;omega
 have hgW:=hz.lt
 have hg2:¬c2.fp d g7:=fun hf=>by
  rcases h.fp _ hf with h1|h1
  ·exact hgf h1
  ·omega
 refine ⟨hN.chg2 hset (fun b hb _=>by subst hb;exact ⟨hg2,hg⟩),?_,hg,hg2,hl,hn,Own.mono (Own.chg ho hset (fun q hk e=>?_)) hW.size,fun q hk=>⟨hq q hk,fun e=>?_⟩⟩
 ·exact Blk.set (Blk.set (Blk.chg hz h.chg hgf) 0 (.int .i64 k)) 1 (.slice A m cc)
 ·have:=(Own.lt ho hk).1;omega
 ·have:=(Own.lt ho hk).1;omega
theorem RdB.drew {c c2:Cch} {d:Dsk} {w wv:World} {g7:Nat} {k:Int} {A:OA} {m cc:Nat} {body:List UInt8} (h:RdB c c2 d w wv g7 k A m cc body):RdB c c2 d w wv.drew g7 k A m cc body:={
 next:=h.next.chg2 (Chg.drew Fp.none _) (fun _ h=>h.elim)
 blk:=h.blk
 g7a:=h.g7a
 g7b:=h.g7b
 len:=h.len
 nil:=h.nil
 own:=Own.drew h.own
 ob:=h.ob }
def GotE (v:Option Bk) (k:Int) (body:List UInt8) (E:Int):Prop:=
 match v with
 | some b=>E=0∧k=(b.kind:Int)∧body=b.body
 | none=>E≠0
theorem gotPost.flat {c:Cch} {d:Dsk} {n:Nat} {w:World} {e:Ending} {w':World} (h:gotPost c d n w e w'):
 ∃ (c':Cch) (k:Int) (A:OA) (m cc:Nat) (body:List UInt8) (E:Int),e=.returned (.tuple #[.agg #[.int .i64 k,.slice A m cc],.int .i64 E])∧c.Next c' d w w'∧body.length=m∧(A=none→m=0∧cc=0) ∧
   OwnB w' w.heap.size A m cc body∧(∀ q,bk A=some q→¬c'.fp d q)∧GotE (c.view d n) k body E:=by
 obtain ⟨c',hN,h⟩:=h
 cases hv:c.view d n with
 | none=>
   rw [hv] at h
   obtain ⟨E,hE,rfl⟩:=h
   exact ⟨c',0,none,0,0,[],E,rfl,hN,rfl,fun _=>⟨rfl,rfl⟩,OwnB.nil _ _,(fun q hq=>by cases hq),hE⟩
 | some b=>
   rw [hv] at h
   obtain ⟨A,m,cc,rfl,h1,h2,h3,h4⟩:=h
   exact ⟨c',_,A,m,cc,b.body,0,rfl,hN,h1,h2,h3,h4,rfl,rfl,rfl⟩
theorem run_cut {P:Program} {t e:TypeId} {z:Value} {bytes:Nat} (E:Elem P t e z bytes) (w:World) (A:OA) (n c k:Nat) (hk:k≤n):
 (Instr.sliceAt t (.slice A n c) (some (.int .i64 (k:Int))) none none).run P w=.ok (.slice (cutA A c k) (n-k) (c-k)) w:=by
 obtain ⟨i,hi,-,h1,-⟩:=info_parts E.hi
 have he:P.elem t=e:=by simp [Program.elem,E.ht]
 have ht':P.underlying t=some (.slice (P.elem t)):=by rw [he];exact E.ht
 rw [run_sliceAt_slice w t _ _ _ _ ht',run_slice_l w t A n c ht' .i64 (k:Int) (by omega) (by omega),he]
 simp [sizeOf,typeInfo,hi,h1,sliced,cutA,Result.andThen]
theorem yieldsIf_slice_lo {P:Program} {ops:Array Oper} {S:World→Prop} {op:Oper} {a:Act} (hw:Region.wanted op (yielded ops a.tmps)=true) {t e:TypeId} {z:Value} {bytes:Nat} (E:Elem P t e z bytes) (s lo:Operand)
 (ho:op.op=.slice t s (some lo) none none) (A:OA) (n c k:Nat) (hs:a.eval s=.slice A n c) (hlo:a.eval lo=.int .i64 (k:Int)) (hk:k≤n):YieldsIf P ops S op (.slice (cutA A c k) (n-k) (c-k)) a:=
 .inl ⟨hw,fun w _=>by
  unfold execOp
  simp only [ho,hs,hlo,run_cut E w A n c k hk,Option.map_some,Option.map_none,Sem.run_bind,Sem.run_pure,Result.andThen_ok]⟩
theorem or_shl8 {y x N:Nat} (hy:y<256) (hx:x<256) (h:y+x*2^8=N):bits .or .i64 (y:Int) ((x:Int)*256)=(N:Int):=by
 have h1:=or_shl (y:=y) (x:=x) (j:=8) (by omega) (by omega)
 have h2:wrap64 ((x:Int)*2^8)=(x:Int)*256:=by
  have:((x:Int)*2^8)=((x*256:Nat):Int):=by omega
  rw [this,wrap64_nat (by omega)];omega
 rw [h2,h] at h1
 exact h1
def OwnQ (w:World) (g:Nat) (pre:List UInt8) (A:OA) (n c:Nat) (l:List UInt8):Prop:=
 (A=some ⟨g,pre.length,none⟩∧∃ C,OwnB w 0 (some ⟨g,0,none⟩) (pre.length+n) C (pre++l)∧pre.length+c≤C∧n≤c) ∨
   (bk A≠some g∧Bs w (some ⟨g,0,none⟩) pre∧g<w.heap.size∧OwnP w A n c l)
theorem OwnQ.own {w:World} {g n c:Nat} {pre l:List UInt8} {A:OA} (h:OwnQ w g pre A n c l):OwnP w A n c l:=by
 rcases h with ⟨rfl,C,h1,h2,h3⟩|⟨-,-,-,h⟩
 ·exact .inr ⟨g,C,pre,rfl,h1,h2,h3⟩
 ·exact h
theorem OwnQ.pre {w:World} {g n c:Nat} {pre l:List UInt8} {A:OA} (h:OwnQ w g pre A n c l):Bs w (some ⟨g,0,none⟩) pre:=by
 rcases h with ⟨rfl,C,h1,h2,h3⟩|⟨-,h,-,-⟩
 ·have h:=OwnB.bs h1
  have:=Bs.take pre.length h
  rwa [List.take_left] at this
 ·exact h
theorem OwnQ.lt {w:World} {g n c:Nat} {pre l:List UInt8} {A:OA} (h:OwnQ w g pre A n c l):g<w.heap.size:=by
 rcases h with ⟨rfl,C,h1,h2,h3⟩|⟨-,-,h,-⟩
 ·exact (Own.lt h1 (k:=g) rfl).2
 ·exact h
theorem OwnQ.same {w w':World} {g n c:Nat} {pre l:List UInt8} {A:OA} (h:OwnQ w g pre A n c l) (hs:w.heap.size≤w'.heap.size) (hg:w'.heap[g]? = w.heap[g]?) (hb:∀ k,bk A=some k→w'.heap[k]? = w.heap[k]?):OwnQ w' g pre A n c l:=by
 rcases h with ⟨rfl,C,h1,h2,h3⟩|⟨h1,h2,h3,h4⟩
 ·exact .inl ⟨rfl,C,Own.same h1 (fun k hk=>hb k (by cases hk;rfl)),h2,h3⟩
 ·exact .inr ⟨h1,Rd.same h2 (fun k hk=>by cases hk;exact hg),lT h3 hs,h4.same hb⟩
theorem OwnQ.chg {F:Fp} {w w':World} {g n c:Nat} {pre l:List UInt8} {A:OA} (h:OwnQ w g pre A n c l) (hc:Chg F w w') (hg:¬F g) (hn:∀ k,bk A=some k→¬F k):OwnQ w' g pre A n c l:=
 h.same hc.size (hc.block g h.lt hg) (fun k hk=>hc.block k (h.own.lt hk) (hn k hk))
theorem OwnQ.below {w w':World} {g n c:Nat} {pre l:List UInt8} {A:OA} (h:OwnQ w g pre A n c l) (hb:Below w.heap.size w w'):OwnQ w' g pre A n c l:=
 h.same hb.size (hb.block g h.lt) (fun k hk=>hb.block k (h.own.lt hk))
theorem OwnQ.run_append {w:World} {g n c:Nat} {pre l:List UInt8} {A:OA} (h:OwnQ w g pre A n c l) (ty:TypeId) (A2:OA) (m c2:Nat) (xs:List UInt8) (hr:Bs w A2 xs) (hm:xs.length=m) (hn:n+m≤1000000000):
 ∃ A' c' w',(Builtin.append_ #[37,37] ty #[.slice A n c,.slice A2 m c2]).run Tryz.prog w=.ok (.slice A' (n+m) c') w'∧OwnQ w' g pre A' (n+m) c' (l++xs)∧w.grownBy w' (bk A)∧NewTo w A A':=by
 rcases h with ⟨rfl,C,h,h2,h3⟩|⟨h1,h2,h3,h4⟩
 ·by_cases hroom:n+m≤c
  ·obtain ⟨A',c',w',hrun,ho,hg,hnt⟩:=OwnP.run_append (.inr ⟨g,C,pre,rfl,h,h2,h3⟩:OwnP w _ n c l) ty A2 m c2 xs hr hm hn
   by_cases hm0:m=0
   ·subst hm0
    obtain rfl:xs=[]:=List.eq_nil_of_length_eq_zero hm
    have hlc:∀ ad:Addr,(loadCells ad 0).run Tryz.prog w=.ok #[] w:=fun ad=>by unfold loadCells loadCellsFrom;rfl
    obtain ⟨i,hi,hz0,hz1,hz2⟩:=info_parts elemB.hi
    have hrun2:(Builtin.append_ #[37,37] ty #[.slice (some ⟨g,pre.length,none⟩) n c,.slice A2 0 c2]).run Tryz.prog w=.ok (.slice (some ⟨g,pre.length,none⟩) n c) w:=by
     cases A2<;>simp [hlc,Builtin.append_,run_underlying elemB.ht,sizeOf,typeInfo,hi,Builtin.lenOf,h3,Builtin.firstCells,storeCells]
    exact ⟨_,c,w,hrun2,.inl ⟨rfl,C,by simpa using h,h2,h3⟩,grown_refl _ _,.inl rfl⟩
   ·obtain ⟨b2,o2,rfl,hc2⟩:=hr (by rw [List.length_map];omega)
    have hnews:∀ j v,(xs.map u8v)[j]? = some v→w.cell? ((⟨b2,o2,none⟩:Addr).add j)=some v:=fun j v hv=>by
     rw [Addr.add_mid,hc2 j (Ze hv).1,hv]
    obtain ⟨i,hi,hz0,hz1,hz2⟩:=info_parts elemB.hi
    obtain ⟨e1,e2,e3,e4⟩:=OwnB.extend h xs (by rw [hm];omega)
    have hoff:pre.length+n*i.size=pre.length+n:=by rw [hz1,Nat.mul_one]
    have hrun:=run_append_room_cells (P:=Tryz.prog) w 37 ty 5 i elemB.ht hi g pre.length n c ⟨b2,o2,none⟩ m c2 (xs.map u8v) (by rw [hz1,List.length_map,hm,Nat.mul_one]) hnews (u8_one _) hroom
     (fun j hj=>by rw [hoff];exact e3 _ (by rw [List.length_map] at hj;omega)) (fun j hj=>e4 _)
    rw [hoff] at hrun
    refine ⟨_,c,_,hrun,.inl ⟨rfl,C,?_,h2,hroom⟩,e2,.inl rfl⟩
    rw [hm,Nat.add_assoc,Za] at e1
    exact e1
  ·obtain ⟨b2,o2,rfl,hc2⟩:=hr (by rw [List.length_map];omega)
   have hnews:∀ j v,(xs.map u8v)[j]? = some v→w.cell? ((⟨b2,o2,none⟩:Addr).add j)=some v:=fun j v hv=>by
    rw [Addr.add_mid,hc2 j (Ze hv).1,hv]
   have hl:l.length=n:=by have:=OwnB.length h;rw [Zl] at this;omega
   obtain ⟨i,hi,hz0,hz1,hz2⟩:=info_parts elemB.hi
   have holds:∀ j v,(l.map u8v)[j]? = some v→w.cell? ((⟨g,pre.length,none⟩:Addr).add j)=some v:=fun j v hv=>by
    have hj:=(Ze hv).1
    rw [List.length_map] at hj
    obtain ⟨b,o,e,hc⟩:=OwnB.bs h (by rw [List.length_map,Zl];omega)
    cases e
    rw [Addr.add_mid]
    have:=hc (pre.length+j) (by rw [List.length_map,Zl];omega)
    rw [Nat.zero_add] at this
    rw [this,List.map_append,List.getElem?_append_right (by rw [List.length_map];omega),List.length_map,Nat.add_sub_cancel_left,hv]
   obtain ⟨v',w',hrun,hown,hgr⟩:=run_append_arg_grows (P:=Tryz.prog) w 37 ty 5 i (.int .u8 0) 1 1 elemB.ht hi hz0 hz1 hz2 rfl (by omega) ⟨g,pre.length,none⟩ n c (l.map u8v) (by rw [List.length_map,hl,Nat.mul_one]) holds ⟨b2,o2,none⟩ m c2 (xs.map u8v) (by rw [List.length_map,hm,Nat.mul_one]) hnews (by omega) (by unfold maxLen;omega) (by omega)
   have hform:∃ A' c',v'=.slice A' (n+m) c':=by
    rcases hown.2 with ⟨rfl,h0⟩|⟨g,cap,cur,rfl,-⟩
    ·exact ⟨none,0,by rw [h0]⟩
    ·exact ⟨_,cap,rfl⟩
   obtain ⟨A',c',rfl⟩:=hform
   rw [←List.map_append] at hown
   have hO:OwnB w' w.heap.size A' (n+m) c' (l++xs):=hown
   have hgl:=(Own.lt h (k:=g) rfl).2
   have hgb:w'.heap[g]? = w.heap[g]? := hgr.block g hgl (by simp)
   have hpre:Bs w (some ⟨g,0,none⟩) pre:=by
    have:=Bs.take pre.length (OwnB.bs h)
    rwa [List.take_left] at this
   rcases Own.form hO with ⟨-,h0,-⟩|⟨gn,hgn⟩
   ·omega
   ·refine ⟨A',c',w',hrun,.inr ⟨?_,Rd.same hpre (fun k hk=>by cases hk;exact hgb),lT hgl hgr.size,OwnP.of hO⟩,⟨hgr.os,hgr.tape,hgr.output,hgr.size,fun k hk _=>hgr.block k hk (by simp)⟩,.inr ⟨gn,by rw [hgn.1];rfl,hgn.2.1⟩⟩
    rw [hgn.1]
    intro e
    simp only [bk,Option.map_some,Option.some.injEq] at e
    omega
 ·obtain ⟨A',c',w',hrun,ho,hg,hnt⟩:=h4.run_append ty A2 m c2 xs hr hm hn
  refine ⟨A',c',w',hrun,.inr ⟨?_,Rd.same h2 (fun k hk=>by cases hk;exact hg.block g h3 (fun e=>h1 e.symm)),lT h3 hg.size,ho⟩,hg,hnt⟩
  rcases hnt with e|⟨k,e,hk⟩
  ·rw [e];exact h1
  ·rw [e];intro e2;cases e2;omega
theorem OwnQ.step_append {w:World} {ops:Array Oper} {o:Oper} {a:Act} {K:Act→World→Prop} {Q:Exit→Act→World→Prop} {E':Prop} (hgd:o.guard=none) (s x:Operand)
 (ho:o.op=.call { callee:=.builtin .append,args:=#[s,x],argTypes:=#[37,37] })
 (g:Nat) (pre:List UInt8) (A:OA) (n c:Nat) (l:List UInt8) (hs:a.eval s=.slice A n c) (hown:OwnQ w g pre A n c l) (A2:OA) (m c2:Nat) (xs:List UInt8) (hx:a.eval x=.slice A2 m c2) (hr:Bs w A2 xs) (hm:xs.length=m) (hn:n+m≤1000000000)
 (h:∀ A' c' w',OwnQ w' g pre A' (n+m) c' (l++xs)→w.grownBy w' (bk A)→NewTo w A A'→K (a.put o.dst (.slice A' (n+m) c')) w'):
 if Region.wanted o (yielded ops a.tmps)=true then Oper.wp Tryz.prog o a w K Q else E':=by
 have hw:Region.wanted o (yielded ops a.tmps)=true:=by simp [Region.wanted,hgd]
 rw [if_pos hw]
 obtain ⟨A',c',w',hrun,h2,h3,h4⟩:=hown.run_append o.type A2 m c2 xs hr hm hn
 unfold Oper.wp execOp
 simp only [ho,resolve,invoke,builtin,Sem.run_bind,Sem.run_pure,Result.andThen_ok,List.map_toArray,List.map_cons,List.map_nil,hs,hx,hrun]
 exact h A' c' w' h2 h3 h4
structure LpS (c c4:Cch) (d:Dsk) (w W:World) (gx:Nat) (pre:List UInt8) (A1:OA) (n1 c1:Nat) (L1:List Nat) (A2:OA) (n2 c2:Nat) (out:List UInt8) (F:Fp):Prop where
 next:c.Next c4 d w W
 hs:w.heap.size≤W.heap.size
 o1:OwnN W w.heap.size A1 n1 c1 L1
 f1:∀ q,bk A1=some q→¬c4.fp d q∧bk A2≠some q∧q≠gx∧¬F q
 o2:OwnQ W gx pre A2 n2 c2 out
 f2:∀ q,bk A2=some q→w.heap.size≤q∧¬c4.fp d q∧¬F q
 fg:w.heap.size≤gx∧¬c4.fp d gx∧¬F gx
 fF:∀ q,F q→w.heap.size≤q∧q<W.heap.size∧¬c4.fp d q
section
variable {c c4:Cch} {d:Dsk} {w W:World} {gx:Nat} {pre:List UInt8} {A1:OA} {n1 c1:Nat} {L1:List Nat} {A2:OA} {n2 c2:Nat} {out:List UInt8} {F:Fp}
theorem LpS.below {W':World} (h:LpS c c4 d w W gx pre A1 n1 c1 L1 A2 n2 c2 out F) (hb:Below W.heap.size W W'):LpS c c4 d w W' gx pre A1 n1 c1 L1 A2 n2 c2 out F:={
 next:=h.next.chg2 (F:=Fp.none) (Chg.of_below hb) (fun _ h=>h.elim)
 hs:=Nat.le_trans h.hs hb.size
 o1:=Own.later h.o1 hb
 f1:=h.f1
 o2:=h.o2.below hb
 f2:=h.f2
 fg:=h.fg
 fF q hq:=⟨(h.fF q hq).1,lT (h.fF q hq).2.1 hb.size,(h.fF q hq).2.2⟩ }
theorem LpS.app1 {W':World} {A1':OA} {n1' c1':Nat} {L1':List Nat} (h:LpS c c4 d w W gx pre A1 n1 c1 L1 A2 n2 c2 out F) (ho:OwnN W' w.heap.size A1' n1' c1' L1') (hg:W.grownBy W' (bk A1)) (hn:NewTo W A1 A1'):LpS c c4 d w W' gx pre A1' n1' c1' L1' A2 n2 c2 out F:=by
 have hc:Chg (fun b=>bk A1=some b) W W':=Chg.of_grown hg (fun b hb _=>hb)
 have hl:∀ q,bk A1=some q→w.heap.size≤q∧q<W.heap.size:=fun q hq=>Own.lt h.o1 hq
 refine ⟨h.next.chg2 hc (fun b hb _=>⟨(h.f1 b hb).1,(hl b hb).1⟩),Nat.le_trans h.hs hg.size,ho,fun q hq=>?_,h.o2.chg hc (fun e=>(h.f1 gx e).2.2.1 rfl) (fun k hk e=>(h.f1 k e).2.1 hk),h.f2,h.fg,fun q hq=>⟨(h.fF q hq).1,lT (h.fF q hq).2.1 hg.size,(h.fF q hq).2.2⟩⟩
 rcases hn with e|⟨k,e,hk⟩
 ·exact h.f1 q (by rw [←e];exact hq)
 ·rw [e] at hq
  cases hq
  refine ⟨fun hf=>?_,fun e2=>?_,fun e2=>?_,fun hf=>?_⟩
  ·have:=h.next.mem.in_ _ hf;omega
  ·have:=h.o2.own.lt e2;omega
  ·have:=h.o2.lt;omega
  ·have:=(h.fF _ hf).2.1;omega
theorem LpS.app2 {W':World} {A2':OA} {n2' c2':Nat} {out':List UInt8} (h:LpS c c4 d w W gx pre A1 n1 c1 L1 A2 n2 c2 out F) (ho:OwnQ W' gx pre A2' n2' c2' out') (hg:W.grownBy W' (bk A2)) (hn:NewTo W A2 A2'):LpS c c4 d w W' gx pre A1 n1 c1 L1 A2' n2' c2' out' F:=by
 have hc:Chg (fun b=>bk A2=some b) W W':=Chg.of_grown hg (fun b hb _=>hb)
 have hnew:∀ q,bk A2'=some q→bk A2=some q∨W.heap.size≤q:=fun q hq=>by
  rcases hn with e|⟨k,e,hk⟩
  ·exact .inl (by rw [←e];exact hq)
  ·rw [e] at hq;cases hq;exact .inr hk
 refine ⟨h.next.chg2 hc (fun b hb _=>⟨(h.f2 b hb).2.1,(h.f2 b hb).1⟩),Nat.le_trans h.hs hg.size,Own.chg h.o1 hc (fun k hk e=>(h.f1 k hk).2.1 e),fun q hq=>⟨(h.f1 q hq).1,fun e=>?_,(h.f1 q hq).2.2⟩,ho,fun q hq=>?_,h.fg,fun q hq=>⟨(h.fF q hq).1,lT (h.fF q hq).2.1 hg.size,(h.fF q hq).2.2⟩⟩
 ·rcases hnew q e with e2|e2
  ·exact (h.f1 q hq).2.1 e2
  ·have:=(Own.lt h.o1 hq).2;omega
 ·rcases hnew q hq with e2|e2
  ·exact h.f2 q e2
  ·refine ⟨Nat.le_trans h.hs e2,fun hf=>?_,fun hf=>?_⟩
   ·have:=h.next.mem.in_ _ hf;omega
   ·have:=(h.fF _ hf).2.1;omega
theorem LpS.got {c5:Cch} {W':World} {g7:Nat} {k:Int} {A:OA} {m cc:Nat} {body:List UInt8} (h:LpS c c4 d w W gx pre A1 n1 c1 L1 A2 n2 c2 out Fp.none) (hr:RdB c4 c5 d W W' g7 k A m cc body):
 LpS c c5 d w W' gx pre A1 n1 c1 L1 A2 n2 c2 out (fun q=>q=g7∨bk A=some q):=by
 have hc:=hr.next.chg
 have hfp:∀ q,q<W.heap.size→¬c4.fp d q→¬c5.fp d q:=fun q hq hn hf=>(hr.next.fp q hf).elim hn (fun h=>by omega)
 have hF:∀ q,q=g7∨bk A=some q→W.heap.size≤q∧q<W'.heap.size∧¬c5.fp d q:=fun q hq=>by
  rcases hq with rfl|hq
  ·exact ⟨hr.g7a,hr.blk.lt,hr.g7b⟩
  ·exact ⟨(Own.lt hr.own hq).1,(Own.lt hr.own hq).2,(hr.ob q hq).1⟩
 refine ⟨h.next.trans hr.next h.hs,Nat.le_trans h.hs hc.size,Own.chg h.o1 hc (fun q hq=>(h.f1 q hq).1),fun q hq=>?_,h.o2.chg hc h.fg.2.1 (fun q hq=>(h.f2 q hq).2.1),fun q hq=>?_,?_,fun q hq=>⟨Nat.le_trans h.hs (hF q hq).1,(hF q hq).2⟩⟩
 ·have hl:=(Own.lt h.o1 hq).2
  exact ⟨hfp q hl (h.f1 q hq).1,(h.f1 q hq).2.1,(h.f1 q hq).2.2.1,fun hf=>by have:=(hF q hf).1;omega⟩
 ·have hl:=h.o2.own.lt hq
  exact ⟨(h.f2 q hq).1,hfp q hl (h.f2 q hq).2.1,fun hf=>by have:=(hF q hf).1;omega⟩
 ·have hl:=h.o2.lt
  exact ⟨h.fg.1,hfp _ hl h.fg.2.1,fun hf=>by have:=(hF _ hf).1;omega⟩
theorem LpS.free (h:LpS c c4 d w W gx pre A1 n1 c1 L1 A2 n2 c2 out F):LpS c c4 d w W gx pre A1 n1 c1 L1 A2 n2 c2 out Fp.none:={
 next:=h.next
 hs:=h.hs
 o1:=h.o1
 f1 q hq:=⟨(h.f1 q hq).1,(h.f1 q hq).2.1,(h.f1 q hq).2.2.1,fun h=>h⟩
 o2:=h.o2
 f2 q hq:=⟨(h.f2 q hq).1,(h.f2 q hq).2.1,fun h=>h⟩
 fg:=⟨h.fg.1,h.fg.2.1,fun h=>h⟩
 fF _ hq:=hq.elim }
theorem LpS.keep {W':World} {row:Option Nat} (h:LpS c c4 d w W gx pre A1 n1 c1 L1 A2 n2 c2 out F) (hg:W.grownBy W' row) (hrow:row=bk A1∨row=bk A2) {q:Nat} (hq:F q):W'.heap[q]? = W.heap[q]? :=
 hg.block q (h.fF q hq).2.1 (fun e=>by
  rcases hrow with r|r
  ·exact (h.f1 q (by rw [←r];exact e.symm)).2.2.2 hq
  ·exact (h.f2 q (by rw [←r];exact e.symm)).2.2 hq)
end
structure LpV (c c4:Cch) (d:Dsk) (w W:World) (gx:Nat) (pre:List UInt8) (A1:OA) (n1 c1:Nat) (L1:List Nat) (A2:OA) (n2 c2:Nat) (out:List UInt8) (F:Fp) (gv:Nat) (A:OA) (mb cb:Nat) (body:List UInt8):Prop where
 st:LpS c c4 d w W gx pre A1 n1 c1 L1 A2 n2 c2 out F
 blk:Blk W gv 39 #[.int .i64 4,.slice A mb cb]
 bs:Bs W A body
 fg:F gv
 fa:∀ q,bk A=some q→F q
section
variable {c c4:Cch} {d:Dsk} {w W:World} {gx:Nat} {pre:List UInt8} {A1:OA} {n1 c1:Nat} {L1:List Nat} {A2:OA} {n2 c2:Nat} {out:List UInt8} {F:Fp} {gv:Nat} {A:OA} {mb cb:Nat} {body:List UInt8}
theorem LpV.below {W':World} (h:LpV c c4 d w W gx pre A1 n1 c1 L1 A2 n2 c2 out F gv A mb cb body) (hb:Below W.heap.size W W'):LpV c c4 d w W' gx pre A1 n1 c1 L1 A2 n2 c2 out F gv A mb cb body:=
 ⟨h.st.below hb,h.blk.later hb,Rd.later h.bs hb,h.fg,h.fa⟩
theorem LpV.app1 {W':World} {A1':OA} {n1' c1':Nat} {L1':List Nat} (h:LpV c c4 d w W gx pre A1 n1 c1 L1 A2 n2 c2 out F gv A mb cb body) (ho:NatR.Own W' w.heap.size A1' n1' c1' L1') (hg:W.grownBy W' (bk A1)) (hn:NewTo W A1 A1'):LpV c c4 d w W' gx pre A1' n1' c1' L1' A2 n2 c2 out F gv A mb cb body:=
 ⟨h.st.app1 (NatR.own.1 ho) hg hn,(h.st.keep hg (.inl rfl) h.fg).trans h.blk,Rd.same h.bs (fun k hk=>h.st.keep hg (.inl rfl) (h.fa k hk)),h.fg,h.fa⟩
theorem LpV.app2 {W':World} {A2':OA} {n2' c2':Nat} {out':List UInt8} (h:LpV c c4 d w W gx pre A1 n1 c1 L1 A2 n2 c2 out F gv A mb cb body) (ho:OwnQ W' gx pre A2' n2' c2' out') (hg:W.grownBy W' (bk A2)) (hn:NewTo W A2 A2'):LpV c c4 d w W' gx pre A1 n1 c1 L1 A2' n2' c2' out' F gv A mb cb body:=
 ⟨h.st.app2 ho hg hn,(h.st.keep hg (.inr rfl) h.fg).trans h.blk,Rd.same h.bs (fun k hk=>h.st.keep hg (.inr rfl) (h.fa k hk)),h.fg,h.fa⟩
theorem LpV.cell (h:LpV c c4 d w W gx pre A1 n1 c1 L1 A2 n2 c2 out F gv A mb cb body):W.cell? ⟨gv,1,none⟩=some (.slice A mb cb):=by
 have:=h.blk.cell 1
 simpa using this
end
def regionIn (n:Nat):Code→Option Code
 | .region i o d=>if i=n then some (.region i o d) else none
 | .loop c=>regionIn n c
 | .seq a b=>match regionIn n a with
   | some c=>some c
   | none=>regionIn n b
 | .block _ c=>regionIn n c
 | .scope c=>regionIn n c
 | .cond _ a b=>match regionIn n a with
   | some c=>some c
   | none=>regionIn n b
 | _=>none
noncomputable def r22:Code:=((Tryz.f34.body.bind (regionIn 22)).getD .skip)
theorem read22 {c c5:Cch} {d:Dsk} {w wv:World} {G:Nat} {PRE:List UInt8} {A1:OA} {i cc1:Nat} {L1:List Nat} {AT:Nat} {A2:OA} {n2 cc2:Nat} {out:List UInt8} {F:Fp} {gv:Nat} {A:OA} {mb cb:Nat} {body:List UInt8}
 {u0 u1 u2 u3 u4 u5 u6 u7 u8 u9 u10 u11 u12 u15 u18 u19 u20 u21 u22 u23 u24 u25 u26 u27 u28 u29 u30 u31 u32 u33 u34 u35 u36 u37 u38 u39 u40 u41 u42 u43 u44 u45 u46 u47 u48 u49 u50 u51 u52 u53 u54 u55 u56 u57 u58 u59 u60 u61 u62 u63 u64 u65 u66 u67 u68 u69 u70 u71 u72 u73 u74 u75 u76 u77 u78 u79 u80 u81 u82 u83 u84 u85 u86 u87 u88 u89 u90 u91 u92 u93 u94 u95 u96 u97 u98 u99 u100 u101 u102 u103 u104 u105 u106 u107 u108 u109 u110 u111 u112 u113 u114 u115 u116 u117 u118 u119 u120 u121 u122 u123 u124 u125 u126 u127 u128 u129 u130 u131 u132 u133 u134 u135 u136 u137 u138 u139 u140 u141 u142 u143 u144 u145 u146 u147 u148 u149 u150 u151 u152 u153 u154 u155 u156 u157 u158 u159 u160 u161 u162 u163:Value} {Q:Exit→Act→World→Prop}
 (P:LpV c c5 d w wv G PRE A1 (i+1) cc1 L1 A2 n2 cc2 out F gv A mb cb body) (hbl2:body.length=mb) (hi1:i+1≤1000000000) (hn2m:n2+mb≤1000000000)
 (hK:∀ (v155:Value) (A1':OA) (c1':Nat) (A2':OA) (c2':Nat) (W:World),LpS c c5 d w W G PRE A1' (i+1+1) c1' (L1++[AT]) A2' (n2+mb) c2' (out++body) Fp.none→Q .normal ⟨#[u0,u1,u2,u3,u4,u5,u6,u7,u8,u9,u10,u11,u12,.slice A1' (i+1+1) c1',.slice A2' (n2+mb) c2',u15,.int .i64 (AT:Int),.pointer (some ⟨gv,0,none⟩),u18,u19,u20,u21,u22,u23,u24,u25,u26,u27,u28,u29,u30,u31,u32,u33,u34,u35,u36,u37,u38,u39,u40,u41,u42,u43,u44,u45,u46,u47,u48,u49,u50,u51,u52,u53,u54,u55,u56,u57,u58,u59,u60,u61,u62,u63,u64,u65,u66,u67,u68,u69,u70,u71,u72,u73,u74,u75,u76,u77,u78,u79,u80,u81,u82,u83,u84,u85,u86,u87,u88,u89,u90,u91,u92,u93,u94,u95,u96,u97,u98,u99,u100,u101,u102,u103,u104,u105,u106,u107,u108,u109,u110,u111,u112,u113,u114,u115,u116,u117,u118,u119,u120,u121,u122,u123,u124,u125,u126,u127,u128,u129,u130,u131,u132,u133,u134,u135,u136,u137,u138,u139,u140,u141,u142,u143,u144,u145,u146,u147,u148,u149,u150,u151,u152,.slice A1 (i+1) cc1,.int .i64 (AT:Int),v155,.slice A1' (i+1+1) c1',.slice A2 n2 cc2,.pointer (some ⟨gv,1,none⟩),.slice A mb cb,.slice A2' (n2+mb) c2',u161,u162,u163],[]⟩ W):
 Code.wp Tryz.prog r22 Q ⟨#[u0,u1,u2,u3,u4,u5,u6,u7,u8,u9,u10,u11,u12,.slice A1 (i+1) cc1,.slice A2 n2 cc2,u15,.int .i64 (AT:Int),.pointer (some ⟨gv,0,none⟩),u18,u19,u20,u21,u22,u23,u24,u25,u26,u27,u28,u29,u30,u31,u32,u33,u34,u35,u36,u37,u38,u39,u40,u41,u42,u43,u44,u45,u46,u47,u48,u49,u50,u51,u52,u53,u54,u55,u56,u57,u58,u59,u60,u61,u62,u63,u64,u65,u66,u67,u68,u69,u70,u71,u72,u73,u74,u75,u76,u77,u78,u79,u80,u81,u82,u83,u84,u85,u86,u87,u88,u89,u90,u91,u92,u93,u94,u95,u96,u97,u98,u99,u100,u101,u102,u103,u104,u105,u106,u107,u108,u109,u110,u111,u112,u113,u114,u115,u116,u117,u118,u119,u120,u121,u122,u123,u124,u125,u126,u127,u128,u129,u130,u131,u132,u133,u134,u135,u136,u137,u138,u139,u140,u141,u142,u143,u144,u145,u146,u147,u148,u149,u150,u151,u152,u153,u154,u155,u156,u157,u158,u159,u160,u161,u162,u163],[]⟩ wv:=by
 conv=>arg 2;whnf
 have P0':=P
 have P:=Lh P0'
 have P0:=Lh (P.out.below (Below.refl _ wv).drew)
 have P1:=Lh (P.out.below ((Below.refl _ wv).alloc nL (.cells #[.int .i64 (AT:Int)] 3)).drew)
 have k1:=P.out.cell
 have hws:w.heap.size≤wv.heap.size:=P.out.st.hs
 have N1:=Lh (fun j v (hv:(NatR.cl AT)[j]? = some v)=>(by
  have hj:j<1:=(Ze hv).1
  obtain rfl:j=0:=by omega
  cases hv
  rw [Addr.add_mid]
  exact World.cell?_alloc_at _ _ _ _ rfl:(wv.alloc (.cells #[.int .i64 (AT:Int)] 3)).drew.cell? ((⟨wv.heap.size,0,none⟩:Addr).add j)=some v))
 have N2:=Lh (fun (w3:World) (hg:(wv.alloc (.cells #[.int .i64 (AT:Int)] 3)).drew.grownBy w3 (bk A2)) j v (hv:(NatR.cl AT)[j]? = some v)=>(by
  have h:=N1.out j v hv
  rw [Addr.add_mid] at h ⊢
  exact (cell_same (hg.block wv.heap.size (by show wv.heap.size<(wv.alloc (.cells #[.int .i64 (AT:Int)] 3)).heap.size;simp) (fun e=>by have:=P.out.st.o2.own.lt e.symm;omega))).trans h:w3.cell? ((⟨wv.heap.size,0,none⟩:Addr).add j)=some v))
 have N3:=Lh (fun (w3:World) j v (hv:(NatR.cl AT)[j]? = some v)=>(by
  have hj:j<1:=(Ze hv).1
  obtain rfl:j=0:=by omega
  cases hv
  rw [Addr.add_mid]
  exact World.cell?_alloc_at _ _ _ _ rfl:(w3.alloc (.cells #[.int .i64 (AT:Int)] 3)).cell? ((⟨w3.heap.size,0,none⟩:Addr).add j)=some v))
 clear P0'
 go_region_held3 (fun W=>W.cell? ⟨gv,1,none⟩=some (.slice A mb cb))
  (first|(exact k1)|(exact P0.out.cell)|(exact P1.out.cell)|(exact P3.out.cell)|(exact P4.out.cell)|(exact (P4.out.below ((Below.refl _ _).alloc nL _)).cell)|go_keep)
  (first|(refine NatR.step_append rfl _ _ rfl w.heap.size A1 (i+1) cc1 L1 AT rfl (NatR.own.2 P1.out.st.o1) ⟨wv.heap.size,0,none⟩ 1 rfl N1.out hi1 P1.out.st.hs ?_;intro A1' c1' w3 ho3 hg3 hn3;have P3:=Lh (P1.out.app1 ho3 hg3 hn3))|(refine OwnQ.step_append rfl _ _ rfl G PRE A2 n2 cc2 out rfl P3.out.st.o2 A mb cb body rfl P3.out.bs hbl2 hn2m ?_;intro A2' c2' w4 ho4 hg4 hn4;have P4:=Lh (P3.out.app2 ho4 hg4 hn4))|(refine OwnQ.step_append rfl _ _ rfl G PRE A2 n2 cc2 out rfl P1.out.st.o2 A mb cb body rfl P1.out.bs hbl2 hn2m ?_;intro A2' c2' w3 ho3 hg3 hn3;have P3:=Lh (P1.out.app2 ho3 hg3 hn3);have n3:=Lh (N2.out w3 hg3))|(refine NatR.step_append rfl _ _ rfl w.heap.size A1 (i+1) cc1 L1 AT rfl (NatR.own.2 P3.out.st.o1) ⟨wv.heap.size,0,none⟩ 1 rfl n3.out hi1 P3.out.st.hs ?_;intro A1' c1' w4 ho4 hg4 hn4;have P4:=Lh (P3.out.app1 ho4 hg4 hn4))|(refine OwnQ.step_append rfl _ _ rfl G PRE A2 n2 cc2 out rfl P0.out.st.o2 A mb cb body rfl P0.out.bs hbl2 hn2m ?_;intro A2' c2' w3 ho3 hg3 hn3;have P4:=Lh (P0.out.app2 ho3 hg3 hn3);have P5:=Lh (P4.out.below ((Below.refl _ w3).alloc nL (.cells #[.int .i64 (AT:Int)] 3))))|(refine NatR.step_append rfl _ _ rfl w.heap.size A1 (i+1) cc1 L1 AT rfl (NatR.own.2 P5.out.st.o1) ⟨w3.heap.size,0,none⟩ 1 rfl (N3.out w3) hi1 P5.out.st.hs ?_;intro A1' c1' w4 ho4 hg4 hn4;have P3:=Lh (P5.out.app1 ho4 hg4 hn4)))
 all_goals (refine hK _ _ _ _ _ _ ?_;first|exact P4.out.st.free|exact P3.out.st.free)
def loopIn:Code→Option Code
 | .loop c=>some c
 | .seq a b=>match loopIn a with
   | some c=>some c
   | none=>loopIn b
 | .block _ c=>loopIn c
 | .scope c=>loopIn c
 | .cond _ a b=>match loopIn a with
   | some c=>some c
   | none=>loopIn b
 | _=>none
noncomputable def readLoop:Code:=((Tryz.f34.body.bind loopIn).getD .skip)
theorem readRound {sg:Nat} {c c3:Cch} {d:Dsk} {b:Nat} {len:Int} {w wr:World} {gx m cc K5 Y4 SZ i:Nat} {BD:List UInt8} {ats:List Nat} {out0:List UInt8} {A1:OA} {cc1:Nat} {A2:OA} {n2 cc2:Nat} {out:List UInt8}
 {u1 u2 u3 u4 u5 u6 u7 u8 u10 u15 u16 u17 u18 u19 u20 u21 u22 u23 u24 u25 u26 u27 u28 u29 u30 u31 u32 u33 u34 u35 u36 u37 u38 u39 u40 u41 u42 u43 u44 u45 u46 u47 u48 u49 u50 u51 u52 u53 u54 u55 u56 u57 u58 u59 u60 u61 u62 u63 u64 u65 u66 u67 u68 u69 u70 u71 u72 u73 u74 u75 u76 u77 u78 u79 u80 u81 u82 u83 u84 u85 u86 u87 u88 u89 u90 u91 u92 u93 u94 u95 u96 u97 u98 u99 u100 u101 u102 u103 u104 u105 u108 u109 u110 u111 u112 u113 u114 u115 u116 u117 u118 u119 u120 u121 u122 u123 u124 u125 u126 u127 u128 u129 u130 u131 u132 u133 u134 u135 u136 u137 u138 u139 u140 u141 u142 u143 u144 u145 u146 u147 u148 u149 u150 u151 u152 u153 u154 u155 u156 u157 u158 u159 u160 u161 u162 u163:Value} {Q:Exit→Act→World→Prop}
 (hsl:sg<w.heap.size) (hsg:¬c.fp d sg) (hs:w.cell? ⟨sg,0,none⟩=some (.pointer (some ⟨c.g,0,none⟩))) (hlen:BD.length=m) (hKm:K5≤m) (hmc:m≤cc) (hcc:cc≤9223372036854775807) (hK5n:5+2*Y4=K5) (hY42:Y4≤2) (hSZl:SZ≤65535)
 (hats:(List.range Y4).map (fun i=>x2 BD (5+2*i))=ats) (hrd:readL (c.view d) b len=Option.map (fun o=>(b::ats,o)) (restL (c.view d) SZ ats out0)) (hlt:i<Y4) (hpre:Bs wr (some ⟨gx,0,none⟩) (BD.take K5))
 (hL:LpS c c3 d w wr gx (BD.take K5) A1 (i+1) cc1 (b::ats.take i) A2 n2 cc2 out Fp.none) (hn2:n2≤SZ) (hrest:restL (c.view d) SZ (ats.drop i) out=restL (c.view d) SZ ats out0)
 (hnext:∀ (v4 v5 v6 v15 v16 v17 v18 v108 v109 v110 v111 v112 v113 v114 v115 v116 v117 v118 v119 v120 v121 v122 v123 v124 v125 v126 v127 v128 v129 v130 v131 v132 v133 v134 v135 v136 v137 v138 v139 v140 v141 v142 v143 v144 v145 v146 v147 v148 v149 v150 v151 v152 v153 v154 v155 v156 v157 v158 v159 v160 v161:Value) (c5:Cch) (A1':OA) (c1':Nat) (A2':OA) (n2' c2':Nat) (out':List UInt8) (W:World),LpS c c5 d w W gx (BD.take K5) A1' (i+1+1) c1' (b::ats.take (i+1)) A2' n2' c2' out' Fp.none→n2'≤SZ →
   restL (c.view d) SZ (ats.drop (i+1)) out'=restL (c.view d) SZ ats out0→Q .normal ⟨#[.pointer (some ⟨sg,0,none⟩),u1,u2,u3,v4,v5,v6,u7,u8,.slice (some ⟨gx,0,none⟩) m cc,u10,.int .i64 (SZ:Int),.int .i64 (Y4:Int),.slice A1' (i+1+1) c1',.slice A2' n2' c2',v15,v16,v17,v18,u19,u20,u21,u22,u23,u24,u25,u26,u27,u28,u29,u30,u31,u32,u33,u34,u35,u36,u37,u38,u39,u40,u41,u42,u43,u44,u45,u46,u47,u48,u49,u50,u51,u52,u53,u54,u55,u56,u57,u58,u59,u60,u61,u62,u63,u64,u65,u66,u67,u68,u69,u70,u71,u72,u73,u74,u75,u76,u77,u78,u79,u80,u81,u82,u83,u84,u85,u86,u87,u88,u89,u90,u91,u92,u93,u94,u95,u96,u97,u98,u99,u100,u101,u102,u103,u104,u105,.int .i64 (Y4:Int),.int .i64 ((i:Int)+1),v108,v109,v110,v111,v112,v113,v114,v115,v116,v117,v118,v119,v120,v121,v122,v123,v124,v125,v126,v127,v128,v129,v130,v131,v132,v133,v134,v135,v136,v137,v138,v139,v140,v141,v142,v143,v144,v145,v146,v147,v148,v149,v150,v151,v152,v153,v154,v155,v156,v157,v158,v159,v160,v161,u162,u163],[]⟩ W)
 (hbad:∀ (a:Act) (W:World) (E:Int) (c5:Cch),E≠0→readL (c.view d) b len=none→c.Next c5 d w W→a.tmps.getD 4 undef=.slice none 0 0→a.tmps.getD 5 undef=.slice none 0 0→a.tmps.getD 6 undef=.int .i64 E→a.defers=[]→Q .ret a W):
 Code.wp Tryz.prog readLoop Q ⟨#[.pointer (some ⟨sg,0,none⟩),u1,u2,u3,u4,u5,u6,u7,u8,.slice (some ⟨gx,0,none⟩) m cc,u10,.int .i64 (SZ:Int),.int .i64 (Y4:Int),.slice A1 (i+1) cc1,.slice A2 n2 cc2,u15,u16,u17,u18,u19,u20,u21,u22,u23,u24,u25,u26,u27,u28,u29,u30,u31,u32,u33,u34,u35,u36,u37,u38,u39,u40,u41,u42,u43,u44,u45,u46,u47,u48,u49,u50,u51,u52,u53,u54,u55,u56,u57,u58,u59,u60,u61,u62,u63,u64,u65,u66,u67,u68,u69,u70,u71,u72,u73,u74,u75,u76,u77,u78,u79,u80,u81,u82,u83,u84,u85,u86,u87,u88,u89,u90,u91,u92,u93,u94,u95,u96,u97,u98,u99,u100,u101,u102,u103,u104,u105,.int .i64 (Y4:Int),.int .i64 (i:Int),u108,u109,u110,u111,u112,u113,u114,u115,u116,u117,u118,u119,u120,u121,u122,u123,u124,u125,u126,u127,u128,u129,u130,u131,u132,u133,u134,u135,u136,u137,u138,u139,u140,u141,u142,u143,u144,u145,u146,u147,u148,u149,u150,u151,u152,u153,u154,u155,u156,u157,u158,u159,u160,u161,u162,u163],[]⟩ wr:=by
 conv=>arg 2;whnf
 have HK5:=Lh hK5n
 have HSg:=Lh hsg
 have HS:=Lh hs
 have HAts:=Lh hats
 have HRd:=Lh hrd
 have HRest:=Lh hrest
 have HL:=Lh hL
 have HX:=Lh hnext
 have HBd:=Lh hbad
 clear hsg hs hats hrd hrest hL hnext hbad
 obtain ⟨I5,hI5⟩:∃ q,5+2*i=q:=⟨_,rfl⟩
 obtain ⟨I6,hI6⟩:∃ q,I5+1=q:=⟨_,rfl⟩
 have hK5n2:=HK5.out
 have hI6K:I6<K5:=by omega
 have hbl:(BD.take K5).length=K5:=by rw [List.length_take,hlen];omega
 have z5:=hpre.cellD (i:=I5) (by omega)
 have z6:=hpre.cellD (i:=I6) (by omega)
 rw [Nat.zero_add] at z5 z6
 have hg5:(BD.take K5).getD I5 0=BD.getD I5 0:=by simp [List.getD,List.getElem?_take,show I5<K5 by omega]
 have hg6:(BD.take K5).getD I6 0=BD.getD I6 0:=by simp [List.getD,List.getElem?_take,hI6K]
 rw [hg5] at z5
 rw [hg6] at z6
 obtain ⟨X5,hX5⟩:∃ q,(BD.getD I5 0).toNat=q:=⟨_,rfl⟩
 obtain ⟨X6,hX6⟩:∃ q,(BD.getD I6 0).toNat=q:=⟨_,rfl⟩
 have l5:X5<256:=by rw [←hX5];exact UInt8.toNat_lt _
 have l6:X6<256:=by rw [←hX6];exact UInt8.toNat_lt _
 rw [hX5] at z5
 rw [hX6] at z6
 obtain ⟨AT,hAT⟩:∃ q,X5+X6*2^8=q:=⟨_,rfl⟩
 have o5:=or_shl8 l5 l6 hAT
 have hATl:AT≤65535:=by omega
 have hx2:x2 BD I5=AT:=by unfold x2;rw [hI6,hX5,hX6,hAT]
 have hati:ats[i]? = some AT:=by rw [←HAts.out,List.getElem?_map,List.getElem?_range hlt,Option.map_some,hI5,hx2]
 have hatd:ats.drop i=AT::ats.drop (i+1):=by
  obtain ⟨h1,h2⟩:=Ze hati
  rw [List.drop_eq_getElem_cons h1,h2]
 have hatt:ats.take (i+1)=ats.take i++[AT]:=by rw [List.take_add_one,hati];rfl
 have HAtd:=Lh (⟨hatd,hatt⟩:ats.drop i=AT::ats.drop (i+1)∧ats.take (i+1)=ats.take i++[AT])
 have hI5i:(5:Int)+2*(i:Int)=(I5:Int):=by omega
 have hI6i:(I5:Int)+1=(I6:Int):=by omega
 have a1:IntKind.i64.wrap (2*(i:Int))=2*i:=wrapi64 (by omega) (by omega)
 have a2:IntKind.i64.wrap (I5:Int)=I5:=wrapi64 (by omega) (by omega)
 have a3:IntKind.i64.wrap (I6:Int)=I6:=wrapi64 (by omega) (by omega)
 have j5:(I5:Int)<m:=by omega
 have j6:(I6:Int)<m:=by omega
 have hcond:(i:Int)<(Y4:Int):=by omega
 clear hpre hI5 hI6 hK5n hK5n2 hbl hg5 hg6 hX5 hX6 hAT hx2 hati hatd hatt
 go_wp2_with fail
 go_region_held3 (fun W=>W.cell? ⟨gx,I5,none⟩=some (.int .u8 (X5:Int))∧W.cell? ⟨gx,I6,none⟩=some (.int .u8 (X6:Int))) (first|(exact ⟨z5,z6⟩)|go_keep) (fail)
 rw [show IntKind.i64.wrap (X5:Int)=X5 from wrapi64 (by omega) (by omega),show IntKind.i64.wrap (X6:Int)=X6 from wrapi64 (by omega) (by omega),show IntKind.i64.wrap ((X6:Int)*256)=(X6:Int)*256 from wrapi64 (by omega) (by omega),o5]
 clear z5 z6 o5 a1 a2 a3 j5 j6 hcond hI5i hI6i
 have HLd:=Lh (HL.out.below (Below.refl _ wr).drew)
 clear HL
 generalize wr.drew=wd at *
 have hN:=HLd.out.next
 have hsd:w.heap.size≤wd.heap.size:=HLd.out.hs
 have hsgd:sg<wd.heap.size:=lT hsl hsd
 have k0:wd.cell? ⟨sg,0,none⟩=some (.pointer (some ⟨c.g,0,none⟩)):=(cell_same (hN.chg.block sg hsl HSg.out)).trans HS.out
 have hsg3:¬c3.fp d sg:=fun hf=>(hN.fp sg hf).elim HSg.out (fun h=>by omega)
 have he3:c3.g=c.g:=hN.eg
 have HGet3:=Lh (by have h:=cacheGet c3 d AT wd hN.mem hN.inv hATl;rw [he3] at h;exact h:Calls Tryz.prog 59 #[Value.pointer (some ⟨c.g,0,none⟩),Value.int .i64 (AT:Int)] wd (gotPost c3 d AT wd))
 have HGA:=Lh (HGet3.out.mono (fun (e:Ending) (w2:World) hp=>by
  obtain ⟨c5,k,A,mb,cb,body,E,he,hN2,hl2,hn2,ho2,hq2,hgE⟩:=hp.flat
  exact (⟨c5,k,A,mb,cb,body,E,he,RdB.call_first (Below.refl _ _) hN2 hl2 hn2 ho2 hq2,by rw [←hN.view AT];exact hgE⟩:∃ (c5:Cch) (k:Int) (A:OA) (mb cb:Nat) (body:List UInt8) (E:Int),e=Ending.returned (.tuple #[.agg #[Value.int .i64 k,Value.slice A mb cb],Value.int .i64 E])∧RdB c3 c5 d wd (w2.alloc (.cells #[Value.int .i64 k,Value.slice A mb cb] 39)) w2.heap.size k A mb cb body∧GotE (c.view d AT) k body E)))
 have HSg3:=Lh hsg3
 have HE3:=Lh he3
 have HN3d:=Lh hN
 clear hsg3 he3 hN HGet3
 go_wp2_with fail
 refine HGA.out.mono ?_
 rintro e w2 ⟨c5,k,A,mb,cb,body,E,rfl,hr,hgE⟩
 have HR5:=Lh hr
 have HN5:=Lh (HN3d.out.trans hr.next hsd)
 clear hr HGA k0
 cases hv:c.view d AT with
 | none=>
   rw [hv] at hgE
   have hE2:(E != 0)=true:=bne_iff_ne.2 hgE
   have HE:=Lh (show E≠0 from hgE)
   have HRr:=Lh (by
    rw [HRd.out,←HRest.out,HAtd.out.1]
    unfold restL
    rw [hv]
    rfl:readL (c.view d) b len=none)
   clear hgE hv
   go_wp2
   exact HBd.out _ _ _ _ HE.out HRr.out HN5.out rfl rfl rfl rfl
 | some y2=>
   rw [hv] at hgE
   obtain ⟨rfl,rfl,rfl⟩:=hgE
   have hb2:=HR5.out.len
   obtain ⟨MB,hMB⟩:∃ q,min (SZ-n2) 240=q:=⟨_,rfl⟩
   have hol:=HLd.out.o2.own.length
   have HRs:=Lh (by
    rw [HRd.out,←HRest.out,HAtd.out.1]
    show Option.map _ (match c.view d AT with|some b=>if b.kind=4∧b.body.length=min (SZ-out.length) 240 then restL (c.view d) SZ (ats.drop (i+1)) (out++b.body) else none|none=>none)=_
    rw [hv,hol,hMB];dsimp only;rw [hb2]:readL (c.view d) b len=Option.map (fun o=>(b::ats,o)) (if y2.kind=4∧mb=MB then restL (c.view d) SZ (ats.drop (i+1)) (out++y2.body) else none))
   have hm1:IntKind.i64.wrap ((SZ:Int)-n2)=SZ-n2:=wrapi64 (by omega) (by omega)
   have hm2:min ((SZ:Int)-n2) 240=(MB:Int):=by omega
   have HV2:=Lh hv
   clear hv
   by_cases hk4:y2.kind=4
   ·have hk4i:(y2.kind:Int)=4:=by omega
    have HR6:=Lh (by rw [←hk4i];exact HR5.out:RdB c3 c5 d wd (w2.alloc (.cells #[Value.int .i64 4,Value.slice A mb cb] 39)) w2.heap.size 4 A mb cb y2.body)
    rw [hk4i]
    by_cases hmb:mb=MB
    ·have hmb2:((mb:Int) != (MB:Int))=false:=by rw [hmb];simp
     have HMb:=Lh hmb
     have HMB:=Lh hMB
     have HK4:=Lh hk4
     clear hmb hMB hk4i hk4 HR5
     go_wp2_with fail
     obtain ⟨gv,hgv⟩:∃ q,w2.heap.size=q:=⟨_,rfl⟩
     obtain ⟨wv,hwv⟩:∃ x,w2.alloc (.cells #[Value.int .i64 4,Value.slice A mb cb] 39)=x:=⟨_,rfl⟩
     rw [hgv,hwv] at HR6
     rw [hgv,hwv]
     have P:=Lh (⟨HLd.out.got HR6.out,HR6.out.blk,OwnB.bs HR6.out.own,.inl rfl,fun q hq=>.inr hq⟩:LpV c c5 d w wv gx (BD.take K5) A1 (i+1) cc1 (b::ats.take i) A2 n2 cc2 out (fun q=>q=gv∨bk A=some q) gv A mb cb y2.body)
     have hbl2:y2.body.length=mb:=HR6.out.len
     have hn2m:n2+mb≤1000000000:=by have:=HMb.out;have:=HMB.out;omega
     have hn2s:n2+mb≤SZ:=by have:=HMb.out;have:=HMB.out;omega
     have hi1:i+1≤1000000000:=by omega
     have HRn:=Lh (HRs.out.trans (by rw [if_pos ⟨HK4.out,HMb.out⟩]):readL (c.view d) b len=Option.map (fun o=>(b::ats,o)) (restL (c.view d) SZ (ats.drop (i+1)) (out++y2.body)))
     have HRest2:=Lh (show restL (c.view d) SZ (ats.drop (i+1)) (out++y2.body)=restL (c.view d) SZ ats out0 from by
      rw [←HRest.out,HAtd.out.1]
      show _=(match c.view d AT with|some b=>if b.kind=4∧b.body.length=min (SZ-out.length) 240 then restL (c.view d) SZ (ats.drop (i+1)) (out++b.body) else none|none=>none)
      rw [HV2.out]
      dsimp only
      rw [if_pos ⟨HK4.out,by rw [hbl2,hol,HMb.out,HMB.out]⟩])
     clear hgv hwv
     refine read22 P.out hbl2 hi1 hn2m (fun v155 A1' c1' A2' c2' W hS=>?_)
     have HS1:=Lh (by rw [List.cons_append,←HAtd.out.2] at hS;exact hS:LpS c c5 d w W gx (BD.take K5) A1' (i+1+1) c1' (b::ats.take (i+1)) A2' (n2+mb) c2' (out++y2.body) Fp.none)
     clear hS P
     dsimp only
     go_wp2
     exact HX.out _ _ _ _ _ _ _ _ _ _ _ _ _ _ _ _ _ _ _ _ _ _ _ _ _ _ _ _ _ _ _ _ _ _ _ _ _ _ _ _ _ _ _ _ _ _ _ _ _ _ _ _ _ _ _ _ _ _ _ _ _ c5 A1' c1' A2' (n2+mb) c2' (out++y2.body) W HS1.out hn2s HRest2.out
    ·have hmb2:((mb:Int) != (MB:Int))=true:=by rw [bne_iff_ne];omega
     have HRr:=Lh (HRs.out.trans (by rw [if_neg (by rintro ⟨-,h⟩;exact hmb h)];first|done|rfl))
     clear hmb hMB hk4i hk4
     go_wp2
     exact HBd.out _ _ _ _ (by decide) HRr.out (HN3d.out.trans HR6.out.next hsd) rfl rfl rfl rfl
   ·have hk4i:¬(y2.kind:Int)=4:=by omega
    have HRr:=Lh (HRs.out.trans (by rw [if_neg (by rintro ⟨h,-⟩;exact hk4 h)];first|done|rfl))
    clear hk4 hMB
    go_wp2
    exact HBd.out _ _ _ _ (by decide) HRr.out HN5.out rfl rfl rfl rfl
end Go.Proofs.YtiihiocgbfafaaaGreat
