/- L17a J10 J11 L17 J12 -/
import Derived.Test.YtiihiocgbfafaaaGreatKKf
set_option linter.unusedSimpArgs false
set_option linter.unusedVariables false
set_option maxHeartbeats 8000000
set_option maxRecDepth 100000
namespace Go.Proofs.YtiihiocgbfafaaaGreat
open Go.RowKit Go.Maps
def setV (vw:Nat→Option Bk) (b:Nat) (x:Bk):Nat→Option Bk:=fun n=>if n=b then some x else vw n
def restV (vw:Nat→Option Bk):List Nat→List UInt8→(Nat→Option Bk)
 | [],_=>vw
 | b::r,l=>restV (setV vw b ⟨4,l.take 240⟩) r (l.drop 240)
def beB (n:Nat):List UInt8:=[UInt8.ofNat n,UInt8.ofNat (n/256)]
def headW (n m:Nat) (r:List Nat):List UInt8:=beB n++beB m++[UInt8.ofNat r.length]++r.flatMap beB
def firstB (n:Nat) (r:List Nat) (pk:List UInt8):Bk:=⟨3,headW n pk.length r++pk.take (235-2*r.length)⟩
def writeV (vw:Nat→Option Bk) (b0:Nat) (r:List Nat) (n:Nat) (pk:List UInt8):Nat→Option Bk:=
 restV (setV vw b0 (firstB n r pk)) r (pk.drop (235-2*r.length))
theorem restV_other (r:List Nat):∀ (vw:Nat→Option Bk) (l:List UInt8) (n:Nat),n ∉ r→restV vw r l n=vw n:=by
 induction r with
 | nil=>intro vw l n _;rfl
 | cons b r ih=>
   intro vw l n hn
   simp only [List.mem_cons,not_or] at hn
   show restV (setV vw b _) r _ n=_
   rw [ih _ _ _ hn.2]
   unfold setV
   rw [if_neg hn.1]
theorem writeV_first {vw:Nat→Option Bk} {b0:Nat} {r:List Nat} {n:Nat} {pk:List UInt8} (h:(b0::r).Nodup):writeV vw b0 r n pk b0=some (firstB n r pk):=by
 unfold writeV
 rw [restV_other _ _ _ _ (List.nodup_cons.1 h).1]
 unfold setV
 rw [if_pos rfl]
theorem restL_restV (r:List Nat):∀ (vw:Nat→Option Bk) (l out:List UInt8) (size:Nat),r.Nodup→l.length+out.length=size→l.length≤240*r.length→restL (restV vw r l) size r out=some (out++l):=by
 induction r with
 | nil=>
   intro vw l out size _ _ h
   obtain rfl:l=[]:=List.eq_nil_of_length_eq_zero (by simpa using h)
   simp [restL]
 | cons b r ih=>
   intro vw l out size hd hs hl
   obtain ⟨h1,h2⟩:=List.nodup_cons.1 hd
   have hb:restV vw (b::r) l b=some ⟨4,l.take 240⟩:=by
    show restV (setV vw b _) r _ b=_
    rw [restV_other _ _ _ _ h1]
    unfold setV
    rw [if_pos rfl]
   show (match restV vw (b::r) l b with|some b'=>if b'.kind=4∧b'.body.length=min (size-out.length) 240 then restL (restV vw (b::r) l) size r (out++b'.body) else none|none=>none)=_
   rw [hb]
   dsimp only
   rw [if_pos ⟨rfl,by rw [List.length_take];omega⟩]
   have:=ih (setV vw b ⟨4,l.take 240⟩) (l.drop 240) (out++l.take 240) size h2 (by simp only [Zl,List.length_take,List.length_drop];omega) (by rw [List.length_drop];simp only [List.length_cons] at hl;omega)
   rw [Za,List.take_append_drop] at this
   exact this
theorem be_at {n:Nat} (h:n≤65535) (l:List UInt8) (pre:List UInt8):x2 (pre++(beB n++l)) pre.length=n:=by
 unfold x2 beB
 simp only [List.getD,List.cons_append,List.nil_append]
 rw [List.getElem?_append_right nL,List.getElem?_append_right (Nat.le_add_right _ 1),Nat.sub_self,Nat.add_sub_cancel_left]
 simp only [Zz,Zs,Option.getD_some,UInt8.toNat_ofNat']
 omega
theorem flat_be_len (r:List Nat):(r.flatMap beB).length=2*r.length:=by
 induction r with
 | nil=>rfl
 | cons a r ih=>rw [List.flatMap_cons,Zl,ih];simp [beB];omega
theorem headW_len (n m:Nat) (r:List Nat):(headW n m r).length=5+2*r.length:=by
 unfold headW
 simp only [Zl,flat_be_len]
 simp [beB]
 try omega
theorem flat_be_at (l:List UInt8):∀ (r:List Nat),(∀ x∈r,x≤65535)→∀ i x,r[i]? = some x→∀ pre:List UInt8,x2 (pre++(r.flatMap beB++l)) (pre.length+2*i)=x
 | [],_,i,x,hx,_=>by simp at hx
 | a::r,h,0,x,hx,pre=>by
   simp only [Zz,Option.some.injEq] at hx
   subst hx
   rw [List.flatMap_cons,Za]
   exact be_at (h a (by simp)) _ pre
 | a::r,h,i+1,x,hx,pre=>by
   have:=flat_be_at l r (fun y hy=>h y (by simp [hy])) i x (by simpa using hx) (pre++beB a)
   rw [List.flatMap_cons,Za,←Za pre]
   rw [Zl,show (beB a).length=2 from rfl] at this
   rw [show pre.length+2*(i+1)=pre.length+2+2*i by omega]
   exact this
theorem moreN_le {m:Nat} (h:m≤709):moreN m≤2:=by unfold moreN;omega
theorem moreN_room (m:Nat):m≤235-2*moreN m+240*moreN m∨117<moreN m:=by unfold moreN;omega
theorem read_write {vw:Nat→Option Bk} {b0:Nat} {r:List Nat} {n:Nat} {pk:List UInt8} (hd:(b0::r).Nodup) (hr:∀ x∈r,x≤65535) (hn1:1≤n) (hn2:n≤512) (hm:pk.length≤709) (hk:r.length=moreN pk.length):
 readL (writeV vw b0 r n pk) b0 (n:Int)=some (b0::r,pk):=by
 have hk2:=moreN_le hm
 have hroom:pk.length≤235-2*r.length+240*r.length:=by rw [hk];rcases moreN_room pk.length with h|h<;>omega
 unfold readL
 rw [if_pos ⟨by omega,by omega⟩,writeV_first hd]
 dsimp only
 have hbl:(firstB n r pk).body.length=5+2*r.length+min pk.length (235-2*r.length):=by
  unfold firstB
  rw [Zl,headW_len,List.length_take];omega
 obtain ⟨T,hT⟩:∃ T,r.flatMap beB++pk.take (235-2*r.length)=T:=⟨_,rfl⟩
 have hb:(firstB n r pk).body=[]++(beB n++(beB pk.length++([UInt8.ofNat r.length]++T))):=by
  rw [←hT];simp [firstB,headW]
 have e0:x2 (firstB n r pk).body 0=n:=by rw [hb];exact be_at (by omega) _ []
 have e2:x2 (firstB n r pk).body 2=pk.length:=by
  rw [hb,List.nil_append];exact be_at (by omega) _ (beB n)
 have e4:((firstB n r pk).body.getD 4 0).toNat=r.length:=by
  rw [hb]
  simp only [List.nil_append,beB,List.cons_append,List.getD_cons_zero,List.getD_cons_succ,UInt8.toNat_ofNat']
  omega
 have ed:(firstB n r pk).body.drop (5+2*r.length)=pk.take (235-2*r.length):=by
  unfold firstB
  rw [←headW_len n pk.length r,List.drop_left]
 have ea:(List.range r.length).map (fun i=>x2 (firstB n r pk).body (5+2*i))=r:=by
  refine List.ext_getElem (by simp) fun i h1 h2=>?_
  rw [List.getElem_map,List.getElem_range]
  have:=flat_be_at (pk.take (235-2*r.length)) r hr i _ (Zg h2) (beB n++beB pk.length++[UInt8.ofNat r.length])
  rw [show (firstB n r pk).body=beB n++beB pk.length++[UInt8.ofNat r.length]++(r.flatMap beB++pk.take (235-2*r.length)) from by simp [firstB,headW]]
  exact this
 rw [if_pos ⟨rfl,by omega⟩,e0,e2,e4,if_pos ⟨rfl,by omega,hk,hbl⟩,ea,ed]
 unfold writeV
 rw [restL_restV r _ _ _ _ (List.nodup_cons.1 hd).2 (by rw [List.length_drop,List.length_take];omega) (by rw [List.length_drop];omega),List.take_append_drop]
 rfl
theorem restL_len {vw:Nat→Option Bk} {size:Nat}:∀ (l:List Nat) (out o:List UInt8),restL vw size l out=some o→out.length≤size→o.length≤size
 | [],out,o,h,hl=>by
   simp only [restL,Option.some.injEq] at h
   rw [←h];exact hl
 | a::r,out,o,h,hl=>by
   unfold restL at h
   split at h
   ·split at h
    ·rename_i hc
     exact restL_len r _ o h (by rw [Zl,hc.2];omega)
    ·cases h
   ·cases h
theorem readL_len {vw:Nat→Option Bk} {b:Nat} {len:Int} {bs:List Nat} {o:List UInt8} (h:readL vw b len=some (bs,o)):o.length≤65535∧1≤bs.length∧bs.length≤3∧bs[0]? = some b:=by
 unfold readL at h
 split at h
 ·split at h
  ·rename_i y hy
   split at h
   ·split at h
    ·rename_i h3
     obtain ⟨o',ho,e⟩:=Option.map_eq_some_iff.1 h
     cases e
     have hx:x2 y.body 2≤65535:=by
      unfold x2
      have:=UInt8.toNat_lt (y.body.getD 2 0)
      have:=UInt8.toNat_lt (y.body.getD (2+1) 0)
      omega
     have:=restL_len _ _ _ ho (by rw [List.length_drop];omega)
     refine ⟨by omega,by simp,?_,rfl⟩
     rw [List.length_cons,List.length_map,List.length_range]
     have:=h3.2.1
     omega
    ·cases h
   ·cases h
  ·cases h
 ·cases h
def Cch.gone (c:Cch) (n m nB nY:Nat):Cch:=
 { c with nB:=nB,nY:=nY,ord:=⟨c.ord.p,m,c.ord.c⟩,ol:=c.ol.filter (fun x=>decide (x≠n)),blk:=fun y=>if y=n then none else c.blk y,dty:=fun y=>if y=n then none else c.dty y }
theorem Cch.gone_inv {c:Cch} {d:Dsk} (hi:c.Inv d) (n m nB nY:Nat):(c.gone n m nB nY).Inv d:=by
 refine ⟨hi.r1,hi.r2,fun y x hx=>?_,fun y hy=>?_,fun y hy=>?_,Nat.le_trans (List.length_filter_le _ _) hi.ln,fun y x hx hy=>?_⟩
 ·have hx:(if y=n then none else c.blk y)=some x:=hx
  by_cases e:y=n
  ·rw [if_pos e] at hx;cases hx
  ·rw [if_neg e] at hx;exact hi.dom y x hx
 ·have hy:(if y=n then none else c.dty y).isSome=true:=hy
  show (if y=n then none else c.blk y).isSome=true
  by_cases e:y=n
  ·rw [if_pos e] at hy;cases hy
  ·rw [if_neg e] at hy ⊢;exact hi.dty y hy
 ·obtain ⟨h1,h2⟩:=List.mem_filter.1 hy
  obtain ⟨h3,h4,h5⟩:=hi.ol y h1
  refine ⟨h3,h4,?_⟩
  show (if y=n then none else c.dty y)=none
  rw [if_neg (by simpa using h2)]
  exact h5
 ·have hx:(if y=n then none else c.blk y)=some x:=hx
  have hy:(if y=n then none else c.dty y)=none:=hy
  by_cases e:y=n
  ·rw [if_pos e] at hx;cases hx
  ·rw [if_neg e] at hx hy;exact hi.clean y x hx hy
theorem Cch.gone_view (c:Cch) (d:Dsk) (n m nB nY y:Nat):(c.gone n m nB nY).view d y=if y=n then (if 50≤y∧y<d.N then getL y (d.sec y) else none) else c.view d y:=by
 unfold Cch.view Cch.gone
 by_cases e:y=n
 ·simp only [if_pos e]
 ·simp only [if_neg e]
theorem cacheForget (c:Cch) (d:Dsk) (n:Nat) (w:World) (h:c.Mem d w) (hi:c.Inv d) (hn:n<4611686018427387904):
 Calls Tryz.prog 32 #[.pointer (some ⟨c.g,0,none⟩),.int .i64 (n:Int)] w fun e w'=>e=.returned (.tuple #[])∧∃ m nB nY,(c.gone n m nB nY).Mem d w'∧Chg c.wr w w':=by
 have hN:=h.dsk.hN
 have hol:∀ x∈c.ol,x<4611686018427387904:=fun x hx=>by have:=(hi.ol x hx).2.1;omega
 have hln:=hi.ln
 have hr2:=hi.r2
 have hoN:=h.own.length
 have HM:=Lh h
 have HB0:=Lh ((Below.refl w.heap.size w).alloc nL (.cells #[.int .i64 (n:Int)] 3))
 have hgb:∀ b,c.wr b→b≠w.heap.size:=fun b hb e=>by have:=h.wr_lt hb;omega
 have hgbo:bk c.ord.p≠some w.heap.size:=fun e=>hgb _ (.inr (.inr (.inr e))) rfl
 have hbB:c.gB≠w.heap.size:=hgb _ (.inr (.inl rfl))
 have hbY:c.gY≠w.heap.size:=hgb _ (.inr (.inr (.inl rfl)))
 have HOl:=Lh hol
 clear h hol
 go_enter Tryz.func32,Tryz.ntmps32
 go_wp2_with fail
 obtain ⟨wA,hwA⟩:∃ x,w.alloc (.cells #[.int .i64 (n:Int)] 3)=x:=⟨_,rfl⟩
 rw [hwA] at HB0 ⊢
 have HBx:=Lh (by rw [←hwA];exact Blk.new w 3 _:Blk wA w.heap.size 3 #[.int .i64 (n:Int)])
 have HMA:=Lh (HM.out.later HB0.out)
 have hsA:w.heap.size<wA.heap.size:=HBx.out.lt
 clear hwA
 generalize hgbx:w.heap.size=gb at *
 have Hgbx:=Lh hgbx
 clear hgbx
 obtain ⟨-,-,k2,k3,k4⟩:=HMA.out.cells
 have kb:wA.cell? ⟨gb,0,none⟩=some (.int .i64 (n:Int)):=by have:=HBx.out.cell 0;simpa using this
 have ha1:=HM.out.a1
 have ha2:=HM.out.a2
 have ha3:=HM.out.a3
 have K1:=Lh (fun (w1:World) (hg:wA.grownBy w1 (some c.gB))=>(⟨(cell_same (hg.block c.g HMA.out.row.lt (fun e=>ha1 (by simpa using e)))).trans k2,(cell_same (hg.block gb hsA (fun e=>hbB (by simpa using e.symm)))).trans kb⟩:w1.cell? ⟨c.g,2,none⟩=some (.map (some c.gB))∧w1.cell? ⟨gb,0,none⟩=some (.int .i64 (n:Int))))
 go_region_held3 (fun W=>W.cell? ⟨c.g,2,none⟩=some (.map (some c.gB))∧W.cell? ⟨gb,0,none⟩=some (.int .i64 (n:Int))) (first|(exact ⟨k2,kb⟩)|(exact K1.out w1 hg1)) (first|(refine BlkT.step_del rfl _ _ rfl c.gB c.nB c.blk rfl (show BlkT.At wA.drew c.gB c.nB c.blk from HMA.out.mB) n hn rfl inferInstance ?_;intro w1 hAt1 hg1d;have hg1:wA.grownBy w1 (some c.gB):=⟨hg1d.os,hg1d.tape,hg1d.output,hg1d.size,hg1d.block⟩))
 have hc1:Chg (fun b=>b=c.gB) wA w1:=Chg.of_grown hg1 (fun b hb _=>by cases hb;rfl)
 have HRow1:=Lh (Blk.chg HMA.out.row hc1 ha1)
 have HBx1:=Lh (HBx.out.chg hc1 (fun e=>hbB e.symm))
 have HY1:=Lh (HMA.out.mY.chg hc1 (fun e=>ha3 e.symm))
 have HO1:=Lh (HMA.out.own.chg hc1 (fun k hk e=>HM.out.a4.2.1 (by rw [hk,e])))
 have HAt1:=Lh hAt1
 have HC1:=Lh hc1
 clear hAt1 hg1 hg1d hc1 k2 k3 k4 kb K1
 have k3:w1.cell? ⟨c.g,3,none⟩=some (.map (some c.gY)):=by have:=HRow1.out.cell 3;simpa using this
 have kb:w1.cell? ⟨gb,0,none⟩=some (.int .i64 (n:Int)):=by have:=HBx1.out.cell 0;simpa using this
 have K2:=Lh (fun (w2:World) (hg:w1.grownBy w2 (some c.gY))=>(⟨(cell_same (hg.block c.g HRow1.out.lt (fun e=>ha2 (by simpa using e)))).trans k3,(cell_same (hg.block gb HBx1.out.lt (fun e=>hbY (by simpa using e.symm)))).trans kb⟩:w2.cell? ⟨c.g,3,none⟩=some (.map (some c.gY))∧w2.cell? ⟨gb,0,none⟩=some (.int .i64 (n:Int))))
 go_wp2_with fail
 go_region_held3 (fun W=>W.cell? ⟨c.g,3,none⟩=some (.map (some c.gY))∧W.cell? ⟨gb,0,none⟩=some (.int .i64 (n:Int))) (first|(exact ⟨k3,kb⟩)|(exact K2.out w2 hg2)) (first|(refine SetT.step_del rfl _ _ rfl c.gY c.nY c.dty rfl (show SetT.At w1.drew c.gY c.nY c.dty from HY1.out) n hn rfl inferInstance ?_;intro w2 hAt2 hg2d;have hg2:w1.grownBy w2 (some c.gY):=⟨hg2d.os,hg2d.tape,hg2d.output,hg2d.size,hg2d.block⟩))
 have hc2:Chg (fun b=>b=c.gY) w1 w2:=Chg.of_grown hg2 (fun b hb _=>by cases hb;rfl)
 have HRow2:=Lh (Blk.chg HRow1.out hc2 ha2)
 have HBx2:=Lh (HBx1.out.chg hc2 (fun e=>hbY e.symm))
 have HAtB2:=Lh (HAt1.out.chg hc2 (fun e=>ha3 e))
 have HO2:=Lh (HO1.out.chg hc2 (fun k hk e=>HM.out.a4.2.2 (by rw [hk,e])))
 have HAt2:=Lh hAt2
 have HC2:=Lh hc2
 clear hAt2 hg2 hg2d hc2 k3 kb K2
 have k4:w2.cell? ⟨c.g,4,none⟩=some (.slice c.ord.p c.ord.n c.ord.c):=by have:=HRow2.out.cell 4;simpa [Sl.v] using this
 have kb:w2.cell? ⟨gb,0,none⟩=some (natv n):=by have:=HBx2.out.cell 0;simpa [natv] using this
 have HDel:=Lh (delForget c.ord.p c.ord.n c.ord.c gb n c.ol w2 HO2.out (by omega) kb hgbo hn HOl.out)
 clear kb
 go_wp2_with fail
 refine HDel.out.mono ?_
 rintro e w3 ⟨m,rfl,hO3,hg3⟩
 have hc3:Chg (fun b=>bk c.ord.p=some b) w2 w3:=Chg.of_grown hg3 (fun b hb _=>hb)
 have HRow3:=Lh (Blk.chg HRow2.out hc3 HM.out.a4.1)
 have HB3:=Lh (HAtB2.out.chg hc3 HM.out.a4.2.1)
 have HY3:=Lh (HAt2.out.chg hc3 HM.out.a4.2.2)
 have HO3:=Lh hO3
 have HC3:=Lh hc3
 have k4':w3.cell? ⟨c.g,4,none⟩=some (.slice c.ord.p c.ord.n c.ord.c):=by have:=HRow3.out.cell 4;simpa [Sl.v] using this
 have f4:=HRow3.out.frozen 4
 clear hO3 hg3 hc3 k4
 go_wp2
 go_end0
 have hcs:Chg (fun b=>b=c.g) w3 (w3.setCell ⟨c.g,4,none⟩ (.slice c.ord.p m c.ord.c)):=Chg.setCell _ _ _ rfl
 have hc:Chg c.wr w (w3.setCell ⟨c.g,4,none⟩ (.slice c.ord.p m c.ord.c)):=
  (((((Chg.of_below (by rw [Hgbx.out];exact HB0.out):Chg c.wr w wA).trans HC1.out (fun k _ e=>.inr (.inl e))).trans HC2.out (fun k _ e=>.inr (.inr (.inl e)))).trans HC3.out (fun k _ e=>.inr (.inr (.inr e)))).trans hcs (fun k _ e=>.inl e))
 refine ⟨rfl,m,_,_,HM.out.step hc rfl rfl rfl ?_ (HB3.out.chg hcs (fun e=>ha1 e.symm)) (HY3.out.chg hcs (fun e=>ha2 e.symm)) (HO3.out.chg hcs (fun k hk e=>HM.out.a4.1 (by rw [hk,e]))) (fun q hq=>.inl hq) (fun y x hx=>?_),hc⟩
 ·have:=Blk.set HRow3.out 4 (.slice c.ord.p m c.ord.c)
  simpa [Cch.gone,Sl.v] using this
 ·have hx:(if y=n then none else c.blk y)=some x:=hx
  by_cases e:y=n
  ·rw [if_pos e] at hx;cases hx
  ·rw [if_neg e] at hx;exact .inl ⟨hx,rfl⟩
def Cch.put (c:Cch) (n nB nY:Nat) (x:Bx) (l:List UInt8):Cch:=
 { c with nB:=nB,nY:=nY,blk:=fun y=>if y=n then some x else c.blk y,dty:=fun y=>if y=n then some () else c.dty y,body:=fun y=>if y=n then l else c.body y }
theorem Cch.put_inv {c:Cch} {d:Dsk} (hi:c.Inv d) {n:Nat} (h1:50≤n) (h2:n<d.N) (nB nY:Nat) (x:Bx) (l:List UInt8) (hok:(⟨x.kind,l⟩:Bk).ok) (hno:n ∉ c.ol):(c.put n nB nY x l).Inv d:=by
 refine ⟨hi.r1,hi.r2,fun y z hz=>?_,fun y hy=>?_,fun y hy=>?_,hi.ln,fun y z hz hy=>?_⟩
 ·have hz:(if y=n then some x else c.blk y)=some z:=hz
  show 50≤y∧y<d.N∧(⟨z.kind,if y=n then l else c.body y⟩:Bk).ok
  by_cases e:y=n
  ·rw [if_pos e] at hz ⊢;cases hz;subst e;exact ⟨h1,h2,hok⟩
  ·rw [if_neg e] at hz ⊢;exact hi.dom y z hz
 ·have hy:(if y=n then some () else c.dty y).isSome=true:=hy
  show (if y=n then some x else c.blk y).isSome=true
  by_cases e:y=n
  ·rw [if_pos e];rfl
  ·rw [if_neg e] at hy ⊢;exact hi.dty y hy
 ·obtain ⟨h3,h4,h5⟩:=hi.ol y hy
  refine ⟨h3,h4,?_⟩
  show (if y=n then some () else c.dty y)=none
  rw [if_neg (fun e=>hno (by rw [←e];exact hy))]
  exact h5
 ·have hz:(if y=n then some x else c.blk y)=some z:=hz
  have hy:(if y=n then some () else c.dty y)=none:=hy
  show getL y (d.sec y)=some ⟨z.kind,if y=n then l else c.body y⟩
  by_cases e:y=n
  ·rw [if_pos e] at hy;cases hy
  ·rw [if_neg e] at hz hy ⊢;exact hi.clean y z hz hy
theorem Cch.put_view (c:Cch) (d:Dsk) (n nB nY:Nat) (x:Bx) (l:List UInt8) (h:50≤n∧n<d.N) (y:Nat):(c.put n nB nY x l).view d y=if y=n then some ⟨x.kind,l⟩ else c.view d y:=by
 unfold Cch.view Cch.put
 by_cases e:y=n
 ·subst e
  simp only [if_pos h,if_true]
 ·simp only [if_neg e]
def putPost (c:Cch) (d:Dsk) (n:Nat) (k:Int) (body:List UInt8) (w:World) (e:Ending) (w':World):Prop:=
 (∃ E:Int,E≠0∧e=.returned (.int .i64 E)∧Below w.heap.size w w'∧¬((50≤n∧n<d.N)∧1≤k∧k≤4∧body.length≤240)) ∨
 ∃ b:Bk,e=.returned (.int .i64 0)∧b.ok∧k=(b.kind:Int)∧b.body=body∧(50≤n∧n<d.N)∧∃ c':Cch,c'.Mem d w'∧c'.Inv d∧c'.g=c.g∧c'.room=c.room∧(∀ y,c'.view d y=if y=n then some b else c.view d y)∧Chg (c.fp d) w w'∧∀ q,c'.fp d q→c.fp d q∨w.heap.size≤q
theorem cachePut (c:Cch) (d:Dsk) (n:Nat) (k:Int) (A:OA) (m cc:Nat) (body:List UInt8) (w:World) (h:c.Mem d w) (hi:c.Inv d) (hn:n≤65535) (hl:body.length=m) (hr:Bs w A body) (hA:A=none→m=0∧cc=0) (hAf:0<m→∀ q,bk A=some q→q<w.heap.size∧¬c.fp d q):
 Calls Tryz.prog 9 #[.pointer (some ⟨c.g,0,none⟩),.int .i64 (n:Int),.agg #[.int .i64 k,.slice A m cc]] w (putPost c d n k body w):=by
 have hN:=h.dsk.hN
 have hf:n<4611686018427387904:=by omega
 have HM:=Lh h
 have HInv:=Lh hi
 have HR:=Lh hr
 have HL:=Lh hl
 have HA:=Lh hA
 have HB0:=Lh ((Below.refl w.heap.size w).alloc nL (.cells #[.int .i64 k,.slice A m cc] 39))
 have HP0:=Lh (Blk.new w 39 #[.int .i64 k,.slice A m cc])
 obtain ⟨R,hR⟩:∃ R,putPost c d n k body w=R:=⟨_,rfl⟩
 rw [hR]
 have HRe:=Lh hR
 clear h hi hR hr hl hA
 go_enter Tryz.func9,Tryz.ntmps9
 go_wp2_with fail
 obtain ⟨wA,hwA⟩:∃ x,w.alloc (.cells #[.int .i64 k,.slice A m cc] 39)=x:=⟨_,rfl⟩
 rw [hwA] at HB0 HP0 ⊢
 clear hwA
 have HMA:=Lh (HM.out.later HB0.out)
 have HTh:=Lh (cacheThere c d n wA HMA.out)
 have hsA:w.heap.size<wA.heap.size:=Blk.lt HP0.out
 have p0:=HP0.out.cell 0
 have p1:=HP0.out.cell 1
 simp only [Zt,Zz,Zs] at p0 p1
 refine HTh.out.mono ?_
 rintro e w1 ⟨rfl,rfl⟩
 by_cases hth:50≤n∧n<d.N
 ·have hde:decide (50≤n∧n<d.N)=true:=qT hth
  rw [hde]
  by_cases hok:(1≤k∧k≤4)∧m≤240
  ·obtain ⟨kn,rfl⟩:∃ kn:Nat,k=(kn:Int):=⟨k.toNat,by omega⟩
   have hokb:(⟨kn,body⟩:Bk).ok:=⟨by show 1≤kn;omega,by show kn≤4;omega,by show body.length≤240;rw [HL.out];exact hok.2⟩
   have HPut:=Lh (blockPut n ⟨kn,body⟩ A m cc w1 hn hokb HL.out (HR.out.later HB0.out))
   have Hokb:=Lh hokb
   have hm9:m≤1000000000:=by have:=hok.2;omega
   clear hde hok hokb
   go_wp2_with fail
   refine HPut.out.mono ?_
   rintro e w2 ⟨g5,rfl,-,-,-,hb2⟩
   have HM2:=Lh (HMA.out.later hb2)
   have HP2:=Lh (HP0.out.later hb2)
   have HB2:=Lh (HB0.out.trans (hb2.mono (Nat.le_of_lt hsA)))
   have hs2:w1.heap.size≤w2.heap.size:=hb2.size
   have HFo:=Lh (cacheForget c d n w2 HM2.out HInv.out hf)
   clear hb2 p0 p1 HPut
   go_wp2_with fail
   refine HFo.out.mono ?_
   rintro e w3 ⟨rfl,m3,nB,nY,hM3,hC3⟩
   have HM3:=Lh hM3
   have HC3:=Lh hC3
   have hwl:∀ b,c.wr b→b<w.heap.size:=fun b hb=>HM.out.wr_lt hb
   have HP3:=Lh (Blk.chg HP2.out hC3 (fun hb=>by have:=hwl _ hb;omega))
   have HR3:=Lh (fun h0=>Rd.same (Rd.later HR.out HB2.out) (fun q hq=>hC3.block q (lT (hAf (by rw [List.length_map,HL.out] at h0;exact h0) q hq).1 HB2.out.size) (fun h=>(hAf (by rw [List.length_map,HL.out] at h0;exact h0) q hq).2 (.inr (.inl h)))) h0:Bs w3 A body)
   have p0:=HP3.out.cell 0
   have p1:=HP3.out.cell 1
   simp only [Zt,Zz,Zs] at p0 p1
   have k2:w3.cell? ⟨c.g,2,none⟩=some (.map (some c.gB)):=HM3.out.cells.2.2.1
   have hB3:BlkT.At w3 c.gB nB (fun y=>if y=n then none else c.blk y):=HM3.out.mB
   have hnB:nB<1000000000:=(Cch.nB_lt HM3.out (Cch.gone_inv HInv.out n m3 nB nY)).1
   have hnY:nY<1000000000:=(Cch.nB_lt HM3.out (Cch.gone_inv HInv.out n m3 nB nY)).2
   have HB3:=Lh hB3
   have HOwn:=Lh (cacheOwn (kn:Int) A m cc body w3.drew HL.out (show Bs w3.drew A body from HR3.out) hm9 HA.out)
   have hcg:c.g<w3.heap.size:=HM3.out.row.lt
   have hgb3:w.heap.size<w3.heap.size:=HP3.out.lt
   have hcgB:c.g≠c.gB:=HM.out.a1
   have hgbB:c.gB≠w.heap.size:=fun e=>by have:=hwl c.gB (.inr (.inl rfl));omega
   have HK:=Lh (fun (w4:World) (hb:Below w3.drew.heap.size w3.drew w4)=>(⟨(hb.cell hcg).trans k2,(hb.cell hgb3).trans p0,(hb.cell hgb3).trans p1⟩:w4.cell? ⟨c.g,2,none⟩=some (.map (some c.gB))∧w4.cell? ⟨w.heap.size,0,none⟩=some (.int .i64 (kn:Int))∧w4.cell? ⟨w.heap.size,1,none⟩=some (.slice A m cc)))
   have HK5:=Lh (fun (w4 w5:World) (hb:Below w3.drew.heap.size w3.drew w4) (hg:w4.grownBy w5 (some c.gB))=>(⟨(cell_same (hg.block c.g (lT hcg hb.size) (fun e=>hcgB (by simpa using e)))).trans (HK.out w4 hb).1,(cell_same (hg.block w.heap.size (lT hgb3 hb.size) (fun e=>hgbB (by simpa using e.symm)))).trans (HK.out w4 hb).2.1,(cell_same (hg.block w.heap.size (lT hgb3 hb.size) (fun e=>hgbB (by simpa using e.symm)))).trans (HK.out w4 hb).2.2⟩:w5.cell? ⟨c.g,2,none⟩=some (.map (some c.gB))∧w5.cell? ⟨w.heap.size,0,none⟩=some (.int .i64 (kn:Int))∧w5.cell? ⟨w.heap.size,1,none⟩=some (.slice A m cc)))
   have hSet:∀ (w4:World) (A7:OA) (c7:Nat),Below w3.drew.heap.size w3.drew w4→∃ w5,(Instr.mapUpdate 84 (.map (some c.gB)) (.int .i64 (n:Int)) (.agg #[.int .i64 (kn:Int),.slice A7 m c7])).run Tryz.prog w4=.ok () w5 ∧
    BlkT.At w5 c.gB (if (if n=n then none else c.blk n:Option Bx).isSome then nB else nB+1) (fun y=>if y=n then some ⟨kn,⟨A7,m,c7⟩⟩ else if y=n then none else c.blk y)∧w4.grownBy w5 (some c.gB):=fun w4 A7 c7 hb=>
    MapT.At.set_run (T:=BlkT) (w:=w4) (MapT.At.below (w:=w3.drew) (show BlkT.At w3.drew c.gB nB (fun y=>if y=n then none else c.blk y) from HB3.out) hb) hnB (p:=n) hf ⟨kn,⟨A7,m,c7⟩⟩ inferInstance
   have HSet:=Lh hSet
   clear hSet
   clear hM3 hC3 hB3
   go_wp2_with fail
   go_region_held3 (fun W=>W.cell? ⟨c.g,2,none⟩=some (.map (some c.gB))∧W.cell? ⟨w.heap.size,0,none⟩=some (.int .i64 (kn:Int))∧W.cell? ⟨w.heap.size,1,none⟩=some (.slice A m cc)) (first|(exact ⟨k2,p0,p1⟩)|(exact HK.out w4 hb4)|(exact HK5.out w4 w5 hb4 hg5)) (first|(go_at_call 33;refine HOwn.out.mono ?_;rintro e w4 ⟨A7,c7,rfl,hA7,hO7,hb4⟩;obtain ⟨w5,hrun5,hAt5,hg5⟩:=HSet.out w4 A7 c7 hb4))
   have hb34:Below w3.heap.size w3 w4:=(Below.refl _ w3).drew.trans hb4
   have hc45:Chg (fun b=>b=c.gB) w4 w5:=Chg.of_grown hg5 (fun b hb _=>by cases hb;rfl)
   have hY5:SetT.At w5 c.gY nY (fun y=>if y=n then none else c.dty y):=(MapT.At.below (show SetT.At w3 c.gY nY (fun y=>if y=n then none else c.dty y) from HM3.out.mY) hb34).chg hc45 (fun e=>HM.out.a3 e.symm)
   have HY5:=Lh hY5
   obtain ⟨nB',hnB'⟩:∃ q,BlkT.At w5 c.gB q (fun y=>if y=n then some ⟨kn,⟨A7,m,c7⟩⟩ else if y=n then none else c.blk y):=⟨_,hAt5⟩
   have HAt5:=Lh hnB'
   have k3:w5.cell? ⟨c.g,3,none⟩=some (.map (some c.gY)):=(cell_same (hc45.block c.g (lT hcg hb34.size) hcgB)).trans ((hb34.cell hcg).trans HM3.out.cells.2.2.2.1)
   have HC35:=Lh (⟨hb34,hc45⟩:Below w3.heap.size w3 w4∧Chg (fun b=>b=c.gB) w4 w5)
   have HO7:=Lh hO7
   have HA7:=Lh hA7
   clear hb34 hc45 hY5 hAt5 hnB' hg5 hb4 hO7 hA7 hrun5 HSet HK HK5 HOwn
   go_wp2_with (first|(refine wpList_MapT_set SetT rfl _ _ _ rfl c.gY nY _ rfl HY5.out hnY n hf () rfl rfl inferInstance ?_;intro w6 hAt6 hg6))
   rw [←HRe.out]
   have hc56:Chg (fun b=>b=c.gY) w5 w6:=Chg.of_grown hg6 (fun b hb _=>by cases hb;rfl)
   have hgy:c.gY<w.heap.size:=hwl c.gY (.inr (.inr (.inl rfl)))
   have hgB:c.gB<w.heap.size:=hwl c.gB (.inr (.inl rfl))
   have hg0:=hwl c.g (.inl rfl)
   obtain ⟨nY',hAt6'⟩:∃ q,SetT.At w6 c.gY q (fun y=>if y=n then some () else if y=n then none else c.dty y):=⟨_,hAt6⟩
   have hqA:∀ q,bk A7=some q→w3.heap.size≤q∧q<w4.heap.size:=fun q hq=>Own.lt HO7.out hq
   have hc36:Chg c.wr w3 w6:=((Chg.of_below HC35.out.1).trans HC35.out.2 (fun k _ e=>.inr (.inl e))).trans hc56 (fun k _ e=>.inr (.inr (.inl e)))
   have hno:n ∉ (c.gone n m3 nB nY).ol:=fun h=>by
    have:=(List.mem_filter.1 h).2
    simp at this
   have hs34:=HC35.out.1.size
   have hs45:=HC35.out.2.size
   have hord3:∀ q,bk c.ord.p=some q→q<w3.heap.size:=fun q hq=>by have:=hwl q (.inr (.inr (.inr hq)));omega
   have hst:∀ b,c.wr b→b<w3.heap.size:=fun b hb=>by have:=hwl b hb;omega
   have hBs:Bs w6 A7 body:=Rd.same (OwnB.bs HO7.out) (fun q hq=>(hc56.block q (by have:=hqA q hq;omega) (fun e=>by have:=hqA q hq;omega)).trans (HC35.out.2.block q (hqA q hq).2 (fun e=>by have:=hqA q hq;omega)))
   refine .inr ⟨⟨kn,body⟩,rfl,Hokb.out,rfl,rfl,hth,((c.gone n m3 nB nY).put n nB' nY' ⟨kn,⟨A7,m,c7⟩⟩ body),?_,Cch.put_inv (Cch.gone_inv HInv.out n m3 nB nY) hth.1 hth.2 _ _ _ _ Hokb.out hno,rfl,rfl,fun y=>?_,?_,?_⟩
   ·refine HM3.out.step (c':=(c.gone n m3 nB nY).put n nB' nY' ⟨kn,⟨A7,m,c7⟩⟩ body) hc36 rfl rfl rfl ?_ ?_ hAt6' ?_ (fun q hq=>.inl hq) (fun y x hx=>?_)
    ·exact ((hc56.block c.g (by omega) HM.out.a2).trans (HC35.out.2.block c.g (by omega) HM.out.a1)).trans (HM3.out.row.later HC35.out.1)
    ·exact HAt5.out.chg hc56 (fun e=>HM.out.a3 e)
    ·exact ((HM3.out.own.below HC35.out.1).chg HC35.out.2 (fun k hk e=>HM.out.a4.2.1 (by rw [←e];exact hk))).chg hc56 (fun k hk e=>HM.out.a4.2.2 (by rw [←e];exact hk))
    ·have hx:(if y=n then some (⟨kn,⟨A7,m,c7⟩⟩:Bx) else (if y=n then none else c.blk y))=some x:=hx
     by_cases e:y=n
     ·rw [if_pos e] at hx
      cases hx
      right
      show Bs w6 A7 (if y=n then body else c.body y)∧(if y=n then body else c.body y).length=m∧_
      rw [if_pos e]
      exact ⟨hBs,HL.out,HA7.out,fun q hq=>⟨(hqA q hq).1,by have:=hqA q hq;have:=hc56.size;omega,fun h=>by have:=hord3 q h;have:=hqA q hq;omega⟩⟩
     ·rw [if_neg e] at hx
      left
      refine ⟨hx,?_⟩
      show (if y=n then body else c.body y)=c.body y
      rw [if_neg e]
   ·rw [Cch.put_view _ _ _ _ _ _ _ hth]
    by_cases e:y=n
    ·rw [if_pos e,if_pos e]
    ·rw [if_neg e,if_neg e,Cch.gone_view,if_neg e]
   ·exact (((Chg.of_below HB2.out).trans HC3.out (fun k _ h=>.inr (.inl h))).trans hc36 (fun k _ h=>.inr (.inl h)))
   ·refine fun q hq=>?_
    have:=Cch.fp_step (c:=c) (c':=(c.gone n m3 nB nY).put n nB' nY' ⟨kn,⟨A7,m,c7⟩⟩ body) (d:=d) (w:=w) rfl rfl rfl (fun q hq=>.inl hq) (fun y x hx=>by
     have hx:(if y=n then some (⟨kn,⟨A7,m,c7⟩⟩:Bx) else (if y=n then none else c.blk y))=some x:=hx
     by_cases e:y=n
     ·rw [if_pos e] at hx
      cases hx
      exact .inr (fun q hq=>by have:=hqA q hq;omega)
     ·rw [if_neg e,if_neg e] at hx
      exact .inl hx)
    exact this q hq
  ·have HP:=Lh (blockPut_bad n k A m cc w1 hn (by omega))
   clear hde
   go_wp2_with fail
   refine HP.out.mono ?_
   rintro e w2 ⟨rfl,hb2⟩
   have HB2:=Lh (HB0.out.trans (hb2.mono (Nat.le_of_lt hsA)))
   clear hb2 p0 p1 HP
   go_wp2
   rw [←HRe.out]
   exact .inl ⟨1,by decide,rfl,HB2.out,fun h=>hok ⟨⟨h.2.1,h.2.2.1⟩,by have:=h.2.2.2;rw [HL.out] at this;exact this⟩⟩
 ·have hde:decide (50≤n∧n<d.N)=false:=qF hth
  rw [hde]
  clear hde
  go_wp2
  rw [←HRe.out]
  exact .inl ⟨2,by decide,rfl,HB0.out,fun h=>hth h.1⟩
theorem restV_snoc (b:Nat):∀ (r:List Nat) (vw:Nat→Option Bk) (l:List UInt8),restV vw (r++[b]) l=setV (restV vw r l) b ⟨4,(l.drop (240*r.length)).take 240⟩
 | [],vw,l=>by simp [restV]
 | a::r,vw,l=>by
   show restV (setV vw a _) (r++[b]) (l.drop 240)=setV (restV (setV vw a _) r (l.drop 240)) b _
   rw [restV_snoc b r,List.drop_drop,List.length_cons,show 240*(r.length+1)=240+240*r.length by omega]
theorem Rd.new (w:World) (xs:List Value) (t:TypeId):Rd (w.alloc (.cells xs.toArray t)) (some ⟨w.heap.size,0,none⟩) xs:=fun _=>by
 refine ⟨w.heap.size,0,rfl,fun j hj=>?_⟩
 rw [Nat.zero_add,World.cell?_alloc_at _ _ _ _ rfl]
 simp
theorem be_vals (b:Nat) (hb:b≤65535):(beB b).map u8v=[.int .u8 ((b:Int)%256),.int .u8 ((b:Int)/256)]:=by
 simp only [beB,List.map_cons,List.map_nil,u8v,UInt8.toNat_ofNat']
 simp only [List.cons.injEq,Value.int.injEq,true_and,and_true]
 refine ⟨by omega,by omega⟩
theorem head_vals (n m k:Nat) (hn:n≤65535) (hm:m≤65535) (hk:k≤2):(beB n++beB m++[UInt8.ofNat k]).map u8v=[.int .u8 ((n:Int)%256),.int .u8 ((n:Int)/256),.int .u8 ((m:Int)%256),.int .u8 ((m:Int)/256),.int .u8 (k:Int)]:=by
 rw [List.map_append,List.map_append,be_vals n hn,be_vals m hm]
 simp only [List.map_cons,List.map_nil,u8v,UInt8.toNat_ofNat',List.cons_append,List.nil_append]
 rw [show k%2^8=k by omega]
structure Cch.Upd (c c':Cch) (d:Dsk) (vw:Nat→Option Bk) (w w':World):Prop where
 mem:c'.Mem d w'
 inv:c'.Inv d
 eg:c'.g=c.g
 er:c'.room=c.room
 view:∀ y,c'.view d y=vw y
 chg:Chg (c.fp d) w w'
 fp:∀ q,c'.fp d q→c.fp d q∨w.heap.size≤q
theorem Cch.Upd.trans {c c1 c2:Cch} {d:Dsk} {vw vw2:Nat→Option Bk} {w w1 w2:World} (h:c.Upd c1 d vw w w1) (h2:c1.Upd c2 d vw2 w1 w2):c.Upd c2 d vw2 w w2:={
 mem:=h2.mem
 inv:=h2.inv
 eg:=h2.eg.trans h.eg
 er:=h2.er.trans h.er
 view:=h2.view
 chg:=h.chg.trans h2.chg (fun q hq hf=>(h.fp q hf).elim id (fun h=>by omega))
 fp q hq:=(h2.fp q hq).elim (h.fp q) (fun h1=>.inr (by have:=h.chg.size;omega)) }
theorem Cch.Upd.before {c c1:Cch} {d:Dsk} {vw:Nat→Option Bk} {w w1 w2:World} (h:c.Upd c1 d vw w1 w2) (hb:Below w.heap.size w w1):c.Upd c1 d vw w w2:=
 { h with chg:=(Chg.of_below (F:=Fp.none) hb).mono (fun _ _ h=>h.elim) |>.trans h.chg (fun _ _ h=>h),fp:=fun q hq=>(h.fp q hq).imp id (fun h1=>Nat.le_trans hb.size h1) }
theorem putPost.upd {c:Cch} {d:Dsk} {n kn:Nat} {body:List UInt8} {w:World} {e:Ending} {w':World} (h:putPost c d n (kn:Int) body w e w') (h1:50≤n) (h2:n<d.N) (h3:1≤kn) (h4:kn≤4) (h5:body.length≤240):
 e=.returned (.int .i64 0)∧∃ c',c.Upd c' d (setV (c.view d) n ⟨kn,body⟩) w w':=by
 rcases h with ⟨E,-,-,-,h⟩|⟨b,rfl,-,hk,hb,-,c',m1,m2,m3,m4,m5,m6,m7⟩
 ·exact absurd ⟨⟨h1,h2⟩,by omega,by omega,h5⟩ h
 ·have e:b=⟨kn,body⟩:=by
   obtain ⟨bk,bb⟩:=b
   simp only at hk hb
   rw [hb,show bk=kn by omega]
  exact ⟨rfl,c',m1,m2,m3,m4,fun y=>by rw [m5,e];rfl,m6,m7⟩
theorem drop_min (l:List UInt8) (k:Nat):l.drop (min l.length k)=l.drop k:=by
 by_cases h:k≤l.length
 ·rw [Nat.min_eq_right h]
 ·rw [Nat.min_eq_left (by omega),List.drop_of_length_le nL,List.drop_of_length_le (by omega)]
theorem cutA_none {A:OA} {c k:Nat} (hA:A=none→c=0) (e:cutA A c k=none):c-k=0:=by
 unfold cutA at e
 split at e
 ·rw [hA e];omega
 ·cases hP:A with
  | none=>rw [hA hP];omega
  | some a=>rw [hP] at e;cases e
def writePost (c:Cch) (d:Dsk) (b0:Nat) (r:List Nat) (n:Nat) (pk:List UInt8) (w:World) (e:Ending) (w':World):Prop:=
 e=.returned (.int .i64 0)∧∃ c':Cch,c.Upd c' d (writeV (c.view d) b0 r n pk) w w'
theorem chunksWrite (sg:Nat) (c:Cch) (d:Dsk) (A:OA) (nb cb:Nat) (b0:Nat) (r:List Nat) (n:Nat) (P:OA) (m pc:Nat) (pk:List UInt8) (w:World) (h:c.Mem d w) (hi:c.Inv d)
 (hs:w.cell? ⟨sg,0,none⟩=some (.pointer (some ⟨c.g,0,none⟩))) (hsg:¬c.fp d sg) (hbl:r.length+1=nb) (hr2:r.length≤2) (hA:Ns w A (b0::r)) (hAf:∀ q,bk A=some q→q<w.heap.size∧¬c.fp d q) (hnc:nb≤cb) (hcb:cb≤9223372036854775807)
 (hbs:∀ x∈b0::r,50≤x∧x<d.N∧x≤65535) (hn:n≤65535) (hpl:pk.length=m) (hP:Bs w P pk) (hPf:∀ q,bk P=some q→q<w.heap.size∧¬c.fp d q) (hPc:m≤pc) (hPc2:pc≤9223372036854775807) (hPn:P=none→pc=0) (hm:m≤235-2*r.length+240*r.length):
 Calls Tryz.prog 44 #[.pointer (some ⟨sg,0,none⟩),.slice A nb cb,.int .i64 (n:Int),.slice P m pc] w (writePost c d b0 r n pk w):=by
 obtain ⟨R,hR⟩:∃ R,writePost c d b0 r n pk w=R:=⟨_,rfl⟩
 rw [hR]
 have HRe:=Lh hR
 have HM:=Lh h
 have HInv:=Lh hi
 have HA:=Lh hA
 have HAf:=Lh hAf
 have HBs:=Lh hbs
 have HP:=Lh hP
 have HPf:=Lh hPf
 have HSg:=Lh hsg
 have HS:=Lh hs
 have hsl:=World.block_lt_of_cell? w _ hs
 obtain ⟨k,hk⟩:∃ k,r.length=k:=⟨_,rfl⟩
 rw [hk] at hbl hr2 hm
 subst hbl
 have HK:=Lh hk
 have HPl:=Lh hpl
 have HPn:=Lh hPn
 have hm9:m≤715:=by omega
 have e1:IntKind.i64.wrap (((k+1:Nat):Int)-1)=(k:Int):=by rw [wrapi64 (by omega) (by omega)];omega
 clear h hi hA hAf hbs hP hPf hsg hs hR hk hpl hPn
 go_enter Tryz.func44,Tryz.ntmps44
 go_wp2_with (refine wpList_slice_lo rfl _ _ elemN rfl A (k+1) cb 1 rfl rfl (by omega) ?_)
 obtain ⟨wA,hwA⟩:∃ x,w.alloc (.cells #[.int .u8 ((n:Int)%256),.int .u8 ((n:Int)/256),.int .u8 ((m:Int)%256),.int .u8 ((m:Int)/256),.int .u8 (k:Int)] 5)=x:=⟨_,rfl⟩
 have HBA:=Lh (by rw [←hwA];exact (Below.refl _ _).alloc nL _:Below w.heap.size w wA)
 have HO:=Lh (by
  rw [←hwA]
  have h:=Own.fresh w 5 ((beB n++beB m++[UInt8.ofNat k]).map u8v) 5 rfl
  rw [head_vals n m k hn (by omega) hr2] at h
  rw [←head_vals n m k hn (by omega) hr2] at h
  unfold OwnB
  rw [head_vals n m k hn (by omega) hr2] at h ⊢
  exact h:OwnB wA w.heap.size (some ⟨w.heap.size,0,none⟩) 5 5 (beB n++beB m++[UInt8.ofNat k]))
 rw [hwA]
 clear hwA
 have hsA:w.heap.size<wA.heap.size:=(Own.lt HO.out (k:=w.heap.size) rfl).2
 obtain ⟨RB,hRB⟩:∃ q,cutA A cb 1=q:=⟨_,rfl⟩
 obtain ⟨rb,hrb⟩:∃ q,cb-1=q:=⟨_,rfl⟩
 rw [hRB,hrb]
 have HR:=Lh (by rw [←hRB];have h:=Rd.cut (c:=cb) (n:=1) HA.out (by simp) (by simp [HK.out];omega);exact h:Ns w RB r)
 have HRbk:=Lh (by rw [←hRB];exact bk_cut _ _ _:bk RB=bk A)
 have HH:=Lh (rfl:beB n++beB m++[UInt8.ofNat k]=beB n++beB m++[UInt8.ofNat k])
 have HRB:=Lh (⟨hRB,hrb⟩:cutA A cb 1=RB∧cb-1=rb)
 obtain ⟨HD,hHD⟩:∃ q,beB n++beB m++[UInt8.ofNat k]=q:=⟨_,rfl⟩
 rw [hHD] at HO
 have HHD:=Lh hHD
 clear hRB hrb HH hHD
 go_loopg [10,40] k (fun gg s10 s40 wr=>∃ (i:Nat) (B:OA) (c1:Nat),i≤k∧k-i≤gg∧s40=.int .i64 (i:Int)∧s10=.slice B (5+2*i) c1∧OwnB wr w.heap.size B (5+2*i) c1 (HD++(r.take i).flatMap beB)∧Below w.heap.size w wr)
 case atStart=>exact ⟨0,_,5,by omega,by omega,rfl,rfl,by simpa using HO.out,HBA.out⟩
 case round=>
  obtain ⟨i,B,c1,hi,hgg,rfl,rfl,hO,hB⟩:=hrel
  have HO2:=Lh hO
  have HB2:=Lh hB
  have HGg:=Lh hgg
  have hsr:=hB.size
  clear hO hB hgg
  by_cases hlt:i<k
  ·obtain ⟨gr,or,b,rfl,hri,hc⟩:=Ns.at_ (Rd.later HR.out HB2.out) (k:=i) (by rw [HK.out];exact hlt)
   have hb6:=(HBs.out b (List.mem_cons_of_mem _ (List.mem_of_getElem? hri))).2.2
   have HRi:=Lh hri
   have j0:(i:Int)<(k:Int):=by omega
   obtain ⟨N5,hN5⟩:∃ q,5+2*i=q:=⟨_,rfl⟩
   rw [hN5] at HO2 ⊢
   have HN5:=Lh hN5
   have hN59:N5≤9:=by omega
   clear hri hN5
   have Hnew:=Lh (by rw [be_vals b hb6];exact Rd.new wr _ 5:Rd (wr.alloc (.cells #[.int .u8 ((b:Int)%256),.int .u8 ((b:Int)/256)] 5)) (some ⟨wr.heap.size,0,none⟩) ((beB b).map u8v))
   go_wp2_with (at_builtin;refine wpList_append_rd rfl _ _ elemB rfl w.heap.size B N5 c1 _ rfl (Own.alloc HO2.out _) (some ⟨wr.heap.size,0,none⟩) 2 2 _ rfl Hnew.out rfl (u8_one _) ?c2 ?c3 ?c4 ?_)
   case c2=>omega
   case c3=>omega
   case c4=>exact Nat.le_trans hsr (by simp)
   intro A6 c6 w6 hown hb _ _
   have HO6:=Lh hown
   have HB6:=Lh ((HB2.out.alloc hsr _).trans (hb.mono nL))
   clear hown hb
   go_wp2
   go_roundg (k-(i+1))
   case measure=>have:=HGg.out;omega
   case rel=>
    refine ⟨i+1,A6,c6,by omega,by omega,by go_num,by rw [←HN5.out];rfl,?_,HB6.out⟩
    have h:=HO6.out
    have e:HD++(r.take (i+1)).flatMap beB=(HD++(r.take i).flatMap beB)++beB b:=by rw [List.take_add_one,HRi.out];simp
    rw [show 5+2*(i+1)=N5+2 by have:=HN5.out;omega]
    unfold OwnB
    rw [e,List.map_append,List.map_append,Za]
    exact h
  ·have hc0:¬(i:Int)<(k:Int):=by omega
   obtain rfl:i=k:=by omega
   have hrt:r.take i=r:=List.take_of_length_le (by rw [HK.out];exact Nat.le_refl _)
   rw [hrt] at HO2
   have HRoom:=Lh (chunksRoom i wr (by omega))
   obtain ⟨FS,hFS⟩:∃ q,min (235-2*i) m=q:=⟨_,rfl⟩
   have hmin:min (235-2*(i:Int)) (m:Int)=(FS:Int):=by omega
   have HFS:=Lh hFS
   have hFSl:FS≤m∧FS≤235:=by omega
   obtain ⟨BL,hBL⟩:∃ q,5+2*i=q:=⟨_,rfl⟩
   rw [hBL] at HO2 ⊢
   have hBLl:BL≤9:=by omega
   have HBL:=Lh hBL
   obtain ⟨BY,hBY⟩:∃ q,HD++r.flatMap beB=q:=⟨_,rfl⟩
   rw [hBY] at HO2
   have HBY:=Lh hBY
   clear hFS hrt hc0 hlt HGg hBL hBY
   go_wp2_with fail
   refine HRoom.out.mono ?_
   rintro e wq ⟨rfl,rfl⟩
   clear HRoom
   go_wp2_with fail
   obtain ⟨gA,oA,x0,hAe,hx0,hc0⟩:=Ns.at_ HA.out (k:=0) (by simp)
   simp only [Zz,Option.some.injEq] at hx0
   subst hx0
   subst hAe
   rw [Nat.add_zero] at hc0
   have hgAl:=(HAf.out gA rfl).1
   have hgAf:=(HAf.out gA rfl).2
   have HB2d:=Lh (show Below w.heap.size w wq.drew from HB2.out.drew)
   have s1:wq.drew.cell? ⟨sg,0,none⟩=some (.pointer (some ⟨c.g,0,none⟩)):=(HB2d.out.cell hsl).trans HS.out
   have s2:wq.drew.cell? ⟨gA,oA,none⟩=some (.int .i64 (b0:Int)):=(HB2d.out.cell hgAl).trans hc0
   have KB:=Lh (fun (W:World) (hb:Below w.heap.size wq.drew W)=>(⟨(hb.cell hsl).trans s1,(hb.cell hgAl).trans s2⟩:W.cell? ⟨sg,0,none⟩=some (.pointer (some ⟨c.g,0,none⟩))∧W.cell? ⟨gA,oA,none⟩=some (.int .i64 (b0:Int))))
   have KC:=Lh (fun (W W':World) (hb:Below w.heap.size wq.drew W) (hc:Chg (c.fp d) W W')=>(by
    have hs:=hb.size
    have hs2:w.heap.size≤W.heap.size:=Nat.le_trans HB2d.out.size hs
    exact ⟨(cell_same (hc.block sg (show sg<W.heap.size by omega) HSg.out)).trans (KB.out W hb).1,(cell_same (hc.block gA (show gA<W.heap.size by omega) hgAf)).trans (KB.out W hb).2⟩:W'.cell? ⟨sg,0,none⟩=some (.pointer (some ⟨c.g,0,none⟩))∧W'.cell? ⟨gA,oA,none⟩=some (.int .i64 (b0:Int))))
   have hb0:=HBs.out b0 (by simp)
   have hPl:=HPl.out
   have hbyl:BY.length=BL:=OwnB.length HO2.out
   have HPt:=Lh (by
    have h:Bs wq.drew P pk:=Rd.later HP.out HB2d.out
    intro h0
    obtain ⟨b,o,e,hh⟩:=h (by simp at h0 ⊢;omega)
    refine ⟨b,o,e,fun j hj=>?_⟩
    rw [List.length_map,List.length_take] at hj
    rw [hh j (by simp;omega),List.map_take,List.getElem?_take,if_pos (by omega)]:Rd wq.drew P ((pk.take FS).map u8v))
   have hptl:((pk.take FS).map u8v).length=FS:=by simp;omega
   have hft:pk.take FS=pk.take (235-2*r.length):=by
    rw [HK.out]
    have:=HFS.out
    by_cases h:235-2*i≤m
    ·rw [show FS=235-2*i by omega]
    ·rw [List.take_of_length_le (show pk.length≤FS by omega),List.take_of_length_le (by omega)]
   have hfirst:(⟨3,BY++pk.take FS⟩:Bk)=firstB n r pk:=by
    unfold firstB headW
    rw [←HBY.out,←HHD.out,hft,hPl,HK.out]
   have hadd:BL+FS≤240:=by have:=HFS.out;have:=HBL.out;omega
   have HPutF:=Lh (fun (w2:World) (A':OA) (c':Nat) (hb:Below w.heap.size wq.drew w2) (hown:Own w2 w.heap.size 5 A' (BL+FS) c' (BY.map u8v++(pk.take FS).map u8v))=>(by
    have hs2:=hb.size
    have hM2:c.Mem d w2:=HM.out.later (HB2d.out.trans hb)
    have hown':OwnB w2 w.heap.size A' (BL+FS) c' (BY++pk.take FS):=by unfold OwnB;rw [List.map_append];exact hown
    refine (cachePut c d b0 ((3:Nat):Int) A' (BL+FS) c' (BY++pk.take FS) w2 hM2 HInv.out hb0.2.2 (OwnB.length hown') (OwnB.bs hown') (fun e=>?_) (fun _ q hq=>⟨(Own.lt hown hq).2,fun hf=>by have:=HM.out.in_ q hf;have:=(Own.lt hown hq).1;omega⟩)).mono (fun e w3 hp=>?_)
    ·rcases Own.form hown with ⟨-,h1,h2,-⟩|⟨g,h,-⟩
     ·exact ⟨h1,h2⟩
     ·rw [e] at h;cases h
    ·obtain ⟨h1,c2,h2⟩:=hp.upd hb0.1 hb0.2.1 (by decide) (by decide) (by rw [OwnB.length hown'];exact hadd)
     rw [hfirst] at h2
     exact ⟨h1,c2,h2.before (HB2d.out.trans hb),h2.chg⟩:Calls Tryz.prog 9 #[.pointer (some ⟨c.g,0,none⟩),.int .i64 (b0:Int),.agg #[.int .i64 3,.slice A' (BL+FS) c']] w2 (fun e w3=>e=.returned (.int .i64 0)∧∃ c2,c.Upd c2 d (setV (c.view d) b0 (firstB n r pk)) w w3∧Chg (c.fp d) w2 w3)))
   have hf1:(0:Int)≤(FS:Int):=by omega
   have hf2:(FS:Int)≤(pc:Int):=by omega
   have hb1:(BL+FS)*1≤140737488355328:=by omega
   have hb63:BL+FS≤9223372036854775807:=by omega
   have hbase:=HB2d.out.size
   have HO3:=Lh (show Own wq.drew w.heap.size 5 B BL c1 (BY.map u8v) from HO2.out)
   clear hc0 hft hfirst
   go_region_held3 (fun W=>W.cell? ⟨sg,0,none⟩=some (.pointer (some ⟨c.g,0,none⟩))∧W.cell? ⟨gA,oA,none⟩=some (.int .i64 (b0:Int)))
    (first|(exact ⟨s1,s2⟩)|(exact KB.out w2 hb2)|(exact KC.out w2 w3 hb2 hc3)|go_keep)
    (first|(refine step_append_rd rfl _ _ elemB rfl w.heap.size B BL c1 (BY.map u8v) rfl HO3.out P FS pc ((pk.take FS).map u8v) rfl HPt.out hptl (u8_one _) hb1 hb63 hbase ?_;intro A' c' w2 hown2 hb2 hg2 hbk2)|(go_at_call 9;refine (HPutF.out w2 A' c' hb2 hown2).mono ?_;rintro e w3 ⟨rfl,c2,hu3,hc3⟩))
   have HU3:=Lh hu3
   clear s1 s2 KB KC HPutF HPt hptl HO3 HB2d hf1 hf2 hb1 hb63 hbase hu3 hc3 hb2 hown2 hg2 hbk2 hadd hbyl HO2 HB2
   have hs3:=HU3.out.chg.size
   obtain ⟨V0,hV0⟩:∃ V,setV (c.view d) b0 (firstB n r pk)=V:=⟨_,rfl⟩
   rw [hV0] at HU3
   have HV0:=Lh hV0
   obtain ⟨RS,hRS⟩:∃ q,pk.drop FS=q:=⟨_,rfl⟩
   have HRS:=Lh hRS
   have hRSl:RS.length=m-FS:=by rw [←hRS,List.length_drop,hPl]
   have hFP:∀ (c2:Cch) (vw:Nat→Option Bk) (W:World),c.Upd c2 d vw w W→∀ q,q<w.heap.size→¬c.fp d q→¬c2.fp d q:=fun c2 vw W hu q h1 h2 h3=>(hu.fp q h3).elim h2 (fun h=>by omega)
   have HFP:=Lh hFP
   have HP3:=Lh (Rd.same HP.out (fun q hq=>HU3.out.chg.block q (HPf.out q hq).1 (HPf.out q hq).2):Bs w3 P pk)
   have HR0:=Lh (by rw [←hRS];have h:=Rd.cut (c:=pc) (n:=FS) HP3.out (by simp;omega) (by simp;omega);rw [←List.map_drop] at h;exact h:Bs w3 (cutA P pc FS) RS)
   clear hV0 hRS hFP
   go_wp2_with (first|(refine wpList_slice_lo rfl _ _ elemB rfl P m pc FS rfl rfl (by omega) ?_)|(refine wpList_slice_lo rfl _ _ elemN rfl (some ⟨gA,oA,none⟩) (i+1) cb 1 rfl rfl (by omega) ?_))
   rw [HRB.out.1,HRB.out.2]
   obtain ⟨C0,hC0⟩:∃ q,cutA P pc FS=q:=⟨_,rfl⟩
   rw [hC0] at HR0 ⊢
   have HC0:=Lh (by rw [←hC0];exact ⟨bk_cut _ _ _,fun e=>by
    unfold cutA at e
    split at e
    ·rw [HPn.out e];omega
    ·cases hP:P with
     | none=>rw [HPn.out hP];omega
     | some a=>rw [hP] at e;cases e⟩:bk C0=bk P∧(C0=none→pc-FS=0))
   clear hC0
   obtain ⟨rc0,hrc0⟩:∃ q,pc-FS=q:=⟨_,rfl⟩
   obtain ⟨rn0,hrn0⟩:∃ q,m-FS=q:=⟨_,rfl⟩
   rw [hrc0] at HC0 ⊢
   rw [hrn0] at hRSl ⊢
   have hrnc:rn0≤rc0∧rc0≤9223372036854775807∧rn0≤240*i:=by have:=HFS.out;omega
   clear hrc0 hrn0
   go_loopg [14,15,78] i (fun gg s14 s15 s78 wr=>∃ (j:Nat) (RA:OA) (rn rc:Nat) (c4:Cch),j≤i∧i-j≤gg∧s78=.int .i64 (j:Int)∧s14=.int .i64 0∧s15=.slice RA rn rc∧Bs wr RA (RS.drop (240*j))∧(RS.drop (240*j)).length=rn∧rn≤rc∧rc≤9223372036854775807∧(RA=none→rc=0)∧bk RA=bk P∧c.Upd c4 d (restV V0 (r.take j) RS) w wr)
   case atStart=>exact ⟨0,C0,rn0,rc0,c2,by omega,by omega,rfl,rfl,rfl,by simpa using HR0.out,by simpa using hRSl,hrnc.1,hrnc.2.1,HC0.out.2,HC0.out.1,by simpa [restV] using HU3.out⟩
   case round=>
    obtain ⟨j,RA,rn,rc,c4,hj,hgg,rfl,rfl,rfl,hRA,hRl,hrn,hrc,hRn,hRb,hU⟩:=hrel
    have HGg:=Lh hgg
    have HRA:=Lh hRA
    have HRl:=Lh hRl
    have HRn:=Lh hRn
    have HRb:=Lh hRb
    have HU:=Lh hU
    have hsr:=hU.chg.size
    clear hgg hRA hRl hRn hRb hU
    have hRr:Ns wr RB r:=Rd.same HR.out (fun q hq=>HU.out.chg.block q (HAf.out q (by rw [←HRbk.out];exact hq)).1 (HAf.out q (by rw [←HRbk.out];exact hq)).2)
    have s1:wr.cell? ⟨sg,0,none⟩=some (.pointer (some ⟨c.g,0,none⟩)):=(cell_same (HU.out.chg.block sg hsl HSg.out)).trans HS.out
    by_cases hlt:j<i
    ·obtain ⟨gr,or,b,rfl,hri,hc⟩:=Ns.at_ hRr (k:=j) (by rw [HK.out];exact hlt)
     have hb6:=HBs.out b (List.mem_cons_of_mem _ (List.mem_of_getElem? hri))
     have HRi:=Lh hri
     have j0:(j:Int)<(i:Int):=by omega
     obtain ⟨PM,hPM⟩:∃ q,min rn 240=q:=⟨_,rfl⟩
     have hmin2:min (rn:Int) 240=(PM:Int):=by omega
     have hpm:PM≤rn∧PM≤240:=by omega
     have HPM:=Lh hPM
     have hptl:((RS.drop (240*j)).take 240).length=PM:=by rw [List.length_take,HRl.out];omega
     have HPut:=Lh (by
      have hp:=cachePut c4 d b ((4:Nat):Int) RA PM rc ((RS.drop (240*j)).take 240) wr HU.out.mem HU.out.inv hb6.2.2 hptl (HRA.out.take 240) (fun e=>by have:=HRn.out e;omega) (fun _ q hq=>by
       rw [HRb.out] at hq
       exact ⟨lT (HPf.out q hq).1 hsr,HFP.out c4 _ wr HU.out q (HPf.out q hq).1 (HPf.out q hq).2⟩)
      rw [HU.out.eg] at hp
      refine hp.mono (fun e w5 h=>?_)
      obtain ⟨h1,c5,h2⟩:=h.upd hb6.1 hb6.2.1 (by decide) (by decide) (by rw [hptl];exact hpm.2)
      refine ⟨h1,c5,HU.out.trans (vw2:=restV V0 (r.take (j+1)) RS) ?_,h2.chg,h2.chg.size⟩
      rw [List.take_add_one,HRi.out,Option.toList_some,restV_snoc,List.length_take,HK.out,Nat.min_eq_left (by omega),←(funext HU.out.view:c4.view d=restV V0 (r.take j) RS)]
      exact h2:Calls Tryz.prog 9 #[.pointer (some ⟨c.g,0,none⟩),.int .i64 (b:Int),.agg #[.int .i64 4,.slice RA PM rc]] wr (fun e w5=>e=.returned (.int .i64 0)∧∃ c5,c.Upd c5 d (restV V0 (r.take (j+1)) RS) w w5∧Chg (c4.fp d) wr w5∧wr.heap.size≤w5.heap.size))
     clear hri hPM hRr hptl
     go_wp2_with (first|(refine wpList_slice_hi rfl _ _ elemB rfl RA rn rc PM rfl rfl (by omega) ?_)|(refine wpList_slice_lo rfl _ _ elemB rfl RA rn rc PM rfl rfl (by omega) ?_))
     refine HPut.out.mono ?_
     rintro e w5 ⟨rfl,c5,hu5,hc5,hs5⟩
     have HU5:=Lh hu5
     have HC5:=Lh hc5
     clear hu5 hc5 HPut hc s1
     go_wp2
     go_roundg (i-(j+1))
     case measure=>have:=HGg.out;omega
     case rel=>
      have hlr:=HRl.out
      have e1:RS.drop (240*(j+1))=(RS.drop (240*j)).drop PM:=by
       rw [←HPM.out,←hlr,drop_min,List.drop_drop]
       congr 1
      have hcut:=Rd.cut (c:=rc) (n:=PM) HRA.out (by simp only [List.length_map];omega) (by simp only [List.length_map];omega)
      rw [←List.map_drop] at hcut
      have hb:bk (cutA RA rc PM)=bk P:=by rw [bk_cut];exact HRb.out
      refine ⟨j+1,cutA RA rc PM,rn-PM,rc-PM,c5,by omega,by omega,by go_num,rfl,rfl,?_,?_,by omega,by omega,cutA_none HRn.out,hb,HU5.out⟩
      ·rw [e1]
       exact Rd.same hcut (fun q hq=>HC5.out.block q (by rw [hb] at hq;exact lT (HPf.out q hq).1 hsr) (by rw [hb] at hq;exact HFP.out c4 _ wr HU.out q (HPf.out q hq).1 (HPf.out q hq).2))
      ·rw [e1,List.length_drop,hlr]
    ·have hc0:¬(j:Int)<(i:Int):=by omega
     have hji:j=i:=by omega
     have HJi:=Lh hji
     clear hji hlt hRr s1
     go_wp2
     rw [←HRe.out]
     have hU:=HU.out
     have e1:r.take j=r:=List.take_of_length_le (by rw [HJi.out,HK.out];exact Nat.le_refl _)
     have e2:RS=pk.drop (235-2*r.length):=by
      have:=HFS.out
      rw [←HRS.out,HK.out,←drop_min pk (235-2*i)]
      congr 1
      omega
     rw [e1,←HV0.out,e2] at hU
     exact ⟨rfl,c4,hU⟩
theorem cacheNew (d:Dsk) (room:Nat) (w:World) (h:d.At w) (h1:1≤room) (h2:room≤1024):
 Calls Tryz.prog 23 #[.pointer (some ⟨d.g,0,none⟩),.int .i64 (room:Int)] w fun e w'=>∃ c:Cch,e=.returned (.tuple #[.pointer (some ⟨c.g,0,none⟩),.int .i64 0])∧c.Mem d w'∧c.Inv d∧c.room=room∧(∀ n,c.blk n=none)∧(∀ n,c.dty n=none) ∧
  (∀ b,c.fp d b→d.fp b∨w.heap.size≤b)∧Below w.heap.size w w'∧w.heap.size≤c.g∧c.g<w'.heap.size:=by
 have HD:=Lh h
 have hdf:∀ b,d.fp b→b<w.heap.size:=fun b hb=>h.in_ b hb
 clear h
 have i1:¬(room:Int)<1:=by omega
 have i2:¬(1024:Int)<room:=by omega
 have hmm:=@run_makeMap Tryz.prog
 have q1:∀ w:World,(binOp .eql 28 (.pointer (some ⟨d.g,0,none⟩)) (.pointer none)).run Tryz.prog w=.ok (.bool false) w:=fun _=>rfl
 go_enter Tryz.func23,Tryz.ntmps23
 go_wp2
 go_ret2
 obtain ⟨wA,hwA⟩:∃ x,w.alloc (.map #[] 0)=x:=⟨_,rfl⟩
 have hsA:wA.heap.size=w.heap.size+1:=by rw [←hwA];simp
 have hA:BlkT.At wA w.heap.size 0 (fun _=>none):=by rw [←hwA];exact MapT.At.made _ w
 have hBA:Below w.heap.size w wA:=by rw [←hwA];exact (Below.refl _ _).alloc nL _
 rw [hwA]
 obtain ⟨wB,hwB⟩:∃ x,wA.alloc (.map #[] 0)=x:=⟨_,rfl⟩
 have hsB:wB.heap.size=w.heap.size+1+1:=by rw [←hwB,←hsA];simp
 have hB:SetT.At wB (w.heap.size+1) 0 (fun _=>none):=by rw [←hwB,←hsA];exact MapT.At.made _ wA
 have hBB:Below wA.heap.size wA wB:=by rw [←hwB];exact (Below.refl _ _).alloc nL _
 rw [hwB]
 obtain ⟨wC,hwC⟩:∃ x,wB.alloc (.cells #[.pointer (some ⟨d.g,0,none⟩),.int .i64 (room:Int),.map (some w.heap.size),.map (some (w.heap.size+1)),.slice none 0 0] 87)=x:=⟨_,rfl⟩
 have hC:Blk wC (w.heap.size+1+1) 87 #[.pointer (some ⟨d.g,0,none⟩),.int .i64 (room:Int),.map (some w.heap.size),.map (some (w.heap.size+1)),.slice none 0 0]:=by rw [←hwC,←hsB];exact Blk.new wB _ _
 have hBC:Below wB.heap.size wB wC:=by rw [←hwC];exact (Below.refl _ _).alloc nL _
 rw [hwC]
 have hb:Below w.heap.size w wC:=hBA.trans ((hBB.trans (hBC.mono (by omega))).mono (by omega))
 have hwr:∀ b,(⟨w.heap.size+1+1,w.heap.size,w.heap.size+1,room,0,0,⟨none,0,0⟩,[],fun _=>none,fun _=>none,fun _=>[]⟩:Cch).wr b→w.heap.size≤b:=by
  rintro b (h|h|h|h)
  ·subst h;show w.heap.size≤w.heap.size+1+1;omega
  ·subst h;exact Nat.le_refl _
  ·subst h;show w.heap.size≤w.heap.size+1;omega
  ·cases h
 refine ⟨⟨w.heap.size+1+1,w.heap.size,w.heap.size+1,room,0,0,⟨none,0,0⟩,[],fun _=>none,fun _=>none,fun _=>[]⟩,rfl,⟨hC,HD.out.later hb,(hA.below hBB).below hBC,hB.below hBC,OwnO.nil _,fun n x h=>(by cases h),?_,?_,?_,?_,fun b hb h=>?_⟩,⟨h1,h2,fun n x h=>(by cases h),fun n h=>(by cases h),fun n h=>(by cases h),Nat.zero_le _,fun n x h=>(by cases h)⟩,rfl,fun _=>rfl,fun _=>rfl,?_,hb,?_,hC.lt⟩
 ·show w.heap.size+1+1≠w.heap.size;omega
 ·show w.heap.size+1+1≠w.heap.size+1;omega
 ·show w.heap.size≠w.heap.size+1;omega
 ·exact ⟨by simp [bk],by simp [bk],by simp [bk]⟩
 ·have:=hdf b hb;have:=hwr b h;omega
 ·rintro b (h|h|⟨n,x,hx,h⟩)
  ·exact .inl h
  ·exact .inr (hwr b h)
  ·cases hx
 ·show w.heap.size≤w.heap.size+1+1;omega
end Go.Proofs.YtiihiocgbfafaaaGreat
