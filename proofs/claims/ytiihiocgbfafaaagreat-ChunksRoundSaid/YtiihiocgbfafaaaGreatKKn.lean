/- L13 L16 L21a D2a L21b L21 L23 L24a L24 -/
import Derived.Test.YtiihiocgbfafaaaGreatKKg
import Derived.Test.YtiihiocgbfafaaaGreatKKl
import Derived.Test.YtiihiocgbfafaaaGreatKKm
import Derived.Test.YtiihiocgbfafaaaGreatKKs
set_option linter.unusedSimpArgs false
set_option linter.unusedVariables false
set_option maxHeartbeats 8000000
set_option maxRecDepth 100000
namespace Go.Proofs.YtiihiocgbfafaaaGreat
open Go.RowKit Go.Maps
def loadL (vw:Nat→Option Bk) (b:Nat) (len:Int):Option (List UInt8):=
 match readL vw b len with
 | some (_,p)=>if (unpackL p len).1=0∧((unpackL p len).2.length:Int)=len then some (unpackL p len).2 else none
 | none=>none
def loadPost (c:Cch) (d:Dsk) (b:Nat) (len:Int) (w:World) (e:Ending) (w':World):Prop:=
 ∃ c',c.Next c' d w w'∧match loadL (c.view d) b len with
   | some l=>∃ A n cc,e=.returned (.tuple #[.slice A n cc,.int .i64 0])∧NewB w' w.heap.size A n cc l∧∀ q,bk A=some q→¬c'.fp d q
   | none=>∃ E:Int,E≠0∧e=.returned (.tuple #[.slice none 0 0,.int .i64 E])
theorem loadPost_bad {c c':Cch} {d:Dsk} {b:Nat} {len:Int} {w w':World} (h:loadL (c.view d) b len=none) (hn:c.Next c' d w w') (E:Int) (hE:E≠0):
 loadPost c d b len w (.returned (.tuple #[.slice none 0 0,.int .i64 E])) w':=by
 refine ⟨c',hn,?_⟩
 rw [h]
 exact ⟨E,hE,rfl⟩
theorem chunksLoad (sg:Nat) (c:Cch) (d:Dsk) (b:Nat) (len:Int) (w:World) (h:c.Mem d w) (hi:c.Inv d) (hb:b≤65535) (hlen1:-9223372036854775808≤len) (hlen2:len≤9223372036854775807) (hs:w.cell? ⟨sg,0,none⟩=some (.pointer (some ⟨c.g,0,none⟩))) (hsg:¬c.fp d sg):
 Calls Tryz.prog 11 #[.pointer (some ⟨sg,0,none⟩),.agg #[.int .i64 (b:Int),.int .i64 len]] w (loadPost c d b len w):=by
 have hsl:sg<w.heap.size:=World.block_lt_of_cell? w _ hs
 have HIn:=Lh h.in_
 obtain ⟨wA,hwA⟩:∃ x,w.alloc (.cells #[.int .i64 (b:Int),.int .i64 len] 24)=x:=⟨_,rfl⟩
 have HB0:=Lh (by rw [←hwA];exact (Below.refl w.heap.size w).alloc nL (.cells #[.int .i64 (b:Int),.int .i64 len] 24):Below w.heap.size w wA)
 have HW0:=Lh (by rw [←hwA];exact Blk.new w 24 #[.int .i64 (b:Int),.int .i64 len]:Blk wA w.heap.size 24 #[.int .i64 (b:Int),.int .i64 len])
 have HRead:=Lh (chunksRead sg c d b len wA (h.later HB0.out) hi hb ((HB0.out.cell hsl).trans hs) hsg)
 obtain ⟨R,hR⟩:∃ R,loadPost c d b len w=R:=⟨_,rfl⟩
 rw [hR]
 have HRe:=Lh hR
 clear h hi hR hs hsg
 have p0:=HW0.out.cell 0
 have p1:=HW0.out.cell 1
 simp only [Zt,Zz,Zs] at p0 p1
 go_enter Tryz.func11,Tryz.ntmps11
 go_wp2_with fail
 clear hwA p0 p1
 refine HRead.out.mono ?_
 rintro e w1 ⟨c',hN,hm⟩
 have HN1:=Lh (hN.before HB0.out)
 have HW1:=Lh (Blk.chg HW0.out hN.chg (fun hf=>by have:=HIn.out _ hf;omega))
 have hs1:w.heap.size≤w1.heap.size:=Nat.le_trans HB0.out.size hN.chg.size
 clear hN HRead
 cases hr:readL (c.view d) b len with
 | none=>
   rw [hr] at hm
   obtain ⟨E,hE,rfl⟩:=hm
   have hE2:(E != 0)=true:=bne_iff_ne.2 hE
   have HE:=Lh hE
   have HRr:=Lh (by unfold loadL;rw [hr]:loadL (c.view d) b len=none)
   clear hr hE
   go_wp2
   rw [←HRe.out]
   exact loadPost_bad HRr.out HN1.out E HE.out
 | some y=>
   obtain ⟨bs,out⟩:=y
   rw [hr] at hm
   obtain ⟨A1,n1,c1,A2,n2,c2,rfl,-,-,-,h4,h5,h6⟩:=hm
   have hcap:=h5.cap
   have hol:=(readL_len hr).1
   have HUn:=Lh (packUnpack A2 n2 c2 out len w1 h4 h5.bs (by omega) hcap.1 hcap.2.1 hcap.2.2 (fun q hq=>h5.lt hq) hlen1 hlen2)
   have HRr:=Lh (by unfold loadL;rw [hr]:loadL (c.view d) b len=if (unpackL out len).1=0∧((unpackL out len).2.length:Int)=len then some (unpackL out len).2 else none)
   clear hr h4 h5 h6 hcap
   have k1:=HW1.out.cell 1
   simp only [Zt,Zz,Zs] at k1
   go_wp2_with fail
   refine HUn.out.mono ?_
   rintro e w2 ⟨hb2,A,n,cc,rfl,hnew⟩
   have HB2:=Lh hb2
   have HNew:=Lh hnew
   have HN2:=Lh (HN1.out.chg2 (F:=Fp.none) (Chg.of_below hb2) (fun _ h=>h.elim))
   have k2:w2.cell? ⟨w.heap.size,1,none⟩=some (.int .i64 len):=(hb2.cell (Blk.lt HW1.out)).trans k1
   have hnl:=hnew.1
   clear hb2 hnew k1 HUn
   obtain ⟨UE,hUE⟩:∃ q,(unpackL out len).1=q:=⟨_,rfl⟩
   rw [hUE] at HRr ⊢
   obtain ⟨UO,hUO⟩:∃ q,(unpackL out len).2=q:=⟨_,rfl⟩
   rw [hUO] at HRr HNew hnl
   clear hUE hUO
   by_cases he:UE=0
   ·have he1:((UE:Int) != 0)=false:=by rw [he];rfl
    have He:=Lh he
    by_cases hn:(n:Int)=len
    ·have hn1:((n:Int) != len)=false:=by rw [hn];simp
     have Hr:=Lh (HRr.out.trans (by rw [if_pos ⟨he,by rw [hnl];exact hn⟩]))
     clear he hn
     go_wp2
     rw [←HRe.out]
     refine ⟨c',HN2.out,?_⟩
     rw [Hr.out]
     refine ⟨A,n,cc,rfl,?_,fun q hq hf=>?_⟩
     ·obtain ⟨x1,x2,x3,x4⟩:=HNew.out
      exact ⟨x1,x2,fun b hb=>⟨by have:=(x3 b hb).1;omega,(x3 b hb).2⟩,x4⟩
     ·have h1:=(HNew.out.2.2.1 q hq).1
      have h2:=HN1.out.mem.in_ q hf
      omega
    ·have hn1:((n:Int) != len)=true:=by rw [bne_iff_ne];exact hn
     have Hr:=Lh (HRr.out.trans (by rw [if_neg (by rintro ⟨-,h⟩;rw [hnl] at h;exact hn h)]))
     clear he hn
     go_wp2
     rw [←HRe.out]
     exact loadPost_bad Hr.out HN2.out 7 (by decide)
   ·have he1:((UE:Int) != 0)=true:=by rw [bne_iff_ne];omega
    have Hr:=Lh (HRr.out.trans (by rw [if_neg (by rintro ⟨h,-⟩;exact he h)]))
    clear he
    go_wp2
    rw [←HRe.out]
    exact loadPost_bad Hr.out HN2.out 7 (by decide)
structure CloS (c:Cch) (d:Dsk) (sg b2 b3:Nat) (A:OA) (n cc:Nat) (data:List UInt8) (w:World):Prop where
 mem:c.Mem d w
 inv:c.Inv d
 cs:w.cell? ⟨sg,0,none⟩=some (.pointer (some ⟨c.g,0,none⟩))
 c2:w.cell? ⟨b2,0,none⟩=some (.pointer (some ⟨sg,0,none⟩))
 c3:w.cell? ⟨b3,0,none⟩=some (.slice A n cc)
 rd:Bs w A data
 ap:¬c.fp d sg∧¬c.fp d b2∧¬c.fp d b3∧∀ q,bk A=some q→q<w.heap.size∧¬c.fp d q
theorem CloS.next {c c':Cch} {d:Dsk} {sg b2 b3:Nat} {A:OA} {n cc:Nat} {data:List UInt8} {w w':World} (h:CloS c d sg b2 b3 A n cc data w) (hn:c.Next c' d w w'):CloS c' d sg b2 b3 A n cc data w':=by
 have hf:∀ b,b<w.heap.size→¬c.fp d b→¬c'.fp d b:=fun b hb hnf hf=>(hn.fp b hf).elim hnf (fun h=>by omega)
 have l1:=World.block_lt_of_cell? w _ h.cs
 have l2:=World.block_lt_of_cell? w _ h.c2
 have l3:=World.block_lt_of_cell? w _ h.c3
 refine ⟨hn.mem,hn.inv,?_,(cell_same (hn.chg.block b2 l2 h.ap.2.1)).trans h.c2,(cell_same (hn.chg.block b3 l3 h.ap.2.2.1)).trans h.c3,Rd.same h.rd (fun q hq=>hn.chg.block q (h.ap.2.2.2 q hq).1 (h.ap.2.2.2 q hq).2),hf sg l1 h.ap.1,hf b2 l2 h.ap.2.1,hf b3 l3 h.ap.2.2.1,fun q hq=>⟨lT (h.ap.2.2.2 q hq).1 hn.chg.size,hf q (h.ap.2.2.2 q hq).1 (h.ap.2.2.2 q hq).2⟩⟩
 rw [hn.eg]
 exact (cell_same (hn.chg.block sg l1 h.ap.1)).trans h.cs
theorem CloS.below {c:Cch} {d:Dsk} {sg b2 b3:Nat} {A:OA} {n cc:Nat} {data:List UInt8} {w w':World} (h:CloS c d sg b2 b3 A n cc data w) (hb:Below w.heap.size w w'):CloS c d sg b2 b3 A n cc data w':=
 h.next (Cch.Next.refl h.mem h.inv hb)
theorem cloSave (c:Cch) (d:Dsk) (sg b2 b3:Nat) (A:OA) (n cc:Nat) (data:List UInt8) (p:Ck) (w:World) (h:CloS c d sg b2 b3 A n cc data w) (hl:data.length=n) (hn:n≤1000000000) (hp1:p.1≤65535) (hp2:p.2≤65535):
 Calls Tryz.prog 38 #[.agg #[.int .i64 (p.1:Int),.int .i64 (p.2:Int)],.pointer (some ⟨b2,0,none⟩),.pointer (some ⟨b3,0,none⟩)] w fun e w'=>e=.returned (.bool (decide (loadL (c.view d) p.1 p.2=some data)))∧∃ c',c.Next c' d w w':=by
 obtain ⟨b,len⟩:=p
 simp only at hp1 hp2 ⊢
 obtain ⟨wA,hwA⟩:∃ x,w.alloc (.cells #[.int .i64 (b:Int),.int .i64 (len:Int)] 24)=x:=⟨_,rfl⟩
 have HB0:=Lh (by rw [←hwA];exact (Below.refl w.heap.size w).alloc nL (.cells #[.int .i64 (b:Int),.int .i64 (len:Int)] 24):Below w.heap.size w wA)
 have HW0:=Lh (by rw [←hwA];exact Blk.new w 24 #[.int .i64 (b:Int),.int .i64 (len:Int)]:Blk wA w.heap.size 24 #[.int .i64 (b:Int),.int .i64 (len:Int)])
 have hA:=h.below HB0.out
 have HA:=Lh hA
 have HL:=Lh (chunksLoad sg c d b (len:Int) wA hA.mem hA.inv hp1 (by omega) (by omega) hA.cs hA.ap.1)
 have k2:=hA.c2
 clear hA
 have Hl:=Lh hl
 have p0:=HW0.out.cell 0
 have p1:=HW0.out.cell 1
 simp only [Zt,Zz,Zs] at p0 p1
 clear h hl
 go_enter Tryz.func38,Tryz.ntmps38
 go_wp2_with fail
 clear hwA p0 p1
 refine HL.out.mono ?_
 rintro e w1 ⟨c',hN,hm⟩
 have HN1:=Lh (hN.before HB0.out)
 have HA1:=Lh (HA.out.next hN)
 clear k2 hN HL
 cases hL:loadL (c.view d) b (len:Int) with
 | none=>
   rw [hL] at hm
   obtain ⟨E,hE,rfl⟩:=hm
   have hE2:(E==0)=false:=bF hE
   have hd:decide ((none:Option (List UInt8))=some data)=false:=by simp
   clear hE
   go_wp2
   go_ret
   exact ⟨by rw [hL,hd];rfl,c',HN1.out⟩
 | some l=>
   rw [hL] at hm
   obtain ⟨A1,n1,c1,rfl,hnew,hq⟩:=hm
   have k3:=HA1.out.c3
   have HEq:=Lh (bytesEqual A1 A n1 c1 n cc l data w1 hnew.1 Hl.out hnew.2.1 HA1.out.rd)
   clear hnew hq
   go_wp2_with fail
   refine HEq.out.mono ?_
   rintro e w2 ⟨rfl,rfl⟩
   clear HEq k3
   go_wp2
   go_ret
   refine ⟨?_,c',HN1.out⟩
   rw [hL]
   show Ending.returned (.bool (l==data))=_
   by_cases e:l=data
   ·subst e;simp
   ·simp [e]
def idxSavePost (c:Cch) (d:Dsk) (data:List UInt8) (l:List Ck) (w:World) (e:Ending) (w':World):Prop:=
 (∃ c',c.Next c' d w w')∧((e=.returned (.int .i64 (-1))∧∀ p∈l,loadL (c.view d) p.1 p.2≠some data) ∨
   ∃ (i:Nat) (p:Ck),e=.returned (.int .i64 (i:Int))∧l[i]? = some p∧loadL (c.view d) p.1 p.2=some data)
theorem idxSave (c:Cch) (d:Dsk) (sg b2 b3:Nat) (A:OA) (n cc:Nat) (data:List UInt8) (R:OA) (m rc:Nat) (l:List Ck) (w:World) (h:CloS c d sg b2 b3 A n cc data w) (hl:data.length=n) (hn:n≤1000000000)
 (hR:ChT.Own w 0 R m rc l) (hRa:∀ q,bk R=some q→¬c.fp d q) (hm:m≤1000000000) (hp:∀ p∈l,p.1≤65535∧p.2≤65535):
 Calls Tryz.prog 40 #[.slice R m rc,.func (.func 38) #[] #[.pointer (some ⟨b2,0,none⟩),.pointer (some ⟨b3,0,none⟩)]] w (idxSavePost c d data l w):=by
 have hll:=hR.length
 have HC:=Lh h
 have HR:=Lh hR
 have HRa:=Lh hRa
 have HP:=Lh hp
 have Hl:=Lh hl
 obtain ⟨Q,hQ⟩:∃ Q,idxSavePost c d data l w=Q:=⟨_,rfl⟩
 rw [hQ]
 have HRe:=Lh hQ
 clear hQ
 clear h hR hRa hp hl
 go_enter Tryz.func40,Tryz.ntmps40
 go_wp2_with fail
 go_loopg [8] m (fun gg s8 wr=>∃ (i:Nat) (c2:Cch),i≤m∧m-i≤gg∧s8=.int .i64 (i:Int)∧c.Next c2 d w wr∧w.heap.size≤wr.heap.size∧∀ j p,j<i→l[j]? = some p→loadL (c.view d) p.1 p.2≠some data)
 case atStart=>exact ⟨0,c,Nat.zero_le _,by omega,rfl,Cch.Next.refl HC.out.mem HC.out.inv (Below.refl _ _),Nat.le_refl _,fun j p hj=>by omega⟩
 case round=>
  obtain ⟨i,c2,hi,hgg,rfl,hN,hs,hno⟩:=hrel
  have HN:=Lh hN
  have HNo:=Lh hno
  clear hno hN
  by_cases hlt:i<m
  ·obtain ⟨p,hpi⟩:∃ p,l[i]? = some p:=⟨l[i]'(by omega),Zg (by omega)⟩
   obtain ⟨gR,rfl,hgR1,hgR2,hrg,-⟩:=(HR.out.chg HN.out.chg HRa.out).range hpi
   have hp12:=HP.out p (List.mem_of_getElem? hpi)
   have HXi:=Lh hpi
   have hv:c2.view d=c.view d:=funext HN.out.view
   have HCl:=Lh (cloSave c2 d sg b2 b3 A n cc data p wr (HC.out.next HN.out) Hl.out hn hp12.1 hp12.2)
   rw [hv] at HCl
   obtain ⟨b,len⟩:=p
   have r0:wr.cell? ⟨gR,i*2,none⟩=some (.int .i64 (b:Int)):=hrg 0 _ rfl
   have r1:wr.cell? ⟨gR,i*2+1,none⟩=some (.int .i64 (len:Int)):=hrg 1 _ rfl
   have j0:(i:Int)<m:=by omega
   have HG:=Lh hgg
   clear hrg hpi hgg
   go_wp2_with fail
   refine HCl.out.mono ?_
   rintro e w1 ⟨rfl,c3,hN3⟩
   have HN3:=Lh (HN.out.trans hN3 hs)
   have hs1:w.heap.size≤w1.heap.size:=Nat.le_trans hs hN3.chg.size
   clear hN3 HCl r0 r1 hv
   by_cases he:loadL (c.view d) b (len:Int)=some data
   ·have hd:decide (loadL (c.view d) b (len:Int)=some data)=true:=qT he
    have He:=Lh he
    rw [hd]
    clear hd he
    go_wp2
    rw [←HRe.out]
    exact ⟨⟨c3,HN3.out⟩,.inr ⟨i,(b,len),rfl,HXi.out,He.out⟩⟩
   ·have hd:decide (loadL (c.view d) b (len:Int)=some data)=false:=qF he
    have He:=Lh he
    rw [hd]
    clear hd he
    go_wp2
    go_roundg (m-(i+1))
    case measure=>have:=HG.out;omega
    case rel=>
     refine ⟨i+1,c3,by omega,by omega,by go_num,HN3.out,hs1,fun j p hj hp=>?_⟩
     by_cases hji:j<i
     ·exact HNo.out j p hji hp
     ·obtain rfl:j=i:=by omega
      rw [HXi.out] at hp
      cases hp
      exact He.out
  ·obtain rfl:i=m:=by omega
   go_wp2
   rw [←HRe.out]
   refine ⟨⟨c2,HN.out⟩,.inl ⟨rfl,fun p hp h=>?_⟩⟩
   obtain ⟨j,hj,rfl⟩:=List.getElem_of_mem hp
   exact HNo.out j _ (by omega) (Zg hj) h
structure Sys where
 c:Cch
 d:Dsk
 m:Amp
 s:Sto
def Sys.fp (x:Sys):Fp:=fun b=>x.c.fp x.d b∨x.m.fp b∨x.s.fp b
structure Sys.Mem (x:Sys) (w:World):Prop where
 cm:x.c.Mem x.d w
 ci:x.c.Inv x.d
 am:x.m.Mem w
 ai:x.m.Inv
 sm:x.s.Mem x.c.g x.m.a.g w
 ap1:∀ b,x.c.fp x.d b→¬x.s.fp b
 ap2:∀ b,x.c.fp x.d b→¬x.m.fp b
 ap3:∀ b,x.m.fp b→¬x.s.fp b
 lo:50≤x.m.a.least
 hi:x.m.a.least+x.m.a.len≤x.d.N
 kb:∀ dg,∀ p∈x.s.kl dg,p.1≤65535∧p.2≤65535
theorem Sys.Mem.in_ {x:Sys} {w:World} (h:x.Mem w):x.fp.In w:=by
 rintro b (hb|hb|hb)
 ·exact h.cm.in_ b hb
 ·exact h.am.in_ b hb
 ·exact h.sm.in_ b hb
theorem Sys.Mem.chg {x:Sys} {F:Fp} {w w':World} (h:x.Mem w) (hc:Chg F w w') (ha:∀ b,x.fp b→¬F b):x.Mem w':=
 { h with cm:=h.cm.chg hc (fun b hb=>ha b (.inl hb)),am:=h.am.chg hc (fun b hb=>ha b (.inr (.inl hb))),sm:=h.sm.chg hc (fun b hb=>ha b (.inr (.inr hb))) }
theorem Sys.Mem.later {x:Sys} {w w':World} (h:x.Mem w) (hb:Below w.heap.size w w'):x.Mem w':=
 { h with cm:=h.cm.later hb,am:=h.am.later hb,sm:=h.sm.later hb }
theorem Sys.Mem.cacheStep {x:Sys} {w w':World} (h:x.Mem w) {c':Cch} (hm:c'.Mem x.d w') (hi:c'.Inv x.d) (eg:c'.g=x.c.g) (hc:Chg (x.c.fp x.d) w w') (hf:∀ b,c'.fp x.d b→x.c.fp x.d b∨w.heap.size≤b):({ x with c:=c' }:Sys).Mem w':={
 cm:=hm
 ci:=hi
 am:=h.am.chg hc (fun b hb hf=>h.ap2 b hf hb)
 ai:=h.ai
 sm:=by
  show x.s.Mem c'.g x.m.a.g w'
  rw [eg]
  exact h.sm.chg hc (fun b hb hf=>h.ap1 b hf hb)
 ap1 b hb hs:=(hf b hb).elim (fun h1=>h.ap1 b h1 hs) (fun h1=>by have:=h.sm.in_ b hs;omega)
 ap2 b hb hs:=(hf b hb).elim (fun h1=>h.ap2 b h1 hs) (fun h1=>by have:=h.am.in_ b hs;omega)
 ap3:=h.ap3
 lo:=h.lo
 hi:=h.hi
 kb:=h.kb }
theorem Sys.Mem.cacheNext {x:Sys} {w w':World} (h:x.Mem w) {c':Cch} (hn:x.c.Next c' x.d w w'):({ x with c:=c' }:Sys).Mem w':=h.cacheStep hn.mem hn.inv hn.eg hn.chg hn.fp
theorem Sys.Mem.cacheUpd {x:Sys} {w w':World} (h:x.Mem w) {c':Cch} {vw:Nat→Option Bk} (hn:x.c.Upd c' x.d vw w w'):({ x with c:=c' }:Sys).Mem w':=h.cacheStep hn.mem hn.inv hn.eg hn.chg hn.fp
theorem Sys.Mem.stoStep {x:Sys} {w w':World} (h:x.Mem w) {s':Sto} (hm:s'.Mem x.c.g x.m.a.g w') (hc:Chg x.s.fp w w') (hf:∀ b,s'.fp b→x.s.fp b∨w.heap.size≤b) (kb:∀ dg,∀ p∈s'.kl dg,p.1≤65535∧p.2≤65535):({ x with s:=s' }:Sys).Mem w':={
 cm:=h.cm.chg hc (fun b hb hs=>h.ap1 b hb hs)
 ci:=h.ci
 am:=h.am.chg hc (fun b hb hs=>h.ap3 b hb hs)
 ai:=h.ai
 sm:=hm
 ap1 b hb hs:=(hf b hs).elim (fun h1=>h.ap1 b hb h1) (fun h1=>by have:=h.cm.in_ b hb;omega)
 ap2:=h.ap2
 ap3 b hb hs:=(hf b hs).elim (fun h1=>h.ap3 b hb h1) (fun h1=>by have:=h.am.in_ b hb;omega)
 lo:=h.lo
 hi:=h.hi
 kb:=kb }
theorem Sys.Mem.ampStep {x:Sys} {w w':World} (h:x.Mem w) {m':Amp} (hm:m'.Mem w') (hi:m'.Inv) (hc:Chg x.m.fp w w') (e1:m'.a.g=x.m.a.g) (e2:m'.a.gS=x.m.a.gS) (e3:m'.a.least=x.m.a.least) (e4:m'.a.len=x.m.a.len) (e5:∀ b,bk m'.q.p=some b→bk x.m.q.p=some b∨w.heap.size≤b):({ x with m:=m' }:Sys).Mem w':=by
 have hf:∀ b,m'.fp b→x.m.fp b∨w.heap.size≤b:=by
  rintro b (hb|hb|hb)
  ·exact .inl (.inl (hb.trans e1))
  ·exact .inl (.inr (.inl (hb.trans e2)))
  ·exact (e5 b hb).imp (fun h=>.inr (.inr h)) id
 exact {
  cm:=h.cm.chg hc (fun b hb hs=>h.ap2 b hb hs)
  ci:=h.ci
  am:=hm
  ai:=hi
  sm:=by
   show x.s.Mem x.c.g m'.a.g w'
   rw [e1]
   exact h.sm.chg hc (fun b hb hs=>h.ap3 b hs hb)
  ap1:=h.ap1
  ap2:=fun b hb hs=>(hf b hs).elim (fun h1=>h.ap2 b hb h1) (fun h1=>by have:=h.cm.in_ b hb;omega)
  ap3:=fun b hb hs=>(hf b hb).elim (fun h1=>h.ap3 b h1 hs) (fun h1=>by have:=h.sm.in_ b hs;omega)
  lo:=by show 50≤m'.a.least;rw [e3];exact h.lo
  hi:=by show m'.a.least+m'.a.len≤x.d.N;rw [e3,e4];exact h.hi
  kb:=h.kb }
structure Sys.Small (x:Sys) (B:Nat):Prop where
 nK:x.s.nK≤B
 nW:x.s.nW≤B
 nF:x.s.nF≤B
 nD:x.s.nD≤B
 kl:∀ dg,(x.s.kl dg).length≤B
 qs:x.m.Q.length≤B+70000
theorem Sys.Small.mono {x:Sys} {B B':Nat} (h:x.Small B) (hb:B≤B'):x.Small B':=
 ⟨by have:=h.nK;omega,by have:=h.nW;omega,by have:=h.nF;omega,by have:=h.nD;omega,fun dg=>by have:=h.kl dg;omega,by have:=h.qs;omega⟩
structure Sys.Same (x y:Sys):Prop where
 c:y.c.g=x.c.g
 d:y.d=x.d
 m:y.m.a.g=x.m.a.g
 s:y.s.g=x.s.g
 l:y.m.a.least=x.m.a.least
 n:y.m.a.len=x.m.a.len
theorem Sys.Same.refl (x:Sys):x.Same x:=⟨rfl,rfl,rfl,rfl,rfl,rfl⟩
theorem Sys.Same.trans {x y z:Sys} (h:x.Same y) (k:y.Same z):x.Same z:=⟨k.c.trans h.c,k.d.trans h.d,k.m.trans h.m,k.s.trans h.s,k.l.trans h.l,k.n.trans h.n⟩
structure Sys.Step (x y:Sys) (w w':World):Prop where
 mem:y.Mem w'
 same:x.Same y
 chg:Chg x.fp w w'
 fp:∀ b,y.fp b→x.fp b∨w.heap.size≤b
theorem Sys.Step.refl {x:Sys} {w w':World} (h:x.Mem w) (hb:Below w.heap.size w w'):x.Step x w w':=⟨h.later hb,Sys.Same.refl x,Chg.of_below hb,fun _ h=>.inl h⟩
theorem Sys.Step.trans {x y z:Sys} {w w1 w2:World} (h:x.Step y w w1) (k:y.Step z w1 w2):x.Step z w w2:={
 mem:=k.mem
 same:=h.same.trans k.same
 chg:=h.chg.trans k.chg (fun b hb hf=>(h.fp b hf).elim id (fun h1=>by omega))
 fp b hb:=(k.fp b hb).elim (h.fp b) (fun h1=>.inr (by have:=h.chg.size;omega)) }
theorem Sys.Step.before {x y:Sys} {w w1 w2:World} (h:x.Step y w1 w2) (hb:Below w.heap.size w w1):x.Step y w w2:={
 mem:=h.mem
 same:=h.same
 chg:=(Chg.of_below hb).trans h.chg (fun _ _ h=>h)
 fp b hf:=(h.fp b hf).imp id (fun h1=>Nat.le_trans hb.size h1) }
theorem Sys.Step.later {x y:Sys} {w w1 w2:World} (h:x.Step y w w1) (hb:Below w1.heap.size w1 w2):x.Step y w w2:={
 mem:=h.mem.later hb
 same:=h.same
 chg:=h.chg.trans (Chg.of_below (F:=Fp.none) hb) (fun _ _ h=>h.elim)
 fp:=h.fp }
theorem Sys.Mem.next {x:Sys} {w w':World} (h:x.Mem w) {c':Cch} (hn:x.c.Next c' x.d w w'):x.Step { x with c:=c' } w w':=
 ⟨h.cacheNext hn,⟨hn.eg,rfl,rfl,rfl,rfl,rfl⟩,hn.chg.mono (fun _ _ h=>.inl h),fun b hb=>by
   rcases hb with hb|hb|hb
   ·exact (hn.fp b hb).imp (fun h=>.inl h) id
   ·exact .inl (.inr (.inl hb))
   ·exact .inl (.inr (.inr hb))⟩
theorem Sys.Mem.upd {x:Sys} {w w':World} (h:x.Mem w) {c':Cch} {vw:Nat→Option Bk} (hn:x.c.Upd c' x.d vw w w'):x.Step { x with c:=c' } w w':=
 ⟨h.cacheUpd hn,⟨hn.eg,rfl,rfl,rfl,rfl,rfl⟩,hn.chg.mono (fun _ _ h=>.inl h),fun b hb=>by
   rcases hb with hb|hb|hb
   ·exact (hn.fp b hb).imp (fun h=>.inl h) id
   ·exact .inl (.inr (.inl hb))
   ·exact .inl (.inr (.inr hb))⟩
theorem Sys.Mem.sto {x:Sys} {w w':World} (h:x.Mem w) {s':Sto} (hm:s'.Mem x.c.g x.m.a.g w') (eg:s'.g=x.s.g) (hc:Chg x.s.fp w w') (hf:∀ b,s'.fp b→x.s.fp b∨w.heap.size≤b) (kb:∀ dg,∀ p∈s'.kl dg,p.1≤65535∧p.2≤65535):x.Step { x with s:=s' } w w':=
 ⟨h.stoStep hm hc hf kb,⟨rfl,rfl,rfl,eg,rfl,rfl⟩,hc.mono (fun _ _ h=>.inr (.inr h)),fun b hb=>by
   rcases hb with hb|hb|hb
   ·exact .inl (.inl hb)
   ·exact .inl (.inr (.inl hb))
   ·exact (hf b hb).imp (fun h=>.inr (.inr h)) id⟩
theorem Sys.Mem.amp {x:Sys} {w w':World} (h:x.Mem w) {m':Amp} (hm:m'.Mem w') (hi:m'.Inv) (hc:Chg x.m.fp w w') (e1:m'.a.g=x.m.a.g) (e2:m'.a.gS=x.m.a.gS) (e3:m'.a.least=x.m.a.least) (e4:m'.a.len=x.m.a.len) (e5:∀ b,bk m'.q.p=some b→bk x.m.q.p=some b∨w.heap.size≤b):x.Step { x with m:=m' } w w':=
 ⟨h.ampStep hm hi hc e1 e2 e3 e4 e5,⟨rfl,rfl,e1,rfl,e3,e4⟩,hc.mono (fun _ _ h=>.inr (.inl h)),fun b hb=>by
   rcases hb with hb|hb|hb
   ·exact .inl (.inl hb)
   ·rcases hb with hb|hb|hb
    ·exact .inl (.inr (.inl (.inl (hb.trans e1))))
    ·exact .inl (.inr (.inl (.inr (.inl (hb.trans e2)))))
    ·exact (e5 b hb).imp (fun h=>.inr (.inl (.inr (.inr h)))) id
   ·exact .inl (.inr (.inr hb))⟩
theorem sumOf_len4 (d:List UInt8):(sumOf d).length=4:=rfl
theorem unpack_same {d B:List UInt8} (h:BestB d B) (hd:d.length≤65536) {most:Int} (h1:(d.length:Int)≤most) (h2:most≤65536):unpackL (B++sumOf d) most=(0,d):=by
 obtain ⟨mode,hm,hk⟩:=pack_back h hd (sumOf d)
 rw [hk most (by omega) h2,if_neg (by omega),endL,if_neg,if_pos rfl]
 rintro (h|h|⟨h,h'⟩)
 ·exact h (sumOf_len4 d)
 ·exact h rfl
 ·exact h' (hm h)
theorem numB_short {n:Nat} (h:n≤65536):(numB 5 n).length≤3:=by
 rw [numB]
 split
 ·rw [numB]
  split
  ·rw [numB,if_neg (by omega)]
   simp
  ·simp
 ·simp
theorem best_len {d B:List UInt8} (h:BestB d B) (hd:d.length≤65536):B.length≤d.length+4:=by
 have h3:=numB_short hd
 cases h with
 | raw _=>simp only [Zl,List.length_cons];omega
 | run x h1 _=>simp only [Zl,List.length_cons,List.length_nil];omega
 | packed L b c h0 hL hb hc hlt hrun=>omega
theorem results_row_tmp2 {P:Program} {fn:Func} {p u v:Tmp} {ty:TypeId} (h:fn.results=#[.cell p ty,.tmp u,.tmp v]) (tmps:Array Value) (w:World) (g:Nat) (t:TypeId) (cs:Array Value) (fr:Nat × Nat) (d:TypeDesc)
 (hp:tmps.getD p undef=.pointer (some ⟨g,0,none⟩)) (hg:w.heap[g]? = some (.cells cs t fr))
 (hu:P.underlying ty=some d) (hd:(match d with|.struct _|.array _ _=>true|_=>false)=true) (hi:(P.info? ty).map (·.size)=some cs.size):
 (results fn tmps).run P w=.ok (.tuple #[.agg cs,tmps.getD u undef,tmps.getD v undef]) w:=by
 have hp':tmps[p]?.getD undef=.pointer (some ⟨g,0,none⟩):=by simpa using hp
 simp [results,h,hp',asAddr,run_loadVar_row w g t ty cs fr d hg hu hd hi,Result.andThen]
theorem wp_fr {P:Program} {c:Code} {Q0:Exit→Act→World→Prop} {a:Act} {w:World} (fr:Act) (W1:World) (h:Code.wp P c (fun e a W=>e=.normal∧a=fr∧W=W1) a w) (k:Q0 .normal fr W1):Code.wp P c Q0 a w:=by
 refine Code.wp_mono (Q:=fun e a W=>e=.normal∧a=fr∧W=W1) ?_ h
 rintro e a W ⟨rfl,rfl,rfl⟩
 exact k
structure Vars (x:Sys) (b2 b3 b4:Nat) (A:OA) (n cc:Nat) (l:List UInt8) (W:World):Prop where
 p2:Blk W b2 31 #[.pointer (some ⟨x.s.g,0,none⟩)]
 p3:Blk W b3 37 #[.slice A n cc]
 p4:Blk W b4 24 #[.int .i64 0,.int .i64 0]
 rd:Bs W A l
 ap:¬x.fp b2∧¬x.fp b3∧¬x.fp b4
 aA:∀ q,bk A=some q→q<W.heap.size∧¬x.fp q∧q≠b4
 ne:b2≠b4∧b3≠b4∧b2≠b3
theorem Sys.Step.out {x y:Sys} {F:Fp} {w w1 w2:World} (h:x.Step y w w1) (hc:Chg F w1 w2) (hF:∀ b,F b→¬y.fp b∧w.heap.size≤b):x.Step y w w2:=
 ⟨h.mem.chg hc (fun b hb hf=>(hF b hf).1 hb),h.same,h.chg.trans hc (fun b hb hf=>by have:=(hF b hf).2;omega),h.fp⟩
theorem Sys.Step.nf {x y:Sys} {w w':World} (h:x.Step y w w') {b:Nat} (hb:b<w.heap.size) (hn:¬x.fp b):¬y.fp b:=fun hf=>(h.fp b hf).elim hn (fun h=>by omega)
theorem Vars.step {x y:Sys} {b2 b3 b4:Nat} {A:OA} {n cc:Nat} {l:List UInt8} {W W':World} (h:Vars x b2 b3 b4 A n cc l W) (k:x.Step y W W'):Vars y b2 b3 b4 A n cc l W':={
 p2:=by rw [k.same.s];exact Blk.chg h.p2 k.chg h.ap.1
 p3:=Blk.chg h.p3 k.chg h.ap.2.1
 p4:=Blk.chg h.p4 k.chg h.ap.2.2
 rd:=Rd.same h.rd (fun q hq=>k.chg.block q (h.aA q hq).1 (h.aA q hq).2.1)
 ap:=⟨k.nf h.p2.lt h.ap.1,k.nf h.p3.lt h.ap.2.1,k.nf h.p4.lt h.ap.2.2⟩
 aA q hq:=⟨lT (h.aA q hq).1 k.chg.size,k.nf (h.aA q hq).1 (h.aA q hq).2.1,(h.aA q hq).2.2⟩
 ne:=h.ne }
theorem Vars.later {x:Sys} {b2 b3 b4:Nat} {A:OA} {n cc:Nat} {l:List UInt8} {W W':World} (h:Vars x b2 b3 b4 A n cc l W) (hm:x.Mem W) (hb:Below W.heap.size W W'):Vars x b2 b3 b4 A n cc l W':=h.step (Sys.Step.refl hm hb)
theorem Vars.cells {x:Sys} {b2 b3 b4:Nat} {A:OA} {n cc:Nat} {l:List UInt8} {W:World} (h:Vars x b2 b3 b4 A n cc l W):W.cell? ⟨b2,0,none⟩=some (.pointer (some ⟨x.s.g,0,none⟩))∧W.cell? ⟨b3,0,none⟩=some (.slice A n cc):=by
 have c2:=h.p2.cell 0
 have c3:=h.p3.cell 0
 simp only [Zt,Zz] at c2 c3
 exact ⟨c2,c3⟩
theorem Vars.clo {x:Sys} {b2 b3 b4:Nat} {A:OA} {n cc:Nat} {l:List UInt8} {W:World} (h:Vars x b2 b3 b4 A n cc l W) (hm:x.Mem W):CloS x.c x.d x.s.g b2 b3 A n cc l W:={
 mem:=hm.cm
 inv:=hm.ci
 cs:=hm.sm.cells.1
 c2:=h.cells.1
 c3:=h.cells.2
 rd:=h.rd
 ap:=⟨fun hf=>hm.ap1 _ hf (.inl (.inl rfl)),fun hf=>h.ap.1 (.inl hf),fun hf=>h.ap.2.1 (.inl hf),fun q hq=>⟨(h.aA q hq).1,fun hf=>(h.aA q hq).2.1 (.inl hf)⟩⟩ }
structure VarD (x:Sys) (b2 b3 b4 bd:Nat) (A:OA) (n cc:Nat) (l:List UInt8) (DV:List Value) (W:World):Prop where
 v:Vars x b2 b3 b4 A n cc l W
 pd:Blk W bd 93 DV.toArray
 ap:¬x.fp bd
 ne:bd≠b2∧bd≠b3∧bd≠b4
theorem VarD.step {x y:Sys} {b2 b3 b4 bd:Nat} {A:OA} {n cc:Nat} {l:List UInt8} {DV:List Value} {W W':World} (h:VarD x b2 b3 b4 bd A n cc l DV W) (k:x.Step y W W'):VarD y b2 b3 b4 bd A n cc l DV W':=
 ⟨h.v.step k,Blk.chg h.pd k.chg h.ap,k.nf h.pd.lt h.ap,h.ne⟩
theorem VarD.later {x:Sys} {b2 b3 b4 bd:Nat} {A:OA} {n cc:Nat} {l:List UInt8} {DV:List Value} {W W':World} (h:VarD x b2 b3 b4 bd A n cc l DV W) (hm:x.Mem W) (hb:Below W.heap.size W W'):VarD x b2 b3 b4 bd A n cc l DV W':=h.step (Sys.Step.refl hm hb)
theorem VarD.range {x:Sys} {b2 b3 b4 bd:Nat} {A:OA} {n cc:Nat} {l:List UInt8} {DV:List Value} {W:World} (h:VarD x b2 b3 b4 bd A n cc l DV W):W.rangeAt bd 0 DV:=fun j v hv=>by
 rw [h.pd.cell,Nat.zero_add]
 simpa using hv
theorem Sto.Mem.setFr {s:Sto} {gc gm:Nat} {w w':World} (h:s.Mem gc gm w) {nF:Nat} {fr:Nat→Option Unit} (hm:SetT.At w' s.gF nF fr) (hg:w.grownBy w' (some s.gF)):
 ({ s with nF:=nF,fr:=fr }:Sto).Mem gc gm w'∧Chg s.fp w w'∧∀ b,({ s with nF:=nF,fr:=fr }:Sto).fp b→s.fp b:=by
 have hc:Chg (fun b=>b=s.gF) w w':=Chg.of_grown hg (fun b hb _=>by cases hb;rfl)
 obtain ⟨a1,a2,a3,a4,a5,a6,a7,a8,a9,a10⟩:=h.a3
 have h1:=h.upd (s':={ s with nF:=nF,fr:=fr }) hc a3 rfl rfl rfl rfl rfl (h.mK.chg hc a6) (h.mW.chg hc a8) hm (h.mD.chg hc (Ne.symm a10)) [] (fun d x hd hx=>.inl ⟨hx,rfl,fun q hq e=>h.a1 q ⟨d,x,hd,hx,hq⟩ (.inr (.inr (.inr (.inl e))))⟩) h.non h.wl
 exact ⟨h1.1,hc.mono (fun _ _ e=>.inl (.inr (.inr (.inr (.inl e))))),fun _ h=>h⟩
theorem Sto.Mem.setFd {s:Sto} {gc gm:Nat} {w w':World} (h:s.Mem gc gm w) {nD:Nat} {fd:Nat→Option Ck} (hm:FdT.At w' s.gD nD fd) (hg:w.grownBy w' (some s.gD)):
 ({ s with nD:=nD,fd:=fd }:Sto).Mem gc gm w'∧Chg s.fp w w'∧∀ b,({ s with nD:=nD,fd:=fd }:Sto).fp b→s.fp b:=by
 have hc:Chg (fun b=>b=s.gD) w w':=Chg.of_grown hg (fun b hb _=>by cases hb;rfl)
 obtain ⟨a1,a2,a3,a4,a5,a6,a7,a8,a9,a10⟩:=h.a3
 have h1:=h.upd (s':={ s with nD:=nD,fd:=fd }) hc a4 rfl rfl rfl rfl rfl (h.mK.chg hc a7) (h.mW.chg hc a9) (h.mF.chg hc a10) hm [] (fun d x hd hx=>.inl ⟨hx,rfl,fun q hq e=>h.a1 q ⟨d,x,hd,hx,hq⟩ (.inr (.inr (.inr (.inr e))))⟩) h.non h.wl
 exact ⟨h1.1,hc.mono (fun _ _ e=>.inl (.inr (.inr (.inr (.inr e))))),fun _ h=>h⟩
theorem VarD.out {x:Sys} {F:Fp} {z b2 b3 b4 bd:Nat} {A:OA} {n cc:Nat} {l:List UInt8} {DV:List Value} {W W':World} (h:VarD x b2 b3 b4 bd A n cc l DV W) (hc:Chg F W W') (hF:∀ q,F q→z≤q) (hz:b2<z∧b3<z∧b4<z∧bd<z∧∀ q,bk A=some q→q<z):VarD x b2 b3 b4 bd A n cc l DV W':=by
 have hn:∀ q,q<z→¬F q:=fun q hq hf=>by have:=hF q hf;omega
 exact ⟨⟨Blk.chg h.v.p2 hc (hn _ hz.1),Blk.chg h.v.p3 hc (hn _ hz.2.1),Blk.chg h.v.p4 hc (hn _ hz.2.2.1),Rd.same h.v.rd (fun q hq=>hc.block q (h.v.aA q hq).1 (hn q (hz.2.2.2.2 q hq))),h.v.ap,
  fun q hq=>⟨lT (h.v.aA q hq).1 hc.size,(h.v.aA q hq).2⟩,h.v.ne⟩,Blk.chg h.pd hc (hn _ hz.2.2.2.1),h.ap,h.ne⟩
structure TakeR (x:Sys) (c':Cch) (y:Sys) (bs:List Nat):Prop where
 yc:y.c=c'
 yd:y.d=x.d
 nd:bs.Nodup
 h0:∀ b∈bs,x.m.st b=some 0
 h1:∀ b,y.m.st b=if b∈bs then some 1 else x.m.st b
 fr:y.m.a.free+bs.length=x.m.a.free
 qs:y.m.Q.length≤x.m.Q.length
 s:∃ nF,nF≤x.s.nF+bs.length∧y.s={ x.s with nF:=nF,fr:=fun b=>if b∈bs then some () else x.s.fr b }
theorem TakeR.start (x:Sys) (c':Cch):TakeR x c' { x with c:=c' } []:=
 ⟨rfl,rfl,List.nodup_nil,fun b hb=>by simp at hb,fun b=>by simp,rfl,Nat.le_refl _,x.s.nF,Nat.le_add_right _ _,by simp⟩
theorem TakeR.take {x y:Sys} {c':Cch} {bs:List Nat} {w:World} (h:TakeR x c' y bs) (hm:y.m.Mem w) {i:Nat} (hi:i<y.m.a.len) (hS:y.m.S[i]? = some 0) (hf:1≤y.m.a.free) (q:Sl) (Q:List Nat) (hQ:Q.length≤y.m.Q.length) (nF:Nat) (hn:nF≤y.s.nF+1):
 TakeR x c' { y with m:=y.m.take i q Q,s:={ y.s with nF:=nF,fr:=fun b=>if b=y.m.a.least+i then some () else y.s.fr b } } (bs++[y.m.a.least+i]):=by
 have hst:y.m.st (y.m.a.least+i)=some 0:=by
  unfold Amp.st
  rw [if_pos (Nat.le_add_right _ _),Nat.add_sub_cancel_left]
  exact hS
 have hno:y.m.a.least+i ∉ bs:=fun hb=>by
  have:=h.h1 (y.m.a.least+i)
  rw [hst,if_pos hb] at this
  cases this
 have hx0:x.m.st (y.m.a.least+i)=some 0:=by
  have:=h.h1 (y.m.a.least+i)
  rw [hst,if_neg hno] at this
  exact this.symm
 obtain ⟨nF0,hnF,hs⟩:=h.s
 refine ⟨h.yc,h.yd,?_,fun b hb=>?_,fun b=>?_,?_,Nat.le_trans hQ h.qs,nF,?_,?_⟩
 ·refine List.nodup_append.2 ⟨h.nd,by simp,fun a ha b hb e=>?_⟩
  rw [List.mem_singleton] at hb
  exact hno (by rw [←hb,←e];exact ha)
 ·rcases List.mem_append.1 hb with hb|hb
  ·exact h.h0 b hb
  ·rw [List.mem_singleton] at hb
   rw [hb]
   exact hx0
 ·show (y.m.take i q Q).st b=_
  rw [Amp.take_st hm hi,h.h1]
  by_cases e:b=y.m.a.least+i
  ·rw [if_pos e,if_pos (by simp [e])]
  ·rw [if_neg e]
   by_cases e2:b∈bs
   ·rw [if_pos e2,if_pos (by simp [e2])]
   ·rw [if_neg e2,if_neg (by simp [e2,e])]
 ·show y.m.a.free-1+_=_
  have:=h.fr
  rw [Zl,List.length_singleton]
  omega
 ·rw [hs] at hn
  simp only at hn
  rw [Zl,List.length_singleton]
  omega
 ·rw [hs]
  simp only [Sto.mk.injEq,true_and]
  refine ⟨?_,trivial⟩
  funext b
  by_cases e:b=y.m.a.least+i
  ·simp [e]
  ·by_cases e2:b∈bs
   ·simp [e,e2]
   ·simp [e,e2]
inductive SaveR (x:Sys) (l:List UInt8) (y:Sys):Value→Prop
 | bad (h:¬(1≤l.length∧l.length≤512)) (e:y=x):SaveR x l y (.tuple #[.agg #[.int .i64 0,.int .i64 0],.bool false,.int .i64 1])
 | found (h:1≤l.length∧l.length≤512) (p:Ck) (hp:p∈x.s.kl (shaL l)) (hl:loadL (x.c.view x.d) p.1 p.2=some l) (hv:∀ n,y.c.view y.d n=x.c.view x.d n) (hm:y.m=x.m)
    (nD:Nat) (hn:nD≤x.s.nD+1) (hs:y.s={ x.s with nD:=nD,fd:=fun n=>if n=p.1 then some p else x.s.fd n }):SaveR x l y (.tuple #[ckv p,.bool true,.int .i64 0])
 | space (h:1≤l.length∧l.length≤512) (hno:∀ p∈x.s.kl (shaL l),loadL (x.c.view x.d) p.1 p.2≠some l) (B:List UInt8) (hB:BestB l B) (hf:x.m.a.free<moreN (B++sumOf l).length+1) (hv:∀ n,y.c.view y.d n=x.c.view x.d n) (hm:y.m=x.m) (hs:y.s=x.s):
    SaveR x l y (.tuple #[.agg #[.int .i64 0,.int .i64 0],.bool false,.int .i64 10])
 | fresh (h:1≤l.length∧l.length≤512) (hno:∀ p∈x.s.kl (shaL l),loadL (x.c.view x.d) p.1 p.2≠some l) (B:List UInt8) (hB:BestB l B) (b0:Nat) (r:List Nat) (hk:r.length=moreN (B++sumOf l).length) (hd:(b0::r).Nodup)
    (h0:∀ b∈b0::r,x.m.st b=some 0) (h1:∀ b,y.m.st b=if b∈b0::r then some 1 else x.m.st b) (hf:y.m.a.free+(b0::r).length=x.m.a.free) (hq:y.m.Q.length≤x.m.Q.length)
    (hv:∀ n,y.c.view y.d n=writeV (x.c.view x.d) b0 r l.length (B++sumOf l) n) (fr:∀ b,y.s.fr b=if b∈b0::r then some () else x.s.fr b) (fd:y.s.fd=x.s.fd)
    (sz:y.s.nF≤x.s.nF+3∧y.s.nD=x.s.nD∧y.s.nK≤x.s.nK+1∧y.s.nW≤x.s.nW+1)
    (kn:((x.s.wh b0).isSome=true∧y.s.kl=x.s.kl∧y.s.wh=x.s.wh)∨(x.s.wh b0=none∧(∀ d,y.s.kl d=if d=shaL l then x.s.kl (shaL l)++[(b0,l.length)] else x.s.kl d)∧∀ b,y.s.wh b=if b=b0 then some (shaL l) else x.s.wh b)):
    SaveR x l y (.tuple #[ckv (b0,l.length),.bool false,.int .i64 0])
def savePost (x:Sys) (l:List UInt8) (w:World) (e:Ending) (w':World):Prop:=∃ (y:Sys) (v:Value),e=.returned v∧SaveR x l y v∧x.Step y w w'
theorem chunksSave (x:Sys) (A:OA) (n cc:Nat) (l:List UInt8) (w:World) (h:x.Mem w) (hsm:x.Small 400000000) (hl:l.length=n) (hr:Bs w A l) (hA:∀ q,bk A=some q→q<w.heap.size∧¬x.fp q) (hn:n≤65536) (hc:n≤cc) (hc2:cc≤9223372036854775807):
 Calls Tryz.prog 14 #[.pointer (some ⟨x.s.g,0,none⟩),.slice A n cc] w (savePost x l w):=by
 obtain ⟨R,hR⟩:∃ R,savePost x l w=R:=⟨_,rfl⟩
 rw [hR]
 have HRe:=Lh hR
 have HM:=Lh h
 have HL:=Lh hl
 have HSm:=Lh hsm
 obtain ⟨wA,hwA⟩:∃ y,w.alloc (.cells #[.pointer (some ⟨x.s.g,0,none⟩)] 31)=y:=⟨_,rfl⟩
 have hsA:wA.heap.size=w.heap.size+1:=by rw [←hwA];simp
 have hBA:Below w.heap.size w wA:=by rw [←hwA];exact (Below.refl _ _).alloc nL _
 have hPA:Blk wA w.heap.size 31 #[.pointer (some ⟨x.s.g,0,none⟩)]:=by rw [←hwA];exact Blk.new w _ _
 obtain ⟨wB,hwB⟩:∃ y,wA.alloc (.cells #[.slice A n cc] 37)=y:=⟨_,rfl⟩
 have hsB:wB.heap.size=w.heap.size+1+1:=by rw [←hwB,←hsA];simp
 have hBB:Below wA.heap.size wA wB:=by rw [←hwB];exact (Below.refl _ _).alloc nL _
 have hPB:Blk wB (w.heap.size+1) 37 #[.slice A n cc]:=by rw [←hwB,←hsA];exact Blk.new wA _ _
 obtain ⟨wC,hwC⟩:∃ y,wB.alloc (.cells #[.int .i64 0,.int .i64 0] 24)=y:=⟨_,rfl⟩
 have hsC:wC.heap.size=w.heap.size+1+1+1:=by rw [←hwC,←hsB];simp
 have hBC:Below wB.heap.size wB wC:=by rw [←hwC];exact (Below.refl _ _).alloc nL _
 have hPC:Blk wC (w.heap.size+1+1) 24 #[.int .i64 0,.int .i64 0]:=by rw [←hwC,←hsB];exact Blk.new wB _ _
 have hB:Below w.heap.size w wC:=hBA.trans ((hBB.trans (hBC.mono (by omega))).mono (by omega))
 have HB:=Lh hB
 have HV0:=Lh (⟨(hPA.later hBB).later hBC,hPB.later hBC,hPC,hr.later hB,⟨fun hf=>by have:=h.in_ _ hf;omega,fun hf=>by have:=h.in_ _ hf;omega,fun hf=>by have:=h.in_ _ hf;omega⟩,
  fun q hq=>⟨by have:=(hA q hq).1;omega,(hA q hq).2,by have:=(hA q hq).1;omega⟩,by omega,by omega,by omega⟩:Vars x w.heap.size (w.heap.size+1) (w.heap.size+1+1) A n cc l wC)
 have HMC:=Lh (h.later hB)
 obtain ⟨b2,hb2⟩:∃ q,w.heap.size=q:=⟨_,rfl⟩
 have Hb2:=Lh hb2
 rw [hb2] at HV0
 have k3:=HV0.out.cells.2
 have HMay:=Lh (chunksMay (n:Int) wC)
 clear h hsm hl hr hA hR hBA hBB hBC hPA hPB hPC hB
 go_enter Tryz.func14,Tryz.ntmps14
 go_wp2_with fail
 clear hwA hwB hwC hsA hsB hsC hb2
 obtain ⟨b3,hb3⟩:∃ q,b2+1=q:=⟨_,rfl⟩
 rw [hb3] at HV0 k3 ⊢
 obtain ⟨b4,hb4⟩:∃ q,b3+1=q:=⟨_,rfl⟩
 rw [hb4] at HV0 ⊢
 have Hb3:=Lh hb3
 have Hb4:=Lh hb4
 clear hb3 hb4
 refine HMay.out.mono ?_
 rintro e w1 ⟨rfl,rfl⟩
 clear HMay
 by_cases hmay:1≤(n:Int)∧(n:Int)≤512
 ·have hde:decide (1≤(n:Int)∧(n:Int)≤512)=true:=qT hmay
  rw [hde]
  have Hmay:=Lh (show 1≤l.length∧l.length≤512 by rw [HL.out];omega)
  have hn1:1≤n:=by omega
  have hn2:n≤512:=by omega
  clear hde hmay
  have HSha:=Lh (sha A n cc l w1 HL.out HV0.out.rd (by omega))
  go_wp2_with fail
  refine HSha.out.mono ?_
  rintro e w2 ⟨rfl,hb2⟩
  have HV2:=Lh (HV0.out.later HMC.out hb2)
  have HM2:=Lh (HMC.out.later hb2)
  have HB2:=Lh (HB.out.trans (hb2.mono HB.out.size))
  obtain ⟨DV,hDV⟩:∃ D,(shaL l).map u8v=D:=⟨_,rfl⟩
  have hDl:DV.length=32:=by rw [←hDV,List.length_map,shaL_len]
  have HDV:=Lh hDV
  have hDs:DV.toArray.size=32:=by rw [List.size_toArray,hDl]
  have H1:=Lh (by rw [←hDV];simpa using u8_one (shaL l):DV.toArray.all (·.oneCell')=true)
  rw [hDV]
  clear hb2 hDV HSha k3
  have HI:=Lh (by rw [List.size_toArray,hDl];kernel_rfl:(Tryz.prog.info? 93).map (·.size)=some DV.toArray.size)
  go_wp2_with (refine wpList_store_row rfl _ _ _ rfl w2.heap.size DV.toArray rfl rfl 93 _ (heap_alloc_new w2 _) HI.out (by rw [hDs];kernel_rfl) H1.out ?_;rw [World.setRow_alloc_new])
  obtain ⟨wD,hwD⟩:∃ y,w2.alloc (.cells DV.toArray 93)=y:=⟨_,rfl⟩
  have hbD:Below w2.heap.size w2 wD:=by rw [←hwD];exact (Below.refl _ _).alloc nL _
  have hpD:Blk wD w2.heap.size 93 DV.toArray:=by rw [←hwD];exact Blk.new w2 _ _
  rw [hwD]
  have HMD:=Lh (HM2.out.later hbD)
  have HVD:=Lh (⟨HV2.out.later HM2.out hbD,hpD,fun hf=>by have:=HM2.out.in_ _ hf;omega,fun e=>by have:=HV2.out.p2.lt;omega,fun e=>by have:=HV2.out.p3.lt;omega,fun e=>by have:=HV2.out.p4.lt;omega⟩:VarD x b2 b3 b4 w2.heap.size A n cc l DV wD)
  have hs2:=HB2.out.size
  have hb4l:=HV2.out.p4.lt
  have HBD:=Lh (HB2.out.trans (hbD.mono hs2))
  clear hwD hbD hpD HI H1 HV2 HM2
  obtain ⟨bd,hbd⟩:∃ q,w2.heap.size=q:=⟨_,rfl⟩
  rw [hbd] at HVD hs2 hb4l ⊢
  have hbdw:b2+3≤bd:=by have:=Hb3.out;have:=Hb4.out;omega
  clear hbd
  obtain ⟨dg,hdg⟩:∃ q,shaL l=q:=⟨_,rfl⟩
  have hdgl:dg.length=32:=by rw [←hdg,shaL_len]
  have hdv:digv dg=.agg DV.toArray:=by unfold digv;rw [←hdg,HDV.out]
  have HDv:=Lh hdv
  have Hdg:=Lh hdg
  clear hdg hdv
  obtain ⟨p,m,c,hget,hown,hpb⟩:∃ p m c,KnT.get x.s.kn dg=⟨p,m,c⟩∧(∀ W,x.s.Mem x.c.g x.m.a.g W→ChT.Own W 0 p m c (x.s.kl dg))∧(∀ q,bk p=some q→x.s.fp q):=by
   cases hvn:x.s.kn dg with
   | none=>
     refine ⟨none,0,0,by unfold MapT.get;rw [hvn];rfl,fun W hW=>?_,fun q hq=>(by cases hq)⟩
     rw [hW.non dg hdgl hvn]
     exact RowT.Own.nil _ _ _
   | some z=>exact ⟨z.p,z.n,z.c,by unfold MapT.get;rw [hvn];rfl,fun W hW=>hW.own dg z hdgl hvn,fun q hq=>.inr ⟨dg,z,hdgl,hvn,hq⟩⟩
  have hml:=(hown wD HMD.out.sm).length
  have hm9:m≤400000000:=by rw [←hml];exact HSm.out.kl dg
  have Hown:=Lh hown
  have Hpb:=Lh hpb
  have HLk:=Lh (fun (W:World) (hW:x.s.Mem x.c.g x.m.a.g W)=>(by
   have h:=MapT.At.look (w:=W) hW.mK (p:=dg) hdgl
   rw [hget] at h
   rw [←HDv.out]
   exact h:(Instr.lookup 97 (.map (some x.s.gK)) (.agg DV.toArray) false).run Tryz.prog W=.ok (.slice p m c) W))
  clear hget hown hpb
  have HMDd:=Lh (show x.Mem wD.drew from HMD.out.later (Below.refl _ _).drew)
  have HVDd:=Lh (show VarD x b2 b3 b4 bd A n cc l DV wD.drew from HVD.out.later HMD.out (Below.refl _ _).drew)
  have L0:=HLk.out wD.drew HMDd.out.sm
  have HIdx:=Lh ((idxSave x.c x.d x.s.g b2 b3 A n cc l p m c (x.s.kl dg) wD.drew (HVDd.out.v.clo HMDd.out) HL.out (by omega) (Hown.out _ HMDd.out.sm) (fun q hq hf=>HMD.out.ap1 q hf (Hpb.out q hq)) (by omega) (HMD.out.kb dg)).mono (fun e w3 hp=>by
   obtain ⟨⟨c',hn⟩,h2⟩:=hp
   exact (⟨c',hn,by
    rcases h2 with ⟨h,h2⟩|⟨i,q,h,h2⟩
    ·exact ⟨-1,h,.inl ⟨rfl,h2⟩⟩
    ·exact ⟨i,h,.inr ⟨i,q,rfl,h2⟩⟩⟩:∃ c',x.c.Next c' x.d wD.drew w3∧∃ r:Int,e=.returned (.int .i64 r)∧((r=-1∧∀ q∈x.s.kl dg,loadL (x.c.view x.d) q.1 q.2≠some l)∨∃ (i:Nat) (q:Ck),r=(i:Int)∧(x.s.kl dg)[i]? = some q∧loadL (x.c.view x.d) q.1 q.2=some l))))
  have KS:=Lh (fun (y:Sys) (W:World) (hy:y.s=x.s) (hm:y.Mem W) (hv:VarD y b2 b3 b4 bd A n cc l DV W)=>(by
   have h1:=hv.v.cells.1
   have h2:=hm.sm.cells.2.2.1
   rw [hy] at h1 h2
   exact ⟨h1,h2,hv.range⟩:W.cell? ⟨b2,0,none⟩=some (.pointer (some ⟨x.s.g,0,none⟩))∧W.cell? ⟨x.s.g,2,none⟩=some (.map (some x.s.gK))∧W.rangeAt bd 0 DV))
  have S0:=Lh (KS.out x wD rfl HMD.out HVD.out)
  have hu93:=Tryz.underlying93
  have hi93:(Tryz.prog.info? 93).map (·.size)=some DV.length:=by rw [hDl];kernel_rfl
  go_region_held3 (fun W=>W.cell? ⟨b2,0,none⟩=some (.pointer (some ⟨x.s.g,0,none⟩))∧W.cell? ⟨x.s.g,2,none⟩=some (.map (some x.s.gK))∧W.rangeAt bd 0 DV)
   (first|(exact S0.out)|(exact S3.out)|go_keep)
   (first|(go_at_call 40;refine HIdx.out.mono ?_;rintro e w3 ⟨c',hn3,ri,rfl,hri⟩;have HSt:=Lh ((HMDd.out.next hn3).before (Below.refl wD.heap.size wD).drew);have HV3:=Lh (HVD.out.step HSt.out);have S3:=Lh (KS.out { x with c:=c' } w3 rfl HSt.out.mem HV3.out)))
  have HN3:=Lh (fun y=>hn3.view y:∀ y,c'.view x.d y=x.c.view x.d y)
  have HS3:=Lh (HSt.out.before HBD.out)
  have HM3:=Lh HSt.out.mem
  clear hn3 HSt HIdx L0 HMDd HVDd S0
  rcases hri with ⟨rfl,hno⟩|⟨i,q,rfl,hqi,hql⟩
  ·have Hno:=Lh hno
   have i1:¬(0:Int)≤-1:=by omega
   clear hno
   have k3:=HV3.out.v.cells.2
   have HPk:=Lh (packPack A n cc l w3 HL.out HV3.out.v.rd hn hc hc2 (fun q hq=>(HV3.out.v.aA q hq).1))
   go_wp2_with fail
   refine HPk.out.mono ?_
   rintro e w4 ⟨SP,pm,pc,B,rfl,hO4,hB4,hb4⟩
   obtain ⟨PK,hPK⟩:∃ q,B++sumOf l=q:=⟨_,rfl⟩
   rw [hPK] at hO4
   have hpl:PK.length=pm:=OwnB.length hO4
   have hpm:pm≤520:=by
    have h1:=best_len hB4 (by have:=Hmay.out.2;omega)
    rw [←hpl,←hPK,Zl,sumOf_len4]
    have:=Hmay.out.2
    omega
   have HPK:=Lh (⟨hPK,hB4,hpl⟩:B++sumOf l=PK∧BestB l B∧PK.length=pm)
   have HS4:=Lh (HS3.out.later hb4)
   have HV4:=Lh (HV3.out.later HM3.out hb4)
   have HO4:=Lh hO4
   have hs34:=hb4.size
   have hs3w:=HS3.out.chg.size
   clear hPK hB4 hpl hO4 hb4 HPk k3
   obtain ⟨k,hk⟩:∃ q,moreN pm=q:=⟨_,rfl⟩
   have hk2:k≤2:=by rw [←hk];exact moreN_le (by omega)
   have HMo:=Lh (chunksMore pm w4 (by omega))
   rw [hk] at HMo
   have HK:=Lh hk
   clear hk
   have HFr:=Lh (allocFree x.m w4 HS4.out.mem.am HS4.out.mem.ai)
   have t2:=HV4.out.v.cells.1
   have t1:=HS4.out.mem.sm.cells.2.1
   have e1:IntKind.i64.wrap ((k:Int)+1)=(k:Int)+1:=wrapi64 (by omega) (by omega)
   go_wp2_with fail
   refine HMo.out.mono ?_
   rintro e w5 ⟨rfl,rfl⟩
   clear HMo
   go_wp2_with fail
   refine HFr.out.mono ?_
   rintro e w6 ⟨rfl,q6,hw6⟩
   have hb6:Below w5.heap.size w5 w6:=by rw [hw6];exact below_drewN w5 q6
   have HS6:=Lh (HS4.out.later hb6)
   have HV6:=Lh (HV4.out.later HS4.out.mem hb6)
   have HO6:=Lh (Own.later HO4.out hb6)
   have hs56:=hb6.size
   clear hw6 hb6 HFr t2 t1 HV4 HS4 HO4
   obtain ⟨FR,hFR⟩:∃ q,x.m.a.free=q:=⟨_,rfl⟩
   have HFR:=Lh hFR
   rw [show (({ x with c:=c' }:Sys).m.a.free)=FR from hFR]<;>skip
   clear hFR
   by_cases hfree:FR<k+1
   ·have i2:(FR:Int)<(k:Int)+1:=by omega
    have Hfree:=Lh hfree
    have c40:=HV6.out.v.p4.cell 0
    have c41:=HV6.out.v.p4.cell 1
    have f40:=HV6.out.v.p4.frozen 0
    have f41:=HV6.out.v.p4.frozen 1
    have hb2v:=Hb2.out
    have hb3v:=Hb3.out
    have hb4v:=Hb4.out
    clear hfree
    go_wp2
    have hbk:=Blk.set (Blk.set HV6.out.v.p4 0 (.int .i64 0)) 1 (.int .i64 0)
    refine bodyPost_ret (results_row_tmp2 rfl _ _ b4 24 _ (0,0) _ rfl hbk Tryz.underlying24 rfl (by kernel_rfl)) rfl ?_
    rw [←HRe.out]
    refine ⟨{ x with c:=c' },_,rfl,SaveR.space Hmay.out (by rw [Hdg.out];exact Hno.out) B HPK.out.2.1 ?_ HN3.out rfl rfl,HS6.out.out (F:=fun q=>q=b4) (Chg.set2 w6 b4 0 1 _ _) (fun q e=>?_)⟩
    ·rw [HPK.out.1,HPK.out.2.2,HK.out,HFR.out]
     exact Hfree.out
    ·subst e
     exact ⟨HV6.out.v.ap.2.2,by omega⟩
   ·have i2:¬(FR:Int)<(k:Int)+1:=by omega
    go_wp2_with fail
    obtain ⟨z,hz⟩:∃ q,w6.heap.size=q:=⟨_,rfl⟩
    have hzb:b2<z∧b3<z∧b4<z∧bd<z∧∀ q,bk A=some q→q<z:=by
     rw [←hz]
     exact ⟨HV6.out.v.p2.lt,HV6.out.v.p3.lt,HV6.out.v.p4.lt,HV6.out.pd.lt,fun q hq=>(HV6.out.v.aA q hq).1⟩
    have Hzb:=Lh hzb
    have HSP:=Lh (⟨OwnB.bs HO6.out,fun q hq=>by
     have h1:=Own.lt HO6.out hq
     exact ⟨by omega,fun hf=>by have:=HM3.out.in_ q hf;omega⟩⟩:Bs w6 SP PK∧∀ q,bk SP=some q→q<z∧¬({ x with c:=c' }:Sys).fp q)
    have hwz:w.heap.size≤z:=by omega
    have hz6:z≤w6.heap.size:=by omega
    have Hfree:=Lh (show k+1≤x.m.a.free by rw [HFR.out];omega)
    have HCap:=Lh (Own.cap HO6.out)
    have HSn:=Lh (Own.form HO6.out)
    clear hz hzb hfree i2
    go_loopg [14,77] (k+1) (fun gg s14 s77 wr=>∃ (j:Nat) (y:Sys) (bs:List Nat) (Ba:OA) (bc:Nat),j≤k+1∧k+1-j≤gg∧s77=.int .i64 (j:Int)∧s14=.slice Ba j bc∧bs.length=j∧TakeR x c' y bs∧x.Step y w wr∧VarD y b2 b3 b4 bd A n cc l DV wr∧OwnN wr z Ba j bc bs ∧
     (∀ q,bk Ba=some q→¬y.fp q)∧(Bs wr SP PK∧∀ q,bk SP=some q→q<z∧¬y.fp q)∧z≤wr.heap.size)
    case atStart=>exact ⟨0,{ x with c:=c' },[],none,0,by omega,by omega,rfl,rfl,rfl,TakeR.start x c',HS6.out,HV6.out,OwnN.nil _ _,fun q hq=>(by cases hq),HSP.out,hz6⟩
    case round=>
     obtain ⟨j,y,bs,Ba,bc,hj,hgg,rfl,rfl,hbl,hT,hSy,hVy,hOy,hBf,hSPy,hzr⟩:=hrel
     have HGg:=Lh hgg
     have Hbl:=Lh hbl
     have HT:=Lh hT
     have HSy:=Lh hSy
     have HVy:=Lh hVy
     have HOy:=Lh hOy
     have HBf:=Lh hBf
     have HSPy:=Lh hSPy
     clear hgg hbl hT hSy hVy hOy hBf hSPy
     by_cases hlt:j<k+1
     ·have j0:(j:Int)<(k:Int)+1:=by omega
      have hfr1:1≤y.m.a.free:=by have:=HT.out.fr;have:=Hbl.out;have:=Hfree.out;omega
      have HTk:=Lh (allocTake y.m wr HSy.out.mem.am HSy.out.mem.ai hfr1)
      have t2:=HVy.out.v.cells.1
      have t1:=HSy.out.mem.sm.cells.2.1
      go_wp2_with fail
      refine HTk.out.mono ?_
      rintro e w1' ⟨i,q,Q,rfl,hi,hS0,hmem,hinv,hcg,hbq,hQ⟩
      have HSt1:=Lh (HSy.out.mem.amp hmem hinv hcg rfl rfl rfl rfl (fun b hb=>.inl (by rw [←hbq];exact hb)))
      have HTi:=Lh (⟨hi,hS0,hQ⟩:i<y.m.a.len∧y.m.S[i]? = some 0∧Q.length≤y.m.Q.length)
      have HV1:=Lh (HVy.out.step HSt1.out)
      have hNl:y.m.a.least+i≤65535:=by have:=HSy.out.mem.am.lo;omega
      obtain ⟨N,hN⟩:∃ q,y.m.a.least+i=q:=⟨_,rfl⟩
      rw [hN] at hNl ⊢
      have HN:=Lh hN
      have hNf:N<4611686018427387904:=by omega
      have HF1:=Lh (show SetT.At w1' y.s.gF y.s.nF y.s.fr from HSt1.out.mem.sm.mF)
      have hnF:y.s.nF<1000000000:=by
       obtain ⟨nF0,h1,h2⟩:=HT.out.s
       have:=HSm.out.nF
       have:=Hbl.out
       rw [h2]
       show nF0<_
       omega
      have HO1:=Lh (Own.chg HOy.out HSt1.out.chg HBf.out)
      have t2:=HV1.out.v.cells.1
      have t4:w1'.cell? ⟨y.s.g,4,none⟩=some (.map (some y.s.gF)):=HSt1.out.mem.sm.cells.2.2.2.2.1
      have hs1:=HSt1.out.chg.size
      clear hi hS0 hmem hinv hcg hbq hQ hN HTk t1
      go_wp2_with (first|(refine wpList_MapT_set SetT rfl _ _ _ rfl y.s.gF y.s.nF y.s.fr rfl HF1.out hnF N hNf () rfl rfl inferInstance ?_;intro w2' hat2 hg2;obtain ⟨nF',hnF',hat2'⟩:∃ q,q≤y.s.nF+1∧SetT.At w2' y.s.gF q (fun b=>if b=N then some () else y.s.fr b):=⟨_,(by split<;>omega),hat2⟩;have hset:=HSt1.out.mem.sm.setFr hat2' hg2;have HSt2:=Lh (HSt1.out.mem.sto hset.1 rfl hset.2.1 (fun b hb=>.inl (hset.2.2 b hb)) HSt1.out.mem.kb);have HO2:=Lh (Own.chg HO1.out HSt2.out.chg (fun q hq=>HSt1.out.nf (Own.lt HOy.out hq).2 (HBf.out q hq)));have hs2':=HSt2.out.chg.size;clear hat2 hat2' hset)|(at_builtin;refine wpList_append_rd rfl _ _ elemN rfl z Ba j bc (bs.map natv) rfl (Own.alloc HO2.out _) (some ⟨w2'.heap.size,0,none⟩) 1 1 [natv N] rfl (Rd.one w2' _ 3) rfl (nat_one [N]) ?c2 ?c3 ?c4 ?_))
      case c2=>omega
      case c3=>omega
      case c4=>exact Nat.le_trans (Nat.le_trans hzr (Nat.le_trans hs1 hs2')) (by simp)
      intro A6 c6 w3' hown hb hgw hbk
      have HO6:=Lh (by unfold OwnN;rw [List.map_append];exact hown:OwnN w3' z A6 (j+1) c6 (bs++[N]))
      have hcF:Chg (fun q=>bk Ba=some q) w2' w3':=(Chg.of_below ((Below.refl _ _).alloc nL _)).trans (Chg.of_grown (F:=fun q=>bk Ba=some q) hgw (fun q e _=>e)) (fun _ _ h=>h)
      have HcF:=Lh hcF
      have HSt12:=Lh (HSt1.out.trans HSt2.out)
      have hBz:∀ q,bk Ba=some q→z≤q∧q<wr.heap.size:=fun q hq=>Own.lt HOy.out hq
      have HBz:=Lh hBz
      have Hbk:=Lh (show bk A6=bk Ba∨∃ q,bk A6=some q∧w2'.heap.size≤q from hbk.imp id (fun h=>⟨_,h,by simp⟩))
      have hs3':=hcF.size
      clear hown hb hgw hbk hcF hBz
      go_wp2
      go_roundg (k+1-(j+1))
      case measure=>have:=HGg.out;omega
      case rel=>
       have hT2:=HT.out.take HSy.out.mem.am HTi.out.1 HTi.out.2.1 hfr1 q Q HTi.out.2.2 nF' hnF'
       rw [HN.out] at hT2
       have hnf:∀ g,g<wr.heap.size→¬y.fp g→¬({ y with m:=y.m.take i q Q,s:={ y.s with nF:=nF',fr:=fun b=>if b=N then some () else y.s.fr b } }:Sys).fp g:=fun g h1 h2=>HSt12.out.nf h1 h2
       refine ⟨j+1,_,bs++[N],A6,c6,by omega,by omega,by go_num,rfl,by rw [Zl,Hbl.out];rfl,hT2,((HSy.out.trans HSt12.out).out HcF.out (fun g hg=>⟨hnf g (HBz.out g hg).2 (HBf.out g hg),by have:=(HBz.out g hg).1;omega⟩)),
        (HVy.out.step HSt12.out).out HcF.out (fun g hg=>(HBz.out g hg).1) Hzb.out,HO6.out,fun g hg=>?_,⟨?_,fun g hg=>⟨(HSPy.out.2 g hg).1,hnf g (by have:=(HSPy.out.2 g hg).1;omega) (HSPy.out.2 g hg).2⟩⟩,by omega⟩
       ·rcases Hbk.out with h|⟨g',h,h'⟩
        ·rw [h] at hg
         exact hnf g (HBz.out g hg).2 (HBf.out g hg)
        ·rw [h] at hg
         cases hg
         exact fun hf=>by have:=HSt2.out.mem.in_ _ hf;omega
       ·refine Rd.same (Rd.same HSPy.out.1 (fun g hg=>HSt12.out.chg.block g (by have:=(HSPy.out.2 g hg).1;omega) (HSPy.out.2 g hg).2)) (fun g hg=>HcF.out.block g ?_ (fun e=>by have:=(HBz.out g e).1;have:=(HSPy.out.2 g hg).1;omega))
        have:=(HSPy.out.2 g hg).1
        omega
     ·have hc0:¬(j:Int)<(k:Int)+1:=by omega
      have hjk:j=k+1:=by omega
      have Hjk:=Lh hjk
      obtain ⟨b0,r,rfl⟩:∃ b0 r,bs=b0::r:=by
       cases bs with
       | nil=>have:=Hbl.out;simp at this;omega
       | cons b0 r=>exact ⟨b0,r,rfl⟩
      have hrl:r.length=k:=by have:=Hbl.out;rw [List.length_cons] at this;omega
      clear hlt
      have t2:=HVy.out.v.cells.1
      have t3:=HVy.out.v.cells.2
      have hcapB:=Own.cap HOy.out
      have hlo:=HSy.out.mem.lo
      have hhi:=HSy.out.mem.hi
      have hall:∀ b∈b0::r,50≤b∧b<y.d.N∧b≤65535:=fun b hb=>by
       have h1:=HT.out.h0 b hb
       have h2:=HM.out.am.lo
       have h3:=HM.out.lo
       have h4:=HM.out.hi
       rw [HT.out.yd]
       unfold Amp.st at h1
       split at h1
       ·have h5:=(Ze h1).1
        rw [HM.out.am.slen] at h5
        omega
       ·cases h1
      have HAll:=Lh hall
      have HWr:=Lh (chunksWrite y.s.g y.c y.d Ba j bc b0 r n SP pm pc PK wr HSy.out.mem.cm HSy.out.mem.ci HSy.out.mem.sm.cells.1 (fun hf=>HSy.out.mem.ap1 _ hf (.inl (.inl rfl))) (by rw [hrl,hjk]) (by omega) (OwnN.ns HOy.out) (fun q hq=>⟨(Own.lt HOy.out hq).2,fun hf=>HBf.out q hq (.inl hf)⟩) hcapB.1 hcapB.2 hall (by omega) HPK.out.2.2 HSPy.out.1
       (fun q hq=>⟨by have:=(HSPy.out.2 q hq).1;omega,fun hf=>(HSPy.out.2 q hq).2 (.inl hf)⟩) HCap.out.1 HCap.out.2 (fun e=>by rcases HSn.out with ⟨-,h,h2,-⟩|⟨g,h,-⟩;exact h2;rw [e] at h;cases h) (by rw [hrl,←HK.out];rcases moreN_room pm with h|h;exact h;have:=HK.out;omega))
      have Hrl:=Lh hrl
      clear hjk hrl hcapB hlo hhi hall
      go_wp2_with fail
      refine HWr.out.mono ?_
      rintro e w7 ⟨rfl,c7,hu7⟩
      have HU7:=Lh hu7
      have HSt7:=Lh (HSy.out.mem.upd hu7)
      have HV7:=Lh (HVy.out.step HSt7.out)
      obtain ⟨gB,rfl⟩:∃ g,Ba=some ⟨g,0,none⟩:=by
       rcases Own.form HOy.out with ⟨-,h,-⟩|⟨g,h,-⟩
       ·have:=Hjk.out;omega
       ·exact ⟨g,h⟩
      have HO7:=Lh (Own.chg HOy.out HSt7.out.chg HBf.out)
      have hgB:=(Own.lt HO7.out (k:=gB) rfl).2
      obtain ⟨gB',xB,hB1,-,-,hB2,hB3,-⟩:=Own.at_ HO7.out (k:=0) (by have:=Hjk.out;omega)
      cases hB1
      simp only [List.map_cons,Zz,Option.some.injEq] at hB2
      subst hB2
      have s1:w7.cell? ⟨gB,0,none⟩=some (.int .i64 (b0:Int)):=hB3
      have s3:=HV7.out.v.cells.2
      have hb3l:=HV7.out.v.p3.lt
      have j1:(0:Int)<(j:Int):=by have:=Hjk.out;omega
      have HBa:=Lh (fun (v1 v2:Value)=>((Below.refl w7.heap.size w7).alloc nL (.cells #[v1,v2] 24)))
      have SB:=Lh (fun (W:World) (hb:Below w7.heap.size w7 W)=>(⟨(hb.cell (p:=⟨gB,0,none⟩) hgB).trans s1,(hb.cell (p:=⟨b3,0,none⟩) hb3l).trans s3⟩:W.cell? ⟨gB,0,none⟩=some (.int .i64 (b0:Int))∧W.cell? ⟨b3,0,none⟩=some (.slice A n cc)))
      have S0:=Lh (SB.out w7 (Below.refl _ _))
      have Sa:=Lh (SB.out _ (HBa.out (.int .i64 0) (.int .i64 0)).drew)
      have Sa2:=Lh (SB.out _ (HBa.out (.int .i64 (b0:Int)) (.int .i64 (n:Int))))
      have Sa3:=Lh (SB.out _ (HBa.out (.int .i64 (b0:Int)) (.int .i64 (n:Int))).drew)
      clear hu7 HWr hB3 t2 t3
      go_wp2_with fail
      refine wp_fr ⟨#[Value.pointer (some ⟨x.s.g,0,none⟩),Value.slice A n cc,Value.pointer (some ⟨b2,0,none⟩),Value.pointer (some ⟨b3,0,none⟩),Value.pointer (some ⟨b4,0,none⟩),Value.bool false,Value.int IntKind.i64 0,Value.pointer (some ⟨bd,0,none⟩),Value.func (.func 38) #[] #[Value.pointer (some ⟨b2,0,none⟩),Value.pointer (some ⟨b3,0,none⟩)],Value.int IntKind.i64 (-1),undef,Value.slice SP pm pc,Value.int IntKind.i64 0,Value.int IntKind.i64 (k:Int),Value.slice (some ⟨gB,0,none⟩) j bc,u15,u16,Value.int IntKind.i64 0,.pointer (some ⟨w7.heap.size,0,none⟩),Value.slice A n cc,Value.int IntKind.i64 (n:Int),Value.bool true,Value.bool false,undef,Value.slice A n cc,Value.agg DV.toArray,Value.func (.func 38) #[] #[Value.pointer (some ⟨b2,0,none⟩),Value.pointer (some ⟨b3,0,none⟩)],Value.pointer (some ⟨x.s.g,0,none⟩),Value.pointer (some ⟨x.s.g,0,none⟩),Value.pointer (some ⟨x.s.g,2,none⟩),Value.map (some x.s.gK),Value.agg DV.toArray,Value.slice p m c,Value.func (.func 38) #[] #[Value.pointer (some ⟨b2,0,none⟩),Value.pointer (some ⟨b3,0,none⟩)],Value.int IntKind.i64 (-1),Value.int IntKind.i64 (-1),Value.bool false,undef,undef,undef,undef,undef,undef,undef,undef,undef,undef,undef,undef,undef,undef,undef,undef,undef,Value.tuple #[Value.slice SP pm pc,Value.int IntKind.i64 0],Value.slice A n cc,Value.tuple #[Value.slice SP pm pc,Value.int IntKind.i64 0],Value.slice SP pm pc,Value.int IntKind.i64 0,Value.int IntKind.i64 0,Value.bool false,undef,undef,Value.slice SP pm pc,Value.int IntKind.i64 (pm:Int),Value.int IntKind.i64 (k:Int),Value.pointer (some ⟨x.s.g,0,none⟩),Value.pointer (some ⟨x.s.g,0,none⟩),Value.pointer (some ⟨x.s.g,1,none⟩),Value.pointer (some ⟨x.m.a.g,0,none⟩),Value.int IntKind.i64 (FR:Int),Value.int IntKind.i64 (k:Int),Value.int IntKind.i64 ((k:Int)+1),Value.bool (decide ((FR:Int)<(k:Int)+1)),undef,Value.int IntKind.i64 (k:Int),Value.int IntKind.i64 ((k:Int)+1),Value.int IntKind.i64 (j:Int),Value.bool false,u79,u80,u81,u82,u83,u84,u85,u86,u87,u88,u89,u90,u91,u92,u93,u94,u95,u96,u97,Value.pointer (some ⟨y.s.g,0,none⟩),Value.slice (some ⟨gB,0,none⟩) j bc,Value.slice A n cc,Value.int IntKind.i64 (n:Int),Value.slice SP pm pc,Value.int IntKind.i64 0,Value.int IntKind.i64 0,Value.bool false,undef,undef,.slice (some ⟨gB,0,none⟩) j bc,.pointer (some ⟨gB,0,none⟩),.int .i64 (b0:Int),.slice A n cc,.int .i64 (n:Int),.agg #[.int .i64 (b0:Int),.int .i64 (n:Int)],undef,undef,undef,undef,undef],[]⟩ (w7.alloc (.cells #[.int .i64 (b0:Int),.int .i64 (n:Int)] 24)).drew ?reg ?imp
      case reg=>
       have j1b:(0:Int)<(j:Int):=by have:=Hjk.out;omega
       have j1c:0<j:=by have:=Hjk.out;omega
       go_region_held3 (fun W=>W.cell? ⟨gB,0,none⟩=some (.int .i64 (b0:Int))∧W.cell? ⟨b3,0,none⟩=some (.slice A n cc))
        (first|(exact S0.out)|(exact Sa.out)|(exact Sa2.out)|(exact Sa3.out)|go_keep) (fail)
       all_goals exact ⟨rfl,rfl,rfl⟩
      case imp=>
       obtain ⟨wE,hwE'⟩:∃ q,(w7.alloc (.cells #[.int .i64 (b0:Int),.int .i64 (n:Int)] 24)).drew=q:=⟨_,rfl⟩
       have hwE:=hwE'.symm
       rw [hwE']
       clear hwE'
       have hbE:Below w7.heap.size w7 wE:=by rw [hwE];exact (HBa.out _ _).drew
       have hpE:Blk wE w7.heap.size 24 #[.int .i64 (b0:Int),.int .i64 (n:Int)]:=by rw [hwE];exact Blk.new w7 _ _
       have HpE:=Lh hpE
       have HSE:=Lh (HSt7.out.later hbE)
       have HVE:=Lh (HV7.out.later HSt7.out.mem hbE)
       have hwz7:w.heap.size≤w7.heap.size:=by have:=HSt7.out.chg.size;omega
       have hzz7:z≤w7.heap.size:=by have:=HSt7.out.chg.size;omega
       have hg7:¬({ y with c:=c7 }:Sys).fp w7.heap.size:=fun hf=>by have:=HSt7.out.mem.in_ _ hf;omega
       have q0:=hpE.cell 0
       have q1:=hpE.cell 1
       simp only [Zt,Zz,Zs] at q0 q1
       have t2:=HVE.out.v.cells.1
       obtain ⟨nF0,hnF0,hys⟩:=HT.out.s
       have Hys:=Lh hys
       have HLn:=Lh (by
        have h:=chunksLearn y.s c7.g y.m.a.g dg (b0,n) wE HSE.out.mem.sm hdgl (HAll.out b0 (by simp)).2.2 (by show n≤65535;omega) (by rw [hys];have:=HSm.out.nK;show x.s.nK<_;omega) (by rw [hys];have:=HSm.out.nW;show x.s.nW<_;omega) (by rw [hys];have:=HSm.out.kl dg;show (x.s.kl dg).length≤_;omega)
        rw [HDv.out] at h
        exact h:Calls Tryz.prog 45 #[.pointer (some ⟨y.s.g,0,none⟩),.agg DV.toArray,.agg #[.int .i64 (b0:Int),.int .i64 (n:Int)]] wE (learnPost y.s c7.g y.m.a.g dg (b0,n) wE))
       have HI:=Lh (by rw [List.size_toArray,hDl];kernel_rfl:(Tryz.prog.info? 93).map (·.size)=some DV.toArray.size)
       clear hwE hbE hpE hys
       go_wp2_with (refine wpList_load_row rfl _ _ rfl bd rfl 93 _ (0,0) _ HVE.out.pd Tryz.underlying93 rfl HI.out ?_)
       refine HLn.out.mono ?_
       rintro e w8 ⟨rfl,hln⟩
       have hln2:∃ y8:Sys,({ y with c:=c7 }:Sys).Step y8 wE w8∧y8.c=c7∧y8.m=y.m∧y8.s.fr=y.s.fr∧y8.s.fd=y.s.fd∧y8.s.nF=y.s.nF∧y8.s.nD=y.s.nD∧y8.s.nK≤y.s.nK+1∧y8.s.nW≤y.s.nW+1 ∧
        (((y.s.wh b0).isSome=true∧y8.s.kl=y.s.kl∧y8.s.wh=y.s.wh)∨(y.s.wh b0=none∧(∀ d,y8.s.kl d=if d=dg then y.s.kl dg++[(b0,n)] else y.s.kl d)∧∀ b,y8.s.wh b=if b=b0 then some dg else y.s.wh b)):=by
        rcases hln with ⟨h1,h2,h3⟩|⟨h1,x1,nK,nW,h2,h3,h4,h5,h6⟩
        ·exact ⟨_,Sys.Step.refl HSE.out.mem h3,rfl,rfl,rfl,rfl,rfl,rfl,Nat.le_add_right _ _,Nat.le_add_right _ _,.inl ⟨h1,rfl,rfl⟩⟩
        ·refine ⟨_,HSE.out.mem.sto h4 rfl h5 h6 (fun dg' p hp=>?_),rfl,rfl,rfl,rfl,rfl,rfl,h2,Nat.le_of_eq h3,.inr ⟨h1,fun d=>rfl,fun b=>rfl⟩⟩
         have hp:p∈(if dg'=dg then y.s.kl dg++[(b0,n)] else y.s.kl dg'):=hp
         split at hp
         ·rcases List.mem_append.1 hp with hp|hp
          ·exact HSy.out.mem.kb dg p hp
          ·rw [List.mem_singleton] at hp
           rw [hp]
           exact ⟨(HAll.out b0 (by simp)).2.2,by show n≤65535;omega⟩
         ·exact HSy.out.mem.kb dg' p hp
       obtain ⟨y8,hS8,hr8⟩:=hln2
       have HS8:=Lh hS8
       have HR8:=Lh hr8
       have HV8:=Lh (HVE.out.step hS8)
       have HP8:=Lh (Blk.chg HpE.out hS8.chg hg7)
       clear hln hS8 hr8 HLn q0 q1 t2
       have q0:=HP8.out.cell 0
       have q1:=HP8.out.cell 1
       simp only [Zt,Zz,Zs] at q0 q1
       have c40:=HV8.out.v.p4.cell 0
       have c41:=HV8.out.v.p4.cell 1
       have f40:=HV8.out.v.p4.frozen 0
       have f41:=HV8.out.v.p4.frozen 1
       go_wp2
       have hbk:=Blk.set (Blk.set HV8.out.v.p4 0 (.int .i64 (b0:Int))) 1 (.int .i64 (n:Int))
       refine bodyPost_ret (results_row_tmp2 rfl _ _ b4 24 _ (0,0) _ rfl hbk Tryz.underlying24 rfl (by kernel_rfl)) rfl ?_
       rw [←HRe.out]
       have hb2v:=Hb2.out
       have hb3v:=Hb3.out
       have hb4v:=Hb4.out
       refine ⟨y8,_,rfl,?_,(((HSy.out.trans HSE.out).trans HS8.out).out (F:=fun q=>q=b4) (Chg.set2 w8 b4 0 1 _ _) (fun q e=>by subst e;exact ⟨HV8.out.v.ap.2.2,by omega⟩))⟩
       obtain ⟨r1,r2,r3,r4,r5,r6,r7,r8,r9⟩:=HR8.out
       have hd8:y8.d=x.d:=HS8.out.same.d.trans HT.out.yd
       have hys:=Hys.out
       have hwh:y.s.wh=x.s.wh:=by rw [hys]
       have hkl:y.s.kl=x.s.kl:=by rw [hys]
       have hpkl:(B++sumOf l).length=pm:=by rw [HPK.out.1];exact HPK.out.2.2
       have hf:SaveR x l y8 (.tuple #[ckv (b0,l.length),.bool false,.int .i64 0]):=by
        refine SaveR.fresh Hmay.out (by rw [Hdg.out];exact Hno.out) B HPK.out.2.1 b0 r (by rw [hpkl,HK.out];exact Hrl.out) HT.out.nd HT.out.h0 (by rw [r2];exact HT.out.h1) (by rw [r2];exact HT.out.fr) (by rw [r2];exact HT.out.qs) (fun g=>?_) (fun b=>?_) ?_ ?_ ?_
        ·rw [r1,hd8,HPK.out.1,HL.out]
         have h1:=HU7.out.view g
         rw [HT.out.yc,HT.out.yd,(funext HN3.out:c'.view x.d=x.c.view x.d)] at h1
         exact h1
        ·rw [r3,hys]
        ·rw [r4,hys]
        ·have h1:y.s.nF=nF0:=by rw [hys]
         have h2:y.s.nK=x.s.nK:=by rw [hys]
         have h3:y.s.nW=x.s.nW:=by rw [hys]
         have h4:y.s.nD=x.s.nD:=by rw [hys]
         have h5:=Hrl.out
         rw [List.length_cons] at hnF0
         omega
        ·rw [Hdg.out,HL.out,←hwh,←hkl]
         exact r9
       rw [HL.out] at hf
       exact hf
  ·have i1:(0:Int)≤(i:Int):=by omega --DONE
   have hqi2:=(Ze hqi).1
   have i2:(i:Int)<(m:Int):=by omega
   obtain ⟨qb,ql⟩:=q
   have Hq:=Lh (⟨hqi,hql⟩:(x.s.kl dg)[i]? = some (qb,ql)∧loadL (x.c.view x.d) qb ql=some l)
   have hs3:x.s.Mem x.c.g x.m.a.g w3:=by have:=HM3.out.sm;rw [show ({ x with c:=c' }:Sys).c.g=x.c.g from HS3.out.same.c] at this;exact this
   have HS3m:=Lh hs3
   obtain ⟨gR,hpe,-,hgR2,hrg,-⟩:=(Hown.out w3 hs3).range hqi
   subst hpe
   have r0:w3.cell? ⟨gR,i*2,none⟩=some (.int .i64 (qb:Int)):=hrg 0 _ rfl
   have r1:w3.cell? ⟨gR,i*2+1,none⟩=some (.int .i64 (ql:Int)):=hrg 1 _ rfl
   have S3:=Lh (KS.out { x with c:=c' } w3 rfl HM3.out HV3.out)
   have L0:=HLk.out w3.drew (hs3.later (Below.refl _ _).drew)
   have HBa:=Lh (((Below.refl w3.heap.size w3).alloc nL (.cells #[.int .i64 0,.int .i64 0] 24)).drew)
   have L1:=HLk.out (w3.alloc (.cells #[.int .i64 0,.int .i64 0] 24)).drew (hs3.later HBa.out)
   have HBa2:=Lh ((Below.refl w3.heap.size w3).alloc nL (.cells #[.int .i64 (qb:Int),.int .i64 (ql:Int)] 24))
   have sA:=Lh (⟨HS3.out.chg.size,HV3.out.v.p2.lt,hs3.row.lt,HV3.out.pd.lt⟩:w.heap.size≤w3.heap.size∧b2<w3.heap.size∧x.s.g<w3.heap.size∧bd<w3.heap.size)
   have SB:=Lh (fun (W:World) (hb:Below w3.heap.size w3 W)=>(⟨(hb.cell (p:=⟨b2,0,none⟩) sA.out.2.1).trans S3.out.1,(hb.cell (p:=⟨x.s.g,2,none⟩) sA.out.2.2.1).trans S3.out.2.1,rangeAt_below S3.out.2.2 hb,(hb.cell (p:=⟨gR,i*2,none⟩) hgR2).trans r0,(hb.cell (p:=⟨gR,i*2+1,none⟩) hgR2).trans r1⟩:W.cell? ⟨b2,0,none⟩=some (.pointer (some ⟨x.s.g,0,none⟩))∧W.cell? ⟨x.s.g,2,none⟩=some (.map (some x.s.gK))∧W.rangeAt bd 0 DV∧W.cell? ⟨gR,i*2,none⟩=some (.int .i64 (qb:Int))∧W.cell? ⟨gR,i*2+1,none⟩=some (.int .i64 (ql:Int))))
   have S3b:=Lh (SB.out w3 (Below.refl _ _))
   have Sa:=Lh (SB.out _ HBa.out)
   have Sa2:=Lh (SB.out _ HBa2.out)
   have Sa3:=Lh (SB.out _ HBa2.out.drew)
   clear hqi hql hrg hs3 hqi2
   go_wp2_with fail
   refine Code.wp_mono (Q:=fun e a W=>e=.normal∧a=⟨#[.pointer (some ⟨x.s.g,0,none⟩),.slice A n cc,.pointer (some ⟨b2,0,none⟩),.pointer (some ⟨b3,0,none⟩),.pointer (some ⟨b4,0,none⟩),.bool false,.int .i64 0,.pointer (some ⟨bd,0,none⟩),.func (.func 38) #[] #[.pointer (some ⟨b2,0,none⟩),.pointer (some ⟨b3,0,none⟩)],.int .i64 (i:Int),.pointer (some ⟨w3.heap.size,0,none⟩),undef,undef,undef,undef,undef,undef,undef,undef,.slice A n cc,.int .i64 (n:Int),.bool true,.bool false,undef,.slice A n cc,.agg DV.toArray,.func (.func 38) #[] #[.pointer (some ⟨b2,0,none⟩),.pointer (some ⟨b3,0,none⟩)],.pointer (some ⟨x.s.g,0,none⟩),.pointer (some ⟨x.s.g,0,none⟩),.pointer (some ⟨x.s.g,2,none⟩),.map (some x.s.gK),.agg DV.toArray,.slice (some ⟨gR,0,none⟩) m c,.func (.func 38) #[] #[.pointer (some ⟨b2,0,none⟩),.pointer (some ⟨b3,0,none⟩)],.int .i64 (i:Int),.int .i64 (i:Int),.bool true,.pointer (some ⟨x.s.g,0,none⟩),.pointer (some ⟨x.s.g,0,none⟩),.pointer (some ⟨x.s.g,2,none⟩),.map (some x.s.gK),.agg DV.toArray,.slice (some ⟨gR,0,none⟩) m c,.int .i64 (i:Int),.pointer (some ⟨gR,i*2,none⟩),.agg #[.int .i64 (qb:Int),.int .i64 (ql:Int)],undef,undef,undef,undef,undef,undef,undef,undef,undef,undef,undef,undef,undef,undef,undef,undef,undef,undef,undef,undef,undef,undef,undef,undef,undef,undef,undef,undef,undef,undef,undef,undef,undef,undef,undef,undef,undef,undef,undef,undef,undef,undef,undef,undef,undef,undef,undef,undef,undef,undef,undef,undef,undef,undef,undef,undef,undef,undef,undef,undef,undef,undef,undef,undef,undef,undef,undef,undef,undef,undef,undef,undef,undef],[]⟩∧W=(w3.alloc (.cells #[.int .i64 (qb:Int),.int .i64 (ql:Int)] 24)).drew) ?imp ?reg
   case reg=>
    go_region_held3 (fun W=>W.cell? ⟨b2,0,none⟩=some (.pointer (some ⟨x.s.g,0,none⟩))∧W.cell? ⟨x.s.g,2,none⟩=some (.map (some x.s.gK))∧W.rangeAt bd 0 DV∧W.cell? ⟨gR,i*2,none⟩=some (.int .i64 (qb:Int))∧W.cell? ⟨gR,i*2+1,none⟩=some (.int .i64 (ql:Int)))
     (first|(exact S3b.out)|(exact Sa.out)|(exact Sa2.out)|(exact Sa3.out)|go_keep) (fail)
    all_goals exact ⟨rfl,rfl,rfl⟩
   case imp=>
    rintro e a wE ⟨rfl,rfl,hwE⟩
    have hbE:Below w3.heap.size w3 wE:=by rw [hwE];exact HBa2.out.drew
    have hpE:Blk wE w3.heap.size 24 #[.int .i64 (qb:Int),.int .i64 (ql:Int)]:=by rw [hwE];exact Blk.new w3 _ _
    have HbE:=Lh hbE
    have HpE:=Lh hpE
    have HsE:=Lh (HS3m.out.later hbE)
    have HS5:=Lh (HS3.out.later hbE)
    have hsE:=hbE.size
    have hcE:w3.heap.size<wE.heap.size:=hpE.lt
    have t2:=(SB.out wE hbE).1
    have t5:=HsE.out.cells.2.2.2.2.2
    have q0:=hpE.cell 0
    have q1:=hpE.cell 1
    simp only [Zt,Zz,Zs] at q0 q1
    have hnD:x.s.nD<1000000000:=by have:=HSm.out.nD;omega
    have hqb:=HMD.out.kb dg (qb,ql) (List.mem_of_getElem? Hq.out.1)
    have hqb1:qb<4611686018427387904:=by have:=hqb.1;simp only at this;omega
    obtain ⟨w5,hr5,hat5,hg5⟩:=MapT.At.set_run (T:=FdT) (w:=wE.drew) (show FdT.At wE.drew x.s.gD x.s.nD x.s.fd from HsE.out.mD) hnD (p:=qb) hqb1 (qb,ql) inferInstance
    have hr6:(Instr.mapUpdate 99 (.map (some x.s.gD)) (.int .i64 (qb:Int)) (.agg #[.int .i64 (qb:Int),.int .i64 (ql:Int)])).run Tryz.prog wE.drew=.ok () w5:=hr5
    obtain ⟨nD',hnD',hat6⟩:∃ q,q≤x.s.nD+1∧FdT.At w5 x.s.gD q (fun y=>if y=qb then some (qb,ql) else x.s.fd y):=⟨_,by split<;>omega,hat5⟩
    have hg6:wE.grownBy w5 (some x.s.gD):=⟨hg5.os,hg5.tape,hg5.output,hg5.size,hg5.block⟩
    have hst:=HsE.out.setFd hat6 hg6
    have HStp:=Lh (by
     have h:=HS5.out.mem.sto (s':={ x.s with nD:=nD',fd:=fun y=>if y=qb then some (qb,ql) else x.s.fd y }) (w':=w5) (by rw [show ({ x with c:=c' }:Sys).c.g=x.c.g from HS3.out.same.c];exact hst.1) rfl hst.2.1 (fun b hb=>.inl (hst.2.2 b hb)) HMD.out.kb
     exact h)
    have HMn:=Lh (HS5.out.trans HStp.out)
    have HVE:=Lh ((HV3.out.later HM3.out hbE).step HStp.out)
    have hgD:x.s.gD<w.heap.size:=HM.out.sm.wr_lt (.inr (.inr (.inr (.inr rfl))))
    have hb2v:=Hb2.out
    have hb3v:=Hb3.out
    have hb4v:=Hb4.out
    have kk:∀ (g o:Nat),g<wE.heap.size→g≠x.s.gD→w5.cell? ⟨g,o,none⟩=wE.cell? ⟨g,o,none⟩:=fun g o h1 h2=>cell_same (hg6.block g h1 (fun e=>h2 (by simpa using e)))
    have hsg:=HM.out.sm.row.lt
    have S5:=Lh (⟨(kk b2 0 (by have:=sA.out.2.1;omega) (by omega)).trans t2,(kk x.s.g 5 (by have:=sA.out.1;omega) HM.out.sm.a3.2.2.2.1).trans t5,(kk w3.heap.size 0 hcE (by have:=sA.out.1;omega)).trans q0,(kk w3.heap.size 1 hcE (by have:=sA.out.1;omega)).trans q1⟩:w5.cell? ⟨b2,0,none⟩=some (.pointer (some ⟨x.s.g,0,none⟩))∧w5.cell? ⟨x.s.g,5,none⟩=some (.map (some x.s.gD))∧w5.cell? ⟨w3.heap.size,0,none⟩=some (.int .i64 (qb:Int))∧w5.cell? ⟨w3.heap.size,1,none⟩=some (.int .i64 (ql:Int)))
    have HP4:=Lh (((HV3.out.v.p4.later hbE).kept hg6 (fun e=>by have e2:x.s.gD=b4:=(by simpa using e);omega)):Blk w5 b4 24 #[.int .i64 0,.int .i64 0])
    clear hwE hbE hpE L0 L1 hr5 hat5 hg5 hst kk hat6 hg6 r0 r1
    go_wp2_with fail
    go_region_held3 (fun W=>W.cell? ⟨b2,0,none⟩=some (.pointer (some ⟨x.s.g,0,none⟩))∧W.cell? ⟨x.s.g,5,none⟩=some (.map (some x.s.gD))∧W.cell? ⟨w3.heap.size,0,none⟩=some (.int .i64 (qb:Int))∧W.cell? ⟨w3.heap.size,1,none⟩=some (.int .i64 (ql:Int)))
     (first|(exact ⟨t2,t5,q0,q1⟩)|(exact S5.out)|go_keep) (fail)
    have q0:=S5.out.2.2.1
    have q1:=S5.out.2.2.2
    have c40:=HP4.out.cell 0
    have c41:=HP4.out.cell 1
    have f40:=HP4.out.frozen 0
    have f41:=HP4.out.frozen 1
    clear t2 t5
    go_wp2
    have hbk:=Blk.set (Blk.set HP4.out 0 (.int .i64 (qb:Int))) 1 (.int .i64 (ql:Int))
    refine bodyPost_ret (results_row_tmp2 rfl _ _ b4 24 _ (0,0) _ rfl hbk Tryz.underlying24 rfl (by kernel_rfl)) rfl ?_
    rw [←HRe.out]
    refine ⟨{ c:=c',d:=x.d,m:=x.m,s:={ x.s with nD:=nD',fd:=fun y=>if y=qb then some (qb,ql) else x.s.fd y } },_,rfl,SaveR.found Hmay.out (qb,ql) (by rw [Hdg.out];exact List.mem_of_getElem? Hq.out.1) Hq.out.2 HN3.out rfl nD' hnD' rfl,HMn.out.out (F:=fun q=>q=b4) (Chg.set2 w5 b4 0 1 _ _) (fun q e=>?_)⟩
    subst e
    exact ⟨HVE.out.v.ap.2.2,by omega⟩
 ·have hde:decide (1≤(n:Int)∧(n:Int)≤512)=false:=qF hmay
  rw [hde]
  have c40:=HV0.out.p4.cell 0
  have c41:=HV0.out.p4.cell 1
  have f40:=HV0.out.p4.frozen 0
  have f41:=HV0.out.p4.frozen 1
  have Hbad:=Lh (show ¬(1≤l.length∧l.length≤512) by rw [HL.out];omega)
  clear hmay hde k3
  go_wp2
  have hbk:=Blk.set (Blk.set HV0.out.p4 0 (.int .i64 0)) 1 (.int .i64 0)
  refine bodyPost_ret (results_row_tmp2 rfl _ _ b4 24 _ (0,0) _ rfl hbk Tryz.underlying24 rfl (by kernel_rfl)) rfl ?_
  rw [←HRe.out]
  refine ⟨x,_,rfl,SaveR.bad Hbad.out rfl,((Sys.Step.refl HM.out HB.out).out (F:=fun q=>q=b4) (Chg.set2 w1 b4 0 1 _ _) (fun q e=>?_))⟩
  have:=Hb2.out
  have:=Hb3.out
  have:=Hb4.out
  exact ⟨by rw [e];exact HV0.out.ap.2.2,by omega⟩
def bothV (x:Sys) (gr gq:Nat):Array Value:=#[.pointer (some ⟨x.d.g,0,none⟩),.pointer (some ⟨x.c.g,0,none⟩),.pointer (some ⟨x.m.a.g,0,none⟩),.pointer (some ⟨x.s.g,0,none⟩),.pointer (some ⟨gr,0,none⟩),.pointer (some ⟨gq,0,none⟩)]
structure Beg (x:Sys) (n:Nat):Prop where
 dN:x.d.N=50+n
 least:x.m.a.least=50
 len:x.m.a.len=n
 free:x.m.a.free=n
 S:x.m.S=List.replicate n 0
 Q:x.m.Q.length=n
 blk:∀ k,x.c.blk k=none
 dty:∀ k,x.c.dty k=none
 vl:∀ k,x.d.vl k=[]
 kl:∀ d,x.s.kl d=[]
 wh:∀ k,x.s.wh k=none
 fr:∀ k,x.s.fr k=none
 fd:∀ k,x.s.fd k=none
 nK:x.s.nK=0∧x.s.nW=0∧x.s.nF=0∧x.s.nD=0
def beginPost (n:Nat) (w:World) (e:Ending) (w':World):Prop:=
 ∃ (x:Sys) (gb gr gq:Nat),e=.returned (.pointer (some ⟨gb,0,none⟩))∧x.Mem w'∧Beg x n∧Blk w' gb 35 (bothV x gr gq)∧¬x.fp gb∧w.heap.size≤gb∧(∀ b,x.fp b→w.heap.size≤b)∧Below w.heap.size w w'
theorem lawBegin (n:Nat) (w:World) (hn:n≤1000):Calls Tryz.prog 8 #[.int .i64 (n:Int)] w (beginPost n w):=by
 obtain ⟨R,hR⟩:∃ R,beginPost n w=R:=⟨_,rfl⟩
 rw [hR]
 have HRe:=Lh hR
 clear hR
 obtain ⟨E,hE⟩:∃ E,50+n=E:=⟨_,rfl⟩
 have HE:=Lh hE
 have e1:IntKind.i64.wrap (50+(n:Int))=(E:Int):=by rw [wrapi64 (by omega) (by omega)];omega
 have HDn:=Lh (diskNew E w (by omega) (by omega))
 have hEl:1≤E∧E≤4096:=by omega
 clear hE
 go_enter Tryz.func8,Tryz.ntmps8
 go_wp2_with fail
 refine HDn.out.mono ?_
 rintro e w1 ⟨d,rfl,hd,hdN,hver,hdf,hb1⟩
 have HD1:=Lh (⟨hd,hdN,hver,hdf,hb1⟩:d.At w1∧d.N=E∧(∀ n,d.ver n=none)∧(∀ b,d.fp b→w.heap.size≤b)∧Below w.heap.size w w1)
 have HR8:=Lh (ref08New E w1 (by omega) (by omega))
 have hs1:=hb1.size
 clear hd hdN hver hdf hb1 HDn
 have q1:∀ w:World,(binOp .eql 28 (.pointer (some ⟨d.g,0,none⟩)) (.pointer none)).run Tryz.prog w=.ok (.bool false) w:=fun _=>rfl
 go_wp2_with fail
 refine HR8.out.mono ?_
 rintro e w2 ⟨gr,rfl,hb2⟩
 have hD2:=HD1.out.1.later hb2
 have HD2:=Lh hD2
 have HB2:=Lh (HD1.out.2.2.2.2.trans (hb2.mono hs1))
 have hs2:=hb2.size
 have HCn:=Lh (show Calls Tryz.prog 23 #[.pointer (some ⟨d.g,0,none⟩),.int .i64 4] w2 _ from cacheNew d 4 w2 hD2 (by omega) (by omega))
 clear hb2 HR8 hD2
 go_wp2_with fail
 refine HCn.out.mono ?_
 rintro e w3 ⟨c,rfl,hcm,hci,hcr,hcb,hcd,hcf,hb3,hcg1,hcg2⟩
 have HC3:=Lh (⟨hcm,hci,hcb,hcd,hcf⟩:c.Mem d w3∧c.Inv d∧(∀ n,c.blk n=none)∧(∀ n,c.dty n=none)∧∀ b,c.fp d b→d.fp b∨w2.heap.size≤b)
 have HB3:=Lh (HB2.out.trans (hb3.mono (by omega)))
 have hs3:=hb3.size
 have HAn:=Lh (by have h:=allocNew 50 n w3 (by omega);rw [HE.out] at h;exact h:Calls Tryz.prog 28 #[.int .i64 50,.int .i64 (E:Int)] w3 _)
 clear hcm hci hcr hcb hcd hcf hb3 hcg1 hcg2 HCn
 go_wp2_with fail
 refine HAn.out.mono ?_
 rintro e w4 ⟨m,rfl,ham,hai,hal,han,haf,haS,hafp,hb4,haQ⟩
 have HA4:=Lh (⟨ham,hai,hal,han,haf,haS,hafp,haQ⟩:m.Mem w4∧m.Inv∧m.a.least=50∧m.a.len=n∧m.a.free=n∧m.S=List.replicate n 0∧(∀ b,m.fp b→w3.heap.size≤b)∧m.Q.length=n)
 have HC4:=Lh (HC3.out.1.later hb4)
 have HB4:=Lh (HB3.out.trans (hb4.mono (by omega)))
 have hs4:=hb4.size
 have HSn:=Lh (chunksNew c.g m.a.g w4)
 clear ham hai hal han haf haS hafp hb4 haQ HAn
 have q2:∀ w:World,(binOp .eql 29 (.pointer (some ⟨c.g,0,none⟩)) (.pointer none)).run Tryz.prog w=.ok (.bool false) w:=fun _=>rfl
 have q3:∀ w:World,(binOp .eql 30 (.pointer (some ⟨m.a.g,0,none⟩)) (.pointer none)).run Tryz.prog w=.ok (.bool false) w:=fun _=>rfl
 go_wp2_with fail
 refine HSn.out.mono ?_
 rintro e w5 ⟨s,rfl,hsm,s1,s2,s3,s4,s5,s6,s7,s8,s9,hsf,hb5⟩
 have HS5:=Lh (⟨hsm,s1,s2,s3,s4,s5,⟨s6,s7,s8,s9⟩,hsf⟩:s.Mem c.g m.a.g w5∧(∀ d,s.kn d=none)∧(∀ d,s.kl d=[])∧(∀ n,s.wh n=none)∧(∀ n,s.fr n=none)∧(∀ n,s.fd n=none)∧(s.nK=0∧s.nW=0∧s.nF=0∧s.nD=0)∧∀ b,s.fp b→w4.heap.size≤b)
 have HC5:=Lh (HC4.out.later hb5)
 have HA5:=Lh (HA4.out.1.later hb5)
 have HB5:=Lh (HB4.out.trans (hb5.mono (by omega)))
 have hs5:=hb5.size
 have HRn:=Lh (by have h:=ref12New 50 n w5 (by omega);rw [HE.out] at h;exact h:Calls Tryz.prog 29 #[.int .i64 50,.int .i64 (E:Int)] w5 _)
 clear hsm s1 s2 s3 s4 s5 s6 s7 s8 s9 hsf hb5 HSn
 have q4:∀ w:World,(binOp .eql 31 (.pointer (some ⟨s.g,0,none⟩)) (.pointer none)).run Tryz.prog w=.ok (.bool false) w:=fun _=>rfl
 go_wp2_with fail
 refine HRn.out.mono ?_
 rintro e w6 ⟨gm,rfl,hb6⟩
 have HB6:=Lh (HB5.out.trans (hb6.mono (by omega)))
 have HX6:=Lh (⟨HC5.out.later hb6,HA5.out.later hb6,HS5.out.1.later hb6⟩:c.Mem d w6∧m.Mem w6∧s.Mem c.g m.a.g w6)
 have hs6:=hb6.size
 clear hb6 HRn
 go_wp2
 rw [←HRe.out]
 have hw:=HB6.out.size
 have hbF:∀ (a b e:Obj),Below w6.heap.size w6 (((w6.alloc a).alloc b).alloc e):=fun a b e=>(((Below.refl _ _).alloc nL _).alloc (by simp) _).alloc (by simp;omega) _
 have hw12:=HB2.out.size
 have hcin:∀ b,c.fp d b→b<w3.heap.size:=fun b hb=>HC3.out.1.in_ b hb
 have hmin:∀ b,m.fp b→b<w4.heap.size:=fun b hb=>HA4.out.1.in_ b hb
 have hsin:∀ b,s.fp b→b<w5.heap.size:=fun b hb=>HS5.out.1.in_ b hb
 have hm3:∀ b,m.fp b→w3.heap.size≤b:=HA4.out.2.2.2.2.2.2.1
 have hs4':∀ b,s.fp b→w4.heap.size≤b:=HS5.out.2.2.2.2.2.2.2
 have hM6:(⟨c,d,m,s⟩:Sys).Mem w6:={
  cm:=HX6.out.1
  ci:=HC3.out.2.1
  am:=HX6.out.2.1
  ai:=HA4.out.2.1
  sm:=HX6.out.2.2
  ap1:=fun b hb hs=>by have:=hcin b hb;have:=hs4' b hs;omega
  ap2:=fun b hb hs=>by have:=hcin b hb;have:=hm3 b hs;omega
  ap3:=fun b hb hs=>by have:=hmin b hb;have:=hs4' b hs;omega
  lo:=by show 50≤m.a.least;rw [HA4.out.2.2.1];exact Nat.le_refl _
  hi:=by show m.a.least+m.a.len≤d.N;rw [HA4.out.2.2.1,HA4.out.2.2.2.1,HD1.out.2.1,HE.out];exact Nat.le_refl _
  kb:=fun dg p hp=>by rw [HS5.out.2.2.1 dg] at hp;simp at hp }
 have hin:∀ b,(⟨c,d,m,s⟩:Sys).fp b→b<w6.heap.size:=fun b hb=>hM6.in_ b hb
 have hsz2:∀ (a b:Obj),((w6.alloc a).alloc b).heap.size=w6.heap.size+1+1:=fun a b=>by simp
 refine ⟨⟨c,d,m,s⟩,w6.heap.size+1+1,gr,w6.heap.size+1,rfl,hM6.later (hbF _ _ _),⟨by show d.N=50+n;rw [HD1.out.2.1,HE.out],HA4.out.2.2.1,HA4.out.2.2.2.1,HA4.out.2.2.2.2.1,HA4.out.2.2.2.2.2.1,HA4.out.2.2.2.2.2.2.2,HC3.out.2.2.1,HC3.out.2.2.2.1,fun k=>HD1.out.1.emp k (HD1.out.2.2.1 k),HS5.out.2.2.1,HS5.out.2.2.2.1,HS5.out.2.2.2.2.1,HS5.out.2.2.2.2.2.1,HS5.out.2.2.2.2.2.2.1⟩,
  by rw [←hsz2];exact Blk.new _ _ _,fun hf=>by have:=hin _ hf;omega,by omega,fun b hb=>?_,HB6.out.trans ((hbF _ _ _).mono hw)⟩
 rcases hb with hb|hb|hb
 ·rcases HC3.out.2.2.2.2 b hb with h|h
  ·exact HD1.out.2.2.2.1 b h
  ·omega
 ·have:=hm3 b hb;omega
 ·have:=hs4' b hb;omega
theorem pk_len {l B:List UInt8} (h:1≤l.length∧l.length≤512) (hB:BestB l B):(B++sumOf l).length≤520:=by
 have h1:=best_len hB (by omega)
 rw [Zl,sumOf_len4]
 omega
theorem fresh_load {vw vw':Nat→Option Bk} {l B:List UInt8} {b0:Nat} {r:List Nat} (h:1≤l.length∧l.length≤512) (hB:BestB l B) (hk:r.length=moreN (B++sumOf l).length) (hd:(b0::r).Nodup) (hb:∀ b∈r,b≤65535)
 (hv:∀ n,vw' n=writeV vw b0 r l.length (B++sumOf l) n):readL vw' b0 (l.length:Int)=some (b0::r,B++sumOf l)∧loadL vw' b0 (l.length:Int)=some l:=by
 have h1:=pk_len h hB
 have hv':vw'=writeV vw b0 r l.length (B++sumOf l):=funext hv
 have h2:readL vw' b0 (l.length:Int)=some (b0::r,B++sumOf l):=by
  rw [hv']
  exact read_write hd hb h.1 h.2 (by omega) hk
 refine ⟨h2,?_⟩
 unfold loadL
 rw [h2]
 dsimp only
 rw [unpack_same hB (by omega) (Int.le_refl _) (by omega),if_pos ⟨rfl,rfl⟩]
theorem st_low {m:Amp} {w:World} (h:m.Mem w) {b:Nat} {s:UInt8} (hs:m.st b=some s):m.a.least≤b∧b<m.a.least+m.a.len∧b≤65535:=by
 have h2:=h.lo
 unfold Amp.st at hs
 split at hs
 ·have h5:=(Ze hs).1
  rw [h.slen] at h5
  omega
 ·cases hs
theorem SaveR.small {x y:Sys} {l:List UInt8} {v:Value} {B:Nat} (h:SaveR x l y v) (hx:x.Small B):y.Small (B+3):=by
 cases h with
 | bad _ e=>rw [e];exact hx.mono (by omega)
 | found _ p _ _ _ hm nD hn hs=>
   refine ⟨?_,?_,?_,?_,fun d=>?_,?_⟩
   ·rw [hs];have:=hx.nK;show x.s.nK≤_;omega
   ·rw [hs];have:=hx.nW;show x.s.nW≤_;omega
   ·rw [hs];have:=hx.nF;show x.s.nF≤_;omega
   ·rw [hs];have:=hx.nD;show nD≤_;omega
   ·rw [hs];have:=hx.kl d;show (x.s.kl d).length≤_;omega
   ·rw [hm];have:=hx.qs;omega
 | space _ _ _ _ _ _ hm hs=>
   refine ⟨?_,?_,?_,?_,fun d=>?_,?_⟩
   ·rw [hs];have:=hx.nK;omega
   ·rw [hs];have:=hx.nW;omega
   ·rw [hs];have:=hx.nF;omega
   ·rw [hs];have:=hx.nD;omega
   ·rw [hs];have:=hx.kl d;omega
   ·rw [hm];have:=hx.qs;omega
 | fresh _ _ _ _ b0 _ _ _ _ _ _ hq _ _ _ sz kn=>
   obtain ⟨s1,s2,s3,s4⟩:=sz
   refine ⟨by have:=hx.nK;omega,by have:=hx.nW;omega,by have:=hx.nF;omega,by have:=hx.nD;omega,fun d=>?_,by have:=hx.qs;omega⟩
   have h1:=hx.kl d
   rcases kn with ⟨-,e,-⟩|⟨-,e,-⟩
   ·rw [e];omega
   ·rw [e]
    split
    ·have:=hx.kl (shaL l)
     rw [Zl,List.length_singleton]
     omega
    ·omega
theorem IntT.one {α:Type} {mt et:TypeId} {ht:Tryz.prog.underlying mt=some (.map 3 et)} {vv:α→Value} {vinj:∀ a b,vv a=vv b→a=b} {zero:α} {hz:∀ w,(zeroValue et).run Tryz.prog w=.ok (vv zero) w}
 {w:World} {b n k:Nat} {f:Nat→Option α} (h:(IntT mt et ht vv vinj zero hz).At w b n f) (hk:k<4611686018427387904) (e:∀ x,(f x).isSome=true↔x=k):n=1:=by
 obtain ⟨D,-,-,h1,h2,h3⟩:=IntT.keys h
 have hm:(k:Int)∈intKeys D:=(h3 _).2 ⟨by omega,by omega,(e _).2 (by simp)⟩
 have ha:∀ x∈intKeys D,x=(k:Int):=fun x hx=>by
  obtain ⟨g1,g2,g3⟩:=(h3 x).1 hx
  have:=(e _).1 g3
  omega
 have h4:=nodup_len (m:=[(k:Int)]) h1 (fun x hx=>by rw [ha x hx];simp)
 have h5:=List.length_pos_of_mem hm
 simp only [List.length_singleton] at h4
 omega
theorem Beg.small {x:Sys} {n:Nat} (h:Beg x n) (hn:n≤1000):x.Small 0:=by
 obtain ⟨a,b,c,d⟩:=h.nK
 exact ⟨by omega,by omega,by omega,by omega,fun dg=>by rw [h.kl];simp,by rw [h.Q];omega⟩
theorem save_first {x y:Sys} {n:Nat} {l:List UInt8} {v:Value} {w:World} (h:SaveR x l y v) (hm:x.Mem w) (hb:Beg x n) (hl:1≤l.length∧l.length≤512) (hn:3≤n):
 ∃ b0,v=.tuple #[ckv (b0,l.length),.bool false,.int .i64 0]∧b0≤65535∧y.s.kl (shaL l)=[(b0,l.length)]∧loadL (y.c.view y.d) b0 (l.length:Int)=some l∧∀ b,(y.s.wh b).isSome=true↔b=b0:=by
 cases h with
 | bad h=>exact absurd hl h
 | found _ p hp=>rw [hb.kl] at hp;simp at hp
 | space _ _ B hB hf=>
   exfalso
   have h1:=pk_len hl hB
   have h2:=moreN_le (m:=(B++sumOf l).length) (by omega)
   rw [hb.free] at hf
   omega
 | fresh _ _ B hB b0 r hk hd h0 h1 _ _ hv _ _ _ kn=>
   have hlow:∀ b∈b0::r,b≤65535:=fun b hb'=>(st_low hm.am (h0 b hb')).2.2
   have hL:=fresh_load hl hB hk hd (fun b hb'=>hlow b (List.mem_cons_of_mem _ hb')) hv
   rcases kn with ⟨h,-,-⟩|⟨-,e1,e2⟩
   ·rw [hb.wh] at h;cases h
   ·refine ⟨b0,rfl,hlow b0 (by simp),by rw [e1,if_pos rfl,hb.kl];rfl,hL.2,fun b=>?_⟩
    rw [e2]
    by_cases e:b=b0
    ·simp [e]
    ·rw [if_neg e,hb.wh];simp [e]
theorem save_again {y z:Sys} {l:List UInt8} {v:Value} (h:SaveR y l z v) (hl:1≤l.length∧l.length≤512) {p:Ck} (hp:p∈y.s.kl (shaL l)) (hld:loadL (y.c.view y.d) p.1 p.2=some l):
 ∃ q,v=.tuple #[ckv q,.bool true,.int .i64 0]∧q∈y.s.kl (shaL l)∧loadL (y.c.view y.d) q.1 q.2=some l∧(∀ n,z.c.view z.d n=y.c.view y.d n)∧z.s.wh=y.s.wh∧z.s.kl=y.s.kl∧z.m=y.m:=by
 cases h with
 | bad h=>exact absurd hl h
 | found _ q hq hlq hv hm nD hn hs=>exact ⟨q,rfl,hq,hlq,hv,by rw [hs],by rw [hs],hm⟩
 | space _ hno=>exact absurd hld (hno p hp)
 | fresh _ hno=>exact absurd hld (hno p hp)
theorem lawLives (w:World):Calls Tryz.prog 13 #[] w fun e w'=>e=.returned (.bool true)∧Below w.heap.size w w':=by
 obtain ⟨R,hR⟩:∃ R,(fun (e:Ending) (w':World)=>e=.returned (.bool true)∧Below w.heap.size w w')=R:=⟨_,rfl⟩
 rw [hR]
 have HRe:=Lh hR
 clear hR
 have HBg:=Lh (show Calls Tryz.prog 8 #[.int .i64 10] w _ from lawBegin 10 w (by omega))
 obtain ⟨ZL,hZL⟩:∃ q,List.replicate 100 (0:UInt8)=q:=⟨_,rfl⟩
 have hZl:ZL.length=100:=by rw [←hZL];simp
 obtain ⟨Z,hZ,hmk⟩:∃ Z:List Value,ZL.map u8v=Z∧∀ W:World,(Instr.makeSlice 37 (.int .i64 100) (.int .i64 100)).run Tryz.prog W=.ok (.slice (some ⟨W.heap.size,0,none⟩) 100 100) (W.alloc (.cells Z.toArray 5)):=⟨_,rfl,fun W=>by
  rw [←hZL,←zeros_made]
  exact run_make_row' 37 5 (.int .u8 0) 1 Tryz.underlying37 (by kernel_rfl) rfl .i64 .i64 100 (by omega) (by omega) W⟩
 have HZ:=Lh hZ
 clear hZL hZ
 go_enter Tryz.func13,Tryz.ntmps13
 go_wp2_with fail
 refine HBg.out.mono ?_
 rintro e w1 ⟨x,gb,gr,gq,rfl,hm,hbeg,hblk,hgb,hgb1,hf,hb1⟩
 have HX1:=Lh (⟨hm,hbeg,hblk,hgb,hgb1,hf,hb1⟩:x.Mem w1∧Beg x 10∧Blk w1 gb 35 (bothV x gr gq)∧¬x.fp gb∧w.heap.size≤gb∧(∀ b,x.fp b→w.heap.size≤b)∧Below w.heap.size w w1)
 have q1:∀ w:World,(binOp .eql 25 (.pointer (some ⟨gb,0,none⟩)) (.pointer none)).run Tryz.prog w=.ok (.bool false) w:=fun _=>rfl
 have hs1:=hb1.size
 obtain ⟨w2,hw2⟩:∃ q,w1.alloc (.cells Z.toArray 5)=q:=⟨_,rfl⟩
 have hb2:Below w1.heap.size w1 w2:=by rw [←hw2];exact (Below.refl _ _).alloc nL _
 have hrd:Bs w2 (some ⟨w1.heap.size,0,none⟩) ZL:=by rw [←hw2,←HZ.out];exact Rd.new w1 _ _
 have hl12:w1.heap.size<w2.heap.size:=by rw [←hw2];simp
 have HM2:=Lh (hm.later hb2)
 have HB2:=Lh (hblk.later hb2)
 have HRd2:=Lh hrd
 have Hb2:=Lh hb2
 have hb3:=HB2.out.cell 3
 simp only [bothV,Zt,Zz,Zs] at hb3
 have hAx:∀ q,bk (some (⟨w1.heap.size,0,none⟩:Addr))=some q→q<w2.heap.size∧¬x.fp q:=fun q hq=>by
  cases hq
  exact ⟨hl12,fun hf=>by have:=hm.in_ w1.heap.size hf;omega⟩
 have HAx:=Lh hAx
 have HSv:=Lh (chunksSave x (some ⟨w1.heap.size,0,none⟩) 100 100 ZL w2 HM2.out ((hbeg.small (by omega)).mono (by omega)) hZl hrd hAx (by omega) (by omega) (by omega))
 clear hm hbeg hblk hgb hf hb1 hrd hb2 hAx HBg
 go_wp2_with fail
 refine HSv.out.mono ?_
 rintro e w3 ⟨y,v,rfl,hsr,hst⟩
 obtain ⟨b0,rfl,hb0,hkl,hld,hwh⟩:=save_first hsr HM2.out HX1.out.2.1 (by omega) (by omega)
 have hcv:ckv (b0,ZL.length)=.agg #[.int .i64 (b0:Int),.int .i64 100]:=by rw [hZl];rfl
 rw [hcv]
 have hbl1:b0<4611686018427387904:=by omega
 have hgbl:gb<w1.heap.size:=HX1.out.2.2.1.lt
 -- what lies beside the system
 have HST3:=Lh hst
 have HY3:=Lh hst.mem
 have hs3:=hst.chg.size
 have HB3:=Lh (Blk.chg HB2.out hst.chg HX1.out.2.2.2.1)
 have HRd3:=Lh (Rd.same HRd2.out (fun q hq=>hst.chg.block q (HAx.out q hq).1 (HAx.out q hq).2):Bs w3 (some ⟨w1.heap.size,0,none⟩) ZL)
 have HF3:=Lh (⟨hst.nf (by omega) HX1.out.2.2.2.1,fun q hq=>⟨lT (HAx.out q hq).1 hs3,hst.nf (HAx.out q hq).1 (HAx.out q hq).2⟩⟩:¬y.fp gb∧∀ q,bk (some (⟨w1.heap.size,0,none⟩:Addr))=some q→q<w3.heap.size∧¬y.fp q)
 have HK3:=Lh (⟨hkl,hld,hwh⟩:y.s.kl (shaL ZL)=[(b0,ZL.length)]∧loadL (y.c.view y.d) b0 (ZL.length:Int)=some ZL∧∀ b,(y.s.wh b).isSome=true↔b=b0)
 have HSm3:=Lh (hsr.small ((HX1.out.2.1).small (by omega)))
 have hsg3:y.s.g=x.s.g:=hst.same.s
 obtain ⟨w4,hw4⟩:∃ q,w3.alloc (.cells #[.int .i64 (b0:Int),.int .i64 100] 24)=q:=⟨_,rfl⟩
 have hb4:Below w3.heap.size w3 w4:=by rw [←hw4];exact (Below.refl _ _).alloc nL _
 have hc4:Blk w4 w3.heap.size 24 #[.int .i64 (b0:Int),.int .i64 100]:=by rw [←hw4];exact Blk.new w3 _ _
 have HC4:=Lh (⟨hc4,fun hf=>by have:=HY3.out.in_ w3.heap.size hf;omega⟩:Blk w4 w3.heap.size 24 #[.int .i64 (b0:Int),.int .i64 100]∧¬y.fp w3.heap.size)
 have hs4:=hb4.size
 have hc4l:=hc4.lt
 have HB4:=Lh (HB3.out.later hb4)
 have hb3:=HB4.out.cell 3
 simp only [bothV,Zt,Zz,Zs] at hb3
 have HY4:=Lh (HY3.out.later hb4)
 have HSv2:=Lh (by
  have h:=chunksSave y (some ⟨w1.heap.size,0,none⟩) 100 100 ZL w4 HY4.out (HSm3.out.mono (by omega)) hZl (HRd3.out.later hb4) (fun q hq=>⟨by have:=(HF3.out.2 q hq).1;omega,(HF3.out.2 q hq).2⟩) (by omega) (by omega) (by omega)
  rw [hsg3] at h
  exact h:Calls Tryz.prog 14 #[.pointer (some ⟨x.s.g,0,none⟩),.slice (some ⟨w1.heap.size,0,none⟩) 100 100] w4 (savePost y ZL w4))
 have Hb4:=Lh hb4
 clear hsr hst hkl hld hwh HSv hb4 hc4
 go_wp2_with fail
 clear hw4
 refine HSv2.out.mono ?_
 rintro e w5 ⟨z,v,rfl,hsr,hst⟩
 obtain ⟨q,rfl,hq,-,hv5,hwh5,-,-⟩:=save_again hsr (by omega) (p:=(b0,ZL.length)) (by rw [HK3.out.1];simp) HK3.out.2.1
 rw [HK3.out.1,List.mem_singleton] at hq
 subst hq
 rw [hcv]
 have hs5:=hst.chg.size
 have HZ5:=Lh hst.mem
 have HB5:=Lh (Blk.chg HB4.out hst.chg HF3.out.1)
 have HC5:=Lh (Blk.chg HC4.out.1 hst.chg HC4.out.2)
 have HF5:=Lh (⟨hst.nf (by omega) HF3.out.1,hst.nf hc4l HC4.out.2⟩:¬z.fp gb∧¬z.fp w3.heap.size)
 have hsg5:z.s.g=x.s.g:=hst.same.s.trans hsg3
 have HST5:=Lh hst
 have HV5:=Lh hv5
 have hnW:z.s.nW=1:=IntT.one (hst.mem.sm.mW) hbl1 (fun b=>by rw [hwh5];exact HK3.out.2.2 b)
 obtain ⟨w6,hw6⟩:∃ q,w5.alloc (.cells #[.int .i64 (b0:Int),.int .i64 100] 24)=q:=⟨_,rfl⟩
 have hb6:Below w5.heap.size w5 w6:=by rw [←hw6];exact (Below.refl _ _).alloc nL _
 have hc6:Blk w6 w5.heap.size 24 #[.int .i64 (b0:Int),.int .i64 100]:=by rw [←hw6];exact Blk.new w5 _ _
 have HZ6:=Lh (HZ5.out.later hb6)
 have HB6:=Lh (HB5.out.later hb6)
 have HC6:=Lh (HC5.out.later hb6)
 have HE6:=Lh hc6
 have hs6:=hb6.size
 have Hb6:=Lh hb6
 clear hsr hst hv5 hwh5 HSv2 hb3
 go_wp2_with fail
 clear hw6
 have hZli:(ZL.length:Int)=100:=by omega
 have hldz:loadL (z.c.view z.d) b0 100=some ZL:=by rw [(funext HV5.out:z.c.view z.d=y.c.view y.d),←hZli];exact HK3.out.2.1
 have HZ6d:=Lh (show z.Mem w6.drew from HZ6.out.later (Below.refl _ _).drew)
 have HLd:=Lh (by
  have h:=chunksLoad z.s.g z.c z.d b0 100 w6.drew HZ6d.out.cm HZ6d.out.ci hb0 (by omega) (by omega) HZ6d.out.sm.cells.1 (fun hf=>HZ6d.out.ap1 _ hf (.inl (.inl rfl)))
  rw [hsg5] at h
  refine h.mono (fun e w' hp=>?_)
  obtain ⟨c',hn,h2⟩:=hp
  rw [hldz] at h2
  obtain ⟨A,m,cc,h3,h4,-⟩:=h2
  obtain rfl:m=100:=by have:=h4.1;omega
  exact ⟨c',A,cc,h3,hn⟩:Calls Tryz.prog 11 #[.pointer (some ⟨x.s.g,0,none⟩),.agg #[.int .i64 (b0:Int),.int .i64 100]] w6.drew (fun e w'=>∃ (c':Cch) (A:OA) (cc:Nat),e=.returned (.tuple #[.slice A 100 cc,.int .i64 0])∧z.c.Next c' z.d w6.drew w'))
 have KS:=Lh (fun (W:World) (h1:Blk W gb 35 (bothV x gr gq)) (h2:Blk W w3.heap.size 24 #[.int .i64 (b0:Int),.int .i64 100])=>(by
  have c0:=h2.cell 0
  have c1:=h2.cell 1
  have c3:=h1.cell 3
  simp only [bothV,Zt,Zz,Zs] at c0 c1 c3
  exact ⟨c3,c0,c1⟩:W.cell? ⟨gb,3,none⟩=some (.pointer (some ⟨x.s.g,0,none⟩))∧W.cell? ⟨w3.heap.size,0,none⟩=some (.int .i64 (b0:Int))∧W.cell? ⟨w3.heap.size,1,none⟩=some (.int .i64 100)))
 have S6:=Lh (KS.out w6 HB6.out HC6.out)
 clear hldz
 go_region_held3 (fun W=>W.cell? ⟨gb,3,none⟩=some (.pointer (some ⟨x.s.g,0,none⟩))∧W.cell? ⟨w3.heap.size,0,none⟩=some (.int .i64 (b0:Int))∧W.cell? ⟨w3.heap.size,1,none⟩=some (.int .i64 100))
  (first|(exact S6.out)|(exact S7.out)|go_keep)
  (first|(go_at_call 11;refine HLd.out.mono ?_;rintro e w7 ⟨c',A,cc,rfl,hn⟩;have HN7:=Lh (HZ6d.out.next hn);have HB7:=Lh (Blk.chg (show Blk w6.drew gb 35 (bothV x gr gq) from HB6.out) HN7.out.chg HF5.out.1);have HC7:=Lh (Blk.chg (show Blk w6.drew w3.heap.size 24 #[.int .i64 (b0:Int),.int .i64 100] from HC6.out) HN7.out.chg HF5.out.2);have S7:=Lh (KS.out w7 HB7.out HC7.out)))
 have HE7:=Lh (Blk.chg (show Blk w6.drew w5.heap.size 24 #[.int .i64 (b0:Int),.int .i64 100] from HE6.out) HN7.out.chg (fun hf=>by have:=HZ5.out.in_ w5.heap.size hf;omega))
 obtain ⟨t3,p0,p1⟩:=S7.out
 have d0:=HE7.out.cell 0
 have d1:=HE7.out.cell 1
 simp only [Zt,Zz,Zs] at d0 d1
 have HKn:=Lh (by
  have h:=chunksKnown z.s c'.g z.m.a.g w7 HN7.out.mem.sm
  rw [hsg5,hnW] at h
  exact h:Calls Tryz.prog 19 #[.pointer (some ⟨x.s.g,0,none⟩)] w7 (fun e w'=>e=.returned (.int .i64 ((1:Nat):Int))∧w'=w7))
 clear hn
 go_wp2_with fail
 refine HKn.out.mono ?_
 rintro e w8 ⟨rfl,rfl⟩
 clear HKn
 go_wp2
 rw [←HRe.out]
 refine ⟨rfl,?_⟩
 have hfx:∀ b,x.fp b→w.heap.size≤b:=HX1.out.2.2.2.2.2.1
 have hfy:∀ b,y.fp b→w.heap.size≤b:=fun b hb=>(HST3.out.fp b hb).elim (hfx b) (fun h=>by omega)
 have hfz:∀ b,z.fp b→w.heap.size≤b:=fun b hb=>(HST5.out.fp b hb).elim (hfy b) (fun h=>by omega)
 have h2:Below w.heap.size w w2:=HX1.out.2.2.2.2.2.2.trans (Hb2.out.mono hs1)
 have h3:Below w.heap.size w w3:=h2.trans (HST3.out.chg.below hfx h2.size)
 have h4:Below w.heap.size w w4:=h3.trans (Hb4.out.mono h3.size)
 have h5:Below w.heap.size w w5:=h4.trans (HST5.out.chg.below hfy h4.size)
 have h6:Below w.heap.size w w6:=h5.trans (Hb6.out.mono h5.size)
 exact h6.drew.trans (HN7.out.chg.below hfz h6.size)
end Go.Proofs.YtiihiocgbfafaaaGreat
