/- K1 K2 K3 K4 L14 G11 L15 L18 K5 K7 L22 -/
import Derived.Test.YtiihiocgbfafaaaGreatKKd
import Derived.Test.YtiihiocgbfafaaaGreatKKe
import Derived.Test.YtiihiocgbfafaaaGreatKKo
import Derived.WideKeyEntry
import Derived.Maps.Range
import Derived.Deep.OwnRows
set_option linter.unusedSimpArgs false
set_option linter.unusedVariables false
set_option maxHeartbeats 8000000
set_option maxRecDepth 100000
namespace Go.Proofs.YtiihiocgbfafaaaGreat
open Go.RowKit
structure Alc where
 g:Nat
 gS:Nat
 least:Nat
 len:Nat
 free:Nat
def Alc.row (a:Alc) (s:Value):Array Value:=#[.int .i64 (a.least:Int),.slice (some ⟨a.gS,0,none⟩) a.len a.len,s,.int .i64 (a.free:Int),.int .i64 0,.int .i64 0]
structure Que (a:Alc) (w:World) (A:OA) (n c:Nat) (l:List Nat):Prop where
 row:Blk w a.g 111 (a.row (.slice A n c))
 own:NatR.Own w 0 A n c l
 ne:bk A≠some a.g
theorem Que.cell {a:Alc} {w:World} {A:OA} {n c:Nat} {l:List Nat} (h:Que a w A n c l):w.cell? ⟨a.g,2,none⟩=some (.slice A n c):=by
 have:=h.row.cell 2
 simpa [Alc.row] using this
theorem Que.below {a:Alc} {w w':World} {A:OA} {n c:Nat} {l:List Nat} (h:Que a w A n c l) (hb:Below w.heap.size w w'):Que a w' A n c l:=⟨h.row.later hb,h.own.later hb,h.ne⟩
theorem Que.grown {a:Alc} {w w':World} {A:OA} {n c:Nat} {l l':List Nat} (h:Que a w A n c l) (hg:w.grownBy w' (bk A)) (ho:NatR.Own w' 0 A n c l'):Que a w' A n c l':=⟨h.row.kept hg (fun e=>h.ne e),ho,h.ne⟩
theorem load_numbers {p:Addr} {n c:Nat} {A:OA} {w:World} (h:w.cell? p=some (.slice A n c)):(loadVar 109 p).run Tryz.prog w=.ok (.slice A n c) w:=by
 simp [loadVar,h,go_sem]
theorem q_Len {p : Addr} {n c : Nat} {A : OA} {w : World} (h : w.cell? p = some (.slice A n c)) : (method 411 157 (.pointer (some p)) "Len").run Tryz.prog w = .ok (209, .slice A n c) w := by
 rw [m_gen _ _ 209 _ _ 109 _ _ (by kernel_rfl) (by kernel_rfl),load_numbers h];rfl
theorem q_Less {p : Addr} {n c : Nat} {A : OA} {w : World} (h : w.cell? p = some (.slice A n c)) : (method 411 157 (.pointer (some p)) "Less").run Tryz.prog w = .ok (210, .slice A n c) w := by
 rw [m_gen _ _ 210 _ _ 109 _ _ (by kernel_rfl) (by kernel_rfl),load_numbers h];rfl
theorem q_Swap {p : Addr} {n c : Nat} {A : OA} {w : World} (h : w.cell? p = some (.slice A n c)) : (method 411 157 (.pointer (some p)) "Swap").run Tryz.prog w = .ok (211, .slice A n c) w := by
 rw [m_gen _ _ 211 _ _ 109 _ _ (by kernel_rfl) (by kernel_rfl),load_numbers h];rfl
theorem q_Pop (a : Addr) (w : World) : (method 411 157 (.pointer (some a)) "Pop").run Tryz.prog w = .ok (212, .pointer (some a)) w := by kernel_rfl
theorem NatR.at_ {w:World} {base n c:Nat} {A:OA} {l:List Nat} (h:NatR.Own w base A n c l) {i x:Nat} (hx:l[i]? = some x):
 ∃ g,A=some ⟨g,0,none⟩∧g<w.heap.size∧w.cell? ⟨g,i,none⟩=some (.int .i64 (x:Int))∧∀ j,w.frozen? ⟨g,j,none⟩=false:=by
 obtain ⟨g,e,-,hl,hr,hf⟩:=h.range hx
 have:=hr 0 (natv x) rfl
 rw [Nat.add_zero,show i*NatR.k=i from Nat.mul_one i] at this
 exact ⟨g,e,hl,this,hf⟩
theorem NatR.set {w:World} {base n c g:Nat} {l:List Nat} (h:NatR.Own w base (some ⟨g,0,none⟩) n c l) {i:Nat} (hi:i<n) (x:Nat):NatR.Own (w.setCell ⟨g,i,none⟩ (.int .i64 (x:Int))) base (some ⟨g,0,none⟩) n c (l.set i x):=by
 have h1:=(RowT.Own.put h hi x).1
 have hsc:w.setCells g (i*NatR.k) (NatR.cl x)=w.setCell ⟨g,i,none⟩ (.int .i64 (x:Int)):=by
  show (w.setCell ⟨g,i*1,none⟩ (.int .i64 (x:Int)))=_
  rw [Nat.mul_one]
 rw [hsc] at h1
 exact h1
theorem numLen (A:OA) (n c:Nat) (w:World):Calls Tryz.prog 209 #[.slice A n c] w fun e w'=>e=.returned (.int .i64 (n:Int))∧w'=w:=by
 go_enter Tryz.func209,Tryz.ntmps209
 go_wp2
 go_ret
 exact ⟨rfl,rfl⟩
theorem numLess (A:OA) (n c:Nat) (l:List Nat) (i k x y:Nat) (w:World) (h:NatR.Own w 0 A n c l) (hx:l[i]? = some x) (hy:l[k]? = some y):
 Calls Tryz.prog 210 #[.slice A n c,.int .i64 (i:Int),.int .i64 (k:Int)] w fun e w'=>e=.returned (.bool (decide ((x:Int)<(y:Int))))∧∃ q,w'=w.drewN q:=by
 have hl:=h.length
 have hi:i<n:=by rw [←hl];exact (Ze hx).1
 have hk:k<n:=by rw [←hl];exact (Ze hy).1
 obtain ⟨g,rfl,hg,a0,-⟩:=NatR.at_ h hx
 obtain ⟨g',hg',-,b0,-⟩:=NatR.at_ h hy
 cases hg'
 have i1:(0:Int)≤(i:Int):=by omega
 have i2:(i:Int)<(n:Int):=by omega
 have k1:(0:Int)≤(k:Int):=by omega
 have k2:(k:Int)<(n:Int):=by omega
 clear h hx hy hl
 go_enter Tryz.func210,Tryz.ntmps210
 go_wp2
 go_quiet (fail)
 go_wp2
 go_ret
 exact ⟨by simp,_,rfl⟩
theorem numSwap (A:OA) (n c:Nat) (l:List Nat) (i k x y:Nat) (w:World) (h:NatR.Own w 0 A n c l) (hx:l[i]? = some x) (hy:l[k]? = some y):
 Calls Tryz.prog 211 #[.slice A n c,.int .i64 (i:Int),.int .i64 (k:Int)] w fun e w'=>(∃ v,e=.returned v)∧NatR.Own w' 0 A n c ((l.set i y).set k x)∧w.grownBy w' (bk A):=by
 have hl:=h.length
 have hi:i<n:=by rw [←hl];exact (Ze hx).1
 have hk:k<n:=by rw [←hl];exact (Ze hy).1
 obtain ⟨g,rfl,hg,a0,f0⟩:=NatR.at_ h hx
 obtain ⟨g',hg',-,b0,-⟩:=NatR.at_ h hy
 cases hg'
 have i1:(0:Int)≤(i:Int):=by omega
 have i2:(i:Int)<(n:Int):=by omega
 have k1:(0:Int)≤(k:Int):=by omega
 have k2:(k:Int)<(n:Int):=by omega
 have h3:=NatR.set h hi y
 have h4:=NatR.set h3 hk x
 have HO:=Lh h4
 have HG:=Lh (grown_trans (grown_set w ⟨g,i,none⟩ (.int .i64 (y:Int))) (grown_set _ ⟨g,k,none⟩ (.int .i64 (x:Int))):w.grownBy _ (some g))
 have hfi:=f0 i
 have hfk:=f0 k
 have hck:∃ z,(l.set i y)[k]? = some z:=⟨_,Zg (by rw [List.length_set,hl];exact hk)⟩
 obtain ⟨z,hz⟩:=hck
 obtain ⟨g',hg',-,d0,df⟩:=NatR.at_ h3 hz
 cases hg'
 have dfk:=df k
 clear h hx hy hl h3 h4 f0 df hz
 go_enter Tryz.func211,Tryz.ntmps211
 go_wp2
 go_region
 go_wp2
 go_end0
 exact ⟨⟨_,rfl⟩,HO.out.later ((Below.refl _ _).drew),grown_trans HG.out (grown_below (Below.refl _ _).drew)⟩
theorem perm_swap {l:List Nat} {i k x y:Nat} (hx:l[i]? = some x) (hy:l[k]? = some y):((l.set i y).set k x).Perm l:=by
 obtain ⟨hi,rfl⟩:=Ze hx
 obtain ⟨hk,rfl⟩:=Ze hy
 exact List.set_set_perm hi hk
def Alc.wq (a:Alc) (A:OA):Fp:=fun b=>b=a.g∨bk A=some b
theorem qDown (a:Alc) (A:OA) (N c:Nat) (l:List Nat) (i0 n:Nat) (w:World) (h:Que a w A N c l) (hn:n≤N) (hN:N≤1000000) (hi0:i0≤n):
 Calls Tryz.prog 114 #[.iface 157 (.pointer (some ⟨a.g,2,none⟩)),.int .i64 (i0:Int),.int .i64 (n:Int)] w fun e w'=>(∃ v,e=.returned v)∧∃ l',Que a w' A N c l'∧l'.Perm l∧l'.drop n=l.drop n∧Chg (fun b=>bk A=some b) w w':=by
 have H0:=Lh h
 clear h
 go_enter Tryz.func114,Tryz.ntmps114
 go_wp2
 go_loopg [7] n (fun gg s7 wr=>∃ (i:Nat) (l':List Nat),s7=.int .i64 (i:Int)∧n-i≤gg∧i≤n∧Que a wr A N c l'∧l'.Perm l∧l'.drop n=l.drop n∧Chg (fun b=>bk A=some b) w wr)
 case atStart=>exact ⟨i0,l,rfl,by omega,hi0,H0.out,List.Perm.refl _,rfl,Chg.refl _ _⟩
 case round=>
  obtain ⟨i,l',rfl,hgg,hin,hh,hp,hdr,hch⟩:=hrel
  have HH:=Lh hh
  have HP:=Lh hp
  have HDr:=Lh hdr
  have HC:=Lh hch
  have HLen:=Lh hh.own.length
  clear hh hp hdr hch
  have e1:IntKind.i64.wrap (2*(i:Int))=2*(i:Int):=wrapi64 (by omega) (by omega)
  have e2:IntKind.i64.wrap (2*(i:Int)+1)=((2*i+1:Nat):Int):=by rw [wrapi64 (by omega) (by omega)];rfl
  obtain ⟨j1,hj1⟩:∃ j1,2*i+1=j1:=⟨_,rfl⟩
  rw [hj1] at e2
  by_cases hleaf:n≤j1
  ·have g1:decide ((n:Int)≤(j1:Int))=true:=qT (by omega)
   clear hj1
   go_wp2
   go_ret
   exact ⟨⟨_,rfl⟩,l',HH.out,HP.out,HDr.out,HC.out⟩
  ·have g1:decide ((n:Int)≤(j1:Int))=false:=qF (by omega)
   have g2:decide ((j1:Int)<0)=false:=qF (by omega)
   have e3:IntKind.i64.wrap ((j1:Int)+1)=((j1+1:Nat):Int):=by rw [wrapi64 (by omega) (by omega)];rfl
   have hml:=q_Less HH.out.cell
   have hxi:l'[i]? = some (l'[i]'(by rw [HLen.out];omega)):=Zg _
   have hxj:l'[j1]? = some (l'[j1]'(by rw [HLen.out];omega)):=Zg _
   generalize l'[i]'(by rw [HLen.out];omega)=xi at hxi
   generalize l'[j1]'(by rw [HLen.out];omega)=xj at hxj
   have HXi:=Lh hxi
   have HXj:=Lh hxj
   clear hxi hxj
   by_cases h2:j1+1<n
   ·have g3:decide (((j1+1:Nat):Int)<(n:Int))=true:=qT (by omega)
    have hxk:l'[j1+1]? = some (l'[j1+1]'(by rw [HLen.out];omega)):=Zg _
    generalize l'[j1+1]'(by rw [HLen.out];omega)=xk at hxk
    have HXk:=Lh hxk
    clear hxk
    have HLa:Calls Tryz.prog 210 #[.slice A N c,.int .i64 ((j1:Int)+1),.int .i64 (j1:Int)] wr _:=numLess A N c l' (j1+1) j1 xk xj wr HH.out.own HXk.out HXj.out
    have HLs:=Lh HLa
    clear HLa
    go_wp2_with fail
    refine HLs.out.mono ?_
    rintro e w1 ⟨rfl,q1,hw1⟩
    have HH1:=Lh (show Que a w1 A N c l' by rw [hw1];exact HH.out.below (below_drewN wr q1))
    have HC1:=Lh (show Chg (fun b=>bk A=some b) w w1 by rw [hw1];exact HC.out.tr (Chg.drewN _ _ _))
    clear HLs hw1
    cases hc:decide ((xk:Int)<(xj:Int)) with
    | true=>
      have hml2:=q_Less HH1.out.cell
      have HLt:Calls Tryz.prog 210 #[.slice A N c,.int .i64 ((j1:Int)+1),.int .i64 (i:Int)] w1 _:=numLess A N c l' (j1+1) i xk xi w1 HH1.out.own HXk.out HXi.out
      have HLs2:=Lh HLt
      clear HLt
      go_wp2_with fail
      refine HLs2.out.mono ?_
      rintro e w2 ⟨rfl,q2,hw2⟩
      have HH2:=Lh (show Que a w2 A N c l' by rw [hw2];exact HH1.out.below (below_drewN w1 q2))
      have HC2:=Lh (show Chg (fun b=>bk A=some b) w w2 by rw [hw2];exact HC1.out.tr (Chg.drewN _ _ _))
      clear hw2
      cases hlt:decide ((xk:Int)<(xi:Int)) with
      | false=>
        clear hj1 HLs2
        go_wp2
        go_ret
        exact ⟨⟨_,rfl⟩,l',HH2.out,HP.out,HDr.out,HC2.out⟩
      | true=>
        have hms:=q_Swap HH2.out.cell
        have HSc:Calls Tryz.prog 211 #[.slice A N c,.int .i64 (i:Int),.int .i64 ((j1:Int)+1)] w2 _:=numSwap A N c l' i (j1+1) xi xk w2 HH2.out.own HXi.out HXk.out
        have HSc2:=Lh HSc
        have HPm:=Lh (perm_swap HXi.out HXk.out)
        have HDp:=Lh (show ((l'.set i xk).set (j1+1) xi).drop n=l'.drop n by rw [List.drop_set_of_lt (by omega),List.drop_set_of_lt (by omega)])
        clear HSc HLs2
        go_wp2_with fail
        refine HSc2.out.mono ?_
        rintro e w3 ⟨⟨v3,rfl⟩,hrow3,hgr3⟩
        have HH3:=Lh (HH2.out.grown hgr3 hrow3)
        have HC3:=Lh (HC2.out.tr (Chg.of_grown hgr3 (fun b hb _=>hb)))
        clear hrow3 hgr3 HSc2 hms
        go_wp2
        go_roundg (n-(j1+1))
        case measure=>omega
        case rel=>exact ⟨(j1+1),_,by go_num,by omega,by omega,HH3.out,HPm.out.trans HP.out,HDp.out.trans HDr.out,HC3.out⟩
    | false=>
      have hml2:=q_Less HH1.out.cell
      have HLt:Calls Tryz.prog 210 #[.slice A N c,.int .i64 (j1:Int),.int .i64 (i:Int)] w1 _:=numLess A N c l' j1 i xj xi w1 HH1.out.own HXj.out HXi.out
      have HLs2:=Lh HLt
      clear HLt
      go_wp2_with fail
      refine HLs2.out.mono ?_
      rintro e w2 ⟨rfl,q2,hw2⟩
      have HH2:=Lh (show Que a w2 A N c l' by rw [hw2];exact HH1.out.below (below_drewN w1 q2))
      have HC2:=Lh (show Chg (fun b=>bk A=some b) w w2 by rw [hw2];exact HC1.out.tr (Chg.drewN _ _ _))
      clear hw2
      cases hlt:decide ((xj:Int)<(xi:Int)) with
      | false=>
        clear hj1 HLs2
        go_wp2
        go_ret
        exact ⟨⟨_,rfl⟩,l',HH2.out,HP.out,HDr.out,HC2.out⟩
      | true=>
        have hms:=q_Swap HH2.out.cell
        have HSc:Calls Tryz.prog 211 #[.slice A N c,.int .i64 (i:Int),.int .i64 (j1:Int)] w2 _:=numSwap A N c l' i j1 xi xj w2 HH2.out.own HXi.out HXj.out
        have HSc2:=Lh HSc
        have HPm:=Lh (perm_swap HXi.out HXj.out)
        have HDp:=Lh (show ((l'.set i xj).set j1 xi).drop n=l'.drop n by rw [List.drop_set_of_lt (by omega),List.drop_set_of_lt (by omega)])
        clear HSc HLs2
        go_wp2_with fail
        refine HSc2.out.mono ?_
        rintro e w3 ⟨⟨v3,rfl⟩,hrow3,hgr3⟩
        have HH3:=Lh (HH2.out.grown hgr3 hrow3)
        have HC3:=Lh (HC2.out.tr (Chg.of_grown hgr3 (fun b hb _=>hb)))
        clear hrow3 hgr3 HSc2 hms
        go_wp2
        go_roundg (n-j1)
        case measure=>omega
        case rel=>exact ⟨j1,_,by go_num,by omega,by omega,HH3.out,HPm.out.trans HP.out,HDp.out.trans HDr.out,HC3.out⟩
   ·have g3:decide (((j1+1:Nat):Int)<(n:Int))=false:=qF (by omega)
    obtain ⟨w1,hw1⟩:∃ x,wr=x:=⟨_,rfl⟩
    have HH1:=Lh (by rw [←hw1];exact HH.out:Que a w1 A N c l')
    have HC1:=Lh (by rw [←hw1];exact HC.out:Chg (fun b=>bk A=some b) w w1)
    rw [hw1]
    clear hw1
    have hml2:=q_Less HH1.out.cell
    have HLt:Calls Tryz.prog 210 #[.slice A N c,.int .i64 (j1:Int),.int .i64 (i:Int)] w1 _:=numLess A N c l' j1 i xj xi w1 HH1.out.own HXj.out HXi.out
    have HLs2:=Lh HLt
    clear HLt
    go_wp2_with fail
    refine HLs2.out.mono ?_
    rintro e w2 ⟨rfl,q2,hw2⟩
    have HH2:=Lh (show Que a w2 A N c l' by rw [hw2];exact HH1.out.below (below_drewN w1 q2))
    have HC2:=Lh (show Chg (fun b=>bk A=some b) w w2 by rw [hw2];exact HC1.out.tr (Chg.drewN _ _ _))
    clear hw2
    cases hlt:decide ((xj:Int)<(xi:Int)) with
    | false=>
      clear hj1 HLs2
      go_wp2
      go_ret
      exact ⟨⟨_,rfl⟩,l',HH2.out,HP.out,HDr.out,HC2.out⟩
    | true=>
      have hms:=q_Swap HH2.out.cell
      have HSc:Calls Tryz.prog 211 #[.slice A N c,.int .i64 (i:Int),.int .i64 (j1:Int)] w2 _:=numSwap A N c l' i j1 xi xj w2 HH2.out.own HXi.out HXj.out
      have HSc2:=Lh HSc
      have HPm:=Lh (perm_swap HXi.out HXj.out)
      have HDp:=Lh (show ((l'.set i xj).set j1 xi).drop n=l'.drop n by rw [List.drop_set_of_lt (by omega),List.drop_set_of_lt (by omega)])
      clear HSc HLs2
      go_wp2_with fail
      refine HSc2.out.mono ?_
      rintro e w3 ⟨⟨v3,rfl⟩,hrow3,hgr3⟩
      have HH3:=Lh (HH2.out.grown hgr3 hrow3)
      have HC3:=Lh (HC2.out.tr (Chg.of_grown hgr3 (fun b hb _=>hb)))
      clear hrow3 hgr3 HSc2 hms
      go_wp2
      go_roundg (n-j1)
      case measure=>omega
      case rel=>exact ⟨j1,_,by go_num,by omega,by omega,HH3.out,HPm.out.trans HP.out,HDp.out.trans HDr.out,HC3.out⟩
theorem elemM:Elem Tryz.prog 109 3 (.int .i64 0) 8:=⟨Tryz.underlying109,by kernel_rfl,rfl,rfl⟩
def NumR:RowT Nat:={
 st:=109
 e:=3
 k:=1
 bytes:=8
 z:=.int .i64 0
 hu:=Tryz.underlying109
 hi:=by kernel_rfl
 hz:=rfl
 hk:=by decide
 hb:=by decide
 cl x:=[natv x]
 hl _:=rfl
 h1 _ v hv:=by rw [List.mem_singleton] at hv;subst hv;rfl }
theorem numPop (a:Alc) (A:OA) (m c:Nat) (l:List Nat) (x:Nat) (w:World) (h:Que a w A (m+1) c l) (hx:l[m]? = some x) (hm:m≤1000000000):
 Calls Tryz.prog 212 #[.pointer (some ⟨a.g,2,none⟩)] w fun e w'=>e=.returned (.iface 3 (.int .i64 (x:Int)))∧Que a w' A m c (l.take m)∧Chg (fun b=>b=a.g) w w':=by
 obtain ⟨g,rfl,hg,a0,-⟩:=NatR.at_ h.own hx
 have hcell:=h.cell
 have hfx:=h.row.frozen 2
 have hcap:=h.own.cap
 have i1:(0:Int)≤(m:Int):=by omega
 have i2:(m:Int)<((m+1:Nat):Int):=by omega
 have e1:IntKind.i64.wrap (((m+1:Nat):Int)-1)=(m:Int):=by rw [wrapi64 (by omega) (by omega)];omega
 have hne:g≠a.g:=fun e=>h.ne (by rw [e];rfl)
 have HH:=Lh h
 clear h hx
 go_enter Tryz.func212,Tryz.ntmps212
 go_wp2_with (with_reducible refine wpList_slice_hi ?g ?s ?h elemM ?ho (some ⟨g,0,none⟩) (m+1) c m ?hs ?hh ?hk ?_;(case ho=>exact rfl);(case g=>exact rfl);(case hs=>simp [Act.eval]);(case hh=>simp [Act.eval]);(case hk=>omega))
 go_ret
 have hc:Chg (fun b=>b=a.g) w (w.setCell ⟨a.g,2,none⟩ (.slice (some ⟨g,0,none⟩) m c)):=Chg.setCell _ _ _ rfl
 refine ⟨rfl,⟨?_,(RowT.Own.take HH.out.own (by omega)).chg hc (fun k hk e=>hne (by cases hk;exact e)),HH.out.ne⟩,hc⟩
 have:=Blk.set HH.out.row 2 (.slice (some ⟨g,0,none⟩) m c)
 simpa [Alc.row] using this
theorem assert_int (v:Value) (w:World):(Instr.typeAssert (.iface 3 v) 20 3 false).run Tryz.prog w=.ok v w:=by kernel_rfl
theorem qPop (a:Alc) (A:OA) (M c:Nat) (l:List Nat) (w:World) (h:Que a w A (M+1) c l) (hM2:M≤999999):
 Calls Tryz.prog 78 #[.iface 157 (.pointer (some ⟨a.g,2,none⟩))] w fun e w'=>∃ (x:Nat) (l':List Nat),e=.returned (.iface 3 (.int .i64 (x:Int)))∧Que a w' A M c l'∧(x::l').Perm l∧Chg (a.wq A) w w':=by
 have H0:=Lh h
 have hml:=q_Len h.cell
 have HLen0:=Lh (numLen A (M+1) c w)
 have hlen:=h.own.length
 have HLen:=Lh hlen
 have hms:=q_Swap h.cell
 have hx0:l[0]? = some (l[0]'(by omega)):=Zg _
 have hxM:l[M]? = some (l[M]'(by omega)):=Zg _
 generalize l[0]'(by omega)=x0 at hx0
 generalize l[M]'(by omega)=xM at hxM
 have HSw:=Lh (numSwap A (M+1) c l 0 M x0 xM w h.own hx0 hxM)
 have HPm:=Lh (perm_swap hx0 hxM)
 have e1:IntKind.i64.wrap (((M+1:Nat):Int)-1)=(M:Int):=by rw [wrapi64 (by omega) (by omega)];omega
 clear h hlen hx0 hxM
 go_enter Tryz.func78,Tryz.ntmps78
 go_wp2_with fail
 refine HLen0.out.mono ?_
 rintro e w1 ⟨rfl,hw1⟩
 obtain rfl:=hw1.symm
 go_wp2_with fail
 refine HSw.out.mono ?_
 rintro e w2 ⟨⟨v2,rfl⟩,hrow2,hgr2⟩
 have hh2:=H0.out.grown hgr2 hrow2
 have HC2:=Lh (Chg.of_grown hgr2 (F:=a.wq A) (fun b hb _=>.inr hb))
 have HDn:=Lh (qDown a A (M+1) c _ 0 M w2 hh2 (by omega) (by omega) (Nat.zero_le _))
 clear hrow2 hgr2 hh2 hml hms HSw e1
 go_wp2_with fail
 refine HDn.out.mono ?_
 rintro e w3 ⟨⟨v3,rfl⟩,l3,hh3,hp3,-,hc3⟩
 have hl3:=hh3.own.length
 have hx:l3[M]? = some (l3[M]'(by omega)):=Zg _
 have hperm:(l3[M]'(by omega)::l3.take M).Perm l:=by
  have e:l3=l3.take M++[l3[M]'(by omega)]:=by
   have h1:=List.take_append_drop M l3
   have h2:l3.drop M=[l3[M]'(by omega)]:=by rw [List.drop_eq_getElem_cons (by omega),List.drop_of_length_le (by omega)]
   rw [h2] at h1
   exact h1.symm
  have p1:(l3[M]'(by omega)::l3.take M).Perm l3:=by
   conv=>rhs;rw [e]
   exact (List.perm_append_singleton _ _).symm
  exact p1.trans (hp3.trans HPm.out)
 generalize l3[M]'(by omega)=x at hx hperm
 have HPop:=Lh (numPop a A M c l3 x w3 hh3 hx (by omega))
 have HPerm:=Lh hperm
 have HC3:=Lh (HC2.out.tr (hc3.mono (fun b _ hb=>.inr hb)))
 have hmp:=q_Pop ⟨a.g,2,none⟩ w3
 clear hh3 hp3 hc3 hl3 hx hperm HDn
 go_wp2_with fail
 refine HPop.out.mono ?_
 rintro e w4 ⟨rfl,hh4,hc4⟩
 have HH4:=Lh hh4
 have HC4:=Lh (HC3.out.tr (hc4.mono (fun b _ hb=>.inl hb)))
 clear hh4 hc4 HPop hmp
 go_wp2
 go_ret
 exact ⟨x,l3.take M,rfl,HH4.out,HPerm.out,HC4.out⟩
structure Amp where
 a:Alc
 S:List UInt8
 q:Sl
 Q:List Nat
structure Amp.Mem (m:Amp) (w:World):Prop where
 que:Que m.a w m.q.p m.q.n m.q.c m.Q
 sts:OwnB w 0 (some ⟨m.a.gS,0,none⟩) m.a.len m.a.len m.S
 a1:m.a.gS≠m.a.g
 a2:bk m.q.p≠some m.a.gS
 lo:m.a.least+m.a.len≤65536
structure Amp.Inv (m:Amp):Prop where
 fr:m.a.free=m.S.count 0
 inq:∀ i:Nat,m.S[i]? = some 0→m.a.least+i∈m.Q
 ql:m.Q.length≤500000
 qb:∀ x,x∈m.Q→x<65536
def Amp.fp (m:Amp):Fp:=fun b=>b=m.a.g∨b=m.a.gS∨bk m.q.p=some b
theorem Amp.Mem.in_ {m:Amp} {w:World} (h:m.Mem w):m.fp.In w:=by
 rintro b (rfl|rfl|hb)
 ·exact h.que.row.lt
 ·exact (Own.lt h.sts rfl).2
 ·exact (h.que.own.lt hb).2
theorem Amp.Mem.same {m:Amp} {w w':World} (h:m.Mem w) (hb:∀ b,m.fp b→w'.heap[b]? = w.heap[b]?):m.Mem w':={
 que:=⟨(hb m.a.g (.inl rfl)).trans h.que.row,h.que.own.same (fun k hk=>hb k (.inr (.inr hk))),h.que.ne⟩
 sts:=Own.same h.sts (fun k hk=>by cases hk;exact hb m.a.gS (.inr (.inl rfl)))
 a1:=h.a1
 a2:=h.a2
 lo:=h.lo }
theorem Amp.Mem.chg {m:Amp} {F:Fp} {w w':World} (h:m.Mem w) (hc:Chg F w w') (ha:m.fp.Ap F):m.Mem w':=h.same (fun b hb=>hc.block b (h.in_ b hb) (ha b hb))
theorem Amp.Mem.later {m:Amp} {w w':World} (h:m.Mem w) (hb:Below w.heap.size w w'):m.Mem w':=h.same (fun b hf=>hb.block b (h.in_ b hf))
def Amp.st (m:Amp) (n:Nat):Option UInt8:=if m.a.least≤n then m.S[n-m.a.least]? else none
theorem Amp.Mem.slen {m:Amp} {w:World} (h:m.Mem w):m.S.length=m.a.len:=OwnB.length h.sts
theorem Amp.Mem.cells {m:Amp} {w:World} (h:m.Mem w):w.cell? ⟨m.a.g,0,none⟩=some (.int .i64 (m.a.least:Int))∧w.cell? ⟨m.a.g,1,none⟩=some (.slice (some ⟨m.a.gS,0,none⟩) m.a.len m.a.len) ∧
 w.cell? ⟨m.a.g,3,none⟩=some (.int .i64 (m.a.free:Int))∧w.cell? ⟨m.a.g,5,none⟩=some (.int .i64 0):=by
 have c0:=h.que.row.cell 0
 have c1:=h.que.row.cell 1
 have c3:=h.que.row.cell 3
 have c5:=h.que.row.cell 5
 simp only [Alc.row,Zt,Zz,Zs] at c0 c1 c3 c5
 exact ⟨c0,c1,c3,c5⟩
theorem allocIs (m:Amp) (n:Nat) (s:UInt8) (w:World) (h:m.Mem w) (hn:n≤4611686018427387904):
 Calls Tryz.prog 46 #[.pointer (some ⟨m.a.g,0,none⟩),.int .i64 (n:Int),.int .u8 (s.toNat:Int)] w fun e w'=>e=.returned (.bool (decide (m.st n=some s)))∧∃ q,w'=w.drewN q:=by
 obtain ⟨c0,c1,-,-⟩:=h.cells
 have hlo:=h.lo
 have hsl:=h.slen
 by_cases h1:m.a.least≤n
 ·have i1:(m.a.least:Int)≤n:=by omega
  obtain ⟨i,hi⟩:∃ i,n=m.a.least+i:=⟨n-m.a.least,by omega⟩
  have e1:IntKind.i64.wrap ((n:Int)-m.a.least)=(i:Int):=by rw [wrapi64 (by omega) (by omega)];omega
  have hst:m.st n=m.S[i]? := by unfold Amp.st;rw [if_pos h1,hi,Nat.add_sub_cancel_left]
  by_cases h2:i<m.a.len
  ·have i2:(i:Int)<m.a.len:=by omega
   have i0:(0:Int)≤i:=by omega
   have d:=Bs.cellD (OwnB.bs h.sts) (i:=i) (by omega)
   rw [Nat.zero_add] at d
   have hgi:m.S[i]? = some (m.S.getD i 0):=by rw [List.getD,Zg (by omega)];rfl
   rw [hst,hgi]
   generalize m.S.getD i 0=x at d
   have e2:((x.toNat:Int)==(s.toNat:Int))=decide (some x=some s):=by
    by_cases e:x=s
    ·subst e;simp
    ·rw [qF (by simpa using e),beq_eq_false_iff_ne]
     intro h
     exact e (UInt8.toNat_inj.1 (by omega))
   have E2:=Lh e2
   clear h hst hgi hi e2
   go_enter Tryz.func46,Tryz.ntmps46
   go_wp2
   go_quiet (fail)
   go_wp2
   go_ret
   exact ⟨by rw [←E2.out];simp,_,rfl⟩
  ·have i2:¬(i:Int)<m.a.len:=by omega
   have hd:decide (m.st n=some s)=false:=by rw [hst,List.getElem?_eq_none (by omega)];rfl
   have HD:=Lh hd
   clear h hst hd hi
   go_enter Tryz.func46,Tryz.ntmps46
   go_wp2
   go_quiet (fail)
   go_wp2
   go_ret
   exact ⟨by rw [HD.out];rfl,_,rfl⟩
 ·have i1:¬(m.a.least:Int)≤n:=by omega
  have hd:decide (m.st n=some s)=false:=by unfold Amp.st;rw [if_neg h1];rfl
  have HD:=Lh hd
  clear h hd
  go_enter Tryz.func46,Tryz.ntmps46
  go_wp2
  go_quiet (fail)
  go_wp2
  go_ret
  exact ⟨by rw [HD.out];rfl,_,rfl⟩
theorem allocFree (m:Amp) (w:World) (h:m.Mem w) (hi:m.Inv):Calls Tryz.prog 16 #[.pointer (some ⟨m.a.g,0,none⟩)] w fun e w'=>e=.returned (.int .i64 (m.a.free:Int))∧∃ q,w'=w.drewN q:=by
 obtain ⟨-,-,c3,c5⟩:=h.cells
 have hle:m.a.free≤65536:=by
  rw [hi.fr]
  have:=List.count_le_length (a:=(0:UInt8)) (l:=m.S)
  have:=h.slen
  have:=h.lo
  omega
 have e1:IntKind.i64.wrap (m.a.free:Int)=(m.a.free:Int):=wrapi64 (by omega) (by omega)
 clear h
 go_enter Tryz.func16,Tryz.ntmps16
 go_wp2
 go_quiet (fail)
 go_wp2
 go_ret
 exact ⟨by simp,_,rfl⟩
open Go.Maps
abbrev Ck:=Nat × Nat
def ckv (p:Ck):Value:=.agg #[.int .i64 (p.1:Int),.int .i64 (p.2:Int)]
theorem ckv_inj:∀ a b:Ck,ckv a=ckv b→a=b:=fun a b h=>by
 obtain ⟨x,y⟩:=a
 obtain ⟨x',y'⟩:=b
 simp only [ckv,Value.agg.injEq,Array.mk.injEq,List.cons.injEq,Value.int.injEq,true_and,and_true] at h
 rw [show x=x' by omega,show y=y' by omega]
def ChT:RowT Ck:={
 st:=54
 e:=24
 k:=2
 bytes:=16
 z:=.agg #[.int .i64 0,.int .i64 0]
 hu:=Tryz.underlying54
 hi:=by kernel_rfl
 hz:=rfl
 hk:=by decide
 hb:=by decide
 cl x:=[.int .i64 (x.1:Int),.int .i64 (x.2:Int)]
 hl _:=rfl
 h1 _ v hv:=by
  simp only [List.mem_cons,List.not_mem_nil,or_false] at hv
  rcases hv with rfl|rfl<;>rfl }
def digv (l:List UInt8):Value:=.agg (l.map u8v).toArray
theorem u8v_inj:∀ a b:UInt8,u8v a=u8v b→a=b:=fun a b h=>by
 simp only [u8v,Value.int.injEq,true_and] at h
 exact UInt8.toNat_inj.1 (by omega)
theorem map_u8v_inj:∀ l m:List UInt8,l.map u8v=m.map u8v→l=m
 | [],[],_=>rfl
 | [],_::_,h=>by simp at h
 | _::_,[],h=>by simp at h
 | a::l,b::m,h=>by
   simp only [List.map_cons,List.cons.injEq] at h
   rw [u8v_inj _ _ h.1,map_u8v_inj l m h.2]
theorem digv_inj:∀ a b:List UInt8,digv a=digv b→a=b:=fun a b h=>by
 simp only [digv,Value.agg.injEq] at h
 exact map_u8v_inj a b (by simpa using congrArg Array.toList h)
theorem dig_at:Tryz.prog.keyTypeAt 2 93=true:=by kernel_rfl
theorem dig_tiled:Tryz.prog.tiled 2 93=true:=by kernel_rfl
theorem digLaw:WideMaps.KeyLaw Tryz.prog 93:=by
 refine deep_law (P:=Tryz.prog) (m:=2) (by decide) dig_at dig_tiled ?_
 rw [Tryz.underlying93]
theorem digKeyed:Keyed Tryz.prog 93:=Keyed.of_law digLaw
theorem dig_cells:Tryz.prog.cellsOf 93=32:=by kernel_rfl
theorem u8_cells:Tryz.prog.cellsOf 5=1:=by kernel_rfl
theorem dig_type:Tryz.prog.keyType 93=true:=by kernel_rfl
theorem types_size2:∃ d,Tryz.prog.types.size+1=d+2:=by
 have h:Nat.ble 1 Tryz.prog.types.size=true:=by kernel_rfl
 have:=Nat.le_of_ble_eq_true h
 exact ⟨Tryz.prog.types.size-1,by omega⟩
theorem keyLits_u8 (d:Nat) (x:UInt8):Tryz.prog.keyLits (d+1) 5 [u8v x]=some [.int .u8 (x.toNat:Int)]:=by
 have h:(Lit.int .u8 (x.toNat:Int)).wf=true:=by
  have h1:IntKind.u8.min=0:=by decide
  have h2:IntKind.u8.max=255:=by decide
  have:=UInt8.toNat_lt x
  simp only [Lit.wf,h1,h2,Bool.and_eq_true,decide_eq_true_eq]
  omega
 rw [Program.keyLits.eq_def]
 simp only [Tryz.underlying5,u8v]
 rw [if_pos ⟨trivial,h⟩]
theorem digMapM {α β:Type} (f:α→Option β) (g:α→β):∀ l:List α,(∀ x∈l,f x=some (g x))→l.mapM f=some (l.map g)
 | [],_=>rfl
 | a::l,h=>by
   rw [List.mapM_cons,h a (by simp),digMapM f g l (fun x hx=>h x (by simp [hx]))]
   rfl
theorem digFlat {α β:Type} (f:α→β):∀ l:List α,(l.map (fun x=>[f x])).flatten=l.map f
 | []=>rfl
 | a::l=>by simp [digFlat f l]
theorem digRange (l:List UInt8):(List.range l.length).map (fun i=>Lit.int .u8 ((l.getD i 0).toNat:Int))=l.map fun x=>Lit.int .u8 (x.toNat:Int):=by
 refine List.ext_getElem (by simp) fun i h1 h2=>?_
 have h3:i<l.length:=by simpa using h1
 simp [List.getD,Zg h3]
theorem keyLits_dig (d:Nat) (l:List UInt8) (h:l.length=32):Tryz.prog.keyLits (d+2) 93 (l.map u8v)=some (l.map fun x=>Lit.int .u8 (x.toNat:Int)):=by
 rw [Program.keyLits.eq_def]
 simp only [Tryz.underlying93,dig_cells]
 rw [if_pos (by simpa using h)]
 rw [digMapM _ (fun i=>[Lit.int .u8 ((l.getD i 0).toNat:Int)]) _ (fun i hi=>by
  have hi:=List.mem_range.1 hi
  have hil:i<l.length:=by omega
  rw [u8_cells,Nat.mul_one,show ((l.map u8v).drop i).take 1=[u8v (l.getD i 0)] from by
   rw [←List.map_drop,←List.map_take,List.drop_eq_getElem_cons hil]
   simp only [List.take_succ_cons,List.take_zero,List.map_cons,List.map_nil,List.getD,Zg hil,Option.getD_some]]
  exact keyLits_u8 d _)]
 simp only [Option.map_some,Option.some.injEq]
 rw [digFlat (fun i=>Lit.int .u8 ((l.getD i 0).toNat:Int)),←h]
 exact digRange l
theorem keyOf_dig (l:List UInt8) (h:l.length=32):keyOf Tryz.prog 93 (digv l)=some (.string (keyBytes (l.map fun x=>Lit.int .u8 (x.toNat:Int)))):=by
 obtain ⟨d,hd⟩:=types_size2
 unfold keyOf digv
 have hf:(Value.agg (l.map u8v).toArray).formed Tryz.prog 93=true:=by simp [Value.formed,Tryz.underlying93,dig_cells,h]
 simp only [Tryz.underlying93,dig_type,hf,hd]
 simp [Value.cells,keyLits_dig d l h]
def KnT:MapT (List UInt8) Sl:={
 mt:=97
 kt:=93
 et:=54
 ht:=Tryz.underlying97
 K:=digKeyed
 may l:=l.length=32
 kv:=digv
 kl l:=.string (keyBytes (l.map fun x=>Lit.int .u8 (x.toNat:Int)))
 hkey:=keyOf_dig
 kinj x y hx hy h:=by
  have h1:=keyOf_dig x hx
  rw [h] at h1
  exact digv_inj _ _ (digKeyed.inj h1 (keyOf_dig y hy))
 vv:=Sl.v
 vinj:=Sl.inj
 zero:=⟨none,0,0⟩
 hz:=fun w=>Tryz.zeroValue54 w }
def WhT:MapT Nat (List UInt8):=IntT 98 93 Tryz.underlying98 digv digv_inj (List.replicate 32 0) (fun w=>Tryz.zeroValue93 w)
def FdT:MapT Nat Ck:=IntT 99 24 Tryz.underlying99 ckv ckv_inj (0,0) (fun w=>Tryz.zeroValue24 w)
structure Sto where
 g:Nat
 gK:Nat
 gW:Nat
 gF:Nat
 gD:Nat
 nK:Nat
 nW:Nat
 nF:Nat
 nD:Nat
 kn:List UInt8→Option Sl
 kl:List UInt8→List Ck
 wh:Nat→Option (List UInt8)
 fr:Nat→Option Unit
 fd:Nat→Option Ck
def Sto.wr (s:Sto):Fp:=fun b=>b=s.g∨b=s.gK∨b=s.gW∨b=s.gF∨b=s.gD
def Sto.rows (s:Sto):Fp:=fun b=>∃ d x,d.length=32∧s.kn d=some x∧bk x.p=some b
def Sto.fp (s:Sto):Fp:=fun b=>s.wr b∨s.rows b
def Sto.rowV (s:Sto) (gc gm:Nat):Array Value:=#[.pointer (some ⟨gc,0,none⟩),.pointer (some ⟨gm,0,none⟩),.map (some s.gK),.map (some s.gW),.map (some s.gF),.map (some s.gD)]
structure Sto.Mem (s:Sto) (gc gm:Nat) (w:World):Prop where
 row:Blk w s.g 101 (s.rowV gc gm)
 mK:KnT.At w s.gK s.nK s.kn
 mW:WhT.At w s.gW s.nW s.wh
 mF:SetT.At w s.gF s.nF s.fr
 mD:FdT.At w s.gD s.nD s.fd
 own:∀ d x,d.length=32→s.kn d=some x→ChT.Own w 0 x.p x.n x.c (s.kl d)
 non:∀ d,d.length=32→s.kn d=none→s.kl d=[]
 wl:∀ n x,s.wh n=some x→x.length=32
 a1:∀ b,s.rows b→¬s.wr b
 a2:∀ d x d' x' q,d.length=32→d'.length=32→d≠d'→s.kn d=some x→s.kn d'=some x'→bk x.p=some q→bk x'.p≠some q
 a3:s.g≠s.gK∧s.g≠s.gW∧s.g≠s.gF∧s.g≠s.gD∧s.gK≠s.gW∧s.gK≠s.gF∧s.gK≠s.gD∧s.gW≠s.gF∧s.gW≠s.gD∧s.gF≠s.gD
theorem Sto.Mem.in_ {s:Sto} {gc gm:Nat} {w:World} (h:s.Mem gc gm w):s.fp.In w:=by
 rintro b ((rfl|rfl|rfl|rfl|rfl)|⟨d,x,hd,hx,hb⟩)
 ·exact h.row.lt
 ·exact h.mK.lt
 ·exact h.mW.lt
 ·exact h.mF.lt
 ·exact h.mD.lt
 ·exact ((h.own d x hd hx).lt hb).2
theorem Sto.Mem.same {s:Sto} {gc gm:Nat} {w w':World} (h:s.Mem gc gm w) (hb:∀ b,s.fp b→w'.heap[b]? = w.heap[b]?):s.Mem gc gm w':={
 row:=(hb s.g (.inl (.inl rfl))).trans h.row
 mK:=h.mK.same (hb s.gK (.inl (.inr (.inl rfl))))
 mW:=h.mW.same (hb s.gW (.inl (.inr (.inr (.inl rfl)))))
 mF:=h.mF.same (hb s.gF (.inl (.inr (.inr (.inr (.inl rfl))))))
 mD:=h.mD.same (hb s.gD (.inl (.inr (.inr (.inr (.inr rfl))))))
 own d x hd hx:=(h.own d x hd hx).same (fun k hk=>hb k (.inr ⟨d,x,hd,hx,hk⟩))
 non:=h.non
 wl:=h.wl
 a1:=h.a1
 a2:=h.a2
 a3:=h.a3 }
theorem Sto.Mem.chg {s:Sto} {gc gm:Nat} {F:Fp} {w w':World} (h:s.Mem gc gm w) (hc:Chg F w w') (ha:s.fp.Ap F):s.Mem gc gm w':=h.same (fun b hb=>hc.block b (h.in_ b hb) (ha b hb))
theorem Sto.Mem.later {s:Sto} {gc gm:Nat} {w w':World} (h:s.Mem gc gm w) (hb:Below w.heap.size w w'):s.Mem gc gm w':=h.same (fun b hf=>hb.block b (h.in_ b hf))
theorem Sto.Mem.cells {s:Sto} {gc gm:Nat} {w:World} (h:s.Mem gc gm w):w.cell? ⟨s.g,0,none⟩=some (.pointer (some ⟨gc,0,none⟩))∧w.cell? ⟨s.g,1,none⟩=some (.pointer (some ⟨gm,0,none⟩))∧w.cell? ⟨s.g,2,none⟩=some (.map (some s.gK)) ∧
 w.cell? ⟨s.g,3,none⟩=some (.map (some s.gW))∧w.cell? ⟨s.g,4,none⟩=some (.map (some s.gF))∧w.cell? ⟨s.g,5,none⟩=some (.map (some s.gD)):=by
 have c0:=h.row.cell 0
 have c1:=h.row.cell 1
 have c2:=h.row.cell 2
 have c3:=h.row.cell 3
 have c4:=h.row.cell 4
 have c5:=h.row.cell 5
 simp only [Sto.rowV,Zt,Zz,Zs] at c0 c1 c2 c3 c4 c5
 exact ⟨c0,c1,c2,c3,c4,c5⟩
open Go.ChangeMaps Go.MapKept Go.WideShapes Go.WideElems
theorem MapT.At.entry_run {κ α:Type} {T:MapT κ α} (KL:WideMaps.KeyLaw Tryz.prog T.kt) {w:World} {b n:Nat} {f:κ→Option α} (h:T.At w b n f) (hn:n<1000000000) {p:κ} (hp:T.may p) (dec:DecidableEq κ):
 ∃ (st:Nat) (w1:World),(Instr.mapEntry T.mt (.map (some b)) (T.kv p)).run Tryz.prog w=.ok (.tuple #[T.vv (T.get f p),goInt st]) w1∧w.grownBy w1 (some b)∧w1.heap.size=w.heap.size ∧
   ∀ (w2:World) (u:α),w2.heap[b]? = w1.heap[b]? → ∃ w3,(Instr.entryStore T.mt (.map (some b)) (goInt st) (T.vv u)).run Tryz.prog w2=.ok () w3 ∧
     T.At w3 b (if (f p).isSome then n else n+1) (fun y=>if y=p then some u else f y)∧w2.grownBy w3 (some b):=by
 have h0:=h
 obtain ⟨D,⟨es,clock,hb,F,hs,hD⟩,hsz,hdom,h2⟩:=h
 have hk:=T.hkey p hp
 obtain ⟨v0,st,es1,clock1,hrun,hv0,hstore⟩:=entry_then_store KL T.ht T.hz hb F hk
 have hlook:=h0.look hp
 have hv:v0=T.vv (T.get f p):=by
  rcases KL.find w hk es.toList F.keys with ⟨h1,h3⟩|⟨j,e1,h1,h3,h4⟩
  ·have hl:(Instr.lookup T.mt (.map (some b)) (T.kv p) false).run Tryz.prog w=.ok (T.vv T.zero) w:=by
    simp [Instr.lookup,run_underlying T.ht,MapKept.run_getObj_map hb,KL.check w _ hk,h1,T.hz,Result.andThen]
   rw [hl] at hlook
   simp only [Result.ok.injEq,and_true] at hlook
   rcases hv0 with ⟨e0,he0,hk0,-⟩|⟨-,rfl⟩
   ·exact absurd hk0 (h3 e0 he0)
   ·exact hlook
  ·have hm:e1∈es.toList:=List.mem_of_getElem? h3
   have hl:(Instr.lookup T.mt (.map (some b)) (T.kv p) false).run Tryz.prog w=.ok e1.val w:=by
    simp [Instr.lookup,run_underlying T.ht,MapKept.run_getObj_map hb,KL.check w _ hk,h1,Result.andThen]
   rw [hl] at hlook
   simp only [Result.ok.injEq,and_true] at hlook
   rcases hv0 with ⟨e0,he0,hk0,rfl⟩|⟨hno,-⟩
   ·rw [entry_eq_of_key (List.pairwise_map.1 F.stamped.2.2) he0 hm (hk0.trans h4.symm)]
    exact hlook
   ·exact absurd h4 (hno e1 hm)
 rw [hv] at hrun
 have hsame:(setBlock w b (.map es1 clock1)).heap[b]? = some (.map es1 clock1):=heap_setBlock_same hb _
 refine ⟨st,_,hrun,⟨rfl,rfl,rfl,by simp [setBlock],fun i _ hi=>heap_setBlock_other hb _ (fun e=>hi (by rw [e]))⟩,by simp [setBlock],fun w2 u hw2=>?_⟩
 rw [hsame] at hw2
 obtain ⟨es',clock',hr1,hr2⟩:=hstore w2 (T.vv u) hw2
 obtain ⟨w',hr3,hat,-⟩:=h0.set_run hn hp u dec
 rw [hr2] at hr3
 simp only [Result.ok.injEq,true_and] at hr3
 subst hr3
 have hb2:(setBlock w2 b (.map es' clock')).heap[b]? = some (.map es' clock'):=heap_setBlock_same hw2 _
 refine ⟨_,hr1,hat.same (hb2.trans (heap_setBlock_same hb _).symm),⟨rfl,rfl,rfl,by simp [setBlock],fun i _ hi=>heap_setBlock_other hw2 _ (fun e=>hi (by rw [e]))⟩⟩
theorem Sto.Mem.wr_lt {s:Sto} {gc gm:Nat} {w:World} (h:s.Mem gc gm w) {b:Nat} (hb:s.wr b):b<w.heap.size:=h.in_ b (.inl hb)
theorem Sto.Mem.upd {s s':Sto} {gc gm:Nat} {F:Fp} {w w':World} (h:s.Mem gc gm w) (hc:Chg F w w') (hF:¬F s.g) (e1:s'.g=s.g) (e2:s'.gK=s.gK) (e3:s'.gW=s.gW) (e4:s'.gF=s.gF) (e5:s'.gD=s.gD)
 (mK:KnT.At w' s.gK s'.nK s'.kn) (mW:WhT.At w' s.gW s'.nW s'.wh) (mF:SetT.At w' s.gF s'.nF s'.fr) (mD:FdT.At w' s.gD s'.nD s'.fd) (d0:List UInt8)
 (own:∀ d x,d.length=32→s'.kn d=some x→(s.kn d=some x∧s'.kl d=s.kl d∧∀ q,bk x.p=some q→¬F q) ∨
   (d=d0∧ChT.Own w' 0 x.p x.n x.c (s'.kl d)∧∀ q,bk x.p=some q→w.heap.size≤q∨∃ x0,s.kn d0=some x0∧bk x0.p=some q))
 (non:∀ d,d.length=32→s'.kn d=none→s'.kl d=[]) (wl:∀ n x,s'.wh n=some x→x.length=32):s'.Mem gc gm w'∧∀ b,s'.fp b→s.fp b∨w.heap.size≤b:=by
 have hrow:∀ d x q,d.length=32→s'.kn d=some x→bk x.p=some q→w.heap.size≤q∨∃ x0,s.kn d=some x0∧bk x0.p=some q:=fun d x q hd hx hq=>by
  rcases own d x hd hx with ⟨h1,-,-⟩|⟨rfl,-,h1⟩
  ·exact .inr ⟨x,h1,hq⟩
  ·exact h1 q hq
 have hrl:∀ d x0 q,d.length=32→s.kn d=some x0→bk x0.p=some q→q<w.heap.size:=fun d x0 q hd hx hq=>((h.own d x0 hd hx).lt hq).2
 have hwr:∀ b,s'.wr b→s.wr b:=by
  unfold Sto.wr
  rw [e1,e2,e3,e4,e5]
  exact fun _ h=>h
 refine ⟨⟨?_,by rw [e2];exact mK,by rw [e3];exact mW,by rw [e4];exact mF,by rw [e5];exact mD,fun d x hd hx=>?_,non,wl,?_,fun d x d' x' q hd hd' hne hx hx' hq hq'=>?_,by rw [e1,e2,e3,e4,e5];exact h.a3⟩,?_⟩
 ·have:=Blk.chg h.row hc hF
  unfold Sto.rowV at this ⊢
  rw [e1,e2,e3,e4,e5]
  exact this
 ·rcases own d x hd hx with ⟨h1,h2,h3⟩|⟨-,h1,-⟩
  ·rw [h2]
   exact (h.own d x hd h1).chg hc h3
  ·exact h1
 ·rintro b ⟨d,x,hd,hx,hq⟩ hb
  rcases hrow d x b hd hx hq with h1|⟨x0,h1,h2⟩
  ·have:=h.wr_lt (hwr b hb);omega
  ·exact h.a1 b ⟨d,x0,hd,h1,h2⟩ (hwr b hb)
 ·rcases own d x hd hx with ⟨h1,-,-⟩|⟨rfl,-,h1⟩
  ·have hl:=hrl d x q hd h1 hq
   rcases own d' x' hd' hx' with ⟨h2,-,-⟩|⟨rfl,-,h2⟩
   ·exact h.a2 d x d' x' q hd hd' hne h1 h2 hq hq'
   ·rcases h2 q hq' with h3|⟨x0,h3,h4⟩
    ·omega
    ·exact h.a2 d x d' x0 q hd hd' hne h1 h3 hq h4
  ·rcases own d' x' hd' hx' with ⟨h2,-,-⟩|⟨rfl,-,-⟩
   ·have hl:=hrl d' x' q hd' h2 hq'
    rcases h1 q hq with h3|⟨x0,h3,h4⟩
    ·omega
    ·exact h.a2 d x0 d' x' q hd hd' hne h3 h2 h4 hq'
   ·exact hne rfl
 ·rintro b (hb|⟨d,x,hd,hx,hq⟩)
  ·exact .inl (.inl (hwr b hb))
  ·rcases hrow d x b hd hx hq with h1|⟨x0,h1,h2⟩
   ·exact .inr h1
   ·exact .inl (.inr ⟨d,x0,hd,h1,h2⟩)
theorem nodup_len {l:List Int}:∀ {m:List Int},l.Nodup→(∀ x∈l,x∈m)→l.length≤m.length:=by
 induction l with
 | nil=>intro m _ _;simp
 | cons a l ih=>
   intro m h hs
   obtain ⟨h1,h2⟩:=List.nodup_cons.1 h
   have h3:=ih (m:=m.erase a) h2 (fun x hx=>(List.mem_erase_of_ne (by rintro rfl;exact h1 hx)).2 (hs x (by simp [hx])))
   rw [List.length_erase_of_mem (hs a (by simp))] at h3
   have:0<m.length:=List.length_pos_of_mem (hs a (by simp))
   rw [List.length_cons]
   omega
theorem chunksNew (gc gm:Nat) (w:World):
 Calls Tryz.prog 24 #[.pointer (some ⟨gc,0,none⟩),.pointer (some ⟨gm,0,none⟩)] w fun e w'=>∃ s:Sto,e=.returned (.tuple #[.pointer (some ⟨s.g,0,none⟩),.int .i64 0])∧s.Mem gc gm w'∧(∀ d,s.kn d=none)∧(∀ d,s.kl d=[])∧(∀ n,s.wh n=none)∧(∀ n,s.fr n=none)∧(∀ n,s.fd n=none) ∧
  s.nK=0∧s.nW=0∧s.nF=0∧s.nD=0∧(∀ b,s.fp b→w.heap.size≤b)∧Below w.heap.size w w':=by
 have hmm:=@run_makeMap Tryz.prog
 have q1:∀ w:World,(binOp .eql 29 (.pointer (some ⟨gc,0,none⟩)) (.pointer none)).run Tryz.prog w=.ok (.bool false) w:=fun _=>rfl
 have q2:∀ w:World,(binOp .eql 30 (.pointer (some ⟨gm,0,none⟩)) (.pointer none)).run Tryz.prog w=.ok (.bool false) w:=fun _=>rfl
 go_enter Tryz.func24,Tryz.ntmps24
 go_wp2
 go_ret2
 obtain ⟨wA,hwA⟩:∃ x,w.alloc (.map #[] 0)=x:=⟨_,rfl⟩
 have hsA:wA.heap.size=w.heap.size+1:=by rw [←hwA];simp
 have hA:KnT.At wA w.heap.size 0 (fun _=>none):=by rw [←hwA];exact MapT.At.made _ w
 have hBA:Below w.heap.size w wA:=by rw [←hwA];exact (Below.refl _ _).alloc nL _
 rw [hwA]
 obtain ⟨wB,hwB⟩:∃ x,wA.alloc (.map #[] 0)=x:=⟨_,rfl⟩
 have hsB:wB.heap.size=w.heap.size+1+1:=by rw [←hwB,←hsA];simp
 have hB:WhT.At wB (w.heap.size+1) 0 (fun _=>none):=by rw [←hwB,←hsA];exact MapT.At.made _ wA
 have hBB:Below wA.heap.size wA wB:=by rw [←hwB];exact (Below.refl _ _).alloc nL _
 rw [hwB]
 obtain ⟨wC,hwC⟩:∃ x,wB.alloc (.map #[] 0)=x:=⟨_,rfl⟩
 have hsC:wC.heap.size=w.heap.size+1+1+1:=by rw [←hwC,←hsB];simp
 have hC:SetT.At wC (w.heap.size+1+1) 0 (fun _=>none):=by rw [←hwC,←hsB];exact MapT.At.made _ wB
 have hBC:Below wB.heap.size wB wC:=by rw [←hwC];exact (Below.refl _ _).alloc nL _
 rw [hwC]
 obtain ⟨wD,hwD⟩:∃ x,wC.alloc (.map #[] 0)=x:=⟨_,rfl⟩
 have hsD:wD.heap.size=w.heap.size+1+1+1+1:=by rw [←hwD,←hsC];simp
 have hD:FdT.At wD (w.heap.size+1+1+1) 0 (fun _=>none):=by rw [←hwD,←hsC];exact MapT.At.made _ wC
 have hBD:Below wC.heap.size wC wD:=by rw [←hwD];exact (Below.refl _ _).alloc nL _
 rw [hwD]
 obtain ⟨wE,hwE⟩:∃ x,wD.alloc (.cells #[.pointer (some ⟨gc,0,none⟩),.pointer (some ⟨gm,0,none⟩),.map (some w.heap.size),.map (some (w.heap.size+1)),.map (some (w.heap.size+1+1)),.map (some (w.heap.size+1+1+1))] 101)=x:=⟨_,rfl⟩
 have hE:Blk wE (w.heap.size+1+1+1+1) 101 #[.pointer (some ⟨gc,0,none⟩),.pointer (some ⟨gm,0,none⟩),.map (some w.heap.size),.map (some (w.heap.size+1)),.map (some (w.heap.size+1+1)),.map (some (w.heap.size+1+1+1))]:=by rw [←hwE,←hsD];exact Blk.new wD _ _
 have hBE:Below wD.heap.size wD wE:=by rw [←hwE];exact (Below.refl _ _).alloc nL _
 rw [hwE]
 have hb:Below w.heap.size w wE:=hBA.trans ((hBB.trans ((hBC.trans ((hBD.trans (hBE.mono (by omega))).mono (by omega))).mono (by omega))).mono (by omega))
 have hne:∀ b,b<b+1:=fun b=>by omega
 refine ⟨⟨w.heap.size+1+1+1+1,w.heap.size,w.heap.size+1,w.heap.size+1+1,w.heap.size+1+1+1,0,0,0,0,fun _=>none,fun _=>[],fun _=>none,fun _=>none,fun _=>none⟩,rfl,
  ⟨hE,(((hA.below hBB).below hBC).below hBD).below hBE,((hB.below hBC).below hBD).below hBE,(hC.below hBD).below hBE,hD.below hBE,fun d x _ h=>(by cases h),fun _ _ _=>rfl,fun n x h=>(by cases h),?_,fun d x d' x' q _ _ _ h=>(by cases h),?_⟩,
  fun _=>rfl,fun _=>rfl,fun _=>rfl,fun _=>rfl,fun _=>rfl,rfl,rfl,rfl,rfl,?_,hb⟩
 ·rintro b ⟨d,x,-,h,-⟩
  cases h
 ·simp only
  omega
 ·rintro b ((h|h|h|h|h)|⟨d,x,-,h,-⟩)
  ·simp only at h;omega
  ·simp only at h;omega
  ·simp only at h;omega
  ·simp only at h;omega
  ·simp only at h;omega
  ·cases h
theorem chunksKnown (s:Sto) (gc gm:Nat) (w:World) (h:s.Mem gc gm w):
 Calls Tryz.prog 19 #[.pointer (some ⟨s.g,0,none⟩)] w fun e w'=>e=.returned (.int .i64 (s.nW:Int))∧w'=w:=by
 have k3:=h.cells.2.2.2.1
 have hl:(Builtin.len_ #[98] 3 #[.map (some s.gW)]).run Tryz.prog w=.ok (.int .i64 (s.nW:Int)) w:=h.mW.len 3
 clear h
 go_enter Tryz.func19,Tryz.ntmps19
 go_wp2
 go_ret
 exact ⟨rfl,rfl⟩
def Sto.lrn (s:Sto) (dg:List UInt8) (p:Ck) (x:Sl) (nK nW:Nat):Sto:=
 { s with nK:=nK,nW:=nW,kn:=fun d=>if d=dg then some x else s.kn d,kl:=fun d=>if d=dg then s.kl dg++[p] else s.kl d,wh:=fun n=>if n=p.1 then some dg else s.wh n }
def learnPost (s:Sto) (gc gm:Nat) (dg:List UInt8) (p:Ck) (w:World) (e:Ending) (w':World):Prop:=
 e=.returned (.tuple #[])∧((s.wh p.1).isSome=true∧s.Mem gc gm w'∧Below w.heap.size w w' ∨
  s.wh p.1=none∧∃ x nK nW,nK≤s.nK+1∧nW=s.nW+1∧(s.lrn dg p x nK nW).Mem gc gm w'∧Chg s.fp w w'∧∀ b,(s.lrn dg p x nK nW).fp b→s.fp b∨w.heap.size≤b)
theorem Chg.setCells {g:Nat}:∀ (w:World) (o:Nat) (vs:List Value),Chg (fun b=>b=g) w (w.setCells g o vs)
 | w,_,[]=>Chg.refl _ w
 | w,o,v::r=>(Chg.setCell (F:=fun b=>b=g) w ⟨g,o,none⟩ v rfl).tr (Chg.setCells (w.setCell ⟨g,o,none⟩ v) (o+1) r)
theorem chunksLearn (s:Sto) (gc gm:Nat) (dg:List UInt8) (p:Ck) (w:World) (h:s.Mem gc gm w) (hd:dg.length=32) (hp1:p.1≤65535) (hp2:p.2≤65535) (hK:s.nK<1000000000) (hW:s.nW<1000000000) (hl:(s.kl dg).length≤1000000000):
 Calls Tryz.prog 45 #[.pointer (some ⟨s.g,0,none⟩),digv dg,.agg #[.int .i64 (p.1:Int),.int .i64 (p.2:Int)]] w (learnPost s gc gm dg p w):=by
 obtain ⟨b,len⟩:=p
 simp only at hp1 hp2 ⊢
 obtain ⟨DV,hDV⟩:∃ D,dg.map u8v=D:=⟨_,rfl⟩
 have hdl:DV.length=32:=by rw [←hDV];simpa using hd
 have hdv:digv dg=.agg DV.toArray:=by unfold digv;rw [hDV]
 rw [hdv]
 have HDV:=Lh (⟨hDV,hdv⟩:dg.map u8v=DV∧digv dg=.agg DV.toArray)
 have HM:=Lh h
 obtain ⟨R,hR⟩:∃ R,learnPost s gc gm dg (b,len) w=R:=⟨_,rfl⟩
 rw [hR]
 have HRe:=Lh hR
 obtain ⟨-,-,k2,k3,-,-⟩:=h.cells
 clear h hR hDV hdv
 go_enter Tryz.func45,Tryz.ntmps45
 go_wp2_with fail
 obtain ⟨wA,hwA⟩:∃ x,w.alloc (.cells DV.toArray 93)=x:=⟨_,rfl⟩
 have hsA:wA.heap.size=w.heap.size+1:=by rw [←hwA];simp
 have HBA:=Lh (by rw [←hwA];exact (Below.refl _ _).alloc nL _:Below w.heap.size w wA)
 have HDA:=Lh (by rw [←hwA];exact Blk.new w 93 DV.toArray:Blk wA w.heap.size 93 DV.toArray)
 rw [hwA]
 clear hwA
 obtain ⟨wB,hwB⟩:∃ x,wA.alloc (.cells #[.int .i64 (b:Int),.int .i64 (len:Int)] 24)=x:=⟨_,rfl⟩
 have HBB:=Lh (by rw [←hwB];exact HBA.out.alloc HBA.out.size _:Below w.heap.size w wB)
 have HCB:=Lh (by rw [←hwB];exact Blk.new wA 24 #[.int .i64 (b:Int),.int .i64 (len:Int)]:Blk wB wA.heap.size 24 #[.int .i64 (b:Int),.int .i64 (len:Int)])
 have HDB:=Lh (by rw [←hwB];exact HDA.out.later ((Below.refl _ _).alloc nL _):Blk wB w.heap.size 93 DV.toArray)
 rw [hwB]
 rw [hsA] at HCB
 clear hwB HDA HBA
 generalize hg1:w.heap.size+1=g1 at *
 have HG1:=Lh hg1
 clear hg1 hsA
 have HMB:=Lh (HM.out.later HBB.out)
 clear k2 k3
 obtain ⟨-,-,k2,k3,-,-⟩:=HMB.out.cells
 have p0:=HCB.out.cell 0
 have p1:=HCB.out.cell 1
 simp only [Zt,Zz,Zs] at p0 p1
 have hbf:b<4611686018427387904:=by omega
 obtain ⟨G0,hG0⟩:∃ G,WhT.get s.wh b=G:=⟨_,rfl⟩
 obtain ⟨GV,hGV⟩:∃ V,G0.map u8v=V:=⟨_,rfl⟩
 obtain ⟨IS,hIS⟩:∃ q,(s.wh b).isSome=q:=⟨_,rfl⟩
 have HGV:=Lh (⟨hG0,hGV,hIS⟩:WhT.get s.wh b=G0∧G0.map u8v=GV∧(s.wh b).isSome=IS)
 have hGVl:GV.length=32:=by
  rw [←hGV,List.length_map,←hG0]
  unfold MapT.get
  cases hw:s.wh b with
  | none=>rfl
  | some x=>exact HM.out.wl b x hw
 have HL:=Lh (fun (W:World) (hb:Below wB.heap.size wB W)=>(by
  have h:=MapT.At.look_ok (HMB.out.later hb).mW (p:=b) hbf
  rw [hG0,hIS] at h
  show _=Result.ok (Value.tuple #[.agg GV.toArray,.bool IS]) W
  rw [←hGV]
  exact h:(Instr.lookup 98 (.map (some s.gW)) (.int .i64 (b:Int)) true).run Tryz.prog W=.ok (Value.tuple #[.agg GV.toArray,.bool IS]) W))
 have L0:=HL.out wB.drew (Below.refl _ _).drew
 have L1:=HL.out (wB.alloc (.cells #[.int .u8 0,.int .u8 0,.int .u8 0,.int .u8 0,.int .u8 0,.int .u8 0,.int .u8 0,.int .u8 0,.int .u8 0,.int .u8 0,.int .u8 0,.int .u8 0,.int .u8 0,.int .u8 0,.int .u8 0,.int .u8 0,.int .u8 0,.int .u8 0,.int .u8 0,.int .u8 0,.int .u8 0,.int .u8 0,.int .u8 0,.int .u8 0,.int .u8 0,.int .u8 0,.int .u8 0,.int .u8 0,.int .u8 0,.int .u8 0,.int .u8 0,.int .u8 0] 93)).drew ((Below.refl _ _).alloc nL _).drew
 have g1o:∀ v∈GV,v.oneCell'=true:=by rw [←hGV];exact u8_one _
 have HZ:=Lh (show Blk (wB.alloc (.cells #[.int .u8 0,.int .u8 0,.int .u8 0,.int .u8 0,.int .u8 0,.int .u8 0,.int .u8 0,.int .u8 0,.int .u8 0,.int .u8 0,.int .u8 0,.int .u8 0,.int .u8 0,.int .u8 0,.int .u8 0,.int .u8 0,.int .u8 0,.int .u8 0,.int .u8 0,.int .u8 0,.int .u8 0,.int .u8 0,.int .u8 0,.int .u8 0,.int .u8 0,.int .u8 0,.int .u8 0,.int .u8 0,.int .u8 0,.int .u8 0,.int .u8 0,.int .u8 0] 93)).drew wB.heap.size 93 #[.int .u8 0,.int .u8 0,.int .u8 0,.int .u8 0,.int .u8 0,.int .u8 0,.int .u8 0,.int .u8 0,.int .u8 0,.int .u8 0,.int .u8 0,.int .u8 0,.int .u8 0,.int .u8 0,.int .u8 0,.int .u8 0,.int .u8 0,.int .u8 0,.int .u8 0,.int .u8 0,.int .u8 0,.int .u8 0,.int .u8 0,.int .u8 0,.int .u8 0,.int .u8 0,.int .u8 0,.int .u8 0,.int .u8 0,.int .u8 0,.int .u8 0,.int .u8 0] from Blk.new wB 93 _)
 have g1t:(wB.alloc (.cells #[.int .u8 0,.int .u8 0,.int .u8 0,.int .u8 0,.int .u8 0,.int .u8 0,.int .u8 0,.int .u8 0,.int .u8 0,.int .u8 0,.int .u8 0,.int .u8 0,.int .u8 0,.int .u8 0,.int .u8 0,.int .u8 0,.int .u8 0,.int .u8 0,.int .u8 0,.int .u8 0,.int .u8 0,.int .u8 0,.int .u8 0,.int .u8 0,.int .u8 0,.int .u8 0,.int .u8 0,.int .u8 0,.int .u8 0,.int .u8 0,.int .u8 0,.int .u8 0] 93)).drew.there wB.heap.size 0 GV.length:=fun j hj=>by
  rw [hGVl] at hj
  refine ⟨?_,HZ.out.frozen _⟩
  rw [HZ.out.cell,Nat.zero_add]
  simp [hj]
 have g1i:Option.map (fun x=>x.size) (Tryz.prog.info? 93)=some GV.length:=by rw [hGVl];kernel_rfl
 have HBC:=Lh (by
  refine Below.trans (b:=(wB.alloc (.cells #[.int .u8 0,.int .u8 0,.int .u8 0,.int .u8 0,.int .u8 0,.int .u8 0,.int .u8 0,.int .u8 0,.int .u8 0,.int .u8 0,.int .u8 0,.int .u8 0,.int .u8 0,.int .u8 0,.int .u8 0,.int .u8 0,.int .u8 0,.int .u8 0,.int .u8 0,.int .u8 0,.int .u8 0,.int .u8 0,.int .u8 0,.int .u8 0,.int .u8 0,.int .u8 0,.int .u8 0,.int .u8 0,.int .u8 0,.int .u8 0,.int .u8 0,.int .u8 0] 93)).drew) ((Below.refl _ _).alloc nL _).drew ?_
  exact (Chg.setCells _ 0 GV).below (fun k e=>Nat.le_of_eq e.symm) (by show wB.heap.size≤(wB.alloc _).heap.size;simp):Below wB.heap.size wB ((wB.alloc (.cells #[.int .u8 0,.int .u8 0,.int .u8 0,.int .u8 0,.int .u8 0,.int .u8 0,.int .u8 0,.int .u8 0,.int .u8 0,.int .u8 0,.int .u8 0,.int .u8 0,.int .u8 0,.int .u8 0,.int .u8 0,.int .u8 0,.int .u8 0,.int .u8 0,.int .u8 0,.int .u8 0,.int .u8 0,.int .u8 0,.int .u8 0,.int .u8 0,.int .u8 0,.int .u8 0,.int .u8 0,.int .u8 0,.int .u8 0,.int .u8 0,.int .u8 0,.int .u8 0] 93)).drew.setCells wB.heap.size 0 GV))
 have KC:=Lh (⟨(HBC.out.cell HMB.out.row.lt).trans k3,(HBC.out.cell HCB.out.lt).trans p0⟩:((wB.alloc (.cells #[.int .u8 0,.int .u8 0,.int .u8 0,.int .u8 0,.int .u8 0,.int .u8 0,.int .u8 0,.int .u8 0,.int .u8 0,.int .u8 0,.int .u8 0,.int .u8 0,.int .u8 0,.int .u8 0,.int .u8 0,.int .u8 0,.int .u8 0,.int .u8 0,.int .u8 0,.int .u8 0,.int .u8 0,.int .u8 0,.int .u8 0,.int .u8 0,.int .u8 0,.int .u8 0,.int .u8 0,.int .u8 0,.int .u8 0,.int .u8 0,.int .u8 0,.int .u8 0] 93)).drew.setCells wB.heap.size 0 GV).cell? ⟨s.g,3,none⟩=some (.map (some s.gW))∧((wB.alloc (.cells #[.int .u8 0,.int .u8 0,.int .u8 0,.int .u8 0,.int .u8 0,.int .u8 0,.int .u8 0,.int .u8 0,.int .u8 0,.int .u8 0,.int .u8 0,.int .u8 0,.int .u8 0,.int .u8 0,.int .u8 0,.int .u8 0,.int .u8 0,.int .u8 0,.int .u8 0,.int .u8 0,.int .u8 0,.int .u8 0,.int .u8 0,.int .u8 0,.int .u8 0,.int .u8 0,.int .u8 0,.int .u8 0,.int .u8 0,.int .u8 0,.int .u8 0,.int .u8 0] 93)).drew.setCells wB.heap.size 0 GV).cell? ⟨g1,0,none⟩=some (.int .i64 (b:Int)))
 clear hG0 hGV hIS
 refine Code.wp_mono (Q:=fun e a W=>e=.normal∧a=⟨#[.pointer (some ⟨s.g,0,none⟩),.agg DV.toArray,.agg #[.int .i64 (b:Int),.int .i64 (len:Int)],undef,.pointer (some ⟨w.heap.size,0,none⟩),.pointer (some ⟨g1,0,none⟩),.pointer (some ⟨wB.heap.size,0,none⟩),.bool IS,.tuple #[.agg GV.toArray,.bool IS],.pointer (some ⟨s.g,0,none⟩),.pointer (some ⟨s.g,0,none⟩),.pointer (some ⟨s.g,3,none⟩),.map (some s.gW),.pointer (some ⟨g1,0,none⟩),.int .i64 (b:Int),.tuple #[.agg GV.toArray,.bool IS],.agg GV.toArray,.bool IS,undef,undef,undef,undef,undef,undef,undef,undef,undef,undef,undef,undef,undef,undef,undef,undef,undef,undef,undef,undef],[]⟩∧Below wB.heap.size wB W) ?imp ?reg
 case reg=>
  go_region_held3 (fun W=>W.cell? ⟨s.g,3,none⟩=some (.map (some s.gW))∧W.cell? ⟨g1,0,none⟩=some (.int .i64 (b:Int))) (first|(exact ⟨k3,p0⟩)|(exact KC.out)|go_keep) (fail)
  all_goals exact ⟨rfl,rfl,HBC.out⟩
 case imp=>
  clear g1o g1t g1i HZ KC HBC L0 L1 HL k2 k3 p0 p1
  rintro e a wC ⟨rfl,rfl,hbC⟩
  have HBC:=Lh (HBB.out.trans (hbC.mono HBB.out.size))
  have HMC:=Lh (HMB.out.later hbC)
  have HCC:=Lh (HCB.out.later hbC)
  have HDC:=Lh (HDB.out.later hbC)
  clear hbC HMB HCB HDB
  cases IS with
  | true=>
    go_wp2
    go_end0
    rw [←HRe.out]
    exact ⟨rfl,.inl ⟨HGV.out.2.2,HMC.out,HBC.out⟩⟩
  | false=>
    have hwn:s.wh b=none:=by
     have:=HGV.out.2.2
     cases hw:s.wh b with
     | none=>rfl
     | some x=>rw [hw] at this;cases this
    have HWn:=Lh hwn
    clear hwn
    go_wp2_with fail
    obtain ⟨-,-,k2,k3,-,-⟩:=HMC.out.cells
    have p0:=HCC.out.cell 0
    have p1:=HCC.out.cell 1
    simp only [Zt,Zz,Zs] at p0 p1
    have r0:wC.rangeAt w.heap.size 0 DV:=fun j v hv=>by
     rw [HDC.out.cell,Nat.zero_add]
     simpa using hv
    have hm3:=HM.out.a3
    obtain ⟨p,m,c,hget,hown,hpb⟩:∃ p m c,KnT.get s.kn dg=⟨p,m,c⟩∧ChT.Own wC 0 p m c (s.kl dg)∧(∀ q,bk p=some q→q<w.heap.size∧¬s.wr q∧∃ x0,s.kn dg=some x0∧bk x0.p=some q):=by
     cases hvn:s.kn dg with
     | none=>
       refine ⟨none,0,0,by unfold MapT.get;rw [hvn];rfl,?_,fun q hq=>(by cases hq)⟩
       rw [HM.out.non dg hd hvn]
       exact RowT.Own.nil _ _ _
     | some x=>
       have h1:=HM.out.own dg x hd hvn
       exact ⟨x.p,x.n,x.c,by unfold MapT.get;rw [hvn];rfl,HMC.out.own dg x hd hvn,fun q hq=>⟨(h1.lt hq).2,HM.out.a1 q ⟨dg,x,hd,hvn,hq⟩,x,rfl,hq⟩⟩
    have hml:=hown.length
    have hm9:m≤1000000000:=by omega
    have Hpb:=Lh hpb
    have hsC:w.heap.size≤wC.heap.size:=HBC.out.size
    have hgKl:s.gK<w.heap.size:=HM.out.wr_lt (.inr (.inl rfl))
    have hgl:s.g<w.heap.size:=HM.out.wr_lt (.inl rfl)
    have hg1v:=HG1.out
    have hg1l:g1<wC.heap.size:=HCC.out.lt
    have hgdl:w.heap.size<wC.heap.size:=HDC.out.lt
    have KS:=Lh (fun (W W':World) (r:Option Nat) (hsz:wC.heap.size≤W.heap.size) (hg:W.grownBy W' r) (hr:∀ q,r=some q→q=s.gK∨bk p=some q∨wC.heap.size≤q) (h:W.cell? ⟨s.g,2,none⟩=some (.map (some s.gK))∧W.rangeAt w.heap.size 0 DV∧W.cell? ⟨g1,0,none⟩=some (.int .i64 (b:Int))∧W.cell? ⟨g1,1,none⟩=some (.int .i64 (len:Int)))=>(by
     have key:∀ k,k<wC.heap.size→k≠s.gK→bk p≠some k→W'.heap[k]? = W.heap[k]? := fun k hk h1 h2=>hg.block k (by omega) (fun e=>by
      rcases hr k e.symm with h|h|h
      ·exact h1 h
      ·exact h2 h
      ·omega)
     have hp1:bk p≠some s.g:=fun e=>(Hpb.out _ e).2.1 (.inl rfl)
     have hp2:bk p≠some w.heap.size:=fun e=>by have:=(Hpb.out _ e).1;omega
     have hp3:bk p≠some g1:=fun e=>by have:=(Hpb.out _ e).1;omega
     have e1:=key s.g (by omega) hm3.1 hp1
     have e2:=key w.heap.size hgdl (by omega) hp2
     have e3:=key g1 hg1l (by omega) hp3
     exact ⟨(cell_same e1).trans h.1,rangeAt_same h.2.1 e2,(cell_same e3).trans h.2.2.1,(cell_same e3).trans h.2.2.2⟩:W'.cell? ⟨s.g,2,none⟩=some (.map (some s.gK))∧W'.rangeAt w.heap.size 0 DV∧W'.cell? ⟨g1,0,none⟩=some (.int .i64 (b:Int))∧W'.cell? ⟨g1,1,none⟩=some (.int .i64 (len:Int))))
    have hS0:wC.drew.cell? ⟨s.g,2,none⟩=some (.map (some s.gK))∧wC.drew.rangeAt w.heap.size 0 DV∧wC.drew.cell? ⟨g1,0,none⟩=some (.int .i64 (b:Int))∧wC.drew.cell? ⟨g1,1,none⟩=some (.int .i64 (len:Int)):=⟨k2,r0,p0,p1⟩
    have K2:∀ W:World,W.rangeAt w.heap.size 0 DV→(Instr.loadAt 93 (.pointer (some ⟨w.heap.size,0,none⟩))).run Tryz.prog W=.ok (.agg DV.toArray) W:=fun W h=>run_loadAt_mid W w.heap.size 0 93 DV _ h Tryz.underlying93 rfl (by rw [hdl];kernel_rfl)
    -- the entry,ahead of the new row and behind it
    have HE:=Lh (fun (W:World) (hb:Below wC.heap.size wC W)=>(by
     have h:=MapT.At.entry_run (T:=KnT) digLaw (HMC.out.later hb).mK hK (p:=dg) hd inferInstance
     rw [hget] at h
     rw [show KnT.kv dg=.agg DV.toArray from HDV.out.2] at h
     exact h:∃ (st:Nat) (w1:World),(Instr.mapEntry 97 (.map (some s.gK)) (.agg DV.toArray)).run Tryz.prog W=.ok (.tuple #[.slice p m c,.int .i64 (st:Int)]) w1∧W.grownBy w1 (some s.gK)∧w1.heap.size=W.heap.size ∧
      ∀ (w2:World) (u:Sl),w2.heap[s.gK]? = w1.heap[s.gK]? → ∃ w3,(Instr.entryStore 97 (.map (some s.gK)) (.int .i64 (st:Int)) u.v).run Tryz.prog w2=.ok () w3 ∧
        KnT.At w3 s.gK (if (s.kn dg).isSome then s.nK else s.nK+1) (fun y=>if y=dg then some u else s.kn y)∧w2.grownBy w3 (some s.gK)))
    have HBa:=Lh (((Below.refl wC.heap.size wC).alloc nL (.cells #[.int .i64 (b:Int),.int .i64 (len:Int)] 24)).drew)
    obtain ⟨st0,W0,E0,hg0,hz0,hst0⟩:=HE.out wC.drew (Below.refl _ _).drew
    obtain ⟨st1,W1,E1,hg1,hz1,hst1⟩:=HE.out _ HBa.out
    have HG0:=Lh hg0
    have HG1':=Lh hg1
    have HSt0:=Lh hst0
    have HSt1:=Lh hst1
    have hbC2:∀ (W:World) (r:Option Nat) (W':World),W.grownBy W' r→∀ q,q<W.heap.size→r≠some q→W'.heap[q]? = W.heap[q]? := fun W r W' h q h1 h2=>h.block q h1 (fun e=>h2 e.symm)
    have hpK:bk p≠some s.gK:=fun e=>(Hpb.out _ e).2.1 (.inr (.inl rfl))
    have Hown:=Lh hown
    -- case alloc first
    have SA:=Lh (⟨(HBa.out.cell (p:=⟨s.g,2,none⟩) (show s.g<wC.heap.size by omega)).trans k2,rangeAt_below r0 HBa.out,(HBa.out.cell (p:=⟨g1,0,none⟩) hg1l).trans p0,(HBa.out.cell (p:=⟨g1,1,none⟩) hg1l).trans p1⟩:(wC.alloc (.cells #[.int .i64 (b:Int),.int .i64 (len:Int)] 24)).drew.cell? ⟨s.g,2,none⟩=some (.map (some s.gK))∧(wC.alloc (.cells #[.int .i64 (b:Int),.int .i64 (len:Int)] 24)).drew.rangeAt w.heap.size 0 DV∧(wC.alloc (.cells #[.int .i64 (b:Int),.int .i64 (len:Int)] 24)).drew.cell? ⟨g1,0,none⟩=some (.int .i64 (b:Int))∧(wC.alloc (.cells #[.int .i64 (b:Int),.int .i64 (len:Int)] 24)).drew.cell? ⟨g1,1,none⟩=some (.int .i64 (len:Int)))
    have S0:=Lh (KS.out wC.drew W0 _ nL hg0 (fun q e=>.inl (by cases e;rfl)) hS0)
    have S1:=Lh (KS.out _ W1 _ HBa.out.size hg1 (fun q e=>.inl (by cases e;rfl)) SA.out)
    have HB0a:=Lh ((Below.refl W0.heap.size W0).alloc nL (.cells #[.int .i64 (b:Int),.int .i64 (len:Int)] 24))
    have S0a:=Lh (KS.out W0 (W0.alloc (.cells #[.int .i64 (b:Int),.int .i64 (len:Int)] 24)) none (by rw [hz0];exact Nat.le_refl _) (grown_of_below HB0a.out) (fun q e=>by cases e) S0.out)
    have HO0:=Lh (((show ChT.Own wC.drew 0 p m c (s.kl dg) from Hown.out).kept hg0 (.inr hpK)).later HB0a.out:ChT.Own (W0.alloc (.cells #[.int .i64 (b:Int),.int .i64 (len:Int)] 24)) 0 p m c (s.kl dg))
    have HO1:=Lh ((Hown.out.later HBa.out).kept hg1 (.inr hpK):ChT.Own W1 0 p m c (s.kl dg))
    have N0:=Lh (ChT.news_one W0 (b,len) 24)
    have N1:=Lh (fun j v (hv:(ChT.cl (b,len))[j]? = some v)=>(by
     have h:=ChT.news_one wC (b,len) 24 j v hv
     rw [Addr.add_mid] at h ⊢
     exact (cell_same (hg1.block wC.heap.size (by show wC.heap.size<(wC.alloc _).heap.size;simp) (fun e=>by have e2:wC.heap.size=s.gK:=(by simpa using e);omega))).trans h:W1.cell? ((⟨wC.heap.size,0,none⟩:Addr).add j)=some v))
    refine Code.wp_mono (Q:=fun e a W=>e=.normal∧∃ (A':OA) (c' nK':Nat) (v25 v27 v28 v29 v30:Value),a=⟨#[.pointer (some ⟨s.g,0,none⟩),.agg DV.toArray,.agg #[.int .i64 (b:Int),.int .i64 (len:Int)],undef,.pointer (some ⟨w.heap.size,0,none⟩),.pointer (some ⟨g1,0,none⟩),.pointer (some ⟨wB.heap.size,0,none⟩),.bool false,.tuple #[.agg GV.toArray,.bool false],.pointer (some ⟨s.g,0,none⟩),.pointer (some ⟨s.g,0,none⟩),.pointer (some ⟨s.g,3,none⟩),.map (some s.gW),.pointer (some ⟨g1,0,none⟩),.int .i64 (b:Int),.tuple #[.agg GV.toArray,.bool false],.agg GV.toArray,.bool false,.bool false,.bool true,.pointer (some ⟨s.g,0,none⟩),.pointer (some ⟨s.g,0,none⟩),.pointer (some ⟨s.g,2,none⟩),.map (some s.gK),.agg DV.toArray,v25,.agg #[.int .i64 (b:Int),.int .i64 (len:Int)],v27,v28,v29,v30,undef,undef,undef,undef,undef,undef,undef],[]⟩∧nK'≤s.nK+1∧KnT.At W s.gK nK' (fun y=>if y=dg then some ⟨A',m+1,c'⟩ else s.kn y)∧ChT.Own W 0 A' (m+1) c' (s.kl dg++[(b,len)])∧Chg (fun q=>q=s.gK∨bk p=some q) wC W∧(∀ q,bk A'=some q→wC.heap.size≤q∨bk p=some q)) ?imp ?reg
    case reg=>
     have hu93:=Tryz.underlying93
     have hi93:(Tryz.prog.info? 93).map (·.size)=some DV.length:=by rw [hdl];kernel_rfl
     go_region_held3 (fun W=>W.cell? ⟨s.g,2,none⟩=some (.map (some s.gK))∧W.rangeAt w.heap.size 0 DV∧W.cell? ⟨g1,0,none⟩=some (.int .i64 (b:Int))∧W.cell? ⟨g1,1,none⟩=some (.int .i64 (len:Int)))
      (first|(exact ⟨k2,r0,p0,p1⟩)|(exact SA.out)|(exact S1.out)|(exact S2.out)|(exact S3.out)|go_keep)
      (first|(refine ChT.step_append rfl _ _ rfl 0 p m c (s.kl dg) (b,len) rfl HO1.out ⟨wC.heap.size,0,none⟩ 1 rfl N1.out hm9 (Nat.zero_le _) ?_;intro A' c' w2 ho2 hg2 hn2;have hgK2:w2.heap[s.gK]? = W1.heap[s.gK]? := (hg2.block s.gK (by have:=HBa.out.size;omega) (fun e=>hpK e.symm));obtain ⟨w3,hr3,hat3,hg3⟩:=HSt1.out w2 ⟨A',m+1,c'⟩ hgK2;have hr4:(Instr.entryStore 97 (.map (some s.gK)) (.int .i64 (st1:Int)) (.slice A' (m+1) c')).run Tryz.prog w2=.ok () w3:=hr3;have hs1:wC.heap.size≤W1.heap.size:=(by have:=HBa.out.size;omega);have S2:=Lh (KS.out W1 w2 _ hs1 hg2 (fun q e=>.inr (.inl e)) S1.out);have S3:=Lh (KS.out w2 w3 _ (Nat.le_trans hs1 hg2.size) hg3 (fun q e=>.inl (by cases e;rfl)) S2.out);clear hr3))
     have hn3:bk A'≠some s.gK:=fun e=>by
      rcases hn2 with h|⟨k,h,hk⟩
      ·rw [h] at e;exact hpK e
      ·rw [h] at e;cases e;have:=HBa.out.size;omega
     have hcA:Chg (fun q=>q=s.gK∨bk p=some q) wC w3:=(((Chg.of_below HBa.out).trans (Chg.of_grown (F:=fun q=>q=s.gK) HG1'.out (fun q e _=>by cases e;rfl)) (fun _ _ h=>.inl h)).trans (Chg.of_grown (F:=fun q=>bk p=some q) hg2 (fun q e _=>e)) (fun _ _ h=>.inr h)).trans (Chg.of_grown (F:=fun q=>q=s.gK) hg3 (fun q e _=>by cases e;rfl)) (fun _ _ h=>.inl h)
     refine ⟨rfl,A',c',_,_,_,_,_,_,rfl,by split<;>omega,hat3,ho2.kept hg3 (.inr hn3),hcA,fun q hq=>?_⟩
     rcases hn2 with h|⟨k,h,hk⟩
     ·rw [h] at hq;exact .inr hq
     ·rw [h] at hq;cases hq;have:=HBa.out.size;exact .inl (by omega)
    case imp=>
     clear S0 S1 SA HO0 HO1 N0 N1 HB0a S0a HBa E0 E1 hg0 hg1 hst0 hst1 HE KS hS0 K2 HG0 HG1' HSt0 HSt1 hz0 hz1 hbC2 k2 hown hpb p0 p1 r0
     rintro e a w3 ⟨rfl,A',c',nK',v25,v27,v28,v29,v30,rfl,hnK',hat,ho,hch,hpq⟩
     have hnF:∀ q,q<wC.heap.size→s.wr q→q≠s.gK→¬(q=s.gK∨bk p=some q):=fun q _ h1 h2 h3=>h3.elim h2 (fun e=>(Hpb.out q e).2.1 h1)
     have hnd:¬(w.heap.size=s.gK∨bk p=some w.heap.size):=fun h3=>h3.elim (fun e=>by omega) (fun e=>by have:=(Hpb.out _ e).1;omega)
     have hn1:¬(g1=s.gK∨bk p=some g1):=fun h3=>h3.elim (fun e=>by omega) (fun e=>by have:=(Hpb.out _ e).1;omega)
     have hgW:s.gW<wC.heap.size:=by have:=HM.out.wr_lt (.inr (.inr (.inl rfl)):s.wr s.gW);omega
     have hgWn:s.gW≠s.gK:=fun e=>hm3.2.2.2.2.1 e.symm
     have HW3:=Lh (HMC.out.mW.chg hch (hnF _ hgW (.inr (.inr (.inl rfl))) hgWn))
     have HC3:=Lh (Blk.chg HCC.out hch hn1)
     have HD3:=Lh (Blk.chg HDC.out hch hnd)
     have k3':w3.cell? ⟨s.g,3,none⟩=some (.map (some s.gW)):=(cell_same (hch.block s.g (show s.g<wC.heap.size by omega) (hnF _ (by omega) (.inl rfl) hm3.1))).trans k3
     have p0:=HC3.out.cell 0
     simp only [Zt,Zz,Zs] at p0
     have r0:w3.rangeAt w.heap.size 0 DV:=fun j v hv=>by
      rw [HD3.out.cell,Nat.zero_add]
      simpa using hv
     obtain ⟨w4,hr4,hat4,hg4⟩:=MapT.At.set_run (T:=WhT) (w:=w3.drew) (show WhT.At w3.drew s.gW s.nW s.wh from HW3.out) hW (p:=b) hbf dg inferInstance
     have hr5:(Instr.mapUpdate 98 (.map (some s.gW)) (.int .i64 (b:Int)) (.agg DV.toArray)).run Tryz.prog w3.drew=.ok () w4:=by
      rw [show Value.agg DV.toArray=WhT.vv dg from HDV.out.2.symm]
      exact hr4
     rw [HWn.out] at hat4
     have h4c:Chg (fun q=>q=s.gW) w3 w4:=Chg.of_grown (w:=w3) ⟨hg4.os,hg4.tape,hg4.output,hg4.size,hg4.block⟩ (fun q e _=>by cases e;rfl)
     have hsw3:=hch.size
     have S4:=Lh (⟨(cell_same (h4c.block s.g (show s.g<w3.heap.size by omega) hm3.2.1)).trans k3',(cell_same (h4c.block g1 (show g1<w3.heap.size by omega) (show ¬g1=s.gW by have:=HM.out.wr_lt (.inr (.inr (.inl rfl)):s.wr s.gW);omega))).trans p0,rangeAt_same r0 (h4c.block w.heap.size (by omega) (show ¬w.heap.size=s.gW by have:=HM.out.wr_lt (.inr (.inr (.inl rfl)):s.wr s.gW);omega))⟩:w4.cell? ⟨s.g,3,none⟩=some (.map (some s.gW))∧w4.cell? ⟨g1,0,none⟩=some (.int .i64 (b:Int))∧w4.rangeAt w.heap.size 0 DV)
     have HF:=Lh (⟨hat,ho,hch,hpq,hat4,h4c⟩:_∧ChT.Own w3 0 A' (m+1) c' (s.kl dg++[(b,len)])∧_∧(∀ q,bk A'=some q→wC.heap.size≤q∨bk p=some q)∧_∧Chg (fun q=>q=s.gW) w3 w4)
     clear hat ho hch hpq hat4 h4c hr4 hg4 k3
     have hu93:=Tryz.underlying93
     have hi93:(Tryz.prog.info? 93).map (·.size)=some DV.length:=by rw [hdl];kernel_rfl
     go_wp2_with fail
     go_region_held3 (fun W=>W.cell? ⟨s.g,3,none⟩=some (.map (some s.gW))∧W.cell? ⟨g1,0,none⟩=some (.int .i64 (b:Int))∧W.rangeAt w.heap.size 0 DV) (first|(exact ⟨k3',p0,r0⟩)|(exact S4.out)|go_keep) (fail)
     go_wp2
     go_end0
     rw [←HRe.out]
     obtain ⟨hat,ho,hch,hpq,hat4,h4c⟩:=HF.out
     have hsub:∀ q,(q=s.gK∨bk p=some q)∨q=s.gW→s.fp q:=fun q h=>by
      rcases h with (h|h)|h
      ·exact .inl (.inr (.inl h))
      ·obtain ⟨-,-,x0,h1,h2⟩:=Hpb.out q h
       exact .inr ⟨dg,x0,hd,h1,h2⟩
      ·exact .inl (.inr (.inr (.inl h)))
     have hc:Chg (fun q=>(q=s.gK∨bk p=some q)∨q=s.gW) wC w4:=(hch.mono (fun _ _ h=>.inl h)).trans h4c (fun _ _ h=>.inr h)
     have hwn:∀ q,s.wr q→q≠s.gK→q≠s.gW→¬((q=s.gK∨bk p=some q)∨q=s.gW):=fun q h1 h2 h3 h=>by
      rcases h with (h|h)|h
      ·exact h2 h
      ·exact (Hpb.out q h).2.1 h1
      ·exact h3 h
     obtain ⟨a1,a2,a3,a4,a5,a6,a7,a8,a9,a10⟩:=hm3
     have hA4:∀ q,bk A'=some q→¬q=s.gW:=fun q hq e=>by
      rcases hpq q hq with h|h
      ·omega
      ·exact (Hpb.out q h).2.1 (.inr (.inr (.inl e)))
     have h:=HMC.out.upd (s':=s.lrn dg (b,len) ⟨A',m+1,c'⟩ _ _) hc (hwn _ (.inl rfl) a1 a2) rfl rfl rfl rfl rfl (hat.chg h4c a5) hat4 (HMC.out.mF.chg hc (hwn _ (.inr (.inr (.inr (.inl rfl)))) (Ne.symm a6) (Ne.symm a8))) (HMC.out.mD.chg hc (hwn _ (.inr (.inr (.inr (.inr rfl)))) (Ne.symm a7) (Ne.symm a9))) dg
      (fun d x hdl hx=>by
        have hx:(if d=dg then some (⟨A',m+1,c'⟩:Sl) else s.kn d)=some x:=hx
        by_cases e:d=dg
        ·rw [if_pos e] at hx
         cases hx
         refine .inr ⟨e,?_,fun q hq=>(hpq q hq).imp id (fun h=>?_)⟩
         ·show ChT.Own w4 0 A' (m+1) c' (if d=dg then s.kl dg++[(b,len)] else s.kl d)
          rw [if_pos e]
          exact ho.chg h4c hA4
         ·obtain ⟨-,-,x0,h1,h2⟩:=Hpb.out q h
          exact ⟨x0,h1,h2⟩
        ·rw [if_neg e] at hx
         refine .inl ⟨hx,if_neg e,fun q hq h=>?_⟩
         rcases h with (h|h)|h
         ·exact HM.out.a1 q ⟨d,x,hdl,hx,hq⟩ (.inr (.inl h))
         ·obtain ⟨-,-,x0,h1,h2⟩:=Hpb.out q h
          exact HM.out.a2 d x dg x0 q hdl hd e hx h1 hq h2
         ·exact HM.out.a1 q ⟨d,x,hdl,hx,hq⟩ (.inr (.inr (.inl h))))
      (fun d hdl hx=>by
        have hx:(if d=dg then some (⟨A',m+1,c'⟩:Sl) else s.kn d)=none:=hx
        show (if d=dg then s.kl dg++[(b,len)] else s.kl d)=[]
        by_cases e:d=dg
        ·rw [if_pos e] at hx;cases hx
        ·rw [if_neg e] at hx ⊢;exact HM.out.non d hdl hx)
      (fun n x hx=>by
        have hx:(if n=b then some dg else s.wh n)=some x:=hx
        by_cases e:n=b
        ·rw [if_pos e] at hx;cases hx;exact hd
        ·rw [if_neg e] at hx;exact HM.out.wl n x hx)
     exact ⟨rfl,.inr ⟨HWn.out,⟨A',m+1,c'⟩,_,_,hnK',rfl,h.1,(Chg.of_below HBC.out).trans hc (fun q _ h=>hsub q h),fun q hq=>(h.2 q hq).imp id (fun h=>by omega)⟩⟩
theorem count_set_out {S:List UInt8} {i:Nat} {x y:UInt8} (h:S[i]? = some x) (hy:y≠x):(S.set i y).count x+1=S.count x:=by
 obtain ⟨hi,rfl⟩:=Ze h
 have h1:0<S.count S[i]:=List.count_pos_iff.2 (List.getElem_mem hi)
 rw [List.count_set hi]
 simp [hy]
 try omega
def Amp.take (m:Amp) (i:Nat) (q:Sl) (Q:List Nat):Amp:=⟨{ m.a with free:=m.a.free-1 },m.S.set i 1,q,Q⟩
theorem Amp.take_st {m:Amp} {w:World} (h:m.Mem w) {i:Nat} (hi:i<m.a.len) (q:Sl) (Q:List Nat) (y:Nat):(m.take i q Q).st y=if y=m.a.least+i then some 1 else m.st y:=by
 have hl:=h.slen
 unfold Amp.st Amp.take
 simp only
 by_cases h1:m.a.least≤y
 ·rw [if_pos h1,if_pos h1,List.getElem?_set]
  by_cases e:y=m.a.least+i
  ·rw [if_pos e,if_pos (by omega),if_pos (by omega)]
  ·rw [if_neg e,if_neg (by omega)]
 ·rw [if_neg h1,if_neg h1,if_neg (by omega)]
theorem allocTake (m:Amp) (w:World) (h:m.Mem w) (hi:m.Inv) (hf:1≤m.a.free):
 Calls Tryz.prog 43 #[.pointer (some ⟨m.a.g,0,none⟩)] w fun e w'=>∃ (i:Nat) (q:Sl) (Q:List Nat),e=.returned (.tuple #[.int .i64 ((m.a.least+i:Nat):Int),.bool true])∧i<m.a.len∧m.S[i]? = some 0∧(m.take i q Q).Mem w'∧(m.take i q Q).Inv∧Chg m.fp w w'∧bk q.p=bk m.q.p∧Q.length≤m.Q.length:=by
 have H0:=Lh h
 have HI0:=Lh hi
 have hlo:=h.lo
 have hsl:=h.slen
 have hta:=fun (x:Nat) W=>assert_int (.int .i64 (x:Int)) W
 have hfr:=hi.fr
 have hle:m.a.free≤65536:=by
  rw [hfr]
  have:=List.count_le_length (a:=(0:UInt8)) (l:=m.S)
  omega
 have Hfr:=Lh hfr
 clear h hi hfr
 go_enter Tryz.func43,Tryz.ntmps43
 go_wp2_with fail
 go_loopg [6] (m.Q.length+1) (fun gg s6 wr=>∃ (q:Sl) (Q:List Nat),Q.length<gg∧(⟨m.a,m.S,q,Q⟩:Amp).Mem wr∧(⟨m.a,m.S,q,Q⟩:Amp).Inv∧Chg m.fp w wr∧bk q.p=bk m.q.p∧Q.length≤m.Q.length)
 case atStart=>exact ⟨m.q,m.Q,by omega,H0.out,HI0.out,Chg.refl _ _,rfl,Nat.le_refl _⟩
 case round=>
  obtain ⟨q,Q,hgg,hat,hinv,hch,hqb,hQl⟩:=hrel
  have HA:=Lh hat
  have HI:=Lh hinv
  have HC:=Lh hch
  have Hqb:=Lh hqb
  have hqn:=hat.que.own.length
  have hql:=hinv.ql
  obtain ⟨qp,qn,qc⟩:=q
  simp only at hqn hql hqb
  have k2:=hat.que.cell
  simp only at k2
  cases qn with
  | zero=>
    exfalso
    obtain rfl:Q=[]:=List.eq_nil_of_length_eq_zero hqn
    have h1:0<m.S.count 0:=by have:=Hfr.out;omega
    obtain ⟨i,hi,he⟩:=List.getElem_of_mem (List.count_pos_iff.1 h1)
    have:=hinv.inq i (by show m.S[i]? = some 0;rw [Zg hi,he])
    simp at this
  | succ M=>
    have i1:(0:Int)<((M+1:Nat):Int):=by omega
    have HPop:=Lh (qPop m.a qp M qc Q wr hat.que (by omega))
    clear hat hinv hch hqb
    go_wp2_with fail
    refine HPop.out.mono ?_
    rintro e w1 ⟨x,Q1,rfl,hq1,hp1,hc1⟩
    have hQ1:=hp1.length_eq
    rw [List.length_cons] at hQ1
    have hx:x<65536:=HI.out.qb x (hp1.subset (by simp))
    have hsts1:OwnB w1 0 (some ⟨m.a.gS,0,none⟩) m.a.len m.a.len m.S:=Own.chg HA.out.sts hc1 (fun k hk e=>by
     cases hk
     rcases e with e|e
     ·exact HA.out.a1 e
     ·exact HA.out.a2 e)
    have HM1:=Lh (⟨hq1,hsts1,HA.out.a1,HA.out.a2,hlo⟩:(⟨m.a,m.S,⟨qp,M,qc⟩,Q1⟩:Amp).Mem w1)
    have HP1:=Lh hp1
    have HC1:=Lh (HC.out.trans hc1 (fun k _ e=>e.elim (fun e=>.inl e) (fun e=>.inr (.inr (by rw [←Hqb.out];exact e)))))
    have HIs:=Lh (show Calls Tryz.prog 46 #[.pointer (some ⟨m.a.g,0,none⟩),.int .i64 (x:Int),.int .u8 0] w1 _ from allocIs ⟨m.a,m.S,⟨qp,M,qc⟩,Q1⟩ x 0 w1 HM1.out (by omega))
    clear hq1 hsts1 hp1 hc1 HPop k2
    go_wp2_with fail
    refine HIs.out.mono ?_
    rintro e w2 ⟨rfl,qd,hw2⟩
    have HM2:=Lh (by rw [hw2];exact HM1.out.later (below_drewN w1 qd):(⟨m.a,m.S,⟨qp,M,qc⟩,Q1⟩:Amp).Mem w2)
    have HC2:=Lh (by rw [hw2];exact HC1.out.tr (Chg.drewN _ _ _):Chg m.fp w w2)
    clear hw2 HIs HM1 HC1
    by_cases hst:(⟨m.a,m.S,⟨qp,M,qc⟩,Q1⟩:Amp).st x=some 0
    ·have hd:decide ((⟨m.a,m.S,⟨qp,M,qc⟩,Q1⟩:Amp).st x=some 0)=true:=qT hst
     rw [hd]
     unfold Amp.st at hst
     simp only at hst
     have hlx:m.a.least≤x:=by
      by_cases h:m.a.least≤x
      ·exact h
      ·rw [if_neg h] at hst;cases hst
     rw [if_pos hlx] at hst
     obtain ⟨i,hxi⟩:∃ i,x=m.a.least+i:=⟨x-m.a.least,by omega⟩
     rw [hxi,Nat.add_sub_cancel_left] at hst
     have hil:i<m.a.len:=by have:=(Ze hst).1;omega
     obtain ⟨c0,c1,c3,c5⟩:=HM2.out.cells
     simp only at c0 c1 c3 c5
     have d0:=Bs.cellD (OwnB.bs HM2.out.sts) (i:=i) (by show i<m.S.length;omega)
     rw [Nat.zero_add] at d0
     simp only at d0
     have f3:=HM2.out.que.row.frozen 3
     have f5:=HM2.out.que.row.frozen 5
     simp only at f3 f5
     have e1:IntKind.i64.wrap ((x:Int)-m.a.least)=(i:Int):=by rw [wrapi64 (by omega) (by omega)];omega
     have e2:IntKind.i64.wrap ((m.a.free:Int)-1)=((m.a.free-1:Nat):Int):=by rw [wrapi64 (by omega) (by omega)];omega
     have j0:(0:Int)≤i:=by omega
     have j1:(i:Int)<m.a.len:=by omega
     have HSt:=Lh hst
     have Hxi:=Lh hxi
     clear hd hst hxi
     have hgS:m.a.gS≠m.a.g:=HA.out.a1
     have fS:w2.frozen? ⟨m.a.gS,i,none⟩=false:=World.ownsRow.frozenAt HM2.out.sts i
     go_wp2_with fail
     go_region_held3 (fun W=>W.cell? ⟨m.a.g,0,none⟩=some (.int .i64 (m.a.least:Int))∧W.cell? ⟨m.a.g,1,none⟩=some (.slice (some ⟨m.a.gS,0,none⟩) m.a.len m.a.len)) (first|(exact ⟨c0,c1⟩)|(exact ⟨(World.cell?_setCell_far _ _ _ _ hgS).trans c0,(World.cell?_setCell_far _ _ _ _ hgS).trans c1⟩)) (fail)
     obtain ⟨w3,hw3⟩:∃ x,(w2.setCell ⟨m.a.gS,i,none⟩ (.int .u8 1)).drew=x:=⟨_,rfl⟩
     have hc3:Chg (fun b=>b=m.a.gS) w2 w3:=by rw [←hw3];exact (Chg.setCell (F:=fun b=>b=m.a.gS) w2 ⟨m.a.gS,i,none⟩ (.int .u8 1) rfl).tr (Chg.drew _ _)
     have HS3:=Lh (by rw [←hw3];have h:=(Own.stored HM2.out.sts i (.int .u8 1)).1;unfold OwnB;rw [List.map_set];exact h:OwnB w3 0 (some ⟨m.a.gS,0,none⟩) m.a.len m.a.len (m.S.set i 1))
     have HRow3:=Lh (Blk.chg HM2.out.que.row hc3 (fun e=>hgS e.symm))
     have HO3:=Lh (HM2.out.que.own.chg hc3 (fun k hk e=>HA.out.a2 (by rw [←e];exact hk)))
     have HC3:=Lh (HC2.out.trans hc3 (fun k _ e=>.inr (.inl e)))
     have x3:=HRow3.out.cell 3
     have x5:=HRow3.out.cell 5
     have g3:=HRow3.out.frozen 3
     have g5:=HRow3.out.frozen 5
     simp only [Alc.row,Zt,Zz,Zs] at x3 x5
     clear hc3 c0 c1 c3 c5 d0 f3 f5 fS
     go_wp2
     go_ret2
     have hmx:max (0:Int) (-1)=0:=by decide
     rw [hmx]
     obtain ⟨w5,hw5⟩:∃ x,(w3.setCell ⟨m.a.g,3,none⟩ (.int .i64 ((m.a.free-1:Nat):Int))).setCell ⟨m.a.g,5,none⟩ (.int .i64 0)=x:=⟨_,rfl⟩
     have hc5:Chg (fun b=>b=m.a.g) w3 w5:=by rw [←hw5];exact (Chg.setCell (F:=fun b=>b=m.a.g) w3 ⟨m.a.g,3,none⟩ _ rfl).tr (Chg.setCell (F:=fun b=>b=m.a.g) _ ⟨m.a.g,5,none⟩ _ rfl)
     have hr5:Blk w5 m.a.g 111 (Alc.row { m.a with free:=m.a.free-1 } (.slice qp M qc)):=by
      rw [←hw5]
      have:=Blk.set (Blk.set HRow3.out 3 (.int .i64 ((m.a.free-1:Nat):Int))) 5 (.int .i64 0)
      simpa [Alc.row] using this
     rw [hw5]
     have hcnt:=count_set_out (x:=(0:UInt8)) (y:=1) HSt.out (by decide)
     refine ⟨i,by rw [Hxi.out];rfl,hil,HSt.out,⟨qp,M,qc⟩,Q1,⟨⟨hr5,HO3.out.chg hc5 (fun k hk e=>HA.out.que.ne (by rw [←e];exact hk)),HA.out.que.ne⟩,Own.chg HS3.out hc5 (fun k hk e=>by cases hk;exact hgS e),HA.out.a1,HA.out.a2,hlo⟩,⟨?_,fun j hj=>?_,?_,?_⟩,HC3.out.trans hc5 (fun k _ e=>.inl e),Hqb.out,by omega⟩
     ·show m.a.free-1=(m.S.set i 1).count 0
      have:=Hfr.out
      omega
     ·have hj:(m.S.set i 1)[j]? = some 0:=hj
      by_cases e:i=j
      ·subst e
       rw [List.getElem?_set_self (by omega)] at hj
       cases hj
      ·rw [List.getElem?_set_ne e] at hj
       have h1:=HI.out.inq j hj
       have h2:=HP1.out.symm.subset h1
       rcases List.mem_cons.1 h2 with h|h
       ·have h:m.a.least+j=x:=h
        have:=Hxi.out
        omega
       ·exact h
     ·show Q1.length≤_;omega
     ·exact fun y hy=>HI.out.qb y (HP1.out.subset (List.mem_cons_of_mem _ hy))
    ·have hd:decide ((⟨m.a,m.S,⟨qp,M,qc⟩,Q1⟩:Amp).st x=some 0)=false:=qF hst
     rw [hd]
     have hne:∀ i:Nat,m.S[i]? = some 0→m.a.least+i≠x:=fun i hi e=>hst (by
      unfold Amp.st
      simp only
      rw [if_pos (by omega),←e,Nat.add_sub_cancel_left]
      exact hi)
     clear hst hd
     go_wp2
     go_roundg (Q1.length+1)
     case measure=>omega
     case rel=>
      refine ⟨⟨qp,M,qc⟩,Q1,by omega,HM2.out,⟨Hfr.out,fun i hi=>?_,by show Q1.length≤_;omega,fun y hy=>HI.out.qb y (HP1.out.subset (List.mem_cons_of_mem _ hy))⟩,HC2.out,Hqb.out,by omega⟩
      have h1:=HI.out.inq i hi
      have h2:=HP1.out.symm.subset h1
      rcases List.mem_cons.1 h2 with h|h
      ·exact absurd h (hne i hi)
      ·exact h
theorem zeros_made (n:Nat):(madeCells #[Value.int .u8 0] n)=((List.replicate n (0:UInt8)).map u8v).toArray:=by
 apply Array.ext'
 rw [toList_madeCells_one,List.map_replicate]
 rfl
theorem allocNew (L N:Nat) (w:World) (h:L+N≤65536):
 Calls Tryz.prog 28 #[.int .i64 (L:Int),.int .i64 ((L+N:Nat):Int)] w fun e w'=>∃ m:Amp,e=.returned (.tuple #[.pointer (some ⟨m.a.g,0,none⟩),.int .i64 0])∧m.Mem w'∧m.Inv∧m.a.least=L∧m.a.len=N∧m.a.free=N∧m.S=List.replicate N 0∧(∀ b,m.fp b→w.heap.size≤b)∧Below w.heap.size w w'∧m.Q.length=N:=by
 have i1:¬(L:Int)<0:=by omega
 have i2:¬(65536:Int)<((L+N:Nat):Int):=by omega
 have i3:¬((L+N:Nat):Int)<(L:Int):=by omega
 have e1:IntKind.i64.wrap (((L+N:Nat):Int)-(L:Int))=(N:Int):=by rw [wrapi64 (by omega) (by omega)];omega
 have hmk:∀ W:World,(Instr.makeSlice 37 (.int .i64 (N:Int)) (.int .i64 (N:Int))).run Tryz.prog W=.ok (.slice (some ⟨W.heap.size,0,none⟩) N N) (W.alloc (.cells ((List.replicate N (0:UInt8)).map u8v).toArray 5)):=fun W=>by
  rw [←zeros_made]
  exact run_make_row' 37 5 (.int .u8 0) 1 Tryz.underlying37 (by kernel_rfl) rfl .i64 .i64 N (by omega) (by omega) W
 obtain ⟨Z,hZ⟩:∃ Z,(List.replicate N (0:UInt8)).map u8v=Z:=⟨_,rfl⟩
 rw [hZ] at hmk
 have HZ:=Lh hZ
 obtain ⟨E,hE⟩:∃ E,L+N=E:=⟨_,rfl⟩
 rw [hE] at i2 i3 e1 ⊢
 have HE:=Lh hE
 clear hZ hE
 go_enter Tryz.func28,Tryz.ntmps28
 go_wp2_with fail
 obtain ⟨wA,hwA⟩:∃ x,w.alloc (.cells Z.toArray 5)=x:=⟨_,rfl⟩
 have hsA:wA.heap.size=w.heap.size+1:=by rw [←hwA];simp
 have hSA:Blk wA w.heap.size 5 Z.toArray:=by rw [←hwA];exact Blk.new w _ _
 have hBA:Below w.heap.size w wA:=by rw [←hwA];exact (Below.refl _ _).alloc nL _
 rw [hwA]
 obtain ⟨a,ha⟩:∃ a:Alc,a=⟨w.heap.size+1,w.heap.size,L,N,N⟩:=⟨_,rfl⟩
 obtain ⟨wB,hwB⟩:∃ x,wA.alloc (.cells #[.int .i64 (L:Int),.slice (some ⟨w.heap.size,0,none⟩) N N,.slice none 0 0,.int .i64 (N:Int),.int .i64 0,.int .i64 0] 111)=x:=⟨_,rfl⟩
 have hRB:Blk wB a.g 111 (a.row (.slice none 0 0)):=by rw [ha,←hwB];show Blk _ (w.heap.size+1) _ _;rw [←hsA];exact Blk.new wA _ _
 have hBB:Below wA.heap.size wA wB:=by rw [←hwB];exact (Below.refl _ _).alloc nL _
 rw [hwB]
 have HQ:=Lh (⟨hRB,RowT.Own.nil _ _ _,by simp [bk]⟩:Que a wB none 0 0 [])
 have HSB:=Lh (hSA.later hBB)
 have HBB:=Lh (hBA.trans (hBB.mono (by omega)))
 have hag:a.g=w.heap.size+1:=by rw [ha]
 have haS:a.gS=w.heap.size:=by rw [ha]
 have haL:a.least=L:=by rw [ha]
 have haN:a.len=N:=by rw [ha]
 have haF:a.free=N:=by rw [ha]
 have hBs:=HBB.out.size
 have hag2:w.heap.size+1=a.g:=hag.symm
 rw [hag2]
 have hgl:=HQ.out.row.lt
 have Hsz:=Lh hag
 clear hRB hBB hSA hBA hsA hwA hwB ha hag hag2 hmk e1 i3
 go_loopg [7] N (fun gg s7 wr=>∃ (k:Nat) (A:OA) (c:Nat),k≤N∧N-k≤gg∧s7=.int .i64 ((L+k:Nat):Int)∧Que a wr A k c ((List.range k).map (L+·))∧Chg (fun b=>b=a.g) wB wr∧∀ b,bk A=some b→wB.heap.size≤b)
 case atStart=>exact ⟨0,none,0,Nat.zero_le _,by omega,rfl,HQ.out,Chg.refl _ _,fun b hb=>by cases hb⟩
 case round=>
  obtain ⟨k,A,c,hk,hgg,rfl,hq,hch,hbk⟩:=hrel
  have HQk:=Lh hq
  have HC:=Lh hch
  have Hbk:=Lh hbk
  have k2:=hq.cell
  have f2:=hq.row.frozen 2
  have hsz:=hch.size
  clear hq hch hbk
  obtain ⟨x,hx⟩:∃ x,L+k=x:=⟨_,rfl⟩
  rw [hx]
  have Hx:=Lh hx
  have hE:=HE.out
  by_cases hlt:k<N
  ·have j1:(x:Int)<E:=by omega
   have e2:IntKind.i64.wrap ((x:Int)+1)=((x+1:Nat):Int):=by rw [wrapi64 (by omega) (by omega)];omega
   clear hx hE
   obtain ⟨wz,hwz⟩:∃ z,wr.alloc (.cells #[.int .i64 (x:Int)] 3)=z:=⟨_,rfl⟩
   have HBz:=Lh (by rw [←hwz];exact (Below.refl _ _).alloc nL _:Below wr.heap.size wr wz)
   have HQz:=Lh (HQk.out.below HBz.out)
   have hnz:wz.cell? ⟨wr.heap.size,0,none⟩=some (natv x):=by rw [←hwz];exact World.cell?_alloc_at _ _ _ _ rfl
   have Hnews:=Lh (show ∀ j v,(NumR.cl x)[j]? = some v→wz.cell? ((⟨wr.heap.size,0,none⟩:Addr).add j)=some v from fun j v hv=>by
    have hj:j<1:=(Ze hv).1
    obtain rfl:j=0:=by omega
    cases hv
    rw [Addr.add_mid];exact hnz)
   have hAs:∀ b,bk A=some b→b≠a.g:=fun b hb e=>HQk.out.ne (by rw [hb,e])
   clear hnz
   go_wp2_with (first|(refine NumR.wpList_append rfl _ _ rfl 0 A k c _ x rfl HQz.out.own ⟨wr.heap.size,0,none⟩ 1 rfl Hnews.out (by omega) (Nat.zero_le _) ?_;intro A6 c6 w6 hown6 hgr6 hnt6;have hk6:=HQz.out.row.kept hgr6 (fun e=>HQz.out.ne e);have c7:w6.cell? ⟨a.g,2,none⟩=some (.slice A k c):=(by have:=hk6.cell 2;simpa [Alc.row] using this);have f7:=hk6.frozen 2))
   go_roundg (N-(k+1))
   case measure=>omega
   case rel=>
    have hx:=Hx.out
    have hcs:Chg (fun b=>b=a.g) w6 (w6.setCell ⟨a.g,2,none⟩ (.slice A6 (k+1) c6)):=Chg.setCell _ _ _ rfl
    have hzs:=HBz.out.size
    have hA6:∀ q,bk A6=some q→wB.heap.size≤q:=fun q hq=>by
     rcases hnt6 with h|⟨z,h,hz⟩
     ·exact Hbk.out q (by rw [←h];exact hq)
     ·rw [h] at hq;cases hq;omega
    have hne6:bk A6≠some a.g:=fun e=>by have:=hA6 _ e;omega
    refine ⟨k+1,A6,c6,by omega,by omega,by rw [show L+(k+1)=x+1 by omega];try rfl,⟨?_,?_,hne6⟩,?_,hA6⟩
    ·have:=Blk.set hk6 2 (.slice A6 (k+1) c6)
     simpa [Alc.row] using this
    ·have h1:=RowT.Own.chg (T:=NatR) hown6 hcs (fun q hq e=>hne6 (by rw [hq,e]))
     rw [List.range_succ,List.map_append]
     show NatR.Own _ 0 A6 (k+1) c6 (_++[L+k])
     rw [hx]
     exact h1
    ·exact ((HC.out.trans (Chg.of_below HBz.out) (fun _ _ h=>h)).trans (Chg.of_grown hgr6 (F:=fun b=>bk A=some b) (fun b hb _=>hb)) (fun q hq e=>by have:=Hbk.out q e;omega)).trans hcs (fun _ _ h=>h)
  ·have j1:¬(x:Int)<E:=by omega
   obtain rfl:k=N:=by omega
   clear hx hE
   go_wp2
   go_ret2
   have hsz2:=Hsz.out
   have hbe:Below w.heap.size w wr:=HBB.out.trans (Chg.below (base:=w.heap.size) HC.out (fun b e=>by subst e;omega) HBB.out.size)
   have hs6:OwnB wr 0 (some ⟨a.gS,0,none⟩) k k (List.replicate k 0):=by
    have hb:=Blk.chg HSB.out HC.out (fun e=>by omega)
    rw [haS]
    have hZ:=HZ.out
    have hzl:Z.length=k:=by rw [←hZ];simp
    exact ⟨by rw [hZ,hzl];omega,.inr ⟨w.heap.size,k,Z.toArray,rfl,Nat.zero_le _,hb,Nat.le_refl _,by unfold maxLen;omega,by simp [hzl],by rw [hZ];simp [List.take_of_length_le,hzl]⟩⟩
   refine ⟨⟨a,List.replicate k 0,⟨A,k,c⟩,(List.range k).map (L+·)⟩,rfl,⟨HQk.out,by rw [haN];exact hs6,by show a.gS≠a.g;omega,fun e=>by have:=Hbk.out _ e;rw [haS] at this;omega,by rw [haL,haN];exact h⟩,⟨?_,fun i hi=>?_,?_,fun y hy=>?_⟩,haL,haN,haF,rfl,?_,hbe,by simp⟩
   ·rw [haF];simp
   ·have hi:(List.replicate k (0:UInt8))[i]? = some 0:=hi
    have hil:i<k:=by simpa using (Ze hi).1
    rw [haL]
    exact List.mem_map.2 ⟨i,List.mem_range.2 hil,rfl⟩
   ·simp only [List.length_map,List.length_range];omega
   ·obtain ⟨i,hi,rfl⟩:=List.mem_map.1 hy
    have:=List.mem_range.1 hi
    omega
   ·rintro b (e|e|e)
    ·have e:b=a.g:=e;omega
    ·have e:b=a.gS:=e;rw [haS] at e;omega
    ·have:=Hbk.out b e;omega
def C8T:RowT (Sl × Sl):={
 st:=121
 e:=125
 k:=2
 bytes:=48
 z:=.agg #[.slice none 0 0,.slice none 0 0]
 hu:=Tryz.underlying121
 hi:=by kernel_rfl
 hz:=rfl
 hk:=by decide
 hb:=by decide
 cl x:=[x.1.v,x.2.v]
 hl _:=rfl
 h1 _ v hv:=by
  simp only [List.mem_cons,List.not_mem_nil,or_false] at hv
  rcases hv with rfl|rfl<;>rfl }
theorem ref12New (L N:Nat) (w:World) (h:L+N≤65536):
 Calls Tryz.prog 29 #[.int .i64 (L:Int),.int .i64 ((L+N:Nat):Int)] w fun e w'=>∃ g,e=.returned (.tuple #[.pointer (some ⟨g,0,none⟩),.int .i64 0])∧Below w.heap.size w w':=by
 have i1:¬(L:Int)<0:=by omega
 have i2:¬(65536:Int)<((L+N:Nat):Int):=by omega
 have i3:¬((L+N:Nat):Int)<(L:Int):=by omega
 have e1:IntKind.i64.wrap (((L+N:Nat):Int)-(L:Int))=(N:Int):=by rw [wrapi64 (by omega) (by omega)];omega
 obtain ⟨Z,hmk⟩:∃ Z:Array Value,∀ W:World,(Instr.makeSlice 43 (.int .i64 (N:Int)) (.int .i64 (N:Int))).run Tryz.prog W=.ok (.slice (some ⟨W.heap.size,0,none⟩) N N) (W.alloc (.cells Z 3)):=⟨_,fun W=>run_make_row' 43 3 (.int .i64 0) 8 Tryz.underlying43 (by kernel_rfl) rfl .i64 .i64 N (by omega) (by omega) W⟩
 obtain ⟨E,hE⟩:∃ E,L+N=E:=⟨_,rfl⟩
 rw [hE] at i2 i3 e1 ⊢
 clear hE
 go_enter Tryz.func29,Tryz.ntmps29
 go_wp2
 go_ret2
 exact ⟨⟨_,rfl⟩,((Below.refl _ _).alloc nL _).alloc (by simp) _⟩
theorem ref08New (N:Nat) (w:World) (h1:1≤N) (h2:N≤4096):
 Calls Tryz.prog 27 #[.int .i64 (N:Int)] w fun e w'=>∃ g,e=.returned (.tuple #[.pointer (some ⟨g,0,none⟩),.int .i64 0])∧Below w.heap.size w w':=by
 obtain ⟨R,hR⟩:∃ R,(fun (e:Ending) (w':World)=>∃ g,e=.returned (.tuple #[.pointer (some ⟨g,0,none⟩),.int .i64 0])∧Below w.heap.size w w')=R:=⟨_,rfl⟩
 rw [hR]
 have HRe:=Lh hR
 have i1:¬(N:Int)<1:=by omega
 have i2:¬(4096:Int)<(N:Int):=by omega
 obtain ⟨Z,hmk⟩:∃ Z:Array Value,∀ W:World,(Instr.makeSlice 37 (.int .i64 256) (.int .i64 256)).run Tryz.prog W=.ok (.slice (some ⟨W.heap.size,0,none⟩) 256 256) (W.alloc (.cells Z 5)):=⟨_,fun W=>run_make_row' 37 5 (.int .u8 0) 1 Tryz.underlying37 (by kernel_rfl) rfl .i64 .i64 256 (by omega) (by omega) W⟩
 have HP0:=Lh (Blk.new w 123 #[.slice none 0 0,.bool false,.int .i64 0])
 have HB0:=Lh ((Below.refl w.heap.size w).alloc nL (.cells #[.slice none 0 0,.bool false,.int .i64 0] 123))
 clear hR
 go_enter Tryz.func27,Tryz.ntmps27
 go_wp2_with fail
 obtain ⟨wA,hwA⟩:∃ x,w.alloc (.cells #[.slice none 0 0,.bool false,.int .i64 0] 123)=x:=⟨_,rfl⟩
 rw [hwA] at HP0 HB0 ⊢
 have hsA:w.heap.size<wA.heap.size:=HP0.out.lt
 clear hwA
 go_loopg [5] N (fun gg s5 wr=>∃ (k:Nat) (A:OA) (c:Nat) (l:List (Sl × Sl)),k≤N∧N-k≤gg∧s5=.int .i64 (k:Int)∧Blk wr w.heap.size 123 #[.slice A k c,.bool false,.int .i64 0]∧C8T.Own wr (w.heap.size+1) A k c l∧Below w.heap.size w wr)
 case atStart=>exact ⟨0,none,0,[],by omega,by omega,rfl,HP0.out,RowT.Own.nil _ _ _,HB0.out⟩
 case round=>
  obtain ⟨k,A,c,l,hk,hgg,rfl,hp,hO,hb⟩:=hrel
  have HGg:=Lh hgg
  have HP:=Lh hp
  have HO:=Lh hO
  have HB:=Lh hb
  have hgl:=hp.lt
  have hsr:=hb.size
  clear hgg hp hO hb
  by_cases hlt:k<N
  ·have j0:(k:Int)<(N:Int):=by omega
   have KB:=Lh (fun (W:World) (hb:Below wr.heap.size wr W)=>(by
    have h:=HP.out.later hb
    have c0:=h.cell 0
    have c1:=h.cell 1
    have f0:=h.frozen 0
    simp only [Zt,Zz,Zs] at c0 c1
    exact ⟨c0,c1,f0⟩:W.cell? ⟨w.heap.size,0,none⟩=some (.slice A k c)∧W.cell? ⟨w.heap.size,1,none⟩=some (.bool false)∧W.frozen? ⟨w.heap.size,0,none⟩=false))
   have hbZ:Below wr.heap.size wr (wr.alloc (.cells Z 5)):=(Below.refl _ _).alloc nL _
   have hsz:(wr.alloc (.cells Z 5)).heap.size=wr.heap.size+1:=by simp
   have hbY:Below wr.heap.size wr ((wr.alloc (.cells Z 5)).alloc (.cells #[.slice (some ⟨wr.heap.size,0,none⟩) 256 256,.slice none 0 0] 125)):=hbZ.alloc hbZ.size _
   have HbY:=Lh hbY
   have c0a:=(KB.out wr.drew (Below.refl _ _).drew).1
   have c0b:=(KB.out _ hbZ.drew).1
   have c0c:=(KB.out _ hbY.drew).1
   have f0a:=(KB.out wr.drew (Below.refl _ _).drew).2.2
   have c1:=Lh ((KB.out wr (Below.refl _ _)).2.1)
   have c1a:=Lh ((KB.out wr.drew (Below.refl _ _).drew).2.1)
   have c1b:=Lh ((KB.out _ hbZ.drew).2.1)
   have c1c:=Lh ((KB.out _ hbY.drew).2.1)
   have HOY:=Lh (HO.out.later hbY.drew)
   have HNews:=Lh (fun j v hv=>(by
    have h:=C8T.news_one (wr.alloc (.cells Z 5)) (⟨some ⟨wr.heap.size,0,none⟩,256,256⟩,⟨none,0,0⟩) 125 j v hv
    rw [hsz] at h
    exact h:((wr.alloc (.cells Z 5)).alloc (.cells #[.slice (some ⟨wr.heap.size,0,none⟩) 256 256,.slice none 0 0] 125)).drew.cell? ((⟨wr.heap.size+1,0,none⟩:Addr).add j)=some v))
   have hAb:bk A≠some w.heap.size:=fun e=>by have:=(HO.out.lt e).1;omega
   have KD:=Lh (fun (w3:World) (hg:((wr.alloc (.cells Z 5)).alloc (.cells #[.slice (some ⟨wr.heap.size,0,none⟩) 256 256,.slice none 0 0] 125)).drew.grownBy w3 (bk A))=>(HP.out.later hbY.drew).kept hg hAb)
   have hsY:wr.heap.size<(((wr.alloc (.cells Z 5)).alloc (.cells #[.slice (some ⟨wr.heap.size,0,none⟩) 256 256,.slice none 0 0] 125)).drew).heap.size:=by show _<(World.alloc _ _).heap.size;simp;omega
   clear hbZ hbY
   go_wp2_with fail
   go_region_law
    (first|(refine C8T.step_append rfl _ _ rfl (w.heap.size+1) A k c l (⟨some ⟨wr.heap.size,0,none⟩,256,256⟩,⟨none,0,0⟩) rfl HOY.out ⟨wr.heap.size+1,0,none⟩ 1 rfl HNews.out (by omega) (by omega) ?_;intro A' c' w3 ho3 hg3 hn3;have hpd:=KD.out w3 hg3;have HPd:=Lh hpd;have f0d:=hpd.frozen 0;have c0d:=hpd.cell 0;have c1d':=hpd.cell 1;simp only [Zt,Zz,Zs] at c0d c1d';have c1d:=Lh c1d';have c1e:=Lh (by have h:=(Blk.set hpd 0 (.slice A' (k+1) c')).cell 1;simpa using h:(w3.setCell ⟨w.heap.size,0,none⟩ (.slice A' (k+1) c')).cell? ⟨w.heap.size,1,none⟩=some (.bool false));clear hpd c1d'))
   all_goals
    have hB3:Below w.heap.size w w3:=(HB.out.trans (HbY.out.drew.mono hsr)).grown hg3 (by omega) (fun q hq=>by have:=(HO.out.lt hq).1;omega)
    have HB3:=Lh hB3
    have HO3:=Lh ho3
    clear hB3 ho3 hg3 hn3 c0a c0b c0c c0d f0a f0d
    go_wp2
    go_roundg (N-(k+1))
    case measure=>have:=HGg.out;omega
    case rel=>
     refine ⟨k+1,A',c',_,by omega,by omega,by go_num,?_,HO3.out.chg (F:=fun q=>q=w.heap.size) (Chg.setCell _ _ _ rfl) (fun q hq e=>by have:=(HO3.out.lt hq).1;omega),HB3.out.setCell nL _⟩
     have h:=Blk.set HPd.out 0 (.slice A' (k+1) c')
     simpa using h
  ·have j0:¬(k:Int)<(N:Int):=by omega
   have hkN:k=N:=by omega
   clear hlt hkN
   go_wp2
   rw [←HRe.out]
   exact ⟨_,rfl,HB.out⟩
end Go.Proofs.YtiihiocgbfafaaaGreat
