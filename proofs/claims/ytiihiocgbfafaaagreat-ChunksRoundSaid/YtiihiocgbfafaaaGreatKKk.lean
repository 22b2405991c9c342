/- P4 U0 U1 -/
import Derived.Test.YtiihiocgbfafaaaGreatKKc
import Derived.Test.YtiihiocgbfafaaaGreatKKi
import Derived.Test.YtiihiocgbfafaaaGreatKKj
import Derived.Deep.CutBlock
import Derived.Deep.CutRange
set_option linter.unusedSimpArgs false
set_option linter.unusedVariables false
set_option maxHeartbeats 8000000
set_option maxRecDepth 100000
namespace Go.Proofs.YtiihiocgbfafaaaGreat
open Go.RowKit
def stpPost (r:Option (List Sq × List UInt8)) (g:Nat) (A:OA) (w:World) (e:Ending) (w':World):Prop:=
 w.grownBy w' (some g)∧match r with
 | none=>(∃ A' n' c',e=.returned (.slice A' n' c'))∧∃ l' A' c',bk A'=bk A∧IsPk w' g l' A' c' true
 | some (out,rest)=>∃ A1 c1 A' c',e=.returned (.slice A1 out.length c1)∧OwnS w' w.heap.size A1 out.length c1 out∧bk A'=bk A∧IsPk w' g rest A' c' false
theorem stpPost_bad {r:Option (List Sq × List UInt8)} {g c' n1 c1:Nat} {w w':World} {l':List UInt8} {A A' A1:OA} (h:r=none) (hp:IsPk w' g l' A' c' true) (hA:bk A'=bk A) (hg:w.grownBy w' (some g)):stpPost r g A w (.returned (.slice A1 n1 c1)) w':=by
 subst h;exact ⟨hg,⟨_,_,_,rfl⟩,_,_,_,hA,hp⟩
theorem pkStepsBad (g c:Nat) (l:List UInt8) (A:OA) (n:Nat) (w:World) (h:IsPk w g l A c true) (hn:n≤65536):
 Calls Tryz.prog 65 #[.pointer (some ⟨g,0,none⟩),.int .i64 (n:Int)] w (stpPost none g A w):=by
 have HN:=Lh (pk_num_bad g c l A true ((n:Int)/4) w h (.inl rfl))
 clear h
 go_enter Tryz.func65,Tryz.ntmps65
 go_wp2_with fail
 refine HN.out.mono ?_
 rintro e w1 ⟨rfl,hp1,hg1⟩
 have c1:=hp1.blk.cell 1
 simp only [Zt,Zz,Zs] at c1
 go_wp2
 go_ret
 exact stpPost_bad rfl hp1 rfl hg1
theorem pkSteps (g c:Nat) (l:List UInt8) (A:OA) (n:Nat) (w:World) (h:IsPk w g l A c false) (hl:l.length≤140737488351232) (hn:n≤65536):
 Calls Tryz.prog 65 #[.pointer (some ⟨g,0,none⟩),.int .i64 (n:Int)] w (stpPost (stepsL l n) g A w):=by
 obtain ⟨R,hR⟩:∃ R,stepsL l n=R:=⟨_,rfl⟩
 rw [hR]
 unfold stepsL at hR
 have E4:=Lh (show (n:Int)/4=((n/4:Nat):Int) by omega)
 cases hp:pkNum l ((n/4:Nat):Int) with
 | none=>
   rw [hp] at hR
   have HD:=Lh (show R=none from hR.symm)
   have HN:=Lh (pk_num_bad g c l A false _ w h (.inr hp))
   clear hR hp h hl
   go_enter Tryz.func65,Tryz.ntmps65
   go_wp2_with fail
   rw [E4.out]
   refine HN.out.mono ?_
   rintro e w1 ⟨rfl,hp1,hg1⟩
   have c1:=hp1.blk.cell 1
   simp only [Zt,Zz,Zs] at c1
   go_wp2
   go_ret
   exact stpPost_bad HD.out hp1 rfl hg1
 | some p=>
   obtain ⟨many,k⟩:=p
   rw [hp] at hR
   obtain ⟨hk,-,hmany,-⟩:=pkNum_facts hp
   have HN:=Lh (pk_num_any g c l A _ many k w h hp)
   have hmn:many≤65536:=by omega
   obtain ⟨bA,hbA,hbL⟩:∃ b,bk A=some b∧b<w.heap.size:=by
    have h0:0<l.length:=by
     cases l with
     | nil=>cases hp
     | cons _ _=>simp
    obtain ⟨b,o,x,rfl,-,hc⟩:=h.data.at_ h0
    exact ⟨b,rfl,block_lt hc⟩
   have HDm:=Lh (show R=if many=0 then some ([],l.drop k) else stepsCodes many (str3 many 3 (l.drop k) []) from hR.symm)
   have hl1:(l.drop k).length≤140737488351232:=by rw [List.length_drop];omega
   have hA1:bk (cutA A c k)=bk A:=bk_cut A c k
   generalize l.drop k=l1 at *
   generalize cutA A c k=A1 at *
   generalize c-k=ck at *
   clear hR hp h hl hk
   go_enter Tryz.func65,Tryz.ntmps65
   go_wp2_with fail
   rw [E4.out]
   refine HN.out.mono ?_
   rintro e w1 ⟨rfl,hp1,hg1⟩
   have c1:=hp1.blk.cell 1
   simp only [Zt,Zz,Zs] at c1
   by_cases hm0:many=0
   ·have HD:=Lh (HDm.out.trans (if_pos hm0))
    have em:((many:Int)==0)=true:=by rw [hm0];rfl
    clear hm0
    go_wp2
    go_ret
    rw [HD.out]
    exact ⟨hg1,none,0,_,_,rfl,OwnS.nil _ _,hA1,hp1⟩
   ·have HD:=Lh (HDm.out.trans (if_neg hm0))
    have em:((many:Int)==0)=false:=bF (by omega)
    have hgw:g<w1.heap.size:=hp1.blk.lt
    have hww:=hg1.size
    have HC0:=Lh (Cells.new w1 175 (#[.slice none 0 0,.slice none 0 0,.slice none 0 0]) (n:=3) (F:=fun _=>.slice none 0 0) rfl (fun i hi=>by
     rcases (by omega:i=0∨i=1∨i=2) with rfl|rfl|rfl<;>rfl))
    have HBA:=Lh ((Below.refl w1.heap.size w1).alloc nL (.cells #[.slice none 0 0,.slice none 0 0,.slice none 0 0] 175))
    have HPA:=Lh (hp1.later HBA.out)
    have HGA:=Lh (grown_trans hg1 (grown_below HBA.out))
    clear hp1 hg1 HN HDm hm0
    go_wp2
    generalize (w1.alloc (.cells #[.slice none 0 0,.slice none 0 0,.slice none 0 0] 175))=w2 at *
    generalize hcb:w1.heap.size=cb at *
    go_loopg [31] 3 (fun gg s31 wr=>∃ (k:Nat) (F:Nat→Value) (l':List UInt8) (A':OA) (c':Nat) (bad:Bool),k≤3∧3-k≤gg∧s31=.int .i64 (k:Int)∧Cells wr cb 175 3 F∧IsPk wr g l' A' c' bad∧bk A'=bk A∧w.grownBy wr (some g) ∧
     ((bad=true∧R=none)∨(bad=false∧l'.length≤140737488351232∧∃ (cs:List (List Nat)) (As:Nat→OA) (cc:Nat→Nat),cs.length=k∧(∀ j,j<k→F j=.slice (As j) many (cc j)∧OwnN wr w.heap.size (As j) many (cc j) (cs.getD j [])) ∧
       (∀ x∈cs,∀ y∈x,y≤16)∧R=stepsCodes many (str3 many (3-k) l' cs))))
    case atStart=>exact ⟨0,_,l1,A1,ck,false,by omega,by omega,rfl,HC0.out,HPA.out,hA1,HGA.out,.inr ⟨rfl,hl1,[],fun _=>none,fun _=>0,rfl,fun j hj=>by omega,by simp,HD.out⟩⟩
    case round=>
     obtain ⟨k,F,l',A',c',bad,hk,hgg,rfl,hcel,hpk,hAA,hgr,hst⟩:=hrel
     by_cases hk3:k<3
     ·have hcg:g≠cb:=by omega
      have hstep:Calls Tryz.prog 96 #[.pointer (some ⟨g,0,none⟩),.int .i64 (many:Int)] wr fun e w'=>∃ A9 n9 c9 l9 B9 d9 bad9,e=.returned (.slice A9 n9 c9)∧Cells w' cb 175 3 F∧IsPk w' g l9 B9 d9 bad9∧bk B9=bk A∧w.grownBy w' (some g) ∧
       ((bad9=true∧R=none)∨(bad9=false∧l9.length≤140737488351232∧∃ (cs:List (List Nat)) (As:Nat→OA) (cc:Nat→Nat),cs.length=k+1∧(∀ j,j<k→F j=.slice (As j) many (cc j))∧n9=many∧A9=As k∧c9=cc k∧(∀ j,j<k+1→OwnN w' w.heap.size (As j) many (cc j) (cs.getD j [])) ∧
         (∀ x∈cs,∀ y∈x,y≤16)∧R=stepsCodes many (str3 many (3-(k+1)) l9 cs))):=by
       rcases hst with ⟨rfl,hR⟩|⟨rfl,hl',cs,As,cc,hcs,hrow,hsm,hR⟩
       ·refine (pkStreamBad g c' l' A' many wr hpk).mono ?_
        rintro e w' ⟨hg2,⟨A9,n9,c9,rfl⟩,l9,B9,d9,hB9,hp9⟩
        exact ⟨A9,n9,c9,l9,B9,d9,true,rfl,hcel.kept hg2 (by simpa using hcg),hp9,hB9.trans hAA,grown_trans hgr hg2,.inl ⟨rfl,hR⟩⟩
       ·refine (pkStream g c' l' A' many wr hpk hl' hmn).mono ?_
        rintro e w' ⟨hg2,hpost⟩
        cases hs:streamL l' many with
        | none=>
          rw [hs] at hpost
          obtain ⟨⟨A9,n9,c9,rfl⟩,l9,B9,d9,hB9,hp9⟩:=hpost
          refine ⟨A9,n9,c9,l9,B9,d9,true,rfl,hcel.kept hg2 (by simpa using hcg),hp9,hB9.trans hAA,grown_trans hgr hg2,.inl ⟨rfl,?_⟩⟩
          rw [hR,show 3-k=(2-k)+1 by omega,str3,hs];rfl
        | some q=>
          obtain ⟨cd,rest⟩:=q
          rw [hs] at hpost
          obtain ⟨A9,c9,B9,d9,rfl,hown,hB9,hp9⟩:=hpost
          obtain ⟨hf1,hf2,hf3⟩:=streamL_facts hs
          rw [hf1] at hown ⊢
          refine ⟨A9,many,c9,rest,B9,d9,false,rfl,hcel.kept hg2 (by simpa using hcg),hp9,hB9.trans hAA,grown_trans hgr hg2,.inr ⟨rfl,by omega,cs++[cd],fun j=>if j=k then A9 else As j,fun j=>if j=k then c9 else cc j,by simp [hcs],?_,rfl,by simp,by simp,?_,?_,?_⟩⟩
          ·intro j hj
           simp only [if_neg (show ¬j=k by omega)]
           exact (hrow j hj).1
          ·intro j hj
           by_cases e:j=k
           ·subst e
            simp only [if_true]
            rw [show (cs++[cd]).getD j []=cd by simp [List.getD,←hcs]]
            exact Own.mono hown hgr.size
           ·simp only [if_neg e]
            rw [show (cs++[cd]).getD j []=cs.getD j [] by simp only [List.getD];rw [List.getElem?_append_left (by omega)]]
            exact Own.kept (hrow j (by omega)).2 hg2 (.inr (Own.ne_blk (hrow j (by omega)).2 hpk.blk (by decide)))
          ·intro x hx
           rcases List.mem_append.1 hx with h1|h1
           ·exact hsm x h1
           ·rw [List.mem_singleton.1 h1];exact hf2
          ·rw [hR,show 3-k=(2-k)+1 by omega,str3,hs]
           show _=stepsCodes many (str3 many (3-(k+1)) rest (cs++[cd]))
           rw [show 3-(k+1)=2-k by omega];rfl
      have HS:=Lh hstep
      clear hstep hst hcel hpk hgr
      go_wp2_with fail
      refine HS.out.mono ?_
      rintro e w3 ⟨A9,n9,c9,l9,B9,d9,bad9,rfl,hcel,hpk,hB9,hgr,hst⟩
      have f3:=hcel.frozen k
      have q3:=hcel.cell hk3
      have HC3:=Lh (hcel.set k (.slice A9 n9 c9))
      have hgs:=grown_set w3 ⟨cb,k,none⟩ (.slice A9 n9 c9)
      have hcbw:w.heap.size≤cb:=by omega
      have HP3:=Lh (hpk.kept hgs (by simpa using fun e=>hcg e.symm) (.inr (by rw [hB9,hbA];simp only [ne_eq,Option.some.injEq];omega)))
      have HG3:=Lh (grown_own hgr hgs (by intro k hk;cases hk;exact hcbw))
      have hst':(bad9=true∧R=none)∨(bad9=false∧l9.length≤140737488351232∧∃ (cs:List (List Nat)) (As:Nat→OA) (cc:Nat→Nat),cs.length=k+1∧(∀ j,j<k+1→(if j=k then Value.slice A9 n9 c9 else F j)=.slice (As j) many (cc j)∧OwnN (w3.setCell ⟨cb,k,none⟩ (.slice A9 n9 c9)) w.heap.size (As j) many (cc j) (cs.getD j [])) ∧
       (∀ x∈cs,∀ y∈x,y≤16)∧R=stepsCodes many (str3 many (3-(k+1)) l9 cs)):=by
       rcases hst with h|⟨h1,h2,cs,As,cc,h3,h4,rfl,rfl,rfl,h5,h6,h7⟩
       ·exact .inl h
       ·refine .inr ⟨h1,h2,cs,As,cc,h3,fun j hj=>⟨?_,Own.kept (h5 j hj) hgs (.inr (hcel.ne_own (h5 j hj) (by decide)))⟩,h6,h7⟩
        by_cases e:j=k
        ·subst e;rw [if_pos rfl]
        ·rw [if_neg e];exact h4 j (by omega)
      have HST:=Lh hst'
      clear hst hst' hcel hpk hgr hgs HS
      go_wp2
      go_roundg (3-(k+1))
      case measure=>omega
      case rel=>exact ⟨k+1,_,l9,B9,d9,bad9,by omega,by omega,by go_num,HC3.out,HP3.out,hB9,HG3.out,HST.out⟩
     ·obtain rfl:k=3:=by omega
      have q0:=hpk.blk.cell 0
      simp only [Zt,Zz,Zs] at q0
      have HC:=Lh hcel
      rcases hst with ⟨rfl,hR⟩|⟨rfl,hl',cs,As,cc,hcs,hrow,hsm,hR⟩
      ·have HN:=Lh (pk_num_bad g c' l' A' true (l'.length:Int) wr hpk (.inl rfl))
       have HG:=Lh hgr
       clear hpk hcel hgr
       go_wp2_with fail
       refine HN.out.mono ?_
       rintro e w4 ⟨rfl,hp4,hg4⟩
       have HT:=Lh (pk_take_bad g c' l' A' true 0 w4 hp4 (.inl rfl))
       have HG4:=Lh (grown_trans HG.out hg4)
       clear hp4 hg4 q0
       go_wp2_with fail
       refine HT.out.mono ?_
       rintro e w5 ⟨rfl,hp5,hg5⟩
       have d5:=hp5.blk.cell 1
       simp only [Zt,Zz,Zs] at d5
       have HP5:=Lh hp5
       have HG5:=Lh (grown_trans HG4.out hg5)
       clear hp5 hg5
       go_wp2
       go_ret
       exact stpPost_bad hR HP5.out hAA HG5.out
      ·have HD3:=Lh (show R=stepsNum many cs l' (pkNum l' (l'.length:Int)) from hR)
       have HROW:=Lh hrow
       have HSM:=Lh hsm
       have HG:=Lh hgr
       have HP:=Lh hpk
       clear hrow hsm hR hgr hpk hcel
       cases hp:pkNum l' (l'.length:Int) with
       | none=>
         have HN:=Lh (pk_num_bad g c' l' A' false (l'.length:Int) wr HP.out (.inr hp))
         have HD4:=Lh (HD3.out.trans (by rw [hp,stepsNum]):R=none)
         go_wp2_with fail
         refine HN.out.mono ?_
         rintro e w4 ⟨rfl,hp4,hg4⟩
         have HT:=Lh (pk_take_bad g c' l' A' true 0 w4 hp4 (.inl rfl))
         have HG4:=Lh (grown_trans HG.out hg4)
         clear hp4 hg4 q0
         go_wp2_with fail
         refine HT.out.mono ?_
         rintro e w5 ⟨rfl,hp5,hg5⟩
         have d5:=hp5.blk.cell 1
         simp only [Zt,Zz,Zs] at d5
         have HP5:=Lh hp5
         have HG5:=Lh (grown_trans HG4.out hg5)
         clear hp5 hg5
         go_wp2
         go_ret
         exact stpPost_bad HD4.out HP5.out hAA HG5.out
       | some p=>
         obtain ⟨bn,kk⟩:=p
         obtain ⟨hkk,hbn,-,-⟩:=pkNum_facts hp
         have HD4:=Lh (HD3.out.trans (by rw [hp,stepsNum]))
         have HN:=Lh (pk_num_any g c' l' A' _ bn kk wr HP.out hp)
         go_wp2_with fail
         refine HN.out.mono ?_
         rintro e w4 ⟨rfl,hp4,hg4⟩
         have HP4:=Lh hp4
         have HG4:=Lh (grown_trans HG.out hg4)
         have HC4:=Lh (HC.out.kept hg4 (by simp only [ne_eq,Option.some.injEq];omega))
         have HROW4:=Lh (fun j hj=>Own.kept (HROW.out j hj).2 hg4 (.inr (Own.ne_blk (HROW.out j hj).2 HP.out.blk (by decide))))
         have hA4:bk (cutA A' c' kk)=bk A:=(bk_cut _ _ _).trans hAA
         have hl4:(l'.drop kk).length≤140737488351232:=by rw [List.length_drop];omega
         clear hp4 hg4 hp q0 HN
         generalize l'.drop kk=l4 at *
         generalize cutA A' c' kk=A4 at *
         generalize c'-kk=c4 at *
         by_cases hbl:l4.length<bn
         ·have HD5:=Lh (HD4.out.trans (if_pos hbl))
          have HT:=Lh (pk_take_bad g c4 l4 A4 false bn w4 HP4.out (.inr (by omega)))
          clear hbl
          go_wp2_with fail
          refine HT.out.mono ?_
          rintro e w5 ⟨rfl,hp5,hg5⟩
          have d5:=hp5.blk.cell 1
          simp only [Zt,Zz,Zs] at d5
          have HP5:=Lh hp5
          have HG5:=Lh (grown_trans HG4.out hg5)
          clear hp5 hg5
          go_wp2
          go_ret
          exact stpPost_bad HD5.out HP5.out hA4 HG5.out
         ·have HD5:=Lh (HD4.out.trans (if_neg hbl))
          have HT:=Lh (pk_take_any g c4 l4 A4 bn w4 HP4.out (by omega))
          go_wp2_with fail
          refine HT.out.mono ?_
          rintro e w5 ⟨rfl,hp5,hg5⟩
          have d5:=hp5.blk.cell 1
          simp only [Zt,Zz,Zs] at d5
          have HP5:=Lh hp5
          have HG5:=Lh (grown_trans HG4.out hg5)
          have HC5:=Lh (HC4.out.kept hg5 (by simp only [ne_eq,Option.some.injEq];omega))
          have HROW5:=Lh (fun j hj=>Own.kept (HROW4.out j hj) hg5 (.inr (Own.ne_blk (HROW4.out j hj) HP4.out.blk (by decide))))
          have HB5:=Lh (Rd.keptB (Bs.take bn HP4.out.data) hg5 (.inr HP4.out.ne):Bs w5 A4 (l4.take bn))
          have hlb:(l4.take bn).length=bn:=by rw [List.length_take];omega
          have hA5:bk (cutA A4 c4 bn)=bk A:=(bk_cut _ _ _).trans hA4
          have HNR:=Lh (newReader A4 bn c4 (l4.take bn) w5 hlb HB5.out (by omega))
          have HSl:=Lh hlb
          clear hp5 hg5 HT hbl hlb HB5
          generalize l4.take bn=s at *
          generalize l4.drop bn=l5 at *
          generalize cutA A4 c4 bn=A5 at *
          generalize c4-bn=c5 at *
          go_wp2_with fail
          refine HNR.out.mono ?_
          rintro e w6 ⟨gr,Ar,cr,rfl,hgr,hAr,hrow6,hb6⟩
          have hb5:=HG5.out.size
          have HSt:=Lh (⟨hrow6,HP5.out.later hb6,HC5.out.later hb6,fun j hj=>Own.later (HROW5.out j hj) hb6,OwnS.nil _ _,grown_own HG5.out (grown_of_below hb6) (by intro k hk;cases hk),by omega,fun b hb=>by rw [hA5,hbA] at hb;cases hb;exact hbL,fun b hb=>by have:=hAr b hb;omega⟩:
           StpR w w6 s gr Ar cr g l5 A5 c5 cb F many As cc (fun k=>cs.getD k []) 0 false none 0 0 [])
          have HF:=Lh (fun j hj=>(HROW.out j hj).1)
          have HD6:=Lh HD5.out
          have hcs16:∀ k i,(cs.getD k []).getD i 0≤16:=fun k i=>by
           refine getD_le (fun x hx=>?_)
           simp only [List.getD] at hx
           cases e:cs[k]? with
           | none=>rw [e] at hx;simp at hx
           | some c=>rw [e] at hx;exact HSM.out c (List.mem_of_getElem? e) x (by simpa using hx)
          have HCS:=Lh hcs16
          clear hcs16 hrow6 hb6 hgr hAr HP5 HG5 HC5 HROW5 HP4 HG4 HC4 HROW4 HROW HSM HC HG HP HD3 HD4 HD5 HNR hb5 d5
          generalize hcsf:(fun k=>cs.getD k [])=cs' at HSt HD6
          have HCf:=Lh hcsf
          go_wp2
          go_loopg [10,56] many (fun gg s10 s56 wr=>∃ (i a co:Nat) (b:Bool) (Ao:OA) (out:List Sq),i≤many∧many-i≤gg∧s10=.slice Ao i co∧s56=.int .i64 (i:Int)∧StpR w wr s gr Ar cr g l5 A5 c5 cb F many As cc cs' a b Ao i co out∧a≤8*s.length ∧
           R=stepsEnd s l5 (stepGo s cs' (many-i) i a b out))
          case atStart=>exact ⟨0,0,0,false,none,[],by omega,by omega,rfl,rfl,HSt.out,by omega,HD6.out⟩
          case round=>
           obtain ⟨i,a,co,b,Ao,out,hi,hgi,rfl,rfl,hst,ha,hR⟩:=hrel
           by_cases him:i<many
           ·have hvb:=hst.grown.size
            have HV0:=Lh (Cells.new wr 179 (#[.int .i64 0,.int .i64 0,.int .i64 0]) (n:=3) (F:=fun j=>natv (([]:List Nat).getD j 0)) rfl (fun i hi=>by
             rcases (by omega:i=0∨i=1∨i=2) with rfl|rfl|rfl<;>rfl))
            have HS0:=Lh (hst.later ((Below.refl wr.heap.size wr).alloc nL (.cells #[.int .i64 0,.int .i64 0,.int .i64 0] 179)))
            obtain ⟨T,hT⟩:∃ T,rd3 s [(cs' 0).getD i 0,(cs' 1).getD i 0,(cs' 2).getD i 0] a b []=T:=⟨_,rfl⟩
            have HR2:=Lh (by rw [hR,show many-i=(many-(i+1))+1 by omega,stepGo,hT]:R=stepsEnd s l5 (stepGo s cs' (many-(i+1)) (i+1) T.1 T.2.1 (out++[sqOf T.2.2])))
            have HT:=Lh hT
            clear hst hR hT
            go_wp2
            generalize (wr.alloc (.cells #[.int .i64 0,.int .i64 0,.int .i64 0] 179))=w7 at *
            generalize wr.heap.size=vb at *
            go_loopg [59] 3 (fun gg s59 wi=>∃ (k a2:Nat) (b2:Bool) (vs:List Nat),k≤3∧3-k≤gg∧s59=.int .i64 (k:Int)∧vs.length=k∧StpR w wi s gr Ar cr g l5 A5 c5 cb F many As cc cs' a2 b2 Ao i co out∧a2≤8*s.length ∧
             Cells wi vb 179 3 (fun j=>natv (vs.getD j 0))∧rd3 s ([(cs' 0).getD i 0,(cs' 1).getD i 0,(cs' 2).getD i 0].drop k) a2 b2 vs=T)
            case atStart=>exact ⟨0,a,b,[],by omega,by omega,rfl,rfl,HS0.out,ha,HV0.out,HT.out⟩
            case round=>
             obtain ⟨k,a2,b2,vs,hk,hgk,rfl,hvs,hst,ha2,hcel,hrd⟩:=hrel
             by_cases hk3:k<3
             ·have q1:=hst.codes.cell hk3
              rw [HF.out k hk3] at q1
              obtain ⟨gq,hAq,q2⟩:=OwnN.cell_at (hst.rows k hk3) him
              have hx16:(cs' k).getD i 0≤16:=by rw [←HCf.out];exact HCS.out k i
              have hdrop:[(cs' 0).getD i 0,(cs' 1).getD i 0,(cs' 2).getD i 0].drop k=(cs' k).getD i 0::[(cs' 0).getD i 0,(cs' 1).getD i 0,(cs' 2).getD i 0].drop (k+1):=by
               rcases (by omega:k=0∨k=1∨k=2) with rfl|rfl|rfl<;>rfl
              rw [hdrop,rd3] at hrd
              generalize hxx:(cs' k).getD i 0=x at *
              rw [hAq] at q1
              have HRD:=Lh hrd
              clear hrd hdrop hxx
              cases x with
              | zero=>
                have HC8:=Lh (hcel.ext (F':=fun j=>natv ((vs++[0]).getD j 0)) (fun j hj=>by
                 by_cases e:j<k
                 ·simp only [List.getD];rw [List.getElem?_append_left (by omega)]
                 ·simp only [List.getD]
                  rw [List.getElem?_eq_none (by omega)]
                  rcases (by omega:j=k∨k+1≤j) with rfl|h
                  ·rw [List.getElem?_append_right (by omega),hvs,Nat.sub_self];rfl
                  ·rw [List.getElem?_eq_none (by simp;omega)]))
                have HS8:=Lh hst
                clear hcel hst
                go_wp2
                go_roundg (3-(k+1))
                case measure=>omega
                case rel=>exact ⟨k+1,a2,b2,vs++[0],by omega,by omega,by go_num,by simp [hvs],HS8.out,ha2,HC8.out,by
                 have:=HRD.out
                 simpa [numT] using this⟩
              | succ y=>
                have hp15:y≤15:=by omega
                by_cases hbits:8*s.length<a2+y
                ·have hnT:numT s a2 (y+1)=(2^y,a2,true):=by unfold numT;rw [if_neg (by omega),Nat.add_sub_cancel,if_pos hbits]
                 rw [hnT] at HRD
                 have HTk:=Lh (reader_take_bad gr a2 cr y s Ar wr hst.row (by rw [HSl.out];omega) (by omega) ha2 hbits)
                 have HS8:=Lh hst
                 have HC8:=Lh hcel
                 clear hst hcel hnT hbits
                 go_wp2_with fail
                 refine HTk.out.mono ?_
                 rintro e w8 ⟨rfl,hr8,hg8⟩
                 have HS9:=Lh (HS8.out.take hr8 hg8)
                 have HC9:=Lh (HC8.out.kept hg8 (by simpa using fun e=>(HC8.out.ne_blk HS8.out.row.blk (by decide)) e.symm))
                 have d1:=HS9.out.pk.blk.cell 1
                 simp only [Zt,Zz,Zs] at d1
                 have f1:=HS9.out.pk.blk.frozen 1
                 have HS10:=Lh (HS9.out.setBad true)
                 have HC10:=Lh (HC9.out.kept (grown_set w8 ⟨g,1,none⟩ (.bool true)) (by simpa using fun e=>(HC9.out.ne_blk HS9.out.pk.blk (by decide)) e.symm))
                 have f2:=HC10.out.frozen k
                 have q3:=HC10.out.cell hk3
                 clear q1 q2 hr8 hg8 HS8 HC8 HTk
                 cases b2
                 all_goals go_wp2
                 all_goals rw [num_or0 hp15]
                 all_goals
                  have HSx:=Lh (HS10.out.cell HC10.out hvb k (.int .i64 ((2^y:Nat):Int)))
                  have HCx:=Lh ((HC10.out.set k (.int .i64 ((2^y:Nat):Int))).ext (F':=fun j=>natv ((vs++[2^y]).getD j 0)) (fun j hj=>by subst hvs;exact vs_ext vs (2^y) j))
                  go_roundg (3-(k+1))
                 all_goals first
                  | omega
                  | exact ⟨k+1,a2,true,vs++[2^y],by omega,by omega,by go_num,by simp [hvs],HSx.out,ha2,HCx.out,by have:=HRD.out;simpa using this⟩
                ·have hnT:numT s a2 (y+1)=(2^y+numAt s a2 y,a2+y,false):=by unfold numT;rw [if_neg (by omega),Nat.add_sub_cancel,if_neg hbits]
                 rw [hnT] at HRD
                 have HTk:=Lh (reader_take_ok gr a2 cr y s Ar wr hst.row (by rw [HSl.out];omega) (by omega) (by omega))
                 have hlow:=numAt_lt s a2 y
                 have HS8:=Lh hst
                 have HC8:=Lh hcel
                 generalize numAt s a2 y=low at *
                 have HE:=Lh (num_or2 hp15 hlow)
                 clear hst hcel hnT hlow
                 go_wp2_with fail
                 refine HTk.out.mono ?_
                 rintro e w8 ⟨rfl,hr8,hg8⟩
                 have HS9:=Lh (HS8.out.take hr8 hg8)
                 have HC9:=Lh (HC8.out.kept hg8 (by simpa using fun e=>(HC8.out.ne_blk HS8.out.row.blk (by decide)) e.symm))
                 have d1:=HS9.out.pk.blk.cell 1
                 simp only [Zt,Zz,Zs] at d1
                 have f1:=HS9.out.pk.blk.frozen 1
                 have HS10:=Lh (HS9.out.setBad b2)
                 have HC10:=Lh (HC9.out.kept (grown_set w8 ⟨g,1,none⟩ (.bool b2)) (by simpa using fun e=>(HC9.out.ne_blk HS9.out.pk.blk (by decide)) e.symm))
                 have f2:=HC10.out.frozen k
                 have q3:=HC10.out.cell hk3
                 clear q1 q2 hr8 hg8 HS8 HC8 HTk
                 cases b2
                 all_goals go_wp2
                 all_goals rw [HE.out]
                 all_goals
                  have HSx:=Lh (HS10.out.cell HC10.out hvb k (.int .i64 ((2^y+low:Nat):Int)))
                  have HCx:=Lh ((HC10.out.set k (.int .i64 ((2^y+low:Nat):Int))).ext (F':=fun j=>natv ((vs++[2^y+low]).getD j 0)) (fun j hj=>by subst hvs;exact vs_ext vs (2^y+low) j))
                  go_roundg (3-(k+1))
                 all_goals first
                  | omega
                  | exact ⟨k+1,a2+y,_,vs++[2^y+low],by omega,by omega,by go_num,by simp [hvs],HSx.out,by omega,HCx.out,by have:=HRD.out;simpa using this⟩
             ·obtain rfl:k=3:=by omega
              have hTe:T=(a2,b2,vs):=by rw [←hrd];rfl
              have p0:=hcel.cell (i:=0) (by omega)
              have p1:=hcel.cell (i:=1) (by omega)
              have p2:=hcel.cell (i:=2) (by omega)
              have hTb:=rd3_le (s:=s) [(cs' 0).getD i 0,(cs' 1).getD i 0,(cs' 2).getD i 0] a b [] (fun c hcm=>by
               rw [←HCf.out] at hcm
               simp only [List.mem_cons,List.not_mem_nil,or_false] at hcm
               rcases hcm with rfl|rfl|rfl<;>exact HCS.out _ _) (by simp)
              rw [HT.out,hTe] at hTb
              have hv0:vs.getD 0 0≤65536:=getD_le hTb.1
              have hv1:vs.getD 1 0≤65536:=getD_le hTb.1
              have hv2:vs.getD 2 0≤65536:=getD_le hTb.1
              rw [hTe] at HR2
              simp only [sqOf] at HR2
              generalize vs.getD 0 0=v0 at *
              generalize vs.getD 1 0=v1 at *
              generalize vs.getD 2 0=v2 at *
              simp only [natv] at p0 p1 p2
              have HS8:=Lh hst
              clear hst hcel hTe hTb hrd
              go_wp2_with (at_builtin;go_loud (refine wpList_append_sq rfl _ _ rfl w.heap.size Ao i co out wr ⟨v0,v1+4,v2+1⟩ ?hw ?hs HS8.out.own ?hx ?hb ?hbase ?_;(case hs=>simp [Act.eval]);(case hx=>simp [Act.eval])))
              case hw=>rfl
              case hb=>omega
              case hbase=>exact HS8.out.grown.size
              intro A9 c9 w9 hown9 hg9
              have HS9:=Lh (HS8.out.append hown9 hg9)
              clear hown9 hg9 p0 p1 p2
              go_wp2
              go_roundg (many-(i+1))
              case measure=>omega
              case rel=>exact ⟨i+1,a2,c9,b2,A9,out++[⟨v0,v1+4,v2+1⟩],by omega,by omega,rfl,by go_num,HS9.out,ha2,HR2.out⟩
           ·obtain rfl:i=many:=by omega
            have HR2:=Lh (by rw [hR,Nat.sub_self,stepGo];rfl:R=if b=true∨numAt s a ((8*s.length-a)%8)≠0∨0<8*s.length-(a+(8*s.length-a)%8) then none else some (out,l5))
            have HS8:=Lh hst
            have hol:=OwnS.length hst.own
            have hleft:(8*s.length-a)%8<8:=Nat.mod_lt _ (by omega)
            have ha8:a+(8*s.length-a)%8≤8*s.length:=by have:=Nat.mod_le (8*s.length-a) 8;omega
            have HLeft:=Lh (reader_left gr a cr s Ar wr hst.row (by rw [HSl.out];omega) ha)
            have HT:=Lh (fun q=>reader_take_ok gr a cr ((8*s.length-a)%8) s Ar (wr.drewN q) (HS8.out.row.later (below_drewN wr q)) (by rw [HSl.out];omega) (by omega) ha8)
            have HLL:=Lh (fun wq h=>reader_left gr (a+(8*s.length-a)%8) cr s Ar wq h (by rw [HSl.out];omega) ha8)
            clear hst hR
            generalize hL:8*s.length-a=left at *
            have hE:((left:Int))%8=((left%8:Nat):Int):=by omega
            have HEE:=Lh hE
            clear hE
            generalize hq8:left%8=q8 at *
            generalize numAt s a q8=rest at *
            generalize hl5:8*s.length-(a+q8)=left5 at *
            clear hL hl5 hq8
            go_wp2_with fail
            refine HLeft.out.mono ?_
            rintro e w9 ⟨rfl,q,rfl⟩
            go_wp2_with fail
            rw [HEE.out]
            refine (HT.out q).mono ?_
            rintro e w10 ⟨rfl,hr10,hg10⟩
            have HS10:=Lh ((HS8.out.later (below_drewN wr q)).take hr10 hg10)
            have HLL10:=Lh (HLL.out w10 hr10)
            clear hr10 hg10 HS8 HLeft HT HLL
            by_cases hrest:rest=0
            ·have hr0:((rest:Int) != 0)=false:=by rw [hrest];rfl
             by_cases h5:0<left5
             ·have HD5:=Lh (HR2.out.trans (if_pos (.inr (.inr h5))))
              have h5':0<(left5:Int):=by omega
              clear hrest
              go_wp2_with fail
              refine HLL10.out.mono ?_
              rintro e w11 ⟨rfl,q',rfl⟩
              have HS11:=Lh (HS10.out.later (below_drewN w10 q'))
              have d1:=HS11.out.pk.blk.cell 1
              simp only [Zt,Zz,Zs] at d1
              have f1:=HS11.out.pk.blk.frozen 1
              have HS12:=Lh (HS11.out.setBad true)
              go_wp2
              go_ret
              exact stpPost_bad HD5.out HS12.out.pk hA5 HS12.out.grown
             ·have h5':(left5:Int)≤0:=by omega
              go_wp2_with fail
              refine HLL10.out.mono ?_
              rintro e w11 ⟨rfl,q',rfl⟩
              have HS11:=Lh (HS10.out.later (below_drewN w10 q'))
              cases b with
              | true=>
                have HD5:=Lh (HR2.out.trans (if_pos (.inl rfl)))
                clear hrest
                go_wp2
                go_ret
                exact stpPost_bad HD5.out HS11.out.pk hA5 HS11.out.grown
              | false=>
                have HD5:=Lh (HR2.out.trans (if_neg (by rintro (h|h|h);cases h;exact h hrest;exact h5 h)))
                clear hrest
                go_wp2
                go_ret
                rw [HD5.out]
                exact ⟨HS11.out.grown,Ao,co,A5,c5,by rw [hol];rfl,by rw [hol];exact HS11.out.own,hA5,HS11.out.pk⟩
            ·have hr0:((rest:Int) != 0)=true:=by simpa using hrest
             have HD5:=Lh (HR2.out.trans (if_pos (.inr (.inl hrest))))
             have d1:=HS10.out.pk.blk.cell 1
             simp only [Zt,Zz,Zs] at d1
             have f1:=HS10.out.pk.blk.frozen 1
             have HS12:=Lh (HS10.out.setBad true)
             clear hrest
             go_wp2
             go_ret
             exact stpPost_bad HD5.out HS12.out.pk hA5 HS12.out.grown
def takeE (l:List UInt8) (n:Nat):Option (List UInt8 × List UInt8):=if l.length<n then none else some (l.take n,l.drop n)
def runSteps (lits:List UInt8) (n:Nat):Option (List Sq × List UInt8)→Option (List UInt8 × List UInt8)
 | none=>none
 | some (sq,rest)=>(runL lits sq n).bind fun out=>some (out,rest)
def runLits (n:Nat):Option (List UInt8 × List UInt8)→Option (List UInt8 × List UInt8)
 | none=>none
 | some (lits,rest)=>runSteps lits n (stepsL rest n)
def bodyL (mode:UInt8) (n:Nat) (l:List UInt8):Option (List UInt8 × List UInt8):=
 if mode=0 then takeE l n
 else if mode=1 then (match l with|[]=>none|x::r=>some (List.replicate n x,r))
 else runLits n (litL l n)
def endL (mode:UInt8) (n:Nat):Option (List UInt8 × List UInt8)→Nat × List UInt8
 | none=>(5,[])
 | some (out,s)=>if s.length≠4∨out.length≠n∨(n=0∧mode≠0) then (5,[]) else if s=sumOf out then (0,out) else (6,[])
def numL (mode:UInt8) (l:List UInt8) (most:Int):Option (Nat × Nat)→Nat × List UInt8
 | none=>(5,[])
 | some (n,k)=>if most<(n:Int) then (11,[]) else endL mode n (bodyL mode n (l.drop k))
def modeL (most:Int):List UInt8→Nat × List UInt8
 | []=>(5,[])
 | mode::l=>if 2<mode.toNat then (5,[]) else numL mode l most (pkNum l 4294967295)
def unpackL (data:List UInt8) (most:Int):Nat × List UInt8:=
 if most<0∨65536<most then (1,[]) else modeL most data
def unpPost (r:Nat × List UInt8) (w:World) (e:Ending) (w':World):Prop:=
 Below w.heap.size w w'∧∃ A n c,e=.returned (.tuple #[.slice A n c,.int .i64 (r.1:Int)])∧NewB w' w.heap.size A n c r.2
theorem unpPost_bad {r:Nat × List UInt8} {w w':World} {E:Nat} (h:r=(E,[])) (hb:Below w.heap.size w w'):unpPost r w (.returned (.tuple #[.slice none 0 0,.int .i64 (E:Int)])) w':=by
 subst h
 exact ⟨hb,none,0,0,rfl,NewB.nil _ _⟩
theorem decGo_len {F:Nat→Nat→Option UInt8} {l:List UInt8}:∀ (n a:Nat) (out:List UInt8) {r:List UInt8 × Nat},decGo F l n a out=some r→r.1.length=out.length+n
 | 0,a,out,r,h=>by
   simp only [decGo,Option.some.injEq] at h
   subst h;rfl
 | n+1,a,out,r,h=>by
   rw [decGo_succ] at h
   cases hs:symD F l 12 a 0 0 with
   | none=>rw [hs] at h;cases h
   | some p=>
     obtain ⟨u,a2⟩:=p
     rw [hs,decNext] at h
     have:=decGo_len n _ _ h
     rw [this];simp;omega
theorem decodeL_len {lens:List Nat} {l:List UInt8} {n:Nat} {out:List UInt8} (h:decodeL lens l n=some out):out.length=n:=by
 unfold decodeL at h
 split at h
 ·cases h
 ·generalize hG:decGo (decF lens (codesL lens) 256) l n 0 []=G at h
  cases G with
  | none=>cases h
  | some p=>
    obtain ⟨o,a⟩:=p
    rw [decEnd] at h
    split at h
    ·cases h
    ·injection h with h
     subst h
     have:=decGo_len n _ _ hG
     simpa using this
theorem litL_facts {l:List UInt8} {n:Nat} {lits rest:List UInt8} (h:litL l n=some (lits,rest)):lits.length≤n∧rest.length≤l.length:=by
 unfold litL at h
 cases hp:pkNum l (n:Int) with
 | none=>rw [hp] at h;cases h
 | some p=>
   obtain ⟨many,k⟩:=p
   obtain ⟨-,-,hm,-⟩:=pkNum_facts hp
   rw [hp,litMany] at h
   have hle:(l.drop k).length≤l.length:=by rw [List.length_drop];omega
   generalize l.drop k=l1 at *
   cases l1 with
   | nil=>cases h
   | cons hb l2=>
     simp only [litHow] at h
     rw [List.length_cons] at hle
     split at h
     ·split at h
      ·cases h
      ·simp only [Option.some.injEq,Prod.mk.injEq] at h
       obtain ⟨rfl,rfl⟩:=h
       simp only [List.length_take,List.length_drop]
       omega
     ·generalize tableL l2=T at h
      cases T with
      | none=>cases h
      | some q=>
        obtain ⟨lens,k3⟩:=q
        rw [litTab] at h
        split at h
        ·cases h
        ·generalize pkNum (l2.drop k3) ((l2.drop k3).length:Int)=N at h
         cases N with
         | none=>cases h
         | some r=>
           obtain ⟨bn,kk⟩:=r
           rw [litNum] at h
           split at h
           ·cases h
           ·generalize hD:decodeL lens (((l2.drop k3).drop kk).take bn) many=D at h
            cases D with
            | none=>cases h
            | some out=>
              simp only [litDec,Option.some.injEq,Prod.mk.injEq] at h
              obtain ⟨rfl,rfl⟩:=h
              have:=decodeL_len hD
              simp only [List.length_drop]
              omega
theorem stepGo_len {s:List UInt8} {cs:Nat→List Nat}:∀ (r i a:Nat) (b:Bool) (out:List Sq),(stepGo s cs r i a b out).2.2.length=out.length+r
 | 0,i,a,b,out=>rfl
 | r+1,i,a,b,out=>by
   rw [stepGo,stepGo_len r];simp;omega
theorem stepsL_len {l:List UInt8} {n:Nat} {sq:List Sq} {rest:List UInt8} (h:stepsL l n=some (sq,rest)):sq.length≤n:=by
 unfold stepsL at h
 cases hp:pkNum l ((n/4:Nat):Int) with
 | none=>rw [hp] at h;cases h
 | some p=>
   obtain ⟨many,k⟩:=p
   obtain ⟨-,-,hm,-⟩:=pkNum_facts hp
   rw [hp,stepsMany] at h
   split at h
   ·simp only [Option.some.injEq,Prod.mk.injEq] at h
    obtain ⟨rfl,-⟩:=h
    simp
   ·generalize str3 many 3 (l.drop k) []=S at h
    cases S with
    | none=>cases h
    | some q=>
      obtain ⟨cs,l2⟩:=q
      rw [stepsCodes] at h
      generalize pkNum l2 (l2.length:Int)=N2 at h
      cases N2 with
      | none=>cases h
      | some p2=>
        obtain ⟨bn,kk⟩:=p2
        rw [stepsNum] at h
        split at h
        ·cases h
        ·unfold stepsEnd at h
         split at h
         ·cases h
         ·simp only [Option.some.injEq,Prod.mk.injEq] at h
          obtain ⟨rfl,-⟩:=h
          rw [stepGo_len]
          simp;omega
theorem runGo_len {most:Nat}:∀ (l:List Sq) (out rest:List UInt8) {r:List UInt8 × List UInt8},runGo most l out rest=some r→out.length≤most→r.1.length≤most
 | [],out,rest,r,h,ho=>by
   simp only [runGo,Option.some.injEq] at h
   subst h;exact ho
 | x::l,out,rest,r,h,ho=>by
   rw [runGo] at h
   split at h
   ·cases h
   ·rename_i hb
    refine runGo_len l _ _ h ?_
    rw [copyL_len,Zl,List.length_take]
    unfold runBad at hb
    simp only [Bool.or_eq_true,Bool.and_eq_true,decide_eq_true_eq] at hb
    omega
theorem runL_len {lits:List UInt8} {l:List Sq} {most:Nat} {out:List UInt8} (h:runL lits l most=some out):out.length≤most:=by
 unfold runL at h
 generalize hG:runGo most l [] lits=G at h
 cases G with
 | none=>cases h
 | some p=>
   obtain ⟨o,r⟩:=p
   have h1:=runGo_len l [] lits hG (by simp)
   rw [runEnd] at h
   split at h
   ·cases h
   ·injection h with h
    subst h
    rw [Zl]
    simp only at h1
    omega
theorem packUnpack (A:OA) (n0 c:Nat) (data:List UInt8) (most:Int) (w:World) (hl:data.length=n0) (hr:Bs w A data) (hn:n0≤140737488351232) (hc:n0≤c) (hc2:c≤9223372036854775807) (hnil:A=none→c=0)
 (hA:∀ b,bk A=some b→b<w.heap.size) (hm1:-9223372036854775808≤most) (hm2:most≤9223372036854775807):
 Calls Tryz.prog 35 #[.slice A n0 c,.int .i64 most] w (unpPost (unpackL data most) w):=by
 obtain ⟨R,hR⟩:∃ R,unpackL data most=R:=⟨_,rfl⟩
 rw [hR]
 unfold unpackL at hR
 by_cases hmost:most<0∨65536<most
 ·rw [if_pos hmost] at hR
  have HD:=Lh (show R=(1,[]) from hR.symm)
  clear hR hr hl
  rcases hmost with h|h
  all_goals go_enter Tryz.func35,Tryz.ntmps35
  all_goals go_wp2
  all_goals go_ret2
  all_goals exact unpPost_bad HD.out (Below.refl _ _)
 ·rw [if_neg hmost] at hR
  have h0:0≤most:=by omega
  have h65:most≤65536:=by omega
  have HP0:=Lh (⟨by rw [hl];exact Blk.new w 136 #[.slice A n0 c,.bool false],hr.later ((Below.refl _ _).alloc nL _),fun e=>by have:=hA _ e;omega,⟨by omega,hc2⟩,hnil,by omega⟩:IsPk (w.alloc (.cells #[.slice A n0 c,.bool false] 136)) w.heap.size data A c false)
  have HB0:=Lh ((Below.refl w.heap.size w).alloc nL (.cells #[.slice A n0 c,.bool false] 136))
  have HD:=Lh (show R=modeL most data from hR.symm)
  clear hR hmost
  cases data with
  | nil=>
    have HDt:=Lh (show R=(5,[]) from HD.out)
    have HT:=Lh (pk_take_bad _ c [] A false 1 _ HP0.out (.inr (by simp)))
    clear hr hl
    go_enter Tryz.func35,Tryz.ntmps35
    go_wp2_with fail
    refine HT.out.mono ?_
    rintro e w1 ⟨rfl,hp1,hg1⟩
    have d1:=hp1.blk.cell 1
    simp only [Zt,Zz,Zs] at d1
    have HB1:=Lh (HB0.out.trans (below_grown hg1 HB0.out.size (fun k hk=>by cases hk;exact Nat.le_refl _)))
    clear hp1 hg1
    go_wp2
    go_ret2
    exact unpPost_bad HDt.out HB1.out
  | cons mode l=>
    obtain ⟨b,o,x,rfl,hx,hcx⟩:=hr.at_ (k:=0) (by simp)
    obtain rfl:mode=x:=by simpa using hx
    rw [Nat.add_zero] at hcx
    have hbw:=block_lt hcx
    have HT:=Lh (pk_take_any _ c (mode::l) (some ⟨b,o,none⟩) 1 _ HP0.out (by simp))
    have hll:l.length≤140737488351232:=by simp at hl;omega
    have HD1:=Lh (show R=if 2<mode.toNat then (5,[]) else numL mode l most (pkNum l 4294967295) from HD.out)
    clear hr hl hx HD
    go_enter Tryz.func35,Tryz.ntmps35
    go_wp2_with fail
    refine HT.out.mono ?_
    rintro e w1 ⟨rfl,hp1,hg1⟩
    rw [List.drop_one,List.tail_cons] at hp1
    have d1:=hp1.blk.cell 1
    simp only [Zt,Zz,Zs] at d1
    have HP1:=Lh hp1
    have HB1:=Lh (HB0.out.trans (below_grown hg1 HB0.out.size (fun k hk=>by cases hk;exact Nat.le_refl _)))
    have hm1c:w1.cell? ⟨b,o,none⟩=some (.int .u8 (mode.toNat:Int)):=by rw [HB1.out.cell (by simpa using hbw)];exact hcx
    have hA1:bk (cutA (some ⟨b,o,none⟩) c 1)=some b:=bk_cut _ _ _
    generalize cutA (some ⟨b,o,none⟩) c 1=A1 at *
    generalize c-1=c1 at *
    clear hp1 hg1 HT HP0 HB0
    by_cases h2:2<mode.toNat
    ·have HDt:=Lh (HD1.out.trans (if_pos h2))
     have h2':2<(mode.toNat:Int):=by omega
     clear h2
     go_wp2
     go_ret2
     exact unpPost_bad HDt.out HB1.out
    ·have h2':(mode.toNat:Int)≤2:=by omega
     have HD2:=Lh (HD1.out.trans (if_neg h2))
     cases hp:pkNum l 4294967295 with
     | none=>
       have HDt:=Lh (HD2.out.trans (by rw [hp,numL]))
       have HN:=Lh (pk_num_bad _ c1 l A1 false 4294967295 w1 HP1.out (.inr hp))
       go_wp2_with fail
       refine HN.out.mono ?_
       rintro e w2 ⟨rfl,hp2,hg2⟩
       have d2:=hp2.blk.cell 1
       simp only [Zt,Zz,Zs] at d2
       have HB2:=Lh (HB1.out.trans (below_grown hg2 HB1.out.size (fun k hk=>by cases hk;exact Nat.le_refl _)))
       clear hp2 hg2
       go_wp2
       go_ret2
       exact unpPost_bad HDt.out HB2.out
     | some p=>
       obtain ⟨n,k⟩:=p
       have HN:=Lh (pk_num_any _ c1 l A1 4294967295 n k w1 HP1.out hp)
       have HD3:=Lh (HD2.out.trans (by rw [hp,numL]))
       obtain ⟨hk,hnn,-,-⟩:=pkNum_facts hp
       clear hp
       go_wp2_with fail
       refine HN.out.mono ?_
       rintro e w2 ⟨rfl,hp2,hg2⟩
       have d2:=hp2.blk.cell 1
       simp only [Zt,Zz,Zs] at d2
       have HP2:=Lh hp2
       have HB2:=Lh (HB1.out.trans (below_grown hg2 HB1.out.size (fun k hk=>by cases hk;exact Nat.le_refl _)))
       have hm2c:w2.cell? ⟨b,o,none⟩=some (.int .u8 (mode.toNat:Int)):=by rw [HB2.out.cell (by simpa using hbw)];exact hcx
       have hA2:bk (cutA A1 c1 k)=some b:=(bk_cut _ _ _).trans hA1
       have hl2:(l.drop k).length≤140737488351232:=by rw [List.length_drop];omega
       clear hp2 hg2 HN HP1 HB1 hm1c d1
       generalize l.drop k=l2 at *
       generalize cutA A1 c1 k=A2 at *
       generalize c1-k=c2 at *
       by_cases hnm:most<(n:Int)
       ·have HDt:=Lh (HD3.out.trans (if_pos hnm))
        go_wp2
        go_ret2
        exact unpPost_bad HDt.out HB2.out
       ·have HD4:=Lh (HD3.out.trans (if_neg hnm))
        have hnm':(n:Int)≤most:=by omega
        have hn65:n≤65536:=by omega
        clear HD3 HD2 HD1
        have HMC:=Lh hcx
        go_upto_block 1 with fail
        go_cut [9] from 10 to 93 (fun s9 wx=>∃ (lt:List UInt8) (At:OA) (ct:Nat) (bad:Bool) (Ao:OA) (no co:Nat) (out:List UInt8),s9=.slice Ao no co∧IsPk wx w.heap.size lt At ct bad∧Below w.heap.size w wx ∧
         ((bad=true∧R=(5,[]))∨(bad=false∧R=endL mode n (some (out,lt))∧NewB wx w.heap.size Ao no co out∧bk Ao≠some w.heap.size∧no≤65536)))
        case first=>
         by_cases hmd0:mode=0
         ·have e0:((mode.toNat:Int)==0)=true:=by rw [hmd0];rfl
          by_cases hsh:l2.length<n
          ·have HDt:=Lh (show R=(5,[]) from HD4.out.trans (by unfold bodyL;rw [if_pos hmd0,takeE,if_pos hsh,endL]))
           have HT2:=Lh (pk_take_bad _ c2 l2 A2 false n w2 HP2.out (.inr (by omega)))
           clear hsh HD4
           go_wp2_with fail
           refine HT2.out.mono ?_
           rintro e w3 ⟨rfl,hp3,hg3⟩
           have HB3:=Lh (HB2.out.trans (below_grown hg3 HB2.out.size (fun k hk=>by cases hk;exact Nat.le_refl _)))
           have HP3:=Lh hp3
           clear hp3 hg3
           go_wp2_with (at_builtin;refine wpList_append_rd rfl _ _ elemB rfl w.heap.size none 0 0 [] ?hs (Own.nil _ _ _) none 0 0 [] ?hx (Rd.nil _ _) rfl (by simp) (by simp) (by simp) ?hb ?_;(case hs=>simp [Act.eval]);(case hx=>simp [Act.eval]))
           case hb=>exact HB3.out.size
           intro Ax cx wt hownt hbt hgt hatt
           have HPt:=Lh (HP3.out.kept hgt (by simp [bk]) (.inr (by rw [show bk A2=some b from hA2];simp [bk])))
           have HBt:=Lh (HB3.out.trans hbt)
           clear hownt hbt hgt hatt
           go_wp2_with fail
           go_meet
           exact ⟨l2,A2,c2,true,Ax,_,cx,[],rfl,HPt.out,HBt.out,.inl ⟨rfl,HDt.out⟩⟩
          ·have HT2:=Lh (pk_take_any _ c2 l2 A2 n w2 HP2.out (by omega))
           have HDt:=Lh (show R=endL mode n (some (l2.take n,l2.drop n)) from HD4.out.trans (by unfold bodyL;rw [if_pos hmd0,takeE,if_neg hsh]))
           have htl:(l2.take n).length=n:=by rw [List.length_take];omega
           clear HD4
           go_wp2_with fail
           refine HT2.out.mono ?_
           rintro e w3 ⟨rfl,hp3,hg3⟩
           have HB3:=Lh (HB2.out.trans (below_grown hg3 HB2.out.size (fun k hk=>by cases hk;exact Nat.le_refl _)))
           have HP3:=Lh hp3
           have HS3:=Lh (Rd.keptB (Bs.take n HP2.out.data) hg3 (.inr HP2.out.ne):Bs w3 A2 (l2.take n))
           have hA3:bk (cutA A2 c2 n)=some b:=(bk_cut _ _ _).trans hA2
           clear hp3 hg3
           generalize l2.take n=out at *
           generalize l2.drop n=lt at *
           generalize cutA A2 c2 n=At at *
           have HTL:=Lh htl
           clear htl
           go_wp2_with (at_builtin;refine wpList_append_rd rfl _ _ elemB rfl w.heap.size none 0 0 [] ?hs (Own.nil _ _ _) A2 n c2 (out.map u8v) ?hx HS3.out ?h1 (u8_one _) ?h2 ?h3 ?hb ?_;(case hs=>simp [Act.eval]);(case hx=>simp [Act.eval]))
           case h1=>rw [List.length_map];exact HTL.out
           case h2=>omega
           case h3=>omega
           case hb=>exact HB3.out.size
           intro Ao co wt hownt hbt hgt hatt
           have HPt:=Lh (HP3.out.kept hgt (by simp [bk]) (.inr (by rw [hA3];simp [bk])))
           have HBt:=Lh (HB3.out.trans hbt)
           have hsep:bk Ao≠some w.heap.size:=Own.ne_blk hownt HPt.out.blk (by decide)
           have HOt:=Lh (OwnB.newB hownt)
           clear hownt hbt hgt hatt
           go_wp2_with fail
           go_meet
           exact ⟨lt,At,_,false,Ao,n,co,out,rfl,HPt.out,HBt.out,.inr ⟨rfl,HDt.out,HOt.out,hsep,hn65⟩⟩
         ·have e0:((mode.toNat:Int)==0)=false:=bF (fun e=>hmd0 (UInt8.toNat_inj.1 (show mode.toNat=0 by omega)))
          by_cases hmd1:mode=1
          ·have e1:((mode.toNat:Int)==1)=true:=by rw [hmd1];rfl
           cases l2 with
           | nil=>
             have HDt:=Lh (show R=(5,[]) from HD4.out.trans (by unfold bodyL;rw [if_neg hmd0,if_pos hmd1];rfl))
             have HT2:=Lh (pk_take_bad _ c2 [] A2 false 1 w2 HP2.out (.inr (by simp)))
             clear HD4
             go_wp2_with fail
             refine HT2.out.mono ?_
             rintro e w3 ⟨rfl,hp3,hg3⟩
             have HBt:=Lh (HB2.out.trans (below_grown hg3 HB2.out.size (fun k hk=>by cases hk;exact Nat.le_refl _)))
             have d3:=hp3.blk.cell 1
             simp only [Zt,Zz,Zs] at d3
             have HPt:=Lh hp3
             clear hp3 hg3
             go_wp2_with fail
             go_meet
             exact ⟨[],A2,c2,true,none,0,0,[],rfl,HPt.out,HBt.out,.inl ⟨rfl,HDt.out⟩⟩
           | cons x l3=>
             have HDt:=Lh (show R=endL mode n (some (List.replicate n x,l3)) from HD4.out.trans (by unfold bodyL;rw [if_neg hmd0,if_pos hmd1]))
             have HT2:=Lh (pk_take_any _ c2 (x::l3) A2 1 w2 HP2.out (by simp))
             clear HD4
             go_wp2_with fail
             refine HT2.out.mono ?_
             rintro e w3 ⟨rfl,hp3,hg3⟩
             rw [List.drop_one,List.tail_cons] at hp3
             have HB3:=Lh (HB2.out.trans (below_grown hg3 HB2.out.size (fun k hk=>by cases hk;exact Nat.le_refl _)))
             have d3:=hp3.blk.cell 1
             simp only [Zt,Zz,Zs] at d3
             have HP3:=Lh hp3
             have HS3:=Lh (Rd.keptB (Bs.take 1 HP2.out.data) hg3 (.inr HP2.out.ne):Bs w3 A2 [x])
             have hA3:bk (cutA A2 c2 1)=some b:=(bk_cut _ _ _).trans hA2
             have HRep:=Lh (bytesRepeat A2 c2 x n w3 HS3.out hn65)
             clear hp3 hg3
             generalize cutA A2 c2 1=At at *
             generalize List.replicate n x=out at *
             go_wp2_with fail
             refine HRep.out.mono ?_
             rintro e wt ⟨Ao,co,rfl,hnew,hbt⟩
             have HPt:=Lh (HP3.out.later hbt)
             have HBt:=Lh (HB3.out.trans (hbt.mono HB3.out.size))
             have hsep:bk Ao≠some w.heap.size:=fun e=>by
              have h1:=(hnew.2.2.1 _ e).1
              have h2:=HP3.out.blk.lt
              omega
             have HOt:=Lh (hnew.mono HB3.out.size)
             clear hnew hbt
             go_wp2_with fail
             go_meet
             exact ⟨l3,At,_,false,Ao,n,co,out,rfl,HPt.out,HBt.out,.inr ⟨rfl,HDt.out,HOt.out,hsep,hn65⟩⟩
          ·have e1:((mode.toNat:Int)==1)=false:=bF (fun e=>hmd1 (UInt8.toNat_inj.1 (show mode.toNat=1 by omega)))
           have e2:((mode.toNat:Int)==2)=true:=by
            have h5:¬mode.toNat=0:=fun e=>hmd0 (UInt8.toNat_inj.1 (show mode.toNat=0 from e))
            have h6:¬mode.toNat=1:=fun e=>hmd1 (UInt8.toNat_inj.1 (show mode.toNat=1 from e))
            have h7:mode.toNat=2:=by omega
            rw [h7];rfl
           have HD5:=Lh (show R=endL mode n (runLits n (litL l2 n)) from HD4.out.trans (by unfold bodyL;rw [if_neg hmd0,if_neg hmd1]))
           have HLit:=Lh (pkLiterals _ c2 l2 A2 n w2 HP2.out hl2 hn65)
           clear HD4 hmd0 hmd1
           go_wp2_with fail
           refine HLit.out.mono ?_
           rintro e w3 ⟨hg3,hpost⟩
           have HB3:=Lh (HB2.out.trans (below_grown hg3 HB2.out.size (fun k hk=>by cases hk;exact Nat.le_refl _)))
           clear hg3 HLit
           cases hlit:litL l2 n with
           | none=>
             rw [hlit] at hpost
             obtain ⟨⟨Al,nl,cl,rfl⟩,l3,A3,c3,hA3,hp3⟩:=hpost
             have HDt:=Lh (show R=(5,[]) from HD5.out.trans (by rw [hlit,runLits,endL]))
             have HSt:=Lh (pkStepsBad _ c3 l3 A3 n w3 hp3 hn65)
             clear hlit hp3 HD5
             go_wp2_with fail
             refine HSt.out.mono ?_
             rintro e wt ⟨hg4,⟨A4,n4,c4,rfl⟩,lt,At,ct,hA4,hp4⟩
             have HBt:=Lh (HB3.out.trans (below_grown hg4 HB3.out.size (fun k hk=>by cases hk;exact Nat.le_refl _)))
             have d4:=hp4.blk.cell 1
             simp only [Zt,Zz,Zs] at d4
             have HPt:=Lh hp4
             clear hp4 hg4
             go_wp2_with fail
             go_meet
             exact ⟨lt,At,ct,true,none,0,0,[],rfl,HPt.out,HBt.out,.inl ⟨rfl,HDt.out⟩⟩
           | some p=>
             obtain ⟨lits,l3⟩:=p
             rw [hlit] at hpost
             obtain ⟨Al,cl,A3,c3,rfl,hbl,hsepl,hcl,hcl2,hA3,hp3⟩:=hpost
             obtain ⟨hf1,hf2⟩:=litL_facts hlit
             have HD6:=Lh (show R=endL mode n (runSteps lits n (stepsL l3 n)) from HD5.out.trans (by rw [hlit,runLits]))
             have HSt:=Lh (pkSteps _ c3 l3 A3 n w3 hp3 (by omega) hn65)
             have HBl:=Lh hbl
             clear hlit hp3 HD5 hbl
             go_wp2_with fail
             refine HSt.out.mono ?_
             rintro e w4 ⟨hg4,hpost⟩
             have HB4:=Lh (HB3.out.trans (below_grown hg4 HB3.out.size (fun k hk=>by cases hk;exact Nat.le_refl _)))
             have HBl4:=Lh (Rd.keptB HBl.out hg4 hsepl:Bs w4 Al lits)
             clear hg4 HSt
             cases hst:stepsL l3 n with
             | none=>
               rw [hst] at hpost
               obtain ⟨⟨Aq,nq,cq,rfl⟩,lt,At,ct,hA4,hp4⟩:=hpost
               have HDt:=Lh (show R=(5,[]) from HD6.out.trans (by rw [hst,runSteps,endL]))
               have d4:=hp4.blk.cell 1
               simp only [Zt,Zz,Zs] at d4
               have HPt:=Lh hp4
               clear hst hp4 HD6
               go_wp2_with fail
               go_meet
               exact ⟨lt,At,ct,true,none,0,0,[],rfl,HPt.out,HB4.out,.inl ⟨rfl,HDt.out⟩⟩
             | some q=>
               obtain ⟨sq,lt⟩:=q
               rw [hst] at hpost
               obtain ⟨Aq,cq,At,ct,rfl,hos,hA4,hp4⟩:=hpost
               have hsl:=stepsL_len hst
               have hsb:=stepsL_le hst
               have d4:=hp4.blk.cell 1
               simp only [Zt,Zz,Zs] at d4
               have HP4:=Lh hp4
               have HRun:=Lh (matchRun Al lits.length cl lits Aq sq.length cq sq n w4 rfl HBl4.out (by omega) hcl hcl2 rfl (OwnS.ss hos) (by omega) (fun x hx=>by have:=hsb x hx;unfold SqB at this;omega) hn65)
               have HD7:=Lh (show R=endL mode n ((runL lits sq n).bind fun out=>some (out,lt)) from HD6.out.trans (by rw [hst,runSteps]))
               clear hst hp4 HD6 hos hsb
               go_wp2_with fail
               refine HRun.out.mono ?_
               rintro e w5 ⟨hb5,hpost⟩
               have HP5:=Lh (HP4.out.later hb5)
               have HB5:=Lh (HB4.out.trans (hb5.mono HB4.out.size))
               have d5:=HP5.out.blk.cell 1
               simp only [Zt,Zz,Zs] at d5
               have f5:=HP5.out.blk.frozen 1
               clear hb5 HRun d4
               cases hrun:runL lits sq n with
               | none=>
                 rw [hrun] at hpost
                 obtain ⟨E,hE,rfl⟩:=hpost
                 have HDt:=Lh (show R=(5,[]) from HD7.out.trans (by rw [hrun];rfl))
                 have hE':(E != 0)=true:=by simpa using hE
                 have HPt:=Lh (HP5.out.setBad true)
                 have HBt:=Lh (HB5.out.trans (below_grown (grown_set w5 ⟨w.heap.size,1,none⟩ (.bool true)) HB5.out.size (fun k hk=>by cases hk;exact Nat.le_refl _)))
                 clear hrun HD7
                 go_wp2_with fail
                 go_meet
                 exact ⟨lt,At,ct,true,none,0,0,[],rfl,HPt.out,HBt.out,.inl ⟨rfl,HDt.out⟩⟩
               | some out=>
                 rw [hrun] at hpost
                 obtain ⟨Ao,co,rfl,hown⟩:=hpost
                 have hol:=runL_len hrun
                 have HDt:=Lh (show R=endL mode n (some (out,lt)) from HD7.out.trans (by rw [hrun];rfl))
                 have HPt:=Lh (HP5.out.setBad false)
                 have HBt:=Lh (HB5.out.trans (below_grown (grown_set w5 ⟨w.heap.size,1,none⟩ (.bool false)) HB5.out.size (fun k hk=>by cases hk;exact Nat.le_refl _)))
                 have hsep:bk Ao≠some w.heap.size:=Own.ne_blk hown HP5.out.blk (by decide)
                 have HOt:=Lh (((OwnB.newB hown).mono HB4.out.size).kept (grown_set w5 ⟨w.heap.size,1,none⟩ (.bool false)) (.inr hsep))
                 clear hrun HD7 hown
                 go_wp2_with fail
                 go_meet
                 exact ⟨lt,At,ct,false,Ao,_,co,out,rfl,HPt.out,HBt.out,.inr ⟨rfl,HDt.out,HOt.out,hsep,by omega⟩⟩
        case rest=>
         obtain ⟨lt,At,ct,bad,Ao,no,co,out,rfl,hpt,hbt,hst⟩:=hcut
         have HPt:=Lh hpt
         have HBt:=Lh hbt
         have hmt:wc.cell? ⟨b,o,none⟩=some (.int .u8 (mode.toNat:Int)):=by rw [hbt.cell (by simpa using hbw)];exact HMC.out
         clear hpt hbt hcx hm2c d2 HD4 HP2 HB2 hA hnil hc hc2 hm1 hm2 hll hk hl2 hA1 hA2 h2 hnm'
         rcases hst with ⟨rfl,hR⟩|⟨rfl,hR,hnew,hsep,hno65⟩
         ·have HDt:=Lh hR
          clear hR hmt
          have HTt:=Lh (pk_take_bad w.heap.size ct lt At true 4 _ HPt.out (.inl rfl))
          go_wp2_with fail
          refine HTt.out.mono ?_
          rintro e wu ⟨rfl,hpu,hgu⟩
          have du:=hpu.blk.cell 1
          simp only [Zt,Zz,Zs] at du
          have HBu:=Lh (HBt.out.trans (below_grown hgu HBt.out.size (fun k hk=>by cases hk;exact Nat.le_refl _)))
          clear hpu hgu
          go_wp2
          go_ret2
          exact unpPost_bad HDt.out HBu.out
         ·have HDt:=Lh hR
          have HOt:=Lh hnew
          clear hR hnew
          have HOUT:=Lh HOt.out.1
          rw [endL] at HDt
          by_cases hl4:lt.length<4
          ·have HDu:=Lh (HDt.out.trans (if_pos (.inl (by omega))))
           have HTt:=Lh (pk_take_bad w.heap.size ct lt At false 4 _ HPt.out (.inr (by omega)))
           clear hl4
           go_wp2_with fail
           refine HTt.out.mono ?_
           rintro e wu ⟨rfl,hpu,hgu⟩
           have du:=hpu.blk.cell 1
           simp only [Zt,Zz,Zs] at du
           have HBu:=Lh (HBt.out.trans (below_grown hgu HBt.out.size (fun k hk=>by cases hk;exact Nat.le_refl _)))
           clear hpu hgu
           go_wp2
           go_ret2
           exact unpPost_bad HDu.out HBu.out
          ·have HTt:=Lh (pk_take_any w.heap.size ct lt At 4 _ HPt.out (by omega))
           go_wp2_with fail
           refine HTt.out.mono ?_
           rintro e wu ⟨rfl,hpu,hgu⟩
           have du:=hpu.blk.cell 1
           have eu:=hpu.blk.cell 0
           simp only [Zt,Zz,Zs] at du eu
           have HBu:=Lh (HBt.out.trans (below_grown hgu HBt.out.size (fun k hk=>by cases hk;exact Nat.le_refl _)))
           have HOu:=Lh (HOt.out.kept hgu (.inr hsep))
           have HSu:=Lh (Rd.keptB (Bs.take 4 HPt.out.data) hgu (.inr HPt.out.ne):Bs wu At (lt.take 4))
           have hs4:(lt.take 4).length=4:=by rw [List.length_take];omega
           have hmu:wu.cell? ⟨b,o,none⟩=some (.int .u8 (mode.toNat:Int)):=by
            rw [←hmt];exact World.cell?_of_block (hgu.block b (block_lt hmt) (by simp only [ne_eq,Option.some.injEq];omega))
           have HLD:=Lh (List.length_drop:(lt.drop 4).length=lt.length-4)
           clear hpu hgu
           generalize (lt.drop 4).length=m4 at *
           have HS40:=Lh hs4
           clear hs4
           by_cases hm4:0<m4
           ·have HDu:=Lh (HDt.out.trans (if_pos (.inl (by have:=HLD.out;omega))))
            have hm4':0<(m4:Int):=by omega
            go_wp2
            go_ret2
            exact unpPost_bad HDu.out HBu.out
           ·obtain rfl:m4=0:=by omega
            by_cases hno:no=n
            ·have hno':((no:Int) != n)=false:=by rw [hno];simp
             by_cases hz:n=0∧mode≠0
             ·have HDu:=Lh (HDt.out.trans (if_pos (.inr (.inr hz))))
              obtain ⟨hz1,hz2⟩:=hz
              have en:((n:Int)==0)=true:=by rw [hz1];rfl
              have em:((mode.toNat:Int) != 0)=true:=by
               simp only [bne_iff_ne,ne_eq]
               exact fun e=>hz2 (UInt8.toNat_inj.1 (show mode.toNat=0 by omega))
              clear hz1 hz2 hno
              go_wp2
              go_ret2
              exact unpPost_bad HDu.out HBu.out
             ·have HDu:=Lh (HDt.out.trans (if_neg (by rintro (h|h|h);(have:=HLD.out;omega);exact h (HOUT.out.trans hno);exact hz h)))
              have HSum:=Lh (packSum Ao no co out wu HOUT.out HOu.out.2.1 (by omega))
              have hcases:((n:Int)==0)=true∧((mode.toNat:Int) != 0)=false∨((n:Int)==0)=false:=by
               by_cases hn0:n=0
               ·have hmd:mode=0:=Decidable.byContradiction fun h=>hz ⟨hn0,h⟩
                exact .inl ⟨by rw [hn0];rfl,by rw [hmd];rfl⟩
               ·exact .inr (bF (by omega))
              clear hz hno
              have HTake:=Lh (rfl:lt.take 4=lt.take 4)
              generalize hst4:lt.take 4=s4 at *
              have HS4:=Lh (show lt=s4 by
               rw [←hst4]
               exact (List.take_of_length_le (by have:=HLD.out;omega)).symm)
              have HSL:=Lh HS40.out
              clear hst4 HTake
              rcases hcases with ⟨en1,en2⟩|en1
              all_goals
               go_wp2_with fail
               refine HSum.out.mono ?_
               rintro e wv ⟨As,cs,rfl,hos,hbv⟩
               have HEq:=Lh (bytesEqual At As 4 ct 4 cs s4 (sumOf out) wv HSL.out rfl (HSu.out.later hbv) (OwnB.bs hos))
               have HBv:=Lh (HBu.out.trans (hbv.mono HBu.out.size))
               have HOv:=Lh (HOu.out.later hbv)
               clear hos hbv
               go_wp2_with fail
               refine HEq.out.mono ?_
               rintro e wx ⟨rfl,rfl⟩
               by_cases hss:s4=sumOf out
               ·have hb:(s4==sumOf out)=true:=by simpa using hss
                have HDv:=Lh (HDu.out.trans (if_pos (by rw [HS4.out];exact hss)))
                clear hss
                go_wp2
                go_ret2
                rw [HDv.out]
                exact ⟨HBv.out,Ao,no,co,rfl,HOv.out⟩
               ·have hb:(s4==sumOf out)=false:=by simpa using hss
                have HDv:=Lh (HDu.out.trans (if_neg (by rw [HS4.out];exact hss)))
                clear hss
                go_wp2
                go_ret2
                exact unpPost_bad HDv.out HBv.out
            ·have HDu:=Lh (HDt.out.trans (if_pos (.inr (.inl (by rw [HOUT.out];exact hno)))))
             have hno':((no:Int) != n)=true:=by simpa using (by omega:¬(no:Int)=n)
             clear hno
             go_wp2
             go_ret2
             exact unpPost_bad HDu.out HBu.out
end Go.Proofs.YtiihiocgbfafaaaGreat
