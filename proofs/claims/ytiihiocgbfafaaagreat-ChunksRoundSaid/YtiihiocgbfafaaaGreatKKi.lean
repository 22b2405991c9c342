/- P2 P3 P4a -/
import Derived.Test.YtiihiocgbfafaaaGreatKKh
set_option linter.unusedSimpArgs false
set_option linter.unusedVariables false
set_option maxHeartbeats 8000000
set_option maxRecDepth 100000
namespace Go.Proofs.YtiihiocgbfafaaaGreat
open Go.RowKit
theorem tableL_facts {l:List UInt8} {out:List Nat} {k:Nat} (h:tableL l=some (out,k)):k≤l.length∧out.length≤256∧∀ x∈out,x≤11:=by
 unfold tableL at h
 split at h
 ·cases h
 ·generalize tabGo l (numAt l 0 8+1) (numAt l 0 8+1) 8 [] false=R at h
  cases R with
  | none=>cases h
  | some p=>
    obtain ⟨o,a⟩:=p
    unfold tabEnd at h
    split at h
    ·rename_i he;cases he
    ·rename_i o' a' he
     simp only [Option.some.injEq,Prod.mk.injEq] at he
     obtain ⟨rfl,rfl⟩:=he
     split at h
     ·cases h
     ·rename_i hn
      simp only [Option.some.injEq,Prod.mk.injEq] at h
      obtain ⟨rfl,rfl⟩:=h
      have hm:mayL o=true:=by
       cases e:mayL o with
       | true=>rfl
       | false=>exact absurd (.inr e) hn
      obtain ⟨-,h2,h3⟩:=mayL_facts hm
      exact ⟨Nat.sub_le _ _,h2,h3⟩
theorem pkNum_facts {l:List UInt8} {most:Int} {n k:Nat} (h:pkNum l most=some (n,k)):k≤l.length∧n≤4294967295∧(n:Int)≤most∧0<k:=by
 unfold pkNum at h
 split at h
 ·rename_i m j e
  split at h
  ·cases h
  ·simp only [Option.some.injEq,Prod.mk.injEq] at h
   obtain ⟨rfl,rfl⟩:=h
   have:=numGo_le _ _ _ _ _ e
   omega
 ·cases h
def litDec (rest:List UInt8):Option (List UInt8)→Option (List UInt8 × List UInt8)
 | none=>none
 | some out=>some (out,rest)
def litNum (l3:List UInt8) (lens:List Nat) (many:Nat):Option (Nat × Nat)→Option (List UInt8 × List UInt8)
 | none=>none
 | some (bn,kk)=>if (l3.drop kk).length<bn then none else litDec ((l3.drop kk).drop bn) (decodeL lens ((l3.drop kk).take bn) many)
def litTab (h:UInt8) (l2:List UInt8) (many:Nat):Option (List Nat × Nat)→Option (List UInt8 × List UInt8)
 | none=>none
 | some (lens,k)=>if h≠1 then none else litNum (l2.drop k) lens many (pkNum (l2.drop k) ((l2.drop k).length:Int))
def litHow (l1:List UInt8) (many:Nat):Option (List UInt8 × List UInt8):=
 match l1 with
 | []=>none
 | h::l2=>if h=0 then (if l2.length<many then none else some (l2.take many,l2.drop many)) else litTab h l2 many (tableL l2)
def litMany (l:List UInt8):Option (Nat × Nat)→Option (List UInt8 × List UInt8)
 | none=>none
 | some (many,k)=>litHow (l.drop k) many
def litL (l:List UInt8) (n:Nat):Option (List UInt8 × List UInt8):=litMany l (pkNum l (n:Int))
def litPost (r:Option (List UInt8 × List UInt8)) (g:Nat) (A:OA) (w:World) (e:Ending) (w':World):Prop:=
 w.grownBy w' (some g)∧match r with
 | none=>(∃ A' n' c',e=.returned (.slice A' n' c'))∧∃ l' A' c',bk A'=bk A∧IsPk w' g l' A' c' true
 | some (out,rest)=>∃ A1 c1 A' c',e=.returned (.slice A1 out.length c1)∧Bs w' A1 out∧(bk A1=none∨bk A1≠some g)∧out.length≤c1∧c1≤9223372036854775807∧bk A'=bk A∧IsPk w' g rest A' c' false
theorem litPost_bad {r:Option (List UInt8 × List UInt8)} {g c' n1 c1:Nat} {w w':World} {l':List UInt8} {A A' A1:OA} (h:r=none) (hp:IsPk w' g l' A' c' true) (hA:bk A'=bk A) (hg:w.grownBy w' (some g)):litPost r g A w (.returned (.slice A1 n1 c1)) w':=by
 subst h;exact ⟨hg,⟨_,_,_,rfl⟩,_,_,_,hA,hp⟩
theorem pkLiterals (g c:Nat) (l:List UInt8) (A:OA) (n:Nat) (w:World) (h:IsPk w g l A c false) (hl:l.length≤140737488351232) (hn:n≤65536):
 Calls Tryz.prog 64 #[.pointer (some ⟨g,0,none⟩),.int .i64 (n:Int)] w (litPost (litL l n) g A w):=by
 obtain ⟨R,hR⟩:∃ R,litL l n=R:=⟨_,rfl⟩
 rw [hR]
 unfold litL at hR
 cases hp:pkNum l (n:Int) with
 | none=>
   rw [hp] at hR
   have HD:=Lh (hR.symm:R=none)
   have HN:=Lh (pk_num_bad g c l A false n w h (.inr hp))
   clear hR hp h hl
   go_enter Tryz.func64,Tryz.ntmps64
   go_wp2_with fail
   refine HN.out.mono ?_
   rintro e w1 ⟨rfl,hp1,hg1⟩
   have HT:=Lh (pk_take_bad g c l A true 1 w1 hp1 (.inl rfl))
   have HG1:=Lh hg1
   clear hp1 hg1
   go_wp2_with fail
   refine HT.out.mono ?_
   rintro e w2 ⟨rfl,hp2,hg2⟩
   have c1:=hp2.blk.cell 1
   simp only [Zt,Zz,Zs] at c1
   have HP2:=Lh hp2
   have HG2:=Lh (grown_trans HG1.out hg2)
   clear hp2 hg2
   go_wp2
   go_ret
   exact litPost_bad HD.out HP2.out (by first|assumption|rfl|exact bk_cut _ _ _|(rw [bk_cut];assumption)) HG2.out
 | some p=>
   obtain ⟨many,k⟩:=p
   rw [hp] at hR
   obtain ⟨hk,-,hmany,-⟩:=pkNum_facts hp
   have HN:=Lh (pk_num_any g c l A n many k w h hp)
   have HD:=Lh (show litHow (l.drop k) many=R from hR)
   clear hR
   have hl1:(l.drop k).length≤140737488351232:=by rw [List.length_drop];omega
   generalize l.drop k=l1 at *
   clear hp h hl hk
   cases l1 with
   | nil=>
     have HD1:=Lh (HD.out.symm:R=none)
     go_enter Tryz.func64,Tryz.ntmps64
     go_wp2_with fail
     refine HN.out.mono ?_
     rintro e w1 ⟨rfl,hp1,hg1⟩
     have HT:=Lh (pk_take_bad g _ [] _ false 1 w1 hp1 (.inr (by simp)))
     have HG1:=Lh hg1
     clear hp1 hg1
     go_wp2_with fail
     refine HT.out.mono ?_
     rintro e w2 ⟨rfl,hp2,hg2⟩
     have c1:=hp2.blk.cell 1
     simp only [Zt,Zz,Zs] at c1
     have HP2:=Lh hp2
     have HG2:=Lh (grown_trans HG1.out hg2)
     clear hp2 hg2
     go_wp2
     go_ret
     exact litPost_bad HD1.out HP2.out (by first|assumption|rfl|exact bk_cut _ _ _|(rw [bk_cut];assumption)) HG2.out
   | cons hb l2=>
     have hl2:l2.length≤140737488351232:=by simp at hl1;omega
     clear hl1
     have hA1:bk (cutA A c k)=bk A:=bk_cut A c k
     generalize cutA A c k=Ak at *
     generalize c-k=ck at *
     go_enter Tryz.func64,Tryz.ntmps64
     go_wp2_with fail
     refine HN.out.mono ?_
     rintro e w1 ⟨rfl,hp1,hg1⟩
     have HT:=Lh (pk_take_any g _ (hb::l2) _ 1 w1 hp1 (by simp))
     have HG1:=Lh hg1
     obtain ⟨b,o,x,hA,hx,hcx⟩:=hp1.data.at_ (k:=0) (by simp)
     obtain rfl:hb=x:=by simpa using hx
     have hbg:b≠g:=by have:=hp1.ne;rw [hA] at this;simpa [bk] using this
     subst hA
     clear hx hp1 hg1 HN
     go_wp2_with fail
     refine HT.out.mono ?_
     rintro e w2 ⟨rfl,hp2,hg2⟩
     have hcx2:w2.cell? ⟨b,o,none⟩=some (.int .u8 (hb.toNat:Int)):=by
      rw [←hcx];exact World.cell?_of_block (hg2.block b (block_lt hcx) (by simpa using hbg))
     rw [List.drop_one,List.tail_cons] at hp2
     have c1:=hp2.blk.cell 1
     simp only [Zt,Zz,Zs] at c1
     have HP2:=Lh hp2
     have HG2:=Lh (grown_trans HG1.out hg2)
     clear hp2 hg2 hcx HG1 HT
     have hA2:bk (cutA (some ⟨b,o,none⟩) ck 1)=bk A:=(bk_cut _ _ _).trans hA1
     generalize cutA (some ⟨b,o,none⟩) ck 1=A2 at *
     generalize hck:ck-1=c2 at *
     by_cases h0:hb=0
     ·have e0:((hb.toNat:Int)==0)=true:=by rw [h0];rfl
      have HD2:=Lh (HD.out.symm.trans (by simp only [litHow];rw [if_pos h0]):R=if l2.length<many then none else some (l2.take many,l2.drop many))
      clear h0
      by_cases hml:l2.length<many
      ·have HT2:=Lh (pk_take_bad g _ l2 _ false many w2 HP2.out (.inr (by omega)))
       have HD3:=Lh (HD2.out.trans (if_pos hml))
       clear hml
       go_wp2_with fail
       refine HT2.out.mono ?_
       rintro e w3 ⟨rfl,hp3,hg3⟩
       go_wp2
       go_ret
       exact litPost_bad HD3.out hp3 (by first|assumption|rfl|exact bk_cut _ _ _|(rw [bk_cut];assumption)) (grown_trans HG2.out hg3)
      ·have HT2:=Lh (pk_take_any g _ l2 _ many w2 HP2.out (by omega))
       have HD3:=Lh (HD2.out.trans (if_neg hml))
       go_wp2_with fail
       refine HT2.out.mono ?_
       rintro e w3 ⟨rfl,hp3,hg3⟩
       go_wp2
       go_ret
       rw [HD3.out]
       have hlen:(l2.take many).length=many:=by rw [List.length_take];omega
       have hcap:=HP2.out.cap
       refine ⟨grown_trans HG2.out hg3,A2,c2,_,_,by rw [hlen];rfl,?_,.inr HP2.out.ne,by rw [hlen];omega,hcap.2,(by first|assumption|rfl|exact bk_cut _ _ _|(rw [bk_cut];assumption)),hp3⟩
       exact Rd.keptB (Bs.take many HP2.out.data) hg3 (.inr HP2.out.ne)
     ·have e0:((hb.toNat:Int)==0)=false:=bF (fun e=>h0 (by apply UInt8.toNat_inj.1;simpa using e))
      have HD2:=Lh (HD.out.symm.trans (by simp only [litHow];rw [if_neg h0]):R=litTab hb l2 many (tableL l2))
      have q0:=HP2.out.blk.cell 0
      simp only [Zt,Zz,Zs] at q0
      have hP1:=Lh HP2.out.blk.lt
      have HTab:=Lh (huffTable A2 l2.length c2 l2 w2 rfl HP2.out.data hl2)
      clear h0
      go_wp2_with fail
      refine HTab.out.mono ?_
      rintro e w3 ⟨hb3,hpost⟩
      have HG3:=Lh (grown_trans HG2.out (grown_below hb3))
      have HP3:=Lh (HP2.out.later hb3)
      have hcx3:w3.cell? ⟨b,o,none⟩=some (.int .u8 (hb.toNat:Int)):=by rw [hb3.cell (by simpa using block_lt hcx2)];exact hcx2
      clear hb3 HTab c1 hcx2 q0
      have f1:=HP3.out.blk.frozen 1
      have d1:=HP3.out.blk.cell 1
      simp only [Zt,Zz,Zs] at d1
      cases ht:tableL l2 with
      | none=>
        rw [ht] at hpost
        obtain ⟨E,hE,rfl⟩:=hpost
        have HD3:=Lh (HD2.out.trans (by rw [ht];rfl):R=none)
        have hE':(E != 0)=true:=by simpa using hE
        have HP4:=Lh (HP3.out.setBad true)
        have HG4:=Lh (grown_trans HG3.out (grown_set w3 ⟨g,1,none⟩ (.bool true)))
        clear ht
        by_cases h1:hb=1
        ·have e1:((hb.toNat:Int) != 1)=false:=by rw [h1];rfl
         clear h1
         go_wp2
         go_ret
         exact litPost_bad HD3.out HP4.out (by first|assumption|rfl|exact bk_cut _ _ _|(rw [bk_cut];assumption)) HG4.out
        ·have e1:((hb.toNat:Int) != 1)=true:=by
          simp only [bne_iff_ne,ne_eq]
          exact fun e=>h1 (UInt8.toNat_inj.1 (show hb.toNat=1 by omega))
         clear h1
         go_wp2
         go_ret
         exact litPost_bad HD3.out HP4.out (by first|assumption|rfl|exact bk_cut _ _ _|(rw [bk_cut];assumption)) HG4.out
      | some p=>
        obtain ⟨lens,k3⟩:=p
        rw [ht] at hpost
        obtain ⟨A3,c3,rfl,hown⟩:=hpost
        obtain ⟨hk3,hln,hlx⟩:=tableL_facts ht
        have HD3:=Lh (HD2.out.trans (by rw [ht,litTab]))
        clear ht
        by_cases h1:hb=1
        ·have e1:((hb.toNat:Int) != 1)=false:=by rw [h1];rfl
         have HD4:=Lh (HD3.out.trans (if_neg (by simpa using h1)))
         clear h1
         have HP4:=Lh (HP3.out.setBad false)
         have HG4:=Lh (grown_trans HG3.out (grown_set w3 ⟨g,1,none⟩ (.bool false)))
         have HL3:=Lh (Own.kept hown (grown_set w3 ⟨g,1,none⟩ (.bool false)) (.inr (Own.ne_blk hown HP3.out.blk (by decide))))
         have q0:=HP4.out.blk.cell 0
         have g0:=HP4.out.blk.frozen 0
         simp only [Zt,Zz,Zs] at q0
         clear hown
         go_wp2_with (first|(with_reducible refine wpList_slice_lo ?g ?s ?h elemB ?ho A2 l2.length c2 k3 ?hs ?hh ?hk ?_;(case ho=>exact rfl);(case g=>exact rfl);(case hs=>simp [Act.eval]);(case hh=>simp [Act.eval]);(case hk=>omega))|fail)
         have HP5:=Lh (HP3.out.cutD k3 hk3)
         have HG5:=Lh (grown_trans HG4.out (grown_set (w3.setCell ⟨g,1,none⟩ (.bool false)) ⟨g,0,none⟩ (.slice (cutA A2 c2 k3) (l2.length-k3) (c2-k3))))
         have HL5:=Lh (Own.kept HL3.out (grown_set (w3.setCell ⟨g,1,none⟩ (.bool false)) ⟨g,0,none⟩ (.slice (cutA A2 c2 k3) (l2.length-k3) (c2-k3))) (.inr (Own.ne_blk HL3.out HP4.out.blk (by decide))))
         have hl3:(l2.drop k3).length=l2.length-k3:=List.length_drop
         have hAne:bk A3≠some g:=Own.ne_blk HL3.out HP4.out.blk (by decide)
         generalize ((w3.setCell ⟨g,1,none⟩ (.bool false)).setCell ⟨g,0,none⟩ (.slice (cutA A2 c2 k3) (l2.length-k3) (c2-k3)))=w5 at *
         rw [←hl3]
         have hl3':(l2.drop k3).length≤140737488351232:=by omega
         generalize l2.drop k3=l3 at *
         have hA5:bk (cutA A2 c2 k3)=bk A:=(bk_cut _ _ _).trans hA2
         generalize cutA A2 c2 k3=A5 at *
         generalize c2-k3=c5 at *
         clear q0 g0 d1 f1 hcx3 HP4 HG4 HL3 HP3 HG3 HD3 HD2 HD hl3 hk3 HP2 HG2
         cases hp:pkNum l3 (l3.length:Int) with
         | none=>
           have HD5:=Lh (HD4.out.trans (by rw [hp,litNum]):R=none)
           refine (pk_num_bad g c5 l3 A5 false _ w5 HP5.out (.inr hp)).mono ?_
           rintro e w6 ⟨rfl,hp6,hg6⟩
           have HT:=Lh (pk_take_bad g c5 l3 A5 true 0 w6 hp6 (.inl rfl))
           have HG6:=Lh (grown_trans HG5.out hg6)
           clear hp6 hg6 hp
           go_wp2_with fail
           refine HT.out.mono ?_
           rintro e w7 ⟨rfl,hp7,hg7⟩
           have d1:=hp7.blk.cell 1
           simp only [Zt,Zz,Zs] at d1
           have HP7:=Lh hp7
           have HG7:=Lh (grown_trans HG6.out hg7)
           clear hp7 hg7
           go_wp2
           go_ret
           exact litPost_bad HD5.out HP7.out (by first|assumption|rfl|exact bk_cut _ _ _|(rw [bk_cut];assumption)) HG7.out
         | some p=>
           obtain ⟨bn,kk⟩:=p
           obtain ⟨hkk,hbn,-,-⟩:=pkNum_facts hp
           have HD5:=Lh (HD4.out.trans (by rw [hp,litNum]))
           refine (pk_num_any g c5 l3 A5 _ bn kk w5 HP5.out hp).mono ?_
           rintro e w6 ⟨rfl,hp6,hg6⟩
           have HP6:=Lh hp6
           have HG6:=Lh (grown_trans HG5.out hg6)
           have HL6:=Lh (Own.kept HL5.out hg6 (.inr hAne))
           have hl4:(l3.drop kk).length≤140737488351232:=by rw [List.length_drop];omega
           clear hp6 hg6 hp
           generalize l3.drop kk=l4 at *
           have hA6:bk (cutA A5 c5 kk)=bk A:=(bk_cut _ _ _).trans hA5
           generalize cutA A5 c5 kk=A6 at *
           generalize c5-kk=c6 at *
           by_cases hbl:l4.length<bn
           ·have HD6:=Lh (HD5.out.trans (if_pos hbl))
            have HT:=Lh (pk_take_bad g c6 l4 A6 false bn w6 HP6.out (.inr (by omega)))
            clear hbl
            go_wp2_with fail
            refine HT.out.mono ?_
            rintro e w7 ⟨rfl,hp7,hg7⟩
            have d1:=hp7.blk.cell 1
            simp only [Zt,Zz,Zs] at d1
            have HP7:=Lh hp7
            have HG7:=Lh (grown_trans HG6.out hg7)
            clear hp7 hg7
            go_wp2
            go_ret
            exact litPost_bad HD6.out HP7.out (by first|assumption|rfl|exact bk_cut _ _ _|(rw [bk_cut];assumption)) HG7.out
           ·have HD6:=Lh (HD5.out.trans (if_neg hbl))
            have HT:=Lh (pk_take_any g c6 l4 A6 bn w6 HP6.out (by omega))
            go_wp2_with fail
            refine HT.out.mono ?_
            rintro e w7 ⟨rfl,hp7,hg7⟩
            have d1:=hp7.blk.cell 1
            simp only [Zt,Zz,Zs] at d1
            have HP7:=Lh hp7
            have HG7:=Lh (grown_trans HG6.out hg7)
            have HL7:=Lh (Own.kept HL6.out hg7 (.inr hAne))
            have HB7:=Lh (Rd.keptB (Bs.take bn HP6.out.data) hg7 (.inr HP6.out.ne):Bs w7 A6 (l4.take bn))
            have hlb:(l4.take bn).length=bn:=by rw [List.length_take];omega
            have hg7lt:=HP7.out.blk.lt
            have HDec:=Lh (huffDecode A3 lens.length c3 lens A6 bn c6 (l4.take bn) many w7 rfl (OwnN.ns HL7.out) (by omega) (fun x hx=>by have:=hlx x hx;omega) hlb HB7.out (by omega) (by omega))
            clear hp7 hg7 HT hlx hbl hlb
            generalize l4.take bn=body at *
            generalize l4.drop bn=l5 at *
            go_wp2_with fail
            refine HDec.out.mono ?_
            rintro e w8 ⟨hb8,hpost⟩
            have HP8:=Lh (HP7.out.later hb8)
            have HG8:=Lh (grown_trans HG7.out (grown_below hb8))
            have f8:=HP8.out.blk.frozen 1
            have d8:=HP8.out.blk.cell 1
            simp only [Zt,Zz,Zs] at d8
            clear d1 hb8
            cases hdec:decodeL lens body many with
            | none=>
              rw [hdec] at hpost
              obtain ⟨E,hE,rfl⟩:=hpost
              have HD7:=Lh (HD6.out.trans (by rw [hdec,litDec]):R=none)
              have hE':(E != 0)=true:=by simpa using hE
              have HP9:=Lh (HP8.out.setBad true)
              have HG9:=Lh (grown_trans HG8.out (grown_set w8 ⟨g,1,none⟩ (.bool true)))
              clear hdec HDec
              go_wp2
              go_ret
              exact litPost_bad HD7.out HP9.out (by first|assumption|rfl|exact bk_cut _ _ _|(rw [bk_cut];assumption)) HG9.out
            | some out=>
              rw [hdec] at hpost
              obtain ⟨A8,c8,rfl,hown⟩:=hpost
              have HD7:=Lh (HD6.out.trans (by rw [hdec,litDec]):R=some (out,l5))
              have HP9:=Lh (HP8.out.setBad false)
              have HG9:=Lh (grown_trans HG8.out (grown_set w8 ⟨g,1,none⟩ (.bool false)))
              have hne8:bk A8≠some g:=Own.ne_blk hown HP8.out.blk (by decide)
              have HO9:=Lh (Own.kept hown (grown_set w8 ⟨g,1,none⟩ (.bool false)) (.inr hne8))
              have hcap:=Own.cap hown
              clear hdec HDec hown
              go_wp2
              go_ret
              rw [HD7.out]
              exact ⟨HG9.out,A8,c8,_,_,rfl,OwnB.bs HO9.out,.inr hne8,hcap.1,hcap.2,(by first|assumption|rfl|exact bk_cut _ _ _|(rw [bk_cut];assumption)),HP9.out⟩
        ·have e1:((hb.toNat:Int) != 1)=true:=by
          simp only [bne_iff_ne,ne_eq]
          exact fun e=>h1 (UInt8.toNat_inj.1 (show hb.toNat=1 by omega))
         have HD4:=Lh (HD3.out.trans (if_pos h1))
         have HP4:=Lh (HP3.out.setBad true)
         have HG4:=Lh (grown_trans HG3.out (grown_set w3 ⟨g,1,none⟩ (.bool true)))
         clear h1
         go_wp2
         go_ret
         exact litPost_bad HD4.out HP4.out (by first|assumption|rfl|exact bk_cut _ _ _|(rw [bk_cut];assumption)) HG4.out
theorem getGo_le {l:List UInt8}:∀ (n at_:Nat) (sh0:List Nat) {sh:List Nat} {k:Nat},getGo l n at_ sh0=some (sh,k)→at_≤l.length→k≤l.length
 | 0,at_,sh0,sh,k,h,ha=>by
   simp only [getGo,Option.some.injEq,Prod.mk.injEq] at h
   omega
 | n+1,at_,sh0,sh,k,h,ha=>by
   rw [getGo] at h
   split at h
   ·cases h
   ·rename_i x j e
    have:=numGo_le _ _ _ _ _ e
    rw [List.length_drop] at this
    exact getGo_le n _ _ h (by omega)
theorem shareL_facts {l:List UInt8} {sh:List Nat} {lg k:Nat} (h:shareL l=some (sh,lg,k)):k≤l.length∧sh.length≤64∧∀ x∈sh,x≤512:=by
 cases l with
 | nil=>cases h
 | cons b r=>
   rw [shareL_cons] at h
   cases hn:numGo r 0 0 with
   | none=>rw [hn] at h;cases h
   | some p=>
     obtain ⟨n,j⟩:=p
     rw [hn,getMid] at h
     have h1:=numGo_le _ _ _ _ _ hn
     split at h
     ·cases h
     ·rename_i hlg
      generalize hG:getGo (b::r) n (1+j) []=G at h
      cases G with
      | none=>cases h
      | some q=>
        obtain ⟨s2,a2⟩:=q
        rw [getEnd] at h
        split at h
        ·rename_i hm
         simp only [Option.some.injEq,Prod.mk.injEq] at h
         obtain ⟨rfl,rfl,rfl⟩:=h
         obtain ⟨-,h2,-,h3,-⟩:=fmayL_facts hm
         refine ⟨getGo_le n _ _ hG (by rw [List.length_cons];omega),h2,fun x hx=>?_⟩
         have:=h3 x hx
         have h5:2^b.toNat≤2^9:=Nat.pow_le_pow_right (by omega) (by omega)
         omega
        ·cases h
def strDec (rest:List UInt8):Option (List Nat)→Option (List Nat × List UInt8)
 | none=>none
 | some out=>some (out,rest)
def strNum (l3:List UInt8) (sh:List Nat) (n:Nat):Option (Nat × Nat)→Option (List Nat × List UInt8)
 | none=>none
 | some (bn,kk)=>if (l3.drop kk).length<bn then none else strDec ((l3.drop kk).drop bn) (fdecodeL sh ((l3.drop kk).take bn) n)
def strShare (l:List UInt8) (n:Nat):Option (List Nat × Nat × Nat)→Option (List Nat × List UInt8)
 | none=>none
 | some (sh,lg,k)=>if lg≠6∨17<sh.length then none else strNum (l.drop k) sh n (pkNum (l.drop k) ((l.drop k).length:Int))
def streamL (l:List UInt8) (n:Nat):Option (List Nat × List UInt8):=strShare l n (shareL l)
def strPost (r:Option (List Nat × List UInt8)) (g:Nat) (A:OA) (w:World) (e:Ending) (w':World):Prop:=
 w.grownBy w' (some g)∧match r with
 | none=>(∃ A' n' c',e=.returned (.slice A' n' c'))∧∃ l' A' c',bk A'=bk A∧IsPk w' g l' A' c' true
 | some (out,rest)=>∃ A1 c1 A' c',e=.returned (.slice A1 out.length c1)∧OwnN w' w.heap.size A1 out.length c1 out∧bk A'=bk A∧IsPk w' g rest A' c' false
theorem strPost_bad {r:Option (List Nat × List UInt8)} {g c' n1 c1:Nat} {w w':World} {l':List UInt8} {A A' A1:OA} (h:r=none) (hp:IsPk w' g l' A' c' true) (hA:bk A'=bk A) (hg:w.grownBy w' (some g)):strPost r g A w (.returned (.slice A1 n1 c1)) w':=by
 subst h;exact ⟨hg,⟨_,_,_,rfl⟩,_,_,_,hA,hp⟩
theorem pkStreamBad (g c:Nat) (l:List UInt8) (A:OA) (n:Nat) (w:World) (h:IsPk w g l A c true):
 Calls Tryz.prog 96 #[.pointer (some ⟨g,0,none⟩),.int .i64 (n:Int)] w (strPost none g A w):=by
 have c1:=h.blk.cell 1
 simp only [Zt,Zz,Zs] at c1
 have HP:=Lh h
 clear h
 go_enter Tryz.func96,Tryz.ntmps96
 go_wp2
 go_ret
 exact strPost_bad rfl HP.out (by first|assumption|rfl|exact bk_cut _ _ _|(rw [bk_cut];assumption)) (grown_refl _ _)
theorem pkStream (g c:Nat) (l:List UInt8) (A:OA) (n:Nat) (w:World) (h:IsPk w g l A c false) (hl:l.length≤140737488351232) (hn:n≤65536):
 Calls Tryz.prog 96 #[.pointer (some ⟨g,0,none⟩),.int .i64 (n:Int)] w (strPost (streamL l n) g A w):=by
 obtain ⟨R,hR⟩:∃ R,streamL l n=R:=⟨_,rfl⟩
 rw [hR]
 have HD2:=Lh (show R=strShare l n (shareL l) from hR.symm)
 have c1:=h.blk.cell 1
 have c0:=h.blk.cell 0
 simp only [Zt,Zz,Zs] at c1 c0
 have HP:=Lh h
 have hcap:=h.cap
 have HSh:=Lh (fseGetShare A l.length c l w rfl h.data hl hcap.1)
 have hglt:=h.blk.lt
 clear h hR
 go_enter Tryz.func96,Tryz.ntmps96
 go_wp2_with fail
 refine HSh.out.mono ?_
 rintro e w3 ⟨hb3,hpost⟩
 have HG3:=Lh (grown_below (row:=some g) hb3)
 have HP3:=Lh (HP.out.later hb3)
 clear hb3 HSh c1 c0
 have f1:=HP3.out.blk.frozen 1
 have d1:=HP3.out.blk.cell 1
 simp only [Zt,Zz,Zs] at d1
 have HP4:=Lh (HP3.out.setBad true)
 have HG4:=Lh (grown_trans HG3.out (grown_set w3 ⟨g,1,none⟩ (.bool true)))
 cases ht:shareL l with
 | none=>
   rw [ht] at hpost
   obtain ⟨E,hE,rfl⟩:=hpost
   have HD3:=Lh (HD2.out.trans (by rw [ht];rfl):R=none)
   have hE':(E != 0)=true:=by simpa using hE
   clear ht
   go_wp2
   go_ret
   exact strPost_bad HD3.out HP4.out (by first|assumption|rfl|exact bk_cut _ _ _|(rw [bk_cut];assumption)) HG4.out
 | some p=>
   obtain ⟨sh,lg,k⟩:=p
   rw [ht] at hpost
   obtain ⟨A3,c3,rfl,hown⟩:=hpost
   obtain ⟨hk,hln,hlx⟩:=shareL_facts ht
   have HD3:=Lh (HD2.out.trans (by rw [ht,strShare]))
   clear ht
   by_cases h6:lg=6
   ·by_cases h17:17<sh.length
    ·have HD4:=Lh (HD3.out.trans (if_pos (.inr h17)))
     have e6:((lg:Int) != 6)=false:=by rw [h6];rfl
     have hB:decide (17<(sh.length:Int))=true:=qT (by omega)
     clear h6
     go_wp2
     go_ret
     exact strPost_bad HD4.out HP4.out (by first|assumption|rfl|exact bk_cut _ _ _|(rw [bk_cut];assumption)) HG4.out
    ·have HD4:=Lh (HD3.out.trans (if_neg (by rintro (h|h);exact h h6;exact h17 h)))
     have e6:((lg:Int) != 6)=false:=by rw [h6];rfl
     clear h6 HP4 HG4
     have HP4:=Lh (HP3.out.setBad false)
     have HG4:=Lh (grown_trans HG3.out (grown_set w3 ⟨g,1,none⟩ (.bool false)))
     have HL3:=Lh (Own.kept hown (grown_set w3 ⟨g,1,none⟩ (.bool false)) (.inr (Own.ne_blk hown HP3.out.blk (by decide))))
     have hB:decide (17<(sh.length:Int))=false:=qF (by omega)
     have q0:=HP4.out.blk.cell 0
     have g0:=HP4.out.blk.frozen 0
     simp only [Zt,Zz,Zs] at q0
     clear hown
     go_wp2_with (first|(with_reducible refine wpList_slice_lo ?g ?s ?h elemB ?ho A l.length c k ?hs ?hh ?hk ?_;(case ho=>exact rfl);(case g=>exact rfl);(case hs=>simp [Act.eval]);(case hh=>simp [Act.eval]);(case hk=>omega))|fail)
     have HP5:=Lh (HP3.out.cutD k hk)
     have HG5:=Lh (grown_trans HG4.out (grown_set (w3.setCell ⟨g,1,none⟩ (.bool false)) ⟨g,0,none⟩ (.slice (cutA A c k) (l.length-k) (c-k))))
     have HL5:=Lh (Own.kept HL3.out (grown_set (w3.setCell ⟨g,1,none⟩ (.bool false)) ⟨g,0,none⟩ (.slice (cutA A c k) (l.length-k) (c-k))) (.inr (Own.ne_blk HL3.out HP4.out.blk (by decide))))
     have hl3:(l.drop k).length=l.length-k:=List.length_drop
     have hAne:bk A3≠some g:=Own.ne_blk HL3.out HP4.out.blk (by decide)
     generalize ((w3.setCell ⟨g,1,none⟩ (.bool false)).setCell ⟨g,0,none⟩ (.slice (cutA A c k) (l.length-k) (c-k)))=w5 at *
     rw [←hl3]
     have hl3':(l.drop k).length≤140737488351232:=by omega
     generalize l.drop k=l3 at *
     have hA5:bk (cutA A c k)=bk A:=bk_cut _ _ _
     generalize cutA A c k=A5 at *
     generalize c-k=c5 at *
     clear q0 g0 hB d1 f1 HP4 HG4 HL3 HP3 HG3 HD3 HD2 hl3 hk HP
     cases hp:pkNum l3 (l3.length:Int) with
     | none=>
       have HD5:=Lh (HD4.out.trans (by rw [hp,strNum]):R=none)
       refine (pk_num_bad g c5 l3 A5 false _ w5 HP5.out (.inr hp)).mono ?_
       rintro e w6 ⟨rfl,hp6,hg6⟩
       have HT:=Lh (pk_take_bad g c5 l3 A5 true 0 w6 hp6 (.inl rfl))
       have HG6:=Lh (grown_trans HG5.out hg6)
       clear hp6 hg6 hp
       go_wp2_with fail
       refine HT.out.mono ?_
       rintro e w7 ⟨rfl,hp7,hg7⟩
       have d1:=hp7.blk.cell 1
       simp only [Zt,Zz,Zs] at d1
       have HP7:=Lh hp7
       have HG7:=Lh (grown_trans HG6.out hg7)
       clear hp7 hg7
       go_wp2
       go_ret
       exact strPost_bad HD5.out HP7.out (by first|assumption|rfl|exact bk_cut _ _ _|(rw [bk_cut];assumption)) HG7.out
     | some p=>
       obtain ⟨bn,kk⟩:=p
       obtain ⟨hkk,hbn,-,-⟩:=pkNum_facts hp
       have HD5:=Lh (HD4.out.trans (by rw [hp,strNum]))
       refine (pk_num_any g c5 l3 A5 _ bn kk w5 HP5.out hp).mono ?_
       rintro e w6 ⟨rfl,hp6,hg6⟩
       have HP6:=Lh hp6
       have HG6:=Lh (grown_trans HG5.out hg6)
       have HL6:=Lh (Own.kept HL5.out hg6 (.inr hAne))
       have hl4:(l3.drop kk).length≤140737488351232:=by rw [List.length_drop];omega
       clear hp6 hg6 hp
       generalize l3.drop kk=l4 at *
       have hA6:bk (cutA A5 c5 kk)=bk A:=(bk_cut _ _ _).trans hA5
       generalize cutA A5 c5 kk=A6 at *
       generalize c5-kk=c6 at *
       by_cases hbl:l4.length<bn
       ·have HD6:=Lh (HD5.out.trans (if_pos hbl))
        have HT:=Lh (pk_take_bad g c6 l4 A6 false bn w6 HP6.out (.inr (by omega)))
        clear hbl
        go_wp2_with fail
        refine HT.out.mono ?_
        rintro e w7 ⟨rfl,hp7,hg7⟩
        have d1:=hp7.blk.cell 1
        simp only [Zt,Zz,Zs] at d1
        have HP7:=Lh hp7
        have HG7:=Lh (grown_trans HG6.out hg7)
        clear hp7 hg7
        go_wp2
        go_ret
        exact strPost_bad HD6.out HP7.out (by first|assumption|rfl|exact bk_cut _ _ _|(rw [bk_cut];assumption)) HG7.out
       ·have HD6:=Lh (HD5.out.trans (if_neg hbl))
        have HT:=Lh (pk_take_any g c6 l4 A6 bn w6 HP6.out (by omega))
        go_wp2_with fail
        refine HT.out.mono ?_
        rintro e w7 ⟨rfl,hp7,hg7⟩
        have d1:=hp7.blk.cell 1
        simp only [Zt,Zz,Zs] at d1
        have HP7:=Lh hp7
        have HG7:=Lh (grown_trans HG6.out hg7)
        have HL7:=Lh (Own.kept HL6.out hg7 (.inr hAne))
        have HB7:=Lh (Rd.keptB (Bs.take bn HP6.out.data) hg7 (.inr HP6.out.ne):Bs w7 A6 (l4.take bn))
        have hlb:(l4.take bn).length=bn:=by rw [List.length_take];omega
        have hg7lt:=HP7.out.blk.lt
        have HDec:=Lh (fseDecode A3 sh.length c3 sh A6 bn c6 (l4.take bn) n w7 rfl (OwnN.ns HL7.out) (by omega) (fun x hx=>by have:=hlx x hx;omega) hlb HB7.out (by omega) (by omega))
        clear hp7 hg7 HT hlx hbl hlb
        generalize l4.take bn=body at *
        generalize l4.drop bn=l5 at *
        go_wp2_with fail
        refine HDec.out.mono ?_
        rintro e w8 ⟨hb8,hpost⟩
        have HP8:=Lh (HP7.out.later hb8)
        have HG8:=Lh (grown_trans HG7.out (grown_below hb8))
        have f8:=HP8.out.blk.frozen 1
        have d8:=HP8.out.blk.cell 1
        simp only [Zt,Zz,Zs] at d8
        clear d1 hb8
        cases hdec:fdecodeL sh body n with
        | none=>
          rw [hdec] at hpost
          obtain ⟨E,hE,rfl⟩:=hpost
          have HD7:=Lh (HD6.out.trans (by rw [hdec,strDec]):R=none)
          have hE':(E != 0)=true:=by simpa using hE
          have HP9:=Lh (HP8.out.setBad true)
          have HG9:=Lh (grown_trans HG8.out (grown_set w8 ⟨g,1,none⟩ (.bool true)))
          clear hdec HDec
          go_wp2
          go_ret
          exact strPost_bad HD7.out HP9.out (by first|assumption|rfl|exact bk_cut _ _ _|(rw [bk_cut];assumption)) HG9.out
        | some out=>
          rw [hdec] at hpost
          obtain ⟨A8,c8,rfl,hown⟩:=hpost
          have HD7:=Lh (HD6.out.trans (by rw [hdec,strDec]):R=some (out,l5))
          have HP9:=Lh (HP8.out.setBad false)
          have HG9:=Lh (grown_trans HG8.out (grown_set w8 ⟨g,1,none⟩ (.bool false)))
          have hne8:bk A8≠some g:=Own.ne_blk hown HP8.out.blk (by decide)
          have HO9:=Lh (Own.kept hown (grown_set w8 ⟨g,1,none⟩ (.bool false)) (.inr hne8))
          have hcap:=Own.cap hown
          clear hdec HDec hown
          go_wp2
          go_ret
          rw [HD7.out]
          exact ⟨HG9.out,A8,c8,_,_,rfl,Own.mono HO9.out (HG7.out.size),(by first|assumption|rfl|exact bk_cut _ _ _|(rw [bk_cut];assumption)),HP9.out⟩
   ·have HD4:=Lh (HD3.out.trans (if_pos (.inl h6)))
    have e6:((lg:Int) != 6)=true:=by simpa using (by omega:¬(lg:Int)=6)
    clear h6
    go_wp2
    go_ret
    exact strPost_bad HD4.out HP4.out (by first|assumption|rfl|exact bk_cut _ _ _|(rw [bk_cut];assumption)) HG4.out
theorem symOf_lt2 {l:List Nat} (h:sumL l=64) (q:Nat):symOf l q<l.length:=by
 have h1:(3*q)%64<(symL l 0).length:=by rw [symL_len,h];omega
 have hm:symOf l q∈symL l 0:=by
  unfold symOf
  simp [List.getD,Zg h1]
 obtain ⟨-,h2,-⟩:=symL_mem l 0 _ hm
 omega
theorem fdGo_facts {sh:List Nat} {s:List UInt8} (h:sumL sh=64):∀ (n q a:Nat) (out:List Nat) {r:List Nat × Nat × Nat},fdGo sh s n q a out=some r→(∀ x∈out,x<sh.length)→r.1.length=out.length+n∧∀ x∈r.1,x<sh.length
 | 0,q,a,out,r,hr,ho=>by
   simp only [fdGo,Option.some.injEq] at hr
   subst hr
   exact ⟨rfl,ho⟩
 | n+1,q,a,out,r,hr,ho=>by
   rw [fdGo] at hr
   split at hr
   ·cases hr
   ·have:=fdGo_facts h n _ _ _ hr (fun x hx=>by
     rcases List.mem_append.1 hx with h1|h1
     ·exact ho x h1
     ·rw [List.mem_singleton.1 h1];exact symOf_lt2 h q)
    rw [Zl,List.length_singleton] at this
    exact ⟨by omega,this.2⟩
theorem fdecodeL_facts {sh:List Nat} {s:List UInt8} {n:Nat} {out:List Nat} (h:fdecodeL sh s n=some out):out.length=n∧∀ x∈out,x<sh.length:=by
 unfold fdecodeL at h
 split at h
 ·cases h
 ·rename_i hb
  have hm:fmayL sh 6=true:=by
   cases e:fmayL sh 6 with
   | true=>rfl
   | false=>exact absurd (.inl e) hb
  have hs:sumL sh=64:=(fmayL_facts hm).2.2.2.2
  generalize hG:fdGo sh s n (numAt s (fdBits s-6) 6) (fdBits s-6) []=G at h
  cases G with
  | none=>cases h
  | some r=>
    obtain ⟨o,q,a⟩:=r
    rw [fdEnd] at h
    split at h
    ·cases h
    ·injection h with h
     subst h
     have:=fdGo_facts hs n _ _ _ hG (by simp)
     simpa using this
theorem streamL_facts {l:List UInt8} {n:Nat} {c:List Nat} {rest:List UInt8} (h:streamL l n=some (c,rest)):c.length=n∧(∀ x∈c,x≤16)∧rest.length≤l.length:=by
 unfold streamL at h
 generalize shareL l=S at h
 cases S with
 | none=>cases h
 | some p=>
   obtain ⟨sh,lg,k⟩:=p
   rw [strShare] at h
   split at h
   ·cases h
   ·rename_i hb
    generalize pkNum (l.drop k) ((l.drop k).length:Int)=N at h
    cases N with
    | none=>cases h
    | some q=>
      obtain ⟨bn,kk⟩:=q
      rw [strNum] at h
      split at h
      ·cases h
      ·generalize hD:fdecodeL sh (((l.drop k).drop kk).take bn) n=D at h
       cases D with
       | none=>cases h
       | some out=>
         simp only [strDec,Option.some.injEq,Prod.mk.injEq] at h
         obtain ⟨rfl,rfl⟩:=h
         obtain ⟨h1,h2⟩:=fdecodeL_facts hD
         refine ⟨h1,fun x hx=>?_,?_⟩
         ·have:=h2 x hx
          omega
         ·simp only [List.length_drop];omega
def str3 (n:Nat):Nat→List UInt8→List (List Nat)→Option (List (List Nat) × List UInt8)
 | 0,l,cs=>some (cs,l)
 | f+1,l,cs=>(streamL l n).bind fun p=>str3 n f p.2 (cs++[p.1])
def numT (s:List UInt8) (a c:Nat):Nat × Nat × Bool:=
 if c=0 then (0,a,false) else if 8*s.length<a+(c-1) then (2^(c-1),a,true) else (2^(c-1)+numAt s a (c-1),a+(c-1),false)
def rd3 (s:List UInt8):List Nat→Nat→Bool→List Nat→Nat × Bool × List Nat
 | [],a,b,vs=>(a,b,vs)
 | c::cs,a,b,vs=>rd3 s cs (numT s a c).2.1 (b||(numT s a c).2.2) (vs++[(numT s a c).1])
def sqOf (vs:List Nat):Sq:=⟨vs.getD 0 0,vs.getD 1 0+4,vs.getD 2 0+1⟩
def stepGo (s:List UInt8) (cs:Nat→List Nat):Nat→Nat→Nat→Bool→List Sq→Nat × Bool × List Sq
 | 0,_,a,b,out=>(a,b,out)
 | r+1,i,a,b,out=>
   stepGo s cs r (i+1) (rd3 s [(cs 0).getD i 0,(cs 1).getD i 0,(cs 2).getD i 0] a b []).1 (rd3 s [(cs 0).getD i 0,(cs 1).getD i 0,(cs 2).getD i 0] a b []).2.1
    (out++[sqOf (rd3 s [(cs 0).getD i 0,(cs 1).getD i 0,(cs 2).getD i 0] a b []).2.2])
def stepsEnd (s rest:List UInt8) (r:Nat × Bool × List Sq):Option (List Sq × List UInt8):=
 if r.2.1=true∨numAt s r.1 ((8*s.length-r.1)%8)≠0∨0<8*s.length-(r.1+(8*s.length-r.1)%8) then none else some (r.2.2,rest)
def stepsNum (many:Nat) (cs:List (List Nat)) (l:List UInt8):Option (Nat × Nat)→Option (List Sq × List UInt8)
 | none=>none
 | some (bn,kk)=>if (l.drop kk).length<bn then none else stepsEnd ((l.drop kk).take bn) ((l.drop kk).drop bn) (stepGo ((l.drop kk).take bn) (fun k=>cs.getD k []) many 0 0 false [])
def stepsCodes (many:Nat):Option (List (List Nat) × List UInt8)→Option (List Sq × List UInt8)
 | none=>none
 | some (cs,l)=>stepsNum many cs l (pkNum l (l.length:Int))
def stepsMany (l:List UInt8):Option (Nat × Nat)→Option (List Sq × List UInt8)
 | none=>none
 | some (many,k)=>if many=0 then some ([],l.drop k) else stepsCodes many (str3 many 3 (l.drop k) [])
def stepsL (l:List UInt8) (n:Nat):Option (List Sq × List UInt8):=stepsMany l (pkNum l ((n/4:Nat):Int))
theorem numT_le {s:List UInt8} {a c:Nat} (hc:c≤16):(numT s a c).1≤65536∧((a≤8*s.length)→(numT s a c).2.1≤8*s.length):=by
 unfold numT
 split
 ·exact ⟨by simp,fun h=>h⟩
 ·have hp:2^(c-1)≤2^15:=Nat.pow_le_pow_right (by omega) (by omega)
  split
  ·exact ⟨by simp only;omega,fun h=>h⟩
  ·have:=numAt_lt s a (c-1)
   exact ⟨by simp only;omega,fun h=>by simp only;omega⟩
theorem rd3_le {s:List UInt8}:∀ (cs:List Nat) (a:Nat) (b:Bool) (vs:List Nat),(∀ c∈cs,c≤16)→(∀ v∈vs,v≤65536)→(∀ v∈(rd3 s cs a b vs).2.2,v≤65536)∧(a≤8*s.length→(rd3 s cs a b vs).1≤8*s.length)
 | [],a,b,vs,_,hv=>⟨hv,fun h=>h⟩
 | c::cs,a,b,vs,hc,hv=>by
   have h1:=numT_le (s:=s) (a:=a) (hc c (List.mem_cons_self ..))
   have:=rd3_le (s:=s) cs (numT s a c).2.1 (b||(numT s a c).2.2) (vs++[(numT s a c).1]) (fun x hx=>hc x (List.mem_cons_of_mem _ hx)) (fun v hv'=>by
    rcases List.mem_append.1 hv' with h|h
    ·exact hv v h
    ·rw [List.mem_singleton.1 h];exact h1.1)
   exact ⟨this.1,fun h=>this.2 (h1.2 h)⟩
def SqB (x:Sq):Prop:=x.lits≤65536∧x.len≤65540∧x.dist≤65537
theorem getD_le {l:List Nat} {B k:Nat} (h:∀ x∈l,x≤B):l.getD k 0≤B:=by
 simp only [List.getD]
 cases e:l[k]? with
 | none=>simp
 | some x=>simpa using h x (List.mem_of_getElem? e)
theorem sqOf_le {vs:List Nat} (h:∀ v∈vs,v≤65536):SqB (sqOf vs):=by
 refine ⟨getD_le h,?_,?_⟩
 ·have:=getD_le (k:=1) h;show _+4≤_;omega
 ·have:=getD_le (k:=2) h;show _+1≤_;omega
theorem stepGo_le {s:List UInt8} {cs:Nat→List Nat} (hc:∀ k,∀ x∈cs k,x≤16):∀ (r i a:Nat) (b:Bool) (out:List Sq),(∀ x∈out,SqB x)→∀ x∈(stepGo s cs r i a b out).2.2,SqB x
 | 0,i,a,b,out,ho=>ho
 | r+1,i,a,b,out,ho=>by
   rw [stepGo]
   refine stepGo_le hc r _ _ _ _ (fun x hx=>?_)
   rcases List.mem_append.1 hx with h|h
   ·exact ho x h
   ·rw [List.mem_singleton.1 h]
    refine sqOf_le (rd3_le _ _ _ _ (fun c hcm=>?_) (by simp)).1
    simp only [List.mem_cons,List.not_mem_nil,or_false] at hcm
    rcases hcm with rfl|rfl|rfl
    ·exact getD_le (hc 0)
    ·exact getD_le (hc 1)
    ·exact getD_le (hc 2)
theorem str3_le {n:Nat}:∀ (f:Nat) (l:List UInt8) (cs:List (List Nat)) {r:List (List Nat) × List UInt8},str3 n f l cs=some r→(∀ c∈cs,∀ x∈c,x≤16)→(∀ c∈r.1,∀ x∈c,x≤16)
 | 0,l,cs,r,h,hc=>by
   simp only [str3,Option.some.injEq] at h
   subst h;exact hc
 | f+1,l,cs,r,h,hc=>by
   rw [str3] at h
   cases hs:streamL l n with
   | none=>rw [hs] at h;cases h
   | some p=>
     obtain ⟨c,rest⟩:=p
     rw [hs] at h
     refine str3_le f _ _ h (fun c' hc'=>?_)
     rcases List.mem_append.1 hc' with h1|h1
     ·exact hc c' h1
     ·rw [List.mem_singleton.1 h1];exact (streamL_facts hs).2.1
theorem stepsL_le {l:List UInt8} {n:Nat} {sq:List Sq} {rest:List UInt8} (h:stepsL l n=some (sq,rest)):∀ x∈sq,SqB x:=by
 unfold stepsL at h
 generalize pkNum l ((n/4:Nat):Int)=N at h
 cases N with
 | none=>cases h
 | some p=>
   obtain ⟨many,k⟩:=p
   rw [stepsMany] at h
   split at h
   ·simp only [Option.some.injEq,Prod.mk.injEq] at h
    obtain ⟨rfl,-⟩:=h
    simp
   ·generalize hS:str3 many 3 (l.drop k) []=S at h
    cases S with
    | none=>cases h
    | some q=>
      obtain ⟨cs,l2⟩:=q
      rw [stepsCodes] at h
      generalize pkNum l2 (l2.length:Int)=N2 at h
      cases N2 with
      | none=>cases h
      | some p2=>
        obtain ⟨bn,kk⟩:=p2
        rw [stepsNum] at h
        split at h
        ·cases h
        ·unfold stepsEnd at h
         split at h
         ·cases h
         ·simp only [Option.some.injEq,Prod.mk.injEq] at h
          obtain ⟨rfl,-⟩:=h
          have hcs:=str3_le 3 _ _ hS (by simp)
          refine stepGo_le (fun k x hx=>?_) _ _ _ _ _ (by simp)
          simp only [List.getD] at hx
          cases e:cs[k]? with
          | none=>rw [e] at hx;simp at hx
          | some c=>
            rw [e] at hx
            exact hcs c (List.mem_of_getElem? e) x (by simpa using hx)
theorem num_or {c low:Nat} (hc:c≤16) (hlow:low<2^(c-1)):bits .or .i64 (wrap64 ((1:Int)*2^(c-1))) (low:Int)=((2^(c-1)+low:Nat):Int):=by
 have hp:2^(c-1)≤32768:=(Nat.pow_le_pow_right (by omega) (by omega):2^(c-1)≤2^15)
 have h:=or_shl (y:=low) (x:=1) (j:=c-1) hlow (by omega)
 have e2:(1:Int)*2^(c-1)=((2^(c-1):Nat):Int):=by simp
 have e3:((1:Nat):Int)*2^(c-1)=((2^(c-1):Nat):Int):=by simp
 rw [e3] at h
 rw [e2]
 rw [Nat.one_mul] at h
 generalize 2^(c-1)=p at *
 have e1:wrap64 (p:Int)=(p:Int):=wrap64_nat (by omega)
 rw [e1] at h ⊢
 rw [i64_or_nat _ _ (by omega) (by omega)] at h ⊢
 rw [Nat.or_comm,h]
 omega
theorem OwnN.cell_at {w:World} {base n c i:Nat} {A:OA} {l:List Nat} (h:OwnN w base A n c l) (hi:i<n):∃ g,A=some ⟨g,0,none⟩∧w.cell? ⟨g,i,none⟩=some (.int .i64 (l.getD i 0:Nat)):=by
 have hlen:=OwnN.length h
 obtain ⟨g,v,hA,-,-,hv,hc,-⟩:=Own.at_ h hi
 refine ⟨g,hA,?_⟩
 rw [hc]
 rw [List.getElem?_map,Zg (by omega)] at hv
 simp only [List.getD,Zg (show i<l.length by omega),Option.getD_some]
 simpa [natv] using hv.symm
theorem Cells.ne_ownS {w:World} {base m c g n:Nat} {t:TypeId} {A:OA} {l:List Sq} {F:Nat→Value} (h:Cells w g t n F) (ho:OwnS w base A m c l) (hne:183≠t):bk A≠some g:=by
 obtain ⟨cs,h1,-⟩:=h
 exact OwnS.ne_blk ho h1 hne
theorem grown_own {w w3 w4:World} {r row:Option Nat} (h:w.grownBy w3 r) (h2:w3.grownBy w4 row) (hr:∀ k,row=some k→w.heap.size≤k):w.grownBy w4 r:=
 ⟨h2.os.trans h.os,h2.tape.trans h.tape,h2.output.trans h.output,Nat.le_trans h.size h2.size,fun i hi hne=>(h2.block i (lT hi h.size) (fun e=>by have:=hr i e.symm;omega)).trans (h.block i hi hne)⟩
structure StpR (w wr:World) (s:List UInt8) (gr:Nat) (Ar:OA) (cr g:Nat) (l:List UInt8) (A:OA) (c cb:Nat) (F:Nat→Value) (many:Nat) (As:Nat→OA) (cc:Nat→Nat) (cs:Nat→List Nat) (a:Nat) (b:Bool) (Ao:OA) (no co:Nat) (out:List Sq):Prop where
 row:IsRow wr 229 gr s a Ar cr
 pk:IsPk wr g l A c b
 codes:Cells wr cb 175 3 F
 rows:∀ j,j<3→OwnN wr w.heap.size (As j) many (cc j) (cs j)
 own:OwnS wr w.heap.size Ao no co out
 grown:w.grownBy wr (some g)
 base:w.heap.size≤gr
 low:∀ b,bk A=some b→b<w.heap.size
 rlow:∀ b,bk Ar=some b→w.heap.size≤b
section
variable {w wr w':World} {s:List UInt8} {gr:Nat} {Ar:OA} {cr g:Nat} {l:List UInt8} {A:OA} {c cb:Nat} {F:Nat→Value} {many:Nat} {As:Nat→OA} {cc:Nat→Nat} {cs:Nat→List Nat} {a:Nat} {b:Bool} {Ao:OA} {no co:Nat} {out:List Sq}
theorem StpR.later (h:StpR w wr s gr Ar cr g l A c cb F many As cc cs a b Ao no co out) (hb:Below wr.heap.size wr w'):StpR w w' s gr Ar cr g l A c cb F many As cc cs a b Ao no co out:=
 ⟨h.row.later hb,h.pk.later hb,h.codes.later hb,fun j hj=>Own.later (h.rows j hj) hb,h.own.later hb,grown_own h.grown (grown_of_below hb) (by intro k hk;cases hk),h.base,h.low,h.rlow⟩
theorem StpR.take (h:StpR w wr s gr Ar cr g l A c cb F many As cc cs a b Ao no co out) {a':Nat} (hr:IsRow w' 229 gr s a' Ar cr) (hg:wr.grownBy w' (some gr)):StpR w w' s gr Ar cr g l A c cb F many As cc cs a' b Ao no co out:=by
 refine ⟨hr,h.pk.kept hg (by simpa using Blk.ne h.row.blk h.pk.blk (by decide)) ?_,h.codes.kept hg (by simpa using fun e=>(h.codes.ne_blk h.row.blk (by decide)) e.symm),fun j hj=>Own.kept (h.rows j hj) hg (.inr (Own.ne_blk (h.rows j hj) h.row.blk (by decide))),h.own.kept hg (.inr (h.own.ne_blk h.row.blk (by decide))),
  grown_own h.grown hg (by intro k hk;cases hk;exact h.base),h.base,h.low,h.rlow⟩
 right
 intro e
 have:=h.low gr e
 have:=h.base
 omega
theorem StpR.setBad (h:StpR w wr s gr Ar cr g l A c cb F many As cc cs a b Ao no co out) (b':Bool):StpR w (wr.setCell ⟨g,1,none⟩ (.bool b')) s gr Ar cr g l A c cb F many As cc cs a b' Ao no co out:=by
 have hg:=grown_set wr ⟨g,1,none⟩ (.bool b')
 refine ⟨h.row.kept hg (by simpa using fun e=>(Blk.ne h.row.blk h.pk.blk (by decide)) e.symm) (.inr (Own.ne_blk h.row.own h.pk.blk (by decide))),h.pk.setBad b',h.codes.kept hg (by simpa using fun e=>(h.codes.ne_blk h.pk.blk (by decide)) e.symm),fun j hj=>Own.kept (h.rows j hj) hg (.inr (Own.ne_blk (h.rows j hj) h.pk.blk (by decide))),h.own.kept hg (.inr (h.own.ne_blk h.pk.blk (by decide))),grown_trans h.grown hg,h.base,h.low,h.rlow⟩
theorem StpR.cell (h:StpR w wr s gr Ar cr g l A c cb F many As cc cs a b Ao no co out) {vb n:Nat} {G:Nat→Value} (hv:Cells wr vb 179 n G) (hvb:w.heap.size≤vb) (k:Nat) (v:Value):StpR w (wr.setCell ⟨vb,k,none⟩ v) s gr Ar cr g l A c cb F many As cc cs a b Ao no co out:=by
 have hg:=grown_set wr ⟨vb,k,none⟩ v
 refine ⟨h.row.kept hg (by simpa using fun e=>(hv.ne_blk h.row.blk (by decide)) e) (.inr (hv.ne_own h.row.own (by decide))),h.pk.kept hg (by simpa using fun e=>(hv.ne_blk h.pk.blk (by decide)) e) ?_,h.codes.kept hg ?_,fun j hj=>Own.kept (h.rows j hj) hg (.inr (hv.ne_own (h.rows j hj) (by decide))),h.own.kept hg (.inr (hv.ne_ownS h.own (by decide))),
  grown_own h.grown hg (by intro k hk;cases hk;exact hvb),h.base,h.low,h.rlow⟩
 ·right
  intro e
  have:=h.low vb e
  omega
 ·obtain ⟨x,hx,-⟩:=h.codes
  simpa using fun e=>(hv.ne_blk hx (by decide)) e
theorem StpR.append (h:StpR w wr s gr Ar cr g l A c cb F many As cc cs a b Ao no co out) {A':OA} {n' c':Nat} {out':List Sq} (ho:OwnS w' w.heap.size A' n' c' out') (hg:wr.grownBy w' (bk Ao)):StpR w w' s gr Ar cr g l A c cb F many As cc cs a b A' n' c' out':=by
 refine ⟨h.row.kept hg (h.own.ne_blk h.row.blk (by decide)) ?_,h.pk.kept hg (h.own.ne_blk h.pk.blk (by decide)) ?_,h.codes.kept hg (h.codes.ne_ownS h.own (by decide)),fun j hj=>Own.kept (h.rows j hj) hg (sep_symm (h.own.ne_own (h.rows j hj) (by decide))),ho,grown_own h.grown hg (fun k hk=>(h.own.lt hk).1),h.base,h.low,h.rlow⟩
 ·exact sep_symm (h.own.ne_own h.row.own (by decide))
 ·cases hA:bk A with
  | none=>exact .inl rfl
  | some q=>
    right
    intro e
    have h1:=h.low q hA
    have h2:=(h.own.lt e.symm).1
    omega
end
theorem info_Seq:(Tryz.prog.info? 183).map (fun i=>(i.zero,i.size,i.bytes))=some (some (.agg #[.int .i64 0,.int .i64 0,.int .i64 0]),3,24):=by kernel_rfl
theorem wpList_append_sq {w:World} {ops:Array Oper} {rest:List Oper} {o:Oper} {a:Act} {Q:Exit→Act→World→Prop} (hgd:o.guard=none) (s x:Operand)
 (ho:o.op=.call { callee:=.builtin .append,args:=#[s,x],argTypes:=#[139,139] })
 (base:Nat) (A:OA) (n c:Nat) (l:List Sq) (w0:World) (u:Sq) (hw:w=w0.alloc (.cells #[natv u.lits,natv u.len,natv u.dist] 183)) (hs:a.eval s=.slice A n c) (hown:OwnS w0 base A n c l)
 (hx:a.eval x=.slice (some ⟨w0.heap.size,0,none⟩) 1 1) (hb:n≤1000000000) (hbase:base≤w0.heap.size)
 (h:∀ A' c' w',OwnS w' base A' (n+1) c' (l++[u])→w0.grownBy w' (bk A)→wpList Tryz.prog ops Q rest (a.put o.dst (.slice A' (n+1) c')) w'):wpList Tryz.prog ops Q (o::rest) a w:=by
 subst hw
 refine wpList_plain hgd fun K hK=>?_
 obtain ⟨i,hi,hz0,hz1,hz2⟩:=info_parts info_Seq
 have hg0:w0.grownBy (w0.alloc (.cells #[natv u.lits,natv u.len,natv u.dist] 183)) none:=World.grownBy_alloc w0 _ none
 have hnews:∀ j v,(sqC u)[j]? = some v→(w0.alloc (.cells #[natv u.lits,natv u.len,natv u.dist] 183)).cell? ((⟨w0.heap.size,0,none⟩:Addr).add j)=some v:=by
  intro j v hv
  rw [add_none,Nat.zero_add,World.cell?_alloc_at _ _ _ _ rfl]
  simpa [sqC] using hv
 obtain ⟨v',w',hrun,h2,h3,-,-⟩:=run_append_own_at (P:=Tryz.prog) (w0.alloc (.cells #[natv u.lits,natv u.len,natv u.dist] 183)) base 139 o.type 183 i _ 3 24 Tryz.underlying139 hi hz0 hz1 hz2 rfl (by omega) (.slice A n c) n (flatS l) (hown.later ((Below.refl _ _).alloc nL _)) ⟨w0.heap.size,0,none⟩ 1 1 (sqC u) rfl hnews
  (by intro v hv;simp only [sqC,List.mem_cons,List.not_mem_nil,or_false] at hv;rcases hv with rfl|rfl|rfl<;>rfl) (by unfold maxLen;omega) (by omega) (by simp;omega)
 have hform:∃ A' c',v'=.slice A' (n+1) c':=by
  rcases h2.2 with ⟨rfl,h0⟩|⟨g,cap,cur,rfl,-⟩
  ·exact ⟨none,0,by rw [h0]⟩
  ·exact ⟨_,cap,rfl⟩
 obtain ⟨A',c',rfl⟩:=hform
 rw [ownBlock_eq] at h3
 have e:flatS l++sqC u=flatS (l++[u]):=by simp [flatS]
 rw [e] at h2
 unfold Oper.wp execOp
 simp only [ho,resolve,invoke,builtin,Sem.run_bind,Sem.run_pure,Result.andThen_ok,List.map_toArray,List.map_cons,List.map_nil,hs,hx,hrun]
 refine hK _ _ (h A' c' w' h2 ⟨h3.os,h3.tape,h3.output,Nat.le_trans hg0.size h3.size,fun k hk hne=>(h3.block k (by simp;omega) hne).trans (hg0.block k hk (by simp))⟩)
theorem num_or2 {y low:Nat} (hy:y≤15) (hlow:low<2^y):bits .or .i64 (wrap64 ((2:Int)^y)) (low:Int)=((2^y+low:Nat):Int):=by
 have h:=num_or (c:=y+1) (low:=low) (by omega) (by simpa using hlow)
 rw [Nat.add_sub_cancel,Int.one_mul] at h
 exact h
theorem num_or0 {y:Nat} (hy:y≤15):bits .or .i64 (wrap64 ((2:Int)^y)) 0=((2^y:Nat):Int):=by
 have h:=num_or2 (low:=0) hy (Nat.pos_of_ne_zero (by simp))
 rw [Nat.add_zero] at h
 exact h
theorem vs_ext (vs:List Nat) (z j:Nat):(if j=vs.length then Value.int .i64 (z:Int) else natv (vs.getD j 0))=natv ((vs++[z]).getD j 0):=by
 by_cases e:j=vs.length
 ·subst e
  rw [if_pos rfl]
  simp [natv]
 ·rw [if_neg e]
  simp only [List.getD]
  by_cases h:j<vs.length
  ·rw [List.getElem?_append_left h]
  ·rw [List.getElem?_eq_none (by omega),List.getElem?_eq_none (by simp;omega)]
end Go.Proofs.YtiihiocgbfafaaaGreat
