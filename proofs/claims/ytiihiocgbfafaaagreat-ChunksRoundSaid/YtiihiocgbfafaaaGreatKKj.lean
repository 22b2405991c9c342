/- R1 -/
import Derived.Test.YtiihiocgbfafaaaGreatKKb
set_option linter.unusedSimpArgs false
set_option linter.unusedVariables false
set_option maxHeartbeats 8000000
set_option maxRecDepth 100000
namespace Go.Proofs.YtiihiocgbfafaaaGreat
open Go.RowKit
def copyL (d:Nat):Nat→List UInt8→List UInt8
 | 0,out=>out
 | n+1,out=>copyL d n (out++[out.getD (out.length-d) 0])
theorem copyL_len (d:Nat):∀ (n:Nat) (out:List UInt8),(copyL d n out).length=out.length+n
 | 0,_=>rfl
 | n+1,out=>by rw [copyL,copyL_len d n];simp;omega
theorem copyL_succ (d:Nat):∀ (n:Nat) (out:List UInt8),copyL d (n+1) out=copyL d n out++[(copyL d n out).getD ((copyL d n out).length-d) 0]
 | 0,_=>rfl
 | n+1,out=>by rw [copyL,copyL_succ d n];rfl
def runBad (x:Sq) (have_ left most:Nat):Bool:=
 decide (left<x.lits)||((decide (0<x.len)&&(decide (x.dist<1)||decide (have_<x.dist)))||(decide (x.len=0)&&decide (x.dist≠0)))||(decide (most<have_)||decide (most-have_<x.len))
def runGo (most:Nat):List Sq→List UInt8→List UInt8→Option (List UInt8 × List UInt8)
 | [],out,rest=>some (out,rest)
 | x::r,out,rest=>if runBad x (out.length+x.lits) rest.length most then none else runGo most r (copyL x.dist x.len (out++rest.take x.lits)) (rest.drop x.lits)
def runEnd (most:Nat):Option (List UInt8 × List UInt8)→Option (List UInt8)
 | none=>none
 | some (out,rest)=>if most-out.length<rest.length then none else some (out++rest)
def runL (lits:List UInt8) (l:List Sq) (most:Nat):Option (List UInt8):=runEnd most (runGo most l [] lits)
theorem runGo_step {most k:Nat} {l:List Sq} {x:Sq} (h:l[k]? = some x) (out rest:List UInt8):
 runGo most (l.drop k) out rest=if runBad x (out.length+x.lits) rest.length most then none else runGo most (l.drop (k+1)) (copyL x.dist x.len (out++rest.take x.lits)) (rest.drop x.lits):=by
 have hk:k<l.length:=by
  rcases Nat.lt_or_ge k l.length with h'|h'
  ·exact h'
  ·rw [List.getElem?_eq_none h'] at h;cases h
 rw [List.drop_eq_getElem_cons hk,runGo]
 rw [Zg hk] at h
 injection h with h
 rw [h]
theorem OwnB.at_back {w:World} {base n c d:Nat} {A:OA} {l:List UInt8} (h:OwnB w base A n c l) (hd1:1≤d) (hd:d≤n):
 ∃ g,A=some ⟨g,0,none⟩∧w.cell? ⟨g,n-d,none⟩=some (.int .u8 ((l.getD (l.length-d) 0).toNat:Int)):=by
 have hlen:=OwnB.length h
 obtain ⟨g,v,hA,-,-,hv,hc,-⟩:=Own.at_ h (k:=n-d) (by omega)
 refine ⟨g,hA,?_⟩
 rw [hc]
 rw [List.getElem?_map,Zg (by omega)] at hv
 rw [hlen]
 simp only [List.getD,Zg (show n-d<l.length by omega),Option.getD_some]
 simpa [u8v] using hv.symm
theorem matchRun (A:OA) (n c:Nat) (lits:List UInt8) (A2:OA) (n2 c2:Nat) (l:List Sq) (most:Nat) (w:World) (hl:lits.length=n) (hr:Bs w A lits) (hn:n≤140737488351232) (hc:n≤c) (hc2:c≤9223372036854775807)
 (hl2:l.length=n2) (hr2:Ss w A2 l) (hn2:n2≤140737488351232) (hb:∀ x∈l,x.lits≤140737488351232∧x.len≤140737488351232∧x.dist≤140737488351232) (hm:most≤65536):
 Calls Tryz.prog 66 #[.slice A n c,.slice A2 n2 c2,.int .i64 (most:Int)] w (decPost (runL lits l most) w):=by
 have HR2:=Lh hr2
 have HL2:=Lh hl2
 have HB:=Lh hb
 have HR0:=Lh hr
 have HL0:=Lh hl
 clear hr2 hl2 hb hr hl
 go_enter Tryz.func66,Tryz.ntmps66
 go_wp2
 go_loopg [8,9,22] n2 (fun gg s8 s9 s22 wr=>∃ (k no co nr cr:Nat) (Ao Ar:OA) (out rest:List UInt8),k≤n2∧n2-k≤gg∧s8=.slice Ao no co∧s9=.slice Ar nr cr∧s22=.int .i64 (k:Int)∧OwnB wr w.heap.size Ao no co out∧no≤most ∧
  Bs w Ar rest∧rest.length=nr∧nr≤n∧nr≤cr∧cr≤9223372036854775807∧runL lits l most=runEnd most (runGo most (l.drop k) out rest)∧Below w.heap.size w wr)
 case atStart=>exact ⟨0,0,0,n,c,none,A,[],lits,by omega,by omega,rfl,rfl,rfl,OwnB.nil _ _,by omega,HR0.out,HL0.out,by omega,hc,hc2,rfl,Below.refl _ _⟩
 case round=>
  obtain ⟨k,no,co,nr,cr,Ao,Ar,out,rest,hk,hgg,rfl,rfl,rfl,hown,hno,hrr,hrl,hnr,hcr,hcr2,hrun,hbel⟩:=hrel
  have HO:=Lh hown
  have HR:=Lh hrr
  have HL:=Lh hrl
  have HRun:=Lh hrun
  have HBel:=Lh hbel
  have HOl:=Lh (OwnB.length hown)
  clear hown hrr hrl hrun hbel
  by_cases hkn:k<n2
  ·obtain ⟨b,o,x,hA,hx,c0,c1,c2⟩:=(HR2.out.later HBel.out).at_ (by rw [HL2.out];exact hkn:k<l.length)
   subst hA
   have hxb:=HB.out x (List.mem_of_getElem? hx)
   have hstep:=HRun.out.trans (congrArg _ (runGo_step hx out rest))
   rw [HOl.out,HL.out] at hstep
   have HStep:=Lh hstep
   obtain ⟨x1,x2,x3⟩:=x
   simp only at c0 c1 c2 hxb
   clear hstep hx
   have hP5:=Lh (Blk.new wr 183 #[.int .i64 (x1:Int),.int .i64 (x2:Int),.int .i64 (x3:Int)])
   have HBA:=Lh (HBel.out.alloc HBel.out.size (.cells #[.int .i64 (x1:Int),.int .i64 (x2:Int),.int .i64 (x3:Int)] 183))
   have HOA:=Lh (Own.alloc HO.out (.cells #[.int .i64 (x1:Int),.int .i64 (x2:Int),.int .i64 (x3:Int)] 183))
   have hcases:(runBad ⟨x1,x2,x3⟩ (no+x1) nr most=true∧(nr<x1∨(x1≤nr∧0<x2∧x3<1)∨(x1≤nr∧0<x2∧1≤x3∧no+x1<x3)∨(x1≤nr∧x2=0∧x3≠0) ∨
    (x1≤nr∧x2=0∧x3=0∧most<no+x1)∨(x1≤nr∧0<x2∧1≤x3∧x3≤no+x1∧most<no+x1)∨(x1≤nr∧0<x2∧1≤x3∧x3≤no+x1∧no+x1≤most∧most-(no+x1)<x2))) ∨
    (runBad ⟨x1,x2,x3⟩ (no+x1) nr most=false∧x1≤nr∧no+x1+x2≤most∧((x2=0∧x3=0)∨(0<x2∧1≤x3∧x3≤no+x1))):=by
    clear HStep c0 c1 c2 hP5 HBA HOA
    unfold runBad
    simp only [Bool.or_eq_true,Bool.and_eq_true,decide_eq_true_eq,Bool.or_eq_false_iff,Bool.and_eq_false_iff,decide_eq_false_iff_not]
    omega
   rcases hcases with ⟨hbad,hc7⟩|⟨hgood,hx1,hx2,hc2⟩
   ·have HD:=Lh (HStep.out.trans (by rw [if_pos hbad];rfl):runL lits l most=none)
    clear hbad HStep hP5 HOA
    rcases hc7 with h|⟨h,h1,h2⟩|⟨h,h1,h2,h3⟩|⟨h,rfl,h2⟩|⟨h,rfl,rfl,h3⟩|⟨h,h1,h2,h3,h4⟩|⟨h,h1,h2,h3,h4,h5⟩
    all_goals go_wp2
    all_goals go_ret2
    all_goals exact decPost_bad HD.out (by omega) HBA.out
   ·have HD:=Lh (HStep.out.trans (by rw [if_neg (by rw [hgood];simp)]))
    clear hgood HStep
    have HT:=Lh (Bs.take x1 HR.out)
    have HTl:(rest.take x1).length=x1:=by rw [List.length_take,HL.out];omega
    have HTL:=Lh HTl
    have HC:=Lh (Bs.cut (c:=cr) HR.out (n:=x1) (by rw [HL.out];exact hx1) (by rw [HL.out];exact hcr))
    have HCl:=Lh (by rw [List.length_drop,HL.out]:(rest.drop x1).length=nr-x1)
    clear HTl
    generalize rest.take x1=tk at *
    generalize hbase:out++tk=bs at *
    have HBase:=Lh hbase
    clear hbase
    have hc3:((x2:Int)≤0∧((x2:Int)==0)=true∧((x3:Int) != 0)=false)∨(0<x2∧1≤x3∧x3≤no+x1):=by
     rcases hc2 with ⟨rfl,rfl⟩|h
     ·exact .inl ⟨by omega,rfl,rfl⟩
     ·exact .inr h
    have HC2:=Lh hc2
    clear hc2
    rcases hc3 with ⟨hz2,hz3,hz4⟩|⟨hz2,hz3,hz4⟩
    all_goals
     go_wp2_with (first|(at_builtin;refine wpList_append_rd rfl _ _ elemB rfl w.heap.size Ao no co (out.map u8v) rfl HOA.out Ar x1 cr (tk.map u8v) rfl ?a1 ?a2 (u8_one _) ?a3 ?a4 ?a5 ?_)|(with_reducible refine wpList_slice_hi ?g ?s ?h elemB ?ho Ar nr cr x1 ?hs ?hh ?hk ?_;(case ho=>exact rfl);(case g=>exact rfl);(case hs=>exact rfl);(case hh=>exact rfl);(case hk=>omega)))
     case a1=>exact HT.out.later HBA.out
     case a2=>exact HTL.out
     case a3=>omega
     case a4=>omega
     case a5=>have:=HBel.out.size;omega
     intro A' c' w2 hown2 hb2 hgr2 hat2
     have HO2:=Lh (by unfold OwnB;rw [←HBase.out,List.map_append];exact hown2:OwnB w2 w.heap.size A' (no+x1) c' bs)
     have HP2:=Lh (hP5.out.kept hgr2 (Own.ne_blk HOA.out hP5.out (by decide)))
     have HB2:=Lh (HBA.out.trans hb2)
     clear hown2 hb2 hgr2 hat2 HOA hP5 HBA c0 c1 c2
     generalize wr.heap.size=pb at *
     have p0:=HP2.out.cell 0
     have p1:=HP2.out.cell 1
     simp only [Zt,Zz,Zs] at p0 p1
     go_wp2_with (with_reducible refine wpList_slice_lo ?g ?s ?h elemB ?ho Ar nr cr x1 ?hs ?hh ?hk ?_;(case ho=>exact rfl);(case g=>exact rfl);(case hs=>simp [Act.eval]);(case hh=>simp [Act.eval]);(case hk=>omega))
     clear p0 p1
     go_loopg [8,96] x2 (fun gg s8 s96 wi=>∃ (j co':Nat) (Ao':OA),j≤x2∧x2-j≤gg∧s8=.slice Ao' (no+x1+j) co'∧s96=.int .i64 (j:Int)∧OwnB wi w.heap.size Ao' (no+x1+j) co' (copyL x3 j bs) ∧
      Blk wi pb 183 #[.int .i64 (x1:Int),.int .i64 (x2:Int),.int .i64 (x3:Int)]∧Below w.heap.size w wi)
     case atStart=>exact ⟨0,c',A',by omega,by omega,rfl,rfl,HO2.out,HP2.out,HB2.out⟩
     case round=>
      obtain ⟨j,co',Ao',hj,hgj,rfl,rfl,hown,hblk,hbel⟩:=hrel
      have HO3:=Lh hown
      have HP3:=Lh hblk
      have HB3:=Lh hbel
      clear hown hblk hbel
      by_cases hjx:j<x2
      ·first
       | (exfalso;omega)
       | skip
       all_goals
        have hz4':x3≤no+x1:=by omega
        have hz3':1≤x3:=by omega
        have p2:=HP3.out.cell 2
        simp only [Zt,Zz,Zs] at p2
        obtain ⟨gq,hA',hcv⟩:=OwnB.at_back HO3.out hz3' (by omega:x3≤no+x1+j)
        have HCS:=Lh (copyL_succ x3 j bs)
        generalize (copyL x3 j bs).getD ((copyL x3 j bs).length-x3) 0=u at *
        subst hA'
        go_wp2_with (at_builtin;go_loud (refine wpList_append_one rfl _ _ elemB rfl w.heap.size (some ⟨gq,0,none⟩) (no+x1+j) co' ((copyL x3 j bs).map u8v) wr (.int .u8 (u.toNat:Int)) rfl ?hs HO3.out ?hh ?d0 ?d1 ?d2 ?d3 ?_;(case hs=>simp [Act.eval]);(case hh=>simp [Act.eval]);(case d0=>exact rfl)))
        case d1=>omega
        case d2=>omega
        case d3=>exact HB3.out.size
        intro A3 c3 w3 hown3 hb3 hgr3 hat3
        have HO4:=Lh (by unfold OwnB;rw [HCS.out,List.map_append];exact hown3:OwnB w3 w.heap.size A3 (no+x1+j+1) c3 (copyL x3 (j+1) bs))
        have HP4:=Lh (HP3.out.kept hgr3 (Own.ne_blk HO3.out HP3.out (by decide)))
        have HB4:=Lh (HB3.out.trans hb3)
        clear hown3 hb3 hgr3 hat3 p2
        go_wp2
        go_roundg (x2-(j+1))
        case measure=>omega
        case rel=>exact ⟨j+1,c3,A3,by omega,by omega,rfl,by go_num,HO4.out,HP4.out,HB4.out⟩
      ·obtain rfl:j=x2:=by omega
       go_wp2
       go_roundg (n2-(k+1))
       case measure=>omega
       case rel=>exact ⟨k+1,no+x1+j,co',nr-x1,cr-x1,Ao',cutA Ar cr x1,copyL x3 j bs,rest.drop x1,by omega,by omega,rfl,rfl,by go_num,HO3.out,by omega,HC.out,HCl.out,by omega,by omega,by omega,HD.out,HB3.out⟩
  ·have hkk:k=n2:=by omega
   subst hkk
   have HD:=Lh (by rw [HRun.out,List.drop_of_length_le (by rw [HL2.out];exact Nat.le_refl _),runGo,runEnd,HOl.out,HL.out]:runL lits l most=if most-no<nr then none else some (out++rest))
   by_cases hbad:most-no<nr
   ·have HD2:=Lh (HD.out.trans (if_pos hbad))
    have hbad':(most:Int)-no<nr:=by omega
    clear hbad HD
    go_wp2
    go_ret2
    exact decPost_bad HD2.out (by omega) HBel.out
   ·have HD2:=Lh (HD.out.trans (if_neg hbad))
    have hbad':(nr:Int)≤(most:Int)-no:=by omega
    clear hbad HD
    go_wp2_with (at_builtin;go_loud (refine wpList_append_rd rfl _ _ elemB rfl w.heap.size Ao no co (out.map u8v) ?hs HO.out Ar nr cr (rest.map u8v) ?hh ?a1 ?a2 (u8_one _) ?a3 ?a4 ?a5 ?_;(case hs=>simp [Act.eval]);(case hh=>simp [Act.eval])))
    case a1=>exact HR.out.later HBel.out
    case a2=>rw [List.length_map];exact HL.out
    case a3=>omega
    case a4=>omega
    case a5=>exact HBel.out.size
    intro A' c' w2 hown2 hb2 hgr2 hat2
    have HO2:=Lh (by unfold OwnB;rw [List.map_append];exact hown2:OwnB w2 w.heap.size A' (no+nr) c' (out++rest))
    have HB2:=Lh (HBel.out.trans hb2)
    clear hown2 hb2 hgr2 hat2
    go_wp2
    go_ret2
    exact decPost_ok HD2.out (by rw [Zl,HOl.out,HL.out]) HO2.out HB2.out
end Go.Proofs.YtiihiocgbfafaaaGreat
