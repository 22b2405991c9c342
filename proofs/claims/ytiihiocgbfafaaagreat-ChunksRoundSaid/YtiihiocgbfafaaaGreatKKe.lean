/- J2 J3 J4 J5 J6 J7 J8 -/
import Derived.Test.YtiihiocgbfafaaaGreatKKb
import Derived.Test.YtiihiocgbfafaaaGreatKKc
import Derived.Deep.WholeRow
import Derived.StillTailTactics
set_option linter.unusedSimpArgs false
set_option linter.unusedVariables false
set_option maxHeartbeats 8000000
set_option maxRecDepth 100000
namespace Go.Proofs.YtiihiocgbfafaaaGreat
open Go.RowKit
theorem bytesClone (A:OA) (n c:Nat) (l:List UInt8) (w:World) (hl:l.length=n) (hr:Bs w A l) (hn:n≤1000000000) (hA:A=none→n=0∧c=0):
 Calls Tryz.prog 120 #[.slice A n c] w fun e w'=>∃ A' c',e=.returned (.slice A' n c')∧(A'=none→n=0∧c'=0)∧OwnB w' w.heap.size A' n c' l∧Below w.heap.size w w':=by
 have HL:=Lh hl
 have HR:=Lh hr
 clear hr hl
 have q1:∀ w:World,(binOp .eql 37 (.slice none 0 0) (.slice none 0 0)).run Tryz.prog w=.ok (.bool true) w:=fun _=>rfl
 have q2:∀ (w:World) (a:Addr),(binOp .eql 37 (.slice (some a) n c) (.slice none 0 0)).run Tryz.prog w=.ok (.bool false) w:=fun _ _=>rfl
 cases A with
 | none=>
   obtain ⟨rfl,rfl⟩:=hA rfl
   obtain rfl:l=[]:=List.eq_nil_of_length_eq_zero HL.out
   go_enter Tryz.func120,Tryz.ntmps120
   go_wp2
   go_ret
   refine ⟨none,0,rfl,?_,OwnB.nil _ _,Below.refl _ _⟩
   simp
 | some a=>
   clear hA
   go_enter Tryz.func120,Tryz.ntmps120
   go_wp2_with (at_builtin;refine wpList_append_rd rfl _ _ elemB rfl w.heap.size (some ⟨w.heap.size,0,none⟩) 0 0 [] rfl (Own.fresh w 5 [] 0 rfl) (some a) n c (l.map u8v) rfl (HR.out.alloc _) ?c1 (u8_one l) ?c2 ?c3 ?c4 ?_)
   case c1=>simpa using HL.out
   case c2=>omega
   case c3=>omega
   case c4=>simp
   intro A2 c2 w2 hown hb _ _
   have HO2:=Lh hown
   have HB2:=Lh hb
   clear hown hb
   go_wp2
   go_ret
   have h:OwnB w2 w.heap.size A2 n c2 l:=HO2.out
   refine ⟨A2,c2,rfl,fun e=>?_,h,((Below.refl _ _).alloc nL _).trans (HB2.out.mono (by simp))⟩
   rcases Own.form h with ⟨-,h0,h1⟩|⟨g,h⟩
   ·exact ⟨h0,h1.1⟩
   ·rw [e] at h;cases h.1
theorem slicesClone (A:OA) (n c:Nat) (l:List UInt8) (w:World) (hl:l.length=n) (hr:Bs w A l) (hn:n≤1000000000) (hA:A=none→n=0∧c=0):
 Calls Tryz.prog 58 #[.slice A n c] w fun e w'=>∃ A' c',e=.returned (.slice A' n c')∧(A'=none→n=0∧c'=0)∧OwnB w' w.heap.size A' n c' l∧Below w.heap.size w w':=by
 have HL:=Lh hl
 have HR:=Lh hr
 clear hr hl
 have q1:∀ w:World,(binOp .eql 37 (.slice none 0 0) (.slice none 0 0)).run Tryz.prog w=.ok (.bool true) w:=fun _=>rfl
 have q2:∀ (w:World) (a:Addr),(binOp .eql 37 (.slice (some a) n c) (.slice none 0 0)).run Tryz.prog w=.ok (.bool false) w:=fun _ _=>rfl
 cases A with
 | none=>
   obtain ⟨rfl,rfl⟩:=hA rfl
   obtain rfl:l=[]:=List.eq_nil_of_length_eq_zero HL.out
   go_enter Tryz.func58,Tryz.ntmps58
   go_wp2
   go_ret
   refine ⟨none,0,rfl,?_,OwnB.nil _ _,Below.refl _ _⟩
   simp
 | some a=>
   clear hA
   go_enter Tryz.func58,Tryz.ntmps58
   go_wp2_with (at_builtin;refine wpList_append_rd rfl _ _ elemB rfl w.heap.size (some ⟨w.heap.size,0,none⟩) 0 0 [] rfl (Own.fresh w 5 [] 0 rfl) (some a) n c (l.map u8v) rfl (HR.out.alloc _) ?c1 (u8_one l) ?c2 ?c3 ?c4 ?_)
   case c1=>simpa using HL.out
   case c2=>omega
   case c3=>omega
   case c4=>simp
   intro A2 c2 w2 hown hb _ _
   have HO2:=Lh hown
   have HB2:=Lh hb
   clear hown hb
   go_wp2
   go_ret
   have h:OwnB w2 w.heap.size A2 n c2 l:=HO2.out
   refine ⟨A2,c2,rfl,fun e=>?_,h,((Below.refl _ _).alloc nL _).trans (HB2.out.mono (by simp))⟩
   rcases Own.form h with ⟨-,h0,h1⟩|⟨g,h⟩
   ·exact ⟨h0,h1.1⟩
   ·rw [e] at h;cases h.1
def blkOf (s:List UInt8):Bk:=⟨(s.getD 0 0).toNat,(s.drop 8).take (s.getD 1 0).toNat⟩
instance (b:Bk):Decidable b.ok:=by unfold Bk.ok;infer_instance
def getL (n:Nat) (s:List UInt8):Option Bk:=if (blkOf s).ok∧sectL n (blkOf s)=s then some (blkOf s) else none
def getPost (n:Nat) (s:List UInt8) (w:World) (e:Ending) (w':World):Prop:=
 Below w.heap.size w w'∧match getL n s with
  | some b=>∃ A m c',e=.returned (.tuple #[.agg #[.int .i64 (b.kind:Int),.slice A m c'],.int .i64 0])∧b.body.length=m∧(A=none→m=0∧c'=0)∧OwnB w' w.heap.size A m c' b.body
  | none=>∃ E:Int,E≠0∧e=.returned (.tuple #[.agg #[.int .i64 0,.slice none 0 0],.int .i64 E])
theorem getPost_bad {n:Nat} {s:List UInt8} {w:World} {e:Ending} {w':World} (h:getL n s=none) (hb:Below w.heap.size w w') (E:Int) (hE:E≠0) (he:e=.returned (.tuple #[.agg #[.int .i64 0,.slice none 0 0],.int .i64 E])):getPost n s w e w':=by
 unfold getPost
 rw [h]
 exact ⟨hb,E,hE,he⟩
theorem Rd.drop2 {w:World} {g o:Nat} {xs:List Value} (h:Rd w (some ⟨g,o,none⟩) xs) (k:Nat):Rd w (some ⟨g,o+k,none⟩) (xs.drop k):=fun h0=>by
 have hk:k<xs.length:=by rw [List.length_drop] at h0;omega
 obtain ⟨b,o',e,hc⟩:=h (by omega)
 cases e
 refine ⟨g,o+k,rfl,fun j hj=>?_⟩
 rw [List.length_drop] at hj
 rw [Nat.add_assoc,hc (k+j) (by omega),List.getElem?_drop]
theorem Bs.drop {w:World} {g o:Nat} {l:List UInt8} (h:Bs w (some ⟨g,o,none⟩) l) (k:Nat):Bs w (some ⟨g,o+k,none⟩) (l.drop k):=by
 have:=Rd.drop2 h k
 unfold Bs
 rwa [List.map_drop]
theorem Bs.cellD {w:World} {g o:Nat} {l:List UInt8} (h:Bs w (some ⟨g,o,none⟩) l) {i:Nat} (hi:i<l.length):w.cell? ⟨g,o+i,none⟩=some (.int .u8 ((l.getD i 0).toNat:Int)):=by
 obtain ⟨b,o',e,hc⟩:=h (by rw [List.length_map];omega)
 cases e
 rw [hc i (by rw [List.length_map];exact hi)]
 simp [u8v,List.getD,Zg hi]
theorem cell_set2 (w:World) (g o b i j:Nat) (u v:Value) (h:g≠b):((w.setCell ⟨b,i,none⟩ u).setCell ⟨b,j,none⟩ v).cell? ⟨g,o,none⟩=w.cell? ⟨g,o,none⟩:=
 cell_same ((Below.heap_setCell _ _ _ _ (fun e=>h (by simpa using e))).trans (Below.heap_setCell _ _ _ _ (fun e=>h (by simpa using e))))
theorem results_row_tmp {P:Program} {fn:Func} {p u:Tmp} {ty:TypeId} (h:fn.results=#[.cell p ty,.tmp u]) (tmps:Array Value) (w:World) (g:Nat) (t:TypeId) (cs:Array Value) (fr:Nat × Nat) (d:TypeDesc)
 (hp:tmps.getD p undef=.pointer (some ⟨g,0,none⟩)) (hg:w.heap[g]? = some (.cells cs t fr))
 (hu:P.underlying ty=some d) (hd:(match d with|.struct _|.array _ _=>true|_=>false)=true) (hi:(P.info? ty).map (·.size)=some cs.size):
 (results fn tmps).run P w=.ok (.tuple #[.agg cs,tmps.getD u undef]) w:=by
 have hp':tmps[p]?.getD undef=.pointer (some ⟨g,0,none⟩):=by simpa using hp
 simp [results,h,hp',asAddr,run_loadVar_row w g t ty cs fr d hg hu hd hi,Result.andThen]
theorem blockGet (n g:Nat) (s:List UInt8) (w:World) (hn:n≤65535) (hl:s.length=256) (hr:Bs w (some ⟨g,0,none⟩) s):
 Calls Tryz.prog 90 #[.int .i64 (n:Int),.slice (some ⟨g,0,none⟩) 256 256] w (getPost n s w):=by
 have HR:=Lh hr
 have HL:=Lh hl
 have Q1:=Lh (by have:=hr.drop 252;simpa using this:Bs w (some ⟨g,252,none⟩) (s.drop 252))
 have Q2:=Lh (hr.take 252)
 have Q3:=Lh (by have:=(hr.drop 8).take (s.getD 1 0).toNat;simpa using this:Bs w (some ⟨g,8,none⟩) ((s.drop 8).take (s.getD 1 0).toNat))
 have HW:=Lh (Blk.new w 39 #[.int .i64 0,.slice none 0 0])
 have HB:=Lh ((Below.refl w.heap.size w).alloc nL (.cells #[.int .i64 0,.slice none 0 0] 39))
 have HSum:=Lh (fun w1 h=>blockSum (some ⟨g,0,none⟩) 252 256 (s.take 252) w1 (by rw [List.length_take,hl];rfl) h (by omega))
 have HEq:=Lh (fun w1 A m c l2 h1 h2 h3=>bytesEqual (some ⟨g,252,none⟩) A 4 4 m c (s.drop 252) l2 w1 (by rw [List.length_drop,hl]) h1 h2 h3)
 obtain ⟨R,hR⟩:∃ R,getPost n s w=R:=⟨_,rfl⟩
 rw [hR]
 have HRe:=Lh hR
 clear hr hl hR
 go_enter Tryz.func90,Tryz.ntmps90
 go_wp2_with fail
 obtain ⟨wA,hwA⟩:∃ x,w.alloc (.cells #[.int .i64 0,.slice none 0 0] 39)=x:=⟨_,rfl⟩
 rw [hwA] at HW HB ⊢
 have hsA:w.heap.size<wA.heap.size:=Blk.lt HW.out
 have P1:=Lh (show Bs wA.drew (some ⟨g,252,none⟩) (s.drop 252) from Q1.out.later HB.out.drew)
 have P2:=Lh (show Bs wA.drew (some ⟨g,0,none⟩) (s.take 252) from Q2.out.later HB.out.drew)
 clear hwA
 go_region_held3 (fun _=>True) (trivial) (first|(go_at_call 55;refine (HSum.out wA.drew P2.out).mono ?_;rintro e w1 ⟨A1,c1,rfl,hown1,hb1⟩)|(go_at_call 39;refine (HEq.out w1 A1 4 c1 (sumOf (s.take 252)) rfl (Rd.later P1.out hb1) (OwnB.bs hown1)).mono ?_;rintro e w2 ⟨rfl,rfl⟩))
 have HB2:=Lh (HB.out.trans (((Below.refl _ wA).drew.trans hb1).mono (Nat.le_of_lt hsA)))
 have HW2:=Lh (Blk.later HW.out ((Below.refl _ wA).drew.trans hb1))
 have c0:=HW2.out.cell 0
 have c1':=HW2.out.cell 1
 simp only [Zt,Zz,Zs] at c0 c1'
 clear hown1 hb1 HB HW P1 P2 HSum HEq Q1 Q2
 have hs2:w.heap.size<w2.heap.size:=Blk.lt HW2.out
 obtain ⟨q,hq⟩:∃ q,(List.drop 252 s==sumOf (List.take 252 s))=q:=⟨_,rfl⟩
 rw [hq]
 have HQ:=Lh hq
 clear hq
 have HI:=Lh (by kernel_rfl:(Tryz.prog.info? 39).map (·.size)=some 2)
 have f0:=HW2.out.frozen 0
 have f1:=HW2.out.frozen 1
 have HNo:=Lh (fun (e:Ending) (w':World) (h:getL n s=none) (hb:Below w.heap.size w w') (E:Int) (hE:E≠0) (he:e=.returned (.tuple #[.agg #[.int .i64 0,.slice none 0 0],.int .i64 E]))=>(by rw [←HRe.out];exact getPost_bad h hb E hE he:R e w'))
 have HBad:=Lh (fun (w3:World) (h:Blk w3 w.heap.size 39 #[.int .i64 0,.slice none 0 0])=>Blk.set (Blk.set h 0 (.int .i64 0)) 1 (.slice none 0 0))
 cases q with
 | false=>
   have hno:getL n s=none:=by
    unfold getL
    rw [if_neg]
    rintro ⟨hok,he⟩
    have h1:=HQ.out
    rw [beq_eq_false_iff_ne] at h1
    apply h1
    have hp:=sectP_len (n:=n) hok
    rw [←he]
    unfold sectL
    rw [List.drop_append_of_le_length (by omega),List.drop_of_length_le (by omega),List.nil_append,List.take_append_of_le_length (by omega),List.take_of_length_le (by omega)]
   have HN:=Lh hno
   clear hno
   go_wp2
   refine bodyPost_ret (results_row_tmp rfl _ _ w.heap.size 39 _ (0,0) _ rfl (HBad.out _ HW2.out) Tryz.underlying39 rfl HI.out) rfl (HNo.out _ _ HN.out ?_ 6 (by decide) rfl)
   exact (HB2.out.setCell nL _).setCell nL _
 | true=>
   have hsum:=HQ.out
   have hR2:=HR.out.later HB2.out
   have d0:=hR2.cellD (i:=0) (by rw [HL.out];omega)
   have d1:=hR2.cellD (i:=1) (by rw [HL.out];omega)
   rw [Nat.zero_add] at d0 d1
   have hbd:(blkOf s)=⟨(s.getD 0 0).toNat,(s.drop 8).take (s.getD 1 0).toNat⟩:=rfl
   have hget:getL n s=if (blkOf s).ok∧sectL n (blkOf s)=s then some (blkOf s) else none:=rfl
   rw [hbd] at hget
   have hm256:(s.getD 1 0).toNat<256:=(s.getD 1 0).toNat_lt
   have hk256:(s.getD 0 0).toNat<256:=(s.getD 0 0).toNat_lt
   have Q3w:=Lh (Q3.out.later HB2.out)
   have HR2:=Lh hR2
   generalize (s.getD 1 0).toNat=m at *
   generalize (s.getD 0 0).toNat=k at *
   have hbl:((s.drop 8).take m).length=min m 248:=by rw [List.length_take,List.length_drop,HL.out]
   generalize (s.drop 8).take m=body at *
   have Hbl:=Lh hbl
   have Hget:=Lh hget
   clear hR2 hbd hget hbl Q3 hsum HQ
   by_cases h240:240<m
   ·have hi240:(240:Int)<m:=by omega
    have HN:=Lh (by
     rw [Hget.out,if_neg]
     rintro ⟨⟨-,-,h⟩,-⟩
     have h2:=Hbl.out
     simp only at h
     omega:getL n s=none)
    go_wp2
    refine bodyPost_ret (results_row_tmp rfl _ _ w.heap.size 39 _ (0,0) _ rfl (HBad.out _ HW2.out) Tryz.underlying39 rfl HI.out) rfl (HNo.out _ _ HN.out ?_ 7 (by decide) rfl)
    exact (HB2.out.setCell nL _).setCell nL _
   ·have hi240:¬(240:Int)<m:=by omega
    have hbm:body.length=m:=by have:=Hbl.out;omega
    have HBm:=Lh hbm
    have HCl:=Lh (fun w1 h=>bytesClone (some ⟨g,8,none⟩) m 248 body w1 hbm h (by omega) (fun h=>by cases h))
    have e1:IntKind.i64.wrap (8+(m:Int))=8+m:=wrapi64 (by omega) (by omega)
    have e3:(8+(m:Int)).toNat-8=m:=by omega
    have e4:IntKind.i64.wrap (k:Int)=k:=wrapi64 (by omega) (by omega)
    have i1:(8:Int)≤8+m:=by omega
    have i2:(8:Int)+m≤256:=by omega
    have Q3d:=Lh (show Bs w2.drew (some ⟨g,8,none⟩) body from Q3w.out)
    have hgl:=World.block_lt_of_cell? w2 _ d0
    simp only at hgl
    clear hbm Hbl
    go_wp2_with fail
    obtain ⟨wz,hwz⟩:∃ x,w2.alloc (.cells #[.int .i64 0,.slice none 0 0] 39)=x:=⟨_,rfl⟩
    have HBz:=Lh (by rw [←hwz];exact (Below.refl _ w2).alloc nL _:Below w2.heap.size w2 wz)
    have Q3a:=Lh (show Bs wz.drew (some ⟨g,8,none⟩) body from Bs.later Q3w.out HBz.out.drew)
    have HZa:=Lh (by rw [←hwz];exact Blk.new w2 39 _:Blk wz w2.heap.size 39 #[.int .i64 0,.slice none 0 0])
    have hga:g<wz.drew.heap.size:=lT hgl (HBz.out.drew).size
    have d0a:wz.drew.cell? ⟨g,0,none⟩=some (.int .u8 (k:Int)):=(HBz.out.drew.cell hgl).trans d0
    have hgne:g≠w2.heap.size:=by omega
    go_region_held3 (fun w'=>w'.cell? ⟨g,0,none⟩=some (.int .u8 (k:Int))) (first|go_keep|(exact d0a)|(exact (hb3.cell (by exact hgl)).trans d0)|(exact (World.cell?_alloc_lt _ _ _ (lT hgl hb3.size)).trans ((hb3.cell (by exact hgl)).trans d0))|(exact (hb3.cell (by exact hga)).trans d0a)|(exact (cell_set2 _ _ _ _ _ _ _ _ hgne).trans ((hb3.cell (by exact hga)).trans d0a))) (first|(go_at_call 120;refine (HCl.out w2.drew Q3d.out).mono ?_;rintro e w3 ⟨A3,c3,rfl,hA3,hown3,hb3⟩)|(go_at_call 120;refine (HCl.out wz.drew Q3a.out).mono ?_;rintro e w3 ⟨A3,c3,rfl,hA3,hown3,hb3⟩;have hZ3:=Blk.later (show Blk wz.drew w2.heap.size 39 #[.int .i64 0,.slice none 0 0] from HZa.out) hb3;have z0:=hZ3.frozen 0;have z1:=hZ3.frozen 1;have y0:=hZ3.cell 0;have y1:=hZ3.cell 1;simp only [Zt,Zz,Zs] at y0 y1))
    ·have hB3:Below w2.heap.size w2 w3:=(Below.refl _ w2).drew.trans hb3
     obtain ⟨w4,hw4⟩:∃ x,w3.alloc (.cells #[.int .i64 (k:Int),.slice A3 m c3] 39)=x:=⟨_,rfl⟩
     have H7:=Lh (by rw [←hw4];exact Blk.new w3 39 _:Blk w4 w3.heap.size 39 #[.int .i64 (k:Int),.slice A3 m c3])
     have hB4:Below w2.heap.size w2 w4:=by rw [←hw4];exact hB3.alloc hB3.size _
     have HO4:=Lh (by rw [←hw4];exact Own.alloc hown3 _:OwnB w4 w2.heap.size A3 m c3 body)
     have h72:w2.heap.size≤w3.heap.size:=hB3.size
     rw [hw4]
     generalize w3.heap.size=g7 at *
     clear hw4 hB3 hown3 hb3
     have HB4:=Lh (HB2.out.trans (hB4.mono (Nat.le_of_lt hs2)))
     have HW4:=Lh (Blk.later HW2.out hB4)
     have HR4:=Lh (HR2.out.later hB4)
     clear hB4 HB2 HW2 HR2 Q3w Q3d HBz Q3a HZa hga d0a hgne d0 d1 c0 c1' f0 f1 hwz HCl
     have hWl:w.heap.size<w4.heap.size:=Blk.lt HW4.out
     have h7l:g7<w4.heap.size:=Blk.lt H7.out
     have p0:=H7.out.cell 0
     have p1:=H7.out.cell 1
     simp only [Zt,Zz,Zs] at p0 p1
     by_cases hk14:1≤k∧k≤4
     ·have hok:(⟨k,body⟩:Bk).ok:=⟨hk14.1,hk14.2,by simp only;rw [HBm.out];omega⟩
      have HP:=Lh (blockPut n ⟨k,body⟩ A3 m c3 w4 hn hok HBm.out (OwnB.bs HO4.out))
      have HSl:=Lh (sectL_len (n:=n) hok)
      have hgo:getL n s=if sectL n ⟨k,body⟩=s then some ⟨k,body⟩ else none:=by
       rw [Hget.out]
       by_cases h:sectL n ⟨k,body⟩=s
       ·rw [if_pos ⟨hok,h⟩,if_pos h]
       ·rw [if_neg (fun x=>h x.2),if_neg h]
      have Hgo:=Lh hgo
      obtain ⟨SL,hSL⟩:∃ L,sectL n ⟨k,body⟩=L:=⟨_,rfl⟩
      rw [hSL] at HP HSl Hgo
      clear hk14 hok hSL hgo Hget
      go_wp2_with fail
      refine HP.out.mono ?_
      rintro e w5 ⟨g5,rfl,hg5a,hg5b,hbs5,hb5⟩
      have HE:=Lh (bytesEqual (some ⟨g5,0,none⟩) (some ⟨g,0,none⟩) 256 256 256 256 SL s w5 HSl.out HL.out hbs5 (HR4.out.later hb5))
      have HB5:=Lh (HB4.out.trans (hb5.mono (Nat.le_of_lt hWl)))
      have HO5:=Lh (Own.later HO4.out hb5)
      have HW5:=Lh (Blk.later HW4.out hb5)
      have H75:=Lh (Blk.later H7.out hb5)
      clear hbs5 hb5 hg5a hg5b p0 p1 HP
      have c0:=HW5.out.cell 0
      have c1':=HW5.out.cell 1
      have f0:=HW5.out.frozen 0
      have f1:=HW5.out.frozen 1
      have p0:=H75.out.cell 0
      have p1:=H75.out.cell 1
      simp only [Zt,Zz,Zs] at c0 c1' p0 p1
      go_wp2_with fail
      refine HE.out.mono ?_
      rintro e w6 ⟨rfl,rfl⟩
      cases hq:(SL==s) with
      | false=>
        have HN:=Lh (by rw [Hgo.out,if_neg (beq_eq_false_iff_ne.1 hq)]:getL n s=none)
        clear hq
        go_wp2
        refine bodyPost_ret (results_row_tmp rfl _ _ w.heap.size 39 _ (0,0) _ rfl (HBad.out _ HW5.out) Tryz.underlying39 rfl HI.out) rfl (HNo.out _ _ HN.out ?_ 7 (by decide) rfl)
        exact (HB5.out.setCell nL _).setCell nL _
      | true=>
        have HN:=Lh (by rw [Hgo.out,if_pos (beq_iff_eq.1 hq)]:getL n s=some ⟨k,body⟩)
        clear hq
        go_wp2
        refine bodyPost_ret (results_row_tmp rfl _ _ w.heap.size 39 _ (0,0) _ rfl (Blk.set (Blk.set HW5.out 0 (.int .i64 (k:Int))) 1 (.slice A3 m c3)) Tryz.underlying39 rfl HI.out) rfl ?_
        rw [←HRe.out]
        unfold getPost
        rw [HN.out]
        have hne:bk A3≠some w.heap.size:=fun e=>by have:=(Own.lt HO5.out e).1;omega
        exact ⟨(HB5.out.setCell nL _).setCell nL _,A3,m,c3,rfl,HBm.out,hA3,Own.mono (Own.setCell (Own.setCell HO5.out (p:=⟨w.heap.size,0,none⟩) hne _) (p:=⟨w.heap.size,1,none⟩) hne _) (Nat.le_of_lt hs2)⟩
     ·have HP:=Lh (blockPut_bad n (k:Int) A3 m c3 w4 hn (by omega))
      have HN:=Lh (by rw [Hget.out,if_neg (fun x=>hk14 ⟨x.1.1,x.1.2.1⟩)]:getL n s=none)
      clear hk14 Hget
      go_wp2_with fail
      refine HP.out.mono ?_
      rintro e w5 ⟨rfl,hb5⟩
      have HB5:=Lh (HB4.out.trans (hb5.mono (Nat.le_of_lt hWl)))
      have HW5:=Lh (Blk.later HW4.out hb5)
      clear hb5 p0 p1 HP
      have c0:=HW5.out.cell 0
      have c1':=HW5.out.cell 1
      have f0:=HW5.out.frozen 0
      have f1:=HW5.out.frozen 1
      simp only [Zt,Zz,Zs] at c0 c1'
      go_wp2
      refine bodyPost_ret (results_row_tmp rfl _ _ w.heap.size 39 _ (0,0) _ rfl (HBad.out _ HW5.out) Tryz.underlying39 rfl HI.out) rfl (HNo.out _ _ HN.out ?_ 7 (by decide) rfl)
      exact (HB5.out.setCell nL _).setCell nL _
    ·have hB3:Below w2.heap.size w2 w3:=HBz.out.trans ((Below.refl _ wz).drew.trans hb3 |>.mono HBz.out.size)
     obtain ⟨w4,hw4⟩:∃ x,(w3.setCell ⟨w2.heap.size,0,none⟩ (.int .i64 (k:Int))).setCell ⟨w2.heap.size,1,none⟩ (.slice A3 m c3)=x:=⟨_,rfl⟩
     have H7:=Lh (by rw [←hw4];exact Blk.set (Blk.set hZ3 0 (.int .i64 (k:Int))) 1 (.slice A3 m c3):Blk w4 w2.heap.size 39 #[.int .i64 (k:Int),.slice A3 m c3])
     have hB4:Below w2.heap.size w2 w4:=by rw [←hw4];exact (hB3.setCell nL _).setCell nL _
     have hzl:w2.heap.size<wz.drew.heap.size:=Blk.lt HZa.out
     have hne3:bk A3≠some w2.heap.size:=fun e=>by have:=(Own.lt hown3 e).1;omega
     have HO4:=Lh (by rw [←hw4];exact Own.mono (Own.setCell (Own.setCell hown3 (p:=⟨w2.heap.size,0,none⟩) hne3 _) (p:=⟨w2.heap.size,1,none⟩) hne3 _) (Nat.le_of_lt hzl):OwnB w4 w2.heap.size A3 m c3 body)
     have h72:w2.heap.size≤w2.heap.size:=Nat.le_refl _
     rw [hw4]
     obtain ⟨g7,hg7⟩:∃ g7,g7=w2.heap.size:=⟨_,rfl⟩
     rw [←hg7] at H7 h72 ⊢
     have hg7h:=Lh hg7
     clear hg7
     clear hw4 hB3 hown3 hb3 hZ3 z0 z1 y0 y1 hzl hne3
     have HB4:=Lh (HB2.out.trans (hB4.mono (Nat.le_of_lt hs2)))
     have HW4:=Lh (Blk.later HW2.out hB4)
     have HR4:=Lh (HR2.out.later hB4)
     clear hB4 HB2 HW2 HR2 Q3w Q3d HBz Q3a HZa hga d0a hgne d0 d1 c0 c1' f0 f1 hwz HCl
     have hWl:w.heap.size<w4.heap.size:=Blk.lt HW4.out
     have h7l:g7<w4.heap.size:=Blk.lt H7.out
     have p0:=H7.out.cell 0
     have p1:=H7.out.cell 1
     simp only [Zt,Zz,Zs] at p0 p1
     by_cases hk14:1≤k∧k≤4
     ·have hok:(⟨k,body⟩:Bk).ok:=⟨hk14.1,hk14.2,by simp only;rw [HBm.out];omega⟩
      have HP:=Lh (blockPut n ⟨k,body⟩ A3 m c3 w4 hn hok HBm.out (OwnB.bs HO4.out))
      have HSl:=Lh (sectL_len (n:=n) hok)
      have hgo:getL n s=if sectL n ⟨k,body⟩=s then some ⟨k,body⟩ else none:=by
       rw [Hget.out]
       by_cases h:sectL n ⟨k,body⟩=s
       ·rw [if_pos ⟨hok,h⟩,if_pos h]
       ·rw [if_neg (fun x=>h x.2),if_neg h]
      have Hgo:=Lh hgo
      obtain ⟨SL,hSL⟩:∃ L,sectL n ⟨k,body⟩=L:=⟨_,rfl⟩
      rw [hSL] at HP HSl Hgo
      clear hk14 hok hSL hgo Hget
      go_wp2_with fail
      refine HP.out.mono ?_
      rintro e w5 ⟨g5,rfl,hg5a,hg5b,hbs5,hb5⟩
      have HE:=Lh (bytesEqual (some ⟨g5,0,none⟩) (some ⟨g,0,none⟩) 256 256 256 256 SL s w5 HSl.out HL.out hbs5 (HR4.out.later hb5))
      have HB5:=Lh (HB4.out.trans (hb5.mono (Nat.le_of_lt hWl)))
      have HO5:=Lh (Own.later HO4.out hb5)
      have HW5:=Lh (Blk.later HW4.out hb5)
      have H75:=Lh (Blk.later H7.out hb5)
      clear hbs5 hb5 hg5a hg5b p0 p1 HP
      have c0:=HW5.out.cell 0
      have c1':=HW5.out.cell 1
      have f0:=HW5.out.frozen 0
      have f1:=HW5.out.frozen 1
      have p0:=H75.out.cell 0
      have p1:=H75.out.cell 1
      simp only [Zt,Zz,Zs] at c0 c1' p0 p1
      go_wp2_with fail
      refine HE.out.mono ?_
      rintro e w6 ⟨rfl,rfl⟩
      cases hq:(SL==s) with
      | false=>
        have HN:=Lh (by rw [Hgo.out,if_neg (beq_eq_false_iff_ne.1 hq)]:getL n s=none)
        clear hq
        go_wp2
        refine bodyPost_ret (results_row_tmp rfl _ _ w.heap.size 39 _ (0,0) _ rfl (HBad.out _ HW5.out) Tryz.underlying39 rfl HI.out) rfl (HNo.out _ _ HN.out ?_ 7 (by decide) rfl)
        exact (HB5.out.setCell nL _).setCell nL _
      | true=>
        have HN:=Lh (by rw [Hgo.out,if_pos (beq_iff_eq.1 hq)]:getL n s=some ⟨k,body⟩)
        clear hq
        go_wp2
        refine bodyPost_ret (results_row_tmp rfl _ _ w.heap.size 39 _ (0,0) _ rfl (Blk.set (Blk.set HW5.out 0 (.int .i64 (k:Int))) 1 (.slice A3 m c3)) Tryz.underlying39 rfl HI.out) rfl ?_
        rw [←HRe.out]
        unfold getPost
        rw [HN.out]
        have hne:bk A3≠some w.heap.size:=fun e=>by have:=(Own.lt HO5.out e).1;omega
        exact ⟨(HB5.out.setCell nL _).setCell nL _,A3,m,c3,rfl,HBm.out,hA3,Own.mono (Own.setCell (Own.setCell HO5.out (p:=⟨w.heap.size,0,none⟩) hne _) (p:=⟨w.heap.size,1,none⟩) hne _) (Nat.le_of_lt hs2)⟩
     ·have HP:=Lh (blockPut_bad n (k:Int) A3 m c3 w4 hn (by omega))
      have HN:=Lh (by rw [Hget.out,if_neg (fun x=>hk14 ⟨x.1.1,x.1.2.1⟩)]:getL n s=none)
      clear hk14 Hget
      go_wp2_with fail
      refine HP.out.mono ?_
      rintro e w5 ⟨rfl,hb5⟩
      have HB5:=Lh (HB4.out.trans (hb5.mono (Nat.le_of_lt hWl)))
      have HW5:=Lh (Blk.later HW4.out hb5)
      clear hb5 p0 p1 HP
      have c0:=HW5.out.cell 0
      have c1':=HW5.out.cell 1
      have f0:=HW5.out.frozen 0
      have f1:=HW5.out.frozen 1
      simp only [Zt,Zz,Zs] at c0 c1'
      go_wp2
      refine bodyPost_ret (results_row_tmp rfl _ _ w.heap.size 39 _ (0,0) _ rfl (HBad.out _ HW5.out) Tryz.underlying39 rfl HI.out) rfl (HNo.out _ _ HN.out ?_ 7 (by decide) rfl)
      exact (HB5.out.setCell nL _).setCell nL _
open Go.Maps
structure Sl where
 p:OA
 n:Nat
 c:Nat
def Sl.v (s:Sl):Value:=.slice s.p s.n s.c
theorem Sl.inj:∀ a b:Sl,a.v=b.v→a=b:=fun a b h=>by
 cases a;cases b
 simp only [Sl.v,Value.slice.injEq] at h
 obtain ⟨rfl,rfl,rfl⟩:=h;rfl
def pad256 (l:List UInt8):List UInt8:=(l++List.replicate 256 0).take 256
theorem pad256_len (l:List UInt8):(pad256 l).length=256:=by
 unfold pad256
 rw [List.length_take,Zl,List.length_replicate];omega
theorem pad256_eq {l:List UInt8} (h:l.length=256):pad256 l=l:=by
 unfold pad256
 rw [List.take_append_of_le_length (by omega),List.take_of_length_le (by omega)]
def SecT:RowT (List UInt8):={
 st:=117
 e:=159
 k:=256
 bytes:=256
 z:=.agg ((List.replicate 256 (0:UInt8)).map u8v).toArray
 hu:=Tryz.underlying117
 hi:=by kernel_rfl
 hz:=by kernel_rfl
 hk:=by decide
 hb:=by decide
 cl l:=(pad256 l).map u8v
 hl l:=by rw [List.length_map,pad256_len]
 h1 l:=u8_one _ }
def VerT:MapT Nat Sl:=IntT 118 117 Tryz.underlying118 Sl.v Sl.inj ⟨none,0,0⟩ (fun w=>Tryz.zeroValue117 w)
structure Dsk where
 g:Nat
 gL:Nat
 gV:Nat
 N:Nat
 nv:Nat
 lies:Nat→List UInt8
 ver:Nat→Option Sl
 vl:Nat→List (List UInt8)
def Dsk.sec (d:Dsk) (n:Nat):List UInt8:=((d.vl n).getLast?).getD (d.lies n)
structure Dsk.At (d:Dsk) (w:World):Prop where
 blk:Blk w d.g 120 #[.slice (some ⟨d.gL,0,none⟩) d.N d.N,.map (some d.gV),.bool false,.int .i64 0]
 hN:d.N≤4096
 lies:∀ n,n<d.N→w.rangeAt d.gL (n*256) ((d.lies n).map u8v)∧(d.lies n).length=256
 gL:d.gL<w.heap.size
 ver:VerT.At w d.gV d.nv d.ver
 dom:∀ n,d.N≤n→d.ver n=none
 emp:∀ n,d.ver n=none→d.vl n=[]
 own:∀ n s,d.ver n=some s→SecT.Own w 0 s.p s.n s.c (d.vl n)∧d.vl n≠[]
 l256:∀ n x,x∈d.vl n→x.length=256
 a1:d.g≠d.gL
 a2:d.gV≠d.gL
 a3:d.g≠d.gV
 a4:∀ n s,d.ver n=some s→bk s.p≠some d.gL∧bk s.p≠some d.g∧bk s.p≠some d.gV
 a5:∀ n n' s s',d.ver n=some s→d.ver n'=some s'→n≠n'→bk s.p≠bk s'.p
def Dsk.fp (d:Dsk):Fp:=fun b=>b=d.g∨b=d.gL∨b=d.gV∨∃ n s,d.ver n=some s∧bk s.p=some b
theorem rangeAt_same {w w':World} {b o:Nat} {cs:List Value} (h:w.rangeAt b o cs) (hb:w'.heap[b]? = w.heap[b]?):w'.rangeAt b o cs:=fun j v hv=>(cell_same hb).trans (h j v hv)
theorem Dsk.At.in_ {d:Dsk} {w:World} (h:d.At w):d.fp.In w:=by
 rintro b (rfl|rfl|rfl|⟨n,s,hs,hb⟩)
 ·exact h.blk.lt
 ·exact h.gL
 ·exact h.ver.lt
 ·exact ((h.own n s hs).1.lt hb).2
theorem Dsk.At.same {d:Dsk} {w w':World} (h:d.At w) (hb:∀ b,d.fp b→w'.heap[b]? = w.heap[b]?) (hsz:w.heap.size≤w'.heap.size):d.At w':={
 blk:=(hb d.g (.inl rfl)).trans h.blk
 hN:=h.hN
 lies n hn:=⟨rangeAt_same (h.lies n hn).1 (hb d.gL (.inr (.inl rfl))),(h.lies n hn).2⟩
 gL:=lT h.gL hsz
 ver:=h.ver.same (hb d.gV (.inr (.inr (.inl rfl))))
 dom:=h.dom
 emp:=h.emp
 own n s hs:=⟨(h.own n s hs).1.same (fun k hk=>hb k (.inr (.inr (.inr ⟨n,s,hs,hk⟩)))),(h.own n s hs).2⟩
 l256:=h.l256
 a1:=h.a1
 a2:=h.a2
 a3:=h.a3
 a4:=h.a4
 a5:=h.a5 }
theorem Dsk.At.chg {d:Dsk} {F:Fp} {w w':World} (h:d.At w) (hc:Chg F w w') (ha:d.fp.Ap F):d.At w':=
 h.same (fun b hb=>hc.block b (h.in_ b hb) (ha b hb)) hc.size
theorem Dsk.At.later {d:Dsk} {w w':World} (h:d.At w) (hb:Below w.heap.size w w'):d.At w':=
 h.same (fun b hf=>hb.block b (h.in_ b hf)) hb.size
theorem Dsk.sec_len {d:Dsk} {w:World} (h:d.At w) {n:Nat} (hn:n<d.N):(d.sec n).length=256:=by
 unfold Dsk.sec
 cases e:(d.vl n).getLast? with
 | none=>exact (h.lies n hn).2
 | some x=>exact h.l256 n x (List.mem_of_getLast? e)
theorem diskSize (d:Dsk) (w:World) (h:d.At w):Calls Tryz.prog 54 #[.pointer (some ⟨d.g,0,none⟩)] w fun e w'=>e=.returned (.int .i64 (d.N:Int))∧w'=w:=by
 have c0:=h.blk.cell 0
 simp only [Zt,Zz] at c0
 clear h
 go_enter Tryz.func54,Tryz.ntmps54
 go_wp2
 go_ret
 exact ⟨rfl,rfl⟩
theorem diskHas (d:Dsk) (n:Nat) (w:World) (h:d.At w) (hn:n<d.N):
 Calls Tryz.prog 119 #[.pointer (some ⟨d.g,0,none⟩),.int .i64 (n:Int)] w fun e w'=>e=.returned (.agg ((d.sec n).map u8v).toArray)∧Below w.heap.size w w':=by
 have hN:=h.hN
 have hsl:=Dsk.sec_len h hn
 have HI:=Lh (by rw [List.size_toArray,List.length_map,hsl];kernel_rfl:(Tryz.prog.info? 159).map (·.size)=some ((d.sec n).map u8v).toArray.size)
 have HIl:=Lh (by rw [List.length_map,hsl];kernel_rfl:(Tryz.prog.info? 159).map (·.size)=some ((d.sec n).map u8v).length)
 have H1:=Lh (all_oneCell_toArray (u8_one (d.sec n)))
 have hZ:Tryz.zeroCells159.size=((d.sec n).map u8v).toArray.size:=by
  rw [show ((d.sec n).map u8v).toArray.size=256 by rw [List.size_toArray,List.length_map,hsl]]
  kernel_rfl
 have HZs:=Lh hZ
 have HA:=Lh (h.later ((Below.refl w.heap.size w).alloc nL (.cells Tryz.zeroCells159 159)))
 have HW:=Lh (Blk.new w 159 Tryz.zeroCells159)
 have HB:=Lh ((Below.refl w.heap.size w).alloc nL (.cells Tryz.zeroCells159 159))
 clear h hsl hZ
 obtain ⟨S,hS⟩:∃ S,(d.sec n).map u8v=S:=⟨_,rfl⟩
 rw [hS] at HI HIl H1 HZs
 have HS:=Lh hS
 have Hn:=Lh hn
 clear hS
 go_enter Tryz.func119,Tryz.ntmps119
 obtain ⟨wA,hwA⟩:∃ x,w.alloc (.cells Tryz.zeroCells159 159)=x:=⟨_,rfl⟩
 rw [hwA] at HA HW HB
 have c1:=HA.out.blk.cell 1
 have c0:=HA.out.blk.cell 0
 simp only [Zt,Zz,Zs] at c0 c1
 have hf:n<4611686018427387904:=by omega
 cases hv:d.ver n with
 | none=>
   have hg:VerT.get d.ver n=⟨none,0,0⟩:=by unfold MapT.get;rw [hv];rfl
   have hl:=HA.out.lies n Hn.out
   have hsec:d.sec n=d.lies n:=by unfold Dsk.sec;rw [HA.out.emp n hv];rfl
   rw [←hsec,HS.out] at hl
   have HL:=Lh hl.1
   have Hg:=Lh hg
   clear hl hg hv hsec
   go_wp2_with (first|(refine wpList_MapT_look VerT rfl _ _ rfl d.gV d.nv d.ver rfl HA.out.ver n hf rfl ?_;rw [Hg.out];show wpList _ _ _ _ (Act.put _ _ (.slice none 0 0)) _)|(refine wpList_load_mid rfl 159 _ rfl d.gL (n*256) rfl S _ HL.out Tryz.underlying159 rfl HIl.out ?_)|(refine wpList_store_row rfl _ _ _ rfl w.heap.size S.toArray rfl rfl 159 _ HW.out HI.out HZs.out H1.out ?_))
   refine bodyPost_ret (results_cell_row rfl _ _ w.heap.size 159 _ (0,0) _ rfl (setRow_heap wA w.heap.size _ _ _ _ HW.out) Tryz.underlying159 rfl HI.out) rfl ⟨by rw [HS.out],?_⟩
   exact below_setRow HB.out nL _
 | some s=>
   obtain ⟨p,m,c⟩:=s
   have hg:VerT.get d.ver n=⟨p,m,c⟩:=by unfold MapT.get;rw [hv];rfl
   obtain ⟨ho,hne⟩:=HA.out.own n _ hv
   have hm:=ho.length
   simp only at hm ho
   have hpos:0<(d.vl n).length:=List.length_pos_iff.2 hne
   obtain ⟨k,hk⟩:∃ k,k+1=m:=⟨m-1,by omega⟩
   have hlast:(d.vl n)[k]? = some (d.sec n):=by
    unfold Dsk.sec
    rw [List.getLast?_eq_getElem?,hm,←hk,Nat.add_sub_cancel,Zg (by omega)]
    rfl
   obtain ⟨gx,rfl,-,hgx,hrg,-⟩:=ho.range hlast
   have hcl:SecT.cl (d.sec n)=S:=by
    show (pad256 (d.sec n)).map u8v=S
    rw [pad256_eq (HA.out.l256 n _ (List.mem_of_getElem? hlast)),HS.out]
   rw [hcl] at hrg
   have HL:=Lh (show wA.rangeAt gx (k*256) S from hrg)
   have Hg:=Lh hg
   have hc1:=ho.cap
   have i0:(0:Int)<m:=by omega
   have i1:IntKind.i64.wrap ((m:Int)-1)=k:=by rw [wrapi64 (by omega) (by omega)];omega
   have i2:(k:Int)<m:=by omega
   clear hg hv hlast hrg hcl hne hpos ho hm hk
   go_wp2_with (first|(refine wpList_MapT_look VerT rfl _ _ rfl d.gV d.nv d.ver rfl HA.out.ver n hf rfl ?_;rw [Hg.out];show wpList _ _ _ _ (Act.put _ _ (.slice (some ⟨gx,0,none⟩) m c)) _)|(refine wpList_load_mid rfl 159 _ rfl gx (k*256) rfl S _ HL.out Tryz.underlying159 rfl HIl.out ?_)|(refine wpList_store_row rfl _ _ _ rfl w.heap.size S.toArray rfl rfl 159 _ HW.out HI.out HZs.out H1.out ?_))
   refine bodyPost_ret (results_cell_row rfl _ _ w.heap.size 159 _ (0,0) _ rfl (setRow_heap wA w.heap.size _ _ _ _ HW.out) Tryz.underlying159 rfl HI.out) rfl ⟨by rw [HS.out],?_⟩
   exact below_setRow HB.out nL _
theorem diskRead (d:Dsk) (n:Nat) (w:World) (h:d.At w) (hn:n<d.N):
 Calls Tryz.prog 89 #[.pointer (some ⟨d.g,0,none⟩),.int .i64 (n:Int)] w fun e w'=>∃ g,e=.returned (.tuple #[.slice (some ⟨g,0,none⟩) 256 256,.int .i64 0])∧Bs w' (some ⟨g,0,none⟩) (d.sec n)∧w.heap.size≤g∧g<w'.heap.size∧Below w.heap.size w w':=by
 have hN:=h.hN
 have hsl:=Dsk.sec_len h hn
 have HI:=Lh (by rw [List.size_toArray,List.length_map,hsl];kernel_rfl:(Tryz.prog.info? 159).map (·.size)=some ((d.sec n).map u8v).toArray.size)
 have H1:=Lh (all_oneCell_toArray (u8_one (d.sec n)))
 have hZ:Tryz.zeroCells159.size=((d.sec n).map u8v).toArray.size:=by
  rw [show ((d.sec n).map u8v).toArray.size=256 by rw [List.size_toArray,List.length_map,hsl]]
  kernel_rfl
 have HZs:=Lh hZ
 have HH:=Lh (diskHas d n w h hn)
 have c0:=h.blk.cell 0
 simp only [Zt,Zz] at c0
 have i1:¬(n:Int)<0:=by omega
 have i2:¬(d.N:Int)≤n:=by omega
 clear h hsl hZ
 obtain ⟨S,hS⟩:∃ S,(d.sec n).map u8v=S:=⟨_,rfl⟩
 rw [hS] at HI H1 HZs HH
 have HS:=Lh hS
 clear hS
 go_enter Tryz.func89,Tryz.ntmps89
 go_wp2_with fail
 refine HH.out.mono ?_
 rintro e w1 ⟨rfl,hb1⟩
 have HB1:=Lh hb1
 have HW1:=Lh (Blk.new w1 159 Tryz.zeroCells159)
 have HB2:=Lh (hb1.alloc hb1.size (.cells Tryz.zeroCells159 159))
 clear hb1 c0
 go_wp2_with (refine wpList_store_row rfl _ _ _ rfl w1.heap.size S.toArray rfl rfl 159 _ HW1.out HI.out HZs.out H1.out ?_)
 go_ret2
 have hblk:Blk ((w1.alloc (.cells Tryz.zeroCells159 159)).setRow w1.heap.size S.toArray) w1.heap.size 159 S.toArray:=setRow_heap _ _ _ _ _ _ HW1.out
 exact ⟨w1.heap.size,rfl,fun h0=>⟨w1.heap.size,0,rfl,fun j hj=>by rw [Nat.zero_add,Blk.cell hblk,Zt,HS.out]⟩,HB1.out.size,Blk.lt hblk,below_setRow HB2.out HB1.out.size _⟩
theorem rangeAt_below {w w':World} {b o:Nat} {cs:List Value} (h:w.rangeAt b o cs) (hb:Below w.heap.size w w'):w'.rangeAt b o cs:=fun j v hv=>(hb.cell (World.block_lt_of_cell? w _ (h j v hv))).trans (h j v hv)
theorem rep_at (k i:Nat) (h:i<k):((List.replicate k (0:UInt8)).map u8v).toArray[i]! = u8v 0:=by
 rw [getElem!_pos _ _ (by simpa using h)]
 simp
theorem made_zero (N i:Nat) (h:i<N*256):(madeCells SecT.z.cells (N*256))[i]? = some (u8v 0):=by
 have hs:SecT.z.cells.size=256:=SecT.hz
 unfold madeCells
 rw [Array.getElem?_map,Array.getElem?_range,if_pos h]
 simp only [Option.map_some,Option.some.injEq]
 rw [hs]
 exact rep_at 256 (i%256) (Nat.mod_lt _ (by omega))
theorem diskNew (N:Nat) (w:World) (h1:1≤N) (h2:N≤4096):
 Calls Tryz.prog 26 #[.int .i64 (N:Int)] w fun e w'=>∃ d:Dsk,e=.returned (.tuple #[.pointer (some ⟨d.g,0,none⟩),.int .i64 0])∧d.At w'∧d.N=N∧(∀ n,d.ver n=none)∧(∀ b,d.fp b→w.heap.size≤b)∧Below w.heap.size w w':=by
 have i1:¬(N:Int)<1:=by omega
 have i2:¬(4096:Int)<N:=by omega
 obtain ⟨i,hi,hz0,hz1,hz2⟩:=info_parts SecT.hi
 have hmk:∀ W:World,(Instr.makeSlice 117 (.int .i64 (N:Int)) (.int .i64 (N:Int))).run Tryz.prog W=.ok (.slice (some ⟨W.heap.size,0,none⟩) N N) (W.alloc (.cells (madeCells SecT.z.cells (N*256)) 159)):=fun W=>by
  have h:=run_make (P:=Tryz.prog) W 117 159 i SecT.z SecT.hu hi hz0 .i64 .i64 (N:Int) (N:Int) (by omega) (Int.le_refl _) (by rw [hz2];show ((256:Nat):Int)*(N:Int)≤_;omega) (by omega)
  rw [hz1] at h
  exact h
 obtain ⟨C,hC⟩:∃ C,madeCells SecT.z.cells (N*256)=C:=⟨_,rfl⟩
 rw [hC] at hmk
 have HC:=Lh hC
 clear hC
 have hmm:=@run_makeMap Tryz.prog
 go_enter Tryz.func26,Tryz.ntmps26
 go_wp2
 go_ret2
 obtain ⟨wA,hwA⟩:∃ x,w.alloc (.cells C 159)=x:=⟨_,rfl⟩
 have hsA:wA.heap.size=w.heap.size+1:=by rw [←hwA];simp
 have hA:Blk wA w.heap.size 159 C:=by rw [←hwA];exact Blk.new w _ _
 have hBA:Below w.heap.size w wA:=by rw [←hwA];exact (Below.refl _ _).alloc nL _
 rw [hwA]
 obtain ⟨wB,hwB⟩:∃ x,wA.alloc (.map #[] 0)=x:=⟨_,rfl⟩
 have hsB:wB.heap.size=w.heap.size+1+1:=by rw [←hwB,←hsA];simp
 have hB:VerT.At wB (w.heap.size+1) 0 (fun _=>none):=by rw [←hwB,←hsA];exact MapT.At.made _ wA
 have hBB:Below wA.heap.size wA wB:=by rw [←hwB];exact (Below.refl _ _).alloc nL _
 rw [hwB]
 obtain ⟨wC,hwC⟩:∃ x,wB.alloc (.cells #[.slice (some ⟨w.heap.size,0,none⟩) N N,.map (some (w.heap.size+1)),.bool false,.int .i64 0] 120)=x:=⟨_,rfl⟩
 have hC:Blk wC (w.heap.size+1+1) 120 #[.slice (some ⟨w.heap.size,0,none⟩) N N,.map (some (w.heap.size+1)),.bool false,.int .i64 0]:=by rw [←hwC,←hsB];exact Blk.new wB _ _
 have hBC:Below wB.heap.size wB wC:=by rw [←hwC];exact (Below.refl _ _).alloc nL _
 rw [hwC]
 have hA2:Blk wC w.heap.size 159 C:=(hA.later hBB).later hBC
 refine ⟨⟨w.heap.size+1+1,w.heap.size,w.heap.size+1,N,0,fun _=>List.replicate 256 0,fun _=>none,fun _=>[]⟩,rfl,⟨hC,h2,?_,hA2.lt,hB.below hBC,fun _ _=>rfl,fun _ _=>rfl,fun n s h=>(by cases h),fun n x h=>(by cases h),?_,?_,?_,fun n s h=>(by cases h),fun n n' s s' h=>(by cases h)⟩,rfl,fun _=>rfl,?_,?_⟩
 ·intro n hn
  refine ⟨fun j v hv=>?_,List.length_replicate⟩
  have hn:n<N:=hn
  have hj:j<256:=by simpa using (Ze hv).1
  have hlt:n*256+j<N*256:=by omega
  show wC.cell? ⟨w.heap.size,n*256+j,none⟩=some v
  rw [hA2.cell,←HC.out,made_zero N _ hlt,←hv,List.getElem?_map,List.getElem?_replicate,if_pos hj];rfl
 ·show w.heap.size+1+1≠w.heap.size
  omega
 ·show w.heap.size+1≠w.heap.size
  omega
 ·show w.heap.size+1+1≠w.heap.size+1
  omega
 ·rintro b (h|h|h|⟨n,s,hs,_⟩)
  ·subst h;show w.heap.size≤w.heap.size+1+1;omega
  ·subst h;exact Nat.le_refl _
  ·subst h;show w.heap.size≤w.heap.size+1;omega
  ·cases hs
 ·exact hBA.trans ((hBB.trans (hBC.mono (by omega))).mono (by omega))
theorem cloForget (gb k x:Nat) (w:World) (hk:w.cell? ⟨gb,0,none⟩=some (natv k)) (_:x<4611686018427387904) (hk2:k<4611686018427387904):
 Calls Tryz.prog 57 #[.int .i64 (x:Int),.pointer (some ⟨gb,0,none⟩)] w fun e w'=>e=.returned (.bool (decide (x=k)))∧w'=w:=by
 have hk':w.cell? ⟨gb,0,none⟩=some (.int .i64 (k:Int)):=hk
 clear hk
 have e1:((x:Int)==(k:Int))=decide (x=k):=by
  by_cases h:x=k
  ·subst h;simp
  ·rw [qF h,beq_eq_false_iff_ne];omega
 go_enter Tryz.func57,Tryz.ntmps57
 go_wp2
 go_ret
 exact ⟨by simp,rfl⟩
def idxPost (xs:List Nat) (k:Nat) (w:World) (e:Ending) (w':World):Prop:=
 w'=w∧((e=.returned (.int .i64 (-1))∧∀ i:Nat,xs[i]? ≠ some k)∨∃ i:Nat,e=.returned (.int .i64 (i:Int))∧xs[i]? = some k∧∀ j,j<i→xs[j]? ≠ some k)
theorem idxForget (A:OA) (n c gb k:Nat) (xs:List Nat) (w:World) (hl:xs.length=n) (hr:Ns w A xs) (hn:n≤1000000000) (hk:w.cell? ⟨gb,0,none⟩=some (natv k)) (hk2:k<4611686018427387904) (hx:∀ x∈xs,x<4611686018427387904):
 Calls Tryz.prog 88 #[.slice A n c,.func (.func 57) #[] #[.pointer (some ⟨gb,0,none⟩)]] w (idxPost xs k w):=by
 have HL:=Lh hl
 have HR:=Lh hr
 have HK:=Lh hk
 have HX:=Lh hx
 clear hl hr hk hx
 go_enter Tryz.func88,Tryz.ntmps88
 go_wp2_with fail
 go_loopg [8] n (fun gg s8 wr=>∃ i:Nat,i≤n∧n-i≤gg∧s8=.int .i64 (i:Int)∧wr=w∧∀ j,j<i→xs[j]? ≠ some k)
 case atStart=>exact ⟨0,Nat.zero_le _,by omega,rfl,rfl,fun j hj=>by omega⟩
 case round=>
  obtain ⟨i,hi,hgg,rfl,rfl,hno⟩:=hrel
  have HNo:=Lh hno
  clear hno
  by_cases hlt:i<n
  ·obtain ⟨b,o,x,rfl,hxi,hc⟩:=Ns.at_ HR.out (k:=i) (by rw [HL.out];exact hlt)
   have hc:wr.cell? ⟨b,o+i,none⟩=some (.int .i64 (x:Int)):=hc
   have HXi:=Lh hxi
   have hx2:=HX.out x (List.mem_of_getElem? hxi)
   have HC:=Lh (cloForget gb k x wr HK.out hx2 hk2)
   have j0:(i:Int)<n:=by omega
   clear hxi
   go_wp2_with fail
   refine HC.out.mono ?_
   rintro e w1 ⟨rfl,rfl⟩
   by_cases he:x=k
   ·have hd:decide (x=k)=true:=qT he
    go_wp2
    go_ret
    exact ⟨rfl,.inr ⟨i,rfl,by rw [HXi.out,he],HNo.out⟩⟩
   ·have hd:decide (x=k)=false:=qF he
    go_wp2
    go_roundg (n-(i+1))
    case measure=>omega
    case rel=>
     refine ⟨i+1,by omega,by omega,by go_num,rfl,fun j hj=>?_⟩
     by_cases hji:j<i
     ·exact HNo.out j hji
     ·obtain rfl:j=i:=by omega
      rw [HXi.out]
      intro h
      cases h
      exact he rfl
  ·obtain rfl:i=n:=by omega
   go_wp2
   go_ret
   refine ⟨rfl,.inl ⟨rfl,fun j h=>?_⟩⟩
   have hj:=(Ze h).1
   rw [HL.out] at hj
   exact HNo.out j hj h
theorem delForget (A:OA) (n c gb k:Nat) (xs:List Nat) (w:World) (h:OwnO w A n c xs) (hn:n≤1000000000) (hk:w.cell? ⟨gb,0,none⟩=some (natv k)) (hgb:bk A≠some gb) (hk2:k<4611686018427387904) (hx:∀ x∈xs,x<4611686018427387904):
 Calls Tryz.prog 56 #[.slice A n c,.func (.func 57) #[] #[.pointer (some ⟨gb,0,none⟩)]] w fun e w'=>∃ m,e=.returned (.slice A m c)∧OwnO w' A m c (xs.filter (fun x=>decide (x≠k)))∧w.grownBy w' (bk A):=by
 have hl:=h.length
 have HI:=Lh (idxForget A n c gb k xs w hl h.ns hn hk hk2 hx)
 have HO:=Lh h
 have HK:=Lh hk
 have HX:=Lh hx
 have HL:=Lh hl
 have hcap:=h.cap
 clear h hk hx hl
 go_enter Tryz.func56,Tryz.ntmps56
 go_wp2_with fail
 refine HI.out.mono ?_
 rintro e w1 ⟨rfl,⟨rfl,hno⟩|⟨i0,rfl,hi0,hno⟩⟩
 ·have hf:xs.filter (fun x=>decide (x≠k))=xs:=List.filter_eq_self.2 (fun x hx=>by
   obtain ⟨j,hj,rfl⟩:=List.getElem_of_mem hx
   have:=hno j
   rw [Zg hj] at this
   simpa using this)
  have Hf:=Lh hf
  clear hno hf
  go_wp2
  go_ret
  exact ⟨n,rfl,by rw [Hf.out];exact HO.out,grown_refl _ _⟩
 ·have hi0l:=(Ze hi0).1
  rw [HL.out] at hi0l
  obtain ⟨g,C,pre,hA,hown0,hoc,-⟩:∃ (g C:Nat) (pre:List Nat),A=some ⟨g,pre.length,none⟩∧NatR.Own w1 0 (some ⟨g,0,none⟩) (pre.length+n) C (pre++xs)∧pre.length+c≤C∧n≤c:=by
   rcases HO.out with ⟨-,h0,-⟩|h
   ·omega
   ·exact h
  have HO4:=Lh hown0
  clear hown0 HO
  obtain ⟨o,ho⟩:∃ o,pre.length=o:=⟨_,rfl⟩
  rw [ho] at hA HO4 hoc
  subst hA
  have Hpre:=Lh ho
  clear ho
  have g1:((i0:Int)==-1)=false:=bF (by omega)
  have hst:xs.take i0=(xs.take (i0+1)).filter (fun x=>decide (x≠k)):=by
   rw [List.take_add_one,hi0,List.filter_append]
   have h1:(xs.take i0).filter (fun x=>decide (x≠k))=xs.take i0:=List.filter_eq_self.2 (fun x hx=>by
    obtain ⟨j,hj,rfl⟩:=List.getElem_of_mem hx
    rw [List.length_take] at hj
    have:=hno j (by omega)
    rw [Zg (by omega)] at this
    rw [List.getElem_take]
    simpa using this)
   rw [h1];simp
  have Hst:=Lh hst
  have hgl:gb≠g:=fun e=>hgb (by rw [e];rfl)
  clear hst hno hi0 hgb HI
  go_wp2_with fail
  go_loopg [5,6] n (fun gg s5 s6 wr=>∃ (i j:Nat) (L:List Nat),s5=.int .i64 (i:Int)∧s6=.int .i64 (j:Int)∧i<j∧j≤n∧n-j≤gg∧NatR.Own wr 0 (some ⟨g,0,none⟩) (o+n) C (pre++L)∧L.take i=(xs.take j).filter (fun x=>decide (x≠k))∧L.drop j=xs.drop j∧w1.grownBy wr (some g))
  case atStart=>exact ⟨i0,i0+1,xs,rfl,by go_num,by omega,by omega,by omega,HO4.out,Hst.out,rfl,grown_refl _ _⟩
  case round=>
   obtain ⟨i,j,L,rfl,rfl,hij,hj,hgg,hO,ht,hd,hg⟩:=hrel
   have HO2:=Lh hO
   have HT:=Lh ht
   have HD:=Lh hd
   have HG:=Lh hg
   have hLl:L.length=n:=by have h1:=hO.length;rw [Zl,Hpre.out] at h1;omega
   have hcb:wr.cell? ⟨gb,0,none⟩=some (natv k):=by
    have hb:gb<w1.heap.size:=World.block_lt_of_cell? w1 _ HK.out
    exact (cell_same (hg.block gb hb (fun e=>hgl (by simpa using e)))).trans HK.out
   have HCb:=Lh hcb
   clear ht hd hg hcb
   by_cases hlt:j<n
   ·have hxj:xs[j]? = some (xs[j]'(by rw [HL.out];exact hlt)):=Zg _
    have hLj:L[j]? = some (xs[j]'(by rw [HL.out];exact hlt)):=by
     have h1:=congrArg (fun l=>l[0]?) HD.out
     simp only [List.getElem?_drop,Nat.add_zero] at h1
     rw [h1,hxj]
    generalize xs[j]'(by rw [HL.out];exact hlt)=x at hxj hLj
    have hLj':(pre++L)[o+j]? = some x:=by rw [List.getElem?_append_right (by rw [Hpre.out];omega),Hpre.out,Nat.add_sub_cancel_left];exact hLj
    obtain ⟨g',hgg',-,hgl2,hrg,-⟩:=hO.range hLj'
    cases hgg'
    have hcx:wr.cell? ⟨g,o+j,none⟩=some (.int .i64 (x:Int)):=by
     have:=hrg 0 (natv x) rfl
     rwa [Nat.add_zero,show (o+j)*NatR.k=o+j from Nat.mul_one _] at this
    have hci:∃ u,wr.cell? ⟨g,o+i,none⟩=some u:=by
     obtain ⟨g',hgg',-,-,hrg,-⟩:=hO.range (Zg (show o+i<(pre++L).length by rw [Zl,Hpre.out];omega))
     cases hgg'
     have:=hrg 0 _ rfl
     rw [Nat.add_zero,show (o+i)*NatR.k=o+i from Nat.mul_one _] at this
     exact ⟨_,this⟩
    obtain ⟨u,hcu⟩:=hci
    have hfi:wr.frozen? ⟨g,o+i,none⟩=false:=World.ownsRow.frozenAt hO (o+i)
    have hx2:=HX.out x (List.mem_of_getElem? hxj)
    have HC:=Lh (cloForget gb k x wr HCb.out hx2 hk2)
    have HXj:=Lh hxj
    have j0:(j:Int)<n:=by omega
    have j1:(i:Int)<n:=by omega
    clear hxj hLj hLj' hrg hO
    go_wp2_with fail
    refine HC.out.mono ?_
    rintro e w2 ⟨rfl,rfl⟩
    by_cases he:x=k
    ·have hde:decide (x=k)=true:=qT he
     go_wp2
     go_roundg (n-(j+1))
     case measure=>omega
     case rel=>
      refine ⟨i,j+1,L,rfl,by go_num,by omega,by omega,by omega,HO2.out,?_,?_,HG.out⟩
      ·rw [HT.out,List.take_add_one,HXj.out,List.filter_append]
       simp [he]
      ·have h1:=congrArg (fun l=>l.drop 1) HD.out
       simpa [List.drop_drop] using h1
    ·have hde:decide (x=k)=false:=qF he
     go_wp2
     go_roundg (n-(j+1))
     case measure=>omega
     case rel=>
      obtain ⟨hP,hPg⟩:=HO2.out.put (i:=o+i) (by omega) x
      rw [List.set_append_right _ _ (by rw [Hpre.out];omega),Hpre.out,Nat.add_sub_cancel_left] at hP
      have hsc:w2.setCells g ((o+i)*NatR.k) (NatR.cl x)=w2.setCell ⟨g,o+i,none⟩ (.int .i64 (x:Int)):=by
       show (w2.setCell ⟨g,(o+i)*1,none⟩ (.int .i64 (x:Int)))=_
       rw [Nat.mul_one]
      rw [hsc] at hP hPg
      refine ⟨i+1,j+1,L.set i x,by go_num,by go_num,by omega,by omega,by omega,hP,?_,?_,grown_trans HG.out hPg⟩
      ·rw [List.take_add_one,List.take_add_one,HXj.out,List.filter_append,←HT.out,List.take_set_of_le nL,List.getElem?_set_self (by omega)]
       simp [he]
      ·rw [List.drop_set_of_lt (by omega)]
       have h1:=congrArg (fun l=>l.drop 1) HD.out
       simpa [List.drop_drop] using h1
   ·obtain rfl:j=n:=by omega
    have hT2:L.take i=xs.filter (fun x=>decide (x≠k)):=by rw [HT.out,List.take_of_length_le (by rw [HL.out];exact Nat.le_refl _)]
    have HT2:=Lh hT2
    have hcut:cutA (some ⟨g,o,none⟩) c i=some ⟨g,(o+i)*NatR.k,none⟩:=by
     unfold cutA
     rw [if_neg (by omega)]
     show some (Addr.add _ i)=_
     rw [add_none,show (o+i)*NatR.k=o+i from Nat.mul_one _]
    have hji:j-i=(o+j)-(o+i):=by omega
    have Hji:=Lh hji
    clear hT2 hlt hO hji
    go_wp2_with (first|(refine wpList_slice_lo rfl _ _ elemN rfl (some ⟨g,o,none⟩) j c i rfl rfl (by omega) ?_;rw [hcut,Hji.out])|(refine NatR.wpList_clear rfl _ rfl 0 g (o+j) C (o+i) (c-i) (pre++L) HO2.out (by omega) (fun w=>Tryz.zeroValue3 w) (fun v hv=>by simp [NatR,Value.cells] at hv;subst hv;rfl) rfl ?_;intro w3 hO3 hg3)|(refine wpList_slice_hi rfl _ _ elemN rfl (some ⟨g,o,none⟩) j c i rfl rfl (by omega) ?_))
    go_ret
    refine ⟨i,rfl,?_,?_⟩
    ·rw [←HT2.out]
     rw [List.take_append,Hpre.out,List.take_of_length_le (by rw [Hpre.out];omega),Nat.add_sub_cancel_left] at hO3
     exact .inr ⟨g,C,pre,by rw [Hpre.out],by rw [Hpre.out];exact hO3,by rw [Hpre.out];exact hoc,by omega⟩
    ·exact grown_trans HG.out hg3
theorem cloAsked (gb k x:Nat) (w:World) (hk:w.cell? ⟨gb,0,none⟩=some (natv k)) (_:x<4611686018427387904) (hk2:k<4611686018427387904):
 Calls Tryz.prog 80 #[.int .i64 (x:Int),.pointer (some ⟨gb,0,none⟩)] w fun e w'=>e=.returned (.bool (decide (x=k)))∧w'=w:=by
 have hk':w.cell? ⟨gb,0,none⟩=some (.int .i64 (k:Int)):=hk
 clear hk
 have e1:((x:Int)==(k:Int))=decide (x=k):=by
  by_cases h:x=k
  ·subst h;simp
  ·rw [qF h,beq_eq_false_iff_ne];omega
 go_enter Tryz.func80,Tryz.ntmps80
 go_wp2
 go_ret
 exact ⟨by simp,rfl⟩
theorem idxAsked (A:OA) (n c gb k:Nat) (xs:List Nat) (w:World) (hl:xs.length=n) (hr:Ns w A xs) (hn:n≤1000000000) (hk:w.cell? ⟨gb,0,none⟩=some (natv k)) (hk2:k<4611686018427387904) (hx:∀ x∈xs,x<4611686018427387904):
 Calls Tryz.prog 88 #[.slice A n c,.func (.func 80) #[] #[.pointer (some ⟨gb,0,none⟩)]] w (idxPost xs k w):=by
 have HL:=Lh hl
 have HR:=Lh hr
 have HK:=Lh hk
 have HX:=Lh hx
 clear hl hr hk hx
 go_enter Tryz.func88,Tryz.ntmps88
 go_wp2_with fail
 go_loopg [8] n (fun gg s8 wr=>∃ i:Nat,i≤n∧n-i≤gg∧s8=.int .i64 (i:Int)∧wr=w∧∀ j,j<i→xs[j]? ≠ some k)
 case atStart=>exact ⟨0,Nat.zero_le _,by omega,rfl,rfl,fun j hj=>by omega⟩
 case round=>
  obtain ⟨i,hi,hgg,rfl,rfl,hno⟩:=hrel
  have HNo:=Lh hno
  clear hno
  by_cases hlt:i<n
  ·obtain ⟨b,o,x,rfl,hxi,hc⟩:=Ns.at_ HR.out (k:=i) (by rw [HL.out];exact hlt)
   have hc:wr.cell? ⟨b,o+i,none⟩=some (.int .i64 (x:Int)):=hc
   have HXi:=Lh hxi
   have hx2:=HX.out x (List.mem_of_getElem? hxi)
   have HC:=Lh (cloAsked gb k x wr HK.out hx2 hk2)
   have j0:(i:Int)<n:=by omega
   clear hxi
   go_wp2_with fail
   refine HC.out.mono ?_
   rintro e w1 ⟨rfl,rfl⟩
   by_cases he:x=k
   ·have hd:decide (x=k)=true:=qT he
    go_wp2
    go_ret
    exact ⟨rfl,.inr ⟨i,rfl,by rw [HXi.out,he],HNo.out⟩⟩
   ·have hd:decide (x=k)=false:=qF he
    go_wp2
    go_roundg (n-(i+1))
    case measure=>omega
    case rel=>
     refine ⟨i+1,by omega,by omega,by go_num,rfl,fun j hj=>?_⟩
     by_cases hji:j<i
     ·exact HNo.out j hji
     ·obtain rfl:j=i:=by omega
      rw [HXi.out]
      intro h
      cases h
      exact he rfl
  ·obtain rfl:i=n:=by omega
   go_wp2
   go_ret
   refine ⟨rfl,.inl ⟨rfl,fun j h=>?_⟩⟩
   have hj:=(Ze h).1
   rw [HL.out] at hj
   exact HNo.out j hj h
theorem delAsked (A:OA) (n c gb k:Nat) (xs:List Nat) (w:World) (h:OwnO w A n c xs) (hn:n≤1000000000) (hk:w.cell? ⟨gb,0,none⟩=some (natv k)) (hgb:bk A≠some gb) (hk2:k<4611686018427387904) (hx:∀ x∈xs,x<4611686018427387904):
 Calls Tryz.prog 56 #[.slice A n c,.func (.func 80) #[] #[.pointer (some ⟨gb,0,none⟩)]] w fun e w'=>∃ m,e=.returned (.slice A m c)∧OwnO w' A m c (xs.filter (fun x=>decide (x≠k)))∧w.grownBy w' (bk A):=by
 have hl:=h.length
 have HI:=Lh (idxAsked A n c gb k xs w hl h.ns hn hk hk2 hx)
 have HO:=Lh h
 have HK:=Lh hk
 have HX:=Lh hx
 have HL:=Lh hl
 have hcap:=h.cap
 clear h hk hx hl
 go_enter Tryz.func56,Tryz.ntmps56
 go_wp2_with fail
 refine HI.out.mono ?_
 rintro e w1 ⟨rfl,⟨rfl,hno⟩|⟨i0,rfl,hi0,hno⟩⟩
 ·have hf:xs.filter (fun x=>decide (x≠k))=xs:=List.filter_eq_self.2 (fun x hx=>by
   obtain ⟨j,hj,rfl⟩:=List.getElem_of_mem hx
   have:=hno j
   rw [Zg hj] at this
   simpa using this)
  have Hf:=Lh hf
  clear hno hf
  go_wp2
  go_ret
  exact ⟨n,rfl,by rw [Hf.out];exact HO.out,grown_refl _ _⟩
 ·have hi0l:=(Ze hi0).1
  rw [HL.out] at hi0l
  obtain ⟨g,C,pre,hA,hown0,hoc,-⟩:∃ (g C:Nat) (pre:List Nat),A=some ⟨g,pre.length,none⟩∧NatR.Own w1 0 (some ⟨g,0,none⟩) (pre.length+n) C (pre++xs)∧pre.length+c≤C∧n≤c:=by
   rcases HO.out with ⟨-,h0,-⟩|h
   ·omega
   ·exact h
  have HO4:=Lh hown0
  clear hown0 HO
  obtain ⟨o,ho⟩:∃ o,pre.length=o:=⟨_,rfl⟩
  rw [ho] at hA HO4 hoc
  subst hA
  have Hpre:=Lh ho
  clear ho
  have g1:((i0:Int)==-1)=false:=bF (by omega)
  have hst:xs.take i0=(xs.take (i0+1)).filter (fun x=>decide (x≠k)):=by
   rw [List.take_add_one,hi0,List.filter_append]
   have h1:(xs.take i0).filter (fun x=>decide (x≠k))=xs.take i0:=List.filter_eq_self.2 (fun x hx=>by
    obtain ⟨j,hj,rfl⟩:=List.getElem_of_mem hx
    rw [List.length_take] at hj
    have:=hno j (by omega)
    rw [Zg (by omega)] at this
    rw [List.getElem_take]
    simpa using this)
   rw [h1];simp
  have Hst:=Lh hst
  have hgl:gb≠g:=fun e=>hgb (by rw [e];rfl)
  clear hst hno hi0 hgb HI
  go_wp2_with fail
  go_loopg [5,6] n (fun gg s5 s6 wr=>∃ (i j:Nat) (L:List Nat),s5=.int .i64 (i:Int)∧s6=.int .i64 (j:Int)∧i<j∧j≤n∧n-j≤gg∧NatR.Own wr 0 (some ⟨g,0,none⟩) (o+n) C (pre++L)∧L.take i=(xs.take j).filter (fun x=>decide (x≠k))∧L.drop j=xs.drop j∧w1.grownBy wr (some g))
  case atStart=>exact ⟨i0,i0+1,xs,rfl,by go_num,by omega,by omega,by omega,HO4.out,Hst.out,rfl,grown_refl _ _⟩
  case round=>
   obtain ⟨i,j,L,rfl,rfl,hij,hj,hgg,hO,ht,hd,hg⟩:=hrel
   have HO2:=Lh hO
   have HT:=Lh ht
   have HD:=Lh hd
   have HG:=Lh hg
   have hLl:L.length=n:=by have h1:=hO.length;rw [Zl,Hpre.out] at h1;omega
   have hcb:wr.cell? ⟨gb,0,none⟩=some (natv k):=by
    have hb:gb<w1.heap.size:=World.block_lt_of_cell? w1 _ HK.out
    exact (cell_same (hg.block gb hb (fun e=>hgl (by simpa using e)))).trans HK.out
   have HCb:=Lh hcb
   clear ht hd hg hcb
   by_cases hlt:j<n
   ·have hxj:xs[j]? = some (xs[j]'(by rw [HL.out];exact hlt)):=Zg _
    have hLj:L[j]? = some (xs[j]'(by rw [HL.out];exact hlt)):=by
     have h1:=congrArg (fun l=>l[0]?) HD.out
     simp only [List.getElem?_drop,Nat.add_zero] at h1
     rw [h1,hxj]
    generalize xs[j]'(by rw [HL.out];exact hlt)=x at hxj hLj
    have hLj':(pre++L)[o+j]? = some x:=by rw [List.getElem?_append_right (by rw [Hpre.out];omega),Hpre.out,Nat.add_sub_cancel_left];exact hLj
    obtain ⟨g',hgg',-,hgl2,hrg,-⟩:=hO.range hLj'
    cases hgg'
    have hcx:wr.cell? ⟨g,o+j,none⟩=some (.int .i64 (x:Int)):=by
     have:=hrg 0 (natv x) rfl
     rwa [Nat.add_zero,show (o+j)*NatR.k=o+j from Nat.mul_one _] at this
    have hci:∃ u,wr.cell? ⟨g,o+i,none⟩=some u:=by
     obtain ⟨g',hgg',-,-,hrg,-⟩:=hO.range (Zg (show o+i<(pre++L).length by rw [Zl,Hpre.out];omega))
     cases hgg'
     have:=hrg 0 _ rfl
     rw [Nat.add_zero,show (o+i)*NatR.k=o+i from Nat.mul_one _] at this
     exact ⟨_,this⟩
    obtain ⟨u,hcu⟩:=hci
    have hfi:wr.frozen? ⟨g,o+i,none⟩=false:=World.ownsRow.frozenAt hO (o+i)
    have hx2:=HX.out x (List.mem_of_getElem? hxj)
    have HC:=Lh (cloAsked gb k x wr HCb.out hx2 hk2)
    have HXj:=Lh hxj
    have j0:(j:Int)<n:=by omega
    have j1:(i:Int)<n:=by omega
    clear hxj hLj hLj' hrg hO
    go_wp2_with fail
    refine HC.out.mono ?_
    rintro e w2 ⟨rfl,rfl⟩
    by_cases he:x=k
    ·have hde:decide (x=k)=true:=qT he
     go_wp2
     go_roundg (n-(j+1))
     case measure=>omega
     case rel=>
      refine ⟨i,j+1,L,rfl,by go_num,by omega,by omega,by omega,HO2.out,?_,?_,HG.out⟩
      ·rw [HT.out,List.take_add_one,HXj.out,List.filter_append]
       simp [he]
      ·have h1:=congrArg (fun l=>l.drop 1) HD.out
       simpa [List.drop_drop] using h1
    ·have hde:decide (x=k)=false:=qF he
     go_wp2
     go_roundg (n-(j+1))
     case measure=>omega
     case rel=>
      obtain ⟨hP,hPg⟩:=HO2.out.put (i:=o+i) (by omega) x
      rw [List.set_append_right _ _ (by rw [Hpre.out];omega),Hpre.out,Nat.add_sub_cancel_left] at hP
      have hsc:w2.setCells g ((o+i)*NatR.k) (NatR.cl x)=w2.setCell ⟨g,o+i,none⟩ (.int .i64 (x:Int)):=by
       show (w2.setCell ⟨g,(o+i)*1,none⟩ (.int .i64 (x:Int)))=_
       rw [Nat.mul_one]
      rw [hsc] at hP hPg
      refine ⟨i+1,j+1,L.set i x,by go_num,by go_num,by omega,by omega,by omega,hP,?_,?_,grown_trans HG.out hPg⟩
      ·rw [List.take_add_one,List.take_add_one,HXj.out,List.filter_append,←HT.out,List.take_set_of_le nL,List.getElem?_set_self (by omega)]
       simp [he]
      ·rw [List.drop_set_of_lt (by omega)]
       have h1:=congrArg (fun l=>l.drop 1) HD.out
       simpa [List.drop_drop] using h1
   ·obtain rfl:j=n:=by omega
    have hT2:L.take i=xs.filter (fun x=>decide (x≠k)):=by rw [HT.out,List.take_of_length_le (by rw [HL.out];exact Nat.le_refl _)]
    have HT2:=Lh hT2
    have hcut:cutA (some ⟨g,o,none⟩) c i=some ⟨g,(o+i)*NatR.k,none⟩:=by
     unfold cutA
     rw [if_neg (by omega)]
     show some (Addr.add _ i)=_
     rw [add_none,show (o+i)*NatR.k=o+i from Nat.mul_one _]
    have hji:j-i=(o+j)-(o+i):=by omega
    have Hji:=Lh hji
    clear hT2 hlt hO hji
    go_wp2_with (first|(refine wpList_slice_lo rfl _ _ elemN rfl (some ⟨g,o,none⟩) j c i rfl rfl (by omega) ?_;rw [hcut,Hji.out])|(refine NatR.wpList_clear rfl _ rfl 0 g (o+j) C (o+i) (c-i) (pre++L) HO2.out (by omega) (fun w=>Tryz.zeroValue3 w) (fun v hv=>by simp [NatR,Value.cells] at hv;subst hv;rfl) rfl ?_;intro w3 hO3 hg3)|(refine wpList_slice_hi rfl _ _ elemN rfl (some ⟨g,o,none⟩) j c i rfl rfl (by omega) ?_))
    go_ret
    refine ⟨i,rfl,?_,?_⟩
    ·rw [←HT2.out]
     rw [List.take_append,Hpre.out,List.take_of_length_le (by rw [Hpre.out];omega),Nat.add_sub_cancel_left] at hO3
     exact .inr ⟨g,C,pre,by rw [Hpre.out],by rw [Hpre.out];exact hO3,by rw [Hpre.out];exact hoc,by omega⟩
    ·exact grown_trans HG.out hg3
structure Bx where
 kind:Nat
 s:Sl
def Bx.v (b:Bx):Value:=.agg #[.int .i64 (b.kind:Int),b.s.v]
theorem Bx.inj:∀ a b:Bx,a.v=b.v→a=b:=fun a b h=>by
 obtain ⟨k,s⟩:=a
 obtain ⟨k',s'⟩:=b
 simp only [Bx.v,Value.agg.injEq,Array.mk.injEq,List.cons.injEq,Value.int.injEq,true_and,and_true] at h
 have h1:k=k':=by omega
 have h2:=Sl.inj _ _ h.2
 rw [h1,h2]
def BlkT:MapT Nat Bx:=IntT 84 39 Tryz.underlying84 Bx.v Bx.inj ⟨0,⟨none,0,0⟩⟩ (fun w=>Tryz.zeroValue39 w)
structure Cch where
 g:Nat
 gB:Nat
 gY:Nat
 room:Nat
 nB:Nat
 nY:Nat
 ord:Sl
 ol:List Nat
 blk:Nat→Option Bx
 dty:Nat→Option Unit
 body:Nat→List UInt8
def Cch.wr (c:Cch):Fp:=fun b=>b=c.g∨b=c.gB∨b=c.gY∨bk c.ord.p=some b
def Cch.fp (c:Cch) (d:Dsk):Fp:=fun b=>d.fp b∨c.wr b∨∃ n x,c.blk n=some x∧bk x.s.p=some b
structure Cch.Mem (c:Cch) (d:Dsk) (w:World):Prop where
 row:Blk w c.g 87 #[.pointer (some ⟨d.g,0,none⟩),.int .i64 (c.room:Int),.map (some c.gB),.map (some c.gY),c.ord.v]
 dsk:d.At w
 mB:BlkT.At w c.gB c.nB c.blk
 mY:SetT.At w c.gY c.nY c.dty
 own:OwnO w c.ord.p c.ord.n c.ord.c c.ol
 body:∀ n x,c.blk n=some x→Bs w x.s.p (c.body n)∧(c.body n).length=x.s.n∧(x.s.p=none→x.s.n=0∧x.s.c=0)∧∀ q,bk x.s.p=some q→q<w.heap.size∧¬c.wr q∧¬d.fp q
 a1:c.g≠c.gB
 a2:c.g≠c.gY
 a3:c.gB≠c.gY
 a4:bk c.ord.p≠some c.g∧bk c.ord.p≠some c.gB∧bk c.ord.p≠some c.gY
 a5:∀ b,d.fp b→¬c.wr b
theorem Cch.Mem.wr_lt {c:Cch} {d:Dsk} {w:World} (h:c.Mem d w) {b:Nat} (hb:c.wr b):b<w.heap.size:=by
 rcases hb with rfl|rfl|rfl|hb
 ·exact h.row.lt
 ·exact h.mB.lt
 ·exact h.mY.lt
 ·exact h.own.lt hb
theorem Cch.Mem.in_ {c:Cch} {d:Dsk} {w:World} (h:c.Mem d w):(c.fp d).In w:=by
 rintro b (hb|hb|⟨n,x,hx,hb⟩)
 ·exact h.dsk.in_ b hb
 ·exact h.wr_lt hb
 ·exact ((h.body n x hx).2.2.2 b hb).1
theorem Cch.Mem.same {c:Cch} {d:Dsk} {w w':World} (h:c.Mem d w) (hb:∀ b,c.fp d b→w'.heap[b]? = w.heap[b]?) (hs:w.heap.size≤w'.heap.size):c.Mem d w':={
 row:=(hb c.g (.inr (.inl (.inl rfl)))).trans h.row
 dsk:=h.dsk.same (fun b hf=>hb b (.inl hf)) hs
 mB:=h.mB.same (hb c.gB (.inr (.inl (.inr (.inl rfl)))))
 mY:=h.mY.same (hb c.gY (.inr (.inl (.inr (.inr (.inl rfl))))))
 own:=h.own.same (fun k hk=>hb k (.inr (.inl (.inr (.inr (.inr hk))))))
 body n x hx:=⟨Rd.same (h.body n x hx).1 (fun k hk=>hb k (.inr (.inr ⟨n,x,hx,hk⟩))),(h.body n x hx).2.1,(h.body n x hx).2.2.1,fun q hq=>⟨lT ((h.body n x hx).2.2.2 q hq).1 hs,((h.body n x hx).2.2.2 q hq).2⟩⟩
 a1:=h.a1
 a2:=h.a2
 a3:=h.a3
 a4:=h.a4
 a5:=h.a5 }
theorem Cch.Mem.chg {c:Cch} {d:Dsk} {F:Fp} {w w':World} (h:c.Mem d w) (hc:Chg F w w') (ha:(c.fp d).Ap F):c.Mem d w':=
 h.same (fun b hb=>hc.block b (h.in_ b hb) (ha b hb)) hc.size
theorem Cch.Mem.later {c:Cch} {d:Dsk} {w w':World} (h:c.Mem d w) (hb:Below w.heap.size w w'):c.Mem d w':=
 h.same (fun b hf=>hb.block b (h.in_ b hf)) hb.size
theorem Cch.Mem.step {c c':Cch} {d:Dsk} {w w':World} (h:c.Mem d w) (hc:Chg c.wr w w') (e1:c'.g=c.g) (e2:c'.gB=c.gB) (e3:c'.gY=c.gY)
 (row:Blk w' c'.g 87 #[.pointer (some ⟨d.g,0,none⟩),.int .i64 (c'.room:Int),.map (some c'.gB),.map (some c'.gY),c'.ord.v])
 (mB:BlkT.At w' c'.gB c'.nB c'.blk) (mY:SetT.At w' c'.gY c'.nY c'.dty) (own:OwnO w' c'.ord.p c'.ord.n c'.ord.c c'.ol)
 (hord:∀ q,bk c'.ord.p=some q→bk c.ord.p=some q∨w.heap.size≤q)
 (hb:∀ n x,c'.blk n=some x→(c.blk n=some x∧c'.body n=c.body n) ∨
   (Bs w' x.s.p (c'.body n)∧(c'.body n).length=x.s.n∧(x.s.p=none→x.s.n=0∧x.s.c=0)∧∀ q,bk x.s.p=some q→w.heap.size≤q∧q<w'.heap.size∧bk c'.ord.p≠some q)):c'.Mem d w':=by
 have hwr:∀ b,c'.wr b→c.wr b∨w.heap.size≤b:=by
  rintro b (hb|hb|hb|hb)
  ·exact .inl (.inl (hb.trans e1))
  ·exact .inl (.inr (.inl (hb.trans e2)))
  ·exact .inl (.inr (.inr (.inl (hb.trans e3))))
  ·rcases hord b hb with h1|h1
   ·exact .inl (.inr (.inr (.inr h1)))
   ·exact .inr h1
 have hdf:∀ b,d.fp b→¬c'.wr b:=fun b hb hw=>by
  rcases hwr b hw with h1|h1
  ·exact h.a5 b hb h1
  ·have:=h.dsk.in_ b hb;omega
 have hord2:∀ z,c.wr z→bk c.ord.p≠some z→bk c'.ord.p≠some z:=fun z hz hn e=>by
  rcases hord z e with h1|h1
  ·exact hn h1
  ·have:=h.wr_lt hz;omega
 refine ⟨row,h.dsk.chg hc (fun b hb=>h.a5 b hb),mB,mY,own,fun n x hx=>?_,by rw [e1,e2];exact h.a1,by rw [e1,e3];exact h.a2,by rw [e2,e3];exact h.a3,?_,hdf⟩
 ·rcases hb n x hx with ⟨h1,h2⟩|⟨h1,h2,h3,h4⟩
  ·obtain ⟨b1,b2,b3,b4⟩:=h.body n x h1
   rw [h2]
   refine ⟨Rd.same b1 (fun k hk=>hc.block k (b4 k hk).1 (b4 k hk).2.1),b2,b3,fun q hq=>⟨lT (b4 q hq).1 hc.size,fun hw=>?_,(b4 q hq).2.2⟩⟩
   rcases hwr q hw with h5|h5
   ·exact (b4 q hq).2.1 h5
   ·have:=(b4 q hq).1;omega
  ·refine ⟨h1,h2,h3,fun q hq=>⟨(h4 q hq).2.1,fun hw=>?_,fun hf=>?_⟩⟩
   ·rcases hw with h5|h5|h5|h5
    ·have:=h.wr_lt (b:=q) (.inl (h5.trans e1));have:=(h4 q hq).1;omega
    ·have:=h.wr_lt (b:=q) (.inr (.inl (h5.trans e2)));have:=(h4 q hq).1;omega
    ·have:=h.wr_lt (b:=q) (.inr (.inr (.inl (h5.trans e3))));have:=(h4 q hq).1;omega
    ·exact (h4 q hq).2.2 h5
   ·have:=h.dsk.in_ q hf;have:=(h4 q hq).1;omega
 ·rw [e1,e2,e3]
  exact ⟨hord2 _ (.inl rfl) h.a4.1,hord2 _ (.inr (.inl rfl)) h.a4.2.1,hord2 _ (.inr (.inr (.inl rfl))) h.a4.2.2⟩
theorem Cch.fp_step {c c':Cch} {d:Dsk} {w:World} (e1:c'.g=c.g) (e2:c'.gB=c.gB) (e3:c'.gY=c.gY) (hord:∀ q,bk c'.ord.p=some q→bk c.ord.p=some q∨w.heap.size≤q)
 (hb:∀ n x,c'.blk n=some x→c.blk n=some x∨∀ q,bk x.s.p=some q→w.heap.size≤q):∀ b,c'.fp d b→c.fp d b∨w.heap.size≤b:=by
 rintro b (h|h|⟨n,x,hx,h⟩)
 ·exact .inl (.inl h)
 ·rcases h with h|h|h|h
  ·exact .inl (.inr (.inl (.inl (h.trans e1))))
  ·exact .inl (.inr (.inl (.inr (.inl (h.trans e2)))))
  ·exact .inl (.inr (.inl (.inr (.inr (.inl (h.trans e3))))))
  ·rcases hord b h with h1|h1
   ·exact .inl (.inr (.inl (.inr (.inr (.inr h1)))))
   ·exact .inr h1
 ·rcases hb n x hx with h1|h1
  ·exact .inl (.inr (.inr ⟨n,x,h1,h⟩))
  ·exact .inr (h1 b h)
structure Cch.Inv (c:Cch) (d:Dsk):Prop where
 r1:1≤c.room
 r2:c.room≤1024
 dom:∀ n x,c.blk n=some x→50≤n∧n<d.N∧(⟨x.kind,c.body n⟩:Bk).ok
 dty:∀ n,(c.dty n).isSome=true→(c.blk n).isSome=true
 ol:∀ n,n∈c.ol→50≤n∧n<d.N∧c.dty n=none
 ln:c.ol.length≤c.room
 clean:∀ n x,c.blk n=some x→c.dty n=none→getL n (d.sec n)=some ⟨x.kind,c.body n⟩
def Cch.view (c:Cch) (d:Dsk) (n:Nat):Option Bk:=
 if 50≤n∧n<d.N then (match c.blk n with|some x=>some ⟨x.kind,c.body n⟩|none=>getL n (d.sec n)) else none
theorem Cch.Mem.cells {c:Cch} {d:Dsk} {w:World} (h:c.Mem d w):w.cell? ⟨c.g,0,none⟩=some (.pointer (some ⟨d.g,0,none⟩))∧w.cell? ⟨c.g,1,none⟩=some (.int .i64 (c.room:Int)) ∧
 w.cell? ⟨c.g,2,none⟩=some (.map (some c.gB))∧w.cell? ⟨c.g,3,none⟩=some (.map (some c.gY))∧w.cell? ⟨c.g,4,none⟩=some (.slice c.ord.p c.ord.n c.ord.c):=by
 have c0:=h.row.cell 0
 have c1:=h.row.cell 1
 have c2:=h.row.cell 2
 have c3:=h.row.cell 3
 have c4:=h.row.cell 4
 simp only [Zt,Zz,Zs] at c0 c1 c2 c3 c4
 exact ⟨c0,c1,c2,c3,c4⟩
theorem cacheThere (c:Cch) (d:Dsk) (n:Nat) (w:World) (h:c.Mem d w):
 Calls Tryz.prog 30 #[.pointer (some ⟨c.g,0,none⟩),.int .i64 (n:Int)] w fun e w'=>e=.returned (.bool (decide (50≤n∧n<d.N)))∧w'=w:=by
 have HS:=Lh (diskSize d w h.dsk)
 obtain ⟨c0,-⟩:=h.cells
 have hN:=h.dsk.hN
 clear h
 by_cases h1:50≤n
 ·have i1:(50:Int)≤n:=by omega
  go_enter Tryz.func30,Tryz.ntmps30
  go_wp2_with fail
  refine HS.out.mono ?_
  rintro e w1 ⟨rfl,rfl⟩
  by_cases h2:n<d.N
  ·have i2:(n:Int)<d.N:=by omega
   go_wp2
   go_ret
   exact ⟨by rw [qT ⟨h1,h2⟩];rfl,rfl⟩
  ·have i2:¬(n:Int)<d.N:=by omega
   go_wp2
   go_ret
   exact ⟨by rw [qF (fun h=>h2 h.2)];rfl,rfl⟩
 ·have i1:¬(50:Int)≤n:=by omega
  go_enter Tryz.func30,Tryz.ntmps30
  go_wp2
  go_ret
  exact ⟨by simp,rfl⟩
theorem cacheOwn (k:Int) (A:OA) (m c:Nat) (body:List UInt8) (w:World) (hl:body.length=m) (hr:Bs w A body) (hn:m≤1000000000) (hA:A=none→m=0∧c=0):
 Calls Tryz.prog 33 #[.agg #[.int .i64 k,.slice A m c]] w fun e w'=>∃ A' c',e=.returned (.agg #[.int .i64 k,.slice A' m c'])∧(A'=none→m=0∧c'=0)∧OwnB w' w.heap.size A' m c' body∧Below w.heap.size w w':=by
 have HCl:=Lh (fun w1 h=>slicesClone A m c body w1 hl h hn hA)
 have HR:=Lh hr
 have HP0:=Lh (Blk.new w 39 #[.int .i64 k,.slice A m c])
 have HB0:=Lh ((Below.refl w.heap.size w).alloc nL (.cells #[.int .i64 k,.slice A m c] 39))
 clear hl hr hA
 go_enter Tryz.func33,Tryz.ntmps33
 go_wp2_with fail
 obtain ⟨wA,hwA⟩:∃ x,w.alloc (.cells #[.int .i64 k,.slice A m c] 39)=x:=⟨_,rfl⟩
 rw [hwA] at HP0 HB0 ⊢
 have hg:wA.heap.size=w.heap.size+1:=by rw [←hwA];simp
 obtain ⟨wB,hwB⟩:∃ x,wA.alloc (.cells #[.int .i64 0,.slice none 0 0] 39)=x:=⟨_,rfl⟩
 rw [hwB]
 have HPB:=Lh (by rw [←hwB];exact HP0.out.later ((Below.refl _ _).alloc nL _):Blk wB w.heap.size 39 #[.int .i64 k,.slice A m c])
 have HQB:=Lh (by rw [←hwB,←hg];exact Blk.new wA 39 _:Blk wB (w.heap.size+1) 39 #[.int .i64 0,.slice none 0 0])
 have HBB:=Lh (by rw [←hwB];exact HB0.out.alloc HB0.out.size _:Below w.heap.size w wB)
 have HRB:=Lh (show Bs wB.drew A body from HR.out.later HBB.out.drew)
 have hsB:=HQB.out.lt
 generalize hg2:w.heap.size+1=g2 at *
 have hg12:w.heap.size<g2:=by omega
 have p0:=HPB.out.cell 0
 have p1:=HPB.out.cell 1
 simp only [Zt,Zz,Zs] at p0 p1
 have hne:w.heap.size≠g2:=by omega
 clear hwA hwB hg2 HP0 HB0
 go_region_held3 (fun w'=>w'.cell? ⟨w.heap.size,0,none⟩=some (.int .i64 k)∧w'.cell? ⟨w.heap.size,1,none⟩=some (.slice A m c)) (first|(exact ⟨p0,p1⟩)|(exact ⟨y0,y1⟩)|(exact ⟨(cell_set2 _ _ _ _ _ _ _ _ hne).trans y0,(cell_set2 _ _ _ _ _ _ _ _ hne).trans y1⟩)) (first|(go_at_call 58;refine (HCl.out wB.drew HRB.out).mono ?_;rintro e w3 ⟨A3,c3,rfl,hA3,hown3,hb3⟩;have hP3:=Blk.later (show Blk wB.drew w.heap.size 39 #[.int .i64 k,.slice A m c] from HPB.out) hb3;have hQ3:=Blk.later (show Blk wB.drew g2 39 #[.int .i64 0,.slice none 0 0] from HQB.out) hb3;have y0:=hP3.cell 0;have y1:=hP3.cell 1;have z0:=hQ3.cell 0;have z1:=hQ3.cell 1;have f0:=hQ3.frozen 0;have f1:=hQ3.frozen 1;simp only [Zt,Zz,Zs] at y0 y1 z0 z1))
 go_wp2
 have hne3:bk A3≠some g2:=fun e=>by have:=(Own.lt hown3 e).1;have h:g2<wB.drew.heap.size:=hsB;omega
 have hb3':Below w.heap.size w w3:=HBB.out.drew.trans (hb3.mono (Nat.le_of_lt (Nat.lt_trans hg12 hsB)))
 refine bodyPost_ret (results_cell_row rfl _ _ g2 39 _ (0,0) _ rfl (Blk.set (Blk.set hQ3 0 (.int .i64 k)) 1 (.slice A3 m c3)) Tryz.underlying39 rfl (by kernel_rfl)) rfl ⟨A3,c3,rfl,hA3,?_,?_⟩
 ·exact Own.mono (Own.setCell (Own.setCell hown3 (p:=⟨g2,0,none⟩) hne3 _) (p:=⟨g2,1,none⟩) hne3 _) (Nat.le_of_lt (Nat.lt_trans hg12 hsB))
 ·exact (hb3'.setCell (Nat.le_of_lt hg12) _).setCell (Nat.le_of_lt hg12) _
theorem MapT.step_del {κ α:Type} (T:MapT κ α) {w:World} {ops:Array Oper} {o:Oper} {a:Act} {K:Act→World→Prop} {Q:Exit→Act→World→Prop} {E':Prop} (hgd:o.guard=none) (m x:Operand)
 (ho:o.op=.call { callee:=.builtin .delete,args:=#[m,x],argTypes:=#[T.mt,T.kt] }) (b n:Nat) (f:κ→Option α) (hm:a.eval m=.map (some b)) (hown:T.At w b n f) (p:κ) (hp:T.may p) (hx:a.eval x=T.kv p) (dec:DecidableEq κ)
 (h:∀ w',T.At w' b (if (f p).isSome then n-1 else n) (fun y=>if y=p then none else f y)→w.grownBy w' (some b)→K (a.put o.dst (.tuple #[])) w'):
 if Region.wanted o (yielded ops a.tmps)=true then Oper.wp Tryz.prog o a w K Q else E':=by
 have hw:Region.wanted o (yielded ops a.tmps)=true:=by simp [Region.wanted,hgd]
 rw [if_pos hw]
 obtain ⟨w',hrun,h2,h3⟩:=hown.del_run hp dec o.type
 unfold Oper.wp execOp
 simp only [ho,resolve,invoke,builtin,Sem.run_bind,Sem.run_pure,Result.andThen_ok,List.map_toArray,List.map_cons,List.map_nil,hm,hx,hrun]
 exact h w' h2 h3
def Cch.rowV (c:Cch) (d:Dsk) (s:Sl):Array Value:=#[.pointer (some ⟨d.g,0,none⟩),.int .i64 (c.room:Int),.map (some c.gB),.map (some c.gY),.slice s.p s.n s.c]
def Cch.w2 (c:Cch):Fp:=fun b=>b=c.g∨b=c.gB∨bk c.ord.p=some b
def Cch.w1 (c:Cch):Fp:=fun b=>b=c.g∨bk c.ord.p=some b
structure AkP (c:Cch) (d:Dsk) (gb n:Nat) (wA W:World) (s:Sl) (l:List Nat):Prop where
 row:Blk W c.g 87 (c.rowV d c.ord)
 box:W.cell? ⟨gb,0,none⟩=some (.int .i64 (n:Int))
 own:OwnO W s.p s.n s.c l
 chg:Chg c.w1 wA W
 at_:∀ q,bk s.p=some q→bk c.ord.p=some q∨wA.heap.size≤q
theorem AkP.below {c:Cch} {d:Dsk} {gb n:Nat} {wA W W':World} {s:Sl} {l:List Nat} (h:AkP c d gb n wA W s l) (hb:Below W.heap.size W W'):AkP c d gb n wA W' s l:=
 ⟨h.row.later hb,(hb.cell (World.block_lt_of_cell? W _ h.box)).trans h.box,h.own.below hb,h.chg.trans (Chg.of_below hb) (fun _ _ h=>h),h.at_⟩
theorem AkP.grown {c:Cch} {d:Dsk} {gb n:Nat} {wA W W':World} {s s':Sl} {l l':List Nat} (h:AkP c d gb n wA W s l) (hg:W.grownBy W' (bk c.ord.p)) (h1:bk c.ord.p≠some c.g) (h2:bk c.ord.p≠some gb) (ho:OwnO W' s'.p s'.n s'.c l')
 (ha:∀ q,bk s'.p=some q→bk c.ord.p=some q∨wA.heap.size≤q):AkP c d gb n wA W' s' l':=
 ⟨(hg.block c.g h.row.lt (fun e=>h1 e.symm)).trans h.row,(cell_same (hg.block gb (World.block_lt_of_cell? W _ h.box) (fun e=>h2 e.symm))).trans h.box,ho,h.chg.tr (Chg.of_grown hg (fun b hb _=>.inr hb)),ha⟩
theorem cacheAsked (c:Cch) (d:Dsk) (n:Nat) (w:World) (h:c.Mem d w) (hi:c.Inv d) (hn1:50≤n) (hn2:n<d.N) (hd:c.dty n=none):
 Calls Tryz.prog 49 #[.pointer (some ⟨c.g,0,none⟩),.int .i64 (n:Int)] w fun e w'=>e=.returned (.tuple #[])∧∃ (s:Sl) (L:List Nat) (f:Nat→Option Bx) (nB:Nat),
  ({ c with ord:=s,ol:=L,blk:=f,nB:=nB }:Cch).Mem d w'∧Chg c.w2 w w'∧(∀ q,bk s.p=some q→bk c.ord.p=some q∨w.heap.size≤q)∧L.length≤c.room∧(∀ y x,f y=some x→c.blk y=some x)∧(∀ y,f y=c.blk y∨(f y=none∧c.dty y=none))∧(∀ x,x∈L→x∈c.ol∨x=n):=by
 have hN:=h.dsk.hN
 have hNn:n<4611686018427387904:=by omega
 have hol:∀ x∈c.ol,x<4611686018427387904:=fun x hx=>by have:=(hi.ol x hx).2.1;omega
 have hln:=hi.ln
 have hr2:=hi.r2
 have hoN:=h.own.length
 have HM:=Lh h
 have HB0:=Lh ((Below.refl w.heap.size w).alloc nL (.cells #[.int .i64 (n:Int)] 3))
 have hgb:∀ b,c.wr b→b≠w.heap.size:=fun b hb e=>by have:=h.wr_lt hb;omega
 have hgbo:bk c.ord.p≠some w.heap.size:=fun e=>hgb _ (.inr (.inr (.inr e))) rfl
 have hgg:c.g<w.heap.size:=h.wr_lt (.inl rfl)
 have HOl:=Lh hol
 clear h hol
 go_enter Tryz.func49,Tryz.ntmps49
 go_wp2_with fail
 obtain ⟨wA,hwA⟩:∃ x,w.alloc (.cells #[.int .i64 (n:Int)] 3)=x:=⟨_,rfl⟩
 rw [hwA] at HB0 ⊢
 have HBx:=Lh (by rw [←hwA];exact Blk.new w 3 _:Blk wA w.heap.size 3 #[.int .i64 (n:Int)])
 have HMA:=Lh (HM.out.later HB0.out)
 have hsA:w.heap.size<wA.heap.size:=HBx.out.lt
 have HP0:=Lh (⟨HMA.out.row,by have:=HBx.out.cell 0;simpa using this,HMA.out.own,Chg.refl _ _,fun q hq=>.inl hq⟩:AkP c d w.heap.size n wA wA c.ord c.ol)
 generalize hgbx:w.heap.size=gb at *
 have PA1:=Lh (show AkP c d gb n wA wA.drew c.ord c.ol from HP0.out.below (Below.refl _ wA).drew)
 have PA2:=Lh (show AkP c d gb n wA (wA.alloc (.cells #[.int .i64 (n:Int)] 3)).drew c.ord c.ol from HP0.out.below ((Below.refl _ wA).alloc nL _).drew)
 have x1:wA.drew.cell? ⟨c.g,4,none⟩=some (.slice c.ord.p c.ord.n c.ord.c):=by have:=PA1.out.row.cell 4;simpa [Cch.rowV] using this
 have x2:(wA.alloc (.cells #[.int .i64 (n:Int)] 3)).drew.cell? ⟨c.g,4,none⟩=some (.slice c.ord.p c.ord.n c.ord.c):=by have:=PA2.out.row.cell 4;simpa [Cch.rowV] using this
 have ha4:=HM.out.a4.1
 have HDel:=Lh (fun (W:World) (hP:AkP c d gb n wA W c.ord c.ol)=>delAsked c.ord.p c.ord.n c.ord.c gb n c.ol W hP.own (by omega) hP.box hgbo hNn HOl.out)
 have HStep:=Lh (fun (W w2:World) (m:Nat) (hP:AkP c d gb n wA W c.ord c.ol) (hO:OwnO w2 c.ord.p m c.ord.c (c.ol.filter (fun x=>decide (x≠n)))) (hg:W.grownBy w2 (bk c.ord.p))=>(hP.grown hg ha4 hgbo (s':=⟨c.ord.p,m,c.ord.c⟩) hO (fun q hq=>.inl hq):AkP c d gb n wA w2 ⟨c.ord.p,m,c.ord.c⟩ (c.ol.filter (fun x=>decide (x≠n)))))
 have hfl:=List.length_filter_le (fun x=>decide (x≠n)) c.ol
 obtain ⟨L0,hL0⟩:∃ L,c.ol.filter (fun x=>decide (x≠n))=L:=⟨_,rfl⟩
 rw [hL0] at hfl HStep HDel
 have HL0:=Lh (fun x (hx:x∈L0)=>(by rw [←hL0] at hx;exact (List.mem_filter.1 hx).1:x∈c.ol))
 clear hL0 hwA
 have hcgb:c.g≠gb:=by omega
 have N2:=Lh (fun (w2:World) (hg:(wA.alloc (.cells #[.int .i64 (n:Int)] 3)).drew.grownBy w2 (bk c.ord.p))=>((cell_same (hg.block wA.heap.size (by show wA.heap.size<(wA.alloc (.cells #[.int .i64 (n:Int)] 3)).heap.size;simp) (fun e=>by have:=HMA.out.own.lt e.symm;omega))).trans (World.cell?_alloc_at _ _ _ _ rfl):w2.cell? ⟨wA.heap.size,0,none⟩=some (natv n)))
 have H3:=Lh (fun (W w3:World) (m:Nat) (A':OA) (c':Nat) (hP:AkP c d gb n wA W ⟨c.ord.p,m,c.ord.c⟩ L0) (hO:OwnO w3 A' (m+1) c' (L0++[n])) (hg:W.grownBy w3 (bk c.ord.p)) (hn:NewTo W c.ord.p A')=>(hP.grown hg ha4 hgbo (s':=⟨A',m+1,c'⟩) hO (fun q hq=>by
  rcases hn with h|⟨k,h,hk⟩
  ·exact .inl (by rw [←h];exact hq)
  ·have hq:bk A'=some q:=hq
   rw [h] at hq;cases hq
   exact .inr (Nat.le_trans hP.chg.size hk)):AkP c d gb n wA w3 ⟨A',m+1,c'⟩ (L0++[n])))
 have Hc4:=Lh (fun (w3:World) (s:Sl) (l:List Nat) (hP:AkP c d gb n wA w3 s l)=>(by have:=hP.row.cell 4;simpa [Cch.rowV] using this:w3.cell? ⟨c.g,4,none⟩=some (.slice c.ord.p c.ord.n c.ord.c)))
 refine Code.wp_mono (Q:=fun e a w4=>e=.normal∧∃ (w3:World) (A':OA) (m c':Nat) (u12:Value),a=⟨#[.pointer (some ⟨c.g,0,none⟩),.int .i64 (n:Int),undef,.pointer (some ⟨gb,0,none⟩),.pointer (some ⟨c.g,0,none⟩),.pointer (some ⟨c.g,0,none⟩),.pointer (some ⟨c.g,0,none⟩),.pointer (some ⟨c.g,4,none⟩),.slice c.ord.p c.ord.n c.ord.c,.func (.func 80) #[] #[.pointer (some ⟨gb,0,none⟩)],.slice c.ord.p m c.ord.c,.int .i64 (n:Int),u12,.slice A' (m+1) c',.pointer (some ⟨c.g,0,none⟩),.pointer (some ⟨c.g,4,none⟩),undef,undef,undef,undef,undef,undef,undef,undef,undef,undef,undef,undef,undef,undef,undef,undef,undef,undef,undef,undef,undef,undef,undef,undef,undef,undef,undef,undef],[]⟩∧w4=w3.setCell ⟨c.g,4,none⟩ (.slice A' (m+1) c')∧AkP c d gb n wA w3 ⟨A',m+1,c'⟩ (L0++[n])) ?imp ?reg
 case reg=>
  have bx1:=PA1.out.box
  have bx2:=PA2.out.box
  refine wp_region_noPanic ?_
  go_region_law
   (first|(rw [if_pos (by rfl)];go_simp;go_at_call 56;refine (HDel.out wA.drew PA1.out).mono ?_;rintro e w2 ⟨m,rfl,hO2,hg2⟩;have P2:=Lh (HStep.out wA.drew w2 m PA1.out hO2 hg2);have bx3:=P2.out.box)|(rw [if_pos (by rfl)];go_simp;go_at_call 56;refine (HDel.out _ PA2.out).mono ?_;rintro e w2 ⟨m,rfl,hO2,hg2⟩;have P2:=Lh (HStep.out _ w2 m PA2.out hO2 hg2);have bx3:=P2.out.box;have n2:=N2.out w2 hg2)|(refine OwnO.step_append rfl _ _ rfl c.ord.p m c.ord.c L0 n rfl P2.out.own wA.heap.size 0 1 rfl n2 (by have:=P2.out.own.length;simp only at this;omega) ?_;intro A' c' w3 hO3 hg3 hn3;have P3:=Lh (H3.out w2 w3 m A' c' P2.out hO3 hg3 hn3);have y4:=Hc4.out w3 _ _ P3.out;have f4:=P3.out.row.frozen 4)|(refine OwnO.step_append rfl _ _ rfl c.ord.p m c.ord.c L0 n rfl (P2.out.below ((Below.refl _ w2).alloc nL _)).own w2.heap.size 0 1 rfl (World.cell?_alloc_at _ _ _ _ rfl) (by have:=P2.out.own.length;simp only at this;omega) ?_;intro A' c' w3 hO3 hg3 hn3;have P3:=Lh (H3.out _ w3 m A' c' (P2.out.below ((Below.refl _ w2).alloc nL _)) hO3 hg3 hn3);have y4:=Hc4.out w3 _ _ P3.out;have f4:=P3.out.row.frozen 4))
  all_goals exact NoPanic.normal ⟨rfl,w3,A',m,c',_,rfl,rfl,P3.out⟩
 case imp=>
  clear PA1 PA2 x1 x2 HDel HStep N2 H3 Hc4 HBx HP0
  rintro e a w4 ⟨rfl,w3,A',m,c',u12,rfl,hw4,hP3⟩
  have HP4:=Lh (⟨by rw [hw4];have:=Blk.set hP3.row 4 (.slice A' (m+1) c');simpa [Cch.rowV] using this,by rw [hw4];exact hP3.own.chg (Chg.setCell (F:=fun b=>b=c.g) _ _ _ rfl) (fun k hk e=>by
   subst e
   rcases hP3.at_ _ hk with h|h
   ·exact ha4 h
   ·have:=HMA.out.row.lt;omega),by rw [hw4];exact hP3.chg.tr (Chg.setCell _ _ _ (.inl rfl)),hP3.at_⟩:Blk w4 c.g 87 (c.rowV d ⟨A',m+1,c'⟩)∧OwnO w4 A' (m+1) c' (L0++[n])∧Chg c.w1 wA w4∧∀ q,bk A'=some q→bk c.ord.p=some q∨wA.heap.size≤q)
  clear hw4 hP3
  have hm1:=HP4.out.2.1.length
  rw [Zl,List.length_singleton] at hm1
  have hml:m+1≤1025:=by omega
  have HMAr:=Lh HMA.out.row.lt
  clear HMA
  go_wp2_with fail
  have HMB:=Lh (HM.out.mB)
  have HA0:=Lh HB0.out
  go_loopg [16] (m+1) (fun gg s16 wr=>∃ (s:Sl) (L:List Nat) (f:Nat→Option Bx) (nB:Nat),L.length≤gg∧Blk wr c.g 87 (c.rowV d s)∧OwnO wr s.p s.n s.c L∧BlkT.At wr c.gB nB f∧Chg c.w2 wA wr ∧
   (∀ q,bk s.p=some q→bk c.ord.p=some q∨wA.heap.size≤q)∧L.length≤1025∧(∀ y x,f y=some x→c.blk y=some x)∧(∀ y,f y=c.blk y∨(f y=none∧c.dty y=none))∧(∀ x,x∈L→x∈c.ol∨x=n))
  case atStart=>
   refine ⟨⟨A',m+1,c'⟩,L0++[n],c.blk,c.nB,?_,HP4.out.1,HP4.out.2.1,?_,HP4.out.2.2.1.mono (fun b _ hb=>hb.imp id .inr),HP4.out.2.2.2,?_,fun _ _ h=>h,fun _=>.inl rfl,fun x hx=>?_⟩
   ·rw [Zl,List.length_singleton];omega
   ·exact (HMB.out.below (by rw [hgbx];exact HA0.out)).chg HP4.out.2.2.1 (fun e=>e.elim (fun e=>HM.out.a1 e.symm) HM.out.a4.2.1)
   ·rw [Zl,List.length_singleton];omega
   ·rcases List.mem_append.1 hx with h|h
    ·exact .inl (HL0.out x h)
    ·exact .inr (List.mem_singleton.1 h)
  case round=>
   obtain ⟨s,L,f,nB,hgL,hrow,hO,hAt,hch,hat,hL1,hsub,hcl,hmem⟩:=hrel
   have HO:=Lh hO
   have HAt:=Lh hAt
   have HRow:=Lh hrow
   have HF:=Lh (⟨hch,hat,hsub,hcl,hmem⟩:Chg c.w2 wA wr∧(∀ q,bk s.p=some q→bk c.ord.p=some q∨wA.heap.size≤q)∧(∀ y x,f y=some x→c.blk y=some x)∧(∀ y,f y=c.blk y∨(f y=none∧c.dty y=none))∧(∀ x,x∈L→x∈c.ol∨x=n))
   have hLn:=hO.length
   have hcp:=hO.cap
   have k1:wr.cell? ⟨c.g,1,none⟩=some (.int .i64 (c.room:Int)):=by have:=hrow.cell 1;simpa [Cch.rowV] using this
   have k4:wr.cell? ⟨c.g,4,none⟩=some (.slice s.p s.n s.c):=by have:=hrow.cell 4;simpa [Cch.rowV] using this
   have hga1:=HM.out.a1
   have hsne:∀ q,bk s.p=some q→q≠c.g∧q≠c.gB:=fun q hq=>by
    rcases hat q hq with h|h
    ·exact ⟨fun e=>HM.out.a4.1 (by rw [h,e]),fun e=>HM.out.a4.2.1 (by rw [h,e])⟩
    ·have h1:=HMAr.out
     have h2:=HM.out.wr_lt (b:=c.gB) (.inr (.inl rfl))
     have h3:=HA0.out.size
     exact ⟨fun e=>by omega,fun e=>by omega⟩
   have Hsne:=Lh hsne
   clear hO hAt hrow hch hat hsub hcl hmem hsne
   go_wp2_with fail
   go_still (by kernel_rfl)
   change Exit.then _ _ _ _ wr.drew
   have HO:=Lh (show OwnO wr.drew s.p s.n s.c L from HO.out.below (Below.refl _ wr).drew)
   have HAt:=Lh (show BlkT.At wr.drew c.gB nB f from HAt.out)
   have HRow:=Lh (show Blk wr.drew c.g 87 (c.rowV d s) from HRow.out)
   have HF:=Lh (show Chg c.w2 wA wr.drew∧_ from ⟨HF.out.1.tr (Chg.drew _ _),HF.out.2⟩)
   clear k1 k4
   generalize wr.drew=wd at *
   have k2:wd.cell? ⟨c.g,2,none⟩=some (.map (some c.gB)):=by have:=HRow.out.cell 2;simpa [Cch.rowV] using this
   have k4:wd.cell? ⟨c.g,4,none⟩=some (.slice s.p s.n s.c):=by have:=HRow.out.cell 4;simpa [Cch.rowV] using this
   by_cases hlt:c.room<s.n
   ·have i1:(c.room:Int)<s.n:=by omega
    cases L with
    | nil=>simp at hLn;omega
    | cons x L'=>
      have hxn:x<4611686018427387904:=by
       rcases HF.out.2.2.2.2 x (by simp) with h|h
       ·exact HOl.out x h
       ·omega
      obtain ⟨b,o,x',hsp,hx',hcx⟩:=Ns.at_ HO.out.ns (k:=0) (by simp)
      cases hx'
      rw [Nat.add_zero] at hcx
      have hcxl:=World.block_lt_of_cell? wd _ hcx
      have hbne:=Hsne.out b (by rw [hsp];rfl)
      have hk0:(0:Int)<s.n:=by omega
      have Hkeep:=Lh (fun (w5:World) (hg:wd.grownBy w5 (some c.gB))=>(⟨(cell_same (hg.block c.g HRow.out.lt (fun e=>hga1 (by simpa using e)))).trans k2,(cell_same (hg.block c.g HRow.out.lt (fun e=>hga1 (by simpa using e)))).trans k4,(cell_same (hg.block b hcxl (fun e=>hbne.2 (by simpa using e)))).trans hcx⟩:w5.cell? ⟨c.g,2,none⟩=some (.map (some c.gB))∧w5.cell? ⟨c.g,4,none⟩=some (.slice s.p s.n s.c)∧w5.cell? ⟨b,o,none⟩=some (.int .i64 (x:Int))))
      have Hlt:=Lh hlt
      have Hgl:=Lh hgL
      have Hsp:=Lh hsp
      obtain ⟨sp,sn,sc⟩:=s
      simp only at hsp hk0 i1 k4 hLn hcp
      subst hsp
      go_wp2_with fail
      have hk0b:(0:Int)<(sn:Int):=by omega
      have hk0c:0<sn:=by omega
      go_region_held3 (fun W=>W.cell? ⟨c.g,2,none⟩=some (.map (some c.gB))∧W.cell? ⟨c.g,4,none⟩=some (.slice (some ⟨b,o,none⟩) sn sc)∧W.cell? ⟨b,o,none⟩=some (.int .i64 (x:Int))) (first|(exact ⟨k2,k4,hcx⟩)|(exact Hkeep.out w5 hg5)) (first|(refine BlkT.step_del rfl _ _ rfl c.gB nB f rfl HAt.out x hxn rfl inferInstance ?_;intro w5 hAt5 hg5d;have hg5:wd.grownBy w5 (some c.gB):=⟨hg5d.os,hg5d.tape,hg5d.output,hg5d.size,hg5d.block⟩))
      have HRow5:=Lh (show Blk w5 c.g 87 (c.rowV d ⟨some ⟨b,o,none⟩,sn,sc⟩) from (hg5.block c.g HRow.out.lt (fun e=>hga1 (by simpa using e))).trans HRow.out)
      have HO5:=Lh (show OwnO w5 (some ⟨b,o,none⟩) sn sc (x::L') from HO.out.same (fun k hk=>hg5.block k (HO.out.lt hk) (fun e=>(Hsne.out k hk).2 (by simpa using e))))
      have HC5:=Lh (show Chg c.w2 wA w5 from HF.out.1.tr (Chg.of_grown hg5 (fun b hb _=>by cases hb;exact .inr (.inl rfl))))
      have HAt5:=Lh hAt5
      have k4':=(Hkeep.out w5 hg5).2.1
      have f4:=HRow5.out.frozen 4
      clear hg5 hg5d hAt5 k2 k4 hcx HRow HO HAt
      go_wp2_with (first|(refine wpList_slice_lo rfl _ _ elemN rfl (some ⟨b,o,none⟩) sn sc 1 rfl rfl (by omega) ?_))
      go_roundg L'.length
      case measure=>
       have:=Hgl.out
       rw [List.length_cons] at this
       omega
      case rel=>
       have hF:=HF.out
       rw [List.length_cons] at hL1 hLn
       have hO6:OwnO w5 (cutA (some ⟨b,o,none⟩) sc 1) (sn-1) (sc-1) L':=by
        obtain ⟨q,hq⟩:∃ q,q+1=sn:=⟨sn-1,by omega⟩
        have h:=HO5.out
        rw [←hq] at h ⊢
        rw [Nat.add_sub_cancel]
        exact h.tail
       refine ⟨⟨cutA (some ⟨b,o,none⟩) sc 1,sn-1,sc-1⟩,L',_,_,Nat.le_refl _,?_,hO6.chg (Chg.setCell (F:=fun b=>b=c.g) _ _ _ rfl) (fun k hk e=>by
        rw [bk_cut] at hk
        exact (Hsne.out k hk).1 e),HAt5.out.chg (Chg.setCell (F:=fun b=>b=c.g) _ _ _ rfl) (fun e=>hga1 e.symm),HC5.out.tr (Chg.setCell _ _ _ (.inl rfl)),?_,by omega,?_,?_,fun y hy=>hF.2.2.2.2 y (List.mem_cons_of_mem _ hy)⟩
       ·have:=Blk.set HRow5.out 4 (.slice (cutA (some ⟨b,o,none⟩) sc 1) (sn-1) (sc-1))
        simpa [Cch.rowV] using this
       ·intro q hq
        rw [bk_cut] at hq
        exact hF.2.1 q hq
       ·intro y z hz
        by_cases e:y=x
        ·rw [if_pos e] at hz;cases hz
        ·rw [if_neg e] at hz;exact hF.2.2.1 y z hz
       ·intro y
        by_cases e:y=x
        ·rw [if_pos e,e]
         refine .inr ⟨rfl,?_⟩
         rcases hF.2.2.2.2 x (by simp) with h|h
         ·exact (hi.ol x h).2.2
         ·rw [h];exact hd
        ·rw [if_neg e];exact hF.2.2.2.1 y
   ·have i1:¬(c.room:Int)<s.n:=by omega
    have hde:decide (c.room<s.n)=false:=qF hlt
    go_wp2
    go_end0
    refine ⟨rfl,s,L,f,⟨nB,?_⟩,?_,?_,by omega,HF.out.2.2.1,HF.out.2.2.2.1,HF.out.2.2.2.2⟩
    ·have hcw:Chg c.w2 w wd:=(Chg.of_below (by rw [hgbx];exact HA0.out)).trans HF.out.1 (fun _ _ h=>h)
     refine HM.out.step (hcw.mono (fun b _ hb=>?_)) rfl rfl rfl HRow.out HAt.out (HM.out.mY.chg hcw ?_) HO.out ?_ (fun y x hx=>.inl ⟨HF.out.2.2.1 y x hx,rfl⟩)
     ·rcases hb with h|h|h
      ·exact .inl h
      ·exact .inr (.inl h)
      ·exact .inr (.inr (.inr h))
     ·rintro (h|h|h)
      ·exact HM.out.a2 h.symm
      ·exact HM.out.a3 h.symm
      ·exact HM.out.a4.2.2 h
     ·intro q hq
      rcases HF.out.2.1 q hq with h|h
      ·exact .inl h
      ·have:=HA0.out.size;exact .inr (by omega)
    ·exact (Chg.of_below (by rw [hgbx];exact HA0.out)).trans HF.out.1 (fun _ _ h=>h)
    ·intro q hq
     rcases HF.out.2.1 q hq with h|h
     ·exact .inl h
     ·have:=HA0.out.size;exact .inr (by omega)
end Go.Proofs.YtiihiocgbfafaaaGreat
