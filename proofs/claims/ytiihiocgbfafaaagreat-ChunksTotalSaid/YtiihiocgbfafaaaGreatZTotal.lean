/-
  The law ChunksTotal holds for every input: no blocks make Load or Blocks panic, and no more is told than was asked.
-/
import Derived.Test.YtiihiocgbfafaaaGreatKKn
import Derived.Deep.RegionHeld3
import Derived.ProofKit
import Derived.OpenShut
import Derived.Deep.DeepHandedRow
import Derived.Deep.SlicePairs
import Derived.Lib.SmallJoins
set_option linter.unusedSimpArgs false
set_option linter.unusedVariables false
set_option maxHeartbeats 8000000
set_option maxRecDepth 100000
namespace Go.Proofs.YtiihiocgbfafaaaGreat
open Go.RowKit Go.Maps
def blocksPost (c:Cch) (d:Dsk) (b:Nat) (len:Int) (w:World) (e:Ending) (w':World):Prop:=
 ∃ c',c.Next c' d w w'∧match readL (c.view d) b len with
   | some (bs,_)=>∃ A n cc,e=.returned (.tuple #[.slice A n cc,.int .i64 0])∧bs.length=n∧OwnN w' w.heap.size A n cc bs∧∀ q,bk A=some q→¬c'.fp d q
   | none=>∃ E:Int,E≠0∧e=.returned (.tuple #[.slice none 0 0,.int .i64 E])
theorem chunksBlocks (sg:Nat) (c:Cch) (d:Dsk) (b:Nat) (len:Int) (w:World) (h:c.Mem d w) (hi:c.Inv d) (hb:b≤65535) (hs:w.cell? ⟨sg,0,none⟩=some (.pointer (some ⟨c.g,0,none⟩))) (hsg:¬c.fp d sg):
 Calls Tryz.prog 12 #[.pointer (some ⟨sg,0,none⟩),.agg #[.int .i64 (b:Int),.int .i64 len]] w (blocksPost c d b len w):=by
 have hsl:sg<w.heap.size:=World.block_lt_of_cell? w _ hs
 obtain ⟨wA,hwA⟩:∃ x,w.alloc (.cells #[.int .i64 (b:Int),.int .i64 len] 24)=x:=⟨_,rfl⟩
 have HB0:=Lh (by rw [←hwA];exact (Below.refl w.heap.size w).alloc nL (.cells #[.int .i64 (b:Int),.int .i64 len] 24):Below w.heap.size w wA)
 have HW0:=Lh (by rw [←hwA];exact Blk.new w 24 #[.int .i64 (b:Int),.int .i64 len]:Blk wA w.heap.size 24 #[.int .i64 (b:Int),.int .i64 len])
 have HRead:=Lh (chunksRead sg c d b len wA (h.later HB0.out) hi hb ((HB0.out.cell hsl).trans hs) hsg)
 obtain ⟨R,hR⟩:∃ R,blocksPost c d b len w=R:=⟨_,rfl⟩
 rw [hR]
 have HRe:=Lh hR
 clear h hi hR hs hsg
 have p0:=HW0.out.cell 0
 have p1:=HW0.out.cell 1
 simp only [Zt,Zz,Zs] at p0 p1
 go_enter Tryz.func12,Tryz.ntmps12
 go_wp2_with fail
 clear hwA p0 p1
 refine HRead.out.mono ?_
 rintro e w1 ⟨c',hN,hm⟩
 have HN1:=Lh (hN.before HB0.out)
 clear hN HRead
 cases hr:readL (c.view d) b len with
 | none=>
   rw [hr] at hm
   obtain ⟨E,hE,rfl⟩:=hm
   have HRr:=Lh hr
   clear hr
   go_wp2
   rw [←HRe.out]
   refine ⟨c',HN1.out,?_⟩
   rw [HRr.out]
   exact ⟨E,hE,rfl⟩
 | some y=>
   obtain ⟨bs,out⟩:=y
   rw [hr] at hm
   obtain ⟨A1,n1,c1,A2,n2,c2,rfl,h1,h2,h3,-⟩:=hm
   have HRr:=Lh hr
   have HH:=Lh (⟨h1,Own.mono h2 HB0.out.size,h3⟩:bs.length=n1∧OwnN w1 w.heap.size A1 n1 c1 bs∧∀ q,bk A1=some q→¬c'.fp d q)
   clear hr h1 h2 h3
   go_wp2
   rw [←HRe.out]
   refine ⟨c',HN1.out,?_⟩
   rw [HRr.out]
   exact ⟨A1,n1,c1,rfl,HH.out⟩
theorem lawPick (c:Int) (n:Nat) (w:World) (h1:-9223372036854775808≤c) (h2:c≤9223372036854775807) (hn:0<n) (hn2:n≤1000000000):
 Calls Tryz.prog 10 #[.int .i64 c,.int .i64 (n:Int)] w fun e w'=>w'=w∧∃ k:Nat,k<n∧e=.returned (.int .i64 (k:Int)):=by
 have key:∀ x:Int,0≤x→x≤9223372036854775807→∃ k:Nat,k<n∧x.tmod (n:Int)=(k:Int):=fun x hx _=>by
  refine ⟨x.toNat%n,Nat.mod_lt _ hn,?_⟩
  rw [Int.tmod_eq_emod_of_nonneg hx,Int.natCast_emod,Int.toNat_of_nonneg hx]
 by_cases hc:c<0
 ·have e1:IntKind.i64.wrap (c+1)=c+1:=wrapi64 (by omega) (by omega)
  have e2:IntKind.i64.wrap (-(c+1))=-(c+1):=wrapi64 (by omega) (by omega)
  obtain ⟨k,hk,hm⟩:=key (-(c+1)) (by omega) (by omega)
  have hn0:¬(n:Int)=0:=by omega
  go_enter Tryz.func10,Tryz.ntmps10
  go_wp2
  go_ret
  exact ⟨rfl,k,hk,rfl⟩
 ·obtain ⟨k,hk,hm⟩:=key c (by omega) h2
  have hn0:¬(n:Int)=0:=by omega
  go_enter Tryz.func10,Tryz.ntmps10
  go_wp2
  go_ret
  exact ⟨rfl,k,hk,rfl⟩
theorem sysLoad (y:Sys) (b:Nat) (len:Int) (w:World) (h:y.Mem w) (hb:b≤65535) (hlen1:-9223372036854775808≤len) (hlen2:len≤9223372036854775807):
 Calls Tryz.prog 11 #[.pointer (some ⟨y.s.g,0,none⟩),.agg #[.int .i64 (b:Int),.int .i64 len]] w fun e w'=>∃ c',y.Step { y with c:=c' } w w'∧(∀ n,c'.view y.d n=y.c.view y.d n)∧c'.g=y.c.g ∧
  match loadL (y.c.view y.d) b len with
  | some l=>∃ A n cc,e=.returned (.tuple #[.slice A n cc,.int .i64 0])∧NewB w' w.heap.size A n cc l∧∀ q,bk A=some q→¬({ y with c:=c' }:Sys).fp q
  | none=>∃ E:Int,E≠0∧e=.returned (.tuple #[.slice none 0 0,.int .i64 E]):=by
 refine (chunksLoad y.s.g y.c y.d b len w h.cm h.ci hb hlen1 hlen2 h.sm.cells.1 (fun hf=>h.ap1 _ hf (.inl (.inl rfl)))).mono fun e w' hp=>?_
 obtain ⟨c',hn,h2⟩:=hp
 refine ⟨c',h.next hn,hn.view,hn.eg,?_⟩
 cases hl:loadL (y.c.view y.d) b len with
 | none=>rw [hl] at h2;exact h2
 | some l=>
   rw [hl] at h2
   obtain ⟨A,n,cc,h3,h4,h5⟩:=h2
   refine ⟨A,n,cc,h3,h4,fun q hq hf=>?_⟩
   have h6:=(h4.2.2.1 q hq).1
   rcases hf with hf|hf|hf
   ·exact h5 q hq hf
   ·have:=h.am.in_ q hf;omega
   ·have:=h.sm.in_ q hf;omega
theorem sysBlocks (y:Sys) (b:Nat) (len:Int) (w:World) (h:y.Mem w) (hb:b≤65535):
 Calls Tryz.prog 12 #[.pointer (some ⟨y.s.g,0,none⟩),.agg #[.int .i64 (b:Int),.int .i64 len]] w fun e w'=>∃ c',y.Step { y with c:=c' } w w'∧(∀ n,c'.view y.d n=y.c.view y.d n)∧c'.g=y.c.g ∧
  match readL (y.c.view y.d) b len with
  | some (bs,_)=>∃ A n cc,e=.returned (.tuple #[.slice A n cc,.int .i64 0])∧bs.length=n∧OwnN w' w.heap.size A n cc bs∧∀ q,bk A=some q→¬({ y with c:=c' }:Sys).fp q
  | none=>∃ E:Int,E≠0∧e=.returned (.tuple #[.slice none 0 0,.int .i64 E]):=by
 refine (chunksBlocks y.s.g y.c y.d b len w h.cm h.ci hb h.sm.cells.1 (fun hf=>h.ap1 _ hf (.inl (.inl rfl)))).mono fun e w' hp=>?_
 obtain ⟨c',hn,h2⟩:=hp
 refine ⟨c',h.next hn,hn.view,hn.eg,?_⟩
 cases hl:readL (y.c.view y.d) b len with
 | none=>rw [hl] at h2;exact h2
 | some r=>
   obtain ⟨bs,pk⟩:=r
   rw [hl] at h2
   obtain ⟨A,n,cc,h3,h4,h5,h6⟩:=h2
   refine ⟨A,n,cc,h3,h4,h5,fun q hq hf=>?_⟩
   have h7:=(Own.lt h5 hq).1
   rcases hf with hf|hf|hf
   ·exact h6 q hq hf
   ·have:=h.am.in_ q hf;omega
   ·have:=h.sm.in_ q hf;omega
theorem load_read {vw:Nat→Option Bk} {b:Nat} {len:Int} {l:List UInt8} (h:loadL vw b len=some l):∃ r,readL vw b len=some r∧(l.length:Int)=len:=by
 unfold loadL at h
 cases hr:readL vw b len with
 | none=>rw [hr] at h;cases h
 | some r=>
   obtain ⟨bs,pk⟩:=r
   rw [hr] at h
   dsimp only at h
   split at h
   ·next h2=>cases h;exact ⟨_,rfl,h2.2⟩
   ·cases h
open Go.ChangeShapes Go.WideShapes Go.ChangeAt
open Go.ChangeMaps (setBlock shut_map_nil open_string shut_string keptBut_setBlock frozen?_setBlock heap_setBlock_same)
theorem own:ownKnob Tryz.prog.godebug=none:=by kernel_rfl
noncomputable def laidWorld (os:Os):World:=World.holding Tryz.prog os ⟨#[],#[],[]⟩
theorem post_kept2 {H:Type} {enc:TypeId × Value→H} {f:Func} {s:ChangeSpec} {W W':World} {args:Array Value} {v:Value} {ds:List (DataW H)} {before:List MemPlace}
 (hW:DataW.Whole enc Tryz.prog f.params.toList s.vars false W args.toList ds [] before) (hv:s.vars=[])
 (hres:∀ (b:Nat) (sp:Nat→Bool) (hd:Bool),DataW.TrodAll enc Tryz.prog W' b sp hd f.resultTypes.toList (v.resultList f.resultTypes.size) (s.fn H (ds++[])).results [])
 (hargs:DataW.TrodAll enc Tryz.prog W' 0 (fun b=>decide (b<W.heap.size)) true f.params.toList args.toList (s.fn H (ds++[])).args before)
 (hvars:(s.fn H (ds++[])).vars=[]) (hb:Below W.heap.size W W'):
 s.post enc Tryz.prog f false true false false W args v W':=by
 refine ⟨ds,[],before,[],before,[],hW,hres _ _ _,hargs,?_,hb.frame _ |> World.keptBut_mono (fun p hp=>⟨hp,.inr (.inl hp)⟩),fun h=>by cases h⟩
 rw [hv,hvars]
 exact rfl
theorem cells_u8:Tryz.prog.cellsOf 5=1:=by kernel_rfl
theorem laidOut:laidOutB Tryz.prog=true:=by kernel_rfl
theorem cells_Block:Tryz.prog.cellsOf 39=2:=by kernel_rfl
theorem cells_bytes:Tryz.prog.cellsOf 37=1:=by kernel_rfl
theorem cells_int:Tryz.prog.cellsOf 3=1:=by kernel_rfl
theorem cells_Chunk:Tryz.prog.cellsOf 24=2:=by kernel_rfl
theorem readable_blocks:Tryz.prog.readableRec 22=true:=by kernel_rfl
theorem row_blocks:(22:Nat)<Tryz.prog.types.size:=of_decide_eq_true (by kernel_rfl)
theorem readable_Chunk:Tryz.prog.readableRec 24=true:=by kernel_rfl
theorem row_Chunk:(24:Nat)<Tryz.prog.types.size:=of_decide_eq_true (by kernel_rfl)
theorem cell_bytes {H:Type} {enc:TypeId × Value→H} {W:World} {base:Nat} {spare:Nat→Bool} {held:Bool} {f:Nat} {v:Value} {x:DataW H × List MemPlace} (hs:∀ b,spare b=true) (hf:DataW.trod enc Tryz.prog W base spare held f 37 [v]=some x):
 ∃ A n c l,v=.slice A n c∧l.length=n∧Bs W A l∧n≤c∧c≤9223372036854775807∧(A=none→n=0∧c=0)∧(0<n→∀ b,bk A=some b→b<W.heap.size):=by
 rcases open_ints Tryz.underlying37 Tryz.underlying5 cells_u8 hf with ⟨hcs,hx⟩|⟨a,len,cap,zs,hcs,_,hl,hmx,hz,hx,hcell,hwf⟩
 ·simp only [List.cons.injEq,and_true] at hcs
  subst hcs
  exact ⟨none,0,0,[],rfl,rfl,Rd.nil _ _,by omega,by omega,fun _=>⟨rfl,rfl⟩,fun h=>by omega⟩
 ·simp only [List.cons.injEq,and_true] at hcs
  subst hcs
  rw [hs,if_pos rfl] at hz
  unfold maxLen at hmx
  refine ⟨some a,len,cap,(zs.take len).map (fun z=>UInt8.ofNat z.toNat),rfl,by rw [List.length_map,List.length_take];omega,?_,hl,by omega,fun h=>(by cases h),fun h0 b hb=>?_⟩
  ·intro h0
   rw [List.length_map,List.length_map,List.length_take] at h0
   obtain ⟨b,off,spot⟩:=a
   have hspot:spot=none:=by simpa [Addr.add] using World.cell?_spot (hcell 0 (by omega))
   subst hspot
   refine ⟨b,off,rfl,fun j hj=>?_⟩
   rw [List.length_map,List.length_map,List.length_take] at hj
   have hc:=hcell j (by omega)
   have e:(⟨b,off,none⟩:Addr).add j=⟨b,off+j,none⟩:=by unfold Addr.add;split<;>simp_all
   rw [e] at hc
   have hjz:j<zs.length:=by omega
   have hw:=hwf _ (List.getElem_mem hjz)
   simp only [Lit.wf,Bool.and_eq_true,decide_eq_true_eq] at hw
   have h1:(0:Int)≤zs[j]:=hw.1
   have h2:zs[j]≤255:=hw.2
   rw [hc]
   simp only [List.getElem?_map,List.getElem?_take,List.getD,Zg hjz,Option.getD_some]
   rw [if_pos (by omega)]
   simp only [Option.map_some,u8v,UInt8.toNat_ofNat']
   congr 2
   omega
  ·cases hb
   have hc:=hcell 0 (by omega)
   have:=World.block_lt_of_cell? W _ hc
   unfold Addr.add at this
   simpa using this
def BlkArg (W:World) (A:OA) (n:Nat):Prop:=
 ∀ i,i<n→∃ b o k A' m cc l,A=some ⟨b,o,none⟩∧W.cell? ⟨b,o+i*2,none⟩=some (.int .i64 k)∧W.cell? ⟨b,o+i*2+1,none⟩=some (.slice A' m cc)∧l.length=m∧Bs W A' l∧(A'=none→m=0∧cc=0)∧(0<m→∀ q,bk A'=some q→q<W.heap.size)
theorem lawTotal (A:OA) (n cc:Nat) (cb cl:Int) (w:World) (hA:BlkArg w A n) (hcb1:-9223372036854775808≤cb) (hcb2:cb≤9223372036854775807) (hcl1:-9223372036854775808≤cl) (hcl2:cl≤9223372036854775807):
 Calls Tryz.prog 3 #[.slice A n cc,.agg #[.int .i64 cb,.int .i64 cl]] w fun e w'=>e=.returned (.bool true)∧Below w.heap.size w w':=by
 obtain ⟨R,hR⟩:∃ R,(fun (e:Ending) (w':World)=>e=.returned (.bool true)∧Below w.heap.size w w')=R:=⟨_,rfl⟩
 rw [hR]
 have HRe:=Lh hR
 have HArg:=Lh hA
 clear hR hA
 obtain ⟨wA,hwA⟩:∃ q,w.alloc (.cells #[.int .i64 cb,.int .i64 cl] 24)=q:=⟨_,rfl⟩
 have hBA:Below w.heap.size w wA:=by rw [←hwA];exact (Below.refl _ _).alloc nL _
 have hCA:Blk wA w.heap.size 24 #[.int .i64 cb,.int .i64 cl]:=by rw [←hwA];exact Blk.new w _ _
 have HBA:=Lh hBA
 have HCA:=Lh hCA
 have hsA:=hCA.lt
 have HBg:=Lh (show Calls Tryz.prog 8 #[.int .i64 20] wA _ from lawBegin 20 wA (by omega))
 clear hBA hCA
 go_enter Tryz.func3,Tryz.ntmps3
 go_wp2_with fail
 clear hwA
 refine HBg.out.mono ?_
 rintro e w1 ⟨x,gb,gr,gq,rfl,hm,hbeg,hblk,hgb,hgb1,hf,hb1⟩
 have HX1:=Lh (⟨hm,hbeg,hblk,hgb,hgb1,hf,hb1⟩:x.Mem w1∧Beg x 20∧Blk w1 gb 35 (bothV x gr gq)∧¬x.fp gb∧wA.heap.size≤gb∧(∀ b,x.fp b→wA.heap.size≤b)∧Below wA.heap.size wA w1)
 have q1:∀ w:World,(binOp .eql 25 (.pointer (some ⟨gb,0,none⟩)) (.pointer none)).run Tryz.prog w=.ok (.bool false) w:=fun _=>rfl
 have hs1:=hb1.size
 have hgl1:=hblk.lt
 have HC1:=Lh (HCA.out.later hb1)
 clear hm hbeg hblk hgb hf hb1 HBg
 go_upto_block 0 with fail
 go_cut [6] from 14 to 34 (fun s6 wx=>∃ (y:Sys),x.Step y w1 wx∧y.c.g=x.c.g)
 case first=>
  go_wp2_with fail
  go_loopg [6] (n) (fun gg s6 wr=>∃ (k:Nat) (y:Sys),k≤n∧k≤20∧n-k≤gg∧s6=.int .i64 (k:Int)∧x.Step y w1 wr∧y.c.g=x.c.g)
  case atStart=>exact ⟨0,x,by omega,by omega,by omega,rfl,Sys.Step.refl HX1.out.1 (Below.refl _ _),rfl⟩
  case round=>
   obtain ⟨k,y,hkn,hk20,hgg,rfl,hst,hcg⟩:=hrel
   have HGg:=Lh hgg
   have HSt:=Lh hst
   clear hgg hst
   by_cases hlt:k<n∧k<20
   ·obtain ⟨hlt1,hlt2⟩:=hlt
    obtain ⟨b,o,kk,A',m,c2,l,rfl,hc0,hc1,hl,hbs,hnil,hlow⟩:=HArg.out k hlt1
    have hbl:b<w.heap.size:=World.block_lt_of_cell? w _ hc0
    have hfx:∀ q,x.fp q→wA.heap.size≤q:=HX1.out.2.2.2.2.2.1
    have hfy:∀ q,q<w1.heap.size→¬x.fp q→¬y.fp q:=fun q h1 h2=>HSt.out.nf h1 h2
    have hB1:Below w.heap.size w w1:=HBA.out.trans (HX1.out.2.2.2.2.2.2.mono (by omega))
    have hBr:Below w.heap.size w wr:=hB1.trans (HSt.out.chg.below (fun q hq=>by have:=hfx q hq;omega) (by omega))
    have hbr:=Blk.chg HX1.out.2.2.1 HSt.out.chg HX1.out.2.2.2.1
    obtain ⟨E,hE⟩:∃ E,50+k=E:=⟨_,rfl⟩
    have e1:IntKind.i64.wrap (50+(k:Int))=(E:Int):=by rw [wrapi64 (by omega) (by omega)];omega
    have HPut:=Lh (by
     have h:=cachePut y.c y.d E kk A' m c2 l wr.drew (HSt.out.mem.later (Below.refl _ _).drew).cm HSt.out.mem.ci (by omega) hl (hbs.later hBr.drew) hnil (fun h0 q hq=>⟨lT (hlow h0 q hq) hBr.size,fun hf=>hfy q (by have:=hlow h0 q hq;omega) (fun hf2=>by have:=hfx q hf2;have:=hlow h0 q hq;omega) (.inl hf)⟩)
     rw [hcg] at h
     refine h.mono (fun e w' hp=>?_)
     rcases hp with ⟨E',-,rfl,hb,-⟩|⟨b',rfl,-,-,-,-,c',h1,h2,h3,h4,h5,h6,h7⟩
     ·exact ⟨E',y,rfl,Sys.Step.refl HSt.out.mem ((Below.refl _ _).drew.trans hb),hcg⟩
     ·exact ⟨0,_,rfl,((HSt.out.mem.later (Below.refl _ _).drew).upd (vw:=fun q=>if q=E then some b' else y.c.view y.d q) ⟨h1,h2,h3,h4,h5,h6,h7⟩).before (Below.refl _ _).drew,by show c'.g=x.c.g;rw [h3];exact hcg⟩:
     Calls Tryz.prog 9 #[.pointer (some ⟨x.c.g,0,none⟩),.int .i64 (E:Int),.agg #[.int .i64 kk,.slice A' m c2]] wr.drew (fun e w'=>∃ (E':Int) (z:Sys),e=.returned (.int .i64 E')∧y.Step z wr w'∧z.c.g=x.c.g))
    have p1:=hbr.cell 1
    simp only [bothV,Zt,Zz,Zs] at p1
    have S0:=Lh (⟨p1,(hBr.cell hbl).trans hc0,(hBr.cell hbl).trans hc1⟩:wr.cell? ⟨gb,1,none⟩=some (.pointer (some ⟨x.c.g,0,none⟩))∧wr.cell? ⟨b,o+k*2,none⟩=some (.int .i64 kk)∧wr.cell? ⟨b,o+k*2+1,none⟩=some (.slice A' m c2))
    have hbf:¬y.fp b:=hfy b (by omega) (fun hf2=>by have:=hfx b hf2;omega)
    have hgf:¬y.fp gb:=hfy gb hgl1 HX1.out.2.2.2.1
    have hgw:gb<wr.heap.size:=hbr.lt
    have hbw:b<wr.heap.size:=lT hbl hBr.size
    have KS:=Lh (fun (W:World) (hc:Chg y.fp wr W)=>(⟨(cell_same (hc.block gb hgw hgf)).trans S0.out.1,(cell_same (hc.block b hbw hbf)).trans S0.out.2.1,(cell_same (hc.block b hbw hbf)).trans S0.out.2.2⟩:W.cell? ⟨gb,1,none⟩=some (.pointer (some ⟨x.c.g,0,none⟩))∧W.cell? ⟨b,o+k*2,none⟩=some (.int .i64 kk)∧W.cell? ⟨b,o+k*2+1,none⟩=some (.slice A' m c2)))
    have j0:(k:Int)<(n:Int):=by omega
    have j1:(k:Int)<20:=by omega
    clear hE hc0 hc1 hl hbs hnil hlow hfx hfy hB1 hBr hbr p1 hbl hbf hgf hgw hbw
    go_wp2_with fail
    go_region_held3 (fun W=>W.cell? ⟨gb,1,none⟩=some (.pointer (some ⟨x.c.g,0,none⟩))∧W.cell? ⟨b,o+k*2,none⟩=some (.int .i64 kk)∧W.cell? ⟨b,o+k*2+1,none⟩=some (.slice A' m c2))
     (first|(exact S0.out)|(exact S5.out)|go_keep)
     (first|(go_at_call 9;refine HPut.out.mono ?_;rintro e w5 ⟨E',z,rfl,hst5,hcg5⟩;have HSt5:=Lh hst5;have S5:=Lh (KS.out w5 hst5.chg);clear hst5))
    all_goals
     go_wp2
     go_roundg (n-(k+1))
     case measure=>have:=HGg.out;omega
     case rel=>exact ⟨k+1,z,by omega,by omega,by omega,by go_num,HSt.out.trans HSt5.out,hcg5⟩
   ·by_cases hk:k<n
    ·have j0:(k:Int)<(n:Int):=by omega
     have j1:¬(k:Int)<20:=by omega
     clear hlt
     go_wp2_with fail
     go_meet
     exact ⟨y,HSt.out,hcg⟩
    ·have j0:¬(k:Int)<(n:Int):=by omega
     clear hlt
     go_wp2_with fail
     go_meet
     exact ⟨y,HSt.out,hcg⟩
 case rest=>
  obtain ⟨y,hst,hcg⟩:=hcut
  have HSt:=Lh hst
  have hfx:∀ q,x.fp q→wA.heap.size≤q:=HX1.out.2.2.2.2.2.1
  have hcx:¬x.fp w.heap.size:=fun hf=>by have:=hfx _ hf;omega
  have HBr:=Lh (HX1.out.2.2.2.2.2.2.trans ((HSt.out.chg.below hfx hs1):Below wA.heap.size w1 wc))
  have HC:=Lh (Blk.chg HC1.out hst.chg hcx)
  have HB:=Lh (Blk.chg HX1.out.2.2.1 hst.chg HX1.out.2.2.2.1)
  have HF:=Lh (⟨hst.nf (by omega) hcx,hst.nf hgl1 HX1.out.2.2.2.1,fun q hq=>(hst.fp q hq).elim (hfx q) (fun h=>by omega)⟩:¬y.fp w.heap.size∧¬y.fp gb∧∀ q,y.fp q→wA.heap.size≤q)
  have hsg:y.s.g=x.s.g:=hst.same.s
  have hgw:w.heap.size≠gb:=by omega
  clear hst hfx hcx
  obtain ⟨p0,p1⟩:wc.cell? ⟨w.heap.size,0,none⟩=some (.int .i64 cb)∧wc.cell? ⟨w.heap.size,1,none⟩=some (.int .i64 cl):=by
   have c0:=HC.out.cell 0
   have c1:=HC.out.cell 1
   simp only [Zt,Zz,Zs] at c0 c1
   exact ⟨c0,c1⟩
  have f0:=HC.out.frozen 0
  have HPk:=Lh (show Calls Tryz.prog 10 #[.int .i64 cb,.int .i64 21] wc _ from lawPick cb 21 wc hcb1 hcb2 (by omega) (by omega))
  go_wp2_with fail
  refine HPk.out.mono ?_
  rintro e w2 ⟨rfl,k,hk,rfl⟩
  obtain ⟨E,hE⟩:∃ E,50+k=E:=⟨_,rfl⟩
  have e1:IntKind.i64.wrap (50+(k:Int))=(E:Int):=by rw [wrapi64 (by omega) (by omega)];omega
  have hEl:E≤65535:=by omega
  clear hE HPk
  have hC3:Blk (w2.setCell ⟨w.heap.size,0,none⟩ (.int .i64 (E:Int))) w.heap.size 24 #[.int .i64 (E:Int),.int .i64 cl]:=by
   have h:=Blk.set HC.out 0 (.int .i64 (E:Int))
   simpa using h
  have hc3:Chg (fun q=>q=w.heap.size) w2 (w2.setCell ⟨w.heap.size,0,none⟩ (.int .i64 (E:Int))):=Chg.setCell _ _ _ rfl
  have HM3:=Lh (HSt.out.mem.chg hc3 (fun q hq e=>HF.out.1 (by rw [←e];exact hq)))
  have HB3:=Lh (Blk.chg HB.out hc3 (fun e=>hgw e.symm))
  have HC3:=Lh hC3
  have Hc3:=Lh hc3
  clear hC3 hc3
  go_wp2_with fail
  clear p0 p1 f0
  obtain ⟨w3,hw3⟩:∃ q,w2.setCell ⟨w.heap.size,0,none⟩ (.int .i64 (E:Int))=q:=⟨_,rfl⟩
  rw [hw3] at HC3 HM3 HB3 Hc3 ⊢
  clear hw3
  have KS:=Lh (fun (W:World) (h1:Blk W gb 35 (bothV x gr gq)) (h2:Blk W w.heap.size 24 #[.int .i64 (E:Int),.int .i64 cl])=>(by
   have c0:=h2.cell 0
   have c1:=h2.cell 1
   have c3:=h1.cell 3
   simp only [bothV,Zt,Zz,Zs] at c0 c1 c3
   exact ⟨c3,c0,c1⟩:W.cell? ⟨gb,3,none⟩=some (.pointer (some ⟨x.s.g,0,none⟩))∧W.cell? ⟨w.heap.size,0,none⟩=some (.int .i64 (E:Int))∧W.cell? ⟨w.heap.size,1,none⟩=some (.int .i64 cl)))
  have S3:=Lh (KS.out w3 HB3.out HC3.out)
  have HM3d:=Lh (show y.Mem w3.drew from HM3.out.later (Below.refl _ _).drew)
  have HLd:=Lh (by
   have h:=sysLoad y E cl w3.drew HM3d.out hEl hcl1 hcl2
   rw [hsg] at h
   refine h.mono (fun e w' hp=>?_)
   obtain ⟨c',h1,h2,-,h3⟩:=hp
   cases hL:loadL (y.c.view y.d) E cl with
   | none=>
     rw [hL] at h3
     obtain ⟨Er,hEr,rfl⟩:=h3
     exact ⟨c',none,0,0,Er,rfl,h1,h2,.inr ⟨hEr,rfl⟩⟩
   | some l=>
     rw [hL] at h3
     obtain ⟨A4,n4,cc4,rfl,hnb,-⟩:=h3
     obtain ⟨r,hr,hrl⟩:=load_read hL
     exact ⟨c',A4,n4,cc4,0,rfl,h1,h2,.inl ⟨rfl,by rw [←hnb.1];exact hrl,r,hr⟩⟩:
   Calls Tryz.prog 11 #[.pointer (some ⟨x.s.g,0,none⟩),.agg #[.int .i64 (E:Int),.int .i64 cl]] w3.drew (fun e w'=>∃ (c':Cch) (LA:OA) (ln lc:Nat) (LE:Int),e=.returned (.tuple #[.slice LA ln lc,.int .i64 LE])∧y.Step { y with c:=c' } w3.drew w'∧(∀ n,c'.view y.d n=y.c.view y.d n) ∧
    ((LE=0∧(ln:Int)=cl∧∃ r,readL (y.c.view y.d) E cl=some r)∨(LE≠0∧ln=0))))
  go_region_held3 (fun W=>W.cell? ⟨gb,3,none⟩=some (.pointer (some ⟨x.s.g,0,none⟩))∧W.cell? ⟨w.heap.size,0,none⟩=some (.int .i64 (E:Int))∧W.cell? ⟨w.heap.size,1,none⟩=some (.int .i64 cl))
   (first|(exact S3.out)|(exact S4.out)|go_keep)
   (first|(go_at_call 11;refine HLd.out.mono ?_;rintro e w4 ⟨c4,LA,ln,lc,LE,rfl,hs4,hv4,hr4⟩;have HS4:=Lh hs4;have HB4:=Lh (Blk.chg (show Blk w3.drew gb 35 (bothV x gr gq) from HB3.out) hs4.chg HF.out.2.1);have HC4:=Lh (Blk.chg (show Blk w3.drew w.heap.size 24 #[.int .i64 (E:Int),.int .i64 cl] from HC3.out) hs4.chg HF.out.1);have S4:=Lh (KS.out w4 HB4.out HC4.out);have HV4:=Lh (funext hv4:c4.view y.d=y.c.view y.d);have HR4:=Lh hr4;clear hs4 hv4 hr4))
  have HM4d:=Lh (show ({ y with c:=c4 }:Sys).Mem w4.drew from HS4.out.mem.later (Below.refl _ _).drew)
  have HF4:=Lh (⟨HS4.out.nf (by exact HC3.out.lt) HF.out.1,HS4.out.nf (by exact HB3.out.lt) HF.out.2.1⟩:¬({ y with c:=c4 }:Sys).fp w.heap.size∧¬({ y with c:=c4 }:Sys).fp gb)
  have HBk:=Lh (by
   have h:=sysBlocks { y with c:=c4 } E cl w4.drew HM4d.out hEl
   dsimp only at h
   rw [hsg,HV4.out] at h
   refine h.mono (fun e w' hp=>?_)
   obtain ⟨c',h1,h2,-,h3⟩:=hp
   cases hL:readL (y.c.view y.d) E cl with
   | none=>
     rw [hL] at h3
     obtain ⟨Er,hEr,rfl⟩:=h3
     exact ⟨c',none,0,0,Er,rfl,h1,.inr ⟨hEr,rfl⟩⟩
   | some r=>
     obtain ⟨bs,pk⟩:=r
     rw [hL] at h3
     obtain ⟨A4,n4,cc4,rfl,hnb,-⟩:=h3
     have:=readL_len hL
     exact ⟨c',A4,n4,cc4,0,rfl,h1,.inl ⟨rfl,by omega,by omega⟩⟩:
   Calls Tryz.prog 12 #[.pointer (some ⟨x.s.g,0,none⟩),.agg #[.int .i64 (E:Int),.int .i64 cl]] w4.drew (fun e w'=>∃ (c':Cch) (LA:OA) (ln lc:Nat) (LE:Int),e=.returned (.tuple #[.slice LA ln lc,.int .i64 LE])∧({ y with c:=c4 }:Sys).Step { y with c:=c' } w4.drew w' ∧
    ((LE=0∧1≤ln∧ln≤3)∨(LE≠0∧readL (y.c.view y.d) E cl=none))))
  go_wp2_with fail
  go_region_held3 (fun W=>W.cell? ⟨gb,3,none⟩=some (.pointer (some ⟨x.s.g,0,none⟩))∧W.cell? ⟨w.heap.size,0,none⟩=some (.int .i64 (E:Int))∧W.cell? ⟨w.heap.size,1,none⟩=some (.int .i64 cl))
   (first|(exact S4.out)|(exact S5.out)|go_keep)
   (first|(go_at_call 12;refine HBk.out.mono ?_;rintro e w5 ⟨c5,BA,bn,bc,BE,rfl,hs5,hr5⟩;have HS5:=Lh hs5;have HB5:=Lh (Blk.chg (show Blk w4.drew gb 35 (bothV x gr gq) from HB4.out) hs5.chg HF4.out.2);have HC5:=Lh (Blk.chg (show Blk w4.drew w.heap.size 24 #[.int .i64 (E:Int),.int .i64 cl] from HC4.out) hs5.chg HF4.out.1);have S5:=Lh (KS.out w5 HB5.out HC5.out);have HR5:=Lh hr5;clear hs5 hr5))
  have hB5:Below w.heap.size w w5:=by
   have h2:Below w.heap.size w w2:=HBA.out.trans (HBr.out.mono (by omega))
   have h3:Below w.heap.size w w3:=h2.trans (Hc3.out.below (fun q e=>by rw [e];exact Nat.le_refl _) h2.size)
   have h4:Below w.heap.size w w4:=h3.drew.trans (HS4.out.chg.below (fun q hq=>by have:=HF.out.2.2 q hq;omega) h3.size)
   exact h4.drew.trans (HS5.out.chg.below (fun q hq=>(HS4.out.fp q hq).elim (fun h=>by have:=HF.out.2.2 q h;omega) (fun h=>Nat.le_trans h3.size h)) h4.size)
  have HB5w:=Lh hB5
  have HLv:=Lh (lawLives w5)
  obtain ⟨-,t0,t1⟩:=S5.out
  clear hB5
  rcases HR4.out with ⟨rfl,rfl,r,hr⟩|⟨hLE,rfl⟩
  ·rcases HR5.out with ⟨rfl,hb1,hb2⟩|⟨-,h⟩
   ·have b1:(1:Int)≤(bn:Int):=by omega
    have b2:(bn:Int)≤3:=by omega
    clear hr
    go_wp2_with fail
    refine HLv.out.mono ?_
    rintro e w6 ⟨rfl,hb6⟩
    have HB6:=Lh hb6
    clear hb6
    go_wp2
    rw [←HRe.out]
    exact ⟨rfl,HB5w.out.trans (HB6.out.mono HB5w.out.size)⟩
   ·rw [hr] at h;cases h
  ·have a1:(LE != 0)=true:=bne_iff_ne.2 hLE
   have a2:(LE==0)=false:=beq_false_of_ne hLE
   rcases HR5.out with ⟨rfl,hb1,hb2⟩|⟨hBE,-⟩
   ·have b1:(1:Int)≤(bn:Int):=by omega
    have b2:(bn:Int)≤3:=by omega
    clear hLE
    go_wp2_with fail
    refine HLv.out.mono ?_
    rintro e w6 ⟨rfl,hb6⟩
    have HB6:=Lh hb6
    clear hb6
    go_wp2
    rw [←HRe.out]
    exact ⟨rfl,HB5w.out.trans (HB6.out.mono HB5w.out.size)⟩
   ·have a3:(BE != 0)=true:=bne_iff_ne.2 hBE
    have a4:(BE==0)=false:=beq_false_of_ne hBE
    clear hLE hBE
    go_wp2_with fail
    refine HLv.out.mono ?_
    rintro e w6 ⟨rfl,hb6⟩
    have HB6:=Lh hb6
    clear hb6
    go_wp2
    rw [←HRe.out]
    exact ⟨rfl,HB5w.out.trans (HB6.out.mono HB5w.out.size)⟩
open Go.ChangeMaps (setBlock shut_map_nil open_string shut_string keptBut_setBlock frozen?_setBlock heap_setBlock_same)
theorem open_blocks {H:Type} {enc:TypeId × Value→H} {W:World} {base:Nat} {v:Value} {d:DataW H} {p:List MemPlace} (hval:Value.okWide Tryz.prog W .any base 22 v) (h:DataW.Trod enc Tryz.prog W 0 (fun _=>true) true 22 v d p):
 ∃ A n c,v=.slice A n c∧BlkArg W A n∧n≤c∧c≤9223372036854775807:=by
 obtain ⟨a0,len,cap,rfl⟩:=okWide_slice Tryz.underlying22 hval
 obtain ⟨fuel,hf⟩:=h
 rcases Deep.open_slice_pairs Tryz.underlying22 Tryz.underlying39 cells_Block rfl rfl cells_int cells_bytes hf with ⟨hcs,hx⟩|⟨a,len',cap',m,k,V0,V1,D0,D1,P0,P1,hcs,_,hl,hmx,hm,hx,hall⟩
 ·simp [Value.cells] at hcs
  obtain ⟨rfl,rfl,rfl⟩:=hcs
  exact ⟨none,0,0,rfl,fun i hi=>by omega,by omega,by omega⟩
 ·simp [Value.cells] at hcs
  obtain ⟨rfl,rfl,rfl⟩:=hcs
  simp only [if_true] at hm
  unfold maxLen at hmx
  refine ⟨some a,len,cap,rfl,fun i hi=>?_,hl,by omega⟩
  obtain ⟨h0,h1,h2,h3⟩:=hall i (by omega)
  obtain ⟨b,off,spot⟩:=a
  have hspot:spot=none:=by simpa [Addr.add] using World.cell?_spot (hall 0 (by omega)).1
  subst hspot
  have e:∀ j,(⟨b,off,none⟩:Addr).add j=⟨b,off+j,none⟩:=fun j=>by unfold Addr.add;split<;>simp_all
  rw [e] at h0 h1
  obtain ⟨z,hz,-,-⟩:=DataW.trod_int Tryz.underlying3 h2
  simp only [List.cons.injEq,and_true] at hz
  obtain ⟨A',n',c',l,e1,e2,e3,e4,e5,e6,e7⟩:=cell_bytes (fun _=>rfl) h3
  rw [hz] at h0
  rw [e1] at h1
  exact ⟨b,off,z,A',n',c',l,rfl,h0,h1,e2,e3,e6,e7⟩
end Go.Proofs.YtiihiocgbfafaaaGreat
namespace Go.Proofs.YtiihiocgbfafaaaGreat.ctotal
open Go.ChangeShapes Go.WideShapes Go.ChangeAt Go.RowKit
open Go.ChangeMaps (setBlock shut_map_nil open_string shut_string keptBut_setBlock frozen?_setBlock heap_setBlock_same)
theorem contract (H:Type) (enc:TypeId × Value→H) (W:World) (base:Nat) (args:Array Value) (ds gs:List (DataW H)) (before:List MemPlace)
 (hval:∀ (j:Nat) t v,Tryz.f3.params[j]? = some t→args[j]? = some v→Value.okWide Tryz.prog W .any base t v)
 (hW:DataW.Whole enc Tryz.prog Tryz.f3.params.toList Rows.chunksTotalSpec.vars false W args.toList ds gs before):
 Calls Tryz.prog 3 args W fun e W'=>∃ v,e=.returned v∧Rows.chunksTotalSpec.post enc Tryz.prog Tryz.f3 false true false false W args v W':=by
 have hW':=hW
 obtain ⟨p,q,hA0,hV,rfl,hfz,hnd⟩:=hW
 have hA:DataW.TrodAll enc Tryz.prog W 0 (fun _=>true) true Tryz.f3.params.toList args.toList ds p:=hA0
 rw [Tryz.params3] at hA hval
 obtain ⟨v0,vs0,d0,ds0,p0,q0,hargs,rfl,rfl,h0,r0⟩:=trodAll_cons hA
 obtain ⟨v1,vs1,d1,ds1,p1,q1,hargs1,rfl,rfl,h1,r1⟩:=trodAll_cons r0
 obtain ⟨rfl,rfl,rfl⟩:=trodAll_nil r1
 obtain rfl:vs0=[v1]:=hargs1
 obtain rfl:args=#[v0,v1]:=by cases args;simp_all
 obtain ⟨rfl,rfl⟩:=trodVars_none hV
 obtain ⟨A,n,c,rfl,hB,hc,hc2⟩:=open_blocks (hval 0 22 v0 rfl rfl) h0
 obtain ⟨c0,c1,y0,y1,k,rfl,rfl,rfl,hy0,hy1⟩:=Joins.open_agg2 Tryz.underlying24 (by kernel_rfl) cells_Chunk (hval 1 24 v1 rfl rfl) h1
 obtain ⟨cb,hcb,rfl,hw0⟩:=DataW.trod_int Tryz.underlying3 hy0
 obtain ⟨cl,hcl,rfl,hw1⟩:=DataW.trod_int Tryz.underlying3 hy1
 simp only [List.cons.injEq,and_true] at hcb hcl
 subst hcb hcl
 clear hA0
 simp only [List.append_nil] at hW'
 have hw0':=hw0
 have hw1':=hw1
 simp only [Lit.wf,Bool.and_eq_true,decide_eq_true_eq] at hw0' hw1'
 have g1:-9223372036854775808≤cb:=hw0'.1
 have g2:cb≤9223372036854775807:=hw0'.2
 have g3:-9223372036854775808≤cl:=hw1'.1
 have g4:cl≤9223372036854775807:=hw1'.2
 refine (lawTotal A n c cb cl W hB g1 g2 g3 g4).mono fun e W' ⟨he,hb⟩=>?_
 subst he
 have hlt:∀ x∈p0,x.block<W.heap.size:=fun x hx=>hW'.lt x (by simp [hx])
 exact ⟨_,rfl,post_kept2 hW' rfl (fun _ _ _=>trodAll_cons_mk (shut_bool Tryz.underlying4 _) trodAll_mk0) (by
  have:=trodAll_cons_mk (Below.trod laidOut readable_blocks row_blocks h0 hb hlt) (trodAll_cons_mk (Below.trod laidOut readable_Chunk row_Chunk h1 hb (fun x hx=>by simp at hx)) trodAll_mk0)
  simp only [List.append_nil] at this ⊢
  exact this) rfl hb⟩
theorem reads (os:Os) {H:Type} (enc:TypeId × Value→H):∃ places,DataW.whole enc Tryz.prog ((laidWorld os).forCall (fun _ _=>0) ⟨#[],#[.slice none 0 0,.agg #[.int .i64 0,.int .i64 0]],[]⟩).memory Tryz.f3.params.toList Rows.chunksTotalSpec.vars false #[Value.slice none 0 0,.agg #[.int .i64 0,.int .i64 0]].toList 8=some ([.nil,.agg [.lit (.int .i64 0),.lit (.int .i64 0)]],[],places):=
 ⟨[],by kernel_rfl⟩
theorem lifted (os:Os) (started:os.Started) (H:Type) (enc:TypeId × Value→H) (F:Stop.Interp):
 ReturnsInHanded {} Tryz.checked os 3 .any ((OpenSpec.ofChange Rows.chunksTotalSpec).preRow enc Tryz.prog Tryz.f3 Rows.chunksTotalRow.domain false Rows.chunksTotalRow.laid) (((OpenSpec.ofChange Rows.chunksTotalSpec).at F).post enc Tryz.prog Tryz.f3 false true false false):=by
 obtain ⟨places,hx⟩:=reads os enc
 refine returnsInHanded_of_row (C:=Tryz.checked) (s:=OpenSpec.ofChange Rows.chunksTotalSpec) own started (by kernel_rfl) Tryz.func3
  (witness_row_at (enc:=enc) (C:=Tryz.checked) false (laidWorld os) #[.slice none 0 0,.agg #[.int .i64 0,.int .i64 0]] rfl (by kernel_rfl) (by kernel_rfl) (by kernel_rfl)
    (OpenSpec.preRow_of_cond 8 hx (by kernel_rfl) (fun k hk=>by cases hk) (by kernel_rfl) (show laidMet Tryz.prog [] _ from ⟨[],by first|trivial|exact rfl|simp [DataW.LaidVars],List.nodup_nil,fun b off h=>by cases h⟩))) ?_
 intro W base args ds gs before hval hW _ _ _ _ hsh _
 exact contract H enc W base args ds gs before hval hW
theorem said:Rows.ChunksTotalSaid:=
 OpenClaim.holds_of_cond 3 Tryz.f3 rfl rfl rfl rfl rfl rfl rfl ⟨rfl,rfl,rfl,rfl,rfl⟩ rfl rfl rfl rfl rfl (by kernel_rfl) Tryz.func3 (by kernel_rfl)
  (of_decide_eq_true (by kernel_rfl)) (by unfold Func.isWrapper;rw [if_neg (of_decide_eq_false (by kernel_rfl))];exact ⟨rfl,rfl⟩)
  (fun os started H enc _ F=>by rw [OpenClaim.pre_eq_preRow];exact lifted os started H enc F)
#print axioms said
end Go.Proofs.YtiihiocgbfafaaaGreat.ctotal
