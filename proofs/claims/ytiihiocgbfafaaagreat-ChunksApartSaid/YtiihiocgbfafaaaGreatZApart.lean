/-
  The law ChunksApart holds for every input: chunks share no block, and all their blocks are taken.
-/
import Derived.Test.YtiihiocgbfafaaaGreatKKn
import Derived.ProofKit
import Derived.OpenShut
import Derived.Deep.DeepHandedRow
import Derived.Deep.SlicePairs
import Derived.Lib.SmallJoins
import Derived.Deep.Slices
set_option linter.unusedSimpArgs false
set_option linter.unusedVariables false
set_option maxHeartbeats 8000000
set_option maxRecDepth 100000
namespace Go.Proofs.YtiihiocgbfafaaaGreat
open Go.RowKit
theorem BlkN.later {w w':World} {g:Nat} {t:TypeId} {l:List Nat} (h:BlkN w g t l) (hb:Below w.heap.size w w'):BlkN w' g t l:=Blk.later h hb
open Go.Maps
def blocksPost (c:Cch) (d:Dsk) (b:Nat) (len:Int) (w:World) (e:Ending) (w':World):Prop:=
 ∃ c',c.Next c' d w w'∧match readL (c.view d) b len with
   | some (bs,_)=>∃ A n cc,e=.returned (.tuple #[.slice A n cc,.int .i64 0])∧bs.length=n∧OwnN w' w.heap.size A n cc bs∧∀ q,bk A=some q→¬c'.fp d q
   | none=>∃ E:Int,E≠0∧e=.returned (.tuple #[.slice none 0 0,.int .i64 E])
theorem chunksBlocks (sg:Nat) (c:Cch) (d:Dsk) (b:Nat) (len:Int) (w:World) (h:c.Mem d w) (hi:c.Inv d) (hb:b≤65535) (hs:w.cell? ⟨sg,0,none⟩=some (.pointer (some ⟨c.g,0,none⟩))) (hsg:¬c.fp d sg):
 Calls Tryz.prog 12 #[.pointer (some ⟨sg,0,none⟩),.agg #[.int .i64 (b:Int),.int .i64 len]] w (blocksPost c d b len w):=by
 have hsl:sg<w.heap.size:=World.block_lt_of_cell? w _ hs
 obtain ⟨wA,hwA⟩:∃ x,w.alloc (.cells #[.int .i64 (b:Int),.int .i64 len] 24)=x:=⟨_,rfl⟩
 have HB0:=Lh (by rw [←hwA];exact (Below.refl w.heap.size w).alloc nL (.cells #[.int .i64 (b:Int),.int .i64 len] 24):Below w.heap.size w wA)
 have HW0:=Lh (by rw [←hwA];exact Blk.new w 24 #[.int .i64 (b:Int),.int .i64 len]:Blk wA w.heap.size 24 #[.int .i64 (b:Int),.int .i64 len])
 have HRead:=Lh (chunksRead sg c d b len wA (h.later HB0.out) hi hb ((HB0.out.cell hsl).trans hs) hsg)
 obtain ⟨R,hR⟩:∃ R,blocksPost c d b len w=R:=⟨_,rfl⟩
 rw [hR]
 have HRe:=Lh hR
 clear h hi hR hs hsg
 have p0:=HW0.out.cell 0
 have p1:=HW0.out.cell 1
 simp only [Zt,Zz,Zs] at p0 p1
 go_enter Tryz.func12,Tryz.ntmps12
 go_wp2_with fail
 clear hwA p0 p1
 refine HRead.out.mono ?_
 rintro e w1 ⟨c',hN,hm⟩
 have HN1:=Lh (hN.before HB0.out)
 clear hN HRead
 cases hr:readL (c.view d) b len with
 | none=>
   rw [hr] at hm
   obtain ⟨E,hE,rfl⟩:=hm
   have HRr:=Lh hr
   clear hr
   go_wp2
   rw [←HRe.out]
   refine ⟨c',HN1.out,?_⟩
   rw [HRr.out]
   exact ⟨E,hE,rfl⟩
 | some y=>
   obtain ⟨bs,out⟩:=y
   rw [hr] at hm
   obtain ⟨A1,n1,c1,A2,n2,c2,rfl,h1,h2,h3,-⟩:=hm
   have HRr:=Lh hr
   have HH:=Lh (⟨h1,Own.mono h2 HB0.out.size,h3⟩:bs.length=n1∧OwnN w1 w.heap.size A1 n1 c1 bs∧∀ q,bk A1=some q→¬c'.fp d q)
   clear hr h1 h2 h3
   go_wp2
   rw [←HRe.out]
   refine ⟨c',HN1.out,?_⟩
   rw [HRr.out]
   exact ⟨A1,n1,c1,rfl,HH.out⟩
theorem allocTaken (m:Amp) (n:Nat) (w:World) (h:m.Mem w) (hn:n≤4611686018427387904):
 Calls Tryz.prog 15 #[.pointer (some ⟨m.a.g,0,none⟩),.int .i64 (n:Int)] w fun e w'=>e=.returned (.bool (decide (m.st n=some 1∨m.st n=some 2)))∧∃ q,w'=w.drewN q:=by
 have H1:=Lh (show Calls Tryz.prog 46 #[.pointer (some ⟨m.a.g,0,none⟩),.int .i64 (n:Int),.int .u8 1] w _ from allocIs m n 1 w h hn)
 have HM:=Lh h
 clear h
 go_enter Tryz.func15,Tryz.ntmps15
 go_wp2_with fail
 refine H1.out.mono ?_
 rintro e w1 ⟨rfl,q1,rfl⟩
 have H2:=Lh (show Calls Tryz.prog 46 #[.pointer (some ⟨m.a.g,0,none⟩),.int .i64 (n:Int),.int .u8 2] (w.drewN q1) _ from allocIs m n 2 _ (HM.out.later (below_drewN w q1)) hn)
 by_cases h1:m.st n=some 1
 ·have hd:decide (m.st n=some 1)=true:=qT h1
  rw [hd]
  have HD:=Lh (qT (Or.inl h1):decide (m.st n=some 1∨m.st n=some 2)=true)
  clear hd h1
  go_wp2
  go_ret
  exact ⟨by rw [HD.out];rfl,_,rfl⟩
 ·have hd:decide (m.st n=some 1)=false:=qF h1
  rw [hd]
  have HD:=Lh (show decide (m.st n=some 1∨m.st n=some 2)=decide (m.st n=some 2) by simp [h1])
  clear hd h1
  go_wp2_with fail
  refine H2.out.mono ?_
  rintro e w2 ⟨rfl,q2,rfl⟩
  go_wp2
  go_ret
  exact ⟨by rw [HD.out];rfl,q1+q2,rfl⟩
theorem sysBlocks (y:Sys) (b:Nat) (len:Int) (w:World) (h:y.Mem w) (hb:b≤65535):
 Calls Tryz.prog 12 #[.pointer (some ⟨y.s.g,0,none⟩),.agg #[.int .i64 (b:Int),.int .i64 len]] w fun e w'=>∃ c',y.Step { y with c:=c' } w w'∧(∀ n,c'.view y.d n=y.c.view y.d n)∧c'.g=y.c.g ∧
  match readL (y.c.view y.d) b len with
  | some (bs,_)=>∃ A n cc,e=.returned (.tuple #[.slice A n cc,.int .i64 0])∧bs.length=n∧OwnN w' w.heap.size A n cc bs∧∀ q,bk A=some q→¬({ y with c:=c' }:Sys).fp q
  | none=>∃ E:Int,E≠0∧e=.returned (.tuple #[.slice none 0 0,.int .i64 E]):=by
 refine (chunksBlocks y.s.g y.c y.d b len w h.cm h.ci hb h.sm.cells.1 (fun hf=>h.ap1 _ hf (.inl (.inl rfl)))).mono fun e w' hp=>?_
 obtain ⟨c',hn,h2⟩:=hp
 refine ⟨c',h.next hn,hn.view,hn.eg,?_⟩
 cases hl:readL (y.c.view y.d) b len with
 | none=>rw [hl] at h2;exact h2
 | some r=>
   obtain ⟨bs,pk⟩:=r
   rw [hl] at h2
   obtain ⟨A,n,cc,h3,h4,h5,h6⟩:=h2
   refine ⟨A,n,cc,h3,h4,h5,fun q hq hf=>?_⟩
   have h7:=(Own.lt h5 hq).1
   rcases hf with hf|hf|hf
   ·exact h6 q hq hf
   ·have:=h.am.in_ q hf;omega
   ·have:=h.sm.in_ q hf;omega
theorem saveBad (sg:Nat) (A:OA) (n cc:Nat) (w:World) (hn:¬(1≤n∧n≤512)):
 Calls Tryz.prog 14 #[.pointer (some ⟨sg,0,none⟩),.slice A n cc] w fun e w'=>e=.returned (.tuple #[.agg #[.int .i64 0,.int .i64 0],.bool false,.int .i64 1])∧Below w.heap.size w w':=by
 obtain ⟨wA,hwA⟩:∃ y,w.alloc (.cells #[.pointer (some ⟨sg,0,none⟩)] 31)=y:=⟨_,rfl⟩
 have hsA:wA.heap.size=w.heap.size+1:=by rw [←hwA];simp
 have hBA:Below w.heap.size w wA:=by rw [←hwA];exact (Below.refl _ _).alloc nL _
 obtain ⟨wB,hwB⟩:∃ y,wA.alloc (.cells #[.slice A n cc] 37)=y:=⟨_,rfl⟩
 have hsB:wB.heap.size=w.heap.size+1+1:=by rw [←hwB,←hsA];simp
 have hBB:Below wA.heap.size wA wB:=by rw [←hwB];exact (Below.refl _ _).alloc nL _
 have hPB:Blk wB (w.heap.size+1) 37 #[.slice A n cc]:=by rw [←hwB,←hsA];exact Blk.new wA _ _
 obtain ⟨wC,hwC⟩:∃ y,wB.alloc (.cells #[.int .i64 0,.int .i64 0] 24)=y:=⟨_,rfl⟩
 have hBC:Below wB.heap.size wB wC:=by rw [←hwC];exact (Below.refl _ _).alloc nL _
 have hPC:Blk wC (w.heap.size+1+1) 24 #[.int .i64 0,.int .i64 0]:=by rw [←hwC,←hsB];exact Blk.new wB _ _
 have hB:Below w.heap.size w wC:=hBA.trans ((hBB.trans (hBC.mono (by omega))).mono (by omega))
 have k3:=(hPB.later hBC).cell 0
 have k40:=hPC.cell 0
 have k41:=hPC.cell 1
 have f40:=hPC.frozen 0
 have f41:=hPC.frozen 1
 simp only [Zt,Zz,Zs] at k3 k40 k41
 have HB:=Lh hB
 have Hh:=Lh (show w.heap.size≤w.heap.size+1+1 by omega)
 obtain ⟨b3,hb3⟩:∃ q,w.heap.size+1=q:=⟨_,rfl⟩
 have Hb3:=Lh hb3
 obtain ⟨b4,hb4⟩:∃ q,w.heap.size+1+1=q:=⟨_,rfl⟩
 have Hb4:=Lh hb4
 rw [hb4] at hPC k40 k41 f40 f41 Hh
 have HPC:=Lh hPC
 have hde:decide (1≤(n:Int)∧(n:Int)≤512)=false:=qF (by omega)
 have HMay:=Lh (by have h:=chunksMay (n:Int) wC;rw [hde] at h;exact h:Calls Tryz.prog 36 #[.int .i64 (n:Int)] wC fun e w'=>e=.returned (.bool false)∧w'=wC)
 clear hBA hBB hBC hPB hPC hB hde hn hb3 hb4
 go_enter Tryz.func14,Tryz.ntmps14
 go_wp2_with fail
 clear hwA hwB hwC hsA hsB
 rw [Hb3.out] at k3 ⊢
 have hb34:b3+1=b4:=by have:=Hb3.out;have:=Hb4.out;omega
 rw [hb34]
 clear hb34
 refine HMay.out.mono ?_
 rintro e w1 ⟨rfl,rfl⟩
 go_wp2
 have hbk:=Blk.set (Blk.set HPC.out 0 (.int .i64 0)) 1 (.int .i64 0)
 refine bodyPost_ret (results_row_tmp2 rfl _ _ b4 24 _ (0,0) _ rfl hbk Tryz.underlying24 rfl (by kernel_rfl)) rfl ?_
 exact ⟨rfl,(HB.out.setCell Hh.out _).setCell Hh.out _⟩
theorem sysSave (x:Sys) (A:OA) (n cc:Nat) (l:List UInt8) (w:World) (h:x.Mem w) (hsm:x.Small 400000000) (hl:l.length=n) (hr:Bs w A l) (hA:0<n→∀ q,bk A=some q→q<w.heap.size∧¬x.fp q) (hc:n≤cc) (hc2:cc≤9223372036854775807):
 Calls Tryz.prog 14 #[.pointer (some ⟨x.s.g,0,none⟩),.slice A n cc] w (savePost x l w):=by
 by_cases hn:1≤n∧n≤512
 ·exact chunksSave x A n cc l w h hsm hl hr (hA (by omega)) (by omega) hc hc2
 ·refine (saveBad x.s.g A n cc w hn).mono fun e w' hp=>?_
  obtain ⟨rfl,hb⟩:=hp
  exact ⟨x,_,rfl,SaveR.bad (by rw [hl];exact hn) rfl,Sys.Step.refl h hb⟩
theorem save_apart {x y:Sys} {l:List UInt8} {v:Value} {w:World} (h:SaveR x l y v) (hm:x.Mem w):
 ∃ (cb cl:Int) (was:Bool) (E:Int),v=.tuple #[.agg #[.int .i64 cb,.int .i64 cl],.bool was,.int .i64 E] ∧
   ((((E != 0)=true∨((E != 0)=false∧was=true))∧∀ b,y.m.st b=x.m.st b) ∨
     (E=0∧was=false∧∃ (b0:Nat) (r:List Nat) (pk:List UInt8),cb=(b0:Int)∧cl=(l.length:Int)∧l.length≤512∧r.length≤2∧(b0::r).Nodup∧(∀ b∈b0::r,x.m.st b=some 0) ∧
       (∀ b,y.m.st b=if b∈b0::r then some 1 else x.m.st b)∧readL (y.c.view y.d) b0 (l.length:Int)=some (b0::r,pk))):=by
 cases h with
 | bad h e=>exact ⟨0,0,false,1,rfl,.inl ⟨.inl rfl,fun b=>by rw [e]⟩⟩
 | found h p hp hl hv hm nD hn hs=>exact ⟨_,_,true,0,rfl,.inl ⟨.inr ⟨rfl,rfl⟩,fun b=>by rw [hm]⟩⟩
 | space h hno B hB hf hv hm hs=>exact ⟨0,0,false,10,rfl,.inl ⟨.inl rfl,fun b=>by rw [hm]⟩⟩
 | fresh h hno B hB b0 r hk hd h0 h1 hf hq hv fr fd sz kn=>
   have hlow:∀ b∈b0::r,b≤65535:=fun b hb'=>(st_low hm.am (h0 b hb')).2.2
   have hL:=fresh_load h hB hk hd (fun b hb'=>hlow b (List.mem_cons_of_mem _ hb')) hv
   have h2:=pk_len h hB
   have h3:=moreN_le (m:=(B++sumOf l).length) (by omega)
   exact ⟨_,_,false,0,rfl,.inr ⟨rfl,rfl,b0,r,_,rfl,rfl,h.2,by omega,hd,h0,h1,hL.1⟩⟩
theorem Own.cell_at {w:World} {base:Nat} {e:TypeId} {A:OA} {n c k:Nat} {xs:List Value} {v:Value} (h:Own w base e A n c xs) (hx:xs[k]? = some v):∃ g,A=some ⟨g,0,none⟩∧base≤g∧g<w.heap.size∧w.cell? ⟨g,k,none⟩=some v:=by
 have hk:k<n:=by rw [←h.length];exact (Ze hx).1
 obtain ⟨g,u,h1,h2,h3,h4,h5,-⟩:=Own.at_ h hk
 rw [hx] at h4
 cases h4
 exact ⟨g,h1,h2,h3,h5⟩
def BytArg (W:World) (A:OA) (n:Nat) (L:Nat→List UInt8):Prop:=
 ∀ i,i<n→∃ b o A' m cc,A=some ⟨b,o,none⟩∧W.cell? ⟨b,o+i,none⟩=some (.slice A' m cc)∧(L i).length=m∧Bs W A' (L i)∧m≤cc∧cc≤9223372036854775807∧(A'=none→m=0∧cc=0)∧(0<m→∀ q,bk A'=some q→q<W.heap.size)
open Go.ChangeShapes Go.WideShapes Go.ChangeAt
open Go.ChangeMaps (setBlock shut_map_nil open_string shut_string keptBut_setBlock frozen?_setBlock heap_setBlock_same)
theorem own:ownKnob Tryz.prog.godebug=none:=by kernel_rfl
noncomputable def laidWorld (os:Os):World:=World.holding Tryz.prog os ⟨#[],#[],[]⟩
theorem post_kept2 {H:Type} {enc:TypeId × Value→H} {f:Func} {s:ChangeSpec} {W W':World} {args:Array Value} {v:Value} {ds:List (DataW H)} {before:List MemPlace}
 (hW:DataW.Whole enc Tryz.prog f.params.toList s.vars false W args.toList ds [] before) (hv:s.vars=[])
 (hres:∀ (b:Nat) (sp:Nat→Bool) (hd:Bool),DataW.TrodAll enc Tryz.prog W' b sp hd f.resultTypes.toList (v.resultList f.resultTypes.size) (s.fn H (ds++[])).results [])
 (hargs:DataW.TrodAll enc Tryz.prog W' 0 (fun b=>decide (b<W.heap.size)) true f.params.toList args.toList (s.fn H (ds++[])).args before)
 (hvars:(s.fn H (ds++[])).vars=[]) (hb:Below W.heap.size W W'):
 s.post enc Tryz.prog f false true false false W args v W':=by
 refine ⟨ds,[],before,[],before,[],hW,hres _ _ _,hargs,?_,hb.frame _ |> World.keptBut_mono (fun p hp=>⟨hp,.inr (.inl hp)⟩),fun h=>by cases h⟩
 rw [hv,hvars]
 exact rfl
theorem cells_u8:Tryz.prog.cellsOf 5=1:=by kernel_rfl
theorem laidOut:laidOutB Tryz.prog=true:=by kernel_rfl
theorem cells_bytes:Tryz.prog.cellsOf 37=1:=by kernel_rfl
theorem readable_bytess:Tryz.prog.readableRec 48=true:=by kernel_rfl
theorem row_bytess:(48:Nat)<Tryz.prog.types.size:=of_decide_eq_true (by kernel_rfl)
theorem cell_bytes {H:Type} {enc:TypeId × Value→H} {W:World} {base:Nat} {spare:Nat→Bool} {held:Bool} {f:Nat} {v:Value} {x:DataW H × List MemPlace} (hs:∀ b,spare b=true) (hf:DataW.trod enc Tryz.prog W base spare held f 37 [v]=some x):
 ∃ A n c l,v=.slice A n c∧l.length=n∧Bs W A l∧n≤c∧c≤9223372036854775807∧(A=none→n=0∧c=0)∧(0<n→∀ b,bk A=some b→b<W.heap.size):=by
 rcases open_ints Tryz.underlying37 Tryz.underlying5 cells_u8 hf with ⟨hcs,hx⟩|⟨a,len,cap,zs,hcs,_,hl,hmx,hz,hx,hcell,hwf⟩
 ·simp only [List.cons.injEq,and_true] at hcs
  subst hcs
  exact ⟨none,0,0,[],rfl,rfl,Rd.nil _ _,by omega,by omega,fun _=>⟨rfl,rfl⟩,fun h=>by omega⟩
 ·simp only [List.cons.injEq,and_true] at hcs
  subst hcs
  rw [hs,if_pos rfl] at hz
  unfold maxLen at hmx
  refine ⟨some a,len,cap,(zs.take len).map (fun z=>UInt8.ofNat z.toNat),rfl,by rw [List.length_map,List.length_take];omega,?_,hl,by omega,fun h=>(by cases h),fun h0 b hb=>?_⟩
  ·intro h0
   rw [List.length_map,List.length_map,List.length_take] at h0
   obtain ⟨b,off,spot⟩:=a
   have hspot:spot=none:=by simpa [Addr.add] using World.cell?_spot (hcell 0 (by omega))
   subst hspot
   refine ⟨b,off,rfl,fun j hj=>?_⟩
   rw [List.length_map,List.length_map,List.length_take] at hj
   have hc:=hcell j (by omega)
   have e:(⟨b,off,none⟩:Addr).add j=⟨b,off+j,none⟩:=by unfold Addr.add;split<;>simp_all
   rw [e] at hc
   have hjz:j<zs.length:=by omega
   have hw:=hwf _ (List.getElem_mem hjz)
   simp only [Lit.wf,Bool.and_eq_true,decide_eq_true_eq] at hw
   have h1:(0:Int)≤zs[j]:=hw.1
   have h2:zs[j]≤255:=hw.2
   rw [hc]
   simp only [List.getElem?_map,List.getElem?_take,List.getD,Zg hjz,Option.getD_some]
   rw [if_pos (by omega)]
   simp only [Option.map_some,u8v,UInt8.toNat_ofNat']
   congr 2
   omega
  ·cases hb
   have hc:=hcell 0 (by omega)
   have:=World.block_lt_of_cell? W _ hc
   unfold Addr.add at this
   simpa using this
open Go.ChangeMaps (setBlock shut_map_nil open_string shut_string keptBut_setBlock frozen?_setBlock heap_setBlock_same)
theorem open_bytess {H:Type} {enc:TypeId × Value→H} {W:World} {base:Nat} {v:Value} {d:DataW H} {p:List MemPlace} (hval:Value.okWide Tryz.prog W .any base 48 v) (h:DataW.Trod enc Tryz.prog W 0 (fun _=>true) true 48 v d p):
 ∃ A n c L,v=.slice A n c∧BytArg W A n L∧n≤c∧c≤9223372036854775807:=by
 obtain ⟨a0,len,cap,rfl⟩:=okWide_slice Tryz.underlying48 hval
 obtain ⟨fuel,hf⟩:=h
 rcases Deep.open_slice1 Tryz.underlying48 cells_bytes hf with ⟨hcs,hx⟩|⟨a,len',cap',m,k,V,D,Pl,hcs,_,hl,hmx,hm,hx,hall⟩
 ·simp [Value.cells] at hcs
  obtain ⟨rfl,rfl,rfl⟩:=hcs
  exact ⟨none,0,0,fun _=>[],rfl,fun i hi=>by omega,by omega,by omega⟩
 ·simp [Value.cells] at hcs
  obtain ⟨rfl,rfl,rfl⟩:=hcs
  simp only [if_true] at hm
  unfold maxLen at hmx
  have each:∀ i,∃ l:List UInt8,i<len→∃ b o A' m cc,some a=some ⟨b,o,none⟩∧W.cell? ⟨b,o+i,none⟩=some (.slice A' m cc)∧l.length=m∧Bs W A' l∧m≤cc∧cc≤9223372036854775807∧(A'=none→m=0∧cc=0)∧(0<m→∀ q,bk A'=some q→q<W.heap.size):=by
   intro i
   by_cases hi:i<len
   ·obtain ⟨h0,h1⟩:=hall i (by omega)
    obtain ⟨b,off,spot⟩:=a
    have hspot:spot=none:=by simpa [Addr.add] using World.cell?_spot (hall 0 (by omega)).1
    subst hspot
    have e:(⟨b,off,none⟩:Addr).add i=⟨b,off+i,none⟩:=by unfold Addr.add;split<;>simp_all
    rw [e] at h0
    obtain ⟨A',n',c',l,e1,e2,e3,e4,e5,e6,e7⟩:=cell_bytes (fun _=>rfl) h1
    rw [e1] at h0
    exact ⟨l,fun _=>⟨b,off,A',n',c',rfl,h0,e2,e3,e4,e5,e6,e7⟩⟩
   ·exact ⟨[],fun h=>absurd h hi⟩
  obtain ⟨L,hL⟩:=Classical.axiomOfChoice each
  exact ⟨some a,len,cap,L,rfl,fun i hi=>hL i hi,hl,by omega⟩
theorem zero_seen:Tryz.zeroCells49=((List.replicate 250 0).map natv).toArray:=by kernel_rfl
structure ApS (x:Sys) (gb gr gq gs:Nat) (y:Sys) (SL:List Nat) (B:Nat) (w1 W:World):Prop where
 st:x.Step y w1 W
 sm:y.Small B
 seen:BlkN W gs 49 SL
 len:SL.length=250
 taken:∀ i v,SL[i]? = some v→v≠0→y.m.st i=some 1
 both:Blk W gb 35 (bothV x gr gq)
 apb:¬y.fp gb
 aps:¬y.fp gs
 ne:gb≠gs
structure ApI (x:Sys) (gb gr gq gs:Nat) (z:Sys) (g7 n7 cc7 base:Nat) (BS SJ:List Nat) (j:Nat) (w1 W:World):Prop where
 st:x.Step z w1 W
 seen:BlkN W gs 49 SJ
 len:SJ.length=250
 taken:∀ i v,SJ[i]? = some v→v≠0→z.m.st i=some 1
 new:∀ i v,SJ[i]? = some v→v≠0→i ∉ BS.drop j
 both:Blk W gb 35 (bothV x gr gq)
 apb:¬z.fp gb
 aps:¬z.fp gs
 row:OwnN W base (some ⟨g7,0,none⟩) n7 cc7 BS
 apx:¬z.fp g7
theorem ApI.later {x z:Sys} {gb gr gq gs g7 n7 cc7 base:Nat} {BS SJ:List Nat} {j:Nat} {w1 W W':World} (h:ApI x gb gr gq gs z g7 n7 cc7 base BS SJ j w1 W) (hb:Below W.heap.size W W'):ApI x gb gr gq gs z g7 n7 cc7 base BS SJ j w1 W':=
 { h with st:=h.st.later hb,seen:=BlkN.later h.seen hb,both:=h.both.later hb,row:=Own.later h.row hb }
theorem drop_at {BS:List Nat} {j b:Nat} (h:BS[j]? = some b):b∈BS.drop j:=by
 have h2:=(Ze h)
 rw [List.drop_eq_getElem_cons h2.1,h2.2]
 simp
theorem drop_next {BS:List Nat} {j i:Nat} (h:i∈BS.drop (j+1)):i∈BS.drop j:=by
 rw [←List.drop_drop] at h
 exact List.mem_of_mem_drop h
theorem drop_new {BS:List Nat} {j b:Nat} (h:BS[j]? = some b) (hd:BS.Nodup):b ∉ BS.drop (j+1):=by
 have h2:=(Ze h)
 have h3:(BS.drop j).Nodup:=hd.sublist (List.drop_sublist _ _)
 rw [List.drop_eq_getElem_cons h2.1,h2.2] at h3
 exact (List.nodup_cons.1 h3).1
theorem ApI.step {x z:Sys} {gb gr gq gs g7 n7 cc7 base b:Nat} {BS SJ:List Nat} {j:Nat} {w1 W W9:World} (h:ApI x gb gr gq gs z g7 n7 cc7 base BS SJ j w1 W) (hb9:Below W.heap.size W W9) (hb:BS[j]? = some b) (hd:BS.Nodup) (hst:z.m.st b=some 1)
 (hg:gs≠g7) (hgb:gb≠gs) (hw:w1.heap.size≤gs):ApI x gb gr gq gs z g7 n7 cc7 base BS (SJ.set b 1) (j+1) w1 (W9.setCell ⟨gs,b,none⟩ (.int .i64 1)):={
 st:=(h.st.later hb9).out (Chg.setCell (F:=fun q=>q=gs) W9 _ _ rfl) (fun q e=>by rw [e];exact ⟨h.aps,hw⟩)
 seen:=(BlkN.later h.seen hb9).set b 1
 len:=by rw [List.length_set];exact h.len
 taken i v h1 h2:=by
  rw [List.getElem?_set] at h1
  split at h1
  ·next e=>rw [←e];exact hst
  ·exact h.taken i v h1 h2
 new i v h1 h2:=by
  rw [List.getElem?_set] at h1
  split at h1
  ·next e=>rw [←e];exact drop_new hb hd
  ·exact fun h3=>h.new i v h1 h2 (drop_next h3)
 both:=Blk.chg (h.both.later hb9) (Chg.setCell (F:=fun q=>q=gs) W9 _ _ rfl) hgb
 apb:=h.apb
 aps:=h.aps
 row:=(Own.later h.row hb9).setCell (fun e=>hg (by cases e;rfl)) _
 apx:=h.apx }
theorem lawApart (A:OA) (n cc:Nat) (L:Nat→List UInt8) (w:World) (hA:BytArg w A n L):
 Calls Tryz.prog 4 #[.slice A n cc] w fun e w'=>e=.returned (.bool true)∧Below w.heap.size w w':=by
 obtain ⟨R,hR⟩:∃ R,(fun (e:Ending) (w':World)=>e=.returned (.bool true)∧Below w.heap.size w w')=R:=⟨_,rfl⟩
 rw [hR]
 have HRe:=Lh hR
 have HArg:=Lh hA
 clear hR hA
 have HBg:=Lh (show Calls Tryz.prog 8 #[.int .i64 200] w _ from lawBegin 200 w (by omega))
 go_enter Tryz.func4,Tryz.ntmps4
 go_wp2_with fail
 refine HBg.out.mono ?_
 rintro e w1 ⟨x,gb,gr,gq,rfl,hm,hbeg,hblk,hgb,hgb1,hf,hb1⟩
 have HX1:=Lh (⟨hm,hbeg,hblk,hgb,hgb1,hf,hb1⟩:x.Mem w1∧Beg x 200∧Blk w1 gb 35 (bothV x gr gq)∧¬x.fp gb∧w.heap.size≤gb∧(∀ b,x.fp b→w.heap.size≤b)∧Below w.heap.size w w1)
 have q1:∀ w:World,(binOp .eql 25 (.pointer (some ⟨gb,0,none⟩)) (.pointer none)).run Tryz.prog w=.ok (.bool false) w:=fun _=>rfl
 have hs1:=hb1.size
 have hgl1:=hblk.lt
 have hN:x.d.N=250:=hbeg.dN
 have hle:x.m.a.least=50∧x.m.a.len=200:=⟨hbeg.least,hbeg.len⟩
 have hSm:=Lh (hbeg.small (by omega))
 clear hm hbeg hblk hgb hf hb1 HBg
 go_upto_block 0 with fail
 obtain ⟨w2,hw2⟩:∃ q,w1.alloc (.cells Tryz.zeroCells49 49)=q:=⟨_,rfl⟩
 have hb2:Below w1.heap.size w1 w2:=by rw [←hw2];exact (Below.refl _ _).alloc nL _
 have hseen:BlkN w2 w1.heap.size 49 (List.replicate 250 0):=by rw [←hw2];unfold BlkN;rw [←zero_seen];exact Blk.new w1 49 _
 have HAp:=Lh (⟨Sys.Step.refl HX1.out.1 hb2,hSm.out,hseen,List.length_replicate,fun i v h1 h2=>absurd (List.eq_of_mem_replicate (List.mem_of_getElem? h1)) h2,HX1.out.2.2.1.later hb2,HX1.out.2.2.2.1,fun hf=>by have:=HX1.out.1.in_ _ hf;omega,by omega⟩:
  ApS x gb gr gq w1.heap.size x (List.replicate 250 0) 0 w1 w2)
 rw [hw2]
 clear hw2 hb2 hseen
 obtain ⟨gs,hgs⟩:∃ q,w1.heap.size=q:=⟨_,rfl⟩
 rw [hgs] at HAp ⊢
 have Hgs:=Lh hgs
 clear hgs
 go_cut [5] from 6 to 115 (fun s5 wx=>Below w.heap.size w wx)
 case first=>
  go_wp2_with fail
  go_loopg [5] (n) (fun gg s5 wr=>∃ (k:Nat) (y:Sys) (SL:List Nat),k≤n∧k≤60∧n-k≤gg∧s5=.int .i64 (k:Int)∧ApS x gb gr gq gs y SL (3*k) w1 wr)
  case atStart=>exact ⟨0,x,_,by omega,by omega,by omega,rfl,HAp.out⟩
  case round=>
   obtain ⟨k,y,SL,hkn,hk60,hgg,rfl,hap⟩:=hrel
   have HGg:=Lh hgg
   have HP:=Lh hap
   have hfx:∀ q,x.fp q→w.heap.size≤q:=HX1.out.2.2.2.2.2.1
   have hBr:Below w.heap.size w wr:=HX1.out.2.2.2.2.2.2.trans (hap.st.chg.below hfx hs1)
   have HBr:=Lh hBr
   have hgsr:=Blk.lt hap.seen
   have hgbr:=hap.both.lt
   clear hgg hap
   by_cases hlt:k<n∧k<60
   ·obtain ⟨hlt1,hlt2⟩:=hlt
    obtain ⟨b,o,A',m,c2,rfl,hc0,hl,hbs,hmc,hc2,hnil,hlow⟩:=HArg.out k hlt1
    have hbl:b<w.heap.size:=World.block_lt_of_cell? w _ hc0
    have hfy:∀ q,q<w.heap.size→¬y.fp q:=fun q h1=>HP.out.st.nf (by omega) (fun hf2=>by have:=hfx q hf2;omega)
    have hsg:y.s.g=x.s.g:=HP.out.st.same.s
    have HSv:=Lh (fun (W:World) (hbW:Below wr.heap.size wr W)=>by
     show Calls Tryz.prog 14 #[.pointer (some ⟨x.s.g,0,none⟩),.slice A' m c2] W (fun e w'=>∃ (z:Sys) (cb cl:Int) (was:Bool) (E:Int),e=.returned (.tuple #[.agg #[.int .i64 cb,.int .i64 cl],.bool was,.int .i64 E])∧y.Step z W w'∧y.Step z wr w'∧z.Small (3*(k+1)) ∧
      ((((E != 0)=true∨((E != 0)=false∧was=true))∧∀ b,z.m.st b=y.m.st b) ∨
        (E=0∧was=false∧∃ (b0:Nat) (r:List Nat) (pk:List UInt8),cb=(b0:Int)∧cl=((L k).length:Int)∧(L k).length≤512∧r.length≤2∧(b0::r).Nodup∧(∀ b∈b0::r,y.m.st b=some 0) ∧
          (∀ b,z.m.st b=if b∈b0::r then some 1 else y.m.st b)∧readL (z.c.view z.d) b0 ((L k).length:Int)=some (b0::r,pk))))
     have h:=sysSave y A' m c2 (L k) W (HP.out.st.mem.later hbW) (HP.out.sm.mono (by omega)) hl (hbs.later (hBr.trans (hbW.mono hBr.size))) (fun h0 q hq=>⟨lT (hlow h0 q hq) (Nat.le_trans hBr.size hbW.size),hfy q (hlow h0 q hq)⟩) hmc hc2
     rw [hsg] at h
     refine h.mono (fun e w' hp=>?_)
     obtain ⟨z,v,rfl,hsr,hst⟩:=hp
     obtain ⟨cb,cl,was,E,rfl,h2⟩:=save_apart hsr (HP.out.st.mem.later hbW)
     exact ⟨z,cb,cl,was,E,rfl,hst,hst.before hbW,(hsr.small HP.out.sm).mono (by omega),h2⟩)
    have p3:=HP.out.both.cell 3
    simp only [bothV,Zt,Zz,Zs] at p3
    have S0:=Lh (⟨p3,(hBr.cell hbl).trans hc0⟩:wr.cell? ⟨gb,3,none⟩=some (.pointer (some ⟨x.s.g,0,none⟩))∧wr.cell? ⟨b,o+k,none⟩=some (.slice A' m c2))
    have hbf:¬y.fp b:=hfy b hbl
    have hbw:b<wr.heap.size:=lT hbl hBr.size
    have KS:=Lh (fun (W:World) (hc:Chg y.fp wr W)=>(⟨(cell_same (hc.block gb hgbr HP.out.apb)).trans S0.out.1,(cell_same (hc.block b hbw hbf)).trans S0.out.2⟩:W.cell? ⟨gb,3,none⟩=some (.pointer (some ⟨x.s.g,0,none⟩))∧W.cell? ⟨b,o+k,none⟩=some (.slice A' m c2)))
    have KA:=Lh (fun (W:World) (ob:Obj) (h1:wr.heap.size≤W.heap.size) (h2:W.cell? ⟨gb,3,none⟩=some (.pointer (some ⟨x.s.g,0,none⟩))∧W.cell? ⟨b,o+k,none⟩=some (.slice A' m c2))=>
     (⟨(((Below.refl W.heap.size W).alloc nL ob).cell (p:=⟨gb,3,none⟩) (lT hgbr h1)).trans h2.1,(((Below.refl W.heap.size W).alloc nL ob).cell (p:=⟨b,o+k,none⟩) (lT hbw h1)).trans h2.2⟩:
       (W.alloc ob).cell? ⟨gb,3,none⟩=some (.pointer (some ⟨x.s.g,0,none⟩))∧(W.alloc ob).cell? ⟨b,o+k,none⟩=some (.slice A' m c2)))
    have S0a:=Lh (show (wr.alloc (.cells #[.int .i64 0,.int .i64 0] 24)).drew.cell? ⟨gb,3,none⟩=some (.pointer (some ⟨x.s.g,0,none⟩))∧(wr.alloc (.cells #[.int .i64 0,.int .i64 0] 24)).drew.cell? ⟨b,o+k,none⟩=some (.slice A' m c2) from KA.out wr _ nL S0.out)
    have KB:=Lh (fun (z:Sys) (W:World) (hs:y.Step z (wr.alloc (.cells #[.int .i64 0,.int .i64 0] 24)).drew W)=>(⟨Blk.chg (show Blk (wr.alloc (.cells #[.int .i64 0,.int .i64 0] 24)).drew wr.heap.size 24 #[.int .i64 0,.int .i64 0] from Blk.new wr _ _) hs.chg (fun hf=>by have:=HP.out.st.mem.in_ _ hf;omega),
     hs.nf (by show wr.heap.size<(wr.alloc _).heap.size;simp) (fun hf=>by have:=HP.out.st.mem.in_ _ hf;omega)⟩:Blk W wr.heap.size 24 #[.int .i64 0,.int .i64 0]∧¬z.fp wr.heap.size))
    have KT:=Lh (fun (W:World) (v1 v2:Value) (h1:wr.heap.size≤W.heap.size) (h2:W.cell? ⟨gb,3,none⟩=some (.pointer (some ⟨x.s.g,0,none⟩))∧W.cell? ⟨b,o+k,none⟩=some (.slice A' m c2))=>
     (⟨(cell_same ((Chg.set2 W wr.heap.size 0 1 v1 v2).block gb (lT hgbr h1) (by omega))).trans h2.1,(cell_same ((Chg.set2 W wr.heap.size 0 1 v1 v2).block b (lT hbw h1) (by omega))).trans h2.2⟩:
       ((W.setCell ⟨wr.heap.size,0,none⟩ v1).setCell ⟨wr.heap.size,1,none⟩ v2).cell? ⟨gb,3,none⟩=some (.pointer (some ⟨x.s.g,0,none⟩))∧((W.setCell ⟨wr.heap.size,0,none⟩ v1).setCell ⟨wr.heap.size,1,none⟩ v2).cell? ⟨b,o+k,none⟩=some (.slice A' m c2)))
    have KN:=Lh (fun (W:World) (h:Blk W wr.heap.size 24 #[.int .i64 0,.int .i64 0])=>(⟨by have c:=h.cell 0;simpa using c,by have c:=h.cell 1;simpa using c,h.frozen 0,h.frozen 1⟩:W.cell? ⟨wr.heap.size,0,none⟩=some (.int .i64 0)∧W.cell? ⟨wr.heap.size,1,none⟩=some (.int .i64 0)∧W.frozen? ⟨wr.heap.size,0,none⟩=false∧W.frozen? ⟨wr.heap.size,1,none⟩=false))
    have j0:(k:Int)<(n:Int):=by omega
    have j1:(k:Int)<60:=by omega
    clear hc0 hl hbs hmc hc2 hnil hlow hfx hfy hBr p3 hbl hbf hbw
    go_wp2_with fail
    go_region_held3 (fun W=>W.cell? ⟨gb,3,none⟩=some (.pointer (some ⟨x.s.g,0,none⟩))∧W.cell? ⟨b,o+k,none⟩=some (.slice A' m c2))
     (first|(exact S0.out)|(exact S0a.out)|(exact S5.out)|(exact S6.out)|(exact S7.out)|go_keep)
     (first|(go_at_call 14;(first|refine (HSv.out wr.drew (Below.refl _ _).drew).mono ?_|refine (HSv.out (wr.alloc (.cells #[.int .i64 0,.int .i64 0] 24)).drew ((Below.refl _ _).alloc nL _).drew).mono ?_);rintro e w5 ⟨z,cb,cl,was,E,rfl,hch5,hst5,hsm5,hpo5⟩;(try (have HN5:=Lh (KB.out z w5 hch5);obtain ⟨n50,n51,n5f,n5g⟩:=KN.out w5 HN5.out.1));have HSt5:=Lh hst5;have HSm5:=Lh hsm5;have HPo5:=Lh hpo5;have S5:=Lh (KS.out w5 hst5.chg);have S7:=Lh (KT.out w5 (.int .i64 cb) (.int .i64 cl) hst5.chg.size S5.out);have S6:=Lh (KA.out w5 (.cells #[.int .i64 cb,.int .i64 cl] 24) hst5.chg.size S5.out);clear hch5 hst5 hsm5 hpo5))
    all_goals
     first
     | (obtain ⟨w6,hw6⟩:∃ q,w5.alloc (.cells #[.int .i64 cb,.int .i64 cl] 24)=q:=⟨_,rfl⟩
        have hb6:Below w5.heap.size w5 w6:=by rw [←hw6];exact (Below.refl _ _).alloc nL _
        have HC6:=Lh (by rw [←hw6];exact Blk.new w5 _ _:Blk w6 w5.heap.size 24 #[.int .i64 cb,.int .i64 cl])
        have HSt6:=Lh (HSt5.out.later hb6)
        rw [hw6]
        have Hgc:=Lh (⟨fun hf=>by have:=HSt5.out.mem.in_ _ hf;omega,HSt5.out.chg.size⟩:¬z.fp w5.heap.size∧wr.heap.size≤w5.heap.size)
        clear hw6 hb6 S6 S7
        obtain ⟨gc,hgc⟩:∃ q,w5.heap.size=q:=⟨_,rfl⟩
        rw [hgc] at HC6 Hgc ⊢
        clear hgc)
     | (have HSt6:=Lh (HSt5.out.out (Chg.set2 w5 wr.heap.size 0 1 (.int .i64 cb) (.int .i64 cl)) (fun q e=>by rw [e];exact ⟨HN5.out.2,Nat.le_refl _⟩))
        have HC6:=Lh (by have h:=Blk.set (Blk.set HN5.out.1 0 (.int .i64 cb)) 1 (.int .i64 cl);simpa using h:Blk ((w5.setCell ⟨wr.heap.size,0,none⟩ (.int .i64 cb)).setCell ⟨wr.heap.size,1,none⟩ (.int .i64 cl)) wr.heap.size 24 #[.int .i64 cb,.int .i64 cl])
        have Hgc:=Lh (⟨HN5.out.2,Nat.le_refl _⟩:¬z.fp wr.heap.size∧wr.heap.size≤wr.heap.size)
        obtain ⟨w6,hw6⟩:∃ q,(w5.setCell ⟨wr.heap.size,0,none⟩ (.int .i64 cb)).setCell ⟨wr.heap.size,1,none⟩ (.int .i64 cl)=q:=⟨_,rfl⟩
        rw [hw6] at HSt6 HC6 ⊢
        clear hw6 S6 S7 n50 n51 n5f n5g HN5
        obtain ⟨gc,hgc⟩:∃ q,wr.heap.size=q:=⟨_,rfl⟩
        rw [hgc] at HC6 ⊢
        have Hgc:=Lh (by rw [←hgc];exact Hgc.out:¬z.fp gc∧wr.heap.size≤gc)
        clear hgc)
    all_goals
     have HSt16:=Lh (HP.out.st.trans HSt6.out)
     have HSeen6:=Lh (Blk.chg HP.out.seen HSt6.out.chg HP.out.aps:BlkN w6 gs 49 SL)
     have HBoth6:=Lh (Blk.chg HP.out.both HSt6.out.chg HP.out.apb)
     have HAp6:=Lh (⟨HSt6.out.nf hgbr HP.out.apb,HSt6.out.nf hgsr HP.out.aps⟩:¬z.fp gb∧¬z.fp gs)
     rcases HPo5.out with ⟨hskip,hst⟩|⟨rfl,rfl,b0,r,pk,rfl,rfl,hl,hrl,hnd,h0,h1,hrd⟩
     ·have HSk:=Lh (⟨HSt16.out,HSm5.out,HSeen6.out,HP.out.len,fun i v h1 h2=>by rw [hst];exact HP.out.taken i v h1 h2,HBoth6.out,HAp6.out.1,HAp6.out.2,HP.out.ne⟩:ApS x gb gr gq gs z SL (3*(k+1)) w1 w6)
      clear hst
      rcases hskip with hE|⟨hE,rfl⟩
      ·go_wp2_with fail
       go_roundg (n-(k+1))
       case measure=>have:=HGg.out;omega
       case rel=>exact ⟨k+1,z,SL,by omega,by omega,by omega,by go_num,HSk.out⟩
      ·go_wp2_with fail
       go_roundg (n-(k+1))
       case measure=>have:=HGg.out;omega
       case rel=>exact ⟨k+1,z,SL,by omega,by omega,by omega,by go_num,HSk.out⟩
     ·have HM6:=Lh HSt6.out.mem
      have hsgz:z.s.g=x.s.g:=HSt6.out.same.s.trans hsg
      have hlow:∀ b∈b0::r,50≤b∧b<250∧z.m.st b=some 1∧y.m.st b=some 0:=fun b hb=>by
       have h3:=st_low HP.out.st.mem.am (h0 b hb)
       have h4:=HP.out.st.same.l
       have h5:=HP.out.st.same.n
       exact ⟨by omega,by omega,by rw [h1,if_pos hb],h0 b hb⟩
      have hb0:=(hlow b0 (by simp)).2.1
      obtain ⟨BS,hBS⟩:∃ q,b0::r=q:=⟨_,rfl⟩
      have hbs0:BS[0]? = some b0:=by rw [←hBS];rfl
      have hbn:1≤BS.length∧BS.length≤3:=by rw [←hBS,List.length_cons];omega
      have Hbs0:=Lh hbs0
      rw [hBS] at hnd h0 h1 hrd hlow
      have Hnd:=Lh hnd
      have Hlow:=Lh hlow
      obtain ⟨ln,hln⟩:∃ q,(L k).length=q:=⟨_,rfl⟩
      rw [hln] at HC6 hrd hl ⊢
      have Hrd:=Lh hrd
      have Htk:=Lh (fun i v h2 h3=>by rw [h1,HP.out.taken i v h2 h3];split<;>rfl:∀ i v,SL[i]? = some v→v≠0→z.m.st i=some 1)
      have Hno:=Lh (fun i v h2 h3 hi=>by have h4:=HP.out.taken i v h2 h3;exact absurd (h4.symm.trans (h0 i hi)) (by decide):∀ i v,SL[i]? = some v→v≠0→i ∉ BS)
      have HM6d:=Lh (show z.Mem w6.drew from HM6.out.later (Below.refl _ _).drew)
      have HBk:=Lh (by
       have h:=sysBlocks z b0 (ln:Int) w6.drew HM6d.out (by omega)
       rw [hsgz,hrd] at h
       refine h.mono (fun e w' hp=>?_)
       obtain ⟨c',h1,-,-,A7,n7,cc7,rfl,h3,h4,h5⟩:=hp
       obtain ⟨g7,rfl⟩:∃ g,A7=some ⟨g,0,none⟩:=by
        rcases Own.form h4 with ⟨-,h,-⟩|⟨g,h,-⟩
        ·omega
        ·exact ⟨g,h⟩
       exact ⟨c',g7,n7,cc7,rfl,h1,h3,h4,h5 g7 rfl⟩:
       Calls Tryz.prog 12 #[.pointer (some ⟨x.s.g,0,none⟩),.agg #[.int .i64 (b0:Int),.int .i64 (ln:Int)]] w6.drew (fun e w'=>∃ (c':Cch) (g7 n7 cc7:Nat),e=.returned (.tuple #[.slice (some ⟨g7,0,none⟩) n7 cc7,.int .i64 0])∧z.Step { z with c:=c' } w6.drew w'∧BS.length=n7 ∧
        OwnN w' w6.drew.heap.size (some ⟨g7,0,none⟩) n7 cc7 BS∧¬({ z with c:=c' }:Sys).fp g7))
      have KS6:=Lh (fun (W:World) (h1:Blk W gb 35 (bothV x gr gq)) (h2:Blk W gc 24 #[.int .i64 (b0:Int),.int .i64 (ln:Int)])=>(by
       have c0:=h2.cell 0
       have c1:=h2.cell 1
       have c3:=h1.cell 3
       simp only [bothV,Zt,Zz,Zs] at c0 c1 c3
       exact ⟨c3,c0,c1⟩:W.cell? ⟨gb,3,none⟩=some (.pointer (some ⟨x.s.g,0,none⟩))∧W.cell? ⟨gc,0,none⟩=some (.int .i64 (b0:Int))∧W.cell? ⟨gc,1,none⟩=some (.int .i64 (ln:Int))))
      have T6:=Lh (KS6.out w6 HBoth6.out HC6.out)
      clear hnd h0 h1 hrd hlow hbs0 hln hBS hrl HPo5 S0 S0a S5 HSv
      go_wp2_with fail
      go_region_held3 (fun W=>W.cell? ⟨gb,3,none⟩=some (.pointer (some ⟨x.s.g,0,none⟩))∧W.cell? ⟨gc,0,none⟩=some (.int .i64 (b0:Int))∧W.cell? ⟨gc,1,none⟩=some (.int .i64 (ln:Int)))
       (first|(exact T6.out)|(exact T7.out)|go_keep)
       (first|(go_at_call 12;refine HBk.out.mono ?_;rintro e w7 ⟨c7,g7,n7,cc7,rfl,hst7,hn7,hown7,hap7⟩;have HSt7:=Lh hst7;have HO7:=Lh (⟨hn7,hown7,hap7⟩:BS.length=n7∧OwnN w7 w6.drew.heap.size (some ⟨g7,0,none⟩) n7 cc7 BS∧¬({ z with c:=c7 }:Sys).fp g7);have HB7:=Lh (Blk.chg (show Blk w6.drew gb 35 (bothV x gr gq) from HBoth6.out) hst7.chg HAp6.out.1);have HC7:=Lh (Blk.chg (show Blk w6.drew gc 24 #[.int .i64 (b0:Int),.int .i64 (ln:Int)] from HC6.out) hst7.chg Hgc.out.1);have T7:=Lh (KS6.out w7 HB7.out HC7.out);clear hst7 hn7 hown7 hap7))
      obtain ⟨hn7,hown7,hap7⟩:=HO7.out
      have hgx:=Own.lt hown7 rfl
      have hgx1:w6.heap.size≤g7:=hgx.1
      have hgs6:gs<w6.heap.size:=Blk.lt HSeen6.out
      have hgb6:gb<w6.heap.size:=HBoth6.out.lt
      have HSeen7:=Lh (Blk.chg (show BlkN w6.drew gs 49 SL from HSeen6.out) HSt7.out.chg HAp6.out.2:BlkN w7 gs 49 SL)
      have HSt17:=Lh ((HSt16.out.later (Below.refl _ _).drew).trans HSt7.out)
      have HAp7:=Lh (⟨HSt7.out.nf (show gb<w6.drew.heap.size from hgb6) HAp6.out.1,HSt7.out.nf (show gs<w6.drew.heap.size from hgs6) HAp6.out.2⟩:¬({ z with c:=c7 }:Sys).fp gb∧¬({ z with c:=c7 }:Sys).fp gs)
      obtain ⟨gq7,hgq7,-,-,p1⟩:=Own.cell_at hown7 (k:=0) (v:=natv b0) (by simp only [List.getElem?_map,Hbs0.out,Option.map_some])
      obtain rfl:g7=gq7:=by cases hgq7;rfl
      have p1:w7.cell? ⟨g7,0,none⟩=some (.int .i64 (b0:Int)):=p1
      clear hgq7
      have S7:=Lh (⟨p1,(KS6.out w7 HB7.out HC7.out).2.1⟩:w7.cell? ⟨g7,0,none⟩=some (.int .i64 (b0:Int))∧w7.cell? ⟨gc,0,none⟩=some (.int .i64 (b0:Int)))
      have HI0:=Lh (⟨HSt17.out,HSeen7.out,HP.out.len,Htk.out,fun i v h1 h2=>Hno.out i v h1 h2,HB7.out,HAp7.out.1,HAp7.out.2,hown7,hap7⟩:ApI x gb gr gq gs { z with c:=c7 } g7 n7 cc7 w6.drew.heap.size BS SL 0 w1 w7)
      have Hlt7:=Lh (⟨by omega,by omega⟩:gs<g7∧gb<g7)
      have hbn7:1≤n7∧n7≤3:=by omega
      have Hn7:=Lh hn7
      clear p1 hown7 hap7 hgx hgx1 hgs6 hgb6 hn7
      go_wp2_with fail
      have j2:¬(n7:Int)<1:=by omega
      have j3:¬(3:Int)<(n7:Int):=by omega
      have j4:(0:Int)<(n7:Int):=by omega
      have j4b:0<n7:=by omega
      go_region_held3 (fun W=>W.cell? ⟨g7,0,none⟩=some (.int .i64 (b0:Int))∧W.cell? ⟨gc,0,none⟩=some (.int .i64 (b0:Int))) (first|exact S7.out|go_keep) (fail)
      go_wp2_with fail
      go_loopg [11] n7 (fun gg s11 wr=>∃ (j:Nat) (SJ:List Nat),j≤n7∧n7-j≤gg∧s11=.int .i64 (j:Int)∧ApI x gb gr gq gs { z with c:=c7 } g7 n7 cc7 w6.drew.heap.size BS SJ j w1 wr)
      case atStart=>exact ⟨0,SL,by omega,by omega,rfl,HI0.out.later (Below.refl _ _).drew⟩
      case round=>
       obtain ⟨j,SJ,hjn,hgj,rfl,hai⟩:=hrel
       obtain ⟨wj,rfl⟩:∃ W:World,W=wr:=⟨_,rfl⟩
       have HGj:=Lh hgj
       have HI:=Lh hai
       clear hgj hai
       by_cases hjl:j<n7
       ·obtain ⟨b,hb⟩:∃ b,BS[j]? = some b:=⟨_,Zg (by have:=Hn7.out;omega)⟩
        have Hb:=Lh hb
        obtain ⟨hb1,hb2,hb3,hb4⟩:=Hlow.out b (List.mem_of_getElem? hb)
        obtain ⟨gq7,hgq7,-,-,p1⟩:=Own.cell_at HI.out.row (k:=j) (v:=natv b) (by simp only [List.getElem?_map,hb,Option.map_some])
        obtain rfl:g7=gq7:=by cases hgq7;rfl
        have p1:wj.cell? ⟨g7,j,none⟩=some (.int .i64 (b:Int)):=p1
        clear hgq7
        have hz:SJ[b]? = some 0:=by
         obtain ⟨v,hv⟩:∃ v,SJ[b]? = some v:=⟨_,Zg (by rw [HI.out.len];exact hb2)⟩
         by_cases e:v=0
         ·rw [hv,e]
         ·exact absurd (drop_at hb) (HI.out.new b v hv e)
        have p2:=BlkN.cell HI.out.seen hz
        have p3:=HI.out.both.cell 2
        simp only [bothV,Zt,Zz,Zs] at p3
        have S0:=Lh (⟨p1,p2,p3⟩:wj.cell? ⟨g7,j,none⟩=some (.int .i64 (b:Int))∧wj.cell? ⟨gs,b,none⟩=some (.int .i64 0)∧wj.cell? ⟨gb,2,none⟩=some (.pointer (some ⟨x.m.a.g,0,none⟩)))
        have hlt3:g7<wj.heap.size∧gs<wj.heap.size∧gb<wj.heap.size:=⟨(Own.lt HI.out.row rfl).2,Blk.lt HI.out.seen,HI.out.both.lt⟩
        have KS:=Lh (fun (W:World) (hb:Below wj.heap.size wj W)=>(⟨(hb.cell (p:=⟨g7,j,none⟩) hlt3.1).trans S0.out.1,(hb.cell (p:=⟨gs,b,none⟩) hlt3.2.1).trans S0.out.2.1,(hb.cell (p:=⟨gb,2,none⟩) hlt3.2.2).trans S0.out.2.2⟩:W.cell? ⟨g7,j,none⟩=some (.int .i64 (b:Int))∧W.cell? ⟨gs,b,none⟩=some (.int .i64 0)∧W.cell? ⟨gb,2,none⟩=some (.pointer (some ⟨x.m.a.g,0,none⟩))))
        have HTk:=Lh (by
         have h:=allocTaken z.m b wj.drew (HI.out.st.mem.later (Below.refl _ _).drew).am (by omega)
         rw [show z.m.a.g=x.m.a.g from HI.out.st.same.m] at h
         refine h.mono (fun e w' hp=>?_)
         obtain ⟨rfl,q,rfl⟩:=hp
         exact ⟨by rw [qT (Or.inl hb3)],(Below.refl _ _).drew.trans (below_drewN wj.drew q)⟩:
         Calls Tryz.prog 15 #[.pointer (some ⟨x.m.a.g,0,none⟩),.int .i64 (b:Int)] wj.drew (fun e w'=>e=.returned (.bool true)∧Below wj.heap.size wj w'))
        have j5:(j:Int)<(n7:Int):=by omega
        have hbb:50≤b∧b<250:=⟨hb1,hb2⟩
        clear hb hb1 hb2 hb3 hb4 p1 p2 p3 hz hlt3
        go_wp2_with fail
        have j6:¬(b:Int)<50:=by omega
        have j7:(b:Int)<250:=by omega
        have j8:¬(250:Int)≤(b:Int):=by omega
        have j9:(j:Int)<(n7:Int):=by omega
        go_region_held3 (fun W=>W.cell? ⟨g7,j,none⟩=some (.int .i64 (b:Int))∧W.cell? ⟨gs,b,none⟩=some (.int .i64 0)∧W.cell? ⟨gb,2,none⟩=some (.pointer (some ⟨x.m.a.g,0,none⟩)))
         (first|(exact S0.out)|(exact S9.out)|go_keep)
         (first|(go_at_call 15;refine HTk.out.mono ?_;rintro e w9 ⟨rfl,hb9⟩;have HB9:=Lh hb9;have S9:=Lh (KS.out w9 hb9);clear hb9))
        have t1:=S9.out.1
        have t2:=(BlkN.later HI.out.seen HB9.out).frozen b
        have HI9:=Lh (HI.out.step HB9.out Hb.out Hnd.out (Hlow.out b (List.mem_of_getElem? Hb.out)).2.2.1 (by have:=Hlt7.out;omega) HP.out.ne (by have:=Hgs.out;omega))
        go_wp2_with fail
        go_roundg (n7-(j+1))
        case measure=>have:=HGj.out;omega
        case rel=>exact ⟨j+1,SJ.set b 1,by omega,by omega,by go_num,HI9.out⟩
       ·obtain rfl:j=n7:=by omega
        have j5:¬(j:Int)<(j:Int):=by omega
        clear hjl
        go_wp2_with fail
        go_roundg (n-(k+1))
        case measure=>have:=HGg.out;omega
        case rel=>exact ⟨k+1,{ z with c:=c7 },SJ,by omega,by omega,by omega,by go_num,⟨HI.out.st,⟨HSm5.out.nK,HSm5.out.nW,HSm5.out.nF,HSm5.out.nD,HSm5.out.kl,HSm5.out.qs⟩,HI.out.seen,HI.out.len,HI.out.taken,HI.out.both,HI.out.apb,HI.out.aps,HP.out.ne⟩⟩
   ·have HE:=Lh HBr.out
    by_cases hk:k<n
    ·have j0:(k:Int)<(n:Int):=by omega
     have j1:¬(k:Int)<60:=by omega
     clear hlt
     go_wp2_with fail
     go_meet
     exact HBr.out
    ·have j0:¬(k:Int)<(n:Int):=by omega
     clear hlt
     go_wp2_with fail
     go_meet
     exact HBr.out
 case rest=>
  have HB:=Lh hcut
  have HLv:=Lh (lawLives wc)
  clear hcut
  go_wp2_with fail
  refine HLv.out.mono ?_
  rintro e w6 ⟨rfl,hb6⟩
  have HB6:=Lh hb6
  clear hb6
  go_wp2
  rw [←HRe.out]
  exact ⟨rfl,HB.out.trans (HB6.out.mono HB.out.size)⟩
end Go.Proofs.YtiihiocgbfafaaaGreat
namespace Go.Proofs.YtiihiocgbfafaaaGreat.capart
open Go.ChangeShapes Go.WideShapes Go.ChangeAt Go.RowKit
open Go.ChangeMaps (setBlock shut_map_nil open_string shut_string keptBut_setBlock frozen?_setBlock heap_setBlock_same)
theorem contract (H:Type) (enc:TypeId × Value→H) (W:World) (base:Nat) (args:Array Value) (ds gs:List (DataW H)) (before:List MemPlace)
 (hval:∀ (j:Nat) t v,Tryz.f4.params[j]? = some t→args[j]? = some v→Value.okWide Tryz.prog W .any base t v)
 (hW:DataW.Whole enc Tryz.prog Tryz.f4.params.toList Rows.chunksApartSpec.vars false W args.toList ds gs before):
 Calls Tryz.prog 4 args W fun e W'=>∃ v,e=.returned v∧Rows.chunksApartSpec.post enc Tryz.prog Tryz.f4 false true false false W args v W':=by
 have hW':=hW
 obtain ⟨p,q,hA0,hV,rfl,hfz,hnd⟩:=hW
 have hA:DataW.TrodAll enc Tryz.prog W 0 (fun _=>true) true Tryz.f4.params.toList args.toList ds p:=hA0
 rw [Tryz.params4] at hA hval
 obtain ⟨v0,vs0,d0,ds0,p0,q0,hargs,rfl,rfl,h0,r0⟩:=trodAll_cons hA
 obtain ⟨rfl,rfl,rfl⟩:=trodAll_nil r0
 obtain rfl:args=#[v0]:=by cases args;simp_all
 obtain ⟨rfl,rfl⟩:=trodVars_none hV
 obtain ⟨A,n,c,L,rfl,hB,hc,hc2⟩:=open_bytess (hval 0 48 v0 rfl rfl) h0
 clear hA0
 simp only [List.append_nil] at hW'
 refine (lawApart A n c L W hB).mono fun e W' ⟨he,hb⟩=>?_
 subst he
 have hlt:∀ x∈p0,x.block<W.heap.size:=fun x hx=>hW'.lt x (by simp [hx])
 exact ⟨_,rfl,post_kept2 hW' rfl (fun _ _ _=>trodAll_cons_mk (shut_bool Tryz.underlying4 _) trodAll_mk0) (by
  have:=trodAll_cons_mk (Below.trod laidOut readable_bytess row_bytess h0 hb hlt) trodAll_mk0
  simp only [List.append_nil] at this ⊢
  exact this) rfl hb⟩
theorem reads (os:Os) {H:Type} (enc:TypeId × Value→H):∃ places,DataW.whole enc Tryz.prog ((laidWorld os).forCall (fun _ _=>0) ⟨#[],#[.slice none 0 0],[]⟩).memory Tryz.f4.params.toList Rows.chunksApartSpec.vars false #[Value.slice none 0 0].toList 8=some ([.nil],[],places):=
 ⟨[],by kernel_rfl⟩
theorem lifted (os:Os) (started:os.Started) (H:Type) (enc:TypeId × Value→H) (F:Stop.Interp):
 ReturnsInHanded {} Tryz.checked os 4 .any ((OpenSpec.ofChange Rows.chunksApartSpec).preRow enc Tryz.prog Tryz.f4 Rows.chunksApartRow.domain false Rows.chunksApartRow.laid) (((OpenSpec.ofChange Rows.chunksApartSpec).at F).post enc Tryz.prog Tryz.f4 false true false false):=by
 obtain ⟨places,hx⟩:=reads os enc
 refine returnsInHanded_of_row (C:=Tryz.checked) (s:=OpenSpec.ofChange Rows.chunksApartSpec) own started (by kernel_rfl) Tryz.func4
  (witness_row_at (enc:=enc) (C:=Tryz.checked) false (laidWorld os) #[.slice none 0 0] rfl (by kernel_rfl) (by kernel_rfl) (by kernel_rfl)
    (OpenSpec.preRow_of_cond 8 hx (by kernel_rfl) (fun k hk=>by cases hk) (by kernel_rfl) (show laidMet Tryz.prog [] _ from ⟨[],by first|trivial|exact rfl|simp [DataW.LaidVars],List.nodup_nil,fun b off h=>by cases h⟩))) ?_
 intro W base args ds gs before hval hW _ _ _ _ hsh _
 exact contract H enc W base args ds gs before hval hW
theorem said:Rows.ChunksApartSaid:=
 OpenClaim.holds_of_cond 4 Tryz.f4 rfl rfl rfl rfl rfl rfl rfl ⟨rfl,rfl,rfl,rfl,rfl⟩ rfl rfl rfl rfl rfl (by kernel_rfl) Tryz.func4 (by kernel_rfl)
  (of_decide_eq_true (by kernel_rfl)) (by unfold Func.isWrapper;rw [if_neg (of_decide_eq_false (by kernel_rfl))];exact ⟨rfl,rfl⟩)
  (fun os started H enc _ F=>by rw [OpenClaim.pre_eq_preRow];exact lifted os started H enc F)
#print axioms said
end Go.Proofs.YtiihiocgbfafaaaGreat.capart
