/- H5 H6 H7 -/
import Derived.Test.YtiihiocgbfafaaaGreatKKb
import Derived.Test.YtiihiocgbfafaaaGreatKKc
import Derived.Deep.WholeRow
import Derived.StillTailTactics
set_option linter.unusedSimpArgs false
set_option linter.unusedVariables false
set_option maxHeartbeats 8000000
set_option maxRecDepth 100000
namespace Go.Proofs.YtiihiocgbfafaaaGreat
open Go.RowKit
theorem rot_cnt:∀ k:Nat,k<32→0<k→bits .and .u64 (IntKind.u64.wrap (-(k:Int))) 31=((32-k:Nat):Int):=by decide
def rotI (x:Int) (k:Nat):Int:=bits .or .u32 (x*2^(32-k)%4294967296) (x/2^k)
theorem rotateLeft (x:Int) (k:Nat) (w:World) (hk0:0<k) (hk:k<32):Calls Tryz.prog 100 #[.int .u32 x,.int .i64 (-(k:Int))] w fun e w'=>e=.returned (.int .u32 (rotI x k))∧w'=w:=by
 have h1:=rot_cnt k hk hk0
 obtain ⟨s,hs⟩:∃ s,s=32-k:=⟨_,rfl⟩
 rw [←hs] at h1
 have h2:IntKind.u64.wrap (32-(s:Int))=(k:Int):=by rw [IntKind.wrap_u64];omega
 have hsk:32-s=k:=by omega
 have hx:rotI x k=bits .or .u32 (x*2^s%4294967296) (x/2^k):=by unfold rotI;rw [hs]
 rw [hx]
 clear hx hs
 go_enter Tryz.func100,Tryz.ntmps100
 go_wp2
 go_ret
 exact ⟨rfl,rfl⟩
theorem turn (x:Int) (k:Nat) (w:World) (hk0:0<k) (hk:k<32):Calls Tryz.prog 70 #[.int .u32 x,.int .i64 (k:Int)] w fun e w'=>e=.returned (.int .u32 (rotI x k))∧w'=w:=by
 have HR:=Lh (rotateLeft x k w hk0 hk)
 have e1:IntKind.i64.wrap (-(k:Int))=-(k:Int):=wrapi64 (by omega) (by omega)
 go_enter Tryz.func70,Tryz.ntmps70
 go_wp2_with fail
 refine HR.out.mono ?_
 rintro e w1 ⟨rfl,rfl⟩
 go_wp2
 go_ret
 exact ⟨rfl,rfl⟩
def u32v (x:Int):Value:=.int .u32 x
def BlkU (w:World) (g:Nat) (t:TypeId) (l:List Int):Prop:=Blk w g t (l.map u32v).toArray
theorem BlkU.cell {w:World} {g:Nat} {t:TypeId} {l:List Int} (h:BlkU w g t l) {i:Nat} {x:Int} (hx:l[i]? = some x):w.cell? ⟨g,i,none⟩=some (.int .u32 x):=by
 rw [Blk.cell h];simp [hx,u32v]
theorem BlkU.cellD {w:World} {g:Nat} {t:TypeId} {l:List Int} (h:BlkU w g t l) {i:Nat} (hi:i<l.length):w.cell? ⟨g,i,none⟩=some (.int .u32 (l.getD i 0)):=by
 refine h.cell ?_
 rw [Zg hi,List.getD,Zg hi];rfl
theorem BlkU.frozen {w:World} {g:Nat} {t:TypeId} {l:List Int} (h:BlkU w g t l) (i:Nat):w.frozen? ⟨g,i,none⟩=false:=Blk.frozen h i
theorem BlkU.set {w:World} {g:Nat} {t:TypeId} {l:List Int} (h:BlkU w g t l) (i:Nat) (x:Int):BlkU (w.setCell ⟨g,i,none⟩ (.int .u32 x)) g t (l.set i x):=by
 have:=Blk.set h i (.int .u32 x)
 unfold BlkU
 rw [List.map_set]
 simpa [u32v] using this
theorem BlkU.later {w w':World} {g:Nat} {t:TypeId} {l:List Int} (h:BlkU w g t l) (hb:Below w.heap.size w w'):BlkU w' g t l:=Blk.later h hb
def byI (b:List UInt8) (i:Nat):Int:=((b.getD i 0).toNat:Int)
def wordI (b:List UInt8) (i:Nat):Int:=
 bits .or .u32 (bits .or .u32 (bits .or .u32 (byI b (4*i)*16777216%4294967296) (byI b (4*i+1)*65536%4294967296)) (byI b (4*i+2)*256%4294967296)) (byI b (4*i+3))
def sch1 (b:List UInt8):Nat→List Int
 | 0=>List.replicate 64 0
 | i+1=>(sch1 b i).set i (wordI b i)
theorem sch1_len (b:List UInt8):∀ i,(sch1 b i).length=64
 | 0=>rfl
 | i+1=>by rw [sch1,List.length_set,sch1_len b i]
def mixI (l:List Int) (i:Nat):Int:=
 (l.getD (i-16) 0+bits .xor .u32 (bits .xor .u32 (rotI (l.getD (i-15) 0) 7) (rotI (l.getD (i-15) 0) 18)) (l.getD (i-15) 0/8)+l.getD (i-7) 0 +
   bits .xor .u32 (bits .xor .u32 (rotI (l.getD (i-2) 0) 17) (rotI (l.getD (i-2) 0) 19)) (l.getD (i-2) 0/1024))%4294967296
def sch2 (b:List UInt8):Nat→List Int
 | 0=>sch1 b 16
 | j+1=>(sch2 b j).set (16+j) (mixI (sch2 b j) (16+j))
theorem sch2_len (b:List UInt8):∀ i,(sch2 b i).length=64
 | 0=>sch1_len b 16
 | i+1=>by rw [sch2,List.length_set,sch2_len b i]
def schedL (b:List UInt8):List Int:=sch2 b 48
theorem by_conv (x:UInt8):IntKind.u32.wrap (x.toNat:Int)=(x.toNat:Int):=by
 have:=UInt8.toNat_lt x
 rw [IntKind.wrap_u32];omega
theorem schedule (A:OA) (n c:Nat) (b:List UInt8) (w:World) (hl:b.length=n) (hr:Bs w A b) (hn:64≤n) (hn2:n≤1000000):
 Calls Tryz.prog 69 #[.slice A n c] w fun e w'=>e=.returned (.agg ((schedL b).map u32v).toArray)∧Below w.heap.size w w':=by
 have HB0:=Lh (((Below.refl w.heap.size w).alloc nL (.cells ((List.replicate 64 0).map u32v).toArray 144)).alloc (by simp) (.cells ((List.replicate 64 0).map u32v).toArray 144):Below w.heap.size w _)
 have HW:=Lh (show BlkU ((w.alloc (.cells ((List.replicate 64 0).map u32v).toArray 144)).alloc (.cells ((List.replicate 64 0).map u32v).toArray 144)) (w.heap.size+1) 144 (sch1 b 0) from by
  have h:=Blk.new (w.alloc (.cells ((List.replicate 64 0).map u32v).toArray 144)) 144 ((List.replicate 64 0).map u32v).toArray
  rw [show (w.alloc (.cells ((List.replicate 64 0).map u32v).toArray 144)).heap.size=w.heap.size+1 by simp] at h
  exact h)
 have HZ0:=Lh (show BlkU ((w.alloc (.cells ((List.replicate 64 0).map u32v).toArray 144)).alloc (.cells ((List.replicate 64 0).map u32v).toArray 144)) w.heap.size 144 (sch1 b 0) from
  (Blk.new w 144 ((List.replicate 64 0).map u32v).toArray).later ((Below.refl _ _).alloc nL _))
 obtain ⟨bb,ob,-,rfl,-,-⟩:=hr.at_ (k:=0) (by omega)
 have HL:=Lh hl
 have HR:=Lh hr
 clear hl hr
 go_enter Tryz.func69,Tryz.ntmps69
 go_wp2_with fail
 generalize hX:World.alloc (World.alloc w _) _=w1
 have HW1:=Lh (by rw [←hX];exact HW.out:BlkU w1 (w.heap.size+1) 144 (sch1 b 0))
 have HB1:=Lh (by rw [←hX];exact HB0.out:Below w.heap.size w w1)
 have HZ1:=Lh (by rw [←hX];exact HZ0.out:BlkU w1 w.heap.size 144 (sch1 b 0))
 clear hX HW HB0 HZ0
 go_loopg [8] 16 (fun gg s8 wr=>∃ i:Nat,i≤16∧16-i≤gg∧s8=.int .i64 (i:Int)∧BlkU wr (w.heap.size+1) 144 (sch1 b i)∧BlkU wr w.heap.size 144 (sch1 b 0)∧Below w.heap.size w wr)
 case atStart=>exact ⟨0,Nat.zero_le _,by omega,rfl,HW1.out,HZ1.out,HB1.out⟩
 case round=>
  obtain ⟨i,hi,hgg,rfl,hC,hZ,hbel⟩:=hrel
  have HC:=Lh hC
  have HZ:=Lh hZ
  clear hZ
  have HB:=Lh hbel
  by_cases hlt:i<16
  ·have hR:=HR.out.later hbel
   obtain ⟨b1,o1,x0,e0,h0,c0⟩:=hR.at_ (k:=4*i) (by rw [HL.out];omega)
   obtain ⟨b2,o2,x1,e1,h1,c1⟩:=hR.at_ (k:=4*i+1) (by rw [HL.out];omega)
   obtain ⟨b3,o3,x2,e2,h2,c2⟩:=hR.at_ (k:=4*i+2) (by rw [HL.out];omega)
   obtain ⟨b4,o4,x3,e3,h3,c3⟩:=hR.at_ (k:=4*i+3) (by rw [HL.out];omega)
   cases e0;cases e1;cases e2;cases e3
   have HV:=Lh (show wordI b i=bits .or .u32 (bits .or .u32 (bits .or .u32 ((x0.toNat:Int)*16777216%4294967296) ((x1.toNat:Int)*65536%4294967296)) ((x2.toNat:Int)*256%4294967296)) (x3.toNat:Int) from by
    unfold wordI byI
    simp only [List.getD,h0,h1,h2,h3,Option.getD_some])
   have k0:IntKind.i64.wrap (4*(i:Int))=((4*i:Nat):Int):=by rw [wrapi64 (by omega) (by omega)];omega
   have k1:IntKind.i64.wrap (((4*i:Nat):Int)+1)=((4*i+1:Nat):Int):=by rw [wrapi64 (by omega) (by omega)];omega
   have k2:IntKind.i64.wrap (((4*i:Nat):Int)+2)=((4*i+2:Nat):Int):=by rw [wrapi64 (by omega) (by omega)];omega
   have k3:IntKind.i64.wrap (((4*i:Nat):Int)+3)=((4*i+3:Nat):Int):=by rw [wrapi64 (by omega) (by omega)];omega
   have b0:4*i<n:=by omega
   have b1:4*i+1<n:=by omega
   have b2:4*i+2<n:=by omega
   have b3:4*i+3<n:=by omega
   have j1:(i:Int)<64:=by omega
   have v0:=by_conv x0
   have v1:=by_conv x1
   have v2:=by_conv x2
   have v3:=by_conv x3
   have cW:=hC.cellD (i:=i) (by rw [sch1_len];omega)
   have fW:=hC.frozen i
   generalize 4*i=p at *
   obtain ⟨p1,hp1⟩:∃ p1,p+1=p1:=⟨_,rfl⟩
   obtain ⟨p2,hp2⟩:∃ p2,p+2=p2:=⟨_,rfl⟩
   obtain ⟨p3,hp3⟩:∃ p3,p+3=p3:=⟨_,rfl⟩
   simp only [hp1,hp2,hp3] at *
   clear h0 h1 h2 h3 hR hC hbel hp1 hp2 hp3
   go_wp2_with fail
   refine wp_region_still_tail 35 (by kernel_rfl) (by kernel_rfl) ?_
   simp only [List.take_succ_cons,List.take_zero,List.drop_succ_cons,List.drop_zero]
   repeat still_step
   refine wpStill_nil ?_
   change wpList _ _ _ _ _ wr.drew
   go_wp2
   go_roundg (16-(i+1))
   case measure=>omega
   case rel=>
    refine ⟨i+1,by omega,by omega,by go_num,?_,(Blk.kept HZ.out (grown_set _ _ _) (by simp)).later ((Below.refl _ _).drew),?_⟩
    ·have h:=HC.out.set i (wordI b i)
     rw [HV.out] at h
     rw [sch1,HV.out]
     exact h
    ·exact (HB.out.setCell (p:=⟨w.heap.size+1,i,none⟩) (by show w.heap.size≤w.heap.size+1;omega) _).drew
  ·obtain rfl:i=16:=by omega
   clear hC hbel
   go_wp2_with fail
   go_loopg [5] 48 (fun gg s5 wr=>∃ i:Nat,i≤48∧48-i≤gg∧s5=.int .i64 ((16+i:Nat):Int)∧BlkU wr (w.heap.size+1) 144 (sch2 b i)∧BlkU wr w.heap.size 144 (sch1 b 0)∧Below w.heap.size w wr)
   case atStart=>exact ⟨0,Nat.zero_le _,by omega,rfl,HC.out,HZ.out,HB.out⟩
   case round=>
    obtain ⟨i,hi,hgg,rfl,hC,hZ,hbel⟩:=hrel
    have HZ:=Lh hZ
    clear hZ
    have HC:=Lh hC
    have HB:=Lh hbel
    have hlen:=sch2_len b i
    by_cases hlt:i<48
    ·have hV:=mixI.eq_1 (sch2 b i) (16+i)
     have hS:sch2 b (i+1)=(sch2 b i).set (16+i) (mixI (sch2 b i) (16+i)):=by rw [sch2]
     have HV:=Lh hV
     have HS:=Lh hS
     clear hV hS
     have k15:IntKind.i64.wrap (((16+i:Nat):Int)-15)=((16+i-15:Nat):Int):=by rw [wrapi64 (by omega) (by omega)];omega
     have k2:IntKind.i64.wrap (((16+i:Nat):Int)-2)=((16+i-2:Nat):Int):=by rw [wrapi64 (by omega) (by omega)];omega
     have k16:IntKind.i64.wrap (((16+i:Nat):Int)-16)=((16+i-16:Nat):Int):=by rw [wrapi64 (by omega) (by omega)];omega
     have k7:IntKind.i64.wrap (((16+i:Nat):Int)-7)=((16+i-7:Nat):Int):=by rw [wrapi64 (by omega) (by omega)];omega
     have c15:=hC.cellD (i:=16+i-15) (by omega)
     have c2:=hC.cellD (i:=16+i-2) (by omega)
     have c16:=hC.cellD (i:=16+i-16) (by omega)
     have c7:=hC.cellD (i:=16+i-7) (by omega)
     have cW:=hC.cellD (i:=16+i) (by omega)
     have fW:=hC.frozen (16+i)
     have d15:16+i-15<64:=by omega
     have d2:16+i-2<64:=by omega
     have d16:16+i-16<64:=by omega
     have d7:16+i-7<64:=by omega
     have d0:16+i<64:=by omega
     generalize hq:16+i=q at *
     obtain ⟨q15,hq15⟩:∃ x,q-15=x:=⟨_,rfl⟩
     obtain ⟨q2,hq2⟩:∃ x,q-2=x:=⟨_,rfl⟩
     obtain ⟨q16,hq16⟩:∃ x,q-16=x:=⟨_,rfl⟩
     obtain ⟨q7,hq7⟩:∃ x,q-7=x:=⟨_,rfl⟩
     rw [hq15] at k15 c15 d15
     rw [hq2] at k2 c2 d2
     rw [hq16] at k16 c16 d16
     rw [hq7] at k7 c7 d7
     rw [hq15,hq2,hq16,hq7] at HV
     generalize (sch2 b i).getD q15 0=y15 at *
     generalize (sch2 b i).getD q2 0=y2 at *
     generalize (sch2 b i).getD q16 0=y16 at *
     generalize (sch2 b i).getD q7 0=y7 at *
     have HQ:=Lh hq
     have j15:(q15:Int)<64:=by omega
     have j2:(q2:Int)<64:=by omega
     have j16:(q16:Int)<64:=by omega
     have j7:(q7:Int)<64:=by omega
     have j0:(q:Int)<64:=by omega
     have T1:=Lh (fun w=>turn y15 7 w (by omega) (by omega))
     have T2:=Lh (fun w=>turn y15 18 w (by omega) (by omega))
     have T3:=Lh (fun w=>turn y2 17 w (by omega) (by omega))
     have T4:=Lh (fun w=>turn y2 19 w (by omega) (by omega))
     clear hq hq15 hq2 hq16 hq7 hC hbel hlen
     go_wp2_with fail
     go_still (by kernel_rfl)
     change Exit.then _ _ _ _ wr.drew
     have HCd:=Lh (show BlkU wr.drew (w.heap.size+1) 144 (sch2 b i) from HC.out)
     have HZd:=Lh (show BlkU wr.drew w.heap.size 144 (sch1 b 0) from HZ.out)
     have HBd:=Lh (show Below w.heap.size w wr.drew from HB.out.drew)
     have e15:wr.drew.cell? _=_:=c15
     have e2:wr.drew.cell? _=_:=c2
     have e16:wr.drew.cell? _=_:=c16
     have e7:wr.drew.cell? _=_:=c7
     have eW:wr.drew.cell? _=_:=cW
     have eF:wr.drew.frozen? _=_:=fW
     clear c15 c2 c16 c7 cW fW HC HB
     generalize wr.drew=wd at *
     go_wp2_with fail
     refine wp_region_still_tail 29 (by kernel_rfl) (by kernel_rfl) ?_
     simp only [List.take_succ_cons,List.take_zero,List.drop_succ_cons,List.drop_zero]
     repeat still_step
     still_call (T1.out _)
     repeat still_step
     still_call (T2.out _)
     repeat still_step
     still_call (T3.out _)
     repeat still_step
     still_call (T4.out _)
     repeat still_step
     refine wpStill_nil ?_
     change wpList _ _ _ _ _ (World.drew _)
     go_wp2
     go_roundg (48-(i+1))
     case measure=>omega
     case rel=>
      have hq:=HQ.out
      refine ⟨i+1,by omega,by omega,int_eq (by omega),?_,(Blk.kept HZd.out (grown_set _ _ _) (by simp)).later ((Below.refl _ _).drew),?_⟩
      ·have h:=HCd.out.set q (mixI (sch2 b i) q)
       rw [←HS.out,HV.out] at h
       exact h
      ·exact (HBd.out.setCell (p:=⟨w.heap.size+1,q,none⟩) (by show w.heap.size≤w.heap.size+1;omega) _).drew
    ·obtain rfl:i=48:=by omega
     have hi64:(Tryz.prog.info? 144).map (·.size)=some ((sch2 b 48).map u32v).toArray.size:=by
      rw [List.size_toArray,List.length_map,hlen];kernel_rfl
     have HI:=Lh hi64
     have hz64:((sch1 b 0).map u32v).toArray.size=((sch2 b 48).map u32v).toArray.size:=by simp [hlen,sch1_len]
     have HZs:=Lh hz64
     have h1:((sch2 b 48).map u32v).toArray.all (·.oneCell')=true:=by
      refine all_oneCell_toArray (fun v hv=>?_)
      obtain ⟨x,-,rfl⟩:=List.mem_map.1 hv
      rfl
     have H1:=Lh h1
     clear hC hbel hlen hi64 hz64 h1
     go_wp2_with (first
      | (refine wpList_load_row rfl _ _ rfl (w.heap.size+1) rfl 144 _ (0,0) _ HC.out Tryz.underlying144 rfl HI.out ?_)
      | (refine wpList_store_row rfl _ _ _ rfl w.heap.size _ rfl rfl 144 _ HZ.out HI.out HZs.out H1.out ?_))
     refine bodyPost_ret (results_cell_row rfl _ _ w.heap.size 144 _ (0,0) _ rfl (setRow_heap wr w.heap.size _ _ _ _ HZ.out) Tryz.underlying144 rfl HI.out) rfl ⟨rfl,?_⟩
     exact HB.out.grown (row:=some w.heap.size) ⟨rfl,rfl,rfl,by simp,fun k _ hk=>setRow_other wr _ k _ (fun e=>hk (by rw [e]))⟩ HB.out.size (fun k hk=>by cases hk;exact Nat.le_refl _)
theorem schedL_len (b:List UInt8):(schedL b).length=64:=sch2_len b 48
attribute [irreducible] schedL
def kL:List Int:=[1116352408,1899447441,3049323471,3921009573,961987163,1508970993,2453635748,2870763221,3624381080,310598401,607225278,1426881987,1925078388,2162078206,2614888103,3248222580,3835390401,4022224774,264347078,604807628,770255983,1249150122,1555081692,1996064986,2554220882,2821834349,2952996808,3210313671,3336571891,3584528711,113926993,338241895,666307205,773529912,1294757372,1396182291,1695183700,1986661051,2177026350,2456956037,2730485921,2820302411,3259730800,3345764771,3516065817,3600352804,4094571909,275423344,430227734,506948616,659060556,883997877,958139571,1322822218,1537002063,1747873779,1955562222,2024104815,2227730452,2361852424,2428436474,2756734187,3204031479,3329325298]
def s0L:List Int:=[1779033703,3144134277,1013904242,2773480762,1359893119,2600822924,528734635,1541459225]
theorem wpList_build_to {P:Program} {ops:Array Oper} {rest:List Oper} {o:Oper} {a:Act} {w:World} {Q:Exit→Act→World→Prop} (hg:o.guard=none) (t:TypeId) (parts:Array (Nat × Operand)) (ho:o.op=.build t parts) (cells:Array Value)
 (hc:P.built t (parts.map fun (i,x)=>(i,a.eval x)).toList=some cells) (h:wpList P ops Q rest (a.put o.dst (.agg cells)) w):wpList P ops Q (o::rest) a w:=
 wpList_build hg t parts ho (by rw [hc];rfl) (by rw [hc];exact h)
theorem words (w:World):Calls Tryz.prog 68 #[] w fun e w'=>e=.returned (.agg (kL.map u32v).toArray)∧Below w.heap.size w w':=by
 have HZ:=Lh (Blk.new w 144 ((List.replicate 64 0).map u32v).toArray)
 have HB:=Lh ((Below.refl w.heap.size w).alloc nL (.cells ((List.replicate 64 0).map u32v).toArray 144))
 have HI:=Lh (by rw [List.size_toArray,List.length_map];kernel_rfl:(Tryz.prog.info? 144).map (·.size)=some (kL.map u32v).toArray.size)
 have hz:((List.replicate 64 0).map u32v).toArray.size=(kL.map u32v).toArray.size:=by rw [List.size_toArray,List.length_map,List.length_replicate,List.size_toArray,List.length_map];rfl
 have HZs:=Lh hz
 have h1:(kL.map u32v).toArray.all (·.oneCell')=true:=by
  refine all_oneCell_toArray (fun v hv=>?_)
  obtain ⟨x,-,rfl⟩:=List.mem_map.1 hv
  rfl
 have H1:=Lh h1
 clear hz h1
 obtain ⟨K,hK⟩:∃ K,(kL.map u32v).toArray=K:=⟨_,rfl⟩
 rw [hK] at HI HZs H1 ⊢
 have HK:=Lh hK
 clear hK
 go_enter Tryz.func68,Tryz.ntmps68
 go_wp2_with (refine wpList_build_to rfl _ _ rfl K (by rw [←HK.out];kernel_rfl) ?_;generalize hX:World.alloc w _=w1;have HZ1:=Lh (by rw [←hX];exact HZ.out:Blk w1 w.heap.size 144 ((List.replicate 64 0).map u32v).toArray);have HB1:=Lh (by rw [←hX];exact HB.out:Below w.heap.size w w1);clear hX;refine wpList_store_row rfl _ _ _ rfl w.heap.size K rfl rfl 144 _ HZ1.out HI.out HZs.out H1.out ?_)
 refine bodyPost_ret (results_cell_row rfl _ _ w.heap.size 144 _ (0,0) _ rfl (setRow_heap w1 w.heap.size _ _ _ _ HZ1.out) Tryz.underlying144 rfl HI.out) rfl ⟨rfl,?_⟩
 exact HB1.out.grown (row:=some w.heap.size) ⟨rfl,rfl,rfl,by simp,fun k _ hk=>setRow_other w1 _ k _ (fun e=>hk (by rw [e]))⟩ HB1.out.size (fun k hk=>by cases hk;exact Nat.le_refl _)
def tI (x k w:List Int) (i:Nat):Int:=
 IntKind.u32.wrap (IntKind.u32.wrap (IntKind.u32.wrap (IntKind.u32.wrap (x.getD 7 0+bits .xor .u32 (bits .xor .u32 (rotI (x.getD 4 0) 6) (rotI (x.getD 4 0) 11)) (rotI (x.getD 4 0) 25)) +
  bits .xor .u32 (bits .and .u32 (x.getD 4 0) (x.getD 5 0)) (bits .and .u32 (bits .xor .u32 (if IntKind.u32.signed then -1 else IntKind.u32.max) (x.getD 4 0)) (x.getD 6 0)))+k.getD i 0)+w.getD i 0)
def uI (x:List Int):Int:=
 IntKind.u32.wrap (bits .xor .u32 (bits .xor .u32 (rotI (x.getD 0 0) 2) (rotI (x.getD 0 0) 13)) (rotI (x.getD 0 0) 22) +
  bits .xor .u32 (bits .xor .u32 (bits .and .u32 (x.getD 0 0) (x.getD 1 0)) (bits .and .u32 (x.getD 0 0) (x.getD 2 0))) (bits .and .u32 (x.getD 1 0) (x.getD 2 0)))
def rndL (x k w:List Int) (i:Nat):List Int:=
 [(tI x k w i+uI x)%4294967296,x.getD 0 0,x.getD 1 0,x.getD 2 0,(x.getD 3 0+tI x k w i)%4294967296,x.getD 4 0,x.getD 5 0,x.getD 6 0]
def rnds (s k w:List Int):Nat→List Int
 | 0=>s
 | i+1=>rndL (rnds s k w i) k w i
theorem rnds_len (s k w:List Int) (h:s.length=8):∀ i,(rnds s k w i).length=8
 | 0=>h
 | _+1=>rfl
def RF (w:World) (gX gK gW i:Nat) (y0 y1 y2 y3 y4 y5 y6 y7 ki wi:Int):Prop:=
 w.cell? ⟨gX,0,none⟩=some (.int .u32 y0)∧w.cell? ⟨gX,1,none⟩=some (.int .u32 y1)∧w.cell? ⟨gX,2,none⟩=some (.int .u32 y2)∧w.cell? ⟨gX,3,none⟩=some (.int .u32 y3) ∧
 w.cell? ⟨gX,4,none⟩=some (.int .u32 y4)∧w.cell? ⟨gX,5,none⟩=some (.int .u32 y5)∧w.cell? ⟨gX,6,none⟩=some (.int .u32 y6)∧w.cell? ⟨gX,7,none⟩=some (.int .u32 y7) ∧
 w.cell? ⟨gK,i,none⟩=some (.int .u32 ki)∧w.cell? ⟨gW,i,none⟩=some (.int .u32 wi)
theorem RF.drew {w:World} {gX gK gW i:Nat} {y0 y1 y2 y3 y4 y5 y6 y7 ki wi:Int} (h:RF w gX gK gW i y0 y1 y2 y3 y4 y5 y6 y7 ki wi):RF w.drew gX gK gW i y0 y1 y2 y3 y4 y5 y6 y7 ki wi:=h
theorem rnds_zero (s k w:List Int):rnds s k w 0=s:=rfl
theorem rnds_succ (s k w:List Int) (i:Nat):rnds s k w (i+1)=rndL (rnds s k w i) k w i:=rfl
theorem tI_eq (x k w:List Int) (i:Nat):tI x k w i=IntKind.u32.wrap (IntKind.u32.wrap (IntKind.u32.wrap (IntKind.u32.wrap (x.getD 7 0+bits .xor .u32 (bits .xor .u32 (rotI (x.getD 4 0) 6) (rotI (x.getD 4 0) 11)) (rotI (x.getD 4 0) 25)) +
 bits .xor .u32 (bits .and .u32 (x.getD 4 0) (x.getD 5 0)) (bits .and .u32 (bits .xor .u32 (if IntKind.u32.signed then -1 else IntKind.u32.max) (x.getD 4 0)) (x.getD 6 0)))+k.getD i 0)+w.getD i 0):=rfl
theorem uI_eq (x:List Int):uI x=IntKind.u32.wrap (bits .xor .u32 (bits .xor .u32 (rotI (x.getD 0 0) 2) (rotI (x.getD 0 0) 13)) (rotI (x.getD 0 0) 22) +
 bits .xor .u32 (bits .xor .u32 (bits .and .u32 (x.getD 0 0) (x.getD 1 0)) (bits .and .u32 (x.getD 0 0) (x.getD 2 0))) (bits .and .u32 (x.getD 1 0) (x.getD 2 0))):=rfl
theorem rndL_eq (x k w:List Int) (i:Nat):rndL x k w i=[(tI x k w i+uI x)%4294967296,x.getD 0 0,x.getD 1 0,x.getD 2 0,(x.getD 3 0+tI x k w i)%4294967296,x.getD 4 0,x.getD 5 0,x.getD 6 0]:=rfl
attribute [irreducible] rnds rndL tI uI
theorem one8 (x:Int):∀ u∈[Value.int .u8 x],u.oneCell'=true:=by
 intro u hu
 rw [List.mem_singleton] at hu
 subst hu;rfl
def lenB (n:Nat):List UInt8:=(List.range 8).map (fun j=>UInt8.ofNat (n*8/2^(56-8*j)))
def padL (l:List UInt8):List UInt8:=l++[128]++List.replicate ((119-l.length%64)%64) 0++lenB l.length
def addTo (s x:List Int):Nat→List Int
 | 0=>s
 | i+1=>(addTo s x i).set i (((addTo s x i).getD i 0+x.getD i 0)%4294967296)
theorem addTo_len (s x:List Int):∀ i,(addTo s x i).length=s.length
 | 0=>rfl
 | i+1=>by rw [addTo,List.length_set,addTo_len s x i]
def shaS (p:List UInt8):Nat→List Int
 | 0=>s0L
 | k+1=>addTo (shaS p k) (rnds (shaS p k) kL (schedL (p.drop (64*k))) 64) 8
def outTo (s:List Int):Nat→List UInt8
 | 0=>List.replicate 32 0
 | q+1=>(outTo s q).set q (UInt8.ofNat ((s.getD (q/4) 0/2^(24-8*(q%4))%256).toNat))
theorem outTo_len (s:List Int):∀ q,(outTo s q).length=32
 | 0=>rfl
 | q+1=>by rw [outTo,List.length_set,outTo_len s q]
theorem outTo_zero (s:List Int):outTo s 0=List.replicate 32 0:=rfl
theorem outTo_succ (s:List Int) (q:Nat):outTo s (q+1)=(outTo s q).set q (UInt8.ofNat ((s.getD (q/4) 0/2^(24-8*(q%4))%256).toNat)):=rfl
theorem addTo_zero (s x:List Int):addTo s x 0=s:=rfl
theorem addTo_succ (s x:List Int) (i:Nat):addTo s x (i+1)=(addTo s x i).set i (((addTo s x i).getD i 0+x.getD i 0)%4294967296):=rfl
theorem shaS_succ (p:List UInt8) (k:Nat):shaS p (k+1)=addTo (shaS p k) (rnds (shaS p k) kL (schedL (p.drop (64*k))) 64) 8:=rfl
def outB (s:List Int):List UInt8:=outTo s 32
def shaL (l:List UInt8):List UInt8:=outB (shaS (padL l) ((padL l).length/64))
theorem shaL_len (l:List UInt8):(shaL l).length=32:=outTo_len _ _
theorem shaS_len (p:List UInt8):∀ k,(shaS p k).length=8
 | 0=>rfl
 | k+1=>by rw [shaS,addTo_len,shaS_len p k]
attribute [irreducible] addTo outTo shaS
theorem BlkU.chg {F:Fp} {w w':World} {g:Nat} {t:TypeId} {l:List Int} (h:BlkU w g t l) (hc:Chg F w w') (hn:¬F g):BlkU w' g t l:=(hc.block g (Blk.lt h) hn).trans h
theorem Blk.chg {F:Fp} {w w':World} {g:Nat} {t:TypeId} {cs:Array Value} (h:Blk w g t cs) (hc:Chg F w w') (hn:¬F g):Blk w' g t cs:=(hc.block g h.lt hn).trans h
theorem BlkU.set8 {w:World} {g:Nat} {t:TypeId} {X:List Int} (h:BlkU w g t X) (hl:X.length=8) (a0 a1 a2 a3 a4 a5 a6 a7:Int):
 BlkU ((((((((w.setCell ⟨g,0,none⟩ (.int .u32 a0)).setCell ⟨g,1,none⟩ (.int .u32 a1)).setCell ⟨g,2,none⟩ (.int .u32 a2)).setCell ⟨g,3,none⟩ (.int .u32 a3)).setCell ⟨g,4,none⟩ (.int .u32 a4)).setCell ⟨g,5,none⟩ (.int .u32 a5)).setCell ⟨g,6,none⟩ (.int .u32 a6)).setCell ⟨g,7,none⟩ (.int .u32 a7)) g t [a0,a1,a2,a3,a4,a5,a6,a7]:=by
 have e:(((((((X.set 0 a0).set 1 a1).set 2 a2).set 3 a3).set 4 a4).set 5 a5).set 6 a6).set 7 a7=[a0,a1,a2,a3,a4,a5,a6,a7]:=by
  match X,hl with
  | [_,_,_,_,_,_,_,_],_=>rfl
 rw [←e]
 exact (((((((h.set 0 a0).set 1 a1).set 2 a2).set 3 a3).set 4 a4).set 5 a5).set 6 a6).set 7 a7
theorem Chg.set8 (w:World) (g:Nat) (a0 a1 a2 a3 a4 a5 a6 a7:Int):
 Chg (fun b=>b=g) w ((((((((w.setCell ⟨g,0,none⟩ (.int .u32 a0)).setCell ⟨g,1,none⟩ (.int .u32 a1)).setCell ⟨g,2,none⟩ (.int .u32 a2)).setCell ⟨g,3,none⟩ (.int .u32 a3)).setCell ⟨g,4,none⟩ (.int .u32 a4)).setCell ⟨g,5,none⟩ (.int .u32 a5)).setCell ⟨g,6,none⟩ (.int .u32 a6)).setCell ⟨g,7,none⟩ (.int .u32 a7)):=by
 have h:=fun (w:World) (k:Nat) (v:Value)=>Chg.setCell (F:=fun b=>b=g) w ⟨g,k,none⟩ v rfl
 exact (((((((h _ 0 _).tr (h _ 1 _)).tr (h _ 2 _)).tr (h _ 3 _)).tr (h _ 4 _)).tr (h _ 5 _)).tr (h _ 6 _)).tr (h _ 7 _)
theorem run_index_u32 {arr:Array Value} {k:Nat} {v:Value} (w:World) (hk:k<8) (hv:arr[k]? = some v):
 (Instr.index 146 (.agg arr) (.int .i64 (k:Int))).run Tryz.prog w=.ok v w:=by
 obtain ⟨i,hi,-,h1,-⟩:=info_parts (by kernel_rfl:(Tryz.prog.info? 143).map (fun i=>(i.zero,i.size,i.bytes))=some (some (.int .u32 0),1,4))
 have hn:(0≤(k:Int)∧(k:Int)<((8:Nat):Int)):=by omega
 simp [Instr.index,run_underlying Tryz.underlying146,asIntOf,hn,sizeOf,typeInfo,hi,h1,run_part_plain w (by kernel_rfl:Tryz.prog.plainKey 143=true) hv,hk]
theorem sha (A:OA) (n c:Nat) (l:List UInt8) (w:World) (hl:l.length=n) (hr:Bs w A l) (hn:n≤65536):
 Calls Tryz.prog 37 #[.slice A n c] w fun e w'=>e=.returned (.agg ((shaL l).map u8v).toArray)∧Below w.heap.size w w':=by
 have HL:=Lh hl
 have HR:=Lh hr
 clear hl hr
 have HZ0:=Lh (Blk.new w 92 ((List.replicate 32 0).map u8v).toArray)
 have HB0:=Lh ((Below.refl w.heap.size w).alloc nL (.cells ((List.replicate 32 0).map u8v).toArray 92))
 go_enter Tryz.func37,Tryz.ntmps37
 go_wp2_with (at_builtin;generalize hX:World.alloc w _=w1;have HZ1:=Lh (by rw [←hX];exact HZ0.out:Blk w1 w.heap.size 92 ((List.replicate 32 0).map u8v).toArray);have HB1:=Lh (by rw [←hX];exact HB0.out:Below w.heap.size w w1);have HS1:=Lh (by rw [←hX];simp:w.heap.size<w1.heap.size);clear hX HZ0 HB0;refine wpList_append_rd rfl _ _ elemB rfl w1.heap.size none 0 0 [] rfl (Own.nil _ _ _) A n c (l.map u8v) rfl (HR.out.later HB1.out) ?c1 (u8_one l) ?c2 ?c3 ?c4 ?_)
 case c1=>simpa using HL.out
 case c2=>omega
 case c3=>omega
 case c4=>exact Nat.le_refl _
 intro A2 c2 w2 hown hb _ _
 have HO2:=Lh hown
 have HB2:=Lh hb
 clear hown hb
 go_wp2_with (at_builtin;refine wpList_append_rd rfl _ _ elemB rfl w1.heap.size A2 n c2 (l.map u8v) rfl (Own.alloc HO2.out _) (some ⟨w2.heap.size,0,none⟩) 1 1 [.int .u8 128] rfl (Rd.one w2 _ 5) rfl (one8 128) ?c2 ?c3 ?c4 ?_)
 case c2=>omega
 case c3=>omega
 case c4=>exact Nat.le_trans HB2.out.size (by simp)
 intro A3 c3 w3 hown hb _ _
 have HO3:=Lh (by unfold OwnB;simpa [u8v] using hown:OwnB w3 w1.heap.size A3 (n+1) c3 (l++[128]))
 have HB3:=Lh ((HB2.out.alloc HB2.out.size _).trans (hb.mono nL))
 clear hown hb HO2 HB2
 obtain ⟨z,hz⟩:∃ z,(119-n%64)%64=z:=⟨_,rfl⟩
 have HZz:=Lh hz
 have hz1:z<64:=by omega
 have hz2:(n+1+z)%64=56:=by omega
 have hz3:∀ i,i<z→(n+1+i)%64≠56:=fun i hi=>by omega
 have HZ3:=Lh hz3
 clear hz hz3
 go_wp2_with fail
 go_loopg [3] z (fun gg s3 wr=>∃ (i:Nat) (A':OA) (c':Nat),i≤z∧z-i≤gg∧s3=.slice A' (n+1+i) c'∧OwnB wr w1.heap.size A' (n+1+i) c' (l++[128]++List.replicate i 0)∧Below w1.heap.size w1 wr)
 case atStart=>exact ⟨0,A3,c3,Nat.zero_le _,by omega,rfl,by simpa using HO3.out,HB3.out⟩
 case round=>
  obtain ⟨i,A',c',hi,hgg,rfl,hO,hbel⟩:=hrel
  have HO:=Lh hO
  have HB:=Lh hbel
  generalize hN:n+1+i=N at *
  have HN:=Lh hN
  have hN1:N≤70000:=by omega
  by_cases hlt:i<z
  ·have hne:=HZ3.out i hlt
   rw [hN] at hne
   have g1:(((N:Int)%64) != 56)=true:=by
    rw [bne_iff_ne];omega
   obtain ⟨Li,hLi⟩:∃ L,l++[128]++List.replicate i 0=L:=⟨_,rfl⟩
   rw [hLi] at HO
   have HLi:=Lh hLi
   clear hO hbel hne hN hLi
   go_wp2_with (at_builtin;refine wpList_append_rd rfl _ _ elemB rfl w1.heap.size A' N c' _ rfl (Own.alloc HO.out _) (some ⟨wr.heap.size,0,none⟩) 1 1 [.int .u8 0] rfl (Rd.one wr _ 5) rfl (one8 0) ?c2 ?c3 ?c4 ?_)
   case c2=>omega
   case c3=>omega
   case c4=>exact Nat.le_trans HB.out.size (by simp)
   intro A4 c4 w4 hown hb _ _
   go_wp2
   go_roundg (z-(i+1))
   case measure=>omega
   case rel=>
    have hN:=HN.out
    refine ⟨i+1,A4,c4,by omega,by omega,by rw [←hN];rfl,?_,(HB.out.alloc HB.out.size _).trans (hb.mono nL)⟩
    rw [show n+1+(i+1)=N+1 by omega,List.replicate_succ',←Za,HLi.out]
    unfold OwnB
    rw [List.map_append]
    exact hown
  ·obtain rfl:i=z:=by omega
   rw [hN] at hz2
   have g1:(((N:Int)%64) != 56)=false:=by
    rw [bne_eq_false_iff_eq];omega
   clear hO hbel hN
   go_wp2_with fail
   go_loopg [3,4] 8 (fun gg s3 s4 wr=>∃ (j:Nat) (A':OA) (c':Nat),j≤8∧8-j≤gg∧s3=.slice A' (N+j) c'∧s4=.int .i64 (56-8*(j:Int))∧OwnB wr w1.heap.size A' (N+j) c' (l++[128]++List.replicate i 0++(lenB n).take j)∧Below w1.heap.size w1 wr)
   case atStart=>exact ⟨0,A',c',Nat.zero_le _,by omega,rfl,rfl,by simpa using HO.out,HB.out⟩
   case round=>
    obtain ⟨j,A5,c5,hj,hgg5,rfl,rfl,hO5,hbel5⟩:=hrel
    have HO5:=Lh hO5
    have HB5:=Lh hbel5
    generalize hNj:N+j=M at *
    have HM:=Lh hNj
    have hM1:M≤70010:=by omega
    by_cases hlt:j<8
    ·obtain ⟨E,hE⟩:∃ E,56-8*j=E:=⟨_,rfl⟩
     have eE:(56:Int)-8*(j:Int)=(E:Int):=by omega
     have HE:=Lh hE
     have hE64:E<64:=by omega
     have k1:IntKind.u64.wrap (n:Int)=(n:Int):=by rw [IntKind.wrap_u64];omega
     have k2:IntKind.u64.wrap ((n:Int)*8)=((n*8:Nat):Int):=by rw [IntKind.wrap_u64];omega
     have k3:IntKind.i64.wrap ((E:Int)-8)=56-8*((j+1:Nat):Int):=by rw [wrapi64 (by omega) (by omega)];omega
     rw [eE]
     obtain ⟨n8,hn8⟩:∃ x,n*8=x:=⟨_,rfl⟩
     rw [hn8] at k2
     have HN8:=Lh hn8
     obtain ⟨Lj,hLj⟩:∃ L,l++[128]++List.replicate i 0++(lenB n).take j=L:=⟨_,rfl⟩
     rw [hLj] at HO5
     have HLj:=Lh hLj
     have k4:(n8:Int)/2^E%256=((UInt8.ofNat (n8/2^E)).toNat:Int):=by
      rw [UInt8.toNat_ofNat']
      have:((2:Int)^E)=((2^E:Nat):Int):=by simp
      rw [this,←Int.natCast_ediv]
      omega
     have HK4:=Lh k4
     clear hO5 hbel5 hNj hE hn8 eE hLj k4
     go_wp2_with (at_builtin;refine wpList_append_rd rfl _ _ elemB rfl w1.heap.size A5 M c5 _ rfl (Own.alloc HO5.out _) (some ⟨wr.heap.size,0,none⟩) 1 1 _ rfl (Rd.one wr _ 5) rfl (one8 _) ?c2 ?c3 ?c4 ?_)
     case c2=>omega
     case c3=>omega
     case c4=>exact Nat.le_trans HB5.out.size (by simp)
     intro A6 c6 w6 hown hb _ _
     go_wp2
     go_roundg (8-(j+1))
     case measure=>omega
     case rel=>
      have hM:=HM.out
      refine ⟨j+1,A6,c6,by omega,by omega,by rw [←hM];rfl,?_,?_,(HB5.out.alloc HB5.out.size _).trans (hb.mono nL)⟩
      ·exact int_eq (by omega)
      ·rw [show N+(j+1)=M+1 by omega,show (lenB n).take (j+1)=(lenB n).take j++[UInt8.ofNat (n8/2^E)] by
        rw [List.take_succ_eq_append_getElem (by simp [lenB];omega)]
        congr 1
        simp [lenB,HE.out,HN8.out],←Za,HLj.out]
       unfold OwnB
       rw [List.map_append]
       rw [HK4.out] at hown
       exact hown
    ·obtain rfl:j=8:=by omega
     have hP:l++[128]++List.replicate i 0++(lenB n).take 8=padL l:=by
      unfold padL
      rw [HL.out,HZz.out,List.take_of_length_le (by simp [lenB])]
     rw [hP] at HO5
     have hML:(padL l).length=M:=OwnB.length HO5.out
     have hM64:M%64=0:=by omega
     have hM0:64≤M:=by omega
     obtain ⟨g5,rfl⟩:∃ g5,A5=some ⟨g5,0,none⟩:=by
      rcases Own.form HO5.out with ⟨-,h0,-⟩|⟨g,h,-⟩
      ·omega
      ·exact ⟨g,h⟩
     have hSha:shaL l=outB (shaS (padL l) ((padL l).length/64)):=rfl
     rw [hML] at hSha
     have HSha:=Lh hSha
     clear hSha
     have HPs:=Lh (HO5.out.bs)
     have HML:=Lh hML
     generalize padL l=P at *
     have HB:=Lh (HB1.out.trans (HB5.out.mono (Nat.le_of_lt HS1.out)))
     have HZ:=Lh (HZ1.out.later HB5.out)
     have HSz:=Lh (lT HS1.out HB5.out.size)
     have hcap:=(Own.cap HO5.out).1
     clear hP hML hO5 hbel5 hNj HO5 HB5 HO HN HZz HZ3 HO3 HB3 HR HL HB1 HZ1 HM hz1 hz2 hN1 hi hgg hj hgg5
     go_wp2_with fail
     have HM64:=Lh hM64
     have HM0:=Lh hM0
     clear hM64 hM0 hlt g1
     obtain ⟨ws,rfl⟩:∃ ws:World,ws=wr:=⟨_,rfl⟩
     have HI:=Lh (by rw [List.size_toArray,List.length_map];kernel_rfl:(Tryz.prog.info? 144).map (·.size)=some (kL.map u32v).toArray.size)
     have H1:=Lh (by
      refine all_oneCell_toArray (fun v hv=>?_)
      obtain ⟨x,-,rfl⟩:=List.mem_map.1 hv
      rfl:(kL.map u32v).toArray.all (·.oneCell')=true)
     refine (words ws).mono ?_
     rintro e w9 ⟨rfl,hb9⟩
     have HB9:=Lh hb9
     clear hb9
     go_wp2_with (refine wpList_store_row rfl _ _ _ rfl w9.heap.size (kL.map u32v).toArray rfl rfl 144 _ (heap_alloc_new w9 _) HI.out (by kernel_rfl) H1.out ?_;rw [World.setRow_alloc_new];obtain ⟨w10,hw10⟩:∃ w10,w9.alloc (.cells (kL.map u32v).toArray 144)=w10:=⟨_,rfl⟩;have HK10:=Lh (by rw [←hw10];exact Blk.new w9 144 _:BlkU w10 w9.heap.size 144 kL);have HB10:=Lh (by rw [←hw10];exact HB9.out.alloc HB9.out.size _:Below ws.heap.size ws w10);rw [hw10];clear hw10)
     obtain ⟨w11,hw11⟩:∃ x,w10.alloc (.cells (s0L.map u32v).toArray 146)=x:=⟨_,rfl⟩
     have HS11:=Lh (by rw [←hw11,shaS];exact Blk.new w10 146 _:BlkU w11 w10.heap.size 146 (shaS P 0))
     have HK11:=Lh (by rw [←hw11];exact HK10.out.later ((Below.refl _ _).alloc nL _):BlkU w11 w9.heap.size 144 kL)
     have HB11:=Lh (by rw [←hw11];exact HB10.out.alloc HB10.out.size _:Below ws.heap.size ws w11)
     simp only [s0L,List.map_cons,List.map_nil,u32v] at hw11
     rw [hw11]
     have hgk:w9.heap.size<w10.heap.size:=Blk.lt HK10.out
     have hg5:g5<ws.heap.size:=by
      obtain ⟨b,o,e,hc⟩:=HPs.out (by rw [List.length_map,HML.out];have:=HM0.out;omega)
      cases e
      exact World.block_lt_of_cell? ws _ (by rw [hc 0 (by rw [List.length_map,HML.out];have:=HM0.out;omega),Zg (by rw [List.length_map,HML.out];have:=HM0.out;omega)])
     have hws9:ws.heap.size≤w9.heap.size:=HB9.out.size
     have HP11:=Lh (HPs.out.later HB11.out)
     have HZ11:=Lh (HZ.out.later HB11.out)
     have hsz11:=HB11.out.size
     have hzz:=HSz.out
     generalize w10.heap.size=gS at *
     generalize w9.heap.size=gK at *
     have HSz11:=Lh (Blk.lt HS11.out)
     clear hw11 HK10 HB10 HI H1 HPs HZ
     go_loopg [3] (M/64) (fun gg s3 wr=>∃ (k m c':Nat) (A:OA),k≤M/64∧M/64-k≤gg∧m=M-64*k∧m≤c'∧s3=.slice A m c'∧bk A=some g5∧Bs wr A (P.drop (64*k))∧BlkU wr gS 146 (shaS P k)∧Chg (fun b=>b=gS) w11 wr)
     case atStart=>exact ⟨0,M,c5,_,Nat.zero_le _,by omega,by omega,hcap,rfl,rfl,by simpa using HP11.out,HS11.out,Chg.refl _ _⟩
     case round=>
      obtain ⟨k,m,c',A,hk,hgg,hm,hmc,rfl,hbA,hPk,hSk,hch⟩:=hrel
      obtain ⟨wo,rfl⟩:∃ wo:World,wo=wr:=⟨_,rfl⟩
      have HSk:=Lh hSk
      have HPk:=Lh hPk
      have HCh:=Lh hch
      have HK:=Lh (HK11.out.chg hch (by omega))
      have HZ:=Lh (HZ11.out.chg hch (by omega))
      have hsz:=hch.size
      have hlenP:(P.drop (64*k)).length=m:=by rw [List.length_drop,HML.out,hm]
      have HlenP:=Lh hlenP
      have HBA:=Lh hbA
      clear hSk hPk hch hlenP hbA
      by_cases hlt:k<M/64
      ·have hm64:64≤m:=by have:=HM64.out;omega
       have HSch:=Lh (schedule A m c' (P.drop (64*k)) wo HlenP.out HPk.out hm64 (by omega))
       obtain ⟨W,hW⟩:∃ W,schedL (P.drop (64*k))=W:=⟨_,rfl⟩
       rw [hW] at HSch
       have HWl:=Lh (by rw [←hW];exact schedL_len _:W.length=64)
       have HW:=Lh hW
       have hSl:=shaS_len P k
       obtain ⟨S,hS⟩:∃ S,shaS P k=S:=⟨_,rfl⟩
       rw [hS] at HSk hSl
       have HSl:=Lh hSl
       have HS:=Lh hS
       have g1:(0:Int)<(m:Int):=by omega
       have Hm:=Lh hm
       have Hlt:=Lh hlt
       have Hk:=Lh hk
       have Hgg:=Lh hgg
       clear hW hS hSl hm hlt hk hgg
       go_wp2_with fail
       refine HSch.out.mono ?_
       rintro e wx ⟨rfl,hbx⟩
       have HBx:=Lh hbx
       clear hbx HSch
       have HI:=Lh (by rw [List.size_toArray,List.length_map,HWl.out];kernel_rfl:(Tryz.prog.info? 144).map (·.size)=some (W.map u32v).toArray.size)
       have H1:=Lh (by
        refine all_oneCell_toArray (fun v hv=>?_)
        obtain ⟨x,-,rfl⟩:=List.mem_map.1 hv
        rfl:(W.map u32v).toArray.all (·.oneCell')=true)
       have HI8:=Lh (by rw [List.size_toArray,List.length_map,HSl.out];kernel_rfl:(Tryz.prog.info? 146).map (·.size)=some (S.map u32v).toArray.size)
       have H18:=Lh (by
        refine all_oneCell_toArray (fun v hv=>?_)
        obtain ⟨x,-,rfl⟩:=List.mem_map.1 hv
        rfl:(S.map u32v).toArray.all (·.oneCell')=true)
       have HSx:=Lh (Blk.later HSk.out HBx.out:BlkU wx gS 146 S)
       have HS64:=Lh (by simp [HWl.out]:((List.replicate 64 (Value.int .u32 0)).toArray).size=(W.map u32v).toArray.size)
       have HS8:=Lh (by simp [HSl.out]:((List.replicate 8 (Value.int .u32 0)).toArray).size=(S.map u32v).toArray.size)
       go_wp2_with (first
        | (refine wpList_store_row rfl _ _ _ rfl wx.heap.size (W.map u32v).toArray rfl rfl 144 _ (heap_alloc_new wx _) HI.out HS64.out H1.out ?_;rw [World.setRow_alloc_new];obtain ⟨wy,hwy⟩:∃ wy,wx.alloc (.cells (W.map u32v).toArray 144)=wy:=⟨_,rfl⟩;have HWy:=Lh (by rw [←hwy];exact Blk.new wx 144 _:BlkU wy wx.heap.size 144 W);have HBy:=Lh (by rw [←hwy];exact HBx.out.alloc HBx.out.size _:Below wo.heap.size wo wy);have HSy:=Lh (by rw [←hwy];exact HSx.out.later ((Below.refl _ _).alloc nL _):BlkU wy gS 146 S);rw [hwy];clear hwy)
        | (refine wpList_load_row rfl _ _ rfl gS rfl 146 _ (0,0) _ HSy.out Tryz.underlying146 rfl HI8.out ?_)
        | (refine wpList_store_row rfl _ _ _ rfl wy.heap.size (S.map u32v).toArray rfl rfl 146 _ (heap_alloc_new wy _) HI8.out HS8.out H18.out ?_;rw [World.setRow_alloc_new]))
       obtain ⟨wz,hwz⟩:∃ x,wy.alloc (.cells (S.map u32v).toArray 146)=x:=⟨_,rfl⟩
       have hgWX:wx.heap.size<wy.heap.size:=Blk.lt HWy.out
       have hrx:wo.heap.size≤wx.heap.size:=HBx.out.size
       have hSr:gS<wo.heap.size:=Blk.lt HSk.out
       have HXz:=Lh (by rw [←hwz,rnds_zero];exact Blk.new wy 146 _:BlkU wz wy.heap.size 146 (rnds S kL W 0))
       have HWz:=Lh (by rw [←hwz];exact HWy.out.later ((Below.refl _ _).alloc nL _):BlkU wz wx.heap.size 144 W)
       have HSz:=Lh (by rw [←hwz];exact HSy.out.later ((Below.refl _ _).alloc nL _):BlkU wz gS 146 S)
       have HBz:=Lh (by rw [←hwz];exact HBy.out.alloc HBy.out.size _:Below wo.heap.size wo wz)
       have HKz:=Lh (Blk.later HK.out HBz.out:BlkU wz gK 144 kL)
       rw [hwz]
       generalize wy.heap.size=gX at *
       generalize wx.heap.size=gW at *
       clear hwz HI H1 HI8 H18 HS64 HS8 HSx HWy HBy HSy HBx
       go_loopg [54] 64 (fun gg s54 wl=>∃ i:Nat,i≤64∧64-i≤gg∧s54=.int .i64 (i:Int)∧BlkU wl gX 146 (rnds S kL W i)∧Chg (fun b=>b=gX) wz wl)
       case atStart=>exact ⟨0,Nat.zero_le _,by omega,rfl,HXz.out,Chg.refl _ _⟩
       case round=>
        obtain ⟨i,hi,hgg,rfl,hX,hch⟩:=hrel
        have HX:=Lh hX
        have HC:=Lh hch
        have hXl:=rnds_len S kL W HSl.out i
        by_cases hlt:i<64
        ·obtain ⟨X,hXX⟩:∃ X,rnds S kL W i=X:=⟨_,rfl⟩
         have HN:=Lh (rnds_succ S kL W i)
         rw [hXX] at HX hX hXl HN
         have hWl:=hch.size
         have cK:=BlkU.cellD (BlkU.chg HKz.out hch (by have:=Blk.lt HK.out;omega)) (i:=i) (by show i<64;omega)
         have cW:=BlkU.cellD (BlkU.chg HWz.out hch (by omega)) (i:=i) (by rw [HWl.out];omega)
         have x0:=hX.cellD (i:=0) (by omega)
         have x1:=hX.cellD (i:=1) (by omega)
         have x2:=hX.cellD (i:=2) (by omega)
         have x3:=hX.cellD (i:=3) (by omega)
         have x4:=hX.cellD (i:=4) (by omega)
         have x5:=hX.cellD (i:=5) (by omega)
         have x6:=hX.cellD (i:=6) (by omega)
         have x7:=hX.cellD (i:=7) (by omega)
         have HT:=Lh (tI_eq X kL W i)
         have HU:=Lh (uI_eq X)
         have HR:=Lh (rndL_eq X kL W i)
         generalize X.getD 0 0=y0 at *
         generalize X.getD 1 0=y1 at *
         generalize X.getD 2 0=y2 at *
         generalize X.getD 3 0=y3 at *
         generalize X.getD 4 0=y4 at *
         generalize X.getD 5 0=y5 at *
         generalize X.getD 6 0=y6 at *
         generalize X.getD 7 0=y7 at *
         generalize kL.getD i 0=ki at *
         generalize W.getD i 0=wi at *
         have j0:(i:Int)<64:=by omega
         have Hi:=Lh hi
         have Hlt:=Lh hlt
         have Hgg2:=Lh hgg
         have HXl0:=Lh hXl
         clear hX hch hXX hXl hWl hi hlt hgg
         have HF:=Lh (show RF wr gX gK gW i y0 y1 y2 y3 y4 y5 y6 y7 ki wi from ⟨x0,x1,x2,x3,x4,x5,x6,x7,cK,cW⟩)
         go_wp2_with fail
         go_still (by kernel_rfl)
         change Exit.then _ _ _ _ wr.drew
         have HFd:=Lh (RF.drew HF.out)
         have HXd:=Lh (show BlkU wr.drew gX 146 X from HX.out)
         have HCd:=Lh (HC.out.tr (Chg.drew _ _))
         clear x0 x1 x2 x3 x4 x5 x6 x7 cK cW HF HX HC
         generalize wr.drew=wd at *
         obtain ⟨x0,x1,x2,x3,x4,x5,x6,x7,cK,cW⟩:=HFd.out
         have T6:=Lh (fun w=>turn y4 6 w (by omega) (by omega))
         have T11:=Lh (fun w=>turn y4 11 w (by omega) (by omega))
         have T25:=Lh (fun w=>turn y4 25 w (by omega) (by omega))
         go_wp2_with fail
         refine wp_region_still_lit (by kernel_rfl) (by kernel_rfl) ?_
         repeat still_step
         still_call (T6.out _)
         repeat still_step
         still_call (T11.out _)
         repeat still_step
         still_call (T25.out _)
         repeat still_step
         refine wpStill_nil ?_
         change Exit.then _ _ _ _ wd.drew
         have HFe:=Lh (RF.drew HFd.out)
         have HXe:=Lh (show BlkU wd.drew gX 146 X from HXd.out)
         have HCe:=Lh (HCd.out.tr (Chg.drew _ _))
         clear x0 x1 x2 x3 x4 x5 x6 x7 cK cW HFd HXd HCd T6 T11 T25
         generalize wd.drew=we at *
         obtain ⟨x0,x1,x2,x3,x4,x5,x6,x7,cK,cW⟩:=HFe.out
         rw [←HT.out]
         generalize tI X kL W i=tv at *
         have T2:=Lh (fun w=>turn y0 2 w (by omega) (by omega))
         have T13:=Lh (fun w=>turn y0 13 w (by omega) (by omega))
         have T22:=Lh (fun w=>turn y0 22 w (by omega) (by omega))
         go_wp2_with fail
         refine wp_region_still_lit (by kernel_rfl) (by kernel_rfl) ?_
         repeat still_step
         still_call (T2.out _)
         repeat still_step
         still_call (T13.out _)
         repeat still_step
         still_call (T22.out _)
         repeat still_step
         refine wpStill_nil ?_
         change Exit.then _ _ _ _ we.drew
         have HFf:=Lh (RF.drew HFe.out)
         have HXf:=Lh (show BlkU we.drew gX 146 X from HXe.out)
         have HCf:=Lh (HCe.out.tr (Chg.drew _ _))
         clear x0 x1 x2 x3 x4 x5 x6 x7 cK cW HFe HXe HCe T2 T13 T22
         generalize we.drew=wf at *
         obtain ⟨x0,x1,x2,x3,x4,x5,x6,x7,cK,cW⟩:=HFf.out
         rw [←HU.out]
         generalize uI X=uv at *
         have f0:=HXf.out.frozen 0
         have f1:=HXf.out.frozen 1
         have f2:=HXf.out.frozen 2
         have f3:=HXf.out.frozen 3
         have f4:=HXf.out.frozen 4
         have f5:=HXf.out.frozen 5
         have f6:=HXf.out.frozen 6
         have f7:=HXf.out.frozen 7
         go_wp2
         go_roundg (64-(i+1))
         case measure=>have:=Hgg2.out;have:=Hlt.out;omega
         case rel=>
          have hlt:=Hlt.out
          have hgg:=Hgg2.out
          refine ⟨i+1,by omega,by omega,by go_num,?_,HCf.out.tr (Chg.set8 _ _ _ _ _ _ _ _ _ _)⟩
          rw [HN.out,HR.out]
          exact BlkU.set8 HXf.out HXl0.out _ _ _ _ _ _ _ _
        ·obtain rfl:i=64:=by omega
         clear hi hgg hlt
         obtain ⟨X,hXX⟩:∃ X,rnds S kL W 64=X:=⟨_,rfl⟩
         rw [hXX] at HX hX hXl
         have HXX:=Lh hXX
         have HXl0:=Lh hXl
         have HSw:=Lh (BlkU.chg HSz.out hch (by omega))
         have HBw:=hch.size
         have HTe:=Lh ((Chg.of_below (F:=fun b=>b=gS) HBz.out).trans hch (fun b hb hg=>by subst hg;omega))
         clear hX hch hXX hXl
         obtain ⟨we,rfl⟩:∃ we:World,we=wr:=⟨_,rfl⟩
         go_wp2_with fail
         go_loopg [134] 8 (fun gg s134 wl=>∃ i:Nat,i≤8∧8-i≤gg∧s134=.int .i64 (i:Int)∧BlkU wl gS 146 (addTo S X i)∧Chg (fun b=>b=gS) we wl)
         case atStart=>exact ⟨0,Nat.zero_le _,by omega,rfl,by rw [addTo_zero];exact HSw.out,Chg.refl _ _⟩
         case round=>
          obtain ⟨i,hi,hgg,rfl,hT,hch⟩:=hrel
          have HT:=Lh hT
          have HC2:=Lh hch
          have hTl:=addTo_len S X i
          by_cases hlt:i<8
          ·have HA:=Lh (addTo_succ S X i)
           obtain ⟨T,hTT⟩:∃ T,addTo S X i=T:=⟨_,rfl⟩
           rw [hTT] at HT hT hTl HA
           have cT:=BlkU.cellD hT (i:=i) (by rw [hTl,HSl.out];exact hlt)
           have cX:=BlkU.cellD (BlkU.chg HX.out hch (by omega)) (i:=i) (by rw [HXl0.out];exact hlt)
           have fT:=BlkU.frozen hT i
           generalize T.getD i 0=tv at *
           generalize X.getD i 0=xv at *
           have j0:(i:Int)<8:=by omega
           have Hlt2:=Lh hlt
           have Hgg3:=Lh hgg
           clear hT hch hTT hTl hi hlt hgg
           go_wp2_with fail
           refine wp_region_still_tail 8 (by kernel_rfl) (by kernel_rfl) ?_
           simp only [List.take_succ_cons,List.take_zero,List.drop_succ_cons,List.drop_zero]
           repeat still_step
           refine wpStill_nil ?_
           change wpList _ _ _ _ _ wr.drew
           go_wp2
           go_roundg (8-(i+1))
           case measure=>have:=Hgg3.out;have:=Hlt2.out;omega
           case rel=>
            have hlt:=Hlt2.out
            refine ⟨i+1,by omega,by omega,by go_num,?_,(HC2.out.tr (Chg.setCell _ _ _ rfl)).tr (Chg.drew _ _)⟩
            rw [HA.out]
            exact HT.out.set i ((tv+xv)%4294967296)
          ·obtain rfl:i=8:=by omega
           have HSn:=Lh (show BlkU wr gS 146 (shaS P (k+1)) by rw [shaS_succ,HS.out,HW.out,HXX.out];exact hT)
           have HTot:=Lh (HTe.out.tr hch)
           clear hi hgg hlt hT hch hTl HT HC2
           go_wp2_with (refine wpList_slice_lo rfl _ _ elemB rfl A m c' 64 rfl rfl hm64 ?_)
           go_roundg (M/64-(k+1))
           case measure=>have:=Hlt.out;have:=Hgg.out;omega
           case rel=>
            have hlt:=Hlt.out
            have hgg:=Hgg.out
            have hm:=Hm.out
            refine ⟨k+1,m-64,c'-64,cutA A c' 64,by omega,by omega,by omega,by omega,rfl,(bk_cut _ _ _).trans HBA.out,?_,HSn.out,HCh.out.tr HTot.out⟩
            have h1:Bs wr (cutA A c' 64) ((P.drop (64*k)).drop 64):=Bs.cut (Rd.same HPk.out (fun b hb=>by rw [HBA.out] at hb;cases hb;exact HTot.out.block g5 (by omega) (by omega))) (HlenP.out.symm ▸ hm64) (HlenP.out.symm ▸ hmc)
            rw [List.drop_drop,show 64*k+64=64*(k+1) by omega] at h1
            exact h1
      ·obtain rfl:k=M/64:=by omega
       have hm64:=HM64.out
       have g1:¬(0:Int)<(m:Int):=by omega
       have HSha2:=Lh (show shaL l=outTo (shaS P (M/64)) 32 from HSha.out)
       have hSl:=shaS_len P (M/64)
       obtain ⟨S,hS⟩:∃ S,shaS P (M/64)=S:=⟨_,rfl⟩
       rw [hS] at HSk HSha2 hSl
       have HSl:=Lh hSl
       have HBo:=Lh (HB.out.trans ((HB11.out.trans (HCh.out.below (fun b hb=>by subst hb;omega) hsz11)).mono (Nat.le_of_lt hzz)))
       have hgo:w.heap.size<wo.heap.size:=by omega
       have HI8:=Lh (by rw [List.size_toArray,List.length_map,HSl.out];kernel_rfl:(Tryz.prog.info? 146).map (·.size)=some (S.map u32v).toArray.size)
       have hol:=outTo_len S 32
       have HI32:=Lh (by rw [List.size_toArray,List.length_map,hol];kernel_rfl:(Tryz.prog.info? 92).map (·.size)=some ((outTo S 32).map u8v).toArray.size)
       have HZs:=Lh (by simp [hol]:((List.replicate 32 (0:UInt8)).map u8v).toArray.size=((outTo S 32).map u8v).toArray.size)
       have H132:=Lh (all_oneCell_toArray (u8_one (outTo S 32)))
       clear hm hk hgg hlt hm64 hS hSl hol HCh HK hsz HBA HPk HlenP HSha HML HM64 HM0 HB HSz HB9 HB11 HP11 HZ11 HS11 HK11 HSz11
       go_wp2_with (first|(refine wpList_load_row rfl _ _ rfl gS rfl 146 _ (0,0) _ (Blk.later HSk.out ((Below.refl _ _).alloc nL _)) Tryz.underlying146 rfl HI8.out ?_))
       generalize hX:World.alloc wo _=wA
       have HOA:=Lh (by rw [←hX];exact Blk.new wo 92 ((List.replicate 32 0).map u8v).toArray:Blk wA wo.heap.size 92 ((List.replicate 32 0).map u8v).toArray)
       have HBA:=Lh (by rw [←hX];exact HBo.out.alloc HBo.out.size _:Below w.heap.size w wA)
       have HZA:=Lh (by rw [←hX];exact Blk.later HZ.out ((Below.refl _ _).alloc nL _):Blk wA w.heap.size 92 ((List.replicate 32 0).map u8v).toArray)
       have hAl:wo.heap.size<wA.heap.size:=Blk.lt HOA.out
       clear hX HZ HBo
       generalize wo.heap.size=gO at *
       obtain ⟨SV,hSV⟩:∃ V,(S.map u32v).toArray=V:=⟨_,rfl⟩
       have HSV:=Lh hSV
       rw [hSV]
       clear hSV HI8
       go_loopg [147] 8 (fun gg s147 wl=>∃ i:Nat,i≤8∧8-i≤gg∧s147=.int .i64 (i:Int)∧Blk wl gO 92 ((outTo S (4*i)).map u8v).toArray∧Chg (fun b=>b=gO) wA wl)
       case atStart=>exact ⟨0,Nat.zero_le _,by omega,rfl,by rw [Nat.mul_zero,outTo_zero];exact HOA.out,Chg.refl _ _⟩
       case round=>
        obtain ⟨i,hi,hgg,rfl,hT,hch⟩:=hrel
        have HT:=Lh hT
        have HC:=Lh hch
        by_cases hlt:i<8
        ·have j0:(i:Int)<8:=by omega
         have hsx:(S.map u32v).toArray[i]? = some (.int .u32 (S.getD i 0)):=by
          rw [Zt,List.getElem?_map,Zg (by rw [HSl.out];exact hlt)]
          simp [u32v,List.getD,Zg (show i<S.length by rw [HSl.out];exact hlt)]
         have hx:∀ W:World,(Instr.index 146 (.agg SV) (.int .i64 (i:Int))).run Tryz.prog W=.ok (.int .u32 (S.getD i 0)) W:=fun W=>by
          rw [←HSV.out]
          exact run_index_u32 W hlt hsx
         generalize hxx:S.getD i 0=xv at hx
         have Hxx:=Lh hxx
         have Hlt:=Lh hlt
         have Hgg:=Lh hgg
         clear hT hch hsx hxx hlt hgg
         go_wp2_with fail
         obtain ⟨we,rfl⟩:∃ we:World,we=wr:=⟨_,rfl⟩
         go_loopg [151] 4 (fun gg s151 wl=>∃ j:Nat,j≤4∧4-j≤gg∧s151=.int .i64 (j:Int)∧Blk wl gO 92 ((outTo S (4*i+j)).map u8v).toArray∧Chg (fun b=>b=gO) wA wl)
         case atStart=>exact ⟨0,Nat.zero_le _,by omega,rfl,HT.out,HC.out⟩
         case round=>
          obtain ⟨j,hj,hgg2,rfl,hT2,hch2⟩:=hrel
          have HC2:=Lh hch2
          by_cases hlt2:j<4
          ·have hol:=outTo_len S (4*i+j)
           have HS:=Lh (outTo_succ S (4*i+j))
           have hi8:=Hlt.out
           obtain ⟨q,hq⟩:∃ q,4*i+j=q:=⟨_,rfl⟩
           obtain ⟨J,hJ⟩:∃ J,24-8*j=J:=⟨_,rfl⟩
           have hq32:q<32:=by omega
           rw [show (4*i+j)/4=i by omega,show (4*i+j)%4=j by omega,hJ,Hxx.out,hq] at HS
           rw [hq] at hT2 hol
           have HT2:=Lh hT2
           obtain ⟨T,hTT⟩:∃ T,outTo S q=T:=⟨_,rfl⟩
           rw [hTT] at HT2 hT2 hol HS
           have k1:IntKind.i64.wrap (4*(i:Int))=4*i:=wrapi64 (by omega) (by omega)
           have k2:IntKind.i64.wrap (4*(i:Int)+j)=(q:Int):=by rw [wrapi64 (by omega) (by omega)];omega
           have k3:IntKind.i64.wrap (8*(j:Int))=8*j:=wrapi64 (by omega) (by omega)
           have k4:IntKind.i64.wrap (24-8*(j:Int))=(J:Int):=by rw [wrapi64 (by omega) (by omega)];omega
           have hJ32:J<32:=by omega
           have fT:=hT2.frozen q
           have cT:wr.cell? ⟨gO,q,none⟩=some (u8v (T.getD q 0)):=by
            rw [hT2.cell,Zt,List.getElem?_map,Zg (by omega)]
            simp [List.getD,Zg (show q<T.length by omega)]
           generalize u8v (T.getD q 0)=tv at cT
           have hv:xv/2^J%256=((UInt8.ofNat ((xv/2^J%256).toNat)).toNat:Int):=by
            rw [UInt8.toNat_ofNat'];omega
           have HV:=Lh hv
           have j1:(j:Int)<4:=by omega
           have Hq:=Lh hq
           have Hlt2:=Lh hlt2
           have Hgg2:=Lh hgg2
           clear hT2 hch2 hTT hol hq hJ hv hlt2 hgg2 hj
           go_wp2
           go_roundg (4-(j+1))
           case measure=>have:=Hgg2.out;have:=Hlt2.out;omega
           case rel=>
            have hlt2:=Hlt2.out
            have hq:=Hq.out
            refine ⟨j+1,by omega,by omega,by go_num,?_,HC2.out.tr (Chg.setCell _ _ _ rfl)⟩
            rw [show 4*i+(j+1)=q+1 by omega,HS.out]
            have h:=Blk.set HT2.out q (u8v (UInt8.ofNat ((xv/2^J%256).toNat)))
            rw [List.setIfInBounds_toArray] at h
            rw [List.map_set]
            have e:Value.int .u8 (xv/2^J%256)=u8v (UInt8.ofNat ((xv/2^J%256).toNat)):=by unfold u8v;rw [←HV.out]
            rw [e]
            exact h
          ·obtain rfl:j=4:=by omega
           have HT2:=Lh (show Blk wr gO 92 ((outTo S (4*(i+1))).map u8v).toArray from hT2)
           clear hT2 hch2 hj hgg2 hlt2
           go_wp2
           go_roundg (8-(i+1))
           case measure=>have:=Hgg.out;have:=Hlt.out;omega
           case rel=>
            have hlt:=Hlt.out
            exact ⟨i+1,by omega,by omega,by go_num,HT2.out,HC2.out⟩
        ·obtain rfl:i=8:=by omega
         have HZE:=Lh (Blk.chg HZA.out hch (by omega))
         have HBE:=Lh (HBA.out.trans (Chg.below (base:=w.heap.size) hch (fun b hb=>by subst hb;omega) (by omega)))
         have HTE:=Lh (show Blk wr gO 92 ((outTo S 32).map u8v).toArray from hT)
         clear hT hch hi hgg hlt HT HC HZA HBA
         obtain ⟨O,hO⟩:∃ O,((outTo S 32).map u8v).toArray=O:=⟨_,rfl⟩
         rw [hO] at HI32 HZs H132 HTE
         have HO:=Lh hO
         clear hO
         go_wp2_with (first|(refine wpList_load_row rfl _ _ rfl gO rfl 92 _ (0,0) _ HTE.out Tryz.underlying92 rfl HI32.out ?_)|(refine wpList_store_row rfl _ _ _ rfl w.heap.size O rfl rfl 92 _ HZE.out HI32.out HZs.out H132.out ?_))
         refine bodyPost_ret (results_cell_row rfl _ _ w.heap.size 92 _ (0,0) _ rfl (setRow_heap wr w.heap.size _ _ _ _ HZE.out) Tryz.underlying92 rfl HI32.out) rfl ⟨by rw [←HO.out,HSha2.out],?_⟩
         exact HBE.out.grown (row:=some w.heap.size) ⟨rfl,rfl,rfl,by simp,fun k _ hk=>setRow_other wr _ k _ (fun e=>hk (by rw [e]))⟩ HBE.out.size (fun k hk=>by cases hk;exact Nat.le_refl _)
end Go.Proofs.YtiihiocgbfafaaaGreat
