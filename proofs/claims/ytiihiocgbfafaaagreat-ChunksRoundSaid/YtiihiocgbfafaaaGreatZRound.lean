/-
  The law ChunksRound holds for every input: Load of Save are the bytes, and what is saved again takes no block.
-/
import Derived.Test.YtiihiocgbfafaaaGreatKKn
import Derived.DeepKeys3
import Derived.Maps.OwnSet
import Derived.Shelf.SlIterI.Nil
import Derived.Shelf.SortM.Plain
import Derived.Shelf.SortM.SortNone
import Derived.Ground.GgzProg
import Derived.Ground.SlgmProg
import Derived.Deep.RegionHeld3
import Derived.ProofKit
import Derived.OpenShut
import Derived.Deep.DeepHandedRow
import Derived.Deep.SlicePairs
import Derived.Lib.SmallJoins
import Derived.Deep.Slices
set_option linter.unusedSimpArgs false
set_option linter.unusedVariables false
set_option maxHeartbeats 8000000
set_option maxRecDepth 100000
namespace Go.Proofs.YtiihiocgbfafaaaGreat
open Go.RowKit Go.Maps Go.ChangeMaps Go.MapKept Go.WideShapes
theorem wpList_MapT_del {κ α:Type} (T:MapT κ α) {w:World} {ops:Array Oper} {rest:List Oper} {o:Oper} {a:Act} {Q:Exit→Act→World→Prop} (hg:o.guard=none) (m x:Operand) (hop:o.op=Op.call { callee:=Callee.builtin Builtin.delete,args:=#[m,x],argTypes:=#[T.mt,T.kt] })
 (b n:Nat) (f:κ→Option α) (hm:a.eval m=.map (some b)) (hown:T.At w b n f) (p:κ) (hp:T.may p) (hx:a.eval x=T.kv p) (dec:DecidableEq κ)
 (hK:∀ w',T.At w' b (if (f p).isSome then n-1 else n) (fun y=>if y=p then none else f y)→w.grownBy w' (some b)→wpList Tryz.prog ops Q rest (a.put o.dst (.tuple #[])) w'):wpList Tryz.prog ops Q (o::rest) a w:=by
 obtain ⟨D,h1,hsz,hdom,h2⟩:=hown
 have hk:=T.hkey p hp
 refine wpList_delete_own w hg m x T.mt T.kt hop T.et T.K T.ht T.R b n D hm h1 _ (T.kl p) hx hk (fun w' h3 hturn=>hK w' ?_ hturn.grown)
 have hT:=h1.tidy T.K
 have hs2:Maps.size (D.del (T.kl p))=if (f p).isSome then n-1 else n:=by
  have:=Maps.size_del (k:=T.kl p) hT
  rw [hsz] at this
  have h:=h2 p hp
  cases hf:f p with
  | none=>rw [hf] at h;rw [h] at this;simpa using this
  | some y=>rw [hf] at h;rw [h.1] at this;simp at this ⊢;omega
 refine ⟨_,?_,hs2,fun l hl=>?_,fun y hy=>?_⟩
 ·obtain ⟨es,clock,e1,e2,e3,e4⟩:=h3
  refine ⟨es,clock,e1,e2,?_,e4⟩
  rw [←hs2,e4]
  simp [Maps.size,length_sorted]
 ·by_cases e:l=T.kl p
  ·rw [e,has_del_same] at hl;cases hl
  ·rw [has_del_other e] at hl;exact hdom l hl
 ·by_cases e:y=p
  ·subst e
   show match (if y=y then none else f y) with|some v=>_|none=>_
   rw [if_pos rfl]
   exact has_del_same
  ·show match (if y=p then none else f y) with|some v=>_|none=>_
   rw [if_neg e]
   have hne:T.kl y≠T.kl p:=fun h=>e (T.kinj _ _ hy hp h)
   have:=h2 y hy
   rw [has_del_other hne]
   cases hf:f y with
   | none=>rw [hf] at this;exact this
   | some q=>
     rw [hf] at this
     exact ⟨this.1,fun z=>by rw [atKey_del_other hne];exact this.2 z⟩
open Go.Shelf
def Tryz.keysU_ren:Go.Shelf.Ren:=⟨fun|7=>51|10=>83|n=>n,fun|23=>85|26=>3|3=>88|28=>115|0=>0|27=>114|33=>52|4=>4|n=>n,fun|n=>n⟩
theorem Tryz.keysU:Go.Proofs.SlLaysZI.n7 Tryz.prog Tryz.keysU_ren:={
 mixed:=by kernel_rfl
 f7:=⟨Tryz.f51.name,by decide,Tryz.func51.trans (congrArg some (by kernel_rfl))⟩
 f10:=⟨Tryz.f83.name,by decide,Tryz.func83.trans (congrArg some (by kernel_rfl))⟩
 t0:=Tryz.underlying0
 a0:=Tryz.isAgg0
 z0:=Tryz.sizeOf0
 v0:=Tryz.zeroValue0
 t4:=Tryz.underlying4
 a4:=Tryz.isAgg4
 z4:=Tryz.sizeOf4
 v4:=Tryz.zeroValue4
 t23:=Tryz.underlying85
 a23:=Tryz.isAgg85
 z23:=Tryz.sizeOf85
 v23:=Tryz.zeroValue85
 t26:=Tryz.underlying3
 a26:=Tryz.isAgg3
 z26:=Tryz.sizeOf3
 v26:=Tryz.zeroValue3
 t27:=Tryz.underlying114
 a27:=Tryz.isAgg114
 z27:=Tryz.sizeOf114
 v27:=Tryz.zeroValue114
 t28:=Tryz.underlying115
 a28:=Tryz.isAgg115
 z28:=Tryz.sizeOf115
 v28:=Tryz.zeroValue115
 t33:=Tryz.underlying52
 a33:=Tryz.isAgg52
 z33:=Tryz.sizeOf52
 v33:=Tryz.zeroValue52 }
def Tryz.sortedU_ren:Go.Shelf.Ren:=⟨fun|6=>50|8=>81|9=>82|11=>115|13=>117|12=>116|23=>161|24=>162|14=>152|15=>153|16=>154|17=>155|18=>156|19=>157|20=>158|21=>159|22=>160|25=>174|26=>175|27=>176|28=>177|29=>178|30=>179|31=>183|n=>n,fun|26=>3|28=>115|24=>43|0=>0|3=>3|37=>129|48=>143|50=>142|4=>4|40=>255|39=>254|45=>104|5=>5|9=>9|51=>271|55=>275|57=>287|58=>189|33=>52|n=>n,fun|n=>n⟩
theorem Tryz.sortedU:Go.Proofs.SlLaysZI.n6 Tryz.prog Tryz.sortedU_ren:={
 mixed:=by kernel_rfl
 f6:=⟨Tryz.f50.name,by decide,Tryz.func50.trans (congrArg some (by kernel_rfl))⟩
 f8:=⟨Tryz.f81.name,by decide,Tryz.func81.trans (congrArg some (by kernel_rfl))⟩
 f11:=⟨Tryz.f115.name,by decide,Tryz.func115.trans (congrArg some (by kernel_rfl))⟩
 t0:=Tryz.underlying0
 a0:=Tryz.isAgg0
 z0:=Tryz.sizeOf0
 v0:=Tryz.zeroValue0
 t24:=Tryz.underlying43
 a24:=Tryz.isAgg43
 z24:=Tryz.sizeOf43
 v24:=Tryz.zeroValue43
 t26:=Tryz.underlying3
 a26:=Tryz.isAgg3
 z26:=Tryz.sizeOf3
 v26:=Tryz.zeroValue3
 t28:=Tryz.underlying115
 a28:=Tryz.isAgg115
 z28:=Tryz.sizeOf115
 v28:=Tryz.zeroValue115
 i26:=by kernel_rfl }
def Tryz.sortU_ren:Go.Shelf.Ren:=⟨fun|5=>82|8=>117|7=>116|19=>161|20=>162|10=>152|11=>153|12=>154|13=>155|14=>156|15=>157|16=>158|17=>159|18=>160|30=>174|31=>175|32=>176|33=>177|34=>178|35=>179|40=>183|n=>n,fun|23=>43|25=>3|3=>3|32=>129|22=>43|0=>0|44=>143|46=>142|4=>4|36=>255|35=>254|41=>104|5=>5|9=>9|53=>271|57=>275|63=>287|64=>189|n=>n,fun|n=>n⟩
theorem Tryz.sortU:Go.Proofs.SlLaysM.n5 Tryz.prog Tryz.sortU_ren:={
 mixed:=by kernel_rfl
 f5:=⟨Tryz.f82.name,by decide,Tryz.func82.trans (congrArg some (by kernel_rfl))⟩
 f7:=⟨Tryz.f116.name,by decide,Tryz.func116.trans (congrArg some (by kernel_rfl))⟩
 f8:=Tryz.func117.trans (congrArg some (by kernel_rfl))
 f10:=⟨Tryz.f152.name,by decide,Tryz.func152.trans (congrArg some (by kernel_rfl))⟩
 f11:=⟨Tryz.f153.name,by decide,Tryz.func153.trans (congrArg some (by kernel_rfl))⟩
 f12:=⟨Tryz.f154.name,by decide,Tryz.func154.trans (congrArg some (by kernel_rfl))⟩
 f13:=⟨Tryz.f155.name,by decide,Tryz.func155.trans (congrArg some (by kernel_rfl))⟩
 f14:=⟨Tryz.f156.name,by decide,Tryz.func156.trans (congrArg some (by kernel_rfl))⟩
 f15:=⟨Tryz.f157.name,by decide,Tryz.func157.trans (congrArg some (by kernel_rfl))⟩
 f16:=⟨Tryz.f158.name,by decide,Tryz.func158.trans (congrArg some (by kernel_rfl))⟩
 f17:=⟨Tryz.f159.name,by decide,Tryz.func159.trans (congrArg some (by kernel_rfl))⟩
 f18:=⟨Tryz.f160.name,by decide,Tryz.func160.trans (congrArg some (by kernel_rfl))⟩
 f19:=Tryz.func161.trans (congrArg some (by kernel_rfl))
 f20:=Tryz.func162.trans (congrArg some (by kernel_rfl))
 f30:=⟨Tryz.f174.name,by decide,Tryz.func174.trans (congrArg some (by kernel_rfl))⟩
 f31:=Tryz.func175.trans (congrArg some (by kernel_rfl))
 f32:=Tryz.func176.trans (congrArg some (by kernel_rfl))
 f33:=⟨Tryz.f177.name,by decide,Tryz.func177.trans (congrArg some (by kernel_rfl))⟩
 f34:=⟨Tryz.f178.name,by decide,Tryz.func178.trans (congrArg some (by kernel_rfl))⟩
 f35:=⟨Tryz.f179.name,by decide,Tryz.func179.trans (congrArg some (by kernel_rfl))⟩
 f40:=⟨Tryz.f183.name,by decide,Tryz.func183.trans (congrArg some (by kernel_rfl))⟩
 t0:=Tryz.underlying0
 a0:=Tryz.isAgg0
 z0:=Tryz.sizeOf0
 v0:=Tryz.zeroValue0
 t3:=Tryz.underlying3
 a3:=Tryz.isAgg3
 z3:=Tryz.sizeOf3
 v3:=Tryz.zeroValue3
 t4:=Tryz.underlying4
 a4:=Tryz.isAgg4
 z4:=Tryz.sizeOf4
 v4:=Tryz.zeroValue4
 t5:=Tryz.underlying5
 a5:=Tryz.isAgg5
 z5:=Tryz.sizeOf5
 v5:=Tryz.zeroValue5
 t9:=Tryz.underlying9
 a9:=Tryz.isAgg9
 z9:=Tryz.sizeOf9
 v9:=Tryz.zeroValue9
 t22:=Tryz.underlying43
 a22:=Tryz.isAgg43
 z22:=Tryz.sizeOf43
 v22:=Tryz.zeroValue43
 t23:=Tryz.underlying43
 a23:=Tryz.isAgg43
 z23:=Tryz.sizeOf43
 v23:=Tryz.zeroValue43
 t25:=Tryz.underlying3
 a25:=Tryz.isAgg3
 z25:=Tryz.sizeOf3
 v25:=Tryz.zeroValue3
 t32:=Tryz.underlying129
 a32:=Tryz.isAgg129
 z32:=Tryz.sizeOf129
 v32:=Tryz.zeroValue129
 t35:=Tryz.underlying254
 a35:=Tryz.isAgg254
 z35:=Tryz.sizeOf254
 v35:=Tryz.zeroValue254
 t36:=Tryz.underlying255
 a36:=Tryz.isAgg255
 z36:=Tryz.sizeOf255
 v36:=Tryz.zeroValue255
 t41:=Tryz.underlying104
 a41:=Tryz.isAgg104
 z41:=Tryz.sizeOf104
 v41:=Tryz.zeroValue104
 t44:=Tryz.underlying143
 a44:=Tryz.isAgg143
 z44:=Tryz.sizeOf143
 v44:=Tryz.zeroValue143
 t46:=Tryz.underlying142
 a46:=Tryz.isAgg142
 z46:=Tryz.sizeOf142
 v46:=Tryz.zeroValue142
 t53:=Tryz.underlying271
 a53:=Tryz.isAgg271
 z53:=Tryz.sizeOf271
 v53:=Tryz.zeroValue271
 t57:=Tryz.underlying275
 a57:=Tryz.isAgg275
 z57:=Tryz.sizeOf275
 v57:=Tryz.zeroValue275
 t63:=Tryz.underlying287
 a63:=Tryz.isAgg287
 z63:=Tryz.sizeOf287
 v63:=Tryz.zeroValue287
 t64:=Tryz.underlying189
 a64:=Tryz.isAgg189
 z64:=Tryz.sizeOf189
 v64:=Tryz.zeroValue189 }
open Go.Sort
theorem sortsU (m:Nat):AnyZI.SortsIn Tryz.prog Tryz.sortedU_ren Fence.wide m:=
 ⟨fun blk off cap ss W hH hblk hsz=>callsIn_wide.2 (AnyM.slices_Sort_int Tryz.sortU blk off cap ss W hH hblk hsz),
  fun p cap W=>callsIn_wide.2 (AnyM.slices_Sort_int_none Tryz.sortU p cap W)⟩
theorem mapsKeysU (mb:Option Nat) (W:World):Calls Tryz.prog 51 #[.map mb] W fun e w'=>e=.returned (.func (.func 83) #[] #[.pointer (some ⟨W.heap.size,0,none⟩)])∧w'=W.alloc (.cells #[.map mb] 85):=
 (callsIn_wide (n:=5)).1 (AnyZI.keys_in Tryz.keysU Fence.wide 5 trivial rfl mb W)
theorem sortedU {H:Type} (b nn:Nat) (D0:DataW H) (R:Value→Option (DataW H × List MemPlace)) (w:World) (hown:w.ownsMap Tryz.prog 3 R b nn D0) (hmax:Maps.size D0≤1000000000):
 Calls Tryz.prog 50 #[.func (.func 83) #[] #[.pointer (some ⟨w.heap.size,0,none⟩)]] (w.alloc (.cells #[.map (some b)] 85)) fun e w'=>∃ (v:Value) (ss:List Int),e=.returned v∧ss.Perm (intKeys D0) ∧
  w'.ownsRow w.heap.size 3 1 v ss.length ((ss.mergeSort (fun x y=>decide (x≤y))).map encZ)∧(v=.slice none 0 0↔ss=[])∧Below w.heap.size w w':=by
 have hbl:=hown.lt
 have hseq:SeqGives Fence.wide 2 Tryz.prog 83 #[.pointer (some ⟨w.heap.size,0,none⟩)] encZ (fun ss=>ss.Perm (intKeys D0)) (Maps.size D0) (w.alloc (.cells #[.map (some b)] 85)):=
  AnyZI.keys_gives (ρ:=Tryz.keysU_ren) { Tryz.keysU with } Fence.wide _ trivial rfl (by omega) w.heap.size b nn D0 _ (by simp) (by simp) (by
   obtain ⟨es,clock,hb,Ft,hs,hD⟩:=hown
   exact ⟨es,clock,(Below.heap_alloc _ _ b hbl).trans hb,Ft,hs,hD⟩)
 have cS:=AnyZI.sorted_in Tryz.sortedU Fence.wide 5 trivial trivial trivial trivial rfl (by omega) (sortsU _) (enters_of Tryz.func82 (by kernel_rfl) rfl) 83 #[.pointer (some ⟨w.heap.size,0,none⟩)] trivial (enters_of Tryz.func83 (by kernel_rfl) rfl) _ _ (by unfold maxLen;omega) (by omega) _ hseq
 change CallsIn _ _ Tryz.prog 50 _ _ _ at cS
 refine ((callsIn_wide (n:=5)).1 cS).mono ?_
 rintro e w' ⟨v,ss,rfl,hS,hrow,hnil,hb⟩
 exact ⟨v,ss,rfl,hS,ownsRow_base_a hrow (by simp),hnil,((Below.refl _ w).alloc nL _).trans (hb.mono (by simp))⟩
theorem mergeSort_asc {l:List Int} (h:l.Nodup):(l.mergeSort (fun x y=>decide (x≤y))).Pairwise (·<·):=by
 have tr:∀ a b c:Int,decide (a≤b)=true→decide (b≤c)=true→decide (a≤c)=true:=fun a b c h1 h2=>by simp only [decide_eq_true_eq] at *;omega
 have tq:∀ a b:Int,(decide (a≤b)||decide (b≤a))=true:=fun a b=>by simp only [Bool.or_eq_true,decide_eq_true_eq];omega
 have h1:=List.pairwise_mergeSort tr tq l
 have h2:(l.mergeSort (fun x y=>decide (x≤y))).Nodup:=(List.mergeSort_perm l _).nodup_iff.2 h
 have h3:=List.Pairwise.and h1 h2
 refine h3.imp (fun {a b} ⟨h4,h5⟩=>?_)
 simp only [decide_eq_true_eq] at h4
 have:a≠b:=h5
 omega
section
variable {α:Type} {mt et:TypeId} {ht:Tryz.prog.underlying mt=some (.map 3 et)} {vv:α→Value} {vinj:∀ a b,vv a=vv b→a=b} {zero:α} {hz:∀ w,(zeroValue et).run Tryz.prog w=.ok (vv zero) w}
variable {w:World} {b n:Nat} {f:Nat→Option α}
theorem IntT.asc {D:DataW α} (hD:(intKeys D).Nodup∧(intKeys D).length=n∧∀ x:Int,x∈intKeys D↔0≤x∧x<4611686018427387904∧(f x.toNat).isSome=true) {ss:List Int} (hp:ss.Perm (intKeys D)):
 ∃ ks:List Nat,(ss.mergeSort (fun x y=>decide (x≤y))).map encZ=ks.map natv∧ks.length=ss.length∧ks.length=n∧ks.Pairwise (·<·)∧∀ x,x∈ks↔x<4611686018427387904∧(f x).isSome=true:=by
 have hms:=List.mergeSort_perm ss (fun x y=>decide (x≤y))
 have hmem:∀ x:Int,x∈ss.mergeSort (fun x y=>decide (x≤y))↔0≤x∧x<4611686018427387904∧(f x.toNat).isSome=true:=fun x=>by
  rw [hms.mem_iff,hp.mem_iff];exact hD.2.2 x
 have hasc:=mergeSort_asc (hp.nodup_iff.2 hD.1)
 have hle:(ss.mergeSort (fun x y=>decide (x≤y))).length=ss.length:=List.length_mergeSort ss
 have hl2:=hp.length_eq
 refine ⟨(ss.mergeSort (fun x y=>decide (x≤y))).map Int.toNat,?_,by rw [List.length_map,hle],by rw [List.length_map,hle,hl2,hD.2.1],?_,fun x=>?_⟩
 ·rw [List.map_map]
  refine List.map_congr_left (fun x hx=>?_)
  show Value.int .i64 x=.int .i64 (x.toNat:Int)
  rw [Int.toNat_of_nonneg ((hmem x).1 hx).1]
 ·refine List.pairwise_map.2 (hasc.imp_of_mem fun {p q} hp hq hlt=>?_)
  have h3:=(hmem p).1 hp
  omega
 ·rw [List.mem_map]
  constructor
  ·rintro ⟨y,hy,rfl⟩
   have h3:=(hmem y).1 hy
   exact ⟨by omega,h3.2.2⟩
  ·rintro ⟨h0,h3⟩
   exact ⟨(x:Int),(hmem _).2 ⟨by omega,by omega,by rw [Int.toNat_natCast];exact h3⟩,Int.toNat_natCast x⟩
end
theorem sortedSet (b n:Nat) (f:Nat→Option Unit) (w:World) (h:SetT.At w b n f) (hn:n≤1000000000):
 Calls Tryz.prog 50 #[.func (.func 83) #[] #[.pointer (some ⟨w.heap.size,0,none⟩)]] (w.alloc (.cells #[.map (some b)] 85)) fun e w'=>∃ (A:OA) (c:Nat) (ks:List Nat),e=.returned (.slice A n c) ∧
  ks.length=n∧ks.Pairwise (·<·)∧(∀ x,x∈ks↔x<4611686018427387904∧(f x).isSome=true)∧Own w' w.heap.size 3 A n c (ks.map natv)∧Below w.heap.size w w':=by
 obtain ⟨D,h1,hsz,hD⟩:=IntT.keys h
 refine (sortedU b n D _ w h1 (by omega)).mono ?_
 rintro e w' ⟨v,ss,rfl,hp,hrow,hnil,hb⟩
 obtain ⟨ks,e1,e2,e3,e4,e5⟩:=IntT.asc hD hp
 rw [e1] at hrow
 have hform:∃ A c,v=.slice A n c:=by
  rcases hrow.2 with ⟨rfl,h0⟩|⟨g,cap,cur,rfl,-⟩
  ·exact ⟨none,0,by rw [←e3,e2,h0]⟩
  ·exact ⟨_,cap,by rw [←e3,e2]⟩
 obtain ⟨A,c,rfl⟩:=hform
 rw [←e2,e3] at hrow
 exact ⟨A,c,ks,rfl,e3,e4,e5,hrow,hb⟩
theorem diskDone (d:Dsk) (w:World) (h:d.At w):Calls Tryz.prog 79 #[.pointer (some ⟨d.g,0,none⟩)] w fun e w'=>e=.returned (.bool true)∧w'=w:=by
 have c2:=h.blk.cell 2
 simp only [Zt,Zz,Zs] at c2
 clear h
 go_enter Tryz.func79,Tryz.ntmps79
 go_wp2
 go_ret
 exact ⟨rfl,rfl⟩
def Dsk.wrote (d:Dsk) (n:Nat) (s:Sl) (nv:Nat) (x:List UInt8):Dsk:={ d with nv:=nv,ver:=fun y=>if y=n then some s else d.ver y,vl:=fun y=>if y=n then d.vl n++[x] else d.vl y }
theorem Dsk.wrote_sec (d:Dsk) (n:Nat) (s:Sl) (nv:Nat) (x:List UInt8) (y:Nat):(d.wrote n s nv x).sec y=if y=n then x else d.sec y:=by
 unfold Dsk.sec Dsk.wrote
 by_cases e:y=n
 ·simp [e]
 ·simp [e]
theorem foldl_sets:∀ (X P R:List Value),R.length=X.length→List.foldl (fun (cs:Array Value) (x:Value × Nat)=>cs.setIfInBounds x.snd x.fst) (P++R).toArray (X.zipIdx P.length)=(P++X).toArray
 | [],P,R,h=>by
   obtain rfl:R=[]:=List.eq_nil_of_length_eq_zero h
   rfl
 | a::X,P,[],h=>by simp at h
 | a::X,P,r::R,h=>by
   have ih:=foldl_sets X (P++[a]) R (by simpa using h)
   rw [Zl,List.length_singleton,Za,Za,List.singleton_append,List.singleton_append] at ih
   rw [List.zipIdx_cons,List.foldl_cons,List.setIfInBounds_toArray,List.set_append_right _ _ nL,Nat.sub_self,List.set_cons_zero]
   exact ih
theorem foldl_set (X:List Value) (Z:Array Value) (h:Z.size=X.length):List.foldl (fun (cs:Array Value) (x:Value × Nat)=>cs.setIfInBounds x.snd x.fst) Z X.zipIdx=X.toArray:=by
 have:=foldl_sets X [] Z.toList (by simpa using h)
 simpa using this
theorem diskWrite (d:Dsk) (n gd:Nat) (x:List UInt8) (w:World) (h:d.At w) (hn:n<d.N) (hx:x.length=256) (hr:Bs w (some ⟨gd,0,none⟩) x) (hgd:¬d.fp gd) (hv:(d.vl n).length≤1000000):
 Calls Tryz.prog 48 #[.pointer (some ⟨d.g,0,none⟩),.int .i64 (n:Int),.slice (some ⟨gd,0,none⟩) 256 256] w fun e w'=>e=.returned (.int .i64 0) ∧
  ∃ s nv,(d.wrote n s nv x).At w'∧Chg (fun b=>b=d.gV∨∃ s,d.ver n=some s∧bk s.p=some b) w w'∧∀ b,bk s.p=some b→w.heap.size≤b∨∃ s0,d.ver n=some s0∧bk s0.p=some b:=by
 have HD:=Lh (diskDone d w h)
 have hN:=h.hN
 have c0:=h.blk.cell 0
 have c1:=h.blk.cell 1
 simp only [Zt,Zz,Zs] at c0 c1
 have i1:¬(n:Int)<0:=by omega
 have i2:¬(d.N:Int)≤n:=by omega
 have HA:=Lh h
 have HR:=Lh hr
 have HX:=Lh hx
 clear h hr hx
 go_enter Tryz.func48,Tryz.ntmps48
 go_wp2_with fail
 refine HD.out.mono ?_
 rintro e w1 ⟨rfl,rfl⟩
 go_wp2_with fail
 obtain ⟨X,hX⟩:∃ X,x.map u8v=X:=⟨_,rfl⟩
 have hXl:X.length=256:=by rw [←hX,List.length_map,HX.out]
 have hcl:SecT.cl x=X:=by
  show (pad256 x).map u8v=X
  rw [pad256_eq HX.out,hX]
 have hXr:w1.rangeAt gd 0 X:=fun j v hj=>by
  obtain ⟨b,o,e,hc⟩:=HR.out (by rw [List.length_map,HX.out];omega)
  cases e
  rw [hX] at hc
  rw [hc j (Ze hj).1,hj]
 obtain ⟨p,m,c,hget,hown,hpb,hm⟩:∃ p m c,VerT.get d.ver n=⟨p,m,c⟩∧SecT.Own w1 0 p m c (d.vl n)∧(∀ b,bk p=some b→∃ s,d.ver n=some s∧bk s.p=some b)∧m≤1000000:=by
  cases hvn:d.ver n with
  | none=>
    refine ⟨none,0,0,by unfold MapT.get;rw [hvn];rfl,?_,fun b hb=>(by cases hb),by omega⟩
    rw [HA.out.emp n hvn]
    exact RowT.Own.nil _ _ _
  | some s=>
    obtain ⟨h1,-⟩:=HA.out.own n s hvn
    have h2:=h1.length
    exact ⟨s.p,s.n,s.c,by unfold MapT.get;rw [hvn];rfl,h1,fun b hb=>⟨s,rfl,hb⟩,by omega⟩
 have hf:n<4611686018427387904:=by omega
 have K2:∀ W:World,W.rangeAt gd 0 X→(Instr.loadAt 159 (.pointer (some ⟨gd,0,none⟩))).run Tryz.prog W=.ok (.agg X.toArray) W:=fun W h=>run_loadAt_mid W gd 0 159 X _ h Tryz.underlying159 rfl (by rw [hXl];kernel_rfl)
 have L0:(Instr.lookup 118 (.map (some d.gV)) (.int .i64 (n:Int)) false).run Tryz.prog w1.drew=.ok (.slice p m c) w1.drew:=by
  have h:=MapT.At.look (w:=w1.drew) (show VerT.At w1.drew d.gV d.nv d.ver from HA.out.ver) (p:=n) hf
  rw [hget] at h
  exact h
 have HBa:=Lh ((Below.refl w1.heap.size w1).alloc nL (.cells X.toArray 159))
 have L1:(Instr.lookup 118 (.map (some d.gV)) (.int .i64 (n:Int)) false).run Tryz.prog (w1.alloc (.cells X.toArray 159)).drew=.ok (.slice p m c) (w1.alloc (.cells X.toArray 159)).drew:=by
  have h:=MapT.At.look (w:=(w1.alloc (.cells X.toArray 159)).drew) (show VerT.At (w1.alloc (.cells X.toArray 159)).drew d.gV d.nv d.ver from HA.out.ver.below HBa.out.drew) (p:=n) hf
  rw [hget] at h
  exact h
 have HXr:=Lh hXr
 obtain ⟨AR,hAR⟩:∃ A,Array.range 256=A:=⟨_,rfl⟩
 have hARs:AR.size=256:=by rw [←hAR];simp
 have hCB:List.foldl (fun (cs:Array Value) (x:Value × Nat)=>cs.setIfInBounds x.snd x.fst) (Array.map (fun x=>Tryz.zeroCells159[x%256]!) AR) X.zipIdx=X.toArray:=foldl_set X _ (by rw [Array.size_map,hARs,hXl])
 have hu159:=Tryz.underlying159
 have hi159:(Tryz.prog.info? 159).map (·.size)=some X.length:=by rw [hXl];kernel_rfl
 have hgl:=HA.out.blk.lt
 have S1:(w1.alloc (.cells X.toArray 159)).drew.cell? ⟨d.g,1,none⟩=some (.map (some d.gV)):=(HBa.out.drew.cell hgl).trans c1
 have S2:(w1.alloc (.cells X.toArray 159)).drew.rangeAt gd 0 X:=rangeAt_below HXr.out HBa.out.drew
 have hnews:∀ j v,(SecT.cl x)[j]? = some v→(w1.alloc (.cells X.toArray 159)).drew.cell? ((⟨w1.heap.size,0,none⟩:Addr).add j)=some v:=by
  rw [hcl]
  intro j v hv
  rw [Addr.add_mid,Nat.zero_add]
  exact (World.cell?_alloc_at _ _ _ _ rfl).trans (by simpa using hv)
 have hownA:SecT.Own (w1.alloc (.cells X.toArray 159)).drew 0 p m c (d.vl n):=hown.later HBa.out.drew
 have Hown:=Lh hownA
 have Hnews:=Lh hnews
 have K3:∀ W:World,(Instr.arrayAt 159 (.slice (some ⟨gd,0,none⟩) 256 256)).run Tryz.prog W=.ok (.pointer (some ⟨gd,0,none⟩)) W:=fun W=>by rfl
 have hpn:∀ b,bk p=some b→b≠d.g∧b≠d.gV∧b≠gd:=fun b hb=>by
  obtain ⟨s,hs,he⟩:=hpb b hb
  have h4:=HA.out.a4 n s hs
  rw [he] at h4
  exact ⟨fun e=>h4.2.1 (by rw [e]),fun e=>h4.2.2 (by rw [e]),fun e=>hgd (.inr (.inr (.inr ⟨n,s,hs,by rw [he,e]⟩)))⟩
 have hga:d.gV≠gd:=fun e=>hgd (.inr (.inr (.inl e.symm)))
 have hnv:d.nv<1000000000:=by
  have:=IntT.count HA.out.ver d.N (fun x hx=>by
   rcases Nat.lt_or_ge x d.N with h|h
   ·exact h
   ·rw [HA.out.dom x h] at hx;cases hx)
  omega
 have Hpn:=Lh hpn
 have Hgd:=Lh hgd
 have Hpb:=Lh hpb
 have hgdl:gd<w1.heap.size:=World.block_lt_of_cell? w1 _ (HXr.out 0 _ (Zg (by omega)))
 have Hstep:=Lh (show ∀ (A':OA) (c':Nat) (w2:World),SecT.Own w2 0 A' (m+1) c' (d.vl n++[x])→(w1.alloc (.cells X.toArray 159)).drew.grownBy w2 (bk p) →
  w2.cell? ⟨d.g,1,none⟩=some (.map (some d.gV))∧w2.rangeAt gd 0 X∧∃ w3,(Instr.mapUpdate 118 (.map (some d.gV)) (.int .i64 (n:Int)) (.slice A' (m+1) c')).run Tryz.prog w2=.ok () w3 ∧
   VerT.At w3 d.gV (if (d.ver n).isSome then d.nv else d.nv+1) (fun y=>if y=n then some ⟨A',m+1,c'⟩ else d.ver y)∧w2.grownBy w3 (some d.gV)∧w3.cell? ⟨d.g,1,none⟩=some (.map (some d.gV))∧w3.rangeAt gd 0 X from fun A' c' w2 _ hg2=>by
  have hb:=HBa.out.drew
  have e1:w2.heap[d.g]? = w1.heap[d.g]? := (hg2.block d.g (lT hgl hb.size) (fun e=>(Hpn.out _ e.symm).1 rfl)).trans (hb.block d.g hgl)
  have e2:w2.heap[gd]? = w1.heap[gd]? := (hg2.block gd (lT hgdl hb.size) (fun e=>(Hpn.out _ e.symm).2.2 rfl)).trans (hb.block gd hgdl)
  have e3:w2.heap[d.gV]? = w1.heap[d.gV]? := (hg2.block d.gV (lT HA.out.ver.lt hb.size) (fun e=>(Hpn.out _ e.symm).2.1 rfl)).trans (hb.block d.gV HA.out.ver.lt)
  obtain ⟨w3,hrun3,hAt3,hg3⟩:=(HA.out.ver.same e3).set_run hnv (p:=n) hf ⟨A',m+1,c'⟩ inferInstance
  have hs1:=Nat.le_trans hb.size hg2.size
  exact ⟨(cell_same e1).trans c1,rangeAt_same HXr.out e2,w3,hrun3,hAt3,hg3,
   (cell_same (hg3.block d.g (lT hgl hs1) (fun e=>HA.out.a3 (by simpa using e)))).trans ((cell_same e1).trans c1),
   rangeAt_same (rangeAt_same HXr.out e2) (hg3.block gd (lT hgdl hs1) (fun e=>hga (by simpa using e.symm)))⟩)
 have HEnd:=Lh (show ∀ (A':OA) (c':Nat) (w2 w3:World),SecT.Own w2 0 A' (m+1) c' (d.vl n++[x])→(w1.alloc (.cells X.toArray 159)).drew.grownBy w2 (bk p)→NewTo (w1.alloc (.cells X.toArray 159)).drew p A' →
  VerT.At w3 d.gV (if (d.ver n).isSome then d.nv else d.nv+1) (fun y=>if y=n then some ⟨A',m+1,c'⟩ else d.ver y)→w2.grownBy w3 (some d.gV) →
  ∃ s nv,(d.wrote n s nv x).At w3∧Chg (fun b=>b=d.gV∨∃ s,d.ver n=some s∧bk s.p=some b) w1 w3∧∀ b,bk s.p=some b→w1.heap.size≤b∨∃ s0,d.ver n=some s0∧bk s0.p=some b from fun A' c' w2 w3 hown2 hg2 hn2 hAt3 hg3=>by
  have hb:=HBa.out.drew
  have H:=HA.out
  have hc1:Chg (fun b=>bk p=some b) w1 w2:=(Chg.of_below hb).trans (Chg.of_grown hg2 (fun b hb' _=>hb')) (fun _ _ h=>h)
  have hc3:Chg (fun b=>b=d.gV) w2 w3:=Chg.of_grown hg3 (fun b hb' _=>by cases hb';rfl)
  have hc:Chg (fun b=>b=d.gV∨bk p=some b) w1 w3:=(hc1.mono (fun _ _ h=>.inr h)).trans hc3 (fun _ _ h=>.inl h)
  have hpf:∀ b,bk p=some b→d.fp b:=fun b hb'=>by
   obtain ⟨s,hs,he⟩:=Hpb.out b hb'
   exact .inr (.inr (.inr ⟨n,s,hs,he⟩))
  have hsz:=hb.size
  have hA'b:∀ b,bk A'=some b→(bk p=some b∨w1.heap.size≤b):=fun b hb'=>by
   rcases hn2 with h|⟨k,h,hk⟩
   ·exact .inl (by rw [←h];exact hb')
   ·rw [h] at hb';cases hb';exact .inr (Nat.le_trans hsz hk)
  have hkeep:∀ b,b<w1.heap.size→b≠d.gV→(∀ q,bk p=some q→q≠b)→w3.heap[b]? = w1.heap[b]? := fun b hb1 h1 h2=>hc.block b hb1 (by rintro (h|h);exact h1 h;exact h2 b h rfl)
  have hA'ne:∀ b,b<w1.heap.size→(∀ q,bk p=some q→q≠b)→bk A'≠some b:=fun b hb1 h2 e=>by
   rcases hA'b b e with h|h
   ·exact h2 b h rfl
   ·omega
  have hpo:∀ n' s',d.ver n'=some s'→n'≠n→∀ q,bk p=some q→bk s'.p≠some q:=fun n' s' hs' hne q hq e=>by
   obtain ⟨s,hs,he⟩:=Hpb.out q hq
   exact H.a5 n' n s' s hs' hs hne (by rw [e,he])
  have hpL:∀ q,bk p=some q→q≠d.gL:=fun q hq e=>by
   obtain ⟨s,hs,he⟩:=Hpb.out q hq
   exact (H.a4 n s hs).1 (by rw [he,e])
  have hO3:SecT.Own w3 0 A' (m+1) c' (d.vl n++[x]):=hown2.chg hc3 (fun k hk e=>by
   subst e
   exact hA'ne d.gV H.ver.lt (fun q hq e=>(Hpn.out q hq).2.1 e) hk)
  refine ⟨⟨A',m+1,c'⟩,_,⟨?_,H.hN,?_,lT H.gL hc.size,hAt3,?_,?_,?_,?_,H.a1,H.a2,H.a3,?_,?_⟩,hc.mono (fun b _ h=>?_),?_⟩
  ·exact (hkeep d.g H.blk.lt H.a3 (fun q hq e=>(Hpn.out q hq).1 e)).trans H.blk
  ·intro y hy
   exact ⟨rangeAt_same (H.lies y hy).1 (hkeep d.gL H.gL (fun e=>H.a2 e.symm) hpL),(H.lies y hy).2⟩
  ·intro y hy
   have hy:d.N≤y:=hy
   show (if y=n then some _ else d.ver y)=none
   rw [if_neg (by omega)]
   exact H.dom y hy
  ·intro y hy
   have hy:(if y=n then some (⟨A',m+1,c'⟩:Sl) else d.ver y)=none:=hy
   show (if y=n then _ else d.vl y)=[]
   by_cases e:y=n
   ·rw [if_pos e] at hy;cases hy
   ·rw [if_neg e] at hy ⊢;exact H.emp y hy
  ·intro y s hs
   have hs:(if y=n then some (⟨A',m+1,c'⟩:Sl) else d.ver y)=some s:=hs
   show SecT.Own w3 0 s.p s.n s.c (if y=n then d.vl n++[x] else d.vl y)∧(if y=n then d.vl n++[x] else d.vl y)≠[]
   by_cases e:y=n
   ·rw [if_pos e] at hs
    cases hs
    rw [if_pos e]
    exact ⟨hO3,by simp⟩
   ·rw [if_neg e] at hs ⊢
    obtain ⟨h1,h2⟩:=H.own y s hs
    refine ⟨h1.same (fun k hk=>hkeep k (h1.lt hk).2 (fun e=>(H.a4 y s hs).2.2 (by rw [hk,e])) (fun q hq e2=>hpo y s hs e q hq (by rw [hk,e2]))),h2⟩
  ·intro y z hz
   have hz:z∈(if y=n then d.vl n++[x] else d.vl y):=hz
   by_cases e:y=n
   ·rw [if_pos e] at hz
    rcases List.mem_append.1 hz with h|h
    ·exact H.l256 n z h
    ·rw [List.mem_singleton] at h;subst h;exact HX.out
   ·rw [if_neg e] at hz;exact H.l256 y z hz
  ·intro y s hs
   have hs:(if y=n then some (⟨A',m+1,c'⟩:Sl) else d.ver y)=some s:=hs
   show bk s.p≠some d.gL∧bk s.p≠some d.g∧bk s.p≠some d.gV
   by_cases e:y=n
   ·rw [if_pos e] at hs
    cases hs
    exact ⟨hA'ne d.gL H.gL hpL,hA'ne d.g H.blk.lt (fun q hq e=>(Hpn.out q hq).1 e),hA'ne d.gV H.ver.lt (fun q hq e=>(Hpn.out q hq).2.1 e)⟩
   ·rw [if_neg e] at hs;exact H.a4 y s hs
  ·intro y y' s s' hs hs' hne
   have hs:(if y=n then some (⟨A',m+1,c'⟩:Sl) else d.ver y)=some s:=hs
   have hs':(if y'=n then some (⟨A',m+1,c'⟩:Sl) else d.ver y')=some s':=hs'
   have hmain:∀ z sz,d.ver z=some sz→z≠n→bk A'≠bk sz.p:=fun z sz hz hzn e=>by
    have h1:=(H.own z sz hz).1
    have h2:=(H.own z sz hz).2
    have h3:=h1.length
    rcases h1.form with ⟨-,h0,-⟩|⟨gz,hgz⟩
    ·rw [h0] at h3;exact h2 (List.eq_nil_of_length_eq_zero h3)
    have hlt:=(h1.lt (k:=gz) (by rw [hgz];rfl)).2
    exact hA'ne gz hlt (fun q hq e2=>hpo z sz hz hzn q hq (by rw [hgz,e2];rfl)) (by rw [e,hgz];rfl)
   by_cases e:y=n
   ·rw [if_pos e] at hs
    rw [if_neg (fun e2=>hne (e.trans e2.symm))] at hs'
    cases hs
    exact hmain y' s' hs' (fun e2=>hne (e.trans e2.symm))
   ·rw [if_neg e] at hs
    by_cases e2:y'=n
    ·rw [if_pos e2] at hs'
     cases hs'
     exact fun h=>hmain y s hs e h.symm
    ·rw [if_neg e2] at hs'
     exact H.a5 y y' s s' hs hs' hne
  ·rcases h with h|h
   ·exact .inl h
   ·obtain ⟨s,hs,he⟩:=Hpb.out b h
    exact .inr ⟨s,hs,he⟩
  ·intro b hb'
   rcases hA'b b hb' with h|h
   ·obtain ⟨s,hs,he⟩:=Hpb.out b h
    exact .inr ⟨s,hs,he⟩
   ·exact .inl h)
 clear hownA hnews hcl hX hown hpb hpn hgd hga hnv hXr
 refine wp_region_noPanic ?_
 refine wp_region_held_drew (S:=fun W=>W.cell? ⟨d.g,1,none⟩=some (.map (some d.gV))∧W.rangeAt gd 0 X) (by kernel_rfl) ⟨c1,HXr.out⟩ (fun hHeld=>?_)
 refine wpAnyH_take (i := 0) (oi := { dst := some 25, op := Op.move (Operand.tmp 0), type := 28, pos := "disk.go:59", after := #[], guard := none }) (v := .pointer (some ⟨d.g, 0, none⟩)) rfl (by kernel_rfl) (by kernel_rfl) (by kernel_rfl) (fun _ _ _ h => h) (Or.inl ⟨by rfl, fun W hW => by obtain ⟨s1, s2⟩ := hW; go_simp⟩) (by assumption) ?_
 try simp only [Act.put,List.setIfInBounds_toArray,List.set_cons_zero,List.set_cons_succ]
 refine wpAnyH_take (i := 1) (oi := { dst := some 26, op := Op.nilCheck (Operand.tmp 25), type := 0, pos := "disk.go:59", after := #[{ on := 0, ground := Ground.data }], guard := none }) (v := .pointer (some ⟨d.g, 0, none⟩)) rfl (by kernel_rfl) (by kernel_rfl) (by kernel_rfl) (fun _ _ _ h => h) (Or.inl ⟨by rfl, fun W hW => by obtain ⟨s1, s2⟩ := hW; go_simp⟩) (by assumption) ?_
 try simp only [Act.put,List.setIfInBounds_toArray,List.set_cons_zero,List.set_cons_succ]
 refine wpAnyH_take (i := 2) (oi := { dst := some 27, op := Op.fieldAddr 120 (Operand.tmp 26) 1, type := 0, pos := "disk.go:59", after := #[{ on := 1, ground := Ground.data }], guard := none }) (v := .pointer (some ⟨d.g, 1, none⟩)) rfl (by kernel_rfl) (by kernel_rfl) (by kernel_rfl) (fun _ _ _ h => h) (Or.inl ⟨by rfl, fun W hW => by obtain ⟨s1, s2⟩ := hW; go_simp⟩) (by assumption) ?_
 try simp only [Act.put,List.setIfInBounds_toArray,List.set_cons_zero,List.set_cons_succ]
 refine wpAnyH_take (i := 3) (oi := { dst := some 28, op := Op.load 118 (Operand.tmp 27), type := 118, pos := "disk.go:59", after := #[{ on := 2, ground := Ground.data }], guard := none }) (v := .map (some d.gV)) rfl (by kernel_rfl) (by kernel_rfl) (by kernel_rfl) (fun _ _ _ h => h) (Or.inl ⟨by rfl, fun W hW => by obtain ⟨s1, s2⟩ := hW; go_simp⟩) (by assumption) ?_
 try simp only [Act.put,List.setIfInBounds_toArray,List.set_cons_zero,List.set_cons_succ]
 refine wpAnyH_take (i := 4) (oi := { dst := some 29, op := Op.move (Operand.tmp 1), type := 3, pos := "disk.go:59", after := #[], guard := none }) (v := .int .i64 (n : Int)) rfl (by kernel_rfl) (by kernel_rfl) (by kernel_rfl) (fun _ _ _ h => h) (Or.inl ⟨by rfl, fun W hW => by obtain ⟨s1, s2⟩ := hW; go_simp⟩) (by assumption) ?_
 try simp only [Act.put,List.setIfInBounds_toArray,List.set_cons_zero,List.set_cons_succ]
 refine wpAnyH_take (i := 5) (oi := { dst := some 30, op := Op.move (Operand.tmp 0), type := 28, pos := "disk.go:59", after := #[], guard := none }) (v := .pointer (some ⟨d.g, 0, none⟩)) rfl (by kernel_rfl) (by kernel_rfl) (by kernel_rfl) (fun _ _ _ h => h) (Or.inl ⟨by rfl, fun W hW => by obtain ⟨s1, s2⟩ := hW; go_simp⟩) (by assumption) ?_
 try simp only [Act.put,List.setIfInBounds_toArray,List.set_cons_zero,List.set_cons_succ]
 refine wpAnyH_take (i := 6) (oi := { dst := some 31, op := Op.nilCheck (Operand.tmp 30), type := 0, pos := "disk.go:59", after := #[{ on := 5, ground := Ground.data }], guard := none }) (v := .pointer (some ⟨d.g, 0, none⟩)) rfl (by kernel_rfl) (by kernel_rfl) (by kernel_rfl) (fun _ _ _ h => h) (Or.inl ⟨by rfl, fun W hW => by obtain ⟨s1, s2⟩ := hW; go_simp⟩) (by assumption) ?_
 try simp only [Act.put,List.setIfInBounds_toArray,List.set_cons_zero,List.set_cons_succ]
 refine wpAnyH_take (i := 7) (oi := { dst := some 32, op := Op.fieldAddr 120 (Operand.tmp 31) 1, type := 0, pos := "disk.go:59", after := #[{ on := 6, ground := Ground.data }], guard := none }) (v := .pointer (some ⟨d.g, 1, none⟩)) rfl (by kernel_rfl) (by kernel_rfl) (by kernel_rfl) (fun _ _ _ h => h) (Or.inl ⟨by rfl, fun W hW => by obtain ⟨s1, s2⟩ := hW; go_simp⟩) (by assumption) ?_
 try simp only [Act.put,List.setIfInBounds_toArray,List.set_cons_zero,List.set_cons_succ]
 refine wpAnyH_take (i := 8) (oi := { dst := some 33, op := Op.load 118 (Operand.tmp 32), type := 118, pos := "disk.go:59", after := #[{ on := 7, ground := Ground.data }], guard := none }) (v := .map (some d.gV)) rfl (by kernel_rfl) (by kernel_rfl) (by kernel_rfl) (fun _ _ _ h => h) (Or.inl ⟨by rfl, fun W hW => by obtain ⟨s1, s2⟩ := hW; go_simp⟩) (by assumption) ?_
 try simp only [Act.put,List.setIfInBounds_toArray,List.set_cons_zero,List.set_cons_succ]
 refine wpAnyH_take (i := 9) (oi := { dst := some 34, op := Op.move (Operand.tmp 1), type := 3, pos := "disk.go:59", after := #[], guard := none }) (v := .int .i64 (n : Int)) rfl (by kernel_rfl) (by kernel_rfl) (by kernel_rfl) (fun _ _ _ h => h) (Or.inl ⟨by rfl, fun W hW => by obtain ⟨s1, s2⟩ := hW; go_simp⟩) (by assumption) ?_
 try simp only [Act.put,List.setIfInBounds_toArray,List.set_cons_zero,List.set_cons_succ]
 refine wpAnyH_take (i := 11) (oi := { dst := some 36, op := Op.move (Operand.tmp 2), type := 37, pos := "disk.go:59", after := #[], guard := none }) (v := .slice (some ⟨gd, 0, none⟩) 256 256) rfl (by kernel_rfl) (by kernel_rfl) (by kernel_rfl) (fun _ _ _ h => h) (Or.inl ⟨by rfl, fun W hW => by obtain ⟨s1, s2⟩ := hW; go_simp⟩) (by assumption) ?_
 try simp only [Act.put,List.setIfInBounds_toArray,List.set_cons_zero,List.set_cons_succ]
 refine wpAnyH_take (i := 12) (oi := { dst := some 37, op := Op.sliceToArrayPointer 159 (Operand.tmp 36), type := 0, pos := "disk.go:59", after := #[{ on := 11, ground := Ground.data }], guard := none }) (v := .pointer (some ⟨gd, 0, none⟩)) rfl (by kernel_rfl) (by kernel_rfl) (by kernel_rfl) (fun _ _ _ h => h) (Or.inl ⟨by rfl, fun W hW => by obtain ⟨s1, s2⟩ := hW; go_simp⟩) (by assumption) ?_
 try simp only [Act.put,List.setIfInBounds_toArray,List.set_cons_zero,List.set_cons_succ]
 refine wpAnyH_take (i := 13) (oi := { dst := some 38, op := Op.load 159 (Operand.tmp 37), type := 159, pos := "disk.go:59", after := #[{ on := 12, ground := Ground.data }], guard := none }) (v := .agg X.toArray) rfl (by kernel_rfl) (by kernel_rfl) (by kernel_rfl) (fun _ _ _ h => h) (yieldsIf_load_mid (by rfl) _ _ rfl gd 0 rfl X _ (fun w h => h.2) hu159 rfl hi159) (by assumption) ?_
 try simp only [Act.put,List.setIfInBounds_toArray,List.set_cons_zero,List.set_cons_succ]
 refine wpAnyH_ready (rs:=[10,14]) (by kernel_rfl) (by simp) ?_
 refine AllReadyH.cons (o := { dst := some 35, op := Op.lookup 118 (Operand.tmp 33) (Operand.tmp 34) false, type := 117, pos := "disk.go:59", after := #[{ on := 8, ground := Ground.data }, { on := 9, ground := Ground.data }], guard := none }) rfl (fun K hK => ?_) (AllReadyH.cons (o := { dst := some 39, op := Op.buildSlice 117 1 #[(0, Operand.tmp 38)], type := 117, pos := "disk.go:59", after := #[{ on := 13, ground := Ground.data }], guard := none }) rfl (fun K hK => ?_) AllReadyH.nil)
 ·go_simp
  refine hK.out _ _ (by assumption) (fun hHeld=>?_)
  clear hK K
  try simp only [Act.put,List.setIfInBounds_toArray,List.set_cons_zero,List.set_cons_succ]
  refine wpAnyH_ready (rs:=[14]) (by kernel_rfl) (by simp) ?_
  refine AllReadyH.cons (o := { dst := some 39, op := Op.buildSlice 117 1 #[(0, Operand.tmp 38)], type := 117, pos := "disk.go:59", after := #[{ on := 13, ground := Ground.data }], guard := none }) rfl (fun K hK => ?_) AllReadyH.nil
  go_simp
  refine hK.out _ _ ⟨S1,S2⟩ (fun hHeld=>?_)
  clear hK K
  try simp only [Act.put,List.setIfInBounds_toArray,List.set_cons_zero,List.set_cons_succ]
  refine wpAnyH_ready (rs:=[15]) (by kernel_rfl) (by simp) ?_
  refine AllReadyH.cons (o := { dst := some 40, op := Op.call { callee := Callee.builtin Builtin.append, args := #[Operand.tmp 35, Operand.tmp 39], argTypes := #[117, 117] }, type := 117, pos := "disk.go:59", after := #[{ on := 10, ground := Ground.data }, { on := 14, ground := Ground.data }], guard := none }) rfl (fun K hK => ?_) AllReadyH.nil
  refine SecT.step_append rfl _ _ rfl 0 p m c (d.vl n) x rfl Hown.out ⟨w1.heap.size,0,none⟩ 1 rfl Hnews.out (by omega) (Nat.zero_le _) ?_
  intro A' c' w2 hown2 hg2 hn2
  obtain ⟨y1,y2,w3,hrun3,hAt3,hg3,z1,z2⟩:=Hstep.out A' c' w2 hown2 hg2
  refine hK.out _ _ ⟨y1,y2⟩ (fun hHeld=>?_)
  clear hK K
  try simp only [Act.put,List.setIfInBounds_toArray,List.set_cons_zero,List.set_cons_succ]
  refine wpAnyH_ready (rs:=[16]) (by kernel_rfl) (by simp) ?_
  refine AllReadyH.cons (o := { dst := none, op := Op.mapUpdate 118 (Operand.tmp 28) (Operand.tmp 29) (Operand.tmp 40), type := 0, pos := "disk.go:59", after := #[{ on := 3, ground := Ground.data }, { on := 4, ground := Ground.data }, { on := 15, ground := Ground.data }, { on := 15, ground := Ground.chain }, { on := 0, ground := Ground.phase }, { on := 1, ground := Ground.phase }, { on := 2, ground := Ground.phase }, { on := 3, ground := Ground.phase }, { on := 4, ground := Ground.phase }, { on := 5, ground := Ground.phase }, { on := 6, ground := Ground.phase }, { on := 7, ground := Ground.phase }, { on := 8, ground := Ground.phase }, { on := 9, ground := Ground.phase }, { on := 10, ground := Ground.phase }, { on := 11, ground := Ground.phase }, { on := 12, ground := Ground.phase }, { on := 13, ground := Ground.phase }, { on := 14, ground := Ground.phase }, { on := 15, ground := Ground.phase }], guard := none }) rfl (fun K hK => ?_) AllReadyH.nil
  go_simp
  refine hK.out _ _ ⟨z1,z2⟩ (fun hHeld=>?_)
  clear hK K
  try simp only [Act.put,List.setIfInBounds_toArray,List.set_cons_zero,List.set_cons_succ]
  refine wpAnyH_done (by kernel_rfl) ?_ _
  clear L0 L1 K2 K3 S1 S2 y1 y2 z1 z2 hrun3 hi159 hu159 hCB hAR hARs c0 c1 HXr Hnews Hown Hstep
  refine NoPanic.normal ?_
  go_wp2
  go_ret
  exact ⟨rfl,HEnd.out A' c' w2 w3 hown2 hg2 hn2 hAt3 hg3⟩
 ·go_simp
  refine hK.out _ _ ⟨S1,S2⟩ (fun hHeld=>?_)
  clear hK K
  try simp only [Act.put,List.setIfInBounds_toArray,List.set_cons_zero,List.set_cons_succ]
  refine wpAnyH_ready (rs:=[10]) (by kernel_rfl) (by simp) ?_
  refine AllReadyH.cons (o := { dst := some 35, op := Op.lookup 118 (Operand.tmp 33) (Operand.tmp 34) false, type := 117, pos := "disk.go:59", after := #[{ on := 8, ground := Ground.data }, { on := 9, ground := Ground.data }], guard := none }) rfl (fun K hK => ?_) AllReadyH.nil
  go_simp
  refine hK.out _ _ (by assumption) (fun hHeld=>?_)
  clear hK K
  try simp only [Act.put,List.setIfInBounds_toArray,List.set_cons_zero,List.set_cons_succ]
  refine wpAnyH_ready (rs:=[15]) (by kernel_rfl) (by simp) ?_
  refine AllReadyH.cons (o := { dst := some 40, op := Op.call { callee := Callee.builtin Builtin.append, args := #[Operand.tmp 35, Operand.tmp 39], argTypes := #[117, 117] }, type := 117, pos := "disk.go:59", after := #[{ on := 10, ground := Ground.data }, { on := 14, ground := Ground.data }], guard := none }) rfl (fun K hK => ?_) AllReadyH.nil
  refine SecT.step_append rfl _ _ rfl 0 p m c (d.vl n) x rfl Hown.out ⟨w1.heap.size,0,none⟩ 1 rfl Hnews.out (by omega) (Nat.zero_le _) ?_
  intro A' c' w2 hown2 hg2 hn2
  obtain ⟨y1,y2,w3,hrun3,hAt3,hg3,z1,z2⟩:=Hstep.out A' c' w2 hown2 hg2
  refine hK.out _ _ ⟨y1,y2⟩ (fun hHeld=>?_)
  clear hK K
  try simp only [Act.put,List.setIfInBounds_toArray,List.set_cons_zero,List.set_cons_succ]
  refine wpAnyH_ready (rs:=[16]) (by kernel_rfl) (by simp) ?_
  refine AllReadyH.cons (o := { dst := none, op := Op.mapUpdate 118 (Operand.tmp 28) (Operand.tmp 29) (Operand.tmp 40), type := 0, pos := "disk.go:59", after := #[{ on := 3, ground := Ground.data }, { on := 4, ground := Ground.data }, { on := 15, ground := Ground.data }, { on := 15, ground := Ground.chain }, { on := 0, ground := Ground.phase }, { on := 1, ground := Ground.phase }, { on := 2, ground := Ground.phase }, { on := 3, ground := Ground.phase }, { on := 4, ground := Ground.phase }, { on := 5, ground := Ground.phase }, { on := 6, ground := Ground.phase }, { on := 7, ground := Ground.phase }, { on := 8, ground := Ground.phase }, { on := 9, ground := Ground.phase }, { on := 10, ground := Ground.phase }, { on := 11, ground := Ground.phase }, { on := 12, ground := Ground.phase }, { on := 13, ground := Ground.phase }, { on := 14, ground := Ground.phase }, { on := 15, ground := Ground.phase }], guard := none }) rfl (fun K hK => ?_) AllReadyH.nil
  go_simp
  refine hK.out _ _ ⟨z1,z2⟩ (fun hHeld=>?_)
  clear hK K
  try simp only [Act.put,List.setIfInBounds_toArray,List.set_cons_zero,List.set_cons_succ]
  refine wpAnyH_done (by kernel_rfl) ?_ _
  clear L0 L1 K2 K3 S1 S2 y1 y2 z1 z2 hrun3 hi159 hu159 hCB hAR hARs c0 c1 HXr Hnews Hown Hstep
  refine NoPanic.normal ?_
  go_wp2
  go_ret
  exact ⟨rfl,HEnd.out A' c' w2 w3 hown2 hg2 hn2 hAt3 hg3⟩
theorem writeV_other {vw:Nat→Option Bk} {b0:Nat} {r:List Nat} {n:Nat} {pk:List UInt8} {x:Nat} (h:x ∉ b0::r):writeV vw b0 r n pk x=vw x:=by
 simp only [List.mem_cons,not_or] at h
 unfold writeV
 rw [restV_other _ _ _ _ h.2]
 unfold setV
 rw [if_neg h.1]
theorem restL_same {vw vw':Nat→Option Bk} {size:Nat}:∀ (l:List Nat) (out o:List UInt8),restL vw size l out=some o→(∀ x∈l,vw' x=vw x)→restL vw' size l out=some o
 | [],out,o,h,_=>h
 | a::r,out,o,h,hs=>by
   unfold restL at h ⊢
   rw [hs a (by simp)]
   split at h
   ·rename_i b hb
    split at h
    ·rename_i hc
     rw [if_pos hc]
     exact restL_same r _ o h (fun x hx=>hs x (by simp [hx]))
    ·cases h
   ·cases h
theorem readL_same {vw vw':Nat→Option Bk} {b:Nat} {len:Int} {bs:List Nat} {o:List UInt8} (h:readL vw b len=some (bs,o)) (hs:∀ x∈bs,vw' x=vw x):readL vw' b len=some (bs,o):=by
 have hb:b∈bs:=by
  unfold readL at h
  split at h
  ·split at h
   ·split at h
    ·split at h
     ·obtain ⟨o',-,e⟩:=Option.map_eq_some_iff.1 h
      cases e
      simp
     ·cases h
    ·cases h
   ·cases h
  ·cases h
 unfold readL at h ⊢
 rw [hs b hb]
 split at h
 ·rename_i h1
  rw [if_pos h1]
  split at h
  ·rename_i y hy
   split at h
   ·rename_i h2
    rw [if_pos h2]
    split at h
    ·rename_i h3
     rw [if_pos h3]
     obtain ⟨o',ho,e⟩:=Option.map_eq_some_iff.1 h
     cases e
     rw [restL_same _ _ _ ho (fun x hx=>hs x (List.mem_cons_of_mem _ hx))]
     rfl
    ·cases h
   ·cases h
  ·cases h
 ·cases h
theorem ofNat_id {n:Nat} (h:n<256):(UInt8.ofNat n).toNat=n:=by
 rw [UInt8.toNat_ofNat'];omega
theorem getL_sect {n:Nat} {b:Bk} (h:b.ok):getL n (sectL n b)=some b:=by
 have e:blkOf (sectL n b)=b:=by
  obtain ⟨kd,bd⟩:=b
  obtain ⟨h1,h2,h3⟩:=h
  simp only at h1 h2 h3
  unfold sectL
  generalize sumOf (sectP n ⟨kd,bd⟩)=S
  have e1:sectP n ⟨kd,bd⟩++S=UInt8.ofNat kd::UInt8.ofNat bd.length::UInt8.ofNat n::UInt8.ofNat (n/256)::0::0::0::0::(bd++(List.replicate (244-bd.length) 0++S)):=by
   simp [sectP,headL,List.replicate_succ]
  rw [e1]
  unfold blkOf
  simp only [List.getD_cons_zero,List.getD_cons_succ,List.drop_succ_cons,List.drop_zero]
  rw [ofNat_id (by omega),ofNat_id (by omega),List.take_append_of_le_length nL,List.take_length]
 unfold getL
 rw [e,if_pos ⟨h,rfl⟩]
theorem cacheDirty (c:Cch) (d:Dsk) (w:World) (h:c.Mem d w) (hn:c.nY≤1000000000):
 Calls Tryz.prog 47 #[.pointer (some ⟨c.g,0,none⟩)] w fun e w'=>∃ (A:OA) (cc:Nat) (ks:List Nat),e=.returned (.slice A c.nY cc)∧ks.length=c.nY∧ks.Pairwise (·<·)∧(∀ x,x∈ks↔x<4611686018427387904∧(c.dty x).isSome=true) ∧
  Own w' w.heap.size 3 A c.nY cc (ks.map natv)∧Below w.heap.size w w':=by
 have k3:=h.cells.2.2.2.1
 have HK:=Lh (mapsKeysU (some c.gY) w)
 have HS:=Lh (sortedSet c.gY c.nY c.dty w h.mY hn)
 clear h
 go_enter Tryz.func47,Tryz.ntmps47
 go_wp2_with fail
 refine HK.out.mono ?_
 rintro e w1 ⟨rfl,rfl⟩
 go_wp2_with fail
 refine HS.out.mono ?_
 rintro e w2 ⟨A,cc,ks,rfl,h1,h2,h3,h4,h5⟩
 go_wp2
 go_ret
 exact ⟨A,cc,ks,rfl,h1,h2,h3,h4,h5⟩
theorem Dsk.wrote_fp {d:Dsk} {k:Nat} {s:Sl} {nv:Nat} {x:List UInt8} {z:Nat} (hs:∀ b,bk s.p=some b→z≤b∨∃ s0,d.ver k=some s0∧bk s0.p=some b) {b:Nat} (hb:(d.wrote k s nv x).fp b):d.fp b∨z≤b:=by
 rcases hb with h|h|h|⟨n,s2,h1,h2⟩
 ·exact .inl (.inl h)
 ·exact .inl (.inr (.inl h))
 ·exact .inl (.inr (.inr (.inl h)))
 ·have h1:(if n=k then some s else d.ver n)=some s2:=h1
  by_cases e:n=k
  ·rw [if_pos e] at h1
   cases h1
   rcases hs b h2 with h3|⟨s0,h3,h4⟩
   ·exact .inr h3
   ·exact .inl (.inr (.inr (.inr ⟨k,s0,h3,h4⟩)))
  ·rw [if_neg e] at h1
   exact .inl (.inr (.inr (.inr ⟨n,s2,h1,h2⟩)))
theorem Cch.Mem.wrote {c:Cch} {d:Dsk} {w w':World} {k:Nat} {s:Sl} {nv:Nat} {x:List UInt8} (h:c.Mem d w) (hd:(d.wrote k s nv x).At w') (hc:Chg (fun b=>b=d.gV∨∃ s,d.ver k=some s∧bk s.p=some b) w w')
 (hs:∀ b,bk s.p=some b→w.heap.size≤b∨∃ s0,d.ver k=some s0∧bk s0.p=some b):c.Mem (d.wrote k s nv x) w':=by
 have hsub:∀ b,(b=d.gV∨∃ s,d.ver k=some s∧bk s.p=some b)→d.fp b:=fun b hb=>hb.elim (fun e=>.inr (.inr (.inl e))) (fun ⟨s,h1,h2⟩=>.inr (.inr (.inr ⟨k,s,h1,h2⟩)))
 have hw:∀ b,c.wr b→¬(b=d.gV∨∃ s,d.ver k=some s∧bk s.p=some b):=fun b hb hf=>h.a5 b (hsub b hf) hb
 refine ⟨Blk.chg h.row hc (hw _ (.inl rfl)),hd,h.mB.chg hc (hw _ (.inr (.inl rfl))),h.mY.chg hc (hw _ (.inr (.inr (.inl rfl)))),h.own.chg hc (fun q hq=>hw _ (.inr (.inr (.inr hq)))),fun n x hx=>?_,h.a1,h.a2,h.a3,h.a4,fun b hb hf=>?_⟩
 ·obtain ⟨b1,b2,b3,b4⟩:=h.body n x hx
  refine ⟨Rd.same b1 (fun q hq=>hc.block q (b4 q hq).1 (fun hf=>(b4 q hq).2.2 (hsub q hf))),b2,b3,fun q hq=>⟨lT (b4 q hq).1 hc.size,(b4 q hq).2.1,fun hf=>?_⟩⟩
  rcases Dsk.wrote_fp hs hf with h1|h1
  ·exact (b4 q hq).2.2 h1
  ·have:=(b4 q hq).1;omega
 ·rcases Dsk.wrote_fp hs hb with h1|h1
  ·exact h.a5 b h1 hf
  ·have:=h.wr_lt hf;omega
def Cch.clean1 (c:Cch) (k nY:Nat):Cch:={ c with nY:=nY,dty:=fun y=>if y=k then none else c.dty y }
theorem Cch.clean1_inv {c:Cch} {d:Dsk} (hi:c.Inv d) {k:Nat} {x:Bx} (hx:c.blk k=some x) (nY:Nat) (s:Sl) (nv:Nat):(c.clean1 k nY).Inv (d.wrote k s nv (sectL k ⟨x.kind,c.body k⟩)):=by
 refine ⟨hi.r1,hi.r2,hi.dom,fun n hn=>?_,fun n hn=>?_,hi.ln,fun n y hy hn=>?_⟩
 ·have hn:(if n=k then none else c.dty n).isSome=true:=hn
  by_cases e:n=k
  ·rw [if_pos e] at hn;cases hn
  ·rw [if_neg e] at hn;exact hi.dty n hn
 ·obtain ⟨h1,h2,h3⟩:=hi.ol n hn
  refine ⟨h1,h2,?_⟩
  show (if n=k then none else c.dty n)=none
  split<;>first|rfl|exact h3
 ·have hn:(if n=k then (none:Option Unit) else c.dty n)=none:=hn
  have hy:c.blk n=some y:=hy
  rw [Dsk.wrote_sec]
  show _=(some ⟨y.kind,c.body n⟩:Option Bk)
  by_cases e:n=k
  ·rw [if_pos e]
   subst e
   have h2:c.blk n=some y:=hy
   rw [h2] at hx
   cases hx
   exact getL_sect (hi.dom n _ hy).2.2
  ·rw [if_neg e] at hn ⊢
   exact hi.clean n y hy hn
theorem Cch.clean1_view {c:Cch} {d:Dsk} {k:Nat} {x:Bx} (hx:c.blk k=some x) (nY:Nat) (s:Sl) (nv:Nat) (l:List UInt8) (n:Nat):(c.clean1 k nY).view (d.wrote k s nv l) n=c.view d n:=by
 show (if 50≤n∧n<d.N then (match c.blk n with|some x=>some ⟨x.kind,c.body n⟩|none=>getL n ((d.wrote k s nv l).sec n)) else none)=(if 50≤n∧n<d.N then (match c.blk n with|some x=>some ⟨x.kind,c.body n⟩|none=>getL n (d.sec n)) else none)
 rw [Dsk.wrote_sec]
 by_cases e:n=k
 ·subst e;rw [hx]
 ·rw [if_neg e]
theorem Cch.Mem.clean1 {c:Cch} {d:Dsk} {w w':World} (h:c.Mem d w) {k nY:Nat} (hm:SetT.At w' c.gY nY (fun y=>if y=k then none else c.dty y)) (hg:w.grownBy w' (some c.gY)):(c.clean1 k nY).Mem d w':=by
 have hc:Chg (fun b=>b=c.gY) w w':=Chg.of_grown hg (fun b hb _=>by cases hb;rfl)
 refine h.step (c':=c.clean1 k nY) (hc.mono (fun b _ hb=>.inr (.inr (.inl hb)))) rfl rfl rfl (Blk.chg h.row hc h.a2) (h.mB.chg hc h.a3) hm (h.own.chg hc (fun q hq e=>h.a4.2.2 (by rw [hq,e]))) (fun q hq=>.inl hq) (fun n x hx=>.inl ⟨hx,rfl⟩)
structure Fls (c c2:Cch) (d d2:Dsk) (w w2:World) (ks:List Nat) (i:Nat):Prop where
 mem:c2.Mem d2 w2
 inv:c2.Inv d2
 eg:c2.g=c.g
 er:c2.room=c.room
 dg:d2.g=d.g
 dN:d2.N=d.N
 view:∀ n,c2.view d2 n=c.view d n
 dty:∀ n,c2.dty n=if n∈ks.take i then none else c.dty n
 vl:∀ n,(d2.vl n).length=(d.vl n).length+if n∈ks.take i then 1 else 0
 chg:Chg (c.fp d) w w2
 fp:∀ b,c2.fp d2 b→c.fp d b∨w.heap.size≤b
theorem Fls.chg2 {c c2:Cch} {d d2:Dsk} {w w2 w3:World} {ks:List Nat} {i:Nat} (h:Fls c c2 d d2 w w2 ks i) (hs:w.heap.size≤w2.heap.size) (hb:Below w2.heap.size w2 w3):Fls c c2 d d2 w w3 ks i:=
 { h with mem:=h.mem.later hb,chg:=h.chg.trans (Chg.of_below (F:=Fp.none) hb) (fun _ _ h=>h.elim) }
theorem mem_take_succ {ks:List Nat} {i k:Nat} (hk:ks[i]? = some k) (n:Nat):n∈ks.take (i+1)↔n∈ks.take i∨n=k:=by
 rw [List.take_add_one,hk];simp
theorem not_mem_take {ks:List Nat} (hp:ks.Pairwise (·<·)) {i k:Nat} (hk:ks[i]? = some k):k ∉ ks.take i:=fun h=>by
 obtain ⟨j,hj,e⟩:=List.getElem_of_mem h
 have hj1:j<i:=by rw [List.length_take] at hj;omega
 obtain ⟨hi1,hi2⟩:=Ze hk
 have:=List.pairwise_iff_getElem.1 hp j i (by omega) hi1 hj1
 rw [List.getElem_take] at e
 omega
theorem Fls.step {c c2 c3:Cch} {d d2:Dsk} {w w2 w3 w4 w5:World} {ks:List Nat} {i k:Nat} {x:Bx} {s:Sl} {nv nY:Nat} (h:Fls c c2 d d2 w w2 ks i) (hk:ks[i]? = some k) (hp:ks.Pairwise (·<·)) (hx:c2.blk k=some x) (hws:w.heap.size≤w2.heap.size)
 (hd:(d2.wrote k s nv (sectL k ⟨x.kind,c2.body k⟩)).At w3) (hc:Chg (fun b=>b=d2.gV∨∃ s,d2.ver k=some s∧bk s.p=some b) w2 w3)
 (hs:∀ b,bk s.p=some b→w2.heap.size≤b∨∃ s0,d2.ver k=some s0∧bk s0.p=some b)
 (hm:SetT.At w4 c2.gY nY (fun y=>if y=k then none else c2.dty y)) (hg:w3.grownBy w4 (some c2.gY))
 (hn:(c2.clean1 k nY).Next c3 (d2.wrote k s nv (sectL k ⟨x.kind,c2.body k⟩)) w4 w5) (hdt:∀ b,(c2.clean1 k nY).dty b=c3.dty b):
 Fls c c3 d (d2.wrote k s nv (sectL k ⟨x.kind,c2.body k⟩)) w w5 ks (i+1):=by
 have hsub:∀ b,(b=d2.gV∨∃ s,d2.ver k=some s∧bk s.p=some b)→c2.fp d2 b:=fun b hb=>.inl (hb.elim (fun e=>.inr (.inr (.inl e))) (fun ⟨s,h1,h2⟩=>.inr (.inr (.inr ⟨k,s,h1,h2⟩))))
 have hc34:Chg (fun b=>b=c2.gY) w3 w4:=Chg.of_grown hg (fun b hb _=>by cases hb;rfl)
 have hfp:∀ b,(c2.clean1 k nY).fp (d2.wrote k s nv (sectL k ⟨x.kind,c2.body k⟩)) b→c2.fp d2 b∨w2.heap.size≤b:=fun b hb=>by
  rcases hb with hb|hb
  ·exact (Dsk.wrote_fp hs hb).imp (fun h=>.inl h) id
  ·exact .inl (.inr hb)
 have hs23:=hc.size
 have hs34:=hg.size
 have hs45:=hn.chg.size
 have hF:∀ b,c2.fp d2 b∨w2.heap.size≤b→b<w.heap.size→c.fp d b:=fun b hb hlt=>by
  rcases hb with hb|hb
  ·rcases h.fp b hb with h1|h1
   ·exact h1
   ·omega
  ·omega
 refine ⟨hn.mem,hn.inv,hn.eg.trans h.eg,hn.er.trans h.er,h.dg,h.dN,fun n=>?_,fun n=>?_,fun n=>?_,?_,fun b hb=>?_⟩
 ·rw [hn.view,Cch.clean1_view hx,h.view]
 ·rw [←hdt]
  show (if n=k then none else c2.dty n)=_
  rw [h.dty]
  by_cases e:n=k
  ·rw [if_pos e,if_pos ((mem_take_succ hk n).2 (.inr e))]
  ·rw [if_neg e]
   by_cases e2:n∈ks.take i
   ·rw [if_pos e2,if_pos ((mem_take_succ hk n).2 (.inl e2))]
   ·rw [if_neg e2,if_neg (fun h=>((mem_take_succ hk n).1 h).elim e2 e)]
 ·show (if n=k then d2.vl k++[_] else d2.vl n).length=_
  by_cases e:n=k
  ·subst e
   have:=h.vl n
   rw [if_neg (not_mem_take hp hk)] at this
   rw [if_pos rfl,if_pos ((mem_take_succ hk n).2 (.inr rfl)),Zl,this];rfl
  ·rw [if_neg e,h.vl]
   by_cases e2:n∈ks.take i
   ·rw [if_pos e2,if_pos ((mem_take_succ hk n).2 (.inl e2))]
   ·rw [if_neg e2,if_neg (fun h=>((mem_take_succ hk n).1 h).elim e2 e)]
 ·refine ((h.chg.trans hc (fun b hb hf=>hF b (.inl (hsub b hf)) hb)).trans hc34 (fun b hb hf=>hF b (.inl (.inr (.inl (.inr (.inr (.inl hf)))))) hb)).trans hn.chg (fun b hb hf=>hF b (hfp b hf) hb)
 ·rcases hn.fp b hb with h1|h1
  ·rcases hfp b h1 with h2|h2
   ·exact h.fp b h2
   ·exact .inr (by omega)
  ·exact .inr (by omega)
def flushPost (c:Cch) (d:Dsk) (w:World) (e:Ending) (w':World):Prop:=
 e=.returned (.int .i64 0)∧∃ (c2:Cch) (d2:Dsk),c2.Mem d2 w'∧c2.Inv d2∧c2.g=c.g∧c2.room=c.room∧d2.g=d.g∧d2.N=d.N∧(∀ n,c2.view d2 n=c.view d n)∧(∀ n,c2.dty n=none)∧(∀ n,(d2.vl n).length≤(d.vl n).length+1)∧Chg (c.fp d) w w'∧(∀ b,c2.fp d2 b→c.fp d b∨w.heap.size≤b)
theorem cacheFlush (c:Cch) (d:Dsk) (w:World) (h:c.Mem d w) (hi:c.Inv d) (hv:∀ n,(d.vl n).length≤1000000) (hN:d.N≤65536):
 Calls Tryz.prog 17 #[.pointer (some ⟨c.g,0,none⟩)] w (flushPost c d w):=by
 have HM:=Lh h
 have HInv:=Lh hi
 have HV:=Lh hv
 have hnY:=(Cch.nB_lt h hi).2
 have HDi:=Lh (cacheDirty c d w h (by omega))
 have hdb:∀ n,(c.dty n).isSome=true→50≤n∧n<d.N∧∃ x,c.blk n=some x:=fun n hn=>by
  obtain ⟨x,hx⟩:=Option.isSome_iff_exists.1 (hi.dty n hn)
  exact ⟨(hi.dom n x hx).1,(hi.dom n x hx).2.1,x,hx⟩
 have HDb:=Lh hdb
 obtain ⟨R,hR⟩:∃ R,flushPost c d w=R:=⟨_,rfl⟩
 rw [hR]
 have HRe:=Lh hR
 clear h hi hR hdb hv
 go_enter Tryz.func17,Tryz.ntmps17
 go_wp2_with fail
 refine HDi.out.mono ?_
 rintro e w1 ⟨A,cc,ks,rfl,hkl,hkp,hkm,hown,hb1⟩
 obtain ⟨L,hL⟩:∃ q,c.nY=q:=⟨_,rfl⟩
 rw [hL] at hkl hown hnY ⊢
 have HKm:=Lh hkm
 have HKp:=Lh hkp
 have hs1:w.heap.size≤w1.heap.size:=hb1.size
 have HF0:=Lh (⟨HM.out.later hb1,HInv.out,rfl,rfl,rfl,rfl,fun _=>rfl,fun n=>by simp,fun n=>by simp,Chg.of_below hb1,fun b hb=>.inl hb⟩:Fls c c d d w w1 ks 0)
 have HO0:=Lh (⟨hown,fun q hq hf=>by have:=HM.out.in_ q hf;have:=(Own.lt hown hq).1;omega⟩:Own w1 w.heap.size 3 A L cc (ks.map natv)∧∀ q,bk A=some q→¬c.fp d q)
 clear hkm hkp hb1 hown hL HDi
 go_wp2_with fail
 go_loopg [10] L (fun gg s10 wr=>∃ (i:Nat) (c2:Cch) (d2:Dsk),i≤L∧L-i≤gg∧s10=.int .i64 (i:Int)∧Fls c c2 d d2 w wr ks i∧(Own wr w.heap.size 3 A L cc (ks.map natv)∧∀ q,bk A=some q→¬c2.fp d2 q)∧w.heap.size≤wr.heap.size)
 case atStart=>exact ⟨0,c,d,by omega,by omega,rfl,HF0.out,HO0.out,hs1⟩
 case round=>
  obtain ⟨i,c2,d2,hi,hgg,rfl,hF,hO,hsr⟩:=hrel
  have HGg:=Lh hgg
  have HF:=Lh hF
  have HO:=Lh hO
  clear hgg hF hO
  by_cases hlt:i<L
  ·obtain ⟨k,hk⟩:∃ k,ks[i]? = some k:=⟨ks[i]'(by omega),Zg (by omega)⟩
   have hkd:=(HKm.out k).1 (List.mem_of_getElem? hk)
   have hd2:c2.dty k=c.dty k:=by rw [HF.out.dty,if_neg (not_mem_take HKp.out hk)]
   have hdN:d2.N=d.N:=HF.out.dN
   obtain ⟨x,hx⟩:=Option.isSome_iff_exists.1 (HF.out.inv.dty k (by rw [hd2];exact hkd.2))
   obtain ⟨hk1,hk2,hok⟩:=HF.out.inv.dom k x hx
   obtain ⟨ga,xa,rfl,hga1,hga2,hxa,hca,-⟩:=Own.at_ HO.out.1 (k:=i) hlt
   rw [List.getElem?_map,hk,Option.map_some,Option.some.injEq] at hxa
   subst hxa
   have hca2:wr.cell? ⟨ga,i,none⟩=some (.int .i64 (k:Int)):=hca
   have hi1:(i:Int)<(L:Int):=by omega
   have hkf:k<4611686018427387904:=hkd.1
   have hk65:k≤65535:=by omega
   obtain ⟨kind,pp,mm,cx⟩:=x
   have hbd:=HF.out.mem.body k _ hx
   have HPut:=Lh (blockPut k ⟨kind,c2.body k⟩ pp mm cx wr hk65 hok hbd.2.1 hbd.1)
   have HGet:=Lh (by unfold MapT.get;rw [hx];rfl:BlkT.get c2.blk k=⟨kind,⟨pp,mm,cx⟩⟩)
   have HX:=Lh (⟨hk,hx,hok⟩:ks[i]? = some k∧c2.blk k=some ⟨kind,⟨pp,mm,cx⟩⟩∧(⟨kind,c2.body k⟩:Bk).ok)
   have hcs:=HF.out.mem.cells
   rw [HF.out.eg] at hcs
   obtain ⟨k0,-,k2,k3,-⟩:=hcs
   clear hk hx hok hbd hca hd2 hkd k0 k3
   go_wp2_with (refine wpList_MapT_look BlkT rfl _ _ rfl c2.gB c2.nB c2.blk rfl HF.out.mem.mB k hkf rfl ?_;rw [HGet.out];show wpList _ _ _ _ (Act.put _ _ (.agg #[.int .i64 (kind:Int),.slice pp mm cx])) _)
   refine HPut.out.mono ?_
   rintro e w2 ⟨g5,rfl,hg51,hg52,hbs,hb2⟩
   have HB2:=Lh hb2
   have HM2:=Lh (HF.out.mem.later hb2)
   have HF2:=Lh (HF.out.chg2 hsr hb2)
   have hs2:=hb2.size
   have HO2:=Lh (Own.later HO.out.1 hb2)
   have HW:=Lh (diskWrite d2 k g5 (sectL k ⟨kind,c2.body k⟩) w2 HM2.out.dsk hk2 (sectL_len HX.out.2.2) hbs (fun hf=>by have:=HF.out.mem.dsk.in_ _ hf;omega) (by rw [HF.out.vl,if_neg (not_mem_take HKp.out HX.out.1)];exact HV.out k))
   have hcs:=HM2.out.cells
   rw [HF.out.eg] at hcs
   obtain ⟨k0,-⟩:=hcs
   clear hbs hb2 k2 hca2 HPut
   go_wp2_with fail
   refine HW.out.mono ?_
   rintro e w3 ⟨rfl,s,nv,hd3,hc3,hs3⟩
   have HD3:=Lh (⟨hd3,hc3,hs3⟩:(d2.wrote k s nv (sectL k ⟨kind,c2.body k⟩)).At w3∧Chg (fun b=>b=d2.gV∨∃ s,d2.ver k=some s∧bk s.p=some b) w2 w3∧∀ b,bk s.p=some b→w2.heap.size≤b∨∃ s0,d2.ver k=some s0∧bk s0.p=some b)
   have HM3:=Lh (HM2.out.wrote hd3 hc3 hs3)
   have hcs:=HM3.out.cells
   rw [HF.out.eg] at hcs
   obtain ⟨-,-,-,k3,-⟩:=hcs
   clear hd3 hc3 hs3 k0 HW
   go_wp2_with (refine wpList_MapT_del SetT rfl _ _ rfl c2.gY c2.nY c2.dty rfl HM3.out.mY k hkf rfl inferInstance ?_;intro w4 hAt4 hg4)
   obtain ⟨nY',hAt4'⟩:∃ q,SetT.At w4 c2.gY q (fun y=>if y=k then none else c2.dty y):=⟨_,hAt4⟩
   have HG4:=Lh (⟨hAt4',hg4⟩:SetT.At w4 c2.gY nY' (fun y=>if y=k then none else c2.dty y)∧w3.grownBy w4 (some c2.gY))
   have HAs:=Lh (by
    have h:=cacheAskedN (c2.clean1 k nY') (d2.wrote k s nv (sectL k ⟨kind,c2.body k⟩)) k w4 (HM3.out.clean1 hAt4' hg4) (Cch.clean1_inv HF.out.inv HX.out.2.1 nY' s nv) hk1 hk2 (by show (if k=k then none else c2.dty k)=none;rw [if_pos rfl])
    rw [show (c2.clean1 k nY').g=c.g from HF.out.eg] at h
    exact h:Calls Tryz.prog 49 #[.pointer (some ⟨c.g,0,none⟩),.int .i64 (k:Int)] w4 fun e w'=>e=.returned (.tuple #[])∧∃ c',(c2.clean1 k nY').Next c' (d2.wrote k s nv (sectL k ⟨kind,c2.body k⟩)) w4 w'∧(∀ b,(c2.clean1 k nY').dty b=c'.dty b)∧Chg (c2.clean1 k nY').w2 w4 w')
   clear hAt4 hAt4' hg4 k3
   go_wp2_with fail
   refine HAs.out.mono ?_
   rintro e w5 ⟨rfl,c3,hn5,hdt5,-⟩
   have HN5:=Lh (⟨hn5,hdt5⟩:(c2.clean1 k nY').Next c3 (d2.wrote k s nv (sectL k ⟨kind,c2.body k⟩)) w4 w5∧∀ b,(c2.clean1 k nY').dty b=c3.dty b)
   clear hn5 hdt5 HAs
   go_wp2
   go_roundg (L-(i+1))
   case measure=>have:=HGg.out;omega
   case rel=>
    have hF5:=Fls.step HF2.out HX.out.1 HKp.out HX.out.2.1 (Nat.le_trans hsr hs2) HD3.out.1 HD3.out.2.1 HD3.out.2.2 HG4.out.1 HG4.out.2 HN5.out.1 HN5.out.2
    have hgf:∀ b,b<wr.heap.size→¬c2.fp d2 b→¬c3.fp (d2.wrote k s nv (sectL k ⟨kind,c2.body k⟩)) b∧(b≠d2.gV∧¬∃ s,d2.ver k=some s∧bk s.p=some b)∧b≠c2.gY∧¬(c2.clean1 k nY').fp (d2.wrote k s nv (sectL k ⟨kind,c2.body k⟩)) b:=fun b hb hn=>by
     have h34:=HG4.out.2.size
     have h23:=HD3.out.2.1.size
     have h1:¬(c2.clean1 k nY').fp (d2.wrote k s nv (sectL k ⟨kind,c2.body k⟩)) b:=fun hf=>by
      rcases hf with hf|hf
      ·rcases Dsk.wrote_fp HD3.out.2.2 hf with h|h
       ·exact hn (.inl h)
       ·omega
      ·exact hn (.inr hf)
     refine ⟨fun hf=>?_,⟨fun e=>hn (.inl (.inr (.inr (.inl e)))),fun ⟨s,h1,h2⟩=>hn (.inl (.inr (.inr (.inr ⟨k,s,h1,h2⟩))))⟩,fun e=>hn (.inr (.inl (.inr (.inr (.inl e))))),h1⟩
     rcases HN5.out.1.fp b hf with h|h
     ·exact h1 h
     ·omega
    have hgg:=hgf ga hga2 (HO.out.2 ga rfl)
    have h4:Chg (fun b=>b=c2.gY) w3 w4:=Chg.of_grown HG4.out.2 (fun b hb _=>by cases hb;rfl)
    refine ⟨i+1,c3,_,by omega,by omega,rfl,hF5,⟨Own.chg (Own.chg (Own.chg HO2.out HD3.out.2.1 (fun q hq=>by cases hq;rintro (h|h);exact hgg.2.1.1 h;exact hgg.2.1.2 h)) h4 (fun q hq=>by cases hq;exact hgg.2.2.1)) HN5.out.1.chg (fun q hq=>by cases hq;exact hgg.2.2.2),fun q hq=>by cases hq;exact hgg.1⟩,?_⟩
    have:=HD3.out.2.1.size
    have:=HG4.out.2.size
    have:=HN5.out.1.chg.size
    omega
  ·have hc:¬(i:Int)<(L:Int):=by omega
   have hie:i=L:=by omega
   have HIe:=Lh hie
   clear hie hlt
   go_wp2
   rw [←HRe.out]
   have hF:=HF.out
   rw [HIe.out] at hF
   have hall:ks.take L=ks:=List.take_of_length_le (by omega)
   refine ⟨rfl,c2,d2,hF.mem,hF.inv,hF.eg,hF.er,hF.dg,hF.dN,hF.view,fun n=>?_,fun n=>?_,hF.chg,hF.fp⟩
   ·rw [hF.dty,hall]
    by_cases hn:n∈ks
    ·rw [if_pos hn]
    ·rw [if_neg hn]
     cases hd:c.dty n with
     | none=>rfl
     | some u=>
       have hs:(c.dty n).isSome=true:=by rw [hd];rfl
       exact absurd ((HKm.out n).2 ⟨by have:=HDb.out n hs;omega,hs⟩) hn
   ·rw [hF.vl];split<;>omega
theorem sameAny (A1 A2:OA) (n1 c1 n2 c2:Nat) (l1 l2:List UInt8) (w:World) (h1:l1.length=n1) (h2:l2.length=n2) (hr1:Bs w A1 l1) (hr2:Bs w A2 l2) (hn1:n1≤9000000000000000000) (hn2:n2≤9000000000000000000):
 Calls Tryz.prog 18 #[.slice A1 n1 c1,.slice A2 n2 c2] w fun e w'=>e=.returned (.bool (l1==l2))∧Below w.heap.size w w':=by
 have HL1:=Lh h1
 have HL2:=Lh h2
 have HR1:=Lh hr1
 have HR2:=Lh hr2
 clear h1 h2 hr1 hr2
 go_enter Tryz.func18,Tryz.ntmps18
 by_cases hn:n1=n2
 ·subst hn
  have g1:((n1:Int) != (n1:Int))=false:=by simp
  go_wp2_with fail
  go_loopg [5] n1 (fun gg s5 wr=>∃ i:Nat,i≤n1∧n1-i≤gg∧s5=.int .i64 (i:Int)∧l1.take i=l2.take i∧Below w.heap.size w wr)
  case atStart=>exact ⟨0,by omega,by omega,rfl,rfl,Below.refl _ _⟩
  case round=>
   obtain ⟨i,hi,hgi,rfl,htk,hb⟩:=hrel
   have HT:=Lh htk
   have HB:=Lh hb
   clear htk hb
   by_cases hin:i<n1
   ·obtain ⟨b1,o1,x,e1,hx,hc1⟩:=HR1.out.at_ (by rw [HL1.out];exact hin:i<l1.length)
    obtain ⟨b2,o2,y,e2,hy,hc2⟩:=HR2.out.at_ (by rw [HL2.out];exact hin:i<l2.length)
    subst e1 e2
    have d1:=(HB.out.cell (block_lt hc1)).trans hc1
    have d2:=(HB.out.cell (block_lt hc2)).trans hc2
    have HX:=Lh hx
    have HY:=Lh hy
    clear hx hy hc1 hc2
    go_wp2_with fail
    by_cases hxy:x=y
    ·have g2:((x.toNat:Int) != (y.toNat:Int))=false:=by rw [hxy];simp
     have HT2:=Lh (show l1.take (i+1)=l2.take (i+1) by rw [List.take_add_one,List.take_add_one,HT.out,HX.out,HY.out,hxy])
     clear hxy
     go_quiet (fail)
     have HB2:=Lh (HB.out.trans ((below_drewN wr nq).mono HB.out.size))
     go_wp2
     go_roundg (n1-(i+1))
     case measure=>omega
     case rel=>exact ⟨i+1,by omega,by omega,by go_num,HT2.out,HB2.out⟩
    ·have g2:((x.toNat:Int) != (y.toNat:Int))=true:=by
      rw [bne_iff_ne]
      intro e
      exact hxy (UInt8.toNat_inj.1 (by omega))
     have HN:=Lh (show (l1==l2)=false by
      rw [beq_eq_false_iff_ne]
      intro e
      have h:=HX.out
      rw [e,HY.out] at h
      exact hxy (Option.some.inj h).symm)
     clear hxy
     go_quiet (fail)
     have HB2:=Lh (HB.out.trans ((below_drewN wr nq).mono HB.out.size))
     go_wp2
     go_ret
     exact ⟨by rw [HN.out];rfl,HB2.out⟩
   ·obtain rfl:i=n1:=by omega
    have HE:=Lh (show (l1==l2)=true by
     have h:=HT.out
     rw [List.take_of_length_le (by rw [HL1.out];exact Nat.le_refl _),List.take_of_length_le (by rw [HL2.out];exact Nat.le_refl _)] at h
     rw [h];exact beq_self_eq_true _)
    go_wp2
    go_ret
    exact ⟨by rw [HE.out];rfl,HB.out⟩
 ·have g1:((n1:Int) != (n2:Int))=true:=by rw [bne_iff_ne];omega
  have HN:=Lh (show (l1==l2)=false by
   rw [beq_eq_false_iff_ne]
   intro e
   have h:=HL1.out
   rw [e,HL2.out] at h
   exact hn h.symm)
  go_wp2
  go_ret
  exact ⟨by rw [HN.out];rfl,Below.refl _ _⟩
theorem lawPick (c:Int) (n:Nat) (w:World) (h1:-9223372036854775808≤c) (h2:c≤9223372036854775807) (hn:0<n) (hn2:n≤1000000000):
 Calls Tryz.prog 10 #[.int .i64 c,.int .i64 (n:Int)] w fun e w'=>w'=w∧∃ k:Nat,k<n∧e=.returned (.int .i64 (k:Int)):=by
 have key:∀ x:Int,0≤x→x≤9223372036854775807→∃ k:Nat,k<n∧x.tmod (n:Int)=(k:Int):=fun x hx _=>by
  refine ⟨x.toNat%n,Nat.mod_lt _ hn,?_⟩
  rw [Int.tmod_eq_emod_of_nonneg hx,Int.natCast_emod,Int.toNat_of_nonneg hx]
 by_cases hc:c<0
 ·have e1:IntKind.i64.wrap (c+1)=c+1:=wrapi64 (by omega) (by omega)
  have e2:IntKind.i64.wrap (-(c+1))=-(c+1):=wrapi64 (by omega) (by omega)
  obtain ⟨k,hk,hm⟩:=key (-(c+1)) (by omega) (by omega)
  have hn0:¬(n:Int)=0:=by omega
  go_enter Tryz.func10,Tryz.ntmps10
  go_wp2
  go_ret
  exact ⟨rfl,k,hk,rfl⟩
 ·obtain ⟨k,hk,hm⟩:=key c (by omega) h2
  have hn0:¬(n:Int)=0:=by omega
  go_enter Tryz.func10,Tryz.ntmps10
  go_wp2
  go_ret
  exact ⟨rfl,k,hk,rfl⟩
theorem sysLoad (y:Sys) (b:Nat) (len:Int) (w:World) (h:y.Mem w) (hb:b≤65535) (hlen1:-9223372036854775808≤len) (hlen2:len≤9223372036854775807):
 Calls Tryz.prog 11 #[.pointer (some ⟨y.s.g,0,none⟩),.agg #[.int .i64 (b:Int),.int .i64 len]] w fun e w'=>∃ c',y.Step { y with c:=c' } w w'∧(∀ n,c'.view y.d n=y.c.view y.d n)∧c'.g=y.c.g ∧
  match loadL (y.c.view y.d) b len with
  | some l=>∃ A n cc,e=.returned (.tuple #[.slice A n cc,.int .i64 0])∧NewB w' w.heap.size A n cc l∧∀ q,bk A=some q→¬({ y with c:=c' }:Sys).fp q
  | none=>∃ E:Int,E≠0∧e=.returned (.tuple #[.slice none 0 0,.int .i64 E]):=by
 refine (chunksLoad y.s.g y.c y.d b len w h.cm h.ci hb hlen1 hlen2 h.sm.cells.1 (fun hf=>h.ap1 _ hf (.inl (.inl rfl)))).mono fun e w' hp=>?_
 obtain ⟨c',hn,h2⟩:=hp
 refine ⟨c',h.next hn,hn.view,hn.eg,?_⟩
 cases hl:loadL (y.c.view y.d) b len with
 | none=>rw [hl] at h2;exact h2
 | some l=>
   rw [hl] at h2
   obtain ⟨A,n,cc,h3,h4,h5⟩:=h2
   refine ⟨A,n,cc,h3,h4,fun q hq hf=>?_⟩
   have h6:=(h4.2.2.1 q hq).1
   rcases hf with hf|hf|hf
   ·exact h5 q hq hf
   ·have:=h.am.in_ q hf;omega
   ·have:=h.sm.in_ q hf;omega
theorem load_read {vw:Nat→Option Bk} {b:Nat} {len:Int} {l:List UInt8} (h:loadL vw b len=some l):∃ r,readL vw b len=some r∧(l.length:Int)=len:=by
 unfold loadL at h
 cases hr:readL vw b len with
 | none=>rw [hr] at h;cases h
 | some r=>
   obtain ⟨bs,pk⟩:=r
   rw [hr] at h
   dsimp only at h
   split at h
   ·next h2=>cases h;exact ⟨_,rfl,h2.2⟩
   ·cases h
theorem saveBad (sg:Nat) (A:OA) (n cc:Nat) (w:World) (hn:¬(1≤n∧n≤512)):
 Calls Tryz.prog 14 #[.pointer (some ⟨sg,0,none⟩),.slice A n cc] w fun e w'=>e=.returned (.tuple #[.agg #[.int .i64 0,.int .i64 0],.bool false,.int .i64 1])∧Below w.heap.size w w':=by
 obtain ⟨wA,hwA⟩:∃ y,w.alloc (.cells #[.pointer (some ⟨sg,0,none⟩)] 31)=y:=⟨_,rfl⟩
 have hsA:wA.heap.size=w.heap.size+1:=by rw [←hwA];simp
 have hBA:Below w.heap.size w wA:=by rw [←hwA];exact (Below.refl _ _).alloc nL _
 obtain ⟨wB,hwB⟩:∃ y,wA.alloc (.cells #[.slice A n cc] 37)=y:=⟨_,rfl⟩
 have hsB:wB.heap.size=w.heap.size+1+1:=by rw [←hwB,←hsA];simp
 have hBB:Below wA.heap.size wA wB:=by rw [←hwB];exact (Below.refl _ _).alloc nL _
 have hPB:Blk wB (w.heap.size+1) 37 #[.slice A n cc]:=by rw [←hwB,←hsA];exact Blk.new wA _ _
 obtain ⟨wC,hwC⟩:∃ y,wB.alloc (.cells #[.int .i64 0,.int .i64 0] 24)=y:=⟨_,rfl⟩
 have hBC:Below wB.heap.size wB wC:=by rw [←hwC];exact (Below.refl _ _).alloc nL _
 have hPC:Blk wC (w.heap.size+1+1) 24 #[.int .i64 0,.int .i64 0]:=by rw [←hwC,←hsB];exact Blk.new wB _ _
 have hB:Below w.heap.size w wC:=hBA.trans ((hBB.trans (hBC.mono (by omega))).mono (by omega))
 have k3:=(hPB.later hBC).cell 0
 have k40:=hPC.cell 0
 have k41:=hPC.cell 1
 have f40:=hPC.frozen 0
 have f41:=hPC.frozen 1
 simp only [Zt,Zz,Zs] at k3 k40 k41
 have HB:=Lh hB
 have Hh:=Lh (show w.heap.size≤w.heap.size+1+1 by omega)
 obtain ⟨b3,hb3⟩:∃ q,w.heap.size+1=q:=⟨_,rfl⟩
 have Hb3:=Lh hb3
 obtain ⟨b4,hb4⟩:∃ q,w.heap.size+1+1=q:=⟨_,rfl⟩
 have Hb4:=Lh hb4
 rw [hb4] at hPC k40 k41 f40 f41 Hh
 have HPC:=Lh hPC
 have hde:decide (1≤(n:Int)∧(n:Int)≤512)=false:=qF (by omega)
 have HMay:=Lh (by have h:=chunksMay (n:Int) wC;rw [hde] at h;exact h:Calls Tryz.prog 36 #[.int .i64 (n:Int)] wC fun e w'=>e=.returned (.bool false)∧w'=wC)
 clear hBA hBB hBC hPB hPC hB hde hn hb3 hb4
 go_enter Tryz.func14,Tryz.ntmps14
 go_wp2_with fail
 clear hwA hwB hwC hsA hsB
 rw [Hb3.out] at k3 ⊢
 have hb34:b3+1=b4:=by have:=Hb3.out;have:=Hb4.out;omega
 rw [hb34]
 clear hb34
 refine HMay.out.mono ?_
 rintro e w1 ⟨rfl,rfl⟩
 go_wp2
 have hbk:=Blk.set (Blk.set HPC.out 0 (.int .i64 0)) 1 (.int .i64 0)
 refine bodyPost_ret (results_row_tmp2 rfl _ _ b4 24 _ (0,0) _ rfl hbk Tryz.underlying24 rfl (by kernel_rfl)) rfl ?_
 exact ⟨rfl,(HB.out.setCell Hh.out _).setCell Hh.out _⟩
theorem sysSave (x:Sys) (A:OA) (n cc:Nat) (l:List UInt8) (w:World) (h:x.Mem w) (hsm:x.Small 400000000) (hl:l.length=n) (hr:Bs w A l) (hA:0<n→∀ q,bk A=some q→q<w.heap.size∧¬x.fp q) (hc:n≤cc) (hc2:cc≤9223372036854775807):
 Calls Tryz.prog 14 #[.pointer (some ⟨x.s.g,0,none⟩),.slice A n cc] w (savePost x l w):=by
 by_cases hn:1≤n∧n≤512
 ·exact chunksSave x A n cc l w h hsm hl hr (hA (by omega)) (by omega) hc hc2
 ·refine (saveBad x.s.g A n cc w hn).mono fun e w' hp=>?_
  obtain ⟨rfl,hb⟩:=hp
  exact ⟨x,_,rfl,SaveR.bad (by rw [hl];exact hn) rfl,Sys.Step.refl h hb⟩
theorem Own.cell_at {w:World} {base:Nat} {e:TypeId} {A:OA} {n c k:Nat} {xs:List Value} {v:Value} (h:Own w base e A n c xs) (hx:xs[k]? = some v):∃ g,A=some ⟨g,0,none⟩∧base≤g∧g<w.heap.size∧w.cell? ⟨g,k,none⟩=some v:=by
 have hk:k<n:=by rw [←h.length];exact (Ze hx).1
 obtain ⟨g,u,h1,h2,h3,h4,h5,-⟩:=Own.at_ h hk
 rw [hx] at h4
 cases h4
 exact ⟨g,h1,h2,h3,h5⟩
def BytArg (W:World) (A:OA) (n:Nat) (L:Nat→List UInt8):Prop:=
 ∀ i,i<n→∃ b o A' m cc,A=some ⟨b,o,none⟩∧W.cell? ⟨b,o+i,none⟩=some (.slice A' m cc)∧(L i).length=m∧Bs W A' (L i)∧m≤cc∧cc≤9223372036854775807∧(A'=none→m=0∧cc=0)∧(0<m→∀ q,bk A'=some q→q<W.heap.size)
open Go.ChangeShapes Go.ChangeAt
open Go.ChangeMaps (setBlock shut_map_nil open_string shut_string keptBut_setBlock frozen?_setBlock heap_setBlock_same)
theorem own:ownKnob Tryz.prog.godebug=none:=by kernel_rfl
noncomputable def laidWorld (os:Os):World:=World.holding Tryz.prog os ⟨#[],#[],[]⟩
theorem post_kept2 {H:Type} {enc:TypeId × Value→H} {f:Func} {s:ChangeSpec} {W W':World} {args:Array Value} {v:Value} {ds:List (DataW H)} {before:List MemPlace}
 (hW:DataW.Whole enc Tryz.prog f.params.toList s.vars false W args.toList ds [] before) (hv:s.vars=[])
 (hres:∀ (b:Nat) (sp:Nat→Bool) (hd:Bool),DataW.TrodAll enc Tryz.prog W' b sp hd f.resultTypes.toList (v.resultList f.resultTypes.size) (s.fn H (ds++[])).results [])
 (hargs:DataW.TrodAll enc Tryz.prog W' 0 (fun b=>decide (b<W.heap.size)) true f.params.toList args.toList (s.fn H (ds++[])).args before)
 (hvars:(s.fn H (ds++[])).vars=[]) (hb:Below W.heap.size W W'):
 s.post enc Tryz.prog f false true false false W args v W':=by
 refine ⟨ds,[],before,[],before,[],hW,hres _ _ _,hargs,?_,hb.frame _ |> World.keptBut_mono (fun p hp=>⟨hp,.inr (.inl hp)⟩),fun h=>by cases h⟩
 rw [hv,hvars]
 exact rfl
theorem cells_u8:Tryz.prog.cellsOf 5=1:=by kernel_rfl
theorem laidOut:laidOutB Tryz.prog=true:=by kernel_rfl
theorem cells_bytes:Tryz.prog.cellsOf 37=1:=by kernel_rfl
theorem cells_int:Tryz.prog.cellsOf 3=1:=by kernel_rfl
theorem readable_bytess:Tryz.prog.readableRec 48=true:=by kernel_rfl
theorem row_bytess:(48:Nat)<Tryz.prog.types.size:=of_decide_eq_true (by kernel_rfl)
theorem readable_ints:Tryz.prog.readableRec 43=true:=by kernel_rfl
theorem row_ints:(43:Nat)<Tryz.prog.types.size:=of_decide_eq_true (by kernel_rfl)
theorem cell_bytes {H:Type} {enc:TypeId × Value→H} {W:World} {base:Nat} {spare:Nat→Bool} {held:Bool} {f:Nat} {v:Value} {x:DataW H × List MemPlace} (hs:∀ b,spare b=true) (hf:DataW.trod enc Tryz.prog W base spare held f 37 [v]=some x):
 ∃ A n c l,v=.slice A n c∧l.length=n∧Bs W A l∧n≤c∧c≤9223372036854775807∧(A=none→n=0∧c=0)∧(0<n→∀ b,bk A=some b→b<W.heap.size):=by
 rcases open_ints Tryz.underlying37 Tryz.underlying5 cells_u8 hf with ⟨hcs,hx⟩|⟨a,len,cap,zs,hcs,_,hl,hmx,hz,hx,hcell,hwf⟩
 ·simp only [List.cons.injEq,and_true] at hcs
  subst hcs
  exact ⟨none,0,0,[],rfl,rfl,Rd.nil _ _,by omega,by omega,fun _=>⟨rfl,rfl⟩,fun h=>by omega⟩
 ·simp only [List.cons.injEq,and_true] at hcs
  subst hcs
  rw [hs,if_pos rfl] at hz
  unfold maxLen at hmx
  refine ⟨some a,len,cap,(zs.take len).map (fun z=>UInt8.ofNat z.toNat),rfl,by rw [List.length_map,List.length_take];omega,?_,hl,by omega,fun h=>(by cases h),fun h0 b hb=>?_⟩
  ·intro h0
   rw [List.length_map,List.length_map,List.length_take] at h0
   obtain ⟨b,off,spot⟩:=a
   have hspot:spot=none:=by simpa [Addr.add] using World.cell?_spot (hcell 0 (by omega))
   subst hspot
   refine ⟨b,off,rfl,fun j hj=>?_⟩
   rw [List.length_map,List.length_map,List.length_take] at hj
   have hc:=hcell j (by omega)
   have e:(⟨b,off,none⟩:Addr).add j=⟨b,off+j,none⟩:=by unfold Addr.add;split<;>simp_all
   rw [e] at hc
   have hjz:j<zs.length:=by omega
   have hw:=hwf _ (List.getElem_mem hjz)
   simp only [Lit.wf,Bool.and_eq_true,decide_eq_true_eq] at hw
   have h1:(0:Int)≤zs[j]:=hw.1
   have h2:zs[j]≤255:=hw.2
   rw [hc]
   simp only [List.getElem?_map,List.getElem?_take,List.getD,Zg hjz,Option.getD_some]
   rw [if_pos (by omega)]
   simp only [Option.map_some,u8v,UInt8.toNat_ofNat']
   congr 2
   omega
  ·cases hb
   have hc:=hcell 0 (by omega)
   have:=World.block_lt_of_cell? W _ hc
   unfold Addr.add at this
   simpa using this
theorem load_same {vw vw':Nat→Option Bk} {b:Nat} {len:Int} {bs:List Nat} {o:List UInt8} (h:readL vw b len=some (bs,o)) (hs:∀ x∈bs,vw' x=vw x):readL vw' b len=some (bs,o)∧loadL vw' b len=loadL vw b len:=by
 have h2:=readL_same h hs
 refine ⟨h2,?_⟩
 unfold loadL
 rw [h,h2]
structure Has (x:Sys) (p:Ck) (l:List UInt8):Prop where
 ok:1≤l.length∧l.length≤512
 kl:p∈x.s.kl (shaL l)
 ld:loadL (x.c.view x.d) p.1 p.2=some l
structure Kept (x:Sys):Prop where
 ld:∀ dg,∀ p∈x.s.kl dg,∃ bs pk,readL (x.c.view x.d) p.1 p.2=some (bs,pk)∧∀ b∈bs,x.m.st b=some 1
 one:∀ dg,∀ p∈x.s.kl dg,∀ q∈x.s.kl dg,loadL (x.c.view x.d) p.1 p.2=loadL (x.c.view x.d) q.1 q.2→p=q
 wh:∀ b,(x.s.wh b).isSome=true→x.m.st b=some 1
 kw:∀ dg,∀ p∈x.s.kl dg,(x.s.wh p.1).isSome=true
theorem Beg.kept {x:Sys} {n:Nat} (h:Beg x n):Kept x:=
 ⟨fun dg p hp=>by rw [h.kl] at hp;simp at hp,fun dg p hp=>by rw [h.kl] at hp;simp at hp,fun b hb=>by rw [h.wh] at hb;simp at hb,fun dg p hp=>by rw [h.kl] at hp;simp at hp⟩
def Stays (x y:Sys):Prop:=∀ dg,∀ p∈x.s.kl dg,p∈y.s.kl dg∧loadL (y.c.view y.d) p.1 p.2=loadL (x.c.view x.d) p.1 p.2
theorem Stays.refl (x:Sys):Stays x x:=fun _ _ hp=>⟨hp,rfl⟩
theorem Has.stays {x y:Sys} {p:Ck} {l:List UInt8} (h:Has x p l) (k:Stays x y):Has y p l:=⟨h.ok,(k _ p h.kl).1,(k _ p h.kl).2.trans h.ld⟩
theorem Kept.same {x y:Sys} (h:Kept x) (hv:∀ n,y.c.view y.d n=x.c.view x.d n) (hk:y.s.kl=x.s.kl) (hw:y.s.wh=x.s.wh) (hm:∀ b,y.m.st b=x.m.st b):Kept y∧Stays x y:=by
 have hv':y.c.view y.d=x.c.view x.d:=funext hv
 refine ⟨⟨?_,?_,?_,?_⟩,?_⟩
 ·rw [hv',hk]
  intro dg p hp
  obtain ⟨bs,pk,h1,h2⟩:=h.ld dg p hp
  exact ⟨bs,pk,h1,fun b hb=>(hm b).trans (h2 b hb)⟩
 ·rw [hv',hk]
  exact h.one
 ·rw [hw]
  exact fun b hb=>(hm b).trans (h.wh b hb)
 ·rw [hk,hw]
  exact h.kw
 ·unfold Stays
  rw [hv',hk]
  exact fun _ _ hp=>⟨hp,rfl⟩
theorem Kept.uniq {x:Sys} (h:Kept x) {p q:Ck} {l m:List UInt8} (hp:Has x p l) (hq:Has x q m):p=q↔l=m:=by
 constructor
 ·intro e
  have h1:=hp.ld
  rw [e,hq.ld] at h1
  cases h1
  rfl
 ·intro e
  subst e
  exact h.one _ p hp.kl q hq.kl (hp.ld.trans hq.ld.symm)
inductive SaveQ (x:Sys) (l:List UInt8) (y:Sys):Ck→Bool→Int→Prop
 | bad (h:¬(1≤l.length∧l.length≤512)) (hw:y.s.wh=x.s.wh):SaveQ x l y (0,0) false 1
 | space (h:x.m.a.free<3) (h2:1≤l.length∧l.length≤512) (hw:y.s.wh=x.s.wh):SaveQ x l y (0,0) false 10
 | good (p:Ck) (was:Bool) (h:Has y p l) (hw:∀ b,(y.s.wh b).isSome=true↔(x.s.wh b).isSome=true∨b=p.1):SaveQ x l y p was 0
theorem SaveQ.cases {x y:Sys} {l:List UInt8} {p:Ck} {was:Bool} {E:Int} (h:SaveQ x l y p was E):
 (¬(1≤l.length∧l.length≤512)∧was=false∧E=1∧y.s.wh=x.s.wh)∨(x.m.a.free<3∧(1≤l.length∧l.length≤512)∧was=false∧E=10∧y.s.wh=x.s.wh)∨(E=0∧(1≤l.length∧l.length≤512)∧Has y p l∧∀ b,(y.s.wh b).isSome=true↔(x.s.wh b).isSome=true∨b=p.1):=by
 cases h with
 | bad h hw=>exact .inl ⟨h,rfl,rfl,hw⟩
 | space h h2 hw=>exact .inr (.inl ⟨h,h2,rfl,rfl,hw⟩)
 | good p was h hw=>exact .inr (.inr ⟨rfl,h.ok,h,hw⟩)
theorem SaveR.law {x y:Sys} {l:List UInt8} {v:Value} {w:World} (h:SaveR x l y v) (hm:x.Mem w) (hk:Kept x):
 Kept y∧Stays x y∧x.m.a.free≤y.m.a.free+3∧∃ p was E,v=.tuple #[ckv p,.bool was,.int .i64 E]∧SaveQ x l y p was E:=by
 cases h with
 | bad h e=>
   rw [e]
   exact ⟨hk,Stays.refl x,by omega,(0,0),false,1,rfl,.bad h rfl⟩
 | found h p hp hl hv hmm nD hn hs=>
   obtain ⟨h1,h2⟩:=hk.same (y:=y) hv (by rw [hs]) (by rw [hs]) (fun b=>by rw [hmm])
   exact ⟨h1,h2,by rw [hmm];omega,p,true,0,rfl,.good p true ⟨h,(h2 _ p hp).1,(h2 _ p hp).2.trans hl⟩ (fun b=>by rw [hs];exact ⟨.inl,fun h=>h.elim id (fun e=>by rw [e];exact hk.kw _ p hp)⟩)⟩
 | space h hno B hB hf hv hmm hs=>
   obtain ⟨h1,h2⟩:=hk.same (y:=y) hv (by rw [hs]) (by rw [hs]) (fun b=>by rw [hmm])
   have h3:=pk_len h hB
   have h4:=moreN_le (m:=(B++sumOf l).length) (by omega)
   exact ⟨h1,h2,by rw [hmm];omega,(0,0),false,10,rfl,.space (by omega) h (by rw [hs])⟩
 | fresh h hno B hB b0 r hkk hd h0 h1 hf hq hv fr fd sz kn=>
   have hlow:∀ b∈b0::r,b≤65535:=fun b hb'=>(st_low hm.am (h0 b hb')).2.2
   have hL:=fresh_load h hB hkk hd (fun b hb'=>hlow b (List.mem_cons_of_mem _ hb')) hv
   have h3:=pk_len h hB
   have h4:=moreN_le (m:=(B++sumOf l).length) (by omega)
   have hold:∀ dg,∀ p∈x.s.kl dg,loadL (y.c.view y.d) p.1 p.2=loadL (x.c.view x.d) p.1 p.2∧∃ bs pk,readL (y.c.view y.d) p.1 p.2=some (bs,pk)∧∀ b∈bs,y.m.st b=some 1:=fun dg p hp=>by
    obtain ⟨bs,pk,g1,g2⟩:=hk.ld dg p hp
    have g3:∀ b∈bs,b ∉ b0::r:=fun b hb hb2=>by
     have:=h0 b hb2
     rw [g2 b hb] at this
     cases this
    obtain ⟨g4,g5⟩:=load_same (vw':=y.c.view y.d) g1 (fun b hb=>by rw [hv,writeV_other (g3 b hb)])
    exact ⟨g5,bs,pk,g4,fun b hb=>by rw [h1,if_neg (g3 b hb)];exact g2 b hb⟩
   rcases kn with ⟨g,-,-⟩|⟨-,ek,ew⟩
   ·have:=hk.wh b0 g
    rw [h0 b0 (by simp)] at this
    cases this
   have hnew:Has y (b0,l.length) l:=⟨h,by rw [ek,if_pos rfl];simp,hL.2⟩
   have hcase:∀ dg p,p∈y.s.kl dg→p∈x.s.kl dg∨(dg=shaL l∧p=(b0,l.length)):=fun dg p hp=>by
    rw [ek] at hp
    split at hp
    ·next e=>
     rcases List.mem_append.1 hp with hp|hp
     ·exact .inl (by rw [e];exact hp)
     ·exact .inr ⟨e,by simpa using hp⟩
    ·exact .inl hp
   have hwh:∀ b,(y.s.wh b).isSome=true↔(x.s.wh b).isSome=true∨b=b0:=fun b=>by
    rw [ew]
    by_cases e:b=b0
    ·simp [e]
    ·simp [e]
   refine ⟨⟨?_,?_,?_,?_⟩,?_,by rw [List.length_cons] at hf;omega,(b0,l.length),false,0,rfl,.good _ false hnew hwh⟩
   ·intro dg p hp
    rcases hcase dg p hp with hp|⟨-,rfl⟩
    ·exact (hold dg p hp).2
    ·exact ⟨_,_,hL.1,fun b hb=>by rw [h1,if_pos hb]⟩
   ·intro dg p hp q hq he
    rcases hcase dg p hp with hp|⟨e1,rfl⟩
    ·rcases hcase dg q hq with hq|⟨e2,rfl⟩
     ·rw [(hold dg p hp).1,(hold dg q hq).1] at he
      exact hk.one dg p hp q hq he
     ·rw [(hold dg p hp).1] at he
      exact absurd (he.trans hnew.ld) (hno p (by rw [←e2];exact hp))
    ·rcases hcase dg q hq with hq|⟨e2,rfl⟩
     ·rw [(hold dg q hq).1] at he
      exact absurd (he.symm.trans hnew.ld) (hno q (by rw [←e1];exact hq))
     ·rfl
   ·intro b hb
    rw [ew] at hb
    rw [h1]
    split
    ·rfl
    ·next hn=>
     rw [if_neg (fun e=>hn (by simp [e]))] at hb
     exact hk.wh b hb
   ·intro dg p hp
    rcases hcase dg p hp with hp|⟨-,rfl⟩
    ·exact (hwh p.1).2 (.inl (hk.kw dg p hp))
    ·exact (hwh b0).2 (.inr rfl)
   ·intro dg p hp
    refine ⟨?_,(hold dg p hp).1⟩
    rw [ek]
    split
    ·next e=>rw [←e];exact List.mem_append_left _ hp
    ·exact hp
theorem SaveR.again {y z:Sys} {l:List UInt8} {v:Value} {p:Ck} (h:SaveR y l z v) (hk:Kept y) (hp:Has y p l):
 v=.tuple #[ckv p,.bool true,.int .i64 0]∧Kept z∧Stays y z∧z.m=y.m∧z.s.wh=y.s.wh:=by
 obtain ⟨q,rfl,h1,h2,h3,h4,h5,h6⟩:=save_again h hp.ok hp.kl hp.ld
 have e:=hk.one _ p hp.kl q h1 (hp.ld.trans h2.symm)
 subst e
 obtain ⟨g1,g2⟩:=hk.same (y:=z) h3 h5 h4 (fun b=>by rw [h6])
 exact ⟨rfl,g1,g2,h6,h4⟩
theorem sysFlush (x:Sys) (w:World) (h:x.Mem w) (hv:∀ n,(x.d.vl n).length≤1000000):
 Calls Tryz.prog 17 #[.pointer (some ⟨x.c.g,0,none⟩)] w fun e w'=>e=.returned (.int .i64 0)∧∃ c2 d2,({ x with c:=c2,d:=d2 }:Sys).Mem w'∧c2.g=x.c.g∧d2.g=x.d.g∧d2.N=x.d.N ∧
  (∀ n,c2.view d2 n=x.c.view x.d n)∧(∀ n,c2.dty n=none)∧Chg (x.c.fp x.d) w w'∧∀ b,({ x with c:=c2,d:=d2 }:Sys).fp b→x.fp b∨w.heap.size≤b:=by
 have hN:=h.cm.dsk.hN
 refine (cacheFlush x.c x.d w h.cm h.ci hv (by omega)).mono fun e w' hp=>?_
 obtain ⟨rfl,c2,d2,h1,h2,h3,h4,h5,h6,h7,h8,h9,h10,h11⟩:=hp
 refine ⟨rfl,c2,d2,⟨h1,h2,h.am.chg h10 (fun b hb hf=>h.ap2 b hf hb),h.ai,?_,?_,?_,h.ap3,h.lo,?_,h.kb⟩,h3,h5,h6,h7,h8,h10,?_⟩
 ·show x.s.Mem c2.g x.m.a.g w'
  rw [h3]
  exact h.sm.chg h10 (fun b hb hf=>h.ap1 b hf hb)
 ·exact fun b hb hs=>(h11 b hb).elim (fun h1=>h.ap1 b h1 hs) (fun h1=>by have:=h.sm.in_ b hs;omega)
 ·exact fun b hb hs=>(h11 b hb).elim (fun h1=>h.ap2 b h1 hs) (fun h1=>by have:=h.am.in_ b hs;omega)
 ·show x.m.a.least+x.m.a.len≤d2.N
  rw [h6]
  exact h.hi
 ·rintro b (hb|hb|hb)
  ·exact (h11 b hb).imp (fun h=>.inl h) id
  ·exact .inl (.inr (.inl hb))
  ·exact .inl (.inr (.inr hb))
theorem sysFree (x:Sys) (w:World) (h:x.Mem w):
 Calls Tryz.prog 16 #[.pointer (some ⟨x.m.a.g,0,none⟩)] w fun e w'=>e=.returned (.int .i64 (x.m.a.free:Int))∧Below w.heap.size w w':=
 (allocFree x.m w h.am h.ai).mono fun e w' hp=>by
   obtain ⟨rfl,q,rfl⟩:=hp
   exact ⟨rfl,below_drewN w q⟩
structure Sv where
 p:Ck
 s:Sl
 l:List UInt8
theorem elemBs:Elem Tryz.prog 48 37 (.slice none 0 0) 24:=⟨Tryz.underlying48,by kernel_rfl,rfl,rfl⟩
def SlIn (w:World) (s:Sl) (l:List UInt8):Prop:=l.length=s.n∧Bs w s.p l∧s.n≤s.c∧s.c≤9223372036854775807∧(0<s.n→∀ q,bk s.p=some q→q<w.heap.size)
theorem BytArg.at_ {W:World} {A:OA} {n:Nat} {L:Nat→List UInt8} (h:BytArg W A n L) {i:Nat} (hi:i<n):∃ b o s,A=some ⟨b,o,none⟩∧W.cell? ⟨b,o+i,none⟩=some s.v∧SlIn W s (L i):=by
 obtain ⟨b,o,A',m,cc,h1,h2,h3,h4,h5,h6,h7,h8⟩:=h i hi
 exact ⟨b,o,⟨A',m,cc⟩,h1,h2,h3,h4,h5,h6,h8⟩
theorem SlIn.later {w w':World} {s:Sl} {l:List UInt8} (h:SlIn w s l) (hb:Below w.heap.size w w'):SlIn w' s l:=⟨h.1,h.2.1.later hb,h.2.2.1,h.2.2.2.1,fun h0 q hq=>lT (h.2.2.2.2 h0 q hq) hb.size⟩
def IntArg (W:World) (A:OA) (n:Nat):Prop:=∀ i,i<n→∃ b o k,A=some ⟨b,o,none⟩∧W.cell? ⟨b,o+i,none⟩=some (.int .i64 k)∧-9223372036854775808≤k∧k≤9223372036854775807
def FdLow (x:Sys):Prop:=∀ b,(x.s.fd b).isSome=true→b≤65535
theorem FdLow.size {x:Sys} {w:World} (h:FdLow x) (hm:x.Mem w):x.s.nD≤65536:=by
 obtain ⟨D,-,-,h1,h2,h3⟩:=IntT.keys hm.sm.mD
 have h4:=nodup_len (m:=(List.range 65536).map Int.ofNat) h1 (fun x hx=>by
  obtain ⟨g1,g2,g3⟩:=(h3 x).1 hx
  have:=h _ g3
  exact List.mem_map.2 ⟨x.toNat,List.mem_range.2 (by omega),by show ((x.toNat:Nat):Int)=x;omega⟩)
 rw [List.length_map,List.length_range] at h4
 omega
theorem SaveR.low {x y:Sys} {l:List UInt8} {v:Value} {w:World} (h:SaveR x l y v) (hm:x.Mem w) (hf:FdLow x):FdLow y:=by
 cases h with
 | bad _ e=>rw [e];exact hf
 | found _ p hp _ _ _ nD hn hs=>
   intro b hb
   rw [hs] at hb
   have hb:(if b=p.1 then some p else x.s.fd b).isSome=true:=hb
   split at hb
   ·next e=>rw [e];exact (hm.kb _ p hp).1
   ·exact hf b hb
 | space _ _ _ _ _ _ _ hs=>intro b hb;rw [hs] at hb;exact hf b hb
 | fresh _ _ _ _ _ _ _ _ _ _ _ _ _ _ fd=>intro b hb;rw [fd] at hb;exact hf b hb
structure SvS (x:Sys) (gb gr gq:Nat) (y:Sys) (B:Nat) (PL:List Sv) (aA:OA) (ca:Nat) (hA:OA) (ch n:Nat) (w w1 W:World):Prop where
 st:x.Step y w1 W
 sm:y.Small B
 kp:Kept y
 low:FdLow y
 both:Blk W gb 35 (bothV x gr gq)
 apb:¬y.fp gb
 rowA:ChT.Own W w1.heap.size aA n ca (PL.map Sv.p)
 rowH:Own W w1.heap.size 37 hA n ch (PL.map (fun v=>v.s.v))
 apA:∀ q,bk aA=some q→¬y.fp q∧q≠gb
 apH:∀ q,bk hA=some q→¬y.fp q∧q≠gb
 ne:∀ q,bk aA=some q→bk hA≠some q
 has:∀ v∈PL,Has y v.p v.l∧SlIn w v.s v.l
theorem SvS.start {x:Sys} {gb gr gq n:Nat} {w w1:World} (hm:x.Mem w1) (hb:Beg x n) (hn:n≤1000) (hB:Blk w1 gb 35 (bothV x gr gq)) (hg:¬x.fp gb):SvS x gb gr gq x 0 [] none 0 none 0 0 w w1 w1:=
 ⟨Sys.Step.refl hm (Below.refl _ _),hb.small hn,hb.kept,fun b h=>(by rw [hb.fd] at h;simp at h),hB,hg,RowT.Own.nil _ _ _,Own.nil _ _ _,fun _ h=>(by cases h),fun _ h=>(by cases h),fun _ h=>(by cases h),fun _ h=>(by simp at h)⟩
theorem SvS.len {x y:Sys} {gb gr gq B ca ch n:Nat} {PL:List Sv} {aA hA:OA} {w w1 W:World} (h:SvS x gb gr gq y B PL aA ca hA ch n w w1 W):PL.length=n:=by simpa using h.rowA.length
theorem SvS.step {x y z:Sys} {gb gr gq B B' ca ch n:Nat} {PL:List Sv} {aA hA:OA} {w w1 W W':World} (h:SvS x gb gr gq y B PL aA ca hA ch n w w1 W) (hs:y.Step z W W') (hk:Kept z) (hst:Stays y z) (hsm:z.Small B') (hlo:FdLow z):
 SvS x gb gr gq z B' PL aA ca hA ch n w w1 W':={
 st:=h.st.trans hs
 sm:=hsm
 kp:=hk
 low:=hlo
 both:=Blk.chg h.both hs.chg h.apb
 apb:=hs.nf h.both.lt h.apb
 rowA:=h.rowA.chg hs.chg (fun q hq=>(h.apA q hq).1)
 rowH:=Own.chg h.rowH hs.chg (fun q hq=>(h.apH q hq).1)
 apA q hq:=⟨hs.nf (h.rowA.lt hq).2 (h.apA q hq).1,(h.apA q hq).2⟩
 apH q hq:=⟨hs.nf (Own.lt h.rowH hq).2 (h.apH q hq).1,(h.apH q hq).2⟩
 ne:=h.ne
 has v hv:=⟨(h.has v hv).1.stays hst,(h.has v hv).2⟩ }
theorem SvS.mono {x y:Sys} {gb gr gq B B' ca ch n:Nat} {PL:List Sv} {aA hA:OA} {w w1 W:World} (h:SvS x gb gr gq y B PL aA ca hA ch n w w1 W) (hB:B≤B'):SvS x gb gr gq y B' PL aA ca hA ch n w w1 W:={ h with sm:=h.sm.mono hB }
theorem SvS.chg {x y:Sys} {gb gr gq B ca ch n:Nat} {PL:List Sv} {aA hA:OA} {F:Fp} {w w1 W W':World} (h:SvS x gb gr gq y B PL aA ca hA ch n w w1 W) (hc:Chg F W W')
 (hF:∀ b,F b→¬y.fp b∧w1.heap.size≤b∧b≠gb∧bk aA≠some b∧bk hA≠some b):SvS x gb gr gq y B PL aA ca hA ch n w w1 W':={
 st:=h.st.out hc (fun b hb=>⟨(hF b hb).1,(hF b hb).2.1⟩)
 sm:=h.sm
 kp:=h.kp
 low:=h.low
 both:=Blk.chg h.both hc (fun hf=>(hF _ hf).2.2.1 rfl)
 apb:=h.apb
 rowA:=h.rowA.chg hc (fun q hq hf=>(hF q hf).2.2.2.1 hq)
 rowH:=Own.chg h.rowH hc (fun q hq hf=>(hF q hf).2.2.2.2 hq)
 apA:=h.apA
 apH:=h.apH
 ne:=h.ne
 has:=h.has }
theorem SvS.later {x y:Sys} {gb gr gq B ca ch n:Nat} {PL:List Sv} {aA hA:OA} {w w1 W W':World} (h:SvS x gb gr gq y B PL aA ca hA ch n w w1 W) (hb:Below W.heap.size W W'):SvS x gb gr gq y B PL aA ca hA ch n w w1 W':=
 h.chg (F:=Fp.none) (Chg.of_below hb) (fun _ h=>h.elim)
theorem SvS.app {x y:Sys} {gb gr gq B ca ch n c1 c2:Nat} {PL:List Sv} {aA hA A1 A2:OA} {w w1 W Wa W1 W2:World} {v:Sv} (h:SvS x gb gr gq y B PL aA ca hA ch n w w1 W) (hba:Below W.heap.size W Wa)
 (hA1:ChT.Own W1 w1.heap.size A1 (n+1) c1 (PL.map Sv.p++[v.p])) (hg1:Wa.grownBy W1 (bk aA)) (hn1:NewTo Wa aA A1)
 (hA2:Own W2 w1.heap.size 37 A2 (n+1) c2 (PL.map (fun v=>v.s.v)++[v.s.v])) (hg2:W1.grownBy W2 (bk hA)) (hn2:bk A2=bk hA∨W1.heap.size≤(bk A2).getD 0) (hv:Has y v.p v.l) (hs:SlIn w v.s v.l):
 SvS x gb gr gq y B (PL++[v]) A1 c1 A2 c2 (n+1) w w1 W2:=by
 have ha:=h.later hba
 have c1':Chg (fun b=>bk aA=some b) Wa W1:=Chg.of_grown hg1 (fun b hb _=>hb)
 have c2':Chg (fun b=>bk hA=some b) W1 W2:=Chg.of_grown hg2 (fun b hb _=>hb)
 have hlA:∀ q,bk aA=some q→q<Wa.heap.size:=fun q hq=>(ha.rowA.lt hq).2
 have hlH:∀ q,bk hA=some q→q<Wa.heap.size:=fun q hq=>(Own.lt ha.rowH hq).2
 have hA1':∀ q,bk A1=some q→bk aA=some q∨Wa.heap.size≤q:=fun q hq=>by
  rcases hn1 with e|⟨k,e,hk⟩
  ·exact .inl (e ▸ hq)
  ·rw [e] at hq;cases hq;exact .inr hk
 have hA2':∀ q,bk A2=some q→bk hA=some q∨W1.heap.size≤q:=fun q hq=>by
  rcases hn2 with e|hk
  ·exact .inl (e ▸ hq)
  ·rw [hq] at hk;exact .inr hk
 have hin:∀ q,y.fp q→q<Wa.heap.size:=fun q hq=>ha.st.mem.in_ q hq
 have hgb:gb<Wa.heap.size:=ha.both.lt
 have hs1:=c1'.size
 have hall:Chg (fun b=>bk aA=some b∨bk hA=some b) Wa W2:=(c1'.mono (fun _ _ h=>.inl h)).trans c2' (fun _ _ h=>.inr h)
 refine ⟨ha.st.out hall ?_,h.sm,h.kp,h.low,Blk.chg ha.both hall ?_,h.apb,?_,?_,?_,?_,?_,?_⟩
 ·rintro b (hb|hb)
  ·exact ⟨(h.apA b hb).1,(ha.rowA.lt hb).1⟩
  ·exact ⟨(h.apH b hb).1,(Own.lt ha.rowH hb).1⟩
 ·rintro (hb|hb)
  ·exact (h.apA _ hb).2 rfl
  ·exact (h.apH _ hb).2 rfl
 ·rw [List.map_append]
  refine RowT.Own.chg hA1 c2' (fun q hq hq2=>?_)
  rcases hA1' q hq with h1|h1
  ·exact h.ne q h1 hq2
  ·have:=hlH q hq2;omega
 ·rw [List.map_append]
  exact hA2
 ·intro q hq
  rcases hA1' q hq with h1|h1
  ·exact h.apA q h1
  ·exact ⟨fun hf=>by have:=hin q hf;omega,by omega⟩
 ·intro q hq
  rcases hA2' q hq with h1|h1
  ·exact h.apH q h1
  ·exact ⟨fun hf=>by have:=hin q hf;omega,by omega⟩
 ·intro q hq hq2
  rcases hA1' q hq with h1|h1
  ·rcases hA2' q hq2 with h2|h2
   ·exact h.ne q h1 h2
   ·have:=hlA q h1;omega
  ·rcases hA2' q hq2 with h2|h2
   ·have:=hlH q h2;omega
   ·have:=(RowT.Own.lt hA1 hq).2
    omega
 ·intro u hu
  rcases List.mem_append.1 hu with hu|hu
  ·exact h.has u hu
  ·rw [List.mem_singleton] at hu
   rw [hu]
   exact ⟨hv,hs⟩
theorem SvS.chunk {x y:Sys} {gb gr gq B ca ch n i:Nat} {PL:List Sv} {aA hA:OA} {w w1 W:World} {v:Sv} (h:SvS x gb gr gq y B PL aA ca hA ch n w w1 W) (hv:PL[i]? = some v):
 ∃ g,aA=some ⟨g,0,none⟩∧g<W.heap.size∧¬y.fp g∧W.cell? ⟨g,i*2,none⟩=some (.int .i64 (v.p.1:Int))∧W.cell? ⟨g,i*2+1,none⟩=some (.int .i64 (v.p.2:Int)):=by
 obtain ⟨g,rfl,-,h1,h2,-⟩:=h.rowA.range (x:=v.p) (i:=i) (by rw [List.getElem?_map,hv];rfl)
 exact ⟨g,rfl,h1,(h.apA g rfl).1,h2 0 _ rfl,h2 1 _ rfl⟩
theorem SvS.slice {x y:Sys} {gb gr gq B ca ch n i:Nat} {PL:List Sv} {aA hA:OA} {w w1 W:World} {v:Sv} (h:SvS x gb gr gq y B PL aA ca hA ch n w w1 W) (hv:PL[i]? = some v):
 ∃ g,hA=some ⟨g,0,none⟩∧g<W.heap.size∧¬y.fp g∧W.cell? ⟨g,i,none⟩=some v.s.v:=by
 obtain ⟨g,rfl,-,h0,h1⟩:=Own.cell_at h.rowH (k:=i) (v:=v.s.v) (by rw [List.getElem?_map,hv];rfl)
 exact ⟨g,rfl,h0,(h.apH g rfl).1,h1⟩
structure FinS (x:Sys) (gb gr gq:Nat) (y:Sys) (PL:List Sv) (aA:OA) (ca:Nat) (hA:OA) (ch n:Nat) (w W:World):Prop where
 mem:y.Mem W
 sg:y.s.g=x.s.g
 bel:Below w.heap.size w W
 fpl:∀ q,y.fp q→w.heap.size≤q
 both:Blk W gb 35 (bothV x gr gq)
 apb:¬y.fp gb
 rowA:ChT.Own W w.heap.size aA n ca (PL.map Sv.p)
 rowH:Own W w.heap.size 37 hA n ch (PL.map (fun v=>v.s.v))
 apA:∀ q,bk aA=some q→¬y.fp q
 apH:∀ q,bk hA=some q→¬y.fp q
 ld:∀ v∈PL,loadL (y.c.view y.d) v.p.1 v.p.2=some v.l∧v.p.1≤65535∧v.p.2≤65535∧SlIn w v.s v.l
def Uniq (PL:List Sv):Prop:=∀ u∈PL,∀ v∈PL,u.p=v.p↔u.l=v.l
theorem SvS.uniq {x y:Sys} {gb gr gq B ca ch n:Nat} {PL:List Sv} {aA hA:OA} {w w1 W:World} (h:SvS x gb gr gq y B PL aA ca hA ch n w w1 W):Uniq PL:=
 fun u hu v hv=>h.kp.uniq (h.has u hu).1 (h.has v hv).1
theorem FinS.len {x y:Sys} {gb gr gq ca ch n:Nat} {PL:List Sv} {aA hA:OA} {w W:World} (h:FinS x gb gr gq y PL aA ca hA ch n w W):PL.length=n:=by simpa using h.rowA.length
theorem SvS.fin {x y z:Sys} {gb gr gq B ca ch n:Nat} {PL:List Sv} {aA hA:OA} {w w1 W W':World} (h:SvS x gb gr gq y B PL aA ca hA ch n w w1 W) (hw:Below w.heap.size w w1) (hx:∀ q,x.fp q→w.heap.size≤q) (hm:z.Mem W') (hs:z.s.g=y.s.g) (hc:Chg y.fp W W')
 (hf:∀ q,z.fp q→y.fp q∨W.heap.size≤q) (hl:∀ v∈PL,loadL (z.c.view z.d) v.p.1 v.p.2=some v.l):FinS x gb gr gq z PL aA ca hA ch n w W':=by
 have hfy:∀ q,y.fp q→w.heap.size≤q:=fun q hq=>(h.st.fp q hq).elim (hx q) (fun h1=>Nat.le_trans hw.size h1)
 have hbW:Below w.heap.size w W:=hw.trans (h.st.chg.below hx hw.size)
 have hnf:∀ q,q<W.heap.size→¬y.fp q→¬z.fp q:=fun q h1 h2 h3=>(hf q h3).elim h2 (fun h4=>by omega)
 exact {
  mem:=hm
  sg:=hs.trans h.st.same.s
  bel:=hbW.trans (hc.below hfy hbW.size)
  fpl:=fun q hq=>(hf q hq).elim (hfy q) (fun h1=>Nat.le_trans hbW.size h1)
  both:=Blk.chg h.both hc h.apb
  apb:=hnf _ h.both.lt h.apb
  rowA:=(h.rowA.chg hc (fun q hq=>(h.apA q hq).1)).mono hw.size
  rowH:=Own.mono (Own.chg h.rowH hc (fun q hq=>(h.apH q hq).1)) hw.size
  apA:=fun q hq=>hnf q (h.rowA.lt hq).2 (h.apA q hq).1
  apH:=fun q hq=>hnf q (Own.lt h.rowH hq).2 (h.apH q hq).1
  ld:=fun v hv=>⟨hl v hv,(h.st.mem.kb _ _ (h.has v hv).1.kl).1,(h.st.mem.kb _ _ (h.has v hv).1.kl).2,(h.has v hv).2⟩ }
theorem FinS.step {x y z:Sys} {gb gr gq ca ch n:Nat} {PL:List Sv} {aA hA:OA} {w W W':World} (h:FinS x gb gr gq y PL aA ca hA ch n w W) (hs:y.Step z W W') (hv:∀ k,z.c.view z.d k=y.c.view y.d k):FinS x gb gr gq z PL aA ca hA ch n w W':={
 mem:=hs.mem
 sg:=hs.same.s.trans h.sg
 bel:=h.bel.trans (hs.chg.below h.fpl h.bel.size)
 fpl q hq:=(hs.fp q hq).elim (h.fpl q) (fun h1=>Nat.le_trans h.bel.size h1)
 both:=Blk.chg h.both hs.chg h.apb
 apb:=hs.nf h.both.lt h.apb
 rowA:=h.rowA.chg hs.chg h.apA
 rowH:=Own.chg h.rowH hs.chg h.apH
 apA q hq:=hs.nf (h.rowA.lt hq).2 (h.apA q hq)
 apH q hq:=hs.nf (Own.lt h.rowH hq).2 (h.apH q hq)
 ld v hv2:=by rw [show z.c.view z.d=y.c.view y.d from funext hv];exact h.ld v hv2 }
theorem FinS.later {x y:Sys} {gb gr gq ca ch n:Nat} {PL:List Sv} {aA hA:OA} {w W W':World} (h:FinS x gb gr gq y PL aA ca hA ch n w W) (hb:Below W.heap.size W W'):FinS x gb gr gq y PL aA ca hA ch n w W':=
 h.step (Sys.Step.refl h.mem hb) (fun _=>rfl)
theorem FinS.chunk {x y:Sys} {gb gr gq ca ch n i:Nat} {PL:List Sv} {aA hA:OA} {w W:World} {v:Sv} (h:FinS x gb gr gq y PL aA ca hA ch n w W) (hv:PL[i]? = some v):
 ∃ g,aA=some ⟨g,0,none⟩∧g<W.heap.size∧¬y.fp g∧W.cell? ⟨g,i*2,none⟩=some (.int .i64 (v.p.1:Int))∧W.cell? ⟨g,i*2+1,none⟩=some (.int .i64 (v.p.2:Int)):=by
 obtain ⟨g,rfl,-,h1,h2,-⟩:=h.rowA.range (x:=v.p) (i:=i) (by rw [List.getElem?_map,hv];rfl)
 exact ⟨g,rfl,h1,h.apA g rfl,h2 0 _ rfl,h2 1 _ rfl⟩
theorem FinS.slice {x y:Sys} {gb gr gq ca ch n i:Nat} {PL:List Sv} {aA hA:OA} {w W:World} {v:Sv} (h:FinS x gb gr gq y PL aA ca hA ch n w W) (hv:PL[i]? = some v):
 ∃ g,hA=some ⟨g,0,none⟩∧g<W.heap.size∧¬y.fp g∧W.cell? ⟨g,i,none⟩=some v.s.v:=by
 obtain ⟨g,rfl,-,h0,h1⟩:=Own.cell_at h.rowH (k:=i) (v:=v.s.v) (by rw [List.getElem?_map,hv];rfl)
 exact ⟨g,rfl,h0,h.apH g rfl,h1⟩
theorem lawLoad {x y:Sys} {gb gr gq ca ch n:Nat} {PL:List Sv} {aA hA:OA} {w W W':World} {v:Sv} (h:FinS x gb gr gq y PL aA ca hA ch n w W) (hv:v∈PL) (hW:Below W.heap.size W W'):
 Calls Tryz.prog 11 #[.pointer (some ⟨x.s.g,0,none⟩),.agg #[.int .i64 (v.p.1:Int),.int .i64 (v.p.2:Int)]] W' fun e w'=>∃ (z:Sys) (LA:OA) (ln lc:Nat),e=.returned (.tuple #[.slice LA ln lc,.int .i64 0])∧y.Step z W w'∧(∀ k,z.c.view z.d k=y.c.view y.d k)∧v.l.length=ln∧Bs w' LA v.l∧v.l.length≤65535:=by
 obtain ⟨h1,h2,h3,-⟩:=h.ld v hv
 have h4:=(load_read h1).choose_spec.2
 have h5:=sysLoad y v.p.1 v.p.2 W' (h.mem.later hW) h2 (by omega) (by omega)
 rw [h1,h.sg] at h5
 refine h5.mono (fun e w' hp=>?_)
 obtain ⟨c',g1,g2,-,LA,ln,lc,rfl,g3,-⟩:=hp
 exact ⟨{ y with c:=c' },LA,ln,lc,rfl,g1.before hW,g2,g3.1,g3.2.1,by omega⟩
theorem lawSave {x y:Sys} {s:Sl} {l:List UInt8} {B:Nat} {w W W':World} (hst:x.Step y w W) (hsm:y.Small B) (hB:B≤400000) (hk:Kept y) (hlo:FdLow y) (hW:Below W.heap.size W W') (hs:SlIn W' s l) (hA:0<s.n→∀ q,bk s.p=some q→q<W.heap.size∧¬y.fp q):
 Calls Tryz.prog 14 #[.pointer (some ⟨x.s.g,0,none⟩),.slice s.p s.n s.c] W' fun e w'=>∃ (z:Sys) (p:Ck) (was:Bool) (E:Int),e=.returned (.tuple #[.agg #[.int .i64 (p.1:Int),.int .i64 (p.2:Int)],.bool was,.int .i64 E])∧y.Step z W' w'∧y.Step z W w'∧z.Small (B+3)∧Kept z∧Stays y z∧FdLow z∧y.m.a.free≤z.m.a.free+3∧SaveQ y l z p was E:=by
 have hM:=hst.mem.later hW
 have h:=sysSave y s.p s.n s.c l W' hM (hsm.mono (by omega)) hs.1 hs.2.1 (fun h0 q hq=>⟨lT (hA h0 q hq).1 hW.size,(hA h0 q hq).2⟩) hs.2.2.1 hs.2.2.2.1
 rw [hst.same.s] at h
 refine h.mono (fun e w' hp=>?_)
 obtain ⟨z,v,rfl,hsr,hz⟩:=hp
 obtain ⟨h1,h2,h3,p,was,E,rfl,h4⟩:=hsr.law hM hk
 exact ⟨z,p,was,E,rfl,hz,hz.before hW,hsr.small hsm,h1,h2,hsr.low hM hlo,h3,h4⟩
theorem SaveR.againSmall {y z:Sys} {l:List UInt8} {v:Value} {p:Ck} (h:SaveR y l z v) (hp:Has y p l) (hsm:y.Small 100000) (hnD:z.s.nD≤65536):z.Small 100000:=by
 cases h with
 | bad h=>exact absurd hp.ok h
 | found _ p hp _ _ hm nD hn hs=>
   refine ⟨?_,?_,?_,by omega,fun d=>?_,?_⟩
   ·rw [hs];exact hsm.nK
   ·rw [hs];exact hsm.nW
   ·rw [hs];exact hsm.nF
   ·rw [hs];exact hsm.kl d
   ·rw [hm];exact hsm.qs
 | space _ hno=>exact absurd hp.ld (hno p hp.kl)
 | fresh _ hno=>exact absurd hp.ld (hno p hp.kl)
theorem lawAgain {x y:Sys} {s:Sl} {l:List UInt8} {p:Ck} {w W W':World} (hst:x.Step y w W) (hsm:y.Small 100000) (hk:Kept y) (hlo:FdLow y) (hp:Has y p l) (hW:Below W.heap.size W W') (hs:SlIn W' s l) (hA:0<s.n→∀ q,bk s.p=some q→q<W.heap.size∧¬y.fp q):
 Calls Tryz.prog 14 #[.pointer (some ⟨x.s.g,0,none⟩),.slice s.p s.n s.c] W' fun e w'=>∃ (z:Sys),e=.returned (.tuple #[.agg #[.int .i64 (p.1:Int),.int .i64 (p.2:Int)],.bool true,.int .i64 0])∧y.Step z W' w'∧y.Step z W w'∧z.Small 100000∧Kept z∧Stays y z∧FdLow z∧z.m=y.m∧z.s.wh=y.s.wh:=by
 have hM:=hst.mem.later hW
 have h:=sysSave y s.p s.n s.c l W' hM (hsm.mono (by omega)) hs.1 hs.2.1 (fun h0 q hq=>⟨lT (hA h0 q hq).1 hW.size,(hA h0 q hq).2⟩) hs.2.2.1 hs.2.2.2.1
 rw [hst.same.s] at h
 refine h.mono (fun e w' hpp=>?_)
 obtain ⟨z,v,rfl,hsr,hz⟩:=hpp
 have hlz:=hsr.low hM hlo
 have hsz:=hsr.againSmall hp hsm (hlz.size hz.mem)
 obtain ⟨rfl,h1,h2,h3,h4⟩:=hsr.again hk hp
 exact ⟨z,rfl,hz,hz.before hW,hsz,h1,h2,hlz,h3,h4⟩
open Go.ChangeMaps (setBlock shut_map_nil open_string shut_string keptBut_setBlock frozen?_setBlock heap_setBlock_same)
theorem open_bytess {H:Type} {enc:TypeId × Value→H} {W:World} {base:Nat} {v:Value} {d:DataW H} {p:List MemPlace} (hval:Value.okWide Tryz.prog W .any base 48 v) (h:DataW.Trod enc Tryz.prog W 0 (fun _=>true) true 48 v d p):
 ∃ A n c L,v=.slice A n c∧BytArg W A n L∧n≤c∧c≤9223372036854775807:=by
 obtain ⟨a0,len,cap,rfl⟩:=okWide_slice Tryz.underlying48 hval
 obtain ⟨fuel,hf⟩:=h
 rcases Deep.open_slice1 Tryz.underlying48 cells_bytes hf with ⟨hcs,hx⟩|⟨a,len',cap',m,k,V,D,Pl,hcs,_,hl,hmx,hm,hx,hall⟩
 ·simp [Value.cells] at hcs
  obtain ⟨rfl,rfl,rfl⟩:=hcs
  exact ⟨none,0,0,fun _=>[],rfl,fun i hi=>by omega,by omega,by omega⟩
 ·simp [Value.cells] at hcs
  obtain ⟨rfl,rfl,rfl⟩:=hcs
  simp only [if_true] at hm
  unfold maxLen at hmx
  have each:∀ i,∃ l:List UInt8,i<len→∃ b o A' m cc,some a=some ⟨b,o,none⟩∧W.cell? ⟨b,o+i,none⟩=some (.slice A' m cc)∧l.length=m∧Bs W A' l∧m≤cc∧cc≤9223372036854775807∧(A'=none→m=0∧cc=0)∧(0<m→∀ q,bk A'=some q→q<W.heap.size):=by
   intro i
   by_cases hi:i<len
   ·obtain ⟨h0,h1⟩:=hall i (by omega)
    obtain ⟨b,off,spot⟩:=a
    have hspot:spot=none:=by simpa [Addr.add] using World.cell?_spot (hall 0 (by omega)).1
    subst hspot
    have e:(⟨b,off,none⟩:Addr).add i=⟨b,off+i,none⟩:=by unfold Addr.add;split<;>simp_all
    rw [e] at h0
    obtain ⟨A',n',c',l,e1,e2,e3,e4,e5,e6,e7⟩:=cell_bytes (fun _=>rfl) h1
    rw [e1] at h0
    exact ⟨l,fun _=>⟨b,off,A',n',c',rfl,h0,e2,e3,e4,e5,e6,e7⟩⟩
   ·exact ⟨[],fun h=>absurd h hi⟩
  obtain ⟨L,hL⟩:=Classical.axiomOfChoice each
  exact ⟨some a,len,cap,L,rfl,fun i hi=>hL i hi,hl,by omega⟩
theorem open_intarg {H:Type} {enc:TypeId × Value→H} {W:World} {base:Nat} {v:Value} {d:DataW H} {p:List MemPlace} (hval:Value.okWide Tryz.prog W .any base 43 v) (h:DataW.Trod enc Tryz.prog W 0 (fun _=>true) true 43 v d p):
 ∃ A n c,v=.slice A n c∧IntArg W A n∧n≤c∧c≤9223372036854775807:=by
 obtain ⟨a0,len,cap,rfl⟩:=okWide_slice Tryz.underlying43 hval
 obtain ⟨fuel,hf⟩:=h
 rcases open_ints Tryz.underlying43 Tryz.underlying3 cells_int hf with ⟨hcs,hx⟩|⟨a,len',cap',zs,hcs,_,hl,hmx,hz,hx,hcell,hwf⟩
 ·simp [Value.cells] at hcs
  obtain ⟨rfl,rfl,rfl⟩:=hcs
  exact ⟨none,0,0,rfl,fun i hi=>by omega,by omega,by omega⟩
 ·simp [Value.cells] at hcs
  obtain ⟨rfl,rfl,rfl⟩:=hcs
  simp only [if_true] at hz
  unfold maxLen at hmx
  refine ⟨some a,len,cap,rfl,fun i hi=>?_,hl,by omega⟩
  obtain ⟨b,off,spot⟩:=a
  have hspot:spot=none:=by simpa [Addr.add] using World.cell?_spot (hcell 0 (by omega))
  subst hspot
  have e:(⟨b,off,none⟩:Addr).add i=⟨b,off+i,none⟩:=by unfold Addr.add;split<;>simp_all
  have hc:=hcell i (by omega)
  rw [e] at hc
  have hiz:i<zs.length:=by omega
  have hw:=hwf _ (List.getElem_mem hiz)
  simp only [Lit.wf,Bool.and_eq_true,decide_eq_true_eq] at hw
  simp only [List.getD,Zg hiz,Option.getD_some] at hc
  exact ⟨b,off,_,rfl,hc,hw.1,hw.2⟩
theorem lawRound (A:OA) (n cc:Nat) (L:Nat→List UInt8) (A2:OA) (n2 cc2:Nat) (w:World) (hA:BytArg w A n L) (hK:IntArg w A2 n2) (hn2:n2≤9223372036854775807):
 Calls Tryz.prog 5 #[.slice A n cc,.slice A2 n2 cc2] w fun e w'=>e=.returned (.bool true)∧Below w.heap.size w w':=by
 have HKArg:=Lh hK
 clear hK
 obtain ⟨R,hR⟩:∃ R,(fun (e:Ending) (w':World)=>e=.returned (.bool true)∧Below w.heap.size w w')=R:=⟨_,rfl⟩
 rw [hR]
 have HRe:=Lh hR
 have HArg:=Lh hA
 clear hR hA
 have HBg:=Lh (show Calls Tryz.prog 8 #[.int .i64 200] w _ from lawBegin 200 w (by omega))
 go_enter Tryz.func5,Tryz.ntmps5
 go_wp2_with fail
 refine HBg.out.mono ?_
 rintro e w1 ⟨x,gb,gr,gq,rfl,hm,hbeg,hblk,hgb,hgb1,hf,hb1⟩
 have HX1:=Lh (⟨hm,hbeg,hblk,hgb,hgb1,hf,hb1⟩:x.Mem w1∧Beg x 200∧Blk w1 gb 35 (bothV x gr gq)∧¬x.fp gb∧w.heap.size≤gb∧(∀ b,x.fp b→w.heap.size≤b)∧Below w.heap.size w w1)
 have q1:∀ w:World,(binOp .eql 25 (.pointer (some ⟨gb,0,none⟩)) (.pointer none)).run Tryz.prog w=.ok (.bool false) w:=fun _=>rfl
 have hs1:=hb1.size
 have hgl1:=hblk.lt
 have HP0:=Lh (SvS.start (w:=w) hm hbeg (by omega) hblk hgb:SvS x gb gr gq x 0 [] none 0 none 0 0 w w1 w1)
 have hfree0:x.m.a.free=200:=hbeg.free
 clear hm hbeg hblk hgb hf hb1 HBg
 go_upto_block 0 with fail
 go_cut [6,7] from 8 to 87 (fun s6 s7 wx=>∃ (y:Sys) (PL:List Sv) (aA:OA) (ca:Nat) (hA:OA) (ch m:Nat),m≤60∧s6=.slice aA m ca∧s7=.slice hA m ch∧SvS x gb gr gq y (3*60) PL aA ca hA ch m w w1 wx)
 case first=>
  go_wp2_with fail
  go_loopg [6,7,8] (n) (fun gg s6 s7 s8 wr=>∃ (k:Nat) (y:Sys) (PL:List Sv) (aA:OA) (ca:Nat) (hA:OA) (ch m:Nat),k≤n∧k≤60∧n-k≤gg∧m≤k∧s6=.slice aA m ca∧s7=.slice hA m ch∧s8=.int .i64 (k:Int)∧SvS x gb gr gq y (3*k) PL aA ca hA ch m w w1 wr∧200≤y.m.a.free+3*k)
  case atStart=>exact ⟨0,x,[],none,0,none,0,0,by omega,by omega,by omega,by omega,rfl,rfl,rfl,HP0.out,by omega⟩
  case round=>
   obtain ⟨k,y,PL,aA,ca,hA,ch,m,hkn,hk60,hgg,hmk,rfl,rfl,rfl,hsv,hfree⟩:=hrel
   have HGg:=Lh hgg
   have HP:=Lh hsv
   have hfx:∀ q,x.fp q→w.heap.size≤q:=HX1.out.2.2.2.2.2.1
   have hBr:Below w.heap.size w wr:=HX1.out.2.2.2.2.2.2.trans (hsv.st.chg.below hfx hs1)
   have HBr:=Lh hBr
   have hgbr:=hsv.both.lt
   clear hgg hsv
   by_cases hlt:k<n∧k<60
   ·obtain ⟨hlt1,hlt2⟩:=hlt
    obtain ⟨b,o,s,rfl,hc0,hsl⟩:=HArg.out.at_ hlt1
    obtain ⟨A',sn,sc⟩:=s
    have hc0:w.cell? ⟨b,o+k,none⟩=some (.slice A' sn sc):=hc0
    have hbl:b<w.heap.size:=World.block_lt_of_cell? w _ hc0
    have hfy:∀ q,q<w.heap.size→¬y.fp q:=fun q h1=>HP.out.st.nf (by omega) (fun hf2=>by have:=hfx q hf2;omega)
    have HSl:=Lh hsl
    have HSv:=Lh (fun (W:World) (hbW:Below wr.heap.size wr W)=>(lawSave (s:=⟨A',sn,sc⟩) (l:=L k) (B:=3*k) HP.out.st HP.out.sm (by omega) HP.out.kp HP.out.low hbW (hsl.later (hBr.trans (hbW.mono hBr.size))) (fun h0 q hq=>⟨lT (hsl.2.2.2.2 h0 q hq) hBr.size,hfy q (hsl.2.2.2.2 h0 q hq)⟩):
     Calls Tryz.prog 14 #[.pointer (some ⟨x.s.g,0,none⟩),.slice A' sn sc] W fun e w'=>∃ (z:Sys) (p:Ck) (was:Bool) (E:Int),e=.returned (.tuple #[.agg #[.int .i64 (p.1:Int),.int .i64 (p.2:Int)],.bool was,.int .i64 E])∧y.Step z W w'∧y.Step z wr w'∧z.Small (3*k+3)∧Kept z∧Stays y z∧FdLow z∧y.m.a.free≤z.m.a.free+3∧SaveQ y (L k) z p was E))
    have p3:=HP.out.both.cell 3
    simp only [bothV,Zt,Zz,Zs] at p3
    have S0:=Lh (⟨p3,(hBr.cell hbl).trans hc0⟩:wr.cell? ⟨gb,3,none⟩=some (.pointer (some ⟨x.s.g,0,none⟩))∧wr.cell? ⟨b,o+k,none⟩=some (.slice A' sn sc))
    have hbf:¬y.fp b:=hfy b hbl
    have hbw:b<wr.heap.size:=lT hbl hBr.size
    have KS:=Lh (fun (W:World) (hc:Chg y.fp wr W)=>(⟨(cell_same (hc.block gb hgbr HP.out.apb)).trans S0.out.1,(cell_same (hc.block b hbw hbf)).trans S0.out.2⟩:W.cell? ⟨gb,3,none⟩=some (.pointer (some ⟨x.s.g,0,none⟩))∧W.cell? ⟨b,o+k,none⟩=some (.slice A' sn sc)))
    have KA:=Lh (fun (W:World) (ob:Obj) (h1:wr.heap.size≤W.heap.size) (h2:W.cell? ⟨gb,3,none⟩=some (.pointer (some ⟨x.s.g,0,none⟩))∧W.cell? ⟨b,o+k,none⟩=some (.slice A' sn sc))=>
     (⟨(((Below.refl W.heap.size W).alloc nL ob).cell (p:=⟨gb,3,none⟩) (lT hgbr h1)).trans h2.1,(((Below.refl W.heap.size W).alloc nL ob).cell (p:=⟨b,o+k,none⟩) (lT hbw h1)).trans h2.2⟩:
       (W.alloc ob).cell? ⟨gb,3,none⟩=some (.pointer (some ⟨x.s.g,0,none⟩))∧(W.alloc ob).cell? ⟨b,o+k,none⟩=some (.slice A' sn sc)))
    have S0a:=Lh (show (wr.alloc (.cells #[.int .i64 0,.int .i64 0] 24)).drew.cell? ⟨gb,3,none⟩=some (.pointer (some ⟨x.s.g,0,none⟩))∧(wr.alloc (.cells #[.int .i64 0,.int .i64 0] 24)).drew.cell? ⟨b,o+k,none⟩=some (.slice A' sn sc) from KA.out wr _ nL S0.out)
    have KB:=Lh (fun (z:Sys) (W:World) (hs:y.Step z (wr.alloc (.cells #[.int .i64 0,.int .i64 0] 24)).drew W)=>(⟨Blk.chg (show Blk (wr.alloc (.cells #[.int .i64 0,.int .i64 0] 24)).drew wr.heap.size 24 #[.int .i64 0,.int .i64 0] from Blk.new wr _ _) hs.chg (fun hf=>by have:=HP.out.st.mem.in_ _ hf;omega),
     hs.nf (by show wr.heap.size<(wr.alloc _).heap.size;simp) (fun hf=>by have:=HP.out.st.mem.in_ _ hf;omega)⟩:Blk W wr.heap.size 24 #[.int .i64 0,.int .i64 0]∧¬z.fp wr.heap.size))
    have KT:=Lh (fun (W:World) (v1 v2:Value) (h1:wr.heap.size≤W.heap.size) (h2:W.cell? ⟨gb,3,none⟩=some (.pointer (some ⟨x.s.g,0,none⟩))∧W.cell? ⟨b,o+k,none⟩=some (.slice A' sn sc))=>
     (⟨(cell_same ((Chg.set2 W wr.heap.size 0 1 v1 v2).block gb (lT hgbr h1) (by omega))).trans h2.1,(cell_same ((Chg.set2 W wr.heap.size 0 1 v1 v2).block b (lT hbw h1) (by omega))).trans h2.2⟩:
       ((W.setCell ⟨wr.heap.size,0,none⟩ v1).setCell ⟨wr.heap.size,1,none⟩ v2).cell? ⟨gb,3,none⟩=some (.pointer (some ⟨x.s.g,0,none⟩))∧((W.setCell ⟨wr.heap.size,0,none⟩ v1).setCell ⟨wr.heap.size,1,none⟩ v2).cell? ⟨b,o+k,none⟩=some (.slice A' sn sc)))
    have KN:=Lh (fun (W:World) (h:Blk W wr.heap.size 24 #[.int .i64 0,.int .i64 0])=>(⟨by have c:=h.cell 0;simpa using c,by have c:=h.cell 1;simpa using c,h.frozen 0,h.frozen 1⟩:W.cell? ⟨wr.heap.size,0,none⟩=some (.int .i64 0)∧W.cell? ⟨wr.heap.size,1,none⟩=some (.int .i64 0)∧W.frozen? ⟨wr.heap.size,0,none⟩=false∧W.frozen? ⟨wr.heap.size,1,none⟩=false))
    have j0:(k:Int)<(n:Int):=by omega
    have j1:(k:Int)<60:=by omega
    clear hc0 hsl p3 hbf hbw
    go_wp2_with fail
    go_region_held3 (fun W=>W.cell? ⟨gb,3,none⟩=some (.pointer (some ⟨x.s.g,0,none⟩))∧W.cell? ⟨b,o+k,none⟩=some (.slice A' sn sc))
     (first|(exact S0.out)|(exact S0a.out)|(exact S5.out)|(exact S6.out)|(exact S7.out)|go_keep)
     (first|(go_at_call 14;(first|refine (HSv.out wr.drew (Below.refl _ _).drew).mono ?_|refine (HSv.out (wr.alloc (.cells #[.int .i64 0,.int .i64 0] 24)).drew ((Below.refl _ _).alloc nL _).drew).mono ?_);rintro e w5 ⟨z,⟨cb,cl⟩,was,E,rfl,hch5,hst5,hsm5,hkp5,hsy5,hlo5,hfr5,hpo5⟩;(try (have HN5:=Lh (KB.out z w5 hch5);obtain ⟨n50,n51,n5f,n5g⟩:=KN.out w5 HN5.out.1));have HSt5:=Lh hst5;have HFr5:=Lh hfr5;have HP5:=Lh (HP.out.step hst5 hkp5 hsy5 hsm5 hlo5);have HPo5:=Lh hpo5;have S5:=Lh (KS.out w5 hst5.chg);have S7:=Lh (KT.out w5 (.int .i64 (cb:Int)) (.int .i64 (cl:Int)) hst5.chg.size S5.out);have S6:=Lh (KA.out w5 (.cells #[.int .i64 (cb:Int),.int .i64 (cl:Int)] 24) hst5.chg.size S5.out);clear hch5 hst5 hsm5 hkp5 hsy5 hlo5 hfr5 hpo5))
    all_goals
     first
     | (obtain ⟨w6,hw6⟩:∃ q,w5.alloc (.cells #[.int .i64 (cb:Int),.int .i64 (cl:Int)] 24)=q:=⟨_,rfl⟩
        have hb6:Below w5.heap.size w5 w6:=by rw [←hw6];exact (Below.refl _ _).alloc nL _
        have HC6:=Lh (by rw [←hw6];exact Blk.new w5 _ _:Blk w6 w5.heap.size 24 #[.int .i64 (cb:Int),.int .i64 (cl:Int)])
        have HP6:=Lh (HP5.out.later hb6)
        rw [hw6]
        have hbk6:w6.cell? ⟨b,o+k,none⟩=some (.slice A' sn sc):=by rw [←hw6];exact S6.out.2
        clear hw6 hb6 S6 S7
        obtain ⟨gc,hgc⟩:∃ q,w5.heap.size=q:=⟨_,rfl⟩
        rw [hgc] at HC6 ⊢
        clear hgc)
     | (have HP6:=Lh (HP5.out.chg (Chg.set2 w5 wr.heap.size 0 1 (.int .i64 (cb:Int)) (.int .i64 (cl:Int))) (fun q e=>by
         rw [e]
         exact ⟨HN5.out.2,HP.out.st.chg.size,by omega,fun h=>by have:=(HP.out.rowA.lt h).2;omega,fun h=>by have:=(Own.lt HP.out.rowH h).2;omega⟩))
        have HC6:=Lh (by have h:=Blk.set (Blk.set HN5.out.1 0 (.int .i64 (cb:Int))) 1 (.int .i64 (cl:Int));simpa using h:Blk ((w5.setCell ⟨wr.heap.size,0,none⟩ (.int .i64 (cb:Int))).setCell ⟨wr.heap.size,1,none⟩ (.int .i64 (cl:Int))) wr.heap.size 24 #[.int .i64 (cb:Int),.int .i64 (cl:Int)])
        have hbk6:=S7.out.2
        obtain ⟨w6,hw6⟩:∃ q,(w5.setCell ⟨wr.heap.size,0,none⟩ (.int .i64 (cb:Int))).setCell ⟨wr.heap.size,1,none⟩ (.int .i64 (cl:Int))=q:=⟨_,rfl⟩
        rw [hw6] at HP6 HC6 hbk6 ⊢
        clear hw6 S6 S7 n50 n51 n5f n5g HN5
        obtain ⟨gc,hgc⟩:∃ q,wr.heap.size=q:=⟨_,rfl⟩
        rw [hgc] at HC6 ⊢
        clear hgc)
    all_goals
     rcases HPo5.out.cases with ⟨hno,rfl,rfl,-⟩|⟨hsp,-⟩|⟨rfl,hok,hhas,-⟩
     ·have hno2:¬(1≤sn∧sn≤512):=by have h:=HSl.out.1;simp only at h;rw [←h];exact hno
      by_cases h1:1≤sn
      ·have l1:(1:Int)≤(sn:Int):=by omega
       have l2:¬(sn:Int)≤512:=by omega
       clear hno hno2 h1
       go_wp2_with fail
       go_roundg (n-(k+1))
       case measure=>have:=HGg.out;omega
       case rel=>exact ⟨k+1,z,PL,aA,ca,hA,ch,m,by omega,by omega,by omega,by omega,rfl,rfl,by go_num,HP6.out,by have:=HFr5.out;omega⟩
      ·have l1:¬(1:Int)≤(sn:Int):=by omega
       clear hno hno2 h1
       go_wp2_with fail
       go_roundg (n-(k+1))
       case measure=>have:=HGg.out;omega
       case rel=>exact ⟨k+1,z,PL,aA,ca,hA,ch,m,by omega,by omega,by omega,by omega,rfl,rfl,by go_num,HP6.out,by have:=HFr5.out;omega⟩
     ·exfalso;omega
     ·have HHas:=Lh hhas
      have l1:(1:Int)≤(sn:Int):=by have h:=HSl.out.1;simp only at h;omega
      have l2:(sn:Int)≤512:=by have h:=HSl.out.1;simp only at h;omega
      clear hok hhas
      obtain ⟨q0,q1⟩:w6.cell? ⟨gc,0,none⟩=some (.int .i64 (cb:Int))∧w6.cell? ⟨gc,1,none⟩=some (.int .i64 (cl:Int)):=by
       have c0:=HC6.out.cell 0
       have c1:=HC6.out.cell 1
       simp only [Zt,Zz,Zs] at c0 c1
       exact ⟨c0,c1⟩
      have hb61:Below w6.heap.size w6 (w6.alloc (.cells #[.int .i64 (cb:Int),.int .i64 (cl:Int)] 24)):=(Below.refl _ _).alloc nL _
      have HO61:=Lh (RowT.Own.later HP6.out.rowA hb61)
      have HN61:=Lh (ChT.news_one w6 (cb,cl) 24)
      have HB61:=Lh hb61
      have hwb:b≠(bk aA).getD w.heap.size:=fun e=>by
       cases hq:bk aA with
       | none=>rw [hq] at e;simp only [Option.getD_none] at e;omega
       | some q=>
         rw [hq] at e
         simp only [Option.getD_some] at e
         have:=(HP.out.rowA.lt hq).1
         omega
      clear hb61
      go_wp2_with (at_builtin;refine ChT.wpList_append rfl _ _ rfl w1.heap.size aA m ca (PL.map Sv.p) (cb,cl) rfl HO61.out ⟨w6.heap.size,0,none⟩ 1 rfl HN61.out ?h1 ?h2 ?_)
      case h1=>omega
      case h2=>have:=HO61.out;exact Nat.le_trans HP6.out.st.chg.size HB61.out.size
      intro A7 c7 w7 hown7 hgr7 hnew7
      have hbk7:w7.cell? ⟨b,o+k,none⟩=some (.slice A' sn sc):=by
       have hbw6:b<w6.heap.size:=World.block_lt_of_cell? w6 _ hbk6
       refine (cell_same (hgr7.block b (lT hbw6 HB61.out.size) (fun e=>hwb (by rw [←e];rfl)))).trans ((HB61.out.cell (p:=⟨b,o+k,none⟩) hbw6).trans hbk6)
      have HOw7:=Lh (⟨hown7,hgr7,hnew7⟩:ChT.Own w7 w1.heap.size A7 (m+1) c7 (PL.map Sv.p++[(cb,cl)])∧(w6.alloc (.cells #[.int .i64 (cb:Int),.int .i64 (cl:Int)] 24)).grownBy w7 (bk aA)∧NewTo (w6.alloc (.cells #[.int .i64 (cb:Int),.int .i64 (cl:Int)] 24)) aA A7)
      have HHa7:=Lh (Own.kept (Own.later HP6.out.rowH HB61.out) hgr7 (by
       cases hq:bk hA with
       | none=>exact .inl rfl
       | some q=>exact .inr (fun e=>HP6.out.ne q e.symm hq)))
      have hs7:w1.heap.size≤w7.heap.size:=Nat.le_trans HP6.out.st.chg.size (Nat.le_trans HB61.out.size hgr7.size)
      clear hown7 hgr7 hnew7 q0 q1 hbk6 hwb
      go_wp2_with (at_builtin;refine wpList_append_one rfl _ _ elemBs rfl w1.heap.size hA m ch (PL.map (fun v=>v.s.v)) w7 (.slice A' sn sc) rfl rfl HHa7.out rfl rfl ?d1 ?d2 hs7 ?_)
      case d1=>omega
      case d2=>omega
      intro A8 c8 w8 hown8 hb8 hgr8 hat8
      have HP8:=Lh (HP6.out.app (v:=⟨(cb,cl),⟨A',sn,sc⟩,L k⟩) HB61.out HOw7.out.1 HOw7.out.2.1 HOw7.out.2.2 hown8 hgr8 hat8 HHas.out HSl.out)
      clear hown8 hb8 hgr8 hat8 hbk7
      go_wp2_with fail
      go_roundg (n-(k+1))
      case measure=>have:=HGg.out;omega
      case rel=>exact ⟨k+1,z,PL++[⟨(cb,cl),⟨A',sn,sc⟩,L k⟩],A7,c7,A8,c8,m+1,by omega,by omega,by omega,by omega,rfl,rfl,by go_num,HP8.out,by have:=HFr5.out;omega⟩
   ·by_cases hk:k<n
    ·have j0:(k:Int)<(n:Int):=by omega
     have j1:¬(k:Int)<60:=by omega
     clear hlt
     go_wp2_with fail
     go_meet
     exact ⟨y,PL,aA,ca,hA,ch,m,by omega,rfl,rfl,HP.out.mono (by omega)⟩
    ·have j0:¬(k:Int)<(n:Int):=by omega
     clear hlt
     go_wp2_with fail
     go_meet
     exact ⟨y,PL,aA,ca,hA,ch,m,by omega,rfl,rfl,HP.out.mono (by omega)⟩
 case rest=>
  obtain ⟨y,PL,aA,ca,hA,ch,m,hm60,rfl,rfl,hsv⟩:=hcut
  have HP:=Lh hsv
  have hmg:y.m.a.g=x.m.a.g:=hsv.st.same.m
  have p2:=hsv.both.cell 2
  simp only [bothV,Zt,Zz,Zs] at p2
  obtain ⟨F,hF⟩:∃ F,y.m.a.free=F:=⟨_,rfl⟩
  have HF:=Lh hF
  have HFr:=Lh (by have h:=sysFree y wc hsv.st.mem;rw [hmg,hF] at h;exact h:Calls Tryz.prog 16 #[.pointer (some ⟨x.m.a.g,0,none⟩)] wc fun e w'=>e=.returned (.int .i64 (F:Int))∧Below wc.heap.size wc w')
  clear hsv hF hmg
  go_wp2_with fail
  refine HFr.out.mono ?_
  rintro e w2 ⟨rfl,hb2⟩
  have HP2:=Lh ((HP.out.later hb2).mono (by omega):SvS x gb gr gq y 100000 PL aA ca hA ch m w w1 w2)
  clear hb2 p2 HP HFr
  go_upto_block 2 with fail
  go_cut [13] from 14 to 146 (fun s13 wx=>∃ y,SvS x gb gr gq y 100000 PL aA ca hA ch m w w1 wx)
  case first=>
   go_wp2_with fail
   go_loopg [13] (n2) (fun gg s13 wr=>∃ (i:Nat) (y:Sys),i≤n2∧n2-i≤gg∧s13=.int .i64 (i:Int)∧SvS x gb gr gq y 100000 PL aA ca hA ch m w w1 wr∧y.m.a.free=F)
   case atStart=>exact ⟨0,y,by omega,by omega,rfl,HP2.out,HF.out⟩
   case round=>
    obtain ⟨i,y,hin,hgg,rfl,hsv,hfr⟩:=hrel
    have HGg:=Lh hgg
    have HP:=Lh hsv
    have HFy:=Lh hfr
    have hfx:∀ q,x.fp q→w.heap.size≤q:=HX1.out.2.2.2.2.2.1
    have hBr:Below w.heap.size w wr:=HX1.out.2.2.2.2.2.2.trans (hsv.st.chg.below hfx hs1)
    have HBr:=Lh hBr
    have hgbr:=hsv.both.lt
    clear hgg hsv hfr
    by_cases hlt:i<n2
    ·by_cases hm0:0<m
     ·obtain ⟨b2,o2,kk,rfl,hk0,hk1,hk2⟩:=HKArg.out i hlt
      have r0:wr.cell? ⟨b2,o2+i,none⟩=some (.int .i64 kk):=(hBr.cell (p:=⟨b2,o2+i,none⟩) (World.block_lt_of_cell? w _ hk0)).trans hk0
      have HPk:=Lh (lawPick kk m wr hk1 hk2 hm0 (by omega))
      have j0:(i:Int)<(n2:Int):=by omega
      have j1:(0:Int)<(m:Int):=by omega
      clear hk0
      go_wp2_with fail
      refine HPk.out.mono ?_
      rintro e wq ⟨hwq,q,hq,rfl⟩
      obtain rfl:wr=wq:=hwq.symm
      clear r0 HPk hk1 hk2
      obtain ⟨v,hv⟩:∃ v,PL[q]? = some v:=⟨_,Zg (by rw [HP.out.len];exact hq)⟩
      obtain ⟨⟨cb,cl⟩,⟨A',sn,sc⟩,l⟩:=v
      have hmem:=List.mem_of_getElem? hv
      obtain ⟨gh,hhA,hbw,hbf,r1⟩:=HP.out.slice hv
      have r1:wr.cell? ⟨gh,q,none⟩=some (.slice A' sn sc):=r1
      have hsl:SlIn w ⟨A',sn,sc⟩ l:=(HP.out.has _ hmem).2
      have hfy:∀ q,q<w.heap.size→¬y.fp q:=fun q h1=>HP.out.st.nf (by omega) (fun hf2=>by have:=hfx q hf2;omega)
      have HSv:=Lh (fun (W:World) (hbW:Below wr.heap.size wr W)=>(lawAgain (s:=⟨A',sn,sc⟩) (l:=l) (p:=(cb,cl)) HP.out.st HP.out.sm HP.out.kp HP.out.low (HP.out.has _ hmem).1 hbW (hsl.later (hBr.trans (hbW.mono hBr.size))) (fun h0 q hq=>⟨lT (hsl.2.2.2.2 h0 q hq) hBr.size,hfy q (hsl.2.2.2.2 h0 q hq)⟩):
       Calls Tryz.prog 14 #[.pointer (some ⟨x.s.g,0,none⟩),.slice A' sn sc] W fun e w'=>∃ (z:Sys),e=.returned (.tuple #[.agg #[.int .i64 (cb:Int),.int .i64 (cl:Int)],.bool true,.int .i64 0])∧y.Step z W w'∧y.Step z wr w'∧z.Small 100000∧Kept z∧Stays y z∧FdLow z∧z.m=y.m∧z.s.wh=y.s.wh))
      have p3:=HP.out.both.cell 3
      simp only [bothV,Zt,Zz,Zs] at p3
      have S0:=Lh (⟨p3,r1⟩:wr.cell? ⟨gb,3,none⟩=some (.pointer (some ⟨x.s.g,0,none⟩))∧wr.cell? ⟨gh,q,none⟩=some (.slice A' sn sc))
      have KS:=Lh (fun (W:World) (hc:Chg y.fp wr W)=>(⟨(cell_same (hc.block gb hgbr HP.out.apb)).trans S0.out.1,(cell_same (hc.block gh hbw hbf)).trans S0.out.2⟩:W.cell? ⟨gb,3,none⟩=some (.pointer (some ⟨x.s.g,0,none⟩))∧W.cell? ⟨gh,q,none⟩=some (.slice A' sn sc)))
      have KA:=Lh (fun (W:World) (ob:Obj) (h1:wr.heap.size≤W.heap.size) (h2:W.cell? ⟨gb,3,none⟩=some (.pointer (some ⟨x.s.g,0,none⟩))∧W.cell? ⟨gh,q,none⟩=some (.slice A' sn sc))=>
       (⟨(((Below.refl W.heap.size W).alloc nL ob).cell (p:=⟨gb,3,none⟩) (lT hgbr h1)).trans h2.1,(((Below.refl W.heap.size W).alloc nL ob).cell (p:=⟨gh,q,none⟩) (lT hbw h1)).trans h2.2⟩:
         (W.alloc ob).cell? ⟨gb,3,none⟩=some (.pointer (some ⟨x.s.g,0,none⟩))∧(W.alloc ob).cell? ⟨gh,q,none⟩=some (.slice A' sn sc)))
      have S0a:=Lh (show (wr.alloc (.cells #[.int .i64 0,.int .i64 0] 24)).drew.cell? ⟨gb,3,none⟩=some (.pointer (some ⟨x.s.g,0,none⟩))∧(wr.alloc (.cells #[.int .i64 0,.int .i64 0] 24)).drew.cell? ⟨gh,q,none⟩=some (.slice A' sn sc) from KA.out wr _ nL S0.out)
      have KB:=Lh (fun (z:Sys) (W:World) (hs:y.Step z (wr.alloc (.cells #[.int .i64 0,.int .i64 0] 24)).drew W)=>(⟨Blk.chg (show Blk (wr.alloc (.cells #[.int .i64 0,.int .i64 0] 24)).drew wr.heap.size 24 #[.int .i64 0,.int .i64 0] from Blk.new wr _ _) hs.chg (fun hf=>by have:=HP.out.st.mem.in_ _ hf;omega),
       hs.nf (by show wr.heap.size<(wr.alloc _).heap.size;simp) (fun hf=>by have:=HP.out.st.mem.in_ _ hf;omega)⟩:Blk W wr.heap.size 24 #[.int .i64 0,.int .i64 0]∧¬z.fp wr.heap.size))
      have KT:=Lh (fun (W:World) (v1 v2:Value) (h1:wr.heap.size≤W.heap.size) (h2:W.cell? ⟨gb,3,none⟩=some (.pointer (some ⟨x.s.g,0,none⟩))∧W.cell? ⟨gh,q,none⟩=some (.slice A' sn sc))=>
       (⟨(cell_same ((Chg.set2 W wr.heap.size 0 1 v1 v2).block gb (lT hgbr h1) (by omega))).trans h2.1,(cell_same ((Chg.set2 W wr.heap.size 0 1 v1 v2).block gh (lT hbw h1) (by omega))).trans h2.2⟩:
         ((W.setCell ⟨wr.heap.size,0,none⟩ v1).setCell ⟨wr.heap.size,1,none⟩ v2).cell? ⟨gb,3,none⟩=some (.pointer (some ⟨x.s.g,0,none⟩))∧((W.setCell ⟨wr.heap.size,0,none⟩ v1).setCell ⟨wr.heap.size,1,none⟩ v2).cell? ⟨gh,q,none⟩=some (.slice A' sn sc)))
      have KN:=Lh (fun (W:World) (h:Blk W wr.heap.size 24 #[.int .i64 0,.int .i64 0])=>(⟨by have c:=h.cell 0;simpa using c,by have c:=h.cell 1;simpa using c,h.frozen 0,h.frozen 1⟩:W.cell? ⟨wr.heap.size,0,none⟩=some (.int .i64 0)∧W.cell? ⟨wr.heap.size,1,none⟩=some (.int .i64 0)∧W.frozen? ⟨wr.heap.size,0,none⟩=false∧W.frozen? ⟨wr.heap.size,1,none⟩=false))
      subst hhA
      clear hsl p3 hbf hbw r1 hmem
      go_wp2_with fail
      go_region_held3 (fun W=>W.cell? ⟨gb,3,none⟩=some (.pointer (some ⟨x.s.g,0,none⟩))∧W.cell? ⟨gh,q,none⟩=some (.slice A' sn sc))
       (first|(exact S0.out)|(exact S0a.out)|(exact S5.out)|(exact S6.out)|(exact S7.out)|go_keep)
       (first|(go_at_call 14;(first|refine (HSv.out wr.drew (Below.refl _ _).drew).mono ?_|refine (HSv.out (wr.alloc (.cells #[.int .i64 0,.int .i64 0] 24)).drew ((Below.refl _ _).alloc nL _).drew).mono ?_);rintro e w5 ⟨z,rfl,hch5,hst5,hsm5,hkp5,hsy5,hlo5,hzm5,hzw5⟩;(try (have HN5:=Lh (KB.out z w5 hch5);obtain ⟨n50,n51,n5f,n5g⟩:=KN.out w5 HN5.out.1));have HSt5:=Lh hst5;have HZm5:=Lh hzm5;have HZw5:=Lh hzw5;have HP5:=Lh (HP.out.step hst5 hkp5 hsy5 hsm5 hlo5);have S5:=Lh (KS.out w5 hst5.chg);have S7:=Lh (KT.out w5 (.int .i64 (cb:Int)) (.int .i64 (cl:Int)) hst5.chg.size S5.out);have S6:=Lh (KA.out w5 (.cells #[.int .i64 (cb:Int),.int .i64 (cl:Int)] 24) hst5.chg.size S5.out);clear hch5 hst5 hsm5 hkp5 hsy5 hlo5 hzm5 hzw5))
      all_goals
       first
       | (obtain ⟨w6,hw6⟩:∃ q,w5.alloc (.cells #[.int .i64 (cb:Int),.int .i64 (cl:Int)] 24)=q:=⟨_,rfl⟩
          have hb6:Below w5.heap.size w5 w6:=by rw [←hw6];exact (Below.refl _ _).alloc nL _
          have HC6:=Lh (by rw [←hw6];exact Blk.new w5 _ _:Blk w6 w5.heap.size 24 #[.int .i64 (cb:Int),.int .i64 (cl:Int)])
          have HP6:=Lh (HP5.out.later hb6)
          rw [hw6]
          have hbk6:w6.cell? ⟨gh,q,none⟩=some (.slice A' sn sc):=by rw [←hw6];exact S6.out.2
          clear hw6 hb6 S6 S7
          obtain ⟨gc,hgc⟩:∃ q,w5.heap.size=q:=⟨_,rfl⟩
          rw [hgc] at HC6 ⊢
          clear hgc)
       | (have HP6:=Lh (HP5.out.chg (Chg.set2 w5 wr.heap.size 0 1 (.int .i64 (cb:Int)) (.int .i64 (cl:Int))) (fun q e=>by
           rw [e]
           exact ⟨HN5.out.2,HP.out.st.chg.size,by omega,fun h=>by have:=(HP.out.rowA.lt h).2;omega,fun h=>by have:=(Own.lt HP.out.rowH h).2;omega⟩))
          have HC6:=Lh (by have h:=Blk.set (Blk.set HN5.out.1 0 (.int .i64 (cb:Int))) 1 (.int .i64 (cl:Int));simpa using h:Blk ((w5.setCell ⟨wr.heap.size,0,none⟩ (.int .i64 (cb:Int))).setCell ⟨wr.heap.size,1,none⟩ (.int .i64 (cl:Int))) wr.heap.size 24 #[.int .i64 (cb:Int),.int .i64 (cl:Int)])
          have hbk6:=S7.out.2
          obtain ⟨w6,hw6⟩:∃ q,(w5.setCell ⟨wr.heap.size,0,none⟩ (.int .i64 (cb:Int))).setCell ⟨wr.heap.size,1,none⟩ (.int .i64 (cl:Int))=q:=⟨_,rfl⟩
          rw [hw6] at HP6 HC6 hbk6 ⊢
          clear hw6 S6 S7 n50 n51 n5f n5g HN5
          obtain ⟨gc,hgc⟩:∃ q,wr.heap.size=q:=⟨_,rfl⟩
          rw [hgc] at HC6 ⊢
          clear hgc)
      all_goals
       obtain ⟨ga,haA,hga1,hga2,t0,t1⟩:=HP6.out.chunk hv
       have t0:w6.cell? ⟨ga,q*2,none⟩=some (.int .i64 (cb:Int)):=t0
       have t1:w6.cell? ⟨ga,q*2+1,none⟩=some (.int .i64 (cl:Int)):=t1
       have t2:=HP6.out.both.cell 2
       have c0:=HC6.out.cell 0
       have c1:=HC6.out.cell 1
       simp only [bothV,Zt,Zz,Zs] at t2 c0 c1
       have S6:=Lh (⟨t0,t1,t2,c0,c1⟩:w6.cell? ⟨ga,q*2,none⟩=some (.int .i64 (cb:Int))∧w6.cell? ⟨ga,q*2+1,none⟩=some (.int .i64 (cl:Int))∧w6.cell? ⟨gb,2,none⟩=some (.pointer (some ⟨x.m.a.g,0,none⟩))∧w6.cell? ⟨gc,0,none⟩=some (.int .i64 (cb:Int))∧w6.cell? ⟨gc,1,none⟩=some (.int .i64 (cl:Int)))
       have hgb6:=HP6.out.both.lt
       have hgc6:=HC6.out.lt
       have KF:=Lh (fun (W:World) (hb:Below w6.heap.size w6 W)=>(⟨(hb.cell (p:=⟨ga,q*2,none⟩) hga1).trans S6.out.1,(hb.cell (p:=⟨ga,q*2+1,none⟩) hga1).trans S6.out.2.1,(hb.cell (p:=⟨gb,2,none⟩) hgb6).trans S6.out.2.2.1,(hb.cell (p:=⟨gc,0,none⟩) hgc6).trans S6.out.2.2.2.1,(hb.cell (p:=⟨gc,1,none⟩) hgc6).trans S6.out.2.2.2.2⟩:
        W.cell? ⟨ga,q*2,none⟩=some (.int .i64 (cb:Int))∧W.cell? ⟨ga,q*2+1,none⟩=some (.int .i64 (cl:Int))∧W.cell? ⟨gb,2,none⟩=some (.pointer (some ⟨x.m.a.g,0,none⟩))∧W.cell? ⟨gc,0,none⟩=some (.int .i64 (cb:Int))∧W.cell? ⟨gc,1,none⟩=some (.int .i64 (cl:Int))))
       have HFr:=Lh (by
        have h:=sysFree z w6.drew (HP6.out.st.mem.later (Below.refl _ _).drew)
        rw [HP6.out.st.same.m,HZm5.out,HFy.out] at h
        refine h.mono (fun e w' hp=>⟨hp.1,(Below.refl _ _).drew.trans hp.2⟩):Calls Tryz.prog 16 #[.pointer (some ⟨x.m.a.g,0,none⟩)] w6.drew fun e w'=>e=.returned (.int .i64 (F:Int))∧Below w6.heap.size w6 w')
       subst haA
       clear t0 t1 t2 c0 c1 hga1 hga2 hgb6 hgc6
       go_wp2_with fail
       go_region_held3 (fun W=>W.cell? ⟨ga,q*2,none⟩=some (.int .i64 (cb:Int))∧W.cell? ⟨ga,q*2+1,none⟩=some (.int .i64 (cl:Int))∧W.cell? ⟨gb,2,none⟩=some (.pointer (some ⟨x.m.a.g,0,none⟩))∧W.cell? ⟨gc,0,none⟩=some (.int .i64 (cb:Int))∧W.cell? ⟨gc,1,none⟩=some (.int .i64 (cl:Int)))
        (first|(exact S6.out)|(exact S9.out)|go_keep)
        (first|(go_at_call 16;refine HFr.out.mono ?_;rintro e w9 ⟨rfl,hb9⟩;have HP9:=Lh (HP6.out.later hb9);have S9:=Lh (KF.out w9 hb9);clear hb9))
       go_wp2_with fail
       go_roundg (n2-(i+1))
       case measure=>have:=HGg.out;omega
       case rel=>exact ⟨i+1,z,by omega,by omega,by go_num,HP9.out,by rw [HZm5.out];exact HFy.out⟩
     ·have j0:(i:Int)<(n2:Int):=by omega
      have j1:¬(0:Int)<(m:Int):=by omega
      go_wp2_with fail
      go_meet
      exact ⟨y,HP.out⟩
    ·have j0:¬(i:Int)<(n2:Int):=by omega
     go_wp2_with fail
     go_meet
     exact ⟨y,HP.out⟩
  case rest=>
   obtain ⟨y,hsv⟩:=hcut
   have HP:=Lh hsv
   have hcg:y.c.g=x.c.g:=hsv.st.same.c
   have hd:y.d=x.d:=hsv.st.same.d
   have p1:=hsv.both.cell 1
   simp only [bothV,Zt,Zz,Zs] at p1
   have HFl:=Lh (by
    have h:=sysFlush y wc hsv.st.mem (fun n=>by rw [hd,HX1.out.2.1.vl];simp)
    rw [hcg] at h
    exact h:Calls Tryz.prog 17 #[.pointer (some ⟨x.c.g,0,none⟩)] wc _)
   clear hsv
   go_wp2_with fail
   refine HFl.out.mono ?_
   rintro e w3 ⟨rfl,c2,d2,hm3,-,-,-,hv3,-,hc3,hf3⟩
   have HF3:=Lh (HP.out.fin HX1.out.2.2.2.2.2.2 HX1.out.2.2.2.2.2.1 (z:={ y with c:=c2,d:=d2 }) hm3 rfl (hc3.mono (fun _ _ h=>.inl h)) hf3 (fun v hv=>by rw [show ({ y with c:=c2,d:=d2 }:Sys).c.view ({ y with c:=c2,d:=d2 }:Sys).d=y.c.view y.d from funext hv3];exact (HP.out.has v hv).1.ld):FinS x gb gr gq { y with c:=c2,d:=d2 } PL aA ca hA ch m w w3)
   have HUq:=Lh HP.out.uniq
   clear hm3 hv3 hc3 hf3 HFl p1 hcg hd HP HP2
   go_wp2_with fail
   go_loopg [18] (m) (fun gg s18 wr=>∃ (i:Nat) (Y:Sys),i≤m∧m-i≤gg∧s18=.int .i64 (i:Int)∧FinS x gb gr gq Y PL aA ca hA ch m w wr)
   case atStart=>exact ⟨0,_,by omega,by omega,rfl,HF3.out⟩
   case round=>
    obtain ⟨i,Y,him,hgg,rfl,hfin⟩:=hrel
    have HGg:=Lh hgg
    have HQ:=Lh hfin
    clear hgg hfin
    by_cases hlt:i<m
    ·skip
     obtain ⟨v,hv⟩:∃ v,PL[i]? = some v:=⟨_,Zg (by rw [HQ.out.len];exact hlt)⟩
     obtain ⟨⟨cb,cl⟩,⟨A',sn,sc⟩,l⟩:=v
     have hmem:=List.mem_of_getElem? hv
     obtain ⟨ga,haA,hga1,hga2,r0,r1⟩:=HQ.out.chunk hv
     have r0:wr.cell? ⟨ga,i*2,none⟩=some (.int .i64 (cb:Int)):=r0
     have r1:wr.cell? ⟨ga,i*2+1,none⟩=some (.int .i64 (cl:Int)):=r1
     obtain ⟨gh,hhA,hgh1,hgh2,r2⟩:=HQ.out.slice hv
     have r2:wr.cell? ⟨gh,i,none⟩=some (.slice A' sn sc):=r2
     have HSl:=Lh (show SlIn w ⟨A',sn,sc⟩ l from (HQ.out.ld _ hmem).2.2.2)
     have p3:=HQ.out.both.cell 3
     simp only [bothV,Zt,Zz,Zs] at p3
     have HLd:=Lh (lawLoad (v:=⟨(cb,cl),⟨A',sn,sc⟩,l⟩) HQ.out hmem (Below.refl wr.heap.size wr).drew:Calls Tryz.prog 11 #[.pointer (some ⟨x.s.g,0,none⟩),.agg #[.int .i64 (cb:Int),.int .i64 (cl:Int)]] wr.drew fun e w'=>∃ (z:Sys) (LA:OA) (ln lc:Nat),e=.returned (.tuple #[.slice LA ln lc,.int .i64 0])∧Y.Step z wr w'∧(∀ k,z.c.view z.d k=Y.c.view Y.d k)∧l.length=ln∧Bs w' LA l∧l.length≤65535)
     have hgbr:=HQ.out.both.lt
     have S0:=Lh (⟨p3,r0,r1,r2⟩:wr.cell? ⟨gb,3,none⟩=some (.pointer (some ⟨x.s.g,0,none⟩))∧wr.cell? ⟨ga,i*2,none⟩=some (.int .i64 (cb:Int))∧wr.cell? ⟨ga,i*2+1,none⟩=some (.int .i64 (cl:Int))∧wr.cell? ⟨gh,i,none⟩=some (.slice A' sn sc))
     have KS:=Lh (fun (W:World) (hc:Chg Y.fp wr W)=>(⟨(cell_same (hc.block gb hgbr HQ.out.apb)).trans S0.out.1,(cell_same (hc.block ga hga1 hga2)).trans S0.out.2.1,(cell_same (hc.block ga hga1 hga2)).trans S0.out.2.2.1,(cell_same (hc.block gh hgh1 hgh2)).trans S0.out.2.2.2⟩:
      W.cell? ⟨gb,3,none⟩=some (.pointer (some ⟨x.s.g,0,none⟩))∧W.cell? ⟨ga,i*2,none⟩=some (.int .i64 (cb:Int))∧W.cell? ⟨ga,i*2+1,none⟩=some (.int .i64 (cl:Int))∧W.cell? ⟨gh,i,none⟩=some (.slice A' sn sc)))
     have j0:(i:Int)<(m:Int):=by omega
     have Hv:=Lh hv
     subst haA
     subst hhA
     clear hv hmem hga1 hga2 hgh1 hgh2 r0 r1 r2 p3
     go_wp2_with fail
     go_region_held3 (fun W=>W.cell? ⟨gb,3,none⟩=some (.pointer (some ⟨x.s.g,0,none⟩))∧W.cell? ⟨ga,i*2,none⟩=some (.int .i64 (cb:Int))∧W.cell? ⟨ga,i*2+1,none⟩=some (.int .i64 (cl:Int))∧W.cell? ⟨gh,i,none⟩=some (.slice A' sn sc))
      (first|(exact S0.out)|(exact S4.out)|go_keep)
      (first|(go_at_call 11;refine HLd.out.mono ?_;rintro e w4 ⟨z,LA,ln,lc,rfl,hst4,hvw4,hll4,hbs4,hle4⟩;have HQ4:=Lh (HQ.out.step hst4 hvw4);have HB4:=Lh (⟨hll4,hbs4,hle4⟩:l.length=ln∧Bs w4 LA l∧l.length≤65535);have S4:=Lh (KS.out w4 hst4.chg);clear hst4 hvw4 hll4 hbs4 hle4))
     have HSame:=Lh (by
      have h:=sameAny LA A' ln lc sn sc l l w4 HB4.out.1 HSl.out.1 HB4.out.2.1 (HSl.out.later HQ4.out.bel).2.1 (by have:=HB4.out;omega) (by have:=HB4.out;have h:=HSl.out.1;simp only at h;omega)
      rw [beq_self_eq_true] at h
      exact h:Calls Tryz.prog 18 #[.slice LA ln lc,.slice A' sn sc] w4 fun e w'=>e=.returned (.bool true)∧Below w4.heap.size w4 w')
     have r3:=S4.out.2.2.2
     go_wp2_with fail
     refine HSame.out.mono ?_
     rintro e w5 ⟨rfl,hb5⟩
     have HQ5:=Lh (HQ4.out.later hb5)
     clear hb5 r3 HSame HLd
     have HSl5:=Lh (show l.length≤65535 from HB4.out.2.2)
     clear HQ4 HB4 S0 S4 KS HQ
     go_wp2_with fail
     go_loopg [22] (i) (fun gg s22 wr=>∃ (k:Nat),k≤i∧i-k≤gg∧s22=.int .i64 (k:Int)∧FinS x gb gr gq z PL (some ⟨ga,0,none⟩) ca (some ⟨gh,0,none⟩) ch m w wr)
     case atStart=>exact ⟨0,by omega,by omega,rfl,HQ5.out⟩
     case round=>
      obtain ⟨k,hki,hgk,rfl,hfin⟩:=hrel
      obtain ⟨wk,rfl⟩:∃ W:World,W=wr:=⟨_,rfl⟩
      have HGk:=Lh hgk
      have HQ:=Lh hfin
      clear hgk hfin HQ5
      by_cases hlt2:k<i
      ·obtain ⟨v2,hv2⟩:∃ v,PL[k]? = some v:=⟨_,Zg (by rw [HQ.out.len];omega)⟩
       obtain ⟨⟨cb2,cl2⟩,⟨A2',sn2,sc2⟩,l2⟩:=v2
       have hmem:=List.mem_of_getElem? Hv.out
       have hmem2:=List.mem_of_getElem? hv2
       obtain ⟨ga',hga',hga1,hga2,r0,r1⟩:=HQ.out.chunk Hv.out
       obtain rfl:ga=ga':=by cases hga';rfl
       obtain ⟨gh',hgh',hgh1,hgh2,r2⟩:=HQ.out.slice Hv.out
       obtain rfl:gh=gh':=by cases hgh';rfl
       obtain ⟨ga',hga',-,-,r3,r4⟩:=HQ.out.chunk hv2
       obtain rfl:ga=ga':=by cases hga';rfl
       obtain ⟨gh',hgh',-,-,r5⟩:=HQ.out.slice hv2
       obtain rfl:gh=gh':=by cases hgh';rfl
       have r2:wk.cell? ⟨gh,i,none⟩=some (.slice A' sn sc):=r2
       have r5:wk.cell? ⟨gh,k,none⟩=some (.slice A2' sn2 sc2):=r5
       have hsl2:SlIn w ⟨A2',sn2,sc2⟩ l2:=(HQ.out.ld _ hmem2).2.2.2
       have hl2:l2.length≤65535:=by
        have h1:=(load_read (HQ.out.ld _ hmem2).1).choose_spec.2
        have h2:=(HQ.out.ld _ hmem2).2.2.1
        simp only at h1 h2
        omega
       obtain ⟨D,hD⟩:∃ D,(l==l2)=D:=⟨_,rfl⟩
       have HSame:=Lh (by
        have h:=sameAny A' A2' sn sc sn2 sc2 l l2 wk.drew HSl.out.1 hsl2.1 (HSl.out.later HQ.out.bel.drew).2.1 (hsl2.later HQ.out.bel.drew).2.1 (by have:=HSl5.out;have h:=HSl.out.1;simp only at h;omega) (by have h:=hsl2.1;simp only at h;omega)
        rw [hD] at h
        exact h.mono (fun e w' hp=>⟨hp.1,(Below.refl _ _).drew.trans hp.2⟩):Calls Tryz.prog 18 #[.slice A' sn sc,.slice A2' sn2 sc2] wk.drew fun e w'=>e=.returned (.bool D)∧Below wk.heap.size wk w')
       obtain ⟨X1,hX1⟩:∃ X,(cb:Int)=X:=⟨_,rfl⟩
       obtain ⟨X2,hX2⟩:∃ X,(cl:Int)=X:=⟨_,rfl⟩
       obtain ⟨Y1,hY1⟩:∃ X,(cb2:Int)=X:=⟨_,rfl⟩
       obtain ⟨Y2,hY2⟩:∃ X,(cl2:Int)=X:=⟨_,rfl⟩
       have r0:wk.cell? ⟨ga,i*2,none⟩=some (.int .i64 X1):=by rw [←hX1];exact r0
       have r1:wk.cell? ⟨ga,i*2+1,none⟩=some (.int .i64 X2):=by rw [←hX2];exact r1
       have r3:wk.cell? ⟨ga,k*2,none⟩=some (.int .i64 Y1):=by rw [←hY1];exact r3
       have r4:wk.cell? ⟨ga,k*2+1,none⟩=some (.int .i64 Y2):=by rw [←hY2];exact r4
       have HD:=Lh (by
        have hu:=HUq.out _ hmem _ hmem2
        simp only [Prod.mk.injEq] at hu
        rw [←hX1,←hX2,←hY1,←hY2,←hD]
        by_cases e:l=l2
        ·left
         obtain ⟨e1,e2⟩:=hu.2 e
         exact ⟨by rw [e];simp,by rw [e1],by rw [e2]⟩
        ·right
         refine ⟨by simpa using e,?_⟩
         by_cases e1:cb=cb2
         ·right
          exact ⟨by rw [e1],beq_false_of_ne (fun e2=>e (hu.1 ⟨e1,by omega⟩))⟩
         ·left
          exact beq_false_of_ne (by omega):(D=true∧X1=Y1∧X2=Y2)∨(D=false∧((X1==Y1)=false∨(X1=Y1∧(X2==Y2)=false))))
       have S0:=Lh (⟨r2,r5⟩:wk.cell? ⟨gh,i,none⟩=some (.slice A' sn sc)∧wk.cell? ⟨gh,k,none⟩=some (.slice A2' sn2 sc2))
       have T0:=Lh (⟨r0,r1,r3,r4⟩:wk.cell? ⟨ga,i*2,none⟩=some (.int .i64 X1)∧wk.cell? ⟨ga,i*2+1,none⟩=some (.int .i64 X2)∧wk.cell? ⟨ga,k*2,none⟩=some (.int .i64 Y1)∧wk.cell? ⟨ga,k*2+1,none⟩=some (.int .i64 Y2))
       have KS:=Lh (fun (W:World) (hb:Below wk.heap.size wk W)=>(⟨(hb.cell (p:=⟨gh,i,none⟩) hgh1).trans S0.out.1,(hb.cell (p:=⟨gh,k,none⟩) hgh1).trans S0.out.2⟩:W.cell? ⟨gh,i,none⟩=some (.slice A' sn sc)∧W.cell? ⟨gh,k,none⟩=some (.slice A2' sn2 sc2)))
       have KT:=Lh (fun (W:World) (hb:Below wk.heap.size wk W)=>(⟨(hb.cell (p:=⟨ga,i*2,none⟩) hga1).trans T0.out.1,(hb.cell (p:=⟨ga,i*2+1,none⟩) hga1).trans T0.out.2.1,(hb.cell (p:=⟨ga,k*2,none⟩) hga1).trans T0.out.2.2.1,(hb.cell (p:=⟨ga,k*2+1,none⟩) hga1).trans T0.out.2.2.2⟩:
        W.cell? ⟨ga,i*2,none⟩=some (.int .i64 X1)∧W.cell? ⟨ga,i*2+1,none⟩=some (.int .i64 X2)∧W.cell? ⟨ga,k*2,none⟩=some (.int .i64 Y1)∧W.cell? ⟨ga,k*2+1,none⟩=some (.int .i64 Y2)))
       have j5:(k:Int)<(i:Int):=by omega
       have j6:(k:Int)<(m:Int):=by omega
       clear r0 r1 r2 r3 r4 r5 hX1 hX2 hY1 hY2 hmem hmem2 hv2 hga' hgh' hga1 hga2 hgh1 hgh2 hsl2 hl2 hD
       go_wp2_with fail
       go_region_held3 (fun W=>W.cell? ⟨gh,i,none⟩=some (.slice A' sn sc)∧W.cell? ⟨gh,k,none⟩=some (.slice A2' sn2 sc2))
        (first|(exact S0.out)|(exact S6.out)|go_keep)
        (first|(go_at_call 18;refine HSame.out.mono ?_;rintro e w6 ⟨rfl,hb6⟩;have S6:=Lh (KS.out w6 hb6);have T6:=Lh (KT.out w6 hb6);have HQ6:=Lh (HQ.out.later hb6);clear hb6))
       rcases HD.out with ⟨rfl,rfl,rfl⟩|⟨rfl,he|⟨rfl,he⟩⟩
       ·go_wp2_with fail
        go_region_held3 (fun W=>W.cell? ⟨ga,i*2,none⟩=some (.int .i64 X1)∧W.cell? ⟨ga,i*2+1,none⟩=some (.int .i64 X2)∧W.cell? ⟨ga,k*2,none⟩=some (.int .i64 X1)∧W.cell? ⟨ga,k*2+1,none⟩=some (.int .i64 X2))
         (first|(exact T6.out)|go_keep) (fail)
        go_wp2_with fail
        go_roundg (i-(k+1))
        case measure=>have:=HGk.out;omega
        case rel=>exact ⟨k+1,by omega,by omega,by go_num,HQ6.out.later (Below.refl _ _).drew⟩
       ·go_wp2_with fail
        go_region_held3 (fun W=>W.cell? ⟨ga,i*2,none⟩=some (.int .i64 X1)∧W.cell? ⟨ga,i*2+1,none⟩=some (.int .i64 X2)∧W.cell? ⟨ga,k*2,none⟩=some (.int .i64 Y1)∧W.cell? ⟨ga,k*2+1,none⟩=some (.int .i64 Y2))
         (first|(exact T6.out)|go_keep) (fail)
        go_wp2_with fail
        go_roundg (i-(k+1))
        case measure=>have:=HGk.out;omega
        case rel=>exact ⟨k+1,by omega,by omega,by go_num,HQ6.out.later (Below.refl _ _).drew⟩
       ·go_wp2_with fail
        go_region_held3 (fun W=>W.cell? ⟨ga,i*2,none⟩=some (.int .i64 X1)∧W.cell? ⟨ga,i*2+1,none⟩=some (.int .i64 X2)∧W.cell? ⟨ga,k*2,none⟩=some (.int .i64 X1)∧W.cell? ⟨ga,k*2+1,none⟩=some (.int .i64 Y2))
         (first|(exact T6.out)|go_keep) (fail)
        go_wp2_with fail
        go_roundg (i-(k+1))
        case measure=>have:=HGk.out;omega
        case rel=>exact ⟨k+1,by omega,by omega,by go_num,HQ6.out.later (Below.refl _ _).drew⟩
      ·obtain rfl:k=i:=by omega
       have j5:¬(k:Int)<(k:Int):=by omega
       clear hlt2
       go_wp2_with fail
       go_roundg (m-(k+1))
       case measure=>have:=HGg.out;omega
       case rel=>exact ⟨k+1,z,by omega,by omega,by go_num,HQ.out⟩
    ·obtain rfl:i=m:=by omega
     have j0:¬(i:Int)<(i:Int):=by omega
     have HLv:=Lh (lawLives wr)
     clear hlt
     go_wp2_with fail
     refine HLv.out.mono ?_
     rintro e w6 ⟨rfl,hb6⟩
     have HB6:=Lh hb6
     clear hb6
     go_wp2
     rw [←HRe.out]
     exact ⟨rfl,HQ.out.bel.trans (HB6.out.mono HQ.out.bel.size)⟩
end Go.Proofs.YtiihiocgbfafaaaGreat
namespace Go.Proofs.YtiihiocgbfafaaaGreat.cround
open Go.ChangeShapes Go.WideShapes Go.ChangeAt Go.RowKit
open Go.ChangeMaps (setBlock shut_map_nil open_string shut_string keptBut_setBlock frozen?_setBlock heap_setBlock_same)
theorem contract (H:Type) (enc:TypeId × Value→H) (W:World) (base:Nat) (args:Array Value) (ds gs:List (DataW H)) (before:List MemPlace)
 (hval:∀ (j:Nat) t v,Tryz.f5.params[j]? = some t→args[j]? = some v→Value.okWide Tryz.prog W .any base t v)
 (hW:DataW.Whole enc Tryz.prog Tryz.f5.params.toList Rows.chunksRoundSpec.vars false W args.toList ds gs before):
 Calls Tryz.prog 5 args W fun e W'=>∃ v,e=.returned v∧Rows.chunksRoundSpec.post enc Tryz.prog Tryz.f5 false true false false W args v W':=by
 have hW':=hW
 obtain ⟨p,q,hA0,hV,rfl,hfz,hnd⟩:=hW
 have hA:DataW.TrodAll enc Tryz.prog W 0 (fun _=>true) true Tryz.f5.params.toList args.toList ds p:=hA0
 rw [Tryz.params5] at hA hval
 obtain ⟨v0,vs0,d0,ds0,p0,q0,hargs,rfl,rfl,h0,r0⟩:=trodAll_cons hA
 obtain ⟨v1,vs1,d1,ds1,p1,q1,hargs1,rfl,rfl,h1,r1⟩:=trodAll_cons r0
 obtain ⟨rfl,rfl,rfl⟩:=trodAll_nil r1
 obtain rfl:vs0=[v1]:=hargs1
 obtain rfl:args=#[v0,v1]:=by cases args;simp_all
 obtain ⟨rfl,rfl⟩:=trodVars_none hV
 obtain ⟨A,n,c,L,rfl,hB,hc,hc2⟩:=open_bytess (hval 0 48 v0 rfl rfl) h0
 obtain ⟨A2,n2,c2,rfl,hB2,hc3,hc4⟩:=open_intarg (hval 1 43 v1 rfl rfl) h1
 clear hA0
 simp only [List.append_nil] at hW'
 refine (lawRound A n c L A2 n2 c2 W hB hB2 (by omega)).mono fun e W' ⟨he,hb⟩=>?_
 subst he
 have hlt0:∀ x∈p0,x.block<W.heap.size:=fun x hx=>hW'.lt x (by simp [hx])
 have hlt1:∀ x∈p1,x.block<W.heap.size:=fun x hx=>hW'.lt x (by simp [hx])
 exact ⟨_,rfl,post_kept2 hW' rfl (fun _ _ _=>trodAll_cons_mk (shut_bool Tryz.underlying4 _) trodAll_mk0) (by
  have:=trodAll_cons_mk (Below.trod laidOut readable_bytess row_bytess h0 hb hlt0) (trodAll_cons_mk (Below.trod laidOut readable_ints row_ints h1 hb hlt1) trodAll_mk0)
  simp only [List.append_nil] at this ⊢
  exact this) rfl hb⟩
theorem reads (os:Os) {H:Type} (enc:TypeId × Value→H):∃ places,DataW.whole enc Tryz.prog ((laidWorld os).forCall (fun _ _=>0) ⟨#[],#[.slice none 0 0,.slice none 0 0],[]⟩).memory Tryz.f5.params.toList Rows.chunksRoundSpec.vars false #[Value.slice none 0 0,.slice none 0 0].toList 8=some ([.nil,.nil],[],places):=
 ⟨[],by kernel_rfl⟩
theorem lifted (os:Os) (started:os.Started) (H:Type) (enc:TypeId × Value→H) (F:Stop.Interp):
 ReturnsInHanded {} Tryz.checked os 5 .any ((OpenSpec.ofChange Rows.chunksRoundSpec).preRow enc Tryz.prog Tryz.f5 Rows.chunksRoundRow.domain false Rows.chunksRoundRow.laid) (((OpenSpec.ofChange Rows.chunksRoundSpec).at F).post enc Tryz.prog Tryz.f5 false true false false):=by
 obtain ⟨places,hx⟩:=reads os enc
 refine returnsInHanded_of_row (C:=Tryz.checked) (s:=OpenSpec.ofChange Rows.chunksRoundSpec) own started (by kernel_rfl) Tryz.func5
  (witness_row_at (enc:=enc) (C:=Tryz.checked) false (laidWorld os) #[.slice none 0 0,.slice none 0 0] rfl (by kernel_rfl) (by kernel_rfl) (by kernel_rfl)
    (OpenSpec.preRow_of_cond 8 hx (by kernel_rfl) (fun k hk=>by cases hk) (by kernel_rfl) (show laidMet Tryz.prog [] _ from ⟨[],by first|trivial|exact rfl|simp [DataW.LaidVars],List.nodup_nil,fun b off h=>by cases h⟩))) ?_
 intro W base args ds gs before hval hW _ _ _ _ hsh _
 exact contract H enc W base args ds gs before hval hW
theorem said:Rows.ChunksRoundSaid:=
 OpenClaim.holds_of_cond 5 Tryz.f5 rfl rfl rfl rfl rfl rfl rfl ⟨rfl,rfl,rfl,rfl,rfl⟩ rfl rfl rfl rfl rfl (by kernel_rfl) Tryz.func5 (by kernel_rfl)
  (of_decide_eq_true (by kernel_rfl)) (by unfold Func.isWrapper;rw [if_neg (of_decide_eq_false (by kernel_rfl))];exact ⟨rfl,rfl⟩)
  (fun os started H enc _ F=>by rw [OpenClaim.pre_eq_preRow];exact lifted os started H enc F)
#print axioms said
end Go.Proofs.YtiihiocgbfafaaaGreat.cround
