/-
  The law ChunksUndo holds for every input: what is undone has not happened.
-/
import Derived.Test.YtiihiocgbfafaaaGreatKKn
import Derived.DeepKeys3
import Derived.Maps.OwnSet
import Derived.Shelf.SlIterI.Nil
import Derived.Shelf.SortM.Plain
import Derived.Shelf.SortM.SortNone
import Derived.Ground.GgzProg
import Derived.Ground.SlgmProg
import Derived.WalkMore
import Derived.WideKeyEntry
import Derived.Maps.Range
import Derived.Deep.CutBlock
import Derived.Deep.CutRange
import Derived.Deep.RegionHeld3
import Derived.ProofKit
import Derived.OpenShut
import Derived.Deep.DeepHandedRow
import Derived.Deep.SlicePairs
import Derived.Lib.SmallJoins
import Derived.Deep.Slices
set_option linter.unusedSimpArgs false
set_option linter.unusedVariables false
set_option maxHeartbeats 8000000
set_option maxRecDepth 100000
namespace Go.Proofs.YtiihiocgbfafaaaGreat
open Go.RowKit Go.Maps Go.ChangeMaps Go.MapKept Go.WideShapes
theorem MapT.At.clear {κ α:Type} {T:MapT κ α} {w:World} {b n:Nat} {f:κ→Option α} (h:T.At w b n f) (ty:TypeId):
 ∃ w',(Builtin.clear_ #[T.mt] ty #[.map (some b)]).run Tryz.prog w=.ok (.tuple #[]) w'∧T.At w' b 0 (fun _=>none)∧w.grownBy w' (some b):=by
 obtain ⟨D,⟨es,clock,hb,F,hs,rfl⟩,hsz,hdom,h2⟩:=h
 refine ⟨setBlock w b (.map #[] clock),?_,⟨.map [],⟨#[],clock,heap_setBlock_same hb _,⟨by simp,stamped_empty clock,by simp⟩,Nat.le_refl _,rfl⟩,rfl,fun l h=>?_,fun x _=>rfl⟩,⟨rfl,rfl,rfl,by simp [setBlock],fun i _ hi=>heap_setBlock_other hb _ (fun e=>hi (by rw [e]))⟩⟩
 ·simp [Builtin.clear_,run_underlying T.ht,MapKept.run_getObj_map hb,MapKept.run_setObj_map _ hb,Result.andThen]
  rfl
 ·rw [has_eq] at h
  cases h
open Go.Shelf
def Tryz.keysU_ren:Go.Shelf.Ren:=⟨fun|7=>51|10=>83|n=>n,fun|23=>85|26=>3|3=>88|28=>115|0=>0|27=>114|33=>52|4=>4|n=>n,fun|n=>n⟩
theorem Tryz.keysU:Go.Proofs.SlLaysZI.n7 Tryz.prog Tryz.keysU_ren:={
 mixed:=by kernel_rfl
 f7:=⟨Tryz.f51.name,by decide,Tryz.func51.trans (congrArg some (by kernel_rfl))⟩
 f10:=⟨Tryz.f83.name,by decide,Tryz.func83.trans (congrArg some (by kernel_rfl))⟩
 t0:=Tryz.underlying0
 a0:=Tryz.isAgg0
 z0:=Tryz.sizeOf0
 v0:=Tryz.zeroValue0
 t4:=Tryz.underlying4
 a4:=Tryz.isAgg4
 z4:=Tryz.sizeOf4
 v4:=Tryz.zeroValue4
 t23:=Tryz.underlying85
 a23:=Tryz.isAgg85
 z23:=Tryz.sizeOf85
 v23:=Tryz.zeroValue85
 t26:=Tryz.underlying3
 a26:=Tryz.isAgg3
 z26:=Tryz.sizeOf3
 v26:=Tryz.zeroValue3
 t27:=Tryz.underlying114
 a27:=Tryz.isAgg114
 z27:=Tryz.sizeOf114
 v27:=Tryz.zeroValue114
 t28:=Tryz.underlying115
 a28:=Tryz.isAgg115
 z28:=Tryz.sizeOf115
 v28:=Tryz.zeroValue115
 t33:=Tryz.underlying52
 a33:=Tryz.isAgg52
 z33:=Tryz.sizeOf52
 v33:=Tryz.zeroValue52 }
def Tryz.sortedU_ren:Go.Shelf.Ren:=⟨fun|6=>50|8=>81|9=>82|11=>115|13=>117|12=>116|23=>161|24=>162|14=>152|15=>153|16=>154|17=>155|18=>156|19=>157|20=>158|21=>159|22=>160|25=>174|26=>175|27=>176|28=>177|29=>178|30=>179|31=>183|n=>n,fun|26=>3|28=>115|24=>43|0=>0|3=>3|37=>129|48=>143|50=>142|4=>4|40=>255|39=>254|45=>104|5=>5|9=>9|51=>271|55=>275|57=>287|58=>189|33=>52|n=>n,fun|n=>n⟩
theorem Tryz.sortedU:Go.Proofs.SlLaysZI.n6 Tryz.prog Tryz.sortedU_ren:={
 mixed:=by kernel_rfl
 f6:=⟨Tryz.f50.name,by decide,Tryz.func50.trans (congrArg some (by kernel_rfl))⟩
 f8:=⟨Tryz.f81.name,by decide,Tryz.func81.trans (congrArg some (by kernel_rfl))⟩
 f11:=⟨Tryz.f115.name,by decide,Tryz.func115.trans (congrArg some (by kernel_rfl))⟩
 t0:=Tryz.underlying0
 a0:=Tryz.isAgg0
 z0:=Tryz.sizeOf0
 v0:=Tryz.zeroValue0
 t24:=Tryz.underlying43
 a24:=Tryz.isAgg43
 z24:=Tryz.sizeOf43
 v24:=Tryz.zeroValue43
 t26:=Tryz.underlying3
 a26:=Tryz.isAgg3
 z26:=Tryz.sizeOf3
 v26:=Tryz.zeroValue3
 t28:=Tryz.underlying115
 a28:=Tryz.isAgg115
 z28:=Tryz.sizeOf115
 v28:=Tryz.zeroValue115
 i26:=by kernel_rfl }
def Tryz.sortU_ren:Go.Shelf.Ren:=⟨fun|5=>82|8=>117|7=>116|19=>161|20=>162|10=>152|11=>153|12=>154|13=>155|14=>156|15=>157|16=>158|17=>159|18=>160|30=>174|31=>175|32=>176|33=>177|34=>178|35=>179|40=>183|n=>n,fun|23=>43|25=>3|3=>3|32=>129|22=>43|0=>0|44=>143|46=>142|4=>4|36=>255|35=>254|41=>104|5=>5|9=>9|53=>271|57=>275|63=>287|64=>189|n=>n,fun|n=>n⟩
theorem Tryz.sortU:Go.Proofs.SlLaysM.n5 Tryz.prog Tryz.sortU_ren:={
 mixed:=by kernel_rfl
 f5:=⟨Tryz.f82.name,by decide,Tryz.func82.trans (congrArg some (by kernel_rfl))⟩
 f7:=⟨Tryz.f116.name,by decide,Tryz.func116.trans (congrArg some (by kernel_rfl))⟩
 f8:=Tryz.func117.trans (congrArg some (by kernel_rfl))
 f10:=⟨Tryz.f152.name,by decide,Tryz.func152.trans (congrArg some (by kernel_rfl))⟩
 f11:=⟨Tryz.f153.name,by decide,Tryz.func153.trans (congrArg some (by kernel_rfl))⟩
 f12:=⟨Tryz.f154.name,by decide,Tryz.func154.trans (congrArg some (by kernel_rfl))⟩
 f13:=⟨Tryz.f155.name,by decide,Tryz.func155.trans (congrArg some (by kernel_rfl))⟩
 f14:=⟨Tryz.f156.name,by decide,Tryz.func156.trans (congrArg some (by kernel_rfl))⟩
 f15:=⟨Tryz.f157.name,by decide,Tryz.func157.trans (congrArg some (by kernel_rfl))⟩
 f16:=⟨Tryz.f158.name,by decide,Tryz.func158.trans (congrArg some (by kernel_rfl))⟩
 f17:=⟨Tryz.f159.name,by decide,Tryz.func159.trans (congrArg some (by kernel_rfl))⟩
 f18:=⟨Tryz.f160.name,by decide,Tryz.func160.trans (congrArg some (by kernel_rfl))⟩
 f19:=Tryz.func161.trans (congrArg some (by kernel_rfl))
 f20:=Tryz.func162.trans (congrArg some (by kernel_rfl))
 f30:=⟨Tryz.f174.name,by decide,Tryz.func174.trans (congrArg some (by kernel_rfl))⟩
 f31:=Tryz.func175.trans (congrArg some (by kernel_rfl))
 f32:=Tryz.func176.trans (congrArg some (by kernel_rfl))
 f33:=⟨Tryz.f177.name,by decide,Tryz.func177.trans (congrArg some (by kernel_rfl))⟩
 f34:=⟨Tryz.f178.name,by decide,Tryz.func178.trans (congrArg some (by kernel_rfl))⟩
 f35:=⟨Tryz.f179.name,by decide,Tryz.func179.trans (congrArg some (by kernel_rfl))⟩
 f40:=⟨Tryz.f183.name,by decide,Tryz.func183.trans (congrArg some (by kernel_rfl))⟩
 t0:=Tryz.underlying0
 a0:=Tryz.isAgg0
 z0:=Tryz.sizeOf0
 v0:=Tryz.zeroValue0
 t3:=Tryz.underlying3
 a3:=Tryz.isAgg3
 z3:=Tryz.sizeOf3
 v3:=Tryz.zeroValue3
 t4:=Tryz.underlying4
 a4:=Tryz.isAgg4
 z4:=Tryz.sizeOf4
 v4:=Tryz.zeroValue4
 t5:=Tryz.underlying5
 a5:=Tryz.isAgg5
 z5:=Tryz.sizeOf5
 v5:=Tryz.zeroValue5
 t9:=Tryz.underlying9
 a9:=Tryz.isAgg9
 z9:=Tryz.sizeOf9
 v9:=Tryz.zeroValue9
 t22:=Tryz.underlying43
 a22:=Tryz.isAgg43
 z22:=Tryz.sizeOf43
 v22:=Tryz.zeroValue43
 t23:=Tryz.underlying43
 a23:=Tryz.isAgg43
 z23:=Tryz.sizeOf43
 v23:=Tryz.zeroValue43
 t25:=Tryz.underlying3
 a25:=Tryz.isAgg3
 z25:=Tryz.sizeOf3
 v25:=Tryz.zeroValue3
 t32:=Tryz.underlying129
 a32:=Tryz.isAgg129
 z32:=Tryz.sizeOf129
 v32:=Tryz.zeroValue129
 t35:=Tryz.underlying254
 a35:=Tryz.isAgg254
 z35:=Tryz.sizeOf254
 v35:=Tryz.zeroValue254
 t36:=Tryz.underlying255
 a36:=Tryz.isAgg255
 z36:=Tryz.sizeOf255
 v36:=Tryz.zeroValue255
 t41:=Tryz.underlying104
 a41:=Tryz.isAgg104
 z41:=Tryz.sizeOf104
 v41:=Tryz.zeroValue104
 t44:=Tryz.underlying143
 a44:=Tryz.isAgg143
 z44:=Tryz.sizeOf143
 v44:=Tryz.zeroValue143
 t46:=Tryz.underlying142
 a46:=Tryz.isAgg142
 z46:=Tryz.sizeOf142
 v46:=Tryz.zeroValue142
 t53:=Tryz.underlying271
 a53:=Tryz.isAgg271
 z53:=Tryz.sizeOf271
 v53:=Tryz.zeroValue271
 t57:=Tryz.underlying275
 a57:=Tryz.isAgg275
 z57:=Tryz.sizeOf275
 v57:=Tryz.zeroValue275
 t63:=Tryz.underlying287
 a63:=Tryz.isAgg287
 z63:=Tryz.sizeOf287
 v63:=Tryz.zeroValue287
 t64:=Tryz.underlying189
 a64:=Tryz.isAgg189
 z64:=Tryz.sizeOf189
 v64:=Tryz.zeroValue189 }
open Go.Sort
theorem sortsU (m:Nat):AnyZI.SortsIn Tryz.prog Tryz.sortedU_ren Fence.wide m:=
 ⟨fun blk off cap ss W hH hblk hsz=>callsIn_wide.2 (AnyM.slices_Sort_int Tryz.sortU blk off cap ss W hH hblk hsz),
  fun p cap W=>callsIn_wide.2 (AnyM.slices_Sort_int_none Tryz.sortU p cap W)⟩
theorem mapsKeysU (mb:Option Nat) (W:World):Calls Tryz.prog 51 #[.map mb] W fun e w'=>e=.returned (.func (.func 83) #[] #[.pointer (some ⟨W.heap.size,0,none⟩)])∧w'=W.alloc (.cells #[.map mb] 85):=
 (callsIn_wide (n:=5)).1 (AnyZI.keys_in Tryz.keysU Fence.wide 5 trivial rfl mb W)
theorem sortedU {H:Type} (b nn:Nat) (D0:DataW H) (R:Value→Option (DataW H × List MemPlace)) (w:World) (hown:w.ownsMap Tryz.prog 3 R b nn D0) (hmax:Maps.size D0≤1000000000):
 Calls Tryz.prog 50 #[.func (.func 83) #[] #[.pointer (some ⟨w.heap.size,0,none⟩)]] (w.alloc (.cells #[.map (some b)] 85)) fun e w'=>∃ (v:Value) (ss:List Int),e=.returned v∧ss.Perm (intKeys D0) ∧
  w'.ownsRow w.heap.size 3 1 v ss.length ((ss.mergeSort (fun x y=>decide (x≤y))).map encZ)∧(v=.slice none 0 0↔ss=[])∧Below w.heap.size w w':=by
 have hbl:=hown.lt
 have hseq:SeqGives Fence.wide 2 Tryz.prog 83 #[.pointer (some ⟨w.heap.size,0,none⟩)] encZ (fun ss=>ss.Perm (intKeys D0)) (Maps.size D0) (w.alloc (.cells #[.map (some b)] 85)):=
  AnyZI.keys_gives (ρ:=Tryz.keysU_ren) { Tryz.keysU with } Fence.wide _ trivial rfl (by omega) w.heap.size b nn D0 _ (by simp) (by simp) (by
   obtain ⟨es,clock,hb,Ft,hs,hD⟩:=hown
   exact ⟨es,clock,(Below.heap_alloc _ _ b hbl).trans hb,Ft,hs,hD⟩)
 have cS:=AnyZI.sorted_in Tryz.sortedU Fence.wide 5 trivial trivial trivial trivial rfl (by omega) (sortsU _) (enters_of Tryz.func82 (by kernel_rfl) rfl) 83 #[.pointer (some ⟨w.heap.size,0,none⟩)] trivial (enters_of Tryz.func83 (by kernel_rfl) rfl) _ _ (by unfold maxLen;omega) (by omega) _ hseq
 change CallsIn _ _ Tryz.prog 50 _ _ _ at cS
 refine ((callsIn_wide (n:=5)).1 cS).mono ?_
 rintro e w' ⟨v,ss,rfl,hS,hrow,hnil,hb⟩
 exact ⟨v,ss,rfl,hS,ownsRow_base_a hrow (by simp),hnil,((Below.refl _ w).alloc nL _).trans (hb.mono (by simp))⟩
theorem mergeSort_asc {l:List Int} (h:l.Nodup):(l.mergeSort (fun x y=>decide (x≤y))).Pairwise (·<·):=by
 have tr:∀ a b c:Int,decide (a≤b)=true→decide (b≤c)=true→decide (a≤c)=true:=fun a b c h1 h2=>by simp only [decide_eq_true_eq] at *;omega
 have tq:∀ a b:Int,(decide (a≤b)||decide (b≤a))=true:=fun a b=>by simp only [Bool.or_eq_true,decide_eq_true_eq];omega
 have h1:=List.pairwise_mergeSort tr tq l
 have h2:(l.mergeSort (fun x y=>decide (x≤y))).Nodup:=(List.mergeSort_perm l _).nodup_iff.2 h
 have h3:=List.Pairwise.and h1 h2
 refine h3.imp (fun {a b} ⟨h4,h5⟩=>?_)
 simp only [decide_eq_true_eq] at h4
 have:a≠b:=h5
 omega
section
variable {α:Type} {mt et:TypeId} {ht:Tryz.prog.underlying mt=some (.map 3 et)} {vv:α→Value} {vinj:∀ a b,vv a=vv b→a=b} {zero:α} {hz:∀ w,(zeroValue et).run Tryz.prog w=.ok (vv zero) w}
variable {w:World} {b n:Nat} {f:Nat→Option α}
theorem IntT.asc {D:DataW α} (hD:(intKeys D).Nodup∧(intKeys D).length=n∧∀ x:Int,x∈intKeys D↔0≤x∧x<4611686018427387904∧(f x.toNat).isSome=true) {ss:List Int} (hp:ss.Perm (intKeys D)):
 ∃ ks:List Nat,(ss.mergeSort (fun x y=>decide (x≤y))).map encZ=ks.map natv∧ks.length=ss.length∧ks.length=n∧ks.Pairwise (·<·)∧∀ x,x∈ks↔x<4611686018427387904∧(f x).isSome=true:=by
 have hms:=List.mergeSort_perm ss (fun x y=>decide (x≤y))
 have hmem:∀ x:Int,x∈ss.mergeSort (fun x y=>decide (x≤y))↔0≤x∧x<4611686018427387904∧(f x.toNat).isSome=true:=fun x=>by
  rw [hms.mem_iff,hp.mem_iff];exact hD.2.2 x
 have hasc:=mergeSort_asc (hp.nodup_iff.2 hD.1)
 have hle:(ss.mergeSort (fun x y=>decide (x≤y))).length=ss.length:=List.length_mergeSort ss
 have hl2:=hp.length_eq
 refine ⟨(ss.mergeSort (fun x y=>decide (x≤y))).map Int.toNat,?_,by rw [List.length_map,hle],by rw [List.length_map,hle,hl2,hD.2.1],?_,fun x=>?_⟩
 ·rw [List.map_map]
  refine List.map_congr_left (fun x hx=>?_)
  show Value.int .i64 x=.int .i64 (x.toNat:Int)
  rw [Int.toNat_of_nonneg ((hmem x).1 hx).1]
 ·refine List.pairwise_map.2 (hasc.imp_of_mem fun {p q} hp hq hlt=>?_)
  have h3:=(hmem p).1 hp
  omega
 ·rw [List.mem_map]
  constructor
  ·rintro ⟨y,hy,rfl⟩
   have h3:=(hmem y).1 hy
   exact ⟨by omega,h3.2.2⟩
  ·rintro ⟨h0,h3⟩
   exact ⟨(x:Int),(hmem _).2 ⟨by omega,by omega,by rw [Int.toNat_natCast];exact h3⟩,Int.toNat_natCast x⟩
end
theorem sortedSet (b n:Nat) (f:Nat→Option Unit) (w:World) (h:SetT.At w b n f) (hn:n≤1000000000):
 Calls Tryz.prog 50 #[.func (.func 83) #[] #[.pointer (some ⟨w.heap.size,0,none⟩)]] (w.alloc (.cells #[.map (some b)] 85)) fun e w'=>∃ (A:OA) (c:Nat) (ks:List Nat),e=.returned (.slice A n c) ∧
  ks.length=n∧ks.Pairwise (·<·)∧(∀ x,x∈ks↔x<4611686018427387904∧(f x).isSome=true)∧Own w' w.heap.size 3 A n c (ks.map natv)∧Below w.heap.size w w':=by
 obtain ⟨D,h1,hsz,hD⟩:=IntT.keys h
 refine (sortedU b n D _ w h1 (by omega)).mono ?_
 rintro e w' ⟨v,ss,rfl,hp,hrow,hnil,hb⟩
 obtain ⟨ks,e1,e2,e3,e4,e5⟩:=IntT.asc hD hp
 rw [e1] at hrow
 have hform:∃ A c,v=.slice A n c:=by
  rcases hrow.2 with ⟨rfl,h0⟩|⟨g,cap,cur,rfl,-⟩
  ·exact ⟨none,0,by rw [←e3,e2,h0]⟩
  ·exact ⟨_,cap,by rw [←e3,e2]⟩
 obtain ⟨A,c,rfl⟩:=hform
 rw [←e2,e3] at hrow
 exact ⟨A,c,ks,rfl,e3,e4,e5,hrow,hb⟩
theorem writeV_other {vw:Nat→Option Bk} {b0:Nat} {r:List Nat} {n:Nat} {pk:List UInt8} {x:Nat} (h:x ∉ b0::r):writeV vw b0 r n pk x=vw x:=by
 simp only [List.mem_cons,not_or] at h
 unfold writeV
 rw [restV_other _ _ _ _ h.2]
 unfold setV
 rw [if_neg h.1]
theorem restL_same {vw vw':Nat→Option Bk} {size:Nat}:∀ (l:List Nat) (out o:List UInt8),restL vw size l out=some o→(∀ x∈l,vw' x=vw x)→restL vw' size l out=some o
 | [],out,o,h,_=>h
 | a::r,out,o,h,hs=>by
   unfold restL at h ⊢
   rw [hs a (by simp)]
   split at h
   ·rename_i b hb
    split at h
    ·rename_i hc
     rw [if_pos hc]
     exact restL_same r _ o h (fun x hx=>hs x (by simp [hx]))
    ·cases h
   ·cases h
theorem readL_same {vw vw':Nat→Option Bk} {b:Nat} {len:Int} {bs:List Nat} {o:List UInt8} (h:readL vw b len=some (bs,o)) (hs:∀ x∈bs,vw' x=vw x):readL vw' b len=some (bs,o):=by
 have hb:b∈bs:=by
  unfold readL at h
  split at h
  ·split at h
   ·split at h
    ·split at h
     ·obtain ⟨o',-,e⟩:=Option.map_eq_some_iff.1 h
      cases e
      simp
     ·cases h
    ·cases h
   ·cases h
  ·cases h
 unfold readL at h ⊢
 rw [hs b hb]
 split at h
 ·rename_i h1
  rw [if_pos h1]
  split at h
  ·rename_i y hy
   split at h
   ·rename_i h2
    rw [if_pos h2]
    split at h
    ·rename_i h3
     rw [if_pos h3]
     obtain ⟨o',ho,e⟩:=Option.map_eq_some_iff.1 h
     cases e
     rw [restL_same _ _ _ ho (fun x hx=>hs x (List.mem_cons_of_mem _ hx))]
     rfl
    ·cases h
   ·cases h
  ·cases h
 ·cases h
theorem q_Push (a : Addr) (w : World) : (method 411 157 (.pointer (some a)) "Push").run Tryz.prog w = .ok (213, .pointer (some a)) w := by kernel_rfl
theorem qUp (a:Alc) (A:OA) (N c:Nat) (l:List Nat) (j0:Nat) (w:World) (h:Que a w A N c l) (hN:N≤1000000) (hj:j0<N):
 Calls Tryz.prog 163 #[.iface 157 (.pointer (some ⟨a.g,2,none⟩)),.int .i64 (j0:Int)] w fun e w'=>(∃ v,e=.returned v)∧∃ l',Que a w' A N c l'∧l'.Perm l∧Chg (fun b=>bk A=some b) w w':=by
 have H0:=Lh h
 clear h
 go_enter Tryz.func163,Tryz.ntmps163
 go_wp2
 go_loopg [1] N (fun gg s1 wr=>∃ (j:Nat) (l':List Nat),s1=.int .i64 (j:Int)∧j≤gg∧j<N∧Que a wr A N c l'∧l'.Perm l∧Chg (fun b=>bk A=some b) w wr)
 case atStart=>exact ⟨j0,l,rfl,by omega,hj,H0.out,List.Perm.refl _,Chg.refl _ _⟩
 case round=>
  obtain ⟨j,l',rfl,hgg,hjN,hh,hp,hch⟩:=hrel
  have HH:=Lh hh
  have HP:=Lh hp
  have HC:=Lh hch
  have HLen:=Lh hh.own.length
  clear hh hp hch
  cases j with
  | zero=>
    go_wp2
    go_end0
    exact ⟨⟨_,rfl⟩,l',HH.out,HP.out,HC.out⟩
  | succ p=>
    obtain ⟨i,hi⟩:∃ i,p/2=i:=⟨_,rfl⟩
    have hpi:i≤p:=by omega
    have e1:IntKind.i64.wrap (((p+1:Nat):Int)-1)=(p:Int):=by rw [wrapi64 (by omega) (by omega)];omega
    have e2:(p:Int)/2=(i:Int):=by omega
    have g1:((i:Int)==(p:Int)+1)=false:=bF (by omega)
    have hml:=q_Less HH.out.cell
    have hxi:l'[i]? = some (l'[i]'(by rw [HLen.out];omega)):=Zg _
    have hxj:l'[p+1]? = some (l'[p+1]'(by rw [HLen.out];omega)):=Zg _
    generalize l'[i]'(by rw [HLen.out];omega)=xi at hxi
    generalize l'[p+1]'(by rw [HLen.out];omega)=xj at hxj
    have HXi:=Lh hxi
    have HXj:=Lh hxj
    clear hxi hxj
    have HLa:Calls Tryz.prog 210 #[.slice A N c,.int .i64 ((p:Int)+1),.int .i64 (i:Int)] wr _:=numLess A N c l' (p+1) i xj xi wr HH.out.own HXj.out HXi.out
    have HLs:=Lh HLa
    clear HLa hi
    go_wp2_with fail
    refine HLs.out.mono ?_
    rintro e w2 ⟨rfl,q2,hw2⟩
    have HH2:=Lh (show Que a w2 A N c l' by rw [hw2];exact HH.out.below (below_drewN wr q2))
    have HC2:=Lh (show Chg (fun b=>bk A=some b) w w2 by rw [hw2];exact HC.out.tr (Chg.drewN _ _ _))
    clear hw2 HLs
    cases hlt:decide ((xj:Int)<(xi:Int)) with
    | false=>
      clear hml
      go_wp2
      go_end0
      exact ⟨⟨_,rfl⟩,l',HH2.out,HP.out,HC2.out⟩
    | true=>
      have hms:=q_Swap HH2.out.cell
      have HSc:Calls Tryz.prog 211 #[.slice A N c,.int .i64 (i:Int),.int .i64 ((p:Int)+1)] w2 _:=numSwap A N c l' i (p+1) xi xj w2 HH2.out.own HXi.out HXj.out
      have HSc2:=Lh HSc
      have HPm:=Lh (perm_swap HXi.out HXj.out)
      clear HSc
      go_wp2_with fail
      refine HSc2.out.mono ?_
      rintro e w3 ⟨⟨v3,rfl⟩,hrow3,hgr3⟩
      have HH3:=Lh (HH2.out.grown hgr3 hrow3)
      have HC3:=Lh (HC2.out.tr (Chg.of_grown hgr3 (fun b hb _=>hb)))
      clear hrow3 hgr3 HSc2 hms hml
      go_wp2
      go_roundg i
      case measure=>omega
      case rel=>exact ⟨i,_,rfl,Nat.le_refl _,by omega,HH3.out,HPm.out.trans HP.out,HC3.out⟩
theorem numPush (a:Alc) (A:OA) (n c:Nat) (l:List Nat) (x:Nat) (w:World) (h:Que a w A n c l) (hn:n≤1000000):
 Calls Tryz.prog 213 #[.pointer (some ⟨a.g,2,none⟩),.iface 3 (.int .i64 (x:Int))] w fun e w'=>(∃ v,e=.returned v)∧∃ A' c',Que a w' A' (n+1) c' (l++[x])∧NewTo w A A'∧Chg (a.wq A) w w':=by
 have hcell:=h.cell
 have hfx:=h.row.frozen 2
 have HH:=Lh h
 have hgl:=h.row.lt
 have HBa:=Lh ((Below.refl w.heap.size w).alloc nL (.cells #[.int .i64 (x:Int)] 3))
 have hta:=fun W=>assert_int (.int .i64 (x:Int)) W
 obtain ⟨wz,hwz⟩:∃ z,(w.alloc (.cells #[.int .i64 (x:Int)] 3)).drew=z:=⟨_,rfl⟩
 have HQz:=Lh (by rw [←hwz];exact h.below HBa.out.drew:Que a wz A n c l)
 have HBz:=Lh (by rw [←hwz];exact HBa.out.drew:Below w.heap.size w wz)
 have hnz:wz.cell? ⟨w.heap.size,0,none⟩=some (natv x):=by rw [←hwz];exact World.cell?_alloc_at _ _ _ _ rfl
 have Hnews:=Lh (show ∀ j v,(NumR.cl x)[j]? = some v→wz.cell? ((⟨w.heap.size,0,none⟩:Addr).add j)=some v from fun j v hv=>by
  have hj:j<1:=(Ze hv).1
  obtain rfl:j=0:=by omega
  cases hv
  rw [Addr.add_mid];exact hnz)
 have KC:=Lh (fun w' (hg:wz.grownBy w' (bk A))=>(show w'.cell? ⟨a.g,2,none⟩=some (.slice A n c)∧w'.frozen? ⟨a.g,2,none⟩=false from by
  have hk:=HQz.out.row.kept hg (fun e=>HQz.out.ne e)
  exact ⟨by have:=hk.cell 2;simpa [Alc.row] using this,hk.frozen 2⟩))
 have hcz:=HQz.out.cell
 clear h hnz
 go_enter Tryz.func213,Tryz.ntmps213
 go_wp2
 go_region_law (first|(refine NumR.step_append rfl _ _ rfl 0 A n c l x rfl HQz.out.own ⟨w.heap.size,0,none⟩ 1 rfl Hnews.out (by omega) (Nat.zero_le _) ?_;intro A6 c6 w6 hown6 hgr6 hnt6;have c7:=(KC.out _ hgr6).1;have f7:=(KC.out _ hgr6).2))
 all_goals
  go_wp2
  go_end0
  have hk6:=HQz.out.row.kept hgr6 (fun e=>HQz.out.ne e)
  have hcs:Chg (fun b=>b=a.g) w6 (w6.setCell ⟨a.g,2,none⟩ (.slice A6 (n+1) c6)):=Chg.setCell _ _ _ rfl
  have hA6:∀ q,bk A6=some q→bk A=some q∨wz.heap.size≤q:=fun q hq=>by
   rcases hnt6 with h|⟨k,h,hk⟩
   ·exact .inl (by rw [←h];exact hq)
   ·rw [h] at hq;cases hq;exact .inr hk
  have hne6:bk A6≠some a.g:=fun e=>by
   rcases hA6 _ e with h|h
   ·exact HH.out.ne h
   ·have:=HQz.out.row.lt;omega
  refine ⟨⟨_,rfl⟩,A6,c6,⟨?_,RowT.Own.chg (T:=NatR) hown6 hcs (fun k hk e=>hne6 (by rw [hk,e])),hne6⟩,?_,?_⟩
  ·have:=Blk.set hk6 2 (.slice A6 (n+1) c6)
   simpa [Alc.row] using this
  ·rcases hnt6 with h|⟨k,h,hk⟩
   ·exact .inl h
   ·exact .inr ⟨k,h,Nat.le_trans HBz.out.size hk⟩
  ·exact ((Chg.of_below HBz.out).trans (Chg.of_grown hgr6 (F:=fun b=>bk A=some b) (fun b hb _=>hb)) (fun k _ h=>.inr h)).trans hcs (fun k _ h=>.inl h)
theorem qPush (a:Alc) (A:OA) (N c:Nat) (l:List Nat) (x:Nat) (w:World) (h:Que a w A N c l) (hN:N≤999999):
 Calls Tryz.prog 118 #[.iface 157 (.pointer (some ⟨a.g,2,none⟩)),.iface 3 (.int .i64 (x:Int))] w fun e w'=>(∃ v,e=.returned v)∧∃ A' c' l',Que a w' A' (N+1) c' l'∧l'.Perm (x::l)∧NewTo w A A'∧Chg (a.wq A) w w':=by
 have HPu:=Lh (numPush a A N c l x w h (by omega))
 have hmp:=q_Push ⟨a.g,2,none⟩ w
 clear h
 go_enter Tryz.func118,Tryz.ntmps118
 go_wp2_with fail
 refine HPu.out.mono ?_
 rintro e w1 ⟨⟨v1,rfl⟩,A1,c1,hh1,hnt1,hc1⟩
 have hml:=q_Len hh1.cell
 have HLe:=Lh (numLen A1 (N+1) c1 w1)
 have HUp':=Lh (qUp a A1 (N+1) c1 (l++[x]) N w1 hh1 (by omega) (by omega))
 have HNT:=Lh hnt1
 have HC1:=Lh hc1
 have e1:IntKind.i64.wrap (((N+1:Nat):Int)-1)=(N:Int):=by rw [wrapi64 (by omega) (by omega)];omega
 clear hh1 hnt1 hc1 hmp HPu
 go_wp2_with fail
 refine HLe.out.mono ?_
 rintro e w2 ⟨rfl,hw2⟩
 obtain rfl:=hw2.symm
 go_wp2_with fail
 refine HUp'.out.mono ?_
 rintro e w3 ⟨⟨v3,rfl⟩,l3,hh3,hp3,hc3⟩
 have HH3:=Lh hh3
 have HP3:=Lh (hp3.trans (List.perm_append_singleton x l))
 have HC3:=Lh (HC1.out.trans hc3 (fun k hk e=>by
  rcases HNT.out with h|⟨q,h,hq⟩
  ·exact .inr (by rw [←h];exact e)
  ·have e:bk A1=some k:=e
   rw [h] at e;cases e;omega))
 clear hh3 hp3 hc3 hml e1 HUp'
 go_wp2
 go_end0
 exact ⟨⟨_,rfl⟩,A1,c1,l3,HH3.out,HP3.out,HNT.out,HC3.out⟩
theorem mem_take_succ {ks:List Nat} {i k:Nat} (hk:ks[i]? = some k) (n:Nat):n∈ks.take (i+1)↔n∈ks.take i∨n=k:=by
 rw [List.take_add_one,hk];simp
theorem not_mem_take {ks:List Nat} (hp:ks.Pairwise (·<·)) {i k:Nat} (hk:ks[i]? = some k):k ∉ ks.take i:=fun h=>by
 obtain ⟨j,hj,e⟩:=List.getElem_of_mem h
 have hj1:j<i:=by rw [List.length_take] at hj;omega
 obtain ⟨hi1,hi2⟩:=Ze hk
 have:=List.pairwise_iff_getElem.1 hp j i (by omega) hi1 hj1
 rw [List.getElem_take] at e
 omega
open Go.WideElems
theorem MapT.wpList_clear {κ α:Type} (T:MapT κ α) {w:World} {ops:Array Oper} {rest:List Oper} {o:Oper} {a:Act} {Q:Exit→Act→World→Prop} (hgd:o.guard=none) (m:Operand)
 (ho:o.op=.call { callee:=.builtin .clear,args:=#[m],argTypes:=#[T.mt] }) (b n:Nat) (f:κ→Option α) (hm:a.eval m=.map (some b)) (hown:T.At w b n f)
 (h:∀ w',T.At w' b 0 (fun _=>none)→w.grownBy w' (some b)→wpList Tryz.prog ops Q rest (a.put o.dst (.tuple #[])) w'):wpList Tryz.prog ops Q (o::rest) a w:=by
 refine wpList_plain hgd fun K hK=>?_
 obtain ⟨w',hrun,h2,h3⟩:=hown.clear o.type
 unfold Oper.wp execOp
 simp only [ho,resolve,invoke,builtin,Sem.run_bind,Sem.run_pure,Result.andThen_ok,List.map_toArray,List.map_cons,List.map_nil,hm,hrun]
 exact hK _ _ (h w' h2 h3)
theorem IntT.count_eq {α:Type} {mt et:TypeId} {ht:Tryz.prog.underlying mt=some (.map 3 et)} {vv:α→Value} {vinj:∀ a b,vv a=vv b→a=b} {zero:α} {hz:∀ w,(zeroValue et).run Tryz.prog w=.ok (vv zero) w}
 {w w':World} {b n b' n':Nat} {f g:Nat→Option α} (h:(IntT mt et ht vv vinj zero hz).At w b n f) (h':(IntT mt et ht vv vinj zero hz).At w' b' n' g) (e:∀ x,(f x).isSome=(g x).isSome):n=n':=by
 obtain ⟨D,-,-,h1,h2,h3⟩:=IntT.keys h
 obtain ⟨D',-,-,h1',h2',h3'⟩:=IntT.keys h'
 rw [←h2,←h2']
 refine Nat.le_antisymm ?_ ?_
 ·exact nodup_len h1 (fun x hx=>(h3' x).2 (by have:=(h3 x).1 hx;rw [e] at this;exact this))
 ·exact nodup_len h1' (fun x hx=>(h3 x).2 (by have:=(h3' x).1 hx;rw [←e] at this;exact this))
theorem chunksFresh (s:Sto) (gc gm:Nat) (w:World) (h:s.Mem gc gm w) (hn:s.nF≤1000000000):
 Calls Tryz.prog 21 #[.pointer (some ⟨s.g,0,none⟩)] w fun e w'=>∃ (A:OA) (cc:Nat) (ks:List Nat),e=.returned (.slice A s.nF cc)∧ks.length=s.nF∧ks.Pairwise (·<·)∧(∀ x,x∈ks↔x<4611686018427387904∧(s.fr x).isSome=true) ∧
  Own w' w.heap.size 3 A s.nF cc (ks.map natv)∧Below w.heap.size w w':=by
 have k3:=h.cells.2.2.2.2.1
 have HK:=Lh (mapsKeysU (some s.gF) w)
 have HS:=Lh (sortedSet s.gF s.nF s.fr w h.mF hn)
 clear h
 go_enter Tryz.func21,Tryz.ntmps21
 go_wp2_with fail
 refine HK.out.mono ?_
 rintro e w1 ⟨rfl,rfl⟩
 go_wp2_with fail
 refine HS.out.mono ?_
 rintro e w2 ⟨A,cc,ks,rfl,h1,h2,h3,h4,h5⟩
 go_wp2
 go_ret
 exact ⟨A,cc,ks,rfl,h1,h2,h3,h4,h5⟩
def Sto.beg (s:Sto):Sto:={ s with nF:=0,nD:=0,fr:=fun _=>none,fd:=fun _=>none }
theorem chunksBegin (s:Sto) (gc gm:Nat) (w:World) (h:s.Mem gc gm w):
 Calls Tryz.prog 20 #[.pointer (some ⟨s.g,0,none⟩)] w fun e w'=>e=.returned (.tuple #[])∧s.beg.Mem gc gm w'∧Chg s.wr w w':=by
 have k4:=h.cells.2.2.2.2.1
 obtain ⟨a1,a2,a3,a4,a5,a6,a7,a8,a9,a10⟩:=h.a3
 have HM:=Lh h
 have K5:=Lh (fun (w1:World) (hg:w.grownBy w1 (some s.gF))=>(cell_same (hg.block s.g h.row.lt (fun e=>a3 (by simpa using e)))).trans h.cells.2.2.2.2.2:∀ w1,w.grownBy w1 (some s.gF)→w1.cell? ⟨s.g,5,none⟩=some (.map (some s.gD)))
 clear h
 go_enter Tryz.func20,Tryz.ntmps20
 go_wp2_with (first|(refine MapT.wpList_clear SetT rfl _ rfl s.gF s.nF s.fr rfl HM.out.mF ?_;intro w1 hm1 hg1;have k5:=K5.out w1 hg1;clear k4;have hc1:Chg (fun b=>b=s.gF) w w1:=(Chg.of_grown hg1 (fun b hb _=>by cases hb;rfl));have HF1:=Lh (⟨hm1,hc1⟩:SetT.At w1 s.gF 0 (fun _=>none)∧Chg (fun b=>b=s.gF) w w1);have HD1:=Lh (HM.out.mD.chg hc1 (fun e=>a10 e.symm));clear hm1 hg1 hc1 K5)|(refine MapT.wpList_clear FdT rfl _ rfl s.gD s.nD s.fd rfl HD1.out ?_;intro w2 hm2 hg2))
 go_end0
 have hc2:Chg (fun b=>b=s.gD) w1 w2:=Chg.of_grown hg2 (fun b hb _=>by cases hb;rfl)
 have hc:Chg (fun b=>b=s.gF∨b=s.gD) w w2:=(HF1.out.2.mono (fun _ _ h=>.inl h)).trans hc2 (fun _ _ h=>.inr h)
 have h:=HM.out.upd (s':=s.beg) hc (by rintro (e|e);exact a3 e;exact a4 e) rfl rfl rfl rfl rfl (HM.out.mK.chg hc (by rintro (e|e);exact a6 e;exact a7 e)) (HM.out.mW.chg hc (by rintro (e|e);exact a8 e;exact a9 e)) (HF1.out.1.chg hc2 a10) hm2 []
  (fun d x hd hx=>.inl ⟨hx,rfl,fun q hq e=>HM.out.a1 q ⟨d,x,hd,hx,hq⟩ (e.elim (fun e=>.inr (.inr (.inr (.inl e)))) (fun e=>.inr (.inr (.inr (.inr e)))))⟩) HM.out.non HM.out.wl
 exact ⟨rfl,h.1,hc.mono (fun b _ e=>e.elim (fun e=>.inr (.inr (.inr (.inl e)))) (fun e=>.inr (.inr (.inr (.inr e)))))⟩
theorem RowT.wpList_slice_lo {α:Type} (T:RowT α) {w:World} {ops:Array Oper} {rest:List Oper} {o:Oper} {a:Act} {Q:Exit→Act→World→Prop} (hgd:o.guard=none) (s lo:Operand)
 (ho:o.op=.slice T.st s (some lo) none none) (g n c k:Nat) (hs:a.eval s=.slice (some ⟨g,0,none⟩) n c) (hlo:a.eval lo=.int .i64 (k:Int)) (hk:k≤n) (hkc:k<c)
 (h:wpList Tryz.prog ops Q rest (a.put o.dst (.slice (some ⟨g,k*T.k,none⟩) (n-k) (c-k))) w):wpList Tryz.prog ops Q (o::rest) a w:=by
 refine wpList_plain hgd fun K hK=>?_
 obtain ⟨i,hi,-,h1,-⟩:=info_parts T.hi
 have he:Tryz.prog.elem T.st=T.e:=by simp [Program.elem,T.hu]
 have hrun:(Instr.sliceAt T.st (.slice (some ⟨g,0,none⟩) n c) (some (.int .i64 (k:Int))) none none).run Tryz.prog w=.ok (.slice (some ⟨g,k*T.k,none⟩) (n-k) (c-k)) w:=by
  have ht':Tryz.prog.underlying T.st=some (.slice (Tryz.prog.elem T.st)):=by rw [he];exact T.hu
  rw [run_sliceAt_slice w T.st _ _ _ _ ht',run_slice_l w T.st _ n c ht' .i64 (k:Int) (by omega) (by omega),he]
  simp [sizeOf,typeInfo,hi,h1,sliced,Result.andThen,add_none]
  omega
 unfold Oper.wp execOp
 simp only [ho,hs,hlo,hrun,Option.map_some,Option.map_none,Sem.run_bind,Sem.run_pure,Result.andThen_ok]
 exact hK _ _ h
theorem RowT.wpList_slice_hi {α:Type} (T:RowT α) {w:World} {ops:Array Oper} {rest:List Oper} {o:Oper} {a:Act} {Q:Exit→Act→World→Prop} (hgd:o.guard=none) (s hi:Operand)
 (ho:o.op=.slice T.st s none (some hi) none) (A:OA) (n c k:Nat) (hs:a.eval s=.slice A n c) (hhi:a.eval hi=.int .i64 (k:Int)) (hk:k≤c)
 (h:wpList Tryz.prog ops Q rest (a.put o.dst (.slice A k c)) w):wpList Tryz.prog ops Q (o::rest) a w:=by
 refine wpList_plain hgd fun K hK=>?_
 obtain ⟨i,hi',-,h1,-⟩:=info_parts T.hi
 have he:Tryz.prog.elem T.st=T.e:=by simp [Program.elem,T.hu]
 have hrun:(Instr.sliceAt T.st (.slice A n c) none (some (.int .i64 (k:Int))) none).run Tryz.prog w=.ok (.slice A k c) w:=by
  have ht':Tryz.prog.underlying T.st=some (.slice (Tryz.prog.elem T.st)):=by rw [he];exact T.hu
  rw [run_sliceAt_slice w T.st _ _ _ _ ht',run_slice_h w T.st A n c ht' .i64 (k:Int) (by omega) (by omega),he]
  simp [sizeOf,typeInfo,hi',h1,sliced,Result.andThen]
  cases A<;>simp [Addr.add]
 unfold Oper.wp execOp
 simp only [ho,hs,hhi,hrun,Option.map_some,Option.map_none,Sem.run_bind,Sem.run_pure,Result.andThen_ok]
 exact hK _ _ h
theorem cloLose (gb k:Nat) (p:Ck) (w:World) (hk:w.cell? ⟨gb,0,none⟩=some (natv k)) (hk2:k<4611686018427387904) (hp:p.1≤65535):
 Calls Tryz.prog 85 #[.agg #[.int .i64 (p.1:Int),.int .i64 (p.2:Int)],.pointer (some ⟨gb,0,none⟩)] w fun e w'=>e=.returned (.bool (decide (p.1=k)))∧Below w.heap.size w w':=by
 obtain ⟨b,len⟩:=p
 simp only at hp ⊢
 have hgl:=World.block_lt_of_cell? w _ hk
 have hb:Below w.heap.size w (w.alloc (.cells #[.int .i64 (b:Int),.int .i64 (len:Int)] 24)):=(Below.refl _ _).alloc nL _
 have hk':(w.alloc (.cells #[.int .i64 (b:Int),.int .i64 (len:Int)] 24)).cell? ⟨gb,0,none⟩=some (.int .i64 (k:Int)):=(hb.cell hgl).trans hk
 have HB:=Lh hb
 clear hk hb
 have e1:((b:Int)==(k:Int))=decide (b=k):=by
  by_cases h:b=k
  ·subst h;simp
  ·rw [qF h,beq_eq_false_iff_ne];omega
 go_enter Tryz.func85,Tryz.ntmps85
 go_wp2
 go_ret
 exact ⟨by simp,HB.out⟩
theorem idxLose (R:OA) (m rc gb k:Nat) (l:List Ck) (w:World) (hR:ChT.Own w 0 R m rc l) (hm:m≤1000000000) (hk:w.cell? ⟨gb,0,none⟩=some (natv k)) (hk2:k<4611686018427387904) (hp:∀ p∈l,p.1≤65535∧p.2≤65535):
 Calls Tryz.prog 40 #[.slice R m rc,.func (.func 85) #[] #[.pointer (some ⟨gb,0,none⟩)]] w fun e w'=>Below w.heap.size w w'∧((e=.returned (.int .i64 (-1))∧∀ p∈l,p.1≠k) ∨
  ∃ (i:Nat) (p:Ck),e=.returned (.int .i64 (i:Int))∧i<m∧(l[i]? = some p∧p.1=k)∧∀ j p,j<i→l[j]? = some p→p.1≠k):=by
 obtain ⟨Q,hQ⟩:∃ Q,(fun (e:Ending) (w':World)=>Below w.heap.size w w'∧((e=.returned (.int .i64 (-1))∧∀ p∈l,p.1≠k) ∨
  ∃ (i:Nat) (p:Ck),e=.returned (.int .i64 (i:Int))∧i<m∧(l[i]? = some p∧p.1=k)∧∀ j p,j<i→l[j]? = some p→p.1≠k))=Q:=⟨_,rfl⟩
 rw [hQ]
 have HRe:=Lh hQ
 have hll:=hR.length
 have HR:=Lh hR
 have HP:=Lh hp
 have HK:=Lh hk
 have hgl:=World.block_lt_of_cell? w _ hk
 clear hR hp hQ hk
 go_enter Tryz.func40,Tryz.ntmps40
 go_wp2_with fail
 go_loopg [8] m (fun gg s8 wr=>∃ i:Nat,i≤m∧m-i≤gg∧s8=.int .i64 (i:Int)∧Below w.heap.size w wr∧∀ j p,j<i→l[j]? = some p→p.1≠k)
 case atStart=>exact ⟨0,Nat.zero_le _,by omega,rfl,Below.refl _ _,fun j p hj=>by omega⟩
 case round=>
  obtain ⟨i,hi,hgg,rfl,hN,hno⟩:=hrel
  have HN:=Lh hN
  have HNo:=Lh hno
  have hsz:=hN.size
  clear hno hN
  by_cases hlt:i<m
  ·obtain ⟨p,hpi⟩:∃ p,l[i]? = some p:=⟨l[i]'(by omega),Zg (by omega)⟩
   obtain ⟨gR,rfl,hgR1,hgR2,hrg,-⟩:=(HR.out.later HN.out).range hpi
   have hp12:=HP.out p (List.mem_of_getElem? hpi)
   have HXi:=Lh hpi
   have HCl:=Lh (cloLose gb k p wr ((HN.out.cell hgl).trans HK.out) hk2 hp12.1)
   obtain ⟨b,len⟩:=p
   have r0:wr.cell? ⟨gR,i*2,none⟩=some (.int .i64 (b:Int)):=hrg 0 _ rfl
   have r1:wr.cell? ⟨gR,i*2+1,none⟩=some (.int .i64 (len:Int)):=hrg 1 _ rfl
   have j0:(i:Int)<m:=by omega
   have HG:=Lh hgg
   clear hrg hpi hgg
   go_wp2_with fail
   refine HCl.out.mono ?_
   rintro e w1 ⟨rfl,hb1⟩
   have HB1:=Lh (HN.out.trans (hb1.mono hsz))
   clear hb1 HCl r0 r1
   simp only
   by_cases he:b=k
   ·have hd:decide (b=k)=true:=qT he
    have He:=Lh he
    rw [hd]
    clear hd he
    go_wp2
    rw [←HRe.out]
    exact ⟨HB1.out,.inr ⟨i,(b,len),rfl,hlt,⟨HXi.out,He.out⟩,HNo.out⟩⟩
   ·have hd:decide (b=k)=false:=qF he
    have He:=Lh he
    rw [hd]
    clear hd he
    go_wp2
    go_roundg (m-(i+1))
    case measure=>have:=HG.out;omega
    case rel=>
     refine ⟨i+1,by omega,by omega,by go_num,HB1.out,fun j p hj hp=>?_⟩
     by_cases hji:j<i
     ·exact HNo.out j p hji hp
     ·obtain rfl:j=i:=by omega
      rw [HXi.out] at hp
      cases hp
      exact He.out
  ·obtain rfl:i=m:=by omega
   go_wp2
   rw [←HRe.out]
   refine ⟨HN.out,.inl ⟨rfl,fun p hp=>?_⟩⟩
   obtain ⟨j,hj,rfl⟩:=List.getElem_of_mem hp
   exact HNo.out j _ (by omega) (Zg hj)
def delLPost (R:OA) (rc k:Nat) (l:List Ck) (w:World) (e:Ending) (w':World):Prop:=
 ∃ m,e=.returned (.slice R m rc)∧ChT.Own w' 0 R m rc (l.filter (fun p=>decide (p.1≠k)))∧Chg (fun q=>bk R=some q) w w'
theorem delLose (R:OA) (m rc gb k:Nat) (l:List Ck) (w:World) (hR:ChT.Own w 0 R m rc l) (hm:m≤1000000000) (hk:w.cell? ⟨gb,0,none⟩=some (natv k)) (hgb:bk R≠some gb) (hk2:k<4611686018427387904) (hp:∀ p∈l,p.1≤65535∧p.2≤65535):
 Calls Tryz.prog 84 #[.slice R m rc,.func (.func 85) #[] #[.pointer (some ⟨gb,0,none⟩)]] w (delLPost R rc k l w):=by
 obtain ⟨Q,hQ⟩:∃ Q,delLPost R rc k l w=Q:=⟨_,rfl⟩
 rw [hQ]
 have HRe:=Lh hQ
 have hll:=hR.length
 have HR:=Lh hR
 have HP:=Lh hp
 have HK:=Lh hk
 have HI:=Lh (idxLose R m rc gb k l w hR hm hk hk2 hp)
 have hcap:=hR.cap
 have hgl:=World.block_lt_of_cell? w _ hk
 clear hR hp hQ hk
 go_enter Tryz.func84,Tryz.ntmps84
 go_wp2_with fail
 refine HI.out.mono ?_
 rintro e w1 ⟨hb1,⟨rfl,hno⟩|⟨i0,p0,rfl,hi0,⟨hp0,hp0k⟩,hno⟩⟩
 ·have hf:l.filter (fun p=>decide (p.1≠k))=l:=List.filter_eq_self.2 (fun p hp=>by simpa using hno p hp)
  have Hf:=Lh hf
  have HB1:=Lh hb1
  clear hno hf hb1
  go_wp2
  rw [←HRe.out]
  exact ⟨m,rfl,by rw [Hf.out];exact HR.out.later HB1.out,Chg.of_below HB1.out⟩
 ·obtain ⟨g,rfl⟩:∃ g,R=some ⟨g,0,none⟩:=by
   rcases HR.out.form with ⟨-,h0,-⟩|h
   ·omega
   ·exact h
  have HB1:=Lh hb1
  have HO1:=Lh (HR.out.later hb1)
  have g1:((i0:Int)==-1)=false:=bF (by omega)
  have hst:l.take i0=(l.take (i0+1)).filter (fun p=>decide (p.1≠k)):=by
   rw [List.take_add_one,hp0,List.filter_append]
   have h1:(l.take i0).filter (fun p=>decide (p.1≠k))=l.take i0:=List.filter_eq_self.2 (fun p hp=>by
    obtain ⟨j,hj,rfl⟩:=List.getElem_of_mem hp
    rw [List.length_take] at hj
    have:=hno j _ (by omega) (Zg (by omega))
    rw [List.getElem_take]
    simpa using this)
   rw [h1];simp [hp0k]
  have Hst:=Lh hst
  have hgl2:gb≠g:=fun e=>hgb (by rw [e];rfl)
  have hsw1:=hb1.size
  have HK1:=Lh ((hb1.cell hgl).trans HK.out)
  clear hst hno hp0 hp0k hgb HI hb1
  go_wp2_with fail
  go_loopg [5,6] m (fun gg s5 s6 wr=>∃ (i j:Nat) (L:List Ck),s5=.int .i64 (i:Int)∧s6=.int .i64 (j:Int)∧i<j∧j≤m∧m-j≤gg∧ChT.Own wr 0 (some ⟨g,0,none⟩) m rc L∧L.take i=(l.take j).filter (fun p=>decide (p.1≠k))∧L.drop j=l.drop j∧Chg (fun q=>q=g) w1 wr)
  case atStart=>exact ⟨i0,i0+1,l,rfl,by go_num,by omega,by omega,by omega,HO1.out,Hst.out,rfl,Chg.refl _ _⟩
  case round=>
   obtain ⟨i,j,L,rfl,rfl,hij,hj,hgg,hO,ht,hd,hg⟩:=hrel
   have HO2:=Lh hO
   have HT:=Lh ht
   have HD:=Lh hd
   have HG:=Lh hg
   have hLl:L.length=m:=hO.length
   have hsg:=hg.size
   have hcb:wr.cell? ⟨gb,0,none⟩=some (natv k):=(cell_same (hg.block gb (by show gb<_;omega) (fun e=>hgl2 e))).trans HK1.out
   have HCb:=Lh hcb
   clear ht hd hg hcb
   by_cases hlt:j<m
   ·have hxj:l[j]? = some (l[j]'(by omega)):=Zg _
    have hLj:L[j]? = some (l[j]'(by omega)):=by
     have h1:=congrArg (fun l=>l[0]?) HD.out
     simp only [List.getElem?_drop,Nat.add_zero] at h1
     rw [h1,hxj]
    generalize l[j]'(by omega)=x at hxj hLj
    obtain ⟨g',hgg',-,hgr,hrg,-⟩:=hO.range hLj
    cases hgg'
    obtain ⟨xb,xl⟩:=x
    have r0:wr.cell? ⟨g,j*2,none⟩=some (.int .i64 (xb:Int)):=hrg 0 _ rfl
    have r1:wr.cell? ⟨g,j*2+1,none⟩=some (.int .i64 (xl:Int)):=hrg 1 _ rfl
    obtain ⟨y,hLi⟩:∃ y,L[i]? = some y:=⟨L[i]'(by omega),Zg (by omega)⟩
    obtain ⟨g',hgg',-,-,hrg2,-⟩:=hO.range hLi
    cases hgg'
    obtain ⟨yb,yl⟩:=y
    have q0:wr.cell? ⟨g,i*2,none⟩=some (.int .i64 (yb:Int)):=hrg2 0 _ rfl
    have q1:wr.cell? ⟨g,i*2+1,none⟩=some (.int .i64 (yl:Int)):=hrg2 1 _ rfl
    have hbA:Below wr.heap.size wr (wr.alloc (.cells #[.int .i64 (xb:Int),.int .i64 (xl:Int)] 24)):=(Below.refl _ _).alloc nL _
    have HBA:=Lh hbA
    have hx2:=HP.out _ (List.mem_of_getElem? hxj)
    have HC:=Lh (cloLose gb k (xb,xl) _ ((hbA.cell (show gb<wr.heap.size by omega)).trans HCb.out) hk2 hx2.1)
    have HXj:=Lh hxj
    have j0:(j:Int)<m:=by omega
    have j1:(i:Int)<m:=by omega
    have HVA:=Lh (Blk.new wr 24 #[.int .i64 (xb:Int),.int .i64 (xl:Int)])
    have Hq:=Lh (⟨q0,q1⟩:wr.cell? ⟨g,i*2,none⟩=some (.int .i64 (yb:Int))∧wr.cell? ⟨g,i*2+1,none⟩=some (.int .i64 (yl:Int)))
    clear hxj hLj hrg hO hrg2 hLi hbA q0 q1
    go_wp2_with fail
    refine HC.out.mono ?_
    rintro e w2 ⟨rfl,hb2⟩
    have HB2:=Lh (HBA.out.trans (hb2.mono (by simp)))
    have HV2:=Lh (HVA.out.later hb2)
    have p0:=HV2.out.cell 0
    have p1:=HV2.out.cell 1
    simp only [Zt,Zz,Zs] at p0 p1
    have q0:w2.cell? ⟨g,i*2,none⟩=some (.int .i64 (yb:Int)):=(HB2.out.cell hgr).trans Hq.out.1
    have q1:w2.cell? ⟨g,i*2+1,none⟩=some (.int .i64 (yl:Int)):=(HB2.out.cell hgr).trans Hq.out.2
    have HO3:=Lh (HO2.out.later HB2.out)
    have f0:w2.frozen? ⟨g,i*2,none⟩=false:=World.ownsRow.frozenAt HO3.out (i*2)
    have f1:w2.frozen? ⟨g,i*2+1,none⟩=false:=World.ownsRow.frozenAt HO3.out (i*2+1)
    have HG2:=Lh (HG.out.trans (Chg.of_below (F:=Fp.none) HB2.out) (fun _ _ h=>h.elim))
    clear hb2 HC r0 r1
    simp only
    by_cases he:xb=k
    ·have hde:decide (xb=k)=true:=qT he
     have He:=Lh he
     rw [hde]
     clear he hde
     go_wp2
     go_roundg (m-(j+1))
     case measure=>omega
     case rel=>
      refine ⟨i,j+1,L,rfl,by go_num,by omega,by omega,by omega,HO3.out,?_,?_,HG2.out⟩
      ·rw [HT.out,List.take_add_one,HXj.out,List.filter_append]
       simp [He.out]
      ·have h1:=congrArg (fun l=>l.drop 1) HD.out
       simpa [List.drop_drop] using h1
    ·have hde:decide (xb=k)=false:=qF he
     have He:=Lh he
     rw [hde]
     clear he hde
     go_wp2
     go_roundg (m-(j+1))
     case measure=>omega
     case rel=>
      obtain ⟨hP,hPg⟩:=HO3.out.put (i:=i) (by omega) (xb,xl)
      have hsc:w2.setCells g (i*ChT.k) (ChT.cl (xb,xl))=(w2.setCell ⟨g,i*2,none⟩ (.int .i64 (xb:Int))).setCell ⟨g,i*2+1,none⟩ (.int .i64 (xl:Int)):=rfl
      rw [hsc] at hP hPg
      refine ⟨i+1,j+1,L.set i (xb,xl),by go_num,by go_num,by omega,by omega,by omega,hP,?_,?_,HG2.out.tr (Chg.of_grown hPg (fun b hb _=>by cases hb;rfl))⟩
      ·rw [List.take_add_one,List.take_add_one,HXj.out,List.filter_append,←HT.out,List.take_set_of_le nL,List.getElem?_set_self (by omega)]
       simp [He.out]
      ·rw [List.drop_set_of_lt (by omega)]
       have h1:=congrArg (fun l=>l.drop 1) HD.out
       simpa [List.drop_drop] using h1
   ·obtain rfl:j=m:=by omega
    have hT2:L.take i=l.filter (fun p=>decide (p.1≠k)):=by rw [HT.out,List.take_of_length_le (by omega)]
    have HT2:=Lh hT2
    clear hT2 hlt hO
    go_wp2_with (first|(refine ChT.wpList_slice_lo rfl _ _ rfl g j rc i rfl rfl (by omega) (by omega) ?_)|(refine ChT.wpList_clear rfl _ rfl 0 g j rc i (rc-i) L HO2.out (by omega) (fun w=>Tryz.zeroValue24 w) (fun v hv=>by simp [ChT,Value.cells] at hv;subst hv;rfl) rfl ?_;intro w3 hO3 hg3)|(refine ChT.wpList_slice_hi rfl _ _ rfl (some ⟨g,0,none⟩) j rc i rfl rfl (by omega) ?_))
    rw [←HRe.out]
    refine ⟨i,rfl,by rw [←HT2.out];exact hO3,((Chg.of_below HB1.out).trans HG.out (fun q _ e=>by rw [e];rfl)).trans (Chg.of_grown (F:=fun q=>q=g) hg3 (fun b hb _=>by cases hb;rfl)) (fun q _ e=>by rw [e];rfl)⟩
def Sto.lose (s:Sto) (dg:List UInt8) (n:Nat) (x:Sl) (nK nW:Nat):Sto:=
 { s with nK:=nK,nW:=nW,kn:=fun d=>if d=dg then some x else s.kn d,kl:=fun d=>if d=dg then (s.kl dg).filter (fun p=>decide (p.1≠n)) else s.kl d,wh:=fun y=>if y=n then none else s.wh y }
def losePost (s:Sto) (gc gm:Nat) (n:Nat) (w:World) (e:Ending) (w':World):Prop:=
 (s.wh n=none∧e=.returned (.bool false)∧s.Mem gc gm w'∧Below w.heap.size w w') ∨
 ∃ dg x nK nW,s.wh n=some dg∧e=.returned (.bool true)∧nK≤s.nK+1∧(s.lose dg n x nK nW).Mem gc gm w'∧Chg s.fp w w'∧∀ b,(s.lose dg n x nK nW).fp b→s.fp b∨w.heap.size≤b
theorem chunksLose (s:Sto) (gc gm n:Nat) (w:World) (h:s.Mem gc gm w) (hn:n≤65535) (hK:s.nK<1000000000) (hl:∀ d,(s.kl d).length≤1000000000) (hp:∀ d,∀ p∈s.kl d,p.1≤65535∧p.2≤65535):
 Calls Tryz.prog 52 #[.pointer (some ⟨s.g,0,none⟩),.int .i64 (n:Int)] w (losePost s gc gm n w):=by
 have HM:=Lh h
 have HP:=Lh hp
 have Hl:=Lh hl
 obtain ⟨R,hR⟩:∃ R,losePost s gc gm n w=R:=⟨_,rfl⟩
 rw [hR]
 have HRe:=Lh hR
 clear h hR hp hl
 go_enter Tryz.func52,Tryz.ntmps52
 go_wp2_with fail
 obtain ⟨wB,hwB⟩:∃ x,w.alloc (.cells #[.int .i64 (n:Int)] 3)=x:=⟨_,rfl⟩
 have HBB:=Lh (by rw [←hwB];exact (Below.refl _ _).alloc nL _:Below w.heap.size w wB)
 have HNB:=Lh (by rw [←hwB];exact Blk.new w 3 #[.int .i64 (n:Int)]:Blk wB w.heap.size 3 #[.int .i64 (n:Int)])
 rw [hwB]
 clear hwB
 have HMB:=Lh (HM.out.later HBB.out)
 obtain ⟨-,-,-,k3,-,-⟩:=HMB.out.cells
 have p0:=HNB.out.cell 0
 simp only [Zt,Zz,Zs] at p0
 have hbf:n<4611686018427387904:=by omega
 obtain ⟨G0,hG0⟩:∃ G,WhT.get s.wh n=G:=⟨_,rfl⟩
 obtain ⟨GV,hGV⟩:∃ V,G0.map u8v=V:=⟨_,rfl⟩
 obtain ⟨IS,hIS⟩:∃ q,(s.wh n).isSome=q:=⟨_,rfl⟩
 have HGV:=Lh (⟨hG0,hGV,hIS⟩:WhT.get s.wh n=G0∧G0.map u8v=GV∧(s.wh n).isSome=IS)
 have hG0l:G0.length=32:=by
  rw [←hG0]
  unfold MapT.get
  cases hw:s.wh n with
  | none=>rfl
  | some x=>exact HM.out.wl n x hw
 have hGVl:GV.length=32:=by rw [←hGV,List.length_map];exact hG0l
 have HL:=Lh (fun (W:World) (hb:Below wB.heap.size wB W)=>(by
  have h:=MapT.At.look_ok (HMB.out.later hb).mW (p:=n) hbf
  rw [hG0,hIS] at h
  show _=Result.ok (Value.tuple #[.agg GV.toArray,.bool IS]) W
  rw [←hGV]
  exact h:(Instr.lookup 98 (.map (some s.gW)) (.int .i64 (n:Int)) true).run Tryz.prog W=.ok (Value.tuple #[.agg GV.toArray,.bool IS]) W))
 have L0:=HL.out wB.drew (Below.refl _ _).drew
 have L1:=HL.out (wB.alloc (.cells #[.int .u8 0,.int .u8 0,.int .u8 0,.int .u8 0,.int .u8 0,.int .u8 0,.int .u8 0,.int .u8 0,.int .u8 0,.int .u8 0,.int .u8 0,.int .u8 0,.int .u8 0,.int .u8 0,.int .u8 0,.int .u8 0,.int .u8 0,.int .u8 0,.int .u8 0,.int .u8 0,.int .u8 0,.int .u8 0,.int .u8 0,.int .u8 0,.int .u8 0,.int .u8 0,.int .u8 0,.int .u8 0,.int .u8 0,.int .u8 0,.int .u8 0,.int .u8 0] 93)).drew ((Below.refl _ _).alloc nL _).drew
 have g1o:∀ v∈GV,v.oneCell'=true:=by rw [←hGV];exact u8_one _
 have HZ:=Lh (show Blk (wB.alloc (.cells #[.int .u8 0,.int .u8 0,.int .u8 0,.int .u8 0,.int .u8 0,.int .u8 0,.int .u8 0,.int .u8 0,.int .u8 0,.int .u8 0,.int .u8 0,.int .u8 0,.int .u8 0,.int .u8 0,.int .u8 0,.int .u8 0,.int .u8 0,.int .u8 0,.int .u8 0,.int .u8 0,.int .u8 0,.int .u8 0,.int .u8 0,.int .u8 0,.int .u8 0,.int .u8 0,.int .u8 0,.int .u8 0,.int .u8 0,.int .u8 0,.int .u8 0,.int .u8 0] 93)).drew wB.heap.size 93 #[.int .u8 0,.int .u8 0,.int .u8 0,.int .u8 0,.int .u8 0,.int .u8 0,.int .u8 0,.int .u8 0,.int .u8 0,.int .u8 0,.int .u8 0,.int .u8 0,.int .u8 0,.int .u8 0,.int .u8 0,.int .u8 0,.int .u8 0,.int .u8 0,.int .u8 0,.int .u8 0,.int .u8 0,.int .u8 0,.int .u8 0,.int .u8 0,.int .u8 0,.int .u8 0,.int .u8 0,.int .u8 0,.int .u8 0,.int .u8 0,.int .u8 0,.int .u8 0] from Blk.new wB 93 _)
 have g1t:(wB.alloc (.cells #[.int .u8 0,.int .u8 0,.int .u8 0,.int .u8 0,.int .u8 0,.int .u8 0,.int .u8 0,.int .u8 0,.int .u8 0,.int .u8 0,.int .u8 0,.int .u8 0,.int .u8 0,.int .u8 0,.int .u8 0,.int .u8 0,.int .u8 0,.int .u8 0,.int .u8 0,.int .u8 0,.int .u8 0,.int .u8 0,.int .u8 0,.int .u8 0,.int .u8 0,.int .u8 0,.int .u8 0,.int .u8 0,.int .u8 0,.int .u8 0,.int .u8 0,.int .u8 0] 93)).drew.there wB.heap.size 0 GV.length:=fun j hj=>by
  rw [hGVl] at hj
  refine ⟨?_,HZ.out.frozen _⟩
  rw [HZ.out.cell,Nat.zero_add]
  simp [hj]
 have g1i:Option.map (fun x=>x.size) (Tryz.prog.info? 93)=some GV.length:=by rw [hGVl];kernel_rfl
 have HBC:=Lh (by
  refine Below.trans (b:=(wB.alloc (.cells #[.int .u8 0,.int .u8 0,.int .u8 0,.int .u8 0,.int .u8 0,.int .u8 0,.int .u8 0,.int .u8 0,.int .u8 0,.int .u8 0,.int .u8 0,.int .u8 0,.int .u8 0,.int .u8 0,.int .u8 0,.int .u8 0,.int .u8 0,.int .u8 0,.int .u8 0,.int .u8 0,.int .u8 0,.int .u8 0,.int .u8 0,.int .u8 0,.int .u8 0,.int .u8 0,.int .u8 0,.int .u8 0,.int .u8 0,.int .u8 0,.int .u8 0,.int .u8 0] 93)).drew) ((Below.refl _ _).alloc nL _).drew ?_
  exact (Chg.setCells _ 0 GV).below (fun k e=>Nat.le_of_eq e.symm) (by show wB.heap.size≤(wB.alloc _).heap.size;simp):Below wB.heap.size wB ((wB.alloc (.cells #[.int .u8 0,.int .u8 0,.int .u8 0,.int .u8 0,.int .u8 0,.int .u8 0,.int .u8 0,.int .u8 0,.int .u8 0,.int .u8 0,.int .u8 0,.int .u8 0,.int .u8 0,.int .u8 0,.int .u8 0,.int .u8 0,.int .u8 0,.int .u8 0,.int .u8 0,.int .u8 0,.int .u8 0,.int .u8 0,.int .u8 0,.int .u8 0,.int .u8 0,.int .u8 0,.int .u8 0,.int .u8 0,.int .u8 0,.int .u8 0,.int .u8 0,.int .u8 0] 93)).drew.setCells wB.heap.size 0 GV))
 have HRA:=Lh (World.rangeAt_setCells_same _ wB.heap.size 0 GV g1t)
 have KC:=Lh (⟨(HBC.out.cell HMB.out.row.lt).trans k3,(HBC.out.cell HNB.out.lt).trans p0⟩:((wB.alloc (.cells #[.int .u8 0,.int .u8 0,.int .u8 0,.int .u8 0,.int .u8 0,.int .u8 0,.int .u8 0,.int .u8 0,.int .u8 0,.int .u8 0,.int .u8 0,.int .u8 0,.int .u8 0,.int .u8 0,.int .u8 0,.int .u8 0,.int .u8 0,.int .u8 0,.int .u8 0,.int .u8 0,.int .u8 0,.int .u8 0,.int .u8 0,.int .u8 0,.int .u8 0,.int .u8 0,.int .u8 0,.int .u8 0,.int .u8 0,.int .u8 0,.int .u8 0,.int .u8 0] 93)).drew.setCells wB.heap.size 0 GV).cell? ⟨s.g,3,none⟩=some (.map (some s.gW))∧((wB.alloc (.cells #[.int .u8 0,.int .u8 0,.int .u8 0,.int .u8 0,.int .u8 0,.int .u8 0,.int .u8 0,.int .u8 0,.int .u8 0,.int .u8 0,.int .u8 0,.int .u8 0,.int .u8 0,.int .u8 0,.int .u8 0,.int .u8 0,.int .u8 0,.int .u8 0,.int .u8 0,.int .u8 0,.int .u8 0,.int .u8 0,.int .u8 0,.int .u8 0,.int .u8 0,.int .u8 0,.int .u8 0,.int .u8 0,.int .u8 0,.int .u8 0,.int .u8 0,.int .u8 0] 93)).drew.setCells wB.heap.size 0 GV).cell? ⟨w.heap.size,0,none⟩=some (.int .i64 (n:Int)))
 clear hG0 hGV hIS
 refine Code.wp_mono (Q:=fun e a W=>e=.normal∧a=⟨#[.pointer (some ⟨s.g,0,none⟩),.int .i64 (n:Int),undef,.pointer (some ⟨w.heap.size,0,none⟩),.bool false,.pointer (some ⟨wB.heap.size,0,none⟩),.bool IS,.tuple #[.agg GV.toArray,.bool IS],.pointer (some ⟨s.g,0,none⟩),.pointer (some ⟨s.g,0,none⟩),.pointer (some ⟨s.g,3,none⟩),.map (some s.gW),.int .i64 (n:Int),.tuple #[.agg GV.toArray,.bool IS],.agg GV.toArray,.bool IS,undef,undef,undef,undef,undef,undef,undef,undef,undef,undef,undef,undef,undef,undef,undef,undef,undef,undef,undef,undef],[]⟩∧Below wB.heap.size wB W∧W.rangeAt wB.heap.size 0 GV) ?imp ?reg
 case reg=>
  go_region_held3 (fun W=>W.cell? ⟨s.g,3,none⟩=some (.map (some s.gW))∧W.cell? ⟨w.heap.size,0,none⟩=some (.int .i64 (n:Int))) (first|(exact ⟨k3,p0⟩)|(exact KC.out)|go_keep) (fail)
  all_goals exact ⟨rfl,rfl,HBC.out,HRA.out⟩
 case imp=>
  clear g1o g1t g1i HZ KC HBC L0 L1 HL k3 p0 HRA
  rintro e a wC ⟨rfl,rfl,hbC,hrC⟩
  have HBC:=Lh (HBB.out.trans (hbC.mono HBB.out.size))
  have HMC:=Lh (HMB.out.later hbC)
  have HNC:=Lh (HNB.out.later hbC)
  have hsB:w.heap.size<wB.heap.size:=HNB.out.lt
  have hsC:wB.heap.size<wC.heap.size:=World.block_lt_of_cell? wC _ (hrC 0 _ (Zg (by omega)))
  clear hbC HMB HNB
  cases IS with
  | false=>
    have hwn:s.wh n=none:=by
     have:=HGV.out.2.2
     cases hw:s.wh n with
     | none=>rfl
     | some x=>rw [hw] at this;cases this
    have HWn:=Lh hwn
    clear hwn hrC
    go_wp2
    rw [←HRe.out]
    exact .inl ⟨HWn.out,rfl,HMC.out,HBC.out⟩
  | true=>
    have hwn:s.wh n=some G0:=by
     have h1:=HGV.out.2.2
     have h2:=HGV.out.1
     unfold MapT.get at h2
     cases hw:s.wh n with
     | none=>rw [hw] at h1;cases h1
     | some x=>rw [hw] at h2;rw [←h2];rfl
    have HWn:=Lh hwn
    have hdv:digv G0=.agg GV.toArray:=by unfold digv;rw [HGV.out.2.1]
    have HDv:=Lh hdv
    clear hwn hdv
    go_wp2_with fail
    obtain ⟨-,-,k2,-,-,-⟩:=HMC.out.cells
    have HRC:=Lh hrC
    have hm3:=HM.out.a3
    obtain ⟨p,m,c,hget,hown,hpb⟩:∃ p m c,KnT.get s.kn G0=⟨p,m,c⟩∧ChT.Own wC 0 p m c (s.kl G0)∧(∀ q,bk p=some q→q<w.heap.size∧¬s.wr q∧∃ x0,s.kn G0=some x0∧bk x0.p=some q):=by
     cases hvn:s.kn G0 with
     | none=>
       refine ⟨none,0,0,by unfold MapT.get;rw [hvn];rfl,?_,fun q hq=>(by cases hq)⟩
       rw [HM.out.non G0 hG0l hvn]
       exact RowT.Own.nil _ _ _
     | some x=>
       have h1:=HM.out.own G0 x hG0l hvn
       exact ⟨x.p,x.n,x.c,by unfold MapT.get;rw [hvn];rfl,HMC.out.own G0 x hG0l hvn,fun q hq=>⟨(h1.lt hq).2,HM.out.a1 q ⟨G0,x,hG0l,hvn,hq⟩,x,rfl,hq⟩⟩
    have hml:=hown.length
    have hm9:m≤1000000000:=by rw [←hml];exact Hl.out G0
    have Hpb:=Lh hpb
    have hgKl:s.gK<w.heap.size:=HM.out.wr_lt (.inr (.inl rfl))
    have hgl:s.g<w.heap.size:=HM.out.wr_lt (.inl rfl)
    have hpK:bk p≠some s.gK:=fun e=>(Hpb.out _ e).2.1 (.inr (.inl rfl))
    have KS:=Lh (fun (W W':World) (F:Fp) (hsz:wC.heap.size≤W.heap.size) (hg:Chg F W W') (hr:∀ q,F q→q=s.gK∨bk p=some q) (h:W.cell? ⟨s.g,2,none⟩=some (.map (some s.gK))∧W.rangeAt wB.heap.size 0 GV)=>(by
     have key:∀ k,k<wC.heap.size→k≠s.gK→bk p≠some k→W'.heap[k]? = W.heap[k]? := fun k hk h1 h2=>hg.block k (by omega) (fun e=>(hr k e).elim h1 h2)
     have e1:=key s.g (by omega) hm3.1 (fun e=>(Hpb.out _ e).2.1 (.inl rfl))
     have e2:=key wB.heap.size hsC (by omega) (fun e=>by have:=(Hpb.out _ e).1;omega)
     exact ⟨(cell_same e1).trans h.1,rangeAt_same h.2 e2⟩:W'.cell? ⟨s.g,2,none⟩=some (.map (some s.gK))∧W'.rangeAt wB.heap.size 0 GV))
    have L0:(Instr.lookup 97 (.map (some s.gK)) (.agg GV.toArray) false).run Tryz.prog wC.drew=.ok (.slice p m c) wC.drew:=by
     have h:=MapT.At.look (w:=wC.drew) (show KnT.At wC.drew s.gK s.nK s.kn from HMC.out.mK) (p:=G0) hG0l
     rw [hget] at h
     rw [←HDv.out]
     exact h
    have HDel:=Lh (delLose p m c w.heap.size n (s.kl G0) wC.drew (show ChT.Own wC.drew 0 p m c (s.kl G0) from hown) hm9 (by have:=HNC.out.cell 0;simpa [natv] using this) (fun e=>by have:=(Hpb.out _ e).1;omega) hbf (HP.out G0))
    have HUp:=Lh (fun (w2:World) (m':Nat) (hc:Chg (fun q=>bk p=some q) wC.drew w2)=>(by
     obtain ⟨w3,h1,h2,h3⟩:=MapT.At.set_run (T:=KnT) (w:=w2) ((show KnT.At wC.drew s.gK s.nK s.kn from HMC.out.mK).chg hc hpK) hK (p:=G0) hG0l ⟨p,m',c⟩ inferInstance
     rw [show KnT.kv G0=.agg GV.toArray from HDv.out] at h1
     exact ⟨w3,_,h1,by split<;>omega,h2,h3⟩:∃ (w3:World) (nK:Nat),(Instr.mapUpdate 97 (.map (some s.gK)) (.agg GV.toArray) (.slice p m' c)).run Tryz.prog w2=.ok () w3∧nK≤s.nK+1∧KnT.At w3 s.gK nK (fun y=>if y=G0 then some ⟨p,m',c⟩ else s.kn y)∧w2.grownBy w3 (some s.gK)))
    have K2:∀ W:World,W.rangeAt wB.heap.size 0 GV→(Instr.loadAt 93 (.pointer (some ⟨wB.heap.size,0,none⟩))).run Tryz.prog W=.ok (.agg GV.toArray) W:=fun W h=>run_loadAt_mid W wB.heap.size 0 93 GV _ h Tryz.underlying93 rfl (by rw [hGVl];kernel_rfl)
    have hu93:=Tryz.underlying93
    have hi93:(Tryz.prog.info? 93).map (·.size)=some GV.length:=by rw [hGVl];kernel_rfl
    clear hown hpb hget
    refine Code.wp_mono (Q:=fun e a W=>e=.normal∧∃ (m' nK':Nat) (v27 v28 v29:Value),a=⟨#[.pointer (some ⟨s.g,0,none⟩),.int .i64 (n:Int),undef,.pointer (some ⟨w.heap.size,0,none⟩),.bool false,.pointer (some ⟨wB.heap.size,0,none⟩),.bool true,.tuple #[.agg GV.toArray,.bool true],.pointer (some ⟨s.g,0,none⟩),.pointer (some ⟨s.g,0,none⟩),.pointer (some ⟨s.g,3,none⟩),.map (some s.gW),.int .i64 (n:Int),.tuple #[.agg GV.toArray,.bool true],.agg GV.toArray,.bool true,.bool true,.pointer (some ⟨s.g,0,none⟩),.pointer (some ⟨s.g,0,none⟩),.pointer (some ⟨s.g,2,none⟩),.map (some s.gK),.agg GV.toArray,.pointer (some ⟨s.g,0,none⟩),.pointer (some ⟨s.g,0,none⟩),.pointer (some ⟨s.g,2,none⟩),.map (some s.gK),.agg GV.toArray,v27,v28,v29,undef,undef,undef,undef,undef,undef],[]⟩∧nK'≤s.nK+1∧KnT.At W s.gK nK' (fun y=>if y=G0 then some ⟨p,m',c⟩ else s.kn y)∧ChT.Own W 0 p m' c ((s.kl G0).filter (fun q=>decide (q.1≠n)))∧Chg (fun q=>q=s.gK∨bk p=some q) wC W) ?imp ?reg
    case reg=>
     refine wp_region_noPanic ?_
     refine wp_region_held_drew (S:=(fun W=>W.cell? ⟨s.g,2,none⟩=some (.map (some s.gK))∧W.rangeAt wB.heap.size 0 GV)) (by kernel_rfl) ⟨k2,hrC⟩ (fun hHeld=>?_)
     refine wpAnyH_take (i := 0) (oi := { dst := some 17, op := Op.move (Operand.tmp 0), type := 31, pos := "chunks.go:214", after := #[], guard := none }) (v := .pointer (some ⟨s.g, 0, none⟩)) rfl (by kernel_rfl) (by kernel_rfl) (by kernel_rfl) (fun _ _ _ h => h) (Or.inl ⟨by rfl, fun W hW => by obtain ⟨h1, h2⟩ := hW; go_simp⟩) (by assumption) ?_
     try simp only [Act.put,List.setIfInBounds_toArray,List.set_cons_zero,List.set_cons_succ]
     refine wpAnyH_take (i := 1) (oi := { dst := some 18, op := Op.nilCheck (Operand.tmp 17), type := 0, pos := "chunks.go:214", after := #[{ on := 0, ground := Ground.data }], guard := none }) (v := .pointer (some ⟨s.g, 0, none⟩)) rfl (by kernel_rfl) (by kernel_rfl) (by kernel_rfl) (fun _ _ _ h => h) (Or.inl ⟨by rfl, fun W hW => by obtain ⟨h1, h2⟩ := hW; go_simp⟩) (by assumption) ?_
     try simp only [Act.put,List.setIfInBounds_toArray,List.set_cons_zero,List.set_cons_succ]
     refine wpAnyH_take (i := 2) (oi := { dst := some 19, op := Op.fieldAddr 101 (Operand.tmp 18) 2, type := 0, pos := "chunks.go:214", after := #[{ on := 1, ground := Ground.data }], guard := none }) (v := .pointer (some ⟨s.g, 2, none⟩)) rfl (by kernel_rfl) (by kernel_rfl) (by kernel_rfl) (fun _ _ _ h => h) (Or.inl ⟨by rfl, fun W hW => by obtain ⟨h1, h2⟩ := hW; go_simp⟩) (by assumption) ?_
     try simp only [Act.put,List.setIfInBounds_toArray,List.set_cons_zero,List.set_cons_succ]
     refine wpAnyH_take (i := 3) (oi := { dst := some 20, op := Op.load 97 (Operand.tmp 19), type := 97, pos := "chunks.go:214", after := #[{ on := 2, ground := Ground.data }], guard := none }) (v := .map (some s.gK)) rfl (by kernel_rfl) (by kernel_rfl) (by kernel_rfl) (fun _ _ _ h => h) (Or.inl ⟨by rfl, fun W hW => by obtain ⟨h1, h2⟩ := hW; go_simp⟩) (by assumption) ?_
     try simp only [Act.put,List.setIfInBounds_toArray,List.set_cons_zero,List.set_cons_succ]
     refine wpAnyH_take (i := 4) (oi := { dst := some 21, op := Op.load 93 (Operand.tmp 5), type := 93, pos := "chunks.go:214", after := #[], guard := none }) (v := .agg GV.toArray) rfl (by kernel_rfl) (by kernel_rfl) (by kernel_rfl) (fun _ _ _ h => h) (yieldsIf_load_mid (by rfl) _ _ rfl _ _ rfl GV _ (fun W hW => hW.2) hu93 rfl hi93) (by assumption) ?_
     try simp only [Act.put,List.setIfInBounds_toArray,List.set_cons_zero,List.set_cons_succ]
     refine wpAnyH_take (i := 5) (oi := { dst := some 22, op := Op.move (Operand.tmp 0), type := 31, pos := "chunks.go:214", after := #[], guard := none }) (v := .pointer (some ⟨s.g, 0, none⟩)) rfl (by kernel_rfl) (by kernel_rfl) (by kernel_rfl) (fun _ _ _ h => h) (Or.inl ⟨by rfl, fun W hW => by obtain ⟨h1, h2⟩ := hW; go_simp⟩) (by assumption) ?_
     try simp only [Act.put,List.setIfInBounds_toArray,List.set_cons_zero,List.set_cons_succ]
     refine wpAnyH_take (i := 6) (oi := { dst := some 23, op := Op.nilCheck (Operand.tmp 22), type := 0, pos := "chunks.go:214", after := #[{ on := 5, ground := Ground.data }], guard := none }) (v := .pointer (some ⟨s.g, 0, none⟩)) rfl (by kernel_rfl) (by kernel_rfl) (by kernel_rfl) (fun _ _ _ h => h) (Or.inl ⟨by rfl, fun W hW => by obtain ⟨h1, h2⟩ := hW; go_simp⟩) (by assumption) ?_
     try simp only [Act.put,List.setIfInBounds_toArray,List.set_cons_zero,List.set_cons_succ]
     refine wpAnyH_take (i := 7) (oi := { dst := some 24, op := Op.fieldAddr 101 (Operand.tmp 23) 2, type := 0, pos := "chunks.go:214", after := #[{ on := 6, ground := Ground.data }], guard := none }) (v := .pointer (some ⟨s.g, 2, none⟩)) rfl (by kernel_rfl) (by kernel_rfl) (by kernel_rfl) (fun _ _ _ h => h) (Or.inl ⟨by rfl, fun W hW => by obtain ⟨h1, h2⟩ := hW; go_simp⟩) (by assumption) ?_
     try simp only [Act.put,List.setIfInBounds_toArray,List.set_cons_zero,List.set_cons_succ]
     refine wpAnyH_take (i := 8) (oi := { dst := some 25, op := Op.load 97 (Operand.tmp 24), type := 97, pos := "chunks.go:214", after := #[{ on := 7, ground := Ground.data }], guard := none }) (v := .map (some s.gK)) rfl (by kernel_rfl) (by kernel_rfl) (by kernel_rfl) (fun _ _ _ h => h) (Or.inl ⟨by rfl, fun W hW => by obtain ⟨h1, h2⟩ := hW; go_simp⟩) (by assumption) ?_
     try simp only [Act.put,List.setIfInBounds_toArray,List.set_cons_zero,List.set_cons_succ]
     refine wpAnyH_take (i := 9) (oi := { dst := some 26, op := Op.load 93 (Operand.tmp 5), type := 93, pos := "chunks.go:214", after := #[], guard := none }) (v := .agg GV.toArray) rfl (by kernel_rfl) (by kernel_rfl) (by kernel_rfl) (fun _ _ _ h => h) (yieldsIf_load_mid (by rfl) _ _ rfl _ _ rfl GV _ (fun W hW => hW.2) hu93 rfl hi93) (by assumption) ?_
     try simp only [Act.put,List.setIfInBounds_toArray,List.set_cons_zero,List.set_cons_succ]
     refine wpAnyH_take (i := 11) (oi := { dst := some 28, op := Op.makeFunc (Fn.func 85) #[] #[Operand.tmp 3], type := 95, pos := "chunks.go:214", after := #[], guard := none }) (v := .func (.func 85) #[] #[.pointer (some ⟨w.heap.size, 0, none⟩)]) rfl (by kernel_rfl) (by kernel_rfl) (by kernel_rfl) (fun _ _ _ h => h) (Or.inl ⟨by rfl, fun W hW => by obtain ⟨h1, h2⟩ := hW; go_simp⟩) (by assumption) ?_
     try simp only [Act.put,List.setIfInBounds_toArray,List.set_cons_zero,List.set_cons_succ]
     refine wpAnyH_ready (rs:=[10]) (by kernel_rfl) (by simp) ?_
     refine AllReadyH.cons (o := { dst := some 27, op := Op.lookup 97 (Operand.tmp 25) (Operand.tmp 26) false, type := 54, pos := "chunks.go:214", after := #[{ on := 8, ground := Ground.data }, { on := 9, ground := Ground.data }], guard := none }) rfl (fun K hK => ?_) AllReadyH.nil
     go_simp
     refine hK.out _ _ hHeld (fun hHeld=>?_)
     clear hK K
     try simp only [Act.put,List.setIfInBounds_toArray,List.set_cons_zero,List.set_cons_succ]
     refine wpAnyH_ready (rs:=[12]) (by kernel_rfl) (by simp) ?_
     refine AllReadyH.cons (o := { dst := some 29, op := Op.call { callee := Callee.value (Operand.func 84), args := #[Operand.tmp 27, Operand.tmp 28], argTypes := #[54, 95] }, type := 54, pos := "chunks.go:214", after := #[{ on := 10, ground := Ground.data }, { on := 11, ground := Ground.data }], guard := none }) rfl (fun K hK => ?_) AllReadyH.nil
     go_simp
     go_at_call 84
     refine HDel.out.mono ?_
     rintro e w2 ⟨m',rfl,ho2,hc2⟩
     obtain ⟨w3,nK',hr3,hnK',hat3,hg3⟩:=HUp.out w2 m' hc2
     have S2:=Lh (KS.out wC.drew w2 _ nL hc2 (fun q e=>.inr e) ⟨k2,HRC.out⟩)
     have S3:=Lh (KS.out w2 w3 (fun q=>q=s.gK) hc2.size (Chg.of_grown hg3 (fun q e _=>by cases e;rfl)) (fun q e=>.inl e) S2.out)
     refine hK.out _ _ S2.out (fun hHeld=>?_)
     clear hK K
     try simp only [Act.put,List.setIfInBounds_toArray,List.set_cons_zero,List.set_cons_succ]
     refine wpAnyH_ready (rs:=[13]) (by kernel_rfl) (by simp) ?_
     refine AllReadyH.cons (o := { dst := none, op := Op.mapUpdate 97 (Operand.tmp 20) (Operand.tmp 21) (Operand.tmp 29), type := 0, pos := "chunks.go:214", after := #[{ on := 3, ground := Ground.data }, { on := 4, ground := Ground.data }, { on := 12, ground := Ground.data }, { on := 12, ground := Ground.chain }, { on := 0, ground := Ground.phase }, { on := 1, ground := Ground.phase }, { on := 2, ground := Ground.phase }, { on := 3, ground := Ground.phase }, { on := 4, ground := Ground.phase }, { on := 5, ground := Ground.phase }, { on := 6, ground := Ground.phase }, { on := 7, ground := Ground.phase }, { on := 8, ground := Ground.phase }, { on := 9, ground := Ground.phase }, { on := 10, ground := Ground.phase }, { on := 11, ground := Ground.phase }, { on := 12, ground := Ground.phase }], guard := none }) rfl (fun K hK => ?_) AllReadyH.nil
     go_simp
     refine hK.out _ _ S3.out (fun hHeld=>?_)
     clear hK K
     try simp only [Act.put,List.setIfInBounds_toArray,List.set_cons_zero,List.set_cons_succ]
     refine wpAnyH_done (by kernel_rfl) ?_ _
     refine NoPanic.normal ?_
     have hcA:Chg (fun q=>q=s.gK∨bk p=some q) wC w3:=((show Chg (fun q=>bk p=some q) wC w2 from ⟨hc2.os,hc2.tape,hc2.output,hc2.size,hc2.block⟩).mono (fun _ _ h=>.inr h)).trans (Chg.of_grown (F:=fun q=>q=s.gK) hg3 (fun q e _=>by cases e;rfl)) (fun _ _ h=>.inl h)
     exact ⟨rfl,m',nK',_,_,_,rfl,hnK',hat3,ho2.kept hg3 (.inr hpK),hcA⟩
    case imp=>
     clear KS L0 HDel HUp K2 hu93 hi93 k2 hrC
     rintro e a w3 ⟨rfl,m',nK',v27,v28,v29,rfl,hnK',hat,ho,hch⟩
     have hsw3:=hch.size
     have hgW:s.gW<w.heap.size:=HM.out.wr_lt (.inr (.inr (.inl rfl)))
     have hnF:∀ q,s.wr q→q≠s.gK→¬(q=s.gK∨bk p=some q):=fun q h1 h2 h3=>h3.elim h2 (fun e=>(Hpb.out q e).2.1 h1)
     have hgWn:s.gW≠s.gK:=fun e=>hm3.2.2.2.2.1 e.symm
     have HW3:=Lh (HMC.out.mW.chg hch (hnF _ (.inr (.inr (.inl rfl))) hgWn))
     have hcg:Chg (fun q=>q=s.gK∨bk p=some q) wC w3:=hch
     have HN3:=Lh (Blk.chg HNC.out hcg (fun h3=>h3.elim (fun e=>by omega) (fun e=>by have:=(Hpb.out _ e).1;omega)))
     have k3':w3.cell? ⟨s.g,3,none⟩=some (.map (some s.gW)):=(cell_same (hch.block s.g (show s.g<wC.heap.size by omega) (hnF _ (.inl rfl) hm3.1))).trans HMC.out.cells.2.2.2.1
     have p0:=HN3.out.cell 0
     simp only [Zt,Zz] at p0
     have S4:=Lh (fun (w4:World) (hg:w3.grownBy w4 (some s.gW))=>(⟨(cell_same (hg.block s.g (show s.g<w3.heap.size by omega) (fun e=>hm3.2.1 (by simpa using e)))).trans k3',(cell_same (hg.block w.heap.size (show w.heap.size<w3.heap.size by omega) (fun e=>by have e2:w.heap.size=s.gW:=(by simpa using e);omega))).trans p0⟩:w4.cell? ⟨s.g,3,none⟩=some (.map (some s.gW))∧w4.cell? ⟨w.heap.size,0,none⟩=some (.int .i64 (n:Int))))
     have HF:=Lh (⟨hat,ho,hch⟩:_∧ChT.Own w3 0 p m' c ((s.kl G0).filter (fun q=>decide (q.1≠n)))∧Chg (fun q=>q=s.gK∨bk p=some q) wC w3)
     clear hat ho hch hcg
     go_wp2_with fail
     go_region_held3 (fun W=>W.cell? ⟨s.g,3,none⟩=some (.map (some s.gW))∧W.cell? ⟨w.heap.size,0,none⟩=some (.int .i64 (n:Int))) (first|(exact ⟨k3',p0⟩)|(exact S4.out w4 hg4)|go_keep)
      (first|(refine WhT.step_del rfl _ _ rfl s.gW s.nW s.wh rfl (show WhT.At w3.drew s.gW s.nW s.wh from HW3.out) n hbf rfl inferInstance ?_;intro w4 hat4 hg4d;have hg4:w3.grownBy w4 (some s.gW):=⟨hg4d.os,hg4d.tape,hg4d.output,hg4d.size,hg4d.block⟩))
     have h4c:Chg (fun q=>q=s.gW) w3 w4:=Chg.of_grown hg4 (fun q e _=>by cases e;rfl)
     have H4:=Lh (⟨hat4,h4c⟩:_∧Chg (fun q=>q=s.gW) w3 w4)
     clear hat4 h4c hg4 hg4d S4
     go_wp2
     rw [←HRe.out]
     obtain ⟨hat,ho,hch⟩:=HF.out
     obtain ⟨hat4,h4c⟩:=H4.out
     have hsub:∀ q,(q=s.gK∨bk p=some q)∨q=s.gW→s.fp q:=fun q h=>by
      rcases h with (h|h)|h
      ·exact .inl (.inr (.inl h))
      ·obtain ⟨-,-,x0,h1,h2⟩:=Hpb.out q h
       exact .inr ⟨G0,x0,hG0l,h1,h2⟩
      ·exact .inl (.inr (.inr (.inl h)))
     have hc:Chg (fun q=>(q=s.gK∨bk p=some q)∨q=s.gW) wC w4:=(hch.mono (fun _ _ h=>.inl h)).trans h4c (fun _ _ h=>.inr h)
     have hwn:∀ q,s.wr q→q≠s.gK→q≠s.gW→¬((q=s.gK∨bk p=some q)∨q=s.gW):=fun q h1 h2 h3 h=>by
      rcases h with (h|h)|h
      ·exact h2 h
      ·exact (Hpb.out q h).2.1 h1
      ·exact h3 h
     obtain ⟨a1,a2,a3,a4,a5,a6,a7,a8,a9,a10⟩:=hm3
     have hA4:∀ q,bk p=some q→¬q=s.gW:=fun q hq e=>(Hpb.out q hq).2.1 (.inr (.inr (.inl e)))
     have h:=HMC.out.upd (s':=s.lose G0 n ⟨p,m',c⟩ _ _) hc (hwn _ (.inl rfl) a1 a2) rfl rfl rfl rfl rfl (hat.chg h4c a5) hat4 (HMC.out.mF.chg hc (hwn _ (.inr (.inr (.inr (.inl rfl)))) (Ne.symm a6) (Ne.symm a8))) (HMC.out.mD.chg hc (hwn _ (.inr (.inr (.inr (.inr rfl)))) (Ne.symm a7) (Ne.symm a9))) G0
      (fun d x hdl hx=>by
        have hx:(if d=G0 then some (⟨p,m',c⟩:Sl) else s.kn d)=some x:=hx
        by_cases e:d=G0
        ·rw [if_pos e] at hx
         cases hx
         refine .inr ⟨e,?_,fun q hq=>.inr ?_⟩
         ·show ChT.Own w4 0 p m' c (if d=G0 then (s.kl G0).filter (fun q=>decide (q.1≠n)) else s.kl d)
          rw [if_pos e]
          exact ho.chg h4c hA4
         ·obtain ⟨-,-,x0,h1,h2⟩:=Hpb.out q hq
          exact ⟨x0,h1,h2⟩
        ·rw [if_neg e] at hx
         refine .inl ⟨hx,if_neg e,fun q hq h=>?_⟩
         rcases h with (h|h)|h
         ·exact HM.out.a1 q ⟨d,x,hdl,hx,hq⟩ (.inr (.inl h))
         ·obtain ⟨-,-,x0,h1,h2⟩:=Hpb.out q h
          exact HM.out.a2 d x G0 x0 q hdl hG0l e hx h1 hq h2
         ·exact HM.out.a1 q ⟨d,x,hdl,hx,hq⟩ (.inr (.inr (.inl h))))
      (fun d hdl hx=>by
        have hx:(if d=G0 then some (⟨p,m',c⟩:Sl) else s.kn d)=none:=hx
        show (if d=G0 then (s.kl G0).filter (fun q=>decide (q.1≠n)) else s.kl d)=[]
        by_cases e:d=G0
        ·rw [if_pos e] at hx;cases hx
        ·rw [if_neg e] at hx ⊢;exact HM.out.non d hdl hx)
      (fun y x hx=>by
        have hx:(if y=n then none else s.wh y)=some x:=hx
        by_cases e:y=n
        ·rw [if_pos e] at hx;cases hx
        ·rw [if_neg e] at hx;exact HM.out.wl y x hx)
     exact .inr ⟨G0,⟨p,m',c⟩,_,_,HWn.out,rfl,hnK',h.1,(Chg.of_below HBC.out).trans hc (fun q _ h=>hsub q h),fun q hq=>(h.2 q hq).imp id (fun h=>by omega)⟩
theorem count_set_one {S:List UInt8} {i:Nat} {x y:UInt8} (h:S[i]? = some x) (hx:x≠y):(S.set i y).count y=S.count y+1:=by
 obtain ⟨hi,rfl⟩:=Ze h
 rw [List.count_set hi]
 simp [hx]
def Amp.back (m:Amp) (i:Nat) (q:Sl) (Q:List Nat):Amp:=⟨{ m.a with free:=m.a.free+1 },m.S.set i 0,q,Q⟩
theorem Amp.back_st {m:Amp} {w:World} (h:m.Mem w) {i:Nat} (hi:i<m.a.len) (q:Sl) (Q:List Nat) (y:Nat):(m.back i q Q).st y=if y=m.a.least+i then some 0 else m.st y:=by
 have hl:=h.slen
 unfold Amp.st Amp.back
 simp only
 by_cases h1:m.a.least≤y
 ·rw [if_pos h1,if_pos h1,List.getElem?_set]
  by_cases e:y=m.a.least+i
  ·rw [if_pos e,if_pos (by omega),if_pos (by omega)]
  ·rw [if_neg e,if_neg (by omega)]
 ·rw [if_neg h1,if_neg h1,if_neg (by omega)]
theorem allocFrees (m:Amp) (i:Nat) (w:World) (h:m.Mem w) (hi:m.Inv) (hil:i<m.a.len) (hst:m.S[i]? = some 1) (hq:m.Q.length≤400000):
 Calls Tryz.prog 86 #[.pointer (some ⟨m.a.g,0,none⟩),.int .i64 ((m.a.least+i:Nat):Int)] w fun e w'=>(∃ v,e=.returned v)∧∃ (q:Sl) (Q:List Nat),(m.back i q Q).Mem w'∧(m.back i q Q).Inv∧Chg m.fp w w'∧(∀ b,bk q.p=some b→bk m.q.p=some b∨w.heap.size≤b)∧Q.length=m.Q.length+1:=by
 have HM:=Lh h
 have HI:=Lh hi
 have HSt:=Lh hst
 have hlo:=h.lo
 have hsl:=h.slen
 have hle:m.a.free≤65536:=by
  rw [hi.fr]
  have:=List.count_le_length (a:=(0:UInt8)) (l:=m.S)
  omega
 obtain ⟨c0,c1,c3,-⟩:=h.cells
 have d0:=Bs.cellD (OwnB.bs h.sts) (i:=i) (by show i<m.S.length;omega)
 rw [Nat.zero_add] at d0
 have f3:=h.que.row.frozen 3
 have hgS:m.a.gS≠m.a.g:=h.a1
 have fS:w.frozen? ⟨m.a.gS,i,none⟩=false:=World.ownsRow.frozenAt h.sts i
 obtain ⟨x,hx⟩:∃ x,m.a.least+i=x:=⟨_,rfl⟩
 rw [hx]
 have Hx:=Lh hx
 have e1:IntKind.i64.wrap ((x:Int)-m.a.least)=(i:Int):=by rw [wrapi64 (by omega) (by omega)];omega
 have e2:IntKind.i64.wrap ((m.a.free:Int)+1)=((m.a.free+1:Nat):Int):=by rw [wrapi64 (by omega) (by omega)];omega
 have j0:(0:Int)≤i:=by omega
 have j1:(i:Int)<m.a.len:=by omega
 clear h hi hst hx
 go_enter Tryz.func86,Tryz.ntmps86
 go_wp2_with fail
 go_region_held3 (fun W=>W.cell? ⟨m.a.g,0,none⟩=some (.int .i64 (m.a.least:Int))∧W.cell? ⟨m.a.g,1,none⟩=some (.slice (some ⟨m.a.gS,0,none⟩) m.a.len m.a.len)) (first|(exact ⟨c0,c1⟩)|(exact ⟨(World.cell?_setCell_far _ _ _ _ hgS).trans c0,(World.cell?_setCell_far _ _ _ _ hgS).trans c1⟩)) (fail)
 obtain ⟨w3,hw3⟩:∃ x,(w.setCell ⟨m.a.gS,i,none⟩ (.int .u8 0)).drew=x:=⟨_,rfl⟩
 have hc3:Chg (fun b=>b=m.a.gS) w w3:=by rw [←hw3];exact (Chg.setCell (F:=fun b=>b=m.a.gS) w ⟨m.a.gS,i,none⟩ (.int .u8 0) rfl).tr (Chg.drew _ _)
 have HS3:=Lh (by rw [←hw3];have h:=(Own.stored HM.out.sts i (.int .u8 0)).1;unfold OwnB;rw [List.map_set];exact h:OwnB w3 0 (some ⟨m.a.gS,0,none⟩) m.a.len m.a.len (m.S.set i 0))
 have HRow3:=Lh (Blk.chg HM.out.que.row hc3 (fun e=>hgS e.symm))
 have HO3:=Lh (HM.out.que.own.chg hc3 (fun k hk e=>HM.out.a2 (by rw [←e];exact hk)))
 have HC3:=Lh (hc3.mono (fun k _ e=>.inr (.inl e)):Chg m.fp w w3)
 have x3:=HRow3.out.cell 3
 have g3:=HRow3.out.frozen 3
 simp only [Alc.row,Zt,Zz,Zs] at x3
 rw [hw3]
 clear hc3 c0 c1 c3 d0 f3 fS hw3
 obtain ⟨w5,hw5⟩:∃ x,w3.setCell ⟨m.a.g,3,none⟩ (.int .i64 ((m.a.free:Int)+1))=x:=⟨_,rfl⟩
 have hc5:Chg (fun b=>b=m.a.g) w3 w5:=by rw [←hw5];exact Chg.setCell (F:=fun b=>b=m.a.g) w3 ⟨m.a.g,3,none⟩ _ rfl
 have hr5:Blk w5 m.a.g 111 (Alc.row { m.a with free:=m.a.free+1 } (.slice m.q.p m.q.n m.q.c)):=by
  rw [←hw5]
  have:=Blk.set HRow3.out 3 (.int .i64 ((m.a.free:Int)+1))
  simpa [Alc.row] using this
 have HQ5:=Lh (⟨hr5,HO3.out.chg hc5 (fun k hk e=>HM.out.que.ne (by rw [←e];exact hk)),HM.out.que.ne⟩:Que { m.a with free:=m.a.free+1 } w5 m.q.p m.q.n m.q.c m.Q)
 have HS5:=Lh (Own.chg HS3.out hc5 (fun k hk e=>by cases hk;exact hgS e):OwnB w5 0 (some ⟨m.a.gS,0,none⟩) m.a.len m.a.len (m.S.set i 0))
 have HC5:=Lh (HC3.out.trans hc5 (fun k _ e=>.inl e))
 have hqn:=HM.out.que.own.length
 have HPu:=Lh (show Calls Tryz.prog 118 #[.iface 157 (.pointer (some ⟨m.a.g,2,none⟩)),.iface 3 (.int .i64 (x:Int))] w5 _ from qPush { m.a with free:=m.a.free+1 } m.q.p m.q.n m.q.c m.Q x w5 HQ5.out (by omega))
 clear hc5 hr5
 go_wp2_with fail
 refine HPu.out.mono ?_
 rintro e w6 ⟨⟨v,rfl⟩,A',c',Q',hq6,hp6,hnt,hc6⟩
 have HQ6:=Lh hq6
 have HP6:=Lh hp6
 have Hnt:=Lh hnt
 have HC6:=Lh hc6
 clear hq6 hp6 hnt hc6 x3 g3
 go_wp2
 go_end0
 have hs5:w.heap.size≤w5.heap.size:=HC5.out.size
 have hS6:OwnB w6 0 (some ⟨m.a.gS,0,none⟩) m.a.len m.a.len (m.S.set i 0):=Own.chg HS5.out HC6.out (fun k hk e=>by
  cases hk
  rcases e with e|e
  ·exact hgS e
  ·exact HM.out.a2 e)
 have hA':∀ b,bk A'=some b→bk m.q.p=some b∨w.heap.size≤b:=fun b hb=>by
  rcases Hnt.out with h|⟨k,h,hk⟩
  ·exact .inl (by rw [←h];exact hb)
  ·have hb:bk A'=some b:=hb
   rw [h] at hb;cases hb;exact .inr (by omega)
 have hcnt:=count_set_one (x:=(1:UInt8)) (y:=0) HSt.out (by decide)
 have hlen:=HP6.out.length_eq
 rw [List.length_cons] at hlen
 refine ⟨⟨_,rfl⟩,⟨A',m.q.n+1,c'⟩,Q',⟨HQ6.out,hS6,HM.out.a1,fun e=>?_,hlo⟩,⟨?_,fun j hj=>?_,by show Q'.length≤_;omega,fun y hy=>?_⟩,HC5.out.trans HC6.out (fun k _ e=>e.elim (fun e=>.inl e) (fun e=>.inr (.inr e))),hA',hlen⟩
 ·rcases hA' _ e with h|h
  ·exact HM.out.a2 h
  ·have h1:=(Own.lt HM.out.sts (k:=m.a.gS) rfl).2
   have h:w.heap.size≤m.a.gS:=h
   omega
 ·show m.a.free+1=(m.S.set i 0).count 0
  have:=HI.out.fr
  omega
 ·have hj:(m.S.set i 0)[j]? = some 0:=hj
  by_cases e:i=j
  ·subst e
   have hm:m.a.least+i∈x::m.Q:=by rw [Hx.out];exact List.mem_cons_self
   exact HP6.out.symm.subset hm
  ·rw [List.getElem?_set_ne e] at hj
   exact HP6.out.symm.subset (List.mem_cons_of_mem _ (HI.out.inq j hj))
 ·rcases List.mem_cons.1 (HP6.out.subset hy) with h|h
  ·have:=Hx.out;omega
  ·exact HI.out.qb y h
theorem allocBack (m:Amp) (i:Nat) (w:World) (h:m.Mem w) (hi:m.Inv) (hil:i<m.a.len) (hst:m.S[i]? = some 1) (hq:m.Q.length≤400000):
 Calls Tryz.prog 53 #[.pointer (some ⟨m.a.g,0,none⟩),.int .i64 ((m.a.least+i:Nat):Int)] w fun e w'=>e=.returned (.bool true)∧∃ (q:Sl) (Q:List Nat),(m.back i q Q).Mem w'∧(m.back i q Q).Inv∧Chg m.fp w w'∧(∀ b,bk q.p=some b→bk m.q.p=some b∨w.heap.size≤b)∧Q.length=m.Q.length+1:=by
 have hlo:=h.lo
 have HIs:=Lh (show Calls Tryz.prog 46 #[.pointer (some ⟨m.a.g,0,none⟩),.int .i64 ((m.a.least+i:Nat):Int),.int .u8 1] w _ from allocIs m (m.a.least+i) 1 w h (by omega))
 have hd:decide (m.st (m.a.least+i)=some 1)=true:=qT (by unfold Amp.st;rw [if_pos (by omega),Nat.add_sub_cancel_left];exact hst)
 have HM:=Lh h
 have HFr:=Lh (fun q=>allocFrees m i (w.drewN q) (h.later (below_drewN w q)) hi hil hst hq)
 obtain ⟨x,hx⟩:∃ x,m.a.least+i=x:=⟨_,rfl⟩
 rw [hx] at HIs hd HFr ⊢
 clear h hi hst hx
 go_enter Tryz.func53,Tryz.ntmps53
 go_wp2_with fail
 refine HIs.out.mono ?_
 rintro e w1 ⟨rfl,q1,rfl⟩
 rw [hd]
 go_wp2_with fail
 refine (HFr.out q1).mono ?_
 rintro e w2 ⟨⟨v,rfl⟩,q,Q,hm,hi,hc,hb,hl⟩
 have HR:=Lh (⟨q,Q,hm,hi,(Chg.drewN _ w q1).tr hc,hb,hl⟩:∃ (q:Sl) (Q:List Nat),(m.back i q Q).Mem w2∧(m.back i q Q).Inv∧Chg m.fp w w2∧(∀ b,bk q.p=some b→bk m.q.p=some b∨w.heap.size≤b)∧Q.length=m.Q.length+1)
 clear hm hi hc hb hl
 go_wp2
 go_ret
 exact ⟨rfl,HR.out⟩
theorem sameAny (A1 A2:OA) (n1 c1 n2 c2:Nat) (l1 l2:List UInt8) (w:World) (h1:l1.length=n1) (h2:l2.length=n2) (hr1:Bs w A1 l1) (hr2:Bs w A2 l2) (hn1:n1≤9000000000000000000) (hn2:n2≤9000000000000000000):
 Calls Tryz.prog 18 #[.slice A1 n1 c1,.slice A2 n2 c2] w fun e w'=>e=.returned (.bool (l1==l2))∧Below w.heap.size w w':=by
 have HL1:=Lh h1
 have HL2:=Lh h2
 have HR1:=Lh hr1
 have HR2:=Lh hr2
 clear h1 h2 hr1 hr2
 go_enter Tryz.func18,Tryz.ntmps18
 by_cases hn:n1=n2
 ·subst hn
  have g1:((n1:Int) != (n1:Int))=false:=by simp
  go_wp2_with fail
  go_loopg [5] n1 (fun gg s5 wr=>∃ i:Nat,i≤n1∧n1-i≤gg∧s5=.int .i64 (i:Int)∧l1.take i=l2.take i∧Below w.heap.size w wr)
  case atStart=>exact ⟨0,by omega,by omega,rfl,rfl,Below.refl _ _⟩
  case round=>
   obtain ⟨i,hi,hgi,rfl,htk,hb⟩:=hrel
   have HT:=Lh htk
   have HB:=Lh hb
   clear htk hb
   by_cases hin:i<n1
   ·obtain ⟨b1,o1,x,e1,hx,hc1⟩:=HR1.out.at_ (by rw [HL1.out];exact hin:i<l1.length)
    obtain ⟨b2,o2,y,e2,hy,hc2⟩:=HR2.out.at_ (by rw [HL2.out];exact hin:i<l2.length)
    subst e1 e2
    have d1:=(HB.out.cell (block_lt hc1)).trans hc1
    have d2:=(HB.out.cell (block_lt hc2)).trans hc2
    have HX:=Lh hx
    have HY:=Lh hy
    clear hx hy hc1 hc2
    go_wp2_with fail
    by_cases hxy:x=y
    ·have g2:((x.toNat:Int) != (y.toNat:Int))=false:=by rw [hxy];simp
     have HT2:=Lh (show l1.take (i+1)=l2.take (i+1) by rw [List.take_add_one,List.take_add_one,HT.out,HX.out,HY.out,hxy])
     clear hxy
     go_quiet (fail)
     have HB2:=Lh (HB.out.trans ((below_drewN wr nq).mono HB.out.size))
     go_wp2
     go_roundg (n1-(i+1))
     case measure=>omega
     case rel=>exact ⟨i+1,by omega,by omega,by go_num,HT2.out,HB2.out⟩
    ·have g2:((x.toNat:Int) != (y.toNat:Int))=true:=by
      rw [bne_iff_ne]
      intro e
      exact hxy (UInt8.toNat_inj.1 (by omega))
     have HN:=Lh (show (l1==l2)=false by
      rw [beq_eq_false_iff_ne]
      intro e
      have h:=HX.out
      rw [e,HY.out] at h
      exact hxy (Option.some.inj h).symm)
     clear hxy
     go_quiet (fail)
     have HB2:=Lh (HB.out.trans ((below_drewN wr nq).mono HB.out.size))
     go_wp2
     go_ret
     exact ⟨by rw [HN.out];rfl,HB2.out⟩
   ·obtain rfl:i=n1:=by omega
    have HE:=Lh (show (l1==l2)=true by
     have h:=HT.out
     rw [List.take_of_length_le (by rw [HL1.out];exact Nat.le_refl _),List.take_of_length_le (by rw [HL2.out];exact Nat.le_refl _)] at h
     rw [h];exact beq_self_eq_true _)
    go_wp2
    go_ret
    exact ⟨by rw [HE.out];rfl,HB.out⟩
 ·have g1:((n1:Int) != (n2:Int))=true:=by rw [bne_iff_ne];omega
  have HN:=Lh (show (l1==l2)=false by
   rw [beq_eq_false_iff_ne]
   intro e
   have h:=HL1.out
   rw [e,HL2.out] at h
   exact hn h.symm)
  go_wp2
  go_ret
  exact ⟨by rw [HN.out];rfl,Below.refl _ _⟩
theorem sysLoad (y:Sys) (b:Nat) (len:Int) (w:World) (h:y.Mem w) (hb:b≤65535) (hlen1:-9223372036854775808≤len) (hlen2:len≤9223372036854775807):
 Calls Tryz.prog 11 #[.pointer (some ⟨y.s.g,0,none⟩),.agg #[.int .i64 (b:Int),.int .i64 len]] w fun e w'=>∃ c',y.Step { y with c:=c' } w w'∧(∀ n,c'.view y.d n=y.c.view y.d n)∧c'.g=y.c.g ∧
  match loadL (y.c.view y.d) b len with
  | some l=>∃ A n cc,e=.returned (.tuple #[.slice A n cc,.int .i64 0])∧NewB w' w.heap.size A n cc l∧∀ q,bk A=some q→¬({ y with c:=c' }:Sys).fp q
  | none=>∃ E:Int,E≠0∧e=.returned (.tuple #[.slice none 0 0,.int .i64 E]):=by
 refine (chunksLoad y.s.g y.c y.d b len w h.cm h.ci hb hlen1 hlen2 h.sm.cells.1 (fun hf=>h.ap1 _ hf (.inl (.inl rfl)))).mono fun e w' hp=>?_
 obtain ⟨c',hn,h2⟩:=hp
 refine ⟨c',h.next hn,hn.view,hn.eg,?_⟩
 cases hl:loadL (y.c.view y.d) b len with
 | none=>rw [hl] at h2;exact h2
 | some l=>
   rw [hl] at h2
   obtain ⟨A,n,cc,h3,h4,h5⟩:=h2
   refine ⟨A,n,cc,h3,h4,fun q hq hf=>?_⟩
   have h6:=(h4.2.2.1 q hq).1
   rcases hf with hf|hf|hf
   ·exact h5 q hq hf
   ·have:=h.am.in_ q hf;omega
   ·have:=h.sm.in_ q hf;omega
theorem load_read {vw:Nat→Option Bk} {b:Nat} {len:Int} {l:List UInt8} (h:loadL vw b len=some l):∃ r,readL vw b len=some r∧(l.length:Int)=len:=by
 unfold loadL at h
 cases hr:readL vw b len with
 | none=>rw [hr] at h;cases h
 | some r=>
   obtain ⟨bs,pk⟩:=r
   rw [hr] at h
   dsimp only at h
   split at h
   ·next h2=>cases h;exact ⟨_,rfl,h2.2⟩
   ·cases h
theorem saveBad (sg:Nat) (A:OA) (n cc:Nat) (w:World) (hn:¬(1≤n∧n≤512)):
 Calls Tryz.prog 14 #[.pointer (some ⟨sg,0,none⟩),.slice A n cc] w fun e w'=>e=.returned (.tuple #[.agg #[.int .i64 0,.int .i64 0],.bool false,.int .i64 1])∧Below w.heap.size w w':=by
 obtain ⟨wA,hwA⟩:∃ y,w.alloc (.cells #[.pointer (some ⟨sg,0,none⟩)] 31)=y:=⟨_,rfl⟩
 have hsA:wA.heap.size=w.heap.size+1:=by rw [←hwA];simp
 have hBA:Below w.heap.size w wA:=by rw [←hwA];exact (Below.refl _ _).alloc nL _
 obtain ⟨wB,hwB⟩:∃ y,wA.alloc (.cells #[.slice A n cc] 37)=y:=⟨_,rfl⟩
 have hsB:wB.heap.size=w.heap.size+1+1:=by rw [←hwB,←hsA];simp
 have hBB:Below wA.heap.size wA wB:=by rw [←hwB];exact (Below.refl _ _).alloc nL _
 have hPB:Blk wB (w.heap.size+1) 37 #[.slice A n cc]:=by rw [←hwB,←hsA];exact Blk.new wA _ _
 obtain ⟨wC,hwC⟩:∃ y,wB.alloc (.cells #[.int .i64 0,.int .i64 0] 24)=y:=⟨_,rfl⟩
 have hBC:Below wB.heap.size wB wC:=by rw [←hwC];exact (Below.refl _ _).alloc nL _
 have hPC:Blk wC (w.heap.size+1+1) 24 #[.int .i64 0,.int .i64 0]:=by rw [←hwC,←hsB];exact Blk.new wB _ _
 have hB:Below w.heap.size w wC:=hBA.trans ((hBB.trans (hBC.mono (by omega))).mono (by omega))
 have k3:=(hPB.later hBC).cell 0
 have k40:=hPC.cell 0
 have k41:=hPC.cell 1
 have f40:=hPC.frozen 0
 have f41:=hPC.frozen 1
 simp only [Zt,Zz,Zs] at k3 k40 k41
 have HB:=Lh hB
 have Hh:=Lh (show w.heap.size≤w.heap.size+1+1 by omega)
 obtain ⟨b3,hb3⟩:∃ q,w.heap.size+1=q:=⟨_,rfl⟩
 have Hb3:=Lh hb3
 obtain ⟨b4,hb4⟩:∃ q,w.heap.size+1+1=q:=⟨_,rfl⟩
 have Hb4:=Lh hb4
 rw [hb4] at hPC k40 k41 f40 f41 Hh
 have HPC:=Lh hPC
 have hde:decide (1≤(n:Int)∧(n:Int)≤512)=false:=qF (by omega)
 have HMay:=Lh (by have h:=chunksMay (n:Int) wC;rw [hde] at h;exact h:Calls Tryz.prog 36 #[.int .i64 (n:Int)] wC fun e w'=>e=.returned (.bool false)∧w'=wC)
 clear hBA hBB hBC hPB hPC hB hde hn hb3 hb4
 go_enter Tryz.func14,Tryz.ntmps14
 go_wp2_with fail
 clear hwA hwB hwC hsA hsB
 rw [Hb3.out] at k3 ⊢
 have hb34:b3+1=b4:=by have:=Hb3.out;have:=Hb4.out;omega
 rw [hb34]
 clear hb34
 refine HMay.out.mono ?_
 rintro e w1 ⟨rfl,rfl⟩
 go_wp2
 have hbk:=Blk.set (Blk.set HPC.out 0 (.int .i64 0)) 1 (.int .i64 0)
 refine bodyPost_ret (results_row_tmp2 rfl _ _ b4 24 _ (0,0) _ rfl hbk Tryz.underlying24 rfl (by kernel_rfl)) rfl ?_
 exact ⟨rfl,(HB.out.setCell Hh.out _).setCell Hh.out _⟩
theorem sysSave (x:Sys) (A:OA) (n cc:Nat) (l:List UInt8) (w:World) (h:x.Mem w) (hsm:x.Small 400000000) (hl:l.length=n) (hr:Bs w A l) (hA:0<n→∀ q,bk A=some q→q<w.heap.size∧¬x.fp q) (hc:n≤cc) (hc2:cc≤9223372036854775807):
 Calls Tryz.prog 14 #[.pointer (some ⟨x.s.g,0,none⟩),.slice A n cc] w (savePost x l w):=by
 by_cases hn:1≤n∧n≤512
 ·exact chunksSave x A n cc l w h hsm hl hr (hA (by omega)) (by omega) hc hc2
 ·refine (saveBad x.s.g A n cc w hn).mono fun e w' hp=>?_
  obtain ⟨rfl,hb⟩:=hp
  exact ⟨x,_,rfl,SaveR.bad (by rw [hl];exact hn) rfl,Sys.Step.refl h hb⟩
theorem Own.cell_at {w:World} {base:Nat} {e:TypeId} {A:OA} {n c k:Nat} {xs:List Value} {v:Value} (h:Own w base e A n c xs) (hx:xs[k]? = some v):∃ g,A=some ⟨g,0,none⟩∧base≤g∧g<w.heap.size∧w.cell? ⟨g,k,none⟩=some v:=by
 have hk:k<n:=by rw [←h.length];exact (Ze hx).1
 obtain ⟨g,u,h1,h2,h3,h4,h5,-⟩:=Own.at_ h hk
 rw [hx] at h4
 cases h4
 exact ⟨g,h1,h2,h3,h5⟩
def BytArg (W:World) (A:OA) (n:Nat) (L:Nat→List UInt8):Prop:=
 ∀ i,i<n→∃ b o A' m cc,A=some ⟨b,o,none⟩∧W.cell? ⟨b,o+i,none⟩=some (.slice A' m cc)∧(L i).length=m∧Bs W A' (L i)∧m≤cc∧cc≤9223372036854775807∧(A'=none→m=0∧cc=0)∧(0<m→∀ q,bk A'=some q→q<W.heap.size)
open Go.ChangeShapes Go.ChangeAt
open Go.ChangeMaps (setBlock shut_map_nil open_string shut_string keptBut_setBlock frozen?_setBlock heap_setBlock_same)
theorem own:ownKnob Tryz.prog.godebug=none:=by kernel_rfl
noncomputable def laidWorld (os:Os):World:=World.holding Tryz.prog os ⟨#[],#[],[]⟩
theorem post_kept2 {H:Type} {enc:TypeId × Value→H} {f:Func} {s:ChangeSpec} {W W':World} {args:Array Value} {v:Value} {ds:List (DataW H)} {before:List MemPlace}
 (hW:DataW.Whole enc Tryz.prog f.params.toList s.vars false W args.toList ds [] before) (hv:s.vars=[])
 (hres:∀ (b:Nat) (sp:Nat→Bool) (hd:Bool),DataW.TrodAll enc Tryz.prog W' b sp hd f.resultTypes.toList (v.resultList f.resultTypes.size) (s.fn H (ds++[])).results [])
 (hargs:DataW.TrodAll enc Tryz.prog W' 0 (fun b=>decide (b<W.heap.size)) true f.params.toList args.toList (s.fn H (ds++[])).args before)
 (hvars:(s.fn H (ds++[])).vars=[]) (hb:Below W.heap.size W W'):
 s.post enc Tryz.prog f false true false false W args v W':=by
 refine ⟨ds,[],before,[],before,[],hW,hres _ _ _,hargs,?_,hb.frame _ |> World.keptBut_mono (fun p hp=>⟨hp,.inr (.inl hp)⟩),fun h=>by cases h⟩
 rw [hv,hvars]
 exact rfl
theorem cells_u8:Tryz.prog.cellsOf 5=1:=by kernel_rfl
theorem laidOut:laidOutB Tryz.prog=true:=by kernel_rfl
theorem cells_bytes:Tryz.prog.cellsOf 37=1:=by kernel_rfl
theorem readable_bytess:Tryz.prog.readableRec 48=true:=by kernel_rfl
theorem row_bytess:(48:Nat)<Tryz.prog.types.size:=of_decide_eq_true (by kernel_rfl)
theorem cell_bytes {H:Type} {enc:TypeId × Value→H} {W:World} {base:Nat} {spare:Nat→Bool} {held:Bool} {f:Nat} {v:Value} {x:DataW H × List MemPlace} (hs:∀ b,spare b=true) (hf:DataW.trod enc Tryz.prog W base spare held f 37 [v]=some x):
 ∃ A n c l,v=.slice A n c∧l.length=n∧Bs W A l∧n≤c∧c≤9223372036854775807∧(A=none→n=0∧c=0)∧(0<n→∀ b,bk A=some b→b<W.heap.size):=by
 rcases open_ints Tryz.underlying37 Tryz.underlying5 cells_u8 hf with ⟨hcs,hx⟩|⟨a,len,cap,zs,hcs,_,hl,hmx,hz,hx,hcell,hwf⟩
 ·simp only [List.cons.injEq,and_true] at hcs
  subst hcs
  exact ⟨none,0,0,[],rfl,rfl,Rd.nil _ _,by omega,by omega,fun _=>⟨rfl,rfl⟩,fun h=>by omega⟩
 ·simp only [List.cons.injEq,and_true] at hcs
  subst hcs
  rw [hs,if_pos rfl] at hz
  unfold maxLen at hmx
  refine ⟨some a,len,cap,(zs.take len).map (fun z=>UInt8.ofNat z.toNat),rfl,by rw [List.length_map,List.length_take];omega,?_,hl,by omega,fun h=>(by cases h),fun h0 b hb=>?_⟩
  ·intro h0
   rw [List.length_map,List.length_map,List.length_take] at h0
   obtain ⟨b,off,spot⟩:=a
   have hspot:spot=none:=by simpa [Addr.add] using World.cell?_spot (hcell 0 (by omega))
   subst hspot
   refine ⟨b,off,rfl,fun j hj=>?_⟩
   rw [List.length_map,List.length_map,List.length_take] at hj
   have hc:=hcell j (by omega)
   have e:(⟨b,off,none⟩:Addr).add j=⟨b,off+j,none⟩:=by unfold Addr.add;split<;>simp_all
   rw [e] at hc
   have hjz:j<zs.length:=by omega
   have hw:=hwf _ (List.getElem_mem hjz)
   simp only [Lit.wf,Bool.and_eq_true,decide_eq_true_eq] at hw
   have h1:(0:Int)≤zs[j]:=hw.1
   have h2:zs[j]≤255:=hw.2
   rw [hc]
   simp only [List.getElem?_map,List.getElem?_take,List.getD,Zg hjz,Option.getD_some]
   rw [if_pos (by omega)]
   simp only [Option.map_some,u8v,UInt8.toNat_ofNat']
   congr 2
   omega
  ·cases hb
   have hc:=hcell 0 (by omega)
   have:=World.block_lt_of_cell? W _ hc
   unfold Addr.add at this
   simpa using this
theorem load_same {vw vw':Nat→Option Bk} {b:Nat} {len:Int} {bs:List Nat} {o:List UInt8} (h:readL vw b len=some (bs,o)) (hs:∀ x∈bs,vw' x=vw x):readL vw' b len=some (bs,o)∧loadL vw' b len=loadL vw b len:=by
 have h2:=readL_same h hs
 refine ⟨h2,?_⟩
 unfold loadL
 rw [h,h2]
structure Has (x:Sys) (p:Ck) (l:List UInt8):Prop where
 ok:1≤l.length∧l.length≤512
 kl:p∈x.s.kl (shaL l)
 ld:loadL (x.c.view x.d) p.1 p.2=some l
structure Kept (x:Sys):Prop where
 ld:∀ dg,∀ p∈x.s.kl dg,∃ bs pk,readL (x.c.view x.d) p.1 p.2=some (bs,pk)∧∀ b∈bs,x.m.st b=some 1
 one:∀ dg,∀ p∈x.s.kl dg,∀ q∈x.s.kl dg,loadL (x.c.view x.d) p.1 p.2=loadL (x.c.view x.d) q.1 q.2→p=q
 wh:∀ b,(x.s.wh b).isSome=true→x.m.st b=some 1
 kw:∀ dg,∀ p∈x.s.kl dg,(x.s.wh p.1).isSome=true
theorem Beg.kept {x:Sys} {n:Nat} (h:Beg x n):Kept x:=
 ⟨fun dg p hp=>by rw [h.kl] at hp;simp at hp,fun dg p hp=>by rw [h.kl] at hp;simp at hp,fun b hb=>by rw [h.wh] at hb;simp at hb,fun dg p hp=>by rw [h.kl] at hp;simp at hp⟩
def Stays (x y:Sys):Prop:=∀ dg,∀ p∈x.s.kl dg,p∈y.s.kl dg∧loadL (y.c.view y.d) p.1 p.2=loadL (x.c.view x.d) p.1 p.2
theorem Stays.refl (x:Sys):Stays x x:=fun _ _ hp=>⟨hp,rfl⟩
theorem Has.stays {x y:Sys} {p:Ck} {l:List UInt8} (h:Has x p l) (k:Stays x y):Has y p l:=⟨h.ok,(k _ p h.kl).1,(k _ p h.kl).2.trans h.ld⟩
theorem Kept.same {x y:Sys} (h:Kept x) (hv:∀ n,y.c.view y.d n=x.c.view x.d n) (hk:y.s.kl=x.s.kl) (hw:y.s.wh=x.s.wh) (hm:∀ b,y.m.st b=x.m.st b):Kept y∧Stays x y:=by
 have hv':y.c.view y.d=x.c.view x.d:=funext hv
 refine ⟨⟨?_,?_,?_,?_⟩,?_⟩
 ·rw [hv',hk]
  intro dg p hp
  obtain ⟨bs,pk,h1,h2⟩:=h.ld dg p hp
  exact ⟨bs,pk,h1,fun b hb=>(hm b).trans (h2 b hb)⟩
 ·rw [hv',hk]
  exact h.one
 ·rw [hw]
  exact fun b hb=>(hm b).trans (h.wh b hb)
 ·rw [hk,hw]
  exact h.kw
 ·unfold Stays
  rw [hv',hk]
  exact fun _ _ hp=>⟨hp,rfl⟩
inductive SaveQ (x:Sys) (l:List UInt8) (y:Sys):Ck→Bool→Int→Prop
 | bad (h:¬(1≤l.length∧l.length≤512)) (hw:y.s.wh=x.s.wh):SaveQ x l y (0,0) false 1
 | space (h:x.m.a.free<3) (h2:1≤l.length∧l.length≤512) (hw:y.s.wh=x.s.wh):SaveQ x l y (0,0) false 10
 | good (p:Ck) (was:Bool) (h:Has y p l) (hw:∀ b,(y.s.wh b).isSome=true↔(x.s.wh b).isSome=true∨b=p.1):SaveQ x l y p was 0
theorem SaveQ.cases {x y:Sys} {l:List UInt8} {p:Ck} {was:Bool} {E:Int} (h:SaveQ x l y p was E):
 (¬(1≤l.length∧l.length≤512)∧was=false∧E=1∧y.s.wh=x.s.wh)∨(x.m.a.free<3∧(1≤l.length∧l.length≤512)∧was=false∧E=10∧y.s.wh=x.s.wh)∨(E=0∧(1≤l.length∧l.length≤512)∧Has y p l∧∀ b,(y.s.wh b).isSome=true↔(x.s.wh b).isSome=true∨b=p.1):=by
 cases h with
 | bad h hw=>exact .inl ⟨h,rfl,rfl,hw⟩
 | space h h2 hw=>exact .inr (.inl ⟨h,h2,rfl,rfl,hw⟩)
 | good p was h hw=>exact .inr (.inr ⟨rfl,h.ok,h,hw⟩)
theorem SaveR.law {x y:Sys} {l:List UInt8} {v:Value} {w:World} (h:SaveR x l y v) (hm:x.Mem w) (hk:Kept x):
 Kept y∧Stays x y∧x.m.a.free≤y.m.a.free+3∧∃ p was E,v=.tuple #[ckv p,.bool was,.int .i64 E]∧SaveQ x l y p was E:=by
 cases h with
 | bad h e=>
   rw [e]
   exact ⟨hk,Stays.refl x,by omega,(0,0),false,1,rfl,.bad h rfl⟩
 | found h p hp hl hv hmm nD hn hs=>
   obtain ⟨h1,h2⟩:=hk.same (y:=y) hv (by rw [hs]) (by rw [hs]) (fun b=>by rw [hmm])
   exact ⟨h1,h2,by rw [hmm];omega,p,true,0,rfl,.good p true ⟨h,(h2 _ p hp).1,(h2 _ p hp).2.trans hl⟩ (fun b=>by rw [hs];exact ⟨.inl,fun h=>h.elim id (fun e=>by rw [e];exact hk.kw _ p hp)⟩)⟩
 | space h hno B hB hf hv hmm hs=>
   obtain ⟨h1,h2⟩:=hk.same (y:=y) hv (by rw [hs]) (by rw [hs]) (fun b=>by rw [hmm])
   have h3:=pk_len h hB
   have h4:=moreN_le (m:=(B++sumOf l).length) (by omega)
   exact ⟨h1,h2,by rw [hmm];omega,(0,0),false,10,rfl,.space (by omega) h (by rw [hs])⟩
 | fresh h hno B hB b0 r hkk hd h0 h1 hf hq hv fr fd sz kn=>
   have hlow:∀ b∈b0::r,b≤65535:=fun b hb'=>(st_low hm.am (h0 b hb')).2.2
   have hL:=fresh_load h hB hkk hd (fun b hb'=>hlow b (List.mem_cons_of_mem _ hb')) hv
   have h3:=pk_len h hB
   have h4:=moreN_le (m:=(B++sumOf l).length) (by omega)
   have hold:∀ dg,∀ p∈x.s.kl dg,loadL (y.c.view y.d) p.1 p.2=loadL (x.c.view x.d) p.1 p.2∧∃ bs pk,readL (y.c.view y.d) p.1 p.2=some (bs,pk)∧∀ b∈bs,y.m.st b=some 1:=fun dg p hp=>by
    obtain ⟨bs,pk,g1,g2⟩:=hk.ld dg p hp
    have g3:∀ b∈bs,b ∉ b0::r:=fun b hb hb2=>by
     have:=h0 b hb2
     rw [g2 b hb] at this
     cases this
    obtain ⟨g4,g5⟩:=load_same (vw':=y.c.view y.d) g1 (fun b hb=>by rw [hv,writeV_other (g3 b hb)])
    exact ⟨g5,bs,pk,g4,fun b hb=>by rw [h1,if_neg (g3 b hb)];exact g2 b hb⟩
   rcases kn with ⟨g,-,-⟩|⟨-,ek,ew⟩
   ·have:=hk.wh b0 g
    rw [h0 b0 (by simp)] at this
    cases this
   have hnew:Has y (b0,l.length) l:=⟨h,by rw [ek,if_pos rfl];simp,hL.2⟩
   have hcase:∀ dg p,p∈y.s.kl dg→p∈x.s.kl dg∨(dg=shaL l∧p=(b0,l.length)):=fun dg p hp=>by
    rw [ek] at hp
    split at hp
    ·next e=>
     rcases List.mem_append.1 hp with hp|hp
     ·exact .inl (by rw [e];exact hp)
     ·exact .inr ⟨e,by simpa using hp⟩
    ·exact .inl hp
   have hwh:∀ b,(y.s.wh b).isSome=true↔(x.s.wh b).isSome=true∨b=b0:=fun b=>by
    rw [ew]
    by_cases e:b=b0
    ·simp [e]
    ·simp [e]
   refine ⟨⟨?_,?_,?_,?_⟩,?_,by rw [List.length_cons] at hf;omega,(b0,l.length),false,0,rfl,.good _ false hnew hwh⟩
   ·intro dg p hp
    rcases hcase dg p hp with hp|⟨-,rfl⟩
    ·exact (hold dg p hp).2
    ·exact ⟨_,_,hL.1,fun b hb=>by rw [h1,if_pos hb]⟩
   ·intro dg p hp q hq he
    rcases hcase dg p hp with hp|⟨e1,rfl⟩
    ·rcases hcase dg q hq with hq|⟨e2,rfl⟩
     ·rw [(hold dg p hp).1,(hold dg q hq).1] at he
      exact hk.one dg p hp q hq he
     ·rw [(hold dg p hp).1] at he
      exact absurd (he.trans hnew.ld) (hno p (by rw [←e2];exact hp))
    ·rcases hcase dg q hq with hq|⟨e2,rfl⟩
     ·rw [(hold dg q hq).1] at he
      exact absurd (he.symm.trans hnew.ld) (hno q (by rw [←e1];exact hq))
     ·rfl
   ·intro b hb
    rw [ew] at hb
    rw [h1]
    split
    ·rfl
    ·next hn=>
     rw [if_neg (fun e=>hn (by simp [e]))] at hb
     exact hk.wh b hb
   ·intro dg p hp
    rcases hcase dg p hp with hp|⟨-,rfl⟩
    ·exact (hwh p.1).2 (.inl (hk.kw dg p hp))
    ·exact (hwh b0).2 (.inr rfl)
   ·intro dg p hp
    refine ⟨?_,(hold dg p hp).1⟩
    rw [ek]
    split
    ·next e=>rw [←e];exact List.mem_append_left _ hp
    ·exact hp
theorem sysBegin (x:Sys) (w:World) (h:x.Mem w):
 Calls Tryz.prog 20 #[.pointer (some ⟨x.s.g,0,none⟩)] w fun e w'=>e=.returned (.tuple #[])∧x.Step { x with s:=x.s.beg } w w':=by
 refine (chunksBegin x.s _ _ w h.sm).mono fun e w' hp=>?_
 obtain ⟨rfl,h1,h2⟩:=hp
 exact ⟨rfl,h.sto h1 rfl (h2.mono (fun _ _ h=>.inl h)) (fun b hb=>.inl hb) h.kb⟩
theorem sysFree (x:Sys) (w:World) (h:x.Mem w):
 Calls Tryz.prog 16 #[.pointer (some ⟨x.m.a.g,0,none⟩)] w fun e w'=>e=.returned (.int .i64 (x.m.a.free:Int))∧Below w.heap.size w w':=
 (allocFree x.m w h.am h.ai).mono fun e w' hp=>by
   obtain ⟨rfl,q,rfl⟩:=hp
   exact ⟨rfl,below_drewN w q⟩
theorem sysKnown (x:Sys) (w:World) (h:x.Mem w):
 Calls Tryz.prog 19 #[.pointer (some ⟨x.s.g,0,none⟩)] w fun e w'=>e=.returned (.int .i64 (x.s.nW:Int))∧w'=w:=chunksKnown x.s _ _ w h.sm
theorem known_same {x y:Sys} {w w':World} (hx:x.Mem w) (hy:y.Mem w') (h:∀ b,(y.s.wh b).isSome=(x.s.wh b).isSome):y.s.nW=x.s.nW:=IntT.count_eq hy.sm.mW hx.sm.mW h
structure Sv where
 p:Ck
 s:Sl
 l:List UInt8
theorem elemBs:Elem Tryz.prog 48 37 (.slice none 0 0) 24:=⟨Tryz.underlying48,by kernel_rfl,rfl,rfl⟩
def SlIn (w:World) (s:Sl) (l:List UInt8):Prop:=l.length=s.n∧Bs w s.p l∧s.n≤s.c∧s.c≤9223372036854775807∧(0<s.n→∀ q,bk s.p=some q→q<w.heap.size)
theorem BytArg.at_ {W:World} {A:OA} {n:Nat} {L:Nat→List UInt8} (h:BytArg W A n L) {i:Nat} (hi:i<n):∃ b o s,A=some ⟨b,o,none⟩∧W.cell? ⟨b,o+i,none⟩=some s.v∧SlIn W s (L i):=by
 obtain ⟨b,o,A',m,cc,h1,h2,h3,h4,h5,h6,h7,h8⟩:=h i hi
 exact ⟨b,o,⟨A',m,cc⟩,h1,h2,h3,h4,h5,h6,h8⟩
theorem SlIn.later {w w':World} {s:Sl} {l:List UInt8} (h:SlIn w s l) (hb:Below w.heap.size w w'):SlIn w' s l:=⟨h.1,h.2.1.later hb,h.2.2.1,h.2.2.2.1,fun h0 q hq=>lT (h.2.2.2.2 h0 q hq) hb.size⟩
def FdLow (x:Sys):Prop:=∀ b,(x.s.fd b).isSome=true→b≤65535
theorem SaveR.low {x y:Sys} {l:List UInt8} {v:Value} {w:World} (h:SaveR x l y v) (hm:x.Mem w) (hf:FdLow x):FdLow y:=by
 cases h with
 | bad _ e=>rw [e];exact hf
 | found _ p hp _ _ _ nD hn hs=>
   intro b hb
   rw [hs] at hb
   have hb:(if b=p.1 then some p else x.s.fd b).isSome=true:=hb
   split at hb
   ·next e=>rw [e];exact (hm.kb _ p hp).1
   ·exact hf b hb
 | space _ _ _ _ _ _ _ hs=>intro b hb;rw [hs] at hb;exact hf b hb
 | fresh _ _ _ _ _ _ _ _ _ _ _ _ _ _ fd=>intro b hb;rw [fd] at hb;exact hf b hb
structure SvS (x:Sys) (gb gr gq:Nat) (y:Sys) (B:Nat) (PL:List Sv) (aA:OA) (ca:Nat) (hA:OA) (ch n:Nat) (w w1 W:World):Prop where
 st:x.Step y w1 W
 sm:y.Small B
 kp:Kept y
 low:FdLow y
 both:Blk W gb 35 (bothV x gr gq)
 apb:¬y.fp gb
 rowA:ChT.Own W w1.heap.size aA n ca (PL.map Sv.p)
 rowH:Own W w1.heap.size 37 hA n ch (PL.map (fun v=>v.s.v))
 apA:∀ q,bk aA=some q→¬y.fp q∧q≠gb
 apH:∀ q,bk hA=some q→¬y.fp q∧q≠gb
 ne:∀ q,bk aA=some q→bk hA≠some q
 has:∀ v∈PL,Has y v.p v.l∧SlIn w v.s v.l
theorem SvS.start {x:Sys} {gb gr gq n:Nat} {w w1:World} (hm:x.Mem w1) (hb:Beg x n) (hn:n≤1000) (hB:Blk w1 gb 35 (bothV x gr gq)) (hg:¬x.fp gb):SvS x gb gr gq x 0 [] none 0 none 0 0 w w1 w1:=
 ⟨Sys.Step.refl hm (Below.refl _ _),hb.small hn,hb.kept,fun b h=>(by rw [hb.fd] at h;simp at h),hB,hg,RowT.Own.nil _ _ _,Own.nil _ _ _,fun _ h=>(by cases h),fun _ h=>(by cases h),fun _ h=>(by cases h),fun _ h=>(by simp at h)⟩
theorem SvS.step {x y z:Sys} {gb gr gq B B' ca ch n:Nat} {PL:List Sv} {aA hA:OA} {w w1 W W':World} (h:SvS x gb gr gq y B PL aA ca hA ch n w w1 W) (hs:y.Step z W W') (hk:Kept z) (hst:Stays y z) (hsm:z.Small B') (hlo:FdLow z):
 SvS x gb gr gq z B' PL aA ca hA ch n w w1 W':={
 st:=h.st.trans hs
 sm:=hsm
 kp:=hk
 low:=hlo
 both:=Blk.chg h.both hs.chg h.apb
 apb:=hs.nf h.both.lt h.apb
 rowA:=h.rowA.chg hs.chg (fun q hq=>(h.apA q hq).1)
 rowH:=Own.chg h.rowH hs.chg (fun q hq=>(h.apH q hq).1)
 apA q hq:=⟨hs.nf (h.rowA.lt hq).2 (h.apA q hq).1,(h.apA q hq).2⟩
 apH q hq:=⟨hs.nf (Own.lt h.rowH hq).2 (h.apH q hq).1,(h.apH q hq).2⟩
 ne:=h.ne
 has v hv:=⟨(h.has v hv).1.stays hst,(h.has v hv).2⟩ }
theorem SvS.mono {x y:Sys} {gb gr gq B B' ca ch n:Nat} {PL:List Sv} {aA hA:OA} {w w1 W:World} (h:SvS x gb gr gq y B PL aA ca hA ch n w w1 W) (hB:B≤B'):SvS x gb gr gq y B' PL aA ca hA ch n w w1 W:={ h with sm:=h.sm.mono hB }
theorem SvS.chg {x y:Sys} {gb gr gq B ca ch n:Nat} {PL:List Sv} {aA hA:OA} {F:Fp} {w w1 W W':World} (h:SvS x gb gr gq y B PL aA ca hA ch n w w1 W) (hc:Chg F W W')
 (hF:∀ b,F b→¬y.fp b∧w1.heap.size≤b∧b≠gb∧bk aA≠some b∧bk hA≠some b):SvS x gb gr gq y B PL aA ca hA ch n w w1 W':={
 st:=h.st.out hc (fun b hb=>⟨(hF b hb).1,(hF b hb).2.1⟩)
 sm:=h.sm
 kp:=h.kp
 low:=h.low
 both:=Blk.chg h.both hc (fun hf=>(hF _ hf).2.2.1 rfl)
 apb:=h.apb
 rowA:=h.rowA.chg hc (fun q hq hf=>(hF q hf).2.2.2.1 hq)
 rowH:=Own.chg h.rowH hc (fun q hq hf=>(hF q hf).2.2.2.2 hq)
 apA:=h.apA
 apH:=h.apH
 ne:=h.ne
 has:=h.has }
theorem SvS.later {x y:Sys} {gb gr gq B ca ch n:Nat} {PL:List Sv} {aA hA:OA} {w w1 W W':World} (h:SvS x gb gr gq y B PL aA ca hA ch n w w1 W) (hb:Below W.heap.size W W'):SvS x gb gr gq y B PL aA ca hA ch n w w1 W':=
 h.chg (F:=Fp.none) (Chg.of_below hb) (fun _ h=>h.elim)
theorem SvS.app {x y:Sys} {gb gr gq B ca ch n c1 c2:Nat} {PL:List Sv} {aA hA A1 A2:OA} {w w1 W Wa W1 W2:World} {v:Sv} (h:SvS x gb gr gq y B PL aA ca hA ch n w w1 W) (hba:Below W.heap.size W Wa)
 (hA1:ChT.Own W1 w1.heap.size A1 (n+1) c1 (PL.map Sv.p++[v.p])) (hg1:Wa.grownBy W1 (bk aA)) (hn1:NewTo Wa aA A1)
 (hA2:Own W2 w1.heap.size 37 A2 (n+1) c2 (PL.map (fun v=>v.s.v)++[v.s.v])) (hg2:W1.grownBy W2 (bk hA)) (hn2:bk A2=bk hA∨W1.heap.size≤(bk A2).getD 0) (hv:Has y v.p v.l) (hs:SlIn w v.s v.l):
 SvS x gb gr gq y B (PL++[v]) A1 c1 A2 c2 (n+1) w w1 W2:=by
 have ha:=h.later hba
 have c1':Chg (fun b=>bk aA=some b) Wa W1:=Chg.of_grown hg1 (fun b hb _=>hb)
 have c2':Chg (fun b=>bk hA=some b) W1 W2:=Chg.of_grown hg2 (fun b hb _=>hb)
 have hlA:∀ q,bk aA=some q→q<Wa.heap.size:=fun q hq=>(ha.rowA.lt hq).2
 have hlH:∀ q,bk hA=some q→q<Wa.heap.size:=fun q hq=>(Own.lt ha.rowH hq).2
 have hA1':∀ q,bk A1=some q→bk aA=some q∨Wa.heap.size≤q:=fun q hq=>by
  rcases hn1 with e|⟨k,e,hk⟩
  ·exact .inl (e ▸ hq)
  ·rw [e] at hq;cases hq;exact .inr hk
 have hA2':∀ q,bk A2=some q→bk hA=some q∨W1.heap.size≤q:=fun q hq=>by
  rcases hn2 with e|hk
  ·exact .inl (e ▸ hq)
  ·rw [hq] at hk;exact .inr hk
 have hin:∀ q,y.fp q→q<Wa.heap.size:=fun q hq=>ha.st.mem.in_ q hq
 have hgb:gb<Wa.heap.size:=ha.both.lt
 have hs1:=c1'.size
 have hall:Chg (fun b=>bk aA=some b∨bk hA=some b) Wa W2:=(c1'.mono (fun _ _ h=>.inl h)).trans c2' (fun _ _ h=>.inr h)
 refine ⟨ha.st.out hall ?_,h.sm,h.kp,h.low,Blk.chg ha.both hall ?_,h.apb,?_,?_,?_,?_,?_,?_⟩
 ·rintro b (hb|hb)
  ·exact ⟨(h.apA b hb).1,(ha.rowA.lt hb).1⟩
  ·exact ⟨(h.apH b hb).1,(Own.lt ha.rowH hb).1⟩
 ·rintro (hb|hb)
  ·exact (h.apA _ hb).2 rfl
  ·exact (h.apH _ hb).2 rfl
 ·rw [List.map_append]
  refine RowT.Own.chg hA1 c2' (fun q hq hq2=>?_)
  rcases hA1' q hq with h1|h1
  ·exact h.ne q h1 hq2
  ·have:=hlH q hq2;omega
 ·rw [List.map_append]
  exact hA2
 ·intro q hq
  rcases hA1' q hq with h1|h1
  ·exact h.apA q h1
  ·exact ⟨fun hf=>by have:=hin q hf;omega,by omega⟩
 ·intro q hq
  rcases hA2' q hq with h1|h1
  ·exact h.apH q h1
  ·exact ⟨fun hf=>by have:=hin q hf;omega,by omega⟩
 ·intro q hq hq2
  rcases hA1' q hq with h1|h1
  ·rcases hA2' q hq2 with h2|h2
   ·exact h.ne q h1 h2
   ·have:=hlA q h1;omega
  ·rcases hA2' q hq2 with h2|h2
   ·have:=hlH q h2;omega
   ·have:=(RowT.Own.lt hA1 hq).2
    omega
 ·intro u hu
  rcases List.mem_append.1 hu with hu|hu
  ·exact h.has u hu
  ·rw [List.mem_singleton] at hu
   rw [hu]
   exact ⟨hv,hs⟩
structure FinS (x:Sys) (gb gr gq:Nat) (y:Sys) (PL:List Sv) (aA:OA) (ca:Nat) (hA:OA) (ch n:Nat) (w W:World):Prop where
 mem:y.Mem W
 sg:y.s.g=x.s.g
 bel:Below w.heap.size w W
 fpl:∀ q,y.fp q→w.heap.size≤q
 both:Blk W gb 35 (bothV x gr gq)
 apb:¬y.fp gb
 rowA:ChT.Own W w.heap.size aA n ca (PL.map Sv.p)
 rowH:Own W w.heap.size 37 hA n ch (PL.map (fun v=>v.s.v))
 apA:∀ q,bk aA=some q→¬y.fp q
 apH:∀ q,bk hA=some q→¬y.fp q
 ld:∀ v∈PL,loadL (y.c.view y.d) v.p.1 v.p.2=some v.l∧v.p.1≤65535∧v.p.2≤65535∧SlIn w v.s v.l
theorem FinS.len {x y:Sys} {gb gr gq ca ch n:Nat} {PL:List Sv} {aA hA:OA} {w W:World} (h:FinS x gb gr gq y PL aA ca hA ch n w W):PL.length=n:=by simpa using h.rowA.length
theorem SvS.fin {x y z:Sys} {gb gr gq B ca ch n:Nat} {PL:List Sv} {aA hA:OA} {w w1 W W':World} (h:SvS x gb gr gq y B PL aA ca hA ch n w w1 W) (hw:Below w.heap.size w w1) (hx:∀ q,x.fp q→w.heap.size≤q) (hm:z.Mem W') (hs:z.s.g=y.s.g) (hc:Chg y.fp W W')
 (hf:∀ q,z.fp q→y.fp q∨W.heap.size≤q) (hl:∀ v∈PL,loadL (z.c.view z.d) v.p.1 v.p.2=some v.l):FinS x gb gr gq z PL aA ca hA ch n w W':=by
 have hfy:∀ q,y.fp q→w.heap.size≤q:=fun q hq=>(h.st.fp q hq).elim (hx q) (fun h1=>Nat.le_trans hw.size h1)
 have hbW:Below w.heap.size w W:=hw.trans (h.st.chg.below hx hw.size)
 have hnf:∀ q,q<W.heap.size→¬y.fp q→¬z.fp q:=fun q h1 h2 h3=>(hf q h3).elim h2 (fun h4=>by omega)
 exact {
  mem:=hm
  sg:=hs.trans h.st.same.s
  bel:=hbW.trans (hc.below hfy hbW.size)
  fpl:=fun q hq=>(hf q hq).elim (hfy q) (fun h1=>Nat.le_trans hbW.size h1)
  both:=Blk.chg h.both hc h.apb
  apb:=hnf _ h.both.lt h.apb
  rowA:=(h.rowA.chg hc (fun q hq=>(h.apA q hq).1)).mono hw.size
  rowH:=Own.mono (Own.chg h.rowH hc (fun q hq=>(h.apH q hq).1)) hw.size
  apA:=fun q hq=>hnf q (h.rowA.lt hq).2 (h.apA q hq).1
  apH:=fun q hq=>hnf q (Own.lt h.rowH hq).2 (h.apH q hq).1
  ld:=fun v hv=>⟨hl v hv,(h.st.mem.kb _ _ (h.has v hv).1.kl).1,(h.st.mem.kb _ _ (h.has v hv).1.kl).2,(h.has v hv).2⟩ }
theorem FinS.step {x y z:Sys} {gb gr gq ca ch n:Nat} {PL:List Sv} {aA hA:OA} {w W W':World} (h:FinS x gb gr gq y PL aA ca hA ch n w W) (hs:y.Step z W W') (hv:∀ k,z.c.view z.d k=y.c.view y.d k):FinS x gb gr gq z PL aA ca hA ch n w W':={
 mem:=hs.mem
 sg:=hs.same.s.trans h.sg
 bel:=h.bel.trans (hs.chg.below h.fpl h.bel.size)
 fpl q hq:=(hs.fp q hq).elim (h.fpl q) (fun h1=>Nat.le_trans h.bel.size h1)
 both:=Blk.chg h.both hs.chg h.apb
 apb:=hs.nf h.both.lt h.apb
 rowA:=h.rowA.chg hs.chg h.apA
 rowH:=Own.chg h.rowH hs.chg h.apH
 apA q hq:=hs.nf (h.rowA.lt hq).2 (h.apA q hq)
 apH q hq:=hs.nf (Own.lt h.rowH hq).2 (h.apH q hq)
 ld v hv2:=by rw [show z.c.view z.d=y.c.view y.d from funext hv];exact h.ld v hv2 }
theorem FinS.later {x y:Sys} {gb gr gq ca ch n:Nat} {PL:List Sv} {aA hA:OA} {w W W':World} (h:FinS x gb gr gq y PL aA ca hA ch n w W) (hb:Below W.heap.size W W'):FinS x gb gr gq y PL aA ca hA ch n w W':=
 h.step (Sys.Step.refl h.mem hb) (fun _=>rfl)
theorem FinS.chunk {x y:Sys} {gb gr gq ca ch n i:Nat} {PL:List Sv} {aA hA:OA} {w W:World} {v:Sv} (h:FinS x gb gr gq y PL aA ca hA ch n w W) (hv:PL[i]? = some v):
 ∃ g,aA=some ⟨g,0,none⟩∧g<W.heap.size∧¬y.fp g∧W.cell? ⟨g,i*2,none⟩=some (.int .i64 (v.p.1:Int))∧W.cell? ⟨g,i*2+1,none⟩=some (.int .i64 (v.p.2:Int)):=by
 obtain ⟨g,rfl,-,h1,h2,-⟩:=h.rowA.range (x:=v.p) (i:=i) (by rw [List.getElem?_map,hv];rfl)
 exact ⟨g,rfl,h1,h.apA g rfl,h2 0 _ rfl,h2 1 _ rfl⟩
theorem FinS.slice {x y:Sys} {gb gr gq ca ch n i:Nat} {PL:List Sv} {aA hA:OA} {w W:World} {v:Sv} (h:FinS x gb gr gq y PL aA ca hA ch n w W) (hv:PL[i]? = some v):
 ∃ g,hA=some ⟨g,0,none⟩∧g<W.heap.size∧¬y.fp g∧W.cell? ⟨g,i,none⟩=some v.s.v:=by
 obtain ⟨g,rfl,-,h0,h1⟩:=Own.cell_at h.rowH (k:=i) (v:=v.s.v) (by rw [List.getElem?_map,hv];rfl)
 exact ⟨g,rfl,h0,h.apH g rfl,h1⟩
theorem lawLoad {x y:Sys} {gb gr gq ca ch n:Nat} {PL:List Sv} {aA hA:OA} {w W W':World} {v:Sv} (h:FinS x gb gr gq y PL aA ca hA ch n w W) (hv:v∈PL) (hW:Below W.heap.size W W'):
 Calls Tryz.prog 11 #[.pointer (some ⟨x.s.g,0,none⟩),.agg #[.int .i64 (v.p.1:Int),.int .i64 (v.p.2:Int)]] W' fun e w'=>∃ (z:Sys) (LA:OA) (ln lc:Nat),e=.returned (.tuple #[.slice LA ln lc,.int .i64 0])∧y.Step z W w'∧(∀ k,z.c.view z.d k=y.c.view y.d k)∧v.l.length=ln∧Bs w' LA v.l∧v.l.length≤65535:=by
 obtain ⟨h1,h2,h3,-⟩:=h.ld v hv
 have h4:=(load_read h1).choose_spec.2
 have h5:=sysLoad y v.p.1 v.p.2 W' (h.mem.later hW) h2 (by omega) (by omega)
 rw [h1,h.sg] at h5
 refine h5.mono (fun e w' hp=>?_)
 obtain ⟨c',g1,g2,-,LA,ln,lc,rfl,g3,-⟩:=hp
 exact ⟨{ y with c:=c' },LA,ln,lc,rfl,g1.before hW,g2,g3.1,g3.2.1,by omega⟩
theorem lawSave {x y:Sys} {s:Sl} {l:List UInt8} {B:Nat} {w W W':World} (hst:x.Step y w W) (hsm:y.Small B) (hB:B≤400000) (hk:Kept y) (hlo:FdLow y) (hW:Below W.heap.size W W') (hs:SlIn W' s l) (hA:0<s.n→∀ q,bk s.p=some q→q<W.heap.size∧¬y.fp q):
 Calls Tryz.prog 14 #[.pointer (some ⟨x.s.g,0,none⟩),.slice s.p s.n s.c] W' fun e w'=>∃ (z:Sys) (p:Ck) (was:Bool) (E:Int),e=.returned (.tuple #[.agg #[.int .i64 (p.1:Int),.int .i64 (p.2:Int)],.bool was,.int .i64 E])∧y.Step z W' w'∧y.Step z W w'∧z.Small (B+3)∧Kept z∧Stays y z∧FdLow z∧y.m.a.free≤z.m.a.free+3∧SaveQ y l z p was E:=by
 have hM:=hst.mem.later hW
 have h:=sysSave y s.p s.n s.c l W' hM (hsm.mono (by omega)) hs.1 hs.2.1 (fun h0 q hq=>⟨lT (hA h0 q hq).1 hW.size,(hA h0 q hq).2⟩) hs.2.2.1 hs.2.2.2.1
 rw [hst.same.s] at h
 refine h.mono (fun e w' hp=>?_)
 obtain ⟨z,v,rfl,hsr,hz⟩:=hp
 obtain ⟨h1,h2,h3,p,was,E,rfl,h4⟩:=hsr.law hM hk
 exact ⟨z,p,was,E,rfl,hz,hz.before hW,hsr.small hsm,h1,h2,hsr.low hM hlo,h3,h4⟩
open Go.ChangeMaps (setBlock shut_map_nil open_string shut_string keptBut_setBlock frozen?_setBlock heap_setBlock_same)
theorem open_bytess {H:Type} {enc:TypeId × Value→H} {W:World} {base:Nat} {v:Value} {d:DataW H} {p:List MemPlace} (hval:Value.okWide Tryz.prog W .any base 48 v) (h:DataW.Trod enc Tryz.prog W 0 (fun _=>true) true 48 v d p):
 ∃ A n c L,v=.slice A n c∧BytArg W A n L∧n≤c∧c≤9223372036854775807:=by
 obtain ⟨a0,len,cap,rfl⟩:=okWide_slice Tryz.underlying48 hval
 obtain ⟨fuel,hf⟩:=h
 rcases Deep.open_slice1 Tryz.underlying48 cells_bytes hf with ⟨hcs,hx⟩|⟨a,len',cap',m,k,V,D,Pl,hcs,_,hl,hmx,hm,hx,hall⟩
 ·simp [Value.cells] at hcs
  obtain ⟨rfl,rfl,rfl⟩:=hcs
  exact ⟨none,0,0,fun _=>[],rfl,fun i hi=>by omega,by omega,by omega⟩
 ·simp [Value.cells] at hcs
  obtain ⟨rfl,rfl,rfl⟩:=hcs
  simp only [if_true] at hm
  unfold maxLen at hmx
  have each:∀ i,∃ l:List UInt8,i<len→∃ b o A' m cc,some a=some ⟨b,o,none⟩∧W.cell? ⟨b,o+i,none⟩=some (.slice A' m cc)∧l.length=m∧Bs W A' l∧m≤cc∧cc≤9223372036854775807∧(A'=none→m=0∧cc=0)∧(0<m→∀ q,bk A'=some q→q<W.heap.size):=by
   intro i
   by_cases hi:i<len
   ·obtain ⟨h0,h1⟩:=hall i (by omega)
    obtain ⟨b,off,spot⟩:=a
    have hspot:spot=none:=by simpa [Addr.add] using World.cell?_spot (hall 0 (by omega)).1
    subst hspot
    have e:(⟨b,off,none⟩:Addr).add i=⟨b,off+i,none⟩:=by unfold Addr.add;split<;>simp_all
    rw [e] at h0
    obtain ⟨A',n',c',l,e1,e2,e3,e4,e5,e6,e7⟩:=cell_bytes (fun _=>rfl) h1
    rw [e1] at h0
    exact ⟨l,fun _=>⟨b,off,A',n',c',rfl,h0,e2,e3,e4,e5,e6,e7⟩⟩
   ·exact ⟨[],fun h=>absurd h hi⟩
  obtain ⟨L,hL⟩:=Classical.axiomOfChoice each
  exact ⟨some a,len,cap,L,rfl,fun i hi=>hL i hi,hl,by omega⟩
theorem lose_step {y:Sys} {n:Nat} {w w':World} {e:Ending} (h:losePost y.s y.c.g y.m.a.g n w e w') (hm:y.Mem w):
 ∃ v s',e=.returned (.bool v)∧y.Step { y with s:=s' } w w'∧s'.g=y.s.g∧(∀ b,s'.wh b=if b=n then none else y.s.wh b)∧s'.nK≤y.s.nK+1∧(∀ d,(s'.kl d).length≤(y.s.kl d).length):=by
 rcases h with ⟨h1,rfl,-,hb⟩|⟨dg,x,nK,nW,h1,rfl,h2,h3,h4,h5⟩
 ·refine ⟨false,y.s,rfl,Sys.Step.refl hm hb,rfl,fun b=>?_,Nat.le_add_right _ _,fun d=>Nat.le_refl _⟩
  by_cases e:b=n
  ·rw [if_pos e,e,h1]
  ·rw [if_neg e]
 ·have hl:∀ d p,p∈(y.s.lose dg n x nK nW).kl d→p∈y.s.kl d:=fun d p hp=>by
   have hp:p∈(if d=dg then (y.s.kl dg).filter (fun p=>decide (p.1≠n)) else y.s.kl d):=hp
   split at hp
   ·next e=>rw [e];exact (List.mem_filter.1 hp).1
   ·exact hp
  refine ⟨true,y.s.lose dg n x nK nW,rfl,hm.sto h3 rfl h4 h5 (fun d p hp=>hm.kb d p (hl d p hp)),rfl,fun b=>rfl,h2,fun d=>?_⟩
  show (if d=dg then (y.s.kl dg).filter (fun p=>decide (p.1≠n)) else y.s.kl d).length≤_
  split
  ·next e=>rw [e];exact List.length_filter_le _ _
  ·exact Nat.le_refl _
theorem gone_fp {c:Cch} {d:Dsk} {n m nB nY b:Nat} (h:(c.gone n m nB nY).fp d b):c.fp d b:=by
 rcases h with h|h|⟨k,x,hx,hb⟩
 ·exact .inl h
 ·exact .inr (.inl h)
 ·have hx:(if k=n then none else c.blk k)=some x:=hx
  split at hx
  ·cases hx
  ·exact .inr (.inr ⟨k,x,hx,hb⟩)
structure UndS (x:Sys) (ks:List Nat) (i:Nat) (y:Sys) (w W:World):Prop where
 st:x.Step y w W
 ms:∀ b,y.m.st b=if b∈ks.take i then some 0 else x.m.st b
 wh:∀ b,y.s.wh b=if b∈ks.take i then none else x.s.wh b
 vw:∀ b,b ∉ ks.take i→y.c.view y.d b=x.c.view x.d b
 fr:y.m.a.free=x.m.a.free+i
 nK:y.s.nK≤x.s.nK+i
 kl:∀ d,(y.s.kl d).length≤(x.s.kl d).length
 qs:y.m.Q.length≤x.m.Q.length+i
theorem UndS.start {x:Sys} {ks:List Nat} {w W:World} (h:x.Mem w) (hb:Below w.heap.size w W):UndS x ks 0 x w W:=
 ⟨Sys.Step.refl h hb,fun b=>by simp,fun b=>by simp,fun b _=>rfl,rfl,Nat.le_refl _,fun _=>Nat.le_refl _,Nat.le_refl _⟩
theorem UndS.step {x y:Sys} {ks:List Nat} {i n:Nat} {w W1 W2 W3 W4:World} {s':Sto} {j:Nat} {q:Sl} {Q:List Nat} {m nB nY:Nat} (h:UndS x ks i y w W1) (hn:ks[i]? = some n) (hs:y.Step { y with s:=s' } W1 W2)
 (hwh:∀ b,s'.wh b=if b=n then none else y.s.wh b) (hnK:s'.nK≤y.s.nK+1) (hkl:∀ d,(s'.kl d).length≤(y.s.kl d).length) (hj:y.m.a.least+j=n) (hjl:j<y.m.a.len)
 (hm:(y.m.back j q Q).Mem W3) (hi:(y.m.back j q Q).Inv) (hc:Chg y.m.fp W2 W3) (e5:∀ b,bk q.p=some b→bk y.m.q.p=some b∨W2.heap.size≤b) (hQ:Q.length=y.m.Q.length+1)
 (hg:(y.c.gone n m nB nY).Mem y.d W4) (hgc:Chg y.c.wr W3 W4):
 UndS x ks (i+1) ⟨y.c.gone n m nB nY,y.d,y.m.back j q Q,s'⟩ w W4:=by
 have h2:=hs.mem.amp (m':=y.m.back j q Q) hm hi hc rfl rfl rfl rfl e5
 have hgc':Chg (y.c.fp y.d) W3 W4:=hgc.mono (fun _ _ h=>.inr (.inl h))
 have hM4:=h2.mem.cacheStep (c':=y.c.gone n m nB nY) hg (Cch.gone_inv h2.mem.ci n m nB nY) rfl hgc' (fun b hb=>.inl (gone_fp hb))
 have h3:Sys.Step ⟨y.c,y.d,y.m.back j q Q,s'⟩ ⟨y.c.gone n m nB nY,y.d,y.m.back j q Q,s'⟩ W3 W4:=⟨hM4,⟨rfl,rfl,rfl,rfl,rfl,rfl⟩,hgc'.mono (fun _ _ h=>.inl h),fun b hb=>by
  rcases hb with hb|hb|hb
  ·exact .inl (.inl (gone_fp hb))
  ·exact .inl (.inr (.inl hb))
  ·exact .inl (.inr (.inr hb))⟩
 refine ⟨((h.st.trans hs).trans h2).trans h3,fun b=>?_,fun b=>?_,fun b hb=>?_,?_,?_,fun d=>Nat.le_trans (hkl d) (h.kl d),?_⟩
 ·show (y.m.back j q Q).st b=_
  rw [Amp.back_st h.st.mem.am hjl,hj,h.ms]
  by_cases e:b=n
  ·rw [if_pos e,if_pos ((mem_take_succ hn b).2 (.inr e))]
  ·rw [if_neg e]
   by_cases e2:b∈ks.take i
   ·rw [if_pos e2,if_pos ((mem_take_succ hn b).2 (.inl e2))]
   ·rw [if_neg e2,if_neg (fun h=>((mem_take_succ hn b).1 h).elim e2 e)]
 ·show s'.wh b=_
  rw [hwh,h.wh]
  by_cases e:b=n
  ·rw [if_pos e,if_pos ((mem_take_succ hn b).2 (.inr e))]
  ·rw [if_neg e]
   by_cases e2:b∈ks.take i
   ·rw [if_pos e2,if_pos ((mem_take_succ hn b).2 (.inl e2))]
   ·rw [if_neg e2,if_neg (fun h=>((mem_take_succ hn b).1 h).elim e2 e)]
 ·have hb':¬(b∈ks.take i∨b=n):=fun h=>hb ((mem_take_succ hn b).2 h)
  show (y.c.gone n m nB nY).view y.d b=_
  rw [Cch.gone_view,if_neg (fun e=>hb' (.inr e)),h.vw b (fun e=>hb' (.inl e))]
 ·show y.m.a.free+1=_
  have:=h.fr
  omega
 ·show s'.nK≤_
  have:=h.nK
  omega
 ·show Q.length≤_
  have:=h.qs
  omega
def undoPost (x:Sys) (w:World) (e:Ending) (w':World):Prop:=
 e=.returned (.tuple #[])∧∃ (y:Sys) (ks:List Nat),ks.length=x.s.nF∧ks.Nodup∧(∀ b,b∈ks↔(x.s.fr b).isSome=true)∧UndS x ks x.s.nF y w w'∧y.s.nF=0
theorem sysUndo (x:Sys) (w:World) (h:x.Mem w) (hsm:x.Small 100000) (hfr:∀ b,(x.s.fr b).isSome=true→x.m.st b=some 1):
 Calls Tryz.prog 22 #[.pointer (some ⟨x.s.g,0,none⟩)] w (undoPost x w):=by
 obtain ⟨R,hR⟩:∃ R,undoPost x w=R:=⟨_,rfl⟩
 rw [hR]
 have HRe:=Lh hR
 have HM:=Lh h
 have HSm:=Lh hsm
 have HFr:=Lh hfr
 have hnF:=hsm.nF
 have HFs:=Lh (chunksFresh x.s _ _ w h.sm (by omega))
 clear h hR hsm hfr
 go_enter Tryz.func22,Tryz.ntmps22
 go_wp2_with fail
 refine HFs.out.mono ?_
 rintro e w1 ⟨A,cc,ks,rfl,hkl,hkp,hkm,hown,hb1⟩
 obtain ⟨L,hL⟩:∃ q,x.s.nF=q:=⟨_,rfl⟩
 rw [hL] at hkl hown hnF ⊢
 have hkm':∀ b,b∈ks↔(x.s.fr b).isSome=true:=fun b=>⟨fun hb=>((hkm b).1 hb).2,fun hb=>(hkm b).2 ⟨by have:=(st_low HM.out.am (HFr.out b hb)).2.2;omega,hb⟩⟩
 have HKm:=Lh hkm'
 have HKp:=Lh hkp
 have HL:=Lh hL
 have HKl:=Lh hkl
 have hs1:w.heap.size≤w1.heap.size:=hb1.size
 have HF0:=Lh (UndS.start HM.out hb1:UndS x ks 0 x w w1)
 have HO0:=Lh (⟨hown,fun q hq hf=>by have:=HM.out.in_ q hf;have:=(Own.lt hown hq).1;omega⟩:Own w1 w.heap.size 3 A L cc (ks.map natv)∧∀ q,bk A=some q→¬x.fp q)
 clear hkm hkm' hkp hb1 hown hL hkl HFs
 go_wp2_with fail
 go_loopg [7] L (fun gg s7 wr=>∃ (i:Nat) (y:Sys),i≤L∧L-i≤gg∧s7=.int .i64 (i:Int)∧UndS x ks i y w wr∧(Own wr w.heap.size 3 A L cc (ks.map natv)∧∀ q,bk A=some q→¬y.fp q)∧w.heap.size≤wr.heap.size)
 case atStart=>exact ⟨0,x,by omega,by omega,rfl,HF0.out,HO0.out,hs1⟩
 case round=>
  obtain ⟨i,y,hiL,hgg,rfl,hund,hown,hsr⟩:=hrel
  have HGg:=Lh hgg
  have HU:=Lh hund
  have HO:=Lh hown
  have hsg:y.s.g=x.s.g:=hund.st.same.s
  have hcg:y.c.g=x.c.g:=hund.st.same.c
  have hmg:y.m.a.g=x.m.a.g:=hund.st.same.m
  clear hgg hund hown
  by_cases hlt:i<L
  ·obtain ⟨n,hn⟩:∃ n,ks[i]? = some n:=⟨_,Zg (by have:=HKl.out;omega)⟩
   have Hn:=Lh hn
   have hx1:x.m.st n=some 1:=HFr.out n ((HKm.out n).1 (List.mem_of_getElem? hn))
   have hy1:y.m.st n=some 1:=by rw [HU.out.ms,if_neg (not_mem_take HKp.out hn)];exact hx1
   obtain ⟨hn1,hn2,hn3⟩:=st_low HU.out.st.mem.am hy1
   obtain ⟨j,hj⟩:∃ j,n=y.m.a.least+j:=⟨n-y.m.a.least,by omega⟩
   have hjl:j<y.m.a.len:=by omega
   have hjS:y.m.S[j]? = some 1:=by
    unfold Amp.st at hy1
    rw [if_pos hn1,hj,Nat.add_sub_cancel_left] at hy1
    exact hy1
   have Hj:=Lh (⟨hj,hjl,hjS⟩:n=y.m.a.least+j∧j<y.m.a.len∧y.m.S[j]? = some 1)
   obtain ⟨g,rfl,-,-,p0⟩:=Own.cell_at HO.out.1 (k:=i) (v:=natv n) (by simp only [List.getElem?_map,hn,Option.map_some])
   have p0':wr.cell? ⟨g,i,none⟩=some (.int .i64 (n:Int)):=p0
   have HLo:=Lh (by
    have h:=chunksLose y.s y.c.g y.m.a.g n wr HU.out.st.mem.sm hn3 (by have:=HU.out.nK;have:=HSm.out.nK;omega) (fun d=>by have:=HU.out.kl d;have:=HSm.out.kl d;omega) HU.out.st.mem.kb
    rw [hsg] at h
    exact h:Calls Tryz.prog 52 #[.pointer (some ⟨x.s.g,0,none⟩),.int .i64 (n:Int)] wr (losePost y.s y.c.g y.m.a.g n wr))
   have j0:(i:Int)<(L:Int):=by omega
   clear hn hx1 hy1 hn1 hn2 hj hjl hjS p0
   go_wp2_with fail
   refine HLo.out.mono ?_
   rintro e w2 hlp
   obtain ⟨v2,s2,rfl,hst2,hsg2,hwh2,hnK2,hkl2⟩:=lose_step hlp HU.out.st.mem
   have HS2:=Lh (⟨hst2,hsg2,hwh2,hnK2,hkl2⟩:y.Step { y with s:=s2 } wr w2∧s2.g=y.s.g∧(∀ b,s2.wh b=if b=n then none else y.s.wh b)∧s2.nK≤y.s.nK+1∧∀ d,(s2.kl d).length≤(y.s.kl d).length)
   have k2:=hst2.mem.sm.cells.2.1
   rw [show ({ y with s:=s2 }:Sys).s.g=x.s.g from hsg2.trans hsg,show ({ y with s:=s2 }:Sys).m.a.g=x.m.a.g from hmg] at k2
   have HBa:=Lh (by
    have h:=allocBack y.m j w2 hst2.mem.am hst2.mem.ai Hj.out.2.1 Hj.out.2.2 (by have:=HU.out.qs;have:=HSm.out.qs;omega)
    rw [←Hj.out.1,hmg] at h
    exact h:Calls Tryz.prog 53 #[.pointer (some ⟨x.m.a.g,0,none⟩),.int .i64 (n:Int)] w2 _)
   clear hst2 hsg2 hwh2 hnK2 hkl2 hlp HLo p0'
   go_wp2_with fail
   refine HBa.out.mono ?_
   rintro e w3 ⟨rfl,q,Q,hm3,hi3,hc3,he3,hQ3⟩
   have HS3:=Lh (⟨hm3,hi3,hc3,he3,hQ3⟩:(y.m.back j q Q).Mem w3∧(y.m.back j q Q).Inv∧Chg y.m.fp w2 w3∧(∀ b,bk q.p=some b→bk y.m.q.p=some b∨w2.heap.size≤b)∧Q.length=y.m.Q.length+1)
   have hst3:Sys.Step { y with s:=s2 } ⟨y.c,y.d,y.m.back j q Q,s2⟩ w2 w3:=HS2.out.1.mem.amp (m':=y.m.back j q Q) hm3 hi3 hc3 rfl rfl rfl rfl he3
   have k3:=hst3.mem.sm.cells.1
   rw [show (⟨y.c,y.d,y.m.back j q Q,s2⟩:Sys).s.g=x.s.g from HS2.out.2.1.trans hsg,show (⟨y.c,y.d,y.m.back j q Q,s2⟩:Sys).c.g=x.c.g from hcg] at k3
   have HFo:=Lh (by
    have h:=cacheForget y.c y.d n w3 hst3.mem.cm hst3.mem.ci (by omega)
    rw [hcg] at h
    exact h:Calls Tryz.prog 32 #[.pointer (some ⟨x.c.g,0,none⟩),.int .i64 (n:Int)] w3 _)
   have HT3:=Lh (HS2.out.1.trans hst3)
   clear hm3 hi3 hc3 he3 hQ3 hst3 HBa k2
   go_wp2_with fail
   refine HFo.out.mono ?_
   rintro e w4 ⟨rfl,m,nB,nY,hg4,hgc4⟩
   have HU4:=Lh (HU.out.step Hn.out HS2.out.1 HS2.out.2.2.1 HS2.out.2.2.2.1 HS2.out.2.2.2.2 Hj.out.1.symm Hj.out.2.1 HS3.out.1 HS3.out.2.1 HS3.out.2.2.1 HS3.out.2.2.2.1 HS3.out.2.2.2.2 hg4 hgc4)
   have hc4:Chg y.fp wr w4:=HT3.out.chg.trans hgc4 (fun b _ h=>.inl (.inr (.inl h)))
   have hO4:Own w4 w.heap.size 3 (some ⟨g,0,none⟩) L cc (ks.map natv):=Own.chg HO.out.1 hc4 HO.out.2
   have hgw:g<wr.heap.size:=(Own.lt HO.out.1 rfl).2
   have hgf:∀ q',bk (some (⟨g,0,none⟩:Addr))=some q'→¬(⟨y.c.gone n m nB nY,y.d,y.m.back j q Q,s2⟩:Sys).fp q':=fun q' hq hf=>by
    cases hq
    have h5:(⟨y.c,y.d,y.m.back j q Q,s2⟩:Sys).fp g:=by
     rcases hf with hf|hf|hf
     ·exact .inl (gone_fp hf)
     ·exact .inr (.inl hf)
     ·exact .inr (.inr hf)
    rcases HT3.out.fp g h5 with h6|h6
    ·exact HO.out.2 g rfl h6
    ·omega
   have hs4:w.heap.size≤w4.heap.size:=Nat.le_trans hsr hc4.size
   have HO4:=Lh (⟨hO4,hgf⟩:Own w4 w.heap.size 3 (some ⟨g,0,none⟩) L cc (ks.map natv)∧∀ q',bk (some (⟨g,0,none⟩:Addr))=some q'→¬(⟨y.c.gone n m nB nY,y.d,y.m.back j q Q,s2⟩:Sys).fp q')
   clear hg4 hgc4 hc4 hO4 hgw hgf HFo k3
   go_wp2
   go_roundg (L-(i+1))
   case measure=>have:=HGg.out;omega
   case rel=>exact ⟨i+1,_,by omega,by omega,by go_num,HU4.out,HO4.out,hs4⟩
  ·obtain rfl:i=L:=by omega
   have j0:¬(i:Int)<(i:Int):=by omega
   have HBg:=Lh (by
    have h:=sysBegin y wr HU.out.st.mem
    rw [hsg] at h
    exact h:Calls Tryz.prog 20 #[.pointer (some ⟨x.s.g,0,none⟩)] wr _)
   clear hlt
   go_wp2_with fail
   refine HBg.out.mono ?_
   rintro e w2 ⟨rfl,hst⟩
   have HSt:=Lh hst
   clear hst HBg
   go_wp2
   go_end0
   rw [←HRe.out]
   have hU:=HU.out
   refine ⟨rfl,{ y with s:=y.s.beg },ks,HKl.out.trans HL.out.symm,HKp.out.imp (fun h e=>by omega),HKm.out,?_,rfl⟩
   rw [HL.out]
   exact ⟨hU.st.trans HSt.out,hU.ms,hU.wh,hU.vw,hU.fr,hU.nK,hU.kl,hU.qs⟩
structure Since (x y:Sys) (FL:List Nat):Prop where
 nd:FL.Nodup
 fr:∀ b,(y.s.fr b).isSome=true↔b∈FL
 ms:∀ b,y.m.st b=if b∈FL then some 1 else x.m.st b
 m0:∀ b∈FL,x.m.st b=some 0
 wh:∀ b,b ∉ FL→y.s.wh b=x.s.wh b
 vw:∀ b,b ∉ FL→y.c.view y.d b=x.c.view x.d b
 free:y.m.a.free+FL.length=x.m.a.free
theorem Since.start (x:Sys) (h:∀ b,x.s.fr b=none):Since x x []:=
 ⟨List.nodup_nil,fun b=>by rw [h];simp,fun b=>by simp,fun b hb=>by simp at hb,fun _ _=>rfl,fun _ _=>rfl,rfl⟩
theorem SaveR.since {x y z:Sys} {FL:List Nat} {l:List UInt8} {v:Value} (h:SaveR y l z v) (hs:Since x y FL):∃ FL',Since x z FL':=by
 cases h with
 | bad _ e=>rw [e];exact ⟨FL,hs⟩
 | found _ p _ _ hv hm nD _ hss=>
   refine ⟨FL,hs.nd,?_,?_,hs.m0,?_,?_,?_⟩
   ·rw [hss];exact hs.fr
   ·rw [hm];exact hs.ms
   ·rw [hss];exact hs.wh
   ·intro b hb;rw [hv];exact hs.vw b hb
   ·rw [hm];exact hs.free
 | space _ _ B _ _ hv hm hss=>
   refine ⟨FL,hs.nd,?_,?_,hs.m0,?_,?_,?_⟩
   ·rw [hss];exact hs.fr
   ·rw [hm];exact hs.ms
   ·rw [hss];exact hs.wh
   ·intro b hb;rw [hv];exact hs.vw b hb
   ·rw [hm];exact hs.free
 | fresh _ _ B _ b0 r _ hd h0 h1 hf _ hv fr _ _ kn=>
   have hno:∀ b∈b0::r,b ∉ FL:=fun b hb hb2=>by
    have h2:=hs.ms b
    rw [if_pos hb2,h0 b hb] at h2
    cases h2
   refine ⟨FL++(b0::r),?_,?_,?_,?_,?_,?_,?_⟩
   ·exact List.nodup_append.2 ⟨hs.nd,hd,fun a ha b hb e=>hno b hb (by rw [←e];exact ha)⟩
   ·intro b
    rw [fr,List.mem_append]
    by_cases e:b∈b0::r
    ·rw [if_pos e];simp [e]
    ·rw [if_neg e,hs.fr];simp only [e,or_false]
   ·intro b
    rw [h1,hs.ms]
    by_cases e:b∈b0::r
    ·rw [if_pos e,if_pos (List.mem_append_right _ e)]
    ·rw [if_neg e]
     by_cases e2:b∈FL
     ·rw [if_pos e2,if_pos (List.mem_append_left _ e2)]
     ·rw [if_neg e2,if_neg (fun h=>(List.mem_append.1 h).elim e2 e)]
   ·intro b hb
    rcases List.mem_append.1 hb with hb|hb
    ·exact hs.m0 b hb
    ·have h2:=hs.ms b
     rw [if_neg (hno b hb),h0 b hb] at h2
     exact h2.symm
   ·intro b hb
    have h2:b ∉ FL:=fun h=>hb (List.mem_append_left _ h)
    have h3:b ∉ b0::r:=fun h=>hb (List.mem_append_right _ h)
    rcases kn with ⟨-,-,e⟩|⟨-,-,e⟩
    ·rw [e];exact hs.wh b h2
    ·rw [e,if_neg (fun e=>h3 (by simp [e]))];exact hs.wh b h2
   ·intro b hb
    rw [hv,writeV_other (fun h=>hb (List.mem_append_right _ h))]
    exact hs.vw b (fun h=>hb (List.mem_append_left _ h))
   ·have:=hs.free
    rw [Zl]
    omega
theorem Since.count {x y:Sys} {FL:List Nat} {w:World} (h:Since x y FL) (hm:y.Mem w):y.s.nF=FL.length:=by
 obtain ⟨D,-,-,h1,h2,h3⟩:=IntT.keys hm.sm.mF
 have hlow:∀ b∈FL,b≤65535:=fun b hb=>(st_low hm.am (s:=1) (by rw [h.ms,if_pos hb])).2.2
 have hn:(FL.map Int.ofNat).Nodup:=List.Pairwise.map _ (fun a b hab e=>hab (Int.ofNat.inj e)) h.nd
 have hl:(FL.map Int.ofNat).length=FL.length:=List.length_map _
 rw [←h2,←hl]
 refine Nat.le_antisymm (nodup_len h1 (fun x hx=>?_)) (nodup_len hn (fun x hx=>?_))
 ·obtain ⟨g1,g2,g3⟩:=(h3 x).1 hx
  exact List.mem_map.2 ⟨x.toNat,(h.fr _).1 g3,by show ((x.toNat:Nat):Int)=x;omega⟩
 ·obtain ⟨b,hb,rfl⟩:=List.mem_map.1 hx
  have:=hlow b hb
  exact (h3 _).2 ⟨by show (0:Int)≤(b:Int);omega,by show (b:Int)<_;omega,(h.fr b).2 hb⟩
theorem lawSaveS {x y x0:Sys} {s:Sl} {l:List UInt8} {B:Nat} {FL:List Nat} {w W W':World} (hst:x.Step y w W) (hsm:y.Small B) (hB:B≤400000) (hk:Kept y) (hlo:FdLow y) (hsi:Since x0 y FL) (hW:Below W.heap.size W W') (hs:SlIn W' s l) (hA:0<s.n→∀ q,bk s.p=some q→q<W.heap.size∧¬y.fp q):
 Calls Tryz.prog 14 #[.pointer (some ⟨x.s.g,0,none⟩),.slice s.p s.n s.c] W' fun e w'=>∃ (z:Sys) (v:Value) (FL':List Nat),e=.returned v∧y.Step z W w'∧z.Small (B+3)∧Kept z∧Stays y z∧FdLow z∧Since x0 z FL':=by
 have hM:=hst.mem.later hW
 have h:=sysSave y s.p s.n s.c l W' hM (hsm.mono (by omega)) hs.1 hs.2.1 (fun h0 q hq=>⟨lT (hA h0 q hq).1 hW.size,(hA h0 q hq).2⟩) hs.2.2.1 hs.2.2.2.1
 rw [hst.same.s] at h
 refine h.mono (fun e w' hp=>?_)
 obtain ⟨z,v,rfl,hsr,hz⟩:=hp
 obtain ⟨FL',hf⟩:=hsr.since hsi
 obtain ⟨h1,h2,-⟩:=hsr.law hM hk
 exact ⟨z,v,FL',rfl,hz.before hW,hsr.small hsm,h1,h2,hsr.low hM hlo,hf⟩
theorem beg_facts {y:Sys} {B:Nat} (hk:Kept y) (hsm:y.Small B):Kept { y with s:=y.s.beg }∧Stays y { y with s:=y.s.beg }∧({ y with s:=y.s.beg }:Sys).Small B∧FdLow { y with s:=y.s.beg }∧Since { y with s:=y.s.beg } { y with s:=y.s.beg } []:=by
 obtain ⟨h1,h2⟩:=hk.same (y:={ y with s:=y.s.beg }) (fun _=>rfl) rfl rfl (fun _=>rfl)
 refine ⟨h1,h2,⟨hsm.nK,hsm.nW,Nat.zero_le _,Nat.zero_le _,hsm.kl,hsm.qs⟩,fun b hb=>?_,Since.start _ (fun b=>?_)⟩
 ·cases hb
 ·rfl
structure Undone (x y:Sys):Prop where
 wh:∀ b,(y.s.wh b).isSome=(x.s.wh b).isSome
 free:y.m.a.free=x.m.a.free
 ld:∀ dg,∀ p∈x.s.kl dg,loadL (y.c.view y.d) p.1 p.2=loadL (x.c.view x.d) p.1 p.2
theorem UndS.undone {x y z:Sys} {FL ks:List Nat} {w W W0:World} (h:UndS y ks y.s.nF z w W) (hs:Since x y FL) (hm:y.Mem W0) (hk:Kept x) (hkl:ks.length=y.s.nF) (hkm:∀ b,b∈ks↔(y.s.fr b).isSome=true):Undone x z:=by
 have hn:=hs.count hm
 have ht:ks.take y.s.nF=ks:=by rw [←hkl];exact List.take_length
 have hmem:∀ b,b∈ks↔b∈FL:=fun b=>(hkm b).trans (hs.fr b)
 refine ⟨fun b=>?_,?_,fun dg p hp=>?_⟩
 ·rw [h.wh,ht]
  by_cases e:b∈FL
  ·rw [if_pos ((hmem b).2 e)]
   cases hx:x.s.wh b with
   | none=>rfl
   | some d=>
     have h1:=hk.wh b (by rw [hx];rfl)
     rw [hs.m0 b e] at h1
     cases h1
  ·rw [if_neg (fun h=>e ((hmem b).1 h)),hs.wh b e]
 ·rw [h.fr,hn]
  exact hs.free
 ·obtain ⟨bs,pk,h1,h2⟩:=hk.ld dg p hp
  refine (load_same h1 (fun b hb=>?_)).2
  have e:b ∉ FL:=fun h=>by
   have h3:=hs.m0 b h
   rw [h2 b hb] at h3
   cases h3
  rw [h.vw b (by rw [ht];exact fun h=>e ((hmem b).1 h)),hs.vw b e]
theorem lawUndo (A:OA) (n cc:Nat) (L:Nat→List UInt8) (A2:OA) (n2 cc2:Nat) (L2:Nat→List UInt8) (w:World) (hA:BytArg w A n L) (hA2:BytArg w A2 n2 L2):
 Calls Tryz.prog 6 #[.slice A n cc,.slice A2 n2 cc2] w fun e w'=>e=.returned (.bool true)∧Below w.heap.size w w':=by
 have HArg2:=Lh hA2
 clear hA2
 obtain ⟨R,hR⟩:∃ R,(fun (e:Ending) (w':World)=>e=.returned (.bool true)∧Below w.heap.size w w')=R:=⟨_,rfl⟩
 rw [hR]
 have HRe:=Lh hR
 have HArg:=Lh hA
 clear hR hA
 have HBg:=Lh (show Calls Tryz.prog 8 #[.int .i64 200] w _ from lawBegin 200 w (by omega))
 go_enter Tryz.func6,Tryz.ntmps6
 go_wp2_with fail
 refine HBg.out.mono ?_
 rintro e w1 ⟨x,gb,gr,gq,rfl,hm,hbeg,hblk,hgb,hgb1,hf,hb1⟩
 have HX1:=Lh (⟨hm,hbeg,hblk,hgb,hgb1,hf,hb1⟩:x.Mem w1∧Beg x 200∧Blk w1 gb 35 (bothV x gr gq)∧¬x.fp gb∧w.heap.size≤gb∧(∀ b,x.fp b→w.heap.size≤b)∧Below w.heap.size w w1)
 have q1:∀ w:World,(binOp .eql 25 (.pointer (some ⟨gb,0,none⟩)) (.pointer none)).run Tryz.prog w=.ok (.bool false) w:=fun _=>rfl
 have hs1:=hb1.size
 have hgl1:=hblk.lt
 have HP0:=Lh (SvS.start (w:=w) hm hbeg (by omega) hblk hgb:SvS x gb gr gq x 0 [] none 0 none 0 0 w w1 w1)
 have hfree0:x.m.a.free=200:=hbeg.free
 clear hm hbeg hblk hgb hf hb1 HBg
 go_upto_block 0 with fail
 go_cut [6,7] from 8 to 57 (fun s6 s7 wx=>∃ (y:Sys) (PL:List Sv) (aA:OA) (ca:Nat) (hA:OA) (ch m:Nat),m≤30∧s6=.slice aA m ca∧s7=.slice hA m ch∧SvS x gb gr gq y (3*30) PL aA ca hA ch m w w1 wx)
 case first=>
  go_wp2_with fail
  go_loopg [6,7,8] (n) (fun gg s6 s7 s8 wr=>∃ (k:Nat) (y:Sys) (PL:List Sv) (aA:OA) (ca:Nat) (hA:OA) (ch m:Nat),k≤n∧k≤30∧n-k≤gg∧m≤k∧s6=.slice aA m ca∧s7=.slice hA m ch∧s8=.int .i64 (k:Int)∧SvS x gb gr gq y (3*k) PL aA ca hA ch m w w1 wr∧200≤y.m.a.free+3*k)
  case atStart=>exact ⟨0,x,[],none,0,none,0,0,by omega,by omega,by omega,by omega,rfl,rfl,rfl,HP0.out,by omega⟩
  case round=>
   obtain ⟨k,y,PL,aA,ca,hA,ch,m,hkn,hk60,hgg,hmk,rfl,rfl,rfl,hsv,hfree⟩:=hrel
   have HGg:=Lh hgg
   have HP:=Lh hsv
   have hfx:∀ q,x.fp q→w.heap.size≤q:=HX1.out.2.2.2.2.2.1
   have hBr:Below w.heap.size w wr:=HX1.out.2.2.2.2.2.2.trans (hsv.st.chg.below hfx hs1)
   have HBr:=Lh hBr
   have hgbr:=hsv.both.lt
   clear hgg hsv
   by_cases hlt:k<n∧k<30
   ·obtain ⟨hlt1,hlt2⟩:=hlt
    obtain ⟨b,o,s,rfl,hc0,hsl⟩:=HArg.out.at_ hlt1
    obtain ⟨A',sn,sc⟩:=s
    have hc0:w.cell? ⟨b,o+k,none⟩=some (.slice A' sn sc):=hc0
    have hbl:b<w.heap.size:=World.block_lt_of_cell? w _ hc0
    have hfy:∀ q,q<w.heap.size→¬y.fp q:=fun q h1=>HP.out.st.nf (by omega) (fun hf2=>by have:=hfx q hf2;omega)
    have HSl:=Lh hsl
    have HSv:=Lh (fun (W:World) (hbW:Below wr.heap.size wr W)=>(lawSave (s:=⟨A',sn,sc⟩) (l:=L k) (B:=3*k) HP.out.st HP.out.sm (by omega) HP.out.kp HP.out.low hbW (hsl.later (hBr.trans (hbW.mono hBr.size))) (fun h0 q hq=>⟨lT (hsl.2.2.2.2 h0 q hq) hBr.size,hfy q (hsl.2.2.2.2 h0 q hq)⟩):
     Calls Tryz.prog 14 #[.pointer (some ⟨x.s.g,0,none⟩),.slice A' sn sc] W fun e w'=>∃ (z:Sys) (p:Ck) (was:Bool) (E:Int),e=.returned (.tuple #[.agg #[.int .i64 (p.1:Int),.int .i64 (p.2:Int)],.bool was,.int .i64 E])∧y.Step z W w'∧y.Step z wr w'∧z.Small (3*k+3)∧Kept z∧Stays y z∧FdLow z∧y.m.a.free≤z.m.a.free+3∧SaveQ y (L k) z p was E))
    have p3:=HP.out.both.cell 3
    simp only [bothV,Zt,Zz,Zs] at p3
    have S0:=Lh (⟨p3,(hBr.cell hbl).trans hc0⟩:wr.cell? ⟨gb,3,none⟩=some (.pointer (some ⟨x.s.g,0,none⟩))∧wr.cell? ⟨b,o+k,none⟩=some (.slice A' sn sc))
    have hbf:¬y.fp b:=hfy b hbl
    have hbw:b<wr.heap.size:=lT hbl hBr.size
    have KS:=Lh (fun (W:World) (hc:Chg y.fp wr W)=>(⟨(cell_same (hc.block gb hgbr HP.out.apb)).trans S0.out.1,(cell_same (hc.block b hbw hbf)).trans S0.out.2⟩:W.cell? ⟨gb,3,none⟩=some (.pointer (some ⟨x.s.g,0,none⟩))∧W.cell? ⟨b,o+k,none⟩=some (.slice A' sn sc)))
    have KA:=Lh (fun (W:World) (ob:Obj) (h1:wr.heap.size≤W.heap.size) (h2:W.cell? ⟨gb,3,none⟩=some (.pointer (some ⟨x.s.g,0,none⟩))∧W.cell? ⟨b,o+k,none⟩=some (.slice A' sn sc))=>
     (⟨(((Below.refl W.heap.size W).alloc nL ob).cell (p:=⟨gb,3,none⟩) (lT hgbr h1)).trans h2.1,(((Below.refl W.heap.size W).alloc nL ob).cell (p:=⟨b,o+k,none⟩) (lT hbw h1)).trans h2.2⟩:
       (W.alloc ob).cell? ⟨gb,3,none⟩=some (.pointer (some ⟨x.s.g,0,none⟩))∧(W.alloc ob).cell? ⟨b,o+k,none⟩=some (.slice A' sn sc)))
    have S0a:=Lh (show (wr.alloc (.cells #[.int .i64 0,.int .i64 0] 24)).drew.cell? ⟨gb,3,none⟩=some (.pointer (some ⟨x.s.g,0,none⟩))∧(wr.alloc (.cells #[.int .i64 0,.int .i64 0] 24)).drew.cell? ⟨b,o+k,none⟩=some (.slice A' sn sc) from KA.out wr _ nL S0.out)
    have KB:=Lh (fun (z:Sys) (W:World) (hs:y.Step z (wr.alloc (.cells #[.int .i64 0,.int .i64 0] 24)).drew W)=>(⟨Blk.chg (show Blk (wr.alloc (.cells #[.int .i64 0,.int .i64 0] 24)).drew wr.heap.size 24 #[.int .i64 0,.int .i64 0] from Blk.new wr _ _) hs.chg (fun hf=>by have:=HP.out.st.mem.in_ _ hf;omega),
     hs.nf (by show wr.heap.size<(wr.alloc _).heap.size;simp) (fun hf=>by have:=HP.out.st.mem.in_ _ hf;omega)⟩:Blk W wr.heap.size 24 #[.int .i64 0,.int .i64 0]∧¬z.fp wr.heap.size))
    have KT:=Lh (fun (W:World) (v1 v2:Value) (h1:wr.heap.size≤W.heap.size) (h2:W.cell? ⟨gb,3,none⟩=some (.pointer (some ⟨x.s.g,0,none⟩))∧W.cell? ⟨b,o+k,none⟩=some (.slice A' sn sc))=>
     (⟨(cell_same ((Chg.set2 W wr.heap.size 0 1 v1 v2).block gb (lT hgbr h1) (by omega))).trans h2.1,(cell_same ((Chg.set2 W wr.heap.size 0 1 v1 v2).block b (lT hbw h1) (by omega))).trans h2.2⟩:
       ((W.setCell ⟨wr.heap.size,0,none⟩ v1).setCell ⟨wr.heap.size,1,none⟩ v2).cell? ⟨gb,3,none⟩=some (.pointer (some ⟨x.s.g,0,none⟩))∧((W.setCell ⟨wr.heap.size,0,none⟩ v1).setCell ⟨wr.heap.size,1,none⟩ v2).cell? ⟨b,o+k,none⟩=some (.slice A' sn sc)))
    have KN:=Lh (fun (W:World) (h:Blk W wr.heap.size 24 #[.int .i64 0,.int .i64 0])=>(⟨by have c:=h.cell 0;simpa using c,by have c:=h.cell 1;simpa using c,h.frozen 0,h.frozen 1⟩:W.cell? ⟨wr.heap.size,0,none⟩=some (.int .i64 0)∧W.cell? ⟨wr.heap.size,1,none⟩=some (.int .i64 0)∧W.frozen? ⟨wr.heap.size,0,none⟩=false∧W.frozen? ⟨wr.heap.size,1,none⟩=false))
    have j0:(k:Int)<(n:Int):=by omega
    have j1:(k:Int)<30:=by omega
    clear hc0 hsl p3 hbf hbw
    go_wp2_with fail
    go_region_held3 (fun W=>W.cell? ⟨gb,3,none⟩=some (.pointer (some ⟨x.s.g,0,none⟩))∧W.cell? ⟨b,o+k,none⟩=some (.slice A' sn sc))
     (first|(exact S0.out)|(exact S0a.out)|(exact S5.out)|(exact S6.out)|(exact S7.out)|go_keep)
     (first|(go_at_call 14;(first|refine (HSv.out wr.drew (Below.refl _ _).drew).mono ?_|refine (HSv.out (wr.alloc (.cells #[.int .i64 0,.int .i64 0] 24)).drew ((Below.refl _ _).alloc nL _).drew).mono ?_);rintro e w5 ⟨z,⟨cb,cl⟩,was,E,rfl,hch5,hst5,hsm5,hkp5,hsy5,hlo5,hfr5,hpo5⟩;(try (have HN5:=Lh (KB.out z w5 hch5);obtain ⟨n50,n51,n5f,n5g⟩:=KN.out w5 HN5.out.1));have HSt5:=Lh hst5;have HFr5:=Lh hfr5;have HP5:=Lh (HP.out.step hst5 hkp5 hsy5 hsm5 hlo5);have HPo5:=Lh hpo5;have S5:=Lh (KS.out w5 hst5.chg);have S7:=Lh (KT.out w5 (.int .i64 (cb:Int)) (.int .i64 (cl:Int)) hst5.chg.size S5.out);have S6:=Lh (KA.out w5 (.cells #[.int .i64 (cb:Int),.int .i64 (cl:Int)] 24) hst5.chg.size S5.out);clear hch5 hst5 hsm5 hkp5 hsy5 hlo5 hfr5 hpo5))
    all_goals
     first
     | (obtain ⟨w6,hw6⟩:∃ q,w5.alloc (.cells #[.int .i64 (cb:Int),.int .i64 (cl:Int)] 24)=q:=⟨_,rfl⟩
        have hb6:Below w5.heap.size w5 w6:=by rw [←hw6];exact (Below.refl _ _).alloc nL _
        have HC6:=Lh (by rw [←hw6];exact Blk.new w5 _ _:Blk w6 w5.heap.size 24 #[.int .i64 (cb:Int),.int .i64 (cl:Int)])
        have HP6:=Lh (HP5.out.later hb6)
        rw [hw6]
        have hbk6:w6.cell? ⟨b,o+k,none⟩=some (.slice A' sn sc):=by rw [←hw6];exact S6.out.2
        clear hw6 hb6 S6 S7
        obtain ⟨gc,hgc⟩:∃ q,w5.heap.size=q:=⟨_,rfl⟩
        rw [hgc] at HC6 ⊢
        clear hgc)
     | (have HP6:=Lh (HP5.out.chg (Chg.set2 w5 wr.heap.size 0 1 (.int .i64 (cb:Int)) (.int .i64 (cl:Int))) (fun q e=>by
         rw [e]
         exact ⟨HN5.out.2,HP.out.st.chg.size,by omega,fun h=>by have:=(HP.out.rowA.lt h).2;omega,fun h=>by have:=(Own.lt HP.out.rowH h).2;omega⟩))
        have HC6:=Lh (by have h:=Blk.set (Blk.set HN5.out.1 0 (.int .i64 (cb:Int))) 1 (.int .i64 (cl:Int));simpa using h:Blk ((w5.setCell ⟨wr.heap.size,0,none⟩ (.int .i64 (cb:Int))).setCell ⟨wr.heap.size,1,none⟩ (.int .i64 (cl:Int))) wr.heap.size 24 #[.int .i64 (cb:Int),.int .i64 (cl:Int)])
        have hbk6:=S7.out.2
        obtain ⟨w6,hw6⟩:∃ q,(w5.setCell ⟨wr.heap.size,0,none⟩ (.int .i64 (cb:Int))).setCell ⟨wr.heap.size,1,none⟩ (.int .i64 (cl:Int))=q:=⟨_,rfl⟩
        rw [hw6] at HP6 HC6 hbk6 ⊢
        clear hw6 S6 S7 n50 n51 n5f n5g HN5
        obtain ⟨gc,hgc⟩:∃ q,wr.heap.size=q:=⟨_,rfl⟩
        rw [hgc] at HC6 ⊢
        clear hgc)
    all_goals
     rcases HPo5.out.cases with ⟨hno,rfl,rfl,-⟩|⟨hsp,-,rfl,rfl,-⟩|⟨rfl,hok,hhas,-⟩
     ·clear hno
      go_wp2_with fail
      go_roundg (n-(k+1))
      case measure=>have:=HGg.out;omega
      case rel=>exact ⟨k+1,z,PL,aA,ca,hA,ch,m,by omega,by omega,by omega,by omega,rfl,rfl,by go_num,HP6.out,by have:=HFr5.out;omega⟩
     ·clear hsp
      go_wp2_with fail
      go_roundg (n-(k+1))
      case measure=>have:=HGg.out;omega
      case rel=>exact ⟨k+1,z,PL,aA,ca,hA,ch,m,by omega,by omega,by omega,by omega,rfl,rfl,by go_num,HP6.out,by have:=HFr5.out;omega⟩
     ·have HHas:=Lh hhas
      clear hok hhas
      obtain ⟨q0,q1⟩:w6.cell? ⟨gc,0,none⟩=some (.int .i64 (cb:Int))∧w6.cell? ⟨gc,1,none⟩=some (.int .i64 (cl:Int)):=by
       have c0:=HC6.out.cell 0
       have c1:=HC6.out.cell 1
       simp only [Zt,Zz,Zs] at c0 c1
       exact ⟨c0,c1⟩
      have hb61:Below w6.heap.size w6 (w6.alloc (.cells #[.int .i64 (cb:Int),.int .i64 (cl:Int)] 24)):=(Below.refl _ _).alloc nL _
      have HO61:=Lh (RowT.Own.later HP6.out.rowA hb61)
      have HN61:=Lh (ChT.news_one w6 (cb,cl) 24)
      have HB61:=Lh hb61
      have hwb:b≠(bk aA).getD w.heap.size:=fun e=>by
       cases hq:bk aA with
       | none=>rw [hq] at e;simp only [Option.getD_none] at e;omega
       | some q=>
         rw [hq] at e
         simp only [Option.getD_some] at e
         have:=(HP.out.rowA.lt hq).1
         omega
      clear hb61
      go_wp2_with (at_builtin;refine ChT.wpList_append rfl _ _ rfl w1.heap.size aA m ca (PL.map Sv.p) (cb,cl) rfl HO61.out ⟨w6.heap.size,0,none⟩ 1 rfl HN61.out ?h1 ?h2 ?_)
      case h1=>omega
      case h2=>have:=HO61.out;exact Nat.le_trans HP6.out.st.chg.size HB61.out.size
      intro A7 c7 w7 hown7 hgr7 hnew7
      have hbk7:w7.cell? ⟨b,o+k,none⟩=some (.slice A' sn sc):=by
       have hbw6:b<w6.heap.size:=World.block_lt_of_cell? w6 _ hbk6
       refine (cell_same (hgr7.block b (lT hbw6 HB61.out.size) (fun e=>hwb (by rw [←e];rfl)))).trans ((HB61.out.cell (p:=⟨b,o+k,none⟩) hbw6).trans hbk6)
      have HOw7:=Lh (⟨hown7,hgr7,hnew7⟩:ChT.Own w7 w1.heap.size A7 (m+1) c7 (PL.map Sv.p++[(cb,cl)])∧(w6.alloc (.cells #[.int .i64 (cb:Int),.int .i64 (cl:Int)] 24)).grownBy w7 (bk aA)∧NewTo (w6.alloc (.cells #[.int .i64 (cb:Int),.int .i64 (cl:Int)] 24)) aA A7)
      have HHa7:=Lh (Own.kept (Own.later HP6.out.rowH HB61.out) hgr7 (by
       cases hq:bk hA with
       | none=>exact .inl rfl
       | some q=>exact .inr (fun e=>HP6.out.ne q e.symm hq)))
      have hs7:w1.heap.size≤w7.heap.size:=Nat.le_trans HP6.out.st.chg.size (Nat.le_trans HB61.out.size hgr7.size)
      clear hown7 hgr7 hnew7 q0 q1 hbk6 hwb
      go_wp2_with (at_builtin;refine wpList_append_one rfl _ _ elemBs rfl w1.heap.size hA m ch (PL.map (fun v=>v.s.v)) w7 (.slice A' sn sc) rfl rfl HHa7.out rfl rfl ?d1 ?d2 hs7 ?_)
      case d1=>omega
      case d2=>omega
      intro A8 c8 w8 hown8 hb8 hgr8 hat8
      have HP8:=Lh (HP6.out.app (v:=⟨(cb,cl),⟨A',sn,sc⟩,L k⟩) HB61.out HOw7.out.1 HOw7.out.2.1 HOw7.out.2.2 hown8 hgr8 hat8 HHas.out HSl.out)
      clear hown8 hb8 hgr8 hat8 hbk7
      go_wp2_with fail
      go_roundg (n-(k+1))
      case measure=>have:=HGg.out;omega
      case rel=>exact ⟨k+1,z,PL++[⟨(cb,cl),⟨A',sn,sc⟩,L k⟩],A7,c7,A8,c8,m+1,by omega,by omega,by omega,by omega,rfl,rfl,by go_num,HP8.out,by have:=HFr5.out;omega⟩
   ·by_cases hk:k<n
    ·have j0:(k:Int)<(n:Int):=by omega
     have j1:¬(k:Int)<30:=by omega
     clear hlt
     go_wp2_with fail
     go_meet
     exact ⟨y,PL,aA,ca,hA,ch,m,by omega,rfl,rfl,HP.out.mono (by omega)⟩
    ·have j0:¬(k:Int)<(n:Int):=by omega
     clear hlt
     go_wp2_with fail
     go_meet
     exact ⟨y,PL,aA,ca,hA,ch,m,by omega,rfl,rfl,HP.out.mono (by omega)⟩
 case rest=>
  obtain ⟨y,PL,aA,ca,hA,ch,m,hm60,rfl,rfl,hsv⟩:=hcut
  have HP:=Lh hsv
  have hmg:y.m.a.g=x.m.a.g:=hsv.st.same.m
  have hsg:y.s.g=x.s.g:=hsv.st.same.s
  obtain ⟨hkp0,hsy0,hsm0,hlo0,hsi0⟩:=beg_facts hsv.kp hsv.sm
  have HK0:=Lh (⟨hkp0,hsy0,hsm0,hlo0,hsi0⟩:Kept { y with s:=y.s.beg }∧Stays y { y with s:=y.s.beg }∧({ y with s:=y.s.beg }:Sys).Small (3*30)∧FdLow { y with s:=y.s.beg }∧Since { y with s:=y.s.beg } { y with s:=y.s.beg } [])
  obtain ⟨F,hF⟩:∃ F,y.m.a.free=F:=⟨_,rfl⟩
  have HF:=Lh hF
  obtain ⟨N,hN⟩:∃ N,y.s.nW=N:=⟨_,rfl⟩
  have HN:=Lh hN
  have p2:=hsv.both.cell 2
  have p3:=hsv.both.cell 3
  simp only [bothV,Zt,Zz,Zs] at p2 p3
  have HKn:=Lh (by have h:=sysKnown y wc hsv.st.mem;rw [hsg,hN] at h;exact h:Calls Tryz.prog 19 #[.pointer (some ⟨x.s.g,0,none⟩)] wc fun e w'=>e=.returned (.int .i64 (N:Int))∧w'=wc)
  have HFr:=Lh (by have h:=sysFree y wc hsv.st.mem;rw [hmg,hF] at h;exact h:Calls Tryz.prog 16 #[.pointer (some ⟨x.m.a.g,0,none⟩)] wc fun e w'=>e=.returned (.int .i64 (F:Int))∧Below wc.heap.size wc w')
  have HBg:=Lh (fun (W:World) (hb:Below wc.heap.size wc W)=>(by have h:=sysBegin y W (HP.out.st.mem.later hb);rw [hsg] at h;exact h:Calls Tryz.prog 20 #[.pointer (some ⟨x.s.g,0,none⟩)] W fun e w'=>e=.returned (.tuple #[])∧y.Step { y with s:=y.s.beg } W w'))
  clear hsv hF hN hkp0 hsy0 hsm0 hlo0 hsi0 hmg hsg
  go_wp2_with fail
  refine HKn.out.mono ?_
  rintro e wd ⟨rfl,hwd⟩
  obtain rfl:wc=wd:=hwd.symm
  clear HKn
  go_wp2_with fail
  refine HFr.out.mono ?_
  rintro e w2 ⟨rfl,hb2⟩
  have Hb2:=Lh hb2
  have HP2:=Lh (HP.out.later hb2)
  have p4:=HP2.out.both.cell 3
  simp only [bothV,Zt,Zz,Zs] at p4
  clear hb2 HFr p2 p3
  go_wp2_with fail
  refine (HBg.out w2 Hb2.out).mono ?_
  rintro e w3 ⟨rfl,hst3⟩
  have HP3:=Lh ((HP2.out.step hst3 HK0.out.1 HK0.out.2.1 HK0.out.2.2.1 HK0.out.2.2.2.1).mono (by omega):SvS x gb gr gq { y with s:=y.s.beg } 100 PL aA ca hA ch m w w1 w3)
  clear hst3 p4 HBg
  go_upto_block 2 with fail
  obtain ⟨y0,hy0⟩:∃ q,({ y with s:=y.s.beg }:Sys)=q:=⟨_,rfl⟩
  have HY0:=Lh (⟨by rw [←hy0];exact HN.out,by rw [←hy0];exact HF.out⟩:y0.s.nW=N∧y0.m.a.free=F)
  rw [hy0] at HP3 HK0
  have HK0:=Lh (⟨HK0.out.1,HK0.out.2.2.2.2⟩:Kept y0∧Since y0 y0 [])
  clear hy0 HP HP2 Hb2 HN HF
  go_cut [14] from 15 to 91 (fun s14 wx=>∃ (z:Sys) (FL:List Nat),SvS x gb gr gq z 1000 PL aA ca hA ch m w w1 wx∧Since y0 z FL)
  case first=>
   go_wp2_with fail
   go_loopg [14] (n2) (fun gg s14 wr=>∃ (k:Nat) (y:Sys) (FL:List Nat),k≤n2∧k≤30∧n2-k≤gg∧s14=.int .i64 (k:Int)∧SvS x gb gr gq y (100+3*k) PL aA ca hA ch m w w1 wr∧Since y0 y FL)
   case atStart=>exact ⟨0,y0,[],by omega,by omega,by omega,rfl,HP3.out,HK0.out.2⟩
   case round=>
    obtain ⟨k,y,FL,hkn,hk30,hgg,rfl,hsv,hsi⟩:=hrel
    have HGg:=Lh hgg
    have HP:=Lh hsv
    have HSi:=Lh hsi
    have hfx:∀ q,x.fp q→w.heap.size≤q:=HX1.out.2.2.2.2.2.1
    have hBr:Below w.heap.size w wr:=HX1.out.2.2.2.2.2.2.trans (hsv.st.chg.below hfx hs1)
    have hgbr:=hsv.both.lt
    clear hgg hsv hsi
    by_cases hlt:k<n2∧k<30
    ·obtain ⟨hlt1,hlt2⟩:=hlt
     obtain ⟨b,o,s,rfl,hc0,hsl⟩:=HArg2.out.at_ hlt1
     obtain ⟨A',sn,sc⟩:=s
     have hc0:w.cell? ⟨b,o+k,none⟩=some (.slice A' sn sc):=hc0
     have hbl:b<w.heap.size:=World.block_lt_of_cell? w _ hc0
     have hfy:∀ q,q<w.heap.size→¬y.fp q:=fun q h1=>HP.out.st.nf (by omega) (fun hf2=>by have:=hfx q hf2;omega)
     have HSv:=Lh (lawSaveS (s:=⟨A',sn,sc⟩) (l:=L2 k) (B:=100+3*k) HP.out.st HP.out.sm (by omega) HP.out.kp HP.out.low HSi.out (Below.refl wr.heap.size wr).drew (hsl.later (hBr.trans (Below.refl wr.heap.size wr |>.drew.mono hBr.size))) (fun h0 q hq=>⟨lT (hsl.2.2.2.2 h0 q hq) hBr.size,hfy q (hsl.2.2.2.2 h0 q hq)⟩):
      Calls Tryz.prog 14 #[.pointer (some ⟨x.s.g,0,none⟩),.slice A' sn sc] wr.drew fun e w'=>∃ (z:Sys) (v:Value) (FL':List Nat),e=.returned v∧y.Step z wr w'∧z.Small (100+3*k+3)∧Kept z∧Stays y z∧FdLow z∧Since y0 z FL')
     have p3:=HP.out.both.cell 3
     simp only [bothV,Zt,Zz,Zs] at p3
     have S0:=Lh (⟨p3,(hBr.cell hbl).trans hc0⟩:wr.cell? ⟨gb,3,none⟩=some (.pointer (some ⟨x.s.g,0,none⟩))∧wr.cell? ⟨b,o+k,none⟩=some (.slice A' sn sc))
     have hbf:¬y.fp b:=hfy b hbl
     have hbw:b<wr.heap.size:=lT hbl hBr.size
     have KS:=Lh (fun (W:World) (hc:Chg y.fp wr W)=>(⟨(cell_same (hc.block gb hgbr HP.out.apb)).trans S0.out.1,(cell_same (hc.block b hbw hbf)).trans S0.out.2⟩:W.cell? ⟨gb,3,none⟩=some (.pointer (some ⟨x.s.g,0,none⟩))∧W.cell? ⟨b,o+k,none⟩=some (.slice A' sn sc)))
     have j0:(k:Int)<(n2:Int):=by omega
     have j1:(k:Int)<30:=by omega
     clear hc0 hsl p3 hbf hbw
     go_wp2_with fail
     go_region_held3 (fun W=>W.cell? ⟨gb,3,none⟩=some (.pointer (some ⟨x.s.g,0,none⟩))∧W.cell? ⟨b,o+k,none⟩=some (.slice A' sn sc))
      (first|(exact S0.out)|(exact S5.out)|go_keep)
      (first|(go_at_call 14;refine HSv.out.mono ?_;rintro e w5 ⟨z,v,FL5,rfl,hst5,hsm5,hkp5,hsy5,hlo5,hsi5⟩;have HP5:=Lh (HP.out.step hst5 hkp5 hsy5 hsm5 hlo5);have HSi5:=Lh hsi5;have S5:=Lh (KS.out w5 hst5.chg);clear hst5 hsm5 hkp5 hsy5 hlo5 hsi5))
     go_wp2_with fail
     go_roundg (n2-(k+1))
     case measure=>have:=HGg.out;omega
     case rel=>exact ⟨k+1,z,FL5,by omega,by omega,by omega,by go_num,HP5.out.mono (by omega),HSi5.out⟩
    ·by_cases hk:k<n2
     ·have j0:(k:Int)<(n2:Int):=by omega
      have j1:¬(k:Int)<30:=by omega
      clear hlt
      go_wp2_with fail
      go_meet
      exact ⟨y,FL,HP.out.mono (by omega),HSi.out⟩
     ·have j0:¬(k:Int)<(n2:Int):=by omega
      clear hlt
      go_wp2_with fail
      go_meet
      exact ⟨y,FL,HP.out.mono (by omega),HSi.out⟩
  case rest=>
   obtain ⟨z,FL,hsv,hsi⟩:=hcut
   have HP:=Lh hsv
   have HSi:=Lh hsi
   have hmg:z.m.a.g=x.m.a.g:=hsv.st.same.m
   have hsg:z.s.g=x.s.g:=hsv.st.same.s
   have hcn:=hsi.count hsv.st.mem
   have hfr:=hsi.free
   rw [HY0.out.2] at hfr
   obtain ⟨Z,hZ⟩:∃ Z,z.m.a.free=Z:=⟨_,rfl⟩
   obtain ⟨C,hC⟩:∃ C,z.s.nF=C:=⟨_,rfl⟩
   have hFle:F≤70000:=by
    have h1:=HK0.out.2.free
    have h2:=HY0.out.2
    have h3:=hsv.st.mem.am.lo
    have h4:=hsv.st.mem.ai.fr
    have h5:=hsv.st.mem.am.slen
    have h6:z.m.S.count 0≤z.m.S.length:=List.count_le_length
    have h7:=hsv.sm.nF
    omega
   have e1:IntKind.i64.wrap ((F:Int)-(C:Int))=(Z:Int):=by rw [wrapi64 (by omega) (by omega)];omega
   have p2:=hsv.both.cell 2
   have p3:=hsv.both.cell 3
   simp only [bothV,Zt,Zz,Zs] at p2 p3
   have S0:=Lh (⟨p2,p3⟩:wc.cell? ⟨gb,2,none⟩=some (.pointer (some ⟨x.m.a.g,0,none⟩))∧wc.cell? ⟨gb,3,none⟩=some (.pointer (some ⟨x.s.g,0,none⟩)))
   have hgbw:=hsv.both.lt
   have KS:=Lh (fun (W:World) (hb:Below wc.heap.size wc W)=>(⟨(hb.cell (p:=⟨gb,2,none⟩) hgbw).trans S0.out.1,(hb.cell (p:=⟨gb,3,none⟩) hgbw).trans S0.out.2⟩:W.cell? ⟨gb,2,none⟩=some (.pointer (some ⟨x.m.a.g,0,none⟩))∧W.cell? ⟨gb,3,none⟩=some (.pointer (some ⟨x.s.g,0,none⟩))))
   have HFr:=Lh (by
    have h:=sysFree z wc.drew (hsv.st.mem.later (Below.refl _ _).drew)
    rw [hmg,hZ] at h
    exact h.mono (fun e w' hp=>⟨hp.1,(Below.refl _ _).drew.trans hp.2⟩):Calls Tryz.prog 16 #[.pointer (some ⟨x.m.a.g,0,none⟩)] wc.drew fun e w'=>e=.returned (.int .i64 (Z:Int))∧Below wc.heap.size wc w')
   have HFs:=Lh (fun (W:World) (hb:Below wc.heap.size wc W)=>(by
    have h:=chunksFresh z.s _ _ W (hsv.st.mem.later hb).sm (by have:=hsv.sm.nF;omega)
    rw [hsg,hC] at h
    refine h.mono (fun e w' hp=>?_)
    obtain ⟨A,cc,ks,rfl,-,-,-,-,h6⟩:=hp
    exact ⟨A,cc,rfl,hb.trans (h6.mono hb.size)⟩:Calls Tryz.prog 21 #[.pointer (some ⟨x.s.g,0,none⟩)] W fun e w'=>∃ (A:OA) (cc:Nat),e=.returned (.slice A C cc)∧Below wc.heap.size wc w'))
   have HC:=Lh hC
   clear hsv hsi hmg hsg hcn hfr hFle p2 p3 hgbw hZ hC
   go_wp2_with fail
   go_region_held3 (fun W=>W.cell? ⟨gb,2,none⟩=some (.pointer (some ⟨x.m.a.g,0,none⟩))∧W.cell? ⟨gb,3,none⟩=some (.pointer (some ⟨x.s.g,0,none⟩)))
    (first|(exact S0.out)|(exact S3.out)|(exact S4.out)|go_keep)
    (first|(go_at_call 16;refine HFr.out.mono ?_;rintro e w3 ⟨rfl,hb3⟩;have HB3:=Lh hb3;have S3:=Lh (KS.out w3 hb3);clear hb3)|(go_at_call 21;refine (HFs.out w3 HB3.out).mono ?_;rintro e w4 ⟨A4,cc4,rfl,hb4⟩;have HB4:=Lh hb4;have S4:=Lh (KS.out w4 hb4);clear hb4))
   have HP4:=Lh (HP.out.later HB4.out)
   have hmg:z.m.a.g=x.m.a.g:=HP.out.st.same.m
   have hsg:z.s.g=x.s.g:=HP.out.st.same.s
   have HUn:=Lh (by
    have h:=sysUndo z w4 HP4.out.st.mem (HP4.out.sm.mono (by omega)) (fun b hb=>by rw [HSi.out.ms,if_pos ((HSi.out.fr b).1 hb)])
    rw [hsg] at h
    exact h:Calls Tryz.prog 22 #[.pointer (some ⟨x.s.g,0,none⟩)] w4 (undoPost z w4))
   have t3:=S4.out.2
   clear S0 S3 HFr HFs e1
   go_wp2_with fail
   refine HUn.out.mono ?_
   rintro e w5 ⟨rfl,u,ks,hkl,hkd,hkm,hund,hu0⟩
   have HUs:=Lh hund
   have HUd:=Lh (hund.undone HSi.out HP.out.st.mem HK0.out.1 hkl hkm)
   have HF5:=Lh (HP4.out.fin HX1.out.2.2.2.2.2.2 HX1.out.2.2.2.2.2.1 (z:=u) hund.st.mem hund.st.same.s hund.st.chg hund.st.fp (fun v hv=>by
    have h1:=HP3.out.has v hv
    rw [HUd.out.ld _ v.p h1.1.kl]
    exact h1.1.ld):FinS x gb gr gq u PL aA ca hA ch m w w5)
   have hsu:u.s.g=x.s.g:=hund.st.same.s.trans hsg
   have hmu:u.m.a.g=x.m.a.g:=hund.st.same.m.trans hmg
   have hnW:u.s.nW=N:=(known_same HP3.out.st.mem hund.st.mem HUd.out.wh).trans HY0.out.1
   have hfu:u.m.a.free=F:=HUd.out.free.trans HY0.out.2
   have p2:=HF5.out.both.cell 2
   have p3:=HF5.out.both.cell 3
   simp only [bothV,Zt,Zz,Zs] at p2 p3
   have hgbw:=HF5.out.both.lt
   have HKn:=Lh (by have h:=sysKnown u w5 hund.st.mem;rw [hsu,hnW] at h;exact h:Calls Tryz.prog 19 #[.pointer (some ⟨x.s.g,0,none⟩)] w5 fun e w'=>e=.returned (.int .i64 (N:Int))∧w'=w5)
   have HFr:=Lh (by have h:=sysFree u w5 hund.st.mem;rw [hmu,hfu] at h;exact h:Calls Tryz.prog 16 #[.pointer (some ⟨x.m.a.g,0,none⟩)] w5 fun e w'=>e=.returned (.int .i64 (F:Int))∧Below w5.heap.size w5 w')
   have HFs:=Lh (fun (W:World) (hb:Below w5.heap.size w5 W)=>(by
    have h:=chunksFresh u.s _ _ W (hund.st.mem.later hb).sm (by omega)
    rw [hsu,hu0] at h
    refine h.mono (fun e w' hp=>?_)
    obtain ⟨A,cc,ks,rfl,-,-,-,-,h6⟩:=hp
    exact ⟨A,cc,rfl,hb.trans (h6.mono hb.size)⟩:Calls Tryz.prog 21 #[.pointer (some ⟨x.s.g,0,none⟩)] W fun e w'=>∃ (A:OA) (cc:Nat),e=.returned (.slice A 0 cc)∧Below w5.heap.size w5 w'))
   have Hp3:=Lh (⟨p3,hgbw⟩:w5.cell? ⟨gb,3,none⟩=some (.pointer (some ⟨x.s.g,0,none⟩))∧gb<w5.heap.size)
   clear hkl hkd hkm hund hu0 hsu hmu hnW hfu hmg hsg t3 HUn hgbw S4 HP4 HP HUs HUd HSi HP3
   go_wp2_with fail
   refine HKn.out.mono ?_
   rintro e wd ⟨rfl,hwd⟩
   obtain rfl:w5=wd:=hwd.symm
   clear HKn p3
   go_wp2_with fail
   refine HFr.out.mono ?_
   rintro e w6 ⟨rfl,hb6⟩
   have HB6:=Lh hb6
   have t3:w6.cell? ⟨gb,3,none⟩=some (.pointer (some ⟨x.s.g,0,none⟩)):=(hb6.cell (p:=⟨gb,3,none⟩) Hp3.out.2).trans Hp3.out.1
   clear hb6 HFr p2
   go_wp2_with fail
   refine (HFs.out w6 HB6.out).mono ?_
   rintro e w7 ⟨A7,cc7,rfl,hb7⟩
   have HF3:=Lh (HF5.out.later hb7)
   clear hb7 HFs t3 HB6 HF5
   go_wp2_with fail
   go_loopg [15] (m) (fun gg s15 wr=>∃ (i:Nat) (Y:Sys),i≤m∧m-i≤gg∧s15=.int .i64 (i:Int)∧FinS x gb gr gq Y PL aA ca hA ch m w wr)
   case atStart=>exact ⟨0,_,by omega,by omega,rfl,HF3.out⟩
   case round=>
    obtain ⟨i,Y,him,hgg,rfl,hfin⟩:=hrel
    have HGg:=Lh hgg
    have HQ:=Lh hfin
    clear hgg hfin
    by_cases hlt:i<m
    ·skip
     obtain ⟨v,hv⟩:∃ v,PL[i]? = some v:=⟨_,Zg (by rw [HQ.out.len];exact hlt)⟩
     obtain ⟨⟨cb,cl⟩,⟨A',sn,sc⟩,l⟩:=v
     have hmem:=List.mem_of_getElem? hv
     obtain ⟨ga,haA,hga1,hga2,r0,r1⟩:=HQ.out.chunk hv
     have r0:wr.cell? ⟨ga,i*2,none⟩=some (.int .i64 (cb:Int)):=r0
     have r1:wr.cell? ⟨ga,i*2+1,none⟩=some (.int .i64 (cl:Int)):=r1
     obtain ⟨gh,hhA,hgh1,hgh2,r2⟩:=HQ.out.slice hv
     have r2:wr.cell? ⟨gh,i,none⟩=some (.slice A' sn sc):=r2
     have HSl:=Lh (show SlIn w ⟨A',sn,sc⟩ l from (HQ.out.ld _ hmem).2.2.2)
     have p3:=HQ.out.both.cell 3
     simp only [bothV,Zt,Zz,Zs] at p3
     have HLd:=Lh (lawLoad (v:=⟨(cb,cl),⟨A',sn,sc⟩,l⟩) HQ.out hmem (Below.refl wr.heap.size wr).drew:Calls Tryz.prog 11 #[.pointer (some ⟨x.s.g,0,none⟩),.agg #[.int .i64 (cb:Int),.int .i64 (cl:Int)]] wr.drew fun e w'=>∃ (z:Sys) (LA:OA) (ln lc:Nat),e=.returned (.tuple #[.slice LA ln lc,.int .i64 0])∧Y.Step z wr w'∧(∀ k,z.c.view z.d k=Y.c.view Y.d k)∧l.length=ln∧Bs w' LA l∧l.length≤65535)
     have hgbr:=HQ.out.both.lt
     have S0:=Lh (⟨p3,r0,r1,r2⟩:wr.cell? ⟨gb,3,none⟩=some (.pointer (some ⟨x.s.g,0,none⟩))∧wr.cell? ⟨ga,i*2,none⟩=some (.int .i64 (cb:Int))∧wr.cell? ⟨ga,i*2+1,none⟩=some (.int .i64 (cl:Int))∧wr.cell? ⟨gh,i,none⟩=some (.slice A' sn sc))
     have KS:=Lh (fun (W:World) (hc:Chg Y.fp wr W)=>(⟨(cell_same (hc.block gb hgbr HQ.out.apb)).trans S0.out.1,(cell_same (hc.block ga hga1 hga2)).trans S0.out.2.1,(cell_same (hc.block ga hga1 hga2)).trans S0.out.2.2.1,(cell_same (hc.block gh hgh1 hgh2)).trans S0.out.2.2.2⟩:
      W.cell? ⟨gb,3,none⟩=some (.pointer (some ⟨x.s.g,0,none⟩))∧W.cell? ⟨ga,i*2,none⟩=some (.int .i64 (cb:Int))∧W.cell? ⟨ga,i*2+1,none⟩=some (.int .i64 (cl:Int))∧W.cell? ⟨gh,i,none⟩=some (.slice A' sn sc)))
     have j0:(i:Int)<(m:Int):=by omega
     have Hv:=Lh hv
     subst haA
     subst hhA
     clear hv hmem hga1 hga2 hgh1 hgh2 r0 r1 r2 p3
     go_wp2_with fail
     go_region_held3 (fun W=>W.cell? ⟨gb,3,none⟩=some (.pointer (some ⟨x.s.g,0,none⟩))∧W.cell? ⟨ga,i*2,none⟩=some (.int .i64 (cb:Int))∧W.cell? ⟨ga,i*2+1,none⟩=some (.int .i64 (cl:Int))∧W.cell? ⟨gh,i,none⟩=some (.slice A' sn sc))
      (first|(exact S0.out)|(exact S4.out)|go_keep)
      (first|(go_at_call 11;refine HLd.out.mono ?_;rintro e w4 ⟨z,LA,ln,lc,rfl,hst4,hvw4,hll4,hbs4,hle4⟩;have HQ4:=Lh (HQ.out.step hst4 hvw4);have HB4:=Lh (⟨hll4,hbs4,hle4⟩:l.length=ln∧Bs w4 LA l∧l.length≤65535);have S4:=Lh (KS.out w4 hst4.chg);clear hst4 hvw4 hll4 hbs4 hle4))
     have HSame:=Lh (by
      have h:=sameAny LA A' ln lc sn sc l l w4 HB4.out.1 HSl.out.1 HB4.out.2.1 (HSl.out.later HQ4.out.bel).2.1 (by have:=HB4.out;omega) (by have:=HB4.out;have h:=HSl.out.1;simp only at h;omega)
      rw [beq_self_eq_true] at h
      exact h:Calls Tryz.prog 18 #[.slice LA ln lc,.slice A' sn sc] w4 fun e w'=>e=.returned (.bool true)∧Below w4.heap.size w4 w')
     have r3:=S4.out.2.2.2
     go_wp2_with fail
     refine HSame.out.mono ?_
     rintro e w5 ⟨rfl,hb5⟩
     have HQ5:=Lh (HQ4.out.later hb5)
     clear hb5 r3 HSame HLd
     go_wp2_with fail
     go_roundg (m-(i+1))
     case measure=>have:=HGg.out;omega
     case rel=>exact ⟨i+1,z,by omega,by omega,by go_num,HQ5.out⟩
    ·obtain rfl:i=m:=by omega
     have j0:¬(i:Int)<(i:Int):=by omega
     have HLv:=Lh (lawLives wr)
     clear hlt
     go_wp2_with fail
     refine HLv.out.mono ?_
     rintro e w6 ⟨rfl,hb6⟩
     have HB6:=Lh hb6
     clear hb6
     go_wp2
     rw [←HRe.out]
     exact ⟨rfl,HQ.out.bel.trans (HB6.out.mono HQ.out.bel.size)⟩
end Go.Proofs.YtiihiocgbfafaaaGreat
namespace Go.Proofs.YtiihiocgbfafaaaGreat.cundo
open Go.ChangeShapes Go.WideShapes Go.ChangeAt Go.RowKit
open Go.ChangeMaps (setBlock shut_map_nil open_string shut_string keptBut_setBlock frozen?_setBlock heap_setBlock_same)
theorem contract (H:Type) (enc:TypeId × Value→H) (W:World) (base:Nat) (args:Array Value) (ds gs:List (DataW H)) (before:List MemPlace)
 (hval:∀ (j:Nat) t v,Tryz.f6.params[j]? = some t→args[j]? = some v→Value.okWide Tryz.prog W .any base t v)
 (hW:DataW.Whole enc Tryz.prog Tryz.f6.params.toList Rows.chunksUndoSpec.vars false W args.toList ds gs before):
 Calls Tryz.prog 6 args W fun e W'=>∃ v,e=.returned v∧Rows.chunksUndoSpec.post enc Tryz.prog Tryz.f6 false true false false W args v W':=by
 have hW':=hW
 obtain ⟨p,q,hA0,hV,rfl,hfz,hnd⟩:=hW
 have hA:DataW.TrodAll enc Tryz.prog W 0 (fun _=>true) true Tryz.f6.params.toList args.toList ds p:=hA0
 rw [Tryz.params6] at hA hval
 obtain ⟨v0,vs0,d0,ds0,p0,q0,hargs,rfl,rfl,h0,r0⟩:=trodAll_cons hA
 obtain ⟨v1,vs1,d1,ds1,p1,q1,hargs1,rfl,rfl,h1,r1⟩:=trodAll_cons r0
 obtain ⟨rfl,rfl,rfl⟩:=trodAll_nil r1
 obtain rfl:vs0=[v1]:=hargs1
 obtain rfl:args=#[v0,v1]:=by cases args;simp_all
 obtain ⟨rfl,rfl⟩:=trodVars_none hV
 obtain ⟨A,n,c,L,rfl,hB,hc,hc2⟩:=open_bytess (hval 0 48 v0 rfl rfl) h0
 obtain ⟨A2,n2,c2,L2,rfl,hB2,hc3,hc4⟩:=open_bytess (hval 1 48 v1 rfl rfl) h1
 clear hA0
 simp only [List.append_nil] at hW'
 refine (lawUndo A n c L A2 n2 c2 L2 W hB hB2).mono fun e W' ⟨he,hb⟩=>?_
 subst he
 have hlt0:∀ x∈p0,x.block<W.heap.size:=fun x hx=>hW'.lt x (by simp [hx])
 have hlt1:∀ x∈p1,x.block<W.heap.size:=fun x hx=>hW'.lt x (by simp [hx])
 exact ⟨_,rfl,post_kept2 hW' rfl (fun _ _ _=>trodAll_cons_mk (shut_bool Tryz.underlying4 _) trodAll_mk0) (by
  have:=trodAll_cons_mk (Below.trod laidOut readable_bytess row_bytess h0 hb hlt0) (trodAll_cons_mk (Below.trod laidOut readable_bytess row_bytess h1 hb hlt1) trodAll_mk0)
  simp only [List.append_nil] at this ⊢
  exact this) rfl hb⟩
theorem reads (os:Os) {H:Type} (enc:TypeId × Value→H):∃ places,DataW.whole enc Tryz.prog ((laidWorld os).forCall (fun _ _=>0) ⟨#[],#[.slice none 0 0,.slice none 0 0],[]⟩).memory Tryz.f6.params.toList Rows.chunksUndoSpec.vars false #[Value.slice none 0 0,.slice none 0 0].toList 8=some ([.nil,.nil],[],places):=
 ⟨[],by kernel_rfl⟩
theorem lifted (os:Os) (started:os.Started) (H:Type) (enc:TypeId × Value→H) (F:Stop.Interp):
 ReturnsInHanded {} Tryz.checked os 6 .any ((OpenSpec.ofChange Rows.chunksUndoSpec).preRow enc Tryz.prog Tryz.f6 Rows.chunksUndoRow.domain false Rows.chunksUndoRow.laid) (((OpenSpec.ofChange Rows.chunksUndoSpec).at F).post enc Tryz.prog Tryz.f6 false true false false):=by
 obtain ⟨places,hx⟩:=reads os enc
 refine returnsInHanded_of_row (C:=Tryz.checked) (s:=OpenSpec.ofChange Rows.chunksUndoSpec) own started (by kernel_rfl) Tryz.func6
  (witness_row_at (enc:=enc) (C:=Tryz.checked) false (laidWorld os) #[.slice none 0 0,.slice none 0 0] rfl (by kernel_rfl) (by kernel_rfl) (by kernel_rfl)
    (OpenSpec.preRow_of_cond 8 hx (by kernel_rfl) (fun k hk=>by cases hk) (by kernel_rfl) (show laidMet Tryz.prog [] _ from ⟨[],by first|trivial|exact rfl|simp [DataW.LaidVars],List.nodup_nil,fun b off h=>by cases h⟩))) ?_
 intro W base args ds gs before hval hW _ _ _ _ hsh _
 exact contract H enc W base args ds gs before hval hW
theorem said:Rows.ChunksUndoSaid:=
 OpenClaim.holds_of_cond 6 Tryz.f6 rfl rfl rfl rfl rfl rfl rfl ⟨rfl,rfl,rfl,rfl,rfl⟩ rfl rfl rfl rfl rfl (by kernel_rfl) Tryz.func6 (by kernel_rfl)
  (of_decide_eq_true (by kernel_rfl)) (by unfold Func.isWrapper;rw [if_neg (of_decide_eq_false (by kernel_rfl))];exact ⟨rfl,rfl⟩)
  (fun os started H enc _ F=>by rw [OpenClaim.pre_eq_preRow];exact lifted os started H enc F)
#print axioms said
end Go.Proofs.YtiihiocgbfafaaaGreat.cundo
