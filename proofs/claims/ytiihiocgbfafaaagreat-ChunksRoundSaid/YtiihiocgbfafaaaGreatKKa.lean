/- Core Own Own2 G1 Arith B1 B2 B3 Shelf0 B4 P1 -/
import Derived.Test.YtiihiocgbfafaaaGreatRows
import Derived.WalkKit
import Derived.WalkLawsBesides
import Derived.WalkSpells
import Derived.Lib.Hide
import Derived.Outline
import Derived.BigQuiet
import Derived.Deep.QuietTactic
import Derived.Deep.LoopGhost
import Derived.Deep.DeepFit
import Derived.LoopTactic
import Derived.Maps.AppendAt
import Derived.Laws.AppendOwnNone
import Derived.Lib.AppendZerosOnto
import Derived.DeepKeys3
import Derived.Maps.OwnSet
import Derived.Shelf.Small.Bits
import Derived.Shelf.Utf8.RuneCount
import Derived.Shelf.Strconv.Itoa0
import Derived.Shelf.Strings.Search1
import Derived.Shelf.Strings.RuneCount
import Derived.Shelf.Bits.Mul64
import Derived.Shelf.Slices.Turned
import Derived.Ground.Names2Prog
import Derived.Shelf.Slices.Clone
import Derived.Shelf.Bytes.SlIndexSmall
import Derived.Ground.SlbNamesProg
import Derived.Shelf.Bytes.SlCountOne
import Derived.Shelf.Bytes.SlIndexAt
import Derived.Shelf.Bytes.SlSearch0
import Derived.Ground.SlgmProg
import Derived.Shelf.SortM.Plain
import Derived.Shelf.SortM.SortNone
import Derived.Shelf.Bytes.SlEqualAll
import Derived.Shelf.Bytes.Small
import Derived.Shelf.Bytes.IndexByte
import Derived.Test.YtiihiocgbfafaaaGreatChecked
import Derived.Deep.RegionLaw
import Derived.Deep.AppendLies
import Derived.Deep.RegionWith
import Derived.Deep.RegionHeld3
set_option linter.unusedSimpArgs false
set_option linter.unusedVariables false
set_option maxHeartbeats 8000000
set_option maxRecDepth 100000
namespace Go.Proofs.YtiihiocgbfafaaaGreat
open Go.RowKit
theorem Lh {p:Prop} (h:p):RowKit.Hid p:=h
theorem Zt {α:Type} {xs:List α} {i:Nat}:xs.toArray[i]?=xs[i]?:=List.getElem?_toArray
theorem Zz {α:Type} {a:α} {l:List α}:(a::l)[0]?=some a:=List.getElem?_cons_zero
theorem Zs {α:Type} {a:α} {l:List α} {i:Nat}:(a::l)[i+1]?=l[i]?:=List.getElem?_cons_succ
theorem Zg {α:Type} {l:List α} {i:Nat} (h:i<l.length):l[i]?=some l[i]:=List.getElem?_eq_getElem h
theorem nL {n:Nat}:n≤n:=Nat.le_refl n
abbrev OA:=Option Addr
theorem Zl {α:Type} {a b:List α}:(a++b).length=a.length+b.length:=List.length_append
theorem Za {α:Type} (a b c:List α):a++b++c=a++(b++c):=List.append_assoc a b c
theorem qF {p:Prop} [Decidable p] (h:¬p):decide p=false:=decide_eq_false h
theorem qT {p:Prop} [Decidable p] (h:p):decide p=true:=decide_eq_true h
theorem bF {α:Type} [BEq α] [LawfulBEq α] {a b:α} (h:a≠b):(a==b)=false:=beq_eq_false_iff_ne.2 h
theorem lT {a b c:Nat} (h:a<b) (k:b≤c):a<c:=Nat.lt_of_lt_of_le h k
theorem Ze {α:Type} {l:List α} {i:Nat} {a:α} (h:l[i]?=some a):∃ h:i<l.length,l[i]=a:=List.getElem?_eq_some_iff.1 h
def u8v (b:UInt8):Value:=.int .u8 (b.toNat:Int)
def natv (n:Nat):Value:=.int .i64 (n:Int)
theorem block_lt {w:World} {b o:Nat} {v:Value} (h:w.cell? ⟨b,o,none⟩=some v):b<w.heap.size:=World.block_lt_of_cell? w _ h
def Rd (w:World) (A:OA) (xs:List Value):Prop:=
 0<xs.length→∃ b o,A=some ⟨b,o,none⟩∧∀ j,j<xs.length→w.cell? ⟨b,o+j,none⟩=xs[j]?
theorem Rd.nil (w:World) (A:OA):Rd w A []:=fun h=>absurd h (by simp)
theorem Rd.later {w w':World} {A:OA} {xs:List Value} (h:Rd w A xs) (hb:Below w.heap.size w w'):Rd w' A xs:=fun h0=>by
 obtain ⟨b,o,e,hc⟩:=h h0
 refine ⟨b,o,e,fun j hj=>?_⟩
 have hx:=hc j hj
 have hlt:=block_lt (hx.trans (Zg hj))
 rw [hb.cell (by simpa using hlt)]
 exact hx
def Bs (w:World) (A:OA) (l:List UInt8):Prop:=Rd w A (l.map u8v)
def Ns (w:World) (A:OA) (l:List Nat):Prop:=Rd w A (l.map natv)
theorem Bs.later {w w':World} {A:OA} {l:List UInt8} (h:Bs w A l) (hb:Below w.heap.size w w'):Bs w' A l:=Rd.later h hb
theorem Ns.later {w w':World} {A:OA} {l:List Nat} (h:Ns w A l) (hb:Below w.heap.size w w'):Ns w' A l:=Rd.later h hb
theorem Bs.at_ {w:World} {A:OA} {l:List UInt8} (h:Bs w A l) {k:Nat} (hk:k<l.length):
 ∃ b o x,A=some ⟨b,o,none⟩∧l[k]? = some x∧w.cell? ⟨b,o+k,none⟩=some (.int .u8 (x.toNat:Int)):=by
 obtain ⟨b,o,e,hc⟩:=h (by simp;omega)
 refine ⟨b,o,l[k],e,Zg hk,?_⟩
 rw [hc k (by simpa using hk),List.getElem?_map,Zg hk];rfl
theorem Ns.at_ {w:World} {A:OA} {l:List Nat} (h:Ns w A l) {k:Nat} (hk:k<l.length):
 ∃ b o x,A=some ⟨b,o,none⟩∧l[k]? = some x∧w.cell? ⟨b,o+k,none⟩=some (.int .i64 (x:Int)):=by
 obtain ⟨b,o,e,hc⟩:=h (by simp;omega)
 refine ⟨b,o,l[k],e,Zg hk,?_⟩
 rw [hc k (by simpa using hk),List.getElem?_map,Zg hk];rfl
theorem below_drewN (w:World):∀ n,Below w.heap.size w (w.drewN n)
 | 0=>Below.refl _ _
 | n+1=>(below_drewN w n).drew
theorem ret_int {k:IntKind} {a b:Int} (h:a=b):Ending.returned (.int k a)=.returned (.int k b):=by rw [h]
theorem ret_bool {a b:Bool} (h:a=b):Ending.returned (.bool a)=.returned (.bool b):=by rw [h]
def bk (A:OA):Option Nat:=A.map (·.block)
def Own (w:World) (base:Nat) (e:TypeId) (A:OA) (n c:Nat) (xs:List Value):Prop:=w.ownsRow base e 1 (.slice A n c) n xs
theorem ownBlock_eq (A:OA) (n c:Nat):Value.ownBlock (.slice A n c)=bk A:=by cases A<;>rfl
theorem Own.length {w:World} {base:Nat} {e:TypeId} {A:OA} {n c:Nat} {xs:List Value} (h:Own w base e A n c xs):xs.length=n:=by simpa using h.1
theorem Own.nil (w:World) (base:Nat) (e:TypeId):Own w base e none 0 0 []:=World.ownsRow_nil w base e 1
theorem Own.form {w:World} {base:Nat} {e:TypeId} {A:OA} {n c:Nat} {xs:List Value} (h:Own w base e A n c xs):
 (A=none∧n=0∧c=0∧xs=[])∨∃ g,A=some ⟨g,0,none⟩∧base≤g∧g<w.heap.size∧n≤c∧c≤9223372036854775807:=by
 have hl:=h.length
 rcases h.2 with ⟨hv,h0⟩|⟨g,cap,cur,hv,hb,hg,hnc,hcm,-⟩
 ·simp only [Value.slice.injEq] at hv
  obtain ⟨rfl,rfl,rfl⟩:=hv
  exact .inl ⟨rfl,rfl,rfl,List.eq_nil_of_length_eq_zero hl⟩
 ·simp only [Value.slice.injEq] at hv
  obtain ⟨rfl,-,rfl⟩:=hv
  unfold maxLen at hcm
  exact .inr ⟨g,rfl,hb,(Array.getElem?_eq_some_iff.1 hg).1,hnc,by omega⟩
theorem Own.cap {w:World} {base:Nat} {e:TypeId} {A:OA} {n c:Nat} {xs:List Value} (h:Own w base e A n c xs):n≤c∧c≤9223372036854775807:=by
 rcases h.form with ⟨-,rfl,rfl,-⟩|⟨g,-,-,-,h1,h2⟩
 ·exact ⟨by omega,by omega⟩
 ·exact ⟨h1,h2⟩
theorem Own.lt {w:World} {base:Nat} {e:TypeId} {A:OA} {n c:Nat} {xs:List Value} (h:Own w base e A n c xs) {k:Nat} (hk:bk A=some k):base≤k∧k<w.heap.size:=by
 rcases h.form with ⟨rfl,-⟩|⟨g,rfl,h1,h2,-⟩
 ·cases hk
 ·cases hk;exact ⟨h1,h2⟩
theorem Own.rd {w:World} {base:Nat} {e:TypeId} {A:OA} {n c:Nat} {xs:List Value} (h:Own w base e A n c xs):Rd w A xs:=fun h0=>by
 have hl:=h.length
 rcases h.form with ⟨-,-,-,rfl⟩|⟨g,rfl,-⟩
 ·simp at h0
 ·refine ⟨g,0,rfl,fun j hj=>?_⟩
  rw [Nat.zero_add]
  exact World.ownsRow.cellAt h j (by omega)
theorem Own.at_ {w:World} {base:Nat} {e:TypeId} {A:OA} {n c:Nat} {xs:List Value} (h:Own w base e A n c xs) {k:Nat} (hk:k<n):
 ∃ g x,A=some ⟨g,0,none⟩∧base≤g∧g<w.heap.size∧xs[k]? = some x∧w.cell? ⟨g,k,none⟩=some x∧w.frozen? ⟨g,k,none⟩=false:=by
 have hl:=h.length
 rcases h.form with ⟨-,rfl,-⟩|⟨g,rfl,h1,h2,-⟩
 ·omega
 ·refine ⟨g,xs[k],rfl,h1,h2,Zg (by omega),?_,World.ownsRow.frozenAt h k⟩
  rw [World.ownsRow.cellAt h k (by omega),Zg (by omega)]
theorem Own.kept {w w':World} {row:Option Nat} {base:Nat} {e:TypeId} {A:OA} {n c:Nat} {xs:List Value} (h:Own w base e A n c xs) (hg:w.grownBy w' row) (hne:bk A=none∨bk A≠row):
 Own w' base e A n c xs:=World.ownsRow.kept h hg (by rw [ownBlock_eq];exact hne)
theorem grown_of_below {w w':World} (h:Below w.heap.size w w'):w.grownBy w' none:=⟨h.os,h.tape,h.output,h.size,fun k hk _=>h.block k hk⟩
theorem Own.later {w w':World} {base:Nat} {e:TypeId} {A:OA} {n c:Nat} {xs:List Value} (h:Own w base e A n c xs) (hb:Below w.heap.size w w'):Own w' base e A n c xs:=by
 refine h.kept (grown_of_below hb) ?_
 cases A<;>simp [bk]
theorem Own.mono {w:World} {base base':Nat} {e:TypeId} {A:OA} {n c:Nat} {xs:List Value} (h:Own w base e A n c xs) (hb:base'≤base):Own w base' e A n c xs:=by
 refine ⟨h.1,?_⟩
 rcases h.2 with h2|⟨g,cap,cur,h1,h2,h3⟩
 ·exact .inl h2
 ·exact .inr ⟨g,cap,cur,h1,by omega,h3⟩
theorem Own.stored {w:World} {base g:Nat} {e:TypeId} {n c:Nat} {xs:List Value} (h:Own w base e (some ⟨g,0,none⟩) n c xs) (j:Nat) (u:Value):
 Own (w.setCell ⟨g,j,none⟩ u) base e (some ⟨g,0,none⟩) n c (xs.set j u)∧w.grownBy (w.setCell ⟨g,j,none⟩ u) (some g):=World.ownsRow.stored h j u
theorem Own.setCell {w:World} {base:Nat} {e:TypeId} {A:OA} {n c:Nat} {xs:List Value} (h:Own w base e A n c xs) {p:Addr} (hne:bk A≠some p.block) (u:Value):Own (w.setCell p u) base e A n c xs:=by
 refine h.kept (row:=some p.block) ⟨rfl,rfl,rfl,by simp [World.setCell],fun k _ hk=>Below.heap_setCell _ _ _ _ (fun e=>hk (by rw [e]))⟩ (.inr hne)
theorem Own.drew {w:World} {base:Nat} {e:TypeId} {A:OA} {n c:Nat} {xs:List Value} (h:Own w base e A n c xs):Own w.drew base e A n c xs:=h
theorem Own.alloc {w:World} {base:Nat} {e:TypeId} {A:OA} {n c:Nat} {xs:List Value} (h:Own w base e A n c xs) (o:Obj):Own (w.alloc o) base e A n c xs:=
 h.later ((Below.refl _ _).alloc nL o)
theorem Rd.alloc {w:World} {A:OA} {xs:List Value} (h:Rd w A xs) (o:Obj):Rd (w.alloc o) A xs:=h.later ((Below.refl _ _).alloc nL o)
theorem Rd.one (w:World) (x:Value) (t:TypeId):Rd (w.alloc (.cells #[x] t)) (some ⟨w.heap.size,0,none⟩) [x]:=fun _=>by
 refine ⟨w.heap.size,0,rfl,fun j hj=>?_⟩
 obtain rfl:j=0:=by simp at hj;omega
 rw [Nat.zero_add,World.cell?_alloc_at _ _ _ _ rfl];rfl
structure Elem (P:Program) (t e:TypeId) (z:Value) (bytes:Nat):Prop where
 ht:P.underlying t=some (.slice e)
 hi:(P.info? e).map (fun i=>(i.zero,i.size,i.bytes))=some (some z,1,bytes)
 hz:z.cells.size=1
 hc:z.cells=#[z]
theorem run_append_none {P:Program} (w:World) (base:Nat) (t ty e:TypeId) (i:TypeInfo) (ht:P.underlying t=some (.slice e)) (hi:P.info? e=some i)
 (v:Value) (n:Nat) (xs:List Value) (hown:w.ownsRow base e 1 v n xs) (c:Nat):(Builtin.append_ #[t,t] ty #[v,.slice none 0 c]).run P w=.ok v w:=by
 rcases hown.2 with ⟨rfl,rfl⟩|⟨g,cap,cur,rfl,_,_,hnc,_⟩
 ·simp [Builtin.append_,run_underlying ht,sizeOf,typeInfo,hi,Builtin.lenOf,Builtin.firstCells]
 ·simp [Builtin.append_,run_underlying ht,sizeOf,typeInfo,hi,Builtin.lenOf,Builtin.firstCells,hnc,storeCells]
theorem run_append_rd {P:Program} (w:World) {t e:TypeId} {z:Value} {bytes:Nat} (E:Elem P t e z bytes) (ty:TypeId) (base:Nat) (A:OA) (n c:Nat) (xs:List Value) (hown:Own w base e A n c xs)
 (A2:OA) (m c2:Nat) (news:List Value) (hr:Rd w A2 news) (hm:news.length=m) (h1:∀ u∈news,u.oneCell'=true) (hb:(n+m)*bytes≤140737488355328) (h63:n+m≤9223372036854775807) (hbase:base≤w.heap.size):
 ∃ A' c' w',(Builtin.append_ #[t,t] ty #[.slice A n c,.slice A2 m c2]).run P w=.ok (.slice A' (n+m) c') w'∧Own w' base e A' (n+m) c' (xs++news)∧w.grownBy w' (bk A)∧(bk A'=bk A∨bk A'=some w.heap.size):=by
 obtain ⟨i0,hi,hz0,hz1,hz2⟩:=info_parts E.hi
 rcases A2 with _|ad
 ·have h0:news=[]:=by
   rcases Nat.eq_zero_or_pos news.length with h|h
   ·exact List.eq_nil_of_length_eq_zero h
   ·obtain ⟨b,o,e,-⟩:=hr h;cases e
  subst h0
  obtain rfl:m=0:=hm.symm
  refine ⟨A,c,w,run_append_none w base t ty e i0 E.ht hi _ n xs hown c2,by simpa using hown,⟨rfl,rfl,rfl,Nat.le_refl _,fun _ _ _=>rfl⟩,.inl rfl⟩
 ·have hcells:∀ j u,news[j]? = some u→w.cell? (ad.add j)=some u:=by
   intro j u hu
   have hj:j<news.length:=by
    rcases Nat.lt_or_ge j news.length with h|h
    ·exact h
    ·rw [List.getElem?_eq_none h] at hu;cases hu
   obtain ⟨b,o,he,hc⟩:=hr (by omega)
   cases he
   have e:(⟨b,o,none⟩:Addr).add j=⟨b,o+j,none⟩:=by unfold Addr.add;split<;>simp_all
   rw [e,hc j hj,hu]
  obtain ⟨v',w',hrun,h2,h3,-,h5⟩:=run_append_own_at (P:=P) w base t ty e i0 z 1 bytes E.ht hi hz0 hz1 hz2 E.hz (by omega) (.slice A n c) n xs hown ad m c2 news (by omega) hcells h1 (by unfold maxLen;omega) hb hbase
  have hform:∃ A' c',v'=.slice A' (n+m) c':=by
   rcases h2.2 with ⟨rfl,h0⟩|⟨g,cap,cur,rfl,-⟩
   ·exact ⟨none,0,by rw [h0]⟩
   ·exact ⟨_,cap,rfl⟩
  obtain ⟨A',c',rfl⟩:=hform
  rw [ownBlock_eq,ownBlock_eq] at h5
  rw [ownBlock_eq] at h3
  exact ⟨A',c',w',hrun,h2,h3,h5⟩
theorem wpList_append_rd {P:Program} {w:World} {ops:Array Oper} {rest:List Oper} {o:Oper} {a:Act} {Q:Exit→Act→World→Prop} (hgd:o.guard=none) (s x:Operand) {t e:TypeId} {z:Value} {bytes:Nat} (E:Elem P t e z bytes)
 (ho:o.op=.call { callee:=.builtin .append,args:=#[s,x],argTypes:=#[t,t] })
 (base:Nat) (A:OA) (n c:Nat) (xs:List Value) (hs:a.eval s=.slice A n c) (hown:Own w base e A n c xs)
 (A2:OA) (m c2:Nat) (news:List Value) (hx:a.eval x=.slice A2 m c2) (hr:Rd w A2 news) (hm:news.length=m) (h1:∀ u∈news,u.oneCell'=true) (hb:(n+m)*bytes≤140737488355328) (h63:n+m≤9223372036854775807) (hbase:base≤w.heap.size)
 (h:∀ A' c' w',Own w' base e A' (n+m) c' (xs++news)→Below base w w'→w.grownBy w' (bk A)→(bk A'=bk A∨bk A'=some w.heap.size)→wpList P ops Q rest (a.put o.dst (.slice A' (n+m) c')) w'):wpList P ops Q (o::rest) a w:=by
 refine wpList_plain hgd fun K hK=>?_
 obtain ⟨A',c',w',hrun,h2,h3,h4⟩:=run_append_rd w E o.type base A n c xs hown A2 m c2 news hr hm h1 hb h63 hbase
 unfold Oper.wp execOp
 simp only [ho,resolve,invoke,builtin,Sem.run_bind,Sem.run_pure,Result.andThen_ok,List.map_toArray,List.map_cons,List.map_nil,hs,hx,hrun]
 exact hK _ _ (h A' c' w' h2 ((Below.refl _ _).grown h3 hbase (fun k hk=>(hown.lt hk).1)) h3 h4)
theorem step_append_rd {P:Program} {w:World} {ops:Array Oper} {o:Oper} {a:Act} {K:Act→World→Prop} {Q:Exit→Act→World→Prop} {E':Prop} (hgd:o.guard=none) (s x:Operand) {t e:TypeId} {z:Value} {bytes:Nat} (E:Elem P t e z bytes)
 (ho:o.op=.call { callee:=.builtin .append,args:=#[s,x],argTypes:=#[t,t] })
 (base:Nat) (A:OA) (n c:Nat) (xs:List Value) (hs:a.eval s=.slice A n c) (hown:Own w base e A n c xs)
 (A2:OA) (m c2:Nat) (news:List Value) (hx:a.eval x=.slice A2 m c2) (hr:Rd w A2 news) (hm:news.length=m) (h1:∀ u∈news,u.oneCell'=true) (hb:(n+m)*bytes≤140737488355328) (h63:n+m≤9223372036854775807) (hbase:base≤w.heap.size)
 (h:∀ A' c' w',Own w' base e A' (n+m) c' (xs++news)→Below base w w'→w.grownBy w' (bk A)→(bk A'=bk A∨bk A'=some w.heap.size)→K (a.put o.dst (.slice A' (n+m) c')) w'):
 if Region.wanted o (yielded ops a.tmps)=true then Oper.wp P o a w K Q else E':=by
 have hw:Region.wanted o (yielded ops a.tmps)=true:=by simp [Region.wanted,hgd]
 rw [if_pos hw]
 obtain ⟨A',c',w',hrun,h2,h3,h4⟩:=run_append_rd w E o.type base A n c xs hown A2 m c2 news hr hm h1 hb h63 hbase
 unfold Oper.wp execOp
 simp only [ho,resolve,invoke,builtin,Sem.run_bind,Sem.run_pure,Result.andThen_ok,List.map_toArray,List.map_cons,List.map_nil,hs,hx,hrun]
 exact h A' c' w' h2 ((Below.refl _ _).grown h3 hbase (fun k hk=>(hown.lt hk).1)) h3 h4
theorem wpList_append_one {P:Program} {w:World} {ops:Array Oper} {rest:List Oper} {o:Oper} {a:Act} {Q:Exit→Act→World→Prop} (hgd:o.guard=none) (s x:Operand) {t e:TypeId} {z:Value} {bytes:Nat} (E:Elem P t e z bytes)
 (ho:o.op=.call { callee:=.builtin .append,args:=#[s,x],argTypes:=#[t,t] })
 (base:Nat) (A:OA) (n c:Nat) (xs:List Value) (w0:World) (u:Value) (hw:w=w0.alloc (.cells #[u] e)) (hs:a.eval s=.slice A n c) (hown:Own w0 base e A n c xs)
 (hx:a.eval x=.slice (some ⟨w0.heap.size,0,none⟩) 1 1) (h1:u.oneCell'=true) (hb:(n+1)*bytes≤140737488355328) (h63:n+1≤9223372036854775807) (hbase:base≤w0.heap.size)
 (h:∀ A' c' w',Own w' base e A' (n+1) c' (xs++[u])→Below base w0 w'→w0.grownBy w' (bk A)→(bk A'=bk A∨w0.heap.size≤(bk A').getD 0)→wpList P ops Q rest (a.put o.dst (.slice A' (n+1) c')) w'):wpList P ops Q (o::rest) a w:=by
 subst hw
 have hg0:w0.grownBy (w0.alloc (.cells #[u] e)) none:=World.grownBy_alloc w0 _ none
 refine wpList_append_rd hgd s x E ho base A n c xs hs (hown.alloc _) _ 1 1 [u] hx (Rd.one w0 u e) rfl (fun v hv=>by simp at hv;subst hv;exact h1) hb h63 (by simp;omega) (fun A' c' w' h2 h3 h4 h5=>?_)
 refine h A' c' w' h2 (((Below.refl _ _).alloc hbase _).trans h3) ?_ ?_
 ·exact ⟨h4.os,h4.tape,h4.output,Nat.le_trans hg0.size h4.size,fun k hk hne=>(h4.block k (by simp;omega) hne).trans (hg0.block k hk (by simp))⟩
 ·rcases h5 with h5|h5
  ·exact .inl h5
  ·refine .inr ?_
   rw [h5];simp
theorem elemB:Elem Tryz.prog 37 5 (.int .u8 0) 1:=⟨Tryz.underlying37,by kernel_rfl,rfl,rfl⟩
theorem elemN:Elem Tryz.prog 43 3 (.int .i64 0) 8:=⟨Tryz.underlying43,by kernel_rfl,rfl,rfl⟩
def OwnB (w:World) (base:Nat) (A:OA) (n c:Nat) (l:List UInt8):Prop:=Own w base 5 A n c (l.map u8v)
def OwnN (w:World) (base:Nat) (A:OA) (n c:Nat) (l:List Nat):Prop:=Own w base 3 A n c (l.map natv)
theorem u8_one (l:List UInt8):∀ u∈l.map u8v,u.oneCell'=true:=by
 intro u hu
 obtain ⟨x,-,rfl⟩:=List.mem_map.1 hu
 rfl
theorem nat_one (l:List Nat):∀ u∈l.map natv,u.oneCell'=true:=by
 intro u hu
 obtain ⟨x,-,rfl⟩:=List.mem_map.1 hu
 rfl
theorem OwnB.length {w:World} {base n c:Nat} {A:OA} {l:List UInt8} (h:OwnB w base A n c l):l.length=n:=by simpa using Own.length h
theorem OwnN.length {w:World} {base n c:Nat} {A:OA} {l:List Nat} (h:OwnN w base A n c l):l.length=n:=by simpa using Own.length h
theorem OwnB.bs {w:World} {base n c:Nat} {A:OA} {l:List UInt8} (h:OwnB w base A n c l):Bs w A l:=Own.rd h
theorem OwnN.ns {w:World} {base n c:Nat} {A:OA} {l:List Nat} (h:OwnN w base A n c l):Ns w A l:=Own.rd h
theorem OwnB.nil (w:World) (base:Nat):OwnB w base none 0 0 []:=Own.nil w base _
theorem OwnN.nil (w:World) (base:Nat):OwnN w base none 0 0 []:=Own.nil w base _
def Blk (w:World) (g:Nat) (t:TypeId) (cs:Array Value):Prop:=w.heap[g]? = some (.cells cs t (0,0))
theorem Blk.lt {w:World} {g:Nat} {t:TypeId} {cs:Array Value} (h:Blk w g t cs):g<w.heap.size:=(Array.getElem?_eq_some_iff.1 h).1
theorem Blk.cell {w:World} {g:Nat} {t:TypeId} {cs:Array Value} (h:Blk w g t cs) (i:Nat):w.cell? ⟨g,i,none⟩=cs[i]? := cell_of_row w g i cs t (0,0) h
theorem Blk.frozen {w:World} {g:Nat} {t:TypeId} {cs:Array Value} (h:Blk w g t cs) (i:Nat):w.frozen? ⟨g,i,none⟩=false:=frozen_of_row w g i cs t h
theorem Blk.new (w:World) (t:TypeId) (cs:Array Value):Blk (w.alloc (.cells cs t)) w.heap.size t cs:=heap_alloc_new w _
theorem Blk.kept {w w':World} {row:Option Nat} {g:Nat} {t:TypeId} {cs:Array Value} (h:Blk w g t cs) (hg:w.grownBy w' row) (hne:row≠some g):Blk w' g t cs:=(hg.block g h.lt (fun e=>hne e.symm)).trans h
theorem Blk.later {w w':World} {g:Nat} {t:TypeId} {cs:Array Value} (h:Blk w g t cs) (hb:Below w.heap.size w w'):Blk w' g t cs:=(hb.block g h.lt).trans h
theorem Blk.set {w:World} {g:Nat} {t:TypeId} {cs:Array Value} (h:Blk w g t cs) (i:Nat) (u:Value):Blk (w.setCell ⟨g,i,none⟩ u) g t (cs.setIfInBounds i u):=heap_setCell_same w g i cs t u h
theorem grown_set (w:World) (p:Addr) (u:Value):w.grownBy (w.setCell p u) (some p.block):=
 ⟨rfl,rfl,rfl,by simp [World.setCell],fun k _ hk=>Below.heap_setCell _ _ _ _ (fun e=>hk (by rw [e]))⟩
theorem grown_refl (w:World) (row:Option Nat):w.grownBy w row:=⟨rfl,rfl,rfl,Nat.le_refl _,fun _ _ _=>rfl⟩
theorem grown_trans {a b c:World} {row:Option Nat} (h:a.grownBy b row) (k:b.grownBy c row):a.grownBy c row:=
 ⟨k.os.trans h.os,k.tape.trans h.tape,k.output.trans h.output,Nat.le_trans h.size k.size,fun i hi hne=>(k.block i (lT hi h.size) hne).trans (h.block i hi hne)⟩
theorem grown_below {w w':World} {row:Option Nat} (h:Below w.heap.size w w'):w.grownBy w' row:=⟨h.os,h.tape,h.output,h.size,fun k hk _=>h.block k hk⟩
theorem grown_drew {a b:World} {row:Option Nat} (h:a.grownBy b row):a.grownBy b.drew row:=⟨h.os,h.tape,h.output,h.size,h.block⟩
theorem below_grown {B:Nat} {w w':World} {row:Option Nat} (h:w.grownBy w' row) (hB:B≤w.heap.size) (hr:∀ k,row=some k→B≤k):Below B w w':=(Below.refl _ _).grown h hB hr
theorem Rd.kept {w w':World} {row:Option Nat} {A:OA} {xs:List Value} (h:Rd w A xs) (hg:w.grownBy w' row) (hne:∀ b o,A=some ⟨b,o,none⟩→row≠some b):Rd w' A xs:=fun h0=>by
 obtain ⟨b,o,e,hc⟩:=h h0
 refine ⟨b,o,e,fun j hj=>?_⟩
 have hx:=hc j hj
 have hlt:=block_lt (hx.trans (Zg hj))
 rw [←hx]
 exact World.cell?_of_block (hg.block b hlt (fun e'=>hne b o e e'.symm))
theorem Own.ne_blk {w:World} {base n c g:Nat} {e t:TypeId} {A:OA} {xs:List Value} {cs:Array Value} (h:Own w base e A n c xs) (hg:Blk w g t cs) (hne:e≠t):bk A≠some g:=by
 rcases h.2 with ⟨hv,_⟩|⟨g',cap,cur,hv,_,hh,_⟩
 ·simp only [Value.slice.injEq] at hv
  rw [hv.1];simp [bk]
 ·simp only [Value.slice.injEq] at hv
  rw [hv.1]
  intro he
  have:g'=g:=by simpa [bk] using he
  subst this
  unfold Blk at hg
  rw [hh] at hg
  injection hg with hg
  injection hg with _ ht
  exact hne ht
theorem Own.ne_own {w:World} {base n c base' n' c':Nat} {e e':TypeId} {A A':OA} {xs xs':List Value} (h:Own w base e A n c xs) (h':Own w base' e' A' n' c' xs') (hne:e≠e'):bk A=none∨bk A≠bk A':=by
 rcases h'.2 with ⟨hv,_⟩|⟨g',cap,cur,hv,_,hh,_⟩
 ·simp only [Value.slice.injEq] at hv
  rw [hv.1]
  cases A
  ·exact .inl rfl
  ·exact .inr (by simp [bk])
 ·simp only [Value.slice.injEq] at hv
  rw [hv.1]
  exact .inr (h.ne_blk (g:=g') (t:=e') (cs:=cur) hh hne)
theorem Blk.ne {w:World} {g g':Nat} {t t':TypeId} {cs cs':Array Value} (h:Blk w g t cs) (h':Blk w g' t' cs') (hne:t≠t'):g≠g':=by
 rintro rfl
 unfold Blk at h h'
 rw [h] at h'
 injection h' with h'
 injection h' with _ ht
 exact hne ht
theorem Rd.keptB {w w':World} {row:Option Nat} {A:OA} {xs:List Value} (h:Rd w A xs) (hg:w.grownBy w' row) (hne:bk A=none∨bk A≠row):Rd w' A xs:=by
 refine h.kept hg (fun b o e=>?_)
 subst e
 rcases hne with hne|hne
 ·cases hne
 ·exact fun e=>hne (by rw [e];rfl)
theorem zeros_one (z:Value) (k:Nat) (hc:z.cells=#[z]):Builtin.zeroCells z.cells k=(List.replicate k z).toArray:=by
 rw [hc]
 unfold Builtin.zeroCells
 apply Array.ext
 ·simp
 ·intro i h1 h2
  simp [Nat.mod_one]
theorem run_append_zeros {P:Program} (w:World) {t e tn:TypeId} {z:Value} {bytes:Nat} (E:Elem P t e z bytes) (kq kn:IntKind) (htn:P.underlying tn=some (.int kn)) (ty:TypeId) (base:Nat) (A:OA) (n c:Nat) (xs:List Value) (hown:Own w base e A n c xs)
 (k:Nat) (h0:0<k) (h1:z.oneCell'=true) (hb:(n+k)*bytes≤140737488355328) (h63:n+k≤9223372036854775807) (hbase:base≤w.heap.size):
 ∃ A' c' w',(Builtin.append_ #[t,tn] ty #[.slice A n c,.int kq k]).run P w=.ok (.slice A' (n+k) c') w'∧Own w' base e A' (n+k) c' (xs++List.replicate k z)∧w.grownBy w' (bk A)∧(bk A'=bk A∨bk A'=some w.heap.size):=by
 obtain ⟨i,hi,hz0,hz1,hz2⟩:=info_parts E.hi
 have hkb:k*bytes≤(n+k)*bytes:=Nat.mul_le_mul_right _ (by omega)
 have hlen:(xs++List.replicate k z).length=(n+k)*1:=by rw [Zl,hown.length,List.length_replicate,Nat.mul_one]
 have grown:∀ (old:Nat),old<n+k→∀ (row:Option Nat),
  Own (w.drew.alloc (.cells (xs.toArray++Builtin.zeroCells z.cells k++Builtin.zeroCells z.cells (grownCap w (n+k) old e-(n+k))) e)) base e (some ⟨w.heap.size,0,none⟩) (n+k) (grownCap w (n+k) old e) (xs++List.replicate k z) ∧
  w.grownBy (w.drew.alloc (.cells (xs.toArray++Builtin.zeroCells z.cells k++Builtin.zeroCells z.cells (grownCap w (n+k) old e-(n+k))) e)) row:=by
  intro old ho row
  have hge:=grownCap_ge w (n+k) old e
  have hcm:grownCap w (n+k) old e≤maxLen:=grownCap_le_maxLen w (n+k) old e (by unfold maxLen;omega)
  refine ⟨⟨hlen,.inr ⟨w.heap.size,_,_,rfl,hbase,heap_alloc_new w.drew _,hge,hcm,?_,?_⟩⟩,⟨rfl,rfl,rfl,by simp,fun k hk _=>heap_alloc_old w.drew _ hk⟩⟩
  ·rw [zeros_one z k E.hc]
   simp only [Array.size_append,List.size_toArray,size_zeroCells,E.hz,hown.length,List.length_replicate]
   omega
  ·rw [zeros_one z k E.hc,←hlen]
   simp only [Array.toList_append]
   exact List.take_left
 rcases hown.2 with ⟨hv,rfl⟩|⟨g,cap,cur,hv,hbg,hg,hnc,hcm,hcs,htake⟩
 ·simp only [Value.slice.injEq] at hv
  obtain ⟨rfl,-,rfl⟩:=hv
  have hx:xs=[]:=List.eq_nil_of_length_eq_zero hown.length
  subst hx
  have hr:=Lib.run_append_nil_zeros (P:=P) w t tn ty e i z kq kn E.ht htn hi hz0 k h0 (by omega) (by omega) (by rw [hz2];omega)
  have hgr:=grown 0 (by omega) none
  simp only [Nat.zero_add,List.nil_append,Array.empty_append] at hgr ⊢
  exact ⟨_,_,_,hr,hgr.1,hgr.2,.inr rfl⟩
 ·simp only [Value.slice.injEq] at hv
  obtain ⟨rfl,-,rfl⟩:=hv
  by_cases hroom:n+k≤c
  ·have hfit:n*1+(List.replicate k z).length≤cur.size:=by rw [List.length_replicate,hcs];omega
   have hst:=run_storeCells_at P g (n*1) e (List.replicate k z) 0 cur w hg (by simpa using hfit) (fun u hu=>by rw [List.eq_of_mem_replicate hu];exact h1)
   simp only [Nat.add_zero] at hst
   have hw:IntKind.i64.wrap (k:Int)=k:=by rw [IntKind.wrap_i64];omega
   have h48i:¬(281474976710656<(k:Int)*(i.bytes:Int)):=by
    rw [←Int.natCast_mul,hz2]
    omega
   have hneg:¬((k:Int)<0):=by omega
   have hk:k≠0:=by omega
   have hr:(Builtin.append_ #[t,tn] ty #[.slice (some ⟨g,0,none⟩) n c,.int kq k]).run P w=.ok (.slice (some ⟨g,0,none⟩) (n+k) c) (w.setRow g (cur.toList.take (n*1)++List.replicate k z++cur.toList.drop (n*1+(List.replicate k z).length)).toArray):=by
    have hzc:=zeros_one z k E.hc
    simp only [Nat.mul_one] at hst
    simp [Builtin.append_,run_underlying E.ht,run_underlying htn,sizeOf,typeInfo,zeroValue,hi,hz0,hz1,asInt,asIntOf,hw,hneg,h48i,hk,hroom,Addr.add_lit,hzc,hst]
   refine ⟨_,_,_,hr,⟨hlen,.inr ⟨g,c,_,rfl,hbg,setRow_heap w g cur _ e _ hg,hroom,hcm,?_,?_⟩⟩,⟨rfl,rfl,rfl,by simp,fun k _ hk=>setRow_other w g k _ (fun e=>hk (by rw [e];rfl))⟩,.inl rfl⟩
   ·simp only [List.size_toArray,Zl,List.length_take,List.length_drop,Array.length_toList,List.length_replicate] at hfit ⊢
    omega
   ·rw [htake,←hlen]
    exact List.take_left
  ·have holds:∀ j u,xs[j]? = some u→w.cell? ((⟨g,0,none⟩:Addr).add j)=some u:=World.ownsRow.cells (g:=g) (v:=.slice (some ⟨g,0,none⟩) n c) hown rfl
   have hf:=run_firstCells_some (P:=P) w.drew i.size n ⟨g,0,none⟩ n c xs (by rw [hz1,hown.length,Nat.mul_one]) (by simpa using holds)
   have hr:=Lib.run_append_grow_zeros (P:=P) w t tn ty e i z kq kn E.ht htn hi hz0 (some ⟨g,0,none⟩) n c xs hf k h0 (by omega) (by omega) (by omega) (by rw [hz2];omega) (by rw [hz2];exact growslice_fits (by omega) hb)
   have hgr:=grown c (by omega) (some g)
   exact ⟨_,_,_,hr,hgr.1,hgr.2,.inr rfl⟩
theorem wpList_append_zeros {P:Program} {w:World} {ops:Array Oper} {rest:List Oper} {o:Oper} {a:Act} {Q:Exit→Act→World→Prop} (hgd:o.guard=none) (s x:Operand) {t e tn:TypeId} {z:Value} {bytes:Nat} (E:Elem P t e z bytes) (kq kn:IntKind) (htn:P.underlying tn=some (.int kn))
 (ho:o.op=.call { callee:=.builtin .append,args:=#[s,x],argTypes:=#[t,tn] })
 (base:Nat) (A:OA) (n c:Nat) (xs:List Value) (hs:a.eval s=.slice A n c) (hown:Own w base e A n c xs)
 (k:Nat) (hx:a.eval x=.int kq k) (h0:0<k) (h1:z.oneCell'=true) (hb:(n+k)*bytes≤140737488355328) (h63:n+k≤9223372036854775807) (hbase:base≤w.heap.size)
 (h:∀ A' c' w',Own w' base e A' (n+k) c' (xs++List.replicate k z)→Below base w w'→w.grownBy w' (bk A)→(bk A'=bk A∨bk A'=some w.heap.size)→wpList P ops Q rest (a.put o.dst (.slice A' (n+k) c')) w'):wpList P ops Q (o::rest) a w:=by
 obtain ⟨A',c',w',hrun,h2,h3,h4⟩:=run_append_zeros w E kq kn htn o.type base A n c xs hown k h0 h1 hb h63 hbase
 exact Lib.wpList_append_run w hgd s x t tn ho _ _ hs hx _ _ hrun (h A' c' w' h2 ((Below.refl _ _).grown h3 hbase (fun k hk=>(hown.lt hk).1)) h3 h4)
open Go.Maps Go.ChangeMaps Go.MapKept Go.WideShapes
structure MapT (κ α:Type) where
 mt:TypeId
 kt:TypeId
 et:TypeId
 ht:Tryz.prog.underlying mt=some (.map kt et)
 K:Keyed Tryz.prog kt
 may:κ→Prop
 kv:κ→Value
 kl:κ→Lit
 hkey:∀ x,may x→keyOf Tryz.prog kt (kv x)=some (kl x)
 kinj:∀ x y,may x→may y→kl x=kl y→x=y
 vv:α→Value
 vinj:∀ a b,vv a=vv b→a=b
 zero:α
 hz:∀ w,(zeroValue et).run Tryz.prog w=.ok (vv zero) w
open Classical in
noncomputable def MapT.R {κ α:Type} (T:MapT κ α) (v:Value):Option (DataW α × List MemPlace):=if h:∃ a,T.vv a=v then some (.held (Classical.choose h),[]) else none
theorem MapT.R_mk {κ α:Type} (T:MapT κ α) (a:α):T.R (T.vv a)=some (.held a,[]):=by
 have h:∃ b,T.vv b=T.vv a:=⟨a,rfl⟩
 unfold MapT.R
 rw [dif_pos h,T.vinj _ _ (Classical.choose_spec h)]
theorem MapT.R_inv {κ α:Type} (T:MapT κ α) {v:Value} {z:DataW α × List MemPlace} (h:T.R v=some z):∃ a,v=T.vv a∧z=(.held a,[]):=by
 unfold MapT.R at h
 split at h
 ·rename_i h0
  simp only [Option.some.injEq] at h
  exact ⟨_,(Classical.choose_spec h0).symm,h.symm⟩
 ·cases h
def MapT.At {κ α:Type} (T:MapT κ α) (w:World) (b n:Nat) (f:κ→Option α):Prop:=
 ∃ D:DataW α,w.ownsMap Tryz.prog T.kt T.R b n D∧Maps.size D=n∧(∀ l,has D l=true→∃ x,T.may x∧l=T.kl x)∧∀ x,T.may x →
   match f x with
   | some a=>has D (T.kl x)=true∧∀ z,D.atKey (T.kl x) z=.held a
   | none=>has D (T.kl x)=false
theorem MapT.At.made {κ α:Type} (T:MapT κ α) (w:World):T.At (w.alloc (.map #[] 0)) w.heap.size 0 (fun _=>none):=
by
 refine ⟨.map [],World.ownsMap_made w _ _ _,rfl,fun l h=>?_,fun x _=>rfl⟩
 rw [has_eq] at h
 cases h
theorem MapT.At.lt {κ α:Type} {T:MapT κ α} {w:World} {b n:Nat} {f:κ→Option α} (h:T.At w b n f):b<w.heap.size:=by
 obtain ⟨D,h1,_⟩:=h
 exact h1.lt
theorem MapT.At.same {κ α:Type} {T:MapT κ α} {w w':World} {b n:Nat} {f:κ→Option α} (h:T.At w b n f) (hb:w'.heap[b]? = w.heap[b]?):T.At w' b n f:=by
 obtain ⟨D,⟨es,clock,h1,h2⟩,h3⟩:=h
 exact ⟨D,⟨es,clock,hb.trans h1,h2⟩,h3⟩
theorem wpList_MapT_set {κ α:Type} (T:MapT κ α) {w:World} {ops:Array Oper} {rest:List Oper} {o:Oper} {a:Act} {Q:Exit→Act→World→Prop} (hg:o.guard=none) (m x v:Operand) (hop:o.op=Op.mapUpdate T.mt m x v)
 (b n:Nat) (f:κ→Option α) (hm:a.eval m=.map (some b)) (hown:T.At w b n f) (hn:n<1000000000) (p:κ) (hp:T.may p) (u:α) (hx:a.eval x=T.kv p) (hv:a.eval v=T.vv u) (dec:DecidableEq κ)
 (hK:∀ w',T.At w' b (if (f p).isSome then n else n+1) (fun y=>if y=p then some u else f y)→w.grownBy w' (some b)→wpList Tryz.prog ops Q rest (a.put o.dst undef) w'):wpList Tryz.prog ops Q (o::rest) a w:=by
 obtain ⟨D,h1,hsz,hdom,h2⟩:=hown
 have hk:=T.hkey p hp
 refine wpList_mapUpdate_own w hg m x v T.mt hop T.kt T.et T.K T.ht T.R b n D hm h1 (by unfold maxLen;omega) _ _ (T.kl p) hx hv hk _ [] (T.R_mk u) (fun w' h3 h4=>hK w' ?_ h4)
 have hI:=h1.isMap
 have hT:=h1.tidy T.K
 have hs2:Maps.size (D.put (T.kl p) (.held u))=if (f p).isSome then n else n+1:=by
  rw [Maps.size_put hT,hsz]
  have h:=h2 p hp
  cases hf:f p with
  | none=>rw [hf] at h;rw [h];rfl
  | some y=>rw [hf] at h;rw [h.1];rfl
 refine ⟨_,?_,hs2,fun l hl=>?_,fun y hy=>?_⟩
 ·obtain ⟨es,clock,e1,e2,e3,e4⟩:=h3
  refine ⟨es,clock,e1,e2,?_,e4⟩
  rw [←hs2,e4]
  simp [Maps.size,length_sorted]
 ·by_cases e:l=T.kl p
  ·exact ⟨p,hp,e⟩
  ·rw [has_put_other e] at hl;exact hdom l hl
 ·by_cases e:y=p
  ·subst e
   show match (if y=y then some u else f y) with|some v=>_|none=>_
   rw [if_pos rfl]
   exact ⟨has_put_same hI (T.K.key hk) _,fun z=>atKey_put_same hI (T.K.key hk) _ z⟩
  ·show match (if y=p then some u else f y) with|some v=>_|none=>_
   rw [if_neg e]
   have hne:T.kl y≠T.kl p:=fun h=>e (T.kinj _ _ hy hp h)
   have:=h2 y hy
   rw [has_put_other hne]
   cases hf:f y with
   | none=>rw [hf] at this;exact this
   | some q=>
     rw [hf] at this
     exact ⟨this.1,fun z=>by rw [atKey_put_other hne];exact this.2 z⟩
def MapT.get {κ α:Type} (T:MapT κ α) (f:κ→Option α) (p:κ):α:=(f p).getD T.zero
theorem MapT.val {κ α:Type} (T:MapT κ α) {f:κ→Option α} {D:DataW α} (h2:∀ x,T.may x →
 match f x with
 | some a=>has D (T.kl x)=true∧∀ z,D.atKey (T.kl x) z=.held a
 | none=>has D (T.kl x)=false) {p:κ} (hp:T.may p) {v:Value} {ps:List MemPlace} (hv:T.R v=some (D.atKey (T.kl p) (.held T.zero),ps)):v=T.vv (T.get f p)∧has D (T.kl p)=(f p).isSome:=by
 have h:=h2 p hp
 obtain ⟨y,rfl,hy⟩:=T.R_inv hv
 simp only [Prod.mk.injEq] at hy
 unfold MapT.get
 cases hf:f p with
 | none=>
   rw [hf] at h
   refine ⟨?_,h⟩
   rw [atKey_of_not_has h] at hy
   have:=hy.1
   injection this with e
   rw [←e];rfl
 | some u=>
   rw [hf] at h
   refine ⟨?_,h.1⟩
   rw [h.2] at hy
   have:=hy.1
   injection this with e
   rw [←e];rfl
theorem MapT.At.look_ok {κ α:Type} {T:MapT κ α} {w:World} {b n:Nat} {f:κ→Option α} (h:T.At w b n f) {p:κ} (hp:T.may p):
 (Instr.lookup T.mt (.map (some b)) (T.kv p) true).run Tryz.prog w=.ok (.tuple #[T.vv (T.get f p),.bool (f p).isSome]) w:=by
 obtain ⟨D,h1,hsz,hdom,h2⟩:=h
 obtain ⟨v,ps,hrun,hv⟩:=h1.look_ok T.K T.ht (T.hz w) (T.R_mk T.zero) (T.hkey p hp)
 obtain ⟨rfl,e⟩:=T.val h2 hp hv
 rw [hrun,e]
theorem MapT.At.look {κ α:Type} {T:MapT κ α} {w:World} {b n:Nat} {f:κ→Option α} (h:T.At w b n f) {p:κ} (hp:T.may p):
 (Instr.lookup T.mt (.map (some b)) (T.kv p) false).run Tryz.prog w=.ok (T.vv (T.get f p)) w:=by
 obtain ⟨D,h1,hsz,hdom,h2⟩:=h
 obtain ⟨v,ps,hrun,hv⟩:=h1.lookup T.K T.ht (T.hz w) (T.R_mk T.zero) (T.hkey p hp)
 obtain ⟨rfl,e⟩:=T.val h2 hp hv
 exact hrun
theorem wpList_MapT_look_ok {κ α:Type} (T:MapT κ α) {w:World} {ops:Array Oper} {rest:List Oper} {o:Oper} {a:Act} {Q:Exit→Act→World→Prop} (hg:o.guard=none) (m x:Operand) (hop:o.op=Op.lookup T.mt m x true)
 (b n:Nat) (f:κ→Option α) (hm:a.eval m=.map (some b)) (hown:T.At w b n f) (p:κ) (hp:T.may p) (hx:a.eval x=T.kv p)
 (hK:wpList Tryz.prog ops Q rest (a.put o.dst (.tuple #[T.vv (T.get f p),.bool (f p).isSome])) w):wpList Tryz.prog ops Q (o::rest) a w:=by
 refine wpList_plain hg fun K' hK'=>?_
 unfold Oper.wp
 simp [execOp,hop,hm,hx,hown.look_ok hp,Result.andThen]
 exact hK' _ _ hK
theorem wpList_MapT_look {κ α:Type} (T:MapT κ α) {w:World} {ops:Array Oper} {rest:List Oper} {o:Oper} {a:Act} {Q:Exit→Act→World→Prop} (hg:o.guard=none) (m x:Operand) (hop:o.op=Op.lookup T.mt m x false)
 (b n:Nat) (f:κ→Option α) (hm:a.eval m=.map (some b)) (hown:T.At w b n f) (p:κ) (hp:T.may p) (hx:a.eval x=T.kv p)
 (hK:wpList Tryz.prog ops Q rest (a.put o.dst (T.vv (T.get f p))) w):wpList Tryz.prog ops Q (o::rest) a w:=by
 refine wpList_plain hg fun K' hK'=>?_
 unfold Oper.wp
 simp [execOp,hop,hm,hx,hown.look hp,Result.andThen]
 exact hK' _ _ hK
theorem MapT.At.len {κ α:Type} {T:MapT κ α} {w:World} {b n:Nat} {f:κ→Option α} (h:T.At w b n f) (ty:TypeId):(Builtin.len_ #[T.mt] ty #[.map (some b)]).run Tryz.prog w=.ok (.int .i64 (n:Int)) w:=by
 obtain ⟨D,h1,hsz,hdom,h2⟩:=h
 rw [h1.len T.ht ty,hsz]
theorem wrap64_nat {n:Nat} (h:n<9223372036854775808):wrap64 (n:Int)=(n:Int):=IntWalk.wrap64_in _ ⟨by omega,by omega⟩
theorem wrapi64_nat {n:Nat} (h:n<9223372036854775808):IntKind.i64.wrap (n:Int)=(n:Int):=by
 rw [IntKind.wrap_i64];omega
theorem wrapi64 {n:Int} (h0:-9223372036854775808≤n) (h:n≤9223372036854775807):IntKind.i64.wrap n=n:=by
 rw [IntKind.wrap_i64];omega
theorem ofInt64 {a:Nat} (ha:a<18446744073709551616):(BitVec.ofInt 64 (a:Int)).toNat=a:=by
 rw [BitVec.ofInt_natCast,BitVec.toNat_ofNat];omega
theorem i64_and_nat (a b:Nat) (ha:a<9223372036854775808) (hb:b<9223372036854775808):bits .and .i64 (a:Int) (b:Int)=((a &&& b:Nat):Int):=by
 unfold bits
 show IntKind.i64.wrap ((BitVec.ofInt 64 (a:Int) &&& BitVec.ofInt 64 (b:Int)).toNat:Int)=_
 rw [BitVec.toNat_and,ofInt64 (by omega),ofInt64 (by omega)]
 have:a &&& b<9223372036854775808:=Nat.lt_of_le_of_lt Nat.and_le_left ha
 exact wrapi64_nat this
theorem i64_or_nat (a b:Nat) (ha:a<9223372036854775808) (hb:b<9223372036854775808):bits .or .i64 (a:Int) (b:Int)=((a ||| b:Nat):Int):=by
 unfold bits
 show IntKind.i64.wrap ((BitVec.ofInt 64 (a:Int) ||| BitVec.ofInt 64 (b:Int)).toNat:Int)=_
 rw [BitVec.toNat_or,ofInt64 (by omega),ofInt64 (by omega)]
 have:a ||| b<9223372036854775808:=Nat.or_lt_two_pow (n:=63) ha hb
 exact wrapi64_nat this
theorem or_add {v i y:Nat} (hv:v<2^i):v ||| (y*2^i)=v+y*2^i:=by
 have h:=Nat.two_pow_add_eq_or_of_lt hv y
 rw [Nat.or_comm,Nat.mul_comm,←h];omega
theorem i64_or_add {v i y:Nat} (hv:v<2^i) (h:v+y*2^i<9223372036854775808):bits .or .i64 (v:Int) ((y*2^i:Nat):Int)=((v+y*2^i:Nat):Int):=by
 rw [i64_or_nat _ _ (by omega) (by omega),or_add hv]
theorem i64_and1 {a:Nat} (ha:a<9223372036854775808):bits .and .i64 (a:Int) 1=((a%2:Nat):Int):=by
 rw [show (1:Int)=((1:Nat):Int) from rfl,i64_and_nat a 1 ha (by omega),Nat.and_one_is_mod]
theorem div_pow_cast (a k:Nat):((a:Int)/2^k)=((a/2^k:Nat):Int):=by simp
theorem div_pow_le (a k:Nat):a/2^k≤a:=Nat.div_le_self _ _
theorem or_shl {y x j:Nat} (hy:y<2^j) (h:y+x*2^j<9223372036854775808):bits .or .i64 (y:Int) (wrap64 ((x:Int)*2^j))=((y+x*2^j:Nat):Int):=by
 rw [show ((x:Int)*2^j)=((x*2^j:Nat):Int) from by simp,wrap64_nat (by omega),i64_or_add hy h]
theorem int_eq {k:IntKind} {a b:Int} (h:a=b):Value.int k a=Value.int k b:=by rw [h]
def bitAt (l:List UInt8) (i:Nat):Nat:=((l.getD (i/8) 0).toNat/2^(i%8))%2
theorem bit_any (A:OA) (n c:Nat) (l:List UInt8) (i:Int) (w:World) (hl:l.length=n) (hr:Bs w A l) (h0:0≤i) (hi:i<8*n) (hn:n≤140737488351232):
 Calls Tryz.prog 167 #[.slice A n c,.int .i64 i] w fun e w'=>e=.returned (.int .i64 (bitAt l i.toNat:Nat))∧w=w':=by
 obtain ⟨k,rfl⟩:=Int.eq_ofNat_of_zero_le h0
 rw [Int.toNat_natCast]
 have hk:k/8<n:=by omega
 obtain ⟨b,o,x,rfl,hx,hc⟩:=hr.at_ (by rw [hl];exact hk:k/8<l.length)
 have HX:=Lh hx
 clear hx hr hl
 go_enter Tryz.func167,Tryz.ntmps167
 go_wp2
 go_ret
 refine ⟨ret_int ?_,rfl⟩
 have hb:=x.toNat_lt
 have hd:=div_pow_le x.toNat (k%8)
 rw [div_pow_cast,wrap64_nat (by omega),i64_and1 (by omega)]
 unfold bitAt
 rw [List.getD,HX.out];rfl
theorem bitAt_lt (l:List UInt8) (i:Nat):bitAt l i<2:=Nat.mod_lt _ (by omega)
def numAt (l:List UInt8) (at_:Nat):Nat→Nat
 | 0=>0
 | n+1=>numAt l at_ n+bitAt l (at_+n)*2^n
theorem numAt_lt (l:List UInt8) (a:Nat):∀ n,numAt l a n<2^n
 | 0=>by simp [numAt]
 | n+1=>by
   have h1:=numAt_lt l a n
   have h2:=bitAt_lt l (a+n)
   rw [numAt,Nat.pow_succ]
   have:bitAt l (a+n)*2^n≤1*2^n:=Nat.mul_le_mul_right _ (by omega)
   omega
theorem pow32 {n:Nat} (h:n≤32):2^n≤4294967296:=(Nat.pow_le_pow_right (by omega) h:2^n≤2^32)
theorem number_any (A:OA) (n c:Nat) (l:List UInt8) (a m:Int) (w:World) (hl:l.length=n) (hr:Bs w A l) (h0:0≤a) (hm0:0≤m) (hm:m≤32) (hi:a+m≤8*n) (hn:n≤140737488351232):
 Calls Tryz.prog 128 #[.slice A n c,.int .i64 a,.int .i64 m] w fun e w'=>e=.returned (.int .i64 (numAt l a.toNat m.toNat:Nat))∧w=w':=by
 obtain ⟨p,rfl⟩:=Int.eq_ofNat_of_zero_le h0
 obtain ⟨k,rfl⟩:=Int.eq_ofNat_of_zero_le hm0
 rw [Int.toNat_natCast,Int.toNat_natCast]
 have HL:=Lh hl
 have HR:=Lh hr
 clear hl hr
 go_enter Tryz.func128,Tryz.ntmps128
 go_wp2_with fail
 go_loopg [7,10] k (fun g s7 s10 wr=>∃ j:Nat,j≤k∧k-j≤g∧s7=.int .i64 (numAt l p j:Nat)∧s10=.int .i64 j∧w=wr)
 case atStart=>exact ⟨0,Nat.zero_le _,by omega,rfl,rfl,rfl⟩
 case round=>
  obtain ⟨j,hj,hg,rfl,rfl,rfl⟩:=hrel
  by_cases hlt:j<k
  ·have hb:=bit_any A n c l ((p:Int)+j) w HL.out HR.out (by omega) (by omega) hn
   rw [show ((p:Int)+j).toNat=p+j from by omega] at hb
   have h1:=bitAt_lt l (p+j)
   have h2:=numAt_lt l p j
   have h3:numAt l p (j+1)=numAt l p j+bitAt l (p+j)*2^j:=rfl
   have h4:=numAt_lt l p (j+1)
   have h5:=pow32 (n:=j) (by omega)
   have h6:=pow32 (n:=j+1) (by omega)
   generalize bitAt l (p+j)=x at *
   generalize numAt l p j=y at *
   have HB:=Lh hb
   have H3:=Lh h3
   clear hb h3
   go_wp2_with fail
   refine HB.out.mono ?_
   rintro e w' ⟨rfl,rfl⟩
   go_wp2
   go_roundg (k-(j+1))
   case measure=>omega
   case rel=>exact ⟨j+1,by omega,by omega,int_eq (by rw [H3.out];exact or_shl h2 (by rw [←H3.out];omega)),by go_num,rfl⟩
  ·obtain rfl:j=k:=by omega
   have H:=Lh (rfl:numAt l p j=numAt l p j)
   go_wp2
   go_ret
   exact ⟨rfl,rfl⟩
def mayE (n left:Int):Int:=if n<0∨32<n then 1 else if left<n then 3 else 0
theorem may_any (n left:Int) (w:World):Calls Tryz.prog 127 #[.int .i64 n,.int .i64 left] w fun e w'=>e=.returned (.int .i64 (mayE n left))∧w=w':=by
 go_enter Tryz.func127,Tryz.ntmps127
 go_wp2
 ·have h:n<0∨32<n:=by assumption
  go_ret;exact ⟨ret_int (by unfold mayE;rw [if_pos h]),rfl⟩
 ·have h1:0≤n∧n≤32:=by assumption
  have h2:left<n:=by assumption
  go_ret;exact ⟨ret_int (by unfold mayE;rw [if_neg (by omega),if_pos h2]),rfl⟩
 ·have h1:0≤n∧n≤32:=by assumption
  have h2:n≤left:=by assumption
  go_ret;exact ⟨ret_int (by unfold mayE;rw [if_neg (by omega),if_neg (by omega)]),rfl⟩
 ·have h:n<0:=by assumption
  go_ret;exact ⟨ret_int (by unfold mayE;rw [if_pos (.inl h)]),rfl⟩
structure IsRow (w:World) (t g:Nat) (l:List UInt8) (a:Nat) (A:OA) (c:Nat):Prop where
 blk:Blk w g t #[.slice A l.length c,.int .i64 (a:Int)]
 own:OwnB w 0 A l.length c l
 ht:5≠t
theorem IsRow.data {w:World} {t g a c:Nat} {l:List UInt8} {A:OA} (h:IsRow w t g l a A c):Bs w A l:=h.own.bs
theorem IsRow.ne {w:World} {t g a c:Nat} {l:List UInt8} {A:OA} (h:IsRow w t g l a A c):bk A≠some g:=Own.ne_blk h.own h.blk h.ht
theorem IsRow.later {w w':World} {t g a c:Nat} {l:List UInt8} {A:OA} (h:IsRow w t g l a A c) (hb:Below w.heap.size w w'):IsRow w' t g l a A c:=
 ⟨h.blk.later hb,Own.later h.own hb,h.ht⟩
theorem IsRow.kept {w w':World} {row:Option Nat} {t g a c:Nat} {l:List UInt8} {A:OA} (h:IsRow w t g l a A c) (hg:w.grownBy w' row) (h1:row≠some g) (h2:bk A=none∨bk A≠row):IsRow w' t g l a A c:=
 ⟨h.blk.kept hg h1,Own.kept h.own hg h2,h.ht⟩
theorem IsRow.set {w:World} {t g a c:Nat} {l:List UInt8} {A:OA} (h:IsRow w t g l a A c) (a':Nat):IsRow (w.setCell ⟨g,1,none⟩ (.int .i64 (a':Int))) t g l a' A c:=
 ⟨h.blk.set 1 _,Own.kept h.own (grown_set w ⟨g,1,none⟩ _) (.inr h.ne),h.ht⟩
theorem reader_left (g a c:Nat) (l:List UInt8) (A:OA) (w:World) (h:IsRow w 229 g l a A c) (hl:l.length≤140737488351232) (ha:a≤8*l.length):
 Calls Tryz.prog 99 #[.pointer (some ⟨g,0,none⟩)] w fun e w'=>e=.returned (.int .i64 (8*l.length-a:Nat))∧∃ q,w'=w.drewN q:=by
 have c0:=h.blk.cell 0
 have c1:=h.blk.cell 1
 simp only [Zt,Zz,Zs] at c0 c1
 generalize l.length=n at *
 clear h
 go_enter Tryz.func99,Tryz.ntmps99
 go_wp2
 go_quiet (fail)
 go_wp2
 go_ret
 exact ⟨ret_int (by omega),_,rfl⟩
def takeV (l:List UInt8) (a:Nat) (n:Int):Value:=
 if mayE n ((8*l.length-a:Nat):Int)=0 then .tuple #[.int .i64 (numAt l a n.toNat:Nat),.int .i64 0] else .tuple #[.int .i64 0,.int .i64 (mayE n ((8*l.length-a:Nat):Int))]
def takeA (l:List UInt8) (a:Nat) (n:Int):Nat:=if mayE n ((8*l.length-a:Nat):Int)=0 then a+n.toNat else a
theorem mayE_zero {n left:Int} (h:mayE n left=0):0≤n∧n≤32∧n≤left:=by
 unfold mayE at h
 split at h
 ·cases h
 ·split at h
  ·cases h
  ·omega
theorem reader_take (g a c:Nat) (l:List UInt8) (A:OA) (n:Int) (w:World) (h:IsRow w 229 g l a A c) (hl:l.length≤140737488351232) (ha:a≤8*l.length) (hn0:-1000000≤n) (hn1:n≤1000000):
 Calls Tryz.prog 98 #[.pointer (some ⟨g,0,none⟩),.int .i64 n] w fun e w'=>e=.returned (takeV l a n)∧IsRow w' 229 g l (takeA l a n) A c∧w.grownBy w' (some g):=by
 have HL:=Lh (reader_left g a c l A w h hl ha)
 have HM:=Lh (fun w1=>may_any n ((8*l.length-a:Nat):Int) w1)
 by_cases hm:mayE n ((8*l.length-a:Nat):Int)=0
 ·obtain ⟨h1,h2,h3⟩:=mayE_zero hm
  have hv:takeV l a n=.tuple #[.int .i64 (numAt l a n.toNat:Nat),.int .i64 0]:=by unfold takeV;rw [if_pos hm]
  have hA:takeA l a n=a+n.toNat:=by unfold takeA;rw [if_pos hm]
  rw [hm] at HM
  rw [hv,hA]
  obtain ⟨k,rfl⟩:=Int.eq_ofNat_of_zero_le h1
  rw [Int.toNat_natCast]
  clear hm hv hA
  go_enter Tryz.func98,Tryz.ntmps98
  go_wp2_with fail
  refine HL.out.mono ?_
  rintro e w1 ⟨rfl,q,rfl⟩
  go_wp2_with fail
  refine (HM.out _).mono ?_
  rintro e w2 ⟨rfl,rfl⟩
  have h':IsRow ((w.drewN q).setCell ⟨g,1,none⟩ (.int .i64 ((a+k:Nat):Int))) 229 g l (a+k) A c:=IsRow.set (w:=w.drewN q) (h.later (below_drewN w q)) (a+k)
  have c0:=h.blk.cell 0
  have c1:=h.blk.cell 1
  simp only [Zt,Zz,Zs] at c0 c1
  have f1:=h.blk.frozen 1
  have HN:=Lh (fun m=>(number_any A l.length c l (a:Int) (k:Int) (((w.drewN q).setCell ⟨g,1,none⟩ (.int .i64 ((a+k:Nat):Int))).drewN m) rfl (Bs.later h'.data (below_drewN _ m)) (by omega) (by omega) h2 (by omega) hl).mono fun _ _ ⟨h1,h2⟩=>(⟨h1,h2.symm⟩:_∧_))
  rw [Int.toNat_natCast,Int.toNat_natCast] at HN
  have HG:(w.grownBy ((w.drewN q).setCell ⟨g,1,none⟩ (.int .i64 ((a+k:Nat):Int))) (some g)):=grown_trans (grown_below (below_drewN w q)) (grown_set _ ⟨g,1,none⟩ _)
  have HG':=Lh HG
  have HH:=Lh h'
  clear HG h' h
  generalize hx:numAt l a k=x at *
  have HX:=Lh hx
  clear hx
  generalize l.length=n at *
  rw [show ((a+k:Nat):Int)=(a:Int)+k from by omega] at *
  go_wp2_with fail
  go_quiet ((go_at_call 128;exact Calls.quiet_of_same (HN.out _)))
  go_wp2
  go_ret2
  exact ⟨by rw [HX.out];rfl,HH.out.later (below_drewN _ _),grown_trans HG'.out (grown_below (below_drewN _ _))⟩
 ·have hv:takeV l a n=.tuple #[.int .i64 0,.int .i64 (mayE n ((8*l.length-a:Nat):Int))]:=by unfold takeV;rw [if_neg hm]
  have hA:takeA l a n=a:=by unfold takeA;rw [if_neg hm]
  rw [hv,hA]
  generalize mayE n ((8*l.length-a:Nat):Int)=e0 at *
  have hm':(e0==0)=false:=bF hm
  have H:=Lh h
  clear hm hv hA h
  go_enter Tryz.func98,Tryz.ntmps98
  go_wp2_with fail
  refine HL.out.mono ?_
  rintro e w1 ⟨rfl,q,rfl⟩
  go_wp2_with fail
  refine (HM.out _).mono ?_
  rintro e w2 ⟨rfl,rfl⟩
  go_wp2
  go_ret2
  exact ⟨rfl,H.out.later (below_drewN _ _),grown_below (below_drewN _ _)⟩
theorem newRow {w w1:World} {t n c:Nat} {A:OA} {l:List UInt8} (h:OwnB w1 w.heap.size A n c l) (a:Nat) (cs:Array Value) (hcs:cs=#[.slice A n c,.int .i64 (a:Int)]) (ht:5≠t):
 IsRow (w1.alloc (.cells cs t)) t w1.heap.size l a A c:=by
 subst hcs
 have hl:=OwnB.length h
 refine ⟨by rw [hl];exact Blk.new w1 t _,?_,ht⟩
 rw [hl]
 exact Own.alloc (Own.mono h (Nat.zero_le _)) _
theorem newReader (A:OA) (n c:Nat) (l:List UInt8) (w:World) (hl:l.length=n) (hr:Bs w A l) (hn:n≤140737488351232):
 Calls Tryz.prog 97 #[.slice A n c] w fun e w'=>∃ g A' c',e=.returned (.pointer (some ⟨g,0,none⟩))∧w.heap.size≤g∧(∀ b,bk A'=some b→w.heap.size≤b)∧IsRow w' 229 g l 0 A' c'∧Below w.heap.size w w':=by
 have HL:=Lh hl
 clear hl
 go_enter Tryz.func97,Tryz.ntmps97
 go_wp2_with (at_builtin;refine wpList_append_rd rfl _ _ elemB rfl w.heap.size none 0 0 [] rfl (Own.nil _ _ _) A n c (l.map u8v) rfl hr ?c1 (u8_one l) ?c2 ?c3 ?c4 ?_)
 case c1=>simpa using HL.out
 case c2=>omega
 case c3=>omega
 case c4=>exact Nat.le_refl _
 intro A' c' w1 hown hb _ _
 have hown':=Lh hown
 clear hown
 go_wp2
 go_ret
 exact ⟨w1.heap.size,A',c',rfl,hb.size,fun b e=>(Own.lt hown'.out (k:=b) e).1,newRow hown'.out 0 _ rfl (by decide),hb.alloc hb.size _⟩
def numGo:List UInt8→Nat→Nat→Option (Nat × Nat)
 | [],_,_=>none
 | b::r,i,n=>
   if i<5 then
    if 128≤b.toNat then numGo r (i+1) (n+(b.toNat%128)*2^(7*i))
    else if 4294967295<n+(b.toNat%128)*2^(7*i)∨(0<i∧b.toNat=0) then none
    else some (n+(b.toNat%128)*2^(7*i),i+1)
   else none
def numV (r:Option (Nat × Nat)):Value:=
 match r with
 | some (n,k)=>.tuple #[.int .i64 (n:Int),.int .i64 (k:Int),.int .i64 0]
 | none=>.tuple #[.int .i64 0,.int .i64 0,.int .i64 3]
theorem drop_get {l:List UInt8} {i:Nat} {x:UInt8} (h:l[i]? = some x):l.drop i=x::l.drop (i+1):=by
 have hlt:i<l.length:=by
  rcases Nat.lt_or_ge i l.length with h'|h'
  ·exact h'
  ·rw [List.getElem?_eq_none h'] at h;cases h
 rw [List.drop_eq_getElem_cons hlt]
 rw [Zg hlt] at h
 rw [Option.some.inj h]
theorem pow7 {i:Nat} (h:i<5):2^(7*i)≤268435456:=by
 have:i=0∨i=1∨i=2∨i=3∨i=4:=by omega
 rcases this with rfl|rfl|rfl|rfl|rfl<;>decide
theorem num_step {x m i:Nat} (hx:x<256) (hm:m<2^(7*i)) (h7:2^(7*i)≤268435456):
 bits BinOp.or IntKind.i64 (m:Int) (wrap64 (wrap64 (bits BinOp.and IntKind.u8 (x:Int) 127)*2^(7*i)))=((m+x%128*2^(7*i):Nat):Int):=by
 rw [show (127:Int)=((127:Nat):Int) from rfl,u8_and_nat x 127 hx (by omega),nat_mask7,wrap64_nat (by omega)]
 have:x%128*2^(7*i)≤127*2^(7*i):=Nat.mul_le_mul_right _ (by omega)
 exact or_shl hm (by omega)
theorem num_any (A:OA) (n c:Nat) (l:List UInt8) (w:World) (hl:l.length=n) (hr:Bs w A l) (hn:n≤140737488351232):
 Calls Tryz.prog 91 #[.slice A n c] w fun e w'=>e=.returned (numV (numGo l 0 0))∧w=w':=by
 have HL:=Lh hl
 have HR:=Lh hr
 clear hl hr
 go_enter Tryz.func91,Tryz.ntmps91
 go_wp2
 go_loopg [5,6] n (fun g s5 s6 wr=>∃ i m:Nat,i≤n∧n-i≤g∧i≤5∧m<2^(7*i)∧s5=.int .i64 m∧s6=.int .i64 i∧numGo (l.drop i) i m=numGo l 0 0∧w=wr)
 case atStart=>exact ⟨0,0,Nat.zero_le _,by omega,by omega,by omega,rfl,rfl,rfl,rfl⟩
 case round=>
  obtain ⟨i,m,hi,hg,hi5,hm,rfl,rfl,hgo,rfl⟩:=hrel
  have HG:=Lh hgo
  clear hgo
  by_cases hlt:i<n∧i<5
  ·obtain ⟨hin,h5⟩:=hlt
   obtain ⟨b,o,x,rfl,hx,hc⟩:=HR.out.at_ (by rw [HL.out];exact hin:i<l.length)
   have hd:=drop_get hx
   rw [hd,numGo,if_pos h5] at HG
   have h7:=pow7 h5
   have hxb:=x.toNat_lt
   have hm2:m+x.toNat%128*2^(7*i)<2^(7*(i+1)):=by
    have:x.toNat%128*2^(7*i)≤127*2^(7*i):=Nat.mul_le_mul_right _ (by omega)
    have e:2^(7*(i+1))=128*2^(7*i):=by rw [Nat.mul_add,Nat.pow_add];omega
    omega
   obtain ⟨m',hm'⟩:∃ m':Nat,m'=m+x.toNat%128*2^(7*i):=⟨_,rfl⟩
   rw [←hm'] at HG hm2
   have E:bits BinOp.or IntKind.i64 (m:Int) (wrap64 (wrap64 (bits BinOp.and IntKind.u8 (x.toNat:Int) 127)*2^(7*i)))=(m':Int):=by
    rw [num_step hxb hm h7,hm']
   have HM2:=Lh hm2
   have HX:=Lh (UInt8.toNat_inj (a:=x) (b:=0))
   clear hx hd hm hm2 h7 hm' hxb
   go_wp2
   ·have hge:128≤(x.toNat:Int):=by assumption
    go_roundg (n-(i+1))
    case measure=>omega
    case rel=>exact ⟨i+1,m',by omega,by omega,by omega,HM2.out,rfl,by go_num,by rw [←HG.out,if_pos (by omega)],rfl⟩
   ·have hlt:(x.toNat:Int)<128:=by assumption
    have h0:0<i:=by assumption
    have ht:4294967295<(m':Int)∨((x.toNat:Int)==0)=true:=by assumption
    go_ret3
    refine ⟨?_,rfl⟩
    rw [←HG.out,if_neg (by omega),if_pos (ht.elim (fun h=>.inl (by omega)) (fun h=>.inr ⟨h0,by have:=beq_iff_eq.1 h;omega⟩))]
    rfl
   ·have hlt:(x.toNat:Int)<128:=by assumption
    have ht:(m':Int)≤4294967295∧((x.toNat:Int)==0)=false:=by assumption
    go_ret3
    refine ⟨?_,rfl⟩
    rw [←HG.out,if_neg (by omega),if_neg (by have:=beq_eq_false_iff_ne.1 ht.2;omega)]
    rfl
   ·have hlt:(x.toNat:Int)<128:=by assumption
    have ht:(m':Int)≤4294967295:=by assumption
    have h0:¬0<i:=by assumption
    go_ret3
    refine ⟨?_,rfl⟩
    rw [←HG.out,if_neg (by omega),if_neg (by omega)]
    rfl
   ·have hlt:(x.toNat:Int)<128:=by assumption
    have ht:4294967295<(m':Int):=by assumption
    go_ret3
    refine ⟨?_,rfl⟩
    rw [←HG.out,if_neg (by omega),if_pos (by omega)]
    rfl
  ·have hR:numGo (l.drop i) i m=none:=by
    by_cases h5:i<5
    ·rw [List.drop_eq_nil_of_le (by rw [HL.out];omega)];rfl
    ·cases l.drop i with
     | nil=>rfl
     | cons b r=>rw [numGo,if_neg h5]
   rw [hR] at HG
   have H:=HG
   by_cases hin:i<n
   ·have h5:¬i<5:=by omega
    clear hlt hm
    go_wp2
    go_ret3
    exact ⟨by rw [←H.out];rfl,rfl⟩
   ·clear hlt hm
    go_wp2
    go_ret3
    exact ⟨by rw [←H.out];rfl,rfl⟩
end Go.Proofs.YtiihiocgbfafaaaGreat
namespace Go.Proofs
open Go.Shelf
def Tryz.lays126_ren:Go.Shelf.Ren:=⟨fun|126=>180|n=>n,fun|5=>5|3=>3|9=>9|n=>n,fun|n=>n⟩
theorem Tryz.lays126:Go.Proofs.Lays.n126 Tryz.prog Tryz.lays126_ren:={
 mixed:=by kernel_rfl
 f126:=Tryz.func180.trans (congrArg some (by kernel_rfl))
 t3:=Tryz.underlying3
 a3:=Tryz.isAgg3
 z3:=Tryz.sizeOf3
 v3:=Tryz.zeroValue3
 t5:=Tryz.underlying5
 a5:=Tryz.isAgg5
 z5:=Tryz.sizeOf5
 v5:=Tryz.zeroValue5
 t9:=Tryz.underlying9
 a9:=Tryz.isAgg9
 z9:=Tryz.sizeOf9
 v9:=Tryz.zeroValue9 }
theorem Tryz.bits_Len8 (x:Int) (w:World) (h0:0≤x) (h1:x≤255):
 Calls Tryz.prog 180 #[.int .u8 x] w fun e w'=>e=.returned (.int .i64 (Lib.bitLen x.toNat))∧w'=w:=Any.bits_Len8 Tryz.lays126 x w h0 h1
def Tryz.lays125_ren:Go.Shelf.Ren:=⟨fun|125=>117|128=>161|129=>162|n=>n,fun|46=>129|3=>3|51=>143|53=>142|4=>4|5=>5|9=>9|n=>n,fun|n=>n⟩
theorem Tryz.lays125:Go.Proofs.Lays.n125 Tryz.prog Tryz.lays125_ren:={
 mixed:=by kernel_rfl
 f125:=Tryz.func117.trans (congrArg some (by kernel_rfl))
 f128:=Tryz.func161.trans (congrArg some (by kernel_rfl))
 f129:=Tryz.func162.trans (congrArg some (by kernel_rfl))
 t3:=Tryz.underlying3
 a3:=Tryz.isAgg3
 z3:=Tryz.sizeOf3
 v3:=Tryz.zeroValue3
 t4:=Tryz.underlying4
 a4:=Tryz.isAgg4
 z4:=Tryz.sizeOf4
 v4:=Tryz.zeroValue4
 t5:=Tryz.underlying5
 a5:=Tryz.isAgg5
 z5:=Tryz.sizeOf5
 v5:=Tryz.zeroValue5
 t9:=Tryz.underlying9
 a9:=Tryz.isAgg9
 z9:=Tryz.sizeOf9
 v9:=Tryz.zeroValue9
 t46:=Tryz.underlying129
 a46:=Tryz.isAgg129
 z46:=Tryz.sizeOf129
 v46:=Tryz.zeroValue129
 t51:=Tryz.underlying143
 a51:=Tryz.isAgg143
 z51:=Tryz.sizeOf143
 v51:=Tryz.zeroValue143
 t53:=Tryz.underlying142
 a53:=Tryz.isAgg142
 z53:=Tryz.sizeOf142
 v53:=Tryz.zeroValue142 }
theorem Tryz.bits_Len (x:Int) (w:World) (h0:0≤x) (h1:x≤18446744073709551615):
 Calls Tryz.prog 117 #[.int .u64 x] w fun e w'=>e=.returned (.int .i64 (Lib.bitLen x.toNat))∧w'=w:=Any.bits_Len Tryz.lays125 x w h0 h1
def Tryz.lays212_ren:Go.Shelf.Ren:=⟨fun|212=>92|263=>121|264=>122|n=>n,fun|46=>129|51=>143|146=>214|53=>142|148=>216|n=>n,fun|n=>n⟩
theorem Tryz.lays212:Go.Proofs.Lays.n212 Tryz.prog Tryz.lays212_ren:={
 mixed:=by kernel_rfl
 f212:=Tryz.func92.trans (congrArg some (by kernel_rfl))
 f263:=Tryz.func121.trans (congrArg some (by kernel_rfl))
 f264:=Tryz.func122.trans (congrArg some (by kernel_rfl))
 t46:=Tryz.underlying129
 a46:=Tryz.isAgg129
 z46:=Tryz.sizeOf129
 v46:=Tryz.zeroValue129
 t51:=Tryz.underlying143
 a51:=Tryz.isAgg143
 z51:=Tryz.sizeOf143
 v51:=Tryz.zeroValue143
 t53:=Tryz.underlying142
 a53:=Tryz.isAgg142
 z53:=Tryz.sizeOf142
 v53:=Tryz.zeroValue142
 t146:=Tryz.underlying214
 a146:=Tryz.isAgg214
 z146:=Tryz.sizeOf214
 v146:=Tryz.zeroValue214
 t148:=Tryz.underlying216
 a148:=Tryz.isAgg216
 z148:=Tryz.sizeOf216
 v148:=Tryz.zeroValue216 }
open Go.RowKit Go.Lib in
theorem Tryz.bits_Mul (x y:Nat) (hx:x<18446744073709551616) (hy:y<18446744073709551616) (w:World):
 Calls Tryz.prog 92 #[.int .u64 x,.int .u64 y] w fun e w'=>e=.returned (.tuple #[.int .u64 ((x*y/18446744073709551616:Nat):Int),.int .u64 ((x*y%18446744073709551616:Nat):Int)])∧w'=w:=Any.bits_Mul Tryz.lays212 x y hx hy w
def Tryz.lays108_ren:Go.Shelf.Ren:=⟨fun|108=>141|n=>n,fun|28=>43|3=>3|0=>0|4=>4|n=>n,fun|n=>n⟩
theorem Tryz.lays108:Go.Proofs.Lays.n108 Tryz.prog Tryz.lays108_ren:={
 mixed:=by kernel_rfl
 f108:=Tryz.func141.trans (congrArg some (by kernel_rfl))
 t0:=Tryz.underlying0
 a0:=Tryz.isAgg0
 z0:=Tryz.sizeOf0
 v0:=Tryz.zeroValue0
 t3:=Tryz.underlying3
 a3:=Tryz.isAgg3
 z3:=Tryz.sizeOf3
 v3:=Tryz.zeroValue3
 t4:=Tryz.underlying4
 a4:=Tryz.isAgg4
 z4:=Tryz.sizeOf4
 v4:=Tryz.zeroValue4
 t28:=Tryz.underlying43
 a28:=Tryz.isAgg43
 z28:=Tryz.sizeOf43
 v28:=Tryz.zeroValue43 }
open Go.Lib in
theorem Tryz.slices_Index_int (b off n c:Nat) (zs:List Int) (x:Int) (w:World) (hz:n≤zs.length) (hbig:n≤9223372036854775807) (hc:∀ j,j<zs.length→w.cell? ⟨b,off+j,none⟩=some (.int .i64 (zs.getD j 0))):
 Calls Tryz.prog 141 #[.slice (some ⟨b,off,none⟩) n c,.int .i64 x] w fun e w'=>e=.returned (.int .i64 (Lib.idxOf (zs.take n) x))∧w'=w:=Any.slices_Index_int Tryz.lays108 b off n c zs x w hz hbig hc
def Tryz.lays113_ren:Go.Shelf.Ren:=⟨fun|113=>142|n=>n,fun|28=>43|3=>3|4=>4|9=>9|20=>20|0=>0|n=>n,fun|n=>n⟩
theorem Tryz.lays113:Go.Proofs.Lays.n113 Tryz.prog Tryz.lays113_ren:={
 mixed:=by kernel_rfl
 f113:=Tryz.func142.trans (congrArg some (by kernel_rfl))
 t0:=Tryz.underlying0
 a0:=Tryz.isAgg0
 z0:=Tryz.sizeOf0
 v0:=Tryz.zeroValue0
 t3:=Tryz.underlying3
 a3:=Tryz.isAgg3
 z3:=Tryz.sizeOf3
 v3:=Tryz.zeroValue3
 t4:=Tryz.underlying4
 a4:=Tryz.isAgg4
 z4:=Tryz.sizeOf4
 v4:=Tryz.zeroValue4
 t9:=Tryz.underlying9
 a9:=Tryz.isAgg9
 z9:=Tryz.sizeOf9
 v9:=Tryz.zeroValue9
 t20:=Tryz.underlying20
 a20:=Tryz.isAgg20
 z20:=Tryz.sizeOf20
 v20:=Tryz.zeroValue20
 t28:=Tryz.underlying43
 a28:=Tryz.isAgg43
 z28:=Tryz.sizeOf43
 v28:=Tryz.zeroValue43 }
open Go.Lib in
theorem Tryz.slices_Max_int (b off n c:Nat) (zs:List Int) (w:World) (hn:0<n) (hz:n≤zs.length) (hbig:n≤9223372036854775807) (hc:∀ j,j<zs.length→w.cell? ⟨b,off+j,none⟩=some (.int .i64 (zs.getD j 0))):
 Calls Tryz.prog 142 #[.slice (some ⟨b,off,none⟩) n c] w fun e w'=>e=.returned (.int .i64 (Lib.maxOf (zs.take n)))∧w'=w:=Any.slices_Max_int Tryz.lays113 b off n c zs w hn hz hbig hc
def Tryz.laysNm215_ren:Go.Shelf.Ren:=⟨fun|15=>170|n=>n,fun|22=>43|3=>3|4=>4|n=>n,fun|n=>n⟩
theorem Tryz.laysNm215:Go.Proofs.Lays2.n15 Tryz.prog Tryz.laysNm215_ren:={
 mixed:=by kernel_rfl
 f15:=Tryz.func170.trans (congrArg some (by kernel_rfl))
 t3:=Tryz.underlying3
 a3:=Tryz.isAgg3
 z3:=Tryz.sizeOf3
 v3:=Tryz.zeroValue3
 t4:=Tryz.underlying4
 a4:=Tryz.isAgg4
 z4:=Tryz.sizeOf4
 v4:=Tryz.zeroValue4
 t22:=Tryz.underlying43
 a22:=Tryz.isAgg43
 z22:=Tryz.sizeOf43
 v22:=Tryz.zeroValue43
 i3:=by kernel_rfl }
open Go.RowKit Go.Lib in
theorem Tryz.slices_Clone_int (b off n c:Nat) (zs:List Int) (w:World) (hz:n≤zs.length) (hbig:n*8≤140737488355328) (hc:∀ j,j<zs.length→w.cell? ⟨b,off+j,none⟩=some (.int .i64 (zs.getD j 0))):
 Calls Tryz.prog 170 #[.slice (some ⟨b,off,none⟩) n c] w fun e w'=>∃ v',e=.returned v'∧w'.ownsRow w.heap.size 3 1 v' n ((zs.take n).map (Value.int .i64))∧v'≠.slice none 0 0∧Below w.heap.size w w':=Any.slices_Clone_int Tryz.laysNm215 b off n c zs w hz hbig hc
def Tryz.laysSlB13_ren:Go.Shelf.Ren:=⟨fun|13=>73|24=>101|25=>102|12=>103|31=>129|19=>130|20=>39|21=>131|22=>132|23=>133|29=>168|30=>169|n=>n,fun|22=>37|3=>3|4=>4|0=>0|5=>5|9=>9|33=>129|40=>214|39=>143|n=>n,fun|0=>0|n=>n⟩
theorem Tryz.laysSlB13:Go.Proofs.SlLaysB.n13 Tryz.prog Tryz.laysSlB13_ren:={
 mixed:=by kernel_rfl
 f13:=Tryz.func73.trans (congrArg some (by kernel_rfl))
 f25:=Tryz.func102.trans (congrArg some (by kernel_rfl))
 t0:=Tryz.underlying0
 a0:=Tryz.isAgg0
 z0:=Tryz.sizeOf0
 v0:=Tryz.zeroValue0
 t3:=Tryz.underlying3
 a3:=Tryz.isAgg3
 z3:=Tryz.sizeOf3
 v3:=Tryz.zeroValue3
 t4:=Tryz.underlying4
 a4:=Tryz.isAgg4
 z4:=Tryz.sizeOf4
 v4:=Tryz.zeroValue4
 t5:=Tryz.underlying5
 a5:=Tryz.isAgg5
 z5:=Tryz.sizeOf5
 v5:=Tryz.zeroValue5
 t22:=Tryz.underlying37
 a22:=Tryz.isAgg37
 z22:=Tryz.sizeOf37
 v22:=Tryz.zeroValue37 }
open Go.RowKit Go.Lib in
theorem Tryz.bytes_Count_one (b o n c b2 o2 d:Nat) (xs:List Int) (cv:Int) (w:World) (hx:xs.length=n) (hc:∀ i,i<n→w.cell? ⟨b,o+i,none⟩=some (.int .u8 (xs.getD i 0))) (hc2:w.cell? ⟨b2,o2,none⟩=some (.int .u8 cv)):
 Calls Tryz.prog 73 #[.slice (some ⟨b,o,none⟩) n c,.slice (some ⟨b2,o2,none⟩) 1 d] w fun e w'=>e=.returned (.int .i64 (Lib.countByte (Lib.bytesOf xs) cv.toNat.toUInt8))∧w'=w:=Any.bytes_Count_one Tryz.laysSlB13 b o n c b2 o2 d xs cv w hx hc hc2
def Tryz.lays115_ren:Go.Shelf.Ren:=⟨fun|115=>39|n=>n,fun|37=>37|4=>4|9=>9|5=>5|n=>n,fun|n=>n⟩
def Tryz.laysnb115_ren:Go.Shelf.Ren:=⟨fun|115=>39|n=>n,fun|37=>37|4=>4|9=>9|5=>5|n=>n,fun|n=>n⟩
theorem Tryz.laysnb115:Go.Proofs.Lays.nb115 Tryz.prog Tryz.laysnb115_ren:={
 mixed:=by kernel_rfl
 f115:=Tryz.func39.trans (congrArg some (by kernel_rfl))
 t4:=Tryz.underlying4
 a4:=Tryz.isAgg4
 z4:=Tryz.sizeOf4
 v4:=Tryz.zeroValue4
 t9:=Tryz.underlying9
 a9:=Tryz.isAgg9
 z9:=Tryz.sizeOf9
 v9:=Tryz.zeroValue9
 t37:=Tryz.underlying37
 a37:=Tryz.isAgg37
 z37:=Tryz.sizeOf37
 v37:=Tryz.zeroValue37
 t5:=Tryz.underlying5
 a5:=Tryz.isAgg5
 z5:=Tryz.sizeOf5
 v5:=Tryz.zeroValue5 }
theorem Tryz.bytes_Equal_all (p1 p2:Option Addr) (n c m d:Nat) (xs ys:List Int) (w:World) (hx:xs.length=n) (hy:ys.length=m) (h1:Lib.BytesIn w p1 n xs) (h2:Lib.BytesIn w p2 m ys):
 Calls Tryz.prog 39 #[.slice p1 n c,.slice p2 m d] w fun e w'=>e=.returned (.bool (Lib.bytesOf xs==Lib.bytesOf ys))∧w'=w:=Any.bytes_Equal_all Tryz.laysnb115 p1 p2 n c m d xs ys w hx hy h1 h2
end Go.Proofs
namespace Go.Proofs.YtiihiocgbfafaaaGreat
open Go.RowKit
theorem newBack_bad (A:OA) (n c:Nat) (l:List UInt8) (w:World) (hl:l.length=n) (hr:Bs w A l) (hn:n≤140737488351232) (hb:n=0∨l.getD (n-1) 0=0):
 Calls Tryz.prog 164 #[.slice A n c] w fun e w'=>e=.returned (.tuple #[.pointer none,.int .i64 3])∧w=w':=by
 by_cases h0:n=0
 ·subst h0
  clear hb
  go_enter Tryz.func164,Tryz.ntmps164
  go_wp2
  go_ret2
  exact ⟨rfl,rfl⟩
 ·obtain ⟨b,o,x,rfl,hx,hc⟩:=hr.at_ (by omega:n-1<l.length)
  have hx0:x=0:=by
   rcases hb with h|h
   ·omega
   ·simpa [List.getD,hx] using h
  subst hx0
  have hc':w.cell? ⟨b,o+(n-1),none⟩=some (.int .u8 0):=hc
  clear hc hx hb hr
  have hne:((n:Int)==0)=false:=bF (by omega)
  go_enter Tryz.func164,Tryz.ntmps164
  go_wp2
  go_ret2
  exact ⟨rfl,rfl⟩
theorem bitLen_le (x:Nat) (h:x<256):Lib.bitLen x≤8:=by
 have h2:=(by decide +kernel:∀ x:Fin 256,Lib.bitLen x.val≤8) ⟨x,h⟩
 exact h2
theorem bitLen_pos (x:Nat) (h:x<256) (h0:x≠0):1≤Lib.bitLen x:=by
 have h2:=(by decide +kernel:∀ x:Fin 256,x.val≠0→1≤Lib.bitLen x.val) ⟨x,h⟩
 exact h2 h0
theorem newBack (A:OA) (n c:Nat) (l:List UInt8) (w:World) (hl:l.length=n+1) (hr:Bs w A l) (hn:n≤140737488351232) (hb:(l.getD n 0).toNat≠0):
 Calls Tryz.prog 164 #[.slice A (n+1) c] w fun e w'=>∃ g A' c',e=.returned (.tuple #[.pointer (some ⟨g,0,none⟩),.int .i64 0])∧w.heap.size≤g∧(∀ b,bk A'=some b→w.heap.size≤b) ∧
  IsRow w' 279 g l (8*n+Lib.bitLen (l.getD n 0).toNat-1) A' c'∧Below w.heap.size w w':=by
 obtain ⟨b,o,x,rfl,hx,hc⟩:=hr.at_ (by omega:n<l.length)
 have hx0:(l.getD n 0)=x:=by simp [List.getD,hx]
 rw [hx0] at hb ⊢
 have hbx:((x.toNat:Int)==0)=false:=bF (by omega)
 have hxb:=x.toNat_lt
 have hbl:=bitLen_le x.toNat hxb
 have hbl1:=bitLen_pos x.toNat hxb hb
 have hlt:=block_lt hc
 have HL:=Lh hl
 have HR:=Lh hr
 have HX:=Lh hxb
 have HB:=Lh (fun w1=>Tryz.bits_Len8 (x.toNat:Int) w1 (by omega) (by omega))
 rw [Int.toNat_natCast] at HB
 have HV:=Lh (rfl:Lib.bitLen x.toNat=Lib.bitLen x.toNat)
 generalize hK:Lib.bitLen x.toNat=K at HB hbl hbl1 ⊢
 have HK:=Lh hK
 have e1:IntKind.i64.wrap (8*(n:Int))=8*n:=wrapi64 (by omega) (by omega)
 have e2:IntKind.i64.wrap (8*(n:Int)+K)=8*n+K:=wrapi64 (by omega) (by omega)
 have e3:IntKind.i64.wrap (8*(n:Int)+K-1)=8*n+K-1:=wrapi64 (by omega) (by omega)
 have e4:IntKind.i64.wrap (n:Int)=n:=wrapi64 (by omega) (by omega)
 have i1:(0:Int)≤(n:Int):=by omega
 have i2:(n:Int)<(n:Int)+1:=by omega
 clear hx hx0 hb hl hxb hr HV hK
 go_enter Tryz.func164,Tryz.ntmps164
 go_wp2
 go_region_held3 (fun w'=>w'.cell? ⟨b,o+n,none⟩=some (.int .u8 (x.toNat:Int)))
  (first|go_keep|(rw [hb1.cell (by simp;exact hlt)];assumption))
  ((first|(go_at_call 180;refine (HB.out _).mono ?_;rintro e w' ⟨rfl,rfl⟩)|(refine step_append_rd rfl _ _ elemB rfl w.heap.size none 0 0 [] rfl (Own.nil _ _ _) (some ⟨b,o,none⟩) (n+1) c (l.map u8v) rfl HR.out (by simpa using HL.out) (u8_one l) (by omega) (by omega) (by simp) ?_;intro A' c' w1 hown1 hb1 hg1 hat1)))
 go_wp2
 go_ret2
 have hown2:OwnB w' w.heap.size A' (n+1) c' l:=by simpa [OwnB] using hown1
 exact ⟨w'.heap.size,A',c',rfl,hb1.size,fun b e=>(Own.lt hown2 (k:=b) e).1,
  newRow hown2 (8*n+K-1) _ (by rw [show (8*(n:Int)+K-1)=((8*n+K-1:Nat):Int) from by omega]) (by decide),Below.alloc (Below.trans ((Below.refl _ w).drew) hb1) hb1.size _⟩
theorem back_left (g a c:Nat) (l:List UInt8) (A:OA) (w:World) (h:IsRow w 279 g l a A c):
 Calls Tryz.prog 166 #[.pointer (some ⟨g,0,none⟩)] w fun e w'=>e=.returned (.int .i64 (a:Int))∧w'=w:=by
 have c1:=h.blk.cell 1
 simp only [Zt,Zz,Zs] at c1
 clear h
 go_enter Tryz.func166,Tryz.ntmps166
 go_wp2
 go_ret
 exact ⟨rfl,rfl⟩
def backV (l:List UInt8) (a:Nat) (n:Int):Value:=
 if mayE n (a:Int)=0 then .tuple #[.int .i64 (numAt l (a-n.toNat) n.toNat:Nat),.int .i64 0] else .tuple #[.int .i64 0,.int .i64 (mayE n (a:Int))]
def backA (a:Nat) (n:Int):Nat:=if mayE n (a:Int)=0 then a-n.toNat else a
theorem back_take (g a c:Nat) (l:List UInt8) (A:OA) (n:Int) (w:World) (h:IsRow w 279 g l a A c) (hl:l.length≤140737488351232) (ha:a≤8*l.length) (hn0:-1000000≤n) (hn1:n≤1000000):
 Calls Tryz.prog 165 #[.pointer (some ⟨g,0,none⟩),.int .i64 n] w fun e w'=>e=.returned (backV l a n)∧IsRow w' 279 g l (backA a n) A c∧w.grownBy w' (some g):=by
 have HM:=Lh (fun w1=>may_any n (a:Int) w1)
 have c0:=h.blk.cell 0
 have c1:=h.blk.cell 1
 simp only [Zt,Zz,Zs] at c0 c1
 have f1:=h.blk.frozen 1
 by_cases hm:mayE n (a:Int)=0
 ·obtain ⟨h1,h2,h3⟩:=mayE_zero hm
  have hv:backV l a n=.tuple #[.int .i64 (numAt l (a-n.toNat) n.toNat:Nat),.int .i64 0]:=by unfold backV;rw [if_pos hm]
  have hA:backA a n=a-n.toNat:=by unfold backA;rw [if_pos hm]
  rw [hm] at HM
  rw [hv,hA]
  obtain ⟨k,rfl⟩:=Int.eq_ofNat_of_zero_le h1
  rw [Int.toNat_natCast]
  clear hm hv hA
  have h':IsRow (w.setCell ⟨g,1,none⟩ (.int .i64 ((a-k:Nat):Int))) 279 g l (a-k) A c:=IsRow.set h (a-k)
  have HN:=Lh (fun m=>(number_any A l.length c l ((a-k:Nat):Int) (k:Int) ((w.setCell ⟨g,1,none⟩ (.int .i64 ((a-k:Nat):Int))).drewN m) rfl (Bs.later h'.data (below_drewN _ m)) (by omega) (by omega) h2 (by omega) hl).mono fun _ _ ⟨h1,h2⟩=>(⟨h1,h2.symm⟩:_∧_))
  rw [Int.toNat_natCast,Int.toNat_natCast] at HN
  have HG':=Lh (grown_set w ⟨g,1,none⟩ (.int .i64 ((a-k:Nat):Int)))
  have HH:=Lh h'
  clear h' h
  generalize hx:numAt l (a-k) k=x at *
  have HX:=Lh hx
  clear hx
  generalize l.length=n at *
  rw [show ((a-k:Nat):Int)=(a:Int)-k from by omega] at *
  go_enter Tryz.func165,Tryz.ntmps165
  go_wp2_with fail
  refine (HM.out _).mono ?_
  rintro e w2 ⟨rfl,rfl⟩
  go_wp2_with fail
  go_quiet ((go_at_call 128;exact Calls.quiet_of_same (HN.out _)))
  go_wp2
  go_ret2
  exact ⟨rfl,HH.out.later (below_drewN _ _),grown_trans HG'.out (grown_below (below_drewN _ _))⟩
 ·have hv:backV l a n=.tuple #[.int .i64 0,.int .i64 (mayE n (a:Int))]:=by unfold backV;rw [if_neg hm]
  have hA:backA a n=a:=by unfold backA;rw [if_neg hm]
  rw [hv,hA]
  generalize mayE n (a:Int)=e0 at *
  have hm':(e0==0)=false:=bF hm
  have H:=Lh h
  clear hm hv hA h
  go_enter Tryz.func165,Tryz.ntmps165
  go_wp2_with fail
  refine (HM.out _).mono ?_
  rintro e w2 ⟨rfl,rfl⟩
  go_wp2
  go_ret2
  exact ⟨rfl,H.out,grown_refl _ _⟩
structure IsPk (w:World) (g:Nat) (l:List UInt8) (A:OA) (c:Nat) (bad:Bool):Prop where
 blk:Blk w g 136 #[.slice A l.length c,.bool bad]
 data:Bs w A l
 ne:bk A≠some g
 cap:l.length≤c∧c≤9223372036854775807
 nil0:A=none→c=0
 len:l.length≤140737488351232
theorem IsPk.later {w w':World} {g c:Nat} {l:List UInt8} {A:OA} {bad:Bool} (h:IsPk w g l A c bad) (hb:Below w.heap.size w w'):IsPk w' g l A c bad:=
 ⟨h.blk.later hb,h.data.later hb,h.ne,h.cap,h.nil0,h.len⟩
theorem IsPk.kept {w w':World} {row:Option Nat} {g c:Nat} {l:List UInt8} {A:OA} {bad:Bool} (h:IsPk w g l A c bad) (hg:w.grownBy w' row) (h1:row≠some g) (h2:bk A=none∨bk A≠row):IsPk w' g l A c bad:=
 ⟨h.blk.kept hg h1,Rd.keptB h.data hg h2,h.ne,h.cap,h.nil0,h.len⟩
theorem IsPk.setBad {w:World} {g c:Nat} {l:List UInt8} {A:OA} {bad:Bool} (h:IsPk w g l A c bad) (bad':Bool):IsPk (w.setCell ⟨g,1,none⟩ (.bool bad')) g l A c bad':=
 ⟨h.blk.set 1 _,Rd.keptB h.data (grown_set w ⟨g,1,none⟩ _) (.inr h.ne),h.ne,h.cap,h.nil0,h.len⟩
def cutA (A:OA) (c n:Nat):OA:=if c=n then A else A.map fun a=>a.add n
theorem add_block (a:Addr) (n:Nat):(a.add n).block=a.block:=by unfold Addr.add;split<;>rfl
theorem add_none (b o n:Nat):(⟨b,o,none⟩:Addr).add n=⟨b,o+n,none⟩:=by unfold Addr.add;split<;>simp_all
theorem bk_cut (A:OA) (c n:Nat):bk (cutA A c n)=bk A:=by
 unfold cutA bk
 split
 ·rfl
 ·cases A<;>simp [add_block]
theorem Rd.cut {w:World} {A:OA} {xs:List Value} {c n:Nat} (h:Rd w A xs) (_hn:n≤xs.length) (hc:xs.length≤c):Rd w (cutA A c n) (xs.drop n):=fun h0=>by
 have hlt:n<xs.length:=by simp at h0;omega
 obtain ⟨b,o,rfl,hx⟩:=h (by omega)
 refine ⟨b,o+n,by unfold cutA;rw [if_neg (by omega)];simp [add_none],fun j hj=>?_⟩
 rw [List.length_drop] at hj
 rw [Nat.add_assoc,hx (n+j) (by omega),List.getElem?_drop]
theorem Rd.take {w:World} {A:OA} {xs:List Value} (n:Nat) (h:Rd w A xs):Rd w A (xs.take n):=fun h0=>by
 have h1:0<xs.length:=by simp at h0;omega
 obtain ⟨b,o,rfl,hx⟩:=h h1
 refine ⟨b,o,rfl,fun j hj=>?_⟩
 have hj':j<n∧j<xs.length:=by simp at hj;omega
 rw [hx j hj'.2,List.getElem?_take,if_pos hj'.1]
theorem Bs.cut {w:World} {A:OA} {l:List UInt8} {c n:Nat} (h:Bs w A l) (hn:n≤l.length) (hc:l.length≤c):Bs w (cutA A c n) (l.drop n):=by
 have:=Rd.cut (c:=c) (n:=n) h (by simpa using hn) (by simpa using hc)
 rwa [←List.map_drop] at this
theorem Bs.take {w:World} {A:OA} {l:List UInt8} (n:Nat) (h:Bs w A l):Bs w A (l.take n):=by
 have:=Rd.take n h
 rwa [←List.map_take] at this
theorem IsPk.cutD {w:World} {g c:Nat} {l:List UInt8} {A:OA} {bad:Bool} (h:IsPk w g l A c bad) (n:Nat) (hn:n≤l.length):
 IsPk ((w.setCell ⟨g,1,none⟩ (.bool false)).setCell ⟨g,0,none⟩ (.slice (cutA A c n) (l.length-n) (c-n))) g (l.drop n) (cutA A c n) (c-n) false:=by
 have hb:=(h.setBad false).blk.set 0 (.slice (cutA A c n) (l.length-n) (c-n))
 have hcap:=h.cap
 refine ⟨by rw [List.length_drop];exact hb,?_,by rw [bk_cut];exact h.ne,⟨by rw [List.length_drop];omega,by omega⟩,fun e=>?_,by rw [List.length_drop];have:=h.len;omega⟩
 ·refine Rd.keptB (Rd.keptB (Bs.cut h.data hn hcap.1) (grown_set w ⟨g,1,none⟩ _) (.inr ?_)) (grown_set _ ⟨g,0,none⟩ _) (.inr ?_)<;>(rw [bk_cut];exact h.ne)
 ·have:A=Option.none:=by
   unfold cutA at e
   split at e
   ·exact e
   ·cases A with
    | none=>rfl
    | some a=>cases e
  have:=h.nil0 this
  omega
theorem pk_take_bad (g c:Nat) (l:List UInt8) (A:OA) (bad:Bool) (n:Int) (w:World) (h:IsPk w g l A c bad) (hbad:bad=true∨(l.length:Int)<n):
 Calls Tryz.prog 61 #[.pointer (some ⟨g,0,none⟩),.int .i64 n] w fun e w'=>e=.returned (.slice none 0 0)∧IsPk w' g l A c true∧w.grownBy w' (some g):=by
 have c0:=h.blk.cell 0
 have c1:=h.blk.cell 1
 simp only [Zt,Zz,Zs] at c0 c1
 have f1:=h.blk.frozen 1
 have HH:=Lh (h.setBad true)
 have HG:=Lh (grown_set w ⟨g,1,none⟩ (.bool true))
 have hl:=h.len
 clear h
 generalize l.length=m at *
 cases bad with
 | true=>
   clear hbad
   go_enter Tryz.func61,Tryz.ntmps61
   go_wp2
   go_ret
   exact ⟨rfl,HH.out,HG.out⟩
 | false=>
   have hlt:(m:Int)<n:=by
    rcases hbad with h|h
    ·cases h
    ·exact h
   clear hbad
   go_enter Tryz.func61,Tryz.ntmps61
   go_wp2
   go_ret
   exact ⟨rfl,HH.out,HG.out⟩
theorem pk_take (g c:Nat) (l:List UInt8) (a:Addr) (n:Nat) (w:World) (h:IsPk w g l (some a) c false) (hn:n≤l.length):
 Calls Tryz.prog 61 #[.pointer (some ⟨g,0,none⟩),.int .i64 n] w fun e w'=>e=.returned (.slice (some a) n c)∧IsPk w' g (l.drop n) (cutA (some a) c n) (c-n) false∧w.grownBy w' (some g):=by
 have c0:=h.blk.cell 0
 have c1:=h.blk.cell 1
 simp only [Zt,Zz,Zs] at c0 c1
 have f1:=h.blk.frozen 1
 have f0:=h.blk.frozen 0
 have hl:=h.len
 have hcap:=h.cap
 have HC:=Lh (h.cutD n hn)
 have HG:=Lh (grown_trans (grown_set w ⟨g,1,none⟩ (.bool false)) (grown_set (w.setCell ⟨g,1,none⟩ (.bool false)) ⟨g,0,none⟩ (.slice (cutA (some a) c n) (l.length-n) (c-n))))
 clear h
 generalize l.length=m at *
 go_enter Tryz.func61,Tryz.ntmps61
 go_wp2
 ·have hcn:c=n:=by assumption
  go_ret
  subst hcn
  have e:cutA (some a) c c=some a:=by unfold cutA;rw [if_pos rfl]
  have H1:=HC.out
  have H2:=HG.out
  rw [e,Nat.sub_self] at H1 H2
  rw [e]
  exact ⟨rfl,H1,H2⟩
 ·go_ret
  have e:cutA (some a) c n=some (a.add n):=by unfold cutA;rw [if_neg (by assumption)];rfl
  have H1:=HC.out
  rw [e] at H1
  have H2:=HG.out
  rw [e] at H2 ⊢
  exact ⟨rfl,H1,H2⟩
theorem pk_take_nil (g:Nat) (w:World) (h:IsPk w g [] none 0 false):
 Calls Tryz.prog 61 #[.pointer (some ⟨g,0,none⟩),.int .i64 0] w fun e w'=>e=.returned (.slice none 0 0)∧IsPk w' g [] none 0 false∧w.grownBy w' (some g):=by
 have c0:=h.blk.cell 0
 have c1:=h.blk.cell 1
 simp only [Zt,Zz,Zs,List.length_nil] at c0 c1
 have f1:=h.blk.frozen 1
 have f0:=h.blk.frozen 0
 have HC:=Lh (h.cutD 0 nL)
 have HG:=Lh (grown_trans (grown_set w ⟨g,1,none⟩ (.bool false)) (grown_set (w.setCell ⟨g,1,none⟩ (.bool false)) ⟨g,0,none⟩ (.slice none 0 0)))
 clear h
 go_enter Tryz.func61,Tryz.ntmps61
 go_wp2
 go_ret
 exact ⟨rfl,HC.out,HG.out⟩
theorem pk_take_any (g c:Nat) (l:List UInt8) (A:OA) (n:Nat) (w:World) (h:IsPk w g l A c false) (hn:n≤l.length):
 Calls Tryz.prog 61 #[.pointer (some ⟨g,0,none⟩),.int .i64 n] w fun e w'=>e=.returned (.slice A n c)∧IsPk w' g (l.drop n) (cutA A c n) (c-n) false∧w.grownBy w' (some g):=by
 cases A with
 | some a=>exact pk_take g c l a n w h hn
 | none=>
   have hc:=h.nil0 rfl
   have hcap:=h.cap
   subst hc
   obtain rfl:l=[]:=List.eq_nil_of_length_eq_zero (by omega)
   obtain rfl:n=0:=by simpa using hn
   exact pk_take_nil g w h
def pkNum (l:List UInt8) (most:Int):Option (Nat × Nat):=
 match numGo l 0 0 with
 | some (n,k)=>if most<(n:Int) then none else some (n,k)
 | none=>none
theorem numGo_le:∀ (l:List UInt8) (i n m k:Nat),numGo l i n=some (m,k)→i<k∧k≤i+l.length∧k≤5∧m≤4294967295
 | [],_,_,_,_,h=>by cases h
 | b::r,i,n,m,k,h=>by
   rw [numGo] at h
   split at h
   ·split at h
    ·have:=numGo_le r _ _ _ _ h
     simp;omega
    ·split at h
     ·cases h
     ·rename_i h1 h2 h3
      simp only [Option.some.injEq,Prod.mk.injEq] at h
      simp;omega
   ·cases h
theorem pk_num_bad (g c:Nat) (l:List UInt8) (A:OA) (bad:Bool) (most:Int) (w:World) (h:IsPk w g l A c bad) (hbad:bad=true∨pkNum l most=none):
 Calls Tryz.prog 62 #[.pointer (some ⟨g,0,none⟩),.int .i64 most] w fun e w'=>e=.returned (.int .i64 0)∧IsPk w' g l A c true∧w.grownBy w' (some g):=by
 have c0:=h.blk.cell 0
 have c1:=h.blk.cell 1
 simp only [Zt,Zz,Zs] at c0 c1
 have f1:=h.blk.frozen 1
 have HH:=Lh (h.setBad true)
 have HG:=Lh (grown_set w ⟨g,1,none⟩ (.bool true))
 have HN:=num_any A l.length c l w rfl h.data h.len
 clear h
 unfold pkNum at hbad
 generalize l.length=m at *
 cases hr:numGo l 0 0 with
 | none=>
   rw [hr] at HN
   simp only [numV] at HN
   have H:=Lh HN
   clear HN hbad hr
   cases bad
   all_goals
    go_enter Tryz.func62,Tryz.ntmps62
    go_wp2_with fail
    refine H.out.mono ?_
    rintro e w2 ⟨rfl,rfl⟩
    go_wp2_with fail
    go_ret
    exact ⟨rfl,HH.out,HG.out⟩
 | some x=>
   obtain ⟨n,k⟩:=x
   rw [hr] at HN hbad
   simp only [numV] at HN
   have H:=Lh HN
   clear HN hr
   cases bad with
   | true=>
     clear hbad
     go_enter Tryz.func62,Tryz.ntmps62
     go_wp2_with fail
     refine H.out.mono ?_
     rintro e w2 ⟨rfl,rfl⟩
     go_wp2_with fail
     go_ret
     exact ⟨rfl,HH.out,HG.out⟩
   | false=>
     have hlt:most<(n:Int):=by
      rcases hbad with h|h
      ·cases h
      ·simp only at h
       split at h
       ·assumption
       ·cases h
     clear hbad
     go_enter Tryz.func62,Tryz.ntmps62
     go_wp2_with fail
     refine H.out.mono ?_
     rintro e w2 ⟨rfl,rfl⟩
     go_wp2_with fail
     go_ret
     exact ⟨rfl,HH.out,HG.out⟩
theorem pk_num (g c:Nat) (l:List UInt8) (a:Addr) (most:Int) (n k:Nat) (w:World) (h:IsPk w g l (some a) c false) (hn:pkNum l most=some (n,k)):
 Calls Tryz.prog 62 #[.pointer (some ⟨g,0,none⟩),.int .i64 most] w fun e w'=>e=.returned (.int .i64 n)∧IsPk w' g (l.drop k) (cutA (some a) c k) (c-k) false∧w.grownBy w' (some g):=by
 have c0:=h.blk.cell 0
 have c1:=h.blk.cell 1
 simp only [Zt,Zz,Zs] at c0 c1
 have f1:=h.blk.frozen 1
 have f0:=h.blk.frozen 0
 have hr:numGo l 0 0=some (n,k)∧¬most<(n:Int):=by
  unfold pkNum at hn
  split at hn
  ·split at hn
   ·cases hn
   ·rename_i hx h2
    simp only [Option.some.injEq,Prod.mk.injEq] at hn
    obtain ⟨rfl,rfl⟩:=hn
    exact ⟨hx,h2⟩
  ·cases hn
 have hk:=(numGo_le l 0 0 n k hr.1).2.1
 have HN:=num_any (some a) l.length c l w rfl h.data h.len
 rw [hr.1] at HN
 simp only [numV] at HN
 have H:=Lh HN
 have hmost:=hr.2
 have hdm:decide (most<(n:Int))=false:=qF hmost
 have hl:=h.len
 have hcap:=h.cap
 have HC:=Lh (h.cutD k (by omega))
 have HG:=Lh (grown_trans (grown_set w ⟨g,1,none⟩ (.bool false)) (grown_set (w.setCell ⟨g,1,none⟩ (.bool false)) ⟨g,0,none⟩ (.slice (cutA (some a) c k) (l.length-k) (c-k))))
 clear h hr HN hn
 rw [Nat.zero_add] at hk
 generalize l.length=m at *
 go_enter Tryz.func62,Tryz.ntmps62
 go_wp2_with fail
 refine H.out.mono ?_
 rintro e w2 ⟨rfl,rfl⟩
 go_wp2_with fail
 ·have hcn:c=k:=by assumption
  go_ret
  subst hcn
  have e:cutA (some a) c c=some a:=by unfold cutA;rw [if_pos rfl]
  have H1:=HC.out
  have H2:=HG.out
  rw [e,Nat.sub_self] at H1 H2
  rw [e]
  exact ⟨rfl,H1,H2⟩
 ·go_ret
  have e:cutA (some a) c k=some (a.add k):=by unfold cutA;rw [if_neg (by assumption)];rfl
  have H1:=HC.out
  rw [e] at H1
  have H2:=HG.out
  rw [e] at H2 ⊢
  exact ⟨rfl,H1,H2⟩
theorem pk_num_any (g c:Nat) (l:List UInt8) (A:OA) (most:Int) (n k:Nat) (w:World) (h:IsPk w g l A c false) (hn:pkNum l most=some (n,k)):
 Calls Tryz.prog 62 #[.pointer (some ⟨g,0,none⟩),.int .i64 most] w fun e w'=>e=.returned (.int .i64 n)∧IsPk w' g (l.drop k) (cutA A c k) (c-k) false∧w.grownBy w' (some g):=by
 cases A with
 | some a=>exact pk_num g c l a most n k w h hn
 | none=>
   have hc:=h.nil0 rfl
   have hcap:=h.cap
   subst hc
   obtain rfl:l=[]:=List.eq_nil_of_length_eq_zero (by omega)
   cases hn
end Go.Proofs.YtiihiocgbfafaaaGreat
