/- F6 T1 T2 T3 T4 T5 T6 T7 T8 F7 W3 -/
import Derived.Test.YtiihiocgbfafaaaGreatKKc
import Derived.Test.YtiihiocgbfafaaaGreatKKh
import Derived.WalkMore
import Derived.StillTailTactics
set_option linter.unusedSimpArgs false
set_option linter.unusedVariables false
set_option maxHeartbeats 8000000
set_option maxRecDepth 100000
namespace Go.Proofs.YtiihiocgbfafaaaGreat
open Go.RowKit
def nz:List Nat→Nat
 | []=>0
 | k::r=>(if 0<k then 1 else 0)+nz r
theorem nz_append (a b:List Nat):nz (a++b)=nz a+nz b:=by
 induction a with
 | nil=>simp [nz]
 | cons x r ih=>simp only [List.cons_append,nz,ih];omega
theorem nz_le:∀ l:List Nat,nz l≤l.length
 | []=>Nat.le_refl _
 | k::r=>by have:=nz_le r;simp only [nz,List.length_cons];split<;>omega
theorem nz_step {l:List Nat} {k x:Nat} (h:l[k]? = some x):nz (l.take (k+1))=nz (l.take k)+(if 0<x then 1 else 0):=by
 rw [List.take_add_one,h,nz_append]
 simp [nz]
theorem nz_pos:∀ {l:List Nat},0<nz l→0<sumL l
 | [],h=>by simp [nz] at h
 | k::r,h=>by
   simp only [nz] at h
   simp only [sumL]
   by_cases hk:0<k
   ·omega
   ·rw [if_neg hk] at h
    have:=nz_pos (l:=r) (by omega)
    omega
theorem sum_le_nz:∀ {l:List Nat} {m:Nat},(∀ x∈l,x≤m)→sumL l≤m*nz l
 | [],_,_=>by simp [sumL]
 | k::r,m,h=>by
   have h1:=sum_le_nz (l:=r) (m:=m) (fun x hx=>h x (List.mem_cons_of_mem _ hx))
   have h2:=h k (List.mem_cons_self)
   simp only [sumL,nz]
   by_cases hk:0<k
   ·rw [if_pos hk,Nat.mul_add,Nat.mul_one];omega
   ·rw [if_neg hk,Nat.zero_add];omega
theorem mem_le_sum:∀ {l:List Nat} {x:Nat},x∈l→x≤sumL l
 | k::r,x,h=>by
   simp only [sumL]
   rcases List.mem_cons.1 h with rfl|h
   ·omega
   ·have:=mem_le_sum h;omega
theorem getD_mem' {l:List Nat} {k:Nat} (h:k<l.length):l.getD k 0∈l:=by
 simp [List.getD,Zg h]
theorem sum_set:∀ (l:List Nat) (k x:Nat),k<l.length→sumL (l.set k x)+l.getD k 0=sumL l+x
 | [],_,_,h=>by simp at h
 | y::r,0,x,_=>by simp [sumL];omega
 | y::r,k+1,x,h=>by
   have:=sum_set r k x (by simpa using h)
   simp only [List.set_cons_succ,sumL,List.getD_cons_succ]
   omega
theorem nz_set:∀ (l:List Nat) (k x:Nat),k<l.length→0<l.getD k 0→nz (l.set k x)≤nz l
 | [],_,_,h,_=>by simp at h
 | y::r,0,x,_,h=>by
   simp only [List.getD_cons_zero] at h
   simp only [List.set_cons_zero,nz,if_pos h]
   split<;>omega
 | y::r,k+1,x,h,h2=>by
   have:=nz_set r k x (by simpa using h) (by simpa using h2)
   simp only [List.set_cons_succ,nz]
   omega
theorem first_at:∀ {l:List Nat} {x:Nat},x∈l→∃ k,k<l.length∧l.getD k 0=x∧∀ j,j<k→l.getD j 0≠x
 | y::r,x,h=>by
   by_cases e:y=x
   ·exact ⟨0,by simp,by simpa using e,fun j hj=>by omega⟩
   ·obtain ⟨k,h1,h2,h3⟩:=first_at (l:=r) (x:=x) (by
     rcases List.mem_cons.1 h with rfl|h
     ·exact absurd rfl e
     ·exact h)
    refine ⟨k+1,by simpa using h1,by simpa using h2,fun j hj=>?_⟩
    cases j with
    | zero=>simpa using e
    | succ j=>simpa using h3 j (by omega)
theorem foldl_max:∀ (zs:List Nat) (a:Nat),∃ m:Nat,(zs.map (fun x:Nat=>(x:Int))).foldl max (a:Int)=(m:Int)∧a≤m∧(∀ x∈zs,x≤m)∧(m=a∨m∈zs)
 | [],a=>⟨a,rfl,Nat.le_refl _,by simp,.inl rfl⟩
 | z::zs,a=>by
   obtain ⟨m,h1,h2,h3,h4⟩:=foldl_max zs (max a z)
   have e:max (a:Int) (z:Int)=((max a z:Nat):Int):=by omega
   refine ⟨m,by rw [List.map_cons,List.foldl_cons,e];exact h1,by omega,fun x hx=>?_,?_⟩
   ·rcases List.mem_cons.1 hx with rfl|hx
    ·omega
    ·exact h3 x hx
   ·rcases h4 with h4|h4
    ·rcases Nat.le_total a z with h|h
     ·exact .inr (by rw [h4,Nat.max_eq_right h];exact List.mem_cons_self)
     ·exact .inl (by rw [h4,Nat.max_eq_left h])
    ·exact .inr (List.mem_cons_of_mem _ h4)
theorem maxOf_nat {l:List Nat} (h:l≠[]):∃ m:Nat,Lib.maxOf (l.map (fun x:Nat=>(x:Int)))=(m:Int)∧(∀ x∈l,x≤m)∧m∈l:=by
 cases l with
 | nil=>exact absurd rfl h
 | cons z zs=>
   obtain ⟨m,h1,h2,h3,h4⟩:=foldl_max (z::zs) z
   exact ⟨m,h1,h3,h4.elim (fun e=>e ▸ List.mem_cons_self) id⟩
theorem idx_facts {l:List Nat} {m:Nat} (hm:m∈l):∃ k,k<l.length∧l.getD k 0=m∧Lib.idxOf (l.map (fun x:Nat=>(x:Int))) (m:Int)=(k:Int):=by
 obtain ⟨k,h1,h2,h3⟩:=first_at hm
 refine ⟨k,h1,h2,?_⟩
 have:=Lib.idxOf_hit (l.map (fun x:Nat=>(x:Int))) l.length k (m:Int) h1 (by simp) (by simp [List.getD,Zg h1] at h2 ⊢;omega) (fun j hj=>by
  have h4:=h3 j hj
  have hj1:j<l.length:=by omega
  simp [List.getD,Zg hj1] at h4 ⊢;omega)
 rw [List.take_of_length_le (by simp)] at this
 exact this
structure ShareOk (counts sh:List Nat):Prop where
 sum:sumL sh=64
 len:sh.length≤counts.length
 last:0<sh.getD (sh.length-1) 0
 has:∀ i,0<counts.getD i 0→0<sh.getD i 0
structure Sh2 (counts:List Nat) (k:Nat) (out:List Nat):Prop where
 len:out.length≤k
 last:out=[]∨0<out.getD (out.length-1) 0
 has:∀ i,i<k→0<counts.getD i 0→0<out.getD i 0
 most:∀ x∈out,x≤64
 nzs:nz out≤nz (counts.take k)
theorem Sh2.sum_le {counts out:List Nat} {k:Nat} (h:Sh2 counts k out):sumL out≤64*k:=by
 have h1:=sum_le_nz h.most
 have h2:=nz_le out
 have h3:=h.len
 have h4:64*nz out≤64*k:=Nat.mul_le_mul_left _ (by omega)
 omega
theorem Sh2.skip {counts out:List Nat} {k:Nat} (h:Sh2 counts k out) (hx:counts[k]? = some 0):Sh2 counts (k+1) out:=by
 refine ⟨by have:=h.len;omega,h.last,fun i hi hc=>?_,h.most,by rw [nz_step hx];have:=h.nzs;simpa using this⟩
 by_cases e:i=k
 ·subst e;simp [List.getD,hx] at hc
 ·exact h.has i (by omega) hc
theorem pad_eq {out:List Nat} {k x:Nat} (h:out.length≤k):(out++List.replicate (k-out.length+1) 0).set k x=out++(List.replicate (k-out.length) 0++[x]):=by
 rw [List.set_append_right _ _ h,List.replicate_succ',List.set_append_right _ _ (by simp)]
 simp
theorem sumL_zeros:∀ n:Nat,sumL (List.replicate n 0)=0
 | 0=>rfl
 | n+1=>by rw [List.replicate_succ,sumL,sumL_zeros n]
theorem nz_zeros:∀ n:Nat,nz (List.replicate n 0)=0
 | 0=>rfl
 | n+1=>by rw [List.replicate_succ,nz,nz_zeros n];rfl
theorem Sh2.put {counts out:List Nat} {k c x:Nat} (h:Sh2 counts k out) (hc:counts[k]? = some c) (h0:0<c) (hx:0<x) (hx2:x≤64):
 Sh2 counts (k+1) (out++(List.replicate (k-out.length) 0++[x]))∧sumL (out++(List.replicate (k-out.length) 0++[x]))=sumL out+x:=by
 have hl:=h.len
 have hlen:(out++(List.replicate (k-out.length) 0++[x])).length=k+1:=by simp;omega
 constructor
 ·refine ⟨by omega,.inr ?_,fun i hi hci=>?_,fun y hy=>?_,?_⟩
  ·rw [hlen]
   simp only [List.getD,Nat.add_sub_cancel]
   rw [List.getElem?_append_right hl,List.getElem?_append_right (by simp),List.length_replicate,Nat.sub_self]
   simpa using hx
  ·simp only [List.getD]
   by_cases e:i=k
   ·subst e
    rw [List.getElem?_append_right hl,List.getElem?_append_right (by simp),List.length_replicate,Nat.sub_self]
    simpa using hx
   ·have h1:=h.has i (by omega) hci
    have h2:i<out.length:=by
     rcases Nat.lt_or_ge i out.length with h'|h'
     ·exact h'
     ·simp [List.getD,List.getElem?_eq_none h'] at h1
    rw [List.getElem?_append_left h2]
    exact h1
  ·rcases List.mem_append.1 hy with hy|hy
   ·exact h.most y hy
   ·rcases List.mem_append.1 hy with hy|hy
    ·have:=(List.mem_replicate.1 hy).2;omega
    ·have:y=x:=by simpa using hy
     omega
  ·rw [nz_step hc,if_pos h0,nz_append,nz_append,nz_zeros]
   have:=h.nzs
   simp only [nz,if_pos hx]
   omega
 ·rw [sumL_append,sumL_append,sumL_zeros];simp [sumL]
structure Sh3 (counts out:List Nat):Prop where
 ne:out≠[]
 len:out.length≤counts.length
 last:0<out.getD (out.length-1) 0
 has:∀ i,0<counts.getD i 0→0<out.getD i 0
 nzs:nz out≤32
theorem Sh3.of {counts out:List Nat} (h:Sh2 counts counts.length out) (h0:0<nz counts) (h32:nz counts≤32):Sh3 counts out:=by
 have hne:out≠[]:=by
  rintro rfl
  obtain ⟨i,hi⟩:∃ i,0<counts.getD i 0:=by
   clear h h32
   induction counts with
   | nil=>simp [nz] at h0
   | cons c r ih=>
     by_cases hc:0<c
     ·exact ⟨0,by simpa using hc⟩
     ·simp only [nz,if_neg hc,Nat.zero_add] at h0
      obtain ⟨i,hi⟩:=ih h0
      exact ⟨i+1,by simpa using hi⟩
  have hlt:i<counts.length:=by
   rcases Nat.lt_or_ge i counts.length with h'|h'
   ·exact h'
   ·simp [List.getD,List.getElem?_eq_none h'] at hi
  have:=h.has i hlt hi
  simp at this
 refine ⟨hne,h.len,h.last.resolve_left hne,fun i hi=>h.has i ?_ hi,by have:=h.nzs;rw [List.take_of_length_le nL] at this;omega⟩
 rcases Nat.lt_or_ge i counts.length with h'|h'
 ·exact h'
 ·simp [List.getD,List.getElem?_eq_none h'] at hi
theorem getD_set (l:List Nat) (k i x:Nat):(l.set k x).getD i 0=if i=k∧k<l.length then x else l.getD i 0:=by
 simp only [List.getD,List.getElem?_set]
 by_cases e:k=i
 ·subst e
  by_cases hl:k<l.length
  ·simp [hl]
  ·simp [hl]
 ·have:¬(i=k∧k<l.length):=fun h=>e h.1.symm
  rw [if_neg e,if_neg this]
theorem Sh3.set {counts out:List Nat} {k x:Nat} (h:Sh3 counts out) (hk:k<out.length) (h0:0<out.getD k 0) (hx:0<x):Sh3 counts (out.set k x):=by
 refine ⟨by intro e;have:=congrArg List.length e;rw [List.length_set,List.length_nil] at this;omega,by simpa using h.len,?_,fun i hi=>?_,Nat.le_trans (nz_set out k x hk h0) h.nzs⟩
 ·rw [getD_set,List.length_set]
  split
  ·exact hx
  ·exact h.last
 ·rw [getD_set]
  split
  ·exact hx
  ·exact h.has i hi
theorem Sh3.max_pos {counts out:List Nat} (h:Sh3 counts out) {m:Nat} (hm:∀ x∈out,x≤m):0<m:=by
 have h1:=h.last
 have h2:out.length-1<out.length:=by
  have:=List.length_pos_iff.2 h.ne
  omega
 have:=hm _ (getD_mem' h2)
 omega
theorem Sh3.max_two {counts out:List Nat} (h:Sh3 counts out) {m:Nat} (hm:∀ x∈out,x≤m) (hs:64<sumL out):2≤m:=by
 have h1:=sum_le_nz hm
 have h2:=h.nzs
 have h3:m*nz out≤m*32:=Nat.mul_le_mul_left _ h2
 omega
theorem m_gen (P:Program) (name:String) (f:FuncId) (fuel:Nat) (t e:TypeId) (a:Addr) (w:World)
 (hf:((P.info? t).bind (fun i=>i.methods.find? (·.name==name))).map (fun m=>(m.path,m.func))=some (#[],some (f,false))) (hu:P.underlying t=some (.pointer e)):
 (method (fuel+1) t (.pointer (some a)) name).run P w=((loadVar e a).run P w).andThen (fun v w'=>.ok (f,v) w'):=by
 obtain ⟨m,hm,hmm⟩:=Option.map_eq_some_iff.1 hf
 obtain ⟨i,hi,hm2⟩:=Option.bind_eq_some_iff.1 hm
 simp only [Prod.mk.injEq] at hmm
 have hwn:∀ s1 s2:String,Builtin.ssaWrapNilChk_ #[t] t #[.pointer (some a),strVal s1,strVal s2]=pure (.pointer (some a)):=fun _ _=>rfl
 unfold method
 simp [typeInfo,hi,hm2,hmm.1,hmm.2,follow,receiverAt,run_underlying hu,Place.get,hwn,asAddr]
theorem load_things {hb n c:Nat} {A:OA} {w:World} (h:w.cell? ⟨hb,0,none⟩=some (.slice A n c)):(loadVar 281 ⟨hb,0,none⟩).run Tryz.prog w=.ok (.slice A n c) w:=by
 simp [loadVar,h,go_sem]
theorem m_Len {hb n c : Nat} {A : OA} {w : World} (h : w.cell? ⟨hb, 0, none⟩ = some (.slice A n c)) : (method 411 285 (.pointer (some ⟨hb, 0, none⟩)) "Len").run Tryz.prog w = .ok (215, .slice A n c) w := by
 rw [m_gen _ _ 215 _ _ 281 _ _ (by kernel_rfl) (by kernel_rfl),load_things h];rfl
theorem m_Less {hb n c : Nat} {A : OA} {w : World} (h : w.cell? ⟨hb, 0, none⟩ = some (.slice A n c)) : (method 411 285 (.pointer (some ⟨hb, 0, none⟩)) "Less").run Tryz.prog w = .ok (216, .slice A n c) w := by
 rw [m_gen _ _ 216 _ _ 281 _ _ (by kernel_rfl) (by kernel_rfl),load_things h];rfl
theorem m_Swap {hb n c : Nat} {A : OA} {w : World} (h : w.cell? ⟨hb, 0, none⟩ = some (.slice A n c)) : (method 411 285 (.pointer (some ⟨hb, 0, none⟩)) "Swap").run Tryz.prog w = .ok (217, .slice A n c) w := by
 rw [m_gen _ _ 217 _ _ 281 _ _ (by kernel_rfl) (by kernel_rfl),load_things h];rfl
theorem m_Pop (a : Addr) (w : World) : (method 411 285 (.pointer (some a)) "Pop").run Tryz.prog w = .ok (218, .pointer (some a)) w := by kernel_rfl
theorem m_Push (a : Addr) (w : World) : (method 411 285 (.pointer (some a)) "Push").run Tryz.prog w = .ok (219, .pointer (some a)) w := by kernel_rfl
structure Th where
 wt:Nat
 num:Nat
 pa:OA
 pn:Nat
 pc:Nat
 ps:List Nat
 ht:Nat
def thC (x:Th):List Value:=[natv x.wt,natv x.num,.slice x.pa x.pn x.pc]
def flatT (l:List Th):List Value:=l.flatMap thC
theorem flatT_len:∀ l:List Th,(flatT l).length=3*l.length
 | []=>rfl
 | x::r=>by
   have:=flatT_len r
   show (thC x++flatT r).length=_
   rw [Zl,this,List.length_cons];simp [thC];omega
theorem flatT_at:∀ (l:List Th) (k:Nat) (x:Th),l[k]? = some x→(flatT l)[3*k]? = some (natv x.wt)∧(flatT l)[3*k+1]? = some (natv x.num)∧(flatT l)[3*k+2]? = some (.slice x.pa x.pn x.pc)
 | [],_,_,h=>by simp at h
 | y::r,0,x,h=>by
   obtain rfl:y=x:=by simpa using h
   exact ⟨rfl,rfl,rfl⟩
 | y::r,k+1,x,h=>by
   have:=flatT_at r k x (by simpa using h)
   have e:∀ j,(flatT (y::r))[j+3]? = (flatT r)[j]? := fun j=>rfl
   rw [show 3*(k+1)=3*k+3 by omega,show 3*k+3+1=3*k+1+3 by omega,show 3*k+3+2=3*k+2+3 by omega,e,e,e]
   exact this
theorem flatT_set:∀ (l:List Th) (k:Nat) (x:Th),k<l.length→(((flatT l).set (3*k) (natv x.wt)).set (3*k+1) (natv x.num)).set (3*k+2) (.slice x.pa x.pn x.pc)=flatT (l.set k x)
 | [],_,_,h=>by simp at h
 | y::r,0,x,_=>rfl
 | y::r,k+1,x,h=>by
   have:=flatT_set r k x (by simpa using h)
   show (((flatT (y::r)).set (3*k+1+1+1) _).set (3*k+1+1+1+1) _).set (3*k+1+1+1+1+1) _=flatT (y::r.set k x)
   show natv y.wt::natv y.num::.slice y.pa y.pn y.pc::(((flatT r).set (3*k) _).set (3*k+1) _).set (3*k+2) _=natv y.wt::natv y.num::.slice y.pa y.pn y.pc::flatT (r.set k x)
   rw [this]
def OwnT (w:World) (base:Nat) (A:OA) (n c:Nat) (l:List Th):Prop:=w.ownsRow base 283 3 (.slice A n c) n (flatT l)
theorem OwnT.nil (w:World) (base:Nat):OwnT w base none 0 0 []:=World.ownsRow_nil w base _ 3
theorem OwnT.length {w:World} {base n c:Nat} {A:OA} {l:List Th} (h:OwnT w base A n c l):l.length=n:=by
 have h1:=h.1
 rw [flatT_len] at h1
 omega
theorem OwnT.lt {w:World} {base n c:Nat} {A:OA} {l:List Th} (h:OwnT w base A n c l) {k:Nat} (hk:bk A=some k):base≤k∧k<w.heap.size:=by
 rcases h.2 with ⟨hv,-⟩|⟨g,cap,cur,hv,h1,h2,-⟩
 ·simp only [Value.slice.injEq] at hv
  rw [hv.1] at hk;cases hk
 ·simp only [Value.slice.injEq] at hv
  rw [hv.1] at hk
  cases hk
  exact ⟨h1,(Array.getElem?_eq_some_iff.1 h2).1⟩
theorem OwnT.kept {w w':World} {row:Option Nat} {base n c:Nat} {A:OA} {l:List Th} (h:OwnT w base A n c l) (hg:w.grownBy w' row) (hne:bk A=none∨bk A≠row):OwnT w' base A n c l:=
 World.ownsRow.kept h hg (by rw [ownBlock_eq];exact hne)
theorem OwnT.later {w w':World} {base n c:Nat} {A:OA} {l:List Th} (h:OwnT w base A n c l) (hb:Below w.heap.size w w'):OwnT w' base A n c l:=by
 refine h.kept (grown_of_below hb) ?_
 cases A<;>simp [bk]
theorem OwnT.ne_blk {w:World} {base n c g:Nat} {t:TypeId} {A:OA} {l:List Th} {cs:Array Value} (h:OwnT w base A n c l) (hg:Blk w g t cs) (hne:283≠t):bk A≠some g:=by
 rcases h.2 with ⟨hv,_⟩|⟨g',cap,cur,hv,_,hh,_⟩
 ·simp only [Value.slice.injEq] at hv
  rw [hv.1];simp [bk]
 ·simp only [Value.slice.injEq] at hv
  rw [hv.1]
  intro he
  have:g'=g:=by simpa [bk] using he
  subst this
  unfold Blk at hg
  rw [hh] at hg
  injection hg with hg
  injection hg with _ ht
  exact hne ht
theorem OwnT.ne_own {w:World} {base n c base' n' c':Nat} {e':TypeId} {A A':OA} {l:List Th} {xs':List Value} (h:OwnT w base A n c l) (h':Own w base' e' A' n' c' xs') (hne:283≠e'):bk A=none∨bk A≠bk A':=by
 rcases h'.2 with ⟨hv,_⟩|⟨g',cap,cur,hv,_,hh,_⟩
 ·simp only [Value.slice.injEq] at hv
  rw [hv.1]
  cases A
  ·exact .inl rfl
  ·exact .inr (by simp [bk])
 ·simp only [Value.slice.injEq] at hv
  rw [hv.1]
  exact .inr (h.ne_blk (g:=g') (t:=e') (cs:=cur) hh hne)
theorem OwnT.at_ {w:World} {base n c:Nat} {A:OA} {l:List Th} (h:OwnT w base A n c l) {k:Nat} (hk:k<n):
 ∃ g x,A=some ⟨g,0,none⟩∧base≤g∧g<w.heap.size∧l[k]? = some x∧w.cell? ⟨g,k*3,none⟩=some (.int .i64 (x.wt:Int))∧w.cell? ⟨g,k*3+1,none⟩=some (.int .i64 (x.num:Int))∧w.cell? ⟨g,k*3+2,none⟩=some (.slice x.pa x.pn x.pc)∧∀ j,w.frozen? ⟨g,j,none⟩=false:=by
 have hl:=h.length
 have hfl:=flatT_len l
 obtain ⟨h1,h2,h3⟩:=flatT_at l k l[k] (Zg (by omega))
 rcases h.2 with ⟨hv,h0⟩|⟨g,cap,cur,hv,hb,hh,hr⟩
 ·omega
 ·have hv':=hv
  simp only [Value.slice.injEq] at hv
  obtain ⟨rfl,-,rfl⟩:=hv
  have hcell:∀ j,j<3*l.length→w.cell? ⟨g,j,none⟩=(flatT l)[j]? := fun j hj=>World.ownsRow.cellAt h j (by omega)
  refine ⟨g,l[k],rfl,hb,(Array.getElem?_eq_some_iff.1 hh).1,Zg (by omega),?_,?_,?_,fun j=>?_⟩
  ·rw [show k*3=3*k by omega,hcell _ (by omega),h1];rfl
  ·rw [show k*3+1=3*k+1 by omega,hcell _ (by omega),h2];rfl
  ·rw [show k*3+2=3*k+2 by omega,hcell _ (by omega),h3]
  ·exact World.ownsRow.frozenAt h j
theorem OwnT.set {w:World} {base n c g:Nat} {l:List Th} (h:OwnT w base (some ⟨g,0,none⟩) n c l) {k:Nat} (hk:k<n) (x:Th):
 OwnT (((w.setCell ⟨g,k*3,none⟩ (.int .i64 (x.wt:Int))).setCell ⟨g,k*3+1,none⟩ (.int .i64 (x.num:Int))).setCell ⟨g,k*3+2,none⟩ (.slice x.pa x.pn x.pc)) base (some ⟨g,0,none⟩) n c (l.set k x):=by
 have h1:=(World.ownsRow.stored h (k*3) (natv x.wt)).1
 have h2:=(World.ownsRow.stored h1 (k*3+1) (natv x.num)).1
 have h3:=(World.ownsRow.stored h2 (k*3+2) (.slice x.pa x.pn x.pc)).1
 unfold OwnT
 rw [←flatT_set l k x (by rw [h.length];exact hk),show 3*k=k*3 by omega]
 exact h3
theorem thLen (A:OA) (n c:Nat) (w:World):Calls Tryz.prog 215 #[.slice A n c] w fun e w'=>e=.returned (.int .i64 (n:Int))∧w'=w:=by
 go_enter Tryz.func215,Tryz.ntmps215
 go_wp2
 go_ret
 exact ⟨rfl,rfl⟩
def lessT (x y:Th):Bool:=decide (x.wt<y.wt)||(decide (x.wt=y.wt)&&decide (x.num<y.num))
theorem thLessI (g n c i k:Nat) (X Y XN YN:Int) (w:World) (hi:i<n) (hk:k<n) (a0:w.cell? ⟨g,i*3,none⟩=some (.int .i64 X)) (a1:w.cell? ⟨g,i*3+1,none⟩=some (.int .i64 XN)) (b0:w.cell? ⟨g,k*3,none⟩=some (.int .i64 Y)) (b1:w.cell? ⟨g,k*3+1,none⟩=some (.int .i64 YN)) (h:¬X<Y) (hne:(X==Y)=false):
 Calls Tryz.prog 216 #[.slice (some ⟨g,0,none⟩) n c,.int .i64 (i:Int),.int .i64 (k:Int)] w fun e w'=>e=.returned (.bool false)∧∃ q,w'=w.drewN q:=by
 have i1:(0:Int)≤(i:Int):=by omega
 have i2:(i:Int)<(n:Int):=by omega
 have k1:(0:Int)≤(k:Int):=by omega
 have k2:(k:Int)<(n:Int):=by omega
 have g1:decide (X<Y)=false:=qF h
 clear h
 go_enter Tryz.func216,Tryz.ntmps216
 go_wp2
 go_quiet (fail)
 go_wp2
 go_ret
 exact ⟨by rfl,_,rfl⟩
theorem thLess (base:Nat) (A:OA) (n c:Nat) (l:List Th) (i k:Nat) (x y:Th) (w:World) (h:OwnT w base A n c l) (hx:l[i]? = some x) (hy:l[k]? = some y):
 Calls Tryz.prog 216 #[.slice A n c,.int .i64 (i:Int),.int .i64 (k:Int)] w fun e w'=>e=.returned (.bool (lessT x y))∧∃ q,w'=w.drewN q:=by
 have hl:=h.length
 have hi:i<n:=by rw [←hl];exact (Ze hx).1
 have hk:k<n:=by rw [←hl];exact (Ze hy).1
 obtain ⟨g,x',rfl,-,-,hx',a0,a1,-,-⟩:=h.at_ hi
 obtain ⟨g',y',hg',-,-,hy',b0,b1,-,-⟩:=h.at_ hk
 cases hg'
 rw [hx] at hx';cases hx'
 rw [hy] at hy';cases hy'
 obtain ⟨xw,xn,xa,xpn,xpc,xps,xht⟩:=x
 obtain ⟨yw,yn,ya,ypn,ypc,yps,yht⟩:=y
 simp only at a0 a1 b0 b1
 have i1:(0:Int)≤(i:Int):=by omega
 have i2:(i:Int)<(n:Int):=by omega
 have k1:(0:Int)≤(k:Int):=by omega
 have k2:(k:Int)<(n:Int):=by omega
 clear h hx hy hl
 by_cases h1:xw<yw
 ·have g1:decide ((xw:Int)<(yw:Int))=true:=qT (by omega)
  have HL:=Lh (show lessT ⟨xw,xn,xa,xpn,xpc,xps,xht⟩ ⟨yw,yn,ya,ypn,ypc,yps,yht⟩=true by unfold lessT;simp [h1])
  rw [HL.out]
  go_enter Tryz.func216,Tryz.ntmps216
  go_wp2
  go_quiet (fail)
  go_wp2
  go_ret
  exact ⟨by rfl,_,rfl⟩
 ·by_cases h2:xw=yw
  ·subst h2
   have HL:=Lh (show lessT ⟨xw,xn,xa,xpn,xpc,xps,xht⟩ ⟨xw,yn,ya,ypn,ypc,yps,yht⟩=decide (xn<yn) by unfold lessT;simp)
   rw [HL.out]
   clear h1
   go_enter Tryz.func216,Tryz.ntmps216
   go_wp2
   go_quiet (fail)
   go_wp2
   go_ret
   exact ⟨by rfl,_,rfl⟩
  ·rw [show lessT ⟨xw,xn,xa,xpn,xpc,xps,xht⟩ ⟨yw,yn,ya,ypn,ypc,yps,yht⟩=false by unfold lessT;simp [h1,h2]]
   exact thLessI g n c i k _ _ _ _ w hi hk a0 a1 b0 b1 (by omega) (bF (by omega))
theorem grown6 (w:World) (g a b c d e f:Nat) (u1 u2 u3 u4 u5 u6:Value):w.grownBy ((((((w.setCell ⟨g,a,none⟩ u1).setCell ⟨g,b,none⟩ u2).setCell ⟨g,c,none⟩ u3).setCell ⟨g,d,none⟩ u4).setCell ⟨g,e,none⟩ u5).setCell ⟨g,f,none⟩ u6).drew (bk (some ⟨g,0,none⟩)):=
 grown_trans (grown_trans (grown_trans (grown_trans (grown_trans (grown_trans (grown_set w ⟨g,a,none⟩ u1) (grown_set _ ⟨g,b,none⟩ u2)) (grown_set _ ⟨g,c,none⟩ u3)) (grown_set _ ⟨g,d,none⟩ u4)) (grown_set _ ⟨g,e,none⟩ u5)) (grown_set _ ⟨g,f,none⟩ u6)) (grown_below (Below.refl _ _).drew)
theorem thSwap (base:Nat) (A:OA) (n c:Nat) (l:List Th) (i k:Nat) (x y:Th) (w:World) (h:OwnT w base A n c l) (hx:l[i]? = some x) (hy:l[k]? = some y) (hik:i≠k):
 Calls Tryz.prog 217 #[.slice A n c,.int .i64 (i:Int),.int .i64 (k:Int)] w fun e w'=>(∃ v,e=.returned v)∧OwnT w' base A n c ((l.set i y).set k x)∧w.grownBy w' (bk A):=by
 have hl:=h.length
 have hi:i<n:=by rw [←hl];exact (Ze hx).1
 have hk:k<n:=by rw [←hl];exact (Ze hy).1
 obtain ⟨g,x',rfl,hg1,hg2,hx',a0,a1,a2,f0⟩:=h.at_ hi
 obtain ⟨g',y',hg',-,-,hy',b0,b1,b2,-⟩:=h.at_ hk
 cases hg'
 rw [hx] at hx';cases hx'
 rw [hy] at hy';cases hy'
 obtain ⟨xw,xn,xa,xpn,xpc,xps,xht⟩:=x
 obtain ⟨yw,yn,ya,ypn,ypc,yps,yht⟩:=y
 simp only at a0 a1 a2 b0 b1 b2
 have i1:(0:Int)≤(i:Int):=by omega
 have i2:(i:Int)<(n:Int):=by omega
 have k1:(0:Int)≤(k:Int):=by omega
 have k2:(k:Int)<(n:Int):=by omega
 have h3:=h.set hi ⟨yw,yn,ya,ypn,ypc,yps,yht⟩
 obtain ⟨g',y',hg',-,-,hy',d0,d1,d2,df⟩:=h3.at_ hk
 cases hg'
 rw [List.getElem?_set,if_neg hik,hy] at hy'
 cases hy'
 have h4:=h3.set hk ⟨xw,xn,xa,xpn,xpc,xps,xht⟩
 simp only at d0 d1 d2 h4
 have HO:=Lh h4
 have df0:=df (k*3)
 have df1:=df (k*3+1)
 have df2:=df (k*3+2)
 have ff0:=f0 (i*3)
 have ff1:=f0 (i*3+1)
 have ff2:=f0 (i*3+2)
 clear h hx hy hl h3 h4 df f0
 go_enter Tryz.func217,Tryz.ntmps217
 go_wp2
 go_region
 go_wp2
 go_end0
 exact ⟨⟨_,rfl⟩,HO.out.later ((Below.refl _ _).drew),grown6 _ _ _ _ _ _ _ _ _ _ _ _ _ _⟩
theorem info_thing:(Tryz.prog.info? 283).map (fun i=>(i.zero,i.size,i.bytes))=some (some (.agg #[.int .i64 0,.int .i64 0,.slice none 0 0]),3,40):=by kernel_rfl
theorem flatT_take:∀ (l:List Th) (m:Nat),(flatT l).take (m*3)=flatT (l.take m)
 | [],m=>by simp [flatT]
 | x::r,0=>by simp [flatT]
 | x::r,m+1=>by
   have:=flatT_take r m
   show (natv x.wt::natv x.num::.slice x.pa x.pn x.pc::flatT r).take ((m+1)*3)=thC x++flatT (r.take m)
   rw [show (m+1)*3=m*3+1+1+1 by omega,List.take_succ_cons,List.take_succ_cons,List.take_succ_cons,this]
   rfl
theorem OwnT.pop {w:World} {base m c:Nat} {A:OA} {l:List Th} (h:OwnT w base A (m+1) c l):OwnT w base A m c (l.take m):=by
 have hl:=h.length
 rcases h.2 with ⟨-,h0⟩|⟨g,cap,cur,hv,h1,h2,h3,h4,h5,h6⟩
 ·omega
 ·refine ⟨by rw [flatT_len,List.length_take];omega,.inr ⟨g,cap,cur,?_,h1,h2,by omega,h4,h5,?_⟩⟩
  ·simp only [Value.slice.injEq] at hv ⊢
   exact ⟨hv.1,trivial,hv.2.2⟩
  ·rw [←flatT_take,←h6,List.take_take]
   congr 1;omega
theorem wpList_slice_hiT {w:World} {ops:Array Oper} {rest:List Oper} {o:Oper} {a:Act} {Q:Exit→Act→World→Prop} (hgd:o.guard=none) (s hi:Operand)
 (ho:o.op=.slice 281 s none (some hi) none) (A:OA) (n c k:Nat) (hs:a.eval s=.slice A n c) (hhi:a.eval hi=.int .i64 (k:Int)) (hk:k≤c)
 (h:wpList Tryz.prog ops Q rest (a.put o.dst (.slice A k c)) w):wpList Tryz.prog ops Q (o::rest) a w:=by
 refine wpList_plain hgd fun K hK=>?_
 obtain ⟨i,hi',-,h1,-⟩:=info_parts info_thing
 have he:Tryz.prog.elem 281=283:=by kernel_rfl
 have hrun:(Instr.sliceAt 281 (.slice A n c) none (some (.int .i64 (k:Int))) none).run Tryz.prog w=.ok (.slice A k c) w:=by
  have ht':Tryz.prog.underlying 281=some (.slice (Tryz.prog.elem 281)):=by kernel_rfl
  rw [run_sliceAt_slice w 281 _ _ _ _ ht',run_slice_h w 281 A n c ht' .i64 (k:Int) (by omega) (by omega),he]
  simp [sizeOf,typeInfo,hi',h1,sliced,Result.andThen]
  cases A<;>simp [Addr.add]
 unfold Oper.wp execOp
 simp only [ho,hs,hhi,hrun,Option.map_some,Option.map_none,Sem.run_bind,Sem.run_pure,Result.andThen_ok]
 exact hK _ _ h
theorem run_append_th (w0:World) (ty:TypeId) (base:Nat) (A:OA) (n c:Nat) (l:List Th) (u:Th) (hown:OwnT w0 base A n c l) (hb:n≤1000000000) (hbase:base≤w0.heap.size):
 ∃ A' c' w',(Builtin.append_ #[281,281] ty #[.slice A n c,.slice (some ⟨w0.heap.size,0,none⟩) 1 1]).run Tryz.prog (w0.alloc (.cells #[natv u.wt,natv u.num,.slice u.pa u.pn u.pc] 283))=.ok (.slice A' (n+1) c') w' ∧
   OwnT w' base A' (n+1) c' (l++[u])∧w0.grownBy w' (bk A)∧NewTo w0 A A':=by
 obtain ⟨i,hi,hz0,hz1,hz2⟩:=info_parts info_thing
 have hg0:w0.grownBy (w0.alloc (.cells #[natv u.wt,natv u.num,.slice u.pa u.pn u.pc] 283)) none:=World.grownBy_alloc w0 _ none
 have hnews:∀ j v,(thC u)[j]? = some v→(w0.alloc (.cells #[natv u.wt,natv u.num,.slice u.pa u.pn u.pc] 283)).cell? ((⟨w0.heap.size,0,none⟩:Addr).add j)=some v:=by
  intro j v hv
  rw [add_none,Nat.zero_add,World.cell?_alloc_at _ _ _ _ rfl]
  simpa [thC] using hv
 obtain ⟨v',w',hrun,h2,h3,h4,h5⟩:=run_append_own_at (P:=Tryz.prog) (w0.alloc (.cells #[natv u.wt,natv u.num,.slice u.pa u.pn u.pc] 283)) base 281 ty 283 i _ 3 40 (by kernel_rfl) hi hz0 hz1 hz2 rfl (by omega) (.slice A n c) n (flatT l) (hown.later ((Below.refl _ _).alloc nL _)) ⟨w0.heap.size,0,none⟩ 1 1 (thC u) rfl hnews
  (by intro v hv;simp only [thC,List.mem_cons,List.not_mem_nil,or_false] at hv;rcases hv with rfl|rfl|rfl<;>rfl) (by unfold maxLen;omega) (by omega) (by simp;omega)
 have hform:∃ A' c',v'=.slice A' (n+1) c':=by
  rcases h2.2 with ⟨rfl,h0⟩|⟨g,cap,cur,rfl,-⟩
  ·exact ⟨none,0,by rw [h0]⟩
  ·exact ⟨_,cap,rfl⟩
 obtain ⟨A',c',rfl⟩:=hform
 rw [ownBlock_eq] at h3 h5
 rw [ownBlock_eq] at h5
 have e:flatT l++thC u=flatT (l++[u]):=by simp [flatT]
 rw [e] at h2
 refine ⟨A',c',w',hrun,h2,⟨h3.os,h3.tape,h3.output,Nat.le_trans hg0.size h3.size,fun k hk hne=>(h3.block k (by simp;omega) hne).trans (hg0.block k hk (by simp))⟩,?_⟩
 rcases h5 with h5|h5
 ·exact .inl h5
 ·exact .inr ⟨_,h5,by simp⟩
theorem step_append_th {w0:World} {ops:Array Oper} {o:Oper} {a:Act} {K:Act→World→Prop} {Q:Exit→Act→World→Prop} {E':Prop} (hgd:o.guard=none) (s x:Operand)
 (ho:o.op=.call { callee:=.builtin .append,args:=#[s,x],argTypes:=#[281,281] })
 (base:Nat) (A:OA) (n c:Nat) (l:List Th) (u:Th) (hs:a.eval s=.slice A n c) (hown:OwnT w0 base A n c l) (hx:a.eval x=.slice (some ⟨w0.heap.size,0,none⟩) 1 1) (hb:n≤1000000000) (hbase:base≤w0.heap.size)
 (h:∀ A' c' w',OwnT w' base A' (n+1) c' (l++[u])→w0.grownBy w' (bk A)→NewTo w0 A A'→K (a.put o.dst (.slice A' (n+1) c')) w'):
 if Region.wanted o (yielded ops a.tmps)=true then Oper.wp Tryz.prog o a (w0.alloc (.cells #[natv u.wt,natv u.num,.slice u.pa u.pn u.pc] 283)) K Q else E':=by
 have hw:Region.wanted o (yielded ops a.tmps)=true:=by simp [Region.wanted,hgd]
 rw [if_pos hw]
 obtain ⟨A',c',w',hrun,h2,h3,h4⟩:=run_append_th w0 o.type base A n c l u hown hb hbase
 unfold Oper.wp execOp
 simp only [ho,resolve,invoke,builtin,Sem.run_bind,Sem.run_pure,Result.andThen_ok,List.map_toArray,List.map_cons,List.map_nil,hs,hx,hrun]
 exact h A' c' w' h2 h3 h4
theorem wpList_append_th {w w0:World} {ops:Array Oper} {rest:List Oper} {o:Oper} {a:Act} {Q:Exit→Act→World→Prop} (hgd:o.guard=none) (s x:Operand)
 (ho:o.op=.call { callee:=.builtin .append,args:=#[s,x],argTypes:=#[281,281] })
 (base:Nat) (A:OA) (n c:Nat) (l:List Th) (u:Th) (hw:w=w0.alloc (.cells #[natv u.wt,natv u.num,.slice u.pa u.pn u.pc] 283)) (hs:a.eval s=.slice A n c) (hown:OwnT w0 base A n c l) (hx:a.eval x=.slice (some ⟨w0.heap.size,0,none⟩) 1 1) (hb:n≤1000000000) (hbase:base≤w0.heap.size)
 (h:∀ A' c' w',OwnT w' base A' (n+1) c' (l++[u])→w0.grownBy w' (bk A)→NewTo w0 A A'→wpList Tryz.prog ops Q rest (a.put o.dst (.slice A' (n+1) c')) w'):wpList Tryz.prog ops Q (o::rest) a w:=by
 subst hw
 refine wpList_plain hgd fun K hK=>?_
 obtain ⟨A',c',w',hrun,h2,h3,h4⟩:=run_append_th w0 o.type base A n c l u hown hb hbase
 unfold Oper.wp execOp
 simp only [ho,resolve,invoke,builtin,Sem.run_bind,Sem.run_pure,Result.andThen_ok,List.map_toArray,List.map_cons,List.map_nil,hs,hx,hrun]
 exact hK _ _ (h A' c' w' h2 h3 h4)
structure HeapR (w:World) (B hb:Nat) (A:OA) (n c:Nat) (l:List Th):Prop where
 box:Blk w hb 281 #[.slice A n c]
 row:OwnT w B A n c l
def thV (x:Th):Value:=.iface 283 (.agg #[natv x.wt,natv x.num,.slice x.pa x.pn x.pc])
theorem HeapR.cell {w:World} {B hb n c:Nat} {A:OA} {l:List Th} (h:HeapR w B hb A n c l):w.cell? ⟨hb,0,none⟩=some (.slice A n c):=by
 have:=h.box.cell 0
 simpa only [Zt,Zz] using this
theorem HeapR.later {w w':World} {B hb n c:Nat} {A:OA} {l:List Th} (h:HeapR w B hb A n c l) (hb':Below w.heap.size w w'):HeapR w' B hb A n c l:=⟨h.box.later hb',h.row.later hb'⟩
theorem HeapR.ne {w:World} {B hb n c:Nat} {A:OA} {l:List Th} (h:HeapR w B hb A n c l):bk A≠some hb:=h.row.ne_blk h.box (by decide)
theorem thPop (B hb:Nat) (A:OA) (m c:Nat) (l:List Th) (x:Th) (w:World) (h:HeapR w B hb A (m+1) c l) (hx:l[m]? = some x) (hm:m≤1000000000) (hc:m+1≤c):
 Calls Tryz.prog 218 #[.pointer (some ⟨hb,0,none⟩)] w fun e w'=>e=.returned (thV x)∧HeapR w' B hb A m c (l.take m)∧Two hb A w w':=by
 obtain ⟨g,x',hA,hg1,hg2,hx',a0,a1,a2,-⟩:=h.row.at_ (k:=m) (by omega)
 rw [hx] at hx';cases hx'
 have hbx:=h.cell
 have hfx:=h.box.frozen 0
 have HH:=Lh h
 obtain ⟨xw,xn,xa,xpn,xpc,xps,xht⟩:=x
 simp only at a0 a1 a2
 have i1:(0:Int)≤(m:Int):=by omega
 have i2:(m:Int)<((m+1:Nat):Int):=by omega
 have e1:IntKind.i64.wrap (((m+1:Nat):Int)-1)=(m:Int):=by rw [wrapi64 (by omega) (by omega)];omega
 have hbl:=h.box.lt
 have hba:=(Below.refl w.heap.size w).alloc nL (.cells #[.int .i64 (xw:Int),.int .i64 (xn:Int),.slice xa xpn xpc] 283)
 have hbx1:=(hba.cell (p:=⟨hb,0,none⟩) hbl).trans hbx
 have hfx1:=(h.box.later hba).frozen 0
 have hn:w.heap.size≠hb:=by omega
 have n0:=World.new_ne w _ hbx
 have k0:=Blk.new w 283 #[.int .i64 (xw:Int),.int .i64 (xn:Int),.slice xa xpn xpc]
 have k1:=(k0.kept (grown_set _ ⟨hb,0,none⟩ (.slice A m c)) (by simp;omega))
 have d0:=k1.cell 0
 have d1:=k1.cell 1
 have d2:=k1.cell 2
 simp only [Zt,Zz,Zs] at d0 d1 d2
 have hgs:=grown_set w ⟨hb,0,none⟩ (.slice A m c)
 have HBox:=Lh (h.box.set 0 (.slice A m c))
 have HRow:=Lh (h.row.pop.kept hgs (.inr h.ne))
 have HTw:=Lh ((Two.refl hb A w).set_g (i:=0) (.slice A m c))
 clear h hx hba k0 k1 hgs
 subst hA
 go_enter Tryz.func218,Tryz.ntmps218
 go_wp2_with (with_reducible refine wpList_slice_hiT ?g ?s ?h ?ho (some ⟨g,0,none⟩) (m+1) c m ?hs ?hh ?hk ?_;(case ho=>exact rfl);(case g=>exact rfl);(case hs=>simp [Act.eval]);(case hh=>simp [Act.eval]);(case hk=>omega))
 go_ret
 have hal:=(Below.refl (w.setCell ⟨hb,0,none⟩ (.slice (some ⟨g,0,none⟩) m c)).heap.size (w.setCell ⟨hb,0,none⟩ (.slice (some ⟨g,0,none⟩) m c))).alloc nL (.cells #[.int .i64 (xw:Int),.int .i64 (xn:Int),.slice xa xpn xpc] 283)
 exact ⟨rfl,⟨HBox.out.later hal,HRow.out.later hal⟩,HTw.out.trans (.of_below hal)⟩
theorem assert_thing (v:Value) (w:World):(Instr.typeAssert (.iface 283 v) 20 283 false).run Tryz.prog w=.ok v w:=by kernel_rfl
theorem thPush (B hb:Nat) (A:OA) (n c:Nat) (l:List Th) (x:Th) (w:World) (h:HeapR w B hb A n c l) (hn:n≤1000000) (hB:B≤w.heap.size):
 Calls Tryz.prog 219 #[.pointer (some ⟨hb,0,none⟩),thV x] w fun e w'=>(∃ v,e=.returned v)∧(∃ A' c',HeapR w' B hb A' (n+1) c' (l++[x])∧NewTo w A A')∧Two hb A w w':=by
 obtain ⟨xw,xn,xa,xpn,xpc,xps,xht⟩:=x
 have hbx:=h.cell
 have hfx:=h.box.frozen 0
 have HH:=Lh h
 have hbl:=h.box.lt
 have n0:=World.new_ne w _ hbx
 have hba:=(Below.refl w.heap.size w).drew.alloc nL (.cells #[.int .i64 (xw:Int),.int .i64 (xn:Int),.slice xa xpn xpc] 283)
 have HRd:=Lh (show OwnT w.drew B A n c l from h.row.later (Below.refl _ _).drew)
 have KC:=Lh (fun w' (hg:w.drew.grownBy w' (bk A))=>(show w'.cell? ⟨hb,0,none⟩=some (.slice A n c)∧w'.frozen? ⟨hb,0,none⟩=false from by
  have hk:=(h.box.later (Below.refl _ _).drew).kept hg h.ne
  have h1:=hk.cell 0
  simp only [Zt,Zz] at h1
  exact ⟨h1,hk.frozen 0⟩))
 clear h hba
 unfold thV
 have hta:=fun W=>assert_thing (.agg #[natv xw,natv xn,.slice xa xpn xpc]) W
 go_enter Tryz.func219,Tryz.ntmps219
 go_wp2
 go_region_law (first|(refine step_append_th rfl _ _ rfl B A n c l ⟨xw,xn,xa,xpn,xpc,xps,xht⟩ rfl HRd.out rfl (by omega) hB ?_;intro A6 c6 w6 hown6 hgr6 hnt6;have c7:=(KC.out _ hgr6).1;have f7:=(KC.out _ hgr6).2))
 all_goals
  go_wp2
  go_end0
  have hk6:=(HH.out.box.later (Below.refl _ _).drew).kept hgr6 HH.out.ne
  have hb6:=hk6.set 0 (.slice A6 (n+1) c6)
  have hgs:=grown_set w6 ⟨hb,0,none⟩ (.slice A6 (n+1) c6)
  exact ⟨⟨_,rfl⟩,⟨A6,c6,⟨hb6,hown6.kept hgs (.inr (hown6.ne_blk hk6 (by decide)))⟩,hnt6⟩,((Two.of_below (Below.refl _ _).drew:Two hb A w w.drew).grown hgr6 (fun k hk _=>.inr hk)).set_g _⟩
def leT (x y:Th):Prop:=x.wt<y.wt∨(x.wt=y.wt∧x.num≤y.num)
theorem lessT_le {x y:Th}:lessT y x=false↔leT x y:=by
 unfold lessT leT
 simp only [Bool.or_eq_false_iff,Bool.and_eq_false_iff,decide_eq_false_iff_not]
 omega
theorem lessT_lt {x y:Th} (h:lessT x y=true):leT x y:=by
 unfold lessT at h
 unfold leT
 simp only [Bool.or_eq_true,Bool.and_eq_true,decide_eq_true_eq] at h
 omega
theorem leT.trans {x y z:Th} (h:leT x y) (k:leT y z):leT x z:=by unfold leT at *;omega
theorem leT.refl (x:Th):leT x x:=by unfold leT;omega
theorem leT.wt {x y:Th} (h:leT x y):x.wt≤y.wt:=by unfold leT at h;omega
def HAll (f:Nat→Th) (n k:Nat):Prop:=∀ m,1≤m→m<n→k≤(m-1)/2→leT (f ((m-1)/2)) (f m)
structure HDown (f:Nat→Th) (n k i:Nat):Prop where
 ok:∀ m,1≤m→m<n→k≤(m-1)/2→(m-1)/2≠i→leT (f ((m-1)/2)) (f m)
 gp:∀ m,1≤m→m<n→(m-1)/2=i→1≤i→k≤(i-1)/2→leT (f ((i-1)/2)) (f m)
structure HUp (f:Nat→Th) (n j:Nat):Prop where
 ok:∀ m,1≤m→m<n→m≠j→leT (f ((m-1)/2)) (f m)
 gp:∀ m,1≤m→m<n→(m-1)/2=j→1≤j→leT (f ((j-1)/2)) (f m)
def swapF (f:Nat→Th) (i j:Nat):Nat→Th:=fun m=>if m=i then f j else if m=j then f i else f m
theorem HDown.leaf {f:Nat→Th} {n k i:Nat} (h:HDown f n k i) (hi:n≤2*i+1):HAll f n k:=
 fun m h1 h2 h3=>h.ok m h1 h2 h3 (by omega)
theorem HDown.stop {f:Nat→Th} {n k i j:Nat} (h:HDown f n k i) (hj:j=2*i+1∨j=2*i+2) (hle:leT (f i) (f j)) (hmin:∀ m,m<n→(m-1)/2=i→1≤m→leT (f j) (f m)):HAll f n k:=by
 intro m h1 h2 h3
 by_cases e:(m-1)/2=i
 ·rw [e];exact hle.trans (hmin m h2 e h1)
 ·exact h.ok m h1 h2 h3 e
theorem HDown.step {f:Nat→Th} {n k i j:Nat} (h:HDown f n k i) (hk:k≤i) (hj:j=2*i+1∨j=2*i+2) (hjn:j<n) (hlt:leT (f j) (f i)) (hmin:∀ m,m<n→(m-1)/2=i→1≤m→leT (f j) (f m)):HDown (swapF f i j) n k j:=by
 have hpj:(j-1)/2=i:=by omega
 constructor
 ·intro m h1 h2 h3 h4
  unfold swapF
  by_cases e1:m=i
  ·subst e1
   rw [if_neg (by omega),if_neg (by omega),if_pos rfl]
   exact h.gp j (by omega) hjn hpj h1 h3
  ·by_cases e2:m=j
   ·subst e2
    rw [hpj,if_pos rfl,if_neg e1,if_pos rfl]
    exact hlt
   ·rw [if_neg e1,if_neg e2]
    by_cases e3:(m-1)/2=i
    ·rw [if_pos e3];exact hmin m h2 e3 h1
    ·rw [if_neg e3,if_neg h4];exact h.ok m h1 h2 h3 e3
 ·intro m h1 h2 h3 h4 h5
  unfold swapF
  rw [hpj,if_pos rfl,if_neg (by omega),if_neg (by omega)]
  have:=h.ok m h1 h2 (by omega) (by omega)
  rw [h3] at this
  exact this
theorem HUp.stop {f:Nat→Th} {n j:Nat} (h:HUp f n j) (hs:j=0∨leT (f ((j-1)/2)) (f j)):HAll f n 0:=by
 intro m h1 h2 _
 by_cases e:m=j
 ·subst e
  rcases hs with hs|hs
  ·omega
  ·exact hs
 ·exact h.ok m h1 h2 e
theorem HUp.step {f:Nat→Th} {n j:Nat} (h:HUp f n j) (h0:1≤j) (hlt:leT (f j) (f ((j-1)/2))):HUp (swapF f j ((j-1)/2)) n ((j-1)/2):=by
 obtain ⟨i,hi⟩:∃ i,(j-1)/2=i:=⟨_,rfl⟩
 rw [hi] at hlt ⊢
 constructor
 ·intro m h1 h2 h3
  unfold swapF
  by_cases e1:m=j
  ·subst e1
   rw [hi,if_neg (by omega),if_pos rfl,if_pos rfl]
   exact hlt
  ·by_cases e2:(m-1)/2=j
   ·rw [if_pos e2,if_neg e1,if_neg h3]
    have:=h.gp m h1 h2 e2 h0
    rw [hi] at this
    exact this
   ·by_cases e3:(m-1)/2=i
    ·rw [if_neg e2,if_pos e3,if_neg e1,if_neg h3]
     have:=h.ok m h1 h2 e1
     rw [e3] at this
     exact hlt.trans this
    ·rw [if_neg e2,if_neg e3,if_neg e1,if_neg h3]
     exact h.ok m h1 h2 e1
 ·intro m h1 h2 h3 h4
  have hpi:leT (f ((i-1)/2)) (f i):=h.ok i h4 (by omega) (by omega)
  unfold swapF
  rw [if_neg (by omega),if_neg (by omega)]
  by_cases e1:m=j
  ·rw [if_pos e1];exact hpi
  ·rw [if_neg e1,if_neg (by omega)]
   have:=h.ok m h1 h2 e1
   rw [h3] at this
   exact hpi.trans this
theorem HAll.root {f:Nat→Th} {n:Nat} (h:HAll f n 0):∀ m,m<n→leT (f 0) (f m):=by
 intro m
 induction m using Nat.strongRecOn with
 | _ m ih=>
   intro hm
   by_cases e:m=0
   ·subst e;exact leT.refl _
   ·exact (ih ((m-1)/2) (by omega) (by omega)).trans (h m (by omega) hm (Nat.zero_le _))
def thD:Th:=⟨0,0,none,0,0,[],0⟩
def fnT (l:List Th):Nat→Th:=fun m=>l.getD m thD
def swapT (l:List Th) (i j:Nat):List Th:=(l.set i (fnT l j)).set j (fnT l i)
theorem fnT_at {l:List Th} {i:Nat} (h:i<l.length):l[i]? = some (fnT l i):=by
 unfold fnT;simp [List.getD,Zg h]
theorem swapT_len (l:List Th) (i j:Nat):(swapT l i j).length=l.length:=by unfold swapT;simp
theorem swapT_fn {l:List Th} {i j:Nat} (hi:i<l.length) (hj:j<l.length) (hij:i≠j):fnT (swapT l i j)=swapF (fnT l) i j:=by
 funext m
 show ((l.set i (fnT l j)).set j (fnT l i)).getD m thD=_
 unfold swapF
 simp only [List.getD,List.getElem?_set]
 by_cases e1:m=j
 ·subst e1
  have h2:m<(l.set i (fnT l m)).length:=by rw [List.length_set];exact hj
  have h3:¬m=i:=fun e=>hij e.symm
  rw [if_pos rfl,if_pos h2,if_neg h3,if_pos rfl];rfl
 ·rw [if_neg (fun e=>e1 e.symm)]
  by_cases e2:m=i
  ·subst e2
   rw [if_pos rfl,if_pos hi,if_pos rfl];rfl
  ·rw [if_neg (fun e=>e2 e.symm),if_neg e2,if_neg e1];rfl
theorem swapT_drop {l:List Th} {i j n:Nat} (hi:i<n) (hj:j<n):(swapT l i j).drop n=l.drop n:=by
 unfold swapT
 apply List.ext_getElem?
 intro m
 rw [List.getElem?_drop,List.getElem?_drop,List.getElem?_set,if_neg (by omega),List.getElem?_set,if_neg (by omega)]
theorem perm_set2:∀ (l:List Th) (i j:Nat),i<l.length→j<l.length→i≠j→(swapT l i j).Perm l:=by
 intro l i j hi hj hij
 unfold swapT
 have key:∀ (l:List Th) (i j:Nat) (hi:i<j) (hj:j<l.length),((l.set i l[j]).set j l[i]).Perm l:=by
  intro l i j hi hj
  induction l generalizing i j with
  | nil=>simp at hj
  | cons x r ih=>
    cases i with
    | zero=>
      obtain ⟨j',rfl⟩:∃ j',j=j'+1:=⟨j-1,by omega⟩
      simp only [List.getElem_cons_succ,List.set_cons_zero,List.getElem_cons_zero,List.set_cons_succ]
      have hj':j'<r.length:=by simpa using hj
      have e1:r.set j' x=r.take j'++x::r.drop (j'+1):=by rw [List.set_eq_take_append_cons_drop,if_pos hj']
      have e2:r=r.take j'++r[j']::r.drop (j'+1):=by
       have:=List.take_append_drop j' r
       rw [List.drop_eq_getElem_cons hj'] at this
       exact this.symm
      rw [e1]
      have p1:(r[j']::(r.take j'++x::r.drop (j'+1))).Perm (r[j']::(x::(r.take j'++r.drop (j'+1)))):=(List.perm_middle).cons _
      have p2:(x::r).Perm (x::(r[j']::(r.take j'++r.drop (j'+1)))):=by
       have p3:r.Perm (r[j']::(r.take j'++r.drop (j'+1))):=by
        exact (List.Perm.of_eq e2).trans List.perm_middle
       exact p3.cons _
      exact p1.trans ((List.Perm.swap _ _ _).trans p2.symm)
    | succ i=>
      obtain ⟨j',rfl⟩:∃ j',j=j'+1:=⟨j-1,by omega⟩
      simp only [List.getElem_cons_succ,List.set_cons_succ]
      exact (ih i j' (by omega) (by simpa using hj)).cons _
 have hfi:fnT l i=l[i]:=by unfold fnT;simp [List.getD,Zg hi]
 have hfj:fnT l j=l[j]:=by unfold fnT;simp [List.getD,Zg hj]
 rw [hfi,hfj]
 rcases Nat.lt_or_gt_of_ne hij with h|h
 ·exact key l i j h hj
 ·rw [List.set_comm _ _ hij]
  exact key l j i h hi
theorem HeapR.drewN {w:World} {B hb n c:Nat} {A:OA} {l:List Th} (h:HeapR w B hb A n c l) (q:Nat):HeapR (w.drewN q) B hb A n c l:=h.later (below_drewN w q)
theorem hpDown (B hb:Nat) (A:OA) (N c:Nat) (l:List Th) (i0 n k:Nat) (w:World) (h:HeapR w B hb A N c l) (hn:n≤N) (hN:N≤1000000) (hk:k≤i0) (hi0:i0≤n) (hd:HDown (fnT l) n k i0):
 Calls Tryz.prog 114 #[.iface 285 (.pointer (some ⟨hb,0,none⟩)),.int .i64 (i0:Int),.int .i64 (n:Int)] w fun e w'=>(∃ v,e=.returned v)∧(∃ l',HeapR w' B hb A N c l'∧l'.Perm l∧l'.drop n=l.drop n∧HAll (fnT l') n k)∧Two hb A w w':=by
 have H0:=Lh h
 have HD0:=Lh hd
 clear h hd
 go_enter Tryz.func114,Tryz.ntmps114
 go_wp2
 go_loopg [7] n (fun gg s7 wr=>∃ (i:Nat) (l':List Th),s7=.int .i64 (i:Int)∧n-i≤gg∧k≤i∧i≤n∧HeapR wr B hb A N c l'∧l'.Perm l∧l'.drop n=l.drop n∧HDown (fnT l') n k i∧Two hb A w wr)
 case atStart=>exact ⟨i0,l,rfl,by omega,hk,hi0,H0.out,List.Perm.refl _,rfl,HD0.out,Two.refl _ _ _⟩
 case round=>
  obtain ⟨i,l',rfl,hgg,hki,hin,hh,hp,hdr,hd,htw⟩:=hrel
  have HH:=Lh hh
  have HP:=Lh hp
  have HDr:=Lh hdr
  have HD:=Lh hd
  have HT:=Lh htw
  have hlen:=hh.row.length
  have HLen:=Lh hlen
  clear hh hp hdr hd htw hlen
  have e1:IntKind.i64.wrap (2*(i:Int))=2*(i:Int):=wrapi64 (by omega) (by omega)
  have e2:IntKind.i64.wrap (2*(i:Int)+1)=((2*i+1:Nat):Int):=by rw [wrapi64 (by omega) (by omega)];rfl
  obtain ⟨j1,hj1⟩:∃ j1,2*i+1=j1:=⟨_,rfl⟩
  rw [hj1] at e2
  by_cases hleaf:n≤j1
  ·have g1:decide ((n:Int)≤(j1:Int))=true:=qT (by omega)
   have HA:=Lh (HD.out.leaf (by omega))
   clear hj1
   go_wp2
   go_ret
   exact ⟨⟨_,rfl⟩,⟨l',HH.out,HP.out,HDr.out,HA.out⟩,HT.out⟩
  ·have g1:decide ((n:Int)≤(j1:Int))=false:=qF (by omega)
   have g2:decide ((j1:Int)<0)=false:=qF (by omega)
   have e3:IntKind.i64.wrap ((j1:Int)+1)=((j1+1:Nat):Int):=by rw [wrapi64 (by omega) (by omega)];rfl
   have hml:=m_Less HH.out.cell
   by_cases h2:j1+1<n
   ·have g3:decide (((j1+1:Nat):Int)<(n:Int))=true:=qT (by omega)
    have HLa:Calls Tryz.prog 216 #[.slice A N c,.int .i64 ((j1:Int)+1),.int .i64 (j1:Int)] wr _:=thLess B A N c l' (j1+1) j1 _ _ wr HH.out.row (fnT_at (by rw [HLen.out];omega)) (fnT_at (by rw [HLen.out];omega))
    have HLs:=Lh HLa
    clear HLa
    go_wp2_with fail
    refine HLs.out.mono ?_
    rintro e w1 ⟨rfl,q1,hw1⟩
    have HH1:=Lh (show HeapR w1 B hb A N c l' by rw [hw1];exact HH.out.drewN q1)
    have HT1:=Lh (show Two hb A w w1 by rw [hw1];exact HT.out.drewN q1)
    clear HLs hw1
    cases hc:lessT (fnT l' (j1+1)) (fnT l' j1) with
    | true=>
      have HMin:=Lh (show ∀ m,m<n→(m-1)/2=i→1≤m→leT (fnT l' (j1+1)) (fnT l' m) from fun m h1 h2 h3=>by
       have:m=j1∨m=j1+1:=by omega
       rcases this with rfl|rfl
       ·exact lessT_lt hc
       ·exact leT.refl _)
      clear hc
      have hml2:=m_Less HH1.out.cell
      have HLt:Calls Tryz.prog 216 #[.slice A N c,.int .i64 ((j1:Int)+1),.int .i64 (i:Int)] w1 _:=thLess B A N c l' (j1+1) i _ _ w1 HH1.out.row (fnT_at (by rw [HLen.out];omega)) (fnT_at (by rw [HLen.out];omega))
      have HLs2:=Lh HLt
      clear HLt
      go_wp2_with fail
      refine HLs2.out.mono ?_
      rintro e w2 ⟨rfl,q2,hw2⟩
      have HH2:=Lh (show HeapR w2 B hb A N c l' by rw [hw2];exact HH1.out.drewN q2)
      have HT2:=Lh (show Two hb A w w2 by rw [hw2];exact HT1.out.drewN q2)
      clear hw2
      cases hlt:lessT (fnT l' (j1+1)) (fnT l' i) with
      | false=>
        have HA:=Lh (HD.out.stop (j:=(j1+1)) (by omega) (lessT_le.1 hlt) HMin.out)
        clear hj1 HLs2
        go_wp2
        go_ret
        exact ⟨⟨_,rfl⟩,⟨l',HH2.out,HP.out,HDr.out,HA.out⟩,HT2.out⟩
      | true=>
        have hms:=m_Swap HH2.out.cell
        have HSt:=Lh (HD.out.step hki (j:=(j1+1)) (by omega) (by omega) (lessT_lt hlt) HMin.out)
        have HSwF:=Lh (swapT_fn (l:=l') (i:=i) (j:=(j1+1)) (by rw [HLen.out];omega) (by rw [HLen.out];omega) (by omega))
        have HPm:=Lh (perm_set2 l' i (j1+1) (by rw [HLen.out];omega) (by rw [HLen.out];omega) (by omega))
        have HDp:=Lh (swapT_drop (l:=l') (i:=i) (j:=(j1+1)) (n:=n) (by omega) (by omega))
        have HSc:Calls Tryz.prog 217 #[.slice A N c,.int .i64 (i:Int),.int .i64 ((j1:Int)+1)] w2 _:=thSwap B A N c l' i (j1+1) _ _ w2 HH2.out.row (fnT_at (by rw [HLen.out];omega)) (fnT_at (by rw [HLen.out];omega)) (by omega)
        have HSc2:=Lh HSc
        clear HSc HLs2
        go_wp2_with fail
        refine HSc2.out.mono ?_
        rintro e w3 ⟨⟨v3,rfl⟩,hrow3,hgr3⟩
        have HBox3:=Lh (HH2.out.box.kept hgr3 HH2.out.ne)
        have HRow3:=Lh hrow3
        have HT3:=Lh (HT2.out.grown hgr3 (fun k hk _=>.inr hk))
        clear hrow3 hgr3 HSc2 hms
        go_wp2
        go_roundg (n-(j1+1))
        case measure=>omega
        case rel=>exact ⟨(j1+1),swapT l' i (j1+1),by go_num,by omega,by omega,by omega,⟨HBox3.out,HRow3.out⟩,HPm.out.trans HP.out,HDp.out.trans HDr.out,by rw [HSwF.out];exact HSt.out,HT3.out⟩
    | false=>
      have HMin:=Lh (show ∀ m,m<n→(m-1)/2=i→1≤m→leT (fnT l' j1) (fnT l' m) from fun m h1 h2 h3=>by
       have:m=j1∨m=j1+1:=by omega
       rcases this with rfl|rfl
       ·exact leT.refl _
       ·exact lessT_le.1 hc)
      clear hc
      have hml2:=m_Less HH1.out.cell
      have HLt:Calls Tryz.prog 216 #[.slice A N c,.int .i64 (j1:Int),.int .i64 (i:Int)] w1 _:=thLess B A N c l' j1 i _ _ w1 HH1.out.row (fnT_at (by rw [HLen.out];omega)) (fnT_at (by rw [HLen.out];omega))
      have HLs2:=Lh HLt
      clear HLt
      go_wp2_with fail
      refine HLs2.out.mono ?_
      rintro e w2 ⟨rfl,q2,hw2⟩
      have HH2:=Lh (show HeapR w2 B hb A N c l' by rw [hw2];exact HH1.out.drewN q2)
      have HT2:=Lh (show Two hb A w w2 by rw [hw2];exact HT1.out.drewN q2)
      clear hw2
      cases hlt:lessT (fnT l' j1) (fnT l' i) with
      | false=>
        have HA:=Lh (HD.out.stop (j:=j1) (by omega) (lessT_le.1 hlt) HMin.out)
        clear hj1 HLs2
        go_wp2
        go_ret
        exact ⟨⟨_,rfl⟩,⟨l',HH2.out,HP.out,HDr.out,HA.out⟩,HT2.out⟩
      | true=>
        have hms:=m_Swap HH2.out.cell
        have HSt:=Lh (HD.out.step hki (j:=j1) (by omega) (by omega) (lessT_lt hlt) HMin.out)
        have HSwF:=Lh (swapT_fn (l:=l') (i:=i) (j:=j1) (by rw [HLen.out];omega) (by rw [HLen.out];omega) (by omega))
        have HPm:=Lh (perm_set2 l' i j1 (by rw [HLen.out];omega) (by rw [HLen.out];omega) (by omega))
        have HDp:=Lh (swapT_drop (l:=l') (i:=i) (j:=j1) (n:=n) (by omega) (by omega))
        have HSc:Calls Tryz.prog 217 #[.slice A N c,.int .i64 (i:Int),.int .i64 (j1:Int)] w2 _:=thSwap B A N c l' i j1 _ _ w2 HH2.out.row (fnT_at (by rw [HLen.out];omega)) (fnT_at (by rw [HLen.out];omega)) (by omega)
        have HSc2:=Lh HSc
        clear HSc HLs2
        go_wp2_with fail
        refine HSc2.out.mono ?_
        rintro e w3 ⟨⟨v3,rfl⟩,hrow3,hgr3⟩
        have HBox3:=Lh (HH2.out.box.kept hgr3 HH2.out.ne)
        have HRow3:=Lh hrow3
        have HT3:=Lh (HT2.out.grown hgr3 (fun k hk _=>.inr hk))
        clear hrow3 hgr3 HSc2 hms
        go_wp2
        go_roundg (n-j1)
        case measure=>omega
        case rel=>exact ⟨j1,swapT l' i j1,by go_num,by omega,by omega,by omega,⟨HBox3.out,HRow3.out⟩,HPm.out.trans HP.out,HDp.out.trans HDr.out,by rw [HSwF.out];exact HSt.out,HT3.out⟩
   ·have g3:decide (((j1+1:Nat):Int)<(n:Int))=false:=qF (by omega)
    have HMin:=Lh (show ∀ m,m<n→(m-1)/2=i→1≤m→leT (fnT l' j1) (fnT l' m) from fun m h1 h2 h3=>by
     have:m=j1:=by omega
     subst this
     exact leT.refl _)
    have hml2:=m_Less HH.out.cell
    have HLt:Calls Tryz.prog 216 #[.slice A N c,.int .i64 (j1:Int),.int .i64 (i:Int)] wr _:=thLess B A N c l' j1 i _ _ wr HH.out.row (fnT_at (by rw [HLen.out];omega)) (fnT_at (by rw [HLen.out];omega))
    have HLs2:=Lh HLt
    clear HLt
    go_wp2_with fail
    refine HLs2.out.mono ?_
    rintro e w2 ⟨rfl,q2,hw2⟩
    have HH2:=Lh (show HeapR w2 B hb A N c l' by rw [hw2];exact HH.out.drewN q2)
    have HT2:=Lh (show Two hb A w w2 by rw [hw2];exact HT.out.drewN q2)
    clear hw2
    cases hlt:lessT (fnT l' j1) (fnT l' i) with
    | false=>
      have HA:=Lh (HD.out.stop (j:=j1) (by omega) (lessT_le.1 hlt) HMin.out)
      clear hj1 HLs2
      go_wp2
      go_ret
      exact ⟨⟨_,rfl⟩,⟨l',HH2.out,HP.out,HDr.out,HA.out⟩,HT2.out⟩
    | true=>
      have hms:=m_Swap HH2.out.cell
      have HSt:=Lh (HD.out.step hki (j:=j1) (by omega) (by omega) (lessT_lt hlt) HMin.out)
      have HSwF:=Lh (swapT_fn (l:=l') (i:=i) (j:=j1) (by rw [HLen.out];omega) (by rw [HLen.out];omega) (by omega))
      have HPm:=Lh (perm_set2 l' i j1 (by rw [HLen.out];omega) (by rw [HLen.out];omega) (by omega))
      have HDp:=Lh (swapT_drop (l:=l') (i:=i) (j:=j1) (n:=n) (by omega) (by omega))
      have HSc:Calls Tryz.prog 217 #[.slice A N c,.int .i64 (i:Int),.int .i64 (j1:Int)] w2 _:=thSwap B A N c l' i j1 _ _ w2 HH2.out.row (fnT_at (by rw [HLen.out];omega)) (fnT_at (by rw [HLen.out];omega)) (by omega)
      have HSc2:=Lh HSc
      clear HSc HLs2
      go_wp2_with fail
      refine HSc2.out.mono ?_
      rintro e w3 ⟨⟨v3,rfl⟩,hrow3,hgr3⟩
      have HBox3:=Lh (HH2.out.box.kept hgr3 HH2.out.ne)
      have HRow3:=Lh hrow3
      have HT3:=Lh (HT2.out.grown hgr3 (fun k hk _=>.inr hk))
      clear hrow3 hgr3 HSc2 hms
      go_wp2
      go_roundg (n-j1)
      case measure=>omega
      case rel=>exact ⟨j1,swapT l' i j1,by go_num,by omega,by omega,by omega,⟨HBox3.out,HRow3.out⟩,HPm.out.trans HP.out,HDp.out.trans HDr.out,by rw [HSwF.out];exact HSt.out,HT3.out⟩
theorem Two.newTo2 {g:Nat} {A A':OA} {w W W':World} (h:Two g A w W) (hn:NewTo w A A') (k:Two g A' W W'):Two g A w W':=
 ⟨k.os.trans h.os,k.tape.trans h.tape,k.output.trans h.output,Nat.le_trans h.size k.size,fun i hi h1 h2=>(k.block i (lT hi h.size) h1 (fun e=>by
   rcases hn with hn|⟨j,h3,h4⟩
   ·exact h2 (by rw [←hn];exact e)
   ·rw [e] at h3;injection h3 with h3;omega)).trans (h.block i hi h1 h2)⟩
theorem hpUp (B hb:Nat) (A:OA) (N c:Nat) (l:List Th) (j0:Nat) (w:World) (h:HeapR w B hb A N c l) (hN:N≤1000000) (hj:j0<N) (hd:HUp (fnT l) N j0):
 Calls Tryz.prog 163 #[.iface 285 (.pointer (some ⟨hb,0,none⟩)),.int .i64 (j0:Int)] w fun e w'=>(∃ v,e=.returned v)∧(∃ l',HeapR w' B hb A N c l'∧l'.Perm l∧HAll (fnT l') N 0)∧Two hb A w w':=by
 have H0:=Lh h
 have HD0:=Lh hd
 clear h hd
 go_enter Tryz.func163,Tryz.ntmps163
 go_wp2
 go_loopg [1] N (fun gg s1 wr=>∃ (j:Nat) (l':List Th),s1=.int .i64 (j:Int)∧j≤gg∧j<N∧HeapR wr B hb A N c l'∧l'.Perm l∧HUp (fnT l') N j∧Two hb A w wr)
 case atStart=>exact ⟨j0,l,rfl,by omega,hj,H0.out,List.Perm.refl _,HD0.out,Two.refl _ _ _⟩
 case round=>
  obtain ⟨j,l',rfl,hgg,hjN,hh,hp,hd,htw⟩:=hrel
  have HH:=Lh hh
  have HP:=Lh hp
  have HD:=Lh hd
  have HT:=Lh htw
  have HLen:=Lh hh.row.length
  clear hh hp hd htw
  cases j with
  | zero=>
    have HA:=Lh (HD.out.stop (.inl rfl))
    go_wp2
    go_end0
    exact ⟨⟨_,rfl⟩,⟨l',HH.out,HP.out,HA.out⟩,HT.out⟩
  | succ p=>
    obtain ⟨i,hi⟩:∃ i,p/2=i:=⟨_,rfl⟩
    have hpi:i≤p:=by omega
    have HI:=Lh (show (p+1-1)/2=i by omega)
    have e1:IntKind.i64.wrap (((p+1:Nat):Int)-1)=(p:Int):=by rw [wrapi64 (by omega) (by omega)];omega
    have e2:(p:Int)/2=(i:Int):=by omega
    have g1:((i:Int)==(p:Int)+1)=false:=bF (by omega)
    have hml:=m_Less HH.out.cell
    have HLa:Calls Tryz.prog 216 #[.slice A N c,.int .i64 ((p:Int)+1),.int .i64 (i:Int)] wr _:=thLess B A N c l' (p+1) i _ _ wr HH.out.row (fnT_at (by rw [HLen.out];omega)) (fnT_at (by rw [HLen.out];omega))
    have HLs:=Lh HLa
    clear HLa hi
    go_wp2_with fail
    refine HLs.out.mono ?_
    rintro e w2 ⟨rfl,q2,hw2⟩
    have HH2:=Lh (show HeapR w2 B hb A N c l' by rw [hw2];exact HH.out.drewN q2)
    have HT2:=Lh (show Two hb A w w2 by rw [hw2];exact HT.out.drewN q2)
    clear hw2 HLs
    cases hlt:lessT (fnT l' (p+1)) (fnT l' i) with
    | false=>
      have HA:=Lh (HD.out.stop (.inr (by rw [HI.out];exact lessT_le.1 hlt)))
      clear hml
      go_wp2
      go_end0
      exact ⟨⟨_,rfl⟩,⟨l',HH2.out,HP.out,HA.out⟩,HT2.out⟩
    | true=>
      have hms:=m_Swap HH2.out.cell
      have HSt:=Lh (by have h:=HD.out.step (by omega) (by rw [HI.out];exact lessT_lt hlt);rw [HI.out] at h;exact h:HUp (swapF (fnT l') (p+1) i) N i)
      have HSwF:=Lh (swapT_fn (l:=l') (i:=p+1) (j:=i) (by rw [HLen.out];omega) (by rw [HLen.out];omega) (by omega))
      have HPm:=Lh (perm_set2 l' (p+1) i (by rw [HLen.out];omega) (by rw [HLen.out];omega) (by omega))
      have HSc:Calls Tryz.prog 217 #[.slice A N c,.int .i64 (i:Int),.int .i64 ((p:Int)+1)] w2 _:=thSwap B A N c l' i (p+1) _ _ w2 HH2.out.row (fnT_at (by rw [HLen.out];omega)) (fnT_at (by rw [HLen.out];omega)) (by omega)
      have HSc2:=Lh HSc
      clear HSc
      go_wp2_with fail
      refine HSc2.out.mono ?_
      rintro e w3 ⟨⟨v3,rfl⟩,hrow3,hgr3⟩
      have HBox3:=Lh (HH2.out.box.kept hgr3 HH2.out.ne)
      have HRow3:=Lh (show OwnT w3 B A N c (swapT l' (p+1) i) from by
       unfold swapT
       rw [List.set_comm _ _ (by omega)]
       exact hrow3)
      have HT3:=Lh (HT2.out.grown hgr3 (fun k hk _=>.inr hk))
      clear hrow3 hgr3 HSc2 hms hml
      go_wp2
      go_roundg i
      case measure=>omega
      case rel=>exact ⟨i,swapT l' (p+1) i,rfl,Nat.le_refl _,by omega,⟨HBox3.out,HRow3.out⟩,HPm.out.trans HP.out,by rw [HSwF.out];exact HSt.out,HT3.out⟩
theorem hpInit (B hb:Nat) (A:OA) (N c:Nat) (l:List Th) (w:World) (h:HeapR w B hb A N c l) (hN:N≤1000000):
 Calls Tryz.prog 181 #[.iface 285 (.pointer (some ⟨hb,0,none⟩))] w fun e w'=>(∃ v,e=.returned v)∧(∃ l',HeapR w' B hb A N c l'∧l'.Perm l∧HAll (fnT l') N 0)∧Two hb A w w':=by
 have H0:=Lh h
 have hml:=m_Len h.cell
 have HLen0:=Lh (thLen A N c w)
 clear h
 obtain ⟨hf,hhf⟩:∃ hf,N/2=hf:=⟨_,rfl⟩
 have e1:(N:Int)/2=(hf:Int):=by omega
 have e2:IntKind.i64.wrap ((hf:Int)-1)=(hf:Int)-1:=wrapi64 (by omega) (by omega)
 have HF:=Lh hhf
 have hfN:hf≤N:=by omega
 clear hhf
 go_enter Tryz.func181,Tryz.ntmps181
 go_wp2_with fail
 refine HLen0.out.mono ?_
 rintro e w1 ⟨rfl,hw1⟩
 obtain rfl:=hw1.symm
 go_wp2_with fail
 go_loopg [3] N (fun gg s3 wr=>∃ (m:Nat) (l':List Th),s3=.int .i64 ((m:Int)-1)∧m≤gg∧m≤hf∧HeapR wr B hb A N c l'∧l'.Perm l∧HAll (fnT l') N m∧Two hb A w wr)
 case atStart=>exact ⟨hf,l,by go_num,by omega,Nat.le_refl _,H0.out,List.Perm.refl _,fun m h1 h2 h3=>by have:=HF.out;omega,Two.refl _ _ _⟩
 case round=>
  clear e1 e2 hml
  obtain ⟨m,l',rfl,hgg,hmf,hh,hp,ha,htw⟩:=hrel
  cases m with
  | zero=>
    have HH:=Lh hh
    have HP:=Lh hp
    have HA:=Lh ha
    have HT:=Lh htw
    clear hh hp ha htw
    go_wp2
    go_end0
    exact ⟨⟨_,rfl⟩,⟨l',HH.out,HP.out,HA.out⟩,HT.out⟩
  | succ i=>
    have e3:((i+1:Nat):Int)-1=(i:Int):=by omega
    rw [e3]
    clear e3
    have hiN:=HF.out
    have HDn:=Lh (hpDown B hb A N c l' i N i wr hh nL hN nL (by omega) ⟨fun m h1 h2 h3 h4=>ha m h1 h2 (by omega),fun m h1 h2 h3 h4 h5=>by omega⟩)
    have HP:=Lh hp
    have HT:=Lh htw
    clear hh hp ha htw hiN
    have g1:decide ((0:Int)≤(i:Int))=true:=qT (by omega)
    go_wp2_with fail
    refine HDn.out.mono ?_
    rintro e w2 ⟨⟨v2,rfl⟩,⟨l2,hh2,hp2,-,ha2⟩,ht2⟩
    have HH2:=Lh hh2
    have HP2:=Lh (hp2.trans HP.out)
    have HA2:=Lh ha2
    have HT2:=Lh (HT.out.trans ht2)
    clear hh2 hp2 ha2 ht2 HDn
    go_wp2
    go_roundg i
    case measure=>omega
    case rel=>exact ⟨i,l2,by go_num,Nat.le_refl _,by omega,HH2.out,HP2.out,HA2.out,HT2.out⟩
theorem fnT_take {l:List Th} {M m:Nat} (h:m<M):fnT (l.take M) m=fnT l m:=by
 unfold fnT
 simp only [List.getD,List.getElem?_take,if_pos h]
theorem fnT_append {l:List Th} {x:Th} {m:Nat} (h:m<l.length):fnT (l++[x]) m=fnT l m:=by
 unfold fnT
 simp only [List.getD,List.getElem?_append_left h]
theorem fnT_mem {l:List Th} {y:Th} (h:y∈l):∃ m,m<l.length∧fnT l m=y:=by
 obtain ⟨m,hm,e⟩:=List.getElem_of_mem h
 exact ⟨m,hm,by unfold fnT;simp [List.getD,Zg hm,e]⟩
theorem hpPop (B hb:Nat) (A:OA) (M c:Nat) (l:List Th) (w:World) (h:HeapR w B hb A (M+1) c l) (hM:1≤M) (hM2:M≤999999) (hc:M+1≤c) (ha:HAll (fnT l) (M+1) 0):
 Calls Tryz.prog 78 #[.iface 285 (.pointer (some ⟨hb,0,none⟩))] w fun e w'=>∃ x l',e=.returned (thV x)∧HeapR w' B hb A M c l'∧(x::l').Perm l∧HAll (fnT l') M 0∧(∀ y∈l',leT x y)∧Two hb A w w':=by
 have H0:=Lh h
 have HA0:=Lh ha
 have hml:=m_Len h.cell
 have HLen0:=Lh (thLen A (M+1) c w)
 have hlen:=h.row.length
 have HLen:=Lh hlen
 have hms:=m_Swap h.cell
 have HSw:=Lh (thSwap B A (M+1) c l 0 M _ _ w h.row (fnT_at (by omega)) (fnT_at (by omega)) (by omega))
 have e1:IntKind.i64.wrap (((M+1:Nat):Int)-1)=(M:Int):=by rw [wrapi64 (by omega) (by omega)];omega
 clear h ha hlen
 go_enter Tryz.func78,Tryz.ntmps78
 go_wp2_with fail
 refine HLen0.out.mono ?_
 rintro e w1 ⟨rfl,hw1⟩
 obtain rfl:=hw1.symm
 go_wp2_with fail
 refine HSw.out.mono ?_
 rintro e w2 ⟨⟨v2,rfl⟩,hrow2,hgr2⟩
 have hh2:HeapR w2 B hb A (M+1) c (swapT l 0 M):=⟨H0.out.box.kept hgr2 H0.out.ne,hrow2⟩
 have HT2:=Lh ((Two.refl hb A w).grown hgr2 (fun k hk _=>.inr hk))
 have hfn:=swapT_fn (l:=l) (i:=0) (j:=M) (by rw [HLen.out];omega) (by rw [HLen.out];omega) (by omega)
 have hdn:HDown (fnT (swapT l 0 M)) M 0 0:=by
  rw [hfn]
  refine ⟨fun m h1 h2 _ h4=>?_,fun m h1 h2 h3 h4 _=>by omega⟩
  unfold swapF
  rw [if_neg h4,if_neg (by omega),if_neg (by omega),if_neg (by omega)]
  exact HA0.out m h1 (by omega) (Nat.zero_le _)
 have HDn:=Lh (hpDown B hb A (M+1) c (swapT l 0 M) 0 M 0 w2 hh2 (by omega) (by omega) nL (Nat.zero_le _) hdn)
 clear hrow2 hgr2 hh2 hfn hdn hml hms HSw e1
 go_wp2_with fail
 refine HDn.out.mono ?_
 rintro e w3 ⟨⟨v3,rfl⟩,⟨l3,hh3,hp3,hd3,ha3⟩,ht3⟩
 have hl3:=hh3.row.length
 have hx:l3[M]? = some (fnT l 0):=by
  have h1:(l3.drop M)[0]? = ((swapT l 0 M).drop M)[0]? := by rw [hd3]
  rw [List.getElem?_drop,List.getElem?_drop,Nat.add_zero] at h1
  rw [h1,fnT_at (by rw [swapT_len,HLen.out];omega),swapT_fn (by rw [HLen.out];omega) (by rw [HLen.out];omega) (by omega)]
  unfold swapF
  rw [if_neg (by omega),if_pos rfl]
 have hperm:(fnT l 0::l3.take M).Perm l:=by
  have e:l3=l3.take M++[fnT l 0]:=by
   have h1:=List.take_append_drop M l3
   have h2:l3.drop M=[fnT l 0]:=by
    rw [List.drop_eq_getElem_cons (by omega)]
    rw [Zg (by omega)] at hx
    injection hx with hx
    rw [hx,List.drop_of_length_le (by omega)]
   rw [h2] at h1
   exact h1.symm
  have p1:(fnT l 0::l3.take M).Perm l3:=by
   conv=>rhs;rw [e]
   exact (List.perm_append_singleton _ _).symm
  exact p1.trans (hp3.trans (perm_set2 l 0 M (by rw [HLen.out];omega) (by rw [HLen.out];omega) (by omega)))
 have HPop:=Lh (thPop B hb A M c l3 (fnT l 0) w3 hh3 hx (by omega) hc)
 have HPerm:=Lh hperm
 have HAl:=Lh (show HAll (fnT (l3.take M)) M 0 from fun m h1 h2 h3=>by rw [fnT_take (by omega),fnT_take h2];exact ha3 m h1 h2 h3)
 have HMin:=Lh (show ∀ y∈l3.take M,leT (fnT l 0) y from fun y hy=>by
  obtain ⟨m,hm,rfl⟩:=fnT_mem (hperm.subset (List.mem_cons_of_mem _ hy))
  exact HA0.out.root m (by rw [←HLen.out];exact hm))
 have HT3:=Lh (HT2.out.trans ht3)
 have hmp:=m_Pop ⟨hb,0,none⟩ w3
 clear hh3 hp3 hd3 ha3 ht3 hl3 hx hperm HDn
 go_wp2_with fail
 refine HPop.out.mono ?_
 rintro e w4 ⟨rfl,hh4,ht4⟩
 have HH4:=Lh hh4
 have HT4:=Lh (HT3.out.trans ht4)
 clear hh4 ht4 HPop hmp
 go_wp2
 go_ret
 exact ⟨fnT l 0,l3.take M,rfl,HH4.out,HPerm.out,HAl.out,HMin.out,HT4.out⟩
theorem hpPush (B hb:Nat) (A:OA) (N c:Nat) (l:List Th) (x:Th) (w:World) (h:HeapR w B hb A N c l) (hN:N≤999999) (hB:B≤w.heap.size) (ha:HAll (fnT l) N 0):
 Calls Tryz.prog 118 #[.iface 285 (.pointer (some ⟨hb,0,none⟩)),thV x] w fun e w'=>(∃ v,e=.returned v)∧(∃ A' c' l',HeapR w' B hb A' (N+1) c' l'∧l'.Perm (x::l)∧HAll (fnT l') (N+1) 0∧NewTo w A A')∧Two hb A w w':=by
 have HLen:=Lh h.row.length
 have HPu:=Lh (thPush B hb A N c l x w h (by omega) hB)
 have HA0:=Lh ha
 have hmp:=m_Push ⟨hb,0,none⟩ w
 clear h ha
 go_enter Tryz.func118,Tryz.ntmps118
 go_wp2_with fail
 refine HPu.out.mono ?_
 rintro e w1 ⟨⟨v1,rfl⟩,⟨A1,c1,hh1,hnt1⟩,ht1⟩
 have hml:=m_Len hh1.cell
 have HLe:=Lh (thLen A1 (N+1) c1 w1)
 have hup:HUp (fnT (l++[x])) (N+1) N:=by
  refine ⟨fun m h1 h2 h3=>?_,fun m h1 h2 h3 h4=>by omega⟩
  rw [fnT_append (by rw [HLen.out];omega),fnT_append (by rw [HLen.out];omega)]
  exact HA0.out m h1 (by omega) (Nat.zero_le _)
 have HUp':=Lh (hpUp B hb A1 (N+1) c1 (l++[x]) N w1 hh1 (by omega) (by omega) hup)
 have HNT:=Lh hnt1
 have HT1:=Lh ht1
 have e1:IntKind.i64.wrap (((N+1:Nat):Int)-1)=(N:Int):=by rw [wrapi64 (by omega) (by omega)];omega
 clear hh1 hnt1 ht1 hup hmp HPu
 go_wp2_with fail
 refine HLe.out.mono ?_
 rintro e w2 ⟨rfl,hw2⟩
 obtain rfl:=hw2.symm
 go_wp2_with fail
 refine HUp'.out.mono ?_
 rintro e w3 ⟨⟨v3,rfl⟩,⟨l3,hh3,hp3,ha3⟩,ht3⟩
 have HH3:=Lh hh3
 have HP3:=Lh (hp3.trans (List.perm_append_singleton x l))
 have HA3:=Lh ha3
 have HT3:=Lh (HT1.out.newTo2 HNT.out ht3)
 clear hh3 hp3 ha3 ht3 hml e1 HUp'
 go_wp2
 go_end0
 exact ⟨⟨_,rfl⟩,⟨A1,c1,l3,HH3.out,HP3.out,HA3.out,HNT.out⟩,HT3.out⟩
theorem Own.take {w:World} {base n c m:Nat} {e:TypeId} {A:OA} {xs:List Value} (h:Own w base e A n c xs) (hm:m≤n):Own w base e A m c (xs.take m):=by
 rcases h.2 with ⟨hv,h0⟩|⟨g,cap,cur,hv,h1,h2,h3,h4,h5,h6⟩
 ·have hm0:m=0:=by omega
  subst hm0
  have:=h.1
  simp only [Value.slice.injEq] at hv
  refine ⟨by simp,.inl ⟨?_,rfl⟩⟩
  rw [hv.1,hv.2.2]
 ·refine ⟨?_,.inr ⟨g,cap,cur,?_,h1,h2,by omega,h4,h5,?_⟩⟩
  ·rw [List.length_take,h.1];omega
  ·simp only [Value.slice.injEq] at hv ⊢
   exact ⟨hv.1,trivial,hv.2.2⟩
  ·rw [←h6,List.take_take,Nat.mul_one]
   congr 1;omega
theorem growNil (n:Nat) (w:World) (hn:n≤1000000):
 Calls Tryz.prog 184 #[.slice none 0 0,.int .i64 (n:Int)] w fun e w'=>∃ S cs,e=.returned (.slice S 0 cs)∧OwnN w' w.heap.size S 0 cs []∧Below w.heap.size w w':=by
 have g1:decide ((n:Int)<0)=false:=qF (by omega)
 by_cases h0:0<n
 ·have g2:decide ((0:Int)<(n:Int))=true:=qT (by omega)
  have HO:=Lh (Own.nil w w.heap.size 3)
  go_enter Tryz.func184,Tryz.ntmps184
  go_wp2_with (first|(at_builtin;refine wpList_append_zeros rfl _ _ elemN .i64 .i64 Tryz.underlying3 rfl w.heap.size none 0 0 [] rfl HO.out n ?c0 ?c1 rfl ?c2 ?c3 ?c4 ?_)|(with_reducible refine wpList_slice_hi ?g ?s ?h elemN ?ho none 0 0 0 ?hs ?hh ?hk ?_;(case ho=>exact rfl);(case g=>exact rfl);(case hs=>exact rfl);(case hh=>exact rfl);(case hk=>omega)))
  case c0=>rfl
  case c1=>omega
  case c2=>omega
  case c3=>omega
  case c4=>exact Nat.le_refl _
  intro A' c' w5 hown5 hb5 hgr5 _
  have HO5:=Lh (Own.take hown5 (Nat.zero_le n))
  have HB5:=Lh hb5
  clear hown5 hb5 hgr5
  go_wp2_with (with_reducible refine wpList_slice_hi ?g ?s ?h elemN ?ho A' n c' 0 ?hs ?hh ?hk ?_;(case ho=>exact rfl);(case g=>exact rfl);(case hs=>exact rfl);(case hh=>exact rfl);(case hk=>omega))
  go_ret
  exact ⟨A',c',rfl,HO5.out,HB5.out⟩
 ·have g2:decide ((0:Int)<(n:Int))=false:=qF (by omega)
  obtain rfl:n=0:=by omega
  go_enter Tryz.func184,Tryz.ntmps184
  go_wp2
  go_ret
  exact ⟨none,0,rfl,OwnN.nil _ _,Below.refl _ _⟩
def catL (pl:Nat→List Nat):Nat→List Nat
 | 0=>[]
 | k+1=>catL pl k++pl k
theorem catL_mono (pl:Nat→List Nat):∀ {k m:Nat},k≤m→(catL pl k).length≤(catL pl m).length
 | k,0,h=>by
   have e:k=0:=Nat.le_zero.1 h
   rw [e]
   exact Nat.le_refl _
 | k,m+1,h=>by
   by_cases e:k=m+1
   ·subst e;exact Nat.le_refl _
   ·have:=catL_mono pl (k:=k) (m:=m) (by omega)
    rw [catL,Zl];omega
theorem concatN (g m c:Nat) (PA:Nat→OA) (pn pc:Nat→Nat) (pl:Nat→List Nat) (w:World) (hcell:∀ k,k<m→w.cell? ⟨g,k,none⟩=some (.slice (PA k) (pn k) (pc k))) (hlen:∀ k,k<m→(pl k).length=pn k) (hr:∀ k,k<m→Ns w (PA k) (pl k)) (hm:m≤1000) (htot:(catL pl m).length≤1000000):
 Calls Tryz.prog 182 #[.slice (some ⟨g,0,none⟩) m c] w fun e w'=>∃ S n cs,e=.returned (.slice S n cs)∧OwnN w' w.heap.size S n cs (catL pl m)∧Below w.heap.size w w':=by
 have HCell:=Lh hcell
 have HLen:=Lh hlen
 have HR:=Lh hr
 clear hcell hlen hr
 go_enter Tryz.func182,Tryz.ntmps182
 go_wp2
 go_loopg [3,11] m (fun gg s3 s11 wr=>∃ k:Nat,k≤m∧m-k≤gg∧s3=.int .i64 (((catL pl k).length:Nat):Int)∧s11=.int .i64 (k:Int)∧w=wr)
 case atStart=>exact ⟨0,by omega,by omega,rfl,rfl,rfl⟩
 case round=>
  obtain ⟨k,hk,hgg,rfl,rfl,rfl⟩:=hrel
  by_cases hkm:k<m
  ·have c0:=HCell.out k hkm
   have hl:=HLen.out k hkm
   have hst:(catL pl (k+1)).length=(catL pl k).length+pn k:=by rw [catL,Zl,hl]
   have hmo:=catL_mono pl (show k+1≤m by omega)
   obtain ⟨T,hT⟩:∃ T,(catL pl k).length=T:=⟨_,rfl⟩
   rw [hT] at hst ⊢
   obtain ⟨z,hz⟩:∃ z,pn k=z:=⟨_,rfl⟩
   rw [hz] at c0 hst
   have HSt:=Lh hst
   have htz:T+z≤1000000:=by omega
   have e1:IntKind.i64.wrap ((T:Int)+z)=((T+z:Nat):Int):=by rw [wrapi64 (by omega) (by omega)];rfl
   have g1:decide (((T+z:Nat):Int)<0)=false:=qF (by omega)
   clear hl hst hT hz hmo
   go_wp2
   go_roundg (m-(k+1))
   case measure=>omega
   case rel=>exact ⟨k+1,by omega,by omega,by rw [HSt.out];rfl,by go_num,rfl⟩
  ·obtain rfl:k=m:=by omega
   obtain ⟨T,hT⟩:∃ T,(catL pl k).length=T:=⟨_,rfl⟩
   rw [hT] at htot ⊢
   have HT:=Lh hT
   have HG:=Lh (growNil T w htot)
   clear hT
   go_wp2_with fail
   refine HG.out.mono ?_
   rintro e w1 ⟨S1,cs1,rfl,hown1,hb1⟩
   have HO1:=Lh hown1
   have HB1:=Lh hb1
   clear hown1 hb1 HG
   go_wp2_with fail
   go_loopg [6,27] k (fun gg s6 s27 wr=>∃ (i n cs:Nat) (S:OA),i≤k∧k-i≤gg∧s6=.slice S n cs∧s27=.int .i64 (i:Int)∧OwnN wr w.heap.size S n cs (catL pl i)∧Below w.heap.size w wr)
   case atStart=>exact ⟨0,0,cs1,S1,by omega,by omega,rfl,rfl,HO1.out,HB1.out⟩
   case round=>
    obtain ⟨i,n,cs,S,hi,hgi,rfl,rfl,hown,hbel⟩:=hrel
    have HO:=Lh hown
    have HB:=Lh hbel
    have hnl:=OwnN.length hown
    have hmo:=catL_mono pl hi
    have hn:n≤1000000:=by rw [←hnl];rw [HT.out] at hmo;omega
    clear hown hbel hnl hmo
    by_cases hik:i<k
    ·have c0:=(HB.out.cell (p:=⟨g,i,none⟩) (block_lt (HCell.out i hik))).trans (HCell.out i hik)
     have hl:=HLen.out i hik
     have HN:=Lh (Rd.later (HR.out i hik) HB.out:Ns wr (PA i) (pl i))
     have HL:=Lh hl
     have hmo:=catL_mono pl (show i+1≤k by omega)
     have hz1:pn i≤1000000:=by
      rw [catL,Zl,hl,HT.out] at hmo;omega
     obtain ⟨Pa,hPa⟩:∃ Pa,PA i=Pa:=⟨_,rfl⟩
     obtain ⟨z,hz⟩:∃ z,pn i=z:=⟨_,rfl⟩
     obtain ⟨pcc,hpc⟩:∃ pcc,pc i=pcc:=⟨_,rfl⟩
     rw [hPa] at c0 HN
     rw [hz] at c0 HL hz1
     rw [hpc] at c0
     clear hl hmo hPa hz hpc
     go_wp2_with (at_builtin;go_loud (refine wpList_append_rd rfl _ _ elemN rfl w.heap.size S n cs ((catL pl i).map natv) ?hs HO.out Pa z pcc ((pl i).map natv) ?hh ?a1 ?a2 ?a0 ?a3 ?a4 ?a5 ?_;(case hs=>simp [Act.eval]);(case hh=>simp [Act.eval])))
     case a0=>intro v hv;obtain ⟨u,-,rfl⟩:=List.mem_map.1 hv;rfl
     case a1=>exact HN.out
     case a2=>rw [List.length_map];exact HL.out
     case a3=>omega
     case a4=>omega
     case a5=>exact HB.out.size
     intro A' c' w2 hown2 hb2 hgr2 hat2
     have HO2:=Lh (show OwnN w2 w.heap.size A' (n+z) c' (catL pl (i+1)) from by
      unfold OwnN
      rw [catL,List.map_append]
      exact hown2)
     have HB2:=Lh (HB.out.trans hb2)
     clear hown2 hb2 hgr2 hat2 c0
     go_wp2
     go_roundg (k-(i+1))
     case measure=>omega
     case rel=>exact ⟨i+1,n+z,c',A',by omega,by omega,rfl,by go_num,HO2.out,HB2.out⟩
    ·obtain rfl:i=k:=by omega
     go_wp2
     go_ret
     exact ⟨S,n,cs,rfl,HO.out,HB.out⟩
def fibT:Nat→Nat
 | 0=>1
 | 1=>1
 | n+2=>fibT (n+1)+fibT n
theorem fibT_pos:∀ n,1≤fibT n
 | 0=>Nat.le_refl _
 | 1=>Nat.le_refl _
 | n+2=>by have:=fibT_pos (n+1);rw [fibT];omega
theorem fibT_succ {n:Nat} (h:1≤n):fibT (n+1)=fibT n+fibT (n-1):=by
 obtain ⟨m,rfl⟩:∃ m,n=m+1:=⟨n-1,by omega⟩
 rfl
def PairT (x y:Th):Prop:=fibT (x.ht-1)≤y.wt∧fibT (y.ht-1)≤x.wt
theorem PairT.symm {x y:Th} (h:PairT x y):PairT y x:=⟨h.2,h.1⟩
structure ThOk (out:List Nat) (x:Th):Prop where
 fib:fibT x.ht≤x.wt
 le:∀ p∈x.ps,out.getD p 0≤x.ht
 kraft:∀ H,x.ht≤H→sumL (x.ps.map (fun p=>2^(H-out.getD p 0)))=2^H
def wtsT (l:List Th):Nat:=sumL (l.map (·.wt))
def allP (l:List Th):List Nat:=l.flatMap (·.ps)
theorem sumL_perm {a b:List Nat} (h:a.Perm b):sumL a=sumL b:=by
 induction h with
 | nil=>rfl
 | cons x _ ih=>simp only [sumL,ih]
 | swap x y l=>simp only [sumL];omega
 | trans _ _ h1 h2=>exact h1.trans h2
structure Forest (P0:List Nat) (W:Nat) (out:List Nat) (l:List Th):Prop where
 ok:∀ x∈l,ThOk out x
 pair:l.Pairwise PairT
 wts:wtsT l=W
 all:(allP l).Perm P0
 rest:∀ p,p ∉ P0→out.getD p 0=0
theorem Forest.perm {P0:List Nat} {W:Nat} {out:List Nat} {l l':List Th} (h:Forest P0 W out l) (hp:l'.Perm l):Forest P0 W out l':=
 ⟨fun x hx=>h.ok x (hp.subset hx),(hp.pairwise_iff (fun h=>h.symm)).2 h.pair,by rw [←h.wts];exact sumL_perm (hp.map _),(hp.flatMap_right _).trans h.all,h.rest⟩
def incT (out:List Nat):List Nat→List Nat
 | []=>out
 | p::r=>incT (out.set p (out.getD p 0+1)) r
theorem incT_len:∀ (ps:List Nat) (out:List Nat),(incT out ps).length=out.length
 | [],_=>rfl
 | p::r,out=>by rw [incT,incT_len r,List.length_set]
theorem incT_snoc:∀ (ps:List Nat) (p:Nat) (out:List Nat),incT out (ps++[p])=(incT out ps).set p ((incT out ps).getD p 0+1)
 | [],_,_=>rfl
 | q::r,p,out=>incT_snoc r p _
theorem incT_other:∀ (ps:List Nat) (out:List Nat) (p:Nat),p ∉ ps→(incT out ps).getD p 0=out.getD p 0
 | [],_,_,_=>rfl
 | q::r,out,p,h=>by
   simp only [List.mem_cons,not_or] at h
   rw [incT,incT_other r _ p h.2,getD_set,if_neg (fun e=>h.1 e.1)]
theorem incT_at:∀ (ps:List Nat) (out:List Nat) (p:Nat),ps.Nodup→p∈ps→p<out.length→(incT out ps).getD p 0=out.getD p 0+1
 | q::r,out,p,hn,h,hl=>by
   rw [List.nodup_cons] at hn
   rcases List.mem_cons.1 h with e|h
   ·subst e
    rw [incT,incT_other r _ p hn.1,getD_set,if_pos ⟨rfl,hl⟩]
   ·have hpq:p≠q:=fun e=>hn.1 (e ▸ h)
    rw [incT,incT_at r _ p hn.2 h (by rw [List.length_set];exact hl),getD_set,if_neg (fun e=>hpq e.1)]
theorem allP_cons (x:Th) (l:List Th):allP (x::l)=x.ps++allP l:=rfl
theorem wtsT_cons (x:Th) (l:List Th):wtsT (x::l)=x.wt+wtsT l:=rfl
theorem Forest.merge {P0:List Nat} {W n:Nat} {out:List Nat} {l:List Th} {a b x:Th} (h:Forest P0 W out (a::b::l)) (hnd:P0.Nodup) (hlt:∀ p∈P0,p<n) (hn:out.length=n)
 (ha:∀ y∈l,leT a y) (hb:∀ y∈l,leT b y) (hw:x.wt=a.wt+b.wt) (hh:x.ht=max a.ht b.ht+1) (hps:x.ps=a.ps++b.ps):Forest P0 W (incT out x.ps) (x::l):=by
 have oa:=h.ok a (List.mem_cons_self)
 have ob:=h.ok b (List.mem_cons_of_mem _ List.mem_cons_self)
 have hpw:=h.pair
 rw [List.pairwise_cons,List.pairwise_cons] at hpw
 obtain ⟨hpa,hpb,hpl⟩:=hpw
 have hab:=hpa b (List.mem_cons_self)
 have hall:(x.ps++allP l).Perm P0:=by
  have:=h.all
  rw [allP_cons,allP_cons,←Za,←hps] at this
  exact this
 have hnall:(x.ps++allP l).Nodup:=hall.nodup_iff.2 hnd
 rw [List.nodup_append] at hnall
 obtain ⟨hnx,-,hdis⟩:=hnall
 have hxlt:∀ p∈x.ps,p<out.length:=fun p hp=>by rw [hn];exact hlt p (hall.subset (List.mem_append_left _ hp))
 have hval:∀ p∈x.ps,(incT out x.ps).getD p 0=out.getD p 0+1:=fun p hp=>incT_at x.ps out p hnx hp (hxlt p hp)
 have hoth:∀ p,p ∉ x.ps→(incT out x.ps).getD p 0=out.getD p 0:=fun p hp=>incT_other x.ps out p hp
 have hfx:fibT x.ht≤x.wt:=by
  rw [hh,hw]
  rcases Nat.le_total a.ht b.ht with hle|hle
  ·rw [Nat.max_eq_right hle]
   by_cases h0:1≤b.ht
   ·rw [fibT_succ h0];have:=ob.fib;have:=hab.2;omega
   ·have:b.ht=0:=by omega
    rw [this];have:=ob.fib;have:=fibT_pos b.ht;show 1≤_;omega
  ·rw [Nat.max_eq_left hle]
   by_cases h0:1≤a.ht
   ·rw [fibT_succ h0];have:=oa.fib;have:=hab.1;omega
   ·have:a.ht=0:=by omega
    rw [this];have:=oa.fib;have:=fibT_pos a.ht;show 1≤_;omega
 have hmapcongr:∀ (ps:List Nat) (f g:Nat→Nat),(∀ p∈ps,f p=g p)→sumL (ps.map f)=sumL (ps.map g):=fun ps f g hfg=>by rw [List.map_congr_left hfg]
 refine ⟨fun y hy=>?_,?_,?_,?_,fun p hp=>?_⟩
 ·rcases List.mem_cons.1 hy with rfl|hy
  ·refine ⟨hfx,fun p hp=>?_,fun H hH=>?_⟩
   ·rw [hval p hp,hh]
    rw [hps] at hp
    rcases List.mem_append.1 hp with hp|hp
    ·have:=oa.le p hp;omega
    ·have:=ob.le p hp;omega
   ·obtain ⟨H',rfl⟩:∃ H',H=H'+1:=⟨H-1,by omega⟩
    have e1:sumL (y.ps.map (fun p=>2^(H'+1-(incT out y.ps).getD p 0)))=sumL (y.ps.map (fun p=>2^(H'-out.getD p 0))):=
     hmapcongr _ _ _ (fun p hp=>by rw [hval p hp,Nat.add_sub_add_right])
    rw [e1]
    conv=>lhs;rw [hps]
    rw [List.map_append,sumL_append,oa.kraft H' (by omega),ob.kraft H' (by omega),Nat.pow_succ];omega
  ·have oy:=h.ok y (List.mem_cons_of_mem _ (List.mem_cons_of_mem _ hy))
   have hny:∀ p∈y.ps,p ∉ x.ps:=fun p hp hpx=>hdis p hpx p (List.mem_flatMap.2 ⟨y,hy,hp⟩) rfl
   refine ⟨oy.fib,fun p hp=>by rw [hoth p (hny p hp)];exact oy.le p hp,fun H hH=>?_⟩
   rw [←oy.kraft H hH]
   exact hmapcongr _ _ _ (fun p hp=>by rw [hoth p (hny p hp)])
 ·rw [List.pairwise_cons]
  refine ⟨fun z hz=>?_,hpl⟩
  have h1:=(ha z hz).wt
  have h2:=(hb z hz).wt
  have h3:=hpa z (List.mem_cons_of_mem _ hz)
  refine ⟨?_,by have:=h3.2;omega⟩
  rw [hh,Nat.add_sub_cancel]
  rcases Nat.le_total a.ht b.ht with hle|hle
  ·rw [Nat.max_eq_right hle];have:=ob.fib;omega
  ·rw [Nat.max_eq_left hle];have:=oa.fib;omega
 ·have:=h.wts
  rw [wtsT_cons,wtsT_cons] at this
  rw [wtsT_cons,hw];omega
 ·rw [allP_cons];exact hall
 ·rw [hoth p (fun hpx=>hp (hall.subset (List.mem_append_left _ hpx)))]
  exact h.rest p hp
def posL (l:List Nat):List Nat:=(List.range l.length).filter (fun p=>decide (0<l.getD p 0))
theorem posL_nodup (l:List Nat):(posL l).Nodup:=List.nodup_range.filter _
theorem posL_lt (l:List Nat):∀ p∈posL l,p<l.length:=fun p hp=>List.mem_range.1 (List.mem_filter.1 hp).1
structure TreeOk (counts out:List Nat):Prop where
 len:out.length=counts.length
 rest:∀ p,counts.getD p 0=0→out.getD p 0=0
 top:∃ H,fibT H≤sumL counts∧(∀ p,out.getD p 0≤H)∧(sumL ((posL counts).map (fun p=>2^(H-out.getD p 0)))=2^H∨(∃ p,posL counts=[p]∧H=1∧out.getD p 0=1))
theorem fseToward (a b:Int) (w:World):Calls Tryz.prog 140 #[.int .i64 a,.int .i64 b] w fun e w'=>e=.returned (.int .i64 (if b<a then -1 else 1))∧w'=w:=by
 go_enter Tryz.func140,Tryz.ntmps140
 by_cases h:b<a
 ·have g:decide (b<a)=true:=qT h
  go_wp2
  go_ret
  exact ⟨by simp,rfl⟩
 ·have g:decide (b<a)=false:=qF h
  go_wp2
  go_ret
  exact ⟨by simp,rfl⟩
theorem OwnN.cells {w:World} {base g n c:Nat} {l:List Nat} (h:OwnN w base (some ⟨g,0,none⟩) n c l):∀ j,j<(l.map (fun x:Nat=>(x:Int))).length→w.cell? ⟨g,0+j,none⟩=some (.int .i64 ((l.map (fun x:Nat=>(x:Int))).getD j 0)):=by
 intro j hj
 rw [List.length_map] at hj
 have hlen:=OwnN.length h
 obtain ⟨g',x,e,-,-,hx,hc,-⟩:=Own.at_ h (k:=j) (by omega)
 injection e with e
 injection e with e1
 subst e1
 rw [Nat.zero_add,hc,←hx]
 simp [List.getD,Zg hj,natv]
theorem fseShare (A:OA) (n c:Nat) (l:List Nat) (w:World) (hl:l.length=n) (hr:Ns w A l) (hn:n≤64) (hb:∀ x∈l,x≤65536) (h0:0<nz l) (h32:nz l≤32):
 Calls Tryz.prog 107 #[.slice A n c,.int .i64 6] w fun e w'=>∃ S m cs sh,e=.returned (.tuple #[.slice S m cs,.int .i64 0])∧OwnN w' w.heap.size S m cs sh∧ShareOk l sh∧Below w.heap.size w w':=by
 have HL:=Lh hl
 have HR:=Lh hr
 have HB:=Lh hb
 have HZ0:=Lh h0
 have HZ32:=Lh h32
 clear hl hr hb h0 h32
 have g0:decide ((64:Int)<(n:Int))=false:=qF (by omega)
 go_enter Tryz.func107,Tryz.ntmps107
 go_wp2
 clear g0
 go_loopg [7,8,30] n (fun gg s7 s8 s30 wr=>∃ k:Nat,k≤n∧n-k≤gg∧s7=.int .i64 ((sumL (l.take k):Nat):Int)∧s8=.int .i64 ((nz (l.take k):Nat):Int)∧s30=.int .i64 (k:Int)∧w=wr)
 case atStart=>exact ⟨0,by omega,by omega,rfl,rfl,rfl,rfl⟩
 case round=>
  obtain ⟨k,hk,hgg,rfl,rfl,rfl,rfl⟩:=hrel
  by_cases hkn:k<n
  ·obtain ⟨b,o,x,hA,hx,hc⟩:=HR.out.at_ (by rw [HL.out];exact hkn:k<l.length)
   subst hA
   have hxb:=HB.out x (List.mem_of_getElem? hx)
   have hs1:=sumL_step hx
   have hz1:=nz_step hx
   have hle:=sumL_take_le l k
   have hS:sumL (l.take k)≤65536*64:=by
    have h1:=sum_le_nz (l:=l.take k) (m:=65536) (fun y hy=>HB.out y (List.mem_of_mem_take hy))
    have h2:=nz_le (l.take k)
    have h3:(l.take k).length≤64:=by rw [List.length_take];omega
    omega
   have hZ:nz (l.take k)≤64:=by
    have h2:=nz_le (l.take k)
    have h3:(l.take k).length≤64:=by rw [List.length_take];omega
    omega
   obtain ⟨T,hT⟩:∃ T,sumL (l.take k)=T:=⟨_,rfl⟩
   obtain ⟨Z,hZZ⟩:∃ Z,nz (l.take k)=Z:=⟨_,rfl⟩
   rw [hT] at hs1 hS hle
   rw [hZZ] at hz1 hZ
   rw [hT,hZZ]
   have HS1:=Lh hs1
   have HZ1:=Lh hz1
   clear hx hs1 hz1 hle hT hZZ
   by_cases hx0:0<x
   ·have g1:decide ((0:Int)<(x:Int))=true:=qT (by omega)
    have HZ2:=Lh (show nz (l.take (k+1))=Z+1 by rw [HZ1.out,if_pos hx0])
    clear HZ1
    go_wp2
    go_roundg (n-(k+1))
    case measure=>omega
    case rel=>exact ⟨k+1,by omega,by omega,by rw [HS1.out];go_num,by rw [HZ2.out];go_num,by go_num,rfl⟩
   ·have g1:decide ((0:Int)<(x:Int))=false:=qF (by omega)
    have HZ2:=Lh (show nz (l.take (k+1))=Z by rw [HZ1.out,if_neg hx0];rfl)
    clear HZ1
    go_wp2
    go_roundg (n-(k+1))
    case measure=>omega
    case rel=>exact ⟨k+1,by omega,by omega,by rw [HS1.out];go_num,by rw [HZ2.out],by go_num,rfl⟩
  ·obtain rfl:k=n:=by omega
   have hfull:l.take k=l:=List.take_of_length_le (by rw [HL.out];exact Nat.le_refl _)
   rw [hfull]
   clear hfull
   have hT:sumL l≤65536*64:=by
    have h1:=sum_le_nz (l:=l) (m:=65536) HB.out
    have h2:=nz_le l
    rw [HL.out] at h2
    omega
   have hTpos:=nz_pos HZ0.out
   have hZ1:=HZ0.out
   have hZ2:=HZ32.out
   have HMem:=Lh (fun x (hx:x∈l)=>mem_le_sum hx)
   obtain ⟨T,hTT⟩:∃ T,sumL l=T:=⟨_,rfl⟩
   obtain ⟨Z,hZZ⟩:∃ Z,nz l=Z:=⟨_,rfl⟩
   rw [hTT] at hT hTpos HMem ⊢
   rw [hZZ] at hZ1 hZ2 ⊢
   clear hTT hZZ
   have g2:((Z:Int)==0)=false:=bF (by omega)
   have g3:decide ((32:Int)<(Z:Int))=false:=qF (by omega)
   go_wp2
   clear g2 g3
   go_loopg [11,12,58] k (fun gg s11 s12 s58 wr2=>∃ (i m co:Nat) (Ao:OA) (out:List Nat),i≤k∧k-i≤gg∧s11=.slice Ao m co∧s12=.int .i64 ((sumL out:Nat):Int)∧s58=.int .i64 (i:Int)∧OwnN wr2 w.heap.size Ao m co out∧Sh2 l i out∧Below w.heap.size w wr2)
   case atStart=>exact ⟨0,0,0,none,[],by omega,by omega,rfl,rfl,rfl,OwnN.nil _ _,⟨Nat.le_refl _,.inl rfl,fun i hi=>by omega,by simp,by simp [nz]⟩,Below.refl _ _⟩
   case round=>
    obtain ⟨i,m,co,Ao,out,hi,hgi,rfl,rfl,rfl,hown,hsh,hbel⟩:=hrel
    have hm:=OwnN.length hown
    have hmi:m≤i:=by have:=hsh.len;omega
    have hsum:=hsh.sum_le
    have HO:=Lh hown
    have HSh:=Lh hsh
    have HBel:=Lh hbel
    have HM:=Lh hm
    clear hown hsh hbel hm
    by_cases hik:i<k
    ·obtain ⟨b,o,x,hA,hx,hc⟩:=HR.out.at_ (by rw [HL.out];exact hik:i<l.length)
     subst hA
     have hc2:=(HBel.out.cell (by simpa using block_lt hc)).trans hc
     have hxb:=HB.out x (List.mem_of_getElem? hx)
     have hxT:=HMem.out x (List.mem_of_getElem? hx)
     have HX:=Lh hx
     clear hx hc
     by_cases hx0:0<x
     ·have g1:decide ((0:Int)<(x:Int))=true:=qT (by omega)
      obtain ⟨y,hy⟩:∃ y,i-m=y:=⟨_,rfl⟩
      have e1:IntKind.i64.wrap ((i:Int)-m)=(y:Int):=by rw [wrapi64 (by omega) (by omega)];omega
      go_wp2_with (at_builtin;go_loud (refine wpList_append_zeros rfl _ _ elemN .i64 .i64 Tryz.underlying3 rfl w.heap.size Ao m co (out.map natv) rfl HO.out (y+1) ?c0 ?c1 rfl ?c2 ?c3 ?c4 ?_))
      case c0=>rfl
      case c1=>omega
      case c2=>omega
      case c3=>omega
      case c4=>exact HBel.out.size
      intro A' c' w5 hown5 hb5 hgr5 _
      have HO5:=Lh (ownN_zeros hown5)
      have HB5:=Lh (HBel.out.trans hb5)
      clear hown5 hb5 hgr5 e1 hc2
      obtain ⟨g,xa,hA',hg1,hg2,-,hcg,hfg⟩:=Own.at_ HO5.out (k:=i) (by omega)
      subst hA'
      have hmi2:m+(y+1)=i+1:=by omega
      rw [hmi2]
      have i3:(0:Int)≤(i:Int):=by omega
      have i4:(i:Int)<((i+1:Nat):Int):=by omega
      go_wp2_with fail
      obtain ⟨X,hX⟩:∃ X,X=max 1 (x*64/T):=⟨_,rfl⟩
      have hX1:0<X:=by omega
      have hX2:X≤64:=by
       have h1:x*64≤T*64:=Nat.mul_le_mul_right _ hxT
       have h2:x*64/T≤64:=Nat.div_le_of_le_mul h1
       omega
      have eX:max 1 ((x:Int)*64/(T:Int))=(X:Int):=by
       have:((x:Int)*64/(T:Int))=((x*64/T:Nat):Int):=by simp
       rw [this,hX];omega
      rw [eX]
      obtain ⟨hput,hsum2⟩:=HSh.out.put HX.out hx0 hX1 hX2
      have hst:=(Own.stored HO5.out i (.int .i64 (X:Int)))
      have hpad:=pad_eq (x:=X) HSh.out.len
      rw [HM.out,hy] at hpad
      rw [HM.out,hy] at hput hsum2
      have HO6:=Lh (show OwnN (w5.setCell ⟨g,i,none⟩ (.int .i64 (X:Int))) w.heap.size (some ⟨g,0,none⟩) (i+1) c' (out++(List.replicate y 0++[X])) from by
       unfold OwnN
       rw [←hpad,List.map_set,←hmi2]
       exact hst.1)
      have HB6:=Lh (show Below w.heap.size w (w5.setCell ⟨g,i,none⟩ (.int .i64 (X:Int))) from HB5.out.setCell hg1 _)
      have HSh6:=Lh hput
      have HSum6:=Lh hsum2
      clear hst hpad hput hsum2 hX eX
      have e5:wrap64 ((sumL out:Nat)+(X:Int))=(sumL out:Nat)+(X:Int):=by unfold wrap64;omega
      rw [e5]
      go_roundg (k-(i+1))
      case measure=>omega
      case rel=>exact ⟨i+1,i+1,c',some ⟨g,0,none⟩,_,by omega,by omega,rfl,by rw [HSum6.out];go_num,by go_num,HO6.out,HSh6.out,HB6.out⟩
     ·have g1:decide ((0:Int)<(x:Int))=false:=qF (by omega)
      obtain rfl:x=0:=by omega
      have HSh2:=Lh (HSh.out.skip HX.out)
      go_wp2
      go_roundg (k-(i+1))
      case measure=>omega
      case rel=>exact ⟨i+1,m,co,Ao,out,by omega,by omega,rfl,rfl,by go_num,HO.out,HSh2.out,HBel.out⟩
    ·obtain rfl:i=k:=by omega
     have hsh3:=Sh3.of (by have h:=HSh.out;rw [←HL.out] at h;exact h) HZ0.out HZ32.out
     have HSh3:=Lh hsh3
     clear hsh3
     go_wp2
     go_loopg [12] 8192 (fun gg s12 wr3=>∃ (out:List Nat),s12=.int .i64 ((sumL out:Nat):Int)∧sumL out≤8000∧(sumL out-64)+(64-sumL out)≤gg∧OwnN wr3 w.heap.size Ao m co out∧Sh3 l out∧Below w.heap.size w wr3)
     case atStart=>exact ⟨out,rfl,by omega,by omega,HO.out,HSh3.out,HBel.out⟩
     case round=>
      clear HSh3 HSh HO HM hsum
      obtain ⟨sh,rfl,hs,hgs,hown,hsh,hbel⟩:=hrel
      have HO:=Lh hown
      have HSh:=Lh hsh
      have HB3:=Lh hbel
      have HM:=Lh (OwnN.length hown)
      clear hown hsh hbel
      by_cases h64:sumL sh=64
      ·have HS:=Lh h64
       rw [h64]
       clear h64
       go_wp2
       go_ret2
       exact ⟨Ao,m,co,sh,rfl,HO.out,⟨HS.out,HSh.out.len,HSh.out.last,HSh.out.has⟩,HB3.out⟩
      ·have g6:(((sumL sh:Nat):Int) != 64)=true:=bne_iff_ne.2 (by omega)
       obtain ⟨M,hM1,hM2,hM3⟩:=maxOf_nat HSh.out.ne
       obtain ⟨ix,hix,hixM,hidx⟩:=idx_facts hM3
       have hM0:=HSh.out.max_pos hM2
       have hMt:=HSh.out.max_two hM2
       have hMs:=mem_le_sum hM3
       have hlm:=HM.out
       obtain ⟨g,xa,hAo,hg1,hg2,hxa,hcg,hfg⟩:=Own.at_ HO.out (k:=ix) (by omega)
       subst hAo
       have hcell:=OwnN.cells HO.out
       have hlen2:(sh.map (fun x:Nat=>(x:Int))).length=m:=by rw [List.length_map];exact hlm
       have htk:(sh.map (fun x:Nat=>(x:Int))).take m=sh.map (fun x:Nat=>(x:Int)):=List.take_of_length_le (by omega)
       have HMax:=Lh (by have h:=Tryz.slices_Max_int g 0 m co _ wr.drew (by omega) (by omega) (by omega) hcell;rw [htk,hM1] at h;exact h:Calls Tryz.prog 142 #[.slice (some ⟨g,0,none⟩) m co] wr.drew fun e w'=>e=.returned (.int .i64 (M:Int))∧w'=wr.drew)
       have HIdx:=Lh (by have h:=Tryz.slices_Index_int g 0 m co _ (M:Int) wr.drew (by omega) (by omega) hcell;rw [htk,hidx] at h;exact h:Calls Tryz.prog 141 #[.slice (some ⟨g,0,none⟩) m co,.int .i64 (M:Int)] wr.drew fun e w'=>e=.returned (.int .i64 (ix:Int))∧w'=wr.drew)
       have hxv:xa=.int .i64 (M:Int):=by
        rw [List.getElem?_map,Zg (by omega)] at hxa
        rw [←Option.some.inj hxa]
        simp only [List.getD,Zg (show ix<sh.length by omega),Option.getD_some] at hixM
        rw [hixM];rfl
       subst hxv
       clear hcell hlen2 htk hM1 hidx hxa
       have HSet:=Lh (fun x (hx:0<x)=>HSh.out.set (k:=ix) (x:=x) hix (by rw [hixM];exact hM0) hx)
       have HSumS:=Lh (fun x=>by have h:=sum_set sh ix x hix;rw [hixM] at h;exact h:∀ x,sumL (sh.set ix x)+M=sumL sh+x)
       obtain ⟨S,hS⟩:∃ S,sumL sh=S:=⟨_,rfl⟩
       rw [hS] at h64 hMt hMs hs hgs g6 HSumS ⊢
       clear hS hM2 hM3 hixM
       have i1:(0:Int)≤(ix:Int):=by omega
       have i2:(ix:Int)<(m:Int):=by omega
       have HTw:=Lh (fseToward (S:Int) 64 wr.drew)
       obtain ⟨D,hD⟩:∃ D:Int,D=(if (64:Int)<(S:Int) then -1 else 1):=⟨_,rfl⟩
       rw [←hD] at HTw
       have HTw2:=Lh (fun wq=>(by have h:=fseToward (S:Int) 64 wq;rw [←hD] at h;exact h:Calls Tryz.prog 140 #[.int .i64 (S:Int),.int .i64 64] wq fun e w'=>e=.returned (.int .i64 D)∧w'=wq))
       go_wp2_with fail
       have HD:=Lh hD
       clear hD
       have hcg':wr.drew.cell? ⟨g,ix,none⟩=some (.int .i64 (M:Int)):=hcg
       have hfg':wr.drew.frozen? ⟨g,ix,none⟩=false:=hfg
       refine wp_region_still_tail 12 (by kernel_rfl) (by kernel_rfl) ?_
       simp only [List.take_succ_cons,List.take_zero,List.drop_succ_cons,List.drop_zero]
       repeat still_step
       still_call HMax.out
       still_call HIdx.out
       repeat still_step
       still_call HTw.out
       repeat still_step
       refine wpStill_nil ?_
       change wpList _ _ _ _ _ wr.drew
       obtain ⟨X,S2,hX1,hX0,hS1,hSX,hS2,hdist⟩:∃ X S2:Nat,(M:Int)+D=(X:Int)∧0<X∧(S:Int)+D=(S2:Int)∧S2+M=S+X∧S2≤8000∧(S2-64)+(64-S2)<(S-64)+(64-S):=by
        have hD:=HD.out
        by_cases h:(64:Int)<(S:Int)
        ·rw [if_pos h] at hD
         have:=hMt (by omega)
         exact ⟨M-1,S-1,by omega,by omega,by omega,by omega,by omega,by omega⟩
        ·rw [if_neg h] at hD
         exact ⟨M+1,S+1,by omega,by omega,by omega,by omega,by omega,by omega⟩
       have eX:IntKind.i64.wrap ((M:Int)+D)=(X:Int):=by rw [hX1];exact wrapi64 (by omega) (by omega)
       have eX2:wrap64 ((M:Int)+D)=(X:Int):=by rw [hX1];unfold wrap64;omega
       have eS:IntKind.i64.wrap ((S:Int)+D)=(S2:Int):=by rw [hS1];exact wrapi64 (by omega) (by omega)
       have eS2:wrap64 ((S:Int)+D)=(S2:Int):=by rw [hS1];unfold wrap64;omega
       have HSX:=Lh (by have h:=HSumS.out X;omega:sumL (sh.set ix X)=S2)
       have HSh6:=Lh (HSet.out X hX0)
       have HO6:=Lh (show OwnN (wr.drew.setCell ⟨g,ix,none⟩ (.int .i64 (X:Int))) w.heap.size (some ⟨g,0,none⟩) m co (sh.set ix X) from by
        unfold OwnN
        rw [List.map_set]
        exact (Own.stored (Own.drew HO.out) ix _).1)
       have HB6:=Lh (show Below w.heap.size w (wr.drew.setCell ⟨g,ix,none⟩ (.int .i64 (X:Int))) from (HB3.out.drew).setCell hg1 _)
       clear hX1 hS1 HD HMax HIdx HTw HSet HSumS
       go_wp2_with fail
       have HT3:=Lh (HTw2.out (wr.drew.setCell ⟨g,ix,none⟩ (.int .i64 (X:Int))))
       refine HT3.out.mono ?_
       rintro e w7 ⟨rfl,rfl⟩
       clear HT3
       go_wp2
       go_roundg ((S2-64)+(64-S2))
       case measure=>omega
       case rel=>exact ⟨_,by rw [HSX.out],by rw [HSX.out];exact hS2,by rw [HSX.out];exact Nat.le_refl _,HO6.out,HSh6.out,HB6.out⟩
theorem flushW_facts:∀ (f:Nat) (bs:List UInt8) (acc n:Nat),acc<2^n→n<8*(f+1)→(flushW f bs acc n).2.2<8∧(flushW f bs acc n).2.1<2^(flushW f bs acc n).2.2∧8*(flushW f bs acc n).1.length+(flushW f bs acc n).2.2=8*bs.length+n
 | 0,bs,acc,n,h,hn=>⟨by simpa [flushW] using hn,h,rfl⟩
 | f+1,bs,acc,n,h,hn=>by
   rw [flushW]
   by_cases h8:8≤n
   ·rw [if_pos h8]
    have h2:acc/256<2^(n-8):=by
     obtain ⟨m,rfl⟩:∃ m,n=m+8:=⟨n-8,by omega⟩
     rw [Nat.pow_add] at h
     rw [Nat.add_sub_cancel]
     generalize 2^m=p at *
     omega
    obtain ⟨h3,h4,h5⟩:=flushW_facts f (bs++[UInt8.ofNat acc]) (acc/256) (n-8) h2 (by omega)
    refine ⟨h3,h4,?_⟩
    rw [h5]
    simp only [Zl,List.length_singleton]
    omega
   ·rw [if_neg h8]
    exact ⟨show n<8 by omega,h,rfl⟩
theorem put_sum {acc n k v:Nat} (hacc:acc<2^n) (hv:v<2^k):acc+v*2^n<2^(n+k):=by
 rw [Nat.pow_add,Nat.mul_comm (2^n)]
 have h1:(v+1)*2^n≤2^k*2^n:=Nat.mul_le_mul_right _ (by omega)
 rw [Nat.add_mul,Nat.one_mul] at h1
 omega
theorem newWriter (w:World):Calls Tryz.prog 110 #[] w fun e w'=>e=.returned (.pointer (some ⟨w.heap.size,0,none⟩))∧IsWr w' w.heap.size w.heap.size [] 0 0 none 0∧Below w.heap.size w w':=by
 go_enter Tryz.func110,Tryz.ntmps110
 go_wp2
 go_ret
 exact ⟨rfl,⟨Blk.new w 248 _,OwnB.nil _ _,Nat.le_refl _,by simp⟩,(Below.refl _ _).alloc nL _⟩
def bytesW (bs:List UInt8) (acc n:Nat):List UInt8:=if 0<n then bs++[UInt8.ofNat acc] else bs
theorem wrBytes (B g:Nat) (bs:List UInt8) (acc n:Nat) (A:OA) (c:Nat) (w:World) (h:IsWr w B g bs acc n A c) (hn:n<8) (hacc:acc<2^n) (hlen:bs.length≤1000000000000):
 Calls Tryz.prog 112 #[.pointer (some ⟨g,0,none⟩)] w fun e w'=>∃ A' m c',e=.returned (.slice A' m c')∧OwnB w' w.heap.size A' m c' (bytesW bs acc n)∧Below w.heap.size w w':=by
 have c0:=h.blk.cell 0
 have c2:=h.blk.cell 2
 simp only [Zt,Zz,Zs] at c0 c2
 have HH:=Lh h
 have hlt:=h.blk.lt
 have HBs:=Lh (OwnB.bs h.own)
 have h256:acc<256:=by
  have hp:2^n≤128:=(Nat.pow_le_pow_right (by omega) (by omega):2^n≤2^7)
  omega
 clear h hacc
 obtain ⟨lb,hlb⟩:∃ lb,bs.length=lb:=⟨_,rfl⟩
 rw [hlb] at c0 hlen
 have HLB:=Lh hlb
 clear hlb
 go_enter Tryz.func112,Tryz.ntmps112
 go_wp2_with (at_builtin;refine wpList_append_rd rfl _ _ elemB rfl w.heap.size none 0 0 [] rfl (Own.nil _ _ _) A lb c (bs.map u8v) rfl HBs.out ?h1 (u8_one _) ?h2 ?h3 ?hb ?_)
 case h1=>rw [List.length_map];exact HLB.out
 case h2=>omega
 case h3=>omega
 case hb=>exact Nat.le_refl _
 intro A1 c1 w1 hown1 hb1 hg1 hat1
 have HO1:=Lh (show OwnB w1 w.heap.size A1 lb c1 bs from hown1)
 have HB1:=Lh hb1
 have hk:=HH.out.blk.later hb1
 have d1:=hk.cell 1
 have d2:=hk.cell 2
 simp only [Zt,Zz,Zs] at d1 d2
 clear hown1 hb1 hg1 hat1 hk c0 c2
 by_cases hn0:0<n
 ·have HD:=Lh (show bytesW bs acc n=bs++[UInt8.ofNat acc] from if_pos hn0)
  go_wp2_with (at_builtin;refine wpList_append_one rfl _ _ elemB rfl w.heap.size A1 lb c1 (bs.map u8v) w1 (.int .u8 (acc:Int)) rfl rfl HO1.out rfl rfl ?d1 ?d2 ?d3 ?_)
  case d1=>omega
  case d2=>omega
  case d3=>exact HB1.out.size
  intro A3 c3 w3 hown3 hb3 hgr3 hat3
  have HO3:=Lh (ownB_snoc (b:=UInt8.ofNat acc) hown3 (by rw [UInt8.toNat_ofNat'];omega))
  have HB3:=Lh (HB1.out.trans hb3)
  clear hown3 hb3 hgr3 hat3
  go_wp2
  go_ret
  exact ⟨A3,lb+1,c3,rfl,by rw [HD.out];exact HO3.out,HB3.out⟩
 ·have HD:=Lh (show bytesW bs acc n=bs from if_neg hn0)
  go_wp2
  go_ret
  exact ⟨A1,lb,c1,rfl,by rw [HD.out];exact HO1.out,HB1.out⟩
def markedW (bs:List UInt8) (acc n:Nat):List UInt8:=bytesW (flushW 5 bs (acc+1*2^n) (n+1)).1 (flushW 5 bs (acc+1*2^n) (n+1)).2.1 (flushW 5 bs (acc+1*2^n) (n+1)).2.2
theorem wrMarked (B g:Nat) (bs:List UInt8) (acc n:Nat) (A:OA) (c:Nat) (w:World) (h:IsWr w B g bs acc n A c) (hn:n<8) (hacc:acc<2^n) (hlen:bs.length≤100000000000):
 Calls Tryz.prog 148 #[.pointer (some ⟨g,0,none⟩)] w fun e w'=>∃ A' m c',e=.returned (.slice A' m c')∧OwnB w' w.heap.size A' m c' (markedW bs acc n)∧Below w.heap.size w w':=by
 have c0:=h.blk.cell 0
 have c1:=h.blk.cell 1
 have c2:=h.blk.cell 2
 simp only [Zt,Zz,Zs] at c0 c1 c2
 have HH:=Lh h
 have hlt:=h.blk.lt
 have HBs:=Lh (OwnB.bs h.own)
 obtain ⟨lb,hlb⟩:∃ lb,bs.length=lb:=⟨_,rfl⟩
 rw [hlb] at c0
 have HLB:=Lh hlb
 have HAcc:=Lh hacc
 clear h hlb hacc
 go_enter Tryz.func148,Tryz.ntmps148
 go_wp2_with (at_builtin;refine wpList_append_rd rfl _ _ elemB rfl w.heap.size none 0 0 [] rfl (Own.nil _ _ _) A lb c (bs.map u8v) rfl ?h0 ?h1 (u8_one _) ?h2 ?h3 ?hb ?_)
 case h0=>exact Rd.alloc HBs.out _
 case h1=>rw [List.length_map];exact HLB.out
 case h2=>have:=HLB.out;omega
 case h3=>have:=HLB.out;omega
 case hb=>simp
 intro A1 c1' w1 hown1 hb1 hg1 hat1
 have HO1:=Lh (show OwnB w1 w.heap.size A1 lb c1' bs from hown1)
 have HB1:=Lh (((Below.refl w.heap.size w).alloc nL (.cells #[.slice A lb c,.int .u64 (acc:Int),.int .i64 (n:Int)] 248)).trans hb1)
 have HK1:=Lh ((Blk.new w 248 #[.slice A lb c,.int .u64 (acc:Int),.int .i64 (n:Int)]).kept hg1 (by simp [bk]))
 have d0:=HK1.out.cell 0
 simp only [Zt,Zz,Zs] at d0
 have f0:=HK1.out.frozen 0
 have HW2:=Lh (show IsWr (w1.setCell ⟨w.heap.size,0,none⟩ (.slice A1 lb c1')) w.heap.size w.heap.size bs acc n A1 c1' from
  ⟨by rw [HLB.out];exact HK1.out.set 0 _,by rw [HLB.out];exact Own.kept HO1.out (grown_set w1 ⟨w.heap.size,0,none⟩ _) (.inr (Own.ne_blk HO1.out HK1.out (by decide))),Nat.le_refl _,by have:=HB1.out.size;simpa [World.setCell] using this⟩)
 have HB2:=Lh (show Below w.heap.size w (w1.setCell ⟨w.heap.size,0,none⟩ (.slice A1 lb c1')) from HB1.out.setCell nL _)
 clear hown1 hb1 hg1 hat1 c0 c1 c2
 have HPut:=Lh (show Calls Tryz.prog 111 #[.pointer (some ⟨w.heap.size,0,none⟩),.int .i64 1,.int .i64 1] (w1.setCell ⟨w.heap.size,0,none⟩ (.slice A1 lb c1')) _ from
  wrPut w.heap.size w.heap.size bs acc n A1 c1' 1 1 _ HW2.out hn HAcc.out (by omega) (by omega) (by omega))
 have hsum:=put_sum (k:=1) (v:=1) HAcc.out (by omega)
 obtain ⟨hf1,hf2,hf3⟩:=flushW_facts 5 bs (acc+1*2^n) (n+1) hsum (by omega)
 have HD:=Lh (show markedW bs acc n=bytesW (flushW 5 bs (acc+1*2^n) (n+1)).1 (flushW 5 bs (acc+1*2^n) (n+1)).2.1 (flushW 5 bs (acc+1*2^n) (n+1)).2.2 from rfl)
 generalize flushW 5 bs (acc+1*2^n) (n+1)=F at *
 obtain ⟨bs2,acc2,n2⟩:=F
 simp only at hf1 hf2 hf3 HPut HD
 have HF2:=Lh hf2
 clear hsum hf2
 go_wp2_with fail
 refine HPut.out.mono ?_
 rintro e w3 ⟨rfl,hb3,-,A3,c3,hw3,-⟩
 have HBy:=Lh (wrBytes w.heap.size w.heap.size bs2 acc2 n2 A3 c3 w3 hw3 hf1 HF2.out (by omega))
 have HB3:=Lh (HB2.out.trans hb3)
 clear hb3 hw3 HPut d0 f0
 go_wp2_with fail
 refine HBy.out.mono ?_
 rintro e w4 ⟨A4,m4,c4,rfl,hown4,hb4⟩
 have HB4:=Lh (HB3.out.trans (hb4.mono HB3.out.size))
 have HO4:=Lh (Own.mono hown4 HB3.out.size)
 clear hown4 hb4
 go_wp2
 go_ret
 exact ⟨A4,m4,c4,rfl,by rw [HD.out];exact HO4.out,HB4.out⟩
end Go.Proofs.YtiihiocgbfafaaaGreat
