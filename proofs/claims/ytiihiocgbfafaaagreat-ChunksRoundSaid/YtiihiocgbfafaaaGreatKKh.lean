/- F3 F4a F4 F5 -/
import Derived.Test.YtiihiocgbfafaaaGreatKKb
set_option linter.unusedSimpArgs false
set_option linter.unusedVariables false
set_option maxHeartbeats 8000000
set_option maxRecDepth 100000
namespace Go.Proofs.YtiihiocgbfafaaaGreat
open Go.RowKit
def Cells (w:World) (g:Nat) (t:TypeId) (n:Nat) (F:Nat→Value):Prop:=∃ cs,Blk w g t cs∧cs.size=n∧∀ i,i<n→cs[i]? = some (F i)
theorem Cells.cell {w:World} {g n:Nat} {t:TypeId} {F:Nat→Value} (h:Cells w g t n F) {i:Nat} (hi:i<n):w.cell? ⟨g,i,none⟩=some (F i):=by
 obtain ⟨cs,h1,-,h3⟩:=h
 rw [h1.cell,h3 i hi]
theorem Cells.frozen {w:World} {g n:Nat} {t:TypeId} {F:Nat→Value} (h:Cells w g t n F) (i:Nat):w.frozen? ⟨g,i,none⟩=false:=by
 obtain ⟨cs,h1,-⟩:=h
 exact h1.frozen i
theorem Cells.lt {w:World} {g n:Nat} {t:TypeId} {F:Nat→Value} (h:Cells w g t n F):g<w.heap.size:=by
 obtain ⟨cs,h1,-⟩:=h
 exact h1.lt
theorem Cells.kept {w w':World} {row:Option Nat} {g n:Nat} {t:TypeId} {F:Nat→Value} (h:Cells w g t n F) (hg:w.grownBy w' row) (hne:row≠some g):Cells w' g t n F:=by
 obtain ⟨cs,h1,h2⟩:=h
 exact ⟨cs,h1.kept hg hne,h2⟩
theorem Cells.later {w w':World} {g n:Nat} {t:TypeId} {F:Nat→Value} (h:Cells w g t n F) (hb:Below w.heap.size w w'):Cells w' g t n F:=by
 obtain ⟨cs,h1,h2⟩:=h
 exact ⟨cs,h1.later hb,h2⟩
theorem Cells.ext {w:World} {g n:Nat} {t:TypeId} {F F':Nat→Value} (h:Cells w g t n F) (e:∀ i,i<n→F i=F' i):Cells w g t n F':=by
 obtain ⟨cs,h1,h2,h3⟩:=h
 exact ⟨cs,h1,h2,fun i hi=>by rw [h3 i hi,e i hi]⟩
theorem Cells.set {w:World} {g n:Nat} {t:TypeId} {F:Nat→Value} (h:Cells w g t n F) (i:Nat) (v:Value):Cells (w.setCell ⟨g,i,none⟩ v) g t n (fun j=>if j=i then v else F j):=by
 obtain ⟨cs,h1,h2,h3⟩:=h
 refine ⟨_,h1.set i v,by simpa using h2,fun j hj=>?_⟩
 rw [Array.getElem?_setIfInBounds]
 by_cases hij:i=j
 ·subst hij
  rw [if_pos rfl,if_pos (by omega)]
  simp
 ·rw [if_neg hij,h3 j hj]
  have:¬j=i:=fun e=>hij e.symm
  simp [this]
theorem Cells.set_other {w:World} {g n:Nat} {t:TypeId} {F:Nat→Value} (h:Cells w g t n F) {i j:Nat} (hij:i≠j) (hj:j<n) (v:Value):(w.setCell ⟨g,i,none⟩ v).cell? ⟨g,j,none⟩=w.cell? ⟨g,j,none⟩:=by
 rw [(h.set i v).cell hj,h.cell hj]
 have:¬j=i:=fun e=>hij e.symm
 simp [this]
theorem Cells.new (w:World) (t:TypeId) (cs:Array Value) {n:Nat} {F:Nat→Value} (h2:cs.size=n) (h3:∀ i,i<n→cs[i]? = some (F i)):Cells (w.alloc (.cells cs t)) w.heap.size t n F:=⟨cs,Blk.new w t cs,h2,h3⟩
theorem Cells.ne_own {w:World} {base m c g n:Nat} {e t:TypeId} {A:OA} {xs:List Value} {F:Nat→Value} (h:Cells w g t n F) (ho:Own w base e A m c xs) (hne:e≠t):bk A≠some g:=by
 obtain ⟨cs,h1,-⟩:=h
 exact Own.ne_blk ho h1 hne
theorem Cells.ne_blk {w:World} {g g' n:Nat} {t t':TypeId} {cs:Array Value} {F:Nat→Value} (h:Cells w g t n F) (ho:Blk w g' t' cs) (hne:t≠t'):g≠g':=by
 obtain ⟨cs',h1,-⟩:=h
 exact Blk.ne h1 ho hne
def symL:List Nat→Nat→List Nat
 | [],_=>[]
 | n::r,s=>List.replicate n s++symL r (s+1)
theorem symL_len:∀ (l:List Nat) (s:Nat),(symL l s).length=sumL l
 | [],_=>rfl
 | n::r,s=>by rw [symL,Zl,List.length_replicate,symL_len r,sumL]
theorem symL_at:∀ (l:List Nat) (o s n i:Nat),l[s]? = some n→i<n→(symL l o)[sumL (l.take s)+i]? = some (o+s)
 | [],_,_,_,_,h,_=>by simp at h
 | m::r,o,0,n,i,h,hi=>by
   obtain rfl:m=n:=by simpa using h
   rw [symL,List.take_zero,sumL,Nat.zero_add,List.getElem?_append_left (by simpa using hi)]
   simp [hi]
 | m::r,o,s+1,n,i,h,hi=>by
   have:=symL_at r (o+1) s n i (by simpa using h) hi
   rw [symL,List.take_succ_cons,sumL,List.getElem?_append_right (by simp;omega),List.length_replicate]
   rw [show m+sumL (r.take s)+i-m=sumL (r.take s)+i by omega,this]
   congr 1;omega
theorem symL_mem:∀ (l:List Nat) (o x:Nat),x∈symL l o→o≤x∧x<o+l.length∧∃ n,l[x-o]? = some n∧0<n
 | [],_,_,h=>by simp [symL] at h
 | m::r,o,x,h=>by
   rw [symL] at h
   rcases List.mem_append.1 h with h|h
   ·have:=List.mem_replicate.1 h
    obtain ⟨h0,rfl⟩:=this
    exact ⟨Nat.le_refl _,by simp,m,by simp,by omega⟩
   ·obtain ⟨h1,h2,n,h3,h4⟩:=symL_mem r (o+1) x h
    refine ⟨by omega,by rw [List.length_cons];omega,n,?_,h4⟩
    rw [show x-o=(x-(o+1))+1 by omega]
    simpa using h3
def symOf (l:List Nat) (q:Nat):Nat:=(symL l 0).getD ((3*q)%64) 0
def nxt (l:List Nat):Nat→List Nat
 | 0=>l
 | p+1=>(nxt l p).set (symOf l p) ((nxt l p).getD (symOf l p) 0+1)
def nOf (l:List Nat) (p:Nat):Nat:=(nxt l p).getD (symOf l p) 0
def bitsOf (l:List Nat) (p:Nat):Nat:=7-Lib.bitLen (nOf l p)
def baseOf (l:List Nat) (p:Nat):Nat:=nOf l p*2^bitsOf l p-64
def toL (l:List Nat):Nat→Nat→List Nat
 | 0,_=>[]
 | p+1,s=>if symOf l p=s then toL l p s++[p] else toL l p s
theorem nxt_len (l:List Nat):∀ p,(nxt l p).length=l.length
 | 0=>rfl
 | p+1=>by rw [nxt,List.length_set,nxt_len l p]
theorem toL_len (l:List Nat) (s:Nat):∀ p,(toL l p s).length≤p
 | 0=>Nat.le_refl _
 | p+1=>by have:=toL_len l s p;rw [toL];split<;>simp<;>omega
theorem toL_lt (l:List Nat) (s:Nat):∀ p,∀ x∈toL l p s,x<p
 | 0=>fun x h=>by simp [toL] at h
 | p+1=>fun x h=>by
   rw [toL] at h
   split at h
   ·rcases List.mem_append.1 h with h|h
    ·have:=toL_lt l s p x h;omega
    ·rw [List.mem_singleton.1 h];omega
   ·have:=toL_lt l s p x h;omega
theorem nxt_get (l:List Nat) (s:Nat) (hs:s<l.length):∀ p,(nxt l p).getD s 0=l.getD s 0+(toL l p s).length
 | 0=>by simp [nxt,toL]
 | p+1=>by
   have h:=nxt_get l s hs p
   have hl:=nxt_len l p
   rw [nxt,toL]
   by_cases e:symOf l p=s
   ·rw [if_pos e,e,Zl,List.length_singleton,←Nat.add_assoc,←h]
    simp [List.getD,List.getElem?_set,hl,hs]
   ·rw [if_neg e,←h]
    simp [List.getD,List.getElem?_set,e]
theorem symOf_lt {l:List Nat} (h:sumL l=64) {q:Nat} (_hq:q<64):symOf l q<l.length∧0<l.getD (symOf l q) 0:=by
 have h1:(3*q)%64<(symL l 0).length:=by rw [symL_len,h];omega
 have hm:symOf l q∈symL l 0:=by
  unfold symOf
  simp [List.getD,Zg h1]
 obtain ⟨-,h2,n,h3,h4⟩:=symL_mem l 0 _ hm
 rw [Nat.sub_zero] at h3
 exact ⟨by omega,by simp [List.getD,h3];exact h4⟩
theorem le_sumL {l:List Nat} {x:Nat} (h:x∈l):x≤sumL l:=by
 induction l with
 | nil=>simp at h
 | cons k r ih=>
   rw [sumL]
   rcases List.mem_cons.1 h with rfl|h
   ·omega
   ·have:=ih h;omega
theorem nOf_bounds {l:List Nat} (h:sumL l=64) {p:Nat} (hp:p<64):1≤nOf l p∧nOf l p≤127:=by
 obtain ⟨h1,h2⟩:=symOf_lt h hp
 have h3:=nxt_get l _ h1 p
 have h4:=toL_len l (symOf l p) p
 have h5:l.getD (symOf l p) 0≤64:=by
  rw [←h]
  apply le_sumL
  simp [List.getD,Zg h1]
 unfold nOf
 omega
theorem len7:∀ x:Fin 128,x.val≠0→1≤Lib.bitLen x.val∧Lib.bitLen x.val≤7∧64≤x.val*2^(7-Lib.bitLen x.val)∧(x.val+1)*2^(7-Lib.bitLen x.val)≤128:=by decide +kernel
theorem place_facts {l:List Nat} (h:sumL l=64) {p:Nat} (hp:p<64):1≤Lib.bitLen (nOf l p)∧Lib.bitLen (nOf l p)≤7∧bitsOf l p≤6∧64≤nOf l p*2^bitsOf l p∧(nOf l p+1)*2^bitsOf l p≤128:=by
 obtain ⟨h1,h2⟩:=nOf_bounds h hp
 have:=len7 ⟨nOf l p,by omega⟩ (by simp;omega)
 simp only at this
 unfold bitsOf
 exact ⟨this.1,this.2.1,by omega,this.2.2.1,this.2.2.2⟩
theorem base_facts {l:List Nat} (h:sumL l=64) {p m:Nat} (hp:p<64) (hm:m<2^bitsOf l p):baseOf l p+m<64:=by
 obtain ⟨-,-,-,h1,h2⟩:=place_facts h hp
 unfold baseOf
 rw [Nat.add_mul] at h2
 omega
def G1 (l:List Nat) (t i:Nat):Value:=
 if i=1600 then .int .i64 64 else if 1536≤i then .slice none 0 0 else if i%3=0∧i<192∧i%64<t then .int .i64 ((symL l 0).getD (i%64) 0:Nat) else .int .i64 0
theorem G1_step (l:List Nat) {t s:Nat} (ht:t<64) (hs:(symL l 0)[t]? = some s) (i:Nat) (_hi:i<1601):(if i=43*t%64*3 then Value.int .i64 (s:Int) else G1 l t i)=G1 l (t+1) i:=by
 unfold G1
 by_cases h1:i=1600
 ·subst h1;rw [if_neg (by omega)];simp
 ·by_cases h2:1536≤i
  ·rw [if_neg (by omega)];simp [h1,h2]
  ·by_cases h3:i=43*t%64*3
   ·rw [if_pos h3,if_neg h1,if_neg h2,if_pos (by omega),show i%64=t by omega]
    simp [List.getD,hs]
   ·rw [if_neg h3,if_neg h1,if_neg h2,if_neg h1,if_neg h2]
    by_cases h4:i%3=0∧i<192∧i%64<t
    ·rw [if_pos h4,if_pos (by omega)]
    ·rw [if_neg h4,if_neg (by omega)]
theorem zero_gen (p q:Nat) (u v z y:Value):((List.replicate p u++(List.replicate q v++[z])).toArray.setIfInBounds (p+q) y).size=p+q+1 ∧
 ∀ i,i<p+q+1→((List.replicate p u++(List.replicate q v++[z])).toArray.setIfInBounds (p+q) y)[i]? = some (if i=p+q then y else if p≤i then v else u):=by
 constructor
 ·simp;omega
 ·intro i hi
  rw [Array.getElem?_setIfInBounds]
  by_cases h1:i=p+q
  ·subst h1;simp
  ·rw [if_neg (fun e=>h1 e.symm),if_neg h1,Zt]
   by_cases h2:p≤i
   ·rw [if_pos h2,List.getElem?_append_right (by simpa using h2),List.length_replicate,List.getElem?_append_left (by simp;omega),List.getElem?_replicate,if_pos (by omega)]
   ·rw [if_neg h2,List.getElem?_append_left (by simp;omega),List.getElem?_replicate,if_pos (by omega)]
theorem zero_table:Tryz.zeroCells243=(List.replicate 1536 (Value.int .i64 0)++(List.replicate 64 (Value.slice none 0 0)++[Value.int .i64 0])).toArray:=by kernel_rfl
theorem zero_table_at (l:List Nat):(Tryz.zeroCells243.setIfInBounds 1600 (.int .i64 64)).size=1601∧∀ i,i<1601→(Tryz.zeroCells243.setIfInBounds 1600 (.int .i64 64))[i]? = some (G1 l 0 i):=by
 rw [zero_table]
 obtain ⟨h1,h2⟩:=zero_gen 1536 64 (Value.int .i64 0) (Value.slice none 0 0) (Value.int .i64 0) (Value.int .i64 64)
 refine ⟨h1,fun i hi=>(h2 i hi).trans ?_⟩
 unfold G1
 show some (if i=1600 then _ else _)=_
 by_cases e:i=1600
 ·rw [if_pos e,if_pos e]
 ·rw [if_neg e,if_neg e]
  by_cases e2:1536≤i
  ·rw [if_pos e2,if_pos e2]
  ·rw [if_neg e2,if_neg e2,if_neg (by omega)]
theorem own_form {w:World} {base n:Nat} {e:TypeId} {v:Value} {xs:List Value} (h:w.ownsRow base e 1 v n xs):∃ A c,v=.slice A n c∧Own w base e A n c xs:=by
 rcases h.2 with ⟨hv,h0⟩|⟨g,cap,cur,hv,-⟩
 ·subst h0;subst hv;exact ⟨none,0,rfl,h⟩
 ·subst hv;exact ⟨_,_,rfl,h⟩
def G3 (l:List Nat) (p:Nat) (As:Nat→OA) (cs:Nat→Nat) (i:Nat):Value:=
 if i=1600 then .int .i64 64 else if 1536≤i then .slice (As (i-1536)) (toL l p (i-1536)).length (cs (i-1536))
 else if 192≤i then .int .i64 0 else if i%3=0 then .int .i64 (symOf l (i/3):Nat) else if i%3=1 then .int .i64 ((if i/3<p then bitsOf l (i/3) else 0:Nat):Int)
 else .int .i64 ((if i/3<p then baseOf l (i/3) else 0:Nat):Int)
theorem G1_G3 (l:List Nat) (i:Nat) (_hi:i<1601):G1 l 64 i=G3 l 0 (fun _=>none) (fun _=>0) i:=by
 unfold G1 G3
 by_cases h1:i=1600
 ·rw [if_pos h1,if_pos h1]
 ·rw [if_neg h1,if_neg h1]
  by_cases h2:1536≤i
  ·rw [if_pos h2,if_pos h2];simp [toL]
  ·rw [if_neg h2,if_neg h2]
   by_cases h3:192≤i
   ·rw [if_pos h3,if_neg (by omega)]
   ·rw [if_neg h3]
    by_cases h4:i%3=0
    ·rw [if_pos h4,if_pos (by omega)]
     unfold symOf
     rw [show 3*(i/3)=i by omega]
    ·rw [if_neg h4,if_neg (by omega)];simp
structure TabR (w:World) (base:Nat) (l:List Nat) (p g:Nat) (As:Nat→OA) (cs:Nat→Nat) (An:OA) (cn:Nat):Prop where
 cells:Cells w g 243 1601 (G3 l p As cs)
 rows:∀ s,s<64→OwnN w base (As s) (toL l p s).length (cs s) (toL l p s)
 sep:∀ s s',s<64→s'<64→s≠s'→bk (As s)=none∨bk (As s)≠bk (As s')
 next:OwnN w base An l.length cn (nxt l p)
 sepn:∀ s,s<64→bk (As s)=none∨bk (As s)≠bk An
theorem place_pw {l:List Nat} {p k bt:Nat} (h:sumL l=64) (hp:p<64) (hk:nOf l p=k) (hbt:bt=bitsOf l p):
 ∃ pw,pw=k*2^bt∧64≤pw∧pw≤128∧baseOf l p=pw-64:=by
 obtain ⟨-,-,-,h1,h2⟩:=place_facts h hp
 unfold baseOf
 rw [hk,←hbt] at *
 rw [Nat.add_mul] at h2
 exact ⟨_,rfl,h1,by omega,rfl⟩
theorem shl_lem {k bt pw:Nat} (h:pw=k*2^bt) (h1:64≤pw) (h2:pw≤128):IntKind.i64.wrap (IntKind.i64.wrap ((k:Int)*2^bt)-64)=((pw-64:Nat):Int):=by
 have e:(k:Int)*2^bt=(pw:Int):=by rw [h];simp
 rw [e,wrapi64_nat (by omega),wrapi64 (by omega) (by omega)]
 omega
theorem clone_nat (b o n c:Nat) (l:List Nat) (w:World) (hl:l.length=n) (hr:Ns w (some ⟨b,o,none⟩) l) (hn:n≤1000000000) (hn0:0<n):
 Calls Tryz.prog 170 #[.slice (some ⟨b,o,none⟩) n c] w fun e w'=>∃ A' c',e=.returned (.slice A' n c')∧OwnN w' w.heap.size A' n c' l∧Below w.heap.size w w':=by
 obtain ⟨b',o',e,hc⟩:=hr (by simpa using by omega)
 cases e
 refine (Tryz.slices_Clone_int b o n c (l.map Int.ofNat) w (by simp;omega) (by omega) (fun j hj=>?_)).mono ?_
 ·have hj':j<l.length:=by simpa using hj
  have:=hc j (by simpa using hj')
  rw [this]
  simp [natv,Zg hj',List.getD]
 ·rintro e w' ⟨v',rfl,h1,-,h2⟩
  obtain ⟨A',c',rfl,h3⟩:=own_form h1
  refine ⟨A',c',rfl,?_,h2⟩
  have:((l.map Int.ofNat).take n).map (Value.int .i64)=l.map natv:=by
   rw [List.take_of_length_le (by simp;omega),List.map_map];rfl
  rwa [this] at h3
theorem sumL_take_le (l:List Nat) (k:Nat):sumL (l.take k)≤sumL l:=by
 have:=sumL_append (l.take k) (l.drop k)
 rw [List.take_append_drop] at this
 omega
theorem TabR.later {w w':World} {base p g cn:Nat} {l:List Nat} {As:Nat→OA} {cs:Nat→Nat} {An:OA} (h:TabR w base l p g As cs An cn) (hb:Below w.heap.size w w'):TabR w' base l p g As cs An cn:=
 ⟨h.cells.later hb,fun s hs=>Own.later (h.rows s hs) hb,h.sep,Own.later h.next hb,h.sepn⟩
theorem TabR.step {wr w5 wa w6:World} {base p g cn sy k bt pw m co c':Nat} {l xs:List Nat} {As:Nat→OA} {cs:Nat→Nat} {An Ao A':OA} (ht:TabR wr base l p g As cs An cn)
 (hsum:sumL l=64) (hp:p<64) (hsy:symOf l p=sy) (hk:nOf l p=k) (hbt:bt=bitsOf l p) (hpw:baseOf l p=pw) (hxs:toL l p sy=xs) (hAo:As sy=Ao) (hco:cs sy=co) (hm:xs.length=m) (hsl:sy<l.length) (hs64:sy<64)
 (hC5:Cells w5 g 243 1601 (fun j=>if j=p*3+2 then .int .i64 (pw:Int) else if j=p*3+1 then .int .i64 (bt:Int) else G3 l p As cs j))
 (hN5:Own w5 base 3 An l.length cn (((nxt l p).map natv).set sy (.int .i64 ((k:Int)+1))))
 (hR5:∀ q,q<64→Own w5 base 3 (As q) (toL l p q).length (cs q) ((toL l p q).map natv))
 (hba:Below w5.heap.size w5 wa) (hgr:wa.grownBy w6 (bk Ao)) (hat:bk A'=bk Ao∨bk A'=some wa.heap.size)
 (hown:Own w6 base 3 A' (m+1) c' (xs.map natv++[.int .i64 (p:Int)])):
 TabR (w6.setCell ⟨g,1536+sy,none⟩ (.slice A' (m+1) c')) base l (p+1) g (fun s=>if s=sy then A' else As s) (fun s=>if s=sy then c' else cs s) An cn:=by
 have hxl:(xs++[p]).length=m+1:=by simp [hm]
 have hto:∀ q,toL l (p+1) q=if sy=q then toL l p q++[p] else toL l p q:=fun q=>by rw [toL,hsy]
 have hto1:toL l (p+1) sy=xs++[p]:=by rw [hto,if_pos rfl,hxs]
 have hto2:∀ q,q≠sy→toL l (p+1) q=toL l p q:=fun q hq=>by rw [hto,if_neg (fun e=>hq e.symm)]
 have hAog:bk Ao≠some g:=by rw [←hAo];exact hC5.ne_own (hR5 sy hs64) (by decide)
 have hAng:bk An≠some g:=hC5.ne_own hN5 (by decide)
 have hsz:=hba.size
 have hC6:=(hC5.later hba).kept hgr hAog
 have hAg:bk A'≠some g:=by
  rcases hat with e|e
  ·rw [e];exact hAog
  ·rw [e]
   have:=hC5.lt
   intro e';cases e';omega
 have hgs:=grown_set w6 ⟨g,1536+sy,none⟩ (.slice A' (m+1) c')
 have hltR:∀ q,q<64→∀ b,bk (As q)=some b→b<wa.heap.size:=fun q hq b hb=>by
  have:=((hR5 q hq).lt hb).2;omega
 refine ⟨(hC6.set _ _).ext ?_,?_,?_,?_,?_⟩
 ·intro i hi
  unfold G3
  by_cases h1:i=1536+sy
  ·subst h1
   rw [if_pos rfl,if_neg (by omega),if_pos (by omega),show 1536+sy-1536=sy by omega,hto1,hxl]
   simp only [if_true]
  ·rw [if_neg h1]
   by_cases h2:i=p*3+2
   ·subst h2
    rw [if_pos rfl,if_neg (by omega),if_neg (by omega),if_neg (by omega),if_neg (by omega),if_neg (by omega),show (p*3+2)/3=p by omega,if_pos (by omega),hpw]
   ·rw [if_neg h2]
    by_cases h3:i=p*3+1
    ·subst h3
     rw [if_pos rfl,if_neg (by omega),if_neg (by omega),if_neg (by omega),if_neg (by omega),if_pos (by omega),show (p*3+1)/3=p by omega,if_pos (by omega),hbt]
    ·rw [if_neg h3]
     by_cases h4:i=1600
     ·rw [if_pos h4,if_pos h4]
     ·rw [if_neg h4,if_neg h4]
      by_cases h5:1536≤i
      ·have h9:¬i-1536=sy:=by omega
       rw [if_pos h5,if_pos h5,hto2 _ h9]
       simp only [if_neg h9]
      ·rw [if_neg h5,if_neg h5]
       by_cases h6:192≤i
       ·rw [if_pos h6,if_pos h6]
       ·rw [if_neg h6,if_neg h6]
        by_cases h7:i%3=0
        ·rw [if_pos h7,if_pos h7]
        ·rw [if_neg h7,if_neg h7]
         have h8:i/3<p↔i/3<p+1:=by omega
         simp only [h8]
 ·intro q hq
  by_cases e:q=sy
  ·subst e
   simp only [if_true]
   rw [hto1,hxl]
   have:Own w6 base 3 A' (m+1) c' ((xs++[p]).map natv):=by rw [List.map_append];exact hown
   exact Own.kept this hgs (.inr hAg)
  ·simp only [if_neg e]
   rw [hto2 q e]
   refine Own.kept (Own.kept (Own.later (hR5 q hq) hba) hgr ?_) hgs (.inr (hC5.ne_own (hR5 q hq) (by decide)))
   rw [←hAo];exact ht.sep q sy hq hs64 e
 ·have key:∀ q,q<64→q≠sy→(bk (As q)=none∨bk (As q)≠bk A')∧(bk A'=none∨bk A'≠bk (As q)):=by
   intro q hq e
   rcases hat with h|h
   ·rw [h,←hAo];exact ⟨ht.sep q sy hq hs64 e,ht.sep sy q hs64 hq (fun e'=>e e'.symm)⟩
   ·have:bk (As q)≠bk A':=by
     rw [h];intro h'
     have:=hltR q hq _ h';omega
    exact ⟨.inr this,.inr (fun e'=>this e'.symm)⟩
  intro q q' hq hq' hne
  by_cases e:q=sy
  ·have e':¬q'=sy:=by omega
   simp only [if_pos e,if_neg e']
   exact (key q' hq' e').2
  ·by_cases e':q'=sy
   ·simp only [if_neg e,if_pos e']
    exact (key q hq e).1
   ·simp only [if_neg e,if_neg e']
    exact ht.sep q q' hq hq' hne
 ·have hn:(nxt l (p+1)).map natv=((nxt l p).map natv).set sy (.int .i64 ((k:Int)+1)):=by
   rw [nxt,List.map_set,hsy]
   have:(nxt l p).getD sy 0=k:=by rw [←hk];unfold nOf;rw [hsy]
   rw [this];rfl
  unfold OwnN
  rw [hn]
  refine Own.kept (Own.kept (Own.later hN5 hba) hgr ?_) hgs (.inr hAng)
  rcases ht.sepn sy hs64 with h|h
  ·rw [←hAo,h]
   cases An with
   | none=>exact .inl rfl
   | some a=>exact .inr (by simp [bk])
  ·rw [←hAo];exact .inr (fun e=>h e.symm)
 ·intro q hq
  by_cases e:q=sy
  ·simp only [if_pos e]
   rcases hat with h|h
   ·rw [h,←hAo];exact ht.sepn sy hs64
   ·rw [h]
    refine .inr (fun e'=>?_)
    have:=(Own.lt hN5 e'.symm).2
    omega
  ·simp only [if_neg e]
   exact ht.sepn q hq
theorem fseMade (A:OA) (n c:Nat) (l:List Nat) (w:World) (hl:l.length=n) (hr:Ns w A l) (hn:0<n) (hn64:n≤64) (hsum:sumL l=64):
 Calls Tryz.prog 146 #[.slice A n c,.int .i64 6] w fun e w'=>e=.returned (.pointer (some ⟨w.heap.size,0,none⟩))∧(∃ As cs An cn,TabR w' w.heap.size l 64 w.heap.size As cs An cn)∧Below w.heap.size w w':=by
 have HL:=Lh hl
 have HR:=Lh hr
 have HS:=Lh hsum
 have HC0:=Lh (Cells.new w 243 (Tryz.zeroCells243.setIfInBounds 1600 (.int .i64 64)) (zero_table_at l).1 (zero_table_at l).2)
 have HB0:=Lh ((Below.refl _ _).alloc nL (.cells (Tryz.zeroCells243.setIfInBounds 1600 (.int .i64 64)) 243):Below w.heap.size w _)
 clear hl hr hsum
 go_enter Tryz.func146,Tryz.ntmps146
 go_wp2
 generalize (w.alloc (.cells (Tryz.zeroCells243.setIfInBounds 1600 (.int .i64 64)) 243))=w1 at *
 go_loopg [6,19] n (fun gg s6 s19 wr=>∃ s:Nat,s≤n∧n-s≤gg∧s6=.int .i64 ((43*sumL (l.take s)%64:Nat):Int)∧s19=.int .i64 (s:Int)∧Cells wr w.heap.size 243 1601 (G1 l (sumL (l.take s)))∧Below w.heap.size w wr)
 case atStart=>exact ⟨0,Nat.zero_le _,by omega,rfl,rfl,HC0.out,HB0.out⟩
 case round=>
  obtain ⟨s,hs,hg,rfl,rfl,hC,hbel⟩:=hrel
  have HC:=Lh hC
  have HB:=Lh hbel
  clear hC hbel
  by_cases hlt:s<n
  ·obtain ⟨b,o,x,hA,hx,hc⟩:=HR.out.at_ (by rw [HL.out];exact hlt:s<l.length)
   subst hA
   have hlt2:=block_lt hc
   have hc2:wr.cell? ⟨b,o+s,none⟩=some (.int .i64 (x:Int)):=by rw [HB.out.cell (by simpa using hlt2)];exact hc
   have HT:=Lh (sumL_step hx)
   have hT1:=sumL_take_le l (s+1)
   rw [HT.out,HS.out] at hT1
   have HSy:=Lh (fun i hi=>symL_at l 0 s x i hx hi)
   generalize sumL (l.take s)=T at *
   clear hc hx
   go_wp2
   go_loopg [6,25] x (fun gg s6 s25 wr=>∃ i a:Nat,i≤x∧x-i≤gg∧a=43*(T+i)%64∧s6=.int .i64 (a:Int)∧s25=.int .i64 (i:Int)∧Cells wr w.heap.size 243 1601 (G1 l (T+i))∧Below w.heap.size w wr)
   case atStart=>exact ⟨0,_,Nat.zero_le _,by omega,rfl,rfl,rfl,HC.out,HB.out⟩
   case round=>
    obtain ⟨i,a,hi,hgg,ha,rfl,rfl,hC,hbel⟩:=hrel
    by_cases hix:i<x
    ·have ha64:a<64:=by omega
     have cS:=hC.cell (i:=1600) (by omega)
     have fS:=hC.frozen (a*3)
     have c3:=hC.cell (i:=a*3) (by omega)
     simp only [G1,if_true] at cS
     have hsy:(symL l 0)[T+i]? = some s:=by simpa using HSy.out i hix
     have HC2:=Lh ((hC.set (a*3) (.int .i64 (s:Int))).ext (fun j hj=>by
      have h1:=G1_step l (t:=T+i) (by omega) hsy j hj
      rw [←ha] at h1
      exact h1):Cells (wr.setCell ⟨w.heap.size,a*3,none⟩ (.int .i64 (s:Int))) w.heap.size 243 1601 (G1 l (T+i+1)))
     clear hsy
     have HA:=Lh ha
     have HB2:=Lh (show Below w.heap.size w (wr.setCell ⟨w.heap.size,a*3,none⟩ (.int .i64 (s:Int))) from hbel.setCell nL _)
     clear hC hbel ha
     go_wp2
     clear cS fS c3
     generalize (wr.setCell ⟨w.heap.size,a*3,none⟩ (.int .i64 (s:Int)))=w2 at *
     have cS:=HC2.out.cell (i:=1600) (by omega)
     simp only [G1,if_true] at cS
     go_quiet (fail)
     go_wp2
     go_roundg (x-(i+1))
     case measure=>omega
     case rel=>exact ⟨i+1,(a+43)%64,by omega,by omega,by rw [HA.out];omega,int_eq (by omega),by go_num,HC2.out.later (below_drewN _ _),HB2.out.trans ((below_drewN _ _).mono HB2.out.size)⟩
    ·obtain rfl:i=x:=by omega
     have HC2:=Lh hC
     have HA:=Lh ha
     have HB2:=Lh hbel
     have ha64:a<64:=by omega
     clear hC hbel ha
     go_wp2
     go_roundg (n-(s+1))
     case measure=>omega
     case rel=>exact ⟨s+1,by omega,by omega,by rw [HT.out,HA.out],by go_num,by rw [HT.out];exact HC2.out,HB2.out⟩
  ·obtain rfl:s=n:=by omega
   have HT:sumL (l.take s)=64:=by rw [List.take_of_length_le (by rw [HL.out];exact Nat.le_refl _),HS.out]
   rw [HT] at HC ⊢
   clear HT
   obtain ⟨b,o,x,hA,-,-⟩:=HR.out.at_ (by rw [HL.out];exact hn:0<l.length)
   subst hA
   have HCl:=Lh (clone_nat b o s c l wr HL.out (HR.out.later HB.out) (by omega) hn)
   go_wp2_with fail
   refine HCl.out.mono ?_
   rintro e w2 ⟨An,cn,rfl,hown,hb2⟩
   have HN:=Lh (Own.mono hown HB.out.size)
   have HC2:=Lh (HC.out.later hb2)
   have HB2:=Lh (HB.out.trans (hb2.mono HB.out.size))
   clear hown hb2 HCl
   have cS:=HC2.out.cell (i:=1600) (by omega)
   simp only [G1,if_true] at cS
   have HTab:=Lh (⟨HC2.out.ext (fun i hi=>G1_G3 l i hi),fun s _=>OwnN.nil _ _,fun _ _ _ _ _=>.inl rfl,by rw [HL.out];exact HN.out,fun _ _=>.inl rfl⟩:TabR w2 w.heap.size l 0 w.heap.size (fun _=>none) (fun _=>0) An cn)
   go_wp2
   clear cS
   go_loopg [61] 64 (fun gg s61 wr=>∃ (p:Nat) (As:Nat→OA) (cs:Nat→Nat),p≤64∧64-p≤gg∧s61=.int .i64 (p:Int)∧TabR wr w.heap.size l p w.heap.size As cs An cn∧Below w.heap.size w wr)
   case atStart=>exact ⟨0,_,_,by omega,by omega,rfl,HTab.out,HB2.out⟩
   case round=>
    obtain ⟨p,As,cs,hp,hgg,rfl,htab,hbel⟩:=hrel
    have HT:=Lh htab
    have HB3:=Lh hbel
    clear htab hbel
    by_cases hlt:p<64
    ·have hsy:=symOf_lt HS.out hlt
     have hpf:=place_facts HS.out hlt
     have hnb:=nOf_bounds HS.out hlt
     have c0:=HT.out.cells.cell (i:=p*3) (by omega)
     have e0:G3 l p As cs (p*3)=.int .i64 (symOf l p:Nat):=by
      unfold G3
      rw [if_neg (by omega),if_neg (by omega),if_neg (by omega),if_pos (by omega),show p*3/3=p by omega]
     rw [e0] at c0
     obtain ⟨gn,xn,hAn,hgn1,hgn2,hxn,hcn,hfn⟩:=Own.at_ HT.out.next hsy.1
     have hkn:xn=.int .i64 (nOf l p:Nat):=by
      have hlen:symOf l p<(nxt l p).length:=by rw [nxt_len];exact hsy.1
      rw [List.getElem?_map,Zg hlen] at hxn
      unfold nOf
      simp only [List.getD,Zg hlen,Option.getD_some]
      simpa [natv] using hxn.symm
     subst hkn
     have hne:gn≠w.heap.size:=by
      have:=HT.out.cells.ne_own HT.out.next (by decide)
      rw [hAn] at this;simpa [bk] using this
     subst hAn
     have HLen:=Lh (Tryz.bits_Len ((nOf l p:Nat):Int))
     have hsn:symOf l p<s:=by rw [←HL.out];exact hsy.1
     have hsy64:symOf l p<64:=by omega
     clear hsy e0 hxn
     generalize hS:symOf l p=sy at *
     generalize hN:nOf l p=k at *
     have HSy:=Lh hS
     have HNn:=Lh hN
     clear hS hN
     rw [Int.toNat_natCast] at HLen
     obtain ⟨bt,hbt⟩:∃ bt,bt=bitsOf l p:=⟨_,rfl⟩
     have hbl7:Lib.bitLen k+bt=7:=by
      have h1:=hbt
      unfold bitsOf at h1
      rw [HNn.out] at h1
      have:=hpf.1;have:=hpf.2.1;omega
     rw [←hbt] at hpf
     have HBT:=Lh hbt
     clear hbt
     have HC3:=Lh (HT.out.cells.kept (grown_set wr ⟨gn,sy,none⟩ (.int .i64 ((k:Int)+1))) (by simpa using hne))
     have HN3:=Lh ((Own.stored HT.out.next sy (.int .i64 ((k:Int)+1))).1)
     have HR3:=Lh (fun q hq=>Own.kept (HT.out.rows q hq) (grown_set wr ⟨gn,sy,none⟩ (.int .i64 ((k:Int)+1))) (HT.out.sepn q hq))
     have HB4:=Lh (show Below w.heap.size w (wr.setCell ⟨gn,sy,none⟩ (.int .i64 ((k:Int)+1))) from HB3.out.setCell hgn1 _)
     generalize hBL:Lib.bitLen k=bl at *
     go_wp2_with fail
     refine (HLen.out _ (by omega) (by omega)).mono ?_
     rintro e w4 ⟨rfl,rfl⟩
     clear c0 hcn hfn
     generalize (wr.setCell ⟨gn,sy,none⟩ (.int .i64 ((k:Int)+1)))=w3 at *
     have hf1:=HC3.out.frozen (p*3+1)
     have hc1:=HC3.out.cell (i:=p*3+1) (by omega)
     go_wp2
     have hv:(6-(bl:Int)+1)=(bt:Int):=by omega
     rw [hv]
     have HC4:=Lh (HC3.out.set (p*3+1) (.int .i64 (bt:Int)))
     have HN4:=Lh (Own.setCell HN3.out (p:=⟨w.heap.size,p*3+1,none⟩) (by simpa [bk] using hne) (.int .i64 (bt:Int)))
     have hgr4:=grown_set w3 ⟨w.heap.size,p*3+1,none⟩ (.int .i64 (bt:Int))
     have HR4:=Lh (fun q hq=>Own.kept (HR3.out q hq) hgr4 (.inr (HC3.out.ne_own (HR3.out q hq) (by decide))))
     have HB5:=Lh (show Below w.heap.size w (w3.setCell ⟨w.heap.size,p*3+1,none⟩ (.int .i64 (bt:Int))) from HB4.out.setCell nL _)
     clear hf1 hc1 hv hgr4
     generalize (w3.setCell ⟨w.heap.size,p*3+1,none⟩ (.int .i64 (bt:Int)))=w4 at *
     have c1:=HC4.out.cell (i:=p*3+1) (by omega)
     have cS:=HC4.out.cell (i:=1600) (by omega)
     have hf2:=HC4.out.frozen (p*3+2)
     have c2:=HC4.out.cell (i:=p*3+2) (by omega)
     simp only [if_true] at c1
     have eS:(if 1600=p*3+1 then Value.int .i64 (bt:Int) else G3 l p As cs 1600)=.int .i64 64:=by rw [if_neg (by omega)];rfl
     rw [eS] at cS
     generalize (if p*3+2=p*3+1 then Value.int .i64 (bt:Int) else G3 l p As cs (p*3+2))=v2 at c2
     clear eS
     obtain ⟨pw,hpw,hp1,hp2,hbase⟩:=place_pw HS.out hlt HNn.out HBT.out
     have hv5:=shl_lem hpw hp1 hp2
     have HBase:=Lh hbase
     have HV5:=Lh hv5
     clear hpw hbase hpf hv5
     have K1:∀ v,(w4.setCell ⟨w.heap.size,p*3+2,none⟩ v).drew.cell? ⟨w.heap.size,p*3+1,none⟩=some (.int .i64 (bt:Int)):=fun v=>(HC4.out.set_other (by omega) (by omega) v).trans c1
     have K2:∀ v,(w4.setCell ⟨w.heap.size,p*3+2,none⟩ v).drew.cell? ⟨w.heap.size,1600,none⟩=some (.int .i64 64):=fun v=>(HC4.out.set_other (by omega) (by omega) v).trans cS
     go_region_held3 (fun w'=>w'.cell? ⟨w.heap.size,p*3+1,none⟩=some (.int .i64 (bt:Int))∧w'.cell? ⟨w.heap.size,1600,none⟩=some (.int .i64 64)) (first|go_keep|(exact ⟨K1 _,K2 _⟩)) (fail)
     clear K1 K2 c1 cS hf2 c2
     rw [HV5.out]
     have HC5:=Lh (show Cells (w4.setCell ⟨w.heap.size,p*3+2,none⟩ (.int .i64 ((pw-64:Nat):Int))).drew w.heap.size 243 1601 _ from HC4.out.set (p*3+2) (.int .i64 ((pw-64:Nat):Int)))
     have hgr5:=grown_drew (grown_set w4 ⟨w.heap.size,p*3+2,none⟩ (.int .i64 ((pw-64:Nat):Int)))
     have HN5:=Lh (Own.kept HN4.out hgr5 (.inr (HC4.out.ne_own HN4.out (by decide))))
     have HR5:=Lh (fun q hq=>Own.kept (HR4.out q hq) hgr5 (.inr (HC4.out.ne_own (HR4.out q hq) (by decide))))
     have HB6:=Lh (HB5.out.trans (below_grown hgr5 HB5.out.size (fun j hj=>by cases hj;exact Nat.le_refl _)))
     clear hgr5
     generalize (w4.setCell ⟨w.heap.size,p*3+2,none⟩ (.int .i64 ((pw-64:Nat):Int))).drew=w5 at *
     have c0:=HC5.out.cell (i:=p*3) (by omega)
     have c6:=HC5.out.cell (i:=1536+sy) (by omega)
     have f6:=HC5.out.frozen (1536+sy)
     rw [if_neg (by omega),if_neg (by omega)] at c0 c6
     have e0:G3 l p As cs (p*3)=.int .i64 (sy:Int):=by
      unfold G3
      rw [if_neg (by omega),if_neg (by omega),if_neg (by omega),if_pos (by omega),show p*3/3=p by omega,HSy.out]
     have e6:G3 l p As cs (1536+sy)=.slice (As sy) (toL l p sy).length (cs sy):=by
      unfold G3
      rw [if_neg (by omega),if_pos (by omega),show 1536+sy-1536=sy by omega]
     rw [e0] at c0
     rw [e6] at c6
     have hml:=toL_len l sy p
     have HRs:=Lh (HR5.out sy hsy64)
     generalize hXS:toL l p sy=xs at HRs c6 hml
     have HXS:=Lh hXS
     generalize hAs:As sy=Ao at HRs c6
     generalize hCs:cs sy=co at HRs c6
     have HAs:=Lh hAs
     have HCs:=Lh hCs
     generalize hm:xs.length=m at HRs c6 hml
     have HM:=Lh hm
     clear e0 e6 hXS hAs hCs hm
     have hbz:=HB6.out.size
     rename_i hHeld
     clear hHeld
     have i1:(0:Int)≤(sy:Int):=by omega
     have i2:(sy:Int)<64:=by omega
     have HRd:=Lh (Own.alloc (Own.drew HRs.out) (.cells #[.int .i64 (p:Int)] 3))
     have hneA:bk Ao≠some w.heap.size:=HC5.out.ne_own HRs.out (by decide)
     have HC5a:=Lh (Cells.later (w':=w5.drew.alloc (.cells #[.int .i64 (p:Int)] 3)) HC5.out ((Below.refl _ _).drew.alloc nL _))
     have hF6:(if 1536+sy=p*3+2 then Value.int .i64 ((pw-64:Nat):Int) else if 1536+sy=p*3+1 then .int .i64 (bt:Int) else G3 l p As cs (1536+sy))=.slice Ao m co:=by
      rw [if_neg (by omega),if_neg (by omega)]
      unfold G3
      rw [if_neg (by omega),if_pos (by omega),show 1536+sy-1536=sy by omega,HAs.out,HCs.out,HXS.out,HM.out]
     have hF0:(if p*3=p*3+2 then Value.int .i64 ((pw-64:Nat):Int) else if p*3=p*3+1 then .int .i64 (bt:Int) else G3 l p As cs (p*3))=.int .i64 (sy:Int):=by
      rw [if_neg (by omega),if_neg (by omega)]
      unfold G3
      rw [if_neg (by omega),if_neg (by omega),if_neg (by omega),if_pos (by omega),show p*3/3=p by omega,HSy.out]
     have KC:=Lh (fun w' (hg:(w5.drew.alloc (.cells #[.int .i64 (p:Int)] 3)).grownBy w' (bk Ao))=>(show w'.cell? ⟨w.heap.size,1536+sy,none⟩=some (.slice Ao m co)∧w'.frozen? ⟨w.heap.size,1536+sy,none⟩=false∧w'.cell? ⟨w.heap.size,p*3,none⟩=some (.int .i64 (sy:Int)) from
      ⟨((HC5a.out.kept hg hneA).cell (i:=1536+sy) (by omega)).trans (congrArg some hF6),(HC5a.out.kept hg hneA).frozen _,((HC5a.out.kept hg hneA).cell (i:=p*3) (by omega)).trans (congrArg some hF0)⟩))
     clear hF6 hF0
     have n0:=World.new_ne w5 _ c0
     have n6:=World.new_ne w5 _ c6
     have a0:(w5.alloc (.cells #[.int .i64 (p:Int)] 3)).cell? ⟨w.heap.size,p*3,none⟩=some (.int .i64 (sy:Int)):=(((Below.refl w5.heap.size w5).alloc nL _).cell HC5.out.lt).trans c0
     have a6:(w5.alloc (.cells #[.int .i64 (p:Int)] 3)).cell? ⟨w.heap.size,1536+sy,none⟩=some (.slice Ao m co):=(((Below.refl w5.heap.size w5).alloc nL _).cell HC5.out.lt).trans c6
     have HST:=Lh (fun A' c' w6 (hgr:(w5.alloc (.cells #[.int .i64 (p:Int)] 3)).grownBy w6 (bk Ao)) hat hown=>TabR.step (A':=A') (c':=c') (w6:=w6) HT.out HS.out hlt HSy.out HNn.out HBT.out HBase.out HXS.out HAs.out HCs.out HM.out (by rw [HL.out];exact hsn) hsy64 HC5.out HN5.out HR5.out ((Below.refl _ _).alloc nL _) hgr hat hown)
     have Hrd:=Lh (Rd.one w5.drew (.int .i64 (p:Int)) 3)
     go_wp2
     go_region_law (first|(refine step_append_rd rfl _ _ elemN rfl w.heap.size Ao m co (xs.map natv) rfl HRd.out (some ⟨w5.heap.size,0,none⟩) 1 1 [.int .i64 (p:Int)] rfl Hrd.out rfl (fun v hv=>by simp at hv;subst hv;rfl) (by omega) (by omega) (by simp;omega) ?_;intro A' c' w6 hown6 hb6 hgr6 hat6;have c7:=(KC.out _ hgr6).1;have f7:=(KC.out _ hgr6).2.1;have c8:=(KC.out _ hgr6).2.2))
     all_goals clear f6 c0 c6 n0 n6 a0 a6 c7 f7 c8
     all_goals go_wp2
     all_goals go_roundg (64-(p+1))
     all_goals first
      | omega
      | (have HX:=HST.out A' c' w6 ⟨hgr6.os,hgr6.tape,hgr6.output,hgr6.size,hgr6.block⟩ hat6 hown6
         have HY:Below w.heap.size w (w6.setCell ⟨w.heap.size,1536+sy,none⟩ (.slice A' (m+1) c')):=((HB6.out.alloc (by omega) _).drew.trans hb6).setCell nL _
         first
          | exact ⟨p+1,_,_,by omega,by omega,by go_num,HX,HY⟩
          | exact ⟨p+1,_,_,by omega,by omega,by go_num,HX.later (below_drewN _ 1),HY.drew⟩)
      | skip
    ·obtain rfl:p=64:=by omega
     go_wp2
     go_ret
     exact ⟨rfl,⟨_,_,_,_,HT.out⟩,HB3.out⟩
theorem back_take_ok (g a c k:Nat) (l:List UInt8) (A:OA) (w:World) (h:IsRow w 279 g l a A c) (hl:l.length≤140737488351232) (ha:a≤8*l.length) (hk:k≤32) (hak:k≤a):
 Calls Tryz.prog 165 #[.pointer (some ⟨g,0,none⟩),.int .i64 (k:Int)] w fun e w'=>e=.returned (.tuple #[.int .i64 (numAt l (a-k) k:Nat),.int .i64 0])∧IsRow w' 279 g l (a-k) A c∧w.grownBy w' (some g):=by
 have hm:mayE (k:Int) (a:Int)=0:=by unfold mayE;rw [if_neg (by omega),if_neg (by omega)]
 have h1:backV l a (k:Int)=.tuple #[.int .i64 (numAt l (a-k) k:Nat),.int .i64 0]:=by unfold backV;rw [if_pos hm,Int.toNat_natCast]
 have h2:backA a (k:Int)=a-k:=by unfold backA;rw [if_pos hm,Int.toNat_natCast]
 have:=back_take g a c l A (k:Int) w h hl ha (by omega) (by omega)
 rwa [h1,h2] at this
theorem back_take_bad (g a c k:Nat) (l:List UInt8) (A:OA) (w:World) (h:IsRow w 279 g l a A c) (hl:l.length≤140737488351232) (ha:a≤8*l.length) (hk:k≤32) (hak:a<k):
 Calls Tryz.prog 165 #[.pointer (some ⟨g,0,none⟩),.int .i64 (k:Int)] w fun e w'=>e=.returned (.tuple #[.int .i64 0,.int .i64 3])∧IsRow w' 279 g l a A c∧w.grownBy w' (some g):=by
 have hm:mayE (k:Int) (a:Int)=3:=by unfold mayE;rw [if_neg (by omega),if_pos (by omega)]
 have h1:backV l a (k:Int)=.tuple #[.int .i64 0,.int .i64 3]:=by unfold backV;rw [hm];rfl
 have h2:backA a (k:Int)=a:=by unfold backA;rw [hm];rfl
 have:=back_take g a c l A (k:Int) w h hl ha (by omega) (by omega)
 rwa [h1,h2] at this
def fdGo (sh:List Nat) (s:List UInt8):Nat→Nat→Nat→List Nat→Option (List Nat × Nat × Nat)
 | 0,q,a,out=>some (out,q,a)
 | r+1,q,a,out=>if a<bitsOf sh q then none else fdGo sh s r (baseOf sh q+numAt s (a-bitsOf sh q) (bitsOf sh q)) (a-bitsOf sh q) (out++[symOf sh q])
def fdEnd:Option (List Nat × Nat × Nat)→Option (List Nat)
 | none=>none
 | some (out,q,a)=>if q≠0∨0<a then none else some out
def fdBits (s:List UInt8):Nat:=8*(s.length-1)+Lib.bitLen (s.getD (s.length-1) 0).toNat-1
def fdecodeL (sh:List Nat) (s:List UInt8) (n:Nat):Option (List Nat):=
 if fmayL sh 6=false∨s.length=0∨s.getD (s.length-1) 0=0∨fdBits s<6 then none
 else fdEnd (fdGo sh s n (numAt s (fdBits s-6) 6) (fdBits s-6) [])
def fdPost (r:Option (List Nat)) (w:World) (e:Ending) (w':World):Prop:=
 Below w.heap.size w w'∧match r with
 | none=>∃ E:Int,E≠0∧e=.returned (.tuple #[.slice none 0 0,.int .i64 E])
 | some out=>∃ A' c',e=.returned (.tuple #[.slice A' out.length c',.int .i64 0])∧OwnN w' w.heap.size A' out.length c' out
theorem fdPost_bad {r:Option (List Nat)} {w w':World} {E:Int} (h:r=none) (hE:E≠0) (hb:Below w.heap.size w w'):fdPost r w (.returned (.tuple #[.slice none 0 0,.int .i64 E])) w':=by
 subst h;exact ⟨hb,E,hE,rfl⟩
theorem fdPost_ok {r:Option (List Nat)} {w w':World} {out:List Nat} {m co:Nat} {A:OA} (h:r=some out) (hm:out.length=m) (ho:OwnN w' w.heap.size A m co out) (hb:Below w.heap.size w w'):
 fdPost r w (.returned (.tuple #[.slice A m co,.int .i64 0])) w':=by
 subst hm;subst h
 exact ⟨hb,A,co,rfl,ho⟩
theorem tab_cells {w:World} {g:Nat} {l:List Nat} {As:Nat→OA} {cs:Nat→Nat} (h:Cells w g 243 1601 (G3 l 64 As cs)) {q:Nat} (hq:q<64):
 w.cell? ⟨g,q*3,none⟩=some (.int .i64 (symOf l q:Nat))∧w.cell? ⟨g,q*3+1,none⟩=some (.int .i64 (bitsOf l q:Nat))∧w.cell? ⟨g,q*3+2,none⟩=some (.int .i64 (baseOf l q:Nat)):=by
 refine ⟨?_,?_,?_⟩
 ·rw [h.cell (by omega)]
  unfold G3
  rw [if_neg (by omega),if_neg (by omega),if_neg (by omega),if_pos (by omega),show q*3/3=q by omega]
 ·rw [h.cell (by omega)]
  unfold G3
  rw [if_neg (by omega),if_neg (by omega),if_neg (by omega),if_neg (by omega),if_pos (by omega),show (q*3+1)/3=q by omega,if_pos hq]
 ·rw [h.cell (by omega)]
  unfold G3
  rw [if_neg (by omega),if_neg (by omega),if_neg (by omega),if_neg (by omega),if_neg (by omega),show (q*3+2)/3=q by omega,if_pos hq]
theorem fseDecode (A:OA) (m c:Nat) (sh:List Nat) (A2:OA) (m2 c2:Nat) (s:List UInt8) (n:Nat) (w:World) (hl:sh.length=m) (hr:Ns w A sh) (hm:m≤140737488351232) (hb:∀ x∈sh,x≤140737488351232)
 (hl2:s.length=m2) (hr2:Bs w A2 s) (hm2:m2≤140737488351232) (hn:n≤65536):
 Calls Tryz.prog 126 #[.slice A m c,.int .i64 6,.slice A2 m2 c2,.int .i64 (n:Int)] w (fdPost (fdecodeL sh s n) w):=by
 have HMay:=Lh (show Calls Tryz.prog 143 #[.slice A m c,.int .i64 6] w fun e w'=>e=.returned (.bool (fmayL sh 6))∧w'=w from fseMay A m c sh 6 w hl hr hm hb (by omega) (by omega))
 cases hmay:fmayL sh 6 with
 | false=>
   rw [hmay] at HMay
   have HD:=Lh (by unfold fdecodeL;rw [if_pos (.inl hmay)]:fdecodeL sh s n=none)
   clear hl hr hb hl2 hr2 hmay
   go_enter Tryz.func126,Tryz.ntmps126
   go_wp2_with fail
   refine HMay.out.mono ?_
   rintro e w1 ⟨rfl,rfl⟩
   go_wp2
   go_ret2
   exact fdPost_bad HD.out (by omega) (Below.refl _ _)
 | true=>
   rw [hmay] at HMay
   by_cases hbad:m2=0∨s.getD (m2-1) 0=0
   ·have HD:=Lh (by unfold fdecodeL;rw [if_pos (.inr (by rw [hl2];rcases hbad with h|h;exact .inl h;exact .inr (.inl h)))]:fdecodeL sh s n=none)
    have HNB:=Lh (newBack_bad A2 m2 c2 s w hl2 hr2 (by omega) hbad)
    clear hl hr hb hl2 hr2 hmay hbad
    go_enter Tryz.func126,Tryz.ntmps126
    go_wp2_with fail
    refine HMay.out.mono ?_
    rintro e w1 ⟨rfl,rfl⟩
    go_wp2_with fail
    refine HNB.out.mono ?_
    rintro e w1 ⟨rfl,rfl⟩
    go_wp2
    go_ret2
    exact fdPost_bad HD.out (by omega) (Below.refl _ _)
   ·obtain ⟨M,rfl⟩:∃ M,m2=M+1:=⟨m2-1,by omega⟩
    have hlast:(s.getD M 0).toNat≠0:=fun e=>hbad (.inr (by simpa using UInt8.toNat_inj.1 (e.trans (by rfl))))
    have hB:fdBits s=8*M+Lib.bitLen (s.getD M 0).toNat-1:=by unfold fdBits;rw [hl2,Nat.add_sub_cancel]
    have HNB:=Lh (newBack A2 M c2 s w hl2 hr2 (by omega) hlast)
    have hbl:=bitLen_le (s.getD M 0).toNat (UInt8.toNat_lt _)
    rw [←hB] at HNB
    have hB8:fdBits s≤8*s.length:=by omega
    obtain ⟨hf1,hf2,hf3,hf4,hf5⟩:=fmayL_facts hmay
    have HMade:=Lh (fun w0 hr=>fseMade A m c sh w0 hl hr (by omega) (by omega) hf5)
    have HS:=Lh hf5
    have HD0:=Lh (by unfold fdecodeL;rw [hmay,hl2,Nat.add_sub_cancel];simp only [Nat.add_one_ne_zero,Bool.true_eq_false,false_or]:fdecodeL sh s n=if s.getD M 0=0∨fdBits s<6 then none else fdEnd (fdGo sh s n (numAt s (fdBits s-6) 6) (fdBits s-6) []))
    have hlast':¬s.getD M 0=0:=fun e=>hlast (by rw [e];rfl)
    generalize fdBits s=B at *
    have HL:=Lh hl
    have HR:=Lh hr
    have HL2:=Lh hl2
    have HB8:=Lh hB8
    clear hl hr hb hl2 hr2 hmay hbad hlast hbl hf1 hf2 hf3 hf4 hf5 hB8 hB
    go_enter Tryz.func126,Tryz.ntmps126
    go_wp2_with fail
    refine HMay.out.mono ?_
    rintro e w1 ⟨rfl,rfl⟩
    go_wp2_with fail
    refine HNB.out.mono ?_
    rintro e w2 ⟨g,Ar,cr,rfl,hg,hAr,hrow,hb1⟩
    have HROW:=Lh hrow
    have HB2:=Lh hb1
    have HG:=Lh hg
    have HR2':=Lh (HR.out.later hb1)
    clear hrow hb1 hg hAr
    go_wp2_with fail
    refine (HMade.out w2 HR2'.out).mono ?_
    rintro e w3 ⟨rfl,⟨As,cs,An,cn,htab⟩,hb3⟩
    have HROW3:=Lh (HROW.out.later hb3)
    have HB3:=Lh (HB2.out.trans (hb3.mono HB2.out.size))
    have HT:=Lh htab
    clear htab HROW HB2 HMade HR2' hb3
    by_cases h6:B<6
    ·have HTk:=Lh (show Calls Tryz.prog 165 #[.pointer (some ⟨g,0,none⟩),.int .i64 6] w3 _ from back_take_bad g B cr 6 s Ar w3 HROW3.out (by rw [HL2.out];omega) HB8.out (by omega) h6)
     have HD:=Lh (HD0.out.trans (if_pos (.inr h6)))
     go_wp2_with fail
     refine HTk.out.mono ?_
     rintro e w4 ⟨rfl,-,hgr⟩
     go_wp2
     go_ret2
     exact fdPost_bad HD.out (by omega) (HB3.out.trans (below_grown hgr HB3.out.size (fun k hk=>by cases hk;exact HG.out)))
    ·have HTk:=Lh (show Calls Tryz.prog 165 #[.pointer (some ⟨g,0,none⟩),.int .i64 6] w3 _ from back_take_ok g B cr 6 s Ar w3 HROW3.out (by rw [HL2.out];omega) HB8.out (by omega) (by omega))
     have HD:=Lh (HD0.out.trans (if_neg (by rintro (h|h);exact hlast' h;exact h6 h)))
     have hq0:=numAt_lt s (B-6) 6
     generalize hQ:numAt s (B-6) 6=q0 at *
     have ha8:B-6≤8*s.length:=by have:=HB8.out;omega
     generalize B-6=a0 at *
     clear hlast' HD0 HB8 h6 hQ
     go_wp2_with fail
     refine HTk.out.mono ?_
     rintro e w4 ⟨rfl,hrow4,hgr⟩
     have HROW4:=Lh hrow4
     have HT4:=Lh (⟨HT.out.cells.kept hgr (by simpa using fun e=>(HT.out.cells.ne_blk HROW3.out.blk (by decide)) e.symm),fun j hj=>Own.kept (HT.out.rows j hj) hgr (.inr (Own.ne_blk (HT.out.rows j hj) HROW3.out.blk (by decide))),HT.out.sep,
      Own.kept HT.out.next hgr (.inr (Own.ne_blk HT.out.next HROW3.out.blk (by decide))),HT.out.sepn⟩:TabR w4 _ _ _ _ _ _ _ _)
     have HB4:=Lh (HB3.out.trans (below_grown hgr HB3.out.size (fun k hk=>by cases hk;exact HG.out)))
     clear hrow4 hgr HT HROW3 HB3 HTk
     generalize w2.heap.size=tb at *
     go_wp2
     go_loopg [13,14,51] n (fun gg s13 s14 s51 wr=>∃ (q a k co:Nat) (Ao:OA) (out:List Nat),k≤n∧n-k≤gg∧s13=.int .i64 (q:Int)∧s14=.slice Ao k co∧s51=.int .i64 (k:Int)∧q<64∧OwnN wr w1.heap.size Ao k co out ∧
      IsRow wr 279 g s a Ar cr∧a≤8*s.length∧Cells wr tb 243 1601 (G3 sh 64 As cs)∧fdecodeL sh s n=fdEnd (fdGo sh s (n-k) q a out)∧Below w1.heap.size w1 wr)
     case atStart=>exact ⟨q0,a0,0,0,none,[],by omega,by omega,rfl,rfl,rfl,by omega,OwnN.nil _ _,HROW4.out,ha8,HT4.out.cells,HD.out,HB4.out⟩
     case round=>
      obtain ⟨q,a,k,co,Ao,out,hk,hgg,rfl,rfl,rfl,hq,hown,hrow,ha,htab,hdec,hbel⟩:=hrel
      have HO:=Lh hown
      have HRw:=Lh hrow
      have HC:=Lh htab
      have HDc:=Lh hdec
      have HBl:=Lh hbel
      clear hown hrow htab hdec hbel
      by_cases hkn:k<n
      ·obtain ⟨c0,c1,c2⟩:=tab_cells HC.out hq
       have hpf:=(place_facts HS.out hq).2.2.1
       have hbf:=Lh (fun m h=>base_facts (m:=m) HS.out hq h)
       obtain ⟨sy,hsy⟩:∃ sy,symOf sh q=sy:=⟨_,rfl⟩
       obtain ⟨bt,hbt⟩:∃ bt,bitsOf sh q=bt:=⟨_,rfl⟩
       obtain ⟨ba,hba⟩:∃ ba,baseOf sh q=ba:=⟨_,rfl⟩
       rw [hsy] at c0
       rw [hbt] at c1 hpf
       rw [hba] at c2
       rw [hbt,hba] at hbf
       have HSy:=Lh hsy
       have HBt:=Lh hbt
       have HBa:=Lh hba
       clear hsy hbt hba
       have HA:=Lh ((Below.refl wr.heap.size wr).alloc nL (.cells #[.int .i64 (sy:Int),.int .i64 (bt:Int),.int .i64 (ba:Int)] 239))
       have HP5:=Lh (Blk.new wr 239 #[.int .i64 (sy:Int),.int .i64 (bt:Int),.int .i64 (ba:Int)])
       have HO5:=Lh (Own.later HO.out HA.out)
       have HR5:=Lh (HRw.out.later HA.out)
       have HC5:=Lh (HC.out.later HA.out)
       have HB5:=Lh (HBl.out.trans (HA.out.mono HBl.out.size))
       have hpg:g≠wr.heap.size:=by have:=HRw.out.blk.lt;omega
       go_wp2_with fail
       generalize (wr.alloc (.cells #[.int .i64 (sy:Int),.int .i64 (bt:Int),.int .i64 (ba:Int)] 239))=w5 at *
       generalize wr.heap.size=pb at *
       clear c0 c1 c2 HA
       obtain ⟨r,hr⟩:∃ r,n-k=r+1:=⟨n-k-1,by omega⟩
       have hD5:fdecodeL sh s n=fdEnd (if a<bt then none else fdGo sh s r (ba+numAt s (a-bt) bt) (a-bt) (out++[sy])):=by rw [HDc.out,hr,fdGo,HBt.out,HBa.out,HSy.out]
       by_cases hbt:a<bt
       ·have HTk:=Lh (back_take_bad g a cr bt s Ar w5 HR5.out (by rw [HL2.out];omega) ha (by omega) hbt)
        have HD6:=Lh (by rw [hD5,if_pos hbt];rfl:fdecodeL sh s n=none)
        clear hD5 hr hbt
        refine HTk.out.mono ?_
        rintro e w6 ⟨rfl,-,hgr⟩
        go_wp2
        go_ret2
        exact fdPost_bad HD6.out (by omega) (HB5.out.trans (below_grown hgr HB5.out.size (fun k hk=>by cases hk;exact HG.out)))
       ·have HTk:=Lh (back_take_ok g a cr bt s Ar w5 HR5.out (by rw [HL2.out];omega) ha (by omega) (by omega))
        have hnl:=numAt_lt s (a-bt) bt
        have hbq:=hbf.out _ hnl
        rw [if_neg hbt] at hD5
        generalize numAt s (a-bt) bt=mo at *
        have HD6:=Lh hD5
        clear hD5 hbt hnl hbf
        refine HTk.out.mono ?_
        rintro e w6 ⟨rfl,hrow6,hgr⟩
        have HR6:=Lh hrow6
        have HO6:=Lh (Own.kept HO5.out hgr (.inr (Own.ne_blk HO5.out HR5.out.blk (by decide))))
        have HC6:=Lh (HC5.out.kept hgr (by simpa using fun e=>(HC5.out.ne_blk HR5.out.blk (by decide)) e.symm))
        have HP6:=Lh (HP5.out.kept hgr (by simpa using hpg))
        have HB6:=Lh (HB5.out.trans (below_grown hgr HB5.out.size (fun k hk=>by cases hk;exact HG.out)))
        clear hrow6 hgr HR5 HO5 HC5 HP5 HB5 HTk
        have p0:=HP6.out.cell 0
        have p2:=HP6.out.cell 2
        simp only [Zt,Zz,Zs] at p0 p2
        go_wp2_with (at_builtin;refine wpList_append_one rfl _ _ elemN rfl w1.heap.size Ao k co (out.map natv) w6 (.int .i64 (sy:Int)) rfl rfl HO6.out rfl rfl ?d1 ?d2 ?d3 ?_)
        case d1=>omega
        case d2=>omega
        case d3=>exact HB6.out.size
        intro A' c' w7 hown7 hb7 hgr7 hat7
        have HO7:=Lh (ownN_snoc hown7)
        have HR7:=Lh (HR6.out.keptN (by decide) HO6.out hgr7)
        have HC7:=Lh (HC6.out.kept hgr7 (HC6.out.ne_own HO6.out (by decide)))
        have HB7:=Lh (HB6.out.trans hb7)
        have q2:w7.cell? ⟨pb,2,none⟩=some (.int .i64 (ba:Int)):=by
         rw [←p2]
         exact World.cell?_of_block (hgr7.block pb HP6.out.lt (fun e=>(Own.ne_blk HO6.out HP6.out (by decide)) e.symm))
        clear p0 p2 hown7 hb7 hgr7 hat7
        go_wp2
        go_roundg (n-(k+1))
        case measure=>omega
        case rel=>exact ⟨ba+mo,a-bt,k+1,c',A',out++[sy],by omega,by omega,by go_num,rfl,by go_num,hbq,HO7.out,HR7.out,by omega,HC7.out,by rw [HD6.out,show r=n-(k+1) by omega],HB7.out⟩
      ·obtain rfl:k=n:=by omega
       have hD5:fdecodeL sh s k=fdEnd (some (out,q,a)):=by rw [HDc.out,Nat.sub_self,fdGo]
       have HLeft:=Lh (back_left g a cr s Ar wr HRw.out)
       have HLen:=Lh (OwnN.length HO.out)
       by_cases hq0':q=0
       ·have e0:((q:Int) != 0)=false:=by rw [hq0'];rfl
        by_cases ha0:0<a
        ·have HD6:=Lh (by rw [hD5,fdEnd,if_pos (.inr ha0)]:fdecodeL sh s k=none)
         have ha0':0<(a:Int):=by omega
         clear hD5 hq0'
         go_wp2_with fail
         refine HLeft.out.mono ?_
         rintro e w6 ⟨rfl,rfl⟩
         go_wp2
         go_ret2
         exact fdPost_bad HD6.out (by omega) HBl.out
        ·have HD6:=Lh (by rw [hD5,fdEnd,if_neg (by omega)]:fdecodeL sh s k=some out)
         have ha0':(a:Int)≤0:=by omega
         clear hD5 hq0'
         go_wp2_with fail
         refine HLeft.out.mono ?_
         rintro e w6 ⟨rfl,rfl⟩
         go_wp2
         go_ret2
         exact fdPost_ok HD6.out HLen.out HO.out HBl.out
       ·have e0:((q:Int) != 0)=true:=by simpa using hq0'
        have HD6:=Lh (by rw [hD5,fdEnd,if_pos (.inl hq0')]:fdecodeL sh s k=none)
        clear hD5
        go_wp2
        go_ret2
        exact fdPost_bad HD6.out (by omega) HBl.out
end Go.Proofs.YtiihiocgbfafaaaGreat
