/-
  Parts of the proofs, in the order in which they build: T3, T4, T5, T6, T7, T8, F7, W3, F8, F9a, I1, F9b.
-/
import Derived.Test.YtaelgbbnmjbjiaaGreatKa
import Derived.Test.YtaelgbbnmjbjiaaGreatKb
import Derived.Test.YtaelgbbnmjbjiaaGreatKc
import Derived.Deep.RegionLaw
import Derived.WalkMore
import Derived.StillTailTactics
import Derived.RangeFuncNested
import Derived.RangeFuncBound
import Derived.RangeFuncCalls
import Derived.RangeFuncLeaves
import Derived.RangeFuncBox
import Derived.Shelf.Abstract
import Derived.Shelf.RegionOpen
import Derived.WalkKit
import Derived.OwnWalkIn
import Derived.TacticsInMore
import Derived.LoopNIn
import Derived.LoopIn
set_option linter.unusedSimpArgs false
set_option linter.unusedVariables false
namespace Go.Proofs.YtaelgbbnmjbjiaaGreat
open Go.RowKit
theorem info_thing : (Tryz.prog.info? 161).map (fun i => (i.zero, i.size, i.bytes)) = some (some (.agg #[.int .i64 0, .int .i64 0, .slice none 0 0]), 3, 40) := by kernel_rfl
theorem flatT_take : ∀ (l : List Th) (m : Nat), (flatT l).take (m * 3) = flatT (l.take m)
  | [], m => by simp [flatT]
  | x :: r, 0 => by simp [flatT]
  | x :: r, m + 1 => by
    have := flatT_take r m
    show (natv x.wt :: natv x.num :: .slice x.pa x.pn x.pc :: flatT r).take ((m + 1) * 3) = thC x ++ flatT (r.take m)
    rw [show (m + 1) * 3 = m * 3 + 1 + 1 + 1 by omega, List.take_succ_cons, List.take_succ_cons, List.take_succ_cons, this]
    rfl
theorem OwnT.pop {w : World} {base m c : Nat} {A : Option Addr} {l : List Th} (h : OwnT w base A (m + 1) c l) : OwnT w base A m c (l.take m) := by
  have hl := h.length
  rcases h.2 with ⟨-, h0⟩ | ⟨g, cap, cur, hv, h1, h2, h3, h4, h5, h6⟩
  · omega
  · refine ⟨by rw [flatT_len, List.length_take]; omega, .inr ⟨g, cap, cur, ?_, h1, h2, by omega, h4, h5, ?_⟩⟩
    · simp only [Value.slice.injEq] at hv ⊢
      exact ⟨hv.1, trivial, hv.2.2⟩
    · rw [← flatT_take, ← h6, List.take_take]
      congr 1; omega
theorem wpList_slice_hiT {w : World} {ops : Array Oper} {rest : List Oper} {o : Oper} {a : Act} {Q : Exit → Act → World → Prop} (hgd : o.guard = none) (s hi : Operand)
    (ho : o.op = .slice 159 s none (some hi) none) (A : Option Addr) (n c k : Nat) (hs : a.eval s = .slice A n c) (hhi : a.eval hi = .int .i64 (k : Int)) (hk : k ≤ c)
    (h : wpList Tryz.prog ops Q rest (a.put o.dst (.slice A k c)) w) : wpList Tryz.prog ops Q (o :: rest) a w := by
  refine wpList_plain hgd fun K hK => ?_
  obtain ⟨i, hi', -, h1, -⟩ := info_parts info_thing
  have he : Tryz.prog.elem 159 = 161 := by kernel_rfl
  have hrun : (Instr.sliceAt 159 (.slice A n c) none (some (.int .i64 (k : Int))) none).run Tryz.prog w = .ok (.slice A k c) w := by
    have ht' : Tryz.prog.underlying 159 = some (.slice (Tryz.prog.elem 159)) := by kernel_rfl
    rw [run_sliceAt_slice w 159 _ _ _ _ ht', run_slice_h w 159 A n c ht' .i64 (k : Int) (by omega) (by omega), he]
    simp [sizeOf, typeInfo, hi', h1, sliced, Result.andThen]
    cases A <;> simp [Addr.add]
  unfold Oper.wp execOp
  simp only [ho, hs, hhi, hrun, Option.map_some, Option.map_none, Sem.run_bind, Sem.run_pure, Result.andThen_ok]
  exact hK _ _ h
theorem run_append_th (w0 : World) (ty : TypeId) (base : Nat) (A : Option Addr) (n c : Nat) (l : List Th) (u : Th) (hown : OwnT w0 base A n c l) (hb : n ≤ 1000000000) (hbase : base ≤ w0.heap.size) :
    ∃ A' c' w', (Builtin.append_ #[159, 159] ty #[.slice A n c, .slice (some ⟨w0.heap.size, 0, none⟩) 1 1]).run Tryz.prog (w0.alloc (.cells #[natv u.wt, natv u.num, .slice u.pa u.pn u.pc] 161)) = .ok (.slice A' (n + 1) c') w' ∧
      OwnT w' base A' (n + 1) c' (l ++ [u]) ∧ w0.grownBy w' (bk A) ∧ NewTo w0 A A' := by
  obtain ⟨i, hi, hz0, hz1, hz2⟩ := info_parts info_thing
  have hg0 : w0.grownBy (w0.alloc (.cells #[natv u.wt, natv u.num, .slice u.pa u.pn u.pc] 161)) none := World.grownBy_alloc w0 _ none
  have hnews : ∀ j v, (thC u)[j]? = some v → (w0.alloc (.cells #[natv u.wt, natv u.num, .slice u.pa u.pn u.pc] 161)).cell? ((⟨w0.heap.size, 0, none⟩ : Addr).add j) = some v := by
    intro j v hv
    rw [add_none, Nat.zero_add, World.cell?_alloc_at _ _ _ _ rfl]
    simpa [thC] using hv
  obtain ⟨v', w', hrun, h2, h3, h4, h5⟩ := run_append_own_at (P := Tryz.prog) (w0.alloc (.cells #[natv u.wt, natv u.num, .slice u.pa u.pn u.pc] 161)) base 159 ty 161 i _ 3 40 (by kernel_rfl) hi hz0 hz1 hz2 rfl (by omega) (.slice A n c) n (flatT l) (hown.later ((Below.refl _ _).alloc (Nat.le_refl _) _)) ⟨w0.heap.size, 0, none⟩ 1 1 (thC u) rfl hnews
    (by intro v hv; simp only [thC, List.mem_cons, List.not_mem_nil, or_false] at hv; rcases hv with rfl | rfl | rfl <;> rfl) (by unfold maxLen; omega) (by omega) (by simp; omega)
  have hform : ∃ A' c', v' = .slice A' (n + 1) c' := by
    rcases h2.2 with ⟨rfl, h0⟩ | ⟨g, cap, cur, rfl, -⟩
    · exact ⟨none, 0, by rw [h0]⟩
    · exact ⟨_, cap, rfl⟩
  obtain ⟨A', c', rfl⟩ := hform
  rw [ownBlock_eq] at h3 h5
  rw [ownBlock_eq] at h5
  have e : flatT l ++ thC u = flatT (l ++ [u]) := by simp [flatT]
  rw [e] at h2
  refine ⟨A', c', w', hrun, h2, ⟨h3.os, h3.tape, h3.output, Nat.le_trans hg0.size h3.size, fun k hk hne => (h3.block k (by simp; omega) hne).trans (hg0.block k hk (by simp))⟩, ?_⟩
  rcases h5 with h5 | h5
  · exact .inl h5
  · exact .inr ⟨_, h5, by simp⟩
theorem step_append_th {w0 : World} {ops : Array Oper} {o : Oper} {a : Act} {K : Act → World → Prop} {Q : Exit → Act → World → Prop} {E' : Prop} (hgd : o.guard = none) (s x : Operand)
    (ho : o.op = .call { callee := .builtin .append, args := #[s, x], argTypes := #[159, 159] })
    (base : Nat) (A : Option Addr) (n c : Nat) (l : List Th) (u : Th) (hs : a.eval s = .slice A n c) (hown : OwnT w0 base A n c l) (hx : a.eval x = .slice (some ⟨w0.heap.size, 0, none⟩) 1 1) (hb : n ≤ 1000000000) (hbase : base ≤ w0.heap.size)
    (h : ∀ A' c' w', OwnT w' base A' (n + 1) c' (l ++ [u]) → w0.grownBy w' (bk A) → NewTo w0 A A' → K (a.put o.dst (.slice A' (n + 1) c')) w') :
    if Region.wanted o (yielded ops a.tmps) = true then Oper.wp Tryz.prog o a (w0.alloc (.cells #[natv u.wt, natv u.num, .slice u.pa u.pn u.pc] 161)) K Q else E' := by
  have hw : Region.wanted o (yielded ops a.tmps) = true := by simp [Region.wanted, hgd]
  rw [if_pos hw]
  obtain ⟨A', c', w', hrun, h2, h3, h4⟩ := run_append_th w0 o.type base A n c l u hown hb hbase
  unfold Oper.wp execOp
  simp only [ho, resolve, invoke, builtin, Sem.run_bind, Sem.run_pure, Result.andThen_ok, List.map_toArray, List.map_cons, List.map_nil, hs, hx, hrun]
  exact h A' c' w' h2 h3 h4
theorem wpList_append_th {w w0 : World} {ops : Array Oper} {rest : List Oper} {o : Oper} {a : Act} {Q : Exit → Act → World → Prop} (hgd : o.guard = none) (s x : Operand)
    (ho : o.op = .call { callee := .builtin .append, args := #[s, x], argTypes := #[159, 159] })
    (base : Nat) (A : Option Addr) (n c : Nat) (l : List Th) (u : Th) (hw : w = w0.alloc (.cells #[natv u.wt, natv u.num, .slice u.pa u.pn u.pc] 161)) (hs : a.eval s = .slice A n c) (hown : OwnT w0 base A n c l) (hx : a.eval x = .slice (some ⟨w0.heap.size, 0, none⟩) 1 1) (hb : n ≤ 1000000000) (hbase : base ≤ w0.heap.size)
    (h : ∀ A' c' w', OwnT w' base A' (n + 1) c' (l ++ [u]) → w0.grownBy w' (bk A) → NewTo w0 A A' → wpList Tryz.prog ops Q rest (a.put o.dst (.slice A' (n + 1) c')) w') : wpList Tryz.prog ops Q (o :: rest) a w := by
  subst hw
  refine wpList_plain hgd fun K hK => ?_
  obtain ⟨A', c', w', hrun, h2, h3, h4⟩ := run_append_th w0 o.type base A n c l u hown hb hbase
  unfold Oper.wp execOp
  simp only [ho, resolve, invoke, builtin, Sem.run_bind, Sem.run_pure, Result.andThen_ok, List.map_toArray, List.map_cons, List.map_nil, hs, hx, hrun]
  exact hK _ _ (h A' c' w' h2 h3 h4)
structure HeapR (w : World) (B hb : Nat) (A : Option Addr) (n c : Nat) (l : List Th) : Prop where
  box : Blk w hb 159 #[.slice A n c]
  row : OwnT w B A n c l
def thV (x : Th) : Value := .iface 161 (.agg #[natv x.wt, natv x.num, .slice x.pa x.pn x.pc])
theorem HeapR.cell {w : World} {B hb n c : Nat} {A : Option Addr} {l : List Th} (h : HeapR w B hb A n c l) : w.cell? ⟨hb, 0, none⟩ = some (.slice A n c) := by
  have := h.box.cell 0
  simpa only [List.getElem?_toArray, List.getElem?_cons_zero] using this
theorem HeapR.later {w w' : World} {B hb n c : Nat} {A : Option Addr} {l : List Th} (h : HeapR w B hb A n c l) (hb' : Below w.heap.size w w') : HeapR w' B hb A n c l := ⟨h.box.later hb', h.row.later hb'⟩
theorem HeapR.ne {w : World} {B hb n c : Nat} {A : Option Addr} {l : List Th} (h : HeapR w B hb A n c l) : bk A ≠ some hb := h.row.ne_blk h.box (by decide)
set_option maxHeartbeats 2000000 in
set_option maxRecDepth 10000 in
theorem thPop (B hb : Nat) (A : Option Addr) (m c : Nat) (l : List Th) (x : Th) (w : World) (h : HeapR w B hb A (m + 1) c l) (hx : l[m]? = some x) (hm : m ≤ 1000000000) (hc : m + 1 ≤ c) :
    Calls Tryz.prog 149 #[.pointer (some ⟨hb, 0, none⟩)] w fun e w' => e = .returned (thV x) ∧ HeapR w' B hb A m c (l.take m) ∧ Two hb A w w' := by
  obtain ⟨g, x', hA, hg1, hg2, hx', a0, a1, a2, -⟩ := h.row.at_ (k := m) (by omega)
  rw [hx] at hx'; cases hx'
  have hbx := h.cell
  have hfx := h.box.frozen 0
  have HH := Lib.hid h
  obtain ⟨xw, xn, xa, xpn, xpc, xps, xht⟩ := x
  simp only at a0 a1 a2
  have i1 : (0 : Int) ≤ (m : Int) := by omega
  have i2 : (m : Int) < ((m + 1 : Nat) : Int) := by omega
  have e1 : IntKind.i64.wrap (((m + 1 : Nat) : Int) - 1) = (m : Int) := by rw [wrapi64 (by omega) (by omega)]; omega
  have hbl := h.box.lt
  have hba := (Below.refl w.heap.size w).alloc (Nat.le_refl _) (.cells #[.int .i64 (xw : Int), .int .i64 (xn : Int), .slice xa xpn xpc] 161)
  have hbx1 := (hba.cell (p := ⟨hb, 0, none⟩) hbl).trans hbx
  have hfx1 := (h.box.later hba).frozen 0
  have hn : w.heap.size ≠ hb := by omega
  have n0 := World.new_ne w _ hbx
  have k0 := Blk.new w 161 #[.int .i64 (xw : Int), .int .i64 (xn : Int), .slice xa xpn xpc]
  have k1 := (k0.kept (grown_set _ ⟨hb, 0, none⟩ (.slice A m c)) (by simp; omega))
  have d0 := k1.cell 0
  have d1 := k1.cell 1
  have d2 := k1.cell 2
  simp only [List.getElem?_toArray, List.getElem?_cons_zero, List.getElem?_cons_succ] at d0 d1 d2
  have hgs := grown_set w ⟨hb, 0, none⟩ (.slice A m c)
  have HBox := Lib.hid (h.box.set 0 (.slice A m c))
  have HRow := Lib.hid (h.row.pop.kept hgs (.inr h.ne))
  have HTw := Lib.hid ((Two.refl hb A w).set_g (i := 0) (.slice A m c))
  clear h hx hba k0 k1 hgs
  subst hA
  go_enter Tryz.func149, Tryz.ntmps149
  go_wp2_with (with_reducible refine wpList_slice_hiT ?g ?s ?h ?ho (some ⟨g, 0, none⟩) (m + 1) c m ?hs ?hh ?hk ?_; (case ho => exact rfl); (case g => exact rfl); (case hs => simp [Act.eval]); (case hh => simp [Act.eval]); (case hk => omega))
  go_ret
  have hal := (Below.refl (w.setCell ⟨hb, 0, none⟩ (.slice (some ⟨g, 0, none⟩) m c)).heap.size (w.setCell ⟨hb, 0, none⟩ (.slice (some ⟨g, 0, none⟩) m c))).alloc (Nat.le_refl _) (.cells #[.int .i64 (xw : Int), .int .i64 (xn : Int), .slice xa xpn xpc] 161)
  exact ⟨rfl, ⟨HBox.out.later hal, HRow.out.later hal⟩, HTw.out.trans (.of_below hal)⟩
theorem assert_thing (v : Value) (w : World) : (Instr.typeAssert (.iface 161 v) 20 161 false).run Tryz.prog w = .ok v w := by kernel_rfl
set_option maxHeartbeats 4000000 in
set_option maxRecDepth 10000 in
theorem thPush (B hb : Nat) (A : Option Addr) (n c : Nat) (l : List Th) (x : Th) (w : World) (h : HeapR w B hb A n c l) (hn : n ≤ 1000000) (hB : B ≤ w.heap.size) :
    Calls Tryz.prog 150 #[.pointer (some ⟨hb, 0, none⟩), thV x] w fun e w' => (∃ v, e = .returned v) ∧ (∃ A' c', HeapR w' B hb A' (n + 1) c' (l ++ [x]) ∧ NewTo w A A') ∧ Two hb A w w' := by
  obtain ⟨xw, xn, xa, xpn, xpc, xps, xht⟩ := x
  have hbx := h.cell
  have hfx := h.box.frozen 0
  have HH := Lib.hid h
  have hbl := h.box.lt
  have n0 := World.new_ne w _ hbx
  have hba := (Below.refl w.heap.size w).drew.alloc (Nat.le_refl _) (.cells #[.int .i64 (xw : Int), .int .i64 (xn : Int), .slice xa xpn xpc] 161)
  have HRd := Lib.hid (show OwnT w.drew B A n c l from h.row.later (Below.refl _ _).drew)
  have KC := Lib.hid (fun w' (hg : w.drew.grownBy w' (bk A)) => (show w'.cell? ⟨hb, 0, none⟩ = some (.slice A n c) ∧ w'.frozen? ⟨hb, 0, none⟩ = false from by
    have hk := (h.box.later (Below.refl _ _).drew).kept hg h.ne
    have h1 := hk.cell 0
    simp only [List.getElem?_toArray, List.getElem?_cons_zero] at h1
    exact ⟨h1, hk.frozen 0⟩))
  clear h hba
  unfold thV
  have hta := fun W => assert_thing (.agg #[natv xw, natv xn, .slice xa xpn xpc]) W
  go_enter Tryz.func150, Tryz.ntmps150
  go_wp2
  go_region_law (first | (refine step_append_th rfl _ _ rfl B A n c l ⟨xw, xn, xa, xpn, xpc, xps, xht⟩ rfl HRd.out rfl (by omega) hB ?_; intro A6 c6 w6 hown6 hgr6 hnt6; have c7 := (KC.out _ hgr6).1; have f7 := (KC.out _ hgr6).2))
  all_goals
    go_wp2
    go_end0
    have hk6 := (HH.out.box.later (Below.refl _ _).drew).kept hgr6 HH.out.ne
    have hb6 := hk6.set 0 (.slice A6 (n + 1) c6)
    have hgs := grown_set w6 ⟨hb, 0, none⟩ (.slice A6 (n + 1) c6)
    exact ⟨⟨_, rfl⟩, ⟨A6, c6, ⟨hb6, hown6.kept hgs (.inr (hown6.ne_blk hk6 (by decide)))⟩, hnt6⟩, ((Two.of_below (Below.refl _ _).drew : Two hb A w w.drew).grown hgr6 (fun k hk _ => .inr hk)).set_g _⟩
end Go.Proofs.YtaelgbbnmjbjiaaGreat
namespace Go.Proofs.YtaelgbbnmjbjiaaGreat
open Go.RowKit
def leT (x y : Th) : Prop := x.wt < y.wt ∨ (x.wt = y.wt ∧ x.num ≤ y.num)
theorem lessT_le {x y : Th} : lessT y x = false ↔ leT x y := by
  unfold lessT leT
  simp only [Bool.or_eq_false_iff, Bool.and_eq_false_iff, decide_eq_false_iff_not]
  omega
theorem lessT_lt {x y : Th} (h : lessT x y = true) : leT x y := by
  unfold lessT at h
  unfold leT
  simp only [Bool.or_eq_true, Bool.and_eq_true, decide_eq_true_eq] at h
  omega
theorem leT.trans {x y z : Th} (h : leT x y) (k : leT y z) : leT x z := by unfold leT at *; omega
theorem leT.refl (x : Th) : leT x x := by unfold leT; omega
theorem leT.wt {x y : Th} (h : leT x y) : x.wt ≤ y.wt := by unfold leT at h; omega
def HAll (f : Nat → Th) (n k : Nat) : Prop := ∀ m, 1 ≤ m → m < n → k ≤ (m - 1) / 2 → leT (f ((m - 1) / 2)) (f m)
structure HDown (f : Nat → Th) (n k i : Nat) : Prop where
  ok : ∀ m, 1 ≤ m → m < n → k ≤ (m - 1) / 2 → (m - 1) / 2 ≠ i → leT (f ((m - 1) / 2)) (f m)
  gp : ∀ m, 1 ≤ m → m < n → (m - 1) / 2 = i → 1 ≤ i → k ≤ (i - 1) / 2 → leT (f ((i - 1) / 2)) (f m)
structure HUp (f : Nat → Th) (n j : Nat) : Prop where
  ok : ∀ m, 1 ≤ m → m < n → m ≠ j → leT (f ((m - 1) / 2)) (f m)
  gp : ∀ m, 1 ≤ m → m < n → (m - 1) / 2 = j → 1 ≤ j → leT (f ((j - 1) / 2)) (f m)
def swapF (f : Nat → Th) (i j : Nat) : Nat → Th := fun m => if m = i then f j else if m = j then f i else f m
theorem HDown.leaf {f : Nat → Th} {n k i : Nat} (h : HDown f n k i) (hi : n ≤ 2 * i + 1) : HAll f n k :=
  fun m h1 h2 h3 => h.ok m h1 h2 h3 (by omega)
theorem HDown.stop {f : Nat → Th} {n k i j : Nat} (h : HDown f n k i) (hj : j = 2 * i + 1 ∨ j = 2 * i + 2) (hle : leT (f i) (f j)) (hmin : ∀ m, m < n → (m - 1) / 2 = i → 1 ≤ m → leT (f j) (f m)) : HAll f n k := by
  intro m h1 h2 h3
  by_cases e : (m - 1) / 2 = i
  · rw [e]; exact hle.trans (hmin m h2 e h1)
  · exact h.ok m h1 h2 h3 e
theorem HDown.step {f : Nat → Th} {n k i j : Nat} (h : HDown f n k i) (hk : k ≤ i) (hj : j = 2 * i + 1 ∨ j = 2 * i + 2) (hjn : j < n) (hlt : leT (f j) (f i)) (hmin : ∀ m, m < n → (m - 1) / 2 = i → 1 ≤ m → leT (f j) (f m)) : HDown (swapF f i j) n k j := by
  have hpj : (j - 1) / 2 = i := by omega
  constructor
  · intro m h1 h2 h3 h4
    unfold swapF
    by_cases e1 : m = i
    · subst e1
      rw [if_neg (by omega), if_neg (by omega), if_pos rfl]
      exact h.gp j (by omega) hjn hpj h1 h3
    · by_cases e2 : m = j
      · subst e2
        rw [hpj, if_pos rfl, if_neg e1, if_pos rfl]
        exact hlt
      · rw [if_neg e1, if_neg e2]
        by_cases e3 : (m - 1) / 2 = i
        · rw [if_pos e3]; exact hmin m h2 e3 h1
        · rw [if_neg e3, if_neg h4]; exact h.ok m h1 h2 h3 e3
  · intro m h1 h2 h3 h4 h5
    unfold swapF
    rw [hpj, if_pos rfl, if_neg (by omega), if_neg (by omega)]
    have := h.ok m h1 h2 (by omega) (by omega)
    rw [h3] at this
    exact this
theorem HUp.stop {f : Nat → Th} {n j : Nat} (h : HUp f n j) (hs : j = 0 ∨ leT (f ((j - 1) / 2)) (f j)) : HAll f n 0 := by
  intro m h1 h2 _
  by_cases e : m = j
  · subst e
    rcases hs with hs | hs
    · omega
    · exact hs
  · exact h.ok m h1 h2 e
theorem HUp.step {f : Nat → Th} {n j : Nat} (h : HUp f n j) (h0 : 1 ≤ j) (hlt : leT (f j) (f ((j - 1) / 2))) : HUp (swapF f j ((j - 1) / 2)) n ((j - 1) / 2) := by
  obtain ⟨i, hi⟩ : ∃ i, (j - 1) / 2 = i := ⟨_, rfl⟩
  rw [hi] at hlt ⊢
  constructor
  · intro m h1 h2 h3
    unfold swapF
    by_cases e1 : m = j
    · subst e1
      rw [hi, if_neg (by omega), if_pos rfl, if_pos rfl]
      exact hlt
    · by_cases e2 : (m - 1) / 2 = j
      · rw [if_pos e2, if_neg e1, if_neg h3]
        have := h.gp m h1 h2 e2 h0
        rw [hi] at this
        exact this
      · by_cases e3 : (m - 1) / 2 = i
        · rw [if_neg e2, if_pos e3, if_neg e1, if_neg h3]
          have := h.ok m h1 h2 e1
          rw [e3] at this
          exact hlt.trans this
        · rw [if_neg e2, if_neg e3, if_neg e1, if_neg h3]
          exact h.ok m h1 h2 e1
  · intro m h1 h2 h3 h4
    have hpi : leT (f ((i - 1) / 2)) (f i) := h.ok i h4 (by omega) (by omega)
    unfold swapF
    rw [if_neg (by omega), if_neg (by omega)]
    by_cases e1 : m = j
    · rw [if_pos e1]; exact hpi
    · rw [if_neg e1, if_neg (by omega)]
      have := h.ok m h1 h2 e1
      rw [h3] at this
      exact hpi.trans this
theorem HAll.root {f : Nat → Th} {n : Nat} (h : HAll f n 0) : ∀ m, m < n → leT (f 0) (f m) := by
  intro m
  induction m using Nat.strongRecOn with
  | _ m ih =>
    intro hm
    by_cases e : m = 0
    · subst e; exact leT.refl _
    · exact (ih ((m - 1) / 2) (by omega) (by omega)).trans (h m (by omega) hm (Nat.zero_le _))
def thD : Th := ⟨0, 0, none, 0, 0, [], 0⟩
def fnT (l : List Th) : Nat → Th := fun m => l.getD m thD
def swapT (l : List Th) (i j : Nat) : List Th := (l.set i (fnT l j)).set j (fnT l i)
theorem fnT_at {l : List Th} {i : Nat} (h : i < l.length) : l[i]? = some (fnT l i) := by
  unfold fnT; simp [List.getD, List.getElem?_eq_getElem h]
theorem swapT_len (l : List Th) (i j : Nat) : (swapT l i j).length = l.length := by unfold swapT; simp
theorem swapT_fn {l : List Th} {i j : Nat} (hi : i < l.length) (hj : j < l.length) (hij : i ≠ j) : fnT (swapT l i j) = swapF (fnT l) i j := by
  funext m
  show ((l.set i (fnT l j)).set j (fnT l i)).getD m thD = _
  unfold swapF
  simp only [List.getD, List.getElem?_set]
  by_cases e1 : m = j
  · subst e1
    have h2 : m < (l.set i (fnT l m)).length := by rw [List.length_set]; exact hj
    have h3 : ¬ m = i := fun e => hij e.symm
    rw [if_pos rfl, if_pos h2, if_neg h3, if_pos rfl]; rfl
  · rw [if_neg (fun e => e1 e.symm)]
    by_cases e2 : m = i
    · subst e2
      rw [if_pos rfl, if_pos hi, if_pos rfl]; rfl
    · rw [if_neg (fun e => e2 e.symm), if_neg e2, if_neg e1]; rfl
theorem swapT_drop {l : List Th} {i j n : Nat} (hi : i < n) (hj : j < n) : (swapT l i j).drop n = l.drop n := by
  unfold swapT
  apply List.ext_getElem?
  intro m
  rw [List.getElem?_drop, List.getElem?_drop, List.getElem?_set, if_neg (by omega), List.getElem?_set, if_neg (by omega)]
theorem perm_set2 : ∀ (l : List Th) (i j : Nat), i < l.length → j < l.length → i ≠ j → (swapT l i j).Perm l := by
  intro l i j hi hj hij
  unfold swapT
  have key : ∀ (l : List Th) (i j : Nat) (hi : i < j) (hj : j < l.length), ((l.set i l[j]).set j l[i]).Perm l := by
    intro l i j hi hj
    induction l generalizing i j with
    | nil => simp at hj
    | cons x r ih =>
      cases i with
      | zero =>
        obtain ⟨j', rfl⟩ : ∃ j', j = j' + 1 := ⟨j - 1, by omega⟩
        simp only [List.getElem_cons_succ, List.set_cons_zero, List.getElem_cons_zero, List.set_cons_succ]
        have hj' : j' < r.length := by simpa using hj
        have e1 : r.set j' x = r.take j' ++ x :: r.drop (j' + 1) := by rw [List.set_eq_take_append_cons_drop, if_pos hj']
        have e2 : r = r.take j' ++ r[j'] :: r.drop (j' + 1) := by
          have := List.take_append_drop j' r
          rw [List.drop_eq_getElem_cons hj'] at this
          exact this.symm
        rw [e1]
        have p1 : (r[j'] :: (r.take j' ++ x :: r.drop (j' + 1))).Perm (r[j'] :: (x :: (r.take j' ++ r.drop (j' + 1)))) := (List.perm_middle).cons _
        have p2 : (x :: r).Perm (x :: (r[j'] :: (r.take j' ++ r.drop (j' + 1)))) := by
          have p3 : r.Perm (r[j'] :: (r.take j' ++ r.drop (j' + 1))) := by
            exact (List.Perm.of_eq e2).trans List.perm_middle
          exact p3.cons _
        exact p1.trans ((List.Perm.swap _ _ _).trans p2.symm)
      | succ i =>
        obtain ⟨j', rfl⟩ : ∃ j', j = j' + 1 := ⟨j - 1, by omega⟩
        simp only [List.getElem_cons_succ, List.set_cons_succ]
        exact (ih i j' (by omega) (by simpa using hj)).cons _
  have hfi : fnT l i = l[i] := by unfold fnT; simp [List.getD, List.getElem?_eq_getElem hi]
  have hfj : fnT l j = l[j] := by unfold fnT; simp [List.getD, List.getElem?_eq_getElem hj]
  rw [hfi, hfj]
  rcases Nat.lt_or_gt_of_ne hij with h | h
  · exact key l i j h hj
  · rw [List.set_comm _ _ hij]
    exact key l j i h hi
end Go.Proofs.YtaelgbbnmjbjiaaGreat
namespace Go.Proofs.YtaelgbbnmjbjiaaGreat
open Go.RowKit
theorem HeapR.drewN {w : World} {B hb n c : Nat} {A : Option Addr} {l : List Th} (h : HeapR w B hb A n c l) (q : Nat) : HeapR (w.drewN q) B hb A n c l := h.later (below_drewN w q)
set_option maxHeartbeats 4000000 in
set_option maxRecDepth 10000 in
theorem hpDown (B hb : Nat) (A : Option Addr) (N c : Nat) (l : List Th) (i0 n k : Nat) (w : World) (h : HeapR w B hb A N c l) (hn : n ≤ N) (hN : N ≤ 1000000) (hk : k ≤ i0) (hi0 : i0 ≤ n) (hd : HDown (fnT l) n k i0) :
    Calls Tryz.prog 124 #[.iface 163 (.pointer (some ⟨hb, 0, none⟩)), .int .i64 (i0 : Int), .int .i64 (n : Int)] w fun e w' => (∃ v, e = .returned v) ∧ (∃ l', HeapR w' B hb A N c l' ∧ l'.Perm l ∧ l'.drop n = l.drop n ∧ HAll (fnT l') n k) ∧ Two hb A w w' := by
  have H0 := Lib.hid h
  have HD0 := Lib.hid hd
  clear h hd
  go_enter Tryz.func124, Tryz.ntmps124
  go_wp2
  go_loopg [7] n (fun gg s7 wr => ∃ (i : Nat) (l' : List Th), s7 = .int .i64 (i : Int) ∧ n - i ≤ gg ∧ k ≤ i ∧ i ≤ n ∧ HeapR wr B hb A N c l' ∧ l'.Perm l ∧ l'.drop n = l.drop n ∧ HDown (fnT l') n k i ∧ Two hb A w wr)
  case atStart => exact ⟨i0, l, rfl, by omega, hk, hi0, H0.out, List.Perm.refl _, rfl, HD0.out, Two.refl _ _ _⟩
  case round =>
    obtain ⟨i, l', rfl, hgg, hki, hin, hh, hp, hdr, hd, htw⟩ := hrel
    have HH := Lib.hid hh
    have HP := Lib.hid hp
    have HDr := Lib.hid hdr
    have HD := Lib.hid hd
    have HT := Lib.hid htw
    have hlen := hh.row.length
    have HLen := Lib.hid hlen
    clear hh hp hdr hd htw hlen
    have e1 : IntKind.i64.wrap (2 * (i : Int)) = 2 * (i : Int) := wrapi64 (by omega) (by omega)
    have e2 : IntKind.i64.wrap (2 * (i : Int) + 1) = ((2 * i + 1 : Nat) : Int) := by rw [wrapi64 (by omega) (by omega)]; rfl
    obtain ⟨j1, hj1⟩ : ∃ j1, 2 * i + 1 = j1 := ⟨_, rfl⟩
    rw [hj1] at e2
    by_cases hleaf : n ≤ j1
    · have g1 : decide ((n : Int) ≤ (j1 : Int)) = true := decide_eq_true (by omega)
      have HA := Lib.hid (HD.out.leaf (by omega))
      clear hj1
      go_wp2
      go_ret
      exact ⟨⟨_, rfl⟩, ⟨l', HH.out, HP.out, HDr.out, HA.out⟩, HT.out⟩
    · have g1 : decide ((n : Int) ≤ (j1 : Int)) = false := decide_eq_false (by omega)
      have g2 : decide ((j1 : Int) < 0) = false := decide_eq_false (by omega)
      have e3 : IntKind.i64.wrap ((j1 : Int) + 1) = ((j1 + 1 : Nat) : Int) := by rw [wrapi64 (by omega) (by omega)]; rfl
      have hml := m_Less HH.out.cell
      by_cases h2 : j1 + 1 < n
      · have g3 : decide (((j1 + 1 : Nat) : Int) < (n : Int)) = true := decide_eq_true (by omega)
        have HLa : Calls Tryz.prog 147 #[.slice A N c, .int .i64 ((j1 : Int) + 1), .int .i64 (j1 : Int)] wr _ := thLess B A N c l' (j1 + 1) j1 _ _ wr HH.out.row (fnT_at (by rw [HLen.out]; omega)) (fnT_at (by rw [HLen.out]; omega))
        have HLs := Lib.hid HLa
        clear HLa
        go_wp2_with fail
        refine HLs.out.mono ?_
        rintro e w1 ⟨rfl, q1, hw1⟩
        have HH1 := Lib.hid (show HeapR w1 B hb A N c l' by rw [hw1]; exact HH.out.drewN q1)
        have HT1 := Lib.hid (show Two hb A w w1 by rw [hw1]; exact HT.out.drewN q1)
        clear HLs hw1
        cases hc : lessT (fnT l' (j1 + 1)) (fnT l' j1) with
        | true =>
          have HMin := Lib.hid (show ∀ m, m < n → (m - 1) / 2 = i → 1 ≤ m → leT (fnT l' (j1 + 1)) (fnT l' m) from fun m h1 h2 h3 => by
            have : m = j1 ∨ m = j1 + 1 := by omega
            rcases this with rfl | rfl
            · exact lessT_lt hc
            · exact leT.refl _)
          clear hc
          have hml2 := m_Less HH1.out.cell
          have HLt : Calls Tryz.prog 147 #[.slice A N c, .int .i64 ((j1 : Int) + 1), .int .i64 (i : Int)] w1 _ := thLess B A N c l' (j1 + 1) i _ _ w1 HH1.out.row (fnT_at (by rw [HLen.out]; omega)) (fnT_at (by rw [HLen.out]; omega))
          have HLs2 := Lib.hid HLt
          clear HLt
          go_wp2_with fail
          refine HLs2.out.mono ?_
          rintro e w2 ⟨rfl, q2, hw2⟩
          have HH2 := Lib.hid (show HeapR w2 B hb A N c l' by rw [hw2]; exact HH1.out.drewN q2)
          have HT2 := Lib.hid (show Two hb A w w2 by rw [hw2]; exact HT1.out.drewN q2)
          clear hw2
          cases hlt : lessT (fnT l' (j1 + 1)) (fnT l' i) with
          | false =>
            have HA := Lib.hid (HD.out.stop (j := (j1 + 1)) (by omega) (lessT_le.1 hlt) HMin.out)
            clear hj1 HLs2
            go_wp2
            go_ret
            exact ⟨⟨_, rfl⟩, ⟨l', HH2.out, HP.out, HDr.out, HA.out⟩, HT2.out⟩
          | true =>
            have hms := m_Swap HH2.out.cell
            have HSt := Lib.hid (HD.out.step hki (j := (j1 + 1)) (by omega) (by omega) (lessT_lt hlt) HMin.out)
            have HSwF := Lib.hid (swapT_fn (l := l') (i := i) (j := (j1 + 1)) (by rw [HLen.out]; omega) (by rw [HLen.out]; omega) (by omega))
            have HPm := Lib.hid (perm_set2 l' i (j1 + 1) (by rw [HLen.out]; omega) (by rw [HLen.out]; omega) (by omega))
            have HDp := Lib.hid (swapT_drop (l := l') (i := i) (j := (j1 + 1)) (n := n) (by omega) (by omega))
            have HSc : Calls Tryz.prog 148 #[.slice A N c, .int .i64 (i : Int), .int .i64 ((j1 : Int) + 1)] w2 _ := thSwap B A N c l' i (j1 + 1) _ _ w2 HH2.out.row (fnT_at (by rw [HLen.out]; omega)) (fnT_at (by rw [HLen.out]; omega)) (by omega)
            have HSc2 := Lib.hid HSc
            clear HSc HLs2
            go_wp2_with fail
            refine HSc2.out.mono ?_
            rintro e w3 ⟨⟨v3, rfl⟩, hrow3, hgr3⟩
            have HBox3 := Lib.hid (HH2.out.box.kept hgr3 HH2.out.ne)
            have HRow3 := Lib.hid hrow3
            have HT3 := Lib.hid (HT2.out.grown hgr3 (fun k hk _ => .inr hk))
            clear hrow3 hgr3 HSc2 hms
            go_wp2
            go_roundg (n - (j1 + 1))
            case measure => omega
            case rel => exact ⟨(j1 + 1), swapT l' i (j1 + 1), by go_num, by omega, by omega, by omega, ⟨HBox3.out, HRow3.out⟩, HPm.out.trans HP.out, HDp.out.trans HDr.out, by rw [HSwF.out]; exact HSt.out, HT3.out⟩
        | false =>
          have HMin := Lib.hid (show ∀ m, m < n → (m - 1) / 2 = i → 1 ≤ m → leT (fnT l' j1) (fnT l' m) from fun m h1 h2 h3 => by
            have : m = j1 ∨ m = j1 + 1 := by omega
            rcases this with rfl | rfl
            · exact leT.refl _
            · exact lessT_le.1 hc)
          clear hc
          have hml2 := m_Less HH1.out.cell
          have HLt : Calls Tryz.prog 147 #[.slice A N c, .int .i64 (j1 : Int), .int .i64 (i : Int)] w1 _ := thLess B A N c l' j1 i _ _ w1 HH1.out.row (fnT_at (by rw [HLen.out]; omega)) (fnT_at (by rw [HLen.out]; omega))
          have HLs2 := Lib.hid HLt
          clear HLt
          go_wp2_with fail
          refine HLs2.out.mono ?_
          rintro e w2 ⟨rfl, q2, hw2⟩
          have HH2 := Lib.hid (show HeapR w2 B hb A N c l' by rw [hw2]; exact HH1.out.drewN q2)
          have HT2 := Lib.hid (show Two hb A w w2 by rw [hw2]; exact HT1.out.drewN q2)
          clear hw2
          cases hlt : lessT (fnT l' j1) (fnT l' i) with
          | false =>
            have HA := Lib.hid (HD.out.stop (j := j1) (by omega) (lessT_le.1 hlt) HMin.out)
            clear hj1 HLs2
            go_wp2
            go_ret
            exact ⟨⟨_, rfl⟩, ⟨l', HH2.out, HP.out, HDr.out, HA.out⟩, HT2.out⟩
          | true =>
            have hms := m_Swap HH2.out.cell
            have HSt := Lib.hid (HD.out.step hki (j := j1) (by omega) (by omega) (lessT_lt hlt) HMin.out)
            have HSwF := Lib.hid (swapT_fn (l := l') (i := i) (j := j1) (by rw [HLen.out]; omega) (by rw [HLen.out]; omega) (by omega))
            have HPm := Lib.hid (perm_set2 l' i j1 (by rw [HLen.out]; omega) (by rw [HLen.out]; omega) (by omega))
            have HDp := Lib.hid (swapT_drop (l := l') (i := i) (j := j1) (n := n) (by omega) (by omega))
            have HSc : Calls Tryz.prog 148 #[.slice A N c, .int .i64 (i : Int), .int .i64 (j1 : Int)] w2 _ := thSwap B A N c l' i j1 _ _ w2 HH2.out.row (fnT_at (by rw [HLen.out]; omega)) (fnT_at (by rw [HLen.out]; omega)) (by omega)
            have HSc2 := Lib.hid HSc
            clear HSc HLs2
            go_wp2_with fail
            refine HSc2.out.mono ?_
            rintro e w3 ⟨⟨v3, rfl⟩, hrow3, hgr3⟩
            have HBox3 := Lib.hid (HH2.out.box.kept hgr3 HH2.out.ne)
            have HRow3 := Lib.hid hrow3
            have HT3 := Lib.hid (HT2.out.grown hgr3 (fun k hk _ => .inr hk))
            clear hrow3 hgr3 HSc2 hms
            go_wp2
            go_roundg (n - j1)
            case measure => omega
            case rel => exact ⟨j1, swapT l' i j1, by go_num, by omega, by omega, by omega, ⟨HBox3.out, HRow3.out⟩, HPm.out.trans HP.out, HDp.out.trans HDr.out, by rw [HSwF.out]; exact HSt.out, HT3.out⟩
      · have g3 : decide (((j1 + 1 : Nat) : Int) < (n : Int)) = false := decide_eq_false (by omega)
        have HMin := Lib.hid (show ∀ m, m < n → (m - 1) / 2 = i → 1 ≤ m → leT (fnT l' j1) (fnT l' m) from fun m h1 h2 h3 => by
          have : m = j1 := by omega
          subst this
          exact leT.refl _)
        have hml2 := m_Less HH.out.cell
        have HLt : Calls Tryz.prog 147 #[.slice A N c, .int .i64 (j1 : Int), .int .i64 (i : Int)] wr _ := thLess B A N c l' j1 i _ _ wr HH.out.row (fnT_at (by rw [HLen.out]; omega)) (fnT_at (by rw [HLen.out]; omega))
        have HLs2 := Lib.hid HLt
        clear HLt
        go_wp2_with fail
        refine HLs2.out.mono ?_
        rintro e w2 ⟨rfl, q2, hw2⟩
        have HH2 := Lib.hid (show HeapR w2 B hb A N c l' by rw [hw2]; exact HH.out.drewN q2)
        have HT2 := Lib.hid (show Two hb A w w2 by rw [hw2]; exact HT.out.drewN q2)
        clear hw2
        cases hlt : lessT (fnT l' j1) (fnT l' i) with
        | false =>
          have HA := Lib.hid (HD.out.stop (j := j1) (by omega) (lessT_le.1 hlt) HMin.out)
          clear hj1 HLs2
          go_wp2
          go_ret
          exact ⟨⟨_, rfl⟩, ⟨l', HH2.out, HP.out, HDr.out, HA.out⟩, HT2.out⟩
        | true =>
          have hms := m_Swap HH2.out.cell
          have HSt := Lib.hid (HD.out.step hki (j := j1) (by omega) (by omega) (lessT_lt hlt) HMin.out)
          have HSwF := Lib.hid (swapT_fn (l := l') (i := i) (j := j1) (by rw [HLen.out]; omega) (by rw [HLen.out]; omega) (by omega))
          have HPm := Lib.hid (perm_set2 l' i j1 (by rw [HLen.out]; omega) (by rw [HLen.out]; omega) (by omega))
          have HDp := Lib.hid (swapT_drop (l := l') (i := i) (j := j1) (n := n) (by omega) (by omega))
          have HSc : Calls Tryz.prog 148 #[.slice A N c, .int .i64 (i : Int), .int .i64 (j1 : Int)] w2 _ := thSwap B A N c l' i j1 _ _ w2 HH2.out.row (fnT_at (by rw [HLen.out]; omega)) (fnT_at (by rw [HLen.out]; omega)) (by omega)
          have HSc2 := Lib.hid HSc
          clear HSc HLs2
          go_wp2_with fail
          refine HSc2.out.mono ?_
          rintro e w3 ⟨⟨v3, rfl⟩, hrow3, hgr3⟩
          have HBox3 := Lib.hid (HH2.out.box.kept hgr3 HH2.out.ne)
          have HRow3 := Lib.hid hrow3
          have HT3 := Lib.hid (HT2.out.grown hgr3 (fun k hk _ => .inr hk))
          clear hrow3 hgr3 HSc2 hms
          go_wp2
          go_roundg (n - j1)
          case measure => omega
          case rel => exact ⟨j1, swapT l' i j1, by go_num, by omega, by omega, by omega, ⟨HBox3.out, HRow3.out⟩, HPm.out.trans HP.out, HDp.out.trans HDr.out, by rw [HSwF.out]; exact HSt.out, HT3.out⟩
end Go.Proofs.YtaelgbbnmjbjiaaGreat
namespace Go.Proofs.YtaelgbbnmjbjiaaGreat
open Go.RowKit
theorem Two.newTo2 {g : Nat} {A A' : Option Addr} {w W W' : World} (h : Two g A w W) (hn : NewTo w A A') (k : Two g A' W W') : Two g A w W' :=
  ⟨k.os.trans h.os, k.tape.trans h.tape, k.output.trans h.output, Nat.le_trans h.size k.size, fun i hi h1 h2 => (k.block i (Nat.lt_of_lt_of_le hi h.size) h1 (fun e => by
    rcases hn with hn | ⟨j, h3, h4⟩
    · exact h2 (by rw [← hn]; exact e)
    · rw [e] at h3; injection h3 with h3; omega)).trans (h.block i hi h1 h2)⟩
set_option maxHeartbeats 4000000 in
set_option maxRecDepth 10000 in
theorem hpUp (B hb : Nat) (A : Option Addr) (N c : Nat) (l : List Th) (j0 : Nat) (w : World) (h : HeapR w B hb A N c l) (hN : N ≤ 1000000) (hj : j0 < N) (hd : HUp (fnT l) N j0) :
    Calls Tryz.prog 126 #[.iface 163 (.pointer (some ⟨hb, 0, none⟩)), .int .i64 (j0 : Int)] w fun e w' => (∃ v, e = .returned v) ∧ (∃ l', HeapR w' B hb A N c l' ∧ l'.Perm l ∧ HAll (fnT l') N 0) ∧ Two hb A w w' := by
  have H0 := Lib.hid h
  have HD0 := Lib.hid hd
  clear h hd
  go_enter Tryz.func126, Tryz.ntmps126
  go_wp2
  go_loopg [1] N (fun gg s1 wr => ∃ (j : Nat) (l' : List Th), s1 = .int .i64 (j : Int) ∧ j ≤ gg ∧ j < N ∧ HeapR wr B hb A N c l' ∧ l'.Perm l ∧ HUp (fnT l') N j ∧ Two hb A w wr)
  case atStart => exact ⟨j0, l, rfl, by omega, hj, H0.out, List.Perm.refl _, HD0.out, Two.refl _ _ _⟩
  case round =>
    obtain ⟨j, l', rfl, hgg, hjN, hh, hp, hd, htw⟩ := hrel
    have HH := Lib.hid hh
    have HP := Lib.hid hp
    have HD := Lib.hid hd
    have HT := Lib.hid htw
    have HLen := Lib.hid hh.row.length
    clear hh hp hd htw
    cases j with
    | zero =>
      have HA := Lib.hid (HD.out.stop (.inl rfl))
      go_wp2
      go_end0
      exact ⟨⟨_, rfl⟩, ⟨l', HH.out, HP.out, HA.out⟩, HT.out⟩
    | succ p =>
      obtain ⟨i, hi⟩ : ∃ i, p / 2 = i := ⟨_, rfl⟩
      have hpi : i ≤ p := by omega
      have HI := Lib.hid (show (p + 1 - 1) / 2 = i by omega)
      have e1 : IntKind.i64.wrap (((p + 1 : Nat) : Int) - 1) = (p : Int) := by rw [wrapi64 (by omega) (by omega)]; omega
      have e2 : (p : Int) / 2 = (i : Int) := by omega
      have g1 : ((i : Int) == (p : Int) + 1) = false := beq_eq_false_iff_ne.2 (by omega)
      have hml := m_Less HH.out.cell
      have HLa : Calls Tryz.prog 147 #[.slice A N c, .int .i64 ((p : Int) + 1), .int .i64 (i : Int)] wr _ := thLess B A N c l' (p + 1) i _ _ wr HH.out.row (fnT_at (by rw [HLen.out]; omega)) (fnT_at (by rw [HLen.out]; omega))
      have HLs := Lib.hid HLa
      clear HLa hi
      go_wp2_with fail
      refine HLs.out.mono ?_
      rintro e w2 ⟨rfl, q2, hw2⟩
      have HH2 := Lib.hid (show HeapR w2 B hb A N c l' by rw [hw2]; exact HH.out.drewN q2)
      have HT2 := Lib.hid (show Two hb A w w2 by rw [hw2]; exact HT.out.drewN q2)
      clear hw2 HLs
      cases hlt : lessT (fnT l' (p + 1)) (fnT l' i) with
      | false =>
        have HA := Lib.hid (HD.out.stop (.inr (by rw [HI.out]; exact lessT_le.1 hlt)))
        clear hml
        go_wp2
        go_end0
        exact ⟨⟨_, rfl⟩, ⟨l', HH2.out, HP.out, HA.out⟩, HT2.out⟩
      | true =>
        have hms := m_Swap HH2.out.cell
        have HSt := Lib.hid (by have h := HD.out.step (by omega) (by rw [HI.out]; exact lessT_lt hlt); rw [HI.out] at h; exact h : HUp (swapF (fnT l') (p + 1) i) N i)
        have HSwF := Lib.hid (swapT_fn (l := l') (i := p + 1) (j := i) (by rw [HLen.out]; omega) (by rw [HLen.out]; omega) (by omega))
        have HPm := Lib.hid (perm_set2 l' (p + 1) i (by rw [HLen.out]; omega) (by rw [HLen.out]; omega) (by omega))
        have HSc : Calls Tryz.prog 148 #[.slice A N c, .int .i64 (i : Int), .int .i64 ((p : Int) + 1)] w2 _ := thSwap B A N c l' i (p + 1) _ _ w2 HH2.out.row (fnT_at (by rw [HLen.out]; omega)) (fnT_at (by rw [HLen.out]; omega)) (by omega)
        have HSc2 := Lib.hid HSc
        clear HSc
        go_wp2_with fail
        refine HSc2.out.mono ?_
        rintro e w3 ⟨⟨v3, rfl⟩, hrow3, hgr3⟩
        have HBox3 := Lib.hid (HH2.out.box.kept hgr3 HH2.out.ne)
        have HRow3 := Lib.hid (show OwnT w3 B A N c (swapT l' (p + 1) i) from by
          unfold swapT
          rw [List.set_comm _ _ (by omega)]
          exact hrow3)
        have HT3 := Lib.hid (HT2.out.grown hgr3 (fun k hk _ => .inr hk))
        clear hrow3 hgr3 HSc2 hms hml
        go_wp2
        go_roundg i
        case measure => omega
        case rel => exact ⟨i, swapT l' (p + 1) i, rfl, Nat.le_refl _, by omega, ⟨HBox3.out, HRow3.out⟩, HPm.out.trans HP.out, by rw [HSwF.out]; exact HSt.out, HT3.out⟩
set_option maxHeartbeats 4000000 in
set_option maxRecDepth 10000 in
theorem hpInit (B hb : Nat) (A : Option Addr) (N c : Nat) (l : List Th) (w : World) (h : HeapR w B hb A N c l) (hN : N ≤ 1000000) :
    Calls Tryz.prog 116 #[.iface 163 (.pointer (some ⟨hb, 0, none⟩))] w fun e w' => (∃ v, e = .returned v) ∧ (∃ l', HeapR w' B hb A N c l' ∧ l'.Perm l ∧ HAll (fnT l') N 0) ∧ Two hb A w w' := by
  have H0 := Lib.hid h
  have hml := m_Len h.cell
  have HLen0 := Lib.hid (thLen A N c w)
  clear h
  obtain ⟨hf, hhf⟩ : ∃ hf, N / 2 = hf := ⟨_, rfl⟩
  have e1 : (N : Int) / 2 = (hf : Int) := by omega
  have e2 : IntKind.i64.wrap ((hf : Int) - 1) = (hf : Int) - 1 := wrapi64 (by omega) (by omega)
  have HF := Lib.hid hhf
  have hfN : hf ≤ N := by omega
  clear hhf
  go_enter Tryz.func116, Tryz.ntmps116
  go_wp2_with fail
  refine HLen0.out.mono ?_
  rintro e w1 ⟨rfl, hw1⟩
  obtain rfl := hw1.symm
  go_wp2_with fail
  go_loopg [3] N (fun gg s3 wr => ∃ (m : Nat) (l' : List Th), s3 = .int .i64 ((m : Int) - 1) ∧ m ≤ gg ∧ m ≤ hf ∧ HeapR wr B hb A N c l' ∧ l'.Perm l ∧ HAll (fnT l') N m ∧ Two hb A w wr)
  case atStart => exact ⟨hf, l, by go_num, by omega, Nat.le_refl _, H0.out, List.Perm.refl _, fun m h1 h2 h3 => by have := HF.out; omega, Two.refl _ _ _⟩
  case round =>
    clear e1 e2 hml
    obtain ⟨m, l', rfl, hgg, hmf, hh, hp, ha, htw⟩ := hrel
    cases m with
    | zero =>
      have HH := Lib.hid hh
      have HP := Lib.hid hp
      have HA := Lib.hid ha
      have HT := Lib.hid htw
      clear hh hp ha htw
      go_wp2
      go_end0
      exact ⟨⟨_, rfl⟩, ⟨l', HH.out, HP.out, HA.out⟩, HT.out⟩
    | succ i =>
      have e3 : ((i + 1 : Nat) : Int) - 1 = (i : Int) := by omega
      rw [e3]
      clear e3
      have hiN := HF.out
      have HDn := Lib.hid (hpDown B hb A N c l' i N i wr hh (Nat.le_refl _) hN (Nat.le_refl _) (by omega) ⟨fun m h1 h2 h3 h4 => ha m h1 h2 (by omega), fun m h1 h2 h3 h4 h5 => by omega⟩)
      have HP := Lib.hid hp
      have HT := Lib.hid htw
      clear hh hp ha htw hiN
      have g1 : decide ((0 : Int) ≤ (i : Int)) = true := decide_eq_true (by omega)
      go_wp2_with fail
      refine HDn.out.mono ?_
      rintro e w2 ⟨⟨v2, rfl⟩, ⟨l2, hh2, hp2, -, ha2⟩, ht2⟩
      have HH2 := Lib.hid hh2
      have HP2 := Lib.hid (hp2.trans HP.out)
      have HA2 := Lib.hid ha2
      have HT2 := Lib.hid (HT.out.trans ht2)
      clear hh2 hp2 ha2 ht2 HDn
      go_wp2
      go_roundg i
      case measure => omega
      case rel => exact ⟨i, l2, by go_num, Nat.le_refl _, by omega, HH2.out, HP2.out, HA2.out, HT2.out⟩
theorem fnT_take {l : List Th} {M m : Nat} (h : m < M) : fnT (l.take M) m = fnT l m := by
  unfold fnT
  simp only [List.getD, List.getElem?_take, if_pos h]
theorem fnT_append {l : List Th} {x : Th} {m : Nat} (h : m < l.length) : fnT (l ++ [x]) m = fnT l m := by
  unfold fnT
  simp only [List.getD, List.getElem?_append_left h]
theorem fnT_mem {l : List Th} {y : Th} (h : y ∈ l) : ∃ m, m < l.length ∧ fnT l m = y := by
  obtain ⟨m, hm, e⟩ := List.getElem_of_mem h
  exact ⟨m, hm, by unfold fnT; simp [List.getD, List.getElem?_eq_getElem hm, e]⟩
set_option maxHeartbeats 4000000 in
set_option maxRecDepth 10000 in
theorem hpPop (B hb : Nat) (A : Option Addr) (M c : Nat) (l : List Th) (w : World) (h : HeapR w B hb A (M + 1) c l) (hM : 1 ≤ M) (hM2 : M ≤ 999999) (hc : M + 1 ≤ c) (ha : HAll (fnT l) (M + 1) 0) :
    Calls Tryz.prog 117 #[.iface 163 (.pointer (some ⟨hb, 0, none⟩))] w fun e w' => ∃ x l', e = .returned (thV x) ∧ HeapR w' B hb A M c l' ∧ (x :: l').Perm l ∧ HAll (fnT l') M 0 ∧ (∀ y ∈ l', leT x y) ∧ Two hb A w w' := by
  have H0 := Lib.hid h
  have HA0 := Lib.hid ha
  have hml := m_Len h.cell
  have HLen0 := Lib.hid (thLen A (M + 1) c w)
  have hlen := h.row.length
  have HLen := Lib.hid hlen
  have hms := m_Swap h.cell
  have HSw := Lib.hid (thSwap B A (M + 1) c l 0 M _ _ w h.row (fnT_at (by omega)) (fnT_at (by omega)) (by omega))
  have e1 : IntKind.i64.wrap (((M + 1 : Nat) : Int) - 1) = (M : Int) := by rw [wrapi64 (by omega) (by omega)]; omega
  clear h ha hlen
  go_enter Tryz.func117, Tryz.ntmps117
  go_wp2_with fail
  refine HLen0.out.mono ?_
  rintro e w1 ⟨rfl, hw1⟩
  obtain rfl := hw1.symm
  go_wp2_with fail
  refine HSw.out.mono ?_
  rintro e w2 ⟨⟨v2, rfl⟩, hrow2, hgr2⟩
  have hh2 : HeapR w2 B hb A (M + 1) c (swapT l 0 M) := ⟨H0.out.box.kept hgr2 H0.out.ne, hrow2⟩
  have HT2 := Lib.hid ((Two.refl hb A w).grown hgr2 (fun k hk _ => .inr hk))
  have hfn := swapT_fn (l := l) (i := 0) (j := M) (by rw [HLen.out]; omega) (by rw [HLen.out]; omega) (by omega)
  have hdn : HDown (fnT (swapT l 0 M)) M 0 0 := by
    rw [hfn]
    refine ⟨fun m h1 h2 _ h4 => ?_, fun m h1 h2 h3 h4 _ => by omega⟩
    unfold swapF
    rw [if_neg h4, if_neg (by omega), if_neg (by omega), if_neg (by omega)]
    exact HA0.out m h1 (by omega) (Nat.zero_le _)
  have HDn := Lib.hid (hpDown B hb A (M + 1) c (swapT l 0 M) 0 M 0 w2 hh2 (by omega) (by omega) (Nat.le_refl _) (Nat.zero_le _) hdn)
  clear hrow2 hgr2 hh2 hfn hdn hml hms HSw e1
  go_wp2_with fail
  refine HDn.out.mono ?_
  rintro e w3 ⟨⟨v3, rfl⟩, ⟨l3, hh3, hp3, hd3, ha3⟩, ht3⟩
  have hl3 := hh3.row.length
  have hx : l3[M]? = some (fnT l 0) := by
    have h1 : (l3.drop M)[0]? = ((swapT l 0 M).drop M)[0]? := by rw [hd3]
    rw [List.getElem?_drop, List.getElem?_drop, Nat.add_zero] at h1
    rw [h1, fnT_at (by rw [swapT_len, HLen.out]; omega), swapT_fn (by rw [HLen.out]; omega) (by rw [HLen.out]; omega) (by omega)]
    unfold swapF
    rw [if_neg (by omega), if_pos rfl]
  have hperm : (fnT l 0 :: l3.take M).Perm l := by
    have e : l3 = l3.take M ++ [fnT l 0] := by
      have h1 := List.take_append_drop M l3
      have h2 : l3.drop M = [fnT l 0] := by
        rw [List.drop_eq_getElem_cons (by omega)]
        rw [List.getElem?_eq_getElem (by omega)] at hx
        injection hx with hx
        rw [hx, List.drop_of_length_le (by omega)]
      rw [h2] at h1
      exact h1.symm
    have p1 : (fnT l 0 :: l3.take M).Perm l3 := by
      conv => rhs; rw [e]
      exact (List.perm_append_singleton _ _).symm
    exact p1.trans (hp3.trans (perm_set2 l 0 M (by rw [HLen.out]; omega) (by rw [HLen.out]; omega) (by omega)))
  have HPop := Lib.hid (thPop B hb A M c l3 (fnT l 0) w3 hh3 hx (by omega) hc)
  have HPerm := Lib.hid hperm
  have HAl := Lib.hid (show HAll (fnT (l3.take M)) M 0 from fun m h1 h2 h3 => by rw [fnT_take (by omega), fnT_take h2]; exact ha3 m h1 h2 h3)
  have HMin := Lib.hid (show ∀ y ∈ l3.take M, leT (fnT l 0) y from fun y hy => by
    obtain ⟨m, hm, rfl⟩ := fnT_mem (hperm.subset (List.mem_cons_of_mem _ hy))
    exact HA0.out.root m (by rw [← HLen.out]; exact hm))
  have HT3 := Lib.hid (HT2.out.trans ht3)
  have hmp := m_Pop ⟨hb, 0, none⟩ w3
  clear hh3 hp3 hd3 ha3 ht3 hl3 hx hperm HDn
  go_wp2_with fail
  refine HPop.out.mono ?_
  rintro e w4 ⟨rfl, hh4, ht4⟩
  have HH4 := Lib.hid hh4
  have HT4 := Lib.hid (HT3.out.trans ht4)
  clear hh4 ht4 HPop hmp
  go_wp2
  go_ret
  exact ⟨fnT l 0, l3.take M, rfl, HH4.out, HPerm.out, HAl.out, HMin.out, HT4.out⟩
set_option maxHeartbeats 4000000 in
set_option maxRecDepth 10000 in
theorem hpPush (B hb : Nat) (A : Option Addr) (N c : Nat) (l : List Th) (x : Th) (w : World) (h : HeapR w B hb A N c l) (hN : N ≤ 999999) (hB : B ≤ w.heap.size) (ha : HAll (fnT l) N 0) :
    Calls Tryz.prog 119 #[.iface 163 (.pointer (some ⟨hb, 0, none⟩)), thV x] w fun e w' => (∃ v, e = .returned v) ∧ (∃ A' c' l', HeapR w' B hb A' (N + 1) c' l' ∧ l'.Perm (x :: l) ∧ HAll (fnT l') (N + 1) 0 ∧ NewTo w A A') ∧ Two hb A w w' := by
  have HLen := Lib.hid h.row.length
  have HPu := Lib.hid (thPush B hb A N c l x w h (by omega) hB)
  have HA0 := Lib.hid ha
  have hmp := m_Push ⟨hb, 0, none⟩ w
  clear h ha
  go_enter Tryz.func119, Tryz.ntmps119
  go_wp2_with fail
  refine HPu.out.mono ?_
  rintro e w1 ⟨⟨v1, rfl⟩, ⟨A1, c1, hh1, hnt1⟩, ht1⟩
  have hml := m_Len hh1.cell
  have HLe := Lib.hid (thLen A1 (N + 1) c1 w1)
  have hup : HUp (fnT (l ++ [x])) (N + 1) N := by
    refine ⟨fun m h1 h2 h3 => ?_, fun m h1 h2 h3 h4 => by omega⟩
    rw [fnT_append (by rw [HLen.out]; omega), fnT_append (by rw [HLen.out]; omega)]
    exact HA0.out m h1 (by omega) (Nat.zero_le _)
  have HUp' := Lib.hid (hpUp B hb A1 (N + 1) c1 (l ++ [x]) N w1 hh1 (by omega) (by omega) hup)
  have HNT := Lib.hid hnt1
  have HT1 := Lib.hid ht1
  have e1 : IntKind.i64.wrap (((N + 1 : Nat) : Int) - 1) = (N : Int) := by rw [wrapi64 (by omega) (by omega)]; omega
  clear hh1 hnt1 ht1 hup hmp HPu
  go_wp2_with fail
  refine HLe.out.mono ?_
  rintro e w2 ⟨rfl, hw2⟩
  obtain rfl := hw2.symm
  go_wp2_with fail
  refine HUp'.out.mono ?_
  rintro e w3 ⟨⟨v3, rfl⟩, ⟨l3, hh3, hp3, ha3⟩, ht3⟩
  have HH3 := Lib.hid hh3
  have HP3 := Lib.hid (hp3.trans (List.perm_append_singleton x l))
  have HA3 := Lib.hid ha3
  have HT3 := Lib.hid (HT1.out.newTo2 HNT.out ht3)
  clear hh3 hp3 ha3 ht3 hml e1 HUp'
  go_wp2
  go_end0
  exact ⟨⟨_, rfl⟩, ⟨A1, c1, l3, HH3.out, HP3.out, HA3.out, HNT.out⟩, HT3.out⟩
end Go.Proofs.YtaelgbbnmjbjiaaGreat
namespace Go.Proofs.YtaelgbbnmjbjiaaGreat
open Go.RowKit
theorem Own.take {w : World} {base n c m : Nat} {e : TypeId} {A : Option Addr} {xs : List Value} (h : Own w base e A n c xs) (hm : m ≤ n) : Own w base e A m c (xs.take m) := by
  rcases h.2 with ⟨hv, h0⟩ | ⟨g, cap, cur, hv, h1, h2, h3, h4, h5, h6⟩
  · have hm0 : m = 0 := by omega
    subst hm0
    have := h.1
    simp only [Value.slice.injEq] at hv
    refine ⟨by simp, .inl ⟨?_, rfl⟩⟩
    rw [hv.1, hv.2.2]
  · refine ⟨?_, .inr ⟨g, cap, cur, ?_, h1, h2, by omega, h4, h5, ?_⟩⟩
    · rw [List.length_take, h.1]; omega
    · simp only [Value.slice.injEq] at hv ⊢
      exact ⟨hv.1, trivial, hv.2.2⟩
    · rw [← h6, List.take_take, Nat.mul_one]
      congr 1; omega
set_option maxHeartbeats 2000000 in
set_option maxRecDepth 10000 in
theorem growNil (n : Nat) (w : World) (hn : n ≤ 1000000) :
    Calls Tryz.prog 125 #[.slice none 0 0, .int .i64 (n : Int)] w fun e w' => ∃ S cs, e = .returned (.slice S 0 cs) ∧ OwnN w' w.heap.size S 0 cs [] ∧ Below w.heap.size w w' := by
  have g1 : decide ((n : Int) < 0) = false := decide_eq_false (by omega)
  by_cases h0 : 0 < n
  · have g2 : decide ((0 : Int) < (n : Int)) = true := decide_eq_true (by omega)
    have HO := Lib.hid (Own.nil w w.heap.size 3)
    go_enter Tryz.func125, Tryz.ntmps125
    go_wp2_with (first | (at_builtin; refine wpList_append_zeros rfl _ _ elemN .i64 .i64 Tryz.underlying3 rfl w.heap.size none 0 0 [] rfl HO.out n ?c0 ?c1 rfl ?c2 ?c3 ?c4 ?_) | (with_reducible refine wpList_slice_hi ?g ?s ?h elemN ?ho none 0 0 0 ?hs ?hh ?hk ?_; (case ho => exact rfl); (case g => exact rfl); (case hs => exact rfl); (case hh => exact rfl); (case hk => omega)))
    case c0 => rfl
    case c1 => omega
    case c2 => omega
    case c3 => omega
    case c4 => exact Nat.le_refl _
    intro A' c' w5 hown5 hb5 hgr5 _
    have HO5 := Lib.hid (Own.take hown5 (Nat.zero_le n))
    have HB5 := Lib.hid hb5
    clear hown5 hb5 hgr5
    go_wp2_with (with_reducible refine wpList_slice_hi ?g ?s ?h elemN ?ho A' n c' 0 ?hs ?hh ?hk ?_; (case ho => exact rfl); (case g => exact rfl); (case hs => exact rfl); (case hh => exact rfl); (case hk => omega))
    go_ret
    exact ⟨A', c', rfl, HO5.out, HB5.out⟩
  · have g2 : decide ((0 : Int) < (n : Int)) = false := decide_eq_false (by omega)
    obtain rfl : n = 0 := by omega
    go_enter Tryz.func125, Tryz.ntmps125
    go_wp2
    go_ret
    exact ⟨none, 0, rfl, OwnN.nil _ _, Below.refl _ _⟩
def catL (pl : Nat → List Nat) : Nat → List Nat
  | 0 => []
  | k + 1 => catL pl k ++ pl k
theorem catL_mono (pl : Nat → List Nat) : ∀ {k m : Nat}, k ≤ m → (catL pl k).length ≤ (catL pl m).length
  | k, 0, h => by
    have e : k = 0 := Nat.le_zero.1 h
    rw [e]
    exact Nat.le_refl _
  | k, m + 1, h => by
    by_cases e : k = m + 1
    · subst e; exact Nat.le_refl _
    · have := catL_mono pl (k := k) (m := m) (by omega)
      rw [catL, List.length_append]; omega
set_option maxHeartbeats 4000000 in
set_option maxRecDepth 10000 in
theorem concatN (g m c : Nat) (PA : Nat → Option Addr) (pn pc : Nat → Nat) (pl : Nat → List Nat) (w : World) (hcell : ∀ k, k < m → w.cell? ⟨g, k, none⟩ = some (.slice (PA k) (pn k) (pc k))) (hlen : ∀ k, k < m → (pl k).length = pn k) (hr : ∀ k, k < m → Ns w (PA k) (pl k)) (hm : m ≤ 1000) (htot : (catL pl m).length ≤ 1000000) :
    Calls Tryz.prog 118 #[.slice (some ⟨g, 0, none⟩) m c] w fun e w' => ∃ S n cs, e = .returned (.slice S n cs) ∧ OwnN w' w.heap.size S n cs (catL pl m) ∧ Below w.heap.size w w' := by
  have HCell := Lib.hid hcell
  have HLen := Lib.hid hlen
  have HR := Lib.hid hr
  clear hcell hlen hr
  go_enter Tryz.func118, Tryz.ntmps118
  go_wp2
  go_loopg [3, 11] m (fun gg s3 s11 wr => ∃ k : Nat, k ≤ m ∧ m - k ≤ gg ∧ s3 = .int .i64 (((catL pl k).length : Nat) : Int) ∧ s11 = .int .i64 (k : Int) ∧ w = wr)
  case atStart => exact ⟨0, by omega, by omega, rfl, rfl, rfl⟩
  case round =>
    obtain ⟨k, hk, hgg, rfl, rfl, rfl⟩ := hrel
    by_cases hkm : k < m
    · have c0 := HCell.out k hkm
      have hl := HLen.out k hkm
      have hst : (catL pl (k + 1)).length = (catL pl k).length + pn k := by rw [catL, List.length_append, hl]
      have hmo := catL_mono pl (show k + 1 ≤ m by omega)
      obtain ⟨T, hT⟩ : ∃ T, (catL pl k).length = T := ⟨_, rfl⟩
      rw [hT] at hst ⊢
      obtain ⟨z, hz⟩ : ∃ z, pn k = z := ⟨_, rfl⟩
      rw [hz] at c0 hst
      have HSt := Lib.hid hst
      have htz : T + z ≤ 1000000 := by omega
      have e1 : IntKind.i64.wrap ((T : Int) + z) = ((T + z : Nat) : Int) := by rw [wrapi64 (by omega) (by omega)]; rfl
      have g1 : decide (((T + z : Nat) : Int) < 0) = false := decide_eq_false (by omega)
      clear hl hst hT hz hmo
      go_wp2
      go_roundg (m - (k + 1))
      case measure => omega
      case rel => exact ⟨k + 1, by omega, by omega, by rw [HSt.out]; rfl, by go_num, rfl⟩
    · obtain rfl : k = m := by omega
      obtain ⟨T, hT⟩ : ∃ T, (catL pl k).length = T := ⟨_, rfl⟩
      rw [hT] at htot ⊢
      have HT := Lib.hid hT
      have HG := Lib.hid (growNil T w htot)
      clear hT
      go_wp2_with fail
      refine HG.out.mono ?_
      rintro e w1 ⟨S1, cs1, rfl, hown1, hb1⟩
      have HO1 := Lib.hid hown1
      have HB1 := Lib.hid hb1
      clear hown1 hb1 HG
      go_wp2_with fail
      go_loopg [6, 27] k (fun gg s6 s27 wr => ∃ (i n cs : Nat) (S : Option Addr), i ≤ k ∧ k - i ≤ gg ∧ s6 = .slice S n cs ∧ s27 = .int .i64 (i : Int) ∧ OwnN wr w.heap.size S n cs (catL pl i) ∧ Below w.heap.size w wr)
      case atStart => exact ⟨0, 0, cs1, S1, by omega, by omega, rfl, rfl, HO1.out, HB1.out⟩
      case round =>
        obtain ⟨i, n, cs, S, hi, hgi, rfl, rfl, hown, hbel⟩ := hrel
        have HO := Lib.hid hown
        have HB := Lib.hid hbel
        have hnl := OwnN.length hown
        have hmo := catL_mono pl hi
        have hn : n ≤ 1000000 := by rw [← hnl]; rw [HT.out] at hmo; omega
        clear hown hbel hnl hmo
        by_cases hik : i < k
        · have c0 := (HB.out.cell (p := ⟨g, i, none⟩) (block_lt (HCell.out i hik))).trans (HCell.out i hik)
          have hl := HLen.out i hik
          have HN := Lib.hid (Rd.later (HR.out i hik) HB.out : Ns wr (PA i) (pl i))
          have HL := Lib.hid hl
          have hmo := catL_mono pl (show i + 1 ≤ k by omega)
          have hz1 : pn i ≤ 1000000 := by
            rw [catL, List.length_append, hl, HT.out] at hmo; omega
          obtain ⟨Pa, hPa⟩ : ∃ Pa, PA i = Pa := ⟨_, rfl⟩
          obtain ⟨z, hz⟩ : ∃ z, pn i = z := ⟨_, rfl⟩
          obtain ⟨pcc, hpc⟩ : ∃ pcc, pc i = pcc := ⟨_, rfl⟩
          rw [hPa] at c0 HN
          rw [hz] at c0 HL hz1
          rw [hpc] at c0
          clear hl hmo hPa hz hpc
          go_wp2_with (at_builtin; go_loud (refine wpList_append_rd rfl _ _ elemN rfl w.heap.size S n cs ((catL pl i).map natv) ?hs HO.out Pa z pcc ((pl i).map natv) ?hh ?a1 ?a2 ?a0 ?a3 ?a4 ?a5 ?_; (case hs => simp [Act.eval]); (case hh => simp [Act.eval])))
          case a0 => intro v hv; obtain ⟨u, -, rfl⟩ := List.mem_map.1 hv; rfl
          case a1 => exact HN.out
          case a2 => rw [List.length_map]; exact HL.out
          case a3 => omega
          case a4 => omega
          case a5 => exact HB.out.size
          intro A' c' w2 hown2 hb2 hgr2 hat2
          have HO2 := Lib.hid (show OwnN w2 w.heap.size A' (n + z) c' (catL pl (i + 1)) from by
            unfold OwnN
            rw [catL, List.map_append]
            exact hown2)
          have HB2 := Lib.hid (HB.out.trans hb2)
          clear hown2 hb2 hgr2 hat2 c0
          go_wp2
          go_roundg (k - (i + 1))
          case measure => omega
          case rel => exact ⟨i + 1, n + z, c', A', by omega, by omega, rfl, by go_num, HO2.out, HB2.out⟩
        · obtain rfl : i = k := by omega
          go_wp2
          go_ret
          exact ⟨S, n, cs, rfl, HO.out, HB.out⟩
end Go.Proofs.YtaelgbbnmjbjiaaGreat
namespace Go.Proofs.YtaelgbbnmjbjiaaGreat
open Go.RowKit
def fibT : Nat → Nat
  | 0 => 1
  | 1 => 1
  | n + 2 => fibT (n + 1) + fibT n
theorem fibT_pos : ∀ n, 1 ≤ fibT n
  | 0 => Nat.le_refl _
  | 1 => Nat.le_refl _
  | n + 2 => by have := fibT_pos (n + 1); rw [fibT]; omega
theorem fibT_succ {n : Nat} (h : 1 ≤ n) : fibT (n + 1) = fibT n + fibT (n - 1) := by
  obtain ⟨m, rfl⟩ : ∃ m, n = m + 1 := ⟨n - 1, by omega⟩
  rfl
def PairT (x y : Th) : Prop := fibT (x.ht - 1) ≤ y.wt ∧ fibT (y.ht - 1) ≤ x.wt
theorem PairT.symm {x y : Th} (h : PairT x y) : PairT y x := ⟨h.2, h.1⟩
structure ThOk (out : List Nat) (x : Th) : Prop where
  fib : fibT x.ht ≤ x.wt
  le : ∀ p ∈ x.ps, out.getD p 0 ≤ x.ht
  kraft : ∀ H, x.ht ≤ H → sumL (x.ps.map (fun p => 2 ^ (H - out.getD p 0))) = 2 ^ H
def wtsT (l : List Th) : Nat := sumL (l.map (·.wt))
def allP (l : List Th) : List Nat := l.flatMap (·.ps)
theorem sumL_perm {a b : List Nat} (h : a.Perm b) : sumL a = sumL b := by
  induction h with
  | nil => rfl
  | cons x _ ih => simp only [sumL, ih]
  | swap x y l => simp only [sumL]; omega
  | trans _ _ h1 h2 => exact h1.trans h2
structure Forest (P0 : List Nat) (W : Nat) (out : List Nat) (l : List Th) : Prop where
  ok : ∀ x ∈ l, ThOk out x
  pair : l.Pairwise PairT
  wts : wtsT l = W
  all : (allP l).Perm P0
  rest : ∀ p, p ∉ P0 → out.getD p 0 = 0
theorem Forest.perm {P0 : List Nat} {W : Nat} {out : List Nat} {l l' : List Th} (h : Forest P0 W out l) (hp : l'.Perm l) : Forest P0 W out l' :=
  ⟨fun x hx => h.ok x (hp.subset hx), (hp.pairwise_iff (fun h => h.symm)).2 h.pair, by rw [← h.wts]; exact sumL_perm (hp.map _), (hp.flatMap_right _).trans h.all, h.rest⟩
def incT (out : List Nat) : List Nat → List Nat
  | [] => out
  | p :: r => incT (out.set p (out.getD p 0 + 1)) r
theorem incT_len : ∀ (ps : List Nat) (out : List Nat), (incT out ps).length = out.length
  | [], _ => rfl
  | p :: r, out => by rw [incT, incT_len r, List.length_set]
theorem incT_snoc : ∀ (ps : List Nat) (p : Nat) (out : List Nat), incT out (ps ++ [p]) = (incT out ps).set p ((incT out ps).getD p 0 + 1)
  | [], _, _ => rfl
  | q :: r, p, out => incT_snoc r p _
theorem incT_other : ∀ (ps : List Nat) (out : List Nat) (p : Nat), p ∉ ps → (incT out ps).getD p 0 = out.getD p 0
  | [], _, _, _ => rfl
  | q :: r, out, p, h => by
    simp only [List.mem_cons, not_or] at h
    rw [incT, incT_other r _ p h.2, getD_set, if_neg (fun e => h.1 e.1)]
theorem incT_at : ∀ (ps : List Nat) (out : List Nat) (p : Nat), ps.Nodup → p ∈ ps → p < out.length → (incT out ps).getD p 0 = out.getD p 0 + 1
  | q :: r, out, p, hn, h, hl => by
    rw [List.nodup_cons] at hn
    rcases List.mem_cons.1 h with e | h
    · subst e
      rw [incT, incT_other r _ p hn.1, getD_set, if_pos ⟨rfl, hl⟩]
    · have hpq : p ≠ q := fun e => hn.1 (e ▸ h)
      rw [incT, incT_at r _ p hn.2 h (by rw [List.length_set]; exact hl), getD_set, if_neg (fun e => hpq e.1)]
theorem allP_cons (x : Th) (l : List Th) : allP (x :: l) = x.ps ++ allP l := rfl
theorem wtsT_cons (x : Th) (l : List Th) : wtsT (x :: l) = x.wt + wtsT l := rfl
theorem Forest.merge {P0 : List Nat} {W n : Nat} {out : List Nat} {l : List Th} {a b x : Th} (h : Forest P0 W out (a :: b :: l)) (hnd : P0.Nodup) (hlt : ∀ p ∈ P0, p < n) (hn : out.length = n)
    (ha : ∀ y ∈ l, leT a y) (hb : ∀ y ∈ l, leT b y) (hw : x.wt = a.wt + b.wt) (hh : x.ht = max a.ht b.ht + 1) (hps : x.ps = a.ps ++ b.ps) : Forest P0 W (incT out x.ps) (x :: l) := by
  have oa := h.ok a (List.mem_cons_self)
  have ob := h.ok b (List.mem_cons_of_mem _ List.mem_cons_self)
  have hpw := h.pair
  rw [List.pairwise_cons, List.pairwise_cons] at hpw
  obtain ⟨hpa, hpb, hpl⟩ := hpw
  have hab := hpa b (List.mem_cons_self)
  have hall : (x.ps ++ allP l).Perm P0 := by
    have := h.all
    rw [allP_cons, allP_cons, ← List.append_assoc, ← hps] at this
    exact this
  have hnall : (x.ps ++ allP l).Nodup := hall.nodup_iff.2 hnd
  rw [List.nodup_append] at hnall
  obtain ⟨hnx, -, hdis⟩ := hnall
  have hxlt : ∀ p ∈ x.ps, p < out.length := fun p hp => by rw [hn]; exact hlt p (hall.subset (List.mem_append_left _ hp))
  have hval : ∀ p ∈ x.ps, (incT out x.ps).getD p 0 = out.getD p 0 + 1 := fun p hp => incT_at x.ps out p hnx hp (hxlt p hp)
  have hoth : ∀ p, p ∉ x.ps → (incT out x.ps).getD p 0 = out.getD p 0 := fun p hp => incT_other x.ps out p hp
  have hfx : fibT x.ht ≤ x.wt := by
    rw [hh, hw]
    rcases Nat.le_total a.ht b.ht with hle | hle
    · rw [Nat.max_eq_right hle]
      by_cases h0 : 1 ≤ b.ht
      · rw [fibT_succ h0]; have := ob.fib; have := hab.2; omega
      · have : b.ht = 0 := by omega
        rw [this]; have := ob.fib; have := fibT_pos b.ht; show 1 ≤ _; omega
    · rw [Nat.max_eq_left hle]
      by_cases h0 : 1 ≤ a.ht
      · rw [fibT_succ h0]; have := oa.fib; have := hab.1; omega
      · have : a.ht = 0 := by omega
        rw [this]; have := oa.fib; have := fibT_pos a.ht; show 1 ≤ _; omega
  have hmapcongr : ∀ (ps : List Nat) (f g : Nat → Nat), (∀ p ∈ ps, f p = g p) → sumL (ps.map f) = sumL (ps.map g) := fun ps f g hfg => by rw [List.map_congr_left hfg]
  refine ⟨fun y hy => ?_, ?_, ?_, ?_, fun p hp => ?_⟩
  · rcases List.mem_cons.1 hy with rfl | hy
    · refine ⟨hfx, fun p hp => ?_, fun H hH => ?_⟩
      · rw [hval p hp, hh]
        rw [hps] at hp
        rcases List.mem_append.1 hp with hp | hp
        · have := oa.le p hp; omega
        · have := ob.le p hp; omega
      · obtain ⟨H', rfl⟩ : ∃ H', H = H' + 1 := ⟨H - 1, by omega⟩
        have e1 : sumL (y.ps.map (fun p => 2 ^ (H' + 1 - (incT out y.ps).getD p 0))) = sumL (y.ps.map (fun p => 2 ^ (H' - out.getD p 0))) :=
          hmapcongr _ _ _ (fun p hp => by rw [hval p hp, Nat.add_sub_add_right])
        rw [e1]
        conv => lhs; rw [hps]
        rw [List.map_append, sumL_append, oa.kraft H' (by omega), ob.kraft H' (by omega), Nat.pow_succ]; omega
    · have oy := h.ok y (List.mem_cons_of_mem _ (List.mem_cons_of_mem _ hy))
      have hny : ∀ p ∈ y.ps, p ∉ x.ps := fun p hp hpx => hdis p hpx p (List.mem_flatMap.2 ⟨y, hy, hp⟩) rfl
      refine ⟨oy.fib, fun p hp => by rw [hoth p (hny p hp)]; exact oy.le p hp, fun H hH => ?_⟩
      rw [← oy.kraft H hH]
      exact hmapcongr _ _ _ (fun p hp => by rw [hoth p (hny p hp)])
  · rw [List.pairwise_cons]
    refine ⟨fun z hz => ?_, hpl⟩
    have h1 := (ha z hz).wt
    have h2 := (hb z hz).wt
    have h3 := hpa z (List.mem_cons_of_mem _ hz)
    refine ⟨?_, by have := h3.2; omega⟩
    rw [hh, Nat.add_sub_cancel]
    rcases Nat.le_total a.ht b.ht with hle | hle
    · rw [Nat.max_eq_right hle]; have := ob.fib; omega
    · rw [Nat.max_eq_left hle]; have := oa.fib; omega
  · have := h.wts
    rw [wtsT_cons, wtsT_cons] at this
    rw [wtsT_cons, hw]; omega
  · rw [allP_cons]; exact hall
  · rw [hoth p (fun hpx => hp (hall.subset (List.mem_append_left _ hpx)))]
    exact h.rest p hp
def posL (l : List Nat) : List Nat := (List.range l.length).filter (fun p => decide (0 < l.getD p 0))
theorem posL_nodup (l : List Nat) : (posL l).Nodup := List.nodup_range.filter _
theorem posL_lt (l : List Nat) : ∀ p ∈ posL l, p < l.length := fun p hp => List.mem_range.1 (List.mem_filter.1 hp).1
structure TreeOk (counts out : List Nat) : Prop where
  len : out.length = counts.length
  rest : ∀ p, counts.getD p 0 = 0 → out.getD p 0 = 0
  top : ∃ H, fibT H ≤ sumL counts ∧ (∀ p, out.getD p 0 ≤ H) ∧ (sumL ((posL counts).map (fun p => 2 ^ (H - out.getD p 0))) = 2 ^ H ∨ (∃ p, posL counts = [p] ∧ H = 1 ∧ out.getD p 0 = 1))
end Go.Proofs.YtaelgbbnmjbjiaaGreat
namespace Go.Proofs.YtaelgbbnmjbjiaaGreat
open Go.RowKit
theorem fseToward (a b : Int) (w : World) : Calls Tryz.prog 67 #[.int .i64 a, .int .i64 b] w fun e w' => e = .returned (.int .i64 (if b < a then -1 else 1)) ∧ w' = w := by
  go_enter Tryz.func67, Tryz.ntmps67
  by_cases h : b < a
  · have g : decide (b < a) = true := decide_eq_true h
    go_wp2
    go_ret
    exact ⟨by simp, rfl⟩
  · have g : decide (b < a) = false := decide_eq_false h
    go_wp2
    go_ret
    exact ⟨by simp, rfl⟩
theorem OwnN.cells {w : World} {base g n c : Nat} {l : List Nat} (h : OwnN w base (some ⟨g, 0, none⟩) n c l) : ∀ j, j < (l.map (fun x : Nat => (x : Int))).length → w.cell? ⟨g, 0 + j, none⟩ = some (.int .i64 ((l.map (fun x : Nat => (x : Int))).getD j 0)) := by
  intro j hj
  rw [List.length_map] at hj
  have hlen := OwnN.length h
  obtain ⟨g', x, e, -, -, hx, hc, -⟩ := Own.at_ h (k := j) (by omega)
  injection e with e
  injection e with e1
  subst e1
  rw [Nat.zero_add, hc, ← hx]
  simp [List.getD, List.getElem?_eq_getElem hj, natv]
set_option maxHeartbeats 4000000 in
set_option maxRecDepth 10000 in
theorem fseShare (A : Option Addr) (n c : Nat) (l : List Nat) (w : World) (hl : l.length = n) (hr : Ns w A l) (hn : n ≤ 64) (hb : ∀ x ∈ l, x ≤ 65536) (h0 : 0 < nz l) (h32 : nz l ≤ 32) :
    Calls Tryz.prog 28 #[.slice A n c, .int .i64 6] w fun e w' => ∃ S m cs sh, e = .returned (.tuple #[.slice S m cs, .int .i64 0]) ∧ OwnN w' w.heap.size S m cs sh ∧ ShareOk l sh ∧ Below w.heap.size w w' := by
  have HL := Lib.hid hl
  have HR := Lib.hid hr
  have HB := Lib.hid hb
  have HZ0 := Lib.hid h0
  have HZ32 := Lib.hid h32
  clear hl hr hb h0 h32
  have g0 : decide ((64 : Int) < (n : Int)) = false := decide_eq_false (by omega)
  go_enter Tryz.func28, Tryz.ntmps28
  go_wp2
  clear g0
  go_loopg [7, 8, 30] n (fun gg s7 s8 s30 wr => ∃ k : Nat, k ≤ n ∧ n - k ≤ gg ∧ s7 = .int .i64 ((sumL (l.take k) : Nat) : Int) ∧ s8 = .int .i64 ((nz (l.take k) : Nat) : Int) ∧ s30 = .int .i64 (k : Int) ∧ w = wr)
  case atStart => exact ⟨0, by omega, by omega, rfl, rfl, rfl, rfl⟩
  case round =>
    obtain ⟨k, hk, hgg, rfl, rfl, rfl, rfl⟩ := hrel
    by_cases hkn : k < n
    · obtain ⟨b, o, x, hA, hx, hc⟩ := HR.out.at_ (by rw [HL.out]; exact hkn : k < l.length)
      subst hA
      have hxb := HB.out x (List.mem_of_getElem? hx)
      have hs1 := sumL_step hx
      have hz1 := nz_step hx
      have hle := sumL_take_le l k
      have hS : sumL (l.take k) ≤ 65536 * 64 := by
        have h1 := sum_le_nz (l := l.take k) (m := 65536) (fun y hy => HB.out y (List.mem_of_mem_take hy))
        have h2 := nz_le (l.take k)
        have h3 : (l.take k).length ≤ 64 := by rw [List.length_take]; omega
        omega
      have hZ : nz (l.take k) ≤ 64 := by
        have h2 := nz_le (l.take k)
        have h3 : (l.take k).length ≤ 64 := by rw [List.length_take]; omega
        omega
      obtain ⟨T, hT⟩ : ∃ T, sumL (l.take k) = T := ⟨_, rfl⟩
      obtain ⟨Z, hZZ⟩ : ∃ Z, nz (l.take k) = Z := ⟨_, rfl⟩
      rw [hT] at hs1 hS hle
      rw [hZZ] at hz1 hZ
      rw [hT, hZZ]
      have HS1 := Lib.hid hs1
      have HZ1 := Lib.hid hz1
      clear hx hs1 hz1 hle hT hZZ
      by_cases hx0 : 0 < x
      · have g1 : decide ((0 : Int) < (x : Int)) = true := decide_eq_true (by omega)
        have HZ2 := Lib.hid (show nz (l.take (k + 1)) = Z + 1 by rw [HZ1.out, if_pos hx0])
        clear HZ1
        go_wp2
        go_roundg (n - (k + 1))
        case measure => omega
        case rel => exact ⟨k + 1, by omega, by omega, by rw [HS1.out]; go_num, by rw [HZ2.out]; go_num, by go_num, rfl⟩
      · have g1 : decide ((0 : Int) < (x : Int)) = false := decide_eq_false (by omega)
        have HZ2 := Lib.hid (show nz (l.take (k + 1)) = Z by rw [HZ1.out, if_neg hx0]; rfl)
        clear HZ1
        go_wp2
        go_roundg (n - (k + 1))
        case measure => omega
        case rel => exact ⟨k + 1, by omega, by omega, by rw [HS1.out]; go_num, by rw [HZ2.out], by go_num, rfl⟩
    · obtain rfl : k = n := by omega
      have hfull : l.take k = l := List.take_of_length_le (by rw [HL.out]; exact Nat.le_refl _)
      rw [hfull]
      clear hfull
      have hT : sumL l ≤ 65536 * 64 := by
        have h1 := sum_le_nz (l := l) (m := 65536) HB.out
        have h2 := nz_le l
        rw [HL.out] at h2
        omega
      have hTpos := nz_pos HZ0.out
      have hZ1 := HZ0.out
      have hZ2 := HZ32.out
      have HMem := Lib.hid (fun x (hx : x ∈ l) => mem_le_sum hx)
      obtain ⟨T, hTT⟩ : ∃ T, sumL l = T := ⟨_, rfl⟩
      obtain ⟨Z, hZZ⟩ : ∃ Z, nz l = Z := ⟨_, rfl⟩
      rw [hTT] at hT hTpos HMem ⊢
      rw [hZZ] at hZ1 hZ2 ⊢
      clear hTT hZZ
      have g2 : ((Z : Int) == 0) = false := beq_eq_false_iff_ne.2 (by omega)
      have g3 : decide ((32 : Int) < (Z : Int)) = false := decide_eq_false (by omega)
      go_wp2
      clear g2 g3
      go_loopg [11, 12, 58] k (fun gg s11 s12 s58 wr2 => ∃ (i m co : Nat) (Ao : Option Addr) (out : List Nat), i ≤ k ∧ k - i ≤ gg ∧ s11 = .slice Ao m co ∧ s12 = .int .i64 ((sumL out : Nat) : Int) ∧ s58 = .int .i64 (i : Int) ∧ OwnN wr2 w.heap.size Ao m co out ∧ Sh2 l i out ∧ Below w.heap.size w wr2)
      case atStart => exact ⟨0, 0, 0, none, [], by omega, by omega, rfl, rfl, rfl, OwnN.nil _ _, ⟨Nat.le_refl _, .inl rfl, fun i hi => by omega, by simp, by simp [nz]⟩, Below.refl _ _⟩
      case round =>
        obtain ⟨i, m, co, Ao, out, hi, hgi, rfl, rfl, rfl, hown, hsh, hbel⟩ := hrel
        have hm := OwnN.length hown
        have hmi : m ≤ i := by have := hsh.len; omega
        have hsum := hsh.sum_le
        have HO := Lib.hid hown
        have HSh := Lib.hid hsh
        have HBel := Lib.hid hbel
        have HM := Lib.hid hm
        clear hown hsh hbel hm
        by_cases hik : i < k
        · obtain ⟨b, o, x, hA, hx, hc⟩ := HR.out.at_ (by rw [HL.out]; exact hik : i < l.length)
          subst hA
          have hc2 := (HBel.out.cell (by simpa using block_lt hc)).trans hc
          have hxb := HB.out x (List.mem_of_getElem? hx)
          have hxT := HMem.out x (List.mem_of_getElem? hx)
          have HX := Lib.hid hx
          clear hx hc
          by_cases hx0 : 0 < x
          · have g1 : decide ((0 : Int) < (x : Int)) = true := decide_eq_true (by omega)
            obtain ⟨y, hy⟩ : ∃ y, i - m = y := ⟨_, rfl⟩
            have e1 : IntKind.i64.wrap ((i : Int) - m) = (y : Int) := by rw [wrapi64 (by omega) (by omega)]; omega
            go_wp2_with (at_builtin; go_loud (refine wpList_append_zeros rfl _ _ elemN .i64 .i64 Tryz.underlying3 rfl w.heap.size Ao m co (out.map natv) rfl HO.out (y + 1) ?c0 ?c1 rfl ?c2 ?c3 ?c4 ?_))
            case c0 => rfl
            case c1 => omega
            case c2 => omega
            case c3 => omega
            case c4 => exact HBel.out.size
            intro A' c' w5 hown5 hb5 hgr5 _
            have HO5 := Lib.hid (ownN_zeros hown5)
            have HB5 := Lib.hid (HBel.out.trans hb5)
            clear hown5 hb5 hgr5 e1 hc2
            obtain ⟨g, xa, hA', hg1, hg2, -, hcg, hfg⟩ := Own.at_ HO5.out (k := i) (by omega)
            subst hA'
            have hmi2 : m + (y + 1) = i + 1 := by omega
            rw [hmi2]
            have i3 : (0 : Int) ≤ (i : Int) := by omega
            have i4 : (i : Int) < ((i + 1 : Nat) : Int) := by omega
            go_wp2_with fail
            obtain ⟨X, hX⟩ : ∃ X, X = max 1 (x * 64 / T) := ⟨_, rfl⟩
            have hX1 : 0 < X := by omega
            have hX2 : X ≤ 64 := by
              have h1 : x * 64 ≤ T * 64 := Nat.mul_le_mul_right _ hxT
              have h2 : x * 64 / T ≤ 64 := Nat.div_le_of_le_mul h1
              omega
            have eX : max 1 ((x : Int) * 64 / (T : Int)) = (X : Int) := by
              have : ((x : Int) * 64 / (T : Int)) = ((x * 64 / T : Nat) : Int) := by simp
              rw [this, hX]; omega
            rw [eX]
            obtain ⟨hput, hsum2⟩ := HSh.out.put HX.out hx0 hX1 hX2
            have hst := (Own.stored HO5.out i (.int .i64 (X : Int)))
            have hpad := pad_eq (x := X) HSh.out.len
            rw [HM.out, hy] at hpad
            rw [HM.out, hy] at hput hsum2
            have HO6 := Lib.hid (show OwnN (w5.setCell ⟨g, i, none⟩ (.int .i64 (X : Int))) w.heap.size (some ⟨g, 0, none⟩) (i + 1) c' (out ++ (List.replicate y 0 ++ [X])) from by
              unfold OwnN
              rw [← hpad, List.map_set, ← hmi2]
              exact hst.1)
            have HB6 := Lib.hid (show Below w.heap.size w (w5.setCell ⟨g, i, none⟩ (.int .i64 (X : Int))) from HB5.out.setCell hg1 _)
            have HSh6 := Lib.hid hput
            have HSum6 := Lib.hid hsum2
            clear hst hpad hput hsum2 hX eX
            have e5 : wrap64 ((sumL out : Nat) + (X : Int)) = (sumL out : Nat) + (X : Int) := by unfold wrap64; omega
            rw [e5]
            go_roundg (k - (i + 1))
            case measure => omega
            case rel => exact ⟨i + 1, i + 1, c', some ⟨g, 0, none⟩, _, by omega, by omega, rfl, by rw [HSum6.out]; go_num, by go_num, HO6.out, HSh6.out, HB6.out⟩
          · have g1 : decide ((0 : Int) < (x : Int)) = false := decide_eq_false (by omega)
            obtain rfl : x = 0 := by omega
            have HSh2 := Lib.hid (HSh.out.skip HX.out)
            go_wp2
            go_roundg (k - (i + 1))
            case measure => omega
            case rel => exact ⟨i + 1, m, co, Ao, out, by omega, by omega, rfl, rfl, by go_num, HO.out, HSh2.out, HBel.out⟩
        · obtain rfl : i = k := by omega
          have hsh3 := Sh3.of (by have h := HSh.out; rw [← HL.out] at h; exact h) HZ0.out HZ32.out
          have HSh3 := Lib.hid hsh3
          clear hsh3
          go_wp2
          go_loopg [12] 8192 (fun gg s12 wr3 => ∃ (out : List Nat), s12 = .int .i64 ((sumL out : Nat) : Int) ∧ sumL out ≤ 8000 ∧ (sumL out - 64) + (64 - sumL out) ≤ gg ∧ OwnN wr3 w.heap.size Ao m co out ∧ Sh3 l out ∧ Below w.heap.size w wr3)
          case atStart => exact ⟨out, rfl, by omega, by omega, HO.out, HSh3.out, HBel.out⟩
          case round =>
            clear HSh3 HSh HO HM hsum
            obtain ⟨sh, rfl, hs, hgs, hown, hsh, hbel⟩ := hrel
            have HO := Lib.hid hown
            have HSh := Lib.hid hsh
            have HB3 := Lib.hid hbel
            have HM := Lib.hid (OwnN.length hown)
            clear hown hsh hbel
            by_cases h64 : sumL sh = 64
            · have HS := Lib.hid h64
              rw [h64]
              clear h64
              go_wp2
              go_ret2
              exact ⟨Ao, m, co, sh, rfl, HO.out, ⟨HS.out, HSh.out.len, HSh.out.last, HSh.out.has⟩, HB3.out⟩
            · have g6 : (((sumL sh : Nat) : Int) != 64) = true := bne_iff_ne.2 (by omega)
              obtain ⟨M, hM1, hM2, hM3⟩ := maxOf_nat HSh.out.ne
              obtain ⟨ix, hix, hixM, hidx⟩ := idx_facts hM3
              have hM0 := HSh.out.max_pos hM2
              have hMt := HSh.out.max_two hM2
              have hMs := mem_le_sum hM3
              have hlm := HM.out
              obtain ⟨g, xa, hAo, hg1, hg2, hxa, hcg, hfg⟩ := Own.at_ HO.out (k := ix) (by omega)
              subst hAo
              have hcell := OwnN.cells HO.out
              have hlen2 : (sh.map (fun x : Nat => (x : Int))).length = m := by rw [List.length_map]; exact hlm
              have htk : (sh.map (fun x : Nat => (x : Int))).take m = sh.map (fun x : Nat => (x : Int)) := List.take_of_length_le (by omega)
              have HMax := Lib.hid (by have h := Tryz.slices_Max_int g 0 m co _ wr.drew (by omega) (by omega) (by omega) hcell; rw [htk, hM1] at h; exact h : Calls Tryz.prog 69 #[.slice (some ⟨g, 0, none⟩) m co] wr.drew fun e w' => e = .returned (.int .i64 (M : Int)) ∧ w' = wr.drew)
              have HIdx := Lib.hid (by have h := Tryz.slices_Index_int g 0 m co _ (M : Int) wr.drew (by omega) (by omega) hcell; rw [htk, hidx] at h; exact h : Calls Tryz.prog 68 #[.slice (some ⟨g, 0, none⟩) m co, .int .i64 (M : Int)] wr.drew fun e w' => e = .returned (.int .i64 (ix : Int)) ∧ w' = wr.drew)
              have hxv : xa = .int .i64 (M : Int) := by
                rw [List.getElem?_map, List.getElem?_eq_getElem (by omega)] at hxa
                rw [← Option.some.inj hxa]
                simp only [List.getD, List.getElem?_eq_getElem (show ix < sh.length by omega), Option.getD_some] at hixM
                rw [hixM]; rfl
              subst hxv
              clear hcell hlen2 htk hM1 hidx hxa
              have HSet := Lib.hid (fun x (hx : 0 < x) => HSh.out.set (k := ix) (x := x) hix (by rw [hixM]; exact hM0) hx)
              have HSumS := Lib.hid (fun x => by have h := sum_set sh ix x hix; rw [hixM] at h; exact h : ∀ x, sumL (sh.set ix x) + M = sumL sh + x)
              obtain ⟨S, hS⟩ : ∃ S, sumL sh = S := ⟨_, rfl⟩
              rw [hS] at h64 hMt hMs hs hgs g6 HSumS ⊢
              clear hS hM2 hM3 hixM
              have i1 : (0 : Int) ≤ (ix : Int) := by omega
              have i2 : (ix : Int) < (m : Int) := by omega
              have HTw := Lib.hid (fseToward (S : Int) 64 wr.drew)
              obtain ⟨D, hD⟩ : ∃ D : Int, D = (if (64 : Int) < (S : Int) then -1 else 1) := ⟨_, rfl⟩
              rw [← hD] at HTw
              have HTw2 := Lib.hid (fun wq => (by have h := fseToward (S : Int) 64 wq; rw [← hD] at h; exact h : Calls Tryz.prog 67 #[.int .i64 (S : Int), .int .i64 64] wq fun e w' => e = .returned (.int .i64 D) ∧ w' = wq))
              go_wp2_with fail
              have HD := Lib.hid hD
              clear hD
              have hcg' : wr.drew.cell? ⟨g, ix, none⟩ = some (.int .i64 (M : Int)) := hcg
              have hfg' : wr.drew.frozen? ⟨g, ix, none⟩ = false := hfg
              refine wp_region_still_tail 12 (by kernel_rfl) (by kernel_rfl) ?_
              simp only [List.take_succ_cons, List.take_zero, List.drop_succ_cons, List.drop_zero]
              repeat still_step
              still_call HMax.out
              still_call HIdx.out
              repeat still_step
              still_call HTw.out
              repeat still_step
              refine wpStill_nil ?_
              change wpList _ _ _ _ _ wr.drew
              obtain ⟨X, S2, hX1, hX0, hS1, hSX, hS2, hdist⟩ : ∃ X S2 : Nat, (M : Int) + D = (X : Int) ∧ 0 < X ∧ (S : Int) + D = (S2 : Int) ∧ S2 + M = S + X ∧ S2 ≤ 8000 ∧ (S2 - 64) + (64 - S2) < (S - 64) + (64 - S) := by
                have hD := HD.out
                by_cases h : (64 : Int) < (S : Int)
                · rw [if_pos h] at hD
                  have := hMt (by omega)
                  exact ⟨M - 1, S - 1, by omega, by omega, by omega, by omega, by omega, by omega⟩
                · rw [if_neg h] at hD
                  exact ⟨M + 1, S + 1, by omega, by omega, by omega, by omega, by omega, by omega⟩
              have eX : IntKind.i64.wrap ((M : Int) + D) = (X : Int) := by rw [hX1]; exact wrapi64 (by omega) (by omega)
              have eX2 : wrap64 ((M : Int) + D) = (X : Int) := by rw [hX1]; unfold wrap64; omega
              have eS : IntKind.i64.wrap ((S : Int) + D) = (S2 : Int) := by rw [hS1]; exact wrapi64 (by omega) (by omega)
              have eS2 : wrap64 ((S : Int) + D) = (S2 : Int) := by rw [hS1]; unfold wrap64; omega
              have HSX := Lib.hid (by have h := HSumS.out X; omega : sumL (sh.set ix X) = S2)
              have HSh6 := Lib.hid (HSet.out X hX0)
              have HO6 := Lib.hid (show OwnN (wr.drew.setCell ⟨g, ix, none⟩ (.int .i64 (X : Int))) w.heap.size (some ⟨g, 0, none⟩) m co (sh.set ix X) from by
                unfold OwnN
                rw [List.map_set]
                exact (Own.stored (Own.drew HO.out) ix _).1)
              have HB6 := Lib.hid (show Below w.heap.size w (wr.drew.setCell ⟨g, ix, none⟩ (.int .i64 (X : Int))) from (HB3.out.drew).setCell hg1 _)
              clear hX1 hS1 HD HMax HIdx HTw HSet HSumS
              go_wp2_with fail
              have HT3 := Lib.hid (HTw2.out (wr.drew.setCell ⟨g, ix, none⟩ (.int .i64 (X : Int))))
              refine HT3.out.mono ?_
              rintro e w7 ⟨rfl, rfl⟩
              clear HT3
              go_wp2
              go_roundg ((S2 - 64) + (64 - S2))
              case measure => omega
              case rel => exact ⟨_, by rw [HSX.out], by rw [HSX.out]; exact hS2, by rw [HSX.out]; exact Nat.le_refl _, HO6.out, HSh6.out, HB6.out⟩
end Go.Proofs.YtaelgbbnmjbjiaaGreat
namespace Go.Proofs.YtaelgbbnmjbjiaaGreat
open Go.RowKit
theorem flushW_facts : ∀ (f : Nat) (bs : List UInt8) (acc n : Nat), acc < 2 ^ n → n < 8 * (f + 1) → (flushW f bs acc n).2.2 < 8 ∧ (flushW f bs acc n).2.1 < 2 ^ (flushW f bs acc n).2.2 ∧ 8 * (flushW f bs acc n).1.length + (flushW f bs acc n).2.2 = 8 * bs.length + n
  | 0, bs, acc, n, h, hn => ⟨by simpa [flushW] using hn, h, rfl⟩
  | f + 1, bs, acc, n, h, hn => by
    rw [flushW]
    by_cases h8 : 8 ≤ n
    · rw [if_pos h8]
      have h2 : acc / 256 < 2 ^ (n - 8) := by
        obtain ⟨m, rfl⟩ : ∃ m, n = m + 8 := ⟨n - 8, by omega⟩
        rw [Nat.pow_add] at h
        rw [Nat.add_sub_cancel]
        generalize 2 ^ m = p at *
        omega
      obtain ⟨h3, h4, h5⟩ := flushW_facts f (bs ++ [UInt8.ofNat acc]) (acc / 256) (n - 8) h2 (by omega)
      refine ⟨h3, h4, ?_⟩
      rw [h5]
      simp only [List.length_append, List.length_singleton]
      omega
    · rw [if_neg h8]
      exact ⟨show n < 8 by omega, h, rfl⟩
theorem put_sum {acc n k v : Nat} (hacc : acc < 2 ^ n) (hv : v < 2 ^ k) : acc + v * 2 ^ n < 2 ^ (n + k) := by
  rw [Nat.pow_add, Nat.mul_comm (2 ^ n)]
  have h1 : (v + 1) * 2 ^ n ≤ 2 ^ k * 2 ^ n := Nat.mul_le_mul_right _ (by omega)
  rw [Nat.add_mul, Nat.one_mul] at h1
  omega
set_option maxHeartbeats 400000 in
theorem newWriter (w : World) : Calls Tryz.prog 31 #[] w fun e w' => e = .returned (.pointer (some ⟨w.heap.size, 0, none⟩)) ∧ IsWr w' w.heap.size w.heap.size [] 0 0 none 0 ∧ Below w.heap.size w w' := by
  go_enter Tryz.func31, Tryz.ntmps31
  go_wp2
  go_ret
  exact ⟨rfl, ⟨Blk.new w 103 _, OwnB.nil _ _, Nat.le_refl _, by simp⟩, (Below.refl _ _).alloc (Nat.le_refl _) _⟩
def bytesW (bs : List UInt8) (acc n : Nat) : List UInt8 := if 0 < n then bs ++ [UInt8.ofNat acc] else bs
set_option maxHeartbeats 2000000 in
set_option maxRecDepth 10000 in
theorem wrBytes (B g : Nat) (bs : List UInt8) (acc n : Nat) (A : Option Addr) (c : Nat) (w : World) (h : IsWr w B g bs acc n A c) (hn : n < 8) (hacc : acc < 2 ^ n) (hlen : bs.length ≤ 1000000000000) :
    Calls Tryz.prog 33 #[.pointer (some ⟨g, 0, none⟩)] w fun e w' => ∃ A' m c', e = .returned (.slice A' m c') ∧ OwnB w' w.heap.size A' m c' (bytesW bs acc n) ∧ Below w.heap.size w w' := by
  have c0 := h.blk.cell 0
  have c2 := h.blk.cell 2
  simp only [List.getElem?_toArray, List.getElem?_cons_zero, List.getElem?_cons_succ] at c0 c2
  have HH := Lib.hid h
  have hlt := h.blk.lt
  have HBs := Lib.hid (OwnB.bs h.own)
  have h256 : acc < 256 := by
    have hp : 2 ^ n ≤ 128 := (Nat.pow_le_pow_right (by omega) (by omega) : 2 ^ n ≤ 2 ^ 7)
    omega
  clear h hacc
  obtain ⟨lb, hlb⟩ : ∃ lb, bs.length = lb := ⟨_, rfl⟩
  rw [hlb] at c0 hlen
  have HLB := Lib.hid hlb
  clear hlb
  go_enter Tryz.func33, Tryz.ntmps33
  go_wp2_with (at_builtin; refine wpList_append_rd rfl _ _ elemB rfl w.heap.size none 0 0 [] rfl (Own.nil _ _ _) A lb c (bs.map u8v) rfl HBs.out ?h1 (u8_one _) ?h2 ?h3 ?hb ?_)
  case h1 => rw [List.length_map]; exact HLB.out
  case h2 => omega
  case h3 => omega
  case hb => exact Nat.le_refl _
  intro A1 c1 w1 hown1 hb1 hg1 hat1
  have HO1 := Lib.hid (show OwnB w1 w.heap.size A1 lb c1 bs from hown1)
  have HB1 := Lib.hid hb1
  have hk := HH.out.blk.later hb1
  have d1 := hk.cell 1
  have d2 := hk.cell 2
  simp only [List.getElem?_toArray, List.getElem?_cons_zero, List.getElem?_cons_succ] at d1 d2
  clear hown1 hb1 hg1 hat1 hk c0 c2
  by_cases hn0 : 0 < n
  · have HD := Lib.hid (show bytesW bs acc n = bs ++ [UInt8.ofNat acc] from if_pos hn0)
    go_wp2_with (at_builtin; refine wpList_append_one rfl _ _ elemB rfl w.heap.size A1 lb c1 (bs.map u8v) w1 (.int .u8 (acc : Int)) rfl rfl HO1.out rfl rfl ?d1 ?d2 ?d3 ?_)
    case d1 => omega
    case d2 => omega
    case d3 => exact HB1.out.size
    intro A3 c3 w3 hown3 hb3 hgr3 hat3
    have HO3 := Lib.hid (ownB_snoc (b := UInt8.ofNat acc) hown3 (by rw [UInt8.toNat_ofNat']; omega))
    have HB3 := Lib.hid (HB1.out.trans hb3)
    clear hown3 hb3 hgr3 hat3
    go_wp2
    go_ret
    exact ⟨A3, lb + 1, c3, rfl, by rw [HD.out]; exact HO3.out, HB3.out⟩
  · have HD := Lib.hid (show bytesW bs acc n = bs from if_neg hn0)
    go_wp2
    go_ret
    exact ⟨A1, lb, c1, rfl, by rw [HD.out]; exact HO1.out, HB1.out⟩
def markedW (bs : List UInt8) (acc n : Nat) : List UInt8 := bytesW (flushW 5 bs (acc + 1 * 2 ^ n) (n + 1)).1 (flushW 5 bs (acc + 1 * 2 ^ n) (n + 1)).2.1 (flushW 5 bs (acc + 1 * 2 ^ n) (n + 1)).2.2
set_option maxHeartbeats 2000000 in
set_option maxRecDepth 10000 in
theorem wrMarked (B g : Nat) (bs : List UInt8) (acc n : Nat) (A : Option Addr) (c : Nat) (w : World) (h : IsWr w B g bs acc n A c) (hn : n < 8) (hacc : acc < 2 ^ n) (hlen : bs.length ≤ 100000000000) :
    Calls Tryz.prog 75 #[.pointer (some ⟨g, 0, none⟩)] w fun e w' => ∃ A' m c', e = .returned (.slice A' m c') ∧ OwnB w' w.heap.size A' m c' (markedW bs acc n) ∧ Below w.heap.size w w' := by
  have c0 := h.blk.cell 0
  have c1 := h.blk.cell 1
  have c2 := h.blk.cell 2
  simp only [List.getElem?_toArray, List.getElem?_cons_zero, List.getElem?_cons_succ] at c0 c1 c2
  have HH := Lib.hid h
  have hlt := h.blk.lt
  have HBs := Lib.hid (OwnB.bs h.own)
  obtain ⟨lb, hlb⟩ : ∃ lb, bs.length = lb := ⟨_, rfl⟩
  rw [hlb] at c0
  have HLB := Lib.hid hlb
  have HAcc := Lib.hid hacc
  clear h hlb hacc
  go_enter Tryz.func75, Tryz.ntmps75
  go_wp2_with (at_builtin; refine wpList_append_rd rfl _ _ elemB rfl w.heap.size none 0 0 [] rfl (Own.nil _ _ _) A lb c (bs.map u8v) rfl ?h0 ?h1 (u8_one _) ?h2 ?h3 ?hb ?_)
  case h0 => exact Rd.alloc HBs.out _
  case h1 => rw [List.length_map]; exact HLB.out
  case h2 => have := HLB.out; omega
  case h3 => have := HLB.out; omega
  case hb => simp
  intro A1 c1' w1 hown1 hb1 hg1 hat1
  have HO1 := Lib.hid (show OwnB w1 w.heap.size A1 lb c1' bs from hown1)
  have HB1 := Lib.hid (((Below.refl w.heap.size w).alloc (Nat.le_refl _) (.cells #[.slice A lb c, .int .u64 (acc : Int), .int .i64 (n : Int)] 103)).trans hb1)
  have HK1 := Lib.hid ((Blk.new w 103 #[.slice A lb c, .int .u64 (acc : Int), .int .i64 (n : Int)]).kept hg1 (by simp [bk]))
  have d0 := HK1.out.cell 0
  simp only [List.getElem?_toArray, List.getElem?_cons_zero, List.getElem?_cons_succ] at d0
  have f0 := HK1.out.frozen 0
  have HW2 := Lib.hid (show IsWr (w1.setCell ⟨w.heap.size, 0, none⟩ (.slice A1 lb c1')) w.heap.size w.heap.size bs acc n A1 c1' from
    ⟨by rw [HLB.out]; exact HK1.out.set 0 _, by rw [HLB.out]; exact Own.kept HO1.out (grown_set w1 ⟨w.heap.size, 0, none⟩ _) (.inr (Own.ne_blk HO1.out HK1.out (by decide))), Nat.le_refl _, by have := HB1.out.size; simpa [World.setCell] using this⟩)
  have HB2 := Lib.hid (show Below w.heap.size w (w1.setCell ⟨w.heap.size, 0, none⟩ (.slice A1 lb c1')) from HB1.out.setCell (Nat.le_refl _) _)
  clear hown1 hb1 hg1 hat1 c0 c1 c2
  have HPut := Lib.hid (show Calls Tryz.prog 32 #[.pointer (some ⟨w.heap.size, 0, none⟩), .int .i64 1, .int .i64 1] (w1.setCell ⟨w.heap.size, 0, none⟩ (.slice A1 lb c1')) _ from
    wrPut w.heap.size w.heap.size bs acc n A1 c1' 1 1 _ HW2.out hn HAcc.out (by omega) (by omega) (by omega))
  have hsum := put_sum (k := 1) (v := 1) HAcc.out (by omega)
  obtain ⟨hf1, hf2, hf3⟩ := flushW_facts 5 bs (acc + 1 * 2 ^ n) (n + 1) hsum (by omega)
  have HD := Lib.hid (show markedW bs acc n = bytesW (flushW 5 bs (acc + 1 * 2 ^ n) (n + 1)).1 (flushW 5 bs (acc + 1 * 2 ^ n) (n + 1)).2.1 (flushW 5 bs (acc + 1 * 2 ^ n) (n + 1)).2.2 from rfl)
  generalize flushW 5 bs (acc + 1 * 2 ^ n) (n + 1) = F at *
  obtain ⟨bs2, acc2, n2⟩ := F
  simp only at hf1 hf2 hf3 HPut HD
  have HF2 := Lib.hid hf2
  clear hsum hf2
  go_wp2_with fail
  refine HPut.out.mono ?_
  rintro e w3 ⟨rfl, hb3, -, A3, c3, hw3, -⟩
  have HBy := Lib.hid (wrBytes w.heap.size w.heap.size bs2 acc2 n2 A3 c3 w3 hw3 hf1 HF2.out (by omega))
  have HB3 := Lib.hid (HB2.out.trans hb3)
  clear hb3 hw3 HPut d0 f0
  go_wp2_with fail
  refine HBy.out.mono ?_
  rintro e w4 ⟨A4, m4, c4, rfl, hown4, hb4⟩
  have HB4 := Lib.hid (HB3.out.trans (hb4.mono HB3.out.size))
  have HO4 := Lib.hid (Own.mono hown4 HB3.out.size)
  clear hown4 hb4
  go_wp2
  go_ret
  exact ⟨A4, m4, c4, rfl, by rw [HD.out]; exact HO4.out, HB4.out⟩
end Go.Proofs.YtaelgbbnmjbjiaaGreat
namespace Go.Proofs.YtaelgbbnmjbjiaaGreat
open Go.RowKit
theorem ShareOk.may {counts sh : List Nat} (h : ShareOk counts sh) (hc : counts.length ≤ 64) : fmayL sh 6 = true := by
  have h1 : sh ≠ [] := by
    rintro rfl
    have := h.sum
    simp [sumL] at this
  have h2 : 0 < sh.length := List.length_pos_iff.2 h1
  have h3 : sh.all (fun k => decide (k ≤ 2 ^ 6)) = true := by
    rw [List.all_eq_true]
    intro x hx
    have := mem_le_sum hx
    have := h.sum
    simp only [decide_eq_true_eq]
    omega
  unfold fmayL
  rw [h3, decide_eq_true h2, decide_eq_true (show sh.length ≤ 64 by have := h.len; omega), h.sum]
  have h4 : (sh.getD (sh.length - 1) 0 != 0) = true := bne_iff_ne.2 (by have := h.last; omega)
  rw [h4]; rfl
def shareB (sh : List Nat) : List UInt8 := [6] ++ numB 5 sh.length ++ sh.flatMap (numB 5)
theorem flatMap_step {α β : Type} (f : α → List β) {l : List α} {k : Nat} {x : α} (h : l[k]? = some x) : (l.take (k + 1)).flatMap f = (l.take k).flatMap f ++ f x := by
  rw [List.take_add_one, h, List.flatMap_append]
  simp
theorem numB_len : ∀ (f n : Nat), (numB f n).length ≤ f + 1
  | 0, _ => by simp [numB]
  | f + 1, n => by
    unfold numB
    split
    · have := numB_len f (n / 128); simp only [List.length_cons]; omega
    · simp
theorem flat_len (f : Nat) : ∀ (l : List Nat), (l.flatMap (numB f)).length ≤ (f + 1) * l.length
  | [] => Nat.zero_le _
  | x :: r => by
    have h1 := flat_len f r
    have h2 := numB_len f x
    rw [List.flatMap_cons, List.length_append, List.length_cons, Nat.mul_add, Nat.mul_one]
    omega
set_option maxHeartbeats 4000000 in
set_option maxRecDepth 10000 in
theorem fsePutShare (A : Option Addr) (n c : Nat) (sh : List Nat) (w : World) (hl : sh.length = n) (hr : Ns w A sh) (hmay : fmayL sh 6 = true) :
    Calls Tryz.prog 29 #[.slice A n c, .int .i64 6] w fun e w' => ∃ S m cs, e = .returned (.tuple #[.slice S m cs, .int .i64 0]) ∧ OwnB w' w.heap.size S m cs (shareB sh) ∧ Below w.heap.size w w' := by
  obtain ⟨hf1, hf2, -, hf4, -⟩ := fmayL_facts hmay
  rw [hl] at hf1 hf2
  have HMay := Lib.hid (show Calls Tryz.prog 70 #[.slice A n c, .int .i64 6] w fun e w' => e = .returned (.bool true) ∧ w' = w from by
    have h := fseMay A n c sh 6 w hl hr (by omega) (fun x hx => by have := hf4 x hx; omega) (by omega) (by omega)
    rw [hmay] at h; exact h)
  have HL := Lib.hid hl
  have HR := Lib.hid hr
  have H4 := Lib.hid hf4
  clear hl hr hmay hf4
  go_enter Tryz.func29, Tryz.ntmps29
  go_wp2_with fail
  refine HMay.out.mono ?_
  rintro e w1 ⟨rfl, hw1⟩
  subst hw1
  have HB1 := Lib.hid ((Below.refl w1.heap.size w1).alloc (Nat.le_refl _) (.cells #[.int .u8 6] 5))
  have hr6 : Bs (w1.alloc (.cells #[.int .u8 6] 5)) (some ⟨w1.heap.size, 0, none⟩) [6] := Rd.one w1 (.int .u8 6) 5
  have HP := Lib.hid (putNum (some ⟨w1.heap.size, 0, none⟩) 1 1 [6] n _ rfl hr6 (by omega) (by omega))
  clear hr6
  go_wp2_with fail
  refine HP.out.mono ?_
  rintro e w2 ⟨A2, m2, c2, rfl, hown2, hb2⟩
  have hsz := ((Below.refl w1.heap.size w1).alloc (Nat.le_refl _) (.cells #[.int .u8 6] 5)).size
  have HO2 := Lib.hid (show OwnB w2 w1.heap.size A2 m2 c2 ([6] ++ numB 5 n ++ (sh.take 0).flatMap (numB 5)) from by
    rw [List.take_zero, List.flatMap_nil, List.append_nil]
    exact Own.mono hown2 hsz)
  have HB2 := Lib.hid (HB1.out.trans (hb2.mono hsz))
  clear hown2 hb2 hsz HP
  go_wp2_with fail
  go_loopg [6, 25] n (fun gg s6 s25 wr => ∃ (k m co : Nat) (Ao : Option Addr), k ≤ n ∧ n - k ≤ gg ∧ s6 = .slice Ao m co ∧ s25 = .int .i64 (k : Int) ∧ OwnB wr w1.heap.size Ao m co ([6] ++ numB 5 n ++ (sh.take k).flatMap (numB 5)) ∧ Below w1.heap.size w1 wr)
  case atStart => exact ⟨0, m2, c2, A2, by omega, by omega, rfl, rfl, HO2.out, HB2.out⟩
  case round =>
    clear HO2 HB2
    obtain ⟨k, m, co, Ao, hk, hgg, rfl, rfl, hown, hbel⟩ := hrel
    have HO := Lib.hid hown
    have HB := Lib.hid hbel
    have HM := Lib.hid (OwnB.length hown)
    have hm : m ≤ 1000 := by
      have h := HM.out
      have h1 := flat_len 5 (sh.take k)
      have h2 := numB_len 5 n
      have h3 : (sh.take k).length ≤ 64 := by rw [List.length_take]; omega
      simp only [List.length_append, List.length_singleton] at h
      omega
    clear hown hbel
    by_cases hkn : k < n
    · obtain ⟨b, o, x, hA, hx, hc⟩ := HR.out.at_ (by rw [HL.out]; exact hkn : k < sh.length)
      subst hA
      have hc2 := (HB.out.cell (by simpa using block_lt hc)).trans hc
      have hx64 := H4.out x (List.mem_of_getElem? hx)
      have HP := Lib.hid (putNum Ao m co _ x wr HM.out (OwnB.bs HO.out) (by omega) (by omega))
      have HF := Lib.hid (flatMap_step (numB 5) hx)
      clear hx hc
      go_wp2_with fail
      refine HP.out.mono ?_
      rintro e w3 ⟨A3, m3, c3, rfl, hown3, hb3⟩
      have HO3 := Lib.hid (show OwnB w3 w1.heap.size A3 m3 c3 ([6] ++ numB 5 n ++ (sh.take (k + 1)).flatMap (numB 5)) from by
        rw [HF.out, ← List.append_assoc]
        exact Own.mono hown3 HB.out.size)
      have HB3 := Lib.hid (HB.out.trans (hb3.mono HB.out.size))
      clear hown3 hb3 HP hc2
      go_wp2
      go_roundg (n - (k + 1))
      case measure => omega
      case rel => exact ⟨k + 1, m3, c3, A3, by omega, by omega, rfl, by go_num, HO3.out, HB3.out⟩
    · obtain rfl : k = n := by omega
      have HO3 := Lib.hid (show OwnB wr w1.heap.size Ao m co (shareB sh) from by
        have h := HO.out
        rw [List.take_of_length_le (by rw [HL.out]; exact Nat.le_refl _)] at h
        unfold shareB
        rw [HL.out]; exact h)
      go_wp2
      go_ret2
      exact ⟨Ao, m, co, rfl, HO3.out, HB.out⟩
end Go.Proofs.YtaelgbbnmjbjiaaGreat
namespace Go.Proofs.YtaelgbbnmjbjiaaGreat
open Go.RowKit
set_option maxHeartbeats 2000000 in
set_option maxRecDepth 10000 in
theorem fseStrange (Bs : Nat) (A : Option Addr) (n c : Nat) (sh : List Nat) (x : Nat) (w : World) (hB : w.cell? ⟨Bs, 0, none⟩ = some (.slice A n c)) (hl : sh.length = n) (hr : Ns w A sh) (hn : n ≤ 1000000000) (hx : x < n) (h0 : 0 < sh.getD x 0) :
    Calls Tryz.prog 72 #[.int .i64 (x : Int), .pointer (some ⟨Bs, 0, none⟩)] w fun e w' => e = .returned (.bool false) ∧ w' = w := by
  obtain ⟨b, o, y, hA, hy, hc⟩ := hr.at_ (by rw [hl]; exact hx : x < sh.length)
  subst hA
  have hy0 : 0 < y := by simpa [List.getD, hy] using h0
  have g1 : decide ((x : Int) < 0) = false := decide_eq_false (by omega)
  have g2 : decide ((n : Int) ≤ (x : Int)) = false := decide_eq_false (by omega)
  have g3 : ((y : Int) == 0) = false := beq_eq_false_iff_ne.2 (by omega)
  clear hy h0
  go_enter Tryz.func72, Tryz.ntmps72
  go_wp2
  go_ret
  refine ⟨?_, rfl⟩
  show Ending.returned (.bool (decide (n ≤ x))) = _
  rw [decide_eq_false (by omega)]
set_option maxHeartbeats 2000000 in
set_option maxRecDepth 10000 in
theorem fseIndexFunc (Bs : Nat) (A : Option Addr) (n c : Nat) (sh : List Nat) (A2 : Option Addr) (n2 c2 : Nat) (l : List Nat) (w : World) (hB : w.cell? ⟨Bs, 0, none⟩ = some (.slice A n c)) (hl : sh.length = n) (hr : Ns w A sh) (hn : n ≤ 1000000000)
    (hl2 : l.length = n2) (hr2 : Ns w A2 l) (hn2 : n2 ≤ 1000000000) (hx : ∀ x ∈ l, x < n ∧ 0 < sh.getD x 0) :
    Calls Tryz.prog 101 #[.slice A2 n2 c2, .func (.func 72) #[] #[.pointer (some ⟨Bs, 0, none⟩)]] w fun e w' => e = .returned (.int .i64 (-1)) ∧ w' = w := by
  have HS := Lib.hid (fun x (h : x ∈ l) => fseStrange Bs A n c sh x w hB hl hr hn (hx x h).1 (hx x h).2)
  have HR2 := Lib.hid hr2
  have HL2 := Lib.hid hl2
  clear hB hl hr hl2 hr2 hx
  go_enter Tryz.func101, Tryz.ntmps101
  go_wp2_with fail
  go_loopg [8] n2 (fun gg s8 wr => ∃ k : Nat, k ≤ n2 ∧ n2 - k ≤ gg ∧ s8 = .int .i64 (k : Int) ∧ w = wr)
  case atStart => exact ⟨0, by omega, by omega, rfl, rfl⟩
  case round =>
    obtain ⟨k, hk, hgg, rfl, rfl⟩ := hrel
    by_cases hkn : k < n2
    · obtain ⟨b, o, x, hA, hx, hc⟩ := HR2.out.at_ (by rw [HL2.out]; exact hkn : k < l.length)
      subst hA
      have HX := Lib.hid (HS.out x (List.mem_of_getElem? hx))
      clear hx
      go_wp2_with fail
      refine HX.out.mono ?_
      rintro e w1 ⟨rfl, rfl⟩
      go_wp2
      go_roundg (n2 - (k + 1))
      case measure => omega
      case rel => exact ⟨k + 1, by omega, by omega, by go_num, rfl⟩
    · go_wp2
      go_ret
      exact ⟨rfl, rfl⟩
theorem fseContains (Bs : Nat) (A : Option Addr) (n c : Nat) (sh : List Nat) (A2 : Option Addr) (n2 c2 : Nat) (l : List Nat) (w : World) (hB : w.cell? ⟨Bs, 0, none⟩ = some (.slice A n c)) (hl : sh.length = n) (hr : Ns w A sh) (hn : n ≤ 1000000000)
    (hl2 : l.length = n2) (hr2 : Ns w A2 l) (hn2 : n2 ≤ 1000000000) (hx : ∀ x ∈ l, x < n ∧ 0 < sh.getD x 0) :
    Calls Tryz.prog 71 #[.slice A2 n2 c2, .func (.func 72) #[] #[.pointer (some ⟨Bs, 0, none⟩)]] w fun e w' => e = .returned (.bool false) ∧ w' = w := by
  have HI := Lib.hid (fseIndexFunc Bs A n c sh A2 n2 c2 l w hB hl hr hn hl2 hr2 hn2 hx)
  clear hB hl hr hl2 hr2 hx
  go_enter Tryz.func71, Tryz.ntmps71
  go_wp2_with fail
  refine HI.out.mono ?_
  rintro e w1 ⟨rfl, rfl⟩
  go_wp2
  go_ret
  exact ⟨rfl, rfl⟩
end Go.Proofs.YtaelgbbnmjbjiaaGreat
namespace Go.Proofs.YtaelgbbnmjbjiaaGreat
open Go.RowKit Go.Shelf
attribute [local go_sem] Oper.semAt_some
def upto {α : Type} (f : Nat → α) (k : Nat) : List α := (List.range k).map f
def backAt (zs : List Nat) (j : Nat) : Nat × Nat := (zs.length - 1 - j, zs.getD (zs.length - 1 - j) 0)
structure KB (n₀ Bs : Nat) (W W' : World) : Prop where
  below : Below n₀ W W'
  box : Bs < W.heap.size → W'.heap[Bs]? = W.heap[Bs]?
theorem KB.refl (n₀ Bs : Nat) (W : World) : KB n₀ Bs W W := ⟨Below.refl _ _, fun _ => rfl⟩
theorem KB.trans {n₀ Bs : Nat} {A B C : World} (h : KB n₀ Bs A B) (k : KB n₀ Bs B C) : KB n₀ Bs A C :=
  ⟨h.below.trans k.below, fun hb => (k.box (Nat.lt_of_lt_of_le hb h.below.size)).trans (h.box hb)⟩
theorem KB.put {n₀ Bs : Nat} {w : World} (hn : n₀ ≤ w.heap.size) (hB : Bs < w.heap.size) (W : World) (l : Nat) (o o' : Obj) (hl : w.heap.size ≤ l) (h : W.heap[l]? = some o) (h1 : o.isCells = false) (h2 : o.isWalk = false) : KB n₀ Bs W (W.putObj l o') :=
  ⟨belowK_b hn W l o o' hl h h1 h2, fun _ => World.putObj_heap_other (by omega)⟩
theorem KB.cell {n₀ Bs : Nat} {W W' : World} (h : KB n₀ Bs W W') {v : Value} (hc : W.cell? ⟨Bs, 0, none⟩ = some v) : W'.cell? ⟨Bs, 0, none⟩ = some v := by
  have hlt := block_lt hc
  rw [← hc]
  unfold World.cell?
  rw [h.box hlt]
set_option maxRecDepth 100000 in
set_option maxHeartbeats 2000000 in
theorem backward1_in {α : Type} (e1 e2 : α → Nat) (xs : List α) (F : Fence) (n : Nat) (h8 : F.fn 103) (hro : F.round = none) (hn : 1 ≤ n) (l Bs n₀ b off cap len : Nat) (zs : List Nat) (hlen : zs.length = len) (hxs : xs.length = len) (hxe : ∀ (j : Nat) (h : j < xs.length), e1 xs[j] = len - 1 - j ∧ e2 xs[j] = zs.getD (len - 1 - j) 0) (hreach : len ≤ 1000000000) (hb : b < n₀) (J Jx : List α → World → Prop)
    (hY : ∀ pre x W, J pre W → pre.length < len → YieldAt F (n - 1) Tryz.prog l #[.int .i64 (e1 x : Int), .int .i64 (e2 x : Int)] W fun e W' =>
      (e = .returned (.bool true) ∧ J (pre ++ [x]) W' ∧ KB n₀ Bs W W') ∨ (e = .returned (.bool false) ∧ Jx (pre ++ [x]) W'))
    (W : World) (hBs : W.cell? ⟨Bs, 0, none⟩ = some (.slice (some ⟨b, off, none⟩) len cap)) (hc : ∀ j, j < len → W.cell? ⟨b, off + j, none⟩ = some (.int .i64 ((zs.getD j 0 : Nat) : Int))) (h0 : J [] W) :
    CallsIn F n Tryz.prog 103 #[.func (.yield l) #[] #[], .pointer (some ⟨Bs, 0, none⟩)] W fun e W' => (∃ v, e = .returned v) ∧
      ((∃ ys, ys = xs ∧ J ys W') ∨ (∃ pre, (∃ k, k ≤ len ∧ pre = xs.take k) ∧ Jx pre W')) := by
  have HL := Lib.hid hlen
  have HC := Lib.hid hc
  have HXS := Lib.hid hxs
  have HXE := Lib.hid hxe
  clear hlen hc hxs hxe
  refine callsIn_of_wp Tryz.func103 rfl h8 ?_ hro
  simp only [Tryz.ntmps103, List.size_toArray, List.length_cons, List.length_nil, Nat.reduceAdd, Nat.reduceSub, Array.replicate_succ, Array.replicate_zero, List.push_toArray, List.append_toArray, List.nil_append, List.cons_append]
  have e0 : IntKind.i64.wrap ((len : Int) - 1) = (len : Int) - 1 := wrapi64 (by omega) (by omega)
  gi_wp2
  gi_loopw [3] (fun i wr => ∃ m : Nat, m ≤ len ∧ i = .int .i64 ((m : Int) - 1) ∧ J (xs.take (len - m)) wr ∧ KB n₀ Bs W wr)
    (fun i _ => (intOf i + 1).toNat)
  case atStart => exact ⟨len, Nat.le_refl _, by go_num, by rw [Nat.sub_self, List.take_zero]; exact h0, KB.refl _ _ _⟩
  case round =>
    obtain ⟨m, hm, rfl, hJs, hnx⟩ := hrel
    have hbs := hnx.cell hBs
    cases m with
    | zero =>
      gi_wp2
      go_end0
      exact ⟨⟨_, rfl⟩, .inl ⟨_, List.take_of_length_le (by rw [HXS.out]; omega), hJs⟩⟩
    | succ p =>
      have ep : ((p + 1 : Nat) : Int) - 1 = (p : Int) := by omega
      rw [ep]
      have hcx := (hnx.below.cell (p := ⟨b, off + p, none⟩) hb).trans (HC.out p (by omega))
      obtain ⟨z, hz⟩ : ∃ z, zs.getD p 0 = z := ⟨_, rfl⟩
      rw [hz] at hcx
      have hjx : len - (p + 1) < xs.length := by rw [HXS.out]; omega
      obtain ⟨x, hx⟩ : ∃ x, xs[len - (p + 1)]'hjx = x := ⟨_, rfl⟩
      have hxe := HXE.out (len - (p + 1)) hjx
      rw [hx, show len - 1 - (len - (p + 1)) = p by omega, hz] at hxe
      have hup : xs.take (len - p) = xs.take (len - (p + 1)) ++ [x] := by
        rw [show len - p = len - (p + 1) + 1 by omega, List.take_add_one, List.getElem?_eq_getElem hjx, hx]; rfl
      have HUp := Lib.hid hup
      clear hz hx hup
      obtain ⟨fn, tmps, assign, body, hy, hR⟩ := hY _ x wr hJs (by rw [List.length_take, HXS.out]; omega)
      rw [hxe.1, hxe.2] at hy
      gi_wp2
      refine hR.mono ?_
      rintro e W3 (⟨rfl, hJ3, hk3⟩ | ⟨rfl, hJx3⟩)
      · gi_wp2
        go_roundw
        case rel => exact ⟨p, by omega, by go_num, by rw [HUp.out]; exact hJ3, hnx.trans hk3⟩
        case measure => simp only [intOf]; omega
      · gi_wp2
        refine bodyPost_ret (results_none rfl _ _ _) rfl ?_
        exact ⟨⟨_, rfl⟩, .inr ⟨_, ⟨len - p, by omega, HUp.out.symm⟩, hJx3⟩⟩
set_option maxRecDepth 100000 in
set_option maxHeartbeats 1000000 in
theorem backward1_nil_in (F : Fence) (n : Nat) (h8 : F.fn 103) (hro : F.round = none) (l Bs cap : Nat) (a : Option Addr) {α : Type} (J : List α → World → Prop) (W : World) (hBs : W.cell? ⟨Bs, 0, none⟩ = some (.slice a 0 cap)) (h0 : J [] W) :
    CallsIn F n Tryz.prog 103 #[.func (.yield l) #[] #[], .pointer (some ⟨Bs, 0, none⟩)] W fun e W' => (∃ v, e = .returned v) ∧ J [] W' := by
  refine callsIn_of_wp Tryz.func103 rfl h8 ?_ hro
  simp only [Tryz.ntmps103, List.size_toArray, List.length_cons, List.length_nil, Nat.reduceAdd, Nat.reduceSub, Array.replicate_succ, Array.replicate_zero, List.push_toArray, List.append_toArray, List.nil_append, List.cons_append]
  gi_wp2
  gi_loopw [3] (fun i wr => i = .int .i64 (-1) ∧ J [] wr) (fun _ _ => 0)
  case atStart => exact ⟨rfl, h0⟩
  case round =>
    obtain ⟨rfl, hJs⟩ := hrel
    gi_wp2
    go_end0
    exact ⟨⟨_, rfl⟩, hJs⟩
set_option maxHeartbeats 1000000 in
theorem backward_in (F : Fence) (n : Nat) (h5 : F.fn 74) (hro : F.round = none) (a : Option Addr) (len cap : Nat) (w : World) :
    CallsIn F n Tryz.prog 74 #[.slice a len cap] w fun e w' => e = .returned (.func (.func 103) #[] #[.pointer (some ⟨w.heap.size, 0, none⟩)]) ∧ w' = w.alloc (.cells #[.slice a len cap] 45) := by
  refine callsIn_of_wp Tryz.func74 rfl h5 ?_ hro
  simp only [Tryz.ntmps74, List.size_toArray, List.length_cons, List.length_nil, Nat.reduceAdd, Nat.reduceSub, Array.replicate_succ, Array.replicate_zero, List.push_toArray, List.append_toArray, List.nil_append, List.cons_append]
  gi_wp2
  go_ret
  exact ⟨rfl, rfl⟩
theorem backward_stops {α : Type} (e1 e2 : α → Nat) (xs : List α) (F : Fence) (n : Nat) (h8 : F.fn 103) (hro : F.round = none) (hn : 1 ≤ n) (Bs n₀ cap : Nat) (a : Option Addr) (zs : List Nat) (hxs : xs.length = zs.length) (hxe : ∀ (j : Nat) (h : j < xs.length), e1 xs[j] = zs.length - 1 - j ∧ e2 xs[j] = zs.getD (zs.length - 1 - j) 0) (hreach : zs.length ≤ 1000000000) (w : World) (hn₀ : n₀ ≤ w.heap.size)
    (hc : w.cell? ⟨Bs, 0, none⟩ = some (.slice a zs.length cap)) (hI : Ns w a zs) (hlow : 0 < zs.length → ∀ b, bk a = some b → b < n₀) :
    SeqStopsK F n Tryz.prog 103 #[.pointer (some ⟨Bs, 0, none⟩)] (fun x : α => #[Value.int .i64 (e1 x : Int), Value.int .i64 (e2 x : Int)]) (KB n₀ Bs) (fun ys => ys = xs)
      (fun pre => ∃ k, k ≤ zs.length ∧ pre = xs.take k) zs.length w := fun l J Jx W hW _ _ hY h0 => by
  have hc' := (hW.cell (p := ⟨Bs, 0, none⟩) (block_lt hc)).trans hc
  by_cases h : zs.length = 0
  · rw [h] at hc'
    have hnil : xs = [] := List.length_eq_zero_iff.1 (hxs.trans h)
    exact (backward1_nil_in F n h8 hro l Bs cap a J W hc' h0).mono fun e W' ⟨he, hj⟩ => ⟨he, .inl ⟨_, hnil.symm, hj⟩⟩
  · obtain ⟨b, o, rfl, hcs⟩ := hI (by simp; omega)
    have hb : b < n₀ := hlow (by omega) b rfl
    refine backward1_in e1 e2 xs F n h8 hro hn l Bs n₀ b o cap zs.length zs rfl hxs hxe hreach hb J Jx hY W hc' (fun j hj => ?_) h0
    rw [(hW.cell (p := ⟨b, o + j, none⟩) (Nat.lt_of_lt_of_le hb hn₀)), hcs j (by simpa using hj), List.getElem?_map, List.getElem?_eq_getElem hj]
    simp [List.getD, List.getElem?_eq_getElem hj, natv]
end Go.Proofs.YtaelgbbnmjbjiaaGreat
namespace Go.Proofs.YtaelgbbnmjbjiaaGreat
open Go.RowKit
abbrev WSt := List UInt8 × Nat × Nat
def putS (S : WSt) (k v : Nat) : WSt := flushW 5 S.1 (S.2.1 + v * 2 ^ S.2.2) (S.2.2 + k)
def wOk (S : WSt) : Prop := S.2.2 < 8 ∧ S.2.1 < 2 ^ S.2.2
def wLen (S : WSt) : Nat := 8 * S.1.length + S.2.2
theorem putS_facts {S : WSt} {k v : Nat} (h : wOk S) (hk : k ≤ 32) (hv : v < 2 ^ k) : wOk (putS S k v) ∧ wLen (putS S k v) = wLen S + k := by
  obtain ⟨h1, h2, h3⟩ := flushW_facts 5 S.1 (S.2.1 + v * 2 ^ S.2.2) (S.2.2 + k) (put_sum h.2 hv) (by have := h.1; omega)
  refine ⟨⟨h1, h2⟩, ?_⟩
  unfold wLen putS
  rw [h3]; omega
theorem toL_filter (l : List Nat) (s : Nat) : ∀ p, toL l p s = (List.range p).filter (fun q => decide (symOf l q = s))
  | 0 => rfl
  | p + 1 => by
    rw [toL, List.range_succ, List.filter_append, ← toL_filter l s p]
    by_cases h : symOf l p = s
    · simp [h]
    · simp [h]
theorem count_symL : ∀ (l : List Nat) (o s : Nat), ((symL l o).filter (fun x => decide (x = o + s))).length = l.getD s 0
  | [], o, s => by simp [symL]
  | n :: r, o, s => by
    rw [symL, List.filter_append, List.length_append]
    cases s with
    | zero =>
      have h1 : (List.replicate n o).filter (fun x => decide (x = o + 0)) = List.replicate n o := by
        rw [List.filter_eq_self]
        intro x hx
        have := (List.mem_replicate.1 hx).2
        simp [this]
      have h2 : (symL r (o + 1)).filter (fun x => decide (x = o + 0)) = [] := by
        rw [List.filter_eq_nil_iff]
        intro x hx
        have := (symL_mem r (o + 1) x hx).1
        simp only [decide_eq_true_eq]
        omega
      rw [h1, h2]; simp
    | succ s =>
      have h1 : (List.replicate n o).filter (fun x => decide (x = o + (s + 1))) = [] := by
        rw [List.filter_eq_nil_iff]
        intro x hx
        have := (List.mem_replicate.1 hx).2
        simp only [decide_eq_true_eq]
        omega
      have h2 := count_symL r (o + 1) s
      rw [show o + 1 + s = o + (s + 1) by omega] at h2
      rw [h1, h2]; simp
theorem perm64 : ((List.range 64).map (fun q => 3 * q % 64)).Perm (List.range 64) := by decide +kernel
theorem range_getD (l : List Nat) (h : l.length = 64) : (List.range 64).map (fun j => l.getD j 0) = l := by
  apply List.ext_getElem
  · simp [h]
  · intro i h1 h2
    simp [List.getD, h2]
theorem toL_full {l : List Nat} (h : sumL l = 64) (s : Nat) : (toL l 64 s).length = l.getD s 0 := by
  have hl : (symL l 0).length = 64 := by rw [symL_len, h]
  have h1 : (List.range 64).map (symOf l) = ((List.range 64).map (fun q => 3 * q % 64)).map (fun j => (symL l 0).getD j 0) := by
    rw [List.map_map]; rfl
  have h2 : ((List.range 64).map (symOf l)).Perm (symL l 0) := by
    rw [h1]
    have := perm64.map (fun j => (symL l 0).getD j 0)
    rw [range_getD _ hl] at this
    exact this
  have h3 := (h2.filter (fun x => decide (x = s))).length_eq
  rw [List.filter_map, List.length_map] at h3
  rw [toL_filter]
  have h4 := count_symL l 0 s
  rw [Nat.zero_add] at h4
  rw [← h4, ← h3]
  rfl
def nbGo : Nat → Nat → Nat → Nat → Nat
  | 0, _, _, n => n
  | f + 1, st, q, n => if 2 * q ≤ st / 2 ^ n then nbGo f st q (n + 1) else n
theorem nbGo_facts {st q : Nat} (h1 : st < 128) (hq : 0 < q) : ∀ (f n : Nat), n + f = 7 → q ≤ st / 2 ^ n → q ≤ st / 2 ^ (nbGo f st q n) ∧ st / 2 ^ (nbGo f st q n) < 2 * q ∧ nbGo f st q n ≤ 6
  | 0, n, hn, h => by
    exfalso
    obtain rfl : n = 7 := by omega
    have : st / 2 ^ 7 = 0 := Nat.div_eq_of_lt h1
    omega
  | f + 1, n, hn, h => by
    rw [nbGo]
    by_cases hc : 2 * q ≤ st / 2 ^ n
    · rw [if_pos hc]
      refine nbGo_facts h1 hq f (n + 1) (by omega) ?_
      rw [Nat.pow_succ, ← Nat.div_div_eq_div_mul]
      omega
    · rw [if_neg hc]
      exact ⟨h, by omega, by omega⟩
def nbL (st q : Nat) : Nat := nbGo 7 st q 0
def encStep (sh : List Nat) (X : Nat × WSt) (s : Nat) : Nat × WSt :=
  (64 + (toL sh 64 s).getD (X.1 / 2 ^ nbL X.1 (sh.getD s 0) - sh.getD s 0) 0, putS X.2 (nbL X.1 (sh.getD s 0)) (X.1 % 2 ^ nbL X.1 (sh.getD s 0)))
def encGo (sh : List Nat) (pre : List Nat) : Nat × WSt := pre.foldl (encStep sh) (64, ([], 0, 0))
theorem encGo_snoc (sh pre : List Nat) (x : Nat) : encGo sh (pre ++ [x]) = encStep sh (encGo sh pre) x := by simp [encGo]
structure EncOk (k : Nat) (X : Nat × WSt) : Prop where
  lo : 64 ≤ X.1
  hi : X.1 < 128
  ok : wOk X.2
  len : wLen X.2 ≤ 6 * k
theorem encStep_facts {sh : List Nat} {k s : Nat} {X : Nat × WSt} (h : EncOk k X) (hsum : sumL sh = 64) (h0 : 0 < sh.getD s 0) :
    EncOk (k + 1) (encStep sh X s) ∧ nbL X.1 (sh.getD s 0) ≤ 6 ∧ sh.getD s 0 ≤ X.1 / 2 ^ nbL X.1 (sh.getD s 0) ∧ X.1 / 2 ^ nbL X.1 (sh.getD s 0) - sh.getD s 0 < (toL sh 64 s).length ∧ X.1 / 2 ^ nbL X.1 (sh.getD s 0) < 2 * sh.getD s 0 := by
  have hq : sh.getD s 0 ≤ 64 := by
    rw [← hsum]
    by_cases hs : s < sh.length
    · exact le_sumL (by simp [List.getD, List.getElem?_eq_getElem hs])
    · simp [List.getD, List.getElem?_eq_none (Nat.le_of_not_lt hs)]
  obtain ⟨h1, h2, h3⟩ := nbGo_facts (st := X.1) (q := sh.getD s 0) h.hi h0 7 0 (by omega) (by have := h.lo; rw [Nat.pow_zero, Nat.div_one]; omega)
  have hlen := toL_full hsum s
  have hidx : X.1 / 2 ^ nbL X.1 (sh.getD s 0) - sh.getD s 0 < (toL sh 64 s).length := by
    rw [hlen]; unfold nbL; omega
  have hput := putS_facts (S := X.2) (k := nbL X.1 (sh.getD s 0)) (v := X.1 % 2 ^ nbL X.1 (sh.getD s 0)) h.ok (by unfold nbL; omega) (Nat.mod_lt _ (Nat.two_pow_pos _))
  refine ⟨⟨by simp only [encStep]; omega, ?_, hput.1, ?_⟩, h3, h1, hidx, h2⟩
  · simp only [encStep]
    have := toL_lt sh s 64 ((toL sh 64 s).getD (X.1 / 2 ^ nbL X.1 (sh.getD s 0) - sh.getD s 0) 0) (getD_mem' hidx)
    omega
  · simp only [encStep]
    rw [hput.2]
    have := h.len
    unfold nbL
    omega
def encodeL (sh l : List Nat) : List UInt8 :=
  markedW (putS (encGo sh l.reverse).2 6 ((encGo sh l.reverse).1 - 64)).1 (putS (encGo sh l.reverse).2 6 ((encGo sh l.reverse).1 - 64)).2.1 (putS (encGo sh l.reverse).2 6 ((encGo sh l.reverse).1 - 64)).2.2
theorem upto_back (l : List Nat) : (upto (backAt l) l.length).map (·.2) = l.reverse := by
  apply List.ext_getElem
  · simp [upto]
  · intro i h1 h2
    simp at h2
    simp [upto, backAt, List.getElem_reverse, List.getD, List.getElem?_eq_getElem (show l.length - 1 - i < l.length by omega)]
abbrev SymAt (sh : List Nat) := { x : Nat × Nat // x.2 < sh.length ∧ 0 < sh.getD x.2 0 }
theorem sym_rows (sh l : List Nat) (h : ∀ x ∈ l, x < sh.length ∧ 0 < sh.getD x 0) : ∃ xs : List (SymAt sh), xs.length = l.length ∧ (∀ (j : Nat) (hj : j < xs.length), xs[j].1.1 = l.length - 1 - j ∧ xs[j].1.2 = l.getD (l.length - 1 - j) 0) ∧ xs.map (·.1.2) = l.reverse := by
  have hall : ∀ y ∈ upto (backAt l) l.length, y.2 < sh.length ∧ 0 < sh.getD y.2 0 := by
    intro y hy
    simp only [upto, List.mem_map, List.mem_range] at hy
    obtain ⟨j, hj, rfl⟩ := hy
    exact h _ (getD_mem' (by omega))
  refine ⟨(upto (backAt l) l.length).pmap (fun y hy => ⟨y, hy⟩) hall, by simp [upto], fun j hj => ?_, ?_⟩
  · simp only [List.getElem_pmap]
    simp [upto, backAt]
  · rw [List.map_pmap, ← upto_back l]
    exact List.pmap_eq_map ..
theorem Two.blk {g k : Nat} {t : TypeId} {A : Option Addr} {w W : World} {cs : Array Value} (h : Two g A w W) (hb : Blk w k t cs) (h1 : k ≠ g) (h2 : bk A ≠ some k) : Blk W k t cs := (h.block k hb.lt h1 h2).trans hb
theorem Two.cells {g k n : Nat} {t : TypeId} {A : Option Addr} {w W : World} {F : Nat → Value} (h : Two g A w W) (hb : Cells w k t n F) (h1 : k ≠ g) (h2 : bk A ≠ some k) : Cells W k t n F := by
  obtain ⟨cs, hb1, hb2⟩ := hb
  exact ⟨cs, h.blk hb1 h1 h2, hb2⟩
theorem Two.own {g : Nat} {Aa : Option Addr} {w W : World} {base n c : Nat} {e : TypeId} {A : Option Addr} {xs : List Value} (ht : Two g Aa w W) (h : Own w base e A n c xs) (h1 : bk A ≠ some g) (h2 : bk A = none ∨ bk A ≠ bk Aa) : Own W base e A n c xs := by
  refine ⟨h.1, ?_⟩
  rcases h.2 with h3 | ⟨b, cap, cur, hv, h3, h4, h5⟩
  · exact .inl h3
  · refine .inr ⟨b, cap, cur, hv, h3, ?_, h5⟩
    simp only [Value.slice.injEq] at hv
    have hb : bk A = some b := by rw [hv.1]; rfl
    rw [ht.block b (Array.getElem?_eq_some_iff.1 h4).1 (fun e => h1 (by rw [hb, e])) (fun e => by
      rcases h2 with h2 | h2
      · rw [hb] at h2; cases h2
      · exact h2 (by rw [hb, e]))]
    exact h4
theorem Own.isCells {w : World} {base n c k : Nat} {e : TypeId} {A : Option Addr} {xs : List Value} (h : Own w base e A n c xs) (hk : bk A = some k) : ∃ o : Obj, w.heap[k]? = some o ∧ o.isCells = true := by
  rcases h.2 with ⟨hv, -⟩ | ⟨b, cap, cur, hv, -, h4, -⟩
  · simp only [Value.slice.injEq] at hv
    rw [hv.1] at hk; cases hk
  · simp only [Value.slice.injEq] at hv
    rw [hv.1] at hk
    cases hk
    exact ⟨_, h4, rfl⟩
theorem and_mask' : ∀ (m : Fin 7) (st : Fin 128), bits .and .i64 (st.val : Int) (wrap64 (wrap64 (2 ^ m.val) - 1)) = ((st.val % 2 ^ m.val : Nat) : Int) := by decide +kernel
theorem and_mask {m st : Nat} (hm : m ≤ 6) (hs : st < 128) : bits .and .i64 (st : Int) (wrap64 (wrap64 (2 ^ m) - 1)) = ((st % 2 ^ m : Nat) : Int) := and_mask' ⟨m, by omega⟩ ⟨st, hs⟩
theorem NewTo.ne {w : World} {A : Option Addr} {k : Nat} (h : NewTo w none A) (hk : k < w.heap.size) : bk A ≠ some k := by
  intro e
  rcases h with h | ⟨j, h1, h2⟩
  · rw [e] at h; simp [bk] at h
  · rw [e] at h1; injection h1 with h1; omega
theorem NewTo.trans' {w W : World} {A A' : Option Addr} (h : NewTo w none A) (hs : w.heap.size ≤ W.heap.size) (h2 : NewTo W A A') : NewTo w none A' := by
  rcases h2 with h2 | ⟨k, h2, h3⟩
  · rcases h with h | ⟨k, h, h3⟩
    · exact .inl (h2.trans h)
    · exact .inr ⟨k, h2.trans h, h3⟩
  · exact .inr ⟨k, h2, Nat.le_trans hs h3⟩
theorem Two.newTo {g : Nat} {A Aw : Option Addr} {w W W' : World} (h : Two g A w W) (hn : NewTo w none Aw) (k : Two g Aw W W') : Two g A w W' :=
  ⟨k.os.trans h.os, k.tape.trans h.tape, k.output.trans h.output, Nat.le_trans h.size k.size, fun i hi h1 h2 => (k.block i (Nat.lt_of_lt_of_le hi h.size) h1 (hn.ne hi)).trans (h.block i hi h1 h2)⟩
structure EncI (w w7 : World) (p q k : Nat) (X : Nat × WSt) (W : World) : Prop where
  wr : ∃ Aw cw, IsWr W (q + 1) (q + 1) X.2.1 X.2.2.1 X.2.2.2 Aw cw ∧ NewTo w7 none Aw
  ok : EncOk k X
  box : Blk W (p + 1) 3 #[.int .i64 (X.1 : Int)]
  two : Two (q + 1) (some ⟨p + 1, 0, none⟩) w7 W
  below : Below w.heap.size w W
theorem EncI.later {w w7 W W' : World} {p q k : Nat} {X : Nat × WSt} (h : EncI w w7 p q k X W) (hb : Below W.heap.size W W') : EncI w w7 p q k X W' := by
  obtain ⟨Aw, cw, hw, hnt⟩ := h.wr
  exact ⟨⟨Aw, cw, hw.later hb, hnt⟩, h.ok, h.box.later hb, h.two.trans (.of_below hb), h.below.trans (hb.mono h.below.size)⟩
theorem EncI.kept {w w7 W W' : World} {p q k : Nat} {X : Nat × WSt} {row : Option Nat} (h : EncI w w7 p q k X W) (h7 : w.heap.size ≤ w7.heap.size) (hg : W.grownBy W' row) (hr : ∀ r, row = some r → w7.heap.size ≤ r ∧ ∃ o : Obj, W.heap[r]? = some o ∧ o.isCells = false) : EncI w w7 p q k X W' := by
  have hno : ∀ k t cs, Blk W k t cs → row ≠ some k := by
    intro k t cs hb e
    obtain ⟨-, o, ho, hc⟩ := hr k e
    unfold Blk at hb
    rw [hb] at ho
    cases ho
    cases hc
  obtain ⟨Aw, cw, hw, hnt⟩ := h.wr
  refine ⟨⟨Aw, cw, ⟨hw.blk.kept hg (hno _ _ _ hw.blk), Own.kept hw.own hg ?_, hw.base, Nat.le_trans hw.size hg.size⟩, hnt⟩, h.ok, h.box.kept hg (hno _ _ _ h.box), h.two.grown hg (fun k e hk => by have := (hr k e).1; omega), h.below.grown hg (Nat.le_trans h7 h.two.size) (fun k e => by have := (hr k e).1; omega)⟩
  cases hA : bk Aw with
  | none => exact .inl rfl
  | some b =>
    right
    intro e
    obtain ⟨o, ho, hc⟩ := Own.isCells hw.own hA
    obtain ⟨-, o', ho', hc'⟩ := hr b e.symm
    rw [ho] at ho'
    cases ho'
    rw [hc] at hc'
    cases hc'
end Go.Proofs.YtaelgbbnmjbjiaaGreat
