/-
  Parts of the proofs, in the order in which they build: T9a, T9b, T9, L0, L1, L2, L3, L5, F9, C0.
-/
import Derived.Test.YtaelgbbnmjbjiaaGreatKb
import Derived.Test.YtaelgbbnmjbjiaaGreatKd
import Derived.Test.YtaelgbbnmjbjiaaGreatKe
import Derived.Deep.MidRow
import Derived.Deep.CutBlock
import Derived.Deep.CutRange
import Derived.Deep.RegionWith
set_option linter.unusedSimpArgs false
set_option linter.unusedVariables false
namespace Go.Proofs.YtaelgbbnmjbjiaaGreat
open Go.RowKit Go.Shelf
def depB (md : Region.Mode) (ops : Array Oper) (i j : Nat) : Bool := (ops[i]?.map fun o => o.after.any fun e => e.on == j && Region.binds md e).getD false
theorem depB_of {md : Region.Mode} {ops : Array Oper} {i j : Nat} {listed : Array Bool} (h : depB md ops i j = true) (hi : i ∈ Region.ready md ops listed) : listed.getD j false = true := by
  obtain ⟨-, o, ho, ha⟩ := mem_ready.1 hi
  unfold depB at h
  rw [ho] at h
  simp only [Option.map_some, Option.getD_some, Array.any_eq_true] at h
  obtain ⟨t, ht, h1⟩ := h
  rw [Bool.and_eq_true] at h1
  have := ha _ (Array.getElem_mem ht) h1.2
  rw [eq_of_beq h1.1] at this
  exact this
def downB (ops : Array Oper) : Bool := (List.range ops.size).all fun i => (ops[i]?.map fun o => o.after.all fun e => decide (e.on < i)).getD true
theorem all_listed {md : Region.Mode} {ops : Array Oper} {listed : Array Bool} (hs : listed.size = ops.size) (hr : Region.ready md ops listed = []) (hd : downB ops = true) : ∀ i, i < ops.size → listed.getD i false = true := by
  intro i
  induction i using Nat.strongRecOn with
  | _ i ih =>
    intro hi
    cases hl : listed.getD i true with
    | true =>
      have h' : i < listed.size := by omega
      simpa [Array.getD, h'] using hl
    | false =>
      exfalso
      have : i ∈ Region.ready md ops listed := by
        refine mem_ready.2 ⟨hl, ops[i], Array.getElem?_eq_getElem hi, fun e he _ => ?_⟩
        unfold downB at hd
        have h1 := List.all_eq_true.1 hd i (List.mem_range.2 hi)
        rw [Array.getElem?_eq_getElem hi] at h1
        simp only [Option.map_some, Option.getD_some] at h1
        have h2 := of_decide_eq_true (Array.all_eq_true_iff_forall_mem.1 h1 e he)
        exact ih e.on h2 (by omega)
      rw [hr] at this
      cases this
theorem act_puts (val : Nat → Value) : ∀ (ks : List Nat) (a : Act), (∀ i, i < a.tmps.size → i ∉ ks → val i = a.tmps.getD i undef) → ks.foldl (fun a k => a.put (some k) (val k)) a = actV a val
  | [], a, h => by
    have : a.tmps.mapIdx (fun i _ => val i) = a.tmps := by
      apply Array.ext
      · simp
      · intro i h1 h2
        rw [Array.getElem_mapIdx, h i h2 (by simp)]
        simp [Array.getD, h2]
    rw [List.foldl_nil]
    unfold actV
    rw [this]
  | k :: ks, a, h => by
    rw [List.foldl_cons, act_puts val ks _ ?_]
    · have : (a.tmps.setIfInBounds k (val k)).mapIdx (fun i _ => val i) = a.tmps.mapIdx (fun i _ => val i) := by
        apply Array.ext
        · simp
        · intro i h1 h2
          rw [Array.getElem_mapIdx, Array.getElem_mapIdx]
      show ({ a with tmps := (a.tmps.setIfInBounds k (val k)).mapIdx (fun i _ => val i) } : Act) = { a with tmps := a.tmps.mapIdx (fun i _ => val i) }
      rw [this]
    · intro i hs hi
      show val i = (a.tmps.setIfInBounds k (val k)).getD i undef
      have hs' : i < a.tmps.size := by
        have : (a.put (some k) (val k)).tmps.size = a.tmps.size := by show (a.tmps.setIfInBounds k (val k)).size = _; simp
        omega
      by_cases e : i = k
      · subst e
        simp [Array.getD, hs']
      · rw [h i hs' (by simp [e, hi])]
        have e2 : ¬ k = i := fun e' => e e'.symm
        simp [Array.getD, hs', e2]
def Inv15 (w0 : World) (hb : Nat) (A : Option Addr) (c n M : Nat) (hs : List Th) (out : List Nat) (sz : Nat) (A0 : Act) (listed : Array Bool) (a : Act) (w : World) : Prop :=
  ∃ (val : Nat → Value) (x1 x2 : Th) (l1 l3 : List Th) (b8 b9 : Nat), a = actV A0 val ∧ listed.size = sz ∧ (∀ i, i ∉ [54, 55, 56, 57, 58, 59, 8, 9] → val i = A0.tmps.getD i undef) ∧
    StR w0 hb A c n M hs out (fun i => listed.getD i false) (val 54) (val 55) (val 56) (val 57) (val 58) (val 59) (val 8) (val 9) x1 l1 x2 l3 b8 b9 w
theorem updV_out {A0 : Act} {val : Nat → Value} {k : Nat} {v : Value} {ks : List Nat} (hk : k ∈ ks) (h : ∀ i, i ∉ ks → val i = A0.tmps.getD i undef) : ∀ i, i ∉ ks → updV val k v i = A0.tmps.getD i undef := by
  intro i hi
  rw [updV_ne val v (by rintro rfl; exact hi hk)]
  exact h i hi
structure Ops15 (ops : Array Oper) (hb : Nat) : Prop where
  size : ops.size = 10
  down : downB ops = true
  deps : ([(1, 0), (2, 1), (4, 3), (4, 1), (5, 4), (8, 4), (8, 2), (8, 6), (8, 7), (9, 8), (9, 5), (9, 7)].all fun p => depB .any ops p.1 p.2) = true
  r0 : ∃ o, ops[0]? = some o ∧ o.guard = none ∧ o.dst = some 54 ∧ ∀ ρ w, ρ (.tmp 4) = .pointer (some ⟨hb, 0, none⟩) → (execOp ρ o).run Tryz.prog w = .ok (.value (ifV hb)) w
  r3 : ∃ o, ops[3]? = some o ∧ o.guard = none ∧ o.dst = some 57 ∧ ∀ ρ w, ρ (.tmp 4) = .pointer (some ⟨hb, 0, none⟩) → (execOp ρ o).run Tryz.prog w = .ok (.value (ifV hb)) w
  r1 : ∃ o, ops[1]? = some o ∧ o.guard = none ∧ o.dst = some 55 ∧ ∀ (a : Act) w v, a.eval (.tmp 54) = v → (execOp a.eval o).run Tryz.prog w = .ok (.enter 117 #[v]) w
  r4 : ∃ o, ops[4]? = some o ∧ o.guard = none ∧ o.dst = some 58 ∧ ∀ (a : Act) w v, a.eval (.tmp 57) = v → (execOp a.eval o).run Tryz.prog w = .ok (.enter 117 #[v]) w
  r2 : ∃ o, ops[2]? = some o ∧ o.guard = none ∧ o.dst = some 56 ∧ ∀ ρ w x, ρ (.tmp 55) = thV x → (execOp ρ o).run Tryz.prog w = .ok (.value (agV x)) w
  r5 : ∃ o, ops[5]? = some o ∧ o.guard = none ∧ o.dst = some 59 ∧ ∀ ρ w x, ρ (.tmp 58) = thV x → (execOp ρ o).run Tryz.prog w = .ok (.value (agV x)) w
  r6 : ∃ o, ops[6]? = some o ∧ o.guard = none ∧ o.dst = some 8 ∧ ∀ ρ w, (execOp ρ o).run Tryz.prog w = .ok (.value (.pointer (some ⟨w.heap.size, 0, none⟩))) (w.alloc (.cells zTh 161))
  r7 : ∃ o, ops[7]? = some o ∧ o.guard = none ∧ o.dst = some 9 ∧ ∀ ρ w, (execOp ρ o).run Tryz.prog w = .ok (.value (.pointer (some ⟨w.heap.size, 0, none⟩))) (w.alloc (.cells zTh 161))
  r8 : ∃ o, ops[8]? = some o ∧ o.guard = none ∧ o.dst = none ∧ ∀ ρ w b x, ρ (.tmp 8) = .pointer (some ⟨b, 0, none⟩) → ρ (.tmp 56) = agV x → Blk w b 161 zTh → (execOp ρ o).run Tryz.prog w = .ok .skip (put3 w b x)
  r9 : ∃ o, ops[9]? = some o ∧ o.guard = none ∧ o.dst = none ∧ ∀ ρ w b x, ρ (.tmp 9) = .pointer (some ⟨b, 0, none⟩) → ρ (.tmp 59) = agV x → Blk w b 161 zTh → (execOp ρ o).run Tryz.prog w = .ok .skip (put3 w b x)
theorem reg15 {w0 : World} {hb : Nat} {A : Option Addr} {c n M : Nat} {hs : List Th} {out : List Nat} {ops : Array Oper} {Q : Exit → Act → World → Prop} {id : Nat} {a : Act} {w : World} (hm : (Tryz.prog).follows .mixedOrders = true) (H : Ops15 ops hb)
    (ha4 : a.tmps.getD 4 undef = .pointer (some ⟨hb, 0, none⟩)) (hasz : 60 ≤ a.tmps.size) (hT : TreeR w0 hb A c n (M + 1 + 1) hs [] out w.drew) (hM : M ≤ 999990) (hc : M + 1 + 1 ≤ c) (hlt : w0.heap.size < hb)
    (hQ : ∀ (val : Nat → Value) (x1 x2 : Th) (l1 l3 : List Th) (b8 b9 : Nat) (w' : World), val 8 = .pointer (some ⟨b8, 0, none⟩) → val 9 = .pointer (some ⟨b9, 0, none⟩) → TreeR w0 hb A c n M l3 [x2, x1] out w' → LocR w0 hb A b8 (vTh x1) w' → LocR w0 hb A b9 (vTh x2) w' → b8 ≠ b9 →
      (x1 :: l1).Perm hs → (∀ y ∈ l1, leT x1 y) → (x2 :: l3).Perm l1 → (∀ y ∈ l3, leT x2 y) → Q .normal ([54, 55, 56, 57, 58, 59, 8, 9].foldl (fun a k => a.put (some k) (val k)) a) w') :
    (Code.region id ops true).wp Tryz.prog Q a w := by
  refine wp_region_inv (fun A0 => Inv15 w0 hb A c n M hs out 10 A0) hm ?_ ?_ ?_
  · rintro listed a' W ⟨val, x1, x2, l1, l3, b8, b9, rfl, hsz, hval, hS⟩ i hi
    have hready := mem_ready.1 hi
    obtain ⟨hl, o, ho, -⟩ := hready
    have hi10 : i < 10 := by have := (Array.getElem?_eq_some_iff.1 ho).1; rw [H.size] at this; exact this
    have hlf : listed.getD i false = false := by
      have h' : i < listed.size := by omega
      simpa [Array.getD, h'] using hl
    have hset := flag_set hl
    have hsz2 : (listed.setIfInBounds i true).size = 10 := by simp [hsz]
    have hdep : ∀ i j, i ∈ Region.ready .any ops listed → (i, j) ∈ [(1, 0), (2, 1), (4, 3), (4, 1), (5, 4), (8, 4), (8, 2), (8, 6), (8, 7), (9, 8), (9, 5), (9, 7)] → listed.getD j false = true :=
      fun i j hi hj => depB_of (List.all_eq_true.1 H.deps (i, j) hj) hi
    have hev : ∀ k, k < 60 → (actV a val).eval (.tmp k) = val k := fun k hk => actV_eval a val (Nat.lt_of_lt_of_le hk hasz)
    clear ho hl
    obtain rfl | rfl | rfl | rfl | rfl | rfl | rfl | rfl | rfl | rfl : i = 0 ∨ i = 1 ∨ i = 2 ∨ i = 3 ∨ i = 4 ∨ i = 5 ∨ i = 6 ∨ i = 7 ∨ i = 8 ∨ i = 9 := by omega
    · obtain ⟨o, ho, hg, hd, hrun⟩ := H.r0
      refine wpOp_value ho hg (hrun _ _ (by rw [hev 4 (by decide), hval 4 (by decide)]; exact ha4)) ?_
      rw [hd, actV_put]
      refine ⟨updV val 54 (ifV hb), x1, x2, l1, l3, b8, b9, rfl, hsz2, updV_out (by decide) hval, ?_⟩
      rw [hset]
      exact hS.op0
    · obtain ⟨o, ho, hg, hd, hrun⟩ := H.r1
      refine wpOp_call ho hg (hrun _ _ (ifV hb) (by rw [hev 54 (by decide)]; exact hS.i54 (hdep 1 0 hi (by decide)))) ?_
      refine (popAny (hS.t0 hlf) (by omega) hc hlt).mono ?_
      rintro e w' ⟨y1, m1, rfl, hT', hp', hm', ht'⟩
      refine ⟨_, rfl, ?_⟩
      rw [hd, actV_put]
      refine ⟨updV val 55 (thV y1), y1, x2, m1, l3, b8, b9, rfl, hsz2, updV_out (by decide) hval, ?_⟩
      rw [hset]
      exact hS.op1 hlf hT' hp' hm' ht'
    · obtain ⟨o, ho, hg, hd, hrun⟩ := H.r2
      refine wpOp_value ho hg (hrun _ _ x1 (by rw [hev 55 (by decide)]; exact (hS.p1 (hdep 2 1 hi (by decide))).1)) ?_
      rw [hd, actV_put]
      refine ⟨updV val 56 (agV x1), x1, x2, l1, l3, b8, b9, rfl, hsz2, updV_out (by decide) hval, ?_⟩
      rw [hset]
      exact hS.op2 (hdep 2 1 hi (by decide))
    · obtain ⟨o, ho, hg, hd, hrun⟩ := H.r3
      refine wpOp_value ho hg (hrun _ _ (by rw [hev 4 (by decide), hval 4 (by decide)]; exact ha4)) ?_
      rw [hd, actV_put]
      refine ⟨updV val 57 (ifV hb), x1, x2, l1, l3, b8, b9, rfl, hsz2, updV_out (by decide) hval, ?_⟩
      rw [hset]
      exact hS.op3
    · obtain ⟨o, ho, hg, hd, hrun⟩ := H.r4
      have h1 := hdep 4 1 hi (by decide)
      refine wpOp_call ho hg (hrun _ _ (ifV hb) (by rw [hev 57 (by decide)]; exact hS.i57 (hdep 4 3 hi (by decide)))) ?_
      refine (popAny (hS.t1 h1 hlf) (by omega) (by omega) hlt).mono ?_
      rintro e w' ⟨y1, m1, rfl, hT', hp', hm', ht'⟩
      refine ⟨_, rfl, ?_⟩
      rw [hd, actV_put]
      refine ⟨updV val 58 (thV y1), x1, y1, l1, m1, b8, b9, rfl, hsz2, updV_out (by decide) hval, ?_⟩
      rw [hset]
      exact hS.op4 h1 hlf hT' hp' hm' ht'
    · obtain ⟨o, ho, hg, hd, hrun⟩ := H.r5
      refine wpOp_value ho hg (hrun _ _ x2 (by rw [hev 58 (by decide)]; exact (hS.p2 (hdep 5 4 hi (by decide))).1)) ?_
      rw [hd, actV_put]
      refine ⟨updV val 59 (agV x2), x1, x2, l1, l3, b8, b9, rfl, hsz2, updV_out (by decide) hval, ?_⟩
      rw [hset]
      exact hS.op5 (hdep 5 4 hi (by decide))
    · obtain ⟨o, ho, hg, hd, hrun⟩ := H.r6
      refine wpOp_value ho hg (hrun _ _) ?_
      rw [hd, actV_put]
      refine ⟨updV val 8 _, x1, x2, l1, l3, W.heap.size, b9, rfl, hsz2, updV_out (by decide) hval, ?_⟩
      rw [hset]
      exact hS.op6 hlf
    · obtain ⟨o, ho, hg, hd, hrun⟩ := H.r7
      refine wpOp_value ho hg (hrun _ _) ?_
      rw [hd, actV_put]
      refine ⟨updV val 9 _, x1, x2, l1, l3, b8, W.heap.size, rfl, hsz2, updV_out (by decide) hval, ?_⟩
      rw [hset]
      exact hS.op7 hlf
    · obtain ⟨o, ho, hg, hd, hrun⟩ := H.r8
      have h6 := hdep 8 6 hi (by decide)
      have h7 := hdep 8 7 hi (by decide)
      have h4 := hdep 8 4 hi (by decide)
      obtain ⟨e8, k8⟩ := hS.l8 h6
      rw [if_neg (fun e => false_of hlf e)] at k8
      refine wpOp_skip ho hg (hrun _ _ b8 x1 (by rw [hev 8 (by decide)]; exact e8) (by rw [hev 56 (by decide)]; exact hS.a1 (hdep 8 2 hi (by decide))) k8.blk) ?_
      rw [hd, actV_put_none]
      refine ⟨val, x1, x2, l1, l3, b8, b9, rfl, hsz2, hval, ?_⟩
      rw [hset]
      exact hS.op8 h4 h6 h7 hlf
    · obtain ⟨o, ho, hg, hd, hrun⟩ := H.r9
      have h8 := hdep 9 8 hi (by decide)
      have h7 := hdep 9 7 hi (by decide)
      obtain ⟨e9, k9⟩ := hS.l9 h7
      rw [if_neg (fun e => false_of hlf e)] at k9
      refine wpOp_skip ho hg (hrun _ _ b9 x2 (by rw [hev 9 (by decide)]; exact e9) (by rw [hev 59 (by decide)]; exact hS.a2 (hdep 9 5 hi (by decide))) k9.blk) ?_
      rw [hd, actV_put_none]
      refine ⟨val, x1, x2, l1, l3, b8, b9, rfl, hsz2, hval, ?_⟩
      rw [hset]
      exact hS.op9 h8 hlf
  · rintro listed a' W ⟨val, x1, x2, l1, l3, b8, b9, rfl, hsz, hval, hS⟩ hr
    have hall := all_listed (by rw [hsz, H.size]) hr H.down
    rw [H.size] at hall
    have f (i : Nat) (hi : i < 10) : (fun i => listed.getD i false) i = true := hall i hi
    obtain ⟨-, p1, m1⟩ := hS.p1 (f 1 (by decide))
    obtain ⟨-, p2, m2⟩ := hS.p2 (f 4 (by decide))
    obtain ⟨e8, k8⟩ := hS.l8 (f 6 (by decide))
    obtain ⟨e9, k9⟩ := hS.l9 (f 7 (by decide))
    rw [if_pos (f 8 (by decide))] at k8
    rw [if_pos (f 9 (by decide))] at k9
    have := hQ val x1 x2 l1 l3 b8 b9 W e8 e9 (hS.t2 (f 4 (by decide))) k8 k9 (hS.ne (f 6 (by decide)) (f 7 (by decide))) p1 m1 p2 m2
    rwa [act_puts val _ a (fun i _ hi => hval i hi)] at this
  · refine ⟨fun i => a.tmps.getD i undef, ⟨0, 0, none, 0, 0, [], 0⟩, ⟨0, 0, none, 0, 0, [], 0⟩, [], [], 0, 0, (actV_self a).symm, by simp [H.size], fun i _ => rfl, ?_⟩
    have hf : ∀ i, (Array.replicate ops.size false).getD i false = false := fun i => getD_replicate_false _ _
    have nf : ∀ {i : Nat} {p : Prop}, (Array.replicate ops.size false).getD i false = true → p := fun {i} {p} e => by rw [hf i] at e; cases e
    exact ⟨nf, nf, nf, nf, nf, nf, nf, fun _ => hT, nf, nf, nf, nf, nf, nf, nf, nf, nf⟩
theorem store_thing {w : World} {b : Nat} {v0 v1 v2 : Value} (x : Th) (h : Blk w b 161 #[v0, v1, v2]) : (Instr.storeAt 161 (.pointer (some ⟨b, 0, none⟩)) (agV x)).run Tryz.prog w = .ok () (put3 w b x) := by
  obtain ⟨c0, c1, c2, f0, f1, f2, -⟩ := blk_cells h
  have := run_storeAt_mid (P := Tryz.prog) w b 0 161 #[.int .i64 (x.wt : Int), .int .i64 (x.num : Int), .slice x.pa x.pn x.pc] (fun j hj => by
    have hj3 : j < 3 := hj
    obtain rfl | rfl | rfl : j = 0 ∨ j = 1 ∨ j = 2 := by omega
    · exact ⟨by rw [c0]; rfl, f0⟩
    · exact ⟨by rw [c1]; rfl, f1⟩
    · exact ⟨by rw [c2]; rfl, f2⟩) (by kernel_rfl) (by kernel_rfl)
  exact this
theorem runMake (hb : Nat) (x : Value) (w : World) (h : x = .pointer (some ⟨hb, 0, none⟩)) : (do pure (Next.value (← Instr.makeInterface 163 x)) : Sem Next).run Tryz.prog w = .ok (.value (ifV hb)) w := by
  subst h
  kernel_rfl
theorem runAssert (x : Th) (v : Value) (w : World) (h : v = thV x) : (do pure (Next.value (← Instr.typeAssert v 20 161 false)) : Sem Next).run Tryz.prog w = .ok (.value (agV x)) w := by
  subst h
  kernel_rfl
theorem runAlloc (w : World) : (do pure (Next.value (← Instr.alloc 161 true (.tuple #[]))) : Sem Next).run Tryz.prog w = .ok (.value (.pointer (some ⟨w.heap.size, 0, none⟩))) (w.alloc (.cells zTh 161)) := by
  kernel_rfl
theorem runStore {w : World} {b : Nat} (x : Th) (p v : Value) (h : Blk w b 161 zTh) (hp : p = .pointer (some ⟨b, 0, none⟩)) (hv : v = agV x) : (do Instr.storeAt 161 p v; pure Next.skip : Sem Next).run Tryz.prog w = .ok .skip (put3 w b x) := by
  subst hp hv
  rw [Sem.run_bind, store_thing x h]
  rfl
end Go.Proofs.YtaelgbbnmjbjiaaGreat
namespace Go.Proofs.YtaelgbbnmjbjiaaGreat
open Go.RowKit Go.Shelf
theorem TreeR.inc {w0 w : World} {hb c n M : Nat} {A : Option Addr} {hs ex : List Th} {out : List Nat} (h : TreeR w0 hb A c n M hs ex out w) (p v : Nat) (hlt : w0.heap.size < hb) :
    TreeR w0 hb A c n M hs ex (out.set p v) (w.setCell ⟨w0.heap.size, p, none⟩ (natv v)) := by
  have hg := grown_set w ⟨w0.heap.size, p, none⟩ (natv v)
  have hnA : bk A ≠ some w0.heap.size := fun e => by have := (h.heap.row.lt e).1; omega
  refine ⟨⟨h.heap.box.kept hg (fun e => by have e2 : w0.heap.size = hb := Option.some.inj e; omega), h.heap.row.kept hg (.inr hnA)⟩, h.all, fun y hy => Own.kept (h.parts y hy) hg (.inr (fun e => ?_)), ?_, Nat.lt_of_lt_of_le h.lt hg.size, h.below.setCell (p := ⟨w0.heap.size, p, none⟩) (Nat.le_refl _) _⟩
  · have h5 : w0.heap.size + 1 ≤ w0.heap.size := (Own.lt (h.parts y hy) e).1
    omega
  · have := (Own.stored h.out_ p (natv v)).1
    unfold OwnN
    rw [List.map_set]
    exact this
theorem LocR.inc {w0 w : World} {hb b c n M : Nat} {A : Option Addr} {cs : Array Value} {hs ex : List Th} {out : List Nat} (h : LocR w0 hb A b cs w) (hT : TreeR w0 hb A c n M hs ex out w) (p : Nat) (v : Value) : LocR w0 hb A b cs (w.setCell ⟨w0.heap.size, p, none⟩ v) :=
  ⟨h.blk.kept (grown_set w ⟨w0.heap.size, p, none⟩ v) (fun e => Own.ne_blk hT.out_ h.blk (by decide) e), h.ne, h.ge⟩
def WtIn (counts : List Nat) (ts : List Th) : Prop := ∀ x ∈ ts, x.wt ∈ counts
theorem WtIn.put {counts : List Nat} {ts : List Th} {k c : Nat} (h : WtIn counts ts) (hc : counts[k]? = some c) (num : Nat) (pa : Option Addr) (pn pc : Nat) (ps : List Nat) (ht : Nat) : WtIn counts (ts ++ [⟨c, num, pa, pn, pc, ps, ht⟩]) := by
  intro x hx
  rcases List.mem_append.1 hx with hx | hx
  · exact h x hx
  · obtain rfl : x = _ := List.mem_singleton.1 hx
    exact List.mem_of_getElem? hc
def PhaseR (counts : List Nat) (hs : List Th) : Prop := (∀ x ∈ counts, x ≤ 2) → ∃ q, Phase q hs
theorem PhaseR.perm {counts : List Nat} {hs hs' : List Th} (h : PhaseR counts hs) (hp : hs'.Perm hs) : PhaseR counts hs' := fun hc => by
  obtain ⟨q, hq⟩ := h hc
  exact ⟨q, hq.perm hp⟩
theorem PhaseR.leaves {counts out P0 : List Nat} {W : Nat} {ts : List Th} (hf : Forest P0 W out ts) (hl : ∀ x ∈ ts, x.ht = 0) (hw : WtIn counts ts) : PhaseR counts ts := fun hc =>
  ⟨0, Phase.leaves (fun x hx => ⟨hl x hx, by
    have h1 := hc x.wt (hw x hx)
    have h2 := (hf.ok x hx).fib
    have h3 := fibT_pos x.ht
    omega⟩)⟩
theorem PhaseR.merge {counts : List Nat} {l : List Th} {a b x : Th} (h : PhaseR counts (a :: b :: l)) (ha : ∀ y ∈ l, leT a y) (hb : ∀ y ∈ l, leT b y) (hab : leT a b) (hw : x.wt = a.wt + b.wt) (hh : x.ht = max a.ht b.ht + 1) : PhaseR counts (x :: l) := fun hc => by
  obtain ⟨q, hq⟩ := h hc
  exact hq.merge (fun y hy => (ha y hy).wt) (fun y hy => (hb y hy).wt) hab.wt hw hh
def LowOk (counts out : List Nat) : Prop := (∀ x ∈ counts, x ≤ 2) → counts.length ≤ 256 → ∀ p, out.getD p 0 ≤ 11
theorem sumL_le : ∀ (l : List Nat) (m : Nat), (∀ x ∈ l, x ≤ m) → sumL l ≤ l.length * m
  | [], m, _ => by simp [sumL]
  | x :: r, m, h => by
    have h1 := sumL_le r m (fun y hy => h y (List.mem_cons_of_mem _ hy))
    have h2 := h x (List.mem_cons_self)
    rw [sumL, List.length_cons, Nat.succ_mul]; omega
theorem LowOk.many {counts out P0 : List Nat} {x : Th} (hf : Forest P0 (sumL counts) out [x]) (hP : PhaseR counts [x]) : LowOk counts out := fun hc hl p => by
  obtain ⟨q, hq⟩ := hP hc
  have hw := hf.wts
  have h1 := sumL_le counts 2 hc
  have h0 : wtsT [x] = x.wt := by unfold wtsT; simp [sumL]
  have h2 := hq.low (by omega)
  by_cases hp : p ∈ x.ps
  · exact Nat.le_trans ((hf.ok x (List.mem_singleton_self _)).le p hp) h2
  · rw [hf.rest p (fun hp' => hp (by
      have := hf.all.symm.subset hp'
      unfold allP at this
      simpa using this))]
    exact Nat.zero_le _
theorem LowOk.one {counts : List Nat} (p : Nat) : LowOk counts ((List.replicate counts.length 0).set p 1) := fun _ _ q => by
  rw [getD_set]
  split
  · decide
  · rw [getD_rep]; decide
theorem OwnT.cap {w : World} {base n c : Nat} {A : Option Addr} {l : List Th} (h : OwnT w base A n c l) : n ≤ c := by
  rcases h.2 with ⟨h1, h0⟩ | ⟨g', cap, cur, hv, -, -, h3, -⟩
  · simp only [Value.slice.injEq] at h1
    omega
  · simp only [Value.slice.injEq] at hv
    omega
theorem psum_len {P0 : List Nat} {W : Nat} {out : List Nat} {l : List Th} {a b : Th} (h : Forest P0 W out (a :: b :: l)) : (a.ps ++ b.ps).length ≤ P0.length := by
  have := h.all.length_eq
  rw [allP_cons, allP_cons] at this
  simp only [List.length_append] at this ⊢
  omega
theorem ps_lt {counts out : List Nat} {W : Nat} {l : List Th} {a b : Th} (h : Forest (posL counts) W out (a :: b :: l)) : ∀ p ∈ a.ps ++ b.ps, p < counts.length := fun p hp =>
  posL_lt counts p (h.all.subset (by
    rw [allP_cons, allP_cons, ← List.append_assoc]
    exact List.mem_append_left _ hp))
theorem posL_len (counts : List Nat) : (posL counts).length ≤ counts.length := by
  unfold posL
  exact Nat.le_trans (List.length_filter_le _ _) (by simp)
theorem wt_le {P0 : List Nat} {W : Nat} {out : List Nat} {l : List Th} {a b : Th} (h : Forest P0 W out (a :: b :: l)) : a.wt + b.wt ≤ W := by
  have := h.wts
  rw [wtsT_cons, wtsT_cons] at this
  omega
theorem incT_step {ps : List Nat} {k p : Nat} (out : List Nat) (h : ps[k]? = some p) : incT out (ps.take (k + 1)) = (incT out (ps.take k)).set p ((incT out (ps.take k)).getD p 0 + 1) := by
  rw [List.take_add_one, h]
  exact incT_snoc _ _ _
theorem blk2_cells {w : World} {b : Nat} {v0 v1 : Value} {t : TypeId} (h : Blk w b t #[v0, v1]) : w.cell? ⟨b, 0, none⟩ = some v0 ∧ w.cell? ⟨b, 1, none⟩ = some v1 := by
  have h0 := h.cell 0
  have h1 := h.cell 1
  simp only [List.getElem?_toArray, List.getElem?_cons_zero, List.getElem?_cons_succ] at h0 h1
  exact ⟨h0, h1⟩
def PosOk (counts out : List Nat) : Prop := ∀ p ∈ posL counts, 0 < out.getD p 0
theorem PosOk.one {counts : List Nat} {W p : Nat} {out : List Nat} {x : Th} (h : Forest (posL counts) W out [x]) (hp : x.ps = [p]) : PosOk counts ((List.replicate counts.length 0).set p 1) := by
  have hpos : posL counts = [p] := by
    have := h.all
    unfold allP at this
    rw [List.flatMap_cons, List.flatMap_nil, List.append_nil, hp] at this
    exact List.perm_singleton.1 this.symm
  intro q hq
  have hq' := hq
  rw [hpos] at hq
  obtain rfl := List.mem_singleton.1 hq
  rw [getD_set, if_pos ⟨rfl, by rw [List.length_replicate]; exact posL_lt counts q hq'⟩]
  exact Nat.one_pos
theorem PosOk.many {counts : List Nat} {W : Nat} {out : List Nat} {x : Th} (h : Forest (posL counts) W out [x]) (h2 : 2 ≤ (posL counts).length) : PosOk counts out := by
  intro p hp
  have hall : x.ps.Perm (posL counts) := by
    have := h.all
    unfold allP at this
    rw [List.flatMap_cons, List.flatMap_nil, List.append_nil] at this
    exact this
  have hk := (h.ok x (List.mem_singleton_self _)).kraft x.ht (Nat.le_refl _)
  rw [sumL_perm (hall.map _)] at hk
  rcases Nat.eq_zero_or_pos (out.getD p 0) with h0 | h0
  · exfalso
    obtain ⟨r, hr⟩ : ∃ r, (posL counts).Perm (p :: r) := ⟨_, List.perm_cons_erase hp⟩
    have hlen := hr.length_eq
    rw [List.length_cons] at hlen
    rw [sumL_perm (hr.map _), List.map_cons, sumL, h0, Nat.sub_zero] at hk
    cases r with
    | nil => simp at hlen; omega
    | cons q r =>
      rw [List.map_cons, sumL] at hk
      have := Nat.two_pow_pos (x.ht - out.getD q 0)
      omega
  · exact h0
theorem leaves_len {counts out : List Nat} {W : Nat} {ts : List Th} (h : Forest (posL counts) W out ts) (hl : ∀ x ∈ ts, x.ht = 0) : ts.length = (posL counts).length := by
  have key : ∀ l : List Th, (∀ x ∈ l, ∃ p, x.ps = [p]) → (allP l).length = l.length := by
    intro l
    induction l with
    | nil => intro _; rfl
    | cons x l ih =>
      intro hx
      obtain ⟨p, hp⟩ := hx x (List.mem_cons_self)
      rw [allP_cons, List.length_append, ih (fun y hy => hx y (List.mem_cons_of_mem _ hy)), hp, List.length_singleton, List.length_cons]
      omega
  rw [← h.all.length_eq, key ts (fun x hx => one_ps (h.ok x hx) (hl x hx))]
theorem le_fibT : ∀ n, n ≤ fibT n + 1
  | 0 => by omega
  | 1 => by unfold fibT; omega
  | n + 2 => by
    have h1 := le_fibT (n + 1)
    have h2 := fibT_pos n
    rw [fibT]; omega
theorem wt_le_wts : ∀ (l : List Th) (x : Th), x ∈ l → x.wt ≤ wtsT l
  | y :: l, x, h => by
    rw [wtsT_cons]
    rcases List.mem_cons.1 h with rfl | h
    · omega
    · have := wt_le_wts l x h
      omega
theorem Forest.out_le {P0 : List Nat} {W : Nat} {out : List Nat} {l : List Th} (h : Forest P0 W out l) (p : Nat) : out.getD p 0 ≤ W + 1 := by
  by_cases hp : p ∈ P0
  · have h1 := h.all.symm.subset hp
    obtain ⟨x, hx, hpx⟩ := List.mem_flatMap.1 h1
    have h2 := (h.ok x hx).le p hpx
    have h3 := (h.ok x hx).fib
    have h4 := le_fibT x.ht
    have h5 := wt_le_wts l x hx
    have h6 := h.wts
    omega
  · rw [h.rest p hp]; omega
theorem incT_le : ∀ (ps : List Nat) (out : List Nat) (p : Nat), (incT out ps).getD p 0 ≤ out.getD p 0 + ps.length
  | [], _, _ => Nat.le_refl _
  | q :: r, out, p => by
    have h := incT_le r (out.set q (out.getD q 0 + 1)) p
    rw [incT, List.length_cons]
    rw [getD_set] at h
    split at h
    · rename_i e
      rw [← e.1]
      rw [← e.1] at h
      omega
    · omega
theorem Forest.inc_le {P0 : List Nat} {W : Nat} {out : List Nat} {l : List Th} (h : Forest P0 W out l) (ps : List Nat) (i p : Nat) (hl : ps.length ≤ 256) : (incT out (ps.take i)).getD p 0 ≤ W + 257 := by
  have h1 := incT_le (ps.take i) out p
  have h2 := h.out_le p
  have h3 : (ps.take i).length ≤ ps.length := by rw [List.length_take]; omega
  omega
end Go.Proofs.YtaelgbbnmjbjiaaGreat
namespace Go.Proofs.YtaelgbbnmjbjiaaGreat
open Go.RowKit
set_option maxHeartbeats 8000000 in
set_option maxRecDepth 10000 in
theorem huffTree (A : Option Addr) (n c : Nat) (counts : List Nat) (w : World) (hl : counts.length = n) (hr : Ns w A counts) (hn0 : 0 < n) (hn : n ≤ 256) (hb : ∀ x ∈ counts, x ≤ 4294967295) (hpos : 0 < nz counts) :
    Calls Tryz.prog 105 #[.slice A n c] w fun e w' => ∃ S cs out, e = .returned (.slice S n cs) ∧ OwnN w' w.heap.size S n cs out ∧ TreeOk counts out ∧ LowOk counts out ∧ PosOk counts out ∧ Below w.heap.size w w' := by
  have HL := Lib.hid hl
  have HR := Lib.hid hr
  have HBd := Lib.hid hb
  have HPos := Lib.hid hpos
  clear hl hr hb hpos
  obtain ⟨ti, hi, hz0, hz1, hz2⟩ := info_parts elemN_info
  go_enter Tryz.func105, Tryz.ntmps105
  go_wp2_with (at_make; refine wpList_make_full _ rfl _ _ 45 rfl w.heap.size 3 ti _ 1 Tryz.underlying45 hi hz0 hz1 .i64 .i64 n n n rfl rfl rfl rfl (by rw [hz2]; omega) (by unfold maxLen; omega) (Nat.le_refl _) ?_)
  intro w1 hown1 hg1
  rw [made_zeros] at hown1
  have hb1 : Below w.heap.size w w1 := (Below.refl _ _).grown hg1 (Nat.le_refl _) (fun k hk => by cases hk)
  have hlt1 := (Own.lt hown1 (k := w.heap.size) rfl).2
  have hbA := (Below.refl w1.heap.size w1).alloc (Nat.le_refl _) (.cells #[.slice none 0 0] 159)
  have HOut := Lib.hid (show OwnN (w1.alloc (.cells #[.slice none 0 0] 159)) w.heap.size (some ⟨w.heap.size, 0, none⟩) n n (List.replicate n 0) from Own.later (w := w1) hown1 hbA)
  have HHp := Lib.hid (⟨Blk.new w1 159 #[.slice none 0 0], OwnT.nil _ _⟩ : HeapR (w1.alloc (.cells #[.slice none 0 0] 159)) (w.heap.size + 1) w1.heap.size none 0 0 [])
  have HB1 := Lib.hid (hb1.trans (hbA.mono hb1.size))
  have hsz1 : (w1.alloc (.cells #[.slice none 0 0] 159)).heap.size = w1.heap.size + 1 := by simp
  clear hown1 hg1 hi hz0 hz1 hz2 hbA
  go_wp2_with fail
  obtain ⟨w2, hw2⟩ : ∃ w2, w2 = w1.alloc (.cells #[.slice none 0 0] 159) := ⟨_, rfl⟩
  rw [← hw2] at HOut HHp HB1 hsz1 ⊢
  clear hw2
  obtain ⟨hbx, hhb⟩ : ∃ hbx, hbx = w1.heap.size := ⟨_, rfl⟩
  rw [← hhb] at HHp hlt1 hsz1 ⊢
  clear hhb hb1
  go_loopg [18] n (fun gg s18 wr => ∃ (k N cc : Nat) (AA : Option Addr) (ts : List Th), k ≤ n ∧ n - k ≤ gg ∧ s18 = .int .i64 (k : Int) ∧ HeapR wr (w.heap.size + 1) hbx AA N cc ts ∧ LeafR counts k ts ∧ WtIn counts ts ∧ PartsR wr w.heap.size ts ∧ OwnN wr w.heap.size (some ⟨w.heap.size, 0, none⟩) n n (List.replicate n 0) ∧ hbx < wr.heap.size ∧ Below w.heap.size w wr ∧ N ≤ cc)
  case atStart => exact ⟨0, 0, 0, none, [], by omega, by omega, rfl, HHp.out, ⟨⟨by simp, List.Pairwise.nil, rfl, List.Perm.refl _, fun p _ => getD_rep _ p⟩, by simp, Nat.le_refl _⟩, by intro x hx; simp at hx, by intro x hx; simp at hx, HOut.out, by omega, HB1.out, Nat.le_refl _⟩
  case round =>
    clear HHp HOut HB1
    obtain ⟨k, N, cc, AA, ts, hk, hgg, rfl, hh, hlf, hwi, hpr, hout, hbs, hbel, hNc⟩ := hrel
    have HWi := Lib.hid hwi
    have HH := Lib.hid hh
    have HLf := Lib.hid hlf
    have HPr := Lib.hid hpr
    have HO := Lib.hid hout
    have HB := Lib.hid hbel
    have hNl := hh.row.length
    have hNk : N ≤ k := by have := hlf.len; omega
    have hbx0 := hh.cell
    clear hh hlf hwi hpr hout hbel
    by_cases hkn : k < n
    · obtain ⟨b, o, x, hA, hx, hc⟩ := HR.out.at_ (by rw [HL.out]; exact hkn : k < counts.length)
      subst hA
      have hc2 := (HB.out.cell (by simpa using block_lt hc)).trans hc
      have hxb := HBd.out x (List.mem_of_getElem? hx)
      have HX := Lib.hid hx
      clear hx hc
      by_cases hx0 : 0 < x
      · have g1 : decide ((0 : Int) < (x : Int)) = true := decide_eq_true (by omega)
        have hbA := (Below.refl wr.heap.size wr).alloc (Nat.le_refl _) (.cells #[.int .i64 (k : Int)] 3)
        have hsA : (wr.alloc (.cells #[.int .i64 (k : Int)] 3)).heap.size = wr.heap.size + 1 := by simp
        have HHA := Lib.hid (HH.out.later hbA)
        have HPA := Lib.hid (show PartsR (wr.alloc (.cells #[.int .i64 (k : Int)] 3)) w.heap.size (ts ++ [⟨x, N, some ⟨wr.heap.size, 0, none⟩, 1, 1, [k], 0⟩]) from fun y hy => by
          rcases List.mem_append.1 hy with hy | hy
          · exact HPr.out.later hbA y hy
          · obtain rfl : y = _ := List.mem_singleton.1 hy
            exact Own.mono (own_one wr (.int .i64 (k : Int)) 3) (by omega))
        have HOA := Lib.hid (Own.later HO.out hbA)
        have HBA := Lib.hid (HB.out.trans (hbA.mono HB.out.size))
        have HLf2 := Lib.hid (HLf.out.put HX.out hx0 N (some ⟨wr.heap.size, 0, none⟩) 1 1)
        have HWi2 := Lib.hid (HWi.out.put HX.out N (some ⟨wr.heap.size, 0, none⟩) 1 1 [k] 0)
        have hbxA := (hbA.cell (p := ⟨hbx, 0, none⟩) hbs).trans hbx0
        have hbB := (Below.refl (wr.alloc (.cells #[.int .i64 (k : Int)] 3)).heap.size (wr.alloc (.cells #[.int .i64 (k : Int)] 3))).alloc (Nat.le_refl _) (.cells #[.int .i64 (x : Int), .int .i64 (N : Int), .slice (some ⟨wr.heap.size, 0, none⟩) 1 1] 161)
        have hbxB := (hbB.cell (p := ⟨hbx, 0, none⟩) (by rw [hsA]; show hbx < _; omega)).trans hbxA
        clear hbA hbB
        go_wp2_with (at_builtin; go_loud (refine wpList_append_th rfl _ _ rfl (w.heap.size + 1) AA N cc ts ⟨x, N, some ⟨wr.heap.size, 0, none⟩, 1, 1, [k], 0⟩ ?hw rfl HHA.out.row ?hh ?hb ?hbase ?_; (case hh => simp [Act.eval])))
        case hw => rfl
        case hb => omega
        case hbase => rw [hsA]; omega
        intro A6 c6 w6 hrow6 hg6 hnt6
        have hbox6 := HHA.out.box.kept hg6 HHA.out.ne
        have c6b := hbox6.cell 0
        simp only [List.getElem?_toArray, List.getElem?_cons_zero] at c6b
        have f6b := hbox6.frozen 0
        have hgs := grown_set w6 ⟨hbx, 0, none⟩ (.slice A6 (N + 1) c6)
        have htw : Two hbx AA (wr.alloc (.cells #[.int .i64 (k : Int)] 3)) (w6.setCell ⟨hbx, 0, none⟩ (.slice A6 (N + 1) c6)) := ((Two.refl hbx AA _).grown hg6 (fun k hk _ => .inr hk)).set_g _
        have HH7 := Lib.hid (⟨hbox6.set 0 (.slice A6 (N + 1) c6), hrow6.kept hgs (.inr (hrow6.ne_blk hbox6 (by decide)))⟩ : HeapR (w6.setCell ⟨hbx, 0, none⟩ (.slice A6 (N + 1) c6)) (w.heap.size + 1) hbx A6 (N + 1) c6 (ts ++ [⟨x, N, some ⟨wr.heap.size, 0, none⟩, 1, 1, [k], 0⟩]))
        have HP7 := Lib.hid (HPA.out.two HHA.out htw)
        have HO7 := Lib.hid (htw.own HOA.out (Own.ne_blk HOA.out HHA.out.box (by decide)) (by
          rcases HHA.out.row.ne_own HOA.out (by decide) with h1 | h1
          · exact .inr (by rw [h1]; simp [bk])
          · exact .inr (fun e => h1 e.symm)))
        have HB7 := Lib.hid (show Below w.heap.size w (w6.setCell ⟨hbx, 0, none⟩ (.slice A6 (N + 1) c6)) from (HBA.out.grown hg6 HBA.out.size (fun k hk => by have := (HHA.out.row.lt hk).1; omega)).setCell (p := ⟨hbx, 0, none⟩) (show w.heap.size ≤ hbx by omega) _)
        have hbs7 : hbx < (w6.setCell ⟨hbx, 0, none⟩ (.slice A6 (N + 1) c6)).heap.size := by
          have h1 := hg6.size
          have h2 : (w6.setCell ⟨hbx, 0, none⟩ (.slice A6 (N + 1) c6)).heap.size = w6.heap.size := by simp [World.setCell]
          omega
        have hc7 : N + 1 ≤ c6 := by
          rcases hrow6.2 with ⟨-, h0⟩ | ⟨g', cap, cur, hv, -, -, h3, -⟩
          · omega
          · simp only [Value.slice.injEq] at hv
            omega
        clear hbox6 hrow6 hg6 hnt6 hgs htw hbx0 hbxA hbxB hsA
        go_wp2
        go_roundg (n - (k + 1))
        case measure => omega
        case rel => exact ⟨k + 1, N + 1, c6, A6, _, by omega, by omega, by go_num, HH7.out, HLf2.out, HWi2.out, HP7.out, HO7.out, hbs7, HB7.out, hc7⟩
      · have g1 : decide ((0 : Int) < (x : Int)) = false := decide_eq_false (by omega)
        obtain rfl : x = 0 := by omega
        have HLf2 := Lib.hid (HLf.out.skip HX.out)
        clear hbx0
        go_wp2
        go_roundg (n - (k + 1))
        case measure => omega
        case rel => exact ⟨k + 1, N, cc, AA, ts, by omega, by omega, by go_num, HH.out, HLf2.out, HWi.out, HPr.out, HO.out, hbs, HB.out, hNc⟩
    · obtain rfl : k = n := by omega
      have hfor : Forest (posL counts) (sumL counts) (List.replicate counts.length 0) ts := by
        have h := HLf.out.forest
        rw [← HL.out, List.take_of_length_le (Nat.le_refl _)] at h
        exact h
      have HFor := Lib.hid hfor
      have HLow := Lib.hid HLf.out.low
      have hN1 : 1 ≤ N := by
        rcases Nat.lt_or_ge 0 N with h | h
        · exact h
        · exfalso
          have h0 : ts = [] := List.length_eq_zero_iff.1 (by omega)
          have h1 := hfor.wts
          rw [h0] at h1
          have h2 := nz_pos HPos.out
          have : wtsT ([] : List Th) = 0 := rfl
          omega
      clear HLf hfor
      by_cases hone : N = 1
      · subst hone
        obtain ⟨x, hx⟩ : ∃ x, ts = [x] := List.length_eq_one_iff.1 hNl
        subst hx
        obtain ⟨p, hp⟩ := one_ps (HFor.out.ok x (List.mem_singleton_self _)) (HLow.out x (List.mem_singleton_self _))
        obtain ⟨htree, hpn⟩ := TreeOk.one HFor.out hp
        have HPo := Lib.hid (PosOk.one HFor.out hp)
        obtain ⟨g, x', hAA, hg1, hg2, hx', -, -, a2, -⟩ := HH.out.row.at_ (k := 0) (by omega)
        cases hx'
        subst hAA
        have hpr := HPr.out x (List.mem_singleton_self _)
        have hpl := OwnN.length hpr
        rw [hp] at hpl
        have hpl1 : x.pn = 1 := hpl.symm
        obtain ⟨gp, xp, hpa, -, -, hxp, hcp, -⟩ := Own.at_ hpr (k := 0) (by omega)
        rw [hp] at hxp
        have hxp2 : xp = .int .i64 (p : Int) := by simpa [natv] using hxp.symm
        subst hxp2
        rw [hpa, hpl1] at a2
        have e03 : 0 * 3 + 2 = 2 := rfl
        rw [e03] at a2
        obtain ⟨go, xo, hgo, -, hgo2, -, hco, hfo⟩ := Own.at_ HO.out (k := p) (by rw [← HL.out]; exact hpn)
        have hgo' : go = w.heap.size := by injection hgo with h; injection h with h1; exact h1.symm
        subst hgo'
        have HTr := Lib.hid htree
        have HO2 := Lib.hid (show OwnN (wr.setCell ⟨w.heap.size, p, none⟩ (.int .i64 1)) w.heap.size (some ⟨w.heap.size, 0, none⟩) k k ((List.replicate k 0).set p 1) from by
          unfold OwnN
          rw [List.map_set]
          exact (Own.stored HO.out p _).1)
        have HB2 := Lib.hid (HB.out.setCell (p := ⟨w.heap.size, p, none⟩) (Nat.le_refl _) (.int .i64 1))
        have i1 : (0 : Int) ≤ (p : Int) := by omega
        have i2 : (p : Int) < (k : Int) := by rw [← HL.out]; omega
        clear hp htree hpr hpl hpl1 hxp hpa hgo e03
        go_wp2
        go_ret
        refine ⟨some ⟨w.heap.size, 0, none⟩, k, _, rfl, HO2.out, ?_, ?_, ?_, HB2.out⟩
        · rw [← HL.out]
          exact HTr.out
        · rw [← HL.out]
          exact LowOk.one p
        · rw [← HL.out]
          exact HPo.out
      · have g1 : ((N : Int) == 1) = false := beq_eq_false_iff_ne.2 (by omega)
        have HIn := Lib.hid (hpInit (w.heap.size + 1) hbx AA N cc ts wr HH.out (by omega))
        go_wp2_with fail
        refine HIn.out.mono ?_
        rintro e w5 ⟨⟨v5, rfl⟩, ⟨l5, hh5, hp5, ha5⟩, ht5⟩
        have HH5 := Lib.hid hh5
        have HF5 := Lib.hid (HFor.out.perm hp5)
        have HA5 := Lib.hid ha5
        have HN2 := Lib.hid (show 2 ≤ (posL counts).length by rw [← leaves_len HFor.out HLow.out]; omega)
        have HPh5 := Lib.hid ((PhaseR.leaves HFor.out HLow.out HWi.out).perm hp5)
        have HP5 := Lib.hid (PartsR.perm (HPr.out.two HH.out ht5) (fun x hx => hp5.subset hx))
        have HO5 := Lib.hid (ht5.own HO.out (Own.ne_blk HO.out HH.out.box (by decide)) (by
          rcases HH.out.row.ne_own HO.out (by decide) with h1 | h1
          · exact .inr (by rw [h1]; simp [bk])
          · exact .inr (fun e => h1 e.symm)))
        have HB5 := Lib.hid (show Below w.heap.size w w5 from HB.out.trans (two_below HH.out ht5 (by omega) (by omega) HB.out.size))
        have hs5 : hbx < w5.heap.size := Nat.lt_of_lt_of_le hbs ht5.size
        clear hh5 hp5 ha5 ht5 HIn hbx0 g1
        go_wp2_with fail
        go_loopg [7] N (fun gg s7 wl => ∃ (M c2 nx : Nat) (A2 : Option Addr) (hs : List Th) (out : List Nat), 1 ≤ M ∧ M ≤ gg ∧ s7 = .int .i64 (nx : Int) ∧ nx + M ≤ 600 ∧ HeapR wl (w.heap.size + 1) hbx A2 M c2 hs ∧ HAll (fnT hs) M 0 ∧ Forest (posL counts) (sumL counts) out hs ∧ PhaseR counts hs ∧ out.length = k ∧ PartsR wl w.heap.size hs ∧ OwnN wl w.heap.size (some ⟨w.heap.size, 0, none⟩) k k out ∧ hbx < wl.heap.size ∧ Below w.heap.size w wl ∧ M ≤ c2)
        case atStart => exact ⟨N, cc, N, AA, l5, _, hN1, Nat.le_refl _, rfl, by omega, HH5.out, HA5.out, HF5.out, HPh5.out, by rw [List.length_replicate]; exact HL.out, HP5.out, by have h := HO5.out; rw [← HL.out] at h ⊢; exact h, hs5, HB5.out, hNc⟩
        case round =>
          clear HH5 HF5 HPh5 HA5 HP5 HO5 HB5 hs5 HH HPr HO HB HFor HLow
          obtain ⟨M, c2, nx, A2, hs, out, hM1, hMg, rfl, hnx, hh, ha, hf, hph, hol, hp, ho, hbs2, hbel, hMc⟩ := hrel
          have HH := Lib.hid hh
          have HA := Lib.hid ha
          have HF := Lib.hid hf
          have HPh := Lib.hid hph
          have HOl := Lib.hid hol
          have HP := Lib.hid hp
          have HO := Lib.hid ho
          have HB := Lib.hid hbel
          have HHl := Lib.hid hh.row.length
          have hbx0 := hh.cell
          clear hh ha hf hph hol hp ho hbel
          by_cases hM2 : 1 < M
          · obtain ⟨M2, rfl⟩ : ∃ M2, M = M2 + 1 + 1 := ⟨M - 2, by omega⟩
            have g1 : decide ((1 : Int) < ((M2 + 1 + 1 : Nat) : Int)) = true := decide_eq_true (by omega)
            have HT0 := Lib.hid (⟨HH.out, HA.out, HP.out, HO.out, hbs2, HB.out⟩ : TreeR w hbx A2 c2 k (M2 + 1 + 1) hs [] out wr)
            have hta := fun (x : Th) (W : World) => (show (Instr.typeAssert (thV x) 20 161 false).run Tryz.prog W = .ok (.agg #[.int .i64 (x.wt : Int), .int .i64 (x.num : Int), .slice x.pa x.pn x.pc]) W from assert_thing _ W)
            go_upto_region 15 with fail
            clear hbx0 HH HA HP HO HB hbs2 g1
            go_cut [8, 9] from 54 to 59 (fun s8 s9 wx => ∃ (b8 b9 : Nat) (x1 x2 : Th) (l1 l3 : List Th), s8 = .pointer (some ⟨b8, 0, none⟩) ∧ s9 = .pointer (some ⟨b9, 0, none⟩) ∧ TreeR w hbx A2 c2 k M2 l3 [x2, x1] out wx ∧ LocR w hbx A2 b8 (vTh x1) wx ∧ LocR w hbx A2 b9 (vTh x2) wx ∧ b8 ≠ b9 ∧ (x1 :: l1).Perm hs ∧ (∀ y ∈ l1, leT x1 y) ∧ (x2 :: l3).Perm l1 ∧ (∀ y ∈ l3, leT x2 y))
            case first =>
              refine reg15 (hb := hbx) (M := M2) (by kernel_rfl) ?h15 (by kernel_rfl) (Nat.le_of_ble_eq_true (by kernel_rfl)) HT0.out.drew (by omega) hMc (by omega) ?hQ
              case h15 =>
                refine ⟨by kernel_rfl, by kernel_rfl, by kernel_rfl, ?r0, ?r3, ?r1, ?r4, ?r2, ?r5, ?r6, ?r7, ?r8, ?r9⟩
                case r0 => exact ⟨_, rfl, rfl, rfl, fun ρ W h => runMake hbx _ W h⟩
                case r3 => exact ⟨_, rfl, rfl, rfl, fun ρ W h => runMake hbx _ W h⟩
                case r1 => exact ⟨_, rfl, rfl, rfl, fun a W v h => by subst h; kernel_rfl⟩
                case r4 => exact ⟨_, rfl, rfl, rfl, fun a W v h => by subst h; kernel_rfl⟩
                case r2 => exact ⟨_, rfl, rfl, rfl, fun ρ W x h => runAssert x _ W h⟩
                case r5 => exact ⟨_, rfl, rfl, rfl, fun ρ W x h => runAssert x _ W h⟩
                case r6 => exact ⟨_, rfl, rfl, rfl, fun ρ W => runAlloc W⟩
                case r7 => exact ⟨_, rfl, rfl, rfl, fun ρ W => runAlloc W⟩
                case r8 => exact ⟨_, rfl, rfl, rfl, fun ρ W b x h1 h2 hk => runStore x _ _ hk h1 h2⟩
                case r9 => exact ⟨_, rfl, rfl, rfl, fun ρ W b x h1 h2 hk => runStore x _ _ hk h1 h2⟩
              case hQ =>
                intro val x1 x2 l1 l3 b8 b9 wx e8 e9 hTx k8 k9 hne p1 m1 p2 m2
                obtain ⟨z54, hz54⟩ : ∃ z, z = val 54 := ⟨_, rfl⟩
                obtain ⟨z55, hz55⟩ : ∃ z, z = val 55 := ⟨_, rfl⟩
                obtain ⟨z56, hz56⟩ : ∃ z, z = val 56 := ⟨_, rfl⟩
                obtain ⟨z57, hz57⟩ : ∃ z, z = val 57 := ⟨_, rfl⟩
                obtain ⟨z58, hz58⟩ : ∃ z, z = val 58 := ⟨_, rfl⟩
                obtain ⟨z59, hz59⟩ : ∃ z, z = val 59 := ⟨_, rfl⟩
                simp only [List.foldl_cons, List.foldl_nil]
                rw [e8, e9, ← hz54, ← hz55, ← hz56, ← hz57, ← hz58, ← hz59]
                clear hz54 hz55 hz56 hz57 hz58 hz59 e8 e9
                simp only [Act.put, List.setIfInBounds_toArray, List.set_cons_zero, List.set_cons_succ]
                go_step
                go_step
                go_meet
                exact ⟨b8, b9, x1, x2, l1, l3, rfl, rfl, hTx, k8, k9, hne, p1, m1, p2, m2⟩
            case rest =>
              obtain ⟨b8, b9, x1, x2, l1, l3, rfl, rfl, hTx, k8, k9, hne, p1, m1, p2, m2⟩ := hcut
              have HTx := Lib.hid hTx
              have K8 := Lib.hid k8
              have K9 := Lib.hid k9
              obtain ⟨a0, a1, a2, a3, a4, a5, a6⟩ := blk_cells k8.blk
              obtain ⟨d0, d1, d2, d3, d4, d5, d6⟩ := blk_cells k9.blk
              clear hTx k8 k9
              have HF2 := Lib.hid (HF.out.perm ((p2.cons x1).trans p1))
              have HPh2 := Lib.hid (HPh.out.perm ((p2.cons x1).trans p1))
              have hpl := Nat.le_trans (psum_len HF2.out) (posL_len counts)
              have HPlt := Lib.hid (ps_lt HF2.out)
              have hwt := wt_le HF2.out
              have hws := sumL_le counts 4294967295 HBd.out
              rw [HL.out] at hpl hws
              have HPx1 := Lib.hid (HTx.out.parts x1 (by simp))
              have HPx2 := Lib.hid (HTx.out.parts x2 (by simp))
              have hM1a : leT x1 x2 := m1 x2 (p2.subset (List.mem_cons_self))
              have HM1 := Lib.hid (show ∀ y ∈ l3, leT x1 y from fun y hy => m1 y (p2.subset (List.mem_cons_of_mem _ hy)))
              have HM2 := Lib.hid m2
              have HMa := Lib.hid hM1a
              have HTa := Lib.hid (HTx.out.alloc (.cells #[.slice x1.pa x1.pn x1.pc, .slice x2.pa x2.pn x2.pc] 45))
              have K8a := Lib.hid (K8.out.alloc (.cells #[.slice x1.pa x1.pn x1.pc, .slice x2.pa x2.pn x2.pc] 45))
              have K9a := Lib.hid (K9.out.alloc (.cells #[.slice x1.pa x1.pn x1.pc, .slice x2.pa x2.pn x2.pc] 45))
              have HCat := Lib.hid (concatN wc.heap.size 2 2 (fun i => if i = 0 then x1.pa else x2.pa) (fun i => if i = 0 then x1.pn else x2.pn) (fun i => if i = 0 then x1.pc else x2.pc) (fun i => if i = 0 then x1.ps else x2.ps) (wc.alloc (.cells #[.slice x1.pa x1.pn x1.pc, .slice x2.pa x2.pn x2.pc] 45)) ?hc1 ?hc2 ?hc3 (by omega) ?hc4)
              case hc1 =>
                intro i hi
                obtain rfl | rfl : i = 0 ∨ i = 1 := by omega
                · exact (blk2_cells (Blk.new wc 45 #[.slice x1.pa x1.pn x1.pc, .slice x2.pa x2.pn x2.pc])).1
                · exact (blk2_cells (Blk.new wc 45 #[.slice x1.pa x1.pn x1.pc, .slice x2.pa x2.pn x2.pc])).2
              case hc2 =>
                intro i hi
                obtain rfl | rfl : i = 0 ∨ i = 1 := by omega
                · exact OwnN.length HPx1.out
                · exact OwnN.length HPx2.out
              case hc3 =>
                intro i hi
                obtain rfl | rfl : i = 0 ∨ i = 1 := by omega
                · exact OwnN.ns (Own.alloc HPx1.out _)
                · exact OwnN.ns (Own.alloc HPx2.out _)
              case hc4 => show (x1.ps ++ x2.ps).length ≤ 1000000; omega
              clear p1 m1 p2 m2 hM1a HF HPh HTx K8 K9 hta HT0
              go_wp2_with fail
              refine HCat.out.mono ?_
              rintro e wd ⟨S, np, cs, rfl, hrow, hbd⟩
              have hrow' : OwnN wd (wc.alloc (.cells #[.slice x1.pa x1.pn x1.pc, .slice x2.pa x2.pn x2.pc] 45)).heap.size S np cs (x1.ps ++ x2.ps) := hrow
              clear hrow
              obtain ⟨ps, hps⟩ : ∃ ps, ps = x1.ps ++ x2.ps := ⟨_, rfl⟩
              rw [← hps] at hrow' hpl HPlt
              have hnp : np = ps.length := (OwnN.length hrow').symm
              have HRow := Lib.hid (show OwnN wd (w.heap.size + 1) S np cs ps from Own.mono hrow' (by have := HTa.out.lt; omega))
              have HTd := Lib.hid (HTa.out.later hbd)
              have K8d := Lib.hid (⟨K8a.out.blk.later hbd, K8a.out.ne, K8a.out.ge⟩ : LocR w hbx A2 b8 (vTh x1) wd)
              have K9d := Lib.hid (⟨K9a.out.blk.later hbd, K9a.out.ne, K9a.out.ge⟩ : LocR w hbx A2 b9 (vTh x2) wd)
              have HPs := Lib.hid hps
              clear hrow' hps hbd HTa K8a K9a HCat a0 a1 a2 a3 a4 a5 a6 d0 d1 d2 d3 d4 d5 d6 HPx1 HPx2
              go_wp2_with fail
              go_loopg [68] np (fun gg s68 wl => ∃ (i : Nat), i ≤ np ∧ np - i ≤ gg ∧ s68 = .int .i64 (i : Int) ∧ TreeR w hbx A2 c2 k M2 l3 [x2, x1] (incT out (ps.take i)) wl ∧ LocR w hbx A2 b8 (vTh x1) wl ∧ LocR w hbx A2 b9 (vTh x2) wl ∧ OwnN wl (w.heap.size + 1) S np cs ps)
              case atStart => exact ⟨0, by omega, by omega, rfl, HTd.out, K8d.out, K9d.out, HRow.out⟩
              case round =>
                clear HTd K8d K9d HRow
                obtain ⟨i, hi, hig, rfl, hT, k8, k9, hrow⟩ := hrel
                have HT := Lib.hid hT
                have K8 := Lib.hid k8
                have K9 := Lib.hid k9
                have HRow := Lib.hid hrow
                clear hT k8 k9 hrow
                by_cases hin : i < np
                · obtain ⟨gs, x', hS, -, -, hx', hcs, -⟩ := Own.at_ HRow.out hin
                  subst hS
                  obtain ⟨p, hp⟩ : ∃ p, ps[i]? = some p := ⟨_, List.getElem?_eq_getElem (by omega)⟩
                  have hx2 : x' = natv p := by
                    rw [List.getElem?_map, hp] at hx'
                    simpa using hx'.symm
                  subst hx2
                  have hpk := HPlt.out p (List.mem_of_getElem? hp)
                  rw [HL.out] at hpk
                  obtain ⟨go, xo, hgo, -, -, hxo, hco, hfo⟩ := Own.at_ HT.out.out_ (k := p) hpk
                  have hgo' : go = w.heap.size := by injection hgo with h; injection h with h1; exact h1.symm
                  subst hgo'
                  obtain ⟨v, hv⟩ : ∃ v, v = (incT out (ps.take i)).getD p 0 := ⟨_, rfl⟩
                  have hxo2 : xo = natv v := by
                    rw [List.getElem?_map] at hxo
                    rw [hv, List.getD]
                    cases hq : (incT out (ps.take i))[p]? with
                    | none => rw [hq] at hxo; cases hxo
                    | some q => rw [hq] at hxo; simpa using hxo.symm
                  subst hxo2
                  have hvb : v ≤ sumL counts + 257 := by rw [hv]; exact HF2.out.inc_le ps i p (by omega)
                  have HT2 := Lib.hid (HT.out.inc p (v + 1) (by omega))
                  rw [hv] at HT2
                  have HT3 := Lib.hid (show TreeR w hbx A2 c2 k M2 l3 [x2, x1] (incT out (ps.take (i + 1))) (wr.setCell ⟨w.heap.size, p, none⟩ (natv (v + 1))) from by
                    rw [incT_step out hp, hv]
                    exact HT2.out)
                  have K82 := Lib.hid (K8.out.inc HT.out p (natv (v + 1)))
                  have K92 := Lib.hid (K9.out.inc HT.out p (natv (v + 1)))
                  have HRow2 := Lib.hid (show OwnN (wr.setCell ⟨w.heap.size, p, none⟩ (natv (v + 1))) (w.heap.size + 1) (some ⟨gs, 0, none⟩) np cs ps from Own.setCell HRow.out (p := ⟨w.heap.size, p, none⟩) (fun e => by have h5 : w.heap.size + 1 ≤ w.heap.size := (Own.lt HRow.out e).1; omega) _)
                  have i1 : (0 : Int) ≤ (p : Int) := by omega
                  have i2 : (p : Int) < (k : Int) := by omega
                  have hcs' : wr.cell? ⟨gs, i, none⟩ = some (.int .i64 (p : Int)) := hcs
                  have hco' : wr.cell? ⟨w.heap.size, p, none⟩ = some (.int .i64 (v : Int)) := hco
                  clear hx' hgo hxo hv HT2 hp hcs hco
                  go_wp2
                  go_roundg (np - (i + 1))
                  case measure => omega
                  case rel => exact ⟨i + 1, by omega, by omega, by go_num, HT3.out, K82.out, K92.out, HRow2.out⟩
                · obtain rfl : i = np := by omega
                  subst hnp
                  obtain ⟨a0, a1, a2, a3, a4, a5, a6⟩ := blk_cells K8.out.blk
                  obtain ⟨d0, d1, d2, d3, d4, d5, d6⟩ := blk_cells K9.out.blk
                  have a0' : wr.cell? ⟨b8, 0, none⟩ = some (.int .i64 (x1.wt : Int)) := a0
                  have d0' : wr.cell? ⟨b9, 0, none⟩ = some (.int .i64 (x2.wt : Int)) := d0
                  have hTe := HT.out
                  rw [List.take_length] at hTe
                  have hbx1 := hTe.heap.cell
                  obtain ⟨x, hx⟩ : ∃ x : Th, x = ⟨x1.wt + x2.wt, nx, S, ps.length, cs, ps, max x1.ht x2.ht + 1⟩ := ⟨_, rfl⟩
                  have HPush := Lib.hid (hpPush (w.heap.size + 1) hbx A2 M2 c2 l3 x wr hTe.heap (by omega) (by have := hTe.lt; omega) hTe.all)
                  have hthx : thV x = .iface 161 (.agg #[.int .i64 ((x1.wt : Int) + (x2.wt : Int)), .int .i64 (nx : Int), .slice S ps.length cs]) := by
                    rw [hx]
                    show Value.iface _ (.agg #[.int .i64 ((x1.wt + x2.wt : Nat) : Int), .int .i64 (nx : Int), .slice S ps.length cs]) = _
                    rw [Int.natCast_add]
                  rw [hthx] at HPush
                  have HTe := Lib.hid hTe
                  have HX := Lib.hid hx
                  clear hTe hx hthx a0 a1 a2 a3 a4 a5 d0 d1 d2 d3 d4 d5 HT
                  go_wp2_with fail
                  refine HPush.out.mono ?_
                  rintro e wz ⟨⟨v, rfl⟩, ⟨A', c', l', hh', hp', ha', -⟩, ht⟩
                  obtain ⟨q1, q2, q3, q4⟩ := HTe.out.two ht (by omega)
                  have hS := ht.own HRow.out (own_row_ne HTe.out.heap HRow.out).1 (own_row_ne HTe.out.heap HRow.out).2
                  have hxps : x.ps = ps := by rw [HX.out]
                  have HHn := Lib.hid hh'
                  have HAn := Lib.hid ha'
                  have HPn := Lib.hid (show PartsR wz w.heap.size l' from fun y hy => by
                    rcases List.mem_cons.1 (hp'.subset hy) with rfl | hy
                    · rw [HX.out]; exact hS
                    · exact q1 y (List.mem_append_right _ hy))
                  have HFn := Lib.hid (show Forest (posL counts) (sumL counts) (incT out ps) l' from by
                    have := (HF2.out.merge (posL_nodup counts) (posL_lt counts) (by rw [HOl.out, HL.out]) HM1.out HM2.out (x := x) (by rw [HX.out]) (by rw [HX.out]) (by rw [hxps, HPs.out])).perm hp'
                    rwa [hxps] at this)
                  have HPhn := Lib.hid ((HPh2.out.merge HM1.out HM2.out HMa.out (x := x) (by rw [HX.out]) (by rw [HX.out])).perm hp')
                  have HOn := Lib.hid q2
                  have HBn := Lib.hid q4
                  have hcap := OwnT.cap hh'.row
                  clear hh' hp' ha' ht q1 q2 q4 hS hxps HPush HRow HTe
                  go_wp2_with fail
                  go_roundg (M2 + 1)
                  case measure => omega
                  case rel => exact ⟨M2 + 1, c', nx + 1, A', l', incT out ps, by omega, by omega, by go_num, by omega, HHn.out, HAn.out, HFn.out, HPhn.out, by rw [incT_len]; exact HOl.out, HPn.out, HOn.out, q3, HBn.out, hcap⟩
          · obtain rfl : M = 1 := by omega
            have hx : ∃ x, hs = [x] := List.length_eq_one_iff.1 HHl.out
            obtain ⟨x, rfl⟩ := hx
            have HTr := Lib.hid (TreeOk.many HF.out (by rw [HOl.out, HL.out]))
            go_wp2
            go_ret
            exact ⟨some ⟨w.heap.size, 0, none⟩, k, out, rfl, HO.out, HTr.out, LowOk.many HF.out HPh.out, PosOk.many HF.out HN2.out, HB.out⟩
end Go.Proofs.YtaelgbbnmjbjiaaGreat
namespace Go.Proofs.YtaelgbbnmjbjiaaGreat
open Go.RowKit
structure LensOk (counts out : List Nat) : Prop where
  len : out.length ≤ counts.length
  may : mayL out = true
  pos : ∀ p, 0 < counts.getD p 0 → p < out.length ∧ 0 < out.getD p 0
theorem getD_out {l : List Nat} {p : Nat} (h : l.length ≤ p) : l.getD p 0 = 0 := by rw [List.getD, List.getElem?_eq_none h]; rfl
theorem sumL_mul (l : List Nat) (f : Nat → Nat) (c : Nat) : sumL (l.map (fun p => f p * c)) = sumL (l.map f) * c := by
  induction l with
  | nil => simp [sumL]
  | cons x r ih => simp only [List.map_cons, sumL, ih, Nat.add_mul]
theorem sumL_filter (P : Nat → Bool) (g : Nat → Nat) : ∀ l : List Nat, (∀ x ∈ l, P x = false → g x = 0) → sumL (l.map g) = sumL ((l.filter P).map g)
  | [], _ => rfl
  | x :: r, h => by
    have ih := sumL_filter P g r (fun y hy => h y (List.mem_cons_of_mem _ hy))
    cases hp : P x with
    | true => rw [List.filter_cons_of_pos hp, List.map_cons, List.map_cons, sumL, sumL, ih]
    | false => rw [List.filter_cons_of_neg (by simp [hp]), List.map_cons, sumL, ih, h x (List.mem_cons_self) hp, Nat.zero_add]
theorem list_range (l : List Nat) : l = (List.range l.length).map (fun p => l.getD p 0) := by
  apply List.ext_getElem
  · simp
  · intro i h1 h2; simp [List.getD, h1]
theorem kraft_map (l : List Nat) : kraft l = sumL (l.map (fun k => if 0 < k then 2 ^ (11 - k) else 0)) := by
  induction l with
  | nil => rfl
  | cons x r ih => rw [kraft, ih, List.map_cons, sumL]
theorem cntPos_map (l : List Nat) : cntPos l = sumL (l.map (fun k => if 0 < k then 1 else 0)) := by
  induction l with
  | nil => rfl
  | cons x r ih => rw [cntPos, ih, List.map_cons, sumL]
theorem mem_posL {l : List Nat} {p : Nat} : p ∈ posL l ↔ 0 < l.getD p 0 := by
  unfold posL
  rw [List.mem_filter, List.mem_range]
  constructor
  · intro h; simpa using h.2
  · intro h
    refine ⟨?_, by simpa using h⟩
    rcases Nat.lt_or_ge p l.length with h' | h'
    · exact h'
    · rw [getD_out h'] at h; omega
theorem sum_pos {cs out : List Nat} (h : TreeOk cs out) (g : Nat → Nat) (h0 : g 0 = 0) : sumL (out.map g) = sumL ((posL cs).map (fun p => g (out.getD p 0))) := by
  conv => lhs; rw [list_range out]
  rw [List.map_map, h.len]
  unfold posL
  refine sumL_filter (fun p => decide (0 < cs.getD p 0)) _ _ (fun p hp hp0 => ?_)
  have h1 := h.rest p (by simp at hp0; exact hp0)
  show g (out.getD p 0) = 0
  rw [h1, h0]
theorem kraft_tree {cs out : List Nat} (h : TreeOk cs out) (hP : PosOk cs out) (hmax : ∀ p, out.getD p 0 ≤ 11) : kraft out = 2048 ∨ (cntPos out = 1 ∧ ∃ p, posL cs = [p] ∧ out.getD p 0 = 1) := by
  have hpos := hP
  obtain ⟨H, -, hle, hk | ⟨p, hp1, -, hp2⟩⟩ := h.top
  · left
    rw [kraft_map, sum_pos h _ (by simp)]
    have e1 : (posL cs).map (fun p => if 0 < out.getD p 0 then 2 ^ (11 - out.getD p 0) else 0) = (posL cs).map (fun p => 2 ^ (11 - out.getD p 0)) :=
      List.map_congr_left (fun p hp => by rw [if_pos (hpos p hp)])
    rw [e1]
    rcases Nat.le_total H 11 with hH | hH
    · have e2 : (posL cs).map (fun p => 2 ^ (11 - out.getD p 0)) = (posL cs).map (fun p => 2 ^ (H - out.getD p 0) * 2 ^ (11 - H)) :=
        List.map_congr_left (fun p _ => by rw [← Nat.pow_add]; congr 1; have := hle p; omega)
      rw [e2, sumL_mul, hk, ← Nat.pow_add, show H + (11 - H) = 11 by omega]
    · have e2 : (posL cs).map (fun p => 2 ^ (H - out.getD p 0)) = (posL cs).map (fun p => 2 ^ (11 - out.getD p 0) * 2 ^ (H - 11)) :=
        List.map_congr_left (fun p _ => by rw [← Nat.pow_add]; congr 1; have := hmax p; omega)
      rw [e2, sumL_mul, show 2 ^ H = 2 ^ 11 * 2 ^ (H - 11) by rw [← Nat.pow_add]; congr 1; omega] at hk
      exact Nat.eq_of_mul_eq_mul_right (Nat.two_pow_pos _) hk
  · right
    refine ⟨?_, p, hp1, hp2⟩
    rw [cntPos_map, sum_pos h _ (by simp), hp1]
    simp only [List.map_cons, List.map_nil, sumL]
    rw [hp2]
    rfl
theorem lens_may {cs out : List Nat} (h : TreeOk cs out) (hP : PosOk cs out) (hmax : ∀ x ∈ out, x ≤ 11) (hlast : 0 < cs.getD (cs.length - 1) 0) (h0 : 0 < cs.length) (h256 : cs.length ≤ 256) : mayL out = true := by
  have hm : ∀ p, out.getD p 0 ≤ 11 := fun p => by
    rcases Nat.lt_or_ge p out.length with h' | h'
    · rw [List.getD, List.getElem?_eq_getElem h', Option.getD_some]; exact hmax _ (List.getElem_mem h')
    · rw [getD_out h']; omega
  have hl := hP (cs.length - 1) (mem_posL.2 hlast)
  have hall : out.all (fun k => decide (k ≤ 11)) = true := by
    rw [List.all_eq_true]
    intro x hx
    simpa using hmax x hx
  unfold mayL
  rw [h.len, hall, decide_eq_true h0, decide_eq_true h256]
  have h1 : (out.getD (cs.length - 1) 0 != 0) = true := bne_iff_ne.2 (by omega)
  rw [h1]
  rcases kraft_tree h hP hm with hk | ⟨hc, p, hp1, hp2⟩
  · rw [hk]; rfl
  · have : cs.length - 1 ∈ posL cs := mem_posL.2 hlast
    rw [hp1] at this
    rw [List.mem_singleton.1 this, hc, hp2]
    simp
theorem lens_ok {cs out : List Nat} (h : TreeOk cs out) (hP : PosOk cs out) (hmax : ∀ x ∈ out, x ≤ 11) (hlast : 0 < cs.getD (cs.length - 1) 0) (h0 : 0 < cs.length) (h256 : cs.length ≤ 256) : LensOk cs out :=
  ⟨Nat.le_of_eq h.len, lens_may h hP hmax hlast h0 h256, fun p hp => ⟨by rw [h.len]; exact posL_lt cs p (mem_posL.2 hp), hP p (mem_posL.2 hp)⟩⟩
def hv (c : Nat) : Nat := if 0 < c then c / 2 + 1 else 0
theorem hv_le (c : Nat) : hv c ≤ c := by unfold hv; split <;> omega
theorem hv_lt {c : Nat} (h : 2 < c) : hv c < c := by unfold hv; rw [if_pos (by omega)]; omega
theorem hv_pos (c : Nat) : 0 < hv c ↔ 0 < c := by
  unfold hv
  constructor
  · intro h; split at h <;> omega
  · intro h; rw [if_pos h]; omega
theorem hvs_getD (l : List Nat) (p : Nat) : (l.map hv).getD p 0 = hv (l.getD p 0) := by
  rw [List.getD, List.getD, List.getElem?_map]
  cases l[p]? <;> rfl
theorem sum_hv_le : ∀ l : List Nat, sumL (l.map hv) ≤ sumL l
  | [] => Nat.le_refl _
  | x :: r => by have := sum_hv_le r; have := hv_le x; rw [List.map_cons, sumL, sumL]; omega
theorem sum_hv_lt : ∀ l : List Nat, (∃ x ∈ l, 2 < x) → sumL (l.map hv) < sumL l
  | [], ⟨_, h, _⟩ => by cases h
  | y :: r, ⟨x, h, hx⟩ => by
    rw [List.map_cons, sumL, sumL]
    rcases List.mem_cons.1 h with rfl | h
    · have := sum_hv_le r; have := hv_lt hx; omega
    · have := sum_hv_lt r ⟨x, h, hx⟩; have := hv_le y; omega
structure SameP (counts cs : List Nat) : Prop where
  len : cs.length ≤ counts.length
  pos : ∀ p, 0 < cs.getD p 0 ↔ 0 < counts.getD p 0
  last : 0 < cs.getD (cs.length - 1) 0
  some_ : 0 < cs.length
  le : ∀ x ∈ cs, x ≤ 4294967295
theorem SameP.half {counts cs : List Nat} (h : SameP counts cs) : SameP counts (cs.map hv) := by
  refine ⟨by rw [List.length_map]; exact h.len, fun p => ?_, ?_, by rw [List.length_map]; exact h.some_, fun x hx => ?_⟩
  · rw [hvs_getD, hv_pos]; exact h.pos p
  · rw [List.length_map, hvs_getD, hv_pos]; exact h.last
  · obtain ⟨y, hy, rfl⟩ := List.mem_map.1 hx
    exact Nat.le_trans (hv_le y) (h.le y hy)
theorem SameP.lens {counts cs out : List Nat} (h : SameP counts cs) (h256 : counts.length ≤ 256) (ht : TreeOk cs out) (hP : PosOk cs out) (hmax : ∀ x ∈ out, x ≤ 11) : LensOk counts out := by
  have hl := h.len
  have := lens_ok ht hP hmax h.last h.some_ (by omega)
  exact ⟨Nat.le_trans this.len hl, this.may, fun p hp => this.pos p ((h.pos p).2 hp)⟩
theorem nz_of : ∀ (l : List Nat) (p : Nat), 0 < l.getD p 0 → 0 < nz l
  | [], p, h => by simp [List.getD] at h
  | x :: r, 0, h => by
    have h' : 0 < x := h
    rw [nz, if_pos h']; omega
  | x :: r, p + 1, h => by
    have := nz_of r p h
    rw [nz]; omega
theorem SameP.nz {counts cs : List Nat} (h : SameP counts cs) : 0 < nz cs := nz_of cs _ h.last
theorem big_some {cs out : List Nat} (hL : LowOk cs out) (h256 : cs.length ≤ 256) (hb : ∃ x ∈ out, 11 < x) : ∃ x ∈ cs, 2 < x := by
  obtain ⟨x, hx, hx1⟩ := hb
  obtain ⟨i, hi, rfl⟩ := List.getElem_of_mem hx
  apply Classical.byContradiction
  intro hn
  have := hL (fun y hy => by
    rcases Nat.lt_or_ge 2 y with h | h
    · exact (hn ⟨y, hy, h⟩).elim
    · exact h) h256 i
  rw [List.getD, List.getElem?_eq_getElem hi, Option.getD_some] at this
  omega
structure TrimOk (counts : List Nat) (m : Nat) : Prop where
  le : m ≤ counts.length
  zero : ∀ p, m ≤ p → counts.getD p 0 = 0
theorem TrimOk.step {counts : List Nat} {m : Nat} (h : TrimOk counts (m + 1)) (hz : counts[m]? = some 0) : TrimOk counts m :=
  ⟨by have := h.le; omega, fun p hp => by
    rcases Nat.eq_or_lt_of_le hp with rfl | hp
    · simp [List.getD, hz]
    · exact h.zero p hp⟩
theorem TrimOk.same {counts : List Nat} {m x : Nat} (h : TrimOk counts (m + 1)) (hx : counts[m]? = some x) (h0 : 0 < x) (hb : ∀ y ∈ counts, y ≤ 4294967295) : SameP counts (counts.take (m + 1)) := by
  have hl := h.le
  have hlen : (counts.take (m + 1)).length = m + 1 := by rw [List.length_take]; omega
  have hg : ∀ p, p < m + 1 → (counts.take (m + 1)).getD p 0 = counts.getD p 0 := fun p hp => by
    rw [List.getD, List.getD, List.getElem?_take, if_pos hp]
  refine ⟨by omega, fun p => ?_, ?_, by omega, fun y hy => hb y (List.mem_of_mem_take hy)⟩
  · rcases Nat.lt_or_ge p (m + 1) with hp | hp
    · rw [hg p hp]
    · rw [h.zero p hp, getD_out (by omega)]
  · rw [hlen, Nat.add_sub_cancel, hg m (by omega)]
    simp [List.getD, hx, h0]
end Go.Proofs.YtaelgbbnmjbjiaaGreat
namespace Go.Proofs.YtaelgbbnmjbjiaaGreat
open Go.RowKit
set_option maxHeartbeats 2000000 in
set_option maxRecDepth 10000 in
theorem huffBad (x : Nat) (w : World) (hx : x ≤ 4294967295) :
    Calls Tryz.prog 104 #[.int .i64 (x : Int)] w fun e w' => e = .returned (.bool false) ∧ w' = w := by
  have g1 : decide ((x : Int) < 0) = false := decide_eq_false (by omega)
  have g2 : decide ((4294967295 : Int) < (x : Int)) = false := decide_eq_false (by omega)
  go_enter Tryz.func104, Tryz.ntmps104
  go_wp2
  go_ret
  refine ⟨?_, rfl⟩
  exact ret_bool (by simp)
set_option maxHeartbeats 2000000 in
set_option maxRecDepth 10000 in
theorem huffIndexFunc (A2 : Option Addr) (n2 c2 : Nat) (l : List Nat) (w : World) (hl2 : l.length = n2) (hr2 : Ns w A2 l) (hn2 : n2 ≤ 1000000000) (hx : ∀ x ∈ l, x ≤ 4294967295) :
    Calls Tryz.prog 101 #[.slice A2 n2 c2, .func (.func 104) #[] #[]] w fun e w' => e = .returned (.int .i64 (-1)) ∧ w' = w := by
  have HS := Lib.hid (fun x (h : x ∈ l) => huffBad x w (hx x h))
  have HR2 := Lib.hid hr2
  have HL2 := Lib.hid hl2
  clear hl2 hr2 hx
  go_enter Tryz.func101, Tryz.ntmps101
  go_wp2_with fail
  go_loopg [8] n2 (fun gg s8 wr => ∃ k : Nat, k ≤ n2 ∧ n2 - k ≤ gg ∧ s8 = .int .i64 (k : Int) ∧ w = wr)
  case atStart => exact ⟨0, by omega, by omega, rfl, rfl⟩
  case round =>
    obtain ⟨k, hk, hgg, rfl, rfl⟩ := hrel
    by_cases hkn : k < n2
    · obtain ⟨b, o, x, hA, hx, hc⟩ := HR2.out.at_ (by rw [HL2.out]; exact hkn : k < l.length)
      subst hA
      have HX := Lib.hid (HS.out x (List.mem_of_getElem? hx))
      clear hx
      go_wp2_with fail
      refine HX.out.mono ?_
      rintro e w1 ⟨rfl, rfl⟩
      go_wp2
      go_roundg (n2 - (k + 1))
      case measure => omega
      case rel => exact ⟨k + 1, by omega, by omega, by go_num, rfl⟩
    · go_wp2
      go_ret
      exact ⟨rfl, rfl⟩
set_option maxHeartbeats 2000000 in
set_option maxRecDepth 10000 in
theorem huffContains (A2 : Option Addr) (n2 c2 : Nat) (l : List Nat) (w : World) (hl2 : l.length = n2) (hr2 : Ns w A2 l) (hn2 : n2 ≤ 1000000000) (hx : ∀ x ∈ l, x ≤ 4294967295) :
    Calls Tryz.prog 71 #[.slice A2 n2 c2, .func (.func 104) #[] #[]] w fun e w' => e = .returned (.bool false) ∧ w' = w := by
  have HI := Lib.hid (huffIndexFunc A2 n2 c2 l w hl2 hr2 hn2 hx)
  clear hl2 hr2 hx
  go_enter Tryz.func71, Tryz.ntmps71
  go_wp2_with fail
  refine HI.out.mono ?_
  rintro e w1 ⟨rfl, rfl⟩
  go_wp2
  go_ret
  exact ⟨rfl, rfl⟩
theorem cloneN (A : Option Addr) (n c : Nat) (l : List Nat) (w : World) (hl : l.length = n) (hr : Ns w A l) (hn0 : 0 < n) (hn : n ≤ 1000000) :
    Calls Tryz.prog 102 #[.slice A n c] w fun e w' => ∃ g cs, e = .returned (.slice (some ⟨g, 0, none⟩) n cs) ∧ OwnN w' w.heap.size (some ⟨g, 0, none⟩) n cs l ∧ Below w.heap.size w w' := by
  obtain ⟨b, o, hA, hc⟩ := hr (by rw [List.length_map]; omega)
  subst hA
  have hlen2 : (l.map (fun x : Nat => (x : Int))).length = n := by rw [List.length_map]; exact hl
  have htk : (l.map (fun x : Nat => (x : Int))).take n = l.map (fun x : Nat => (x : Int)) := List.take_of_length_le (by omega)
  have h := Tryz.slices_Clone_int b o n c (l.map (fun x : Nat => (x : Int))) w (by omega) (by omega) (fun j hj => by
    rw [List.length_map] at hj
    rw [hc j (by rw [List.length_map]; exact hj)]
    simp [natv, List.getD, hj])
  rw [htk] at h
  refine h.mono ?_
  rintro e w' ⟨v', rfl, hown, hnn, hb⟩
  rcases hown.2 with ⟨hv, h0⟩ | ⟨g, cap, cur, hv, -⟩
  · exact (hnn hv).elim
  · subst hv
    refine ⟨g, cap, rfl, ?_, hb⟩
    unfold OwnN Own
    rw [List.map_map] at hown
    exact hown
theorem maxN (g n c base : Nat) (l : List Nat) (w : World) (ho : OwnN w base (some ⟨g, 0, none⟩) n c l) (hn0 : 0 < n) (hn : n ≤ 1000000) :
    ∃ M, (∀ x ∈ l, x ≤ M) ∧ M ∈ l ∧ Calls Tryz.prog 69 #[.slice (some ⟨g, 0, none⟩) n c] w fun e w' => e = .returned (.int .i64 (M : Int)) ∧ w' = w := by
  have hl := OwnN.length ho
  obtain ⟨M, hM1, hM2, hM3⟩ := maxOf_nat (l := l) (by intro e; rw [e] at hl; simp at hl; omega)
  have hlen2 : (l.map (fun x : Nat => (x : Int))).length = n := by rw [List.length_map]; exact hl
  have htk : (l.map (fun x : Nat => (x : Int))).take n = l.map (fun x : Nat => (x : Int)) := List.take_of_length_le (by omega)
  refine ⟨M, hM2, hM3, ?_⟩
  have h := Tryz.slices_Max_int g 0 n c _ w hn0 (by omega) (by omega) (OwnN.cells ho)
  rw [htk, hM1] at h
  exact h
end Go.Proofs.YtaelgbbnmjbjiaaGreat
namespace Go.Proofs.YtaelgbbnmjbjiaaGreat
open Go.RowKit
def hvUp (cs : List Nat) (i : Nat) : List Nat := (cs.map hv).take i ++ cs.drop i
theorem hvUp_zero (cs : List Nat) : hvUp cs 0 = cs := by simp [hvUp]
theorem hvUp_all {cs : List Nat} {i : Nat} (h : i = cs.length) : hvUp cs i = cs.map hv := by
  subst h
  unfold hvUp
  rw [List.drop_length, List.append_nil, List.take_of_length_le (by simp)]
theorem hvUp_at {cs : List Nat} {i : Nat} (h : i < cs.length) : (hvUp cs i)[i]? = cs[i]? := by
  unfold hvUp
  rw [List.getElem?_append_right (by simp; omega), List.length_take, List.length_map, Nat.min_eq_left (by omega), Nat.sub_self, List.getElem?_drop, Nat.add_zero]
theorem hvUp_step {cs : List Nat} {i x : Nat} (h : cs[i]? = some x) : (hvUp cs i).set i (hv x) = hvUp cs (i + 1) := by
  have hi : i < cs.length := (List.getElem?_eq_some_iff.1 h).1
  have hx : cs[i] = x := (List.getElem?_eq_some_iff.1 h).2
  have e1 : (cs.map hv).take (i + 1) = (cs.map hv).take i ++ [hv x] := by
    rw [List.take_add_one, List.getElem?_map, h]; rfl
  have e2 : cs.drop i = x :: cs.drop (i + 1) := by rw [← hx]; exact List.drop_eq_getElem_cons hi
  unfold hvUp
  rw [e1, e2, List.set_append_right _ _ (by simp; omega), List.length_take, List.length_map, Nat.min_eq_left (by omega), Nat.sub_self, List.set_cons_zero, List.append_assoc]
  rfl
theorem hvUp_skip {cs : List Nat} {i : Nat} (h : cs[i]? = some 0) : hvUp cs (i + 1) = hvUp cs i := by
  rw [← hvUp_step h]
  have hi : i < cs.length := (List.getElem?_eq_some_iff.1 h).1
  have h1 := hvUp_at hi
  rw [h] at h1
  obtain ⟨h2, h3⟩ := List.getElem?_eq_some_iff.1 h1
  have : hv 0 = (hvUp cs i)[i] := by rw [h3]; rfl
  rw [this]
  exact List.set_getElem_self h2
set_option maxHeartbeats 4000000 in
set_option maxRecDepth 10000 in
theorem huffLens (A : Option Addr) (n c : Nat) (counts : List Nat) (w : World) (hl : counts.length = n) (hr : Ns w A counts) (hn0 : 0 < n) (hn : n ≤ 256) (hb : ∀ x ∈ counts, x ≤ 4294967295) (hp : ∃ p, 0 < counts.getD p 0) :
    Calls Tryz.prog 76 #[.slice A n c] w fun e w' => ∃ S m cs out, e = .returned (.tuple #[.slice S m cs, .int .i64 0]) ∧ OwnN w' w.heap.size S m cs out ∧ LensOk counts out ∧ Below w.heap.size w w' := by
  have HL := Lib.hid hl
  have HBd := Lib.hid hb
  have HP := Lib.hid hp
  have HCl := Lib.hid (cloneN A n c counts w hl hr hn0 (by omega))
  clear hl hr hb hp
  go_enter Tryz.func76, Tryz.ntmps76
  go_wp2_with fail
  refine HCl.out.mono ?_
  rintro e w1 ⟨g, c1, rfl, ho, hbel⟩
  have HO := Lib.hid ho
  have HB := Lib.hid hbel
  have HCon := Lib.hid (huffContains (some ⟨g, 0, none⟩) n c1 counts w1 HL.out (OwnN.ns ho) (by omega) HBd.out)
  obtain ⟨M, hM1, hM2, hM3⟩ := maxN g n c1 w.heap.size counts w1 ho hn0 (by omega)
  have hM0 : 0 < M := by
    obtain ⟨p, hp⟩ := HP.out
    rcases Nat.lt_or_ge p counts.length with h' | h'
    · rw [List.getD, List.getElem?_eq_getElem h', Option.getD_some] at hp
      have := hM1 _ (List.getElem_mem h'); omega
    · rw [getD_out h'] at hp; omega
  have HMax := Lib.hid hM3
  clear ho hbel hM1 hM2 hM3 HCl
  have g1 : decide ((256 : Int) < (n : Int)) = false := decide_eq_false (by omega)
  have g2 : ((n : Int) == 0) = false := beq_eq_false_iff_ne.2 (by omega)
  have g3 : ((M : Int) == 0) = false := beq_eq_false_iff_ne.2 (by omega)
  go_wp2_with fail
  refine HCon.out.mono ?_
  rintro e w2 ⟨rfl, rfl⟩
  go_wp2_with fail
  refine HMax.out.mono ?_
  rintro e w3 ⟨rfl, rfl⟩
  clear HCon HMax
  have hcap : n ≤ c1 := (Own.cap HO.out).1
  have HT0 := Lib.hid (⟨by rw [HL.out]; exact Nat.le_refl _, fun p hp => getD_out (by rw [HL.out]; exact hp)⟩ : TrimOk counts n)
  go_wp2_with fail
  go_loopg [4] n (fun gg s4 wr => ∃ (m : Nat), 0 < m ∧ m ≤ n ∧ m ≤ gg ∧ s4 = .slice (some ⟨g, 0, none⟩) m c1 ∧ TrimOk counts m ∧ w3 = wr)
  case atStart => exact ⟨n, hn0, Nat.le_refl _, Nat.le_refl _, rfl, HT0.out, rfl⟩
  case round =>
    obtain ⟨m0, hm0, hmn, hmg, rfl, htr, rfl⟩ := hrel
    obtain ⟨m, rfl⟩ : ∃ m, m0 = m + 1 := ⟨m0 - 1, by omega⟩
    have HTr := Lib.hid htr
    obtain ⟨g', x', hg', -, -, hx', hc, -⟩ := Own.at_ HO.out (k := m) (by omega)
    cases hg'
    obtain ⟨x, hx⟩ : ∃ x, counts[m]? = some x := ⟨_, List.getElem?_eq_getElem (by rw [HL.out]; omega)⟩
    have hxv : x' = .int .i64 (x : Int) := by
      rw [List.getElem?_map, hx] at hx'
      exact (Option.some.inj hx').symm
    subst hxv
    have HX := Lib.hid hx
    clear htr hx hx'
    have i1 : (0 : Int) ≤ ((m + 1 : Nat) : Int) - 1 := by omega
    by_cases hx0 : x = 0
    · have g4 : ((x : Int) == 0) = true := by rw [hx0]; rfl
      subst hx0
      have htr2 := HTr.out.step HX.out
      have hmp : 0 < m := by
        rcases Nat.eq_zero_or_pos m with h | h
        · exfalso
          obtain ⟨p, hp⟩ := HP.out
          rw [htr2.zero p (by omega)] at hp
          omega
        · exact h
      have HTr2 := Lib.hid htr2
      clear htr2
      go_wp2
      go_roundg m
      case measure => omega
      case rel => exact ⟨m, hmp, by omega, Nat.le_refl _, rfl, HTr2.out, rfl⟩
    · have g4 : ((x : Int) == 0) = false := beq_eq_false_iff_ne.2 (by omega)
      have HS0 := Lib.hid (HTr.out.same HX.out (by omega) HBd.out)
      have HO1 := Lib.hid (show OwnN w3 w.heap.size (some ⟨g, 0, none⟩) (m + 1) c1 (counts.take (m + 1)) from by
        have h := Own.take HO.out hmn
        unfold OwnN
        rw [List.map_take]
        exact h)
      obtain ⟨cs0, hcs0⟩ : ∃ cs0, cs0 = counts.take (m + 1) := ⟨_, rfl⟩
      rw [← hcs0] at HS0 HO1
      obtain ⟨N, hN⟩ : ∃ N, N = m + 1 := ⟨_, rfl⟩
      rw [← hN] at HO1 hmn
      clear hcs0 HX HTr hmg hm0
      go_wp2_with fail
      rw [show m + 1 = N from hN.symm]
      clear hN hc i1 g4 hx0 HO
      go_loopg [5] (sumL cs0) (fun gg s5 wr => ∃ (cs : List Nat), sumL cs ≤ gg ∧ SameP counts cs ∧ OwnN wr w.heap.size (some ⟨g, 0, none⟩) N c1 cs ∧ Below w.heap.size w wr)
      case atStart => exact ⟨cs0, Nat.le_refl _, HS0.out, HO1.out, HB.out⟩
      case round =>
        obtain ⟨cs, hsg, hS, hO, hB⟩ := hrel
        have hNl := OwnN.length hO
        have HS := Lib.hid hS
        have HO := Lib.hid hO
        have HB' := Lib.hid hB
        have hN0 : 0 < N := by have := hS.some_; omega
        have HTree := Lib.hid (huffTree (some ⟨g, 0, none⟩) N c1 cs wr hNl (OwnN.ns hO) hN0 (by omega) hS.le hS.nz)
        clear hS hO hB HS0 HO1
        go_wp2_with fail
        refine HTree.out.mono ?_
        rintro e w5 ⟨S, ct, out, rfl, hO5, hT5, hL5, hP5, hB5⟩
        obtain ⟨gs, x5, hS5, -, -, -, -, -⟩ := Own.at_ hO5 (k := 0) hN0
        subst hS5
        obtain ⟨M5, hM1, hM2, hM3⟩ := maxN gs N ct wr.heap.size out w5 hO5 hN0 (by omega)
        have HMax5 := Lib.hid hM3
        have HO5 := Lib.hid (show OwnN w5 w.heap.size (some ⟨gs, 0, none⟩) N ct out from Own.mono hO5 HB'.out.size)
        have HCs := Lib.hid (show OwnN w5 w.heap.size (some ⟨g, 0, none⟩) N c1 cs from Own.later HO.out hB5)
        have HB5 := Lib.hid (HB'.out.trans (hB5.mono HB'.out.size))
        have HT5 := Lib.hid hT5
        have HP5 := Lib.hid hP5
        have HBig := Lib.hid (fun h : ∃ x ∈ out, 11 < x => big_some hL5 (by omega) h)
        clear hO5 hT5 hL5 hP5 hB5 hM3 HTree HO HB'
        go_wp2_with fail
        refine HMax5.out.mono ?_
        rintro e w6 ⟨rfl, rfl⟩
        clear HMax5
        by_cases hM11 : M5 ≤ 11
        · have g5 : decide ((M5 : Int) ≤ 11) = true := decide_eq_true (by omega)
          have HLens := Lib.hid (HS.out.lens (by rw [HL.out]; exact hn) HT5.out HP5.out (fun x hx => Nat.le_trans (hM1 x hx) hM11))
          clear hM1 hM2
          go_wp2
          go_ret2
          exact ⟨some ⟨gs, 0, none⟩, N, ct, out, rfl, HO5.out, HLens.out, HB5.out⟩
        · have g5 : decide ((M5 : Int) ≤ 11) = false := decide_eq_false (by omega)
          have hless := sum_hv_lt cs (HBig.out ⟨M5, hM2, by omega⟩)
          clear hM1 hM2
          go_wp2_with fail
          go_loopg [47] N (fun gg s47 wz => ∃ i : Nat, i ≤ N ∧ N - i ≤ gg ∧ s47 = .int .i64 (i : Int) ∧ OwnN wz w.heap.size (some ⟨g, 0, none⟩) N c1 (hvUp cs i) ∧ Below w.heap.size w wz)
          case atStart => exact ⟨0, by omega, by omega, rfl, by rw [hvUp_zero]; exact HCs.out, HB5.out⟩
          case round =>
            obtain ⟨i, hi, hig, rfl, hOi, hBi⟩ := hrel
            have HOi := Lib.hid hOi
            have HBi := Lib.hid hBi
            clear hOi hBi HCs HB5
            by_cases hiN : i < N
            · obtain ⟨gz, xz, hgz, hg1, -, hxz, hcz, hfz⟩ := Own.at_ HOi.out hiN
              cases hgz
              obtain ⟨y, hy⟩ : ∃ y, cs[i]? = some y := ⟨_, List.getElem?_eq_getElem (by omega)⟩
              have hxv : xz = .int .i64 (y : Int) := by
                rw [List.getElem?_map, hvUp_at (by omega), hy] at hxz
                exact (Option.some.inj hxz).symm
              subst hxv
              have hyb := HS.out.le y (List.mem_of_getElem? hy)
              have HY := Lib.hid hy
              clear hy hxz
              have i1 : (0 : Int) ≤ (i : Int) := by omega
              have i2 : (i : Int) < (N : Int) := by omega
              by_cases hy0 : 0 < y
              · have g6 : decide ((0 : Int) < (y : Int)) = true := decide_eq_true (by omega)
                have HO2 := Lib.hid (show OwnN (wr.setCell ⟨g, i, none⟩ (.int .i64 ((y : Int) / 2 + 1))) w.heap.size (some ⟨g, 0, none⟩) N c1 (hvUp cs (i + 1)) from by
                  have h := (Own.stored HOi.out i (natv (hv y))).1
                  rw [← List.map_set, hvUp_step HY.out] at h
                  have e : natv (hv y) = .int .i64 ((y : Int) / 2 + 1) := by
                    unfold hv natv
                    rw [if_pos hy0]
                    simp
                  rw [e] at h
                  exact h)
                have HB2 := Lib.hid (HBi.out.setCell (p := ⟨g, i, none⟩) hg1 (.int .i64 ((y : Int) / 2 + 1)))
                go_wp2
                go_roundg (N - (i + 1))
                case measure => omega
                case rel => exact ⟨i + 1, by omega, by omega, by go_num, HO2.out, HB2.out⟩
              · obtain rfl : y = 0 := by omega
                have g6 : decide ((0 : Int) < ((0 : Nat) : Int)) = false := decide_eq_false (by omega)
                have HO2 := Lib.hid (show OwnN wr w.heap.size (some ⟨g, 0, none⟩) N c1 (hvUp cs (i + 1)) from by
                  rw [hvUp_skip HY.out]; exact HOi.out)
                go_wp2
                go_roundg (N - (i + 1))
                case measure => omega
                case rel => exact ⟨i + 1, by omega, by omega, by go_num, HO2.out, HBi.out⟩
            · obtain rfl : i = N := by omega
              have HO2 := Lib.hid (show OwnN wr w.heap.size (some ⟨g, 0, none⟩) i c1 (cs.map hv) from by
                rw [← hvUp_all hNl.symm]; exact HOi.out)
              go_wp2
              go_roundg (sumL (cs.map hv))
              case measure => omega
              case rel => exact ⟨cs.map hv, Nat.le_refl _, HS.out.half, HO2.out, HBi.out⟩
end Go.Proofs.YtaelgbbnmjbjiaaGreat
namespace Go.Proofs.YtaelgbbnmjbjiaaGreat
open Go.RowKit
structure WrS (w : World) (B g : Nat) (S : WSt) : Prop where
  wr : ∃ A c, IsWr w B g S.1 S.2.1 S.2.2 A c
  ok : wOk S
theorem WrS.later {w w' : World} {B g : Nat} {S : WSt} (h : WrS w B g S) (hb : Below w.heap.size w w') : WrS w' B g S := by
  obtain ⟨A, c, hw⟩ := h.wr
  exact ⟨⟨A, c, hw.later hb⟩, h.ok⟩
theorem wLen_bytes {S : WSt} {m : Nat} (h : wLen S ≤ 8 * m) : S.1.length ≤ m := by unfold wLen at h; omega
theorem WrS.put {w : World} {B g : Nat} {S : WSt} (h : WrS w B g S) (k v : Nat) (hk : k ≤ 32) (hv : v < 2 ^ k) (hlen : wLen S ≤ 800000000000) :
    Calls Tryz.prog 32 #[.pointer (some ⟨g, 0, none⟩), .int .i64 (k : Int), .int .i64 (v : Int)] w fun e w' => e = .returned (.int .i64 0) ∧ WrS w' B g (putS S k v) ∧ Below B w w' := by
  obtain ⟨A, c, hw⟩ := h.wr
  refine (wrPut B g S.1 S.2.1 S.2.2 A c k v w hw h.ok.1 h.ok.2 hk hv (wLen_bytes (m := 1000000000000) (by omega))).mono ?_
  rintro e w' ⟨rfl, hb, -, A', c', hw', -⟩
  exact ⟨rfl, ⟨⟨A', c', hw'⟩, (putS_facts h.ok hk hv).1⟩, hb⟩
def bytesS (S : WSt) : List UInt8 := bytesW S.1 S.2.1 S.2.2
theorem WrS.bytes {w : World} {B g : Nat} {S : WSt} (h : WrS w B g S) (hlen : wLen S ≤ 800000000000) :
    Calls Tryz.prog 33 #[.pointer (some ⟨g, 0, none⟩)] w fun e w' => ∃ A' m c', e = .returned (.slice A' m c') ∧ OwnB w' w.heap.size A' m c' (bytesS S) ∧ Below w.heap.size w w' := by
  obtain ⟨A, c, hw⟩ := h.wr
  exact wrBytes B g S.1 S.2.1 S.2.2 A c w hw h.ok.1 h.ok.2 (wLen_bytes (m := 1000000000000) (by omega))
theorem bytesS_len (S : WSt) : (bytesS S).length ≤ wLen S / 8 + 1 := by
  unfold bytesS bytesW wLen
  split
  · rw [List.length_append, List.length_singleton]; omega
  · omega
theorem wrNew (w : World) : Calls Tryz.prog 31 #[] w fun e w' => e = .returned (.pointer (some ⟨w.heap.size, 0, none⟩)) ∧ WrS w' w.heap.size w.heap.size ([], 0, 0) ∧ Below w.heap.size w w' := by
  refine (newWriter w).mono ?_
  rintro e w' ⟨rfl, hw, hb⟩
  exact ⟨rfl, ⟨⟨none, 0, hw⟩, ⟨by show 0 < 8; omega, by show 0 < 2 ^ 0; decide⟩⟩, hb⟩
def putsS (S : WSt) (l : List (Nat × Nat)) : WSt := l.foldl (fun S p => putS S p.1 p.2) S
theorem putsS_cons (S : WSt) (p : Nat × Nat) (l : List (Nat × Nat)) : putsS S (p :: l) = putsS (putS S p.1 p.2) l := rfl
theorem putsS_append (S : WSt) (l l' : List (Nat × Nat)) : putsS S (l ++ l') = putsS (putsS S l) l' := List.foldl_append
def putsOk (l : List (Nat × Nat)) : Prop := ∀ p ∈ l, p.1 ≤ 32 ∧ p.2 < 2 ^ p.1
def putsLen (l : List (Nat × Nat)) : Nat := sumL (l.map (·.1))
theorem putsS_facts : ∀ (l : List (Nat × Nat)) (S : WSt), wOk S → putsOk l → wOk (putsS S l) ∧ wLen (putsS S l) = wLen S + putsLen l
  | [], S, h, _ => ⟨h, rfl⟩
  | p :: l, S, h, hl => by
    obtain ⟨h1, h2⟩ := putS_facts h (hl p (List.mem_cons_self)).1 (hl p (List.mem_cons_self)).2
    obtain ⟨h3, h4⟩ := putsS_facts l (putS S p.1 p.2) h1 (fun q hq => hl q (List.mem_cons_of_mem _ hq))
    rw [putsS_cons]
    refine ⟨h3, ?_⟩
    rw [h4, h2]
    unfold putsLen
    rw [List.map_cons, sumL]; omega
def zr (l : List Nat) : Nat → Nat → Nat
  | 0, _ => 0
  | f + 1, i => if l.getD (i + 1) 0 = 0 then zr l f (i + 1) + 1 else 0
theorem zr_le (l : List Nat) : ∀ f i, zr l f i ≤ f
  | 0, _ => Nat.le_refl _
  | f + 1, i => by have := zr_le l f (i + 1); rw [zr]; split <;> omega
def tabP (l : List Nat) : Nat → Nat → List (Nat × Nat)
  | 0, _ => []
  | f + 1, i => if i < l.length then if l.getD i 0 = 0 then (4, 0) :: (4, zr l 15 i) :: tabP l f (i + zr l 15 i + 1) else (4, l.getD i 0) :: tabP l f (i + 1) else []
def tableB (l : List Nat) : List UInt8 := bytesS (putsS ([], 0, 0) ((8, l.length - 1) :: tabP l l.length 0))
theorem tabP_end (l : List Nat) (f i : Nat) (h : l.length ≤ i) : tabP l f i = [] := by
  cases f with
  | zero => rfl
  | succ f => rw [tabP, if_neg (by omega)]
theorem mayL_last {l : List Nat} (h : mayL l = true) : 0 < l.getD (l.length - 1) 0 := by
  unfold mayL at h
  simp only [Bool.and_eq_true] at h
  have := h.1.1.2
  have := bne_iff_ne.1 this
  omega
end Go.Proofs.YtaelgbbnmjbjiaaGreat
namespace Go.Proofs.YtaelgbbnmjbjiaaGreat
open Go.RowKit
abbrev w0 : WSt := ([], 0, 0)
def bitsP (c : Nat) : Nat → List (Nat × Nat)
  | 0 => []
  | k + 1 => (1, c / 2 ^ k % 2) :: bitsP c k
theorem bitsP_ok (c : Nat) : ∀ k, putsOk (bitsP c k)
  | 0 => fun p h => by cases h
  | k + 1 => fun p h => by
    rcases List.mem_cons.1 h with h | h
    · subst h
      exact ⟨by show 1 ≤ 32; omega, Nat.mod_lt _ (by omega)⟩
    · exact bitsP_ok c k p h
theorem bitsP_len (c : Nat) : ∀ k, putsLen (bitsP c k) = k
  | 0 => rfl
  | k + 1 => by
    have := bitsP_len c k
    unfold putsLen at this ⊢
    rw [bitsP, List.map_cons, sumL, this]; omega
def byteP (lens : List Nat) (b : UInt8) : List (Nat × Nat) := bitsP ((codesL lens).getD b.toNat 0) (lens.getD b.toNat 0)
def encP (lens : List Nat) : List UInt8 → List (Nat × Nat)
  | [] => []
  | b :: l => byteP lens b ++ encP lens l
theorem encP_snoc (lens : List Nat) : ∀ (l : List UInt8) (b : UInt8), encP lens (l ++ [b]) = encP lens l ++ byteP lens b
  | [], b => by show byteP lens b ++ [] = [] ++ byteP lens b; rw [List.append_nil, List.nil_append]
  | a :: l, b => by
    show byteP lens a ++ encP lens (l ++ [b]) = (byteP lens a ++ encP lens l) ++ byteP lens b
    rw [encP_snoc, List.append_assoc]
theorem encP_ok (lens : List Nat) : ∀ l, putsOk (encP lens l)
  | [] => fun p h => by cases h
  | b :: l => fun p h => by
    rcases List.mem_append.1 h with h | h
    · exact bitsP_ok _ _ p h
    · exact encP_ok lens l p h
theorem getD_leA {l : List Nat} {m : Nat} (h : ∀ x ∈ l, x ≤ m) (i : Nat) : l.getD i 0 ≤ m := by
  rcases Nat.lt_or_ge i l.length with h' | h'
  · rw [List.getD, List.getElem?_eq_getElem h', Option.getD_some]; exact h _ (List.getElem_mem h')
  · rw [getD_out h']; omega
theorem encP_len (lens : List Nat) (h : ∀ x ∈ lens, x ≤ 11) : ∀ l, putsLen (encP lens l) ≤ 11 * l.length
  | [] => Nat.zero_le _
  | b :: l => by
    have h1 := encP_len lens h l
    have h2 : putsLen (byteP lens b) ≤ 11 := by unfold byteP; rw [bitsP_len]; exact getD_leA h _
    have h3 : putsLen (encP lens (b :: l)) = putsLen (byteP lens b) + putsLen (encP lens l) := by
      show putsLen (byteP lens b ++ encP lens l) = _
      unfold putsLen
      rw [List.map_append, sumL_append]
    rw [h3, List.length_cons]; omega
def bodyB (lens : List Nat) (l : List UInt8) : List UInt8 := bytesS (putsS ([], 0, 0) (encP lens l))
end Go.Proofs.YtaelgbbnmjbjiaaGreat
namespace Go.Proofs.YtaelgbbnmjbjiaaGreat
open Go.RowKit Go.Shelf
attribute [local go_sem] Oper.semAt_some
set_option maxRecDepth 100000 in
set_option maxHeartbeats 8000000 in
theorem fseEncode (A : Option Addr) (n c : Nat) (sh : List Nat) (A2 : Option Addr) (n2 c2 : Nat) (l : List Nat) (w : World) (hl : sh.length = n) (hr : Ns w A sh) (hmay : fmayL sh 6 = true) (hl2 : l.length = n2) (hr2 : Ns w A2 l) (hn2 : n2 ≤ 65536) (hx : ∀ x ∈ l, x < n ∧ 0 < sh.getD x 0) :
    Calls Tryz.prog 30 #[.slice A n c, .int .i64 6, .slice A2 n2 c2] w fun e w' => ∃ S m cs, e = .returned (.tuple #[.slice S m cs, .int .i64 0]) ∧ OwnB w' w.heap.size S m cs (encodeL sh l) ∧ Below w.heap.size w w' := by
  obtain ⟨hf1, hf2, -, hf4, hf5⟩ := fmayL_facts hmay
  rw [hl] at hf1 hf2
  have hba := (Below.refl w.heap.size w).alloc (Nat.le_refl _) (.cells #[.slice A n c] 45)
  have hr' := Rd.later hr hba
  have hr2' := Rd.later hr2 hba
  have HMay := Lib.hid (by have h := fseMay A n c sh 6 _ hl hr' (by omega) (fun x hx => by have := hf4 x hx; omega) (by omega) (by omega); rw [hmay] at h; exact h :
    Calls Tryz.prog 70 #[.slice A n c, .int .i64 6] (w.alloc (.cells #[.slice A n c] 45)) fun e w' => e = .returned (.bool true) ∧ w' = w.alloc (.cells #[.slice A n c] 45))
  have hk0 := Blk.new w 45 #[.slice A n c]
  have b0 := hk0.cell 0
  simp only [List.getElem?_toArray, List.getElem?_cons_zero] at b0
  have HCon := Lib.hid (fseContains w.heap.size A n c sh A2 n2 c2 l _ b0 hl hr' (by omega) hl2 hr2' (by omega) hx)
  have HMade := Lib.hid (fseMade A n c sh _ hl hr' hf1 hf2 hf5)
  have HBa := Lib.hid hba
  have HR := Lib.hid hr'
  have HR2 := Lib.hid hr2'
  have HL := Lib.hid hl
  have HL2 := Lib.hid hl2
  obtain ⟨xs, hxs1, hxs2, hxs3⟩ := sym_rows sh l (fun x hxm => by rw [hl]; exact hx x hxm)
  have HXS1 := Lib.hid hxs1
  have HXS2 := Lib.hid hxs2
  have HXS3 := Lib.hid hxs3
  have HLow := Lib.hid (show 0 < l.length → ∀ b, bk A2 = some b → b < w.heap.size from fun h b hb => by
    obtain ⟨b', o, x, rfl, -, hc⟩ := hr2.at_ h
    cases hb
    exact block_lt hc)
  have HRw := Lib.hid hr
  have HRw2 := Lib.hid hr2
  clear hxs1 hxs2 hxs3
  have HS := Lib.hid hf5
  have hsz0 : (w.alloc (.cells #[.slice A n c] 45)).heap.size = w.heap.size + 1 := by simp
  clear hl hr hmay hl2 hr2 hx hf4 hf5 hr' hr2' hba
  refine (callsIn_wide (n := 3)).1 ?_
  refine callsIn_of_wp_marks Tryz.func30 rfl trivial ?_ rfl
  simp only [Tryz.ntmps30, List.size_toArray, List.length_cons, List.length_nil, Nat.reduceAdd, Nat.reduceSub, Array.replicate_succ, Array.replicate_zero, List.push_toArray, List.append_toArray, List.nil_append, List.cons_append]
  obtain ⟨w1, hw1⟩ : ∃ w1, w1 = w.alloc (.cells #[.slice A n c] 45) := ⟨_, rfl⟩
  rw [← hw1] at HMay HCon HMade HBa HR HR2 b0 hsz0 hk0
  have g1 : decide ((65536 : Int) < (n2 : Int)) = false := decide_eq_false (by omega)
  gi_wp2_with fail
  rw [← hw1]
  clear hw1
  refine ⟨trivial, (callsIn_wide.2 HMay.out).mono ?_⟩
  rintro e w' ⟨rfl, hw⟩
  obtain rfl := hw.symm
  gi_wp2_with fail
  refine ⟨trivial, (callsIn_wide.2 HCon.out).mono ?_⟩
  rintro e w' ⟨rfl, hw⟩
  obtain rfl := hw.symm
  gi_wp2_with fail
  refine ⟨trivial, (callsIn_wide.2 HMade.out).mono ?_⟩
  rintro e w2 ⟨rfl, ⟨As, cs, An, cn, htab⟩, hb2⟩
  gi_wp2_with fail
  refine ⟨trivial, (callsIn_wide.2 (newWriter _)).mono ?_⟩
  rintro e w4 ⟨rfl, hw4, hb4⟩
  have HB2 := Lib.hid (HBa.out.trans (hb2.mono (by omega)))
  have HAs := Lib.hid (fun s (hs : s < 64) k (hk : bk (As s) = some k) => (Own.lt (htab.rows s hs) hk).2)
  have HT2 := Lib.hid htab
  have hsz2 := hb2.size
  have hk0' := hk0.later hb2
  clear htab hb2 HMay HCon HMade
  have hk8 := Blk.new w2 90 #[.pointer (some ⟨w1.heap.size, 0, none⟩)]
  have hba2 := (Below.refl w2.heap.size w2).alloc (Nat.le_refl _) (.cells #[.pointer (some ⟨w1.heap.size, 0, none⟩)] 90)
  have hsz3 : (w2.alloc (.cells #[.pointer (some ⟨w1.heap.size, 0, none⟩)] 90)).heap.size = w2.heap.size + 1 := by simp
  rw [hsz0] at hk8 hba2 hsz3
  rw [hsz3] at hw4 hb4 ⊢
  have hk8' := hk8.later (by rw [hsz3]; exact hb4)
  have hk0'' := (hk0'.later hba2).later (by rw [hsz3]; exact hb4)
  have HT4 := Lib.hid ((HT2.out.later hba2).later (by rw [hsz3]; exact hb4))
  have hsz4 := hb4.size
  rw [hsz3] at hsz4
  have HB4 := Lib.hid (HB2.out.trans ((hba2.mono (by omega)).trans (hb4.mono (by omega))))
  have HW4 := Lib.hid hw4
  clear hk0' hk8 hba2 hb4 hw4 HT2 HB2 hsz3
  have HK0 := Lib.hid hk0''
  have HK8 := Lib.hid hk8'
  have d8 := hk8'.cell 0
  simp only [List.getElem?_toArray, List.getElem?_cons_zero] at d8
  have dT : w4.cell? ⟨w.heap.size + 1, 1600, none⟩ = some (.int .i64 64) := by
    have h := HT4.out.cells.cell (i := 1600) (by omega)
    rw [hsz0] at h
    rw [h]; unfold G3; rfl
  clear hk0'' hk8' hk0
  have hba5 := (Below.refl w4.heap.size w4).alloc (Nat.le_refl _) (.cells #[.pointer (some ⟨w2.heap.size + 1, 0, none⟩)] 62)
  have d8' := (hba5.cell (p := ⟨w2.heap.size, 0, none⟩) (block_lt d8)).trans d8
  have dT' := (hba5.cell (p := ⟨w.heap.size + 1, 1600, none⟩) (block_lt dT)).trans dT
  clear d8 dT hba5 hw
  gi_wp2_with fail
  refine ⟨trivial, (backward_in Fence.wide 2 trivial rfl _ _ _ _).mono ?_⟩
  rintro e w7 ⟨rfl, hw7⟩
  obtain ⟨p, hp⟩ : ∃ p, p = w4.heap.size := ⟨_, rfl⟩
  obtain ⟨q, hq⟩ : ∃ q, q = w2.heap.size := ⟨_, rfl⟩
  rw [← hq, ← hp] at hsz4
  rw [← hq] at HW4 HK8 HAs hsz2 hw7 ⊢
  have hqp := HW4.out.blk.lt
  rw [← hp] at hqp
  have k9 := Blk.new w4 62 #[.pointer (some ⟨q + 1, 0, none⟩)]
  have hbA := (Below.refl w4.heap.size w4).alloc (Nat.le_refl _) (.cells #[.pointer (some ⟨q + 1, 0, none⟩)] 62)
  have hsA : (w4.alloc (.cells #[.pointer (some ⟨q + 1, 0, none⟩)] 62)).heap.size = p + 1 := by rw [hp]; simp
  obtain ⟨wA, hwA⟩ : ∃ wA, wA = w4.alloc (.cells #[.pointer (some ⟨q + 1, 0, none⟩)] 62) := ⟨_, rfl⟩
  rw [← hwA] at k9 hbA hsA hw7 ⊢
  clear hwA
  have k10 := Blk.new wA 3 #[.int .i64 64]
  have hbB := (Below.refl wA.heap.size wA).alloc (Nat.le_refl _) (.cells #[.int .i64 64] 3)
  have hsB : (wA.alloc (.cells #[.int .i64 64] 3)).heap.size = p + 2 := by simp [hsA]
  obtain ⟨wB, hwB⟩ : ∃ wB, wB = wA.alloc (.cells #[.int .i64 64] 3) := ⟨_, rfl⟩
  rw [← hwB] at k10 hbB hsB hw7 ⊢
  clear hwB
  have kBs := Blk.new wB 45 #[.slice A2 n2 c2]
  have hbC := (Below.refl wB.heap.size wB).alloc (Nat.le_refl _) (.cells #[.slice A2 n2 c2] 45)
  have hsC : (wB.alloc (.cells #[.slice A2 n2 c2] 45)).heap.size = p + 3 := by simp [hsB]
  rw [← hw7] at kBs hbC hsC
  clear hw7
  rw [← hp] at k9 hbA
  rw [hsA] at k10 hbB
  rw [hsB] at kBs hbC ⊢
  have hb47 := (hbA.trans (hbB.mono (by omega))).trans (hbC.mono (by omega))
  have HK9 := Lib.hid ((k9.later (by rw [hsA]; exact hbB)).later (by rw [hsB]; exact hbC))
  have HK10 := Lib.hid (k10.later (by rw [hsB]; exact hbC))
  have HKB := Lib.hid kBs
  have HB7 := Lib.hid (HB4.out.trans (hb47.mono (by have := HB4.out.size; omega)))
  rw [hp] at hb47
  have HK0b := Lib.hid (HK0.out.later hb47)
  have HK8b := Lib.hid (HK8.out.later hb47)
  have HT7 := Lib.hid (HT4.out.later hb47)
  have HW7 := Lib.hid (HW4.out.later hb47)
  rw [← hp] at hb47
  have hs1 : w.heap.size + 1 ≤ q := by omega
  have HRA := Lib.hid (HRw.out.later HB7.out)
  have HRL := Lib.hid (HRw2.out.later HB7.out)
  clear hb47 hbA hbB hbC k9 k10 kBs HK0 HK8 HT4 HW4 HB4 HR HR2 HBa d8' dT' b0 g1 hsA hsB
  rw [← hp]
  clear hp hq
  have HPre := Lib.hid (show Blk w7 (p + 2) 45 #[.slice A2 n2 c2] from HKB.out)
  have hkb := HKB.out.cell 0
  simp only [List.getElem?_toArray, List.getElem?_cons_zero] at hkb
  gi_wp2_with fail
  refine wpIn_rangeFunc_ownG rfl (by omega) (gf := 103) (lb := #[.pointer (some ⟨p + 2, 0, none⟩)]) rfl trivial (enters_of Tryz.func103 (by kernel_rfl) rfl)
    (backward_stops (fun x : SymAt sh => x.1.1) (fun x : SymAt sh => x.1.2) xs Fence.wide 2 trivial rfl (by omega) (p + 2) w.heap.size c2 A2 l HXS1.out HXS2.out (by rw [HL2.out]; omega) w7 HB7.out.size (by rw [HL2.out]; exact hkb) HRL.out HLow.out)
    KB.trans (KB.put HB7.out.size (by omega)) (Below.refl _ _) (fun _ => rfl)
    (fun pre W => EncI w w7 p q pre.length (encGo sh (pre.map (·.1.2))) W)
    (fun _ _ _ => False) ?hI (fun _ _ _ _ _ hs _ _ => hs) ?h0 ?a1 ?assign ?body ?done ?stop
  case assign =>
    intro lo x W K hK
    gi_wp2
    exact hK
  case hI =>
    intro pre W W' row hs hg hr
    exact hs.kept HB7.out.size hg hr
  case h0 => exact ⟨⟨none, 0, HW7.out, .inl rfl⟩, ⟨Nat.le_refl _, by show 64 < 128; omega, ⟨by show 0 < 8; omega, by show 0 < 2 ^ 0; decide⟩, Nat.le_refl _⟩, HK10.out, Two.refl _ _ _, HB7.out⟩
  case body =>
    rintro lo pre x W hi hlen
    obtain ⟨⟨i, s⟩, hs1, hs2⟩ := x
    simp only at hs1 hs2
    rw [HL.out] at hs1
    rw [HL2.out] at hlen
    obtain ⟨X, hX⟩ : ∃ X, encGo sh (pre.map (·.1.2)) = X := ⟨_, rfl⟩
    have hsnoc : encGo sh ((pre ++ [(⟨(i, s), by rw [HL.out]; exact hs1, hs2⟩ : SymAt sh)]).map (·.1.2)) = encStep sh X s := by rw [List.map_append, List.map_cons, List.map_nil, encGo_snoc, hX]
    have HSn := Lib.hid hsnoc
    rw [hX] at hi
    clear hsnoc hX
    have HI := Lib.hid hi
    obtain ⟨Aw, cw, hw, hnt⟩ := hi.wr
    have k9 := (hi.two.blk HK9.out (by omega) (by simp [bk])).cell 0
    have k0 := (hi.two.blk HK0b.out (by omega) (by simp [bk]; omega)).cell 0
    have k8 := (hi.two.blk HK8b.out (by omega) (by simp [bk]; omega)).cell 0
    have k10 := hi.box.cell 0
    have f10 := hi.box.frozen 0
    simp only [List.getElem?_toArray, List.getElem?_cons_zero] at k9 k0 k8 k10
    have hlo := hi.ok.lo
    have hhi := hi.ok.hi
    have hnsW : Ns W A sh := Rd.later HRw.out hi.below
    obtain ⟨b, o, y, hA, hy, hcy⟩ := hnsW.at_ (k := s) (by rw [HL.out]; exact hs1)
    clear hnsW
    subst hA
    have hbw : b < w.heap.size := by
      obtain ⟨b', o', y', e, -, hc'⟩ := HRw.out.at_ (k := s) (by rw [HL.out]; exact hs1)
      cases e
      exact block_lt hc'
    have hyd : sh.getD s 0 = y := by simp [List.getD, hy]
    have hs2' := hs2
    rw [hyd] at hs2
    have HStep := Lib.hid (encStep_facts (s := s) hi.ok HS.out (by rw [hyd]; exact hs2))
    have HY := Lib.hid hyd
    obtain ⟨N, hN⟩ : ∃ N, nbL X.1 y = N := ⟨_, rfl⟩
    have HN := Lib.hid hN
    obtain ⟨st, hst⟩ : ∃ st, X.1 = st := ⟨_, rfl⟩
    rw [hst] at hlo hhi hN k10
    have HSt := Lib.hid hst
    have HK := Lib.hid hnt
    have HW := Lib.hid hw
    have hy64 : y ≤ 64 := by rw [← hyd]; have := le_sumL (l := sh) (x := sh.getD s 0) (getD_mem' (by rw [HL.out]; exact hs1)); rw [HS.out] at this; omega
    clear hi hw hnt hy hyd hst
    gi_wp2_with fail
    gi_loopw [13] (fun s13 wr => ∃ m f k : Nat, m + f = 7 ∧ s13 = .int .i64 (m : Int) ∧ nbGo f st y m = N ∧ y ≤ st / 2 ^ m ∧ wr = W.drewN k) (fun s13 _ => 7 - (intOf s13).toNat)
    case atStart => exact ⟨0, 7, 0, rfl, rfl, hN, by rw [Nat.pow_zero, Nat.div_one]; omega, rfl⟩
    case round =>
      obtain ⟨m, f, k, hmf, rfl, hgo, hle, rfl⟩ := hrel
      have i1 : (0 : Int) ≤ (s : Int) := by omega
      have i2 : (s : Int) < (n : Int) := by omega
      have e2 : IntKind.i64.wrap (2 * (y : Int)) = 2 * (y : Int) := wrapi64 (by omega) (by omega)
      have hcast : ((st / 2 ^ m : Nat) : Int) = (st : Int) / 2 ^ m := by simp
      have HCast := Lib.hid hcast
      clear hcast
      by_cases hc : 2 * y ≤ st / 2 ^ m
      · have g2 : decide (2 * (y : Int) ≤ (st : Int) / 2 ^ m) = true := decide_eq_true (by rw [← HCast.out]; omega)
        obtain ⟨f', rfl⟩ : ∃ f', f = f' + 1 := by
          cases f with
          | zero =>
            exfalso
            obtain rfl : m = 7 := by omega
            have : st / 2 ^ 7 = 0 := Nat.div_eq_of_lt (by omega)
            omega
          | succ f' => exact ⟨f', rfl⟩
        have HGo := Lib.hid (by have h := hgo; rw [nbGo, if_pos hc] at h; exact h : nbGo f' st y (m + 1) = N)
        have HLe := Lib.hid (by rw [Nat.pow_succ, ← Nat.div_div_eq_div_mul]; omega : y ≤ st / 2 ^ (m + 1))
        clear hc hgo hle
        gi_wp2_with fail
        refine wpR_region_quiet (by rintro ⟨a, w, h⟩; exact h) (by kernel_rfl) (by kernel_rfl) (by kernel_rfl) ?_
        repeat (quiet_step (fail))
        refine wpQuiet_nil ?_
        intro _ hw'
        obtain ⟨nq, hw''⟩ := hw'
        subst hw''
        gi_wp2
        go_roundw
        case rel => exact ⟨m + 1, f', _, by omega, by go_num, HGo.out, HLe.out, rfl⟩
        case measure => simp only [intOf]; omega
      · have g2 : decide (2 * (y : Int) ≤ (st : Int) / 2 ^ m) = false := decide_eq_false (by rw [← HCast.out]; omega)
        have HGo := Lib.hid (by
          have h := hgo
          cases f with
          | zero => exact h
          | succ f => rw [nbGo, if_neg hc] at h; exact h : m = N)
        clear hc hgo hle
        gi_wp2_with fail
        refine wpR_region_quiet (by rintro ⟨a, w, h⟩; exact h) (by kernel_rfl) (by kernel_rfl) (by kernel_rfl) ?_
        repeat (quiet_step (fail))
        refine wpQuiet_nil ?_
        intro _ hw'
        obtain ⟨nq, hw''⟩ := hw'
        subst hw''
        clear g2 e2
        have hb5 := (below_drewN W k).trans ((below_drewN (W.drewN k) nq).mono (below_drewN W k).size)
        have HI5 := Lib.hid (HI.out.later hb5)
        have HW5 := Lib.hid (HW.out.later hb5)
        have c9 := (hb5.cell (p := ⟨p, 0, none⟩) (block_lt k9)).trans k9
        have c0 := (hb5.cell (p := ⟨w.heap.size, 0, none⟩) (block_lt k0)).trans k0
        have c8 := (hb5.cell (p := ⟨q, 0, none⟩) (block_lt k8)).trans k8
        have c10 := (hb5.cell (p := ⟨p + 1, 0, none⟩) (block_lt k10)).trans k10
        have cy := (hb5.cell (p := ⟨b, o + s, none⟩) (block_lt hcy)).trans hcy
        have HR5 := Lib.hid hb5
        gi_wp2_with fail
        obtain ⟨w5, hw5⟩ : ∃ w5, w5 = (W.drewN k).drewN nq := ⟨_, rfl⟩
        rw [← hw5] at HI5 HW5 c9 c0 c8 c10 cy HR5 ⊢
        clear hw5 k9 k0 k8 k10 f10 hcy hb5
        have d9 : w5.drew.cell? ⟨p, 0, none⟩ = _ := c9
        have d10 : w5.drew.cell? ⟨p + 1, 0, none⟩ = _ := c10
        refine wpR_region_tail 7 (by rintro ⟨a, w, h⟩; exact h) (by kernel_rfl) (by kernel_rfl) (by kernel_rfl) ?_
        simp only [List.take_succ_cons, List.take_zero, List.drop_succ_cons, List.drop_zero]
        repeat still_step
        refine wpStill_nil ?_
        go_wp2_with fail
        obtain rfl : m = N := HGo.out
        have hstep := HStep.out
        rw [HY.out, HN.out, HSt.out] at hstep
        have hm6 : m ≤ 6 := hstep.2.1
        have HMod := Lib.hid (Nat.mod_lt st (Nat.two_pow_pos m))
        have hbs : X.2.1.length ≤ 1000000000000 := by
          have := HI5.out.ok.len
          unfold wLen at this
          omega
        have hput := wrPut (q + 1) (q + 1) X.2.1 X.2.2.1 X.2.2.2 Aw cw m (st % 2 ^ m) w5.drew HW5.out.drew HI5.out.ok.ok.1 HI5.out.ok.ok.2 (by omega) HMod.out hbs
        rw [and_mask hm6 hhi]
        refine hput.mono ?_
        clear hput hbs
        rintro e w6 ⟨rfl, hb6, ht6, A6, c6, hw6, hnt6⟩
        have hw6' : IsWr w6 (q + 1) (q + 1) (putS X.2 m (st % 2 ^ m)).1 (putS X.2 m (st % 2 ^ m)).2.1 (putS X.2 m (st % 2 ^ m)).2.2 A6 c6 := hw6
        have HW6 := Lib.hid hw6'
        have HNT6 := Lib.hid (HK.out.trans' (Nat.le_trans HI5.out.two.size (Nat.le_refl _)) hnt6)
        have ht6 : Two (q + 1) Aw w5 w6 := ⟨ht6.os, ht6.tape, ht6.output, ht6.size, ht6.block⟩
        have ht7 := HI5.out.two.newTo HK.out ht6
        have HT67 := Lib.hid ht7
        have HB6 := Lib.hid (show Below w.heap.size w w6 from (show Below w.heap.size w w5.drew from HI5.out.below.drew).trans (hb6.mono (by omega)))
        have hbox6 := ht6.blk HI5.out.box (by omega) (HK.out.ne (by omega))
        have HT56 := Lib.hid ht6
        have HBox6 := Lib.hid hbox6
        have HB56 := Lib.hid (show Below w.heap.size w5 w6 from (show Below w.heap.size w5 w5.drew from (Below.refl _ _).drew).trans (hb6.mono (by omega)))
        have b9 := (ht7.blk HK9.out (by omega) (by simp [bk])).cell 0
        have b0 := (ht7.blk HK0b.out (by omega) (by simp [bk]; omega)).cell 0
        have b8 := (ht7.blk HK8b.out (by omega) (by simp [bk]; omega)).cell 0
        have b10 := hbox6.cell 0
        have fb10 := hbox6.frozen 0
        rw [HSt.out] at b10
        simp only [List.getElem?_toArray, List.getElem?_cons_zero] at b9 b0 b8 b10
        have cy6 := (hb6.cell (p := ⟨b, o + s, none⟩) (show b < q + 1 by omega)).trans cy
        obtain ⟨x, hxx⟩ : ∃ x, st / 2 ^ m - y = x := ⟨_, rfl⟩
        have hxlt := hstep.2.2.2.1
        have hyle := hstep.2.2.1
        rw [hxx] at hxlt
        have hs64 : s < 64 := by omega
        have hrow := HT7.out.rows s hs64
        have hnoq : ∀ k, bk (As s) = some k → k < q := HAs.out s hs64
        have hrow6 : OwnN w6 w1.heap.size (As s) (toL sh 64 s).length (cs s) (toL sh 64 s) := ht7.own hrow (fun e => by have := hnoq _ e; omega) (by
          cases hA : bk (As s) with
          | none => exact .inl rfl
          | some k => exact .inr (fun e => by have := hnoq _ hA; simp only [bk, Option.map_some, Option.some.injEq] at e; omega))
        have ct0 := (ht7.cells HT7.out.cells (by omega) (by simp [bk]; omega)).cell (i := 1600) (by omega)
        have ct1 := (ht7.cells HT7.out.cells (by omega) (by simp [bk]; omega)).cell (i := 1536 + s) (by omega)
        have e1600 : G3 sh 64 As cs 1600 = .int .i64 64 := by unfold G3; rfl
        have e1536 : G3 sh 64 As cs (1536 + s) = .slice (As s) (toL sh 64 s).length (cs s) := by unfold G3; rw [if_neg (by omega), if_pos (by omega), Nat.add_sub_cancel_left]
        rw [e1600, hsz0] at ct0
        rw [e1536, hsz0] at ct1
        obtain ⟨ga, xa, hga, -, -, hxa, hcga, -⟩ := Own.at_ hrow6 hxlt
        rw [hga] at ct1
        obtain ⟨z, hz⟩ : ∃ z, (toL sh 64 s).getD x 0 = z := ⟨_, rfl⟩
        have hxv : xa = .int .i64 (z : Int) := by
          rw [List.getElem?_map, List.getElem?_eq_getElem hxlt] at hxa
          rw [← Option.some.inj hxa, ← hz]
          simp [List.getD, List.getElem?_eq_getElem hxlt, natv]
        subst hxv
        have hz64 : z < 64 := by rw [← hz]; exact toL_lt sh s 64 _ (getD_mem' hxlt)
        have HEnc := Lib.hid (show encStep sh X s = (64 + z, putS X.2 m (st % 2 ^ m)) by
          unfold encStep
          rw [HY.out, HN.out, HSt.out, hxx, hz])
        have HOk6 := Lib.hid hstep.1
        have e76 : IntKind.i64.wrap ((st : Int) / 2 ^ m - y) = (x : Int) := by
          rw [← HCast.out]
          have : st / 2 ^ m ≤ st := Nat.div_le_self _ _
          rw [wrapi64 (by omega) (by omega)]; omega
        have i76 : (0 : Int) ≤ (x : Int) := by omega
        have i77 : (x : Int) < ((toL sh 64 s).length : Int) := by omega
        have e79 : IntKind.i64.wrap (64 + (z : Int)) = ((64 + z : Nat) : Int) := by rw [wrapi64 (by omega) (by omega)]; rfl
        clear hrow hnoq hrow6 e1600 e1536 hga hxa hz hxx hstep ht7 ht6 hb6 cy hxlt hyle hbox6 HCast
        gi_wp2_with fail
        refine wpList_nil ?_
        gi_wp2_with fail
        have d8 : w6.drew.cell? ⟨q, 0, none⟩ = _ := b8
        have dt0 : w6.drew.cell? ⟨w.heap.size + 1, 1600, none⟩ = _ := ct0
        have dt1 : w6.drew.cell? ⟨w.heap.size + 1, 1536 + s, none⟩ = _ := ct1
        have d10 : w6.drew.cell? ⟨p + 1, 0, none⟩ = _ := b10
        have d0 : w6.drew.cell? ⟨w.heap.size, 0, none⟩ = _ := b0
        have dy : w6.drew.cell? ⟨b, o + s, none⟩ = _ := cy6
        have da : w6.drew.cell? ⟨ga, x, none⟩ = _ := hcga
        have f10 : w6.drew.frozen? ⟨p + 1, 0, none⟩ = false := fb10
        have j1 : (s : Int) < 64 := by omega
        refine wpR_region_tail 21 (by rintro ⟨a, w, h⟩; exact h) (by kernel_rfl) (by kernel_rfl) (by kernel_rfl) ?_
        simp only [List.take_succ_cons, List.take_zero, List.drop_succ_cons, List.drop_zero]
        repeat still_step
        refine wpStill_nil ?_
        clear d8 dt0 dt1 d0 dy da b8 ct0 ct1 b0 cy6 hcga
        go_wp2_with fail
        have hW : EncI w w7 p q (pre ++ [(⟨(i, s), by rw [HL.out]; exact hs1, hs2'⟩ : SymAt sh)]).length (encGo sh ((pre ++ [(⟨(i, s), by rw [HL.out]; exact hs1, hs2'⟩ : SymAt sh)]).map (·.1.2))) (w6.drew.setCell ⟨p + 1, 0, none⟩ (.int .i64 ((64 + z : Nat) : Int))) := by
          have hok := HOk6.out
          rw [HEnc.out] at hok
          rw [HSn.out, HEnc.out, List.length_append, List.length_singleton]
          have hgs := grown_set w6.drew ⟨p + 1, 0, none⟩ (.int .i64 ((64 + z : Nat) : Int))
          refine ⟨⟨A6, c6, ⟨HW6.out.drew.blk.kept hgs (by simp; omega), Own.kept HW6.out.drew.own hgs (.inr (HNT6.out.ne (k := p + 1) (by omega))), Nat.le_refl _, Nat.le_trans HW6.out.drew.size hgs.size⟩, HNT6.out⟩, hok, HBox6.out.set 0 _, ?_, ?_⟩
          · exact Two.set_a (show Two (q + 1) (some ⟨p + 1, 0, none⟩) w7 w6.drew from ⟨HT67.out.os, HT67.out.tape, HT67.out.output, HT67.out.size, HT67.out.block⟩) _
          · exact (show Below w.heap.size w w6.drew from HB6.out.drew).setCell (p := ⟨p + 1, 0, none⟩) (show w.heap.size ≤ p + 1 by omega) _
        have hKB : KB w.heap.size (p + 2) W (w6.drew.setCell ⟨p + 1, 0, none⟩ (.int .i64 ((64 + z : Nat) : Int))) := by
          refine ⟨((HR5.out.mono HI.out.below.size).trans (show Below w.heap.size w5 w6.drew from HB56.out.drew)).setCell (p := ⟨p + 1, 0, none⟩) (show w.heap.size ≤ p + 1 by omega) _, fun hlt => ?_⟩
          rw [Below.heap_setCell _ _ _ _ (show p + 2 ≠ p + 1 by omega)]
          exact (HT56.out.block (p + 2) (Nat.lt_of_lt_of_le hlt HR5.out.size) (by omega) (HK.out.ne (by omega))).trans (HR5.out.block _ hlt)
        have hKF : KeepsFrom w7.heap.size W (w6.drew.setCell ⟨p + 1, 0, none⟩ (.int .i64 ((64 + z : Nat) : Int))) := by
          refine ⟨hKB.below.size, fun k o hk ho hoc => ?_⟩
          have hlt := (Array.getElem?_eq_some_iff.1 ho).1
          have h5 := (HR5.out.block k hlt).trans ho
          rw [Below.heap_setCell _ _ _ _ (show k ≠ p + 1 by omega)]
          refine (HT56.out.block k (Nat.lt_of_lt_of_le hlt HR5.out.size) (by omega) (fun e => ?_)).trans h5
          obtain ⟨o', ho', hc'⟩ := Own.isCells HW5.out.own e
          rw [h5] at ho'
          cases ho'
          rw [hoc] at hc'
          cases hc'
        exact ⟨hKF, hKB, hW⟩
  case done =>
    rintro D ys W hD hys hi hK
    subst hys
    obtain ⟨X, hX⟩ : ∃ X, encGo sh (ys.map (·.1.2)) = X := ⟨_, rfl⟩
    have hX2 : encGo sh l.reverse = X := by rw [← HXS3.out]; exact hX
    have HX2 := Lib.hid hX2
    rw [hX] at hi
    clear hX hX2
    have HI := Lib.hid hi
    obtain ⟨Aw, cw, hw, hnt⟩ := hi.wr
    have k9 := (hi.two.blk HK9.out (by omega) (by simp [bk])).cell 0
    have k8 := (hi.two.blk HK8b.out (by omega) (by simp [bk]; omega)).cell 0
    have k10 := hi.box.cell 0
    have kt := (hi.two.cells HT7.out.cells (by omega) (by simp [bk]; omega)).cell (i := 1600) (by omega)
    have e1600 : G3 sh 64 As cs 1600 = .int .i64 64 := by unfold G3; rfl
    rw [e1600, hsz0] at kt
    simp only [List.getElem?_toArray, List.getElem?_cons_zero] at k9 k8 k10
    have hlo := hi.ok.lo
    have hhi := hi.ok.hi
    have hlen8 := hi.ok.len
    obtain ⟨st, hst⟩ : ∃ st, X.1 = st := ⟨_, rfl⟩
    rw [hst] at hlo hhi k10
    have HSt := Lib.hid hst
    have HW := Lib.hid hw
    have HNT := Lib.hid hnt
    have HKD := Lib.hid hK
    have hyl : ys.length = n2 := by rw [HXS1.out, HL2.out]
    have hbs : X.2.1.length ≤ 1000000 := by unfold wLen at hlen8; omega
    have d9 : W.drew.cell? ⟨p, 0, none⟩ = _ := k9
    have d8 : W.drew.cell? ⟨q, 0, none⟩ = _ := k8
    have d10 : W.drew.cell? ⟨p + 1, 0, none⟩ = _ := k10
    have dt : W.drew.cell? ⟨w.heap.size + 1, 1600, none⟩ = _ := kt
    have e87 : IntKind.i64.wrap ((st : Int) - 64) = ((st - 64 : Nat) : Int) := by rw [wrapi64 (by omega) (by omega)]; omega
    have hput := wrPut (q + 1) (q + 1) X.2.1 X.2.2.1 X.2.2.2 Aw cw 6 (st - 64) W.drew hw.drew hi.ok.ok.1 hi.ok.ok.2 (by omega) (by omega) (by omega)
    have HPut := Lib.hid hput
    clear hi hw hnt hK hst k9 k8 k10 kt e1600 hlen8 hput
    gi_wp2_with fail
    refine wpIn_wide.2 ?_
    refine wp_region_still_tail 8 (by kernel_rfl) (by kernel_rfl) ?_
    simp only [List.take_succ_cons, List.take_zero, List.drop_succ_cons, List.drop_zero]
    repeat still_step
    refine wpStill_nil ?_
    clear d8 d10 dt
    change wpList _ _ _ _ _ W.drew
    go_wp2_with fail
    refine HPut.out.mono ?_
    rintro e w6 ⟨rfl, hb6, ht6, A6, c6, hw6, -⟩
    have ht6 : Two (q + 1) Aw W w6 := ⟨ht6.os, ht6.tape, ht6.output, ht6.size, ht6.block⟩
    have hw6' : IsWr w6 (q + 1) (q + 1) (putS X.2 6 (st - 64)).1 (putS X.2 6 (st - 64)).2.1 (putS X.2 6 (st - 64)).2.2 A6 c6 := hw6
    have hok6 := putS_facts (S := X.2) (k := 6) (v := st - 64) HI.out.ok.ok (by omega) (by omega)
    have hD6 : w6.heap[D]? = some (.deferred (some [])) := by
      have hlt := (Array.getElem?_eq_some_iff.1 HKD.out).1
      refine (ht6.block D hlt (by omega) (fun e => ?_)).trans HKD.out
      obtain ⟨o', ho', hc'⟩ := Own.isCells HW.out.own e
      rw [HKD.out] at ho'
      cases ho'
      cases hc'
    have hB6 : Below w.heap.size w w6 := (show Below w.heap.size w W.drew from HI.out.below.drew).trans (hb6.mono (by omega))
    have b9 : w6.cell? ⟨p, 0, none⟩ = some (.pointer (some ⟨q + 1, 0, none⟩)) := by
      have h := ((HI.out.two.newTo HNT.out ht6).blk HK9.out (by omega) (by simp [bk])).cell 0
      simpa only [List.getElem?_toArray, List.getElem?_cons_zero] using h
    have hbs6 : (putS X.2 6 (st - 64)).1.length ≤ 100000000000 := by
      have h1 := hok6.2
      unfold wLen at h1
      have h2 := HI.out.ok.ok.1
      omega
    have hmk := wrMarked (q + 1) (q + 1) (putS X.2 6 (st - 64)).1 (putS X.2 6 (st - 64)).2.1 (putS X.2 6 (st - 64)).2.2 A6 c6 w6 hw6' hok6.1.1 hok6.1.2 hbs6
    have HMk := Lib.hid hmk
    have HD6 := Lib.hid hD6
    have HB6 := Lib.hid hB6
    clear hw6 hw6' hok6 hD6 hB6 hbs6 hmk hb6 ht6 HPut d9
    gi_wp2_with fail
    refine wpList_nil ?_
    gi_wp2_with fail
    refine ⟨trivial, (callsIn_wide.2 HMk.out).mono ?_⟩
    rintro e w9 ⟨S, ms, cs9, rfl, hown9, hb9⟩
    have hD9 := (hb9.block D (Array.getElem?_eq_some_iff.1 HD6.out).1).trans HD6.out
    have HO9 := Lib.hid hown9
    have HB9 := Lib.hid hb9
    have HD9 := Lib.hid hD9
    clear hown9 hb9 hD9 HMk
    gi_wp2_with fail
    refine ⟨by simp, .inl ⟨_, _, rfl, run_takeDeferred HD9.out, ?_⟩⟩
    have hDlt := (Array.getElem?_eq_some_iff.1 HD6.out).1
    have hgp := grownBy_putObj' w9 D (.deferred none)
    have hown : OwnB (w9.putObj D (.deferred none)) w.heap.size S ms cs9 (encodeL sh l) := by
      have h := Own.kept HO9.out hgp (by
        cases hS : bk S with
        | none => exact .inl rfl
        | some k => exact .inr (fun e => by injection e with e; have := (Own.lt HO9.out hS).1; omega))
      have h2 := Own.mono h HB6.out.size
      unfold encodeL
      rw [HX2.out, HSt.out]
      exact h2
    have hbel : Below w.heap.size w (w9.putObj D (.deferred none)) := (HB6.out.trans (HB9.out.mono HB6.out.size)).grown hgp (Nat.le_trans HB6.out.size HB9.out.size) (fun k e => by cases e; have := HB7.out.size; omega)
    exact ⟨_, results_tmp2 rfl _ _ _, S, ms, cs9, rfl, hown, hbel⟩
  case stop =>
    rintro D cc pre W hD hS hF hK
    exact hF.elim
end Go.Proofs.YtaelgbbnmjbjiaaGreat
namespace Go.Proofs.YtaelgbbnmjbjiaaGreat
open Go.RowKit
theorem incT_ge : ∀ (ps : List Nat) (out : List Nat) (p : Nat), out.getD p 0 ≤ (incT out ps).getD p 0
  | [], _, _ => Nat.le_refl _
  | q :: r, out, p => by
    have h := incT_ge r (out.set q (out.getD q 0 + 1)) p
    rw [incT]
    rw [getD_set] at h
    split at h
    · rename_i e
      rw [e.1]
      rw [e.1] at h
      omega
    · exact h
theorem incT_pos : ∀ (ps : List Nat) (out : List Nat) (p : Nat), p ∈ ps → p < out.length → 0 < (incT out ps).getD p 0
  | q :: r, out, p, h, hl => by
    rw [incT]
    rcases List.mem_cons.1 h with e | h
    · subst e
      have h1 := incT_ge r (out.set p (out.getD p 0 + 1)) p
      rw [getD_set, if_pos ⟨rfl, hl⟩] at h1
      omega
    · exact incT_pos r _ p h (by rw [List.length_set]; exact hl)
theorem getD_mem {l : List Nat} {x : Nat} (h : x ∈ l) : ∃ p, p < l.length ∧ l.getD p 0 = x := by
  obtain ⟨p, hp, e⟩ := List.getElem_of_mem h
  exact ⟨p, hp, by rw [List.getD, List.getElem?_eq_getElem hp, Option.getD_some, e]⟩
theorem zeros_getD (n p : Nat) : (List.replicate n 0).getD p 0 = 0 := by
  rw [List.getD, List.getElem?_replicate]
  split <;> rfl
theorem incT_small {n : Nat} {ps : List Nat} {x : Nat} (h : x ∈ incT (List.replicate n 0) ps) : x ≤ ps.length := by
  obtain ⟨p, -, rfl⟩ := getD_mem h
  have := incT_le ps (List.replicate n 0) p
  rw [zeros_getD] at this
  omega
def cntB (l : List UInt8) : List Nat := incT (List.replicate 256 0) (l.map UInt8.toNat)
theorem cntB_len (l : List UInt8) : (cntB l).length = 256 := by unfold cntB; rw [incT_len, List.length_replicate]
theorem cntB_pos {l : List UInt8} {b : UInt8} (h : b ∈ l) : 0 < (cntB l).getD b.toNat 0 :=
  incT_pos _ _ _ (List.mem_map_of_mem h) (by rw [List.length_replicate]; exact b.toNat_lt)
theorem cntB_le {l : List UInt8} {x : Nat} (h : x ∈ cntB l) : x ≤ l.length := by
  have := incT_small h
  rw [List.length_map] at this
  exact this
theorem nz_leC : ∀ l : List Nat, nz l ≤ l.length
  | [] => Nat.le_refl _
  | k :: r => by
    have := nz_leC r
    rw [nz, List.length_cons]
    split <;> omega
theorem nz_posC : ∀ {l : List Nat} {p : Nat}, 0 < l.getD p 0 → 0 < nz l
  | [], p, h => by simp at h
  | k :: r, 0, h => by
    have h : 0 < k := h
    rw [nz, if_pos h]; omega
  | k :: r, p + 1, h => by
    have h : 0 < r.getD p 0 := h
    have := nz_posC h
    rw [nz]; omega
theorem encGo_ok {sh : List Nat} (hsum : sumL sh = 64) : ∀ (l : List Nat) (k : Nat) (X : Nat × WSt), EncOk k X → (∀ s ∈ l, 0 < sh.getD s 0) → EncOk (k + l.length) (l.foldl (encStep sh) X)
  | [], _, _, h, _ => h
  | s :: r, k, X, h, hp => by
    have h1 := (encStep_facts (s := s) h hsum (hp s (List.mem_cons_self))).1
    have h2 := encGo_ok hsum r (k + 1) _ h1 (fun q hq => hp q (List.mem_cons_of_mem _ hq))
    rw [List.length_cons, show k + (r.length + 1) = k + 1 + r.length by omega]
    exact h2
theorem encodeL_len {sh l : List Nat} (hsum : sumL sh = 64) (hp : ∀ s ∈ l, 0 < sh.getD s 0) : (encodeL sh l).length ≤ 6 * l.length + 16 := by
  have h0 : EncOk 0 (64, (([], 0, 0) : WSt)) := ⟨by show 64 ≤ 64; omega, by show 64 < 128; omega, ⟨by show 0 < 8; omega, by show 0 < 2 ^ 0; decide⟩, by show 8 * 0 + 0 ≤ _; omega⟩
  have h1 := encGo_ok hsum l.reverse 0 _ h0 (fun s hs => hp s (List.mem_reverse.1 hs))
  rw [List.length_reverse, Nat.zero_add] at h1
  obtain ⟨X, hX⟩ : ∃ X, X = encGo sh l.reverse := ⟨_, rfl⟩
  have h1 : EncOk l.length X := by rw [hX]; exact h1
  obtain ⟨h2, h3⟩ := putS_facts (k := 6) (v := X.1 - 64) h1.ok (by omega) (by have := h1.hi; show _ < 64; omega)
  have h4 := (putS_facts (k := 1) (v := 1) h2 (by omega) (by show 1 < 2; omega)).2
  have h5 := bytesS_len (putS (putS X.2 6 (X.1 - 64)) 1 1)
  have h6 : encodeL sh l = bytesS (putS (putS X.2 6 (X.1 - 64)) 1 1) := by rw [hX]; rfl
  have h7 := h1.len
  rw [h6]
  omega
theorem w0_ok : wOk w0 := ⟨by show 0 < 8; omega, by show 0 < 2 ^ 0; decide⟩
theorem putsLen_cons (p : Nat × Nat) (l : List (Nat × Nat)) : putsLen (p :: l) = p.1 + putsLen l := rfl
theorem putsLen_append (a b : List (Nat × Nat)) : putsLen (a ++ b) = putsLen a + putsLen b := by
  unfold putsLen; rw [List.map_append, sumL_append]
theorem puts_le {l : List (Nat × Nat)} (h : putsOk l) : (bytesS (putsS w0 l)).length ≤ putsLen l / 8 + 1 := by
  have h1 := bytesS_len (putsS w0 l)
  have h2 := (putsS_facts l w0 w0_ok h).2
  have h3 : wLen w0 = 0 := rfl
  rw [h3] at h2
  omega
theorem body_len {lens : List Nat} (h : ∀ x ∈ lens, x ≤ 11) (l : List UInt8) : (bodyB lens l).length ≤ 2 * l.length + 1 := by
  have h1 := puts_le (encP_ok lens l)
  have h2 := encP_len lens h l
  show (bytesS (putsS w0 (encP lens l))).length ≤ _
  omega
theorem tabP_ok {l : List Nat} (h : ∀ x ∈ l, x ≤ 11) : ∀ f i, putsOk (tabP l f i)
  | 0, _ => fun p hp => by cases hp
  | f + 1, i => by
    rw [tabP]
    split
    · split
      · intro p hp
        rcases List.mem_cons.1 hp with e | hp
        · subst e; exact ⟨by show 4 ≤ 32; omega, by show 0 < 2 ^ 4; decide⟩
        · rcases List.mem_cons.1 hp with e | hp
          · subst e; exact ⟨by show 4 ≤ 32; omega, by have := zr_le l 15 i; show zr l 15 i < 2 ^ 4; omega⟩
          · exact tabP_ok h f _ p hp
      · intro p hp
        rcases List.mem_cons.1 hp with e | hp
        · subst e; exact ⟨by show 4 ≤ 32; omega, by have := getD_leA h i; show l.getD i 0 < 2 ^ 4; omega⟩
        · exact tabP_ok h f _ p hp
    · intro p hp; cases hp
theorem tabP_len (l : List Nat) : ∀ f i, putsLen (tabP l f i) ≤ 8 * f
  | 0, _ => Nat.le_refl _
  | f + 1, i => by
    rw [tabP]
    split
    · split
      · have := tabP_len l f (i + zr l 15 i + 1)
        rw [putsLen_cons, putsLen_cons]
        show 4 + (4 + _) ≤ _; omega
      · have := tabP_len l f (i + 1)
        rw [putsLen_cons]
        show 4 + _ ≤ _; omega
    · exact Nat.zero_le _
def tabAll (l : List Nat) : List (Nat × Nat) := (8, l.length - 1) :: tabP l l.length 0
theorem tabAll_ok {l : List Nat} (hm : mayL l = true) : putsOk (tabAll l) := by
  obtain ⟨h1, h2, h3⟩ := mayL_facts hm
  intro p hp
  rcases List.mem_cons.1 hp with e | hp
  · subst e; exact ⟨by show 8 ≤ 32; omega, by show l.length - 1 < 2 ^ 8; omega⟩
  · exact tabP_ok h3 _ _ p hp
theorem table_len {l : List Nat} (hm : mayL l = true) : (tableB l).length ≤ 300 := by
  have h1 := puts_le (tabAll_ok hm)
  have h2 := tabP_len l l.length 0
  have h3 := (mayL_facts hm).2.1
  have h4 : putsLen (tabAll l) = 8 + putsLen (tabP l l.length 0) := rfl
  show (bytesS (putsS w0 (tabAll l))).length ≤ _
  omega
end Go.Proofs.YtaelgbbnmjbjiaaGreat
