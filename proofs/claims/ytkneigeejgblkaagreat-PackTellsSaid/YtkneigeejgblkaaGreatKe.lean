/-
  Parts of the proofs about package pack, in the order in which they build: M4, M5, T8a, T8b, T8c, T8d, I2, I3, T8e, I4, T9a, T9b, T9, L0.
-/
import Derived.Test.YtkneigeejgblkaaGreatKd
import Derived.WalkMore
import Derived.StillTailTactics
import Derived.Deep.QuietTactic
import Derived.Deep.MidRow
import Derived.Deep.CutBlock
import Derived.Deep.CutRange
import Derived.Deep.RegionWith
set_option linter.unusedSimpArgs false
set_option linter.unusedVariables false
/-
  Walks of package match: the best match at a place.
-/
namespace Go.Proofs.YtkneigeejgblkaaGreat
open Go.RowKit

/-- what a match at a place may be -/
def BestOk (l : List UInt8) (i L D : Nat) : Prop := (L = 0 ∧ D = 0) ∨ (4 ≤ L ∧ L ≤ 259 ∧ i + L ≤ l.length ∧ 1 ≤ D ∧ D ≤ i ∧ ∀ j, j < L → l.getD (i - D + j) 0 = l.getD (i + j) 0)

set_option maxHeartbeats 4000000 in
set_option maxRecDepth 10000 in
theorem mBest (B g : Nat) (l : List UInt8) (A : Option Addr) (n c win : Nat) (head : Nat → Nat) (Aa : Option Addr) (ca known : Nat) (ah : List Nat) (i : Nat) (w : World) (h : Fin_ w B g l A n c win head Aa ca known ah) (hl : l.length = n) (hn : n ≤ 65536) (hc : n ≤ c) (hi : i ≤ n) (hki : known ≤ i) (hwin : win ≤ 65536) :
    Calls Tryz.prog 37 #[.pointer (some ⟨g, 0, none⟩), .int .i64 (i : Int)] w fun e w' => (∃ L D : Nat, e = .returned (.tuple #[.int .i64 (L : Int), .int .i64 (D : Int)]) ∧ BestOk l i L D) ∧ Below B w w' ∧ Two g Aa w w' ∧ ∃ head' known' ah', known' ≤ i ∧ Fin_ w' B g l A n c win head' Aa ca known' ah' := by
  have HF0 := Lib.hid h
  have HL := Lib.hid hl
  have c0 := h.c0
  clear h hl
  have e1 : IntKind.i64.wrap ((i : Int) + 4) = (i : Int) + 4 := wrapi64 (by omega) (by omega)
  go_enter Tryz.func37, Tryz.ntmps37
  by_cases h4 : i + 4 ≤ n
  · have g1 : decide ((n : Int) < (i : Int) + 4) = false := decide_eq_false (by omega)
    have HK := Lib.hid (mLink B g l A n c win head Aa ca known ah i w HF0.out HL.out hn hc hi hki)
    go_wp2_with fail
    go_step3
    go_wp2_with fail
    clear e1 g1 c0
    refine HK.out.mono ?_
    rintro e w1 ⟨⟨v, rfl⟩, hb1, ht1, head1, known1, ah1, hk1, hf1⟩
    have HB1 := Lib.hid hb1
    have HF1 := Lib.hid hf1
    have HT1 := Lib.hid ht1
    clear hb1 hf1 ht1 HK
    obtain ⟨m, hmk, hcall⟩ : ∃ m, m < 4096 ∧ ∀ q, Calls Tryz.prog 75 #[.pointer (some ⟨g, 0, none⟩), .int .i64 (i : Int)] (w1.drewN q) fun e w' => e = .returned (.int .i64 (m : Nat)) ∧ ∃ p, w' = (w1.drewN q).drewN p :=
      ⟨_, markL_lt l i, fun q => mMark g A n c i l (w1.drewN q) (HF1.out.later (below_drewN w1 q)).c0 HL.out (HF1.out.later (below_drewN w1 q)).data (by omega) hc h4⟩
    have HMk := Lib.hid hcall
    clear hcall
    go_wp2_with fail
    go_step3
    go_wp2_with fail
    have cH := HF1.out.cH hmk
    have i1 : (0 : Int) ≤ (m : Int) := by omega
    have i2 : (m : Int) < 4096 := by omega
    go_quiet ((go_at_call 75; exact Calls.quiet_of (HMk.out _)))
    clear cH i1 i2 HMk
    go_wp2_with fail
    have hm1 := HF1.out.h1 m hmk
    have HH2 := Lib.hid HF1.out.h2
    go_loopg [6, 7, 8] (head1 m) (fun gg s6 s7 s8 wr => ∃ L D a q : Nat, s6 = .int .i64 (L : Int) ∧ s7 = .int .i64 (D : Int) ∧ s8 = .int .i64 (a : Int) ∧ a ≤ known1 ∧ a ≤ gg ∧ BestOk l i L D ∧ wr = w1.drewN q)
    case atStart => exact ⟨0, 0, head1 m, nq, rfl, rfl, rfl, hm1, Nat.le_refl _, .inl ⟨rfl, rfl⟩, rfl⟩
    case round =>
      obtain ⟨L, D, a, q, rfl, rfl, rfl, hak, hag, hok, rfl⟩ := hrel
      have HOK := Lib.hid hok
      clear hok
      by_cases ha : 0 < a
      · have g1 : decide ((0 : Int) < a) = true := decide_eq_true (by omega)
        have e1 : IntKind.i64.wrap ((a : Int) - 1) = ((a - 1 : Nat) : Int) := by rw [wrapi64 (by omega) (by omega)]; omega
        obtain ⟨d, hd⟩ : ∃ d, i - (a - 1) = d := ⟨_, rfl⟩
        have e2 : IntKind.i64.wrap ((i : Int) - ((a - 1 : Nat) : Int)) = (d : Int) := by rw [wrapi64 (by omega) (by omega)]; omega
        have HD := Lib.hid hd
        clear hd
        have HFq := Lib.hid (HF1.out.later (below_drewN w1 q))
        have HSame := Lib.hid (mSame g A n c (a - 1) i l (w1.drewN q) HFq.out.c0 HL.out HFq.out.data (by omega) (by omega) (by omega))
        go_wp2_with fail
        refine HSame.out.mono ?_
        rintro e w2 ⟨M, rfl, hs, q2, rfl⟩
        clear HSame
        have HS := Lib.hid hs
        have hM : M ≤ 259 := hs.1
        clear hs
        have c1 := HF1.out.c1
        obtain ⟨ga, xa, hAa, -, -, hxa, hcga, -⟩ := Own.at_ HF1.out.ahead (k := a - 1) (by omega)
        subst hAa
        have hlen := OwnN.length HF1.out.ahead
        have hxv : xa = .int .i64 ((ah1.getD (a - 1) 0 : Nat) : Int) := by
          rw [List.getElem?_map, List.getElem?_eq_getElem (by omega)] at hxa
          rw [← Option.some.inj hxa]
          simp [List.getD, List.getElem?_eq_getElem (show a - 1 < ah1.length by omega), natv]
        subst hxv
        have hle := HH2.out (a - 1) (by omega)
        clear hxa hlen
        have cA := HF1.out.cA
        obtain ⟨y, hy⟩ : ∃ y, ah1.getD (a - 1) 0 = y := ⟨_, rfl⟩
        rw [hy] at hcga hle
        clear hy
        have i3 : (0 : Int) ≤ ((a - 1 : Nat) : Int) := by omega
        have i4 : ((a - 1 : Nat) : Int) < (n : Int) := by omega
        by_cases hw : win < d ∨ L = 259
        · have gw : (decide ((win : Int) < (d : Int)) = true) ∨ (decide ((win : Int) < (d : Int)) = false ∧ ((L : Int) == 259) = true) := by
            by_cases h : win < d
            · exact .inl (decide_eq_true (by omega))
            · refine .inr ⟨decide_eq_false (by omega), ?_⟩
              have : L = 259 := by omega
              rw [this]; rfl
          clear hw
          rcases gw with gw | ⟨gw, gl⟩
          · have gn := of_decide_eq_true gw
            go_wp2
            all_goals first
              | (exfalso; omega)
              | (rw [Exit.noGoto_ret]
                 go_ret2
                 exact ⟨⟨L, D, rfl, HOK.out⟩, HB1.out.trans ((below_drewN w1 _).mono HF1.out.size), HT1.out.drewN _, _, _, _, hk1, HF1.out.later (below_drewN w1 _)⟩)
          · have gn := of_decide_eq_false gw
            have gn2 : L = 259 := by have := eq_of_beq gl; omega
            go_wp2
            all_goals first
              | (exfalso; omega)
              | (rw [Exit.noGoto_ret]
                 go_ret2
                 exact ⟨⟨259, D, rfl, gn2 ▸ HOK.out⟩, HB1.out.trans ((below_drewN w1 _).mono HF1.out.size), HT1.out.drewN _, _, _, _, hk1, HF1.out.later (below_drewN w1 _)⟩)
        · have gw : decide ((win : Int) < (d : Int)) = false := decide_eq_false (by omega)
          have gl : ((L : Int) == 259) = false := beq_eq_false_iff_ne.2 (by omega)
          have gn : d ≤ win := by have := of_decide_eq_false gw; omega
          clear hw
          by_cases hm : 4 ≤ M ∧ L < M
          · have g4 : decide ((4 : Int) ≤ (M : Int)) = true := decide_eq_true (by omega)
            have g5 : decide ((L : Int) < (M : Int)) = true := decide_eq_true (by omega)
            have HOK2 := Lib.hid (show BestOk l i M d from .inr ⟨hm.1, hM, by have := HS.out.2.1; omega, by have := HD.out; omega, by have := HD.out; omega, fun j hj => by rw [show i - d = a - 1 by have := HD.out; omega]; exact HS.out.2.2 j hj⟩)
            go_wp2
            go_roundg y
            case measure => omega
            case rel => exact ⟨M, d, y, _, rfl, rfl, rfl, by omega, Nat.le_refl _, HOK2.out, rfl⟩
          · by_cases h4m : 4 ≤ M
            · have g4 : decide ((4 : Int) ≤ (M : Int)) = true := decide_eq_true (by omega)
              have g5 : decide ((L : Int) < (M : Int)) = false := decide_eq_false (by omega)
              go_wp2
              go_roundg y
              case measure => omega
              case rel => exact ⟨L, D, y, _, rfl, rfl, rfl, by omega, Nat.le_refl _, HOK.out, rfl⟩
            · have g4 : decide ((4 : Int) ≤ (M : Int)) = false := decide_eq_false (by omega)
              go_wp2
              go_roundg y
              case measure => omega
              case rel => exact ⟨L, D, y, _, rfl, rfl, rfl, by omega, Nat.le_refl _, HOK.out, rfl⟩
      · have g1 : decide ((0 : Int) < a) = false := decide_eq_false (by omega)
        go_wp2
        rw [Exit.noGoto_ret]
        go_ret2
        exact ⟨⟨L, D, rfl, HOK.out⟩, HB1.out.trans ((below_drewN w1 _).mono HF1.out.size), HT1.out.drewN _, _, _, _, hk1, HF1.out.later (below_drewN w1 _)⟩
  · have g1 : decide ((n : Int) < (i : Int) + 4) = true := decide_eq_true (by omega)
    go_wp2
    go_step3
    go_wp2
    try rw [Exit.noGoto_ret]
    go_ret2
    exact ⟨⟨0, 0, rfl, .inl ⟨rfl, rfl⟩⟩, Below.refl _ _, Two.refl _ _ _, head, known, ah, hki, HF0.out⟩
end Go.Proofs.YtkneigeejgblkaaGreat

/-
  Walks of package match: the steps by which bytes are made.
-/
namespace Go.Proofs.YtkneigeejgblkaaGreat
open Go.RowKit

/-- steps that may be done: each from a place on -/
def FitL (l : List UInt8) : Nat → List Sq → Prop
  | p, [] => p ≤ l.length
  | p, x :: r => 4 ≤ x.len ∧ x.len ≤ 259 ∧ p + x.lits + x.len ≤ l.length ∧ 1 ≤ x.dist ∧ x.dist ≤ p + x.lits ∧ (∀ j, j < x.len → l.getD (p + x.lits - x.dist + j) 0 = l.getD (p + x.lits + j) 0) ∧ FitL l (p + x.lits + x.len) r
/-- where they end -/
def fitEnd : Nat → List Sq → Nat
  | p, [] => p
  | p, x :: r => fitEnd (p + x.lits + x.len) r

theorem FitL.append {l : List UInt8} {x : Sq} : ∀ {L : List Sq} {p : Nat}, FitL l p L → FitL l (fitEnd p L) [x] → FitL l p (L ++ [x])
  | [], _, _, h => h
  | _ :: _, _, h, h2 => ⟨h.1, h.2.1, h.2.2.1, h.2.2.2.1, h.2.2.2.2.1, h.2.2.2.2.2.1, FitL.append h.2.2.2.2.2.2 h2⟩
theorem fitEnd_append (x : Sq) : ∀ (L : List Sq) (p : Nat), fitEnd p (L ++ [x]) = fitEnd p L + x.lits + x.len
  | [], _ => rfl
  | _ :: r, _ => fitEnd_append x r _

theorem elemN_info : (Tryz.prog.info? 3).map (fun i => (i.zero, i.size, i.bytes)) = some (some (.int .i64 0), 1, 8) := by kernel_rfl

theorem made_zeros (n : Nat) : (madeCells #[Value.int .i64 0] n).toList = (List.replicate n 0).map natv := by
  unfold madeCells
  apply List.ext_getElem
  · simp
  · intro i h1 h2
    simp [natv, Nat.mod_one]

theorem zero_gen2 (p : Nat) (a b v y z x0 x1 x2 : Value) : (((((a :: b :: (List.replicate p v ++ [y, z])).toArray).setIfInBounds 0 x0).setIfInBounds 1 x1).setIfInBounds (p + 2) x2).size = p + 4 ∧
    ∀ i, i < p + 4 → (((((a :: b :: (List.replicate p v ++ [y, z])).toArray).setIfInBounds 0 x0).setIfInBounds 1 x1).setIfInBounds (p + 2) x2)[i]? = some (if i = 0 then x0 else if i = 1 then x1 else if i < p + 2 then v else if i = p + 2 then x2 else z) := by
  constructor
  · simp
  · intro i hi
    simp only [Array.getElem?_setIfInBounds]
    by_cases e1 : p + 2 = i
    · subst e1; simp
    · rw [if_neg e1]
      by_cases e2 : 1 = i
      · subst e2; simp
      · rw [if_neg e2]
        by_cases e3 : 0 = i
        · subst e3; simp
        · rw [if_neg e3, if_neg (fun e => e3 e.symm), if_neg (fun e => e2 e.symm), List.getElem?_toArray]
          obtain ⟨j, rfl⟩ : ∃ j, i = j + 1 + 1 := ⟨i - 2, by omega⟩
          rw [List.getElem?_cons_succ, List.getElem?_cons_succ]
          by_cases e4 : j < p
          · rw [if_pos (by omega), List.getElem?_append_left (by rw [List.length_replicate]; omega), List.getElem?_replicate, if_pos e4]
          · have : j = p + 1 := by omega
            subst this
            rw [if_neg (by omega), if_neg (by omega), List.getElem?_append_right (by rw [List.length_replicate]; omega), List.length_replicate, show p + 1 - p = 1 by omega]
            rfl

theorem zero_finder : Tryz.zeroCells60 = (Value.slice none 0 0 :: Value.int .i64 0 :: (List.replicate 4096 (Value.int .i64 0) ++ [Value.slice none 0 0, Value.int .i64 0])).toArray := by kernel_rfl

theorem zero_fin (A : Option Addr) (n c win : Nat) (Aa : Option Addr) (ca : Nat) (x y z : Value) (hx : x = .slice A n c) (hy : y = .int .i64 (win : Int)) (hz : z = .slice Aa n ca) :
    (((Tryz.zeroCells60.setIfInBounds 0 x).setIfInBounds 1 y).setIfInBounds 4098 z).size = 4100 ∧ ∀ i, i < 4100 → (((Tryz.zeroCells60.setIfInBounds 0 x).setIfInBounds 1 y).setIfInBounds 4098 z)[i]? = some (finF A n c win (fun _ => 0) Aa ca 0 i) := by
  subst hx hy hz
  rw [zero_finder]
  obtain ⟨h1, h2⟩ := zero_gen2 4096 (Value.slice none 0 0) (Value.int .i64 0) (Value.int .i64 0) (Value.slice none 0 0) (Value.int .i64 0) (.slice A n c) (.int .i64 (win : Int)) (.slice Aa n ca)
  refine ⟨h1, fun i hi => (h2 i hi).trans ?_⟩
  unfold finF
  rfl

set_option maxHeartbeats 4000000 in
set_option maxRecDepth 10000 in
theorem mFind (A : Option Addr) (n c : Nat) (l : List UInt8) (w : World) (hl : l.length = n) (hr : Bs w A l) (hn : n ≤ 65536) (hc : n ≤ c) (hlow : ∀ b, bk A = some b → b < w.heap.size) :
    Calls Tryz.prog 17 #[.slice A n c, .int .i64 65536] w fun e w' => ∃ S m cs L, e = .returned (.tuple #[.slice S m cs, .int .i64 0]) ∧ OwnS w' w.heap.size S m cs L ∧ FitL l 0 L ∧ Below w.heap.size w w' := by
  have HL := Lib.hid hl
  have HR := Lib.hid hr
  have HLow := Lib.hid hlow
  clear hl hr hlow
  have g1 : decide ((65536 : Int) < (n : Int)) = false := decide_eq_false (by omega)
  obtain ⟨ti, hi, hz0, hz1, hz2⟩ := info_parts elemN_info
  go_enter Tryz.func17, Tryz.ntmps17
  go_wp2_with (at_make; refine wpList_make_full _ rfl _ _ 57 rfl w.heap.size 3 ti _ 1 Tryz.underlying57 hi hz0 hz1 .i64 .i64 n n n rfl rfl rfl rfl (by rw [hz2]; omega) (by unfold maxLen; omega) (Nat.le_refl _) ?_)
  intro w1 hown1 hg1
  rw [made_zeros] at hown1
  have hb1 : Below w.heap.size w w1 := (Below.refl _ _).grown hg1 (Nat.le_refl _) (fun k hk => by cases hk)
  have hfin : Fin_ (w1.alloc (.cells (((Tryz.zeroCells60.setIfInBounds 0 (.slice A n c)).setIfInBounds 1 (.int .i64 65536)).setIfInBounds 4098 (.slice (some ⟨w.heap.size, 0, none⟩) n n)) 60)) w.heap.size w1.heap.size l A n c 65536 (fun _ => 0) (some ⟨w.heap.size, 0, none⟩) n 0 (List.replicate n 0) := by
    have hz := zero_fin A n c 65536 (some ⟨w.heap.size, 0, none⟩) n _ _ _ rfl rfl rfl
    refine ⟨Cells.new w1 60 _ hz.1 hz.2, (HR.out.later hb1).later ((Below.refl _ _).alloc (Nat.le_refl _) _), Own.later (w := w1) hown1 ((Below.refl _ _).alloc (Nat.le_refl _) _), fun _ _ => Nat.le_refl _, fun p hp => by omega, Nat.zero_le _, HLow.out, hb1.size, ?_⟩
    have := ((Below.refl w1.heap.size w1).alloc (Nat.le_refl _) (.cells (((Tryz.zeroCells60.setIfInBounds 0 (.slice A n c)).setIfInBounds 1 (.int .i64 65536)).setIfInBounds 4098 (.slice (some ⟨w.heap.size, 0, none⟩) n n)) 60)).size
    have := hb1.size
    omega
  have HF1 := Lib.hid hfin
  have HB1 := Lib.hid (hb1.alloc hb1.size (.cells (((Tryz.zeroCells60.setIfInBounds 0 (.slice A n c)).setIfInBounds 1 (.int .i64 65536)).setIfInBounds 4098 (.slice (some ⟨w.heap.size, 0, none⟩) n n)) 60))
  clear hfin hb1 hown1 hg1 hi hz0 hz1 hz2
  go_wp2_with fail
  obtain ⟨w2, hw2⟩ : ∃ w2, w2 = w1.alloc (.cells (((Tryz.zeroCells60.setIfInBounds 0 (.slice A n c)).setIfInBounds 1 (.int .i64 65536)).setIfInBounds 4098 (.slice (some ⟨w.heap.size, 0, none⟩) n n)) 60) := ⟨_, rfl⟩
  rw [← hw2] at HF1 HB1 ⊢
  clear hw2
  obtain ⟨g, hg⟩ : ∃ g, g = w1.heap.size := ⟨_, rfl⟩
  rw [← hg] at HF1 ⊢
  clear hg
  refine (mBest w.heap.size g l A n c 65536 _ _ n 0 _ 0 w2 HF1.out HL.out hn hc (Nat.zero_le _) (Nat.le_refl _) (Nat.le_refl _)).mono ?_
  rintro e w3 ⟨⟨nn, dd, rfl, hok⟩, hb3, -, head3, known3, ah3, hk3, hf3⟩
  have HF3 := Lib.hid hf3
  have HB3 := Lib.hid (HB1.out.trans hb3)
  have HOK := Lib.hid hok
  clear hf3 hb3 hok HF1 HB1
  go_wp2_with fail
  go_loopg [7, 8, 9, 10, 11] n (fun gg s7 s8 s9 s10 s11 wr => ∃ (So : Option Addr) (mo co : Nat) (L : List Sq) (from_ i nn dd : Nat) (head : Nat → Nat) (known : Nat) (ah : List Nat), s7 = .slice So mo co ∧ s8 = .int .i64 (from_ : Int) ∧ s9 = .int .i64 (nn : Int) ∧ s10 = .int .i64 (dd : Int) ∧ s11 = .int .i64 (i : Int) ∧ OwnS wr w.heap.size So mo co L ∧ mo ≤ i ∧ fitEnd 0 L = from_ ∧ FitL l 0 L ∧ from_ ≤ i ∧ i ≤ n ∧ n - i ≤ gg ∧ BestOk l i nn dd ∧ known ≤ i ∧ Fin_ wr w.heap.size g l A n c 65536 head (some ⟨w.heap.size, 0, none⟩) n known ah ∧ Below w.heap.size w wr)
  case atStart => exact ⟨none, 0, 0, [], 0, 0, nn, dd, head3, known3, ah3, rfl, rfl, rfl, rfl, rfl, OwnS.nil _ _, Nat.le_refl _, rfl, Nat.zero_le _, Nat.le_refl _, Nat.zero_le _, by omega, HOK.out, hk3, HF3.out, HB3.out⟩
  case round =>
    clear HF3 HB3 HOK hk3
    obtain ⟨So, mo, co, L, from_, i, nn, dd, head, known, ah, rfl, rfl, rfl, rfl, rfl, hso, hmo, hend, hfit, hfi, hi, hgg, hok, hki, hf, hb⟩ := hrel
    have HSo := Lib.hid hso
    have HEnd := Lib.hid hend
    have HFit := Lib.hid hfit
    have HOK := Lib.hid hok
    have HF := Lib.hid hf
    have HB := Lib.hid hb
    clear hso hend hfit hok hf hb
    have hn1 : bk So ≠ some g := by
      obtain ⟨cs, h1, -⟩ := HF.out.cells
      exact HSo.out.ne_blk h1 (by decide)
    have hn2 := HSo.out.ne_own HF.out.ahead (by decide)
    by_cases hin : i < n
    · have g1 : decide ((i : Int) < n) = true := decide_eq_true (by omega)
      have hbe : Calls Tryz.prog 37 #[.pointer (some ⟨g, 0, none⟩), .int .i64 ((i : Int) + 1)] wr _ := mBest w.heap.size g l A n c 65536 _ _ n known _ (i + 1) wr HF.out HL.out hn hc (by omega) (by omega) (Nat.le_refl _)
      have HBe := Lib.hid hbe
      clear hbe
      by_cases h0 : nn = 0
      · have g2 : ((nn : Int) == 0) = true := by rw [h0]; rfl
        clear h0
        go_wp2_with fail
        refine HBe.out.mono ?_
        rintro e w4 ⟨⟨nn4, dd4, rfl, hok4⟩, hb4, ht4, head4, known4, ah4, hk4, hf4⟩
        have HF4 := Lib.hid hf4
        have HB4 := Lib.hid (HB.out.trans hb4)
        have HSo4 := Lib.hid (HSo.out.two ht4 hn1 hn2)
        have HOK4 := Lib.hid hok4
        clear hf4 hb4 ht4 hok4 g2 HBe
        go_wp2
        go_roundg (n - (i + 1))
        case measure => omega
        case rel => exact ⟨So, mo, co, L, from_, i + 1, nn4, dd4, head4, known4, ah4, rfl, rfl, rfl, rfl, by go_num, HSo4.out, by omega, HEnd.out, HFit.out, by omega, by omega, by omega, HOK4.out, hk4, HF4.out, HB4.out⟩
      · have g2 : ((nn : Int) == 0) = false := beq_eq_false_iff_ne.2 (by omega)
        have HOKn := Lib.hid (HOK.out.resolve_left (fun h => h0 h.1))
        clear h0
        go_wp2_with fail
        refine HBe.out.mono ?_
        rintro e w4 ⟨⟨nn4, dd4, rfl, hok4⟩, hb4, ht4, head4, known4, ah4, hk4, hf4⟩
        have HF4 := Lib.hid hf4
        have HB4 := Lib.hid (HB.out.trans hb4)
        have HSo4 := Lib.hid (HSo.out.two ht4 hn1 hn2)
        have HOK4 := Lib.hid hok4
        clear hf4 hb4 ht4 hok4 g2 HBe
        by_cases hm : nn < nn4
        · have g3 : decide ((nn : Int) < nn4) = true := decide_eq_true (by omega)
          go_wp2
          go_roundg (n - (i + 1))
          case measure => omega
          case rel => exact ⟨So, mo, co, L, from_, i + 1, nn4, dd4, head4, known4, ah4, rfl, rfl, rfl, rfl, by go_num, HSo4.out, by omega, HEnd.out, HFit.out, by omega, by omega, by omega, HOK4.out, hk4, HF4.out, HB4.out⟩
        · have g3 : decide ((nn : Int) < nn4) = false := decide_eq_false (by omega)
          have e1 : IntKind.i64.wrap ((i : Int) - from_) = ((i - from_ : Nat) : Int) := by rw [wrapi64 (by omega) (by omega)]; omega
          have HN2 := Lib.hid (show nn ≤ 259 ∧ i + nn ≤ n ∧ 4 ≤ nn from ⟨HOKn.out.2.1, by have := HOKn.out.2.2.1; rw [HL.out] at this; exact this, HOKn.out.1⟩)
          have hi2 := HN2.out
          go_wp2_with (at_builtin; go_loud (refine wpList_append_sq rfl _ _ rfl w.heap.size So mo co L w4 ⟨i - from_, nn, dd⟩ ?hw ?hs HSo4.out ?hx ?hb ?hbase ?_; (case hs => simp [Act.eval]); (case hx => simp [Act.eval])))
          case hw => rfl
          case hb => omega
          case hbase => exact HB4.out.size
          intro A9 c9 w9 hown9 hg9
          have hf9 := HF4.out.kept hg9 hn1 (hn2.elim (fun h => .inr (by rw [h]; simp [bk])) (fun h => .inr (fun e => h e.symm))) (fun k hk => (HSo.out.lt hk).1)
          have HF9 := Lib.hid hf9
          have HB9 := Lib.hid (HB4.out.grown hg9 HB4.out.size (fun k hk => (HSo.out.lt hk).1))
          have HSo9 := Lib.hid hown9
          have hfit9 : FitL l 0 (L ++ [⟨i - from_, nn, dd⟩]) := by
            refine HFit.out.append ?_
            rw [HEnd.out]
            have h := HOKn.out
            show 4 ≤ nn ∧ nn ≤ 259 ∧ from_ + (i - from_) + nn ≤ l.length ∧ 1 ≤ dd ∧ dd ≤ from_ + (i - from_) ∧ (∀ j, j < nn → l.getD (from_ + (i - from_) - dd + j) 0 = l.getD (from_ + (i - from_) + j) 0) ∧ from_ + (i - from_) + nn ≤ l.length
            rw [show from_ + (i - from_) = i by omega]
            exact ⟨h.1, h.2.1, h.2.2.1, h.2.2.2.1, h.2.2.2.2.1, h.2.2.2.2.2, h.2.2.1⟩
          have HFit9 := Lib.hid hfit9
          have HEnd9 := Lib.hid (show fitEnd 0 (L ++ [⟨i - from_, nn, dd⟩]) = i + nn by rw [fitEnd_append, HEnd.out]; show from_ + (i - from_) + nn = _; omega)
          clear hf9 hown9 hg9 hfit9
          have hbe : Calls Tryz.prog 37 #[.pointer (some ⟨g, 0, none⟩), .int .i64 ((i : Int) + nn)] w9 _ := mBest w.heap.size g l A n c 65536 _ _ n known4 _ (i + nn) w9 HF9.out HL.out hn hc (by omega) (by omega) (Nat.le_refl _)
          have HBe := Lib.hid hbe
          clear hbe
          go_wp2_with fail
          refine HBe.out.mono ?_
          rintro e w5 ⟨⟨nn5, dd5, rfl, hok5⟩, hb5, ht5, head5, known5, ah5, hk5, hf5⟩
          have hn3 : bk A9 ≠ some g := by
            obtain ⟨cs, h1, -⟩ := HF9.out.cells
            exact HSo9.out.ne_blk h1 (by decide)
          have hn4 := HSo9.out.ne_own HF9.out.ahead (by decide)
          have HF5 := Lib.hid hf5
          have HB5 := Lib.hid (HB9.out.trans hb5)
          have HSo5 := Lib.hid (HSo9.out.two ht5 hn3 hn4)
          have HOK5 := Lib.hid hok5
          clear hf5 hb5 ht5 hok5 HBe
          go_wp2
          go_roundg (n - (i + nn))
          case measure => omega
          case rel => exact ⟨A9, mo + 1, c9, L ++ [⟨i - from_, nn, dd⟩], i + nn, i + nn, nn5, dd5, head5, known5, ah5, by go_num, by go_num, rfl, rfl, by go_num, HSo5.out, by omega, HEnd9.out, HFit9.out, by omega, by omega, by omega, HOK5.out, hk5, HF5.out, HB5.out⟩
    · have g1 : decide ((i : Int) < n) = false := decide_eq_false (by omega)
      go_wp2
      go_ret2
      exact ⟨So, mo, co, L, rfl, HSo.out, HFit.out, HB.out⟩
end Go.Proofs.YtkneigeejgblkaaGreat

/-
  Words for package huff's tree: leaves, what lies where while trees are joined.
-/
namespace Go.Proofs.YtkneigeejgblkaaGreat
open Go.RowKit

/-- the bytes of all things lie in rows of their own -/
def PartsR (w : World) (go : Nat) (l : List Th) : Prop := ∀ x ∈ l, OwnN w (go + 1) x.pa x.pn x.pc x.ps
theorem PartsR.perm {w : World} {go : Nat} {l l' : List Th} (h : PartsR w go l) (hp : ∀ x ∈ l', x ∈ l) : PartsR w go l' := fun x hx => h x (hp x hx)
theorem PartsR.later {w w' : World} {go : Nat} {l : List Th} (h : PartsR w go l) (hb : Below w.heap.size w w') : PartsR w' go l := fun x hx => Own.later (h x hx) hb
theorem PartsR.two {w w' : World} {go B hb n c : Nat} {A : Option Addr} {l ts : List Th} (h : PartsR w go l) (hh : HeapR w B hb A n c ts) (ht : Two hb A w w') : PartsR w' go l := fun x hx =>
  ht.own (h x hx) (Own.ne_blk (h x hx) hh.box (by decide)) (by
    rcases hh.row.ne_own (h x hx) (by decide) with h1 | h1
    · cases hA : bk x.pa with
      | none => exact .inl rfl
      | some k => exact .inr (by rw [h1]; simp)
    · exact .inr (fun e => h1 e.symm))
theorem own_one (w : World) (v : Value) (t : TypeId) : Own (w.alloc (.cells #[v] t)) w.heap.size t (some ⟨w.heap.size, 0, none⟩) 1 1 [v] :=
  ⟨rfl, .inr ⟨w.heap.size, 1, #[v], rfl, Nat.le_refl _, World.alloc_heap_new w _, Nat.le_refl _, by unfold maxLen; omega, rfl, rfl⟩⟩

theorem two_below {w w' : World} {B b hb n c : Nat} {A : Option Addr} {l : List Th} (hh : HeapR w B hb A n c l) (ht : Two hb A w w') (h1 : b ≤ B) (h2 : b ≤ hb) (h3 : b ≤ w.heap.size) : Below b w w' :=
  ⟨ht.os, ht.tape, ht.output, ht.size, fun k hk => ht.block k (by omega) (by omega) (fun e => by have := (hh.row.lt e).1; omega)⟩

/-- the leaves -/
structure LeafR (counts : List Nat) (k : Nat) (ts : List Th) : Prop where
  forest : Forest ((List.range k).filter (fun p => decide (0 < counts.getD p 0))) (sumL (counts.take k)) (List.replicate counts.length 0) ts
  low : ∀ x ∈ ts, x.ht = 0
  len : ts.length ≤ k

theorem getD_rep (n p : Nat) : (List.replicate n 0).getD p 0 = 0 := by
  simp only [List.getD, List.getElem?_replicate]
  split <;> rfl

theorem LeafR.skip {counts : List Nat} {k : Nat} {ts : List Th} (h : LeafR counts k ts) (hc : counts[k]? = some 0) : LeafR counts (k + 1) ts := by
  refine ⟨?_, h.low, Nat.le_succ_of_le h.len⟩
  have e : (List.range (k + 1)).filter (fun p => decide (0 < counts.getD p 0)) = (List.range k).filter (fun p => decide (0 < counts.getD p 0)) := by
    rw [List.range_succ, List.filter_append]
    simp [List.getD, hc]
  rw [e, sumL_step hc, Nat.add_zero]
  exact h.forest
theorem LeafR.put {counts : List Nat} {k c : Nat} {ts : List Th} (h : LeafR counts k ts) (hc : counts[k]? = some c) (h0 : 0 < c) (num : Nat) (pa : Option Addr) (pn pc : Nat) : LeafR counts (k + 1) (ts ++ [⟨c, num, pa, pn, pc, [k], 0⟩]) := by
  have e : (List.range (k + 1)).filter (fun p => decide (0 < counts.getD p 0)) = (List.range k).filter (fun p => decide (0 < counts.getD p 0)) ++ [k] := by
    rw [List.range_succ, List.filter_append]
    simp [List.getD, hc, h0]
  refine ⟨⟨fun x hx => ?_, ?_, ?_, ?_, fun p _ => getD_rep _ p⟩, fun x hx => ?_, by rw [List.length_append, List.length_singleton]; have := h.len; omega⟩
  · rcases List.mem_append.1 hx with hx | hx
    · exact h.forest.ok x hx
    · obtain rfl : x = _ := List.mem_singleton.1 hx
      exact ⟨h0, fun p _ => by rw [getD_rep]; exact Nat.zero_le _, fun H _ => by simp only [List.map_cons, List.map_nil, sumL, getD_rep]; simp⟩
  · rw [List.pairwise_append]
    refine ⟨h.forest.pair, by simp, fun x hx y hy => ?_⟩
    obtain rfl : y = _ := List.mem_singleton.1 hy
    have h1 := h.low x hx
    have h2 := (h.forest.ok x hx).fib
    have h3 := fibT_pos x.ht
    refine ⟨?_, ?_⟩
    · rw [h1]; exact h0
    · show 1 ≤ x.wt; omega
  · rw [sumL_step hc, ← h.forest.wts]
    unfold wtsT
    rw [List.map_append, sumL_append]; simp [sumL]
  · rw [e]
    unfold allP
    rw [List.flatMap_append]
    exact h.forest.all.append (List.Perm.of_eq (by simp))
  · rcases List.mem_append.1 hx with hx | hx
    · exact h.low x hx
    · obtain rfl : x = _ := List.mem_singleton.1 hx
      rfl

theorem one_ps {out : List Nat} {x : Th} (h : ThOk out x) (h0 : x.ht = 0) : ∃ p, x.ps = [p] := by
  have h1 := h.kraft 0 (by omega)
  have h2 : x.ps.map (fun p => 2 ^ (0 - out.getD p 0)) = List.replicate x.ps.length 1 := by
    apply List.ext_getElem
    · simp
    · intro i h1 h2; simp
  have h3 : ∀ m : Nat, sumL (List.replicate m 1) = m := by
    intro m
    induction m with
    | zero => rfl
    | succ m ih => rw [List.replicate_succ, sumL, ih]; omega
  rw [h2, h3] at h1
  exact List.length_eq_one_iff.1 h1

theorem TreeOk.one {counts : List Nat} {p : Nat} {x : Th} (h : Forest (posL counts) (sumL counts) (List.replicate counts.length 0) [x]) (hp : x.ps = [p]) : TreeOk counts ((List.replicate counts.length 0).set p 1) ∧ p < counts.length := by
  have hpos : posL counts = [p] := by
    have := h.all
    unfold allP at this
    rw [List.flatMap_cons, List.flatMap_nil, List.append_nil, hp] at this
    exact List.perm_singleton.1 this.symm
  have hlt := posL_lt counts p (by rw [hpos]; exact List.mem_singleton_self _)
  refine ⟨⟨by simp, fun q hq => ?_, 1, ?_, fun q => ?_, .inr ⟨p, hpos, rfl, ?_⟩⟩, hlt⟩
  · rw [getD_set]
    split
    · rename_i h1
      exfalso
      have : p ∈ posL counts := by rw [hpos]; exact List.mem_singleton_self _
      have := (List.mem_filter.1 this).2
      simp only [decide_eq_true_eq] at this
      rw [h1.1] at hq
      omega
    · exact getD_rep _ _
  · have h1 := (h.ok x (List.mem_singleton_self _)).fib
    have h2 := h.wts
    have h3 := fibT_pos x.ht
    rw [wtsT_cons] at h2
    show 1 ≤ _
    omega
  · rw [getD_set]
    split
    · exact Nat.le_refl _
    · rw [getD_rep]; omega
  · rw [getD_set, if_pos ⟨rfl, by rw [List.length_replicate]; exact hlt⟩]

theorem TreeOk.many {counts out : List Nat} {x : Th} (h : Forest (posL counts) (sumL counts) out [x]) (hlen : out.length = counts.length) : TreeOk counts out := by
  have ok := h.ok x (List.mem_singleton_self _)
  have hps : x.ps.Perm (posL counts) := by
    have := h.all
    unfold allP at this
    rw [List.flatMap_cons, List.flatMap_nil, List.append_nil] at this
    exact this
  have hz : ∀ q, q ∉ posL counts → out.getD q 0 = 0 := h.rest
  refine ⟨hlen, fun q hq => hz q (fun hm => ?_), x.ht, ?_, fun q => ?_, .inl ?_⟩
  · have := (List.mem_filter.1 hm).2
    simp only [decide_eq_true_eq] at this
    omega
  · have h1 := ok.fib
    have h2 := h.wts
    rw [wtsT_cons] at h2
    have : wtsT ([] : List Th) = 0 := rfl
    omega
  · by_cases hm : q ∈ posL counts
    · exact ok.le q (hps.symm.subset hm)
    · rw [hz q hm]; exact Nat.zero_le _
  · rw [← ok.kraft x.ht (Nat.le_refl _)]
    exact sumL_perm (hps.symm.map _)

/-- what lies where while trees are joined: ex are those that have been taken out -/
structure TreeR (w0 : World) (hb : Nat) (A : Option Addr) (c n M : Nat) (hs ex : List Th) (out : List Nat) (w : World) : Prop where
  heap : HeapR w (w0.heap.size + 1) hb A M c hs
  all : HAll (fnT hs) M 0
  parts : PartsR w w0.heap.size (ex ++ hs)
  out_ : OwnN w w0.heap.size (some ⟨w0.heap.size, 0, none⟩) n n out
  lt : hb < w.heap.size
  below : Below w0.heap.size w0 w

theorem TreeR.later {w0 w w' : World} {hb c n M : Nat} {A : Option Addr} {hs ex : List Th} {out : List Nat} (h : TreeR w0 hb A c n M hs ex out w) (hb' : Below w.heap.size w w') : TreeR w0 hb A c n M hs ex out w' :=
  ⟨h.heap.later hb', h.all, h.parts.later hb', Own.later h.out_ hb', Nat.lt_of_lt_of_le h.lt hb'.size, h.below.trans (hb'.mono h.below.size)⟩
theorem TreeR.drew {w0 w : World} {hb c n M : Nat} {A : Option Addr} {hs ex : List Th} {out : List Nat} (h : TreeR w0 hb A c n M hs ex out w) : TreeR w0 hb A c n M hs ex out w.drew := h.later (Below.refl _ _).drew
theorem TreeR.alloc {w0 w : World} {hb c n M : Nat} {A : Option Addr} {hs ex : List Th} {out : List Nat} (o : Obj) (h : TreeR w0 hb A c n M hs ex out w) : TreeR w0 hb A c n M hs ex out (w.alloc o) := h.later ((Below.refl _ _).alloc (Nat.le_refl _) _)

theorem own_row_ne {w : World} {B hb n c base n' c' : Nat} {A A' : Option Addr} {ts : List Th} {xs : List Value} (hh : HeapR w B hb A n c ts) (h : Own w base 3 A' n' c' xs) : bk A' ≠ some hb ∧ (bk A' = none ∨ bk A' ≠ bk A) := by
  refine ⟨Own.ne_blk h hh.box (by decide), ?_⟩
  rcases hh.row.ne_own h (by decide) with h1 | h1
  · cases hA : bk A' with
    | none => exact .inl rfl
    | some k => exact .inr (by rw [h1]; simp)
  · exact .inr (fun e => h1 e.symm)

theorem TreeR.two {w0 w w' : World} {hb c n M : Nat} {A : Option Addr} {hs ex : List Th} {out : List Nat} (h : TreeR w0 hb A c n M hs ex out w) (ht : Two hb A w w') (hlt : w0.heap.size < hb) : PartsR w' w0.heap.size (ex ++ hs) ∧ OwnN w' w0.heap.size (some ⟨w0.heap.size, 0, none⟩) n n out ∧ hb < w'.heap.size ∧ Below w0.heap.size w0 w' :=
  ⟨h.parts.two h.heap ht, ht.own h.out_ (own_row_ne h.heap h.out_).1 (own_row_ne h.heap h.out_).2, Nat.lt_of_lt_of_le h.lt ht.size, h.below.trans (two_below h.heap ht (by omega) (by omega) h.below.size)⟩

theorem popAt {w0 w : World} {hb c n M : Nat} {A : Option Addr} {hs ex : List Th} {out : List Nat} (h : TreeR w0 hb A c n (M + 1) hs ex out w) (hM : 1 ≤ M) (hM2 : M ≤ 999999) (hc : M + 1 ≤ c) (hlt : w0.heap.size < hb) :
    Calls Tryz.prog 125 #[.iface 170 (.pointer (some ⟨hb, 0, none⟩))] w fun e w' => ∃ x l', e = .returned (thV x) ∧ TreeR w0 hb A c n M l' (x :: ex) out w' ∧ (x :: l').Perm hs ∧ (∀ y ∈ l', leT x y) ∧ Two hb A w w' := by
  refine (hpPop (w0.heap.size + 1) hb A M c hs w h.heap hM hM2 hc h.all).mono ?_
  rintro e w' ⟨x, l', rfl, hh, hp, ha, hm, ht⟩
  obtain ⟨h1, h2, h3, h4⟩ := h.two ht hlt
  refine ⟨x, l', rfl, ⟨hh, ha, h1.perm (fun y hy => ?_), h2, h3, h4⟩, hp, hm, ht⟩
  rcases List.mem_append.1 hy with hy | hy
  · rcases List.mem_cons.1 hy with rfl | hy
    · exact List.mem_append_right _ (hp.subset (List.mem_cons_self))
    · exact List.mem_append_left _ hy
  · exact List.mem_append_right _ (hp.subset (List.mem_cons_of_mem _ hy))

/-- a variable of a thing, beside the heap -/
structure LocR (w0 : World) (hb : Nat) (A : Option Addr) (b : Nat) (cs : Array Value) (w : World) : Prop where
  blk : Blk w b 168 cs
  ne : bk A ≠ some b
  ge : w0.heap.size ≤ b
theorem LocR.drew {w0 w : World} {hb b : Nat} {A : Option Addr} {cs : Array Value} (h : LocR w0 hb A b cs w) : LocR w0 hb A b cs w.drew := ⟨h.blk.later (Below.refl _ _).drew, h.ne, h.ge⟩
theorem LocR.alloc {w0 w : World} {hb b : Nat} {A : Option Addr} {cs : Array Value} (o : Obj) (h : LocR w0 hb A b cs w) : LocR w0 hb A b cs (w.alloc o) := ⟨h.blk.later ((Below.refl _ _).alloc (Nat.le_refl _) _), h.ne, h.ge⟩
theorem LocR.two {w0 w w' : World} {hb b c n M : Nat} {A : Option Addr} {cs : Array Value} {hs ex : List Th} {out : List Nat} (ht : Two hb A w w') (hh : TreeR w0 hb A c n M hs ex out w) (h : LocR w0 hb A b cs w) : LocR w0 hb A b cs w' :=
  ⟨ht.blk h.blk (Blk.ne h.blk hh.heap.box (by decide)) h.ne, h.ne, h.ge⟩
theorem LocR.new {w0 w : World} {hb c n M : Nat} {A : Option Addr} {hs ex : List Th} {out : List Nat} (cs : Array Value) (hh : TreeR w0 hb A c n M hs ex out w) : LocR w0 hb A w.heap.size cs (w.alloc (.cells cs 168)) :=
  ⟨Blk.new w _ cs, fun e => by have := (hh.heap.row.lt e).2; omega, hh.below.size⟩
end Go.Proofs.YtkneigeejgblkaaGreat

/-
  Walks of container/heap at package huff's things: the last one is taken out.
-/
namespace Go.Proofs.YtkneigeejgblkaaGreat
open Go.RowKit

set_option maxHeartbeats 1000000 in
set_option maxRecDepth 10000 in
theorem thSwapSame (base : Nat) (A : Option Addr) (n c : Nat) (l : List Th) (i : Nat) (x : Th) (w : World) (h : OwnT w base A n c l) (hx : l[i]? = some x) :
    Calls Tryz.prog 152 #[.slice A n c, .int .i64 (i : Int), .int .i64 (i : Int)] w fun e w' => (∃ v, e = .returned v) ∧ OwnT w' base A n c l ∧ w.grownBy w' (bk A) := by
  have hl := h.length
  have hi : i < n := by rw [← hl]; exact (List.getElem?_eq_some_iff.1 hx).1
  have hset : l.set i x = l := by
    obtain ⟨h1, h2⟩ := List.getElem?_eq_some_iff.1 hx
    rw [← h2]; exact List.set_getElem_self h1
  obtain ⟨g, x', rfl, hg1, hg2, hx', a0, a1, a2, f0⟩ := h.at_ hi
  rw [hx] at hx'; cases hx'
  obtain ⟨xw, xn, xa, xpn, xpc, xps, xht⟩ := x
  simp only at a0 a1 a2
  have i1 : (0 : Int) ≤ (i : Int) := by omega
  have i2 : (i : Int) < (n : Int) := by omega
  have h3 := h.set hi ⟨xw, xn, xa, xpn, xpc, xps, xht⟩
  rw [hset] at h3
  obtain ⟨g', y', hg', -, -, hy', d0, d1, d2, df⟩ := h3.at_ hi
  cases hg'
  rw [hx] at hy'
  cases hy'
  have h4 := h3.set hi ⟨xw, xn, xa, xpn, xpc, xps, xht⟩
  rw [hset] at h4
  simp only at d0 d1 d2 h4
  have HO := Lib.hid h4
  have df0 := df (i * 3)
  have df1 := df (i * 3 + 1)
  have df2 := df (i * 3 + 2)
  have ff0 := f0 (i * 3)
  have ff1 := f0 (i * 3 + 1)
  have ff2 := f0 (i * 3 + 2)
  clear h hx hl h3 h4 df f0 hset
  go_enter Tryz.func152, Tryz.ntmps152
  go_wp2
  go_region
  go_wp2
  go_end0
  exact ⟨⟨_, rfl⟩, HO.out.later ((Below.refl _ _).drew), grown6 _ _ _ _ _ _ _ _ _ _ _ _ _ _⟩

set_option maxHeartbeats 4000000 in
set_option maxRecDepth 10000 in
theorem hpPop0 (B hb : Nat) (A : Option Addr) (c : Nat) (x : Th) (w : World) (h : HeapR w B hb A 1 c [x]) (hc : 1 ≤ c) :
    Calls Tryz.prog 125 #[.iface 170 (.pointer (some ⟨hb, 0, none⟩))] w fun e w' => e = .returned (thV x) ∧ HeapR w' B hb A 0 c [] ∧ Two hb A w w' := by
  have H0 := Lib.hid h
  have hml := m_Len h.cell
  have HLen0 := Lib.hid (thLen A 1 c w)
  have hms := m_Swap h.cell
  have HSw := Lib.hid (show Calls Tryz.prog 152 #[.slice A 1 c, .int .i64 0, .int .i64 0] w _ from thSwapSame B A 1 c [x] 0 x w h.row rfl)
  clear h
  go_enter Tryz.func125, Tryz.ntmps125
  go_wp2_with fail
  refine HLen0.out.mono ?_
  rintro e w1 ⟨rfl, hw1⟩
  obtain rfl := hw1.symm
  go_wp2_with fail
  refine HSw.out.mono ?_
  rintro e w2 ⟨⟨v2, rfl⟩, hrow2, hgr2⟩
  have hh2 : HeapR w2 B hb A 1 c [x] := ⟨H0.out.box.kept hgr2 H0.out.ne, hrow2⟩
  have HT2 := Lib.hid ((Two.refl hb A w).grown hgr2 (fun k hk _ => .inr hk))
  have HDn := Lib.hid (show Calls Tryz.prog 129 #[.iface 170 (.pointer (some ⟨hb, 0, none⟩)), .int .i64 0, .int .i64 0] w2 _ from hpDown B hb A 1 c [x] 0 0 0 w2 hh2 (by omega) (by omega) (Nat.le_refl _) (Nat.le_refl _) ⟨fun m h1 h2 => by omega, fun m h1 h2 => by omega⟩)
  clear hrow2 hgr2 hh2 hml hms HSw
  go_wp2_with fail
  refine HDn.out.mono ?_
  rintro e w3 ⟨⟨v3, rfl⟩, ⟨l3, hh3, hp3, -, -⟩, ht3⟩
  have hl3 : l3 = [x] := List.perm_singleton.1 hp3
  subst hl3
  have HPop := Lib.hid (thPop B hb A 0 c [x] x w3 hh3 rfl (by omega) hc)
  have HT3 := Lib.hid (HT2.out.trans ht3)
  have hmp := m_Pop ⟨hb, 0, none⟩ w3
  clear hh3 hp3 ht3 HDn
  go_wp2_with fail
  refine HPop.out.mono ?_
  rintro e w4 ⟨rfl, hh4, ht4⟩
  have HH4 := Lib.hid hh4
  have HT4 := Lib.hid (HT3.out.trans ht4)
  clear hh4 ht4 HPop hmp
  go_wp2
  go_ret
  exact ⟨rfl, HH4.out, HT4.out⟩

theorem popAny {w0 w : World} {hb c n M : Nat} {A : Option Addr} {hs ex : List Th} {out : List Nat} (h : TreeR w0 hb A c n (M + 1) hs ex out w) (hM2 : M ≤ 999999) (hc : M + 1 ≤ c) (hlt : w0.heap.size < hb) :
    Calls Tryz.prog 125 #[.iface 170 (.pointer (some ⟨hb, 0, none⟩))] w fun e w' => ∃ x l', e = .returned (thV x) ∧ TreeR w0 hb A c n M l' (x :: ex) out w' ∧ (x :: l').Perm hs ∧ (∀ y ∈ l', leT x y) ∧ Two hb A w w' := by
  by_cases hM : 1 ≤ M
  · exact popAt h hM hM2 hc hlt
  · obtain rfl : M = 0 := by omega
    obtain ⟨x, rfl⟩ : ∃ x, hs = [x] := List.length_eq_one_iff.1 h.heap.row.length
    refine (hpPop0 (w0.heap.size + 1) hb A c x w h.heap hc).mono ?_
    rintro e w' ⟨rfl, hh, ht⟩
    obtain ⟨h1, h2, h3, h4⟩ := h.two ht hlt
    refine ⟨x, [], rfl, ⟨hh, fun m h1 h2 => by omega, h1.perm (fun y hy => ?_), h2, h3, h4⟩, List.Perm.refl _, by simp, ht⟩
    rw [List.append_nil] at hy
    rcases List.mem_cons.1 hy with rfl | hy
    · exact List.mem_append_right _ (List.mem_singleton_self _)
    · exact List.mem_append_left _ hy
end Go.Proofs.YtkneigeejgblkaaGreat

/-
  Words for package huff's tree: the variables of two things, whatever the order of the operations is.
-/
namespace Go.Proofs.YtkneigeejgblkaaGreat
open Go.RowKit

def zTh : Array Value := #[.int .i64 0, .int .i64 0, .slice none 0 0]
def vTh (x : Th) : Array Value := #[natv x.wt, natv x.num, .slice x.pa x.pn x.pc]

theorem blk_cells {w : World} {b : Nat} {v0 v1 v2 : Value} {t : TypeId} (h : Blk w b t #[v0, v1, v2]) : w.cell? ⟨b, 0, none⟩ = some v0 ∧ w.cell? ⟨b, 1, none⟩ = some v1 ∧ w.cell? ⟨b, 2, none⟩ = some v2 ∧ w.frozen? ⟨b, 0, none⟩ = false ∧ w.frozen? ⟨b, 1, none⟩ = false ∧ w.frozen? ⟨b, 2, none⟩ = false ∧ b < w.heap.size := by
  have h0 := h.cell 0
  have h1 := h.cell 1
  have h2 := h.cell 2
  simp only [List.getElem?_toArray, List.getElem?_cons_zero, List.getElem?_cons_succ] at h0 h1 h2
  exact ⟨h0, h1, h2, h.frozen 0, h.frozen 1, h.frozen 2, h.lt⟩

theorem two_alloc (W : World) (v0 v1 v2 : Value) (o : Obj) : Blk ((W.alloc (.cells #[v0, v1, v2] 168)).alloc o) W.heap.size 168 #[v0, v1, v2] :=
  (Blk.new W _ _).later ((Below.refl _ _).alloc (Nat.le_refl _) _)

/-- three stores into a variable -/
def put3 (w : World) (b : Nat) (x : Th) : World := ((w.setCell ⟨b, 0, none⟩ (natv x.wt)).setCell ⟨b, 1, none⟩ (natv x.num)).setCell ⟨b, 2, none⟩ (.slice x.pa x.pn x.pc)
theorem put3_grown (w : World) (b : Nat) (x : Th) : w.grownBy (put3 w b x) (some b) :=
  grown_trans (grown_trans (grown_set w ⟨b, 0, none⟩ _) (grown_set _ ⟨b, 1, none⟩ _)) (grown_set _ ⟨b, 2, none⟩ _)
theorem put3_blk {w : World} {b : Nat} {v0 v1 v2 : Value} (x : Th) (h : Blk w b 168 #[v0, v1, v2]) : Blk (put3 w b x) b 168 (vTh x) := ((h.set 0 _).set 1 _).set 2 _

/-- the two variables and the heap behind them: b8 ≠ b9 -/
structure PopR (w0 : World) (hb : Nat) (A : Option Addr) (c n M : Nat) (l3 : List Th) (x y : Th) (out : List Nat) (b8 b9 : Nat) (w : World) : Prop where
  tree : TreeR w0 hb A c n M l3 [y, x] out w
  v8 : Blk w b8 168 (vTh x)
  v9 : Blk w b9 168 (vTh y)

theorem TreeR.put3 {w0 w : World} {hb c n M b : Nat} {A : Option Addr} {hs ex : List Th} {out : List Nat} {v0 v1 v2 : Value} (x : Th) (h : TreeR w0 hb A c n M hs ex out w) (hl : LocR w0 hb A b #[v0, v1, v2] w) : TreeR w0 hb A c n M hs ex out (put3 w b x) := by
  have hg := put3_grown w b x
  have h1 : some b ≠ some hb := fun e => Blk.ne hl.blk h.heap.box (by decide) (by injection e)
  refine ⟨⟨h.heap.box.kept hg h1, h.heap.row.kept hg (.inr hl.ne)⟩, h.all, fun y hy => Own.kept (h.parts y hy) hg (.inr (Own.ne_blk (h.parts y hy) hl.blk (by decide))), Own.kept h.out_ hg (.inr (Own.ne_blk h.out_ hl.blk (by decide))), Nat.lt_of_lt_of_le h.lt hg.size, h.below.grown hg h.below.size (fun k e => by cases e; exact hl.ge)⟩
end Go.Proofs.YtkneigeejgblkaaGreat

/-
  Plain words for huff.tree: with weights of 1 and 2 a tree is low.
-/
namespace Go.Proofs.YtkneigeejgblkaaGreat
open Go.RowKit

/-- the four kinds of trees in a phase -/
def KA (k : Nat) (x : Th) : Prop := x.wt = 2 ^ k ∧ x.ht ≤ k
def KB2 (k : Nat) (x : Th) : Prop := x.wt = 2 ^ k * 2 ∧ x.ht ≤ k + 1
def KC (k : Nat) (x : Th) : Prop := 2 ^ k < x.wt ∧ x.wt < 2 ^ k * 2 ∧ x.ht ≤ k + 1
def KD (k : Nat) (x : Th) : Prop := 2 ^ k * 2 < x.wt ∧ x.wt < 2 ^ k * 4 ∧ x.ht ≤ k + 2
def Kind (k : Nat) (x : Th) : Prop := KA k x ∨ KB2 k x ∨ KC k x ∨ KD k x
def OddT (k : Nat) (x : Th) : Prop := x.wt ≠ 2 ^ k ∧ x.wt ≠ 2 ^ k * 2
def BigT (k : Nat) (x : Th) : Prop := 2 ^ k * 2 < x.wt
/-- no two odd ones; a big one stands with none of the least -/
def RelT (k : Nat) (x y : Th) : Prop := ¬ (OddT k x ∧ OddT k y) ∧ ¬ (BigT k x ∧ y.wt = 2 ^ k) ∧ ¬ (BigT k y ∧ x.wt = 2 ^ k)
theorem RelT.symm {k : Nat} {x y : Th} (h : RelT k x y) : RelT k y x := ⟨fun e => h.1 ⟨e.2, e.1⟩, h.2.2, h.2.1⟩

structure Phase (k : Nat) (l : List Th) : Prop where
  kind : ∀ x ∈ l, Kind k x
  rel : l.Pairwise (RelT k)

theorem Phase.perm {k : Nat} {l l' : List Th} (h : Phase k l) (hp : l'.Perm l) : Phase k l' :=
  ⟨fun x hx => h.kind x (hp.subset hx), (hp.pairwise_iff (fun h => h.symm)).2 h.rel⟩

theorem Phase.merge {k : Nat} {l : List Th} {a b x : Th} (h : Phase k (a :: b :: l)) (ha : ∀ y ∈ l, a.wt ≤ y.wt) (hb : ∀ y ∈ l, b.wt ≤ y.wt) (hab : a.wt ≤ b.wt) (hw : x.wt = a.wt + b.wt) (hh : x.ht = max a.ht b.ht + 1) : ∃ k', Phase k' (x :: l) := by
  have ka := h.kind a (List.mem_cons_self)
  have kb := h.kind b (List.mem_cons_of_mem _ List.mem_cons_self)
  have kl : ∀ y ∈ l, Kind k y := fun y hy => h.kind y (List.mem_cons_of_mem _ (List.mem_cons_of_mem _ hy))
  have hpw := h.rel
  rw [List.pairwise_cons, List.pairwise_cons] at hpw
  obtain ⟨ra, rb, rl⟩ := hpw
  have rab := ra b (List.mem_cons_self)
  have ral : ∀ y ∈ l, RelT k a y := fun y hy => ra y (List.mem_cons_of_mem _ hy)
  have hp : 0 < 2 ^ k := Nat.two_pow_pos k
  have e1 : 2 ^ (k + 1) = 2 ^ k * 2 := Nat.pow_succ ..
  by_cases hBB : b.wt ≥ 2 ^ k * 2 ∧ a.wt ≥ 2 ^ k * 2
  · refine ⟨k + 1, fun y hy => ?_, ?_⟩
    · unfold Kind KA KB2 KC KD
      rw [e1]
      rcases List.mem_cons.1 hy with rfl | hy
      · unfold Kind KA KB2 KC KD at ka kb
        unfold RelT OddT BigT at rab
        omega
      · have k1 := kl y hy
        have k2 := ha y hy
        unfold Kind KA KB2 KC KD at k1
        omega
    · rw [List.pairwise_cons]
      refine ⟨fun z hz => ?_, ?_⟩
      · have k1 := kl z hz
        have k2 := ha z hz
        have k3 := hb z hz
        have k4 := rb z hz
        have k5 := ral z hz
        unfold Kind KA KB2 KC KD at k1 ka kb
        unfold RelT OddT BigT at *
        rw [e1]
        omega
      · refine rl.imp_of_mem (fun {y z} hy hz hyz => ?_)
        have k1 := kl y hy
        have k2 := ha y hy
        have k3 := kl z hz
        have k4 := ha z hz
        unfold Kind KA KB2 KC KD at k1 k3
        unfold RelT OddT BigT at *
        rw [e1]
        omega
  · refine ⟨k, fun y hy => ?_, ?_⟩
    · rcases List.mem_cons.1 hy with rfl | hy
      · unfold Kind KA KB2 KC KD at *
        unfold RelT OddT BigT at rab
        omega
      · exact kl y hy
    · rw [List.pairwise_cons]
      refine ⟨fun z hz => ?_, rl⟩
      have k1 := kl z hz
      have k2 := ha z hz
      have k3 := hb z hz
      have k4 := rb z hz
      have k5 := ral z hz
      unfold Kind KA KB2 KC KD at k1 ka kb
      unfold RelT OddT BigT at *
      omega

theorem Phase.low {k : Nat} {x : Th} (h : Phase k [x]) (hw : x.wt ≤ 512) : x.ht ≤ 11 := by
  have hk := h.kind x (List.mem_singleton_self _)
  have hp : k ≤ 9 := by
    rcases Nat.lt_or_ge 9 k with h9 | h9
    · exfalso
      have : 2 ^ 10 ≤ 2 ^ k := Nat.pow_le_pow_right (by omega) h9
      unfold Kind KA KB2 KC KD at hk
      omega
    · exact h9
  unfold Kind KA KB2 KC KD at hk
  omega

theorem Phase.leaves {ts : List Th} (h : ∀ x ∈ ts, x.ht = 0 ∧ (x.wt = 1 ∨ x.wt = 2)) : Phase 0 ts := by
  refine ⟨fun x hx => ?_, ?_⟩
  · obtain ⟨h1, h2⟩ := h x hx
    unfold Kind KA KB2
    rcases h2 with h2 | h2
    · exact .inl ⟨h2, by omega⟩
    · exact .inr (.inl ⟨h2, by omega⟩)
  · refine List.Pairwise.imp_of_mem (R := fun _ _ => True) (fun {x y} hx hy _ => ?_) (List.pairwise_of_forall (fun _ _ => trivial))
    obtain ⟨-, h1⟩ := h x hx
    obtain ⟨-, h2⟩ := h y hy
    unfold RelT OddT BigT
    simp only [Nat.pow_zero]
    omega
end Go.Proofs.YtkneigeejgblkaaGreat

/-
  In a round of a loop over an iterator, a region that draws its order is walked once: what holds of the plain walk holds in the round.
-/
namespace Go.Proofs.YtkneigeejgblkaaGreat
open Go.RowKit Go.Shelf

theorem upon_round {lo n : Nat} {P : Program} {o : Oper} {a : Act} {K K' : Act → World → Prop} {Q : Exit → Act → World → Prop} (hQ : ¬ LetsOut Q) (hK : ∀ a w, K a w → K' a w) :
    ∀ r, o.upon P a K Q r → o.uponIn (Fence.wide.inRound lo) n P a K' Q r
  | .ok (.value _) _, h => hK _ _ h
  | .ok .skip _, h => hK _ _ h
  | .ok (.defer _) _, h => hK _ _ h
  | .ok (.enter f args) w', h => ⟨fun hd => by simp [Fence.wide] at hd, CallsIn.inRound lo (callsIn_wide.2 (Calls.mono h fun e w'' he => by
      cases e with
      | returned v => exact hK _ _ he
      | panicked c => exact he
      | outgrown => exact absurd he hQ))⟩
  | .ok (.row row args) w', h => ⟨fun hd => by simp [Fence.wide] at hd, fun c cs _ => by
      obtain ⟨v, w'', r, s⟩ := h c cs
      exact ⟨v, w'', hK _ _ r, stepsIn_wide.2 s⟩⟩
  | .halt (.panic _) _, h => h

def plainOp (o : Oper) : Bool := match o.op with | .defer _ => false | _ => true

theorem op_round {lo n : Nat} {P : Program} {ops : Array Oper} {Q : Exit → Act → World → Prop} (hQ : ¬ LetsOut Q) (hd : ops.all plainOp = true) {i : Nat} {K K' : Act → World → Prop} (hK : ∀ a w, K a w → K' a w) {a : Act} {w : World}
    (h : wpOp P ops Q i K a w) : wpOpIn (Fence.wide.inRound lo) n P ops Q i K' a w := by
  unfold wpOp at h
  unfold wpOpIn
  cases ho : ops[i]? with
  | none => rw [ho] at h; exact hK _ _ h
  | some o =>
    rw [ho] at h
    simp only at h ⊢
    have hpl : ∀ c, o.op ≠ .defer c := by
      intro c e
      have h1 := Array.all_eq_true.1 hd i (Array.getElem?_eq_some_iff.1 ho).1
      rw [(Array.getElem?_eq_some_iff.1 ho).2] at h1
      unfold plainOp at h1
      rw [e] at h1
      cases h1
    split
    · rename_i hw
      rw [if_pos hw] at h
      rcases h with h | ⟨-, h⟩
      · refine ⟨fun _ _ => trivial, ?_⟩
        rw [Oper.semAt_eq _ _ _ hpl]
        exact upon_round hQ hK _ h
      · exact absurd h hQ
    · rename_i hw
      rw [if_neg hw] at h
      exact ⟨fun _ _ => trivial, hK _ _ h⟩

theorem any_round {lo n : Nat} {P : Program} {ops : Array Oper} {md : Region.Mode} {Q : Exit → Act → World → Prop} (hQ : ¬ LetsOut Q) (hd : ops.all plainOp = true) : ∀ (fuel : Nat) (listed : Array Bool) (a : Act) (w : World),
    wpAny P md ops Q fuel listed a w → wpAnyIn (Fence.wide.inRound lo) n P md ops Q fuel listed a w
  | 0, _, _, _, h => h
  | fuel + 1, _, _, _, h => ⟨h.1, fun i hi => op_round hQ hd (fun a w hK => any_round hQ hd fuel _ a w hK) (h.2 i hi)⟩

theorem wpR_region_quiet {lo n id : Nat} {P : Program} {Q : Exit → Act → World → Prop} {a : Act} {w : World} {l : List Oper} (hQ : ¬ LetsOut Q) (hd : l.toArray.all plainOp = true) (hm : P.follows .mixedOrders = true) (hB : Region.lexB .any l.toArray = true)
    (h : wpQuiet P l.toArray (fun w' => ∃ n, w' = w.drewN n) (fun a' => ∀ w', (∃ n, w' = w.drewN n) → Q .normal a' w') l a) : (Code.region id l.toArray true).wpIn (Fence.wide.inRound lo) n P Q a w := by
  simp only [Region.lexB, Bool.and_eq_true] at hB
  refine wpIn_region_any hm (any_round hQ hd _ _ _ _ (wpAny_of_quiet (C := fun w' => ∃ n, w' = w.drewN n) (Q := fun a' => ∀ w', (∃ n, w' = w.drewN n) → Q .normal a' w') (fun _ w' hw' h => h w' hw') _ _ _ _ ⟨1, rfl⟩ ?_))
  have := wpAnyQ_lex (C := fun w' => ∃ n, w' = w.drewN n) (md := .any) hB.1 l 0 (Array.replicate l.toArray.size false) a (by simp) (by simpa using hB.2) h
  simpa using this

theorem wpR_region_tail {lo m id : Nat} {P : Program} {Q : Exit → Act → World → Prop} {a : Act} {w : World} {l : List Oper} (n : Nat) (hQ : ¬ LetsOut Q) (hd : l.toArray.all plainOp = true) (hm : P.follows .mixedOrders = true) (hB : Region.lexTailB .any l.toArray n = true)
    (h : wpStill P l.toArray w.drew (fun a' => wpList P l.toArray Q (l.drop n) a' w.drew) (l.take n) a) : (Code.region id l.toArray true).wpIn (Fence.wide.inRound lo) m P Q a w := by
  simp only [Region.lexTailB, Bool.and_eq_true, decide_eq_true_eq] at hB
  obtain ⟨⟨⟨⟨hsel, hn⟩, hs⟩, hc⟩, hlex⟩ := hB
  have hn' : n < l.length := by simpa using hn
  have htl : (l.take n).length = n := by simp; omega
  have hdl : (l.drop n).length = l.toArray.size - n := by simp
  have inv0 : HeadInv .any l.toArray n (Array.replicate l.toArray.size false) :=
    ⟨by simp, fun j oj _ hl => (by rw [getD_replicate_false] at hl; cases hl), fun t _ ht => getD_in (by simpa using ht) (getD_replicate_false _ _)⟩
  have H := wpAnyL_lex (md := .any) (g := l.toArray.size - n) hsel hs hc hn (l.take n) 0 _ a (fun j hj => by
    have hj' : j < n := by rw [htl] at hj; exact hj
    simp [hj']) (by simpa using htl) inv0 (by rw [htl]; exact hlex) h
  refine wpIn_region_any hm (any_round hQ hd _ _ _ _ ?_)
  have := wpAny_of_head (Q' := Q) (g := l.toArray.size - n) (fun listed a' hL => by
    have := wpAny_of_seq (md := .any) (Q' := Q) (l.drop n) n listed a' w.drew (fun j => by simp [List.getElem?_drop]) (by rw [hdl]; exact hL.1) hL.2
    rwa [hdl] at this) _ _ _ H
  rw [htl, show n + (l.toArray.size - n) = l.toArray.size by omega] at this
  exact this
end Go.Proofs.YtkneigeejgblkaaGreat

/-
  A region that draws its order, by an invariant over what has been done: for each operation one case, whatever the order is.
-/
namespace Go.Proofs.YtkneigeejgblkaaGreat
open Go.RowKit Go.Shelf

/-- how many operations are still to be done -/
def undone (listed : Array Bool) : Nat := (listed.toList.filter (fun b => !b)).length

theorem undone_list : ∀ (l : List Bool) (i : Nat), l[i]? = some false → ((l.set i true).filter (fun b => !b)).length + 1 = (l.filter (fun b => !b)).length
  | [], i, h => by simp at h
  | b :: r, 0, h => by
    obtain rfl : b = false := by simpa using h
    simp
  | b :: r, i + 1, h => by
    have := undone_list r i (by simpa using h)
    rw [List.set_cons_succ]
    cases b <;> simp_all <;> omega

theorem undone_set {listed : Array Bool} {i : Nat} (h : listed.getD i true = false) : undone (listed.setIfInBounds i true) + 1 = undone listed := by
  unfold undone
  rw [Array.toList_setIfInBounds]
  refine undone_list _ i ?_
  rw [Array.getElem?_toList]
  rcases Nat.lt_or_ge i listed.size with h' | h'
  · rw [Array.getElem?_eq_getElem h']
    simpa [Array.getD, h'] using h
  · exfalso
    simp [Array.getD, Nat.not_lt.2 h'] at h

theorem undone_zero {listed : Array Bool} (h : undone listed = 0) (i : Nat) : listed.getD i true = true := by
  unfold undone at h
  have h2 := List.length_eq_zero_iff.1 h
  rw [List.filter_eq_nil_iff] at h2
  rcases Nat.lt_or_ge i listed.size with h' | h'
  · have := h2 listed[i] (by simp)
    simpa [Array.getD, h'] using this
  · simp [Array.getD, Nat.not_lt.2 h']

theorem wpAny_inv {P : Program} {ops : Array Oper} {md : Region.Mode} {Q : Exit → Act → World → Prop} (I : Array Bool → Act → World → Prop)
    (hstep : ∀ listed a w, I listed a w → ∀ i ∈ Region.ready md ops listed, wpOp P ops Q i (I (listed.setIfInBounds i true)) a w)
    (hdone : ∀ listed a w, I listed a w → Region.ready md ops listed = [] → Q .normal a w) :
    ∀ (fuel : Nat) (listed : Array Bool) (a : Act) (w : World), undone listed ≤ fuel → I listed a w → wpAny P md ops Q fuel listed a w
  | 0, listed, a, w, hf, h => by
    have hr : Region.ready md ops listed = [] := by
      apply List.eq_nil_iff_forall_not_mem.2
      intro i hi
      have h1 := (mem_ready.1 hi).1
      rw [undone_zero (by omega) i] at h1
      cases h1
    exact ⟨hr, hdone listed a w h hr⟩
  | fuel + 1, listed, a, w, hf, h => by
    refine ⟨fun hr => hdone listed a w h hr, fun i hi => ?_⟩
    have h1 := (mem_ready.1 hi).1
    have h2 := undone_set h1
    exact wpOp_mono (fun a' w' h' => wpAny_inv I hstep hdone fuel _ a' w' (by omega) h') (hstep listed a w h i hi)

theorem wp_region_inv {P : Program} {ops : Array Oper} {Q : Exit → Act → World → Prop} {id : Nat} {a : Act} {w : World} (I0 : Act → Array Bool → Act → World → Prop) (hm : P.follows .mixedOrders = true)
    (hstep : ∀ listed a' w, I0 a listed a' w → ∀ i ∈ Region.ready .any ops listed, wpOp P ops Q i (I0 a (listed.setIfInBounds i true)) a' w)
    (hdone : ∀ listed a' w, I0 a listed a' w → Region.ready .any ops listed = [] → Q .normal a' w)
    (h0 : I0 a (Array.replicate ops.size false) a w.drew) : (Code.region id ops true).wp P Q a w := by
  refine wp_region_any hm (wpAny_inv (I0 a) hstep hdone _ _ _ _ ?_ h0)
  unfold undone
  simp
end Go.Proofs.YtkneigeejgblkaaGreat

/-
  Package huff's tree: two trees are taken out, and laid into two variables, in whatever order: what holds between two operations.
-/
namespace Go.Proofs.YtkneigeejgblkaaGreat
open Go.RowKit

def ifV (hb : Nat) : Value := .iface 170 (.pointer (some ⟨hb, 0, none⟩))
def agV (x : Th) : Value := .agg #[.int .i64 (x.wt : Int), .int .i64 (x.num : Int), .slice x.pa x.pn x.pc]
def upd (f : Nat → Bool) (k : Nat) : Nat → Bool := fun i => if i = k then true else f i
theorem flag_set {listed : Array Bool} {k : Nat} (h : listed.getD k true = false) : (fun i => (listed.setIfInBounds k true).getD i false) = upd (fun i => listed.getD i false) k := by
  have hk : k < listed.size := by
    rcases Nat.lt_or_ge k listed.size with h' | h'
    · exact h'
    · simp [Array.getD, Nat.not_lt.2 h'] at h
  funext i
  unfold upd
  by_cases e : i = k
  · subst e; simp [Array.getD, hk]
  · rw [if_neg e]
    simp only [Array.getD_eq_getD_getElem?, Array.getElem?_setIfInBounds, if_neg (fun e' : k = i => e e'.symm)]

structure StR (w0 : World) (hb : Nat) (A : Option Addr) (c n M : Nat) (hs : List Th) (out : List Nat) (f : Nat → Bool) (v54 v55 v56 v57 v58 v59 v8 v9 : Value) (x1 : Th) (l1 : List Th) (x2 : Th) (l3 : List Th) (b8 b9 : Nat) (w : World) : Prop where
  i54 : f 0 = true → v54 = ifV hb
  i57 : f 3 = true → v57 = ifV hb
  d2 : f 2 = true → f 1 = true
  d4 : f 4 = true → f 1 = true
  d5 : f 5 = true → f 4 = true
  d8 : f 8 = true → f 4 = true ∧ f 6 = true ∧ f 7 = true
  d9 : f 9 = true → f 8 = true
  t0 : f 1 = false → TreeR w0 hb A c n (M + 1 + 1) hs [] out w
  p1 : f 1 = true → v55 = thV x1 ∧ (x1 :: l1).Perm hs ∧ (∀ y ∈ l1, leT x1 y)
  a1 : f 2 = true → v56 = agV x1
  t1 : f 1 = true → f 4 = false → TreeR w0 hb A c n (M + 1) l1 [x1] out w
  p2 : f 4 = true → v58 = thV x2 ∧ (x2 :: l3).Perm l1 ∧ (∀ y ∈ l3, leT x2 y)
  a2 : f 5 = true → v59 = agV x2
  t2 : f 4 = true → TreeR w0 hb A c n M l3 [x2, x1] out w
  l8 : f 6 = true → v8 = .pointer (some ⟨b8, 0, none⟩) ∧ LocR w0 hb A b8 (if f 8 = true then vTh x1 else zTh) w
  l9 : f 7 = true → v9 = .pointer (some ⟨b9, 0, none⟩) ∧ LocR w0 hb A b9 (if f 9 = true then vTh x2 else zTh) w
  ne : f 6 = true → f 7 = true → b8 ≠ b9

section
variable {w0 w : World} {hb c n M : Nat} {A : Option Addr} {hs : List Th} {out : List Nat} {f : Nat → Bool} {v54 v55 v56 v57 v58 v59 v8 v9 : Value} {x1 x2 : Th} {l1 l3 : List Th} {b8 b9 : Nat}

theorem upd_same (f : Nat → Bool) (k : Nat) : upd f k k = true := by simp [upd]
theorem upd_ne (f : Nat → Bool) {k i : Nat} (h : i ≠ k) : upd f k i = f i := by simp [upd, h]

theorem StR.op0 (h : StR w0 hb A c n M hs out f v54 v55 v56 v57 v58 v59 v8 v9 x1 l1 x2 l3 b8 b9 w) : StR w0 hb A c n M hs out (upd f 0) (ifV hb) v55 v56 v57 v58 v59 v8 v9 x1 l1 x2 l3 b8 b9 w := by
  constructor <;> simp only [upd_same, upd_ne f (show (1 : Nat) ≠ 0 by decide), upd_ne f (show (2 : Nat) ≠ 0 by decide), upd_ne f (show (3 : Nat) ≠ 0 by decide), upd_ne f (show (4 : Nat) ≠ 0 by decide), upd_ne f (show (5 : Nat) ≠ 0 by decide), upd_ne f (show (6 : Nat) ≠ 0 by decide), upd_ne f (show (7 : Nat) ≠ 0 by decide), upd_ne f (show (8 : Nat) ≠ 0 by decide), upd_ne f (show (9 : Nat) ≠ 0 by decide)]
  · exact fun _ => trivial
  · exact h.i57
  · exact h.d2
  · exact h.d4
  · exact h.d5
  · exact h.d8
  · exact h.d9
  · exact h.t0
  · exact h.p1
  · exact h.a1
  · exact h.t1
  · exact h.p2
  · exact h.a2
  · exact h.t2
  · exact h.l8
  · exact h.l9
  · exact h.ne

theorem StR.op3 (h : StR w0 hb A c n M hs out f v54 v55 v56 v57 v58 v59 v8 v9 x1 l1 x2 l3 b8 b9 w) : StR w0 hb A c n M hs out (upd f 3) v54 v55 v56 (ifV hb) v58 v59 v8 v9 x1 l1 x2 l3 b8 b9 w := by
  constructor <;> simp only [upd_same, upd_ne f (show (0 : Nat) ≠ 3 by decide), upd_ne f (show (1 : Nat) ≠ 3 by decide), upd_ne f (show (2 : Nat) ≠ 3 by decide), upd_ne f (show (4 : Nat) ≠ 3 by decide), upd_ne f (show (5 : Nat) ≠ 3 by decide), upd_ne f (show (6 : Nat) ≠ 3 by decide), upd_ne f (show (7 : Nat) ≠ 3 by decide), upd_ne f (show (8 : Nat) ≠ 3 by decide), upd_ne f (show (9 : Nat) ≠ 3 by decide)]
  · exact h.i54
  · exact fun _ => trivial
  · exact h.d2
  · exact h.d4
  · exact h.d5
  · exact h.d8
  · exact h.d9
  · exact h.t0
  · exact h.p1
  · exact h.a1
  · exact h.t1
  · exact h.p2
  · exact h.a2
  · exact h.t2
  · exact h.l8
  · exact h.l9
  · exact h.ne

theorem StR.op2 (h : StR w0 hb A c n M hs out f v54 v55 v56 v57 v58 v59 v8 v9 x1 l1 x2 l3 b8 b9 w) (h1 : f 1 = true) : StR w0 hb A c n M hs out (upd f 2) v54 v55 (agV x1) v57 v58 v59 v8 v9 x1 l1 x2 l3 b8 b9 w := by
  constructor <;> simp only [upd_same, upd_ne f (show (0 : Nat) ≠ 2 by decide), upd_ne f (show (1 : Nat) ≠ 2 by decide), upd_ne f (show (3 : Nat) ≠ 2 by decide), upd_ne f (show (4 : Nat) ≠ 2 by decide), upd_ne f (show (5 : Nat) ≠ 2 by decide), upd_ne f (show (6 : Nat) ≠ 2 by decide), upd_ne f (show (7 : Nat) ≠ 2 by decide), upd_ne f (show (8 : Nat) ≠ 2 by decide), upd_ne f (show (9 : Nat) ≠ 2 by decide)]
  · exact h.i54
  · exact h.i57
  · exact fun _ => h1
  · exact h.d4
  · exact h.d5
  · exact h.d8
  · exact h.d9
  · exact h.t0
  · exact h.p1
  · exact fun _ => trivial
  · exact h.t1
  · exact h.p2
  · exact h.a2
  · exact h.t2
  · exact h.l8
  · exact h.l9
  · exact h.ne

theorem StR.op5 (h : StR w0 hb A c n M hs out f v54 v55 v56 v57 v58 v59 v8 v9 x1 l1 x2 l3 b8 b9 w) (h4 : f 4 = true) : StR w0 hb A c n M hs out (upd f 5) v54 v55 v56 v57 v58 (agV x2) v8 v9 x1 l1 x2 l3 b8 b9 w := by
  constructor <;> simp only [upd_same, upd_ne f (show (0 : Nat) ≠ 5 by decide), upd_ne f (show (1 : Nat) ≠ 5 by decide), upd_ne f (show (2 : Nat) ≠ 5 by decide), upd_ne f (show (3 : Nat) ≠ 5 by decide), upd_ne f (show (4 : Nat) ≠ 5 by decide), upd_ne f (show (6 : Nat) ≠ 5 by decide), upd_ne f (show (7 : Nat) ≠ 5 by decide), upd_ne f (show (8 : Nat) ≠ 5 by decide), upd_ne f (show (9 : Nat) ≠ 5 by decide)]
  · exact h.i54
  · exact h.i57
  · exact h.d2
  · exact h.d4
  · exact fun _ => h4
  · exact h.d8
  · exact h.d9
  · exact h.t0
  · exact h.p1
  · exact h.a1
  · exact h.t1
  · exact h.p2
  · exact fun _ => trivial
  · exact h.t2
  · exact h.l8
  · exact h.l9
  · exact h.ne

theorem false_of {b : Bool} (h : b = false) (e : b = true) : False := by rw [h] at e; cases e

theorem StR.op1 (h : StR w0 hb A c n M hs out f v54 v55 v56 v57 v58 v59 v8 v9 x1 l1 x2 l3 b8 b9 w) (h1 : f 1 = false) {w' : World} {y1 : Th} {m1 : List Th} (hT : TreeR w0 hb A c n (M + 1) m1 [y1] out w') (hp : (y1 :: m1).Perm hs) (hm : ∀ y ∈ m1, leT y1 y) (ht : Two hb A w w') : StR w0 hb A c n M hs out (upd f 1) v54 (thV y1) v56 v57 v58 v59 v8 v9 y1 m1 x2 l3 b8 b9 w' := by
  have h4 : f 4 = false := by cases e : f 4 with
    | false => rfl
    | true => exact (false_of h1 (h.d4 e)).elim
  have h8 : f 8 = false := by cases e : f 8 with
    | false => rfl
    | true => exact (false_of h4 (h.d8 e).1).elim
  have h9 : f 9 = false := by cases e : f 9 with
    | false => rfl
    | true => exact (false_of h8 (h.d9 e)).elim
  constructor <;> simp only [upd_same, upd_ne f (show (0 : Nat) ≠ 1 by decide), upd_ne f (show (2 : Nat) ≠ 1 by decide), upd_ne f (show (3 : Nat) ≠ 1 by decide), upd_ne f (show (4 : Nat) ≠ 1 by decide), upd_ne f (show (5 : Nat) ≠ 1 by decide), upd_ne f (show (6 : Nat) ≠ 1 by decide), upd_ne f (show (7 : Nat) ≠ 1 by decide), upd_ne f (show (8 : Nat) ≠ 1 by decide), upd_ne f (show (9 : Nat) ≠ 1 by decide)]
  · exact h.i54
  · exact h.i57
  · exact fun _ => trivial
  · exact fun _ => trivial
  · exact h.d5
  · exact h.d8
  · exact h.d9
  · exact fun e => by cases e
  · exact fun _ => ⟨trivial, hp, hm⟩
  · exact fun e => (false_of h1 (h.d2 e)).elim
  · exact fun _ _ => hT
  · exact fun e => (false_of h4 e).elim
  · exact fun e => (false_of h4 (h.d5 e)).elim
  · exact fun e => (false_of h4 e).elim
  · exact fun e => by
      obtain ⟨e1, e2⟩ := h.l8 e
      rw [if_neg (fun e' => false_of h8 e')] at e2 ⊢
      exact ⟨e1, e2.two ht (h.t0 h1)⟩
  · exact fun e => by
      obtain ⟨e1, e2⟩ := h.l9 e
      rw [if_neg (fun e' => false_of h9 e')] at e2 ⊢
      exact ⟨e1, e2.two ht (h.t0 h1)⟩
  · exact h.ne

theorem StR.op4 (h : StR w0 hb A c n M hs out f v54 v55 v56 v57 v58 v59 v8 v9 x1 l1 x2 l3 b8 b9 w) (h1 : f 1 = true) (h4 : f 4 = false) {w' : World} {y2 : Th} {m3 : List Th} (hT : TreeR w0 hb A c n M m3 [y2, x1] out w') (hp : (y2 :: m3).Perm l1) (hm : ∀ y ∈ m3, leT y2 y) (ht : Two hb A w w') : StR w0 hb A c n M hs out (upd f 4) v54 v55 v56 v57 (thV y2) v59 v8 v9 x1 l1 y2 m3 b8 b9 w' := by
  have h8 : f 8 = false := by cases e : f 8 with
    | false => rfl
    | true => exact (false_of h4 (h.d8 e).1).elim
  have h9 : f 9 = false := by cases e : f 9 with
    | false => rfl
    | true => exact (false_of h8 (h.d9 e)).elim
  constructor <;> simp only [upd_same, upd_ne f (show (0 : Nat) ≠ 4 by decide), upd_ne f (show (1 : Nat) ≠ 4 by decide), upd_ne f (show (2 : Nat) ≠ 4 by decide), upd_ne f (show (3 : Nat) ≠ 4 by decide), upd_ne f (show (5 : Nat) ≠ 4 by decide), upd_ne f (show (6 : Nat) ≠ 4 by decide), upd_ne f (show (7 : Nat) ≠ 4 by decide), upd_ne f (show (8 : Nat) ≠ 4 by decide), upd_ne f (show (9 : Nat) ≠ 4 by decide)]
  · exact h.i54
  · exact h.i57
  · exact h.d2
  · exact fun _ => h1
  · exact fun _ => trivial
  · exact fun e => ⟨trivial, (h.d8 e).2⟩
  · exact h.d9
  · exact fun e => (false_of e h1).elim
  · exact h.p1
  · exact h.a1
  · exact fun _ e => by cases e
  · exact fun _ => ⟨trivial, hp, hm⟩
  · exact fun e => (false_of h4 (h.d5 e)).elim
  · exact fun _ => hT
  · exact fun e => by
      obtain ⟨e1, e2⟩ := h.l8 e
      rw [if_neg (fun e' => false_of h8 e')] at e2 ⊢
      exact ⟨e1, e2.two ht (h.t1 h1 h4)⟩
  · exact fun e => by
      obtain ⟨e1, e2⟩ := h.l9 e
      rw [if_neg (fun e' => false_of h9 e')] at e2 ⊢
      exact ⟨e1, e2.two ht (h.t1 h1 h4)⟩
  · exact h.ne

theorem StR.newLoc (h : StR w0 hb A c n M hs out f v54 v55 v56 v57 v58 v59 v8 v9 x1 l1 x2 l3 b8 b9 w) : LocR w0 hb A w.heap.size zTh (w.alloc (.cells zTh 168)) := by
  cases h1 : f 1 with
  | false => exact LocR.new _ (h.t0 h1)
  | true =>
    cases h4 : f 4 with
    | false => exact LocR.new _ (h.t1 h1 h4)
    | true => exact LocR.new _ (h.t2 h4)

theorem StR.op6 (h : StR w0 hb A c n M hs out f v54 v55 v56 v57 v58 v59 v8 v9 x1 l1 x2 l3 b8 b9 w) (h6 : f 6 = false) : StR w0 hb A c n M hs out (upd f 6) v54 v55 v56 v57 v58 v59 (.pointer (some ⟨w.heap.size, 0, none⟩)) v9 x1 l1 x2 l3 w.heap.size b9 (w.alloc (.cells zTh 168)) := by
  have h8 : f 8 = false := by cases e : f 8 with
    | false => rfl
    | true => exact (false_of h6 (h.d8 e).2.1).elim
  have h9 : f 9 = false := by cases e : f 9 with
    | false => rfl
    | true => exact (false_of h8 (h.d9 e)).elim
  constructor <;> simp only [upd_same, upd_ne f (show (0 : Nat) ≠ 6 by decide), upd_ne f (show (1 : Nat) ≠ 6 by decide), upd_ne f (show (2 : Nat) ≠ 6 by decide), upd_ne f (show (3 : Nat) ≠ 6 by decide), upd_ne f (show (4 : Nat) ≠ 6 by decide), upd_ne f (show (5 : Nat) ≠ 6 by decide), upd_ne f (show (7 : Nat) ≠ 6 by decide), upd_ne f (show (8 : Nat) ≠ 6 by decide), upd_ne f (show (9 : Nat) ≠ 6 by decide)]
  · exact h.i54
  · exact h.i57
  · exact h.d2
  · exact h.d4
  · exact h.d5
  · exact fun e => (false_of h8 e).elim
  · exact h.d9
  · exact fun e => (h.t0 e).alloc _
  · exact h.p1
  · exact h.a1
  · exact fun e e' => (h.t1 e e').alloc _
  · exact h.p2
  · exact h.a2
  · exact fun e => (h.t2 e).alloc _
  · exact fun _ => by
      rw [if_neg (fun e' => false_of h8 e')]
      exact ⟨trivial, h.newLoc⟩
  · exact fun e => ⟨(h.l9 e).1, (h.l9 e).2.alloc _⟩
  · exact fun _ e => by
      have := (h.l9 e).2.blk.lt
      omega

theorem StR.op7 (h : StR w0 hb A c n M hs out f v54 v55 v56 v57 v58 v59 v8 v9 x1 l1 x2 l3 b8 b9 w) (h7 : f 7 = false) : StR w0 hb A c n M hs out (upd f 7) v54 v55 v56 v57 v58 v59 v8 (.pointer (some ⟨w.heap.size, 0, none⟩)) x1 l1 x2 l3 b8 w.heap.size (w.alloc (.cells zTh 168)) := by
  have h8 : f 8 = false := by cases e : f 8 with
    | false => rfl
    | true => exact (false_of h7 (h.d8 e).2.2).elim
  have h9 : f 9 = false := by cases e : f 9 with
    | false => rfl
    | true => exact (false_of h8 (h.d9 e)).elim
  constructor <;> simp only [upd_same, upd_ne f (show (0 : Nat) ≠ 7 by decide), upd_ne f (show (1 : Nat) ≠ 7 by decide), upd_ne f (show (2 : Nat) ≠ 7 by decide), upd_ne f (show (3 : Nat) ≠ 7 by decide), upd_ne f (show (4 : Nat) ≠ 7 by decide), upd_ne f (show (5 : Nat) ≠ 7 by decide), upd_ne f (show (6 : Nat) ≠ 7 by decide), upd_ne f (show (8 : Nat) ≠ 7 by decide), upd_ne f (show (9 : Nat) ≠ 7 by decide)]
  · exact h.i54
  · exact h.i57
  · exact h.d2
  · exact h.d4
  · exact h.d5
  · exact fun e => (false_of h8 e).elim
  · exact h.d9
  · exact fun e => (h.t0 e).alloc _
  · exact h.p1
  · exact h.a1
  · exact fun e e' => (h.t1 e e').alloc _
  · exact h.p2
  · exact h.a2
  · exact fun e => (h.t2 e).alloc _
  · exact fun e => ⟨(h.l8 e).1, (h.l8 e).2.alloc _⟩
  · exact fun _ => by
      rw [if_neg (fun e' => false_of h9 e')]
      exact ⟨trivial, h.newLoc⟩
  · exact fun e _ => by
      have := (h.l8 e).2.blk.lt
      omega

theorem StR.op8 (h : StR w0 hb A c n M hs out f v54 v55 v56 v57 v58 v59 v8 v9 x1 l1 x2 l3 b8 b9 w) (h4 : f 4 = true) (h6 : f 6 = true) (h7 : f 7 = true) (h8 : f 8 = false) : StR w0 hb A c n M hs out (upd f 8) v54 v55 v56 v57 v58 v59 v8 v9 x1 l1 x2 l3 b8 b9 (put3 w b8 x1) := by
  have h1 := h.d4 h4
  obtain ⟨e8, k8⟩ := h.l8 h6
  obtain ⟨e9, k9⟩ := h.l9 h7
  have hne := h.ne h6 h7
  have h9 : f 9 = false := by cases e : f 9 with
    | false => rfl
    | true => exact (false_of h8 (h.d9 e)).elim
  rw [if_neg (fun e' => false_of h8 e')] at k8
  have hg := put3_grown w b8 x1
  constructor <;> simp only [upd_same, upd_ne f (show (0 : Nat) ≠ 8 by decide), upd_ne f (show (1 : Nat) ≠ 8 by decide), upd_ne f (show (2 : Nat) ≠ 8 by decide), upd_ne f (show (3 : Nat) ≠ 8 by decide), upd_ne f (show (4 : Nat) ≠ 8 by decide), upd_ne f (show (5 : Nat) ≠ 8 by decide), upd_ne f (show (6 : Nat) ≠ 8 by decide), upd_ne f (show (7 : Nat) ≠ 8 by decide), upd_ne f (show (9 : Nat) ≠ 8 by decide)]
  · exact h.i54
  · exact h.i57
  · exact h.d2
  · exact h.d4
  · exact h.d5
  · exact fun _ => ⟨h4, h6, h7⟩
  · exact fun _ => trivial
  · exact fun e => (false_of e h1).elim
  · exact h.p1
  · exact h.a1
  · exact fun _ e => (false_of e h4).elim
  · exact h.p2
  · exact h.a2
  · exact fun _ => (h.t2 h4).put3 x1 k8
  · exact fun _ => by
      rw [if_pos trivial]
      exact ⟨e8, ⟨put3_blk x1 k8.blk, k8.ne, k8.ge⟩⟩
  · exact fun _ => ⟨e9, ⟨k9.blk.kept hg (fun e => hne (by injection e)), k9.ne, k9.ge⟩⟩
  · exact h.ne

theorem StR.op9 (h : StR w0 hb A c n M hs out f v54 v55 v56 v57 v58 v59 v8 v9 x1 l1 x2 l3 b8 b9 w) (h8 : f 8 = true) (h9 : f 9 = false) : StR w0 hb A c n M hs out (upd f 9) v54 v55 v56 v57 v58 v59 v8 v9 x1 l1 x2 l3 b8 b9 (put3 w b9 x2) := by
  obtain ⟨h4, h6, h7⟩ := h.d8 h8
  have h1 := h.d4 h4
  obtain ⟨e8, k8⟩ := h.l8 h6
  obtain ⟨e9, k9⟩ := h.l9 h7
  have hne := h.ne h6 h7
  rw [if_neg (fun e' => false_of h9 e')] at k9
  have hg := put3_grown w b9 x2
  constructor <;> simp only [upd_same, upd_ne f (show (0 : Nat) ≠ 9 by decide), upd_ne f (show (1 : Nat) ≠ 9 by decide), upd_ne f (show (2 : Nat) ≠ 9 by decide), upd_ne f (show (3 : Nat) ≠ 9 by decide), upd_ne f (show (4 : Nat) ≠ 9 by decide), upd_ne f (show (5 : Nat) ≠ 9 by decide), upd_ne f (show (6 : Nat) ≠ 9 by decide), upd_ne f (show (7 : Nat) ≠ 9 by decide), upd_ne f (show (8 : Nat) ≠ 9 by decide)]
  · exact h.i54
  · exact h.i57
  · exact h.d2
  · exact h.d4
  · exact h.d5
  · exact h.d8
  · exact fun _ => h8
  · exact fun e => (false_of e h1).elim
  · exact h.p1
  · exact h.a1
  · exact fun _ e => (false_of e h4).elim
  · exact h.p2
  · exact h.a2
  · exact fun _ => (h.t2 h4).put3 x2 k9
  · exact fun _ => ⟨e8, ⟨k8.blk.kept hg (fun e => hne (by injection e with e; exact e.symm)), k8.ne, k8.ge⟩⟩
  · exact fun _ => by
      rw [if_pos trivial]
      exact ⟨e9, ⟨put3_blk x2 k9.blk, k9.ne, k9.ge⟩⟩
  · exact h.ne

end
end Go.Proofs.YtkneigeejgblkaaGreat

/-
  An activation whose slots are told by a function; one operation of a region, by its run.
-/
namespace Go.Proofs.YtkneigeejgblkaaGreat
open Go.RowKit Go.Shelf

def actV (a : Act) (val : Nat → Value) : Act := { a with tmps := a.tmps.mapIdx (fun i _ => val i) }
def updV (val : Nat → Value) (k : Nat) (v : Value) : Nat → Value := fun i => if i = k then v else val i
theorem updV_same (val : Nat → Value) (k : Nat) (v : Value) : updV val k v k = v := by simp [updV]
theorem updV_ne (val : Nat → Value) {k i : Nat} (v : Value) (h : i ≠ k) : updV val k v i = val i := by simp [updV, h]

theorem actV_self (a : Act) : actV a (fun i => a.tmps.getD i undef) = a := by
  have : a.tmps.mapIdx (fun i _ => a.tmps.getD i undef) = a.tmps := by
    apply Array.ext
    · simp
    · intro i h1 h2
      simp [Array.getD, h2]
  unfold actV
  rw [this]
theorem actV_put (a : Act) (val : Nat → Value) (k : Nat) (v : Value) : (actV a val).put (some k) v = actV a (updV val k v) := by
  have key : (a.tmps.mapIdx (fun i _ => val i)).setIfInBounds k v = a.tmps.mapIdx (fun i _ => updV val k v i) := by
    apply Array.ext
    · simp
    · intro i h1 h2
      rw [Array.getElem_mapIdx]
      unfold updV
      by_cases e : i = k
      · subst e
        rw [if_pos rfl, Array.getElem_setIfInBounds]
        · simp
        · simpa using h2
      · have e2 : ¬ k = i := fun e' => e e'.symm
        rw [if_neg e, Array.getElem_setIfInBounds]
        · rw [if_neg e2, Array.getElem_mapIdx]
        · simpa using h2
  show ({ actV a val with tmps := (a.tmps.mapIdx (fun i _ => val i)).setIfInBounds k v } : Act) = _
  rw [key]
  rfl
theorem actV_put_none (a : Act) (val : Nat → Value) (v : Value) : (actV a val).put none v = actV a val := rfl
theorem actV_eval (a : Act) (val : Nat → Value) {k : Nat} (h : k < a.tmps.size) : (actV a val).eval (.tmp k) = val k := by
  unfold actV Act.eval
  simp [Array.getD, h]

theorem wpOp_value {P : Program} {ops : Array Oper} {Q : Exit → Act → World → Prop} {i : Nat} {K : Act → World → Prop} {a : Act} {w w' : World} {o : Oper} {v : Value} (ho : ops[i]? = some o) (hg : o.guard = none)
    (hrun : (execOp a.eval o).run P w = .ok (.value v) w') (hK : K (a.put o.dst v) w') : wpOp P ops Q i K a w := by
  unfold wpOp
  rw [ho]
  simp only
  rw [if_pos (by simp [Region.wanted, hg])]
  left
  unfold Oper.wp
  rw [hrun]
  exact hK
theorem wpOp_skip {P : Program} {ops : Array Oper} {Q : Exit → Act → World → Prop} {i : Nat} {K : Act → World → Prop} {a : Act} {w w' : World} {o : Oper} (ho : ops[i]? = some o) (hg : o.guard = none)
    (hrun : (execOp a.eval o).run P w = .ok .skip w') (hK : K (a.put o.dst undef) w') : wpOp P ops Q i K a w := by
  unfold wpOp
  rw [ho]
  simp only
  rw [if_pos (by simp [Region.wanted, hg])]
  left
  unfold Oper.wp
  rw [hrun]
  exact hK
theorem wpOp_call {P : Program} {ops : Array Oper} {Q : Exit → Act → World → Prop} {i : Nat} {K : Act → World → Prop} {a : Act} {w : World} {o : Oper} {f : FuncId} {args : Array Value} (ho : ops[i]? = some o) (hg : o.guard = none)
    (hrun : (execOp a.eval o).run P w = .ok (.enter f args) w) (hK : Calls P f args w fun e w'' => ∃ v, e = .returned v ∧ K (a.put o.dst v) w'') : wpOp P ops Q i K a w := by
  unfold wpOp
  rw [ho]
  simp only
  rw [if_pos (by simp [Region.wanted, hg])]
  left
  unfold Oper.wp
  rw [hrun]
  refine hK.mono ?_
  rintro e w'' ⟨v, rfl, h⟩
  exact h
end Go.Proofs.YtkneigeejgblkaaGreat

/-
  Package huff's tree: the region of two heap.Pop calls, whatever its order is.
-/
namespace Go.Proofs.YtkneigeejgblkaaGreat
open Go.RowKit Go.Shelf

def depB (md : Region.Mode) (ops : Array Oper) (i j : Nat) : Bool := (ops[i]?.map fun o => o.after.any fun e => e.on == j && Region.binds md e).getD false
theorem depB_of {md : Region.Mode} {ops : Array Oper} {i j : Nat} {listed : Array Bool} (h : depB md ops i j = true) (hi : i ∈ Region.ready md ops listed) : listed.getD j false = true := by
  obtain ⟨-, o, ho, ha⟩ := mem_ready.1 hi
  unfold depB at h
  rw [ho] at h
  simp only [Option.map_some, Option.getD_some, Array.any_eq_true] at h
  obtain ⟨t, ht, h1⟩ := h
  rw [Bool.and_eq_true] at h1
  have := ha _ (Array.getElem_mem ht) h1.2
  rw [eq_of_beq h1.1] at this
  exact this

def downB (ops : Array Oper) : Bool := (List.range ops.size).all fun i => (ops[i]?.map fun o => o.after.all fun e => decide (e.on < i)).getD true
theorem all_listed {md : Region.Mode} {ops : Array Oper} {listed : Array Bool} (hs : listed.size = ops.size) (hr : Region.ready md ops listed = []) (hd : downB ops = true) : ∀ i, i < ops.size → listed.getD i false = true := by
  intro i
  induction i using Nat.strongRecOn with
  | _ i ih =>
    intro hi
    cases hl : listed.getD i true with
    | true =>
      have h' : i < listed.size := by omega
      simpa [Array.getD, h'] using hl
    | false =>
      exfalso
      have : i ∈ Region.ready md ops listed := by
        refine mem_ready.2 ⟨hl, ops[i], Array.getElem?_eq_getElem hi, fun e he _ => ?_⟩
        unfold downB at hd
        have h1 := List.all_eq_true.1 hd i (List.mem_range.2 hi)
        rw [Array.getElem?_eq_getElem hi] at h1
        simp only [Option.map_some, Option.getD_some] at h1
        have h2 := of_decide_eq_true (Array.all_eq_true_iff_forall_mem.1 h1 e he)
        exact ih e.on h2 (by omega)
      rw [hr] at this
      cases this

theorem act_puts (val : Nat → Value) : ∀ (ks : List Nat) (a : Act), (∀ i, i < a.tmps.size → i ∉ ks → val i = a.tmps.getD i undef) → ks.foldl (fun a k => a.put (some k) (val k)) a = actV a val
  | [], a, h => by
    have : a.tmps.mapIdx (fun i _ => val i) = a.tmps := by
      apply Array.ext
      · simp
      · intro i h1 h2
        rw [Array.getElem_mapIdx, h i h2 (by simp)]
        simp [Array.getD, h2]
    rw [List.foldl_nil]
    unfold actV
    rw [this]
  | k :: ks, a, h => by
    rw [List.foldl_cons, act_puts val ks _ ?_]
    · have : (a.tmps.setIfInBounds k (val k)).mapIdx (fun i _ => val i) = a.tmps.mapIdx (fun i _ => val i) := by
        apply Array.ext
        · simp
        · intro i h1 h2
          rw [Array.getElem_mapIdx, Array.getElem_mapIdx]
      show ({ a with tmps := (a.tmps.setIfInBounds k (val k)).mapIdx (fun i _ => val i) } : Act) = { a with tmps := a.tmps.mapIdx (fun i _ => val i) }
      rw [this]
    · intro i hs hi
      show val i = (a.tmps.setIfInBounds k (val k)).getD i undef
      have hs' : i < a.tmps.size := by
        have : (a.put (some k) (val k)).tmps.size = a.tmps.size := by show (a.tmps.setIfInBounds k (val k)).size = _; simp
        omega
      by_cases e : i = k
      · subst e
        simp [Array.getD, hs']
      · rw [h i hs' (by simp [e, hi])]
        have e2 : ¬ k = i := fun e' => e e'.symm
        simp [Array.getD, hs', e2]

def Inv15 (w0 : World) (hb : Nat) (A : Option Addr) (c n M : Nat) (hs : List Th) (out : List Nat) (sz : Nat) (A0 : Act) (listed : Array Bool) (a : Act) (w : World) : Prop :=
  ∃ (val : Nat → Value) (x1 x2 : Th) (l1 l3 : List Th) (b8 b9 : Nat), a = actV A0 val ∧ listed.size = sz ∧ (∀ i, i ∉ [54, 55, 56, 57, 58, 59, 8, 9] → val i = A0.tmps.getD i undef) ∧
    StR w0 hb A c n M hs out (fun i => listed.getD i false) (val 54) (val 55) (val 56) (val 57) (val 58) (val 59) (val 8) (val 9) x1 l1 x2 l3 b8 b9 w

theorem updV_out {A0 : Act} {val : Nat → Value} {k : Nat} {v : Value} {ks : List Nat} (hk : k ∈ ks) (h : ∀ i, i ∉ ks → val i = A0.tmps.getD i undef) : ∀ i, i ∉ ks → updV val k v i = A0.tmps.getD i undef := by
  intro i hi
  rw [updV_ne val v (by rintro rfl; exact hi hk)]
  exact h i hi

/-- what the region's operations do, each for itself -/
structure Ops15 (ops : Array Oper) (hb : Nat) : Prop where
  size : ops.size = 10
  down : downB ops = true
  deps : ([(1, 0), (2, 1), (4, 3), (4, 1), (5, 4), (8, 4), (8, 2), (8, 6), (8, 7), (9, 8), (9, 5), (9, 7)].all fun p => depB .any ops p.1 p.2) = true
  r0 : ∃ o, ops[0]? = some o ∧ o.guard = none ∧ o.dst = some 54 ∧ ∀ ρ w, ρ (.tmp 4) = .pointer (some ⟨hb, 0, none⟩) → (execOp ρ o).run Tryz.prog w = .ok (.value (ifV hb)) w
  r3 : ∃ o, ops[3]? = some o ∧ o.guard = none ∧ o.dst = some 57 ∧ ∀ ρ w, ρ (.tmp 4) = .pointer (some ⟨hb, 0, none⟩) → (execOp ρ o).run Tryz.prog w = .ok (.value (ifV hb)) w
  r1 : ∃ o, ops[1]? = some o ∧ o.guard = none ∧ o.dst = some 55 ∧ ∀ (a : Act) w v, a.eval (.tmp 54) = v → (execOp a.eval o).run Tryz.prog w = .ok (.enter 125 #[v]) w
  r4 : ∃ o, ops[4]? = some o ∧ o.guard = none ∧ o.dst = some 58 ∧ ∀ (a : Act) w v, a.eval (.tmp 57) = v → (execOp a.eval o).run Tryz.prog w = .ok (.enter 125 #[v]) w
  r2 : ∃ o, ops[2]? = some o ∧ o.guard = none ∧ o.dst = some 56 ∧ ∀ ρ w x, ρ (.tmp 55) = thV x → (execOp ρ o).run Tryz.prog w = .ok (.value (agV x)) w
  r5 : ∃ o, ops[5]? = some o ∧ o.guard = none ∧ o.dst = some 59 ∧ ∀ ρ w x, ρ (.tmp 58) = thV x → (execOp ρ o).run Tryz.prog w = .ok (.value (agV x)) w
  r6 : ∃ o, ops[6]? = some o ∧ o.guard = none ∧ o.dst = some 8 ∧ ∀ ρ w, (execOp ρ o).run Tryz.prog w = .ok (.value (.pointer (some ⟨w.heap.size, 0, none⟩))) (w.alloc (.cells zTh 168))
  r7 : ∃ o, ops[7]? = some o ∧ o.guard = none ∧ o.dst = some 9 ∧ ∀ ρ w, (execOp ρ o).run Tryz.prog w = .ok (.value (.pointer (some ⟨w.heap.size, 0, none⟩))) (w.alloc (.cells zTh 168))
  r8 : ∃ o, ops[8]? = some o ∧ o.guard = none ∧ o.dst = none ∧ ∀ ρ w b x, ρ (.tmp 8) = .pointer (some ⟨b, 0, none⟩) → ρ (.tmp 56) = agV x → Blk w b 168 zTh → (execOp ρ o).run Tryz.prog w = .ok .skip (put3 w b x)
  r9 : ∃ o, ops[9]? = some o ∧ o.guard = none ∧ o.dst = none ∧ ∀ ρ w b x, ρ (.tmp 9) = .pointer (some ⟨b, 0, none⟩) → ρ (.tmp 59) = agV x → Blk w b 168 zTh → (execOp ρ o).run Tryz.prog w = .ok .skip (put3 w b x)

theorem reg15 {w0 : World} {hb : Nat} {A : Option Addr} {c n M : Nat} {hs : List Th} {out : List Nat} {ops : Array Oper} {Q : Exit → Act → World → Prop} {id : Nat} {a : Act} {w : World} (hm : (Tryz.prog).follows .mixedOrders = true) (H : Ops15 ops hb)
    (ha4 : a.tmps.getD 4 undef = .pointer (some ⟨hb, 0, none⟩)) (hasz : 60 ≤ a.tmps.size) (hT : TreeR w0 hb A c n (M + 1 + 1) hs [] out w.drew) (hM : M ≤ 999990) (hc : M + 1 + 1 ≤ c) (hlt : w0.heap.size < hb)
    (hQ : ∀ (val : Nat → Value) (x1 x2 : Th) (l1 l3 : List Th) (b8 b9 : Nat) (w' : World), val 8 = .pointer (some ⟨b8, 0, none⟩) → val 9 = .pointer (some ⟨b9, 0, none⟩) → TreeR w0 hb A c n M l3 [x2, x1] out w' → LocR w0 hb A b8 (vTh x1) w' → LocR w0 hb A b9 (vTh x2) w' → b8 ≠ b9 →
      (x1 :: l1).Perm hs → (∀ y ∈ l1, leT x1 y) → (x2 :: l3).Perm l1 → (∀ y ∈ l3, leT x2 y) → Q .normal ([54, 55, 56, 57, 58, 59, 8, 9].foldl (fun a k => a.put (some k) (val k)) a) w') :
    (Code.region id ops true).wp Tryz.prog Q a w := by
  refine wp_region_inv (fun A0 => Inv15 w0 hb A c n M hs out 10 A0) hm ?_ ?_ ?_
  · rintro listed a' W ⟨val, x1, x2, l1, l3, b8, b9, rfl, hsz, hval, hS⟩ i hi
    have hready := mem_ready.1 hi
    obtain ⟨hl, o, ho, -⟩ := hready
    have hi10 : i < 10 := by have := (Array.getElem?_eq_some_iff.1 ho).1; rw [H.size] at this; exact this
    have hlf : listed.getD i false = false := by
      have h' : i < listed.size := by omega
      simpa [Array.getD, h'] using hl
    have hset := flag_set hl
    have hsz2 : (listed.setIfInBounds i true).size = 10 := by simp [hsz]
    have hdep : ∀ i j, i ∈ Region.ready .any ops listed → (i, j) ∈ [(1, 0), (2, 1), (4, 3), (4, 1), (5, 4), (8, 4), (8, 2), (8, 6), (8, 7), (9, 8), (9, 5), (9, 7)] → listed.getD j false = true :=
      fun i j hi hj => depB_of (List.all_eq_true.1 H.deps (i, j) hj) hi
    have hev : ∀ k, k < 60 → (actV a val).eval (.tmp k) = val k := fun k hk => actV_eval a val (Nat.lt_of_lt_of_le hk hasz)
    clear ho hl
    obtain rfl | rfl | rfl | rfl | rfl | rfl | rfl | rfl | rfl | rfl : i = 0 ∨ i = 1 ∨ i = 2 ∨ i = 3 ∨ i = 4 ∨ i = 5 ∨ i = 6 ∨ i = 7 ∨ i = 8 ∨ i = 9 := by omega
    · obtain ⟨o, ho, hg, hd, hrun⟩ := H.r0
      refine wpOp_value ho hg (hrun _ _ (by rw [hev 4 (by decide), hval 4 (by decide)]; exact ha4)) ?_
      rw [hd, actV_put]
      refine ⟨updV val 54 (ifV hb), x1, x2, l1, l3, b8, b9, rfl, hsz2, updV_out (by decide) hval, ?_⟩
      rw [hset]
      exact hS.op0
    · obtain ⟨o, ho, hg, hd, hrun⟩ := H.r1
      refine wpOp_call ho hg (hrun _ _ (ifV hb) (by rw [hev 54 (by decide)]; exact hS.i54 (hdep 1 0 hi (by decide)))) ?_
      refine (popAny (hS.t0 hlf) (by omega) hc hlt).mono ?_
      rintro e w' ⟨y1, m1, rfl, hT', hp', hm', ht'⟩
      refine ⟨_, rfl, ?_⟩
      rw [hd, actV_put]
      refine ⟨updV val 55 (thV y1), y1, x2, m1, l3, b8, b9, rfl, hsz2, updV_out (by decide) hval, ?_⟩
      rw [hset]
      exact hS.op1 hlf hT' hp' hm' ht'
    · obtain ⟨o, ho, hg, hd, hrun⟩ := H.r2
      refine wpOp_value ho hg (hrun _ _ x1 (by rw [hev 55 (by decide)]; exact (hS.p1 (hdep 2 1 hi (by decide))).1)) ?_
      rw [hd, actV_put]
      refine ⟨updV val 56 (agV x1), x1, x2, l1, l3, b8, b9, rfl, hsz2, updV_out (by decide) hval, ?_⟩
      rw [hset]
      exact hS.op2 (hdep 2 1 hi (by decide))
    · obtain ⟨o, ho, hg, hd, hrun⟩ := H.r3
      refine wpOp_value ho hg (hrun _ _ (by rw [hev 4 (by decide), hval 4 (by decide)]; exact ha4)) ?_
      rw [hd, actV_put]
      refine ⟨updV val 57 (ifV hb), x1, x2, l1, l3, b8, b9, rfl, hsz2, updV_out (by decide) hval, ?_⟩
      rw [hset]
      exact hS.op3
    · obtain ⟨o, ho, hg, hd, hrun⟩ := H.r4
      have h1 := hdep 4 1 hi (by decide)
      refine wpOp_call ho hg (hrun _ _ (ifV hb) (by rw [hev 57 (by decide)]; exact hS.i57 (hdep 4 3 hi (by decide)))) ?_
      refine (popAny (hS.t1 h1 hlf) (by omega) (by omega) hlt).mono ?_
      rintro e w' ⟨y1, m1, rfl, hT', hp', hm', ht'⟩
      refine ⟨_, rfl, ?_⟩
      rw [hd, actV_put]
      refine ⟨updV val 58 (thV y1), x1, y1, l1, m1, b8, b9, rfl, hsz2, updV_out (by decide) hval, ?_⟩
      rw [hset]
      exact hS.op4 h1 hlf hT' hp' hm' ht'
    · obtain ⟨o, ho, hg, hd, hrun⟩ := H.r5
      refine wpOp_value ho hg (hrun _ _ x2 (by rw [hev 58 (by decide)]; exact (hS.p2 (hdep 5 4 hi (by decide))).1)) ?_
      rw [hd, actV_put]
      refine ⟨updV val 59 (agV x2), x1, x2, l1, l3, b8, b9, rfl, hsz2, updV_out (by decide) hval, ?_⟩
      rw [hset]
      exact hS.op5 (hdep 5 4 hi (by decide))
    · obtain ⟨o, ho, hg, hd, hrun⟩ := H.r6
      refine wpOp_value ho hg (hrun _ _) ?_
      rw [hd, actV_put]
      refine ⟨updV val 8 _, x1, x2, l1, l3, W.heap.size, b9, rfl, hsz2, updV_out (by decide) hval, ?_⟩
      rw [hset]
      exact hS.op6 hlf
    · obtain ⟨o, ho, hg, hd, hrun⟩ := H.r7
      refine wpOp_value ho hg (hrun _ _) ?_
      rw [hd, actV_put]
      refine ⟨updV val 9 _, x1, x2, l1, l3, b8, W.heap.size, rfl, hsz2, updV_out (by decide) hval, ?_⟩
      rw [hset]
      exact hS.op7 hlf
    · obtain ⟨o, ho, hg, hd, hrun⟩ := H.r8
      have h6 := hdep 8 6 hi (by decide)
      have h7 := hdep 8 7 hi (by decide)
      have h4 := hdep 8 4 hi (by decide)
      obtain ⟨e8, k8⟩ := hS.l8 h6
      rw [if_neg (fun e => false_of hlf e)] at k8
      refine wpOp_skip ho hg (hrun _ _ b8 x1 (by rw [hev 8 (by decide)]; exact e8) (by rw [hev 56 (by decide)]; exact hS.a1 (hdep 8 2 hi (by decide))) k8.blk) ?_
      rw [hd, actV_put_none]
      refine ⟨val, x1, x2, l1, l3, b8, b9, rfl, hsz2, hval, ?_⟩
      rw [hset]
      exact hS.op8 h4 h6 h7 hlf
    · obtain ⟨o, ho, hg, hd, hrun⟩ := H.r9
      have h8 := hdep 9 8 hi (by decide)
      have h7 := hdep 9 7 hi (by decide)
      obtain ⟨e9, k9⟩ := hS.l9 h7
      rw [if_neg (fun e => false_of hlf e)] at k9
      refine wpOp_skip ho hg (hrun _ _ b9 x2 (by rw [hev 9 (by decide)]; exact e9) (by rw [hev 59 (by decide)]; exact hS.a2 (hdep 9 5 hi (by decide))) k9.blk) ?_
      rw [hd, actV_put_none]
      refine ⟨val, x1, x2, l1, l3, b8, b9, rfl, hsz2, hval, ?_⟩
      rw [hset]
      exact hS.op9 h8 hlf
  · rintro listed a' W ⟨val, x1, x2, l1, l3, b8, b9, rfl, hsz, hval, hS⟩ hr
    have hall := all_listed (by rw [hsz, H.size]) hr H.down
    rw [H.size] at hall
    have f (i : Nat) (hi : i < 10) : (fun i => listed.getD i false) i = true := hall i hi
    obtain ⟨-, p1, m1⟩ := hS.p1 (f 1 (by decide))
    obtain ⟨-, p2, m2⟩ := hS.p2 (f 4 (by decide))
    obtain ⟨e8, k8⟩ := hS.l8 (f 6 (by decide))
    obtain ⟨e9, k9⟩ := hS.l9 (f 7 (by decide))
    rw [if_pos (f 8 (by decide))] at k8
    rw [if_pos (f 9 (by decide))] at k9
    have := hQ val x1 x2 l1 l3 b8 b9 W e8 e9 (hS.t2 (f 4 (by decide))) k8 k9 (hS.ne (f 6 (by decide)) (f 7 (by decide))) p1 m1 p2 m2
    rwa [act_puts val _ a (fun i _ hi => hval i hi)] at this
  · refine ⟨fun i => a.tmps.getD i undef, ⟨0, 0, none, 0, 0, [], 0⟩, ⟨0, 0, none, 0, 0, [], 0⟩, [], [], 0, 0, (actV_self a).symm, by simp [H.size], fun i _ => rfl, ?_⟩
    have hf : ∀ i, (Array.replicate ops.size false).getD i false = false := fun i => getD_replicate_false _ _
    have nf : ∀ {i : Nat} {p : Prop}, (Array.replicate ops.size false).getD i false = true → p := fun {i} {p} e => by rw [hf i] at e; cases e
    exact ⟨nf, nf, nf, nf, nf, nf, nf, fun _ => hT, nf, nf, nf, nf, nf, nf, nf, nf, nf⟩

theorem store_thing {w : World} {b : Nat} {v0 v1 v2 : Value} (x : Th) (h : Blk w b 168 #[v0, v1, v2]) : (Instr.storeAt 168 (.pointer (some ⟨b, 0, none⟩)) (agV x)).run Tryz.prog w = .ok () (put3 w b x) := by
  obtain ⟨c0, c1, c2, f0, f1, f2, -⟩ := blk_cells h
  have := run_storeAt_mid (P := Tryz.prog) w b 0 168 #[.int .i64 (x.wt : Int), .int .i64 (x.num : Int), .slice x.pa x.pn x.pc] (fun j hj => by
    have hj3 : j < 3 := hj
    obtain rfl | rfl | rfl : j = 0 ∨ j = 1 ∨ j = 2 := by omega
    · exact ⟨by rw [c0]; rfl, f0⟩
    · exact ⟨by rw [c1]; rfl, f1⟩
    · exact ⟨by rw [c2]; rfl, f2⟩) (by kernel_rfl) (by kernel_rfl)
  exact this

theorem runMake (hb : Nat) (x : Value) (w : World) (h : x = .pointer (some ⟨hb, 0, none⟩)) : (do pure (Next.value (← Instr.makeInterface 170 x)) : Sem Next).run Tryz.prog w = .ok (.value (ifV hb)) w := by
  subst h
  kernel_rfl
theorem runAssert (x : Th) (v : Value) (w : World) (h : v = thV x) : (do pure (Next.value (← Instr.typeAssert v 20 168 false)) : Sem Next).run Tryz.prog w = .ok (.value (agV x)) w := by
  subst h
  kernel_rfl
theorem runAlloc (w : World) : (do pure (Next.value (← Instr.alloc 168 true (.tuple #[]))) : Sem Next).run Tryz.prog w = .ok (.value (.pointer (some ⟨w.heap.size, 0, none⟩))) (w.alloc (.cells zTh 168)) := by
  kernel_rfl
theorem runStore {w : World} {b : Nat} (x : Th) (p v : Value) (h : Blk w b 168 zTh) (hp : p = .pointer (some ⟨b, 0, none⟩)) (hv : v = agV x) : (do Instr.storeAt 168 p v; pure Next.skip : Sem Next).run Tryz.prog w = .ok .skip (put3 w b x) := by
  subst hp hv
  rw [Sem.run_bind, store_thing x h]
  rfl
end Go.Proofs.YtkneigeejgblkaaGreat

/-
  Words for package huff's tree: the round of two trees.
-/
namespace Go.Proofs.YtkneigeejgblkaaGreat
open Go.RowKit Go.Shelf

theorem TreeR.inc {w0 w : World} {hb c n M : Nat} {A : Option Addr} {hs ex : List Th} {out : List Nat} (h : TreeR w0 hb A c n M hs ex out w) (p v : Nat) (hlt : w0.heap.size < hb) :
    TreeR w0 hb A c n M hs ex (out.set p v) (w.setCell ⟨w0.heap.size, p, none⟩ (natv v)) := by
  have hg := grown_set w ⟨w0.heap.size, p, none⟩ (natv v)
  have hnA : bk A ≠ some w0.heap.size := fun e => by have := (h.heap.row.lt e).1; omega
  refine ⟨⟨h.heap.box.kept hg (fun e => by have e2 : w0.heap.size = hb := Option.some.inj e; omega), h.heap.row.kept hg (.inr hnA)⟩, h.all, fun y hy => Own.kept (h.parts y hy) hg (.inr (fun e => ?_)), ?_, Nat.lt_of_lt_of_le h.lt hg.size, h.below.setCell (p := ⟨w0.heap.size, p, none⟩) (Nat.le_refl _) _⟩
  · have h5 : w0.heap.size + 1 ≤ w0.heap.size := (Own.lt (h.parts y hy) e).1
    omega
  · have := (Own.stored h.out_ p (natv v)).1
    unfold OwnN
    rw [List.map_set]
    exact this

theorem LocR.inc {w0 w : World} {hb b c n M : Nat} {A : Option Addr} {cs : Array Value} {hs ex : List Th} {out : List Nat} (h : LocR w0 hb A b cs w) (hT : TreeR w0 hb A c n M hs ex out w) (p : Nat) (v : Value) : LocR w0 hb A b cs (w.setCell ⟨w0.heap.size, p, none⟩ v) :=
  ⟨h.blk.kept (grown_set w ⟨w0.heap.size, p, none⟩ v) (fun e => Own.ne_blk hT.out_ h.blk (by decide) e), h.ne, h.ge⟩

/-- the weights are counts -/
def WtIn (counts : List Nat) (ts : List Th) : Prop := ∀ x ∈ ts, x.wt ∈ counts
theorem WtIn.put {counts : List Nat} {ts : List Th} {k c : Nat} (h : WtIn counts ts) (hc : counts[k]? = some c) (num : Nat) (pa : Option Addr) (pn pc : Nat) (ps : List Nat) (ht : Nat) : WtIn counts (ts ++ [⟨c, num, pa, pn, pc, ps, ht⟩]) := by
  intro x hx
  rcases List.mem_append.1 hx with hx | hx
  · exact h x hx
  · obtain rfl : x = _ := List.mem_singleton.1 hx
    exact List.mem_of_getElem? hc

/-- while trees are joined, with weights of 1 and 2 -/
def PhaseR (counts : List Nat) (hs : List Th) : Prop := (∀ x ∈ counts, x ≤ 2) → ∃ q, Phase q hs
theorem PhaseR.perm {counts : List Nat} {hs hs' : List Th} (h : PhaseR counts hs) (hp : hs'.Perm hs) : PhaseR counts hs' := fun hc => by
  obtain ⟨q, hq⟩ := h hc
  exact ⟨q, hq.perm hp⟩
theorem PhaseR.leaves {counts out P0 : List Nat} {W : Nat} {ts : List Th} (hf : Forest P0 W out ts) (hl : ∀ x ∈ ts, x.ht = 0) (hw : WtIn counts ts) : PhaseR counts ts := fun hc =>
  ⟨0, Phase.leaves (fun x hx => ⟨hl x hx, by
    have h1 := hc x.wt (hw x hx)
    have h2 := (hf.ok x hx).fib
    have h3 := fibT_pos x.ht
    omega⟩)⟩
theorem PhaseR.merge {counts : List Nat} {l : List Th} {a b x : Th} (h : PhaseR counts (a :: b :: l)) (ha : ∀ y ∈ l, leT a y) (hb : ∀ y ∈ l, leT b y) (hab : leT a b) (hw : x.wt = a.wt + b.wt) (hh : x.ht = max a.ht b.ht + 1) : PhaseR counts (x :: l) := fun hc => by
  obtain ⟨q, hq⟩ := h hc
  exact hq.merge (fun y hy => (ha y hy).wt) (fun y hy => (hb y hy).wt) hab.wt hw hh

/-- with counts of 1 and 2 no length is above the maximum -/
def LowOk (counts out : List Nat) : Prop := (∀ x ∈ counts, x ≤ 2) → counts.length ≤ 256 → ∀ p, out.getD p 0 ≤ 11
theorem sumL_le : ∀ (l : List Nat) (m : Nat), (∀ x ∈ l, x ≤ m) → sumL l ≤ l.length * m
  | [], m, _ => by simp [sumL]
  | x :: r, m, h => by
    have h1 := sumL_le r m (fun y hy => h y (List.mem_cons_of_mem _ hy))
    have h2 := h x (List.mem_cons_self)
    rw [sumL, List.length_cons, Nat.succ_mul]; omega
theorem LowOk.many {counts out P0 : List Nat} {x : Th} (hf : Forest P0 (sumL counts) out [x]) (hP : PhaseR counts [x]) : LowOk counts out := fun hc hl p => by
  obtain ⟨q, hq⟩ := hP hc
  have hw := hf.wts
  have h1 := sumL_le counts 2 hc
  have h0 : wtsT [x] = x.wt := by unfold wtsT; simp [sumL]
  have h2 := hq.low (by omega)
  by_cases hp : p ∈ x.ps
  · exact Nat.le_trans ((hf.ok x (List.mem_singleton_self _)).le p hp) h2
  · rw [hf.rest p (fun hp' => hp (by
      have := hf.all.symm.subset hp'
      unfold allP at this
      simpa using this))]
    exact Nat.zero_le _
theorem LowOk.one {counts : List Nat} (p : Nat) : LowOk counts ((List.replicate counts.length 0).set p 1) := fun _ _ q => by
  rw [getD_set]
  split
  · decide
  · rw [getD_rep]; decide

theorem OwnT.cap {w : World} {base n c : Nat} {A : Option Addr} {l : List Th} (h : OwnT w base A n c l) : n ≤ c := by
  rcases h.2 with ⟨h1, h0⟩ | ⟨g', cap, cur, hv, -, -, h3, -⟩
  · simp only [Value.slice.injEq] at h1
    omega
  · simp only [Value.slice.injEq] at hv
    omega

theorem psum_len {P0 : List Nat} {W : Nat} {out : List Nat} {l : List Th} {a b : Th} (h : Forest P0 W out (a :: b :: l)) : (a.ps ++ b.ps).length ≤ P0.length := by
  have := h.all.length_eq
  rw [allP_cons, allP_cons] at this
  simp only [List.length_append] at this ⊢
  omega
theorem ps_lt {counts out : List Nat} {W : Nat} {l : List Th} {a b : Th} (h : Forest (posL counts) W out (a :: b :: l)) : ∀ p ∈ a.ps ++ b.ps, p < counts.length := fun p hp =>
  posL_lt counts p (h.all.subset (by
    rw [allP_cons, allP_cons, ← List.append_assoc]
    exact List.mem_append_left _ hp))
theorem posL_len (counts : List Nat) : (posL counts).length ≤ counts.length := by
  unfold posL
  exact Nat.le_trans (List.length_filter_le _ _) (by simp)
theorem wt_le {P0 : List Nat} {W : Nat} {out : List Nat} {l : List Th} {a b : Th} (h : Forest P0 W out (a :: b :: l)) : a.wt + b.wt ≤ W := by
  have := h.wts
  rw [wtsT_cons, wtsT_cons] at this
  omega
theorem incT_step {ps : List Nat} {k p : Nat} (out : List Nat) (h : ps[k]? = some p) : incT out (ps.take (k + 1)) = (incT out (ps.take k)).set p ((incT out (ps.take k)).getD p 0 + 1) := by
  rw [List.take_add_one, h]
  exact incT_snoc _ _ _
theorem blk2_cells {w : World} {b : Nat} {v0 v1 : Value} {t : TypeId} (h : Blk w b t #[v0, v1]) : w.cell? ⟨b, 0, none⟩ = some v0 ∧ w.cell? ⟨b, 1, none⟩ = some v1 := by
  have h0 := h.cell 0
  have h1 := h.cell 1
  simp only [List.getElem?_toArray, List.getElem?_cons_zero, List.getElem?_cons_succ] at h0 h1
  exact ⟨h0, h1⟩
/-- every byte that stands has a length -/
def PosOk (counts out : List Nat) : Prop := ∀ p ∈ posL counts, 0 < out.getD p 0
theorem PosOk.one {counts : List Nat} {W p : Nat} {out : List Nat} {x : Th} (h : Forest (posL counts) W out [x]) (hp : x.ps = [p]) : PosOk counts ((List.replicate counts.length 0).set p 1) := by
  have hpos : posL counts = [p] := by
    have := h.all
    unfold allP at this
    rw [List.flatMap_cons, List.flatMap_nil, List.append_nil, hp] at this
    exact List.perm_singleton.1 this.symm
  intro q hq
  have hq' := hq
  rw [hpos] at hq
  obtain rfl := List.mem_singleton.1 hq
  rw [getD_set, if_pos ⟨rfl, by rw [List.length_replicate]; exact posL_lt counts q hq'⟩]
  exact Nat.one_pos
theorem PosOk.many {counts : List Nat} {W : Nat} {out : List Nat} {x : Th} (h : Forest (posL counts) W out [x]) (h2 : 2 ≤ (posL counts).length) : PosOk counts out := by
  intro p hp
  have hall : x.ps.Perm (posL counts) := by
    have := h.all
    unfold allP at this
    rw [List.flatMap_cons, List.flatMap_nil, List.append_nil] at this
    exact this
  have hk := (h.ok x (List.mem_singleton_self _)).kraft x.ht (Nat.le_refl _)
  rw [sumL_perm (hall.map _)] at hk
  rcases Nat.eq_zero_or_pos (out.getD p 0) with h0 | h0
  · exfalso
    obtain ⟨r, hr⟩ : ∃ r, (posL counts).Perm (p :: r) := ⟨_, List.perm_cons_erase hp⟩
    have hlen := hr.length_eq
    rw [List.length_cons] at hlen
    rw [sumL_perm (hr.map _), List.map_cons, sumL, h0, Nat.sub_zero] at hk
    cases r with
    | nil => simp at hlen; omega
    | cons q r =>
      rw [List.map_cons, sumL] at hk
      have := Nat.two_pow_pos (x.ht - out.getD q 0)
      omega
  · exact h0
theorem leaves_len {counts out : List Nat} {W : Nat} {ts : List Th} (h : Forest (posL counts) W out ts) (hl : ∀ x ∈ ts, x.ht = 0) : ts.length = (posL counts).length := by
  have key : ∀ l : List Th, (∀ x ∈ l, ∃ p, x.ps = [p]) → (allP l).length = l.length := by
    intro l
    induction l with
    | nil => intro _; rfl
    | cons x l ih =>
      intro hx
      obtain ⟨p, hp⟩ := hx x (List.mem_cons_self)
      rw [allP_cons, List.length_append, ih (fun y hy => hx y (List.mem_cons_of_mem _ hy)), hp, List.length_singleton, List.length_cons]
      omega
  rw [← h.all.length_eq, key ts (fun x hx => one_ps (h.ok x hx) (hl x hx))]

theorem le_fibT : ∀ n, n ≤ fibT n + 1
  | 0 => by omega
  | 1 => by unfold fibT; omega
  | n + 2 => by
    have h1 := le_fibT (n + 1)
    have h2 := fibT_pos n
    rw [fibT]; omega
theorem wt_le_wts : ∀ (l : List Th) (x : Th), x ∈ l → x.wt ≤ wtsT l
  | y :: l, x, h => by
    rw [wtsT_cons]
    rcases List.mem_cons.1 h with rfl | h
    · omega
    · have := wt_le_wts l x h
      omega
theorem Forest.out_le {P0 : List Nat} {W : Nat} {out : List Nat} {l : List Th} (h : Forest P0 W out l) (p : Nat) : out.getD p 0 ≤ W + 1 := by
  by_cases hp : p ∈ P0
  · have h1 := h.all.symm.subset hp
    obtain ⟨x, hx, hpx⟩ := List.mem_flatMap.1 h1
    have h2 := (h.ok x hx).le p hpx
    have h3 := (h.ok x hx).fib
    have h4 := le_fibT x.ht
    have h5 := wt_le_wts l x hx
    have h6 := h.wts
    omega
  · rw [h.rest p hp]; omega
theorem incT_le : ∀ (ps : List Nat) (out : List Nat) (p : Nat), (incT out ps).getD p 0 ≤ out.getD p 0 + ps.length
  | [], _, _ => Nat.le_refl _
  | q :: r, out, p => by
    have h := incT_le r (out.set q (out.getD q 0 + 1)) p
    rw [incT, List.length_cons]
    rw [getD_set] at h
    split at h
    · rename_i e
      rw [← e.1]
      rw [← e.1] at h
      omega
    · omega
theorem Forest.inc_le {P0 : List Nat} {W : Nat} {out : List Nat} {l : List Th} (h : Forest P0 W out l) (ps : List Nat) (i p : Nat) (hl : ps.length ≤ 256) : (incT out (ps.take i)).getD p 0 ≤ W + 257 := by
  have h1 := incT_le (ps.take i) out p
  have h2 := h.out_le p
  have h3 : (ps.take i).length ≤ ps.length := by rw [List.length_take]; omega
  omega
end Go.Proofs.YtkneigeejgblkaaGreat

/-
  Walks of package huff: the tree.
-/
namespace Go.Proofs.YtkneigeejgblkaaGreat
open Go.RowKit

set_option maxHeartbeats 8000000 in
set_option maxRecDepth 10000 in
theorem huffTree (A : Option Addr) (n c : Nat) (counts : List Nat) (w : World) (hl : counts.length = n) (hr : Ns w A counts) (hn0 : 0 < n) (hn : n ≤ 256) (hb : ∀ x ∈ counts, x ≤ 4294967295) (hpos : 0 < nz counts) :
    Calls Tryz.prog 117 #[.slice A n c] w fun e w' => ∃ S cs out, e = .returned (.slice S n cs) ∧ OwnN w' w.heap.size S n cs out ∧ TreeOk counts out ∧ LowOk counts out ∧ PosOk counts out ∧ Below w.heap.size w w' := by
  have HL := Lib.hid hl
  have HR := Lib.hid hr
  have HBd := Lib.hid hb
  have HPos := Lib.hid hpos
  clear hl hr hb hpos
  obtain ⟨ti, hi, hz0, hz1, hz2⟩ := info_parts elemN_info
  go_enter Tryz.func117, Tryz.ntmps117
  go_wp2_with (at_make; refine wpList_make_full _ rfl _ _ 57 rfl w.heap.size 3 ti _ 1 Tryz.underlying57 hi hz0 hz1 .i64 .i64 n n n rfl rfl rfl rfl (by rw [hz2]; omega) (by unfold maxLen; omega) (Nat.le_refl _) ?_)
  intro w1 hown1 hg1
  rw [made_zeros] at hown1
  have hb1 : Below w.heap.size w w1 := (Below.refl _ _).grown hg1 (Nat.le_refl _) (fun k hk => by cases hk)
  have hlt1 := (Own.lt hown1 (k := w.heap.size) rfl).2
  have hbA := (Below.refl w1.heap.size w1).alloc (Nat.le_refl _) (.cells #[.slice none 0 0] 166)
  have HOut := Lib.hid (show OwnN (w1.alloc (.cells #[.slice none 0 0] 166)) w.heap.size (some ⟨w.heap.size, 0, none⟩) n n (List.replicate n 0) from Own.later (w := w1) hown1 hbA)
  have HHp := Lib.hid (⟨Blk.new w1 166 #[.slice none 0 0], OwnT.nil _ _⟩ : HeapR (w1.alloc (.cells #[.slice none 0 0] 166)) (w.heap.size + 1) w1.heap.size none 0 0 [])
  have HB1 := Lib.hid (hb1.trans (hbA.mono hb1.size))
  have hsz1 : (w1.alloc (.cells #[.slice none 0 0] 166)).heap.size = w1.heap.size + 1 := by simp
  clear hown1 hg1 hi hz0 hz1 hz2 hbA
  go_wp2_with fail
  obtain ⟨w2, hw2⟩ : ∃ w2, w2 = w1.alloc (.cells #[.slice none 0 0] 166) := ⟨_, rfl⟩
  rw [← hw2] at HOut HHp HB1 hsz1 ⊢
  clear hw2
  obtain ⟨hbx, hhb⟩ : ∃ hbx, hbx = w1.heap.size := ⟨_, rfl⟩
  rw [← hhb] at HHp hlt1 hsz1 ⊢
  clear hhb hb1
  go_loopg [18] n (fun gg s18 wr => ∃ (k N cc : Nat) (AA : Option Addr) (ts : List Th), k ≤ n ∧ n - k ≤ gg ∧ s18 = .int .i64 (k : Int) ∧ HeapR wr (w.heap.size + 1) hbx AA N cc ts ∧ LeafR counts k ts ∧ WtIn counts ts ∧ PartsR wr w.heap.size ts ∧ OwnN wr w.heap.size (some ⟨w.heap.size, 0, none⟩) n n (List.replicate n 0) ∧ hbx < wr.heap.size ∧ Below w.heap.size w wr ∧ N ≤ cc)
  case atStart => exact ⟨0, 0, 0, none, [], by omega, by omega, rfl, HHp.out, ⟨⟨by simp, List.Pairwise.nil, rfl, List.Perm.refl _, fun p _ => getD_rep _ p⟩, by simp, Nat.le_refl _⟩, by intro x hx; simp at hx, by intro x hx; simp at hx, HOut.out, by omega, HB1.out, Nat.le_refl _⟩
  case round =>
    clear HHp HOut HB1
    obtain ⟨k, N, cc, AA, ts, hk, hgg, rfl, hh, hlf, hwi, hpr, hout, hbs, hbel, hNc⟩ := hrel
    have HWi := Lib.hid hwi
    have HH := Lib.hid hh
    have HLf := Lib.hid hlf
    have HPr := Lib.hid hpr
    have HO := Lib.hid hout
    have HB := Lib.hid hbel
    have hNl := hh.row.length
    have hNk : N ≤ k := by have := hlf.len; omega
    have hbx0 := hh.cell
    clear hh hlf hwi hpr hout hbel
    by_cases hkn : k < n
    · obtain ⟨b, o, x, hA, hx, hc⟩ := HR.out.at_ (by rw [HL.out]; exact hkn : k < counts.length)
      subst hA
      have hc2 := (HB.out.cell (by simpa using block_lt hc)).trans hc
      have hxb := HBd.out x (List.mem_of_getElem? hx)
      have HX := Lib.hid hx
      clear hx hc
      by_cases hx0 : 0 < x
      · have g1 : decide ((0 : Int) < (x : Int)) = true := decide_eq_true (by omega)
        have hbA := (Below.refl wr.heap.size wr).alloc (Nat.le_refl _) (.cells #[.int .i64 (k : Int)] 3)
        have hsA : (wr.alloc (.cells #[.int .i64 (k : Int)] 3)).heap.size = wr.heap.size + 1 := by simp
        have HHA := Lib.hid (HH.out.later hbA)
        have HPA := Lib.hid (show PartsR (wr.alloc (.cells #[.int .i64 (k : Int)] 3)) w.heap.size (ts ++ [⟨x, N, some ⟨wr.heap.size, 0, none⟩, 1, 1, [k], 0⟩]) from fun y hy => by
          rcases List.mem_append.1 hy with hy | hy
          · exact HPr.out.later hbA y hy
          · obtain rfl : y = _ := List.mem_singleton.1 hy
            exact Own.mono (own_one wr (.int .i64 (k : Int)) 3) (by omega))
        have HOA := Lib.hid (Own.later HO.out hbA)
        have HBA := Lib.hid (HB.out.trans (hbA.mono HB.out.size))
        have HLf2 := Lib.hid (HLf.out.put HX.out hx0 N (some ⟨wr.heap.size, 0, none⟩) 1 1)
        have HWi2 := Lib.hid (HWi.out.put HX.out N (some ⟨wr.heap.size, 0, none⟩) 1 1 [k] 0)
        have hbxA := (hbA.cell (p := ⟨hbx, 0, none⟩) hbs).trans hbx0
        have hbB := (Below.refl (wr.alloc (.cells #[.int .i64 (k : Int)] 3)).heap.size (wr.alloc (.cells #[.int .i64 (k : Int)] 3))).alloc (Nat.le_refl _) (.cells #[.int .i64 (x : Int), .int .i64 (N : Int), .slice (some ⟨wr.heap.size, 0, none⟩) 1 1] 168)
        have hbxB := (hbB.cell (p := ⟨hbx, 0, none⟩) (by rw [hsA]; show hbx < _; omega)).trans hbxA
        clear hbA hbB
        go_wp2_with (at_builtin; go_loud (refine wpList_append_th rfl _ _ rfl (w.heap.size + 1) AA N cc ts ⟨x, N, some ⟨wr.heap.size, 0, none⟩, 1, 1, [k], 0⟩ ?hw rfl HHA.out.row ?hh ?hb ?hbase ?_; (case hh => simp [Act.eval])))
        case hw => rfl
        case hb => omega
        case hbase => rw [hsA]; omega
        intro A6 c6 w6 hrow6 hg6 hnt6
        have hbox6 := HHA.out.box.kept hg6 HHA.out.ne
        have c6b := hbox6.cell 0
        simp only [List.getElem?_toArray, List.getElem?_cons_zero] at c6b
        have f6b := hbox6.frozen 0
        have hgs := grown_set w6 ⟨hbx, 0, none⟩ (.slice A6 (N + 1) c6)
        have htw : Two hbx AA (wr.alloc (.cells #[.int .i64 (k : Int)] 3)) (w6.setCell ⟨hbx, 0, none⟩ (.slice A6 (N + 1) c6)) := ((Two.refl hbx AA _).grown hg6 (fun k hk _ => .inr hk)).set_g _
        have HH7 := Lib.hid (⟨hbox6.set 0 (.slice A6 (N + 1) c6), hrow6.kept hgs (.inr (hrow6.ne_blk hbox6 (by decide)))⟩ : HeapR (w6.setCell ⟨hbx, 0, none⟩ (.slice A6 (N + 1) c6)) (w.heap.size + 1) hbx A6 (N + 1) c6 (ts ++ [⟨x, N, some ⟨wr.heap.size, 0, none⟩, 1, 1, [k], 0⟩]))
        have HP7 := Lib.hid (HPA.out.two HHA.out htw)
        have HO7 := Lib.hid (htw.own HOA.out (Own.ne_blk HOA.out HHA.out.box (by decide)) (by
          rcases HHA.out.row.ne_own HOA.out (by decide) with h1 | h1
          · exact .inr (by rw [h1]; simp [bk])
          · exact .inr (fun e => h1 e.symm)))
        have HB7 := Lib.hid (show Below w.heap.size w (w6.setCell ⟨hbx, 0, none⟩ (.slice A6 (N + 1) c6)) from (HBA.out.grown hg6 HBA.out.size (fun k hk => by have := (HHA.out.row.lt hk).1; omega)).setCell (p := ⟨hbx, 0, none⟩) (show w.heap.size ≤ hbx by omega) _)
        have hbs7 : hbx < (w6.setCell ⟨hbx, 0, none⟩ (.slice A6 (N + 1) c6)).heap.size := by
          have h1 := hg6.size
          have h2 : (w6.setCell ⟨hbx, 0, none⟩ (.slice A6 (N + 1) c6)).heap.size = w6.heap.size := by simp [World.setCell]
          omega
        have hc7 : N + 1 ≤ c6 := by
          rcases hrow6.2 with ⟨-, h0⟩ | ⟨g', cap, cur, hv, -, -, h3, -⟩
          · omega
          · simp only [Value.slice.injEq] at hv
            omega
        clear hbox6 hrow6 hg6 hnt6 hgs htw hbx0 hbxA hbxB hsA
        go_wp2
        go_roundg (n - (k + 1))
        case measure => omega
        case rel => exact ⟨k + 1, N + 1, c6, A6, _, by omega, by omega, by go_num, HH7.out, HLf2.out, HWi2.out, HP7.out, HO7.out, hbs7, HB7.out, hc7⟩
      · have g1 : decide ((0 : Int) < (x : Int)) = false := decide_eq_false (by omega)
        obtain rfl : x = 0 := by omega
        have HLf2 := Lib.hid (HLf.out.skip HX.out)
        clear hbx0
        go_wp2
        go_roundg (n - (k + 1))
        case measure => omega
        case rel => exact ⟨k + 1, N, cc, AA, ts, by omega, by omega, by go_num, HH.out, HLf2.out, HWi.out, HPr.out, HO.out, hbs, HB.out, hNc⟩
    · obtain rfl : k = n := by omega
      have hfor : Forest (posL counts) (sumL counts) (List.replicate counts.length 0) ts := by
        have h := HLf.out.forest
        rw [← HL.out, List.take_of_length_le (Nat.le_refl _)] at h
        exact h
      have HFor := Lib.hid hfor
      have HLow := Lib.hid HLf.out.low
      have hN1 : 1 ≤ N := by
        rcases Nat.lt_or_ge 0 N with h | h
        · exact h
        · exfalso
          have h0 : ts = [] := List.length_eq_zero_iff.1 (by omega)
          have h1 := hfor.wts
          rw [h0] at h1
          have h2 := nz_pos HPos.out
          have : wtsT ([] : List Th) = 0 := rfl
          omega
      clear HLf hfor
      by_cases hone : N = 1
      · subst hone
        obtain ⟨x, hx⟩ : ∃ x, ts = [x] := List.length_eq_one_iff.1 hNl
        subst hx
        obtain ⟨p, hp⟩ := one_ps (HFor.out.ok x (List.mem_singleton_self _)) (HLow.out x (List.mem_singleton_self _))
        obtain ⟨htree, hpn⟩ := TreeOk.one HFor.out hp
        have HPo := Lib.hid (PosOk.one HFor.out hp)
        obtain ⟨g, x', hAA, hg1, hg2, hx', -, -, a2, -⟩ := HH.out.row.at_ (k := 0) (by omega)
        cases hx'
        subst hAA
        have hpr := HPr.out x (List.mem_singleton_self _)
        have hpl := OwnN.length hpr
        rw [hp] at hpl
        have hpl1 : x.pn = 1 := hpl.symm
        obtain ⟨gp, xp, hpa, -, -, hxp, hcp, -⟩ := Own.at_ hpr (k := 0) (by omega)
        rw [hp] at hxp
        have hxp2 : xp = .int .i64 (p : Int) := by simpa [natv] using hxp.symm
        subst hxp2
        rw [hpa, hpl1] at a2
        have e03 : 0 * 3 + 2 = 2 := rfl
        rw [e03] at a2
        obtain ⟨go, xo, hgo, -, hgo2, -, hco, hfo⟩ := Own.at_ HO.out (k := p) (by rw [← HL.out]; exact hpn)
        have hgo' : go = w.heap.size := by injection hgo with h; injection h with h1; exact h1.symm
        subst hgo'
        have HTr := Lib.hid htree
        have HO2 := Lib.hid (show OwnN (wr.setCell ⟨w.heap.size, p, none⟩ (.int .i64 1)) w.heap.size (some ⟨w.heap.size, 0, none⟩) k k ((List.replicate k 0).set p 1) from by
          unfold OwnN
          rw [List.map_set]
          exact (Own.stored HO.out p _).1)
        have HB2 := Lib.hid (HB.out.setCell (p := ⟨w.heap.size, p, none⟩) (Nat.le_refl _) (.int .i64 1))
        have i1 : (0 : Int) ≤ (p : Int) := by omega
        have i2 : (p : Int) < (k : Int) := by rw [← HL.out]; omega
        clear hp htree hpr hpl hpl1 hxp hpa hgo e03
        go_wp2
        go_ret
        refine ⟨some ⟨w.heap.size, 0, none⟩, k, _, rfl, HO2.out, ?_, ?_, ?_, HB2.out⟩
        · rw [← HL.out]
          exact HTr.out
        · rw [← HL.out]
          exact LowOk.one p
        · rw [← HL.out]
          exact HPo.out
      · have g1 : ((N : Int) == 1) = false := beq_eq_false_iff_ne.2 (by omega)
        have HIn := Lib.hid (hpInit (w.heap.size + 1) hbx AA N cc ts wr HH.out (by omega))
        go_wp2_with fail
        refine HIn.out.mono ?_
        rintro e w5 ⟨⟨v5, rfl⟩, ⟨l5, hh5, hp5, ha5⟩, ht5⟩
        have HH5 := Lib.hid hh5
        have HF5 := Lib.hid (HFor.out.perm hp5)
        have HA5 := Lib.hid ha5
        have HN2 := Lib.hid (show 2 ≤ (posL counts).length by rw [← leaves_len HFor.out HLow.out]; omega)
        have HPh5 := Lib.hid ((PhaseR.leaves HFor.out HLow.out HWi.out).perm hp5)
        have HP5 := Lib.hid (PartsR.perm (HPr.out.two HH.out ht5) (fun x hx => hp5.subset hx))
        have HO5 := Lib.hid (ht5.own HO.out (Own.ne_blk HO.out HH.out.box (by decide)) (by
          rcases HH.out.row.ne_own HO.out (by decide) with h1 | h1
          · exact .inr (by rw [h1]; simp [bk])
          · exact .inr (fun e => h1 e.symm)))
        have HB5 := Lib.hid (show Below w.heap.size w w5 from HB.out.trans (two_below HH.out ht5 (by omega) (by omega) HB.out.size))
        have hs5 : hbx < w5.heap.size := Nat.lt_of_lt_of_le hbs ht5.size
        clear hh5 hp5 ha5 ht5 HIn hbx0 g1
        go_wp2_with fail
        go_loopg [7] N (fun gg s7 wl => ∃ (M c2 nx : Nat) (A2 : Option Addr) (hs : List Th) (out : List Nat), 1 ≤ M ∧ M ≤ gg ∧ s7 = .int .i64 (nx : Int) ∧ nx + M ≤ 600 ∧ HeapR wl (w.heap.size + 1) hbx A2 M c2 hs ∧ HAll (fnT hs) M 0 ∧ Forest (posL counts) (sumL counts) out hs ∧ PhaseR counts hs ∧ out.length = k ∧ PartsR wl w.heap.size hs ∧ OwnN wl w.heap.size (some ⟨w.heap.size, 0, none⟩) k k out ∧ hbx < wl.heap.size ∧ Below w.heap.size w wl ∧ M ≤ c2)
        case atStart => exact ⟨N, cc, N, AA, l5, _, hN1, Nat.le_refl _, rfl, by omega, HH5.out, HA5.out, HF5.out, HPh5.out, by rw [List.length_replicate]; exact HL.out, HP5.out, by have h := HO5.out; rw [← HL.out] at h ⊢; exact h, hs5, HB5.out, hNc⟩
        case round =>
          clear HH5 HF5 HPh5 HA5 HP5 HO5 HB5 hs5 HH HPr HO HB HFor HLow
          obtain ⟨M, c2, nx, A2, hs, out, hM1, hMg, rfl, hnx, hh, ha, hf, hph, hol, hp, ho, hbs2, hbel, hMc⟩ := hrel
          have HH := Lib.hid hh
          have HA := Lib.hid ha
          have HF := Lib.hid hf
          have HPh := Lib.hid hph
          have HOl := Lib.hid hol
          have HP := Lib.hid hp
          have HO := Lib.hid ho
          have HB := Lib.hid hbel
          have HHl := Lib.hid hh.row.length
          have hbx0 := hh.cell
          clear hh ha hf hph hol hp ho hbel
          by_cases hM2 : 1 < M
          · obtain ⟨M2, rfl⟩ : ∃ M2, M = M2 + 1 + 1 := ⟨M - 2, by omega⟩
            have g1 : decide ((1 : Int) < ((M2 + 1 + 1 : Nat) : Int)) = true := decide_eq_true (by omega)
            have HT0 := Lib.hid (⟨HH.out, HA.out, HP.out, HO.out, hbs2, HB.out⟩ : TreeR w hbx A2 c2 k (M2 + 1 + 1) hs [] out wr)
            have hta := fun (x : Th) (W : World) => (show (Instr.typeAssert (thV x) 20 168 false).run Tryz.prog W = .ok (.agg #[.int .i64 (x.wt : Int), .int .i64 (x.num : Int), .slice x.pa x.pn x.pc]) W from assert_thing _ W)
            go_upto_region 15 with fail
            clear hbx0 HH HA HP HO HB hbs2 g1
            go_cut [8, 9] from 54 to 59 (fun s8 s9 wx => ∃ (b8 b9 : Nat) (x1 x2 : Th) (l1 l3 : List Th), s8 = .pointer (some ⟨b8, 0, none⟩) ∧ s9 = .pointer (some ⟨b9, 0, none⟩) ∧ TreeR w hbx A2 c2 k M2 l3 [x2, x1] out wx ∧ LocR w hbx A2 b8 (vTh x1) wx ∧ LocR w hbx A2 b9 (vTh x2) wx ∧ b8 ≠ b9 ∧ (x1 :: l1).Perm hs ∧ (∀ y ∈ l1, leT x1 y) ∧ (x2 :: l3).Perm l1 ∧ (∀ y ∈ l3, leT x2 y))
            case first =>
              refine reg15 (hb := hbx) (M := M2) (by kernel_rfl) ?h15 (by kernel_rfl) (Nat.le_of_ble_eq_true (by kernel_rfl)) HT0.out.drew (by omega) hMc (by omega) ?hQ
              case h15 =>
                refine ⟨by kernel_rfl, by kernel_rfl, by kernel_rfl, ?r0, ?r3, ?r1, ?r4, ?r2, ?r5, ?r6, ?r7, ?r8, ?r9⟩
                case r0 => exact ⟨_, rfl, rfl, rfl, fun ρ W h => runMake hbx _ W h⟩
                case r3 => exact ⟨_, rfl, rfl, rfl, fun ρ W h => runMake hbx _ W h⟩
                case r1 => exact ⟨_, rfl, rfl, rfl, fun a W v h => by subst h; kernel_rfl⟩
                case r4 => exact ⟨_, rfl, rfl, rfl, fun a W v h => by subst h; kernel_rfl⟩
                case r2 => exact ⟨_, rfl, rfl, rfl, fun ρ W x h => runAssert x _ W h⟩
                case r5 => exact ⟨_, rfl, rfl, rfl, fun ρ W x h => runAssert x _ W h⟩
                case r6 => exact ⟨_, rfl, rfl, rfl, fun ρ W => runAlloc W⟩
                case r7 => exact ⟨_, rfl, rfl, rfl, fun ρ W => runAlloc W⟩
                case r8 => exact ⟨_, rfl, rfl, rfl, fun ρ W b x h1 h2 hk => runStore x _ _ hk h1 h2⟩
                case r9 => exact ⟨_, rfl, rfl, rfl, fun ρ W b x h1 h2 hk => runStore x _ _ hk h1 h2⟩
              case hQ =>
                intro val x1 x2 l1 l3 b8 b9 wx e8 e9 hTx k8 k9 hne p1 m1 p2 m2
                obtain ⟨z54, hz54⟩ : ∃ z, z = val 54 := ⟨_, rfl⟩
                obtain ⟨z55, hz55⟩ : ∃ z, z = val 55 := ⟨_, rfl⟩
                obtain ⟨z56, hz56⟩ : ∃ z, z = val 56 := ⟨_, rfl⟩
                obtain ⟨z57, hz57⟩ : ∃ z, z = val 57 := ⟨_, rfl⟩
                obtain ⟨z58, hz58⟩ : ∃ z, z = val 58 := ⟨_, rfl⟩
                obtain ⟨z59, hz59⟩ : ∃ z, z = val 59 := ⟨_, rfl⟩
                simp only [List.foldl_cons, List.foldl_nil]
                rw [e8, e9, ← hz54, ← hz55, ← hz56, ← hz57, ← hz58, ← hz59]
                clear hz54 hz55 hz56 hz57 hz58 hz59 e8 e9
                simp only [Act.put, List.setIfInBounds_toArray, List.set_cons_zero, List.set_cons_succ]
                go_step
                go_step
                go_meet
                exact ⟨b8, b9, x1, x2, l1, l3, rfl, rfl, hTx, k8, k9, hne, p1, m1, p2, m2⟩
            case rest =>
              obtain ⟨b8, b9, x1, x2, l1, l3, rfl, rfl, hTx, k8, k9, hne, p1, m1, p2, m2⟩ := hcut
              have HTx := Lib.hid hTx
              have K8 := Lib.hid k8
              have K9 := Lib.hid k9
              obtain ⟨a0, a1, a2, a3, a4, a5, a6⟩ := blk_cells k8.blk
              obtain ⟨d0, d1, d2, d3, d4, d5, d6⟩ := blk_cells k9.blk
              clear hTx k8 k9
              have HF2 := Lib.hid (HF.out.perm ((p2.cons x1).trans p1))
              have HPh2 := Lib.hid (HPh.out.perm ((p2.cons x1).trans p1))
              have hpl := Nat.le_trans (psum_len HF2.out) (posL_len counts)
              have HPlt := Lib.hid (ps_lt HF2.out)
              have hwt := wt_le HF2.out
              have hws := sumL_le counts 4294967295 HBd.out
              rw [HL.out] at hpl hws
              have HPx1 := Lib.hid (HTx.out.parts x1 (by simp))
              have HPx2 := Lib.hid (HTx.out.parts x2 (by simp))
              have hM1a : leT x1 x2 := m1 x2 (p2.subset (List.mem_cons_self))
              have HM1 := Lib.hid (show ∀ y ∈ l3, leT x1 y from fun y hy => m1 y (p2.subset (List.mem_cons_of_mem _ hy)))
              have HM2 := Lib.hid m2
              have HMa := Lib.hid hM1a
              have HTa := Lib.hid (HTx.out.alloc (.cells #[.slice x1.pa x1.pn x1.pc, .slice x2.pa x2.pn x2.pc] 57))
              have K8a := Lib.hid (K8.out.alloc (.cells #[.slice x1.pa x1.pn x1.pc, .slice x2.pa x2.pn x2.pc] 57))
              have K9a := Lib.hid (K9.out.alloc (.cells #[.slice x1.pa x1.pn x1.pc, .slice x2.pa x2.pn x2.pc] 57))
              have HCat := Lib.hid (concatN wc.heap.size 2 2 (fun i => if i = 0 then x1.pa else x2.pa) (fun i => if i = 0 then x1.pn else x2.pn) (fun i => if i = 0 then x1.pc else x2.pc) (fun i => if i = 0 then x1.ps else x2.ps) (wc.alloc (.cells #[.slice x1.pa x1.pn x1.pc, .slice x2.pa x2.pn x2.pc] 57)) ?hc1 ?hc2 ?hc3 (by omega) ?hc4)
              case hc1 =>
                intro i hi
                obtain rfl | rfl : i = 0 ∨ i = 1 := by omega
                · exact (blk2_cells (Blk.new wc 57 #[.slice x1.pa x1.pn x1.pc, .slice x2.pa x2.pn x2.pc])).1
                · exact (blk2_cells (Blk.new wc 57 #[.slice x1.pa x1.pn x1.pc, .slice x2.pa x2.pn x2.pc])).2
              case hc2 =>
                intro i hi
                obtain rfl | rfl : i = 0 ∨ i = 1 := by omega
                · exact OwnN.length HPx1.out
                · exact OwnN.length HPx2.out
              case hc3 =>
                intro i hi
                obtain rfl | rfl : i = 0 ∨ i = 1 := by omega
                · exact OwnN.ns (Own.alloc HPx1.out _)
                · exact OwnN.ns (Own.alloc HPx2.out _)
              case hc4 => show (x1.ps ++ x2.ps).length ≤ 1000000; omega
              clear p1 m1 p2 m2 hM1a HF HPh HTx K8 K9 hta HT0
              go_wp2_with fail
              refine HCat.out.mono ?_
              rintro e wd ⟨S, np, cs, rfl, hrow, hbd⟩
              have hrow' : OwnN wd (wc.alloc (.cells #[.slice x1.pa x1.pn x1.pc, .slice x2.pa x2.pn x2.pc] 57)).heap.size S np cs (x1.ps ++ x2.ps) := hrow
              clear hrow
              obtain ⟨ps, hps⟩ : ∃ ps, ps = x1.ps ++ x2.ps := ⟨_, rfl⟩
              rw [← hps] at hrow' hpl HPlt
              have hnp : np = ps.length := (OwnN.length hrow').symm
              have HRow := Lib.hid (show OwnN wd (w.heap.size + 1) S np cs ps from Own.mono hrow' (by have := HTa.out.lt; omega))
              have HTd := Lib.hid (HTa.out.later hbd)
              have K8d := Lib.hid (⟨K8a.out.blk.later hbd, K8a.out.ne, K8a.out.ge⟩ : LocR w hbx A2 b8 (vTh x1) wd)
              have K9d := Lib.hid (⟨K9a.out.blk.later hbd, K9a.out.ne, K9a.out.ge⟩ : LocR w hbx A2 b9 (vTh x2) wd)
              have HPs := Lib.hid hps
              clear hrow' hps hbd HTa K8a K9a HCat a0 a1 a2 a3 a4 a5 a6 d0 d1 d2 d3 d4 d5 d6 HPx1 HPx2
              go_wp2_with fail
              go_loopg [68] np (fun gg s68 wl => ∃ (i : Nat), i ≤ np ∧ np - i ≤ gg ∧ s68 = .int .i64 (i : Int) ∧ TreeR w hbx A2 c2 k M2 l3 [x2, x1] (incT out (ps.take i)) wl ∧ LocR w hbx A2 b8 (vTh x1) wl ∧ LocR w hbx A2 b9 (vTh x2) wl ∧ OwnN wl (w.heap.size + 1) S np cs ps)
              case atStart => exact ⟨0, by omega, by omega, rfl, HTd.out, K8d.out, K9d.out, HRow.out⟩
              case round =>
                clear HTd K8d K9d HRow
                obtain ⟨i, hi, hig, rfl, hT, k8, k9, hrow⟩ := hrel
                have HT := Lib.hid hT
                have K8 := Lib.hid k8
                have K9 := Lib.hid k9
                have HRow := Lib.hid hrow
                clear hT k8 k9 hrow
                by_cases hin : i < np
                · obtain ⟨gs, x', hS, -, -, hx', hcs, -⟩ := Own.at_ HRow.out hin
                  subst hS
                  obtain ⟨p, hp⟩ : ∃ p, ps[i]? = some p := ⟨_, List.getElem?_eq_getElem (by omega)⟩
                  have hx2 : x' = natv p := by
                    rw [List.getElem?_map, hp] at hx'
                    simpa using hx'.symm
                  subst hx2
                  have hpk := HPlt.out p (List.mem_of_getElem? hp)
                  rw [HL.out] at hpk
                  obtain ⟨go, xo, hgo, -, -, hxo, hco, hfo⟩ := Own.at_ HT.out.out_ (k := p) hpk
                  have hgo' : go = w.heap.size := by injection hgo with h; injection h with h1; exact h1.symm
                  subst hgo'
                  obtain ⟨v, hv⟩ : ∃ v, v = (incT out (ps.take i)).getD p 0 := ⟨_, rfl⟩
                  have hxo2 : xo = natv v := by
                    rw [List.getElem?_map] at hxo
                    rw [hv, List.getD]
                    cases hq : (incT out (ps.take i))[p]? with
                    | none => rw [hq] at hxo; cases hxo
                    | some q => rw [hq] at hxo; simpa using hxo.symm
                  subst hxo2
                  have hvb : v ≤ sumL counts + 257 := by rw [hv]; exact HF2.out.inc_le ps i p (by omega)
                  have HT2 := Lib.hid (HT.out.inc p (v + 1) (by omega))
                  rw [hv] at HT2
                  have HT3 := Lib.hid (show TreeR w hbx A2 c2 k M2 l3 [x2, x1] (incT out (ps.take (i + 1))) (wr.setCell ⟨w.heap.size, p, none⟩ (natv (v + 1))) from by
                    rw [incT_step out hp, hv]
                    exact HT2.out)
                  have K82 := Lib.hid (K8.out.inc HT.out p (natv (v + 1)))
                  have K92 := Lib.hid (K9.out.inc HT.out p (natv (v + 1)))
                  have HRow2 := Lib.hid (show OwnN (wr.setCell ⟨w.heap.size, p, none⟩ (natv (v + 1))) (w.heap.size + 1) (some ⟨gs, 0, none⟩) np cs ps from Own.setCell HRow.out (p := ⟨w.heap.size, p, none⟩) (fun e => by have h5 : w.heap.size + 1 ≤ w.heap.size := (Own.lt HRow.out e).1; omega) _)
                  have i1 : (0 : Int) ≤ (p : Int) := by omega
                  have i2 : (p : Int) < (k : Int) := by omega
                  have hcs' : wr.cell? ⟨gs, i, none⟩ = some (.int .i64 (p : Int)) := hcs
                  have hco' : wr.cell? ⟨w.heap.size, p, none⟩ = some (.int .i64 (v : Int)) := hco
                  clear hx' hgo hxo hv HT2 hp hcs hco
                  go_wp2
                  go_roundg (np - (i + 1))
                  case measure => omega
                  case rel => exact ⟨i + 1, by omega, by omega, by go_num, HT3.out, K82.out, K92.out, HRow2.out⟩
                · obtain rfl : i = np := by omega
                  subst hnp
                  obtain ⟨a0, a1, a2, a3, a4, a5, a6⟩ := blk_cells K8.out.blk
                  obtain ⟨d0, d1, d2, d3, d4, d5, d6⟩ := blk_cells K9.out.blk
                  have a0' : wr.cell? ⟨b8, 0, none⟩ = some (.int .i64 (x1.wt : Int)) := a0
                  have d0' : wr.cell? ⟨b9, 0, none⟩ = some (.int .i64 (x2.wt : Int)) := d0
                  have hTe := HT.out
                  rw [List.take_length] at hTe
                  have hbx1 := hTe.heap.cell
                  obtain ⟨x, hx⟩ : ∃ x : Th, x = ⟨x1.wt + x2.wt, nx, S, ps.length, cs, ps, max x1.ht x2.ht + 1⟩ := ⟨_, rfl⟩
                  have HPush := Lib.hid (hpPush (w.heap.size + 1) hbx A2 M2 c2 l3 x wr hTe.heap (by omega) (by have := hTe.lt; omega) hTe.all)
                  have hthx : thV x = .iface 168 (.agg #[.int .i64 ((x1.wt : Int) + (x2.wt : Int)), .int .i64 (nx : Int), .slice S ps.length cs]) := by
                    rw [hx]
                    show Value.iface _ (.agg #[.int .i64 ((x1.wt + x2.wt : Nat) : Int), .int .i64 (nx : Int), .slice S ps.length cs]) = _
                    rw [Int.natCast_add]
                  rw [hthx] at HPush
                  have HTe := Lib.hid hTe
                  have HX := Lib.hid hx
                  clear hTe hx hthx a0 a1 a2 a3 a4 a5 d0 d1 d2 d3 d4 d5 HT
                  go_wp2_with fail
                  refine HPush.out.mono ?_
                  rintro e wz ⟨⟨v, rfl⟩, ⟨A', c', l', hh', hp', ha', -⟩, ht⟩
                  obtain ⟨q1, q2, q3, q4⟩ := HTe.out.two ht (by omega)
                  have hS := ht.own HRow.out (own_row_ne HTe.out.heap HRow.out).1 (own_row_ne HTe.out.heap HRow.out).2
                  have hxps : x.ps = ps := by rw [HX.out]
                  have HHn := Lib.hid hh'
                  have HAn := Lib.hid ha'
                  have HPn := Lib.hid (show PartsR wz w.heap.size l' from fun y hy => by
                    rcases List.mem_cons.1 (hp'.subset hy) with rfl | hy
                    · rw [HX.out]; exact hS
                    · exact q1 y (List.mem_append_right _ hy))
                  have HFn := Lib.hid (show Forest (posL counts) (sumL counts) (incT out ps) l' from by
                    have := (HF2.out.merge (posL_nodup counts) (posL_lt counts) (by rw [HOl.out, HL.out]) HM1.out HM2.out (x := x) (by rw [HX.out]) (by rw [HX.out]) (by rw [hxps, HPs.out])).perm hp'
                    rwa [hxps] at this)
                  have HPhn := Lib.hid ((HPh2.out.merge HM1.out HM2.out HMa.out (x := x) (by rw [HX.out]) (by rw [HX.out])).perm hp')
                  have HOn := Lib.hid q2
                  have HBn := Lib.hid q4
                  have hcap := OwnT.cap hh'.row
                  clear hh' hp' ha' ht q1 q2 q4 hS hxps HPush HRow HTe
                  go_wp2_with fail
                  go_roundg (M2 + 1)
                  case measure => omega
                  case rel => exact ⟨M2 + 1, c', nx + 1, A', l', incT out ps, by omega, by omega, by go_num, by omega, HHn.out, HAn.out, HFn.out, HPhn.out, by rw [incT_len]; exact HOl.out, HPn.out, HOn.out, q3, HBn.out, hcap⟩
          · obtain rfl : M = 1 := by omega
            have hx : ∃ x, hs = [x] := List.length_eq_one_iff.1 HHl.out
            obtain ⟨x, rfl⟩ := hx
            have HTr := Lib.hid (TreeOk.many HF.out (by rw [HOl.out, HL.out]))
            go_wp2
            go_ret
            exact ⟨some ⟨w.heap.size, 0, none⟩, k, out, rfl, HO.out, HTr.out, LowOk.many HF.out HPh.out, PosOk.many HF.out HN2.out, HB.out⟩
end Go.Proofs.YtkneigeejgblkaaGreat

/-
  Plain words for huff.Lengths: what the lengths of a tree are good for; counts that are halved.
-/
namespace Go.Proofs.YtkneigeejgblkaaGreat
open Go.RowKit

/-- lengths for counts: they may be, and whatever stands has one -/
structure LensOk (counts out : List Nat) : Prop where
  len : out.length ≤ counts.length
  may : mayL out = true
  pos : ∀ p, 0 < counts.getD p 0 → p < out.length ∧ 0 < out.getD p 0

theorem getD_out {l : List Nat} {p : Nat} (h : l.length ≤ p) : l.getD p 0 = 0 := by rw [List.getD, List.getElem?_eq_none h]; rfl

theorem sumL_mul (l : List Nat) (f : Nat → Nat) (c : Nat) : sumL (l.map (fun p => f p * c)) = sumL (l.map f) * c := by
  induction l with
  | nil => simp [sumL]
  | cons x r ih => simp only [List.map_cons, sumL, ih, Nat.add_mul]
theorem sumL_filter (P : Nat → Bool) (g : Nat → Nat) : ∀ l : List Nat, (∀ x ∈ l, P x = false → g x = 0) → sumL (l.map g) = sumL ((l.filter P).map g)
  | [], _ => rfl
  | x :: r, h => by
    have ih := sumL_filter P g r (fun y hy => h y (List.mem_cons_of_mem _ hy))
    cases hp : P x with
    | true => rw [List.filter_cons_of_pos hp, List.map_cons, List.map_cons, sumL, sumL, ih]
    | false => rw [List.filter_cons_of_neg (by simp [hp]), List.map_cons, sumL, ih, h x (List.mem_cons_self) hp, Nat.zero_add]

theorem list_range (l : List Nat) : l = (List.range l.length).map (fun p => l.getD p 0) := by
  apply List.ext_getElem
  · simp
  · intro i h1 h2; simp [List.getD, h1]
theorem kraft_map (l : List Nat) : kraft l = sumL (l.map (fun k => if 0 < k then 2 ^ (11 - k) else 0)) := by
  induction l with
  | nil => rfl
  | cons x r ih => rw [kraft, ih, List.map_cons, sumL]
theorem cntPos_map (l : List Nat) : cntPos l = sumL (l.map (fun k => if 0 < k then 1 else 0)) := by
  induction l with
  | nil => rfl
  | cons x r ih => rw [cntPos, ih, List.map_cons, sumL]

theorem mem_posL {l : List Nat} {p : Nat} : p ∈ posL l ↔ 0 < l.getD p 0 := by
  unfold posL
  rw [List.mem_filter, List.mem_range]
  constructor
  · intro h; simpa using h.2
  · intro h
    refine ⟨?_, by simpa using h⟩
    rcases Nat.lt_or_ge p l.length with h' | h'
    · exact h'
    · rw [getD_out h'] at h; omega

/-- a sum over the lengths is one over the bytes that stand -/
theorem sum_pos {cs out : List Nat} (h : TreeOk cs out) (g : Nat → Nat) (h0 : g 0 = 0) : sumL (out.map g) = sumL ((posL cs).map (fun p => g (out.getD p 0))) := by
  conv => lhs; rw [list_range out]
  rw [List.map_map, h.len]
  unfold posL
  refine sumL_filter (fun p => decide (0 < cs.getD p 0)) _ _ (fun p hp hp0 => ?_)
  have h1 := h.rest p (by simp at hp0; exact hp0)
  show g (out.getD p 0) = 0
  rw [h1, h0]

theorem kraft_tree {cs out : List Nat} (h : TreeOk cs out) (hP : PosOk cs out) (hmax : ∀ p, out.getD p 0 ≤ 11) : kraft out = 2048 ∨ (cntPos out = 1 ∧ ∃ p, posL cs = [p] ∧ out.getD p 0 = 1) := by
  have hpos := hP
  obtain ⟨H, -, hle, hk | ⟨p, hp1, -, hp2⟩⟩ := h.top
  · left
    rw [kraft_map, sum_pos h _ (by simp)]
    have e1 : (posL cs).map (fun p => if 0 < out.getD p 0 then 2 ^ (11 - out.getD p 0) else 0) = (posL cs).map (fun p => 2 ^ (11 - out.getD p 0)) :=
      List.map_congr_left (fun p hp => by rw [if_pos (hpos p hp)])
    rw [e1]
    rcases Nat.le_total H 11 with hH | hH
    · have e2 : (posL cs).map (fun p => 2 ^ (11 - out.getD p 0)) = (posL cs).map (fun p => 2 ^ (H - out.getD p 0) * 2 ^ (11 - H)) :=
        List.map_congr_left (fun p _ => by rw [← Nat.pow_add]; congr 1; have := hle p; omega)
      rw [e2, sumL_mul, hk, ← Nat.pow_add, show H + (11 - H) = 11 by omega]
    · have e2 : (posL cs).map (fun p => 2 ^ (H - out.getD p 0)) = (posL cs).map (fun p => 2 ^ (11 - out.getD p 0) * 2 ^ (H - 11)) :=
        List.map_congr_left (fun p _ => by rw [← Nat.pow_add]; congr 1; have := hmax p; omega)
      rw [e2, sumL_mul, show 2 ^ H = 2 ^ 11 * 2 ^ (H - 11) by rw [← Nat.pow_add]; congr 1; omega] at hk
      exact Nat.eq_of_mul_eq_mul_right (Nat.two_pow_pos _) hk
  · right
    refine ⟨?_, p, hp1, hp2⟩
    rw [cntPos_map, sum_pos h _ (by simp), hp1]
    simp only [List.map_cons, List.map_nil, sumL]
    rw [hp2]
    rfl

theorem lens_may {cs out : List Nat} (h : TreeOk cs out) (hP : PosOk cs out) (hmax : ∀ x ∈ out, x ≤ 11) (hlast : 0 < cs.getD (cs.length - 1) 0) (h0 : 0 < cs.length) (h256 : cs.length ≤ 256) : mayL out = true := by
  have hm : ∀ p, out.getD p 0 ≤ 11 := fun p => by
    rcases Nat.lt_or_ge p out.length with h' | h'
    · rw [List.getD, List.getElem?_eq_getElem h', Option.getD_some]; exact hmax _ (List.getElem_mem h')
    · rw [getD_out h']; omega
  have hl := hP (cs.length - 1) (mem_posL.2 hlast)
  have hall : out.all (fun k => decide (k ≤ 11)) = true := by
    rw [List.all_eq_true]
    intro x hx
    simpa using hmax x hx
  unfold mayL
  rw [h.len, hall, decide_eq_true h0, decide_eq_true h256]
  have h1 : (out.getD (cs.length - 1) 0 != 0) = true := bne_iff_ne.2 (by omega)
  rw [h1]
  rcases kraft_tree h hP hm with hk | ⟨hc, p, hp1, hp2⟩
  · rw [hk]; rfl
  · have : cs.length - 1 ∈ posL cs := mem_posL.2 hlast
    rw [hp1] at this
    rw [List.mem_singleton.1 this, hc, hp2]
    simp

theorem lens_ok {cs out : List Nat} (h : TreeOk cs out) (hP : PosOk cs out) (hmax : ∀ x ∈ out, x ≤ 11) (hlast : 0 < cs.getD (cs.length - 1) 0) (h0 : 0 < cs.length) (h256 : cs.length ≤ 256) : LensOk cs out :=
  ⟨Nat.le_of_eq h.len, lens_may h hP hmax hlast h0 h256, fun p hp => ⟨by rw [h.len]; exact posL_lt cs p (mem_posL.2 hp), hP p (mem_posL.2 hp)⟩⟩

/-- a count that is halved -/
def hv (c : Nat) : Nat := if 0 < c then c / 2 + 1 else 0
theorem hv_le (c : Nat) : hv c ≤ c := by unfold hv; split <;> omega
theorem hv_lt {c : Nat} (h : 2 < c) : hv c < c := by unfold hv; rw [if_pos (by omega)]; omega
theorem hv_pos (c : Nat) : 0 < hv c ↔ 0 < c := by
  unfold hv
  constructor
  · intro h; split at h <;> omega
  · intro h; rw [if_pos h]; omega
theorem hvs_getD (l : List Nat) (p : Nat) : (l.map hv).getD p 0 = hv (l.getD p 0) := by
  rw [List.getD, List.getD, List.getElem?_map]
  cases l[p]? <;> rfl
theorem sum_hv_le : ∀ l : List Nat, sumL (l.map hv) ≤ sumL l
  | [] => Nat.le_refl _
  | x :: r => by have := sum_hv_le r; have := hv_le x; rw [List.map_cons, sumL, sumL]; omega
theorem sum_hv_lt : ∀ l : List Nat, (∃ x ∈ l, 2 < x) → sumL (l.map hv) < sumL l
  | [], ⟨_, h, _⟩ => by cases h
  | y :: r, ⟨x, h, hx⟩ => by
    rw [List.map_cons, sumL, sumL]
    rcases List.mem_cons.1 h with rfl | h
    · have := sum_hv_le r; have := hv_lt hx; omega
    · have := sum_hv_lt r ⟨x, h, hx⟩; have := hv_le y; omega

/-- counts that stand where others stand, and are at most as many -/
structure SameP (counts cs : List Nat) : Prop where
  len : cs.length ≤ counts.length
  pos : ∀ p, 0 < cs.getD p 0 ↔ 0 < counts.getD p 0
  last : 0 < cs.getD (cs.length - 1) 0
  some_ : 0 < cs.length
  le : ∀ x ∈ cs, x ≤ 4294967295
theorem SameP.half {counts cs : List Nat} (h : SameP counts cs) : SameP counts (cs.map hv) := by
  refine ⟨by rw [List.length_map]; exact h.len, fun p => ?_, ?_, by rw [List.length_map]; exact h.some_, fun x hx => ?_⟩
  · rw [hvs_getD, hv_pos]; exact h.pos p
  · rw [List.length_map, hvs_getD, hv_pos]; exact h.last
  · obtain ⟨y, hy, rfl⟩ := List.mem_map.1 hx
    exact Nat.le_trans (hv_le y) (h.le y hy)
theorem SameP.lens {counts cs out : List Nat} (h : SameP counts cs) (h256 : counts.length ≤ 256) (ht : TreeOk cs out) (hP : PosOk cs out) (hmax : ∀ x ∈ out, x ≤ 11) : LensOk counts out := by
  have hl := h.len
  have := lens_ok ht hP hmax h.last h.some_ (by omega)
  exact ⟨Nat.le_trans this.len hl, this.may, fun p hp => this.pos p ((h.pos p).2 hp)⟩
theorem nz_of : ∀ (l : List Nat) (p : Nat), 0 < l.getD p 0 → 0 < nz l
  | [], p, h => by simp [List.getD] at h
  | x :: r, 0, h => by
    have h' : 0 < x := h
    rw [nz, if_pos h']; omega
  | x :: r, p + 1, h => by
    have := nz_of r p h
    rw [nz]; omega
theorem SameP.nz {counts cs : List Nat} (h : SameP counts cs) : 0 < nz cs := nz_of cs _ h.last
/-- a longest length above the maximum: some count is above 2 -/
theorem big_some {cs out : List Nat} (hL : LowOk cs out) (h256 : cs.length ≤ 256) (hb : ∃ x ∈ out, 11 < x) : ∃ x ∈ cs, 2 < x := by
  obtain ⟨x, hx, hx1⟩ := hb
  obtain ⟨i, hi, rfl⟩ := List.getElem_of_mem hx
  apply Classical.byContradiction
  intro hn
  have := hL (fun y hy => by
    rcases Nat.lt_or_ge 2 y with h | h
    · exact (hn ⟨y, hy, h⟩).elim
    · exact h) h256 i
  rw [List.getD, List.getElem?_eq_getElem hi, Option.getD_some] at this
  omega

/-- zeros at the end are taken away -/
structure TrimOk (counts : List Nat) (m : Nat) : Prop where
  le : m ≤ counts.length
  zero : ∀ p, m ≤ p → counts.getD p 0 = 0
theorem TrimOk.step {counts : List Nat} {m : Nat} (h : TrimOk counts (m + 1)) (hz : counts[m]? = some 0) : TrimOk counts m :=
  ⟨by have := h.le; omega, fun p hp => by
    rcases Nat.eq_or_lt_of_le hp with rfl | hp
    · simp [List.getD, hz]
    · exact h.zero p hp⟩
theorem TrimOk.same {counts : List Nat} {m x : Nat} (h : TrimOk counts (m + 1)) (hx : counts[m]? = some x) (h0 : 0 < x) (hb : ∀ y ∈ counts, y ≤ 4294967295) : SameP counts (counts.take (m + 1)) := by
  have hl := h.le
  have hlen : (counts.take (m + 1)).length = m + 1 := by rw [List.length_take]; omega
  have hg : ∀ p, p < m + 1 → (counts.take (m + 1)).getD p 0 = counts.getD p 0 := fun p hp => by
    rw [List.getD, List.getD, List.getElem?_take, if_pos hp]
  refine ⟨by omega, fun p => ?_, ?_, by omega, fun y hy => hb y (List.mem_of_mem_take hy)⟩
  · rcases Nat.lt_or_ge p (m + 1) with hp | hp
    · rw [hg p hp]
    · rw [h.zero p hp, getD_out (by omega)]
  · rw [hlen, Nat.add_sub_cancel, hg m (by omega)]
    simp [List.getD, hx, h0]
end Go.Proofs.YtkneigeejgblkaaGreat
