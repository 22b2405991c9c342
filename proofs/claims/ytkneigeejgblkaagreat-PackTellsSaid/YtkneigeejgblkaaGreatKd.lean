/-
  Parts of the proofs about package pack, in the order in which they build: T5, T6, T7, T8, F7, W3, F8, F9a, I1, F9b, R1, M2, M3.
-/
import Derived.Test.YtkneigeejgblkaaGreatKc
import Derived.WalkMore
import Derived.StillTailTactics
import Derived.RangeFuncNested
import Derived.RangeFuncBound
import Derived.RangeFuncCalls
import Derived.RangeFuncLeaves
import Derived.RangeFuncBox
import Derived.Shelf.Abstract
import Derived.Shelf.RegionOpen
import Derived.WalkKit
import Derived.OwnWalkIn
import Derived.TacticsInMore
import Derived.LoopNIn
import Derived.LoopIn
set_option linter.unusedSimpArgs false
set_option linter.unusedVariables false
/-
  Walks of container/heap at package huff's things: down, up.
-/
namespace Go.Proofs.YtkneigeejgblkaaGreat
open Go.RowKit

theorem HeapR.drewN {w : World} {B hb n c : Nat} {A : Option Addr} {l : List Th} (h : HeapR w B hb A n c l) (q : Nat) : HeapR (w.drewN q) B hb A n c l := h.later (below_drewN w q)

set_option maxHeartbeats 4000000 in
set_option maxRecDepth 10000 in
theorem hpDown (B hb : Nat) (A : Option Addr) (N c : Nat) (l : List Th) (i0 n k : Nat) (w : World) (h : HeapR w B hb A N c l) (hn : n ≤ N) (hN : N ≤ 1000000) (hk : k ≤ i0) (hi0 : i0 ≤ n) (hd : HDown (fnT l) n k i0) :
    Calls Tryz.prog 129 #[.iface 170 (.pointer (some ⟨hb, 0, none⟩)), .int .i64 (i0 : Int), .int .i64 (n : Int)] w fun e w' => (∃ v, e = .returned v) ∧ (∃ l', HeapR w' B hb A N c l' ∧ l'.Perm l ∧ l'.drop n = l.drop n ∧ HAll (fnT l') n k) ∧ Two hb A w w' := by
  have H0 := Lib.hid h
  have HD0 := Lib.hid hd
  clear h hd
  go_enter Tryz.func129, Tryz.ntmps129
  go_wp2
  go_loopg [7] n (fun gg s7 wr => ∃ (i : Nat) (l' : List Th), s7 = .int .i64 (i : Int) ∧ n - i ≤ gg ∧ k ≤ i ∧ i ≤ n ∧ HeapR wr B hb A N c l' ∧ l'.Perm l ∧ l'.drop n = l.drop n ∧ HDown (fnT l') n k i ∧ Two hb A w wr)
  case atStart => exact ⟨i0, l, rfl, by omega, hk, hi0, H0.out, List.Perm.refl _, rfl, HD0.out, Two.refl _ _ _⟩
  case round =>
    obtain ⟨i, l', rfl, hgg, hki, hin, hh, hp, hdr, hd, htw⟩ := hrel
    have HH := Lib.hid hh
    have HP := Lib.hid hp
    have HDr := Lib.hid hdr
    have HD := Lib.hid hd
    have HT := Lib.hid htw
    have hlen := hh.row.length
    have HLen := Lib.hid hlen
    clear hh hp hdr hd htw hlen
    have e1 : IntKind.i64.wrap (2 * (i : Int)) = 2 * (i : Int) := wrapi64 (by omega) (by omega)
    have e2 : IntKind.i64.wrap (2 * (i : Int) + 1) = ((2 * i + 1 : Nat) : Int) := by rw [wrapi64 (by omega) (by omega)]; rfl
    obtain ⟨j1, hj1⟩ : ∃ j1, 2 * i + 1 = j1 := ⟨_, rfl⟩
    rw [hj1] at e2
    by_cases hleaf : n ≤ j1
    · have g1 : decide ((n : Int) ≤ (j1 : Int)) = true := decide_eq_true (by omega)
      have HA := Lib.hid (HD.out.leaf (by omega))
      clear hj1
      go_wp2
      go_ret
      exact ⟨⟨_, rfl⟩, ⟨l', HH.out, HP.out, HDr.out, HA.out⟩, HT.out⟩
    · have g1 : decide ((n : Int) ≤ (j1 : Int)) = false := decide_eq_false (by omega)
      have g2 : decide ((j1 : Int) < 0) = false := decide_eq_false (by omega)
      have e3 : IntKind.i64.wrap ((j1 : Int) + 1) = ((j1 + 1 : Nat) : Int) := by rw [wrapi64 (by omega) (by omega)]; rfl
      have hml := m_Less HH.out.cell
      by_cases h2 : j1 + 1 < n
      · have g3 : decide (((j1 + 1 : Nat) : Int) < (n : Int)) = true := decide_eq_true (by omega)
        have HLa : Calls Tryz.prog 151 #[.slice A N c, .int .i64 ((j1 : Int) + 1), .int .i64 (j1 : Int)] wr _ := thLess B A N c l' (j1 + 1) j1 _ _ wr HH.out.row (fnT_at (by rw [HLen.out]; omega)) (fnT_at (by rw [HLen.out]; omega))
        have HLs := Lib.hid HLa
        clear HLa
        go_wp2_with fail
        refine HLs.out.mono ?_
        rintro e w1 ⟨rfl, q1, hw1⟩
        have HH1 := Lib.hid (show HeapR w1 B hb A N c l' by rw [hw1]; exact HH.out.drewN q1)
        have HT1 := Lib.hid (show Two hb A w w1 by rw [hw1]; exact HT.out.drewN q1)
        clear HLs hw1
        cases hc : lessT (fnT l' (j1 + 1)) (fnT l' j1) with
        | true =>
          have HMin := Lib.hid (show ∀ m, m < n → (m - 1) / 2 = i → 1 ≤ m → leT (fnT l' (j1 + 1)) (fnT l' m) from fun m h1 h2 h3 => by
            have : m = j1 ∨ m = j1 + 1 := by omega
            rcases this with rfl | rfl
            · exact lessT_lt hc
            · exact leT.refl _)
          clear hc
          have hml2 := m_Less HH1.out.cell
          have HLt : Calls Tryz.prog 151 #[.slice A N c, .int .i64 ((j1 : Int) + 1), .int .i64 (i : Int)] w1 _ := thLess B A N c l' (j1 + 1) i _ _ w1 HH1.out.row (fnT_at (by rw [HLen.out]; omega)) (fnT_at (by rw [HLen.out]; omega))
          have HLs2 := Lib.hid HLt
          clear HLt
          go_wp2_with fail
          refine HLs2.out.mono ?_
          rintro e w2 ⟨rfl, q2, hw2⟩
          have HH2 := Lib.hid (show HeapR w2 B hb A N c l' by rw [hw2]; exact HH1.out.drewN q2)
          have HT2 := Lib.hid (show Two hb A w w2 by rw [hw2]; exact HT1.out.drewN q2)
          clear hw2
          cases hlt : lessT (fnT l' (j1 + 1)) (fnT l' i) with
          | false =>
            have HA := Lib.hid (HD.out.stop (j := (j1 + 1)) (by omega) (lessT_le.1 hlt) HMin.out)
            clear hj1 HLs2
            go_wp2
            go_ret
            exact ⟨⟨_, rfl⟩, ⟨l', HH2.out, HP.out, HDr.out, HA.out⟩, HT2.out⟩
          | true =>
            have hms := m_Swap HH2.out.cell
            have HSt := Lib.hid (HD.out.step hki (j := (j1 + 1)) (by omega) (by omega) (lessT_lt hlt) HMin.out)
            have HSwF := Lib.hid (swapT_fn (l := l') (i := i) (j := (j1 + 1)) (by rw [HLen.out]; omega) (by rw [HLen.out]; omega) (by omega))
            have HPm := Lib.hid (perm_set2 l' i (j1 + 1) (by rw [HLen.out]; omega) (by rw [HLen.out]; omega) (by omega))
            have HDp := Lib.hid (swapT_drop (l := l') (i := i) (j := (j1 + 1)) (n := n) (by omega) (by omega))
            have HSc : Calls Tryz.prog 152 #[.slice A N c, .int .i64 (i : Int), .int .i64 ((j1 : Int) + 1)] w2 _ := thSwap B A N c l' i (j1 + 1) _ _ w2 HH2.out.row (fnT_at (by rw [HLen.out]; omega)) (fnT_at (by rw [HLen.out]; omega)) (by omega)
            have HSc2 := Lib.hid HSc
            clear HSc HLs2
            go_wp2_with fail
            refine HSc2.out.mono ?_
            rintro e w3 ⟨⟨v3, rfl⟩, hrow3, hgr3⟩
            have HBox3 := Lib.hid (HH2.out.box.kept hgr3 HH2.out.ne)
            have HRow3 := Lib.hid hrow3
            have HT3 := Lib.hid (HT2.out.grown hgr3 (fun k hk _ => .inr hk))
            clear hrow3 hgr3 HSc2 hms
            go_wp2
            go_roundg (n - (j1 + 1))
            case measure => omega
            case rel => exact ⟨(j1 + 1), swapT l' i (j1 + 1), by go_num, by omega, by omega, by omega, ⟨HBox3.out, HRow3.out⟩, HPm.out.trans HP.out, HDp.out.trans HDr.out, by rw [HSwF.out]; exact HSt.out, HT3.out⟩
        | false =>
          have HMin := Lib.hid (show ∀ m, m < n → (m - 1) / 2 = i → 1 ≤ m → leT (fnT l' j1) (fnT l' m) from fun m h1 h2 h3 => by
            have : m = j1 ∨ m = j1 + 1 := by omega
            rcases this with rfl | rfl
            · exact leT.refl _
            · exact lessT_le.1 hc)
          clear hc
          have hml2 := m_Less HH1.out.cell
          have HLt : Calls Tryz.prog 151 #[.slice A N c, .int .i64 (j1 : Int), .int .i64 (i : Int)] w1 _ := thLess B A N c l' j1 i _ _ w1 HH1.out.row (fnT_at (by rw [HLen.out]; omega)) (fnT_at (by rw [HLen.out]; omega))
          have HLs2 := Lib.hid HLt
          clear HLt
          go_wp2_with fail
          refine HLs2.out.mono ?_
          rintro e w2 ⟨rfl, q2, hw2⟩
          have HH2 := Lib.hid (show HeapR w2 B hb A N c l' by rw [hw2]; exact HH1.out.drewN q2)
          have HT2 := Lib.hid (show Two hb A w w2 by rw [hw2]; exact HT1.out.drewN q2)
          clear hw2
          cases hlt : lessT (fnT l' j1) (fnT l' i) with
          | false =>
            have HA := Lib.hid (HD.out.stop (j := j1) (by omega) (lessT_le.1 hlt) HMin.out)
            clear hj1 HLs2
            go_wp2
            go_ret
            exact ⟨⟨_, rfl⟩, ⟨l', HH2.out, HP.out, HDr.out, HA.out⟩, HT2.out⟩
          | true =>
            have hms := m_Swap HH2.out.cell
            have HSt := Lib.hid (HD.out.step hki (j := j1) (by omega) (by omega) (lessT_lt hlt) HMin.out)
            have HSwF := Lib.hid (swapT_fn (l := l') (i := i) (j := j1) (by rw [HLen.out]; omega) (by rw [HLen.out]; omega) (by omega))
            have HPm := Lib.hid (perm_set2 l' i j1 (by rw [HLen.out]; omega) (by rw [HLen.out]; omega) (by omega))
            have HDp := Lib.hid (swapT_drop (l := l') (i := i) (j := j1) (n := n) (by omega) (by omega))
            have HSc : Calls Tryz.prog 152 #[.slice A N c, .int .i64 (i : Int), .int .i64 (j1 : Int)] w2 _ := thSwap B A N c l' i j1 _ _ w2 HH2.out.row (fnT_at (by rw [HLen.out]; omega)) (fnT_at (by rw [HLen.out]; omega)) (by omega)
            have HSc2 := Lib.hid HSc
            clear HSc HLs2
            go_wp2_with fail
            refine HSc2.out.mono ?_
            rintro e w3 ⟨⟨v3, rfl⟩, hrow3, hgr3⟩
            have HBox3 := Lib.hid (HH2.out.box.kept hgr3 HH2.out.ne)
            have HRow3 := Lib.hid hrow3
            have HT3 := Lib.hid (HT2.out.grown hgr3 (fun k hk _ => .inr hk))
            clear hrow3 hgr3 HSc2 hms
            go_wp2
            go_roundg (n - j1)
            case measure => omega
            case rel => exact ⟨j1, swapT l' i j1, by go_num, by omega, by omega, by omega, ⟨HBox3.out, HRow3.out⟩, HPm.out.trans HP.out, HDp.out.trans HDr.out, by rw [HSwF.out]; exact HSt.out, HT3.out⟩
      · have g3 : decide (((j1 + 1 : Nat) : Int) < (n : Int)) = false := decide_eq_false (by omega)
        have HMin := Lib.hid (show ∀ m, m < n → (m - 1) / 2 = i → 1 ≤ m → leT (fnT l' j1) (fnT l' m) from fun m h1 h2 h3 => by
          have : m = j1 := by omega
          subst this
          exact leT.refl _)
        have hml2 := m_Less HH.out.cell
        have HLt : Calls Tryz.prog 151 #[.slice A N c, .int .i64 (j1 : Int), .int .i64 (i : Int)] wr _ := thLess B A N c l' j1 i _ _ wr HH.out.row (fnT_at (by rw [HLen.out]; omega)) (fnT_at (by rw [HLen.out]; omega))
        have HLs2 := Lib.hid HLt
        clear HLt
        go_wp2_with fail
        refine HLs2.out.mono ?_
        rintro e w2 ⟨rfl, q2, hw2⟩
        have HH2 := Lib.hid (show HeapR w2 B hb A N c l' by rw [hw2]; exact HH.out.drewN q2)
        have HT2 := Lib.hid (show Two hb A w w2 by rw [hw2]; exact HT.out.drewN q2)
        clear hw2
        cases hlt : lessT (fnT l' j1) (fnT l' i) with
        | false =>
          have HA := Lib.hid (HD.out.stop (j := j1) (by omega) (lessT_le.1 hlt) HMin.out)
          clear hj1 HLs2
          go_wp2
          go_ret
          exact ⟨⟨_, rfl⟩, ⟨l', HH2.out, HP.out, HDr.out, HA.out⟩, HT2.out⟩
        | true =>
          have hms := m_Swap HH2.out.cell
          have HSt := Lib.hid (HD.out.step hki (j := j1) (by omega) (by omega) (lessT_lt hlt) HMin.out)
          have HSwF := Lib.hid (swapT_fn (l := l') (i := i) (j := j1) (by rw [HLen.out]; omega) (by rw [HLen.out]; omega) (by omega))
          have HPm := Lib.hid (perm_set2 l' i j1 (by rw [HLen.out]; omega) (by rw [HLen.out]; omega) (by omega))
          have HDp := Lib.hid (swapT_drop (l := l') (i := i) (j := j1) (n := n) (by omega) (by omega))
          have HSc : Calls Tryz.prog 152 #[.slice A N c, .int .i64 (i : Int), .int .i64 (j1 : Int)] w2 _ := thSwap B A N c l' i j1 _ _ w2 HH2.out.row (fnT_at (by rw [HLen.out]; omega)) (fnT_at (by rw [HLen.out]; omega)) (by omega)
          have HSc2 := Lib.hid HSc
          clear HSc HLs2
          go_wp2_with fail
          refine HSc2.out.mono ?_
          rintro e w3 ⟨⟨v3, rfl⟩, hrow3, hgr3⟩
          have HBox3 := Lib.hid (HH2.out.box.kept hgr3 HH2.out.ne)
          have HRow3 := Lib.hid hrow3
          have HT3 := Lib.hid (HT2.out.grown hgr3 (fun k hk _ => .inr hk))
          clear hrow3 hgr3 HSc2 hms
          go_wp2
          go_roundg (n - j1)
          case measure => omega
          case rel => exact ⟨j1, swapT l' i j1, by go_num, by omega, by omega, by omega, ⟨HBox3.out, HRow3.out⟩, HPm.out.trans HP.out, HDp.out.trans HDr.out, by rw [HSwF.out]; exact HSt.out, HT3.out⟩
end Go.Proofs.YtkneigeejgblkaaGreat

/-
  Walks of container/heap at package huff's things: up, Init, Pop, Push.
-/
namespace Go.Proofs.YtkneigeejgblkaaGreat
open Go.RowKit

theorem Two.newTo2 {g : Nat} {A A' : Option Addr} {w W W' : World} (h : Two g A w W) (hn : NewTo w A A') (k : Two g A' W W') : Two g A w W' :=
  ⟨k.os.trans h.os, k.tape.trans h.tape, k.output.trans h.output, Nat.le_trans h.size k.size, fun i hi h1 h2 => (k.block i (Nat.lt_of_lt_of_le hi h.size) h1 (fun e => by
    rcases hn with hn | ⟨j, h3, h4⟩
    · exact h2 (by rw [← hn]; exact e)
    · rw [e] at h3; injection h3 with h3; omega)).trans (h.block i hi h1 h2)⟩

set_option maxHeartbeats 4000000 in
set_option maxRecDepth 10000 in
theorem hpUp (B hb : Nat) (A : Option Addr) (N c : Nat) (l : List Th) (j0 : Nat) (w : World) (h : HeapR w B hb A N c l) (hN : N ≤ 1000000) (hj : j0 < N) (hd : HUp (fnT l) N j0) :
    Calls Tryz.prog 131 #[.iface 170 (.pointer (some ⟨hb, 0, none⟩)), .int .i64 (j0 : Int)] w fun e w' => (∃ v, e = .returned v) ∧ (∃ l', HeapR w' B hb A N c l' ∧ l'.Perm l ∧ HAll (fnT l') N 0) ∧ Two hb A w w' := by
  have H0 := Lib.hid h
  have HD0 := Lib.hid hd
  clear h hd
  go_enter Tryz.func131, Tryz.ntmps131
  go_wp2
  go_loopg [1] N (fun gg s1 wr => ∃ (j : Nat) (l' : List Th), s1 = .int .i64 (j : Int) ∧ j ≤ gg ∧ j < N ∧ HeapR wr B hb A N c l' ∧ l'.Perm l ∧ HUp (fnT l') N j ∧ Two hb A w wr)
  case atStart => exact ⟨j0, l, rfl, by omega, hj, H0.out, List.Perm.refl _, HD0.out, Two.refl _ _ _⟩
  case round =>
    obtain ⟨j, l', rfl, hgg, hjN, hh, hp, hd, htw⟩ := hrel
    have HH := Lib.hid hh
    have HP := Lib.hid hp
    have HD := Lib.hid hd
    have HT := Lib.hid htw
    have HLen := Lib.hid hh.row.length
    clear hh hp hd htw
    cases j with
    | zero =>
      have HA := Lib.hid (HD.out.stop (.inl rfl))
      go_wp2
      go_end0
      exact ⟨⟨_, rfl⟩, ⟨l', HH.out, HP.out, HA.out⟩, HT.out⟩
    | succ p =>
      obtain ⟨i, hi⟩ : ∃ i, p / 2 = i := ⟨_, rfl⟩
      have hpi : i ≤ p := by omega
      have HI := Lib.hid (show (p + 1 - 1) / 2 = i by omega)
      have e1 : IntKind.i64.wrap (((p + 1 : Nat) : Int) - 1) = (p : Int) := by rw [wrapi64 (by omega) (by omega)]; omega
      have e2 : (p : Int) / 2 = (i : Int) := by omega
      have g1 : ((i : Int) == (p : Int) + 1) = false := beq_eq_false_iff_ne.2 (by omega)
      have hml := m_Less HH.out.cell
      have HLa : Calls Tryz.prog 151 #[.slice A N c, .int .i64 ((p : Int) + 1), .int .i64 (i : Int)] wr _ := thLess B A N c l' (p + 1) i _ _ wr HH.out.row (fnT_at (by rw [HLen.out]; omega)) (fnT_at (by rw [HLen.out]; omega))
      have HLs := Lib.hid HLa
      clear HLa hi
      go_wp2_with fail
      refine HLs.out.mono ?_
      rintro e w2 ⟨rfl, q2, hw2⟩
      have HH2 := Lib.hid (show HeapR w2 B hb A N c l' by rw [hw2]; exact HH.out.drewN q2)
      have HT2 := Lib.hid (show Two hb A w w2 by rw [hw2]; exact HT.out.drewN q2)
      clear hw2 HLs
      cases hlt : lessT (fnT l' (p + 1)) (fnT l' i) with
      | false =>
        have HA := Lib.hid (HD.out.stop (.inr (by rw [HI.out]; exact lessT_le.1 hlt)))
        clear hml
        go_wp2
        go_end0
        exact ⟨⟨_, rfl⟩, ⟨l', HH2.out, HP.out, HA.out⟩, HT2.out⟩
      | true =>
        have hms := m_Swap HH2.out.cell
        have HSt := Lib.hid (by have h := HD.out.step (by omega) (by rw [HI.out]; exact lessT_lt hlt); rw [HI.out] at h; exact h : HUp (swapF (fnT l') (p + 1) i) N i)
        have HSwF := Lib.hid (swapT_fn (l := l') (i := p + 1) (j := i) (by rw [HLen.out]; omega) (by rw [HLen.out]; omega) (by omega))
        have HPm := Lib.hid (perm_set2 l' (p + 1) i (by rw [HLen.out]; omega) (by rw [HLen.out]; omega) (by omega))
        have HSc : Calls Tryz.prog 152 #[.slice A N c, .int .i64 (i : Int), .int .i64 ((p : Int) + 1)] w2 _ := thSwap B A N c l' i (p + 1) _ _ w2 HH2.out.row (fnT_at (by rw [HLen.out]; omega)) (fnT_at (by rw [HLen.out]; omega)) (by omega)
        have HSc2 := Lib.hid HSc
        clear HSc
        go_wp2_with fail
        refine HSc2.out.mono ?_
        rintro e w3 ⟨⟨v3, rfl⟩, hrow3, hgr3⟩
        have HBox3 := Lib.hid (HH2.out.box.kept hgr3 HH2.out.ne)
        have HRow3 := Lib.hid (show OwnT w3 B A N c (swapT l' (p + 1) i) from by
          unfold swapT
          rw [List.set_comm _ _ (by omega)]
          exact hrow3)
        have HT3 := Lib.hid (HT2.out.grown hgr3 (fun k hk _ => .inr hk))
        clear hrow3 hgr3 HSc2 hms hml
        go_wp2
        go_roundg i
        case measure => omega
        case rel => exact ⟨i, swapT l' (p + 1) i, rfl, Nat.le_refl _, by omega, ⟨HBox3.out, HRow3.out⟩, HPm.out.trans HP.out, by rw [HSwF.out]; exact HSt.out, HT3.out⟩

set_option maxHeartbeats 4000000 in
set_option maxRecDepth 10000 in
theorem hpInit (B hb : Nat) (A : Option Addr) (N c : Nat) (l : List Th) (w : World) (h : HeapR w B hb A N c l) (hN : N ≤ 1000000) :
    Calls Tryz.prog 124 #[.iface 170 (.pointer (some ⟨hb, 0, none⟩))] w fun e w' => (∃ v, e = .returned v) ∧ (∃ l', HeapR w' B hb A N c l' ∧ l'.Perm l ∧ HAll (fnT l') N 0) ∧ Two hb A w w' := by
  have H0 := Lib.hid h
  have hml := m_Len h.cell
  have HLen0 := Lib.hid (thLen A N c w)
  clear h
  obtain ⟨hf, hhf⟩ : ∃ hf, N / 2 = hf := ⟨_, rfl⟩
  have e1 : (N : Int) / 2 = (hf : Int) := by omega
  have e2 : IntKind.i64.wrap ((hf : Int) - 1) = (hf : Int) - 1 := wrapi64 (by omega) (by omega)
  have HF := Lib.hid hhf
  have hfN : hf ≤ N := by omega
  clear hhf
  go_enter Tryz.func124, Tryz.ntmps124
  go_wp2_with fail
  refine HLen0.out.mono ?_
  rintro e w1 ⟨rfl, hw1⟩
  obtain rfl := hw1.symm
  go_wp2_with fail
  go_loopg [3] N (fun gg s3 wr => ∃ (m : Nat) (l' : List Th), s3 = .int .i64 ((m : Int) - 1) ∧ m ≤ gg ∧ m ≤ hf ∧ HeapR wr B hb A N c l' ∧ l'.Perm l ∧ HAll (fnT l') N m ∧ Two hb A w wr)
  case atStart => exact ⟨hf, l, by go_num, by omega, Nat.le_refl _, H0.out, List.Perm.refl _, fun m h1 h2 h3 => by have := HF.out; omega, Two.refl _ _ _⟩
  case round =>
    clear e1 e2 hml
    obtain ⟨m, l', rfl, hgg, hmf, hh, hp, ha, htw⟩ := hrel
    cases m with
    | zero =>
      have HH := Lib.hid hh
      have HP := Lib.hid hp
      have HA := Lib.hid ha
      have HT := Lib.hid htw
      clear hh hp ha htw
      go_wp2
      go_end0
      exact ⟨⟨_, rfl⟩, ⟨l', HH.out, HP.out, HA.out⟩, HT.out⟩
    | succ i =>
      have e3 : ((i + 1 : Nat) : Int) - 1 = (i : Int) := by omega
      rw [e3]
      clear e3
      have hiN := HF.out
      have HDn := Lib.hid (hpDown B hb A N c l' i N i wr hh (Nat.le_refl _) hN (Nat.le_refl _) (by omega) ⟨fun m h1 h2 h3 h4 => ha m h1 h2 (by omega), fun m h1 h2 h3 h4 h5 => by omega⟩)
      have HP := Lib.hid hp
      have HT := Lib.hid htw
      clear hh hp ha htw hiN
      have g1 : decide ((0 : Int) ≤ (i : Int)) = true := decide_eq_true (by omega)
      go_wp2_with fail
      refine HDn.out.mono ?_
      rintro e w2 ⟨⟨v2, rfl⟩, ⟨l2, hh2, hp2, -, ha2⟩, ht2⟩
      have HH2 := Lib.hid hh2
      have HP2 := Lib.hid (hp2.trans HP.out)
      have HA2 := Lib.hid ha2
      have HT2 := Lib.hid (HT.out.trans ht2)
      clear hh2 hp2 ha2 ht2 HDn
      go_wp2
      go_roundg i
      case measure => omega
      case rel => exact ⟨i, l2, by go_num, Nat.le_refl _, by omega, HH2.out, HP2.out, HA2.out, HT2.out⟩

theorem fnT_take {l : List Th} {M m : Nat} (h : m < M) : fnT (l.take M) m = fnT l m := by
  unfold fnT
  simp only [List.getD, List.getElem?_take, if_pos h]
theorem fnT_append {l : List Th} {x : Th} {m : Nat} (h : m < l.length) : fnT (l ++ [x]) m = fnT l m := by
  unfold fnT
  simp only [List.getD, List.getElem?_append_left h]
theorem fnT_mem {l : List Th} {y : Th} (h : y ∈ l) : ∃ m, m < l.length ∧ fnT l m = y := by
  obtain ⟨m, hm, e⟩ := List.getElem_of_mem h
  exact ⟨m, hm, by unfold fnT; simp [List.getD, List.getElem?_eq_getElem hm, e]⟩

set_option maxHeartbeats 4000000 in
set_option maxRecDepth 10000 in
theorem hpPop (B hb : Nat) (A : Option Addr) (M c : Nat) (l : List Th) (w : World) (h : HeapR w B hb A (M + 1) c l) (hM : 1 ≤ M) (hM2 : M ≤ 999999) (hc : M + 1 ≤ c) (ha : HAll (fnT l) (M + 1) 0) :
    Calls Tryz.prog 125 #[.iface 170 (.pointer (some ⟨hb, 0, none⟩))] w fun e w' => ∃ x l', e = .returned (thV x) ∧ HeapR w' B hb A M c l' ∧ (x :: l').Perm l ∧ HAll (fnT l') M 0 ∧ (∀ y ∈ l', leT x y) ∧ Two hb A w w' := by
  have H0 := Lib.hid h
  have HA0 := Lib.hid ha
  have hml := m_Len h.cell
  have HLen0 := Lib.hid (thLen A (M + 1) c w)
  have hlen := h.row.length
  have HLen := Lib.hid hlen
  have hms := m_Swap h.cell
  have HSw := Lib.hid (thSwap B A (M + 1) c l 0 M _ _ w h.row (fnT_at (by omega)) (fnT_at (by omega)) (by omega))
  have e1 : IntKind.i64.wrap (((M + 1 : Nat) : Int) - 1) = (M : Int) := by rw [wrapi64 (by omega) (by omega)]; omega
  clear h ha hlen
  go_enter Tryz.func125, Tryz.ntmps125
  go_wp2_with fail
  refine HLen0.out.mono ?_
  rintro e w1 ⟨rfl, hw1⟩
  obtain rfl := hw1.symm
  go_wp2_with fail
  refine HSw.out.mono ?_
  rintro e w2 ⟨⟨v2, rfl⟩, hrow2, hgr2⟩
  have hh2 : HeapR w2 B hb A (M + 1) c (swapT l 0 M) := ⟨H0.out.box.kept hgr2 H0.out.ne, hrow2⟩
  have HT2 := Lib.hid ((Two.refl hb A w).grown hgr2 (fun k hk _ => .inr hk))
  have hfn := swapT_fn (l := l) (i := 0) (j := M) (by rw [HLen.out]; omega) (by rw [HLen.out]; omega) (by omega)
  have hdn : HDown (fnT (swapT l 0 M)) M 0 0 := by
    rw [hfn]
    refine ⟨fun m h1 h2 _ h4 => ?_, fun m h1 h2 h3 h4 _ => by omega⟩
    unfold swapF
    rw [if_neg h4, if_neg (by omega), if_neg (by omega), if_neg (by omega)]
    exact HA0.out m h1 (by omega) (Nat.zero_le _)
  have HDn := Lib.hid (hpDown B hb A (M + 1) c (swapT l 0 M) 0 M 0 w2 hh2 (by omega) (by omega) (Nat.le_refl _) (Nat.zero_le _) hdn)
  clear hrow2 hgr2 hh2 hfn hdn hml hms HSw e1
  go_wp2_with fail
  refine HDn.out.mono ?_
  rintro e w3 ⟨⟨v3, rfl⟩, ⟨l3, hh3, hp3, hd3, ha3⟩, ht3⟩
  have hl3 := hh3.row.length
  have hx : l3[M]? = some (fnT l 0) := by
    have h1 : (l3.drop M)[0]? = ((swapT l 0 M).drop M)[0]? := by rw [hd3]
    rw [List.getElem?_drop, List.getElem?_drop, Nat.add_zero] at h1
    rw [h1, fnT_at (by rw [swapT_len, HLen.out]; omega), swapT_fn (by rw [HLen.out]; omega) (by rw [HLen.out]; omega) (by omega)]
    unfold swapF
    rw [if_neg (by omega), if_pos rfl]
  have hperm : (fnT l 0 :: l3.take M).Perm l := by
    have e : l3 = l3.take M ++ [fnT l 0] := by
      have h1 := List.take_append_drop M l3
      have h2 : l3.drop M = [fnT l 0] := by
        rw [List.drop_eq_getElem_cons (by omega)]
        rw [List.getElem?_eq_getElem (by omega)] at hx
        injection hx with hx
        rw [hx, List.drop_of_length_le (by omega)]
      rw [h2] at h1
      exact h1.symm
    have p1 : (fnT l 0 :: l3.take M).Perm l3 := by
      conv => rhs; rw [e]
      exact (List.perm_append_singleton _ _).symm
    exact p1.trans (hp3.trans (perm_set2 l 0 M (by rw [HLen.out]; omega) (by rw [HLen.out]; omega) (by omega)))
  have HPop := Lib.hid (thPop B hb A M c l3 (fnT l 0) w3 hh3 hx (by omega) hc)
  have HPerm := Lib.hid hperm
  have HAl := Lib.hid (show HAll (fnT (l3.take M)) M 0 from fun m h1 h2 h3 => by rw [fnT_take (by omega), fnT_take h2]; exact ha3 m h1 h2 h3)
  have HMin := Lib.hid (show ∀ y ∈ l3.take M, leT (fnT l 0) y from fun y hy => by
    obtain ⟨m, hm, rfl⟩ := fnT_mem (hperm.subset (List.mem_cons_of_mem _ hy))
    exact HA0.out.root m (by rw [← HLen.out]; exact hm))
  have HT3 := Lib.hid (HT2.out.trans ht3)
  have hmp := m_Pop ⟨hb, 0, none⟩ w3
  clear hh3 hp3 hd3 ha3 ht3 hl3 hx hperm HDn
  go_wp2_with fail
  refine HPop.out.mono ?_
  rintro e w4 ⟨rfl, hh4, ht4⟩
  have HH4 := Lib.hid hh4
  have HT4 := Lib.hid (HT3.out.trans ht4)
  clear hh4 ht4 HPop hmp
  go_wp2
  go_ret
  exact ⟨fnT l 0, l3.take M, rfl, HH4.out, HPerm.out, HAl.out, HMin.out, HT4.out⟩

set_option maxHeartbeats 4000000 in
set_option maxRecDepth 10000 in
theorem hpPush (B hb : Nat) (A : Option Addr) (N c : Nat) (l : List Th) (x : Th) (w : World) (h : HeapR w B hb A N c l) (hN : N ≤ 999999) (hB : B ≤ w.heap.size) (ha : HAll (fnT l) N 0) :
    Calls Tryz.prog 127 #[.iface 170 (.pointer (some ⟨hb, 0, none⟩)), thV x] w fun e w' => (∃ v, e = .returned v) ∧ (∃ A' c' l', HeapR w' B hb A' (N + 1) c' l' ∧ l'.Perm (x :: l) ∧ HAll (fnT l') (N + 1) 0 ∧ NewTo w A A') ∧ Two hb A w w' := by
  have HLen := Lib.hid h.row.length
  have HPu := Lib.hid (thPush B hb A N c l x w h (by omega) hB)
  have HA0 := Lib.hid ha
  have hmp := m_Push ⟨hb, 0, none⟩ w
  clear h ha
  go_enter Tryz.func127, Tryz.ntmps127
  go_wp2_with fail
  refine HPu.out.mono ?_
  rintro e w1 ⟨⟨v1, rfl⟩, ⟨A1, c1, hh1, hnt1⟩, ht1⟩
  have hml := m_Len hh1.cell
  have HLe := Lib.hid (thLen A1 (N + 1) c1 w1)
  have hup : HUp (fnT (l ++ [x])) (N + 1) N := by
    refine ⟨fun m h1 h2 h3 => ?_, fun m h1 h2 h3 h4 => by omega⟩
    rw [fnT_append (by rw [HLen.out]; omega), fnT_append (by rw [HLen.out]; omega)]
    exact HA0.out m h1 (by omega) (Nat.zero_le _)
  have HUp' := Lib.hid (hpUp B hb A1 (N + 1) c1 (l ++ [x]) N w1 hh1 (by omega) (by omega) hup)
  have HNT := Lib.hid hnt1
  have HT1 := Lib.hid ht1
  have e1 : IntKind.i64.wrap (((N + 1 : Nat) : Int) - 1) = (N : Int) := by rw [wrapi64 (by omega) (by omega)]; omega
  clear hh1 hnt1 ht1 hup hmp HPu
  go_wp2_with fail
  refine HLe.out.mono ?_
  rintro e w2 ⟨rfl, hw2⟩
  obtain rfl := hw2.symm
  go_wp2_with fail
  refine HUp'.out.mono ?_
  rintro e w3 ⟨⟨v3, rfl⟩, ⟨l3, hh3, hp3, ha3⟩, ht3⟩
  have HH3 := Lib.hid hh3
  have HP3 := Lib.hid (hp3.trans (List.perm_append_singleton x l))
  have HA3 := Lib.hid ha3
  have HT3 := Lib.hid (HT1.out.newTo2 HNT.out ht3)
  clear hh3 hp3 ha3 ht3 hml e1 HUp'
  go_wp2
  go_end0
  exact ⟨⟨_, rfl⟩, ⟨A1, c1, l3, HH3.out, HP3.out, HA3.out, HNT.out⟩, HT3.out⟩
end Go.Proofs.YtkneigeejgblkaaGreat

/-
  Walks of slices.Grow and slices.Concat at numbers.
-/
namespace Go.Proofs.YtkneigeejgblkaaGreat
open Go.RowKit

theorem Own.take {w : World} {base n c m : Nat} {e : TypeId} {A : Option Addr} {xs : List Value} (h : Own w base e A n c xs) (hm : m ≤ n) : Own w base e A m c (xs.take m) := by
  rcases h.2 with ⟨hv, h0⟩ | ⟨g, cap, cur, hv, h1, h2, h3, h4, h5, h6⟩
  · have hm0 : m = 0 := by omega
    subst hm0
    have := h.1
    simp only [Value.slice.injEq] at hv
    refine ⟨by simp, .inl ⟨?_, rfl⟩⟩
    rw [hv.1, hv.2.2]
  · refine ⟨?_, .inr ⟨g, cap, cur, ?_, h1, h2, by omega, h4, h5, ?_⟩⟩
    · rw [List.length_take, h.1]; omega
    · simp only [Value.slice.injEq] at hv ⊢
      exact ⟨hv.1, trivial, hv.2.2⟩
    · rw [← h6, List.take_take, Nat.mul_one]
      congr 1; omega

set_option maxHeartbeats 2000000 in
set_option maxRecDepth 10000 in
theorem growNil (n : Nat) (w : World) (hn : n ≤ 1000000) :
    Calls Tryz.prog 130 #[.slice none 0 0, .int .i64 (n : Int)] w fun e w' => ∃ S cs, e = .returned (.slice S 0 cs) ∧ OwnN w' w.heap.size S 0 cs [] ∧ Below w.heap.size w w' := by
  have g1 : decide ((n : Int) < 0) = false := decide_eq_false (by omega)
  by_cases h0 : 0 < n
  · have g2 : decide ((0 : Int) < (n : Int)) = true := decide_eq_true (by omega)
    have HO := Lib.hid (Own.nil w w.heap.size 3)
    go_enter Tryz.func130, Tryz.ntmps130
    go_wp2_with (first | (at_builtin; refine wpList_append_zeros rfl _ _ elemN .i64 .i64 Tryz.underlying3 rfl w.heap.size none 0 0 [] rfl HO.out n ?c0 ?c1 rfl ?c2 ?c3 ?c4 ?_) | (with_reducible refine wpList_slice_hi ?g ?s ?h elemN ?ho none 0 0 0 ?hs ?hh ?hk ?_; (case ho => exact rfl); (case g => exact rfl); (case hs => exact rfl); (case hh => exact rfl); (case hk => omega)))
    case c0 => rfl
    case c1 => omega
    case c2 => omega
    case c3 => omega
    case c4 => exact Nat.le_refl _
    intro A' c' w5 hown5 hb5 hgr5 _
    have HO5 := Lib.hid (Own.take hown5 (Nat.zero_le n))
    have HB5 := Lib.hid hb5
    clear hown5 hb5 hgr5
    go_wp2_with (with_reducible refine wpList_slice_hi ?g ?s ?h elemN ?ho A' n c' 0 ?hs ?hh ?hk ?_; (case ho => exact rfl); (case g => exact rfl); (case hs => exact rfl); (case hh => exact rfl); (case hk => omega))
    go_ret
    exact ⟨A', c', rfl, HO5.out, HB5.out⟩
  · have g2 : decide ((0 : Int) < (n : Int)) = false := decide_eq_false (by omega)
    obtain rfl : n = 0 := by omega
    go_enter Tryz.func130, Tryz.ntmps130
    go_wp2
    go_ret
    exact ⟨none, 0, rfl, OwnN.nil _ _, Below.refl _ _⟩

/-- rows, one behind another -/
def catL (pl : Nat → List Nat) : Nat → List Nat
  | 0 => []
  | k + 1 => catL pl k ++ pl k
theorem catL_mono (pl : Nat → List Nat) : ∀ {k m : Nat}, k ≤ m → (catL pl k).length ≤ (catL pl m).length
  | k, 0, h => by
    have e : k = 0 := Nat.le_zero.1 h
    rw [e]
    exact Nat.le_refl _
  | k, m + 1, h => by
    by_cases e : k = m + 1
    · subst e; exact Nat.le_refl _
    · have := catL_mono pl (k := k) (m := m) (by omega)
      rw [catL, List.length_append]; omega

set_option maxHeartbeats 4000000 in
set_option maxRecDepth 10000 in
theorem concatN (g m c : Nat) (PA : Nat → Option Addr) (pn pc : Nat → Nat) (pl : Nat → List Nat) (w : World) (hcell : ∀ k, k < m → w.cell? ⟨g, k, none⟩ = some (.slice (PA k) (pn k) (pc k))) (hlen : ∀ k, k < m → (pl k).length = pn k) (hr : ∀ k, k < m → Ns w (PA k) (pl k)) (hm : m ≤ 1000) (htot : (catL pl m).length ≤ 1000000) :
    Calls Tryz.prog 126 #[.slice (some ⟨g, 0, none⟩) m c] w fun e w' => ∃ S n cs, e = .returned (.slice S n cs) ∧ OwnN w' w.heap.size S n cs (catL pl m) ∧ Below w.heap.size w w' := by
  have HCell := Lib.hid hcell
  have HLen := Lib.hid hlen
  have HR := Lib.hid hr
  clear hcell hlen hr
  go_enter Tryz.func126, Tryz.ntmps126
  go_wp2
  go_loopg [3, 11] m (fun gg s3 s11 wr => ∃ k : Nat, k ≤ m ∧ m - k ≤ gg ∧ s3 = .int .i64 (((catL pl k).length : Nat) : Int) ∧ s11 = .int .i64 (k : Int) ∧ w = wr)
  case atStart => exact ⟨0, by omega, by omega, rfl, rfl, rfl⟩
  case round =>
    obtain ⟨k, hk, hgg, rfl, rfl, rfl⟩ := hrel
    by_cases hkm : k < m
    · have c0 := HCell.out k hkm
      have hl := HLen.out k hkm
      have hst : (catL pl (k + 1)).length = (catL pl k).length + pn k := by rw [catL, List.length_append, hl]
      have hmo := catL_mono pl (show k + 1 ≤ m by omega)
      obtain ⟨T, hT⟩ : ∃ T, (catL pl k).length = T := ⟨_, rfl⟩
      rw [hT] at hst ⊢
      obtain ⟨z, hz⟩ : ∃ z, pn k = z := ⟨_, rfl⟩
      rw [hz] at c0 hst
      have HSt := Lib.hid hst
      have htz : T + z ≤ 1000000 := by omega
      have e1 : IntKind.i64.wrap ((T : Int) + z) = ((T + z : Nat) : Int) := by rw [wrapi64 (by omega) (by omega)]; rfl
      have g1 : decide (((T + z : Nat) : Int) < 0) = false := decide_eq_false (by omega)
      clear hl hst hT hz hmo
      go_wp2
      go_roundg (m - (k + 1))
      case measure => omega
      case rel => exact ⟨k + 1, by omega, by omega, by rw [HSt.out]; rfl, by go_num, rfl⟩
    · obtain rfl : k = m := by omega
      obtain ⟨T, hT⟩ : ∃ T, (catL pl k).length = T := ⟨_, rfl⟩
      rw [hT] at htot ⊢
      have HT := Lib.hid hT
      have HG := Lib.hid (growNil T w htot)
      clear hT
      go_wp2_with fail
      refine HG.out.mono ?_
      rintro e w1 ⟨S1, cs1, rfl, hown1, hb1⟩
      have HO1 := Lib.hid hown1
      have HB1 := Lib.hid hb1
      clear hown1 hb1 HG
      go_wp2_with fail
      go_loopg [6, 27] k (fun gg s6 s27 wr => ∃ (i n cs : Nat) (S : Option Addr), i ≤ k ∧ k - i ≤ gg ∧ s6 = .slice S n cs ∧ s27 = .int .i64 (i : Int) ∧ OwnN wr w.heap.size S n cs (catL pl i) ∧ Below w.heap.size w wr)
      case atStart => exact ⟨0, 0, cs1, S1, by omega, by omega, rfl, rfl, HO1.out, HB1.out⟩
      case round =>
        obtain ⟨i, n, cs, S, hi, hgi, rfl, rfl, hown, hbel⟩ := hrel
        have HO := Lib.hid hown
        have HB := Lib.hid hbel
        have hnl := OwnN.length hown
        have hmo := catL_mono pl hi
        have hn : n ≤ 1000000 := by rw [← hnl]; rw [HT.out] at hmo; omega
        clear hown hbel hnl hmo
        by_cases hik : i < k
        · have c0 := (HB.out.cell (p := ⟨g, i, none⟩) (block_lt (HCell.out i hik))).trans (HCell.out i hik)
          have hl := HLen.out i hik
          have HN := Lib.hid (Rd.later (HR.out i hik) HB.out : Ns wr (PA i) (pl i))
          have HL := Lib.hid hl
          have hmo := catL_mono pl (show i + 1 ≤ k by omega)
          have hz1 : pn i ≤ 1000000 := by
            rw [catL, List.length_append, hl, HT.out] at hmo; omega
          obtain ⟨Pa, hPa⟩ : ∃ Pa, PA i = Pa := ⟨_, rfl⟩
          obtain ⟨z, hz⟩ : ∃ z, pn i = z := ⟨_, rfl⟩
          obtain ⟨pcc, hpc⟩ : ∃ pcc, pc i = pcc := ⟨_, rfl⟩
          rw [hPa] at c0 HN
          rw [hz] at c0 HL hz1
          rw [hpc] at c0
          clear hl hmo hPa hz hpc
          go_wp2_with (at_builtin; go_loud (refine wpList_append_rd rfl _ _ elemN rfl w.heap.size S n cs ((catL pl i).map natv) ?hs HO.out Pa z pcc ((pl i).map natv) ?hh ?a1 ?a2 ?a0 ?a3 ?a4 ?a5 ?_; (case hs => simp [Act.eval]); (case hh => simp [Act.eval])))
          case a0 => intro v hv; obtain ⟨u, -, rfl⟩ := List.mem_map.1 hv; rfl
          case a1 => exact HN.out
          case a2 => rw [List.length_map]; exact HL.out
          case a3 => omega
          case a4 => omega
          case a5 => exact HB.out.size
          intro A' c' w2 hown2 hb2 hgr2 hat2
          have HO2 := Lib.hid (show OwnN w2 w.heap.size A' (n + z) c' (catL pl (i + 1)) from by
            unfold OwnN
            rw [catL, List.map_append]
            exact hown2)
          have HB2 := Lib.hid (HB.out.trans hb2)
          clear hown2 hb2 hgr2 hat2 c0
          go_wp2
          go_roundg (k - (i + 1))
          case measure => omega
          case rel => exact ⟨i + 1, n + z, c', A', by omega, by omega, rfl, by go_num, HO2.out, HB2.out⟩
        · obtain rfl : i = k := by omega
          go_wp2
          go_ret
          exact ⟨S, n, cs, rfl, HO.out, HB.out⟩
end Go.Proofs.YtkneigeejgblkaaGreat

/-
  Plain words for huff.tree: weights, heights, what each byte's length is.
-/
namespace Go.Proofs.YtkneigeejgblkaaGreat
open Go.RowKit

/-- the least weight of a tree of a height -/
def fibT : Nat → Nat
  | 0 => 1
  | 1 => 1
  | n + 2 => fibT (n + 1) + fibT n
theorem fibT_pos : ∀ n, 1 ≤ fibT n
  | 0 => Nat.le_refl _
  | 1 => Nat.le_refl _
  | n + 2 => by have := fibT_pos (n + 1); rw [fibT]; omega
theorem fibT_succ {n : Nat} (h : 1 ≤ n) : fibT (n + 1) = fibT n + fibT (n - 1) := by
  obtain ⟨m, rfl⟩ : ∃ m, n = m + 1 := ⟨n - 1, by omega⟩
  rfl
theorem fibT_le_succ (n : Nat) : fibT n ≤ fibT (n + 1) := by
  cases n with
  | zero => exact Nat.le_refl _
  | succ n => rw [fibT]; omega
theorem fibT_mono {a b : Nat} (h : a ≤ b) : fibT a ≤ fibT b := by
  induction h with
  | refl => exact Nat.le_refl _
  | step _ ih => exact Nat.le_trans ih (fibT_le_succ _)

/-- two trees of one forest -/
def PairT (x y : Th) : Prop := fibT (x.ht - 1) ≤ y.wt ∧ fibT (y.ht - 1) ≤ x.wt
theorem PairT.symm {x y : Th} (h : PairT x y) : PairT y x := ⟨h.2, h.1⟩

/-- one tree, at the lengths -/
structure ThOk (out : List Nat) (x : Th) : Prop where
  fib : fibT x.ht ≤ x.wt
  le : ∀ p ∈ x.ps, out.getD p 0 ≤ x.ht
  kraft : ∀ H, x.ht ≤ H → sumL (x.ps.map (fun p => 2 ^ (H - out.getD p 0))) = 2 ^ H

def wtsT (l : List Th) : Nat := sumL (l.map (·.wt))
def allP (l : List Th) : List Nat := l.flatMap (·.ps)

theorem sumL_perm {a b : List Nat} (h : a.Perm b) : sumL a = sumL b := by
  induction h with
  | nil => rfl
  | cons x _ ih => simp only [sumL, ih]
  | swap x y l => simp only [sumL]; omega
  | trans _ _ h1 h2 => exact h1.trans h2

/-- the forest: P0 are the bytes that stand, W is how many -/
structure Forest (P0 : List Nat) (W : Nat) (out : List Nat) (l : List Th) : Prop where
  ok : ∀ x ∈ l, ThOk out x
  pair : l.Pairwise PairT
  wts : wtsT l = W
  all : (allP l).Perm P0
  rest : ∀ p, p ∉ P0 → out.getD p 0 = 0

theorem Forest.perm {P0 : List Nat} {W : Nat} {out : List Nat} {l l' : List Th} (h : Forest P0 W out l) (hp : l'.Perm l) : Forest P0 W out l' :=
  ⟨fun x hx => h.ok x (hp.subset hx), (hp.pairwise_iff (fun h => h.symm)).2 h.pair, by rw [← h.wts]; exact sumL_perm (hp.map _), (hp.flatMap_right _).trans h.all, h.rest⟩

/-- the bytes of two trees are one longer -/
def incT (out : List Nat) : List Nat → List Nat
  | [] => out
  | p :: r => incT (out.set p (out.getD p 0 + 1)) r

theorem incT_len : ∀ (ps : List Nat) (out : List Nat), (incT out ps).length = out.length
  | [], _ => rfl
  | p :: r, out => by rw [incT, incT_len r, List.length_set]
theorem incT_snoc : ∀ (ps : List Nat) (p : Nat) (out : List Nat), incT out (ps ++ [p]) = (incT out ps).set p ((incT out ps).getD p 0 + 1)
  | [], _, _ => rfl
  | q :: r, p, out => incT_snoc r p _
theorem incT_other : ∀ (ps : List Nat) (out : List Nat) (p : Nat), p ∉ ps → (incT out ps).getD p 0 = out.getD p 0
  | [], _, _, _ => rfl
  | q :: r, out, p, h => by
    simp only [List.mem_cons, not_or] at h
    rw [incT, incT_other r _ p h.2, getD_set, if_neg (fun e => h.1 e.1)]
theorem incT_at : ∀ (ps : List Nat) (out : List Nat) (p : Nat), ps.Nodup → p ∈ ps → p < out.length → (incT out ps).getD p 0 = out.getD p 0 + 1
  | q :: r, out, p, hn, h, hl => by
    rw [List.nodup_cons] at hn
    rcases List.mem_cons.1 h with e | h
    · subst e
      rw [incT, incT_other r _ p hn.1, getD_set, if_pos ⟨rfl, hl⟩]
    · have hpq : p ≠ q := fun e => hn.1 (e ▸ h)
      rw [incT, incT_at r _ p hn.2 h (by rw [List.length_set]; exact hl), getD_set, if_neg (fun e => hpq e.1)]

theorem allP_cons (x : Th) (l : List Th) : allP (x :: l) = x.ps ++ allP l := rfl
theorem wtsT_cons (x : Th) (l : List Th) : wtsT (x :: l) = x.wt + wtsT l := rfl

/-- two trees become one -/
theorem Forest.merge {P0 : List Nat} {W n : Nat} {out : List Nat} {l : List Th} {a b x : Th} (h : Forest P0 W out (a :: b :: l)) (hnd : P0.Nodup) (hlt : ∀ p ∈ P0, p < n) (hn : out.length = n)
    (ha : ∀ y ∈ l, leT a y) (hb : ∀ y ∈ l, leT b y) (hw : x.wt = a.wt + b.wt) (hh : x.ht = max a.ht b.ht + 1) (hps : x.ps = a.ps ++ b.ps) : Forest P0 W (incT out x.ps) (x :: l) := by
  have oa := h.ok a (List.mem_cons_self)
  have ob := h.ok b (List.mem_cons_of_mem _ List.mem_cons_self)
  have hpw := h.pair
  rw [List.pairwise_cons, List.pairwise_cons] at hpw
  obtain ⟨hpa, hpb, hpl⟩ := hpw
  have hab := hpa b (List.mem_cons_self)
  have hall : (x.ps ++ allP l).Perm P0 := by
    have := h.all
    rw [allP_cons, allP_cons, ← List.append_assoc, ← hps] at this
    exact this
  have hnall : (x.ps ++ allP l).Nodup := hall.nodup_iff.2 hnd
  rw [List.nodup_append] at hnall
  obtain ⟨hnx, -, hdis⟩ := hnall
  have hxlt : ∀ p ∈ x.ps, p < out.length := fun p hp => by rw [hn]; exact hlt p (hall.subset (List.mem_append_left _ hp))
  have hval : ∀ p ∈ x.ps, (incT out x.ps).getD p 0 = out.getD p 0 + 1 := fun p hp => incT_at x.ps out p hnx hp (hxlt p hp)
  have hoth : ∀ p, p ∉ x.ps → (incT out x.ps).getD p 0 = out.getD p 0 := fun p hp => incT_other x.ps out p hp
  have hfx : fibT x.ht ≤ x.wt := by
    rw [hh, hw]
    rcases Nat.le_total a.ht b.ht with hle | hle
    · rw [Nat.max_eq_right hle]
      by_cases h0 : 1 ≤ b.ht
      · rw [fibT_succ h0]; have := ob.fib; have := hab.2; omega
      · have : b.ht = 0 := by omega
        rw [this]; have := ob.fib; have := fibT_pos b.ht; show 1 ≤ _; omega
    · rw [Nat.max_eq_left hle]
      by_cases h0 : 1 ≤ a.ht
      · rw [fibT_succ h0]; have := oa.fib; have := hab.1; omega
      · have : a.ht = 0 := by omega
        rw [this]; have := oa.fib; have := fibT_pos a.ht; show 1 ≤ _; omega
  have hmapcongr : ∀ (ps : List Nat) (f g : Nat → Nat), (∀ p ∈ ps, f p = g p) → sumL (ps.map f) = sumL (ps.map g) := fun ps f g hfg => by rw [List.map_congr_left hfg]
  refine ⟨fun y hy => ?_, ?_, ?_, ?_, fun p hp => ?_⟩
  · rcases List.mem_cons.1 hy with rfl | hy
    · refine ⟨hfx, fun p hp => ?_, fun H hH => ?_⟩
      · rw [hval p hp, hh]
        rw [hps] at hp
        rcases List.mem_append.1 hp with hp | hp
        · have := oa.le p hp; omega
        · have := ob.le p hp; omega
      · obtain ⟨H', rfl⟩ : ∃ H', H = H' + 1 := ⟨H - 1, by omega⟩
        have e1 : sumL (y.ps.map (fun p => 2 ^ (H' + 1 - (incT out y.ps).getD p 0))) = sumL (y.ps.map (fun p => 2 ^ (H' - out.getD p 0))) :=
          hmapcongr _ _ _ (fun p hp => by rw [hval p hp, Nat.add_sub_add_right])
        rw [e1]
        conv => lhs; rw [hps]
        rw [List.map_append, sumL_append, oa.kraft H' (by omega), ob.kraft H' (by omega), Nat.pow_succ]; omega
    · have oy := h.ok y (List.mem_cons_of_mem _ (List.mem_cons_of_mem _ hy))
      have hny : ∀ p ∈ y.ps, p ∉ x.ps := fun p hp hpx => hdis p hpx p (List.mem_flatMap.2 ⟨y, hy, hp⟩) rfl
      refine ⟨oy.fib, fun p hp => by rw [hoth p (hny p hp)]; exact oy.le p hp, fun H hH => ?_⟩
      rw [← oy.kraft H hH]
      exact hmapcongr _ _ _ (fun p hp => by rw [hoth p (hny p hp)])
  · rw [List.pairwise_cons]
    refine ⟨fun z hz => ?_, hpl⟩
    have h1 := (ha z hz).wt
    have h2 := (hb z hz).wt
    have h3 := hpa z (List.mem_cons_of_mem _ hz)
    refine ⟨?_, by have := h3.2; omega⟩
    rw [hh, Nat.add_sub_cancel]
    rcases Nat.le_total a.ht b.ht with hle | hle
    · rw [Nat.max_eq_right hle]; have := ob.fib; omega
    · rw [Nat.max_eq_left hle]; have := oa.fib; omega
  · have := h.wts
    rw [wtsT_cons, wtsT_cons] at this
    rw [wtsT_cons, hw]; omega
  · rw [allP_cons]; exact hall
  · rw [hoth p (fun hpx => hp (hall.subset (List.mem_append_left _ hpx)))]
    exact h.rest p hp

/-- the bytes that stand -/
def posL (l : List Nat) : List Nat := (List.range l.length).filter (fun p => decide (0 < l.getD p 0))
theorem posL_nodup (l : List Nat) : (posL l).Nodup := List.nodup_range.filter _
theorem posL_lt (l : List Nat) : ∀ p ∈ posL l, p < l.length := fun p hp => List.mem_range.1 (List.mem_filter.1 hp).1

/-- what the lengths of a tree are -/
structure TreeOk (counts out : List Nat) : Prop where
  len : out.length = counts.length
  rest : ∀ p, counts.getD p 0 = 0 → out.getD p 0 = 0
  top : ∃ H, fibT H ≤ sumL counts ∧ (∀ p, out.getD p 0 ≤ H) ∧ (sumL ((posL counts).map (fun p => 2 ^ (H - out.getD p 0))) = 2 ^ H ∨ (∃ p, posL counts = [p] ∧ H = 1 ∧ out.getD p 0 = 1))
end Go.Proofs.YtkneigeejgblkaaGreat

/-
  Walks of package fse: a share is made of counts.
-/
namespace Go.Proofs.YtkneigeejgblkaaGreat
open Go.RowKit

theorem fseToward (a b : Int) (w : World) : Calls Tryz.prog 81 #[.int .i64 a, .int .i64 b] w fun e w' => e = .returned (.int .i64 (if b < a then -1 else 1)) ∧ w' = w := by
  go_enter Tryz.func81, Tryz.ntmps81
  by_cases h : b < a
  · have g : decide (b < a) = true := decide_eq_true h
    go_wp2
    go_ret
    exact ⟨by simp, rfl⟩
  · have g : decide (b < a) = false := decide_eq_false h
    go_wp2
    go_ret
    exact ⟨by simp, rfl⟩

/-- a row of numbers, cell by cell -/
theorem OwnN.cells {w : World} {base g n c : Nat} {l : List Nat} (h : OwnN w base (some ⟨g, 0, none⟩) n c l) : ∀ j, j < (l.map (fun x : Nat => (x : Int))).length → w.cell? ⟨g, 0 + j, none⟩ = some (.int .i64 ((l.map (fun x : Nat => (x : Int))).getD j 0)) := by
  intro j hj
  rw [List.length_map] at hj
  have hlen := OwnN.length h
  obtain ⟨g', x, e, -, -, hx, hc, -⟩ := Own.at_ h (k := j) (by omega)
  injection e with e
  injection e with e1
  subst e1
  rw [Nat.zero_add, hc, ← hx]
  simp [List.getD, List.getElem?_eq_getElem hj, natv]

set_option maxHeartbeats 4000000 in
set_option maxRecDepth 10000 in
theorem fseShare (A : Option Addr) (n c : Nat) (l : List Nat) (w : World) (hl : l.length = n) (hr : Ns w A l) (hn : n ≤ 64) (hb : ∀ x ∈ l, x ≤ 65536) (h0 : 0 < nz l) (h32 : nz l ≤ 32) :
    Calls Tryz.prog 40 #[.slice A n c, .int .i64 6] w fun e w' => ∃ S m cs sh, e = .returned (.tuple #[.slice S m cs, .int .i64 0]) ∧ OwnN w' w.heap.size S m cs sh ∧ ShareOk l sh ∧ Below w.heap.size w w' := by
  have HL := Lib.hid hl
  have HR := Lib.hid hr
  have HB := Lib.hid hb
  have HZ0 := Lib.hid h0
  have HZ32 := Lib.hid h32
  clear hl hr hb h0 h32
  have g0 : decide ((64 : Int) < (n : Int)) = false := decide_eq_false (by omega)
  go_enter Tryz.func40, Tryz.ntmps40
  go_wp2
  clear g0
  go_loopg [7, 8, 30] n (fun gg s7 s8 s30 wr => ∃ k : Nat, k ≤ n ∧ n - k ≤ gg ∧ s7 = .int .i64 ((sumL (l.take k) : Nat) : Int) ∧ s8 = .int .i64 ((nz (l.take k) : Nat) : Int) ∧ s30 = .int .i64 (k : Int) ∧ w = wr)
  case atStart => exact ⟨0, by omega, by omega, rfl, rfl, rfl, rfl⟩
  case round =>
    obtain ⟨k, hk, hgg, rfl, rfl, rfl, rfl⟩ := hrel
    by_cases hkn : k < n
    · obtain ⟨b, o, x, hA, hx, hc⟩ := HR.out.at_ (by rw [HL.out]; exact hkn : k < l.length)
      subst hA
      have hxb := HB.out x (List.mem_of_getElem? hx)
      have hs1 := sumL_step hx
      have hz1 := nz_step hx
      have hle := sumL_take_le l k
      have hS : sumL (l.take k) ≤ 65536 * 64 := by
        have h1 := sum_le_nz (l := l.take k) (m := 65536) (fun y hy => HB.out y (List.mem_of_mem_take hy))
        have h2 := nz_le (l.take k)
        have h3 : (l.take k).length ≤ 64 := by rw [List.length_take]; omega
        omega
      have hZ : nz (l.take k) ≤ 64 := by
        have h2 := nz_le (l.take k)
        have h3 : (l.take k).length ≤ 64 := by rw [List.length_take]; omega
        omega
      obtain ⟨T, hT⟩ : ∃ T, sumL (l.take k) = T := ⟨_, rfl⟩
      obtain ⟨Z, hZZ⟩ : ∃ Z, nz (l.take k) = Z := ⟨_, rfl⟩
      rw [hT] at hs1 hS hle
      rw [hZZ] at hz1 hZ
      rw [hT, hZZ]
      have HS1 := Lib.hid hs1
      have HZ1 := Lib.hid hz1
      clear hx hs1 hz1 hle hT hZZ
      by_cases hx0 : 0 < x
      · have g1 : decide ((0 : Int) < (x : Int)) = true := decide_eq_true (by omega)
        have HZ2 := Lib.hid (show nz (l.take (k + 1)) = Z + 1 by rw [HZ1.out, if_pos hx0])
        clear HZ1
        go_wp2
        go_roundg (n - (k + 1))
        case measure => omega
        case rel => exact ⟨k + 1, by omega, by omega, by rw [HS1.out]; go_num, by rw [HZ2.out]; go_num, by go_num, rfl⟩
      · have g1 : decide ((0 : Int) < (x : Int)) = false := decide_eq_false (by omega)
        have HZ2 := Lib.hid (show nz (l.take (k + 1)) = Z by rw [HZ1.out, if_neg hx0]; rfl)
        clear HZ1
        go_wp2
        go_roundg (n - (k + 1))
        case measure => omega
        case rel => exact ⟨k + 1, by omega, by omega, by rw [HS1.out]; go_num, by rw [HZ2.out], by go_num, rfl⟩
    · obtain rfl : k = n := by omega
      have hfull : l.take k = l := List.take_of_length_le (by rw [HL.out]; exact Nat.le_refl _)
      rw [hfull]
      clear hfull
      have hT : sumL l ≤ 65536 * 64 := by
        have h1 := sum_le_nz (l := l) (m := 65536) HB.out
        have h2 := nz_le l
        rw [HL.out] at h2
        omega
      have hTpos := nz_pos HZ0.out
      have hZ1 := HZ0.out
      have hZ2 := HZ32.out
      have HMem := Lib.hid (fun x (hx : x ∈ l) => mem_le_sum hx)
      obtain ⟨T, hTT⟩ : ∃ T, sumL l = T := ⟨_, rfl⟩
      obtain ⟨Z, hZZ⟩ : ∃ Z, nz l = Z := ⟨_, rfl⟩
      rw [hTT] at hT hTpos HMem ⊢
      rw [hZZ] at hZ1 hZ2 ⊢
      clear hTT hZZ
      have g2 : ((Z : Int) == 0) = false := beq_eq_false_iff_ne.2 (by omega)
      have g3 : decide ((32 : Int) < (Z : Int)) = false := decide_eq_false (by omega)
      go_wp2
      clear g2 g3
      go_loopg [11, 12, 58] k (fun gg s11 s12 s58 wr2 => ∃ (i m co : Nat) (Ao : Option Addr) (out : List Nat), i ≤ k ∧ k - i ≤ gg ∧ s11 = .slice Ao m co ∧ s12 = .int .i64 ((sumL out : Nat) : Int) ∧ s58 = .int .i64 (i : Int) ∧ OwnN wr2 w.heap.size Ao m co out ∧ Sh2 l i out ∧ Below w.heap.size w wr2)
      case atStart => exact ⟨0, 0, 0, none, [], by omega, by omega, rfl, rfl, rfl, OwnN.nil _ _, ⟨Nat.le_refl _, .inl rfl, fun i hi => by omega, by simp, by simp [nz]⟩, Below.refl _ _⟩
      case round =>
        obtain ⟨i, m, co, Ao, out, hi, hgi, rfl, rfl, rfl, hown, hsh, hbel⟩ := hrel
        have hm := OwnN.length hown
        have hmi : m ≤ i := by have := hsh.len; omega
        have hsum := hsh.sum_le
        have HO := Lib.hid hown
        have HSh := Lib.hid hsh
        have HBel := Lib.hid hbel
        have HM := Lib.hid hm
        clear hown hsh hbel hm
        by_cases hik : i < k
        · obtain ⟨b, o, x, hA, hx, hc⟩ := HR.out.at_ (by rw [HL.out]; exact hik : i < l.length)
          subst hA
          have hc2 := (HBel.out.cell (by simpa using block_lt hc)).trans hc
          have hxb := HB.out x (List.mem_of_getElem? hx)
          have hxT := HMem.out x (List.mem_of_getElem? hx)
          have HX := Lib.hid hx
          clear hx hc
          by_cases hx0 : 0 < x
          · have g1 : decide ((0 : Int) < (x : Int)) = true := decide_eq_true (by omega)
            obtain ⟨y, hy⟩ : ∃ y, i - m = y := ⟨_, rfl⟩
            have e1 : IntKind.i64.wrap ((i : Int) - m) = (y : Int) := by rw [wrapi64 (by omega) (by omega)]; omega
            go_wp2_with (at_builtin; go_loud (refine wpList_append_zeros rfl _ _ elemN .i64 .i64 Tryz.underlying3 rfl w.heap.size Ao m co (out.map natv) rfl HO.out (y + 1) ?c0 ?c1 rfl ?c2 ?c3 ?c4 ?_))
            case c0 => rfl
            case c1 => omega
            case c2 => omega
            case c3 => omega
            case c4 => exact HBel.out.size
            intro A' c' w5 hown5 hb5 hgr5 _
            have HO5 := Lib.hid (ownN_zeros hown5)
            have HB5 := Lib.hid (HBel.out.trans hb5)
            clear hown5 hb5 hgr5 e1 hc2
            obtain ⟨g, xa, hA', hg1, hg2, -, hcg, hfg⟩ := Own.at_ HO5.out (k := i) (by omega)
            subst hA'
            have hmi2 : m + (y + 1) = i + 1 := by omega
            rw [hmi2]
            have i3 : (0 : Int) ≤ (i : Int) := by omega
            have i4 : (i : Int) < ((i + 1 : Nat) : Int) := by omega
            go_wp2_with fail
            obtain ⟨X, hX⟩ : ∃ X, X = max 1 (x * 64 / T) := ⟨_, rfl⟩
            have hX1 : 0 < X := by omega
            have hX2 : X ≤ 64 := by
              have h1 : x * 64 ≤ T * 64 := Nat.mul_le_mul_right _ hxT
              have h2 : x * 64 / T ≤ 64 := Nat.div_le_of_le_mul h1
              omega
            have eX : max 1 ((x : Int) * 64 / (T : Int)) = (X : Int) := by
              have : ((x : Int) * 64 / (T : Int)) = ((x * 64 / T : Nat) : Int) := by simp
              rw [this, hX]; omega
            rw [eX]
            obtain ⟨hput, hsum2⟩ := HSh.out.put HX.out hx0 hX1 hX2
            have hst := (Own.stored HO5.out i (.int .i64 (X : Int)))
            have hpad := pad_eq (x := X) HSh.out.len
            rw [HM.out, hy] at hpad
            rw [HM.out, hy] at hput hsum2
            have HO6 := Lib.hid (show OwnN (w5.setCell ⟨g, i, none⟩ (.int .i64 (X : Int))) w.heap.size (some ⟨g, 0, none⟩) (i + 1) c' (out ++ (List.replicate y 0 ++ [X])) from by
              unfold OwnN
              rw [← hpad, List.map_set, ← hmi2]
              exact hst.1)
            have HB6 := Lib.hid (show Below w.heap.size w (w5.setCell ⟨g, i, none⟩ (.int .i64 (X : Int))) from HB5.out.setCell hg1 _)
            have HSh6 := Lib.hid hput
            have HSum6 := Lib.hid hsum2
            clear hst hpad hput hsum2 hX eX
            have e5 : wrap64 ((sumL out : Nat) + (X : Int)) = (sumL out : Nat) + (X : Int) := by unfold wrap64; omega
            rw [e5]
            go_roundg (k - (i + 1))
            case measure => omega
            case rel => exact ⟨i + 1, i + 1, c', some ⟨g, 0, none⟩, _, by omega, by omega, rfl, by rw [HSum6.out]; go_num, by go_num, HO6.out, HSh6.out, HB6.out⟩
          · have g1 : decide ((0 : Int) < (x : Int)) = false := decide_eq_false (by omega)
            obtain rfl : x = 0 := by omega
            have HSh2 := Lib.hid (HSh.out.skip HX.out)
            go_wp2
            go_roundg (k - (i + 1))
            case measure => omega
            case rel => exact ⟨i + 1, m, co, Ao, out, by omega, by omega, rfl, rfl, by go_num, HO.out, HSh2.out, HBel.out⟩
        · obtain rfl : i = k := by omega
          have hsh3 := Sh3.of (by have h := HSh.out; rw [← HL.out] at h; exact h) HZ0.out HZ32.out
          have HSh3 := Lib.hid hsh3
          clear hsh3
          go_wp2
          go_loopg [12] 8192 (fun gg s12 wr3 => ∃ (out : List Nat), s12 = .int .i64 ((sumL out : Nat) : Int) ∧ sumL out ≤ 8000 ∧ (sumL out - 64) + (64 - sumL out) ≤ gg ∧ OwnN wr3 w.heap.size Ao m co out ∧ Sh3 l out ∧ Below w.heap.size w wr3)
          case atStart => exact ⟨out, rfl, by omega, by omega, HO.out, HSh3.out, HBel.out⟩
          case round =>
            clear HSh3 HSh HO HM hsum
            obtain ⟨sh, rfl, hs, hgs, hown, hsh, hbel⟩ := hrel
            have HO := Lib.hid hown
            have HSh := Lib.hid hsh
            have HB3 := Lib.hid hbel
            have HM := Lib.hid (OwnN.length hown)
            clear hown hsh hbel
            by_cases h64 : sumL sh = 64
            · have HS := Lib.hid h64
              rw [h64]
              clear h64
              go_wp2
              go_ret2
              exact ⟨Ao, m, co, sh, rfl, HO.out, ⟨HS.out, HSh.out.len, HSh.out.last, HSh.out.has⟩, HB3.out⟩
            · have g6 : (((sumL sh : Nat) : Int) != 64) = true := bne_iff_ne.2 (by omega)
              obtain ⟨M, hM1, hM2, hM3⟩ := maxOf_nat HSh.out.ne
              obtain ⟨ix, hix, hixM, hidx⟩ := idx_facts hM3
              have hM0 := HSh.out.max_pos hM2
              have hMt := HSh.out.max_two hM2
              have hMs := mem_le_sum hM3
              have hlm := HM.out
              obtain ⟨g, xa, hAo, hg1, hg2, hxa, hcg, hfg⟩ := Own.at_ HO.out (k := ix) (by omega)
              subst hAo
              have hcell := OwnN.cells HO.out
              have hlen2 : (sh.map (fun x : Nat => (x : Int))).length = m := by rw [List.length_map]; exact hlm
              have htk : (sh.map (fun x : Nat => (x : Int))).take m = sh.map (fun x : Nat => (x : Int)) := List.take_of_length_le (by omega)
              have HMax := Lib.hid (by have h := Tryz.slices_Max_int g 0 m co _ wr.drew (by omega) (by omega) (by omega) hcell; rw [htk, hM1] at h; exact h : Calls Tryz.prog 83 #[.slice (some ⟨g, 0, none⟩) m co] wr.drew fun e w' => e = .returned (.int .i64 (M : Int)) ∧ w' = wr.drew)
              have HIdx := Lib.hid (by have h := Tryz.slices_Index_int g 0 m co _ (M : Int) wr.drew (by omega) (by omega) hcell; rw [htk, hidx] at h; exact h : Calls Tryz.prog 82 #[.slice (some ⟨g, 0, none⟩) m co, .int .i64 (M : Int)] wr.drew fun e w' => e = .returned (.int .i64 (ix : Int)) ∧ w' = wr.drew)
              have hxv : xa = .int .i64 (M : Int) := by
                rw [List.getElem?_map, List.getElem?_eq_getElem (by omega)] at hxa
                rw [← Option.some.inj hxa]
                simp only [List.getD, List.getElem?_eq_getElem (show ix < sh.length by omega), Option.getD_some] at hixM
                rw [hixM]; rfl
              subst hxv
              clear hcell hlen2 htk hM1 hidx hxa
              have HSet := Lib.hid (fun x (hx : 0 < x) => HSh.out.set (k := ix) (x := x) hix (by rw [hixM]; exact hM0) hx)
              have HSumS := Lib.hid (fun x => by have h := sum_set sh ix x hix; rw [hixM] at h; exact h : ∀ x, sumL (sh.set ix x) + M = sumL sh + x)
              obtain ⟨S, hS⟩ : ∃ S, sumL sh = S := ⟨_, rfl⟩
              rw [hS] at h64 hMt hMs hs hgs g6 HSumS ⊢
              clear hS hM2 hM3 hixM
              have i1 : (0 : Int) ≤ (ix : Int) := by omega
              have i2 : (ix : Int) < (m : Int) := by omega
              have HTw := Lib.hid (fseToward (S : Int) 64 wr.drew)
              obtain ⟨D, hD⟩ : ∃ D : Int, D = (if (64 : Int) < (S : Int) then -1 else 1) := ⟨_, rfl⟩
              rw [← hD] at HTw
              have HTw2 := Lib.hid (fun wq => (by have h := fseToward (S : Int) 64 wq; rw [← hD] at h; exact h : Calls Tryz.prog 81 #[.int .i64 (S : Int), .int .i64 64] wq fun e w' => e = .returned (.int .i64 D) ∧ w' = wq))
              go_wp2_with fail
              have HD := Lib.hid hD
              clear hD
              have hcg' : wr.drew.cell? ⟨g, ix, none⟩ = some (.int .i64 (M : Int)) := hcg
              have hfg' : wr.drew.frozen? ⟨g, ix, none⟩ = false := hfg
              refine wp_region_still_tail 12 (by kernel_rfl) (by kernel_rfl) ?_
              simp only [List.take_succ_cons, List.take_zero, List.drop_succ_cons, List.drop_zero]
              repeat still_step
              still_call HMax.out
              still_call HIdx.out
              repeat still_step
              still_call HTw.out
              repeat still_step
              refine wpStill_nil ?_
              change wpList _ _ _ _ _ wr.drew
              obtain ⟨X, S2, hX1, hX0, hS1, hSX, hS2, hdist⟩ : ∃ X S2 : Nat, (M : Int) + D = (X : Int) ∧ 0 < X ∧ (S : Int) + D = (S2 : Int) ∧ S2 + M = S + X ∧ S2 ≤ 8000 ∧ (S2 - 64) + (64 - S2) < (S - 64) + (64 - S) := by
                have hD := HD.out
                by_cases h : (64 : Int) < (S : Int)
                · rw [if_pos h] at hD
                  have := hMt (by omega)
                  exact ⟨M - 1, S - 1, by omega, by omega, by omega, by omega, by omega, by omega⟩
                · rw [if_neg h] at hD
                  exact ⟨M + 1, S + 1, by omega, by omega, by omega, by omega, by omega, by omega⟩
              have eX : IntKind.i64.wrap ((M : Int) + D) = (X : Int) := by rw [hX1]; exact wrapi64 (by omega) (by omega)
              have eX2 : wrap64 ((M : Int) + D) = (X : Int) := by rw [hX1]; unfold wrap64; omega
              have eS : IntKind.i64.wrap ((S : Int) + D) = (S2 : Int) := by rw [hS1]; exact wrapi64 (by omega) (by omega)
              have eS2 : wrap64 ((S : Int) + D) = (S2 : Int) := by rw [hS1]; unfold wrap64; omega
              have HSX := Lib.hid (by have h := HSumS.out X; omega : sumL (sh.set ix X) = S2)
              have HSh6 := Lib.hid (HSet.out X hX0)
              have HO6 := Lib.hid (show OwnN (wr.drew.setCell ⟨g, ix, none⟩ (.int .i64 (X : Int))) w.heap.size (some ⟨g, 0, none⟩) m co (sh.set ix X) from by
                unfold OwnN
                rw [List.map_set]
                exact (Own.stored (Own.drew HO.out) ix _).1)
              have HB6 := Lib.hid (show Below w.heap.size w (wr.drew.setCell ⟨g, ix, none⟩ (.int .i64 (X : Int))) from (HB3.out.drew).setCell hg1 _)
              clear hX1 hS1 HD HMax HIdx HTw HSet HSumS
              go_wp2_with fail
              have HT3 := Lib.hid (HTw2.out (wr.drew.setCell ⟨g, ix, none⟩ (.int .i64 (X : Int))))
              refine HT3.out.mono ?_
              rintro e w7 ⟨rfl, rfl⟩
              clear HT3
              go_wp2
              go_roundg ((S2 - 64) + (64 - S2))
              case measure => omega
              case rel => exact ⟨_, by rw [HSX.out], by rw [HSX.out]; exact hS2, by rw [HSX.out]; exact Nat.le_refl _, HO6.out, HSh6.out, HB6.out⟩
end Go.Proofs.YtkneigeejgblkaaGreat

/-
  Walks of package bits: a new row of bits; its bytes.
-/
namespace Go.Proofs.YtkneigeejgblkaaGreat
open Go.RowKit

theorem flushW_facts : ∀ (f : Nat) (bs : List UInt8) (acc n : Nat), acc < 2 ^ n → n < 8 * (f + 1) → (flushW f bs acc n).2.2 < 8 ∧ (flushW f bs acc n).2.1 < 2 ^ (flushW f bs acc n).2.2 ∧ 8 * (flushW f bs acc n).1.length + (flushW f bs acc n).2.2 = 8 * bs.length + n
  | 0, bs, acc, n, h, hn => ⟨by simpa [flushW] using hn, h, rfl⟩
  | f + 1, bs, acc, n, h, hn => by
    rw [flushW]
    by_cases h8 : 8 ≤ n
    · rw [if_pos h8]
      have h2 : acc / 256 < 2 ^ (n - 8) := by
        obtain ⟨m, rfl⟩ : ∃ m, n = m + 8 := ⟨n - 8, by omega⟩
        rw [Nat.pow_add] at h
        rw [Nat.add_sub_cancel]
        generalize 2 ^ m = p at *
        omega
      obtain ⟨h3, h4, h5⟩ := flushW_facts f (bs ++ [UInt8.ofNat acc]) (acc / 256) (n - 8) h2 (by omega)
      refine ⟨h3, h4, ?_⟩
      rw [h5]
      simp only [List.length_append, List.length_singleton]
      omega
    · rw [if_neg h8]
      exact ⟨show n < 8 by omega, h, rfl⟩

theorem put_sum {acc n k v : Nat} (hacc : acc < 2 ^ n) (hv : v < 2 ^ k) : acc + v * 2 ^ n < 2 ^ (n + k) := by
  rw [Nat.pow_add, Nat.mul_comm (2 ^ n)]
  have h1 : (v + 1) * 2 ^ n ≤ 2 ^ k * 2 ^ n := Nat.mul_le_mul_right _ (by omega)
  rw [Nat.add_mul, Nat.one_mul] at h1
  omega

set_option maxHeartbeats 400000 in
theorem newWriter (w : World) : Calls Tryz.prog 43 #[] w fun e w' => e = .returned (.pointer (some ⟨w.heap.size, 0, none⟩)) ∧ IsWr w' w.heap.size w.heap.size [] 0 0 none 0 ∧ Below w.heap.size w w' := by
  go_enter Tryz.func43, Tryz.ntmps43
  go_wp2
  go_ret
  exact ⟨rfl, ⟨Blk.new w 122 _, OwnB.nil _ _, Nat.le_refl _, by simp⟩, (Below.refl _ _).alloc (Nat.le_refl _) _⟩

/-- a row of bits, as bytes -/
def bytesW (bs : List UInt8) (acc n : Nat) : List UInt8 := if 0 < n then bs ++ [UInt8.ofNat acc] else bs

set_option maxHeartbeats 2000000 in
set_option maxRecDepth 10000 in
theorem wrBytes (B g : Nat) (bs : List UInt8) (acc n : Nat) (A : Option Addr) (c : Nat) (w : World) (h : IsWr w B g bs acc n A c) (hn : n < 8) (hacc : acc < 2 ^ n) (hlen : bs.length ≤ 1000000000000) :
    Calls Tryz.prog 45 #[.pointer (some ⟨g, 0, none⟩)] w fun e w' => ∃ A' m c', e = .returned (.slice A' m c') ∧ OwnB w' w.heap.size A' m c' (bytesW bs acc n) ∧ Below w.heap.size w w' := by
  have c0 := h.blk.cell 0
  have c2 := h.blk.cell 2
  simp only [List.getElem?_toArray, List.getElem?_cons_zero, List.getElem?_cons_succ] at c0 c2
  have HH := Lib.hid h
  have hlt := h.blk.lt
  have HBs := Lib.hid (OwnB.bs h.own)
  have h256 : acc < 256 := by
    have hp : 2 ^ n ≤ 128 := (Nat.pow_le_pow_right (by omega) (by omega) : 2 ^ n ≤ 2 ^ 7)
    omega
  clear h hacc
  obtain ⟨lb, hlb⟩ : ∃ lb, bs.length = lb := ⟨_, rfl⟩
  rw [hlb] at c0 hlen
  have HLB := Lib.hid hlb
  clear hlb
  go_enter Tryz.func45, Tryz.ntmps45
  go_wp2_with (at_builtin; refine wpList_append_rd rfl _ _ elemB rfl w.heap.size none 0 0 [] rfl (Own.nil _ _ _) A lb c (bs.map u8v) rfl HBs.out ?h1 (u8_one _) ?h2 ?h3 ?hb ?_)
  case h1 => rw [List.length_map]; exact HLB.out
  case h2 => omega
  case h3 => omega
  case hb => exact Nat.le_refl _
  intro A1 c1 w1 hown1 hb1 hg1 hat1
  have HO1 := Lib.hid (show OwnB w1 w.heap.size A1 lb c1 bs from hown1)
  have HB1 := Lib.hid hb1
  have hk := HH.out.blk.later hb1
  have d1 := hk.cell 1
  have d2 := hk.cell 2
  simp only [List.getElem?_toArray, List.getElem?_cons_zero, List.getElem?_cons_succ] at d1 d2
  clear hown1 hb1 hg1 hat1 hk c0 c2
  by_cases hn0 : 0 < n
  · have HD := Lib.hid (show bytesW bs acc n = bs ++ [UInt8.ofNat acc] from if_pos hn0)
    go_wp2_with (at_builtin; refine wpList_append_one rfl _ _ elemB rfl w.heap.size A1 lb c1 (bs.map u8v) w1 (.int .u8 (acc : Int)) rfl rfl HO1.out rfl rfl ?d1 ?d2 ?d3 ?_)
    case d1 => omega
    case d2 => omega
    case d3 => exact HB1.out.size
    intro A3 c3 w3 hown3 hb3 hgr3 hat3
    have HO3 := Lib.hid (ownB_snoc (b := UInt8.ofNat acc) hown3 (by rw [UInt8.toNat_ofNat']; omega))
    have HB3 := Lib.hid (HB1.out.trans hb3)
    clear hown3 hb3 hgr3 hat3
    go_wp2
    go_ret
    exact ⟨A3, lb + 1, c3, rfl, by rw [HD.out]; exact HO3.out, HB3.out⟩
  · have HD := Lib.hid (show bytesW bs acc n = bs from if_neg hn0)
    go_wp2
    go_ret
    exact ⟨A1, lb, c1, rfl, by rw [HD.out]; exact HO1.out, HB1.out⟩

/-- a row of bits with a mark behind -/
def markedW (bs : List UInt8) (acc n : Nat) : List UInt8 := bytesW (flushW 5 bs (acc + 1 * 2 ^ n) (n + 1)).1 (flushW 5 bs (acc + 1 * 2 ^ n) (n + 1)).2.1 (flushW 5 bs (acc + 1 * 2 ^ n) (n + 1)).2.2

set_option maxHeartbeats 2000000 in
set_option maxRecDepth 10000 in
theorem wrMarked (B g : Nat) (bs : List UInt8) (acc n : Nat) (A : Option Addr) (c : Nat) (w : World) (h : IsWr w B g bs acc n A c) (hn : n < 8) (hacc : acc < 2 ^ n) (hlen : bs.length ≤ 100000000000) :
    Calls Tryz.prog 89 #[.pointer (some ⟨g, 0, none⟩)] w fun e w' => ∃ A' m c', e = .returned (.slice A' m c') ∧ OwnB w' w.heap.size A' m c' (markedW bs acc n) ∧ Below w.heap.size w w' := by
  have c0 := h.blk.cell 0
  have c1 := h.blk.cell 1
  have c2 := h.blk.cell 2
  simp only [List.getElem?_toArray, List.getElem?_cons_zero, List.getElem?_cons_succ] at c0 c1 c2
  have HH := Lib.hid h
  have hlt := h.blk.lt
  have HBs := Lib.hid (OwnB.bs h.own)
  obtain ⟨lb, hlb⟩ : ∃ lb, bs.length = lb := ⟨_, rfl⟩
  rw [hlb] at c0
  have HLB := Lib.hid hlb
  have HAcc := Lib.hid hacc
  clear h hlb hacc
  go_enter Tryz.func89, Tryz.ntmps89
  go_wp2_with (at_builtin; refine wpList_append_rd rfl _ _ elemB rfl w.heap.size none 0 0 [] rfl (Own.nil _ _ _) A lb c (bs.map u8v) rfl ?h0 ?h1 (u8_one _) ?h2 ?h3 ?hb ?_)
  case h0 => exact Rd.alloc HBs.out _
  case h1 => rw [List.length_map]; exact HLB.out
  case h2 => have := HLB.out; omega
  case h3 => have := HLB.out; omega
  case hb => simp
  intro A1 c1' w1 hown1 hb1 hg1 hat1
  have HO1 := Lib.hid (show OwnB w1 w.heap.size A1 lb c1' bs from hown1)
  have HB1 := Lib.hid (((Below.refl w.heap.size w).alloc (Nat.le_refl _) (.cells #[.slice A lb c, .int .u64 (acc : Int), .int .i64 (n : Int)] 122)).trans hb1)
  have HK1 := Lib.hid ((Blk.new w 122 #[.slice A lb c, .int .u64 (acc : Int), .int .i64 (n : Int)]).kept hg1 (by simp [bk]))
  have d0 := HK1.out.cell 0
  simp only [List.getElem?_toArray, List.getElem?_cons_zero, List.getElem?_cons_succ] at d0
  have f0 := HK1.out.frozen 0
  have HW2 := Lib.hid (show IsWr (w1.setCell ⟨w.heap.size, 0, none⟩ (.slice A1 lb c1')) w.heap.size w.heap.size bs acc n A1 c1' from
    ⟨by rw [HLB.out]; exact HK1.out.set 0 _, by rw [HLB.out]; exact Own.kept HO1.out (grown_set w1 ⟨w.heap.size, 0, none⟩ _) (.inr (Own.ne_blk HO1.out HK1.out (by decide))), Nat.le_refl _, by have := HB1.out.size; simpa [World.setCell] using this⟩)
  have HB2 := Lib.hid (show Below w.heap.size w (w1.setCell ⟨w.heap.size, 0, none⟩ (.slice A1 lb c1')) from HB1.out.setCell (Nat.le_refl _) _)
  clear hown1 hb1 hg1 hat1 c0 c1 c2
  have HPut := Lib.hid (show Calls Tryz.prog 44 #[.pointer (some ⟨w.heap.size, 0, none⟩), .int .i64 1, .int .i64 1] (w1.setCell ⟨w.heap.size, 0, none⟩ (.slice A1 lb c1')) _ from
    wrPut w.heap.size w.heap.size bs acc n A1 c1' 1 1 _ HW2.out hn HAcc.out (by omega) (by omega) (by omega))
  have hsum := put_sum (k := 1) (v := 1) HAcc.out (by omega)
  obtain ⟨hf1, hf2, hf3⟩ := flushW_facts 5 bs (acc + 1 * 2 ^ n) (n + 1) hsum (by omega)
  have HD := Lib.hid (show markedW bs acc n = bytesW (flushW 5 bs (acc + 1 * 2 ^ n) (n + 1)).1 (flushW 5 bs (acc + 1 * 2 ^ n) (n + 1)).2.1 (flushW 5 bs (acc + 1 * 2 ^ n) (n + 1)).2.2 from rfl)
  generalize flushW 5 bs (acc + 1 * 2 ^ n) (n + 1) = F at *
  obtain ⟨bs2, acc2, n2⟩ := F
  simp only at hf1 hf2 hf3 HPut HD
  have HF2 := Lib.hid hf2
  clear hsum hf2
  go_wp2_with fail
  refine HPut.out.mono ?_
  rintro e w3 ⟨rfl, hb3, -, A3, c3, hw3, -⟩
  have HBy := Lib.hid (wrBytes w.heap.size w.heap.size bs2 acc2 n2 A3 c3 w3 hw3 hf1 HF2.out (by omega))
  have HB3 := Lib.hid (HB2.out.trans hb3)
  clear hb3 hw3 HPut d0 f0
  go_wp2_with fail
  refine HBy.out.mono ?_
  rintro e w4 ⟨A4, m4, c4, rfl, hown4, hb4⟩
  have HB4 := Lib.hid (HB3.out.trans (hb4.mono HB3.out.size))
  have HO4 := Lib.hid (Own.mono hown4 HB3.out.size)
  clear hown4 hb4
  go_wp2
  go_ret
  exact ⟨A4, m4, c4, rfl, by rw [HD.out]; exact HO4.out, HB4.out⟩
end Go.Proofs.YtkneigeejgblkaaGreat

/-
  Walks of package fse: a share is written.
-/
namespace Go.Proofs.YtkneigeejgblkaaGreat
open Go.RowKit

theorem ShareOk.may {counts sh : List Nat} (h : ShareOk counts sh) (hc : counts.length ≤ 64) : fmayL sh 6 = true := by
  have h1 : sh ≠ [] := by
    rintro rfl
    have := h.sum
    simp [sumL] at this
  have h2 : 0 < sh.length := List.length_pos_iff.2 h1
  have h3 : sh.all (fun k => decide (k ≤ 2 ^ 6)) = true := by
    rw [List.all_eq_true]
    intro x hx
    have := mem_le_sum hx
    have := h.sum
    simp only [decide_eq_true_eq]
    omega
  unfold fmayL
  rw [h3, decide_eq_true h2, decide_eq_true (show sh.length ≤ 64 by have := h.len; omega), h.sum]
  have h4 : (sh.getD (sh.length - 1) 0 != 0) = true := bne_iff_ne.2 (by have := h.last; omega)
  rw [h4]; rfl

/-- a share's bytes -/
def shareB (sh : List Nat) : List UInt8 := [6] ++ numB 5 sh.length ++ sh.flatMap (numB 5)

theorem flatMap_step {α β : Type} (f : α → List β) {l : List α} {k : Nat} {x : α} (h : l[k]? = some x) : (l.take (k + 1)).flatMap f = (l.take k).flatMap f ++ f x := by
  rw [List.take_add_one, h, List.flatMap_append]
  simp

theorem numB_len : ∀ (f n : Nat), (numB f n).length ≤ f + 1
  | 0, _ => by simp [numB]
  | f + 1, n => by
    unfold numB
    split
    · have := numB_len f (n / 128); simp only [List.length_cons]; omega
    · simp

theorem flat_len (f : Nat) : ∀ (l : List Nat), (l.flatMap (numB f)).length ≤ (f + 1) * l.length
  | [] => Nat.zero_le _
  | x :: r => by
    have h1 := flat_len f r
    have h2 := numB_len f x
    rw [List.flatMap_cons, List.length_append, List.length_cons, Nat.mul_add, Nat.mul_one]
    omega

set_option maxHeartbeats 4000000 in
set_option maxRecDepth 10000 in
theorem fsePutShare (A : Option Addr) (n c : Nat) (sh : List Nat) (w : World) (hl : sh.length = n) (hr : Ns w A sh) (hmay : fmayL sh 6 = true) :
    Calls Tryz.prog 41 #[.slice A n c, .int .i64 6] w fun e w' => ∃ S m cs, e = .returned (.tuple #[.slice S m cs, .int .i64 0]) ∧ OwnB w' w.heap.size S m cs (shareB sh) ∧ Below w.heap.size w w' := by
  obtain ⟨hf1, hf2, -, hf4, -⟩ := fmayL_facts hmay
  rw [hl] at hf1 hf2
  have HMay := Lib.hid (show Calls Tryz.prog 84 #[.slice A n c, .int .i64 6] w fun e w' => e = .returned (.bool true) ∧ w' = w from by
    have h := fseMay A n c sh 6 w hl hr (by omega) (fun x hx => by have := hf4 x hx; omega) (by omega) (by omega)
    rw [hmay] at h; exact h)
  have HL := Lib.hid hl
  have HR := Lib.hid hr
  have H4 := Lib.hid hf4
  clear hl hr hmay hf4
  go_enter Tryz.func41, Tryz.ntmps41
  go_wp2_with fail
  refine HMay.out.mono ?_
  rintro e w1 ⟨rfl, hw1⟩
  subst hw1
  have HB1 := Lib.hid ((Below.refl w1.heap.size w1).alloc (Nat.le_refl _) (.cells #[.int .u8 6] 5))
  have hr6 : Bs (w1.alloc (.cells #[.int .u8 6] 5)) (some ⟨w1.heap.size, 0, none⟩) [6] := Rd.one w1 (.int .u8 6) 5
  have HP := Lib.hid (putNum (some ⟨w1.heap.size, 0, none⟩) 1 1 [6] n _ rfl hr6 (by omega) (by omega))
  clear hr6
  go_wp2_with fail
  refine HP.out.mono ?_
  rintro e w2 ⟨A2, m2, c2, rfl, hown2, hb2⟩
  have hsz := ((Below.refl w1.heap.size w1).alloc (Nat.le_refl _) (.cells #[.int .u8 6] 5)).size
  have HO2 := Lib.hid (show OwnB w2 w1.heap.size A2 m2 c2 ([6] ++ numB 5 n ++ (sh.take 0).flatMap (numB 5)) from by
    rw [List.take_zero, List.flatMap_nil, List.append_nil]
    exact Own.mono hown2 hsz)
  have HB2 := Lib.hid (HB1.out.trans (hb2.mono hsz))
  clear hown2 hb2 hsz HP
  go_wp2_with fail
  go_loopg [6, 25] n (fun gg s6 s25 wr => ∃ (k m co : Nat) (Ao : Option Addr), k ≤ n ∧ n - k ≤ gg ∧ s6 = .slice Ao m co ∧ s25 = .int .i64 (k : Int) ∧ OwnB wr w1.heap.size Ao m co ([6] ++ numB 5 n ++ (sh.take k).flatMap (numB 5)) ∧ Below w1.heap.size w1 wr)
  case atStart => exact ⟨0, m2, c2, A2, by omega, by omega, rfl, rfl, HO2.out, HB2.out⟩
  case round =>
    clear HO2 HB2
    obtain ⟨k, m, co, Ao, hk, hgg, rfl, rfl, hown, hbel⟩ := hrel
    have HO := Lib.hid hown
    have HB := Lib.hid hbel
    have HM := Lib.hid (OwnB.length hown)
    have hm : m ≤ 1000 := by
      have h := HM.out
      have h1 := flat_len 5 (sh.take k)
      have h2 := numB_len 5 n
      have h3 : (sh.take k).length ≤ 64 := by rw [List.length_take]; omega
      simp only [List.length_append, List.length_singleton] at h
      omega
    clear hown hbel
    by_cases hkn : k < n
    · obtain ⟨b, o, x, hA, hx, hc⟩ := HR.out.at_ (by rw [HL.out]; exact hkn : k < sh.length)
      subst hA
      have hc2 := (HB.out.cell (by simpa using block_lt hc)).trans hc
      have hx64 := H4.out x (List.mem_of_getElem? hx)
      have HP := Lib.hid (putNum Ao m co _ x wr HM.out (OwnB.bs HO.out) (by omega) (by omega))
      have HF := Lib.hid (flatMap_step (numB 5) hx)
      clear hx hc
      go_wp2_with fail
      refine HP.out.mono ?_
      rintro e w3 ⟨A3, m3, c3, rfl, hown3, hb3⟩
      have HO3 := Lib.hid (show OwnB w3 w1.heap.size A3 m3 c3 ([6] ++ numB 5 n ++ (sh.take (k + 1)).flatMap (numB 5)) from by
        rw [HF.out, ← List.append_assoc]
        exact Own.mono hown3 HB.out.size)
      have HB3 := Lib.hid (HB.out.trans (hb3.mono HB.out.size))
      clear hown3 hb3 HP hc2
      go_wp2
      go_roundg (n - (k + 1))
      case measure => omega
      case rel => exact ⟨k + 1, m3, c3, A3, by omega, by omega, rfl, by go_num, HO3.out, HB3.out⟩
    · obtain rfl : k = n := by omega
      have HO3 := Lib.hid (show OwnB wr w1.heap.size Ao m co (shareB sh) from by
        have h := HO.out
        rw [List.take_of_length_le (by rw [HL.out]; exact Nat.le_refl _)] at h
        unfold shareB
        rw [HL.out]; exact h)
      go_wp2
      go_ret2
      exact ⟨Ao, m, co, rfl, HO3.out, HB.out⟩
end Go.Proofs.YtkneigeejgblkaaGreat

/-
  Walks of package fse: no symbol is strange.
-/
namespace Go.Proofs.YtkneigeejgblkaaGreat
open Go.RowKit

set_option maxHeartbeats 2000000 in
set_option maxRecDepth 10000 in
theorem fseStrange (Bs : Nat) (A : Option Addr) (n c : Nat) (sh : List Nat) (x : Nat) (w : World) (hB : w.cell? ⟨Bs, 0, none⟩ = some (.slice A n c)) (hl : sh.length = n) (hr : Ns w A sh) (hn : n ≤ 1000000000) (hx : x < n) (h0 : 0 < sh.getD x 0) :
    Calls Tryz.prog 86 #[.int .i64 (x : Int), .pointer (some ⟨Bs, 0, none⟩)] w fun e w' => e = .returned (.bool false) ∧ w' = w := by
  obtain ⟨b, o, y, hA, hy, hc⟩ := hr.at_ (by rw [hl]; exact hx : x < sh.length)
  subst hA
  have hy0 : 0 < y := by simpa [List.getD, hy] using h0
  have g1 : decide ((x : Int) < 0) = false := decide_eq_false (by omega)
  have g2 : decide ((n : Int) ≤ (x : Int)) = false := decide_eq_false (by omega)
  have g3 : ((y : Int) == 0) = false := beq_eq_false_iff_ne.2 (by omega)
  clear hy h0
  go_enter Tryz.func86, Tryz.ntmps86
  go_wp2
  go_ret
  refine ⟨?_, rfl⟩
  show Ending.returned (.bool (decide (n ≤ x))) = _
  rw [decide_eq_false (by omega)]

set_option maxHeartbeats 2000000 in
set_option maxRecDepth 10000 in
theorem fseIndexFunc (Bs : Nat) (A : Option Addr) (n c : Nat) (sh : List Nat) (A2 : Option Addr) (n2 c2 : Nat) (l : List Nat) (w : World) (hB : w.cell? ⟨Bs, 0, none⟩ = some (.slice A n c)) (hl : sh.length = n) (hr : Ns w A sh) (hn : n ≤ 1000000000)
    (hl2 : l.length = n2) (hr2 : Ns w A2 l) (hn2 : n2 ≤ 1000000000) (hx : ∀ x ∈ l, x < n ∧ 0 < sh.getD x 0) :
    Calls Tryz.prog 113 #[.slice A2 n2 c2, .func (.func 86) #[] #[.pointer (some ⟨Bs, 0, none⟩)]] w fun e w' => e = .returned (.int .i64 (-1)) ∧ w' = w := by
  have HS := Lib.hid (fun x (h : x ∈ l) => fseStrange Bs A n c sh x w hB hl hr hn (hx x h).1 (hx x h).2)
  have HR2 := Lib.hid hr2
  have HL2 := Lib.hid hl2
  clear hB hl hr hl2 hr2 hx
  go_enter Tryz.func113, Tryz.ntmps113
  go_wp2_with fail
  go_loopg [8] n2 (fun gg s8 wr => ∃ k : Nat, k ≤ n2 ∧ n2 - k ≤ gg ∧ s8 = .int .i64 (k : Int) ∧ w = wr)
  case atStart => exact ⟨0, by omega, by omega, rfl, rfl⟩
  case round =>
    obtain ⟨k, hk, hgg, rfl, rfl⟩ := hrel
    by_cases hkn : k < n2
    · obtain ⟨b, o, x, hA, hx, hc⟩ := HR2.out.at_ (by rw [HL2.out]; exact hkn : k < l.length)
      subst hA
      have HX := Lib.hid (HS.out x (List.mem_of_getElem? hx))
      clear hx
      go_wp2_with fail
      refine HX.out.mono ?_
      rintro e w1 ⟨rfl, rfl⟩
      go_wp2
      go_roundg (n2 - (k + 1))
      case measure => omega
      case rel => exact ⟨k + 1, by omega, by omega, by go_num, rfl⟩
    · go_wp2
      go_ret
      exact ⟨rfl, rfl⟩

theorem fseContains (Bs : Nat) (A : Option Addr) (n c : Nat) (sh : List Nat) (A2 : Option Addr) (n2 c2 : Nat) (l : List Nat) (w : World) (hB : w.cell? ⟨Bs, 0, none⟩ = some (.slice A n c)) (hl : sh.length = n) (hr : Ns w A sh) (hn : n ≤ 1000000000)
    (hl2 : l.length = n2) (hr2 : Ns w A2 l) (hn2 : n2 ≤ 1000000000) (hx : ∀ x ∈ l, x < n ∧ 0 < sh.getD x 0) :
    Calls Tryz.prog 85 #[.slice A2 n2 c2, .func (.func 86) #[] #[.pointer (some ⟨Bs, 0, none⟩)]] w fun e w' => e = .returned (.bool false) ∧ w' = w := by
  have HI := Lib.hid (fseIndexFunc Bs A n c sh A2 n2 c2 l w hB hl hr hn hl2 hr2 hn2 hx)
  clear hB hl hr hl2 hr2 hx
  go_enter Tryz.func85, Tryz.ntmps85
  go_wp2_with fail
  refine HI.out.mono ?_
  rintro e w1 ⟨rfl, rfl⟩
  go_wp2
  go_ret
  exact ⟨rfl, rfl⟩
end Go.Proofs.YtkneigeejgblkaaGreat

/-
  The library's iterator slices.Backward at numbers: its contract.
-/
namespace Go.Proofs.YtkneigeejgblkaaGreat
open Go.RowKit Go.Shelf

attribute [local go_sem] Oper.semAt_some

/-- what has come when k rounds are over -/
def upto {α : Type} (f : Nat → α) (k : Nat) : List α := (List.range k).map f
theorem upto_succ {α : Type} (f : Nat → α) (k : Nat) : upto f (k + 1) = upto f k ++ [f k] := by simp [upto, List.range_succ]
theorem upto_length {α : Type} (f : Nat → α) (k : Nat) : (upto f k).length = k := by simp [upto]

/-- from the last on: the place and the number -/
def backAt (zs : List Nat) (j : Nat) : Nat × Nat := (zs.length - 1 - j, zs.getD (zs.length - 1 - j) 0)

/-- what a round keeps: what lay below, and one block more -/
structure KB (n₀ Bs : Nat) (W W' : World) : Prop where
  below : Below n₀ W W'
  box : Bs < W.heap.size → W'.heap[Bs]? = W.heap[Bs]?

theorem KB.refl (n₀ Bs : Nat) (W : World) : KB n₀ Bs W W := ⟨Below.refl _ _, fun _ => rfl⟩
theorem KB.trans {n₀ Bs : Nat} {A B C : World} (h : KB n₀ Bs A B) (k : KB n₀ Bs B C) : KB n₀ Bs A C :=
  ⟨h.below.trans k.below, fun hb => (k.box (Nat.lt_of_lt_of_le hb h.below.size)).trans (h.box hb)⟩
theorem KB.put {n₀ Bs : Nat} {w : World} (hn : n₀ ≤ w.heap.size) (hB : Bs < w.heap.size) (W : World) (l : Nat) (o o' : Obj) (hl : w.heap.size ≤ l) (h : W.heap[l]? = some o) (h1 : o.isCells = false) (h2 : o.isWalk = false) : KB n₀ Bs W (W.putObj l o') :=
  ⟨belowK_b hn W l o o' hl h h1 h2, fun _ => World.putObj_heap_other (by omega)⟩
theorem KB.cell {n₀ Bs : Nat} {W W' : World} (h : KB n₀ Bs W W') {v : Value} (hc : W.cell? ⟨Bs, 0, none⟩ = some v) : W'.cell? ⟨Bs, 0, none⟩ = some v := by
  have hlt := block_lt hc
  rw [← hc]
  unfold World.cell?
  rw [h.box hlt]

set_option maxRecDepth 100000 in
set_option maxHeartbeats 2000000 in
theorem backward1_in {α : Type} (e1 e2 : α → Nat) (xs : List α) (F : Fence) (n : Nat) (h8 : F.fn 115) (hro : F.round = none) (hn : 1 ≤ n) (l Bs n₀ b off cap len : Nat) (zs : List Nat) (hlen : zs.length = len) (hxs : xs.length = len) (hxe : ∀ (j : Nat) (h : j < xs.length), e1 xs[j] = len - 1 - j ∧ e2 xs[j] = zs.getD (len - 1 - j) 0) (hreach : len ≤ 1000000000) (hb : b < n₀) (J Jx : List α → World → Prop)
    (hY : ∀ pre x W, J pre W → pre.length < len → YieldAt F (n - 1) Tryz.prog l #[.int .i64 (e1 x : Int), .int .i64 (e2 x : Int)] W fun e W' =>
      (e = .returned (.bool true) ∧ J (pre ++ [x]) W' ∧ KB n₀ Bs W W') ∨ (e = .returned (.bool false) ∧ Jx (pre ++ [x]) W'))
    (W : World) (hBs : W.cell? ⟨Bs, 0, none⟩ = some (.slice (some ⟨b, off, none⟩) len cap)) (hc : ∀ j, j < len → W.cell? ⟨b, off + j, none⟩ = some (.int .i64 ((zs.getD j 0 : Nat) : Int))) (h0 : J [] W) :
    CallsIn F n Tryz.prog 115 #[.func (.yield l) #[] #[], .pointer (some ⟨Bs, 0, none⟩)] W fun e W' => (∃ v, e = .returned v) ∧
      ((∃ ys, ys = xs ∧ J ys W') ∨ (∃ pre, (∃ k, k ≤ len ∧ pre = xs.take k) ∧ Jx pre W')) := by
  have HL := Lib.hid hlen
  have HC := Lib.hid hc
  have HXS := Lib.hid hxs
  have HXE := Lib.hid hxe
  clear hlen hc hxs hxe
  refine callsIn_of_wp Tryz.func115 rfl h8 ?_ hro
  simp only [Tryz.ntmps115, List.size_toArray, List.length_cons, List.length_nil, Nat.reduceAdd, Nat.reduceSub, Array.replicate_succ, Array.replicate_zero, List.push_toArray, List.append_toArray, List.nil_append, List.cons_append]
  have e0 : IntKind.i64.wrap ((len : Int) - 1) = (len : Int) - 1 := wrapi64 (by omega) (by omega)
  gi_wp2
  gi_loopw [3] (fun i wr => ∃ m : Nat, m ≤ len ∧ i = .int .i64 ((m : Int) - 1) ∧ J (xs.take (len - m)) wr ∧ KB n₀ Bs W wr)
    (fun i _ => (intOf i + 1).toNat)
  case atStart => exact ⟨len, Nat.le_refl _, by go_num, by rw [Nat.sub_self, List.take_zero]; exact h0, KB.refl _ _ _⟩
  case round =>
    obtain ⟨m, hm, rfl, hJs, hnx⟩ := hrel
    have hbs := hnx.cell hBs
    cases m with
    | zero =>
      gi_wp2
      go_end0
      exact ⟨⟨_, rfl⟩, .inl ⟨_, List.take_of_length_le (by rw [HXS.out]; omega), hJs⟩⟩
    | succ p =>
      have ep : ((p + 1 : Nat) : Int) - 1 = (p : Int) := by omega
      rw [ep]
      have hcx := (hnx.below.cell (p := ⟨b, off + p, none⟩) hb).trans (HC.out p (by omega))
      obtain ⟨z, hz⟩ : ∃ z, zs.getD p 0 = z := ⟨_, rfl⟩
      rw [hz] at hcx
      have hjx : len - (p + 1) < xs.length := by rw [HXS.out]; omega
      obtain ⟨x, hx⟩ : ∃ x, xs[len - (p + 1)]'hjx = x := ⟨_, rfl⟩
      have hxe := HXE.out (len - (p + 1)) hjx
      rw [hx, show len - 1 - (len - (p + 1)) = p by omega, hz] at hxe
      have hup : xs.take (len - p) = xs.take (len - (p + 1)) ++ [x] := by
        rw [show len - p = len - (p + 1) + 1 by omega, List.take_add_one, List.getElem?_eq_getElem hjx, hx]; rfl
      have HUp := Lib.hid hup
      clear hz hx hup
      obtain ⟨fn, tmps, assign, body, hy, hR⟩ := hY _ x wr hJs (by rw [List.length_take, HXS.out]; omega)
      rw [hxe.1, hxe.2] at hy
      gi_wp2
      refine hR.mono ?_
      rintro e W3 (⟨rfl, hJ3, hk3⟩ | ⟨rfl, hJx3⟩)
      · gi_wp2
        go_roundw
        case rel => exact ⟨p, by omega, by go_num, by rw [HUp.out]; exact hJ3, hnx.trans hk3⟩
        case measure => simp only [intOf]; omega
      · gi_wp2
        refine bodyPost_ret (results_none rfl _ _ _) rfl ?_
        exact ⟨⟨_, rfl⟩, .inr ⟨_, ⟨len - p, by omega, HUp.out.symm⟩, hJx3⟩⟩

set_option maxRecDepth 100000 in
set_option maxHeartbeats 1000000 in
theorem backward1_nil_in (F : Fence) (n : Nat) (h8 : F.fn 115) (hro : F.round = none) (l Bs cap : Nat) (a : Option Addr) {α : Type} (J : List α → World → Prop) (W : World) (hBs : W.cell? ⟨Bs, 0, none⟩ = some (.slice a 0 cap)) (h0 : J [] W) :
    CallsIn F n Tryz.prog 115 #[.func (.yield l) #[] #[], .pointer (some ⟨Bs, 0, none⟩)] W fun e W' => (∃ v, e = .returned v) ∧ J [] W' := by
  refine callsIn_of_wp Tryz.func115 rfl h8 ?_ hro
  simp only [Tryz.ntmps115, List.size_toArray, List.length_cons, List.length_nil, Nat.reduceAdd, Nat.reduceSub, Array.replicate_succ, Array.replicate_zero, List.push_toArray, List.append_toArray, List.nil_append, List.cons_append]
  gi_wp2
  gi_loopw [3] (fun i wr => i = .int .i64 (-1) ∧ J [] wr) (fun _ _ => 0)
  case atStart => exact ⟨rfl, h0⟩
  case round =>
    obtain ⟨rfl, hJs⟩ := hrel
    gi_wp2
    go_end0
    exact ⟨⟨_, rfl⟩, hJs⟩

set_option maxHeartbeats 1000000 in
theorem backward_in (F : Fence) (n : Nat) (h5 : F.fn 88) (hro : F.round = none) (a : Option Addr) (len cap : Nat) (w : World) :
    CallsIn F n Tryz.prog 88 #[.slice a len cap] w fun e w' => e = .returned (.func (.func 115) #[] #[.pointer (some ⟨w.heap.size, 0, none⟩)]) ∧ w' = w.alloc (.cells #[.slice a len cap] 57) := by
  refine callsIn_of_wp Tryz.func88 rfl h5 ?_ hro
  simp only [Tryz.ntmps88, List.size_toArray, List.length_cons, List.length_nil, Nat.reduceAdd, Nat.reduceSub, Array.replicate_succ, Array.replicate_zero, List.push_toArray, List.append_toArray, List.nil_append, List.cons_append]
  gi_wp2
  go_ret
  exact ⟨rfl, rfl⟩

theorem backward_stops {α : Type} (e1 e2 : α → Nat) (xs : List α) (F : Fence) (n : Nat) (h8 : F.fn 115) (hro : F.round = none) (hn : 1 ≤ n) (Bs n₀ cap : Nat) (a : Option Addr) (zs : List Nat) (hxs : xs.length = zs.length) (hxe : ∀ (j : Nat) (h : j < xs.length), e1 xs[j] = zs.length - 1 - j ∧ e2 xs[j] = zs.getD (zs.length - 1 - j) 0) (hreach : zs.length ≤ 1000000000) (w : World) (hn₀ : n₀ ≤ w.heap.size)
    (hc : w.cell? ⟨Bs, 0, none⟩ = some (.slice a zs.length cap)) (hI : Ns w a zs) (hlow : 0 < zs.length → ∀ b, bk a = some b → b < n₀) :
    SeqStopsK F n Tryz.prog 115 #[.pointer (some ⟨Bs, 0, none⟩)] (fun x : α => #[Value.int .i64 (e1 x : Int), Value.int .i64 (e2 x : Int)]) (KB n₀ Bs) (fun ys => ys = xs)
      (fun pre => ∃ k, k ≤ zs.length ∧ pre = xs.take k) zs.length w := fun l J Jx W hW _ _ hY h0 => by
  have hc' := (hW.cell (p := ⟨Bs, 0, none⟩) (block_lt hc)).trans hc
  by_cases h : zs.length = 0
  · rw [h] at hc'
    have hnil : xs = [] := List.length_eq_zero_iff.1 (hxs.trans h)
    exact (backward1_nil_in F n h8 hro l Bs cap a J W hc' h0).mono fun e W' ⟨he, hj⟩ => ⟨he, .inl ⟨_, hnil.symm, hj⟩⟩
  · obtain ⟨b, o, rfl, hcs⟩ := hI (by simp; omega)
    have hb : b < n₀ := hlow (by omega) b rfl
    refine backward1_in e1 e2 xs F n h8 hro hn l Bs n₀ b o cap zs.length zs rfl hxs hxe hreach hb J Jx hY W hc' (fun j hj => ?_) h0
    rw [(hW.cell (p := ⟨b, o + j, none⟩) (Nat.lt_of_lt_of_le hb hn₀)), hcs j (by simpa using hj), List.getElem?_map, List.getElem?_eq_getElem hj]
    simp [List.getD, List.getElem?_eq_getElem hj, natv]
end Go.Proofs.YtkneigeejgblkaaGreat

/-
  Plain words for fse.Encode: a writer's puts, a symbol's places, the state.
-/
namespace Go.Proofs.YtkneigeejgblkaaGreat
open Go.RowKit

/-- what a writer holds: whole bytes, bits behind them, how many -/
abbrev WSt := List UInt8 × Nat × Nat
def putS (S : WSt) (k v : Nat) : WSt := flushW 5 S.1 (S.2.1 + v * 2 ^ S.2.2) (S.2.2 + k)
def wOk (S : WSt) : Prop := S.2.2 < 8 ∧ S.2.1 < 2 ^ S.2.2
def wLen (S : WSt) : Nat := 8 * S.1.length + S.2.2

theorem putS_facts {S : WSt} {k v : Nat} (h : wOk S) (hk : k ≤ 32) (hv : v < 2 ^ k) : wOk (putS S k v) ∧ wLen (putS S k v) = wLen S + k := by
  obtain ⟨h1, h2, h3⟩ := flushW_facts 5 S.1 (S.2.1 + v * 2 ^ S.2.2) (S.2.2 + k) (put_sum h.2 hv) (by have := h.1; omega)
  refine ⟨⟨h1, h2⟩, ?_⟩
  unfold wLen putS
  rw [h3]; omega

theorem toL_filter (l : List Nat) (s : Nat) : ∀ p, toL l p s = (List.range p).filter (fun q => decide (symOf l q = s))
  | 0 => rfl
  | p + 1 => by
    rw [toL, List.range_succ, List.filter_append, ← toL_filter l s p]
    by_cases h : symOf l p = s
    · simp [h]
    · simp [h]

theorem count_symL : ∀ (l : List Nat) (o s : Nat), ((symL l o).filter (fun x => decide (x = o + s))).length = l.getD s 0
  | [], o, s => by simp [symL]
  | n :: r, o, s => by
    rw [symL, List.filter_append, List.length_append]
    cases s with
    | zero =>
      have h1 : (List.replicate n o).filter (fun x => decide (x = o + 0)) = List.replicate n o := by
        rw [List.filter_eq_self]
        intro x hx
        have := (List.mem_replicate.1 hx).2
        simp [this]
      have h2 : (symL r (o + 1)).filter (fun x => decide (x = o + 0)) = [] := by
        rw [List.filter_eq_nil_iff]
        intro x hx
        have := (symL_mem r (o + 1) x hx).1
        simp only [decide_eq_true_eq]
        omega
      rw [h1, h2]; simp
    | succ s =>
      have h1 : (List.replicate n o).filter (fun x => decide (x = o + (s + 1))) = [] := by
        rw [List.filter_eq_nil_iff]
        intro x hx
        have := (List.mem_replicate.1 hx).2
        simp only [decide_eq_true_eq]
        omega
      have h2 := count_symL r (o + 1) s
      rw [show o + 1 + s = o + (s + 1) by omega] at h2
      rw [h1, h2]; simp

theorem perm64 : ((List.range 64).map (fun q => 3 * q % 64)).Perm (List.range 64) := by decide +kernel

theorem range_getD (l : List Nat) (h : l.length = 64) : (List.range 64).map (fun j => l.getD j 0) = l := by
  apply List.ext_getElem
  · simp [h]
  · intro i h1 h2
    simp [List.getD, h2]

/-- a symbol has as many places as its share says -/
theorem toL_full {l : List Nat} (h : sumL l = 64) (s : Nat) : (toL l 64 s).length = l.getD s 0 := by
  have hl : (symL l 0).length = 64 := by rw [symL_len, h]
  have h1 : (List.range 64).map (symOf l) = ((List.range 64).map (fun q => 3 * q % 64)).map (fun j => (symL l 0).getD j 0) := by
    rw [List.map_map]; rfl
  have h2 : ((List.range 64).map (symOf l)).Perm (symL l 0) := by
    rw [h1]
    have := perm64.map (fun j => (symL l 0).getD j 0)
    rw [range_getD _ hl] at this
    exact this
  have h3 := (h2.filter (fun x => decide (x = s))).length_eq
  rw [List.filter_map, List.length_map] at h3
  rw [toL_filter]
  have h4 := count_symL l 0 s
  rw [Nat.zero_add] at h4
  rw [← h4, ← h3]
  rfl

/-- how many bits a state gives off -/
def nbGo : Nat → Nat → Nat → Nat → Nat
  | 0, _, _, n => n
  | f + 1, st, q, n => if 2 * q ≤ st / 2 ^ n then nbGo f st q (n + 1) else n

theorem nbGo_facts {st q : Nat} (h1 : st < 128) (hq : 0 < q) : ∀ (f n : Nat), n + f = 7 → q ≤ st / 2 ^ n → q ≤ st / 2 ^ (nbGo f st q n) ∧ st / 2 ^ (nbGo f st q n) < 2 * q ∧ nbGo f st q n ≤ 6
  | 0, n, hn, h => by
    exfalso
    obtain rfl : n = 7 := by omega
    have : st / 2 ^ 7 = 0 := Nat.div_eq_of_lt h1
    omega
  | f + 1, n, hn, h => by
    rw [nbGo]
    by_cases hc : 2 * q ≤ st / 2 ^ n
    · rw [if_pos hc]
      refine nbGo_facts h1 hq f (n + 1) (by omega) ?_
      rw [Nat.pow_succ, ← Nat.div_div_eq_div_mul]
      omega
    · rw [if_neg hc]
      exact ⟨h, by omega, by omega⟩

def nbL (st q : Nat) : Nat := nbGo 7 st q 0

/-- a symbol is put: the state, the bits -/
def encStep (sh : List Nat) (X : Nat × WSt) (s : Nat) : Nat × WSt :=
  (64 + (toL sh 64 s).getD (X.1 / 2 ^ nbL X.1 (sh.getD s 0) - sh.getD s 0) 0, putS X.2 (nbL X.1 (sh.getD s 0)) (X.1 % 2 ^ nbL X.1 (sh.getD s 0)))

def encGo (sh : List Nat) (pre : List Nat) : Nat × WSt := pre.foldl (encStep sh) (64, ([], 0, 0))

theorem encGo_snoc (sh pre : List Nat) (x : Nat) : encGo sh (pre ++ [x]) = encStep sh (encGo sh pre) x := by simp [encGo]

structure EncOk (k : Nat) (X : Nat × WSt) : Prop where
  lo : 64 ≤ X.1
  hi : X.1 < 128
  ok : wOk X.2
  len : wLen X.2 ≤ 6 * k

theorem encStep_facts {sh : List Nat} {k s : Nat} {X : Nat × WSt} (h : EncOk k X) (hsum : sumL sh = 64) (h0 : 0 < sh.getD s 0) :
    EncOk (k + 1) (encStep sh X s) ∧ nbL X.1 (sh.getD s 0) ≤ 6 ∧ sh.getD s 0 ≤ X.1 / 2 ^ nbL X.1 (sh.getD s 0) ∧ X.1 / 2 ^ nbL X.1 (sh.getD s 0) - sh.getD s 0 < (toL sh 64 s).length ∧ X.1 / 2 ^ nbL X.1 (sh.getD s 0) < 2 * sh.getD s 0 := by
  have hq : sh.getD s 0 ≤ 64 := by
    rw [← hsum]
    by_cases hs : s < sh.length
    · exact le_sumL (by simp [List.getD, List.getElem?_eq_getElem hs])
    · simp [List.getD, List.getElem?_eq_none (Nat.le_of_not_lt hs)]
  obtain ⟨h1, h2, h3⟩ := nbGo_facts (st := X.1) (q := sh.getD s 0) h.hi h0 7 0 (by omega) (by have := h.lo; rw [Nat.pow_zero, Nat.div_one]; omega)
  have hlen := toL_full hsum s
  have hidx : X.1 / 2 ^ nbL X.1 (sh.getD s 0) - sh.getD s 0 < (toL sh 64 s).length := by
    rw [hlen]; unfold nbL; omega
  have hput := putS_facts (S := X.2) (k := nbL X.1 (sh.getD s 0)) (v := X.1 % 2 ^ nbL X.1 (sh.getD s 0)) h.ok (by unfold nbL; omega) (Nat.mod_lt _ (Nat.two_pow_pos _))
  refine ⟨⟨by simp only [encStep]; omega, ?_, hput.1, ?_⟩, h3, h1, hidx, h2⟩
  · simp only [encStep]
    have := toL_lt sh s 64 ((toL sh 64 s).getD (X.1 / 2 ^ nbL X.1 (sh.getD s 0) - sh.getD s 0) 0) (getD_mem' hidx)
    omega
  · simp only [encStep]
    rw [hput.2]
    have := h.len
    unfold nbL
    omega

/-- symbols as bytes -/
def encodeL (sh l : List Nat) : List UInt8 :=
  markedW (putS (encGo sh l.reverse).2 6 ((encGo sh l.reverse).1 - 64)).1 (putS (encGo sh l.reverse).2 6 ((encGo sh l.reverse).1 - 64)).2.1 (putS (encGo sh l.reverse).2 6 ((encGo sh l.reverse).1 - 64)).2.2

theorem upto_back (l : List Nat) : (upto (backAt l) l.length).map (·.2) = l.reverse := by
  apply List.ext_getElem
  · simp [upto]
  · intro i h1 h2
    simp at h2
    simp [upto, backAt, List.getElem_reverse, List.getD, List.getElem?_eq_getElem (show l.length - 1 - i < l.length by omega)]

/-- a place and a symbol of a share -/
abbrev SymAt (sh : List Nat) := { x : Nat × Nat // x.2 < sh.length ∧ 0 < sh.getD x.2 0 }

/-- what comes from a list of symbols, from the last on -/
theorem sym_rows (sh l : List Nat) (h : ∀ x ∈ l, x < sh.length ∧ 0 < sh.getD x 0) : ∃ xs : List (SymAt sh), xs.length = l.length ∧ (∀ (j : Nat) (hj : j < xs.length), xs[j].1.1 = l.length - 1 - j ∧ xs[j].1.2 = l.getD (l.length - 1 - j) 0) ∧ xs.map (·.1.2) = l.reverse := by
  have hall : ∀ y ∈ upto (backAt l) l.length, y.2 < sh.length ∧ 0 < sh.getD y.2 0 := by
    intro y hy
    simp only [upto, List.mem_map, List.mem_range] at hy
    obtain ⟨j, hj, rfl⟩ := hy
    exact h _ (getD_mem' (by omega))
  refine ⟨(upto (backAt l) l.length).pmap (fun y hy => ⟨y, hy⟩) hall, by simp [upto], fun j hj => ?_, ?_⟩
  · simp only [List.getElem_pmap]
    simp [upto, backAt]
  · rw [List.map_pmap, ← upto_back l]
    exact List.pmap_eq_map ..

theorem Two.blk {g k : Nat} {t : TypeId} {A : Option Addr} {w W : World} {cs : Array Value} (h : Two g A w W) (hb : Blk w k t cs) (h1 : k ≠ g) (h2 : bk A ≠ some k) : Blk W k t cs := (h.block k hb.lt h1 h2).trans hb
theorem Two.cells {g k n : Nat} {t : TypeId} {A : Option Addr} {w W : World} {F : Nat → Value} (h : Two g A w W) (hb : Cells w k t n F) (h1 : k ≠ g) (h2 : bk A ≠ some k) : Cells W k t n F := by
  obtain ⟨cs, hb1, hb2⟩ := hb
  exact ⟨cs, h.blk hb1 h1 h2, hb2⟩
theorem Two.own {g : Nat} {Aa : Option Addr} {w W : World} {base n c : Nat} {e : TypeId} {A : Option Addr} {xs : List Value} (ht : Two g Aa w W) (h : Own w base e A n c xs) (h1 : bk A ≠ some g) (h2 : bk A = none ∨ bk A ≠ bk Aa) : Own W base e A n c xs := by
  refine ⟨h.1, ?_⟩
  rcases h.2 with h3 | ⟨b, cap, cur, hv, h3, h4, h5⟩
  · exact .inl h3
  · refine .inr ⟨b, cap, cur, hv, h3, ?_, h5⟩
    simp only [Value.slice.injEq] at hv
    have hb : bk A = some b := by rw [hv.1]; rfl
    rw [ht.block b (Array.getElem?_eq_some_iff.1 h4).1 (fun e => h1 (by rw [hb, e])) (fun e => by
      rcases h2 with h2 | h2
      · rw [hb] at h2; cases h2
      · exact h2 (by rw [hb, e]))]
    exact h4
/-- the block of a row holds cells -/
theorem Own.isCells {w : World} {base n c k : Nat} {e : TypeId} {A : Option Addr} {xs : List Value} (h : Own w base e A n c xs) (hk : bk A = some k) : ∃ o : Obj, w.heap[k]? = some o ∧ o.isCells = true := by
  rcases h.2 with ⟨hv, -⟩ | ⟨b, cap, cur, hv, -, h4, -⟩
  · simp only [Value.slice.injEq] at hv
    rw [hv.1] at hk; cases hk
  · simp only [Value.slice.injEq] at hv
    rw [hv.1] at hk
    cases hk
    exact ⟨_, h4, rfl⟩

theorem and_mask' : ∀ (m : Fin 7) (st : Fin 128), bits .and .i64 (st.val : Int) (wrap64 (wrap64 (2 ^ m.val) - 1)) = ((st.val % 2 ^ m.val : Nat) : Int) := by decide +kernel
theorem and_mask {m st : Nat} (hm : m ≤ 6) (hs : st < 128) : bits .and .i64 (st : Int) (wrap64 (wrap64 (2 ^ m) - 1)) = ((st % 2 ^ m : Nat) : Int) := and_mask' ⟨m, by omega⟩ ⟨st, hs⟩

theorem NewTo.ne {w : World} {A : Option Addr} {k : Nat} (h : NewTo w none A) (hk : k < w.heap.size) : bk A ≠ some k := by
  intro e
  rcases h with h | ⟨j, h1, h2⟩
  · rw [e] at h; simp [bk] at h
  · rw [e] at h1; injection h1 with h1; omega
theorem NewTo.trans' {w W : World} {A A' : Option Addr} (h : NewTo w none A) (hs : w.heap.size ≤ W.heap.size) (h2 : NewTo W A A') : NewTo w none A' := by
  rcases h2 with h2 | ⟨k, h2, h3⟩
  · rcases h with h | ⟨k, h, h3⟩
    · exact .inl (h2.trans h)
    · exact .inr ⟨k, h2.trans h, h3⟩
  · exact .inr ⟨k, h2, Nat.le_trans hs h3⟩
theorem Two.newTo {g : Nat} {A Aw : Option Addr} {w W W' : World} (h : Two g A w W) (hn : NewTo w none Aw) (k : Two g Aw W W') : Two g A w W' :=
  ⟨k.os.trans h.os, k.tape.trans h.tape, k.output.trans h.output, Nat.le_trans h.size k.size, fun i hi h1 h2 => (k.block i (Nat.lt_of_lt_of_le hi h.size) h1 (hn.ne hi)).trans (h.block i hi h1 h2)⟩

/-- what holds between two rounds of fse.Encode -/
structure EncI (w w7 : World) (p q k : Nat) (X : Nat × WSt) (W : World) : Prop where
  wr : ∃ Aw cw, IsWr W (q + 1) (q + 1) X.2.1 X.2.2.1 X.2.2.2 Aw cw ∧ NewTo w7 none Aw
  ok : EncOk k X
  box : Blk W (p + 1) 3 #[.int .i64 (X.1 : Int)]
  two : Two (q + 1) (some ⟨p + 1, 0, none⟩) w7 W
  below : Below w.heap.size w W

theorem EncI.later {w w7 W W' : World} {p q k : Nat} {X : Nat × WSt} (h : EncI w w7 p q k X W) (hb : Below W.heap.size W W') : EncI w w7 p q k X W' := by
  obtain ⟨Aw, cw, hw, hnt⟩ := h.wr
  exact ⟨⟨Aw, cw, hw.later hb, hnt⟩, h.ok, h.box.later hb, h.two.trans (.of_below hb), h.below.trans (hb.mono h.below.size)⟩

theorem EncI.kept {w w7 W W' : World} {p q k : Nat} {X : Nat × WSt} {row : Option Nat} (h : EncI w w7 p q k X W) (h7 : w.heap.size ≤ w7.heap.size) (hg : W.grownBy W' row) (hr : ∀ r, row = some r → w7.heap.size ≤ r ∧ ∃ o : Obj, W.heap[r]? = some o ∧ o.isCells = false) : EncI w w7 p q k X W' := by
  have hno : ∀ k t cs, Blk W k t cs → row ≠ some k := by
    intro k t cs hb e
    obtain ⟨-, o, ho, hc⟩ := hr k e
    unfold Blk at hb
    rw [hb] at ho
    cases ho
    cases hc
  obtain ⟨Aw, cw, hw, hnt⟩ := h.wr
  refine ⟨⟨Aw, cw, ⟨hw.blk.kept hg (hno _ _ _ hw.blk), Own.kept hw.own hg ?_, hw.base, Nat.le_trans hw.size hg.size⟩, hnt⟩, h.ok, h.box.kept hg (hno _ _ _ h.box), h.two.grown hg (fun k e hk => by have := (hr k e).1; omega), h.below.grown hg (Nat.le_trans h7 h.two.size) (fun k e => by have := (hr k e).1; omega)⟩
  cases hA : bk Aw with
  | none => exact .inl rfl
  | some b =>
    right
    intro e
    obtain ⟨o, ho, hc⟩ := Own.isCells hw.own hA
    obtain ⟨-, o', ho', hc'⟩ := hr b e.symm
    rw [ho] at ho'
    cases ho'
    rw [hc] at hc'
    cases hc'
end Go.Proofs.YtkneigeejgblkaaGreat

/-
  Walks of package match: steps are done.
-/
namespace Go.Proofs.YtkneigeejgblkaaGreat
open Go.RowKit

/-- bytes are taken again from so far behind -/
def copyL (d : Nat) : Nat → List UInt8 → List UInt8
  | 0, out => out
  | n + 1, out => copyL d n (out ++ [out.getD (out.length - d) 0])

theorem copyL_len (d : Nat) : ∀ (n : Nat) (out : List UInt8), (copyL d n out).length = out.length + n
  | 0, _ => rfl
  | n + 1, out => by rw [copyL, copyL_len d n]; simp; omega

theorem copyL_succ (d : Nat) : ∀ (n : Nat) (out : List UInt8), copyL d (n + 1) out = copyL d n out ++ [(copyL d n out).getD ((copyL d n out).length - d) 0]
  | 0, _ => rfl
  | n + 1, out => by rw [copyL, copyL_succ d n]; rfl

def runBad (x : Sq) (have_ left most : Nat) : Bool :=
  decide (left < x.lits) || ((decide (0 < x.len) && (decide (x.dist < 1) || decide (have_ < x.dist))) || (decide (x.len = 0) && decide (x.dist ≠ 0))) || (decide (most < have_) || decide (most - have_ < x.len))

/-- steps are done -/
def runGo (most : Nat) : List Sq → List UInt8 → List UInt8 → Option (List UInt8 × List UInt8)
  | [], out, rest => some (out, rest)
  | x :: r, out, rest => if runBad x (out.length + x.lits) rest.length most then none else runGo most r (copyL x.dist x.len (out ++ rest.take x.lits)) (rest.drop x.lits)

def runEnd (most : Nat) : Option (List UInt8 × List UInt8) → Option (List UInt8)
  | none => none
  | some (out, rest) => if most - out.length < rest.length then none else some (out ++ rest)

def runL (lits : List UInt8) (l : List Sq) (most : Nat) : Option (List UInt8) := runEnd most (runGo most l [] lits)

theorem runGo_step {most k : Nat} {l : List Sq} {x : Sq} (h : l[k]? = some x) (out rest : List UInt8) :
    runGo most (l.drop k) out rest = if runBad x (out.length + x.lits) rest.length most then none else runGo most (l.drop (k + 1)) (copyL x.dist x.len (out ++ rest.take x.lits)) (rest.drop x.lits) := by
  have hk : k < l.length := by
    rcases Nat.lt_or_ge k l.length with h' | h'
    · exact h'
    · rw [List.getElem?_eq_none h'] at h; cases h
  rw [List.drop_eq_getElem_cons hk, runGo]
  rw [List.getElem?_eq_getElem hk] at h
  injection h with h
  rw [h]

theorem OwnB.at_back {w : World} {base n c d : Nat} {A : Option Addr} {l : List UInt8} (h : OwnB w base A n c l) (hd1 : 1 ≤ d) (hd : d ≤ n) :
    ∃ g, A = some ⟨g, 0, none⟩ ∧ w.cell? ⟨g, n - d, none⟩ = some (.int .u8 ((l.getD (l.length - d) 0).toNat : Int)) := by
  have hlen := OwnB.length h
  obtain ⟨g, v, hA, -, -, hv, hc, -⟩ := Own.at_ h (k := n - d) (by omega)
  refine ⟨g, hA, ?_⟩
  rw [hc]
  rw [List.getElem?_map, List.getElem?_eq_getElem (by omega)] at hv
  rw [hlen]
  simp only [List.getD, List.getElem?_eq_getElem (show n - d < l.length by omega), Option.getD_some]
  simpa [u8v] using hv.symm

set_option maxHeartbeats 8000000 in
set_option maxRecDepth 10000 in
theorem matchRun (A : Option Addr) (n c : Nat) (lits : List UInt8) (A2 : Option Addr) (n2 c2 : Nat) (l : List Sq) (most : Nat) (w : World) (hl : lits.length = n) (hr : Bs w A lits) (hn : n ≤ 140737488351232) (hc : n ≤ c) (hc2 : c ≤ 9223372036854775807)
    (hl2 : l.length = n2) (hr2 : Ss w A2 l) (hn2 : n2 ≤ 140737488351232) (hb : ∀ x ∈ l, x.lits ≤ 140737488351232 ∧ x.len ≤ 140737488351232 ∧ x.dist ≤ 140737488351232) (hm : most ≤ 65536) :
    Calls Tryz.prog 32 #[.slice A n c, .slice A2 n2 c2, .int .i64 (most : Int)] w (decPost (runL lits l most) w) := by
  have HR2 := Lib.hid hr2
  have HL2 := Lib.hid hl2
  have HB := Lib.hid hb
  have HR0 := Lib.hid hr
  have HL0 := Lib.hid hl
  clear hr2 hl2 hb hr hl
  go_enter Tryz.func32, Tryz.ntmps32
  go_wp2
  go_loopg [8, 9, 22] n2 (fun gg s8 s9 s22 wr => ∃ (k no co nr cr : Nat) (Ao Ar : Option Addr) (out rest : List UInt8), k ≤ n2 ∧ n2 - k ≤ gg ∧ s8 = .slice Ao no co ∧ s9 = .slice Ar nr cr ∧ s22 = .int .i64 (k : Int) ∧ OwnB wr w.heap.size Ao no co out ∧ no ≤ most ∧
    Bs w Ar rest ∧ rest.length = nr ∧ nr ≤ n ∧ nr ≤ cr ∧ cr ≤ 9223372036854775807 ∧ runL lits l most = runEnd most (runGo most (l.drop k) out rest) ∧ Below w.heap.size w wr)
  case atStart => exact ⟨0, 0, 0, n, c, none, A, [], lits, by omega, by omega, rfl, rfl, rfl, OwnB.nil _ _, by omega, HR0.out, HL0.out, by omega, hc, hc2, rfl, Below.refl _ _⟩
  case round =>
    obtain ⟨k, no, co, nr, cr, Ao, Ar, out, rest, hk, hgg, rfl, rfl, rfl, hown, hno, hrr, hrl, hnr, hcr, hcr2, hrun, hbel⟩ := hrel
    have HO := Lib.hid hown
    have HR := Lib.hid hrr
    have HL := Lib.hid hrl
    have HRun := Lib.hid hrun
    have HBel := Lib.hid hbel
    have HOl := Lib.hid (OwnB.length hown)
    clear hown hrr hrl hrun hbel
    by_cases hkn : k < n2
    · obtain ⟨b, o, x, hA, hx, c0, c1, c2⟩ := (HR2.out.later HBel.out).at_ (by rw [HL2.out]; exact hkn : k < l.length)
      subst hA
      have hxb := HB.out x (List.mem_of_getElem? hx)
      have hstep := HRun.out.trans (congrArg _ (runGo_step hx out rest))
      rw [HOl.out, HL.out] at hstep
      have HStep := Lib.hid hstep
      obtain ⟨x1, x2, x3⟩ := x
      simp only at c0 c1 c2 hxb
      clear hstep hx
      have hP5 := Lib.hid (Blk.new wr 64 #[.int .i64 (x1 : Int), .int .i64 (x2 : Int), .int .i64 (x3 : Int)])
      have HBA := Lib.hid (HBel.out.alloc HBel.out.size (.cells #[.int .i64 (x1 : Int), .int .i64 (x2 : Int), .int .i64 (x3 : Int)] 64))
      have HOA := Lib.hid (Own.alloc HO.out (.cells #[.int .i64 (x1 : Int), .int .i64 (x2 : Int), .int .i64 (x3 : Int)] 64))
      have hcases : (runBad ⟨x1, x2, x3⟩ (no + x1) nr most = true ∧ (nr < x1 ∨ (x1 ≤ nr ∧ 0 < x2 ∧ x3 < 1) ∨ (x1 ≤ nr ∧ 0 < x2 ∧ 1 ≤ x3 ∧ no + x1 < x3) ∨ (x1 ≤ nr ∧ x2 = 0 ∧ x3 ≠ 0) ∨
          (x1 ≤ nr ∧ x2 = 0 ∧ x3 = 0 ∧ most < no + x1) ∨ (x1 ≤ nr ∧ 0 < x2 ∧ 1 ≤ x3 ∧ x3 ≤ no + x1 ∧ most < no + x1) ∨ (x1 ≤ nr ∧ 0 < x2 ∧ 1 ≤ x3 ∧ x3 ≤ no + x1 ∧ no + x1 ≤ most ∧ most - (no + x1) < x2))) ∨
          (runBad ⟨x1, x2, x3⟩ (no + x1) nr most = false ∧ x1 ≤ nr ∧ no + x1 + x2 ≤ most ∧ ((x2 = 0 ∧ x3 = 0) ∨ (0 < x2 ∧ 1 ≤ x3 ∧ x3 ≤ no + x1))) := by
        clear HStep c0 c1 c2 hP5 HBA HOA
        unfold runBad
        simp only [Bool.or_eq_true, Bool.and_eq_true, decide_eq_true_eq, Bool.or_eq_false_iff, Bool.and_eq_false_iff, decide_eq_false_iff_not]
        omega
      rcases hcases with ⟨hbad, hc7⟩ | ⟨hgood, hx1, hx2, hc2⟩
      · have HD := Lib.hid (HStep.out.trans (by rw [if_pos hbad]; rfl) : runL lits l most = none)
        clear hbad HStep hP5 HOA
        rcases hc7 with h | ⟨h, h1, h2⟩ | ⟨h, h1, h2, h3⟩ | ⟨h, rfl, h2⟩ | ⟨h, rfl, rfl, h3⟩ | ⟨h, h1, h2, h3, h4⟩ | ⟨h, h1, h2, h3, h4, h5⟩
        all_goals go_wp2
        all_goals go_ret2
        all_goals exact decPost_bad HD.out (by omega) HBA.out
      · have HD := Lib.hid (HStep.out.trans (by rw [if_neg (by rw [hgood]; simp)]))
        clear hgood HStep
        have HT := Lib.hid (Bs.take x1 HR.out)
        have HTl : (rest.take x1).length = x1 := by rw [List.length_take, HL.out]; omega
        have HTL := Lib.hid HTl
        have HC := Lib.hid (Bs.cut (c := cr) HR.out (n := x1) (by rw [HL.out]; exact hx1) (by rw [HL.out]; exact hcr))
        have HCl := Lib.hid (by rw [List.length_drop, HL.out] : (rest.drop x1).length = nr - x1)
        clear HTl
        generalize rest.take x1 = tk at *
        generalize hbase : out ++ tk = bs at *
        have HBase := Lib.hid hbase
        clear hbase
        have hc3 : ((x2 : Int) ≤ 0 ∧ ((x2 : Int) == 0) = true ∧ ((x3 : Int) != 0) = false) ∨ (0 < x2 ∧ 1 ≤ x3 ∧ x3 ≤ no + x1) := by
          rcases hc2 with ⟨rfl, rfl⟩ | h
          · exact .inl ⟨by omega, rfl, rfl⟩
          · exact .inr h
        have HC2 := Lib.hid hc2
        clear hc2
        rcases hc3 with ⟨hz2, hz3, hz4⟩ | ⟨hz2, hz3, hz4⟩
        all_goals
          go_wp2_with (first | (at_builtin; refine wpList_append_rd rfl _ _ elemB rfl w.heap.size Ao no co (out.map u8v) rfl HOA.out Ar x1 cr (tk.map u8v) rfl ?a1 ?a2 (u8_one _) ?a3 ?a4 ?a5 ?_) | (with_reducible refine wpList_slice_hi ?g ?s ?h elemB ?ho Ar nr cr x1 ?hs ?hh ?hk ?_; (case ho => exact rfl); (case g => exact rfl); (case hs => exact rfl); (case hh => exact rfl); (case hk => omega)))
          case a1 => exact HT.out.later HBA.out
          case a2 => exact HTL.out
          case a3 => omega
          case a4 => omega
          case a5 => have := HBel.out.size; omega
          intro A' c' w2 hown2 hb2 hgr2 hat2
          have HO2 := Lib.hid (by unfold OwnB; rw [← HBase.out, List.map_append]; exact hown2 : OwnB w2 w.heap.size A' (no + x1) c' bs)
          have HP2 := Lib.hid (hP5.out.kept hgr2 (Own.ne_blk HOA.out hP5.out (by decide)))
          have HB2 := Lib.hid (HBA.out.trans hb2)
          clear hown2 hb2 hgr2 hat2 HOA hP5 HBA c0 c1 c2
          generalize wr.heap.size = pb at *
          have p0 := HP2.out.cell 0
          have p1 := HP2.out.cell 1
          simp only [List.getElem?_toArray, List.getElem?_cons_zero, List.getElem?_cons_succ] at p0 p1
          go_wp2_with (with_reducible refine wpList_slice_lo ?g ?s ?h elemB ?ho Ar nr cr x1 ?hs ?hh ?hk ?_; (case ho => exact rfl); (case g => exact rfl); (case hs => simp [Act.eval]); (case hh => simp [Act.eval]); (case hk => omega))
          clear p0 p1
          go_loopg [8, 96] x2 (fun gg s8 s96 wi => ∃ (j co' : Nat) (Ao' : Option Addr), j ≤ x2 ∧ x2 - j ≤ gg ∧ s8 = .slice Ao' (no + x1 + j) co' ∧ s96 = .int .i64 (j : Int) ∧ OwnB wi w.heap.size Ao' (no + x1 + j) co' (copyL x3 j bs) ∧
            Blk wi pb 64 #[.int .i64 (x1 : Int), .int .i64 (x2 : Int), .int .i64 (x3 : Int)] ∧ Below w.heap.size w wi)
          case atStart => exact ⟨0, c', A', by omega, by omega, rfl, rfl, HO2.out, HP2.out, HB2.out⟩
          case round =>
            obtain ⟨j, co', Ao', hj, hgj, rfl, rfl, hown, hblk, hbel⟩ := hrel
            have HO3 := Lib.hid hown
            have HP3 := Lib.hid hblk
            have HB3 := Lib.hid hbel
            clear hown hblk hbel
            by_cases hjx : j < x2
            · first
              | (exfalso; omega)
              | skip
              all_goals
                have hz4' : x3 ≤ no + x1 := by omega
                have hz3' : 1 ≤ x3 := by omega
                have p2 := HP3.out.cell 2
                simp only [List.getElem?_toArray, List.getElem?_cons_zero, List.getElem?_cons_succ] at p2
                obtain ⟨gq, hA', hcv⟩ := OwnB.at_back HO3.out hz3' (by omega : x3 ≤ no + x1 + j)
                have HCS := Lib.hid (copyL_succ x3 j bs)
                generalize (copyL x3 j bs).getD ((copyL x3 j bs).length - x3) 0 = u at *
                subst hA'
                go_wp2_with (at_builtin; go_loud (refine wpList_append_one rfl _ _ elemB rfl w.heap.size (some ⟨gq, 0, none⟩) (no + x1 + j) co' ((copyL x3 j bs).map u8v) wr (.int .u8 (u.toNat : Int)) rfl ?hs HO3.out ?hh ?d0 ?d1 ?d2 ?d3 ?_; (case hs => simp [Act.eval]); (case hh => simp [Act.eval]); (case d0 => exact rfl)))
                case d1 => omega
                case d2 => omega
                case d3 => exact HB3.out.size
                intro A3 c3 w3 hown3 hb3 hgr3 hat3
                have HO4 := Lib.hid (by unfold OwnB; rw [HCS.out, List.map_append]; exact hown3 : OwnB w3 w.heap.size A3 (no + x1 + j + 1) c3 (copyL x3 (j + 1) bs))
                have HP4 := Lib.hid (HP3.out.kept hgr3 (Own.ne_blk HO3.out HP3.out (by decide)))
                have HB4 := Lib.hid (HB3.out.trans hb3)
                clear hown3 hb3 hgr3 hat3 p2
                go_wp2
                go_roundg (x2 - (j + 1))
                case measure => omega
                case rel => exact ⟨j + 1, c3, A3, by omega, by omega, rfl, by go_num, HO4.out, HP4.out, HB4.out⟩
            · obtain rfl : j = x2 := by omega
              go_wp2
              go_roundg (n2 - (k + 1))
              case measure => omega
              case rel => exact ⟨k + 1, no + x1 + j, co', nr - x1, cr - x1, Ao', cutA Ar cr x1, copyL x3 j bs, rest.drop x1, by omega, by omega, rfl, rfl, by go_num, HO3.out, by omega, HC.out, HCl.out, by omega, by omega, by omega, HD.out, HB3.out⟩
    · have hkk : k = n2 := by omega
      subst hkk
      have HD := Lib.hid (by rw [HRun.out, List.drop_of_length_le (by rw [HL2.out]; exact Nat.le_refl _), runGo, runEnd, HOl.out, HL.out] : runL lits l most = if most - no < nr then none else some (out ++ rest))
      by_cases hbad : most - no < nr
      · have HD2 := Lib.hid (HD.out.trans (if_pos hbad))
        have hbad' : (most : Int) - no < nr := by omega
        clear hbad HD
        go_wp2
        go_ret2
        exact decPost_bad HD2.out (by omega) HBel.out
      · have HD2 := Lib.hid (HD.out.trans (if_neg hbad))
        have hbad' : (nr : Int) ≤ (most : Int) - no := by omega
        clear hbad HD
        go_wp2_with (at_builtin; go_loud (refine wpList_append_rd rfl _ _ elemB rfl w.heap.size Ao no co (out.map u8v) ?hs HO.out Ar nr cr (rest.map u8v) ?hh ?a1 ?a2 (u8_one _) ?a3 ?a4 ?a5 ?_; (case hs => simp [Act.eval]); (case hh => simp [Act.eval])))
        case a1 => exact HR.out.later HBel.out
        case a2 => rw [List.length_map]; exact HL.out
        case a3 => omega
        case a4 => omega
        case a5 => exact HBel.out.size
        intro A' c' w2 hown2 hb2 hgr2 hat2
        have HO2 := Lib.hid (by unfold OwnB; rw [List.map_append]; exact hown2 : OwnB w2 w.heap.size A' (no + nr) c' (out ++ rest))
        have HB2 := Lib.hid (HBel.out.trans hb2)
        clear hown2 hb2 hgr2 hat2
        go_wp2
        go_ret2
        exact decPost_ok HD2.out (by rw [List.length_append, HOl.out, HL.out]) HO2.out HB2.out
end Go.Proofs.YtkneigeejgblkaaGreat

/-
  Walks of package match: a mark of four bytes; how many bytes are the same.
-/
namespace Go.Proofs.YtkneigeejgblkaaGreat
open Go.RowKit

/-- the number of four bytes -/
def fourL (l : List UInt8) (i : Nat) : Nat := (l.getD i 0).toNat + (l.getD (i + 1) 0).toNat * 256 + (l.getD (i + 2) 0).toNat * 65536 + (l.getD (i + 3) 0).toNat * 16777216
def markL (l : List UInt8) (i : Nat) : Nat := fourL l i * 2654435761 % 4294967296 / 1048576

theorem markL_lt (l : List UInt8) (i : Nat) : markL l i < 4096 := by unfold markL; omega

theorem u32_or_nat (a b : Nat) (ha : a < 4294967296) (hb : b < 4294967296) : bits .or .u32 (a : Int) (b : Int) = ((a ||| b : Nat) : Int) := by
  unfold bits
  show IntKind.u32.wrap ((BitVec.ofInt 32 (a : Int) ||| BitVec.ofInt 32 (b : Int)).toNat : Int) = _
  rw [BitVec.toNat_or, ofInt32 (by omega), ofInt32 (by omega)]
  exact wrapu32_nat (Nat.or_lt_two_pow (n := 32) ha hb)

theorem four_or {a b c d : Nat} (ha : a < 256) (hb : b < 256) (hc : c < 256) (hd : d < 256) :
    bits .or .u32 (bits .or .u32 (bits .or .u32 (a : Int) ((b : Int) * 256)) ((c : Int) * 65536)) ((d : Int) * 16777216) = ((a + b * 256 + c * 65536 + d * 16777216 : Nat) : Int) := by
  have w1 : (b : Int) * 256 = ((b * 256 : Nat) : Int) := by omega
  have w2 : (c : Int) * 65536 = ((c * 65536 : Nat) : Int) := by omega
  have w3 : (d : Int) * 16777216 = ((d * 16777216 : Nat) : Int) := by omega
  rw [w1, w2, w3, u32_or_nat _ _ (by omega) (by omega)]
  have e1 : a ||| b * 256 = a + b * 256 := or_add (v := a) (i := 8) (y := b) (by simpa using ha)
  rw [e1, u32_or_nat _ _ (by omega) (by omega)]
  have e2 : (a + b * 256) ||| c * 65536 = a + b * 256 + c * 65536 := or_add (v := a + b * 256) (i := 16) (y := c) (by simp; omega)
  rw [e2, u32_or_nat _ _ (by omega) (by omega)]
  have e3 : (a + b * 256 + c * 65536) ||| d * 16777216 = a + b * 256 + c * 65536 + d * 16777216 := or_add (v := a + b * 256 + c * 65536) (i := 24) (y := d) (by simp; omega)
  rw [e3]

set_option maxHeartbeats 2000000 in
set_option maxRecDepth 10000 in
theorem mMark (g : Nat) (A : Option Addr) (n c i : Nat) (l : List UInt8) (w : World) (hc0 : w.cell? ⟨g, 0, none⟩ = some (.slice A n c)) (hl : l.length = n) (hr : Bs w A l) (hn : n ≤ 1000000000) (hc : n ≤ c) (hi : i + 4 ≤ n) :
    Calls Tryz.prog 75 #[.pointer (some ⟨g, 0, none⟩), .int .i64 (i : Int)] w fun e w' => e = .returned (.int .i64 (markL l i : Nat)) ∧ ∃ q, w' = w.drewN q := by
  obtain ⟨b, o, rfl, hcell⟩ := hr (by simp; omega)
  have hx : ∀ k, k < 4 → w.cell? ⟨b, o + i + k, none⟩ = some (.int .u8 ((l.getD (i + k) 0).toNat : Int)) := by
    intro k hk
    have hlt : i + k < l.length := by omega
    rw [Nat.add_assoc, hcell (i + k) (by simpa using hlt), List.getElem?_map, List.getElem?_eq_getElem hlt]
    simp [List.getD, List.getElem?_eq_getElem hlt, u8v]
  have x0 := hx 0 (by omega)
  have x1 := hx 1 (by omega)
  have x2 := hx 2 (by omega)
  have x3 := hx 3 (by omega)
  rw [Nat.add_zero, Nat.add_zero] at x0
  obtain ⟨M, hM⟩ : ∃ M, markL l i = M := ⟨_, rfl⟩
  rw [hM]
  unfold markL fourL at hM
  have b0 : (l.getD i 0).toNat < 256 := UInt8.toNat_lt _
  have b1 : (l.getD (i + 1) 0).toNat < 256 := UInt8.toNat_lt _
  have b2 : (l.getD (i + 2) 0).toNat < 256 := UInt8.toNat_lt _
  have b3 : (l.getD (i + 3) 0).toNat < 256 := UInt8.toNat_lt _
  generalize (l.getD i 0).toNat = y0 at *
  generalize (l.getD (i + 1) 0).toNat = y1 at *
  generalize (l.getD (i + 2) 0).toNat = y2 at *
  generalize (l.getD (i + 3) 0).toNat = y3 at *
  have HM := Lib.hid hM
  clear hM
  have HE := Lib.hid (four_or b0 b1 b2 b3)
  have i1 : (0 : Int) < ((n - i : Nat) : Int) := by omega
  have i2 : (1 : Int) < ((n - i : Nat) : Int) := by omega
  have i3 : (2 : Int) < ((n - i : Nat) : Int) := by omega
  have i4 : (3 : Int) < ((n - i : Nat) : Int) := by omega
  have i5 : ¬ c = i := by omega
  clear hx hcell hr hl
  go_enter Tryz.func75, Tryz.ntmps75
  go_wp2
  go_quiet (fail)
  go_wp2
  go_ret
  exact ⟨ret_int (by rw [HE.out, ← HM.out]; omega), _, rfl⟩

theorem drewN_add (w : World) (q : Nat) : ∀ p, (w.drewN q).drewN p = w.drewN (q + p)
  | 0 => rfl
  | p + 1 => by
    show ((w.drewN q).drewN p).drew = (w.drewN (q + p)).drew
    rw [drewN_add w q p]

/-- so many bytes are the same from two places on -/
def SameN (l : List UInt8) (a b n : Nat) : Prop := n ≤ 259 ∧ b + n ≤ l.length ∧ ∀ j, j < n → l.getD (a + j) 0 = l.getD (b + j) 0

set_option maxHeartbeats 2000000 in
set_option maxRecDepth 10000 in
theorem mSame (g : Nat) (A : Option Addr) (n c a b : Nat) (l : List UInt8) (w : World) (hc0 : w.cell? ⟨g, 0, none⟩ = some (.slice A n c)) (hl : l.length = n) (hr : Bs w A l) (hn : n ≤ 1000000000) (hab : a ≤ b) (hb : b ≤ n) :
    Calls Tryz.prog 76 #[.pointer (some ⟨g, 0, none⟩), .int .i64 (a : Int), .int .i64 (b : Int)] w fun e w' => ∃ m : Nat, e = .returned (.int .i64 (m : Int)) ∧ SameN l a b m ∧ ∃ q, w' = w.drewN q := by
  have HL := Lib.hid hl
  have HR := Lib.hid hr
  have HC := Lib.hid hc0
  clear hl hr hc0
  go_enter Tryz.func76, Tryz.ntmps76
  go_wp2
  go_loopg [7] 259 (fun gg s7 wr => ∃ m : Nat, m ≤ 259 ∧ 259 - m ≤ gg ∧ s7 = .int .i64 (m : Int) ∧ b + m ≤ n ∧ (∀ j, j < m → l.getD (a + j) 0 = l.getD (b + j) 0) ∧ ∃ q, wr = w.drewN q)
  case atStart => exact ⟨0, by omega, by omega, rfl, by omega, by simp, 0, rfl⟩
  case round =>
    obtain ⟨m, hm, hgg, rfl, hbm, hsame, q, rfl⟩ := hrel
    have HS := Lib.hid hsame
    clear hsame
    have c0 := HC.out
    by_cases h259 : m < 259
    · by_cases hbn : b + m < n
      · obtain ⟨bb, o, x, hA, hx, hcx⟩ := HR.out.at_ (by rw [HL.out]; omega : a + m < l.length)
        obtain ⟨bb2, o2, y, hA2, hy, hcy⟩ := HR.out.at_ (by rw [HL.out]; omega : b + m < l.length)
        rw [hA] at hA2
        obtain ⟨rfl, rfl⟩ : bb = bb2 ∧ o = o2 := by
          injection hA2 with h; injection h with h1 h2; exact ⟨h1, h2⟩
        subst hA
        have E1 : l.getD (a + m) 0 = x := by simp [List.getD, hx]
        have E2 : l.getD (b + m) 0 = y := by simp [List.getD, hy]
        clear hx hy hA2
        have g1 : decide ((m : Int) < 259) = true := decide_eq_true (by omega)
        have g2 : decide ((b : Int) + m < n) = true := decide_eq_true (by omega)
        have i1 : (0 : Int) ≤ (a : Int) + m := by omega
        have i2 : (a : Int) + m < (n : Int) := by omega
        have i3 : (0 : Int) ≤ (b : Int) + m := by omega
        have t1 : ((a : Int) + m).toNat = a + m := by omega
        have t2 : ((b : Int) + m).toNat = b + m := by omega
        have e1 : IntKind.i64.wrap ((a : Int) + m) = (a : Int) + m := wrapi64 (by omega) (by omega)
        have e2 : IntKind.i64.wrap ((b : Int) + m) = (b : Int) + m := wrapi64 (by omega) (by omega)
        have HE1 := Lib.hid E1
        have HE2 := Lib.hid E2
        clear E1 E2
        go_wp2
        go_quiet (fail)
        clear g1 g2 i1 i2 i3 t1 t2 e1 e2
        by_cases hxy : x = y
        · have hb : ((x.toNat : Int) == y.toNat) = true := by rw [hxy]; simp
          have HS2 := Lib.hid (show ∀ j, j < m + 1 → l.getD (a + j) 0 = l.getD (b + j) 0 from fun j hj => by
            by_cases e : j = m
            · rw [e, HE1.out, HE2.out, hxy]
            · exact HS.out j (by omega))
          clear hxy
          go_wp2
          go_roundg (259 - (m + 1))
          case measure => omega
          case rel => exact ⟨m + 1, by omega, by omega, by go_num, by omega, HS2.out, _, rfl⟩
        · have hb : ((x.toNat : Int) == y.toNat) = false := beq_eq_false_iff_ne.2 (fun e => hxy (UInt8.toNat_inj.1 (by omega)))
          clear hxy
          go_wp2
          go_ret
          exact ⟨m, rfl, ⟨by omega, by rw [HL.out]; omega, HS.out⟩, _, drewN_add w q _⟩
      · have g1 : decide ((m : Int) < 259) = true := decide_eq_true (by omega)
        have g2 : decide ((b : Int) + m < n) = false := decide_eq_false (by omega)
        have e2 : IntKind.i64.wrap ((b : Int) + m) = (b : Int) + m := wrapi64 (by omega) (by omega)
        go_wp2
        go_quiet (fail)
        clear g1 g2 e2
        go_wp2
        go_ret
        exact ⟨m, rfl, ⟨by omega, by rw [HL.out]; omega, HS.out⟩, _, drewN_add w q _⟩
    · have g1 : decide ((m : Int) < 259) = false := decide_eq_false (by omega)
      go_wp2
      go_quiet (fail)
      clear g1
      go_wp2
      go_ret
      exact ⟨m, rfl, ⟨by omega, by rw [HL.out]; omega, HS.out⟩, _, drewN_add w q _⟩
end Go.Proofs.YtkneigeejgblkaaGreat

/-
  Walks of package match: places are linked.
-/
namespace Go.Proofs.YtkneigeejgblkaaGreat
open Go.RowKit

def finF (A : Option Addr) (n c win : Nat) (head : Nat → Nat) (Aa : Option Addr) (ca known : Nat) (i : Nat) : Value :=
  if i = 0 then .slice A n c else if i = 1 then .int .i64 (win : Int) else if i < 4098 then .int .i64 (head (i - 2) : Nat) else if i = 4098 then .slice Aa n ca else .int .i64 (known : Int)

/-- the finder -/
structure Fin_ (w : World) (B g : Nat) (l : List UInt8) (A : Option Addr) (n c win : Nat) (head : Nat → Nat) (Aa : Option Addr) (ca known : Nat) (ah : List Nat) : Prop where
  cells : Cells w g 60 4100 (finF A n c win head Aa ca known)
  data : Bs w A l
  ahead : OwnN w B Aa n ca ah
  h1 : ∀ m, m < 4096 → head m ≤ known
  h2 : ∀ p, p < known → ah.getD p 0 ≤ p
  h3 : known ≤ n
  low : ∀ b, bk A = some b → b < B
  base : B ≤ g
  size : B ≤ w.heap.size

theorem Fin_.later {w w' : World} {B g n c win ca known : Nat} {l : List UInt8} {A Aa : Option Addr} {head : Nat → Nat} {ah : List Nat} (h : Fin_ w B g l A n c win head Aa ca known ah) (hb : Below w.heap.size w w') : Fin_ w' B g l A n c win head Aa ca known ah :=
  ⟨h.cells.later hb, h.data.later hb, Own.later h.ahead hb, h.h1, h.h2, h.h3, h.low, h.base, Nat.le_trans h.size hb.size⟩

theorem Fin_.c0 {w : World} {B g n c win ca known : Nat} {l : List UInt8} {A Aa : Option Addr} {head : Nat → Nat} {ah : List Nat} (h : Fin_ w B g l A n c win head Aa ca known ah) : w.cell? ⟨g, 0, none⟩ = some (.slice A n c) := h.cells.cell (by omega)
theorem Fin_.c1 {w : World} {B g n c win ca known : Nat} {l : List UInt8} {A Aa : Option Addr} {head : Nat → Nat} {ah : List Nat} (h : Fin_ w B g l A n c win head Aa ca known ah) : w.cell? ⟨g, 1, none⟩ = some (.int .i64 (win : Int)) := h.cells.cell (by omega)
theorem Fin_.cA {w : World} {B g n c win ca known : Nat} {l : List UInt8} {A Aa : Option Addr} {head : Nat → Nat} {ah : List Nat} (h : Fin_ w B g l A n c win head Aa ca known ah) : w.cell? ⟨g, 4098, none⟩ = some (.slice Aa n ca) := h.cells.cell (by omega)
theorem Fin_.cK {w : World} {B g n c win ca known : Nat} {l : List UInt8} {A Aa : Option Addr} {head : Nat → Nat} {ah : List Nat} (h : Fin_ w B g l A n c win head Aa ca known ah) : w.cell? ⟨g, 4099, none⟩ = some (.int .i64 (known : Int)) := h.cells.cell (by omega)
theorem Fin_.cH {w : World} {B g n c win ca known m : Nat} {l : List UInt8} {A Aa : Option Addr} {head : Nat → Nat} {ah : List Nat} (h : Fin_ w B g l A n c win head Aa ca known ah) (hm : m < 4096) : w.cell? ⟨g, 2 + m, none⟩ = some (.int .i64 (head m : Nat)) := by
  rw [h.cells.cell (i := 2 + m) (by omega)]
  unfold finF
  rw [if_neg (by omega), if_neg (by omega), if_pos (by omega), show 2 + m - 2 = m by omega]

/-- one place is linked: three stores -/
theorem Fin_.step {w : World} {B g n c win ca known m ga : Nat} {l : List UInt8} {A : Option Addr} {head : Nat → Nat} {ah : List Nat} (h : Fin_ w B g l A n c win head (some ⟨ga, 0, none⟩) ca known ah) (hm : m < 4096) (hk : known < n) :
    Fin_ (((w.setCell ⟨ga, known, none⟩ (.int .i64 (head m : Nat))).setCell ⟨g, 2 + m, none⟩ (.int .i64 ((known + 1 : Nat) : Int))).setCell ⟨g, 4099, none⟩ (.int .i64 ((known + 1 : Nat) : Int))) B g l A n c win (fun j => if j = m then known + 1 else head j) (some ⟨ga, 0, none⟩) ca (known + 1) (ah.set known (head m)) := by
  have hga : ga ≠ g := by simpa [bk] using h.cells.ne_own h.ahead (by decide)
  have hgB := (Own.lt h.ahead (k := ga) rfl).1
  have hal := OwnN.length h.ahead
  have hs1 := Own.stored h.ahead known (.int .i64 (head m : Nat))
  have gr1 := hs1.2
  have gr2 := grown_set (w.setCell ⟨ga, known, none⟩ (.int .i64 (head m : Nat))) ⟨g, 2 + m, none⟩ (.int .i64 ((known + 1 : Nat) : Int))
  have gr3 := grown_set ((w.setCell ⟨ga, known, none⟩ (.int .i64 (head m : Nat))).setCell ⟨g, 2 + m, none⟩ (.int .i64 ((known + 1 : Nat) : Int))) ⟨g, 4099, none⟩ (.int .i64 ((known + 1 : Nat) : Int))
  have hAg : bk A = none ∨ bk A ≠ some g := by
    cases hA : bk A with
    | none => exact .inl rfl
    | some b => right; have := h.low b hA; have := h.base; simp only [ne_eq, Option.some.injEq]; omega
  have hAa : bk A = none ∨ bk A ≠ some ga := by
    cases hA : bk A with
    | none => exact .inl rfl
    | some b => right; have := h.low b hA; simp only [ne_eq, Option.some.injEq]; omega
  refine ⟨(((h.cells.kept gr1 (by simpa using hga)).set (2 + m) _).set 4099 _).ext ?_, Rd.keptB (Rd.keptB (Rd.keptB h.data gr1 hAa) gr2 hAg) gr3 hAg, ?_, ?_, ?_, by omega, h.low, h.base, by have := h.size; simpa [World.setCell] using this⟩
  · intro i hi
    unfold finF
    by_cases e1 : i = 4099
    · subst e1
      rw [if_pos rfl, if_neg (by omega), if_neg (by omega), if_neg (by omega), if_neg (by omega)]
    · rw [if_neg e1]
      by_cases e2 : i = 2 + m
      · subst e2
        rw [if_pos rfl, if_neg (by omega), if_neg (by omega), if_pos (by omega), show 2 + m - 2 = m by omega]
        simp only [if_true]
      · rw [if_neg e2]
        by_cases e3 : i = 0
        · rw [if_pos e3, if_pos e3]
        · rw [if_neg e3, if_neg e3]
          by_cases e4 : i = 1
          · rw [if_pos e4, if_pos e4]
          · rw [if_neg e4, if_neg e4]
            by_cases e5 : i < 4098
            · have e6 : ¬ i - 2 = m := by omega
              rw [if_pos e5, if_pos e5]
              simp only [if_neg e6]
            · rw [if_neg e5, if_neg e5, if_pos (by omega), if_pos (by omega)]
  · have : (ah.set known (head m)).map natv = (ah.map natv).set known (.int .i64 (head m : Nat)) := by rw [List.map_set]; rfl
    unfold OwnN
    rw [this]
    exact Own.kept (Own.kept hs1.1 gr2 (.inr (by simpa [bk] using hga))) gr3 (.inr (by simpa [bk] using hga))
  · intro j hj
    show (if j = m then known + 1 else head j) ≤ known + 1
    split
    · exact Nat.le_refl _
    · have := h.h1 j hj; omega
  · intro p hp
    by_cases e : p = known
    · subst e
      simp only [List.getD, List.getElem?_set, if_true]
      rw [if_pos (by omega)]
      simpa using h.h1 m hm
    · have h5 := h.h2 p (by omega)
      simp only [List.getD, List.getElem?_set] at h5 ⊢
      rw [if_neg (fun e' => e e'.symm)]
      exact h5

theorem Fin_.kept {w w' : World} {row : Option Nat} {B g n c win ca known : Nat} {l : List UInt8} {A Aa : Option Addr} {head : Nat → Nat} {ah : List Nat} (h : Fin_ w B g l A n c win head Aa ca known ah) (hg : w.grownBy w' row) (h1 : row ≠ some g) (h2 : bk Aa = none ∨ bk Aa ≠ row) (h3 : ∀ k, row = some k → B ≤ k) : Fin_ w' B g l A n c win head Aa ca known ah := by
  refine ⟨h.cells.kept hg h1, Rd.keptB h.data hg ?_, Own.kept h.ahead hg h2, h.h1, h.h2, h.h3, h.low, h.base, Nat.le_trans h.size hg.size⟩
  cases hA : bk A with
  | none => exact .inl rfl
  | some b =>
    right
    intro e
    have := h.low b hA
    have := h3 b e.symm
    omega

theorem OwnS.two {g : Nat} {Aa : Option Addr} {w w' : World} {base n c : Nat} {A : Option Addr} {l : List Sq} (h : OwnS w base A n c l) (ht : Two g Aa w w') (h1 : bk A ≠ some g) (h2 : bk A = none ∨ bk A ≠ bk Aa) : OwnS w' base A n c l := by
  refine ⟨h.1, ?_⟩
  rcases h.2 with h3 | ⟨b, cap, cur, hv, h3, h4, h5⟩
  · exact .inl h3
  · refine .inr ⟨b, cap, cur, hv, h3, ?_, h5⟩
    simp only [Value.slice.injEq] at hv
    have hb : bk A = some b := by rw [hv.1]; rfl
    rw [ht.block b (Array.getElem?_eq_some_iff.1 h4).1 (fun e => h1 (by rw [hb, e])) (fun e => by
      rcases h2 with h2 | h2
      · rw [hb] at h2; cases h2
      · exact h2 (by rw [hb, e]))]
    exact h4

theorem heads_len : Tryz.prog.arrayLen 58 = 4096 := by kernel_rfl

set_option maxHeartbeats 4000000 in
set_option maxRecDepth 10000 in
theorem mLink (B g : Nat) (l : List UInt8) (A : Option Addr) (n c win : Nat) (head : Nat → Nat) (Aa : Option Addr) (ca known : Nat) (ah : List Nat) (i : Nat) (w : World) (h : Fin_ w B g l A n c win head Aa ca known ah) (hl : l.length = n) (hn : n ≤ 65536) (hc : n ≤ c) (hi : i ≤ n) (hki : known ≤ i) :
    Calls Tryz.prog 74 #[.pointer (some ⟨g, 0, none⟩), .int .i64 (i : Int)] w fun e w' => (∃ v, e = .returned v) ∧ Below B w w' ∧ Two g Aa w w' ∧ ∃ head' known' ah', known' ≤ i ∧ Fin_ w' B g l A n c win head' Aa ca known' ah' := by
  have HF0 := Lib.hid h
  have HL := Lib.hid hl
  clear h hl
  go_enter Tryz.func74, Tryz.ntmps74
  go_wp2
  go_loopg [4] (i - known) (fun gg s4 wr => ∃ (head' : Nat → Nat) (known' : Nat) (ah' : List Nat), known' ≤ i ∧ i - known' ≤ gg ∧ Fin_ wr B g l A n c win head' Aa ca known' ah' ∧ Below B w wr ∧ Two g Aa w wr)
  case atStart => exact ⟨head, known, ah, hki, by omega, HF0.out, Below.refl _ _, Two.refl _ _ _⟩
  case round =>
    obtain ⟨head', k, ah', hk, hgg, hf, hbel, htwo⟩ := hrel
    have HT := Lib.hid htwo
    clear htwo
    have HF := Lib.hid hf
    have HB := Lib.hid hbel
    have c0 := hf.c0
    have cK := hf.cK
    have cA := hf.cA
    clear hf hbel
    by_cases hki : k < i
    · have g1 : decide ((k : Int) < i) = true := decide_eq_true (by omega)
      by_cases h4 : k + 4 ≤ n
      · have g2 : decide ((k : Int) + 4 ≤ n) = true := decide_eq_true (by omega)
        have e2 : IntKind.i64.wrap ((k : Int) + 4) = (k : Int) + 4 := wrapi64 (by omega) (by omega)
        go_wp2
        go_quiet (fail)
        clear g1 g2 e2
        have HF2 := Lib.hid (HF.out.later (below_drewN wr nq))
        obtain ⟨m, hmk, hcall⟩ : ∃ m, m < 4096 ∧ Calls Tryz.prog 75 #[.pointer (some ⟨g, 0, none⟩), .int .i64 (k : Int)] (wr.drewN nq) fun e w' => e = .returned (.int .i64 (m : Nat)) ∧ ∃ q, w' = (wr.drewN nq).drewN q :=
          ⟨_, markL_lt l k, mMark g A n c k l (wr.drewN nq) HF2.out.c0 HL.out HF2.out.data (by omega) hc h4⟩
        have HMk := Lib.hid hcall
        clear hcall
        go_wp2_with fail
        refine HMk.out.mono ?_
        rintro e w3 ⟨rfl, q2, rfl⟩
        have HF3 := Lib.hid (HF2.out.later (below_drewN (wr.drewN nq) q2))
        have HT3 := Lib.hid ((HT.out.drewN nq).drewN q2)
        have HB3 := Lib.hid ((HB.out.trans ((below_drewN wr nq).mono HF.out.size)).trans ((below_drewN (wr.drewN nq) q2).mono HF2.out.size))
        clear HMk HF2 c0 cK cA
        obtain ⟨w3, hw3⟩ : ∃ w3, w3 = (wr.drewN nq).drewN q2 := ⟨_, rfl⟩
        rw [← hw3] at HF3 HB3 HT3 ⊢
        clear hw3
        obtain ⟨ga, xa, hAa, hga1, hga2, -, hcga, hfga⟩ := Own.at_ HF3.out.ahead (k := k) (by omega)
        subst hAa
        have cK := HF3.out.cK
        have cA := HF3.out.cA
        have cH := HF3.out.cH hmk
        have i1 : (0 : Int) ≤ (m : Int) := by omega
        have i2 : (m : Int) < 4096 := by omega
        have HMK := Lib.hid hmk
        have i3 : (0 : Int) ≤ (k : Int) := by omega
        have i4 : (k : Int) < (n : Int) := by omega
        have HHk := Lib.hid (show k < n by omega)
        go_wp2
        go_region
        have hga : ga ≠ g := by simpa [bk] using HF3.out.cells.ne_own HF3.out.ahead (by decide)
        have HS := Lib.hid (show Fin_ (((w3.setCell ⟨ga, k, none⟩ (.int .i64 (head' m : Nat))).setCell ⟨g, 2 + m, none⟩ (.int .i64 ((k : Int) + 1))).setCell ⟨g, 4099, none⟩ (.int .i64 ((k : Int) + 1))) B g l A n c win (fun j => if j = m then k + 1 else head' j) (some ⟨ga, 0, none⟩) ca (k + 1) (ah'.set k (head' m)) from HF3.out.step HMK.out HHk.out)
        obtain ⟨w4, hw4⟩ : ∃ w4, w4 = w3.setCell ⟨ga, k, none⟩ (.int .i64 (head' m : Nat)) := ⟨_, rfl⟩
        rw [← hw4] at HS ⊢
        have HC4 : Cells w4 g 60 4100 (finF A n c win head' (some ⟨ga, 0, none⟩) ca k) := by
          rw [hw4]; exact HF3.out.cells.kept (grown_set w3 ⟨ga, k, none⟩ _) (by simpa using hga)
        have HT4 := Lib.hid (show Two g (some ⟨ga, 0, none⟩) w w4 by rw [hw4]; exact HT3.out.set_a _)
        have HB4 := Lib.hid (show Below B w w4 by rw [hw4]; exact HB3.out.setCell hga1 _)
        clear hw4 cK cA cH hcga hfga
        have cK : w4.cell? ⟨g, 4099, none⟩ = some (.int .i64 (k : Int)) := HC4.cell (by omega)
        have cH : w4.cell? ⟨g, 2 + m, none⟩ = some (.int .i64 (head' m : Nat)) := by
          rw [HC4.cell (i := 2 + m) (by omega)]
          unfold finF
          rw [if_neg (by omega), if_neg (by omega), if_pos (by omega), show 2 + m - 2 = m by omega]
        have cf : w4.frozen? ⟨g, 2 + m, none⟩ = false := HC4.frozen _
        have HC4' := Lib.hid HC4
        clear HC4
        have e1 : IntKind.i64.wrap ((k : Int) + 1) = ((k + 1 : Nat) : Int) := by rw [wrapi64 (by omega) (by omega)]; rfl
        go_wp2
        go_region
        have HB5 := Lib.hid (show Below B w (w4.setCell ⟨g, 2 + m, none⟩ (.int .i64 ((k : Int) + 1))) from HB4.out.setCell HF3.out.base _)
        have HC5 := HC4'.out.set (2 + m) (.int .i64 ((k : Int) + 1))
        have HT5 := Lib.hid (show Two g (some ⟨ga, 0, none⟩) w (w4.setCell ⟨g, 2 + m, none⟩ (.int .i64 ((k : Int) + 1))) from HT4.out.set_g _)
        obtain ⟨w5, hw5⟩ : ∃ w5, w5 = w4.setCell ⟨g, 2 + m, none⟩ (.int .i64 ((k : Int) + 1)) := ⟨_, rfl⟩
        rw [← hw5] at HS HB5 HC5 HT5 ⊢
        have cK5 : w5.cell? ⟨g, 4099, none⟩ = some (.int .i64 (k : Int)) := by
          rw [HC5.cell (i := 4099) (by omega), if_neg (by omega)]
          unfold finF
          rw [if_neg (by omega), if_neg (by omega), if_neg (by omega), if_neg (by omega)]
        have cf5 : w5.frozen? ⟨g, 4099, none⟩ = false := HC5.frozen _
        clear hw5 cK cH cf HC5
        go_wp2
        go_roundg (i - (k + 1))
        case measure => omega
        case rel => exact ⟨_, k + 1, _, by omega, by omega, HS.out.later (((Below.refl _ _).drew).drew), ((HB5.out.setCell (p := ⟨g, 4099, none⟩) HF3.out.base _).drew).drew, (HT5.out.set_g (i := 4099) _).trans (.of_below (((Below.refl _ _).drew).drew))⟩
      · have g2 : decide ((k : Int) + 4 ≤ n) = false := decide_eq_false (by omega)
        have e2 : IntKind.i64.wrap ((k : Int) + 4) = (k : Int) + 4 := wrapi64 (by omega) (by omega)
        go_wp2
        go_quiet (fail)
        clear g1 g2 e2
        go_wp2
        go_end0
        exact ⟨⟨_, rfl⟩, HB.out.trans ((below_drewN wr nq).mono HF.out.size), HT.out.drewN nq, _, k, _, hk, HF.out.later (below_drewN wr nq)⟩
    · have g1 : decide ((k : Int) < i) = false := decide_eq_false (by omega)
      go_wp2
      go_quiet (fail)
      clear g1
      go_wp2
      go_end0
      exact ⟨⟨_, rfl⟩, HB.out.trans ((below_drewN wr nq).mono HF.out.size), HT.out.drewN nq, _, k, _, hk, HF.out.later (below_drewN wr nq)⟩
end Go.Proofs.YtkneigeejgblkaaGreat
