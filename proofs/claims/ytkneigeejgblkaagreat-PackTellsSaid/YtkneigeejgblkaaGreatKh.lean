/-
  Parts of the proofs about package pack, in the order in which they build: U1, X8, D1, D2, D3, E0, D4, D5.
-/
import Derived.Test.YtkneigeejgblkaaGreatKg
import Derived.Deep.CutBlock
import Derived.Deep.CutRange
import Derived.Lib.SlBytesConst
import Derived.ProofKit
import Derived.OpenShut
import Derived.Deep.DeepHandedRow
set_option linter.unusedSimpArgs false
set_option linter.unusedVariables false
/-
  Walks of package pack: Unpack.
-/
namespace Go.Proofs.YtkneigeejgblkaaGreat
open Go.RowKit

set_option maxHeartbeats 8000000 in
set_option maxRecDepth 100000 in
theorem packUnpack (A : Option Addr) (n0 c : Nat) (data : List UInt8) (most : Int) (w : World) (hl : data.length = n0) (hr : Bs w A data) (hn : n0 ≤ 140737488351232) (hc : n0 ≤ c) (hc2 : c ≤ 9223372036854775807) (hnil : A = none → c = 0)
    (hA : ∀ b, bk A = some b → b < w.heap.size) (hm1 : -9223372036854775808 ≤ most) (hm2 : most ≤ 9223372036854775807) :
    Calls Tryz.prog 12 #[.slice A n0 c, .int .i64 most] w (unpPost (unpackL data most) w) := by
  obtain ⟨R, hR⟩ : ∃ R, unpackL data most = R := ⟨_, rfl⟩
  rw [hR]
  unfold unpackL at hR
  by_cases hmost : most < 0 ∨ 65536 < most
  · rw [if_pos hmost] at hR
    have HD := Lib.hid (show R = (1, []) from hR.symm)
    clear hR hr hl
    rcases hmost with h | h
    all_goals go_enter Tryz.func12, Tryz.ntmps12
    all_goals go_wp2
    all_goals go_ret2
    all_goals exact unpPost_bad HD.out (Below.refl _ _)
  · rw [if_neg hmost] at hR
    have h0 : 0 ≤ most := by omega
    have h65 : most ≤ 65536 := by omega
    have HP0 := Lib.hid (⟨by rw [hl]; exact Blk.new w 47 #[.slice A n0 c, .bool false], hr.later ((Below.refl _ _).alloc (Nat.le_refl _) _), fun e => by have := hA _ e; omega, ⟨by omega, hc2⟩, hnil, by omega⟩ : IsPk (w.alloc (.cells #[.slice A n0 c, .bool false] 47)) w.heap.size data A c false)
    have HB0 := Lib.hid ((Below.refl w.heap.size w).alloc (Nat.le_refl _) (.cells #[.slice A n0 c, .bool false] 47))
    have HD := Lib.hid (show R = modeL most data from hR.symm)
    clear hR hmost
    cases data with
    | nil =>
      have HDt := Lib.hid (show R = (5, []) from HD.out)
      have HT := Lib.hid (pk_take_bad _ c [] A false 1 _ HP0.out (.inr (by simp)))
      clear hr hl
      go_enter Tryz.func12, Tryz.ntmps12
      go_wp2_with fail
      refine HT.out.mono ?_
      rintro e w1 ⟨rfl, hp1, hg1⟩
      have d1 := hp1.blk.cell 1
      simp only [List.getElem?_toArray, List.getElem?_cons_zero, List.getElem?_cons_succ] at d1
      have HB1 := Lib.hid (HB0.out.trans (below_grown hg1 HB0.out.size (fun k hk => by cases hk; exact Nat.le_refl _)))
      clear hp1 hg1
      go_wp2
      go_ret2
      exact unpPost_bad HDt.out HB1.out
    | cons mode l =>
      obtain ⟨b, o, x, rfl, hx, hcx⟩ := hr.at_ (k := 0) (by simp)
      obtain rfl : mode = x := by simpa using hx
      rw [Nat.add_zero] at hcx
      have hbw := block_lt hcx
      have HT := Lib.hid (pk_take_any _ c (mode :: l) (some ⟨b, o, none⟩) 1 _ HP0.out (by simp))
      have hll : l.length ≤ 140737488351232 := by simp at hl; omega
      have HD1 := Lib.hid (show R = if 2 < mode.toNat then (5, []) else numL mode l most (pkNum l 4294967295) from HD.out)
      clear hr hl hx HD
      go_enter Tryz.func12, Tryz.ntmps12
      go_wp2_with fail
      refine HT.out.mono ?_
      rintro e w1 ⟨rfl, hp1, hg1⟩
      rw [List.drop_one, List.tail_cons] at hp1
      have d1 := hp1.blk.cell 1
      simp only [List.getElem?_toArray, List.getElem?_cons_zero, List.getElem?_cons_succ] at d1
      have HP1 := Lib.hid hp1
      have HB1 := Lib.hid (HB0.out.trans (below_grown hg1 HB0.out.size (fun k hk => by cases hk; exact Nat.le_refl _)))
      have hm1c : w1.cell? ⟨b, o, none⟩ = some (.int .u8 (mode.toNat : Int)) := by rw [HB1.out.cell (by simpa using hbw)]; exact hcx
      have hA1 : bk (cutA (some ⟨b, o, none⟩) c 1) = some b := bk_cut _ _ _
      generalize cutA (some ⟨b, o, none⟩) c 1 = A1 at *
      generalize c - 1 = c1 at *
      clear hp1 hg1 HT HP0 HB0
      by_cases h2 : 2 < mode.toNat
      · have HDt := Lib.hid (HD1.out.trans (if_pos h2))
        have h2' : 2 < (mode.toNat : Int) := by omega
        clear h2
        go_wp2
        go_ret2
        exact unpPost_bad HDt.out HB1.out
      · have h2' : (mode.toNat : Int) ≤ 2 := by omega
        have HD2 := Lib.hid (HD1.out.trans (if_neg h2))
        cases hp : pkNum l 4294967295 with
        | none =>
          have HDt := Lib.hid (HD2.out.trans (by rw [hp, numL]))
          have HN := Lib.hid (pk_num_bad _ c1 l A1 false 4294967295 w1 HP1.out (.inr hp))
          go_wp2_with fail
          refine HN.out.mono ?_
          rintro e w2 ⟨rfl, hp2, hg2⟩
          have d2 := hp2.blk.cell 1
          simp only [List.getElem?_toArray, List.getElem?_cons_zero, List.getElem?_cons_succ] at d2
          have HB2 := Lib.hid (HB1.out.trans (below_grown hg2 HB1.out.size (fun k hk => by cases hk; exact Nat.le_refl _)))
          clear hp2 hg2
          go_wp2
          go_ret2
          exact unpPost_bad HDt.out HB2.out
        | some p =>
          obtain ⟨n, k⟩ := p
          have HN := Lib.hid (pk_num_any _ c1 l A1 4294967295 n k w1 HP1.out hp)
          have HD3 := Lib.hid (HD2.out.trans (by rw [hp, numL]))
          obtain ⟨hk, hnn, -, -⟩ := pkNum_facts hp
          clear hp
          go_wp2_with fail
          refine HN.out.mono ?_
          rintro e w2 ⟨rfl, hp2, hg2⟩
          have d2 := hp2.blk.cell 1
          simp only [List.getElem?_toArray, List.getElem?_cons_zero, List.getElem?_cons_succ] at d2
          have HP2 := Lib.hid hp2
          have HB2 := Lib.hid (HB1.out.trans (below_grown hg2 HB1.out.size (fun k hk => by cases hk; exact Nat.le_refl _)))
          have hm2c : w2.cell? ⟨b, o, none⟩ = some (.int .u8 (mode.toNat : Int)) := by rw [HB2.out.cell (by simpa using hbw)]; exact hcx
          have hA2 : bk (cutA A1 c1 k) = some b := (bk_cut _ _ _).trans hA1
          have hl2 : (l.drop k).length ≤ 140737488351232 := by rw [List.length_drop]; omega
          clear hp2 hg2 HN HP1 HB1 hm1c d1
          generalize l.drop k = l2 at *
          generalize cutA A1 c1 k = A2 at *
          generalize c1 - k = c2 at *
          by_cases hnm : most < (n : Int)
          · have HDt := Lib.hid (HD3.out.trans (if_pos hnm))
            go_wp2
            go_ret2
            exact unpPost_bad HDt.out HB2.out
          · have HD4 := Lib.hid (HD3.out.trans (if_neg hnm))
            have hnm' : (n : Int) ≤ most := by omega
            have hn65 : n ≤ 65536 := by omega
            clear HD3 HD2 HD1
            have HMC := Lib.hid hcx
            go_upto_block 1 with fail
            go_cut [9] from 10 to 93 (fun s9 wx => ∃ (lt : List UInt8) (At : Option Addr) (ct : Nat) (bad : Bool) (Ao : Option Addr) (no co : Nat) (out : List UInt8), s9 = .slice Ao no co ∧ IsPk wx w.heap.size lt At ct bad ∧ Below w.heap.size w wx ∧
              ((bad = true ∧ R = (5, [])) ∨ (bad = false ∧ R = endL mode n (some (out, lt)) ∧ NewB wx w.heap.size Ao no co out ∧ bk Ao ≠ some w.heap.size ∧ no ≤ 65536)))
            case first =>
              by_cases hmd0 : mode = 0
              · have e0 : ((mode.toNat : Int) == 0) = true := by rw [hmd0]; rfl
                by_cases hsh : l2.length < n
                · have HDt := Lib.hid (show R = (5, []) from HD4.out.trans (by unfold bodyL; rw [if_pos hmd0, takeE, if_pos hsh, endL]))
                  have HT2 := Lib.hid (pk_take_bad _ c2 l2 A2 false n w2 HP2.out (.inr (by omega)))
                  clear hsh HD4
                  go_wp2_with fail
                  refine HT2.out.mono ?_
                  rintro e w3 ⟨rfl, hp3, hg3⟩
                  have HB3 := Lib.hid (HB2.out.trans (below_grown hg3 HB2.out.size (fun k hk => by cases hk; exact Nat.le_refl _)))
                  have HP3 := Lib.hid hp3
                  clear hp3 hg3
                  go_wp2_with (at_builtin; refine wpList_append_rd rfl _ _ elemB rfl w.heap.size none 0 0 [] ?hs (Own.nil _ _ _) none 0 0 [] ?hx (Rd.nil _ _) rfl (by simp) (by simp) (by simp) ?hb ?_; (case hs => simp [Act.eval]); (case hx => simp [Act.eval]))
                  case hb => exact HB3.out.size
                  intro Ax cx wt hownt hbt hgt hatt
                  have HPt := Lib.hid (HP3.out.kept hgt (by simp [bk]) (.inr (by rw [show bk A2 = some b from hA2]; simp [bk])))
                  have HBt := Lib.hid (HB3.out.trans hbt)
                  clear hownt hbt hgt hatt
                  go_wp2_with fail
                  go_meet
                  exact ⟨l2, A2, c2, true, Ax, _, cx, [], rfl, HPt.out, HBt.out, .inl ⟨rfl, HDt.out⟩⟩
                · have HT2 := Lib.hid (pk_take_any _ c2 l2 A2 n w2 HP2.out (by omega))
                  have HDt := Lib.hid (show R = endL mode n (some (l2.take n, l2.drop n)) from HD4.out.trans (by unfold bodyL; rw [if_pos hmd0, takeE, if_neg hsh]))
                  have htl : (l2.take n).length = n := by rw [List.length_take]; omega
                  clear HD4
                  go_wp2_with fail
                  refine HT2.out.mono ?_
                  rintro e w3 ⟨rfl, hp3, hg3⟩
                  have HB3 := Lib.hid (HB2.out.trans (below_grown hg3 HB2.out.size (fun k hk => by cases hk; exact Nat.le_refl _)))
                  have HP3 := Lib.hid hp3
                  have HS3 := Lib.hid (Rd.keptB (Bs.take n HP2.out.data) hg3 (.inr HP2.out.ne) : Bs w3 A2 (l2.take n))
                  have hA3 : bk (cutA A2 c2 n) = some b := (bk_cut _ _ _).trans hA2
                  clear hp3 hg3
                  generalize l2.take n = out at *
                  generalize l2.drop n = lt at *
                  generalize cutA A2 c2 n = At at *
                  have HTL := Lib.hid htl
                  clear htl
                  go_wp2_with (at_builtin; refine wpList_append_rd rfl _ _ elemB rfl w.heap.size none 0 0 [] ?hs (Own.nil _ _ _) A2 n c2 (out.map u8v) ?hx HS3.out ?h1 (u8_one _) ?h2 ?h3 ?hb ?_; (case hs => simp [Act.eval]); (case hx => simp [Act.eval]))
                  case h1 => rw [List.length_map]; exact HTL.out
                  case h2 => omega
                  case h3 => omega
                  case hb => exact HB3.out.size
                  intro Ao co wt hownt hbt hgt hatt
                  have HPt := Lib.hid (HP3.out.kept hgt (by simp [bk]) (.inr (by rw [hA3]; simp [bk])))
                  have HBt := Lib.hid (HB3.out.trans hbt)
                  have hsep : bk Ao ≠ some w.heap.size := Own.ne_blk hownt HPt.out.blk (by decide)
                  have HOt := Lib.hid (OwnB.newB hownt)
                  clear hownt hbt hgt hatt
                  go_wp2_with fail
                  go_meet
                  exact ⟨lt, At, _, false, Ao, n, co, out, rfl, HPt.out, HBt.out, .inr ⟨rfl, HDt.out, HOt.out, hsep, hn65⟩⟩
              · have e0 : ((mode.toNat : Int) == 0) = false := beq_eq_false_iff_ne.2 (fun e => hmd0 (UInt8.toNat_inj.1 (show mode.toNat = 0 by omega)))
                by_cases hmd1 : mode = 1
                · have e1 : ((mode.toNat : Int) == 1) = true := by rw [hmd1]; rfl
                  cases l2 with
                  | nil =>
                    have HDt := Lib.hid (show R = (5, []) from HD4.out.trans (by unfold bodyL; rw [if_neg hmd0, if_pos hmd1]; rfl))
                    have HT2 := Lib.hid (pk_take_bad _ c2 [] A2 false 1 w2 HP2.out (.inr (by simp)))
                    clear HD4
                    go_wp2_with fail
                    refine HT2.out.mono ?_
                    rintro e w3 ⟨rfl, hp3, hg3⟩
                    have HBt := Lib.hid (HB2.out.trans (below_grown hg3 HB2.out.size (fun k hk => by cases hk; exact Nat.le_refl _)))
                    have d3 := hp3.blk.cell 1
                    simp only [List.getElem?_toArray, List.getElem?_cons_zero, List.getElem?_cons_succ] at d3
                    have HPt := Lib.hid hp3
                    clear hp3 hg3
                    go_wp2_with fail
                    go_meet
                    exact ⟨[], A2, c2, true, none, 0, 0, [], rfl, HPt.out, HBt.out, .inl ⟨rfl, HDt.out⟩⟩
                  | cons x l3 =>
                    have HDt := Lib.hid (show R = endL mode n (some (List.replicate n x, l3)) from HD4.out.trans (by unfold bodyL; rw [if_neg hmd0, if_pos hmd1]))
                    have HT2 := Lib.hid (pk_take_any _ c2 (x :: l3) A2 1 w2 HP2.out (by simp))
                    clear HD4
                    go_wp2_with fail
                    refine HT2.out.mono ?_
                    rintro e w3 ⟨rfl, hp3, hg3⟩
                    rw [List.drop_one, List.tail_cons] at hp3
                    have HB3 := Lib.hid (HB2.out.trans (below_grown hg3 HB2.out.size (fun k hk => by cases hk; exact Nat.le_refl _)))
                    have d3 := hp3.blk.cell 1
                    simp only [List.getElem?_toArray, List.getElem?_cons_zero, List.getElem?_cons_succ] at d3
                    have HP3 := Lib.hid hp3
                    have HS3 := Lib.hid (Rd.keptB (Bs.take 1 HP2.out.data) hg3 (.inr HP2.out.ne) : Bs w3 A2 [x])
                    have hA3 : bk (cutA A2 c2 1) = some b := (bk_cut _ _ _).trans hA2
                    have HRep := Lib.hid (bytesRepeat A2 c2 x n w3 HS3.out hn65)
                    clear hp3 hg3
                    generalize cutA A2 c2 1 = At at *
                    generalize List.replicate n x = out at *
                    go_wp2_with fail
                    refine HRep.out.mono ?_
                    rintro e wt ⟨Ao, co, rfl, hnew, hbt⟩
                    have HPt := Lib.hid (HP3.out.later hbt)
                    have HBt := Lib.hid (HB3.out.trans (hbt.mono HB3.out.size))
                    have hsep : bk Ao ≠ some w.heap.size := fun e => by
                      have h1 := (hnew.2.2.1 _ e).1
                      have h2 := HP3.out.blk.lt
                      omega
                    have HOt := Lib.hid (hnew.mono HB3.out.size)
                    clear hnew hbt
                    go_wp2_with fail
                    go_meet
                    exact ⟨l3, At, _, false, Ao, n, co, out, rfl, HPt.out, HBt.out, .inr ⟨rfl, HDt.out, HOt.out, hsep, hn65⟩⟩
                · have e1 : ((mode.toNat : Int) == 1) = false := beq_eq_false_iff_ne.2 (fun e => hmd1 (UInt8.toNat_inj.1 (show mode.toNat = 1 by omega)))
                  have e2 : ((mode.toNat : Int) == 2) = true := by
                    have h5 : ¬ mode.toNat = 0 := fun e => hmd0 (UInt8.toNat_inj.1 (show mode.toNat = 0 from e))
                    have h6 : ¬ mode.toNat = 1 := fun e => hmd1 (UInt8.toNat_inj.1 (show mode.toNat = 1 from e))
                    have h7 : mode.toNat = 2 := by omega
                    rw [h7]; rfl
                  have HD5 := Lib.hid (show R = endL mode n (runLits n (litL l2 n)) from HD4.out.trans (by unfold bodyL; rw [if_neg hmd0, if_neg hmd1]))
                  have HLit := Lib.hid (pkLiterals _ c2 l2 A2 n w2 HP2.out hl2 hn65)
                  clear HD4 hmd0 hmd1
                  go_wp2_with fail
                  refine HLit.out.mono ?_
                  rintro e w3 ⟨hg3, hpost⟩
                  have HB3 := Lib.hid (HB2.out.trans (below_grown hg3 HB2.out.size (fun k hk => by cases hk; exact Nat.le_refl _)))
                  clear hg3 HLit
                  cases hlit : litL l2 n with
                  | none =>
                    rw [hlit] at hpost
                    obtain ⟨⟨Al, nl, cl, rfl⟩, l3, A3, c3, hA3, hp3⟩ := hpost
                    have HDt := Lib.hid (show R = (5, []) from HD5.out.trans (by rw [hlit, runLits, endL]))
                    have HSt := Lib.hid (pkStepsBad _ c3 l3 A3 n w3 hp3 hn65)
                    clear hlit hp3 HD5
                    go_wp2_with fail
                    refine HSt.out.mono ?_
                    rintro e wt ⟨hg4, ⟨A4, n4, c4, rfl⟩, lt, At, ct, hA4, hp4⟩
                    have HBt := Lib.hid (HB3.out.trans (below_grown hg4 HB3.out.size (fun k hk => by cases hk; exact Nat.le_refl _)))
                    have d4 := hp4.blk.cell 1
                    simp only [List.getElem?_toArray, List.getElem?_cons_zero, List.getElem?_cons_succ] at d4
                    have HPt := Lib.hid hp4
                    clear hp4 hg4
                    go_wp2_with fail
                    go_meet
                    exact ⟨lt, At, ct, true, none, 0, 0, [], rfl, HPt.out, HBt.out, .inl ⟨rfl, HDt.out⟩⟩
                  | some p =>
                    obtain ⟨lits, l3⟩ := p
                    rw [hlit] at hpost
                    obtain ⟨Al, cl, A3, c3, rfl, hbl, hsepl, hcl, hcl2, hA3, hp3⟩ := hpost
                    obtain ⟨hf1, hf2⟩ := litL_facts hlit
                    have HD6 := Lib.hid (show R = endL mode n (runSteps lits n (stepsL l3 n)) from HD5.out.trans (by rw [hlit, runLits]))
                    have HSt := Lib.hid (pkSteps _ c3 l3 A3 n w3 hp3 (by omega) hn65)
                    have HBl := Lib.hid hbl
                    clear hlit hp3 HD5 hbl
                    go_wp2_with fail
                    refine HSt.out.mono ?_
                    rintro e w4 ⟨hg4, hpost⟩
                    have HB4 := Lib.hid (HB3.out.trans (below_grown hg4 HB3.out.size (fun k hk => by cases hk; exact Nat.le_refl _)))
                    have HBl4 := Lib.hid (Rd.keptB HBl.out hg4 hsepl : Bs w4 Al lits)
                    clear hg4 HSt
                    cases hst : stepsL l3 n with
                    | none =>
                      rw [hst] at hpost
                      obtain ⟨⟨Aq, nq, cq, rfl⟩, lt, At, ct, hA4, hp4⟩ := hpost
                      have HDt := Lib.hid (show R = (5, []) from HD6.out.trans (by rw [hst, runSteps, endL]))
                      have d4 := hp4.blk.cell 1
                      simp only [List.getElem?_toArray, List.getElem?_cons_zero, List.getElem?_cons_succ] at d4
                      have HPt := Lib.hid hp4
                      clear hst hp4 HD6
                      go_wp2_with fail
                      go_meet
                      exact ⟨lt, At, ct, true, none, 0, 0, [], rfl, HPt.out, HB4.out, .inl ⟨rfl, HDt.out⟩⟩
                    | some q =>
                      obtain ⟨sq, lt⟩ := q
                      rw [hst] at hpost
                      obtain ⟨Aq, cq, At, ct, rfl, hos, hA4, hp4⟩ := hpost
                      have hsl := stepsL_len hst
                      have hsb := stepsL_le hst
                      have d4 := hp4.blk.cell 1
                      simp only [List.getElem?_toArray, List.getElem?_cons_zero, List.getElem?_cons_succ] at d4
                      have HP4 := Lib.hid hp4
                      have HRun := Lib.hid (matchRun Al lits.length cl lits Aq sq.length cq sq n w4 rfl HBl4.out (by omega) hcl hcl2 rfl (OwnS.ss hos) (by omega) (fun x hx => by have := hsb x hx; unfold SqB at this; omega) hn65)
                      have HD7 := Lib.hid (show R = endL mode n ((runL lits sq n).bind fun out => some (out, lt)) from HD6.out.trans (by rw [hst, runSteps]))
                      clear hst hp4 HD6 hos hsb
                      go_wp2_with fail
                      refine HRun.out.mono ?_
                      rintro e w5 ⟨hb5, hpost⟩
                      have HP5 := Lib.hid (HP4.out.later hb5)
                      have HB5 := Lib.hid (HB4.out.trans (hb5.mono HB4.out.size))
                      have d5 := HP5.out.blk.cell 1
                      simp only [List.getElem?_toArray, List.getElem?_cons_zero, List.getElem?_cons_succ] at d5
                      have f5 := HP5.out.blk.frozen 1
                      clear hb5 HRun d4
                      cases hrun : runL lits sq n with
                      | none =>
                        rw [hrun] at hpost
                        obtain ⟨E, hE, rfl⟩ := hpost
                        have HDt := Lib.hid (show R = (5, []) from HD7.out.trans (by rw [hrun]; rfl))
                        have hE' : (E != 0) = true := by simpa using hE
                        have HPt := Lib.hid (HP5.out.setBad true)
                        have HBt := Lib.hid (HB5.out.trans (below_grown (grown_set w5 ⟨w.heap.size, 1, none⟩ (.bool true)) HB5.out.size (fun k hk => by cases hk; exact Nat.le_refl _)))
                        clear hrun HD7
                        go_wp2_with fail
                        go_meet
                        exact ⟨lt, At, ct, true, none, 0, 0, [], rfl, HPt.out, HBt.out, .inl ⟨rfl, HDt.out⟩⟩
                      | some out =>
                        rw [hrun] at hpost
                        obtain ⟨Ao, co, rfl, hown⟩ := hpost
                        have hol := runL_len hrun
                        have HDt := Lib.hid (show R = endL mode n (some (out, lt)) from HD7.out.trans (by rw [hrun]; rfl))
                        have HPt := Lib.hid (HP5.out.setBad false)
                        have HBt := Lib.hid (HB5.out.trans (below_grown (grown_set w5 ⟨w.heap.size, 1, none⟩ (.bool false)) HB5.out.size (fun k hk => by cases hk; exact Nat.le_refl _)))
                        have hsep : bk Ao ≠ some w.heap.size := Own.ne_blk hown HP5.out.blk (by decide)
                        have HOt := Lib.hid (((OwnB.newB hown).mono HB4.out.size).kept (grown_set w5 ⟨w.heap.size, 1, none⟩ (.bool false)) (.inr hsep))
                        clear hrun HD7 hown
                        go_wp2_with fail
                        go_meet
                        exact ⟨lt, At, ct, false, Ao, _, co, out, rfl, HPt.out, HBt.out, .inr ⟨rfl, HDt.out, HOt.out, hsep, by omega⟩⟩
            case rest =>
              obtain ⟨lt, At, ct, bad, Ao, no, co, out, rfl, hpt, hbt, hst⟩ := hcut
              have HPt := Lib.hid hpt
              have HBt := Lib.hid hbt
              have hmt : wc.cell? ⟨b, o, none⟩ = some (.int .u8 (mode.toNat : Int)) := by rw [hbt.cell (by simpa using hbw)]; exact HMC.out
              clear hpt hbt hcx hm2c d2 HD4 HP2 HB2 hA hnil hc hc2 hm1 hm2 hll hk hl2 hA1 hA2 h2 hnm'
              rcases hst with ⟨rfl, hR⟩ | ⟨rfl, hR, hnew, hsep, hno65⟩
              · have HDt := Lib.hid hR
                clear hR hmt
                have HTt := Lib.hid (pk_take_bad w.heap.size ct lt At true 4 _ HPt.out (.inl rfl))
                go_wp2_with fail
                refine HTt.out.mono ?_
                rintro e wu ⟨rfl, hpu, hgu⟩
                have du := hpu.blk.cell 1
                simp only [List.getElem?_toArray, List.getElem?_cons_zero, List.getElem?_cons_succ] at du
                have HBu := Lib.hid (HBt.out.trans (below_grown hgu HBt.out.size (fun k hk => by cases hk; exact Nat.le_refl _)))
                clear hpu hgu
                go_wp2
                go_ret2
                exact unpPost_bad HDt.out HBu.out
              · have HDt := Lib.hid hR
                have HOt := Lib.hid hnew
                clear hR hnew
                have HOUT := Lib.hid HOt.out.1
                rw [endL] at HDt
                by_cases hl4 : lt.length < 4
                · have HDu := Lib.hid (HDt.out.trans (if_pos (.inl (by omega))))
                  have HTt := Lib.hid (pk_take_bad w.heap.size ct lt At false 4 _ HPt.out (.inr (by omega)))
                  clear hl4
                  go_wp2_with fail
                  refine HTt.out.mono ?_
                  rintro e wu ⟨rfl, hpu, hgu⟩
                  have du := hpu.blk.cell 1
                  simp only [List.getElem?_toArray, List.getElem?_cons_zero, List.getElem?_cons_succ] at du
                  have HBu := Lib.hid (HBt.out.trans (below_grown hgu HBt.out.size (fun k hk => by cases hk; exact Nat.le_refl _)))
                  clear hpu hgu
                  go_wp2
                  go_ret2
                  exact unpPost_bad HDu.out HBu.out
                · have HTt := Lib.hid (pk_take_any w.heap.size ct lt At 4 _ HPt.out (by omega))
                  go_wp2_with fail
                  refine HTt.out.mono ?_
                  rintro e wu ⟨rfl, hpu, hgu⟩
                  have du := hpu.blk.cell 1
                  have eu := hpu.blk.cell 0
                  simp only [List.getElem?_toArray, List.getElem?_cons_zero, List.getElem?_cons_succ] at du eu
                  have HBu := Lib.hid (HBt.out.trans (below_grown hgu HBt.out.size (fun k hk => by cases hk; exact Nat.le_refl _)))
                  have HOu := Lib.hid (HOt.out.kept hgu (.inr hsep))
                  have HSu := Lib.hid (Rd.keptB (Bs.take 4 HPt.out.data) hgu (.inr HPt.out.ne) : Bs wu At (lt.take 4))
                  have hs4 : (lt.take 4).length = 4 := by rw [List.length_take]; omega
                  have hmu : wu.cell? ⟨b, o, none⟩ = some (.int .u8 (mode.toNat : Int)) := by
                    rw [← hmt]; exact World.cell?_of_block (hgu.block b (block_lt hmt) (by simp only [ne_eq, Option.some.injEq]; omega))
                  have HLD := Lib.hid (List.length_drop : (lt.drop 4).length = lt.length - 4)
                  clear hpu hgu
                  generalize (lt.drop 4).length = m4 at *
                  have HS40 := Lib.hid hs4
                  clear hs4
                  by_cases hm4 : 0 < m4
                  · have HDu := Lib.hid (HDt.out.trans (if_pos (.inl (by have := HLD.out; omega))))
                    have hm4' : 0 < (m4 : Int) := by omega
                    go_wp2
                    go_ret2
                    exact unpPost_bad HDu.out HBu.out
                  · obtain rfl : m4 = 0 := by omega
                    by_cases hno : no = n
                    · have hno' : ((no : Int) != n) = false := by rw [hno]; simp
                      by_cases hz : n = 0 ∧ mode ≠ 0
                      · have HDu := Lib.hid (HDt.out.trans (if_pos (.inr (.inr hz))))
                        obtain ⟨hz1, hz2⟩ := hz
                        have en : ((n : Int) == 0) = true := by rw [hz1]; rfl
                        have em : ((mode.toNat : Int) != 0) = true := by
                          simp only [bne_iff_ne, ne_eq]
                          exact fun e => hz2 (UInt8.toNat_inj.1 (show mode.toNat = 0 by omega))
                        clear hz1 hz2 hno
                        go_wp2
                        go_ret2
                        exact unpPost_bad HDu.out HBu.out
                      · have HDu := Lib.hid (HDt.out.trans (if_neg (by rintro (h | h | h); (have := HLD.out; omega); exact h (HOUT.out.trans hno); exact hz h)))
                        have HSum := Lib.hid (packSum Ao no co out wu HOUT.out HOu.out.2.1 (by omega))
                        have hcases : ((n : Int) == 0) = true ∧ ((mode.toNat : Int) != 0) = false ∨ ((n : Int) == 0) = false := by
                          by_cases hn0 : n = 0
                          · have hmd : mode = 0 := Decidable.byContradiction fun h => hz ⟨hn0, h⟩
                            exact .inl ⟨by rw [hn0]; rfl, by rw [hmd]; rfl⟩
                          · exact .inr (beq_eq_false_iff_ne.2 (by omega))
                        clear hz hno
                        have HTake := Lib.hid (rfl : lt.take 4 = lt.take 4)
                        generalize hst4 : lt.take 4 = s4 at *
                        have HS4 := Lib.hid (show lt = s4 by
                          rw [← hst4]
                          exact (List.take_of_length_le (by have := HLD.out; omega)).symm)
                        have HSL := Lib.hid HS40.out
                        clear hst4 HTake
                        rcases hcases with ⟨en1, en2⟩ | en1
                        all_goals
                          go_wp2_with fail
                          refine HSum.out.mono ?_
                          rintro e wv ⟨As, cs, rfl, hos, hbv⟩
                          have HEq := Lib.hid (bytesEqual At As 4 ct 4 cs s4 (sumOf out) wv HSL.out rfl (HSu.out.later hbv) (OwnB.bs hos))
                          have HBv := Lib.hid (HBu.out.trans (hbv.mono HBu.out.size))
                          have HOv := Lib.hid (HOu.out.later hbv)
                          clear hos hbv
                          go_wp2_with fail
                          refine HEq.out.mono ?_
                          rintro e wx ⟨rfl, rfl⟩
                          by_cases hss : s4 = sumOf out
                          · have hb : (s4 == sumOf out) = true := by simpa using hss
                            have HDv := Lib.hid (HDu.out.trans (if_pos (by rw [HS4.out]; exact hss)))
                            clear hss
                            go_wp2
                            go_ret2
                            rw [HDv.out]
                            exact ⟨HBv.out, Ao, no, co, rfl, HOv.out⟩
                          · have hb : (s4 == sumOf out) = false := by simpa using hss
                            have HDv := Lib.hid (HDu.out.trans (if_neg (by rw [HS4.out]; exact hss)))
                            clear hss
                            go_wp2
                            go_ret2
                            exact unpPost_bad HDv.out HBv.out
                    · have HDu := Lib.hid (HDt.out.trans (if_pos (.inr (.inl (by rw [HOUT.out]; exact hno)))))
                      have hno' : ((no : Int) != n) = true := by simpa using (by omega : ¬ (no : Int) = n)
                      clear hno
                      go_wp2
                      go_ret2
                      exact unpPost_bad HDu.out HBu.out
end Go.Proofs.YtkneigeejgblkaaGreat

/-
  Plain laws: Unpack's bound; a sum that differs is told.
-/
namespace Go.Proofs.YtkneigeejgblkaaGreat
open Go.RowKit

/-- how Unpack ends: some bytes, of at most so many, or none -/
def FineU (most : Int) (r : Nat × List UInt8) : Prop := (r.1 = 0 → (r.2.length : Int) ≤ most) ∧ (r.1 ≠ 0 → r.2 = [])
theorem FineU.bad {most : Int} {E : Nat} (h : E ≠ 0) : FineU most (E, []) := ⟨fun h0 => absurd h0 h, fun _ => rfl⟩
theorem endL_fine {mode : UInt8} {n : Nat} {most : Int} (hn : (n : Int) ≤ most) (r : Option (List UInt8 × List UInt8)) : FineU most (endL mode n r) := by
  cases r with
  | none => exact FineU.bad (by omega)
  | some p =>
    obtain ⟨out, s⟩ := p
    rw [endL]
    split
    · exact FineU.bad (by omega)
    · rename_i h
      split
      · refine ⟨fun _ => ?_, fun h0 => absurd rfl h0⟩
        show (out.length : Int) ≤ most
        omega
      · exact FineU.bad (by omega)
theorem unpackL_fine (data : List UInt8) (most : Int) : FineU most (unpackL data most) := by
  unfold unpackL
  split
  · exact FineU.bad (by omega)
  · cases data with
    | nil => exact FineU.bad (by omega)
    | cons mode l =>
      rw [modeL]
      split
      · exact FineU.bad (by omega)
      · cases h : pkNum l 4294967295 with
        | none => exact FineU.bad (by omega)
        | some p =>
          obtain ⟨n, k⟩ := p
          rw [numL]
          split
          · exact FineU.bad (by omega)
          · exact endL_fine (by omega) _
end Go.Proofs.YtkneigeejgblkaaGreat

/-
  Walks of the law's helpers: Same; the document's example.
-/
namespace Go.Proofs.YtkneigeejgblkaaGreat
open Go.RowKit

set_option maxHeartbeats 1000000 in
set_option maxRecDepth 10000 in
theorem sameAny (A1 A2 : Option Addr) (n1 c1 n2 c2 : Nat) (l1 l2 : List UInt8) (w : World) (h1 : l1.length = n1) (h2 : l2.length = n2) (hr1 : Bs w A1 l1) (hr2 : Bs w A2 l2) (hn1 : n1 ≤ 9000000000000000000) (hn2 : n2 ≤ 9000000000000000000) :
    Calls Tryz.prog 10 #[.slice A1 n1 c1, .slice A2 n2 c2] w fun e w' => e = .returned (.bool (l1 == l2)) ∧ Below w.heap.size w w' := by
  have HL1 := Lib.hid h1
  have HL2 := Lib.hid h2
  have HR1 := Lib.hid hr1
  have HR2 := Lib.hid hr2
  clear h1 h2 hr1 hr2
  go_enter Tryz.func10, Tryz.ntmps10
  by_cases hn : n1 = n2
  · subst hn
    have g1 : ((n1 : Int) != (n1 : Int)) = false := by simp
    go_wp2_with fail
    go_loopg [5] n1 (fun gg s5 wr => ∃ i : Nat, i ≤ n1 ∧ n1 - i ≤ gg ∧ s5 = .int .i64 (i : Int) ∧ l1.take i = l2.take i ∧ Below w.heap.size w wr)
    case atStart => exact ⟨0, by omega, by omega, rfl, rfl, Below.refl _ _⟩
    case round =>
      obtain ⟨i, hi, hgi, rfl, htk, hb⟩ := hrel
      have HT := Lib.hid htk
      have HB := Lib.hid hb
      clear htk hb
      by_cases hin : i < n1
      · obtain ⟨b1, o1, x, e1, hx, hc1⟩ := HR1.out.at_ (by rw [HL1.out]; exact hin : i < l1.length)
        obtain ⟨b2, o2, y, e2, hy, hc2⟩ := HR2.out.at_ (by rw [HL2.out]; exact hin : i < l2.length)
        subst e1 e2
        have d1 := (HB.out.cell (block_lt hc1)).trans hc1
        have d2 := (HB.out.cell (block_lt hc2)).trans hc2
        have HX := Lib.hid hx
        have HY := Lib.hid hy
        clear hx hy hc1 hc2
        go_wp2_with fail
        by_cases hxy : x = y
        · have g2 : ((x.toNat : Int) != (y.toNat : Int)) = false := by rw [hxy]; simp
          have HT2 := Lib.hid (show l1.take (i + 1) = l2.take (i + 1) by rw [List.take_add_one, List.take_add_one, HT.out, HX.out, HY.out, hxy])
          clear hxy
          go_quiet (fail)
          have HB2 := Lib.hid (HB.out.trans ((below_drewN wr nq).mono HB.out.size))
          go_wp2
          go_roundg (n1 - (i + 1))
          case measure => omega
          case rel => exact ⟨i + 1, by omega, by omega, by go_num, HT2.out, HB2.out⟩
        · have g2 : ((x.toNat : Int) != (y.toNat : Int)) = true := by
            rw [bne_iff_ne]
            intro e
            exact hxy (UInt8.toNat_inj.1 (by omega))
          have HN := Lib.hid (show (l1 == l2) = false by
            rw [beq_eq_false_iff_ne]
            intro e
            have h := HX.out
            rw [e, HY.out] at h
            exact hxy (Option.some.inj h).symm)
          clear hxy
          go_quiet (fail)
          have HB2 := Lib.hid (HB.out.trans ((below_drewN wr nq).mono HB.out.size))
          go_wp2
          go_ret
          exact ⟨by rw [HN.out]; rfl, HB2.out⟩
      · obtain rfl : i = n1 := by omega
        have HE := Lib.hid (show (l1 == l2) = true by
          have h := HT.out
          rw [List.take_of_length_le (by rw [HL1.out]; exact Nat.le_refl _), List.take_of_length_le (by rw [HL2.out]; exact Nat.le_refl _)] at h
          rw [h]; exact beq_self_eq_true _)
        go_wp2
        go_ret
        exact ⟨by rw [HE.out]; rfl, HB.out⟩
  · have g1 : ((n1 : Int) != (n2 : Int)) = true := by rw [bne_iff_ne]; omega
    have HN := Lib.hid (show (l1 == l2) = false by
      rw [beq_eq_false_iff_ne]
      intro e
      have h := HL1.out
      rw [e, HL2.out] at h
      exact hn h.symm)
    go_wp2
    go_ret
    exact ⟨by rw [HN.out]; rfl, Below.refl _ _⟩
end Go.Proofs.YtkneigeejgblkaaGreat

/-
  Plain laws: what Unpack says of what Pack gave; the walk of the document's example.
-/
namespace Go.Proofs.YtkneigeejgblkaaGreat
open Go.RowKit

theorem sumOf_len (d : List UInt8) : (sumOf d).length = 4 := rfl
/-- what is packed is unpacked again -/
theorem unpack_same {d B : List UInt8} (h : BestB d B) (hd : d.length ≤ 65536) {most : Int} (h1 : (d.length : Int) ≤ most) (h2 : most ≤ 65536) : unpackL (B ++ sumOf d) most = (0, d) := by
  obtain ⟨mode, hm, hk⟩ := pack_back h hd (sumOf d)
  rw [hk most (by omega) h2, if_neg (by omega), endL, if_neg, if_pos rfl]
  rintro (h | h | ⟨h, h'⟩)
  · exact h (sumOf_len d)
  · exact h rfl
  · exact h' (hm h)
/-- within less room it is refused -/
theorem unpack_less {d B : List UInt8} (h : BestB d B) (hd : d.length ≤ 65536) {most : Int} (h0 : 0 ≤ most) (h1 : most < (d.length : Int)) : unpackL (B ++ sumOf d) most = (11, []) := by
  obtain ⟨mode, hm, hk⟩ := pack_back h hd (sumOf d)
  rw [hk most h0 (by omega), if_pos h1]
/-- with another tail, that is not of four bytes, it is refused -/
theorem unpack_tail {d B : List UInt8} (h : BestB d B) (hd : d.length ≤ 65536) {tail : List UInt8} (ht : tail.length ≠ 4) : unpackL (B ++ tail) (d.length : Int) = (5, []) := by
  obtain ⟨mode, hm, hk⟩ := pack_back h hd tail
  rw [hk _ (by omega) (by omega), if_neg (by omega), endL, if_pos (.inl ht)]

theorem numB_short {n : Nat} (h : n ≤ 65536) : (numB 5 n).length ≤ 3 := by
  rw [numB]
  split
  · rw [numB]
    split
    · rw [numB, if_neg (by omega)]
      simp
    · simp
  · simp
theorem best_len {d B : List UInt8} (h : BestB d B) (hd : d.length ≤ 65536) : B.length ≤ d.length + 4 := by
  have h3 := numB_short hd
  cases h with
  | raw _ => simp only [List.length_append, List.length_cons]; omega
  | run x h1 _ => simp only [List.length_append, List.length_cons, List.length_nil]; omega
  | packed L b c h0 hL hb hc hlt hrun => omega

abbrev d7 : List UInt8 := [120, 120, 120, 120, 120, 120, 120]
theorem litsB_pos {l B : List UInt8} (h : LitsB l B) : 1 ≤ B.length := by
  rcases h with rfl | ⟨lens, hL, rfl⟩
  · rw [List.length_append, List.length_cons]; omega
  · simp only [List.length_append, List.length_cons]; omega
theorem best7 {B : List UInt8} (h : BestB d7 B) : B = [1, 7, 120] := by
  cases h with
  | raw hr => exact absurd rfl (hr 120 (by decide))
  | run x h1 hx =>
    have e : x = 120 := by
      have h0 := congrArg List.head? hx
      exact (Option.some.inj h0).symm
    subst e
    decide
  | packed L b c h0 hL hb hc hlt hrun =>
    exfalso
    have h1 := hrun 120 (by decide) rfl
    have h2 := litsB_pos hb
    simp only [List.length_append, List.length_cons] at h1
    omega

set_option maxHeartbeats 4000000 in
set_option maxRecDepth 10000 in
theorem lives_any (w : World) : Calls Tryz.prog 11 #[] w fun e w' => e = .returned (.bool true) ∧ Below w.heap.size w w' := by
  have hba := (Below.refl w.heap.size w).alloc (Nat.le_refl _) (.cells (d7.map u8v).toArray 5 (7, 8))
  have hbs : Bs (w.alloc (.cells (d7.map u8v).toArray 5 (7, 8))) (some ⟨w.heap.size, 0, none⟩) d7 := fun _ => ⟨w.heap.size, 0, rfl, fun j _ => by
    rw [Nat.zero_add, World.cell?_alloc_mark]
    simp⟩
  have HBa := Lib.hid hba
  have HP := Lib.hid (packPack (some ⟨w.heap.size, 0, none⟩) 7 7 d7 _ rfl hbs (by omega) (by omega) (by omega) (fun b hb => by cases hb; simp))
  have kc := fun (w : World) (C : Array Value) (n c : Nat) => Lib.run_convert_bytes_const (P := Tryz.prog) w 22 5 C n c Tryz.underlying22 Tryz.underlying5
  clear hba hbs
  go_enter Tryz.func11, Tryz.ntmps11
  go_wp2_with fail
  refine HP.out.mono ?_
  rintro e w1 ⟨S1, m1, c1, B, rfl, hown1, hbest, hb1⟩
  have hB7 := best7 hbest
  have hm1 := OwnB.length hown1
  subst hB7
  obtain rfl : m1 = 7 := hm1.symm
  have HB1 := Lib.hid (HBa.out.trans (hb1.mono HBa.out.size))
  have HO1 := Lib.hid hown1
  obtain ⟨h0, -⟩ | ⟨g, rfl, hg1, hg2, hcap, hcap2⟩ := Own.form hown1
  · exfalso
    obtain ⟨b, o, e, -⟩ := OwnB.bs hown1 (by decide)
    rw [h0] at e; cases e
  have HU1 := Lib.hid (packUnpack (some ⟨g, 0, none⟩) 7 c1 _ 7 w1 rfl (OwnB.bs hown1) (by omega) hcap hcap2 (fun h => by cases h) (fun b hb => by cases hb; exact hg2) (by omega) (by omega))
  have e1 := unpack_same hbest (by decide) (most := 7) (by decide) (by omega)
  have e2 := unpack_less hbest (by decide) (most := 6) (by omega) (by decide)
  rw [e1] at HU1
  have HE2 := Lib.hid e2
  have HG := Lib.hid hg2
  clear hown1 hbest hb1 HP HBa e1 e2 hg1 hg2
  go_wp2_with fail
  refine HU1.out.mono ?_
  rintro e w2 ⟨hb2, A2, n2, c2, rfl, hnew2⟩
  have hn2 : n2 = 7 := hnew2.1.symm
  subst hn2
  have HO2 := Lib.hid (Own.later HO1.out hb2)
  have HN2 := Lib.hid hnew2
  have hs1 := HB1.out.size
  have HB2 := Lib.hid (HB1.out.trans (hb2.mono hs1))
  have HU2 := Lib.hid (packUnpack (some ⟨g, 0, none⟩) 7 c1 _ 6 w2 rfl (OwnB.bs HO2.out) (by omega) hcap hcap2 (fun h => by cases h) (fun b hb => by cases hb; exact Nat.lt_of_lt_of_le HG.out hb2.size) (by omega) (by omega))
  rw [HE2.out] at HU2
  clear hb2 hnew2 HU1 HO1 HB1
  go_wp2_with fail
  refine HU2.out.mono ?_
  rintro e w3 ⟨hb3, A3, n3, c3, rfl, hnew3⟩
  have HN3 := Lib.hid (HN2.out.later hb3)
  have hbs3 := OwnB.bs (Own.later HO2.out hb3)
  have hs2 := HB2.out.size
  have HB3 := Lib.hid (HB2.out.trans (hb3.mono hs2))
  obtain ⟨g', o', e, hc⟩ := hbs3 (by decide)
  cases e
  have c0 : w3.cell? ⟨g, 0, none⟩ = some (.int .u8 1) := (hc 0 (by decide)).trans rfl
  have c1' : w3.cell? ⟨g, 1, none⟩ = some (.int .u8 7) := (hc 1 (by decide)).trans rfl
  have c2' : w3.cell? ⟨g, 2, none⟩ = some (.int .u8 120) := (hc 2 (by decide)).trans rfl
  have hcv : (convert 22 9 (.slice A2 7 c2)).run Tryz.prog w3 = .ok (.string ⟨#[120, 120, 120, 120, 120, 120, 120]⟩) w3 := by
    have hbi : Lib.BytesIn w3 A2 7 (Lib.numsL d7) := by
      intro h0
      obtain ⟨b, o, e, hc⟩ := HN3.out.2.1 (by decide)
      refine ⟨b, o, e, fun i hi => ?_⟩
      rw [hc i hi]
      have : i = 0 ∨ i = 1 ∨ i = 2 ∨ i = 3 ∨ i = 4 ∨ i = 5 ∨ i = 6 := by omega
      rcases this with rfl | rfl | rfl | rfl | rfl | rfl | rfl <;> rfl
    exact hbi.convert rfl c2 22 5 9 Tryz.underlying22 Tryz.underlying5 Tryz.underlying9
  clear hc hb3 hnew3 HU2 HN2 HN3 HO2 HB2 HE2 HG kc
  go_wp2
  go_ret
  exact ⟨rfl, HB3.out⟩
end Go.Proofs.YtkneigeejgblkaaGreat

/-
  Walks of the laws PackBound and PackStays.
-/
namespace Go.Proofs.YtkneigeejgblkaaGreat
open Go.RowKit

set_option maxHeartbeats 4000000 in
set_option maxRecDepth 10000 in
theorem lawBound (A : Option Addr) (n c : Nat) (data : List UInt8) (most : Int) (w : World) (hl : data.length = n) (hr : Bs w A data) (hn : n ≤ 140737488351232) (hc : n ≤ c) (hc2 : c ≤ 9223372036854775807) (hnil : A = none → c = 0)
    (hA : ∀ b, bk A = some b → b < w.heap.size) (hm1 : -9223372036854775808 ≤ most) (hm2 : most ≤ 9223372036854775807) :
    Calls Tryz.prog 5 #[.slice A n c, .int .i64 most] w fun e w' => e = .returned (.bool true) ∧ Below w.heap.size w w' := by
  obtain ⟨R, hR⟩ : ∃ R, R = unpackL data most := ⟨_, rfl⟩
  have HU := Lib.hid (packUnpack A n c data most w hl hr hn hc hc2 hnil hA hm1 hm2)
  have hfine := unpackL_fine data most
  rw [← hR] at HU hfine
  clear hl hr hR hn hc hc2 hnil hA
  go_enter Tryz.func5, Tryz.ntmps5
  go_wp2_with fail
  refine HU.out.mono ?_
  rintro e w1 ⟨hb1, A1, n1, c1, rfl, hnew1⟩
  have hn1 : R.2.length = n1 := hnew1.1
  have HB1 := Lib.hid hb1
  have HLv := Lib.hid (lives_any w1)
  have hs1 := hb1.size
  obtain ⟨E, hE⟩ : ∃ E, E = R.1 := ⟨_, rfl⟩
  obtain ⟨hf1, hf2⟩ := hfine
  rw [← hE] at hf1 hf2 ⊢
  clear hb1 hnew1 HU
  by_cases h0 : E = 0
  · have hle := hf1 h0
    rw [hn1] at hle
    subst h0
    have g1 : decide ((n1 : Int) ≤ most) = true := decide_eq_true hle
    clear hf1 hf2 hE
    go_wp2_with fail
    refine HLv.out.mono ?_
    rintro e w2 ⟨rfl, hb2⟩
    go_wp2
    go_ret
    exact ⟨rfl, HB1.out.trans (hb2.mono hs1)⟩
  · have hn0 := hf2 h0
    rw [hn0] at hn1
    obtain rfl : n1 = 0 := hn1.symm
    have g1 : ((E : Int) == 0) = false := beq_eq_false_iff_ne.2 (by omega)
    have g2 : ((E : Int) != 0) = true := bne_iff_ne.2 (by omega)
    clear hf1 hf2 hE h0 hn0
    go_wp2_with fail
    refine HLv.out.mono ?_
    rintro e w2 ⟨rfl, hb2⟩
    go_wp2
    go_ret
    exact ⟨rfl, HB1.out.trans (hb2.mono hs1)⟩
end Go.Proofs.YtkneigeejgblkaaGreat

/-
  What the claims of this chapter share: bytes that come in, the posts, the witness's world.
-/
namespace Go.Proofs.YtkneigeejgblkaaGreat
open Go.ChangeShapes Go.WideShapes Go.ChangeAt Go.RowKit
open Go.ChangeMaps (setBlock shut_map_nil open_string shut_string keptBut_setBlock frozen?_setBlock heap_setBlock_same)

theorem own : ownKnob Tryz.prog.godebug = none := by kernel_rfl

/-- A WORLD FOR THE WITNESS: the settled one. -/
noncomputable def laidWorld (os : Os) : World := World.holding Tryz.prog os ⟨#[], #[], []⟩

/-- the law's post where nothing that was there has turned (the arguments read in old memory) -/
theorem post_kept2 {H : Type} {enc : TypeId × Value → H} {f : Func} {s : ChangeSpec} {W W' : World} {args : Array Value} {v : Value} {ds : List (DataW H)} {before : List MemPlace}
    (hW : DataW.Whole enc Tryz.prog f.params.toList s.vars false W args.toList ds [] before) (hv : s.vars = [])
    (hres : ∀ (b : Nat) (sp : Nat → Bool) (hd : Bool), DataW.TrodAll enc Tryz.prog W' b sp hd f.resultTypes.toList (v.resultList f.resultTypes.size) (s.fn H (ds ++ [])).results [])
    (hargs : DataW.TrodAll enc Tryz.prog W' 0 (fun b => decide (b < W.heap.size)) true f.params.toList args.toList (s.fn H (ds ++ [])).args before)
    (hvars : (s.fn H (ds ++ [])).vars = []) (hb : Below W.heap.size W W') :
    s.post enc Tryz.prog f false true false false W args v W' := by
  refine ⟨ds, [], before, [], before, [], hW, hres _ _ _, hargs, ?_, hb.frame _ |> World.keptBut_mono (fun p hp => ⟨hp, .inr (.inl hp)⟩), fun h => by cases h⟩
  rw [hv, hvars]
  exact rfl

theorem cells_u8 : Tryz.prog.cellsOf 5 = 1 := by kernel_rfl
theorem laidOut : laidOutB Tryz.prog = true := by kernel_rfl
theorem readable_bytes : Tryz.prog.readableRec 22 = true := by kernel_rfl
theorem row_bytes : (22 : Nat) < Tryz.prog.types.size := of_decide_eq_true (by kernel_rfl)

theorem bulk_one {H : Type} (d : DataW H) : 1 ≤ Rows.uptoBulk d := by
  cases d with
  | lit l => cases l <;> simp [Rows.uptoBulk]
  | nil => simp [Rows.uptoBulk]
  | ptr d => simp [Rows.uptoBulk]
  | slice elems spare => simp [Rows.uptoBulk]
  | agg parts => simp [Rows.uptoBulk]
  | iface t d => simp [Rows.uptoBulk]
  | map entries => simp [Rows.uptoBulk]
  | held h => simp [Rows.uptoBulk]
theorem bulk_many {H : Type} (l : List (DataW H)) : l.length ≤ Rows.uptoBulkAll l := by
  induction l with
  | nil => simp [Rows.uptoBulkAll]
  | cons x r ih => have := bulk_one x; simp only [Rows.uptoBulkAll, List.length_cons]; omega
theorem bulk_bound {H : Type} {l : List (DataW H)} (hk : Rows.uptoSmall H l = true) : Rows.uptoBulkAll l ≤ 1048576 := of_decide_eq_true hk

set_option maxRecDepth 100000 in
/-- bytes that come in -/
theorem open_bytes {H : Type} {enc : TypeId × Value → H} {W : World} {base : Nat} {v : Value} {d : DataW H} {p : List MemPlace} (hval : Value.okWide Tryz.prog W .any base 22 v) (h : DataW.Trod enc Tryz.prog W 0 (fun _ => true) true 22 v d p) :
    ∃ A n c l, v = .slice A n c ∧ l.length = n ∧ Bs W A l ∧ n ≤ c ∧ c ≤ 9223372036854775807 ∧ (A = none → c = 0) ∧ (∀ b, bk A = some b → b < W.heap.size) ∧ n ≤ Rows.uptoBulk d := by
  obtain ⟨a0, len, cap, rfl⟩ := okWide_slice Tryz.underlying22 hval
  obtain ⟨fuel, hf⟩ := h
  have hA : ∀ b, bk a0 = some b → b < W.heap.size := by
    intro b hb
    cases a0 with
    | none => cases hb
    | some a =>
      cases hb
      simp only [Value.okWide, Tryz.underlying22, Cell.okWide, Cell.ok] at hval
      obtain ⟨-, -, -, -, row, cells, hs, -⟩ := hval
      unfold World.shape? at hs
      rcases Nat.lt_or_ge a.block W.heap.size with h | h
      · exact h
      · rw [Array.getElem?_eq_none h] at hs; cases hs
  rcases open_ints Tryz.underlying22 Tryz.underlying5 cells_u8 hf with ⟨hcs, hx⟩ | ⟨a, len', cap', zs, hcs, _, hl, hmx, hz, hx, hcell, hwf⟩
  · simp [Value.cells] at hcs
    obtain ⟨rfl, rfl, rfl⟩ := hcs
    exact ⟨none, 0, 0, [], rfl, rfl, Rd.nil _ _, by omega, by omega, fun _ => rfl, hA, by omega⟩
  · simp [Value.cells] at hcs
    obtain ⟨rfl, rfl, rfl⟩ := hcs
    simp only [Prod.mk.injEq] at hx
    obtain ⟨rfl, -⟩ := hx
    simp only [if_true] at hz
    unfold maxLen at hmx
    refine ⟨some a, len, cap, (zs.take len).map (fun z => UInt8.ofNat z.toNat), rfl, by rw [List.length_map, List.length_take]; omega, ?_, hl, by omega, fun h => (by cases h), hA, ?_⟩
    · intro h0
      rw [List.length_map, List.length_map, List.length_take] at h0
      obtain ⟨b, off, spot⟩ := a
      have hspot : spot = none := by simpa [Addr.add] using World.cell?_spot (hcell 0 (by omega))
      subst hspot
      refine ⟨b, off, rfl, fun j hj => ?_⟩
      rw [List.length_map, List.length_map, List.length_take] at hj
      have hc := hcell j (by omega)
      have e : (⟨b, off, none⟩ : Addr).add j = ⟨b, off + j, none⟩ := by unfold Addr.add; split <;> simp_all
      rw [e] at hc
      have hjz : j < zs.length := by omega
      have hw := hwf _ (List.getElem_mem hjz)
      simp only [Lit.wf, Bool.and_eq_true, decide_eq_true_eq] at hw
      have h1 : (0 : Int) ≤ zs[j] := hw.1
      have h2 : zs[j] ≤ 255 := hw.2
      rw [hc]
      simp only [List.getElem?_map, List.getElem?_take, List.getD, List.getElem?_eq_getElem hjz, Option.getD_some]
      rw [if_pos (by omega)]
      simp only [Option.map_some, u8v, UInt8.toNat_ofNat']
      congr 2
      omega
    · have h1 := bulk_many (H := H) (lits .u8 (zs.take len))
      simp only [lits, List.length_map, List.length_take] at h1
      simp only [Rows.uptoBulk, lits]
      omega
end Go.Proofs.YtkneigeejgblkaaGreat

/-
  Walk of the law PackRound.
-/
namespace Go.Proofs.YtkneigeejgblkaaGreat
open Go.RowKit

set_option maxHeartbeats 4000000 in
theorem packBig2 (A : Option Addr) (n c : Nat) (w : World) (hn : 65536 < n) (hn2 : n ≤ 9223372036854775807) :
    Calls Tryz.prog 8 #[.slice A n c] w fun e w' => e = .returned (.tuple #[.slice none 0 0, .int .i64 1]) ∧ Below w.heap.size w w' := by
  have g1 : decide ((65536 : Int) < (n : Int)) = true := decide_eq_true (by omega)
  go_enter Tryz.func8, Tryz.ntmps8
  go_wp2
  go_ret2
  exact ⟨rfl, (Below.refl _ _).alloc (Nat.le_refl _) _⟩

set_option maxHeartbeats 4000000 in
set_option maxRecDepth 10000 in
theorem lawRound (A : Option Addr) (n c : Nat) (d : List UInt8) (more : UInt8) (w : World) (hl : d.length = n) (hr : Bs w A d) (hc : n ≤ c) (hc2 : c ≤ 9223372036854775807) (hnil : A = none → c = 0)
    (hA : ∀ b, bk A = some b → b < w.heap.size) :
    Calls Tryz.prog 4 #[.slice A n c, .int .u8 (more.toNat : Int)] w fun e w' => e = .returned (.bool true) ∧ Below w.heap.size w w' := by
  by_cases hn : 65536 < n
  · have HP := Lib.hid (packBig2 A n c w hn (by omega))
    have g1 : decide ((65536 : Int) < (n : Int)) = true := decide_eq_true (by omega)
    clear hl hr hnil hA
    go_enter Tryz.func4, Tryz.ntmps4
    go_wp2_with fail
    refine HP.out.mono ?_
    rintro e w1 ⟨rfl, hb1⟩
    have HB1 := Lib.hid hb1
    have HLv := Lib.hid (lives_any w1)
    have hs1 := hb1.size
    clear hb1 HP
    go_wp2_with fail
    refine HLv.out.mono ?_
    rintro e w2 ⟨rfl, hb2⟩
    go_wp2
    go_ret
    exact ⟨rfl, HB1.out.trans (hb2.mono hs1)⟩
  · have hn : n ≤ 65536 := by omega
    have HL := Lib.hid hl
    have HR := Lib.hid hr
    have HP := Lib.hid (packPack A n c d w hl hr hn hc hc2 hA)
    have g1 : decide ((65536 : Int) < (n : Int)) = false := decide_eq_false (by omega)
    clear hl hr hnil hA
    go_enter Tryz.func4, Tryz.ntmps4
    go_wp2_with fail
    refine HP.out.mono ?_
    rintro e w1 ⟨S1, m1, c1, B, rfl, hown1, hbest, hb1⟩
    have hm1 := OwnB.length hown1
    have hbl := best_len hbest (by rw [HL.out]; exact hn)
    have hmn := hm1
    rw [List.length_append, sumOf_len] at hmn
    rw [HL.out] at hbl
    have HO1 := Lib.hid hown1
    have HB1 := Lib.hid hb1
    have HBest := Lib.hid hbest
    obtain ⟨h0, h0', -⟩ | ⟨g, rfl, hg1, hg2, hcap, hcap2⟩ := Own.form hown1
    · exfalso; omega
    have hdl : d.length ≤ 65536 := by rw [HL.out]; exact hn
    have HU1 := Lib.hid (packUnpack (some ⟨g, 0, none⟩) m1 c1 _ (n : Int) w1 hm1 (OwnB.bs hown1) (by omega) hcap hcap2 (fun h => by cases h) (fun b hb => by cases hb; exact hg2) (by omega) (by omega))
    rw [unpack_same hbest hdl (by rw [HL.out]; exact Int.le_refl _) (by omega)] at HU1
    have HG := Lib.hid hg2
    clear hown1 hbest hb1 HP hg1 hg2
    go_wp2_with fail
    refine HU1.out.mono ?_
    rintro e w2 ⟨hb2, A2, n2, c2, rfl, hnew2⟩
    have hn2 : n2 = n := hnew2.1.symm.trans HL.out
    subst hn2
    have hs1 := HB1.out.size
    have HO2 := Lib.hid (Own.later HO1.out hb2)
    have HB2 := Lib.hid (HB1.out.trans (hb2.mono hs1))
    have HG2 := Lib.hid (Nat.lt_of_lt_of_le HG.out hb2.size)
    have HSm := Lib.hid (sameAny A2 A n2 c2 n2 c d d w2 HL.out HL.out hnew2.2.1 (HR.out.later HB2.out) (by omega) (by omega))
    rw [beq_self_eq_true] at HSm
    clear hb2 hnew2 HU1 HO1 HB1 HG
    go_wp2_with fail
    refine HSm.out.mono ?_
    rintro e w3 ⟨rfl, hb3⟩
    have hs2 := HB2.out.size
    have HO3 := Lib.hid (Own.later HO2.out hb3)
    have HB3 := Lib.hid (HB2.out.trans (hb3.mono hs2))
    have HG3 := Lib.hid (Nat.lt_of_lt_of_le HG2.out hb3.size)
    have g2 : decide ((n2 : Int) + 8 < (m1 : Int)) = false := decide_eq_false (by omega)
    have HU3 := Lib.hid (packUnpack (some ⟨g, 0, none⟩) m1 c1 _ ((n2 : Int) - 1) w3 hm1 (OwnB.bs HO3.out) (by omega) hcap hcap2 (fun h => by cases h) (fun b hb => by cases hb; exact HG3.out) (by omega) (by omega))
    obtain ⟨R, hR⟩ : ∃ R, R = unpackL (B ++ sumOf d) ((n2 : Int) - 1) := ⟨_, rfl⟩
    rw [← hR] at HU3
    have HRr := Lib.hid hR
    clear hb3 HSm HO2 HB2 HG2 hR
    go_wp2_with fail
    refine HU3.out.mono ?_
    rintro e w4 ⟨hb4, A4, n4, c4, rfl, hnew4⟩
    have hs3 := HB3.out.size
    have HO4 := Lib.hid (Own.later HO3.out hb4)
    have HB4 := Lib.hid (HB3.out.trans (hb4.mono hs3))
    have HG4 := Lib.hid (Nat.lt_of_lt_of_le HG3.out hb4.size)
    clear hb4 hnew4 HU3 HO3 HB3 HG3
    obtain ⟨k, rfl⟩ : ∃ k, m1 = k + 1 := ⟨B.length + 3, by omega⟩
    have hbk : B.length + 3 = k := by omega
    have htk : (B ++ sumOf d).take k = B ++ (sumOf d).take 3 := by
      rw [← hbk]; exact List.take_length_add_append 3
    have hlk : ((B ++ sumOf d).take k).length = k := by rw [List.length_take, hm1]; omega
    have e5 : unpackL ((B ++ sumOf d).take k) (n2 : Int) = (5, []) := by
      rw [htk]
      have h := unpack_tail HBest.out hdl (tail := (sumOf d).take 3) (by rw [List.length_take, sumOf_len]; decide)
      rw [HL.out] at h; exact h
    have HU5 := Lib.hid (packUnpack (some ⟨g, 0, none⟩) k c1 _ (n2 : Int) w4 hlk (Bs.take k (OwnB.bs HO4.out)) (by omega) (by omega) hcap2 (fun h => by cases h) (fun b hb => by cases hb; exact HG4.out) (by omega) (by omega))
    rw [e5] at HU5
    have e6 : unpackL (B ++ sumOf d ++ [more]) (n2 : Int) = (5, []) := by
      rw [List.append_assoc]
      have h := unpack_tail HBest.out hdl (tail := sumOf d ++ [more]) (by rw [List.length_append, sumOf_len]; simp)
      rw [HL.out] at h; exact h
    have HE6 := Lib.hid e6
    have h9 : decide (0 < n2) = false ∨ (decide (0 < n2) = true ∧ R.1 = 11) := by
      rcases Nat.eq_zero_or_pos n2 with h | h
      · exact .inl (decide_eq_false (by omega))
      · refine .inr ⟨decide_eq_true (by omega), ?_⟩
        rw [HRr.out, unpack_less HBest.out hdl (by omega) (by rw [HL.out]; omega)]
    have hkb : k ≤ 70000 := by omega
    clear HRr htk e5 e6 hlk hm1 hmn g2 hbl hbk
    obtain ⟨E, hE⟩ : ∃ E, E = R.1 := ⟨_, rfl⟩
    rw [← hE] at h9 ⊢
    clear hE
    have hs4 := HB4.out.size
    rcases h9 with h9 | ⟨h9, rfl⟩
    all_goals
      go_wp2_with (with_reducible refine wpList_slice_hi ?g ?s ?h elemB ?ho (some ⟨g, 0, none⟩) (k + 1) c1 k ?hs ?hh ?hk ?_; (case ho => exact rfl); (case g => exact rfl); (case hs => simp [Act.eval]); (case hh => simp [Act.eval]); (case hk => omega))
      refine HU5.out.mono ?_
      rintro e w5 ⟨hb5, A5, n5, c5, rfl, hnew5⟩
      have HO5 := Lib.hid (Own.later HO4.out hb5)
      have HB5 := Lib.hid (HB4.out.trans (hb5.mono hs4))
      clear hb5 hnew5 HU5 HO4 HB4 HG4
      go_wp2_with (at_builtin; refine wpList_append_one rfl _ _ elemB rfl w.heap.size (some ⟨g, 0, none⟩) (k + 1) c1 ((B ++ sumOf d).map u8v) w5 (.int .u8 (more.toNat : Int)) rfl ?hs HO5.out ?hx rfl ?d1 ?d2 ?d3 ?_; (case hs => simp [Act.eval]); (case hx => simp [Act.eval]))
      case d1 => omega
      case d2 => omega
      case d3 => exact HB5.out.size
      intro A6 c6 w6 hown6 hb6 hg6 hat6
      have HO6 := Lib.hid (show OwnB w6 w.heap.size A6 (k + 1 + 1) c6 (B ++ sumOf d ++ [more]) from by unfold OwnB; simp only [List.map_append, List.append_assoc] at hown6 ⊢; exact hown6)
      have HB6 := Lib.hid (HB5.out.trans hb6)
      have hl6 := OwnB.length HO6.out
      obtain ⟨h0, h0', -⟩ | ⟨g6, rfl, hg61, hg62, hcap6, hcap62⟩ := Own.form HO6.out
      · exfalso; omega
      have HU6 := Lib.hid (packUnpack (some ⟨g6, 0, none⟩) (k + 1 + 1) c6 _ (n2 : Int) w6 hl6 (OwnB.bs HO6.out) (by omega) hcap6 hcap62 (fun h => by cases h) (fun b hb => by cases hb; exact hg62) (by omega) (by omega))
      rw [HE6.out] at HU6
      have hs6 := HB6.out.size
      clear hown6 hb6 hg6 hat6 HO5 HB5 hg61 hg62
      go_wp2_with fail
      refine HU6.out.mono ?_
      rintro e w7 ⟨hb7, A7, n7, c7, rfl, hnew7⟩
      have HB7 := Lib.hid (HB6.out.trans (hb7.mono hs6))
      have HLv := Lib.hid (lives_any w7)
      have hs7 := HB7.out.size
      clear hb7 hnew7 HU6 HO6 HB6
      go_wp2_with fail
      refine HLv.out.mono ?_
      rintro e w8 ⟨rfl, hb8⟩
      go_wp2
      go_ret
      exact ⟨rfl, HB7.out.trans (hb8.mono hs7)⟩
end Go.Proofs.YtkneigeejgblkaaGreat

/-
  Walk of the law PackStays.
-/
namespace Go.Proofs.YtkneigeejgblkaaGreat
open Go.RowKit

/-- bytes that may be written -/
def Wb (w : World) (b o n : Nat) : Prop := ∀ j, j < n → ∃ y : UInt8, w.cell? ⟨b, o + j, none⟩ = some (.int .u8 (y.toNat : Int)) ∧ w.frozen? ⟨b, o + j, none⟩ = false
theorem Wb.set {w : World} {b o n : Nat} (h : Wb w b o n) (i : Nat) (x : UInt8) : Wb (w.setCell ⟨b, o + i, none⟩ (.int .u8 (x.toNat : Int))) b o n := by
  intro j hj
  obtain ⟨y, h1, h2⟩ := h j hj
  by_cases e : i = j
  · subst e
    exact ⟨x, World.cell?_setCell_same' w _ _ (by rw [h1]; rfl), by rw [World.frozen?_setCell]; exact h2⟩
  · refine ⟨y, ?_, by rw [World.frozen?_setCell]; exact h2⟩
    exact (World.cell?_setCell_other w _ _ _ (by intro e2; injection e2 with e3 e4; omega)).trans h1
theorem Wb.other {w : World} {b o n b' o' : Nat} (h : Wb w b o n) (hne : b' ≠ b) (v : Value) : Wb (w.setCell ⟨b', o', none⟩ v) b o n := by
  intro j hj
  obtain ⟨y, h1, h2⟩ := h j hj
  refine ⟨y, ?_, by rw [World.frozen?_setCell]; exact h2⟩
  exact (World.cell?_setCell_other w _ _ _ (by intro e2; injection e2 with e3 e4; exact hne e3)).trans h1
theorem Wb.later {w w' : World} {b o n : Nat} (h : Wb w b o n) (hb : Below w.heap.size w w') : Wb w' b o n := by
  intro j hj
  obtain ⟨y, h1, h2⟩ := h j hj
  have hlt := block_lt h1
  refine ⟨y, (hb.cell hlt).trans h1, ?_⟩
  rw [← h2]
  unfold World.frozen?
  rw [hb.block b hlt]
def WrB (w : World) (base : Nat) (A : Option Addr) (m : Nat) : Prop := m ≤ 1000000000 ∧ (0 < m → ∃ b o, A = some ⟨b, o, none⟩ ∧ base ≤ b ∧ Wb w b o m)
theorem WrB.later {w w' : World} {base m : Nat} {A : Option Addr} (h : WrB w base A m) (hb : Below w.heap.size w w') : WrB w' base A m :=
  ⟨h.1, fun h0 => by obtain ⟨b, o, e, h1, h2⟩ := h.2 h0; exact ⟨b, o, e, h1, h2.later hb⟩⟩

theorem packAny (A : Option Addr) (n c : Nat) (d : List UInt8) (w : World) (hl : d.length = n) (hr : Bs w A d) (hn : n ≤ 1048576) (hc : n ≤ c) (hc2 : c ≤ 9223372036854775807) (hA : ∀ b, bk A = some b → b < w.heap.size) :
    Calls Tryz.prog 8 #[.slice A n c] w fun e w' => ∃ S m cs E, e = .returned (.tuple #[.slice S m cs, .int .i64 E]) ∧ WrB w' w.heap.size S m ∧ Below w.heap.size w w' := by
  by_cases h : 65536 < n
  · refine (packBig2 A n c w h (by omega)).mono ?_
    rintro e w' ⟨rfl, hb⟩
    exact ⟨none, 0, 0, 1, rfl, ⟨by omega, fun h0 => by omega⟩, hb⟩
  · refine (packPack A n c d w hl hr (by omega) hc hc2 hA).mono ?_
    rintro e w' ⟨S, m, cs, B, rfl, hown, hbest, hb⟩
    have hm := OwnB.length hown
    have hbl := best_len hbest (by omega)
    rw [List.length_append, sumOf_len] at hm
    refine ⟨S, m, cs, 0, rfl, ⟨by omega, fun h0 => ?_⟩, hb⟩
    obtain ⟨h0', h1, -⟩ | ⟨g, rfl, hg1, -⟩ := Own.form hown
    · omega
    · refine ⟨g, 0, rfl, hg1, fun j hj => ?_⟩
      obtain ⟨g', x, e, -, -, hx, hcl, hfr⟩ := Own.at_ hown hj
      cases e
      rw [List.getElem?_map] at hx
      cases hq : (B ++ sumOf d)[j]? with
      | none => rw [hq] at hx; cases hx
      | some q =>
        rw [hq] at hx
        have hx := Option.some.inj hx
        subst hx
        rw [Nat.zero_add]
        exact ⟨q, hcl, hfr⟩
theorem unpackAny (A : Option Addr) (n c : Nat) (d : List UInt8) (w : World) (hl : d.length = n) (hr : Bs w A d) (hn : n ≤ 1048576) (hc : n ≤ c) (hc2 : c ≤ 9223372036854775807) (hnil : A = none → c = 0) (hA : ∀ b, bk A = some b → b < w.heap.size) :
    Calls Tryz.prog 12 #[.slice A n c, .int .i64 65536] w fun e w' => ∃ S m cs E, e = .returned (.tuple #[.slice S m cs, .int .i64 E]) ∧ WrB w' w.heap.size S m ∧ Below w.heap.size w w' := by
  refine (packUnpack A n c d 65536 w hl hr (by omega) hc hc2 hnil hA (by omega) (by omega)).mono ?_
  rintro e w' ⟨hb, S, m, cs, rfl, h1, h2, h3, h4, h5, h6⟩
  have hf := unpackL_fine d 65536
  refine ⟨S, m, cs, _, rfl, ⟨?_, fun h0 => ?_⟩, hb⟩
  · by_cases h0 : (unpackL d 65536).1 = 0
    · have := hf.1 h0; omega
    · rw [hf.2 h0] at h1; simp at h1; omega
  · obtain ⟨b, o, e, hc⟩ := h2 (by rw [List.length_map]; omega)
    subst e
    refine ⟨b, o, rfl, (h3 b rfl).1, fun j hj => ?_⟩
    have hc := hc j (by rw [List.length_map]; omega)
    rw [List.getElem?_map, List.getElem?_eq_getElem (by omega)] at hc
    exact ⟨_, hc, h6 b o rfl j⟩

theorem u8_next (y : UInt8) : ((y.toNat : Int) + 1) % 256 = (((y + 1).toNat : Nat) : Int) := by
  rw [UInt8.toNat_add]
  have : (1 : UInt8).toNat = 1 := rfl
  rw [this]
  omega

set_option maxHeartbeats 4000000 in
set_option maxRecDepth 10000 in
theorem lawStays (A : Option Addr) (n c : Nat) (d : List UInt8) (w : World) (hl : d.length = n) (hr : Bs w A d) (hn : n ≤ 1048576) :
    Calls Tryz.prog 7 #[.slice A n c] w fun e w' => e = .returned (.bool true) ∧ Below w.heap.size w w' := by
  have HL := Lib.hid hl
  have HR := Lib.hid hr
  clear hl hr
  go_enter Tryz.func7, Tryz.ntmps7
  go_wp2_with (at_builtin; refine wpList_append_rd rfl _ _ elemB rfl w.heap.size none 0 0 [] rfl (Own.nil _ _ _) A n c (d.map u8v) rfl ?a1 ?a2 (u8_one _) ?a3 ?a4 ?a5 ?_)
  case a1 => exact HR.out
  case a2 => rw [List.length_map]; exact HL.out
  case a3 => omega
  case a4 => omega
  case a5 => omega
  intro A1 c1 w1 hown1 hb1 hg1 hat1
  have HO1 := Lib.hid (show OwnB w1 w.heap.size A1 n c1 d from hown1)
  have HB1 := Lib.hid hb1
  obtain ⟨hcap, hcap2⟩ := Own.cap hown1
  have hnil1 : A1 = none → c1 = 0 := by
    intro h
    obtain ⟨-, -, h2, -⟩ | ⟨g, h2, -⟩ := Own.form hown1
    · exact h2
    · rw [h] at h2; cases h2
  have HP := Lib.hid (packAny A1 n c1 d w1 HL.out (OwnB.bs hown1) hn hcap hcap2 (fun b hb => (Own.lt hown1 hb).2))
  have HLt := Lib.hid (fun b (hb : bk A1 = some b) => (Own.lt hown1 hb).2)
  clear hown1 hb1 hg1 hat1
  go_wp2_with fail
  refine HP.out.mono ?_
  rintro e w2 ⟨S2, m2, c2, E2, rfl, hwr2, hb2⟩
  have HW2 := Lib.hid hwr2
  have HB2 := Lib.hid hb2
  have HU := Lib.hid (unpackAny A1 n c1 d w2 HL.out ((OwnB.bs HO1.out).later hb2) hn hcap hcap2 hnil1 (fun b hb => Nat.lt_of_lt_of_le (HLt.out b hb) hb2.size))
  have hm2 := hwr2.1
  have HT2 := Lib.hid (show ∀ b, bk S2 = some b → 0 < m2 → b < w2.heap.size from fun b hb h0 => by
    obtain ⟨b', o, e, -, hw⟩ := hwr2.2 h0
    subst e
    cases hb
    obtain ⟨y, h1, -⟩ := hw 0 h0
    exact block_lt h1)
  clear hwr2 hb2 HP
  go_wp2_with fail
  refine HU.out.mono ?_
  rintro e w3 ⟨S3, m3, c3, E3, rfl, hwr3, hb3⟩
  have hs2 := HB2.out.size
  have HW3 := Lib.hid (HW2.out.later hb3)
  have HV3 := Lib.hid hwr3
  have HB3 := Lib.hid (HB2.out.trans (hb3.mono hs2))
  have hm3 := hwr3.1
  have h23 := hb3.size
  clear hwr3 hb3 HU HW2 HB2
  go_wp2_with fail
  go_loopg [8] m2 (fun gg s8 wr => ∃ i : Nat, i ≤ m2 ∧ m2 - i ≤ gg ∧ s8 = .int .i64 (i : Int) ∧ WrB wr w1.heap.size S2 m2 ∧ WrB wr w2.heap.size S3 m3 ∧ Below w1.heap.size w1 wr)
  case atStart => exact ⟨0, by omega, by omega, rfl, HW3.out, HV3.out, HB3.out⟩
  case round =>
    clear HW3 HV3 HB3
    obtain ⟨i, hi, hgi, rfl, hw, hv, hb⟩ := hrel
    have HW := Lib.hid hw
    have HV := Lib.hid hv
    have HB := Lib.hid hb
    clear hw hv hb
    by_cases hin : i < m2
    · obtain ⟨b, o, e, hbb, hwb⟩ := HW.out.2 (by omega)
      subst e
      obtain ⟨y, hy1, hy2⟩ := hwb i hin
      obtain ⟨x, hx⟩ : ∃ x, x = y + 1 := ⟨_, rfl⟩
      have e8 := u8_next y
      rw [← hx] at e8
      have HW2 := Lib.hid (show WrB (wr.setCell ⟨b, o + i, none⟩ (.int .u8 (x.toNat : Int))) w1.heap.size (some ⟨b, o, none⟩) m2 from ⟨hm2, fun _ => ⟨b, o, rfl, hbb, hwb.set i x⟩⟩)
      have HB2 := Lib.hid (HB.out.setCell (p := ⟨b, o + i, none⟩) hbb (.int .u8 (x.toNat : Int)))
      rw [← e8] at HW2 HB2
      have hvi := HV.out.2
      have HV2 := Lib.hid (show WrB (wr.setCell ⟨b, o + i, none⟩ (.int .u8 (((y.toNat : Int) + 1) % 256))) w2.heap.size S3 m3 from ⟨hm3, fun h0 => by
        obtain ⟨b3, o3, e3, hb3, hw3⟩ := hvi h0
        have hlt := HT2.out b rfl (by omega)
        exact ⟨b3, o3, e3, hb3, hw3.other (by omega) _⟩⟩)
      clear e8 hx hwb hvi
      go_wp2
      go_roundg (m2 - (i + 1))
      case measure => omega
      case rel => exact ⟨i + 1, by omega, by omega, by go_num, HW2.out, HV2.out, HB2.out⟩
    · obtain rfl : i = m2 := by omega
      clear HW
      go_wp2_with fail
      go_loopg [9] m3 (fun gg s9 wr => ∃ k : Nat, k ≤ m3 ∧ m3 - k ≤ gg ∧ s9 = .int .i64 (k : Int) ∧ WrB wr w2.heap.size S3 m3 ∧ Below w1.heap.size w1 wr)
      case atStart => exact ⟨0, by omega, by omega, rfl, HV.out, HB.out⟩
      case round =>
        clear HV HB
        obtain ⟨k, hk, hgk, rfl, hv, hb⟩ := hrel
        have HV := Lib.hid hv
        have HB := Lib.hid hb
        clear hv hb
        by_cases hkn : k < m3
        · obtain ⟨b, o, e, hbb, hwb⟩ := HV.out.2 (by omega)
          subst e
          obtain ⟨y, hy1, hy2⟩ := hwb k hkn
          obtain ⟨x, hx⟩ : ∃ x, x = y + 1 := ⟨_, rfl⟩
          have e8 := u8_next y
          rw [← hx] at e8
          have HW2 := Lib.hid (show WrB (wr.setCell ⟨b, o + k, none⟩ (.int .u8 (x.toNat : Int))) w2.heap.size (some ⟨b, o, none⟩) m3 from ⟨hm3, fun _ => ⟨b, o, rfl, hbb, hwb.set k x⟩⟩)
          have HB2 := Lib.hid (HB.out.setCell (p := ⟨b, o + k, none⟩) (Nat.le_trans hs2 hbb) (.int .u8 (x.toNat : Int)))
          rw [← e8] at HW2 HB2
          clear e8 hx hwb
          go_wp2
          go_roundg (m3 - (k + 1))
          case measure => omega
          case rel => exact ⟨k + 1, by omega, by omega, by go_num, HW2.out, HB2.out⟩
        · obtain rfl : k = m3 := by omega
          have hs1 := HB1.out.size
          have HSm := Lib.hid (sameAny A1 A n c1 n c d d wr HL.out HL.out ((OwnB.bs HO1.out).later HB.out) (HR.out.later (HB1.out.trans (HB.out.mono hs1))) (by omega) (by omega))
          rw [beq_self_eq_true] at HSm
          clear HV
          go_wp2_with fail
          refine HSm.out.mono ?_
          rintro e w5 ⟨rfl, hb5⟩
          have hsr := HB.out.size
          have HB5 := Lib.hid (HB1.out.trans ((HB.out.trans (hb5.mono hsr)).mono hs1))
          have HLv := Lib.hid (lives_any w5)
          have hs5 := HB5.out.size
          clear hb5 HSm
          go_wp2_with fail
          refine HLv.out.mono ?_
          rintro e w6 ⟨rfl, hb6⟩
          go_wp2
          go_ret
          exact ⟨rfl, HB5.out.trans (hb6.mono hs5)⟩
end Go.Proofs.YtkneigeejgblkaaGreat
