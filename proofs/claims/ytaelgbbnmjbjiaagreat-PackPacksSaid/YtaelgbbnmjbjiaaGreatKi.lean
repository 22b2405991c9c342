/-
  Parts of the proofs, in the order in which they build: L6, C2, C4, C3, X2, X3, X4, X5, X6, P4, U0.
-/
import Derived.Test.YtaelgbbnmjbjiaaGreatKa
import Derived.Test.YtaelgbbnmjbjiaaGreatKb
import Derived.Test.YtaelgbbnmjbjiaaGreatKc
import Derived.Test.YtaelgbbnmjbjiaaGreatKe
import Derived.Test.YtaelgbbnmjbjiaaGreatKf
import Derived.Test.YtaelgbbnmjbjiaaGreatKg
import Derived.Test.YtaelgbbnmjbjiaaGreatKh
import Derived.Deep.WholeRow
import Derived.Laws.EntriesVeiled
import Derived.Lib.SlFresh
set_option linter.unusedSimpArgs false
set_option linter.unusedVariables false
namespace Go.Proofs.YtaelgbbnmjbjiaaGreat
open Go.RowKit
theorem bit_shr {cv j : Nat} (h : cv ≤ 524288) : bits .and .i64 ((cv : Int) / 2 ^ j) 1 = ((cv / 2 ^ j % 2 : Nat) : Int) := by
  have := div_pow_le cv j
  rw [div_pow_cast, i64_and1 (by omega)]
theorem natv_one (l : List Nat) : (l.map natv).toArray.all (·.oneCell') = true := by
  simp only [List.all_toArray, List.all_map, List.all_eq_true]
  intro x _; rfl
theorem encP_step {lens : List Nat} {l : List UInt8} {k : Nat} {x : UInt8} (h : l[k]? = some x) : encP lens (l.take (k + 1)) = encP lens (l.take k) ++ byteP lens x := by
  rw [List.take_add_one, h, ← encP_snoc]; rfl
set_option maxHeartbeats 4000000 in
set_option maxRecDepth 10000 in
theorem huffEncode (A : Option Addr) (n c : Nat) (lens : List Nat) (A2 : Option Addr) (n2 c2 : Nat) (l : List UInt8) (w : World) (hl : lens.length = n) (hr : Ns w A lens) (hmay : mayL lens = true) (hl2 : l.length = n2) (hr2 : Bs w A2 l) (hn2 : n2 ≤ 65536)
    (hx : ∀ b ∈ l, b.toNat < n ∧ 0 < lens.getD b.toNat 0) :
    Calls Tryz.prog 78 #[.slice A n c, .slice A2 n2 c2] w fun e w' => ∃ S m cs, e = .returned (.tuple #[.slice S m cs, .int .i64 0]) ∧ OwnB w' w.heap.size S m cs (bodyB lens l) ∧ Below w.heap.size w w' := by
  obtain ⟨hf1, hf2, hf3⟩ := mayL_facts hmay
  have HCL := Lib.hid (by unfold codesL; exact (cAll_facts lens hf2 11).1 : (codesL lens).length = 256)
  have HCS := Lib.hid (fun x h => codesL_small hf2 (x := x) h)
  have HC := Lib.hid (codes_any A n c lens w hl hr (by omega) hf3)
  have HMay := Lib.hid (by have h := huffMay A n c lens w hl hr (by omega) (fun x hx => by have := hf3 x hx; omega); rw [hmay] at h; exact h :
    Calls Tryz.prog 106 #[.slice A n c] w fun e w' => e = .returned (.bool true) ∧ w' = w)
  have HL := Lib.hid hl
  have HR := Lib.hid hr
  have HL2 := Lib.hid hl2
  have HR2 := Lib.hid hr2
  have H11 := Lib.hid hf3
  have HX := Lib.hid hx
  rw [hl] at hf1 hf2
  clear hl hr hmay hl2 hr2 hf3 hx
  go_enter Tryz.func78, Tryz.ntmps78
  go_wp2_with fail
  refine HMay.out.mono ?_
  rintro e w1 ⟨rfl, rfl⟩
  go_wp2_with fail
  refine HC.out.mono ?_
  rintro e w2 ⟨rfl, hb2⟩
  clear HC HMay
  obtain ⟨cs, hcs⟩ : ∃ cs, cs = codesL lens := ⟨_, rfl⟩
  have HCs := Lib.hid hcs
  rw [← hcs] at HCL HCS ⊢
  clear hcs
  have HK := Lib.hid (show BlkN (w2.alloc (.cells (cs.map natv).toArray 138)) w2.heap.size 138 cs from Blk.new w2 138 (cs.map natv).toArray)
  have HB2 := Lib.hid (hb2.alloc hb2.size (.cells (cs.map natv).toArray 138))
  have hsz2 : (w2.alloc (.cells (cs.map natv).toArray 138)).heap.size = w2.heap.size + 1 := by simp
  clear hb2
  have HLn := Lib.hid (show 256 = ((cs.map natv).toArray).size by simp [HCL.out])
  have hB0 := heap_alloc_last w2 (.cells Tryz.zeroCells138 138)
  go_wp2_with (refine wpList_store_row rfl _ _ _ rfl w2.heap.size _ rfl rfl 138 _ hB0 ?_ ?_ ?_ ?_)
  · rw [info138, HLn.out]
  · rw [← HLn.out, zero138]; simp
  · exact natv_one cs
  rw [World.setRow_alloc_new]
  obtain ⟨wb, hwb⟩ : ∃ wb, wb = w2.alloc (.cells (cs.map natv).toArray 138) := ⟨_, rfl⟩
  obtain ⟨cb, hcb⟩ : ∃ cb, cb = w2.heap.size := ⟨_, rfl⟩
  rw [← hwb, ← hcb] at HK hsz2 ⊢
  rw [← hwb] at HB2
  have HSZ := Lib.hid hsz2
  clear hwb hcb hsz2 hB0 HLn
  refine (wrNew _).mono ?_
  rintro e w3 ⟨rfl, hw3, hb3⟩
  have HW3 := Lib.hid hw3
  have HB3 := Lib.hid hb3
  clear hw3 hb3
  go_wp2_with fail
  go_loopg [19] n2 (fun gg s5 wr => ∃ (i : Nat) (S : WSt), i ≤ n2 ∧ n2 - i ≤ gg ∧ s5 = .int .i64 (i : Int) ∧ WrS wr wb.heap.size wb.heap.size S ∧ putsS w0 (encP lens (l.take i)) = S ∧ wLen S ≤ 11 * i ∧ Below wb.heap.size wb wr)
  case atStart => exact ⟨0, _, by omega, by omega, rfl, HW3.out, rfl, by show 8 * 0 + 0 ≤ _; omega, HB3.out⟩
  case round =>
    clear HW3 HB3
    obtain ⟨i, S, hi, hig, rfl, hw, hS, hlen, hb⟩ := hrel
    have HW := Lib.hid hw
    have HS := Lib.hid hS
    have HB := Lib.hid hb
    clear hw hS hb
    by_cases hin : i < n2
    · obtain ⟨b, o, x, hA, hx, hc⟩ := HR2.out.at_ (by rw [HL2.out]; exact hin : i < l.length)
      subst hA
      have hcb2 := (HB.out.cell (by have := HB2.out.size; have := block_lt hc; show b < wb.heap.size; omega)).trans ((HB2.out.cell (by simpa using block_lt hc)).trans hc)
      obtain ⟨hxn, hx0⟩ := HX.out x (List.mem_of_getElem? hx)
      have HSt := Lib.hid (encP_step (lens := lens) hx)
      obtain ⟨bl, ol, y, hAl, hy, hcl⟩ := HR.out.at_ (by rw [HL.out]; exact hxn : x.toNat < lens.length)
      subst hAl
      have hcl2 := (HB.out.cell (by have := HB2.out.size; have := block_lt hcl; show bl < wb.heap.size; omega)).trans ((HB2.out.cell (by simpa using block_lt hcl)).trans hcl)
      have hyd : lens.getD x.toNat 0 = y := by simp [List.getD, hy]
      have hy11 := H11.out y (List.mem_of_getElem? hy)
      rw [hyd] at hx0
      obtain ⟨cv, hcv⟩ := getN (by rw [HCL.out]; exact x.toNat_lt : x.toNat < cs.length)
      have hcvs := HCS.out cv (List.mem_of_getElem? hcv)
      have hcvd : (codesL lens).getD x.toNat 0 = cv := by rw [← HCs.out]; simp [List.getD, hcv]
      have HF := Lib.hid (show byteP lens x = bitsP cv y by unfold byteP; rw [hcvd, hyd])
      have HCv := Lib.hid hcv
      have hxl := x.toNat_lt
      have g1 : decide (n ≤ x.toNat) = false := decide_eq_false (by omega)
      have g2 : ((y : Int) == 0) = false := beq_eq_false_iff_ne.2 (by omega)
      have i1 : (0 : Int) ≤ (x.toNat : Int) := by omega
      have i2 : (x.toNat : Int) < (n : Int) := by omega
      have i3 : (x.toNat : Int) < 256 := by omega
      obtain ⟨F, hF⟩ : ∃ F, F = putsS S (bitsP cv y) := ⟨_, rfl⟩
      have HFF := Lib.hid hF
      clear hx hc hy hcl hyd hcv hcvd hF
      go_wp2_with fail
      go_loopg [10] y (fun gh s6 wi => ∃ (j : Nat) (S' : WSt), j ≤ y ∧ j ≤ gh ∧ s6 = .int .i64 ((j : Int) - 1) ∧ WrS wi wb.heap.size wb.heap.size S' ∧ putsS S' (bitsP cv j) = F ∧ wLen S' + j ≤ 11 * i + y ∧ Below wb.heap.size wb wi)
      case atStart => exact ⟨y, S, by omega, by omega, rfl, HW.out, HFF.out.symm, by omega, HB.out⟩
      case round =>
        obtain ⟨j0, S', hj, hjg, rfl, hw', hF', hlen', hb'⟩ := hrel
        have HW' := Lib.hid hw'
        have HF' := Lib.hid hF'
        have HB' := Lib.hid hb'
        clear hw' hF' hb' hcb2 hcl2
        by_cases hj0 : 0 < j0
        · obtain ⟨j, rfl⟩ : ∃ j, j0 = j + 1 := ⟨j0 - 1, by omega⟩
          have ej : ((j + 1 : Nat) : Int) - 1 = (j : Int) := by omega
          have hck := (HB'.out.cell (by have := HSZ.out; show cb < wb.heap.size; omega)).trans (BlkN.cell HK.out HCv.out)
          have HPut := Lib.hid (HW'.out.put 1 (cv / 2 ^ j % 2) (by omega) (by show _ < 2 ^ 1; omega) (by omega))
          have hl4 := (putS_facts (k := 1) (v := cv / 2 ^ j % 2) HW'.out.ok (by omega) (by show _ < 2 ^ 1; omega)).2
          have HF2 := Lib.hid (show putsS (putS S' 1 (cv / 2 ^ j % 2)) (bitsP cv j) = F by
            have h := HF'.out
            rw [bitsP, putsS_cons] at h
            exact h)
          rw [← bit_shr hcvs] at HPut
          rw [ej]
          clear HF'
          go_wp2_with fail
          refine HPut.out.mono ?_
          rintro e w4 ⟨rfl, hw4, hb4⟩
          have HW4 := Lib.hid hw4
          have HB4 := Lib.hid (HB'.out.trans hb4)
          clear hw4 hb4 HPut
          go_wp2
          go_roundg j
          case measure => omega
          case rel => exact ⟨j, _, by omega, Nat.le_refl _, rfl, HW4.out, HF2.out, by omega, HB4.out⟩
        · obtain rfl : j0 = 0 := by omega
          have HS2 := Lib.hid (show putsS w0 (encP lens (l.take (i + 1))) = S' by
            rw [HSt.out, putsS_append, HS.out, HF.out, ← HFF.out, ← HF'.out]; rfl)
          clear HF'
          go_wp2
          go_roundg (n2 - (i + 1))
          case measure => omega
          case rel => exact ⟨i + 1, S', by omega, by omega, by go_num, HW'.out, HS2.out, by omega, HB'.out⟩
    · obtain rfl : i = n2 := by omega
      have HBy := Lib.hid (HW.out.bytes (by omega))
      go_wp2_with fail
      refine HBy.out.mono ?_
      rintro e w5 ⟨A5, m5, c5, rfl, hown, hb5⟩
      have hbs := HB2.out.size
      have hbs3 := HB.out.size
      have HO5 := Lib.hid (Own.mono hown (by omega : w1.heap.size ≤ wr.heap.size))
      have HB5 := Lib.hid (HB2.out.trans ((HB.out.mono hbs).trans (hb5.mono (by omega))))
      clear hown hb5 HBy
      go_wp2
      go_ret2
      refine ⟨A5, m5, c5, rfl, ?_, HB5.out⟩
      have h := HO5.out
      rw [← HS.out, List.take_of_length_le (by rw [HL2.out]; exact Nat.le_refl _)] at h
      exact h
end Go.Proofs.YtaelgbbnmjbjiaaGreat
namespace Go.Proofs.YtaelgbbnmjbjiaaGreat
open Go.RowKit
def cntTo (l : List UInt8) (k : Nat) : List Nat := incT (List.replicate 256 0) ((l.take k).map UInt8.toNat)
theorem cntTo_step {l : List UInt8} {k : Nat} {x : UInt8} (h : l[k]? = some x) : cntTo l (k + 1) = (cntTo l k).set x.toNat ((cntTo l k).getD x.toNat 0 + 1) := by
  unfold cntTo
  rw [List.take_add_one, h, List.map_append]
  exact incT_snoc _ _ _
theorem cntTo_le (l : List UInt8) (k p : Nat) : (cntTo l k).getD p 0 ≤ k := by
  have h := incT_le ((l.take k).map UInt8.toNat) (List.replicate 256 0) p
  rw [zeros_getD, List.length_map, List.length_take] at h
  unfold cntTo; omega
theorem cntTo_all {l : List UInt8} {k : Nat} (h : k = l.length) : cntTo l k = cntB l := by
  subst h; unfold cntTo cntB; rw [List.take_length]
set_option maxHeartbeats 4000000 in
set_option maxRecDepth 10000 in
theorem packCoded (A : Option Addr) (n c : Nat) (l : List UInt8) (w : World) (hl : l.length = n) (hr : Bs w A l) (hn0 : 0 < n) (hn : n ≤ 65536) :
    Calls Tryz.prog 34 #[.slice A n c] w fun e w' => ∃ S m cs lens, e = .returned (.tuple #[.slice S m cs, .bool true]) ∧ OwnB w' w.heap.size S m cs (1 :: tableB lens ++ numB 5 (bodyB lens l).length ++ bodyB lens l) ∧ LensOk (cntB l) lens ∧ Below w.heap.size w w' := by
  have HL := Lib.hid hl
  have HR := Lib.hid hr
  clear hl hr
  obtain ⟨ti, hi, hz0, hz1, hz2⟩ := info_parts elemN_info
  go_enter Tryz.func34, Tryz.ntmps34
  go_wp2_with (at_make; refine wpList_make_full _ rfl _ _ 45 rfl w.heap.size 3 ti _ 1 Tryz.underlying45 hi hz0 hz1 .i64 .i64 256 256 256 rfl rfl rfl rfl (by rw [hz2]; omega) (by unfold maxLen; omega) (Nat.le_refl _) ?_)
  intro w1 hown1 hg1
  rw [made_zeros] at hown1
  have HO1 := Lib.hid (show OwnN w1 w.heap.size (some ⟨w.heap.size, 0, none⟩) 256 256 (cntTo l 0) from hown1)
  have HB1 := Lib.hid ((Below.refl _ _).grown hg1 (Nat.le_refl _) (fun k hk => by cases hk) : Below w.heap.size w w1)
  clear hown1 hg1 hi hz0 hz1 hz2
  go_wp2_with fail
  go_loopg [18] n (fun gg s5 wr => ∃ k : Nat, k ≤ n ∧ n - k ≤ gg ∧ s5 = .int .i64 (k : Int) ∧ OwnN wr w.heap.size (some ⟨w.heap.size, 0, none⟩) 256 256 (cntTo l k) ∧ Below w.heap.size w wr)
  case atStart => exact ⟨0, by omega, by omega, rfl, HO1.out, HB1.out⟩
  case round =>
    clear HO1 HB1
    obtain ⟨k, hk, hgg, rfl, hown, hbel⟩ := hrel
    have HO := Lib.hid hown
    have HB := Lib.hid hbel
    clear hown hbel
    by_cases hkn : k < n
    · obtain ⟨b, o, x, hA, hx, hc⟩ := HR.out.at_ (by rw [HL.out]; exact hkn : k < l.length)
      subst hA
      have hc2 := (HB.out.cell (by simpa using block_lt hc)).trans hc
      have HSt := Lib.hid (cntTo_step hx)
      have hxl := x.toNat_lt
      obtain ⟨gz, xz, hgz, hg1, -, hxz, hcz, hfz⟩ := Own.at_ HO.out (k := x.toNat) hxl
      cases hgz
      obtain ⟨v, hv⟩ : ∃ v, v = (cntTo l k).getD x.toNat 0 := ⟨_, rfl⟩
      have hvk : v ≤ k := by rw [hv]; exact cntTo_le l k _
      have hxv : xz = .int .i64 (v : Int) := by
        rw [List.getElem?_map] at hxz
        rw [hv, List.getD]
        cases hq : (cntTo l k)[x.toNat]? with
        | none => rw [hq] at hxz; cases hxz
        | some q => rw [hq] at hxz; exact (Option.some.inj hxz).symm
      subst hxv
      have HO2 := Lib.hid (show OwnN (wr.setCell ⟨w.heap.size, x.toNat, none⟩ (.int .i64 ((v : Int) + 1))) w.heap.size (some ⟨w.heap.size, 0, none⟩) 256 256 (cntTo l (k + 1)) from by
        have h := (Own.stored HO.out x.toNat (natv (v + 1))).1
        rw [← List.map_set, hv, ← HSt.out] at h
        have e : natv (v + 1) = .int .i64 ((v : Int) + 1) := by unfold natv; rw [Int.natCast_add]; rfl
        rw [← hv, e] at h
        exact h)
      have HB2 := Lib.hid (HB.out.setCell (p := ⟨w.heap.size, x.toNat, none⟩) hg1 (.int .i64 ((v : Int) + 1)))
      have i1 : (0 : Int) ≤ (x.toNat : Int) := by omega
      have i2 : (x.toNat : Int) < 256 := by omega
      clear hx hc hxz hv HSt
      go_wp2
      go_roundg (n - (k + 1))
      case measure => omega
      case rel => exact ⟨k + 1, by omega, by omega, by go_num, HO2.out, HB2.out⟩
    · obtain rfl : k = n := by omega
      have HO2 := Lib.hid (show OwnN wr w.heap.size (some ⟨w.heap.size, 0, none⟩) 256 256 (cntB l) from by
        have h := HO.out
        rw [cntTo_all HL.out.symm] at h; exact h)
      have HLn := Lib.hid (huffLens (some ⟨w.heap.size, 0, none⟩) 256 256 (cntB l) wr (cntB_len l) (OwnN.ns HO2.out) (by omega) (by omega) (fun x hx => by have := cntB_le hx; have := HL.out; omega) (by
        obtain ⟨b, hb⟩ : ∃ b, b ∈ l := by
          cases hq : l with
          | nil => have h := HL.out; rw [hq] at h; simp at h; omega
          | cons b r => exact ⟨b, List.mem_cons_self⟩
        exact ⟨b.toNat, cntB_pos hb⟩))
      clear HO
      go_wp2_with fail
      refine HLn.out.mono ?_
      rintro e w3 ⟨S3, m3, c3, lens, rfl, hown3, hlens, hb3⟩
      have hm3 := OwnN.length hown3
      have HO3 := Lib.hid hown3
      have HLens := Lib.hid hlens
      have HB3 := Lib.hid (HB.out.trans (hb3.mono HB.out.size))
      have HPT := Lib.hid (huffPutTable S3 m3 c3 lens w3 hm3 (OwnN.ns hown3) hlens.may)
      have h11 := (mayL_facts hlens.may).2.2
      have hbl := body_len h11 l
      have H11 := Lib.hid h11
      clear hown3 hlens hb3 HLn HO2 HB h11
      go_wp2_with fail
      refine HPT.out.mono ?_
      rintro e w4 ⟨S4, m4, c4, rfl, hown4, hb4⟩
      have HO4 := Lib.hid hown4
      have HB4 := Lib.hid (HB3.out.trans (hb4.mono HB3.out.size))
      have HEn := Lib.hid (huffEncode S3 m3 c3 lens A k c l w4 hm3 ((OwnN.ns HO3.out).later hb4) HLens.out.may HL.out (HR.out.later HB4.out) (by omega) (fun b hb => by rw [← hm3]; exact HLens.out.pos _ (cntB_pos hb)))
      clear hown4 hb4 HPT HB3
      go_wp2_with fail
      refine HEn.out.mono ?_
      rintro e w5 ⟨S5, m5, c5, rfl, hown5, hb5⟩
      have HO5 := Lib.hid hown5
      have HT5 := Lib.hid (Own.later HO4.out hb5)
      have HB5 := Lib.hid (HB4.out.trans (hb5.mono HB4.out.size))
      have hm5 := OwnB.length hown5
      have hm4 := OwnB.length HO4.out
      clear hown5 hb5 HEn HB4
      have htl := table_len HLens.out.may
      rw [hm4] at htl
      rw [hm5] at hbl
      obtain ⟨tb, htb⟩ : ∃ tb, tb = tableB lens := ⟨_, rfl⟩
      obtain ⟨bd, hbd⟩ : ∃ bd, bd = bodyB lens l := ⟨_, rfl⟩
      have HTb := Lib.hid htb
      have HBd := Lib.hid hbd
      rw [← htb] at HT5 hm4
      rw [← hbd] at HO5 hm5
      have hln := HL.out
      clear htb hbd HO4 HO3 H11
      go_wp2_with (at_builtin; refine wpList_append_rd rfl _ _ elemB rfl w5.heap.size (some ⟨w5.heap.size, 0, none⟩) 1 1 [.int .u8 1] rfl (Own.fresh w5 5 [.int .u8 1] 1 rfl) S4 m4 c4 (tb.map u8v) rfl ?a1 ?a2 (u8_one _) ?a3 ?a4 ?a5 ?_)
      case a1 => exact Rd.alloc (Own.rd HT5.out) _
      case a2 => rw [List.length_map]; exact hm4
      case a3 => omega
      case a4 => omega
      case a5 => simp
      intro A6 c6 w6 hown6 hb6 hg6 hat6
      have hba := (Below.refl w5.heap.size w5).alloc (Nat.le_refl _) (.cells #[.int .u8 1] 5)
      have hb56 : Below w5.heap.size w5 w6 := hba.trans hb6
      have HO6 := Lib.hid (show OwnB w6 w5.heap.size A6 (1 + m4) c6 (1 :: tb) from hown6)
      have HB6 := Lib.hid (HB5.out.trans (hb56.mono HB5.out.size))
      have HBd6 := Lib.hid (Own.later HO5.out hb56)
      have HPN := Lib.hid (putNum A6 (1 + m4) c6 (1 :: tb) m5 w6 (OwnB.length hown6) (OwnB.bs hown6) (by omega) (by omega))
      clear hown6 hb6 hg6 hat6 hba HT5 HO5 hb56
      go_wp2_with fail
      refine HPN.out.mono ?_
      rintro e w7 ⟨A7, m7, c7, rfl, hown7, hb7⟩
      have hm7 := OwnB.length hown7
      have hnb := numB_len 5 m5
      rw [List.length_append, List.length_cons] at hm7
      have HO7 := Lib.hid hown7
      have HB7 := Lib.hid (HB6.out.trans (hb7.mono HB6.out.size))
      have HBd7 := Lib.hid (Own.later HBd6.out hb7)
      have hs6 := HB6.out.size
      clear hown7 hb7 HPN HO6 HBd6 HB6
      go_wp2_with (at_builtin; refine wpList_append_rd rfl _ _ elemB rfl w.heap.size A7 m7 c7 ((1 :: tb ++ numB 5 m5).map u8v) rfl (Own.mono HO7.out hs6) S5 m5 c5 (bd.map u8v) rfl ?a1 ?a2 (u8_one _) ?a3 ?a4 ?a5 ?_)
      case a1 => exact Own.rd HBd7.out
      case a2 => rw [List.length_map]; exact hm5
      case a3 => omega
      case a4 => omega
      case a5 => exact HB7.out.size
      intro A8 c8 w8 hown8 hb8 hg8 hat8
      have HO8 := Lib.hid (show OwnB w8 w.heap.size A8 (m7 + m5) c8 (1 :: tb ++ numB 5 m5 ++ bd) from by unfold OwnB; simp only [List.map_append, List.map_cons, List.cons_append, List.append_assoc] at hown8 ⊢; exact hown8)
      have HB8 := Lib.hid (HB7.out.trans hb8)
      clear hown8 hb8 hg8 hat8
      go_wp2
      go_ret2
      refine ⟨A8, m7 + m5, c8, lens, rfl, ?_, HLens.out, HB8.out⟩
      rw [← HTb.out, ← HBd.out, hm5]
      exact HO8.out
end Go.Proofs.YtaelgbbnmjbjiaaGreat
namespace Go.Proofs.YtaelgbbnmjbjiaaGreat
open Go.RowKit
set_option maxHeartbeats 4000000 in
set_option maxRecDepth 10000 in
theorem packLiterals (A0 : Option Addr) (n0 c0 : Nat) (out : List UInt8) (A : Option Addr) (n c : Nat) (l : List UInt8) (w : World) (h0 : out.length = n0) (hr0 : Bs w A0 out) (hn0 : n0 ≤ 1000) (hl : l.length = n) (hr : Bs w A l) (hp : 0 < n) (hn : n ≤ 65536) :
    Calls Tryz.prog 14 #[.slice A0 n0 c0, .slice A n c] w fun e w' => ∃ S m cs B, e = .returned (.slice S m cs) ∧ OwnB w' w.heap.size S m cs (out ++ B) ∧ LitsB l B ∧ Below w.heap.size w w' := by
  have HPN := Lib.hid (putNum A0 n0 c0 out n w h0 hr0 (by omega) (by omega))
  have H0 := Lib.hid h0
  have HL := Lib.hid hl
  have HR := Lib.hid hr
  clear h0 hr0 hl hr
  go_enter Tryz.func14, Tryz.ntmps14
  go_wp2_with fail
  refine HPN.out.mono ?_
  rintro e w1 ⟨A1, m1, c1, rfl, hown1, hb1⟩
  have hm1 := OwnB.length hown1
  have hnb := numB_len 5 n
  rw [List.length_append, H0.out] at hm1
  have HO1 := Lib.hid hown1
  have HB1 := Lib.hid hb1
  clear hown1 hb1 HPN
  go_wp2_with (at_builtin; refine wpList_append_rd rfl _ _ elemB rfl w1.heap.size (some ⟨w1.heap.size, 0, none⟩) 1 1 [.int .u8 0] rfl (Own.fresh w1 5 [.int .u8 0] 1 rfl) A n c (l.map u8v) rfl ?a1 ?a2 (u8_one _) ?a3 ?a4 ?a5 ?_)
  case a1 => exact Rd.alloc (HR.out.later HB1.out) _
  case a2 => rw [List.length_map]; exact HL.out
  case a3 => omega
  case a4 => omega
  case a5 => simp
  intro A2 c2 w2 hown2 hb2 hg2 hat2
  have hb12 := ((Below.refl w1.heap.size w1).alloc (Nat.le_refl _) (.cells #[.int .u8 0] 5)).trans hb2
  have HB12 := Lib.hid hb12
  have HB2 := Lib.hid (HB1.out.trans (hb12.mono HB1.out.size))
  have HO2 := Lib.hid (show OwnB w2 w1.heap.size A2 (1 + n) c2 (0 :: l) from hown2)
  have HO12 := Lib.hid (Own.later HO1.out hb12)
  have HC := Lib.hid (packCoded A n c l w2 HL.out (HR.out.later HB2.out) hp hn)
  clear hown2 hb2 hg2 hat2 hb12
  go_wp2_with fail
  refine HC.out.mono ?_
  rintro e w3 ⟨A3, m3, c3, lens, rfl, hown3, hlens, hb3⟩
  have HB3 := Lib.hid (HB2.out.trans (hb3.mono HB2.out.size))
  have HO3 := Lib.hid hown3
  have HLens := Lib.hid hlens
  have HP3 := Lib.hid (Own.later HO2.out hb3)
  have HQ3 := Lib.hid (Own.later HO12.out hb3)
  clear hown3 hlens hb3 HC HO2 HO12
  have hs3 := HB3.out.size
  obtain ⟨cd, hcd⟩ : ∃ cd, cd = 1 :: tableB lens ++ numB 5 (bodyB lens l).length ++ bodyB lens l := ⟨_, rfl⟩
  have HCd := Lib.hid hcd
  rw [← hcd] at HO3
  clear hcd
  have hm3 := OwnB.length HO3.out
  by_cases hlt : m3 < 1 + n
  · have g1 : decide ((m3 : Int) < ((1 + n : Nat) : Int)) = true := decide_eq_true (by omega)
    go_wp2_with (at_builtin; refine wpList_append_rd rfl _ _ elemB rfl w.heap.size A1 m1 c1 ((out ++ numB 5 n).map u8v) rfl HQ3.out A3 m3 c3 (cd.map u8v) rfl ?a1 ?a2 (u8_one _) ?a3 ?a4 ?a5 ?_)
    case a1 => exact Own.rd HO3.out
    case a2 => rw [List.length_map]; exact hm3
    case a3 => omega
    case a4 => omega
    case a5 => exact hs3
    intro A4 c4 w4 hown4 hb4 hg4 hat4
    have HO4 := Lib.hid (show OwnB w4 w.heap.size A4 (m1 + m3) c4 (out ++ numB 5 n ++ cd) from by unfold OwnB; simp only [List.map_append, List.map_cons, List.cons_append, List.append_assoc] at hown4 ⊢; exact hown4)
    have HB4 := Lib.hid (HB3.out.trans hb4)
    clear hown4 hb4 hg4 hat4
    go_wp2
    go_ret
    refine ⟨A4, m1 + m3, c4, numB 5 n ++ cd, rfl, ?_, .inr ⟨lens, HLens.out, ?_⟩, HB4.out⟩
    · rw [← List.append_assoc]; exact HO4.out
    · rw [HCd.out, HL.out]
  · have g1 : decide ((m3 : Int) < ((1 + n : Nat) : Int)) = false := decide_eq_false (by omega)
    go_wp2_with (at_builtin; refine wpList_append_rd rfl _ _ elemB rfl w.heap.size A1 m1 c1 ((out ++ numB 5 n).map u8v) rfl HQ3.out A2 (1 + n) c2 ((0 :: l).map u8v) rfl ?a1 ?a2 (u8_one _) ?a3 ?a4 ?a5 ?_)
    case a1 => exact Own.rd HP3.out
    case a2 => rw [List.length_map, List.length_cons, HL.out]; omega
    case a3 => omega
    case a4 => omega
    case a5 => exact hs3
    intro A4 c4 w4 hown4 hb4 hg4 hat4
    have HO4 := Lib.hid (show OwnB w4 w.heap.size A4 (m1 + (1 + n)) c4 (out ++ numB 5 n ++ (0 :: l)) from by unfold OwnB; simp only [List.map_append, List.map_cons, List.cons_append, List.append_assoc] at hown4 ⊢; exact hown4)
    have HB4 := Lib.hid (HB3.out.trans hb4)
    clear hown4 hb4 hg4 hat4
    go_wp2
    go_ret
    refine ⟨A4, m1 + (1 + n), c4, numB 5 n ++ 0 :: l, rfl, ?_, .inl ?_, HB4.out⟩
    · rw [← List.append_assoc]; exact HO4.out
    · rw [HL.out]
end Go.Proofs.YtaelgbbnmjbjiaaGreat
namespace Go.Proofs.YtaelgbbnmjbjiaaGreat
open Go.RowKit
set_option maxHeartbeats 1000000 in
theorem packCode (v : Nat) (w : World) (hv : v ≤ 65535) : Calls Tryz.prog 27 #[.int .i64 (v : Int)] w fun e w' => e = .returned (.int .i64 ((Lib.bitLen v : Nat) : Int)) ∧ w' = w := by
  have HLen := Lib.hid (Tryz.bits_Len ((v : Nat) : Int))
  rw [Int.toNat_natCast] at HLen
  go_enter Tryz.func27, Tryz.ntmps27
  go_wp2_with fail
  refine (HLen.out _ (by omega) (by omega)).mono ?_
  rintro e w1 ⟨rfl, rfl⟩
  go_wp2
  go_ret
  exact ⟨rfl, rfl⟩
def sqV (x : Sq) : Value := .agg #[.int .i64 (x.lits : Int), .int .i64 (x.len : Int), .int .i64 (x.dist : Int)]
set_option maxHeartbeats 1000000 in
theorem packStr1 (x : Sq) (w : World) : Calls Tryz.prog 63 #[sqV x] w fun e w' => e = .returned (.int .i64 ((numQ 0 x : Nat) : Int)) ∧ Below w.heap.size w w' := by
  obtain ⟨a, b, c⟩ := x
  unfold sqV
  go_enter Tryz.func63, Tryz.ntmps63
  go_wp2
  go_ret
  exact ⟨rfl, (Below.refl _ _).alloc (Nat.le_refl _) _⟩
set_option maxHeartbeats 1000000 in
theorem packStr2 (x : Sq) (w : World) (h4 : 4 ≤ x.len) (hb : x.len ≤ 65535) : Calls Tryz.prog 64 #[sqV x] w fun e w' => e = .returned (.int .i64 ((numQ 1 x : Nat) : Int)) ∧ Below w.heap.size w w' := by
  obtain ⟨a, b, c⟩ := x
  have e : ((numQ 1 ⟨a, b, c⟩ : Nat) : Int) = (b : Int) - 4 := by
    show (((b - 4 : Nat)) : Int) = _
    have h4 : 4 ≤ b := h4
    omega
  rw [e]
  have h4 : 4 ≤ b := h4
  have hb : b ≤ 65535 := hb
  clear e
  unfold sqV
  go_enter Tryz.func64, Tryz.ntmps64
  go_wp2
  go_ret
  exact ⟨rfl, (Below.refl _ _).alloc (Nat.le_refl _) _⟩
set_option maxHeartbeats 1000000 in
theorem packStr3 (x : Sq) (w : World) (h4 : 1 ≤ x.dist) (hb : x.dist ≤ 65535) : Calls Tryz.prog 65 #[sqV x] w fun e w' => e = .returned (.int .i64 ((numQ 2 x : Nat) : Int)) ∧ Below w.heap.size w w' := by
  obtain ⟨a, b, c⟩ := x
  have e : ((numQ 2 ⟨a, b, c⟩ : Nat) : Int) = (c : Int) - 1 := by
    show (((c - 1 : Nat)) : Int) = _
    have h4 : 1 ≤ c := h4
    omega
  rw [e]
  have h4 : 1 ≤ c := h4
  have hb : c ≤ 65535 := hb
  clear e
  unfold sqV
  go_enter Tryz.func65, Tryz.ntmps65
  go_wp2
  go_ret
  exact ⟨rfl, (Below.refl _ _).alloc (Nat.le_refl _) _⟩
set_option maxHeartbeats 1000000 in
theorem packStreams (w : World) : Calls Tryz.prog 26 #[] w fun e w' => e = .returned (.agg #[.func (.func 63) #[] #[], .func (.func 64) #[] #[], .func (.func 65) #[] #[]]) ∧ Below w.heap.size w w' := by
  go_enter Tryz.func26, Tryz.ntmps26
  go_wp2
  have hrow := heap_alloc_last w (.cells #[.func (.func 63) #[] #[], .func (.func 64) #[] #[], .func (.func 65) #[] #[]] 55)
  exact bodyPost_ret (results_cell_row rfl _ _ w.heap.size 55 _ (0, 0) _ rfl hrow Tryz.underlying55 rfl (by kernel_rfl)) rfl ⟨rfl, (Below.refl _ _).alloc (Nat.le_refl _) _⟩
end Go.Proofs.YtaelgbbnmjbjiaaGreat
namespace Go.Proofs.YtaelgbbnmjbjiaaGreat
open Go.RowKit
def cdC (l : List Nat) : Nat → Nat
  | 0 => 0
  | k + 1 => 2 * cdC l k + l.count (k + 1)
def cdOf (l : List Nat) (b : Nat) : Nat := 2 * cdC l (l.getD b 0 - 1) + (l.take b).count (l.getD b 0)
theorem count_step {l : List Nat} {m x : Nat} (h : l[m]? = some x) (k : Nat) : (l.take (m + 1)).count k = (l.take m).count k + if x = k then 1 else 0 := by
  rw [take_snocN h, List.count_append, List.count_singleton]
  simp only [beq_iff_eq]
theorem cRow_val (l : List Nat) (k : Nat) (s : List Nat × Nat) : ∀ m, m ≤ l.length → (cRow l k s m).2 = s.2 + (l.take m).count k ∧
    ∀ b, (cRow l k s m).1.getD b 0 = if b < m ∧ l.getD b 0 = k ∧ b < s.1.length then s.2 + (l.take b).count k else s.1.getD b 0
  | 0, _ => ⟨by simp [cRow], fun b => by rw [cRow, if_neg (by omega)]⟩
  | m + 1, hm => by
    obtain ⟨h1, h2⟩ := cRow_val l k s m (by omega)
    have hlen := (cRow_facts l k s m).1
    obtain ⟨x, hx⟩ : ∃ x, l[m]? = some x := ⟨_, List.getElem?_eq_getElem (by omega)⟩
    have hxd : l.getD m 0 = x := by simp [List.getD, hx]
    rw [cRow]; unfold cStep
    rw [hx, count_step hx]
    by_cases hk : x = k
    · subst hk
      rw [if_pos rfl, if_pos rfl]
      refine ⟨by show _ + 1 = _; omega, fun b => ?_⟩
      show ((cRow l x s m).1.set m (cRow l x s m).2).getD b 0 = _
      rw [getD_set, hlen, h1]
      by_cases hb : b = m
      · subst hb
        by_cases hbl : b < s.1.length
        · rw [if_pos ⟨rfl, hbl⟩, if_pos ⟨by omega, hxd, hbl⟩]
        · rw [if_neg (fun h => hbl h.2), if_neg (fun h => hbl h.2.2), h2, if_neg (by omega)]
      · rw [if_neg (fun h => hb h.1), h2]
        by_cases hc : b < m ∧ l.getD b 0 = x ∧ b < s.1.length
        · rw [if_pos hc, if_pos ⟨by omega, hc.2⟩]
        · rw [if_neg hc, if_neg (fun h => hc ⟨by omega, h.2⟩)]
    · rw [if_neg (fun h => hk (Option.some.inj h)), if_neg hk]
      refine ⟨h1, fun b => ?_⟩
      rw [h2]
      by_cases hc : b < m ∧ l.getD b 0 = k ∧ b < s.1.length
      · rw [if_pos hc, if_pos ⟨by omega, hc.2⟩]
      · rw [if_neg hc, if_neg]
        rintro ⟨h3, h4, h5⟩
        refine hc ⟨?_, h4, h5⟩
        rcases Nat.lt_or_ge b m with h6 | h6
        · exact h6
        · exfalso
          obtain rfl : b = m := by omega
          exact hk (hxd.symm.trans h4)
theorem cAll_val (l : List Nat) (hl : l.length ≤ 256) : ∀ k, (cAll l k).2 = cdC l k ∧ ∀ b, b < l.length → 0 < l.getD b 0 → l.getD b 0 ≤ k → (cAll l k).1.getD b 0 = cdOf l b
  | 0 => ⟨rfl, fun b _ h1 h2 => by omega⟩
  | k + 1 => by
    obtain ⟨h1, h2⟩ := cAll_val l hl k
    have hlen := (cAll_facts l hl k).1
    obtain ⟨h3, h4⟩ := cRow_val l (k + 1) ((cAll l k).1, 2 * (cAll l k).2) l.length (Nat.le_refl _)
    rw [List.take_length] at h3
    refine ⟨?_, fun b hb h0 hle => ?_⟩
    · show (cRow l (k + 1) ((cAll l k).1, 2 * (cAll l k).2) l.length).2 = _
      rw [h3, cdC, h1]
    · show (cRow l (k + 1) ((cAll l k).1, 2 * (cAll l k).2) l.length).1.getD b 0 = _
      rw [h4 b]
      by_cases he : l.getD b 0 = k + 1
      · rw [if_pos ⟨hb, he, by show b < (cAll l k).1.length; omega⟩]
        show 2 * (cAll l k).2 + _ = _
        unfold cdOf
        rw [h1, he, Nat.add_sub_cancel]
      · rw [if_neg (fun h => he h.2.1)]
        exact h2 b hb h0 (by omega)
theorem codesL_val {l : List Nat} (hl : l.length ≤ 256) {b : Nat} (hb : b < l.length) (h0 : 0 < l.getD b 0) (h11 : l.getD b 0 ≤ 11) : (codesL l).getD b 0 = cdOf l b := (cAll_val l hl 11).2 b hb h0 h11
theorem cdC_mono (l : List Nat) (k : Nat) : ∀ d, 2 ^ d * cdC l k ≤ cdC l (k + d)
  | 0 => by rw [Nat.pow_zero, Nat.one_mul]; exact Nat.le_refl _
  | d + 1 => by
    have h := cdC_mono l k d
    rw [show k + (d + 1) = k + d + 1 by omega, cdC, Nat.pow_succ, Nat.mul_comm (2 ^ d) 2, Nat.mul_assoc]
    omega
theorem count_lt {l : List Nat} {b : Nat} (hb : b < l.length) : (l.take b).count (l.getD b 0) < l.count (l.getD b 0) := by
  have hx : l[b]? = some (l.getD b 0) := by rw [List.getD, List.getElem?_eq_getElem hb, Option.getD_some]
  have h := count_step hx (l.getD b 0)
  rw [if_pos rfl] at h
  have h2 := (List.take_sublist (b + 1) l).count_le (l.getD b 0)
  omega
theorem cdOf_lt {l : List Nat} {b : Nat} (hb : b < l.length) (h0 : 0 < l.getD b 0) : cdOf l b < cdC l (l.getD b 0) := by
  have h := count_lt hb
  unfold cdOf
  obtain ⟨x, hx⟩ : ∃ x, l.getD b 0 = x + 1 := ⟨l.getD b 0 - 1, by omega⟩
  rw [hx] at h ⊢
  rw [Nat.add_sub_cancel, cdC]
  omega
theorem cdOf_far {l : List Nat} {b k d : Nat} (hx : l.getD b 0 = k + (d + 1)) : cdC l k ≤ cdOf l b / 2 ^ (d + 1) := by
  have h := cdC_mono l k d
  rw [Nat.le_div_iff_mul_le (Nat.two_pow_pos _)]
  unfold cdOf
  rw [hx, show k + (d + 1) - 1 = k + d by omega, Nat.pow_succ, Nat.mul_comm (cdC l k), Nat.mul_comm (2 ^ d) 2, Nat.mul_assoc]
  omega
theorem count_inj {l : List Nat} {a b x : Nat} (ha : a < b) (hb : b ≤ l.length) (he : l.getD a 0 = x) : (l.take a).count x < (l.take b).count x := by
  have hx : l[a]? = some x := by rw [← he, List.getD, List.getElem?_eq_getElem (by omega : a < l.length), Option.getD_some]
  have h := count_step hx x
  rw [if_pos rfl] at h
  have h2 : ((l.take b).take (a + 1)).count x ≤ (l.take b).count x := (List.take_sublist (a + 1) (l.take b)).count_le x
  rw [List.take_take, Nat.min_eq_left (by omega)] at h2
  omega
theorem cdOf_inj {l : List Nat} {a b : Nat} (ha : a < l.length) (hb : b < l.length) (he : l.getD a 0 = l.getD b 0) (hc : cdOf l a = cdOf l b) : a = b := by
  unfold cdOf at hc
  rw [he] at hc
  rcases Nat.lt_trichotomy a b with h | h | h
  · have := count_inj h (by omega) he; omega
  · exact h
  · have := count_inj h (by omega) he.symm
    rw [he] at this
    omega
def kraftTo (k : Nat) : List Nat → Nat
  | [] => 0
  | x :: r => (if 0 < x ∧ x ≤ k then 2 ^ (11 - x) else 0) + kraftTo k r
theorem kraftTo_zero : ∀ l, kraftTo 0 l = 0
  | [] => rfl
  | x :: r => by rw [kraftTo, kraftTo_zero r, if_neg (by omega)]
theorem kraftTo_succ (k : Nat) : ∀ l : List Nat, kraftTo (k + 1) l = kraftTo k l + l.count (k + 1) * 2 ^ (11 - (k + 1))
  | [] => by simp [kraftTo]
  | x :: r => by
    rw [kraftTo, kraftTo, kraftTo_succ k r, List.count_cons]
    by_cases h1 : x = k + 1
    · subst h1
      rw [if_pos ⟨by omega, Nat.le_refl _⟩, if_neg (by omega)]
      simp only [beq_self_eq_true, if_true]
      rw [Nat.add_mul, Nat.one_mul]
      omega
    · have h2 : (x == k + 1) = false := beq_eq_false_iff_ne.2 h1
      rw [h2]
      simp only [Bool.false_eq_true, if_false, Nat.add_zero]
      by_cases h3 : 0 < x ∧ x ≤ k
      · rw [if_pos ⟨h3.1, by omega⟩, if_pos h3]; omega
      · rw [if_neg (by omega), if_neg h3]; omega
theorem kraftTo_le (k : Nat) : ∀ l, kraftTo k l ≤ kraft l
  | [] => Nat.le_refl _
  | x :: r => by
    have := kraftTo_le k r
    rw [kraftTo, kraft]
    by_cases h : 0 < x
    · rw [if_pos h]
      generalize 2 ^ (11 - x) = y
      split <;> omega
    · rw [if_neg (fun h2 => h h2.1), if_neg h]; omega
theorem cdC_kraft (l : List Nat) : ∀ k, k ≤ 11 → cdC l k * 2 ^ (11 - k) = kraftTo k l
  | 0, _ => by rw [cdC, kraftTo_zero, Nat.zero_mul]
  | k + 1, h => by
    have ih := cdC_kraft l k (by omega)
    rw [kraftTo_succ, ← ih, cdC, Nat.add_mul, show 11 - k = (11 - (k + 1)) + 1 by omega, Nat.pow_succ]
    rw [Nat.mul_comm 2 (cdC l k), Nat.mul_assoc, Nat.mul_comm 2]
theorem kraft_cnt : ∀ l, kraft l ≤ 1024 * cntPos l
  | [] => Nat.le_refl _
  | x :: r => by
    have := kraft_cnt r
    rw [kraft, cntPos]
    by_cases h : 0 < x
    · rw [if_pos h, if_pos h]
      have : 2 ^ (11 - x) ≤ 2 ^ 10 := Nat.pow_le_pow_right (by omega) (by omega)
      omega
    · rw [if_neg h, if_neg h]; omega
theorem kraft_may {l : List Nat} (h : mayL l = true) : kraft l ≤ 2048 := by
  unfold mayL at h
  simp only [Bool.and_eq_true, Bool.or_eq_true, beq_iff_eq] at h
  rcases h.2 with h | h
  · omega
  · have := kraft_cnt l
    omega
theorem cdC_le {l : List Nat} (h : kraft l ≤ 2048) {k : Nat} (hk : k ≤ 11) : cdC l k ≤ 2 ^ k := by
  have h1 := cdC_kraft l k hk
  have h2 := kraftTo_le k l
  have h3 : cdC l k * 2 ^ (11 - k) ≤ 2 ^ k * 2 ^ (11 - k) := by
    rw [← Nat.pow_add, show k + (11 - k) = 11 by omega, h1]; omega
  exact Nat.le_of_mul_le_mul_right h3 (Nat.two_pow_pos _)
theorem decF_no {l cs : List Nat} {p q : Nat} : ∀ K, (∀ k, k < K → ¬ (0 < l.getD k 0 ∧ p = l.getD k 0 ∧ q = cs.getD k 0)) → decF l cs K p q = none
  | 0, _ => rfl
  | K + 1, h => by
    show (if 0 < l.getD K 0 ∧ p = l.getD K 0 ∧ q = cs.getD K 0 then some (UInt8.ofNat K) else decF l cs K p q) = _
    rw [if_neg (h K (by omega))]
    exact decF_no K (fun k hk => h k (by omega))
theorem decF_yes {l cs : List Nat} {p q b : Nat} (h1 : 0 < l.getD b 0 ∧ p = l.getD b 0 ∧ q = cs.getD b 0) : ∀ K, b < K → (∀ k, k < K → (0 < l.getD k 0 ∧ p = l.getD k 0 ∧ q = cs.getD k 0) → k = b) → decF l cs K p q = some (UInt8.ofNat b)
  | 0, hb, _ => by omega
  | K + 1, hb, h => by
    show (if 0 < l.getD K 0 ∧ p = l.getD K 0 ∧ q = cs.getD K 0 then some (UInt8.ofNat K) else decF l cs K p q) = _
    by_cases hK : 0 < l.getD K 0 ∧ p = l.getD K 0 ∧ q = cs.getD K 0
    · rw [if_pos hK, h K (by omega) hK]
    · rw [if_neg hK]
      refine decF_yes h1 K ?_ (fun k hk => h k (by omega))
      rcases Nat.lt_or_ge b K with h2 | h2
      · exact h2
      · exfalso
        obtain rfl : b = K := by omega
        exact hK h1
theorem bitsP_split (c : Nat) : ∀ x j, j < x → ∃ p q, bitsP c x = p ++ (1, c / 2 ^ (x - 1 - j) % 2) :: q ∧ putsLen p = j
  | 0, j, h => by omega
  | x + 1, 0, _ => ⟨[], bitsP c x, by rw [bitsP, List.nil_append, Nat.add_sub_cancel, Nat.sub_zero], rfl⟩
  | x + 1, j + 1, h => by
    obtain ⟨p, q, h1, h2⟩ := bitsP_split c x j (by omega)
    refine ⟨(1, c / 2 ^ x % 2) :: p, q, ?_, by rw [putsLen_cons, h2]; omega⟩
    rw [bitsP, h1, List.cons_append, show x + 1 - 1 - (j + 1) = x - 1 - j by omega]
structure CdOk (l : List Nat) (b x c : Nat) : Prop where
  lt : b < l.length
  len : l.getD b 0 = x
  pos : 0 < x
  le : x ≤ 11
  code : (codesL l).getD b 0 = c
  lt2 : c < 2 ^ x
theorem CdOk.of {l : List Nat} (hm : mayL l = true) {b : Nat} (hb : b < l.length) (h0 : 0 < l.getD b 0) : CdOk l b (l.getD b 0) (cdOf l b) := by
  obtain ⟨-, h2, h3⟩ := mayL_facts hm
  have h11 := getD_leA h3 b
  exact ⟨hb, rfl, h0, h11, codesL_val h2 hb h0 h11, Nat.lt_of_lt_of_le (cdOf_lt hb h0) (cdC_le (kraft_may hm) h11)⟩
theorem decF_short {l : List Nat} (hm : mayL l = true) {b k d : Nat} (hb : b < l.length) (hx : l.getD b 0 = k + (d + 1)) : decF l (codesL l) 256 k (cdOf l b / 2 ^ (d + 1)) = none := by
  obtain ⟨-, h2, h3⟩ := mayL_facts hm
  refine decF_no 256 fun a _ h => ?_
  obtain ⟨ha0, ha1, ha2⟩ := h
  have hal : a < l.length := by
    rcases Nat.lt_or_ge a l.length with h | h
    · exact h
    · rw [getD_out h] at ha0; omega
  rw [codesL_val h2 hal ha0 (getD_leA h3 a)] at ha2
  have h4 := cdOf_lt hal ha0
  rw [← ha1, ← ha2] at h4
  have h5 := cdOf_far hx
  omega
theorem decF_full {l : List Nat} (hm : mayL l = true) {b : Nat} (hb : b < l.length) (h0 : 0 < l.getD b 0) : decF l (codesL l) 256 (l.getD b 0) (cdOf l b) = some (UInt8.ofNat b) := by
  obtain ⟨-, h2, h3⟩ := mayL_facts hm
  refine decF_yes (b := b) ⟨h0, rfl, (codesL_val h2 hb h0 (getD_leA h3 b)).symm⟩ 256 (by omega) fun a _ h => ?_
  obtain ⟨ha0, ha1, ha2⟩ := h
  have hal : a < l.length := by
    rcases Nat.lt_or_ge a l.length with h | h
    · exact h
    · rw [getD_out h] at ha0; omega
  rw [codesL_val h2 hal ha0 (getD_leA h3 a)] at ha2
  exact cdOf_inj hal hb ha1.symm ha2.symm
theorem symD_code {l : List Nat} (hm : mayL l = true) {b : Nat} (hb : b < l.length) (h0 : 0 < l.getD b 0) (D : List UInt8) (a : Nat) (hfit : a + l.getD b 0 ≤ 8 * D.length)
    (hbits : ∀ j, j < l.getD b 0 → bitAt D (a + j) = cdOf l b / 2 ^ (l.getD b 0 - 1 - j) % 2) : ∀ r j, j + r = l.getD b 0 → 0 < r →
    symD (decF l (codesL l) 256) D (12 - j) (a + j) j (cdOf l b / 2 ^ r) = some (UInt8.ofNat b, a + l.getD b 0)
  | 0, j, _, h => by omega
  | r + 1, j, hj, _ => by
    have h11 := getD_leA (mayL_facts hm).2.2 b
    rw [show 12 - j = (11 - j) + 1 by omega, symD, if_neg (by omega)]
    have hbit := hbits j (by omega)
    have e1 : l.getD b 0 - 1 - j = r := by omega
    rw [e1] at hbit
    have e2 : 2 * (cdOf l b / 2 ^ (r + 1)) + bitAt D (a + j) = cdOf l b / 2 ^ r := by
      rw [hbit, Nat.pow_succ, ← Nat.div_div_eq_div_mul]; omega
    rw [e2]
    cases r with
    | zero =>
      have e3 : j + 1 = l.getD b 0 := by omega
      rw [Nat.pow_zero, Nat.div_one, e3, decF_full hm hb h0]
      show some (UInt8.ofNat b, a + j + 1) = _
      rw [show a + j + 1 = a + l.getD b 0 by omega]
    | succ r =>
      rw [decF_short hm hb (k := j + 1) (d := r) (by omega)]
      show symD _ D (11 - j) (a + j + 1) (j + 1) (cdOf l b / 2 ^ (r + 1)) = _
      have := symD_code hm hb h0 D a hfit hbits (r + 1) (j + 1) (by omega) (by omega)
      rw [show 12 - (j + 1) = 11 - j by omega, show a + (j + 1) = a + j + 1 by omega] at this
      exact this
theorem byteP_len (lens : List Nat) (b : UInt8) : putsLen (byteP lens b) = lens.getD b.toNat 0 := by unfold byteP; rw [bitsP_len]
theorem encP_append (lens : List Nat) : ∀ (a b : List UInt8), encP lens (a ++ b) = encP lens a ++ encP lens b
  | [], _ => rfl
  | x :: a, b => by
    show byteP lens x ++ encP lens (a ++ b) = (byteP lens x ++ encP lens a) ++ encP lens b
    rw [encP_append lens a b, List.append_assoc]
theorem decGo_enc {l : List Nat} (hm : mayL l = true) {data : List UInt8} (hd : ∀ b ∈ data, b.toNat < l.length ∧ 0 < l.getD b.toNat 0) : ∀ (post pre : List UInt8), data = pre ++ post →
    decGo (decF l (codesL l) 256) (bodyB l data) post.length (putsLen (encP l pre)) pre = some (data, putsLen (encP l data))
  | [], pre, e => by rw [List.append_nil] at e; subst e; rfl
  | b :: post, pre, e => by
    obtain ⟨hb1, hb2⟩ := hd b (by rw [e]; exact List.mem_append_right _ List.mem_cons_self)
    have hok := encP_ok l data
    have hlen := puts_length hok
    have hE : encP l data = encP l pre ++ (byteP l b ++ encP l post) := by rw [e, encP_append]; rfl
    obtain ⟨h11, h22, h33⟩ := mayL_facts hm
    have hsym := symD_code hm hb1 hb2 (bodyB l data) (putsLen (encP l pre)) (by
      unfold bodyB
      show _ ≤ 8 * (bytesS (putsS w0 (encP l data))).length
      rw [hlen, hE, putsLen_append, putsLen_append, byteP_len]; omega) (fun j hj => by
      obtain ⟨p, q, h1, h2⟩ := bitsP_split (cdOf l b.toNat) (l.getD b.toNat 0) j hj
      have h3 : byteP l b = p ++ (1, cdOf l b.toNat / 2 ^ (l.getD b.toNat 0 - 1 - j) % 2) :: q := by
        unfold byteP
        rw [codesL_val h22 hb1 hb2 (getD_leA h33 _), h1]
      have h4 : encP l data = (encP l pre ++ p) ++ (1, cdOf l b.toNat / 2 ^ (l.getD b.toNat 0 - 1 - j) % 2) :: (q ++ encP l post) := by
        rw [hE, h3]; simp
      have h5 := bit_puts [] (h4 ▸ hok)
      rw [List.append_nil, ← h4, putsLen_append, h2] at h5
      exact h5) (l.getD b.toNat 0) 0 (by omega) hb2
    rw [Nat.div_eq_of_lt (CdOk.of hm hb1 hb2).lt2, Nat.add_zero, Nat.sub_zero] at hsym
    rw [List.length_cons, decGo, hsym]
    have e2 : UInt8.ofNat b.toNat = b := UInt8.ofNat_toNat
    have e3 : putsLen (encP l pre) + l.getD b.toNat 0 = putsLen (encP l (pre ++ [b])) := by rw [encP_snoc, putsLen_append, byteP_len]
    show decGo _ _ post.length (putsLen (encP l pre) + l.getD b.toNat 0) (pre ++ [UInt8.ofNat b.toNat]) = _
    rw [e2, e3]
    exact decGo_enc hm hd post (pre ++ [b]) (by rw [e, List.append_assoc]; rfl)
theorem decode_body {l : List Nat} (hm : mayL l = true) {data : List UInt8} (hd : ∀ b ∈ data, b.toNat < l.length ∧ 0 < l.getD b.toNat 0) : decodeL l (bodyB l data) data.length = some data := by
  have h := decGo_enc hm hd data [] rfl
  have hok := encP_ok l data
  have hlen := puts_length hok
  unfold decodeL
  rw [if_neg (by rw [hm]; simp)]
  have h' : decGo (decF l (codesL l) 256) (bodyB l data) data.length 0 [] = some (data, putsLen (encP l data)) := h
  rw [h']
  have hlen' : (bodyB l data).length = (putsLen (encP l data) + 7) / 8 := hlen
  have hr : ∀ k, numAt (bodyB l data) (putsLen (encP l data)) k = 0 := fun k => rest_puts hok k
  show (if numAt (bodyB l data) (putsLen (encP l data)) ((8 * (bodyB l data).length - putsLen (encP l data)) % 8) ≠ 0 ∨ 0 < 8 * (bodyB l data).length - (putsLen (encP l data) + (8 * (bodyB l data).length - putsLen (encP l data)) % 8) then none else some data) = _
  rw [if_neg]
  intro h3
  rcases h3 with h3 | h3
  · exact h3 (hr _)
  · rw [hlen'] at h3
    omega
end Go.Proofs.YtaelgbbnmjbjiaaGreat
namespace Go.Proofs.YtaelgbbnmjbjiaaGreat
open Go.RowKit
theorem zr_facts (l : List Nat) : ∀ f i, (∀ j, 1 ≤ j → j ≤ zr l f i → l.getD (i + j) 0 = 0) ∧ (zr l f i < f → l.getD (i + zr l f i + 1) 0 ≠ 0)
  | 0, i => ⟨fun j h1 h2 => by rw [zr] at h2; omega, fun h => by omega⟩
  | f + 1, i => by
    obtain ⟨h1, h2⟩ := zr_facts l f (i + 1)
    rw [zr]
    by_cases h : l.getD (i + 1) 0 = 0
    · rw [if_pos h]
      refine ⟨fun j hj1 hj2 => ?_, fun hz => ?_⟩
      · by_cases hj : j = 1
        · rw [hj]; exact h
        · have := h1 (j - 1) (by omega) (by omega)
          rwa [show i + 1 + (j - 1) = i + j by omega] at this
      · have := h2 (by omega)
        rwa [show i + 1 + zr l f (i + 1) + 1 = i + (zr l f (i + 1) + 1) + 1 by omega] at this
    · rw [if_neg h]
      exact ⟨fun j hj1 hj2 => by omega, fun _ => h⟩
theorem take_zeros {l : List Nat} : ∀ (k i : Nat), i + k ≤ l.length → (∀ j, j < k → l.getD (i + j) 0 = 0) → l.take (i + k) = l.take i ++ List.replicate k 0
  | 0, i, _, _ => by simp
  | k + 1, i, hk, h => by
    have h1 := take_zeros k i (by omega) (fun j hj => h j (by omega))
    have h2 := h k (by omega)
    have h3 : l[i + k]? = some 0 := by
      rw [List.getD, List.getElem?_eq_getElem (by omega : i + k < l.length), Option.getD_some] at h2
      rw [List.getElem?_eq_getElem (by omega : i + k < l.length), h2]
    rw [show i + (k + 1) = i + k + 1 by omega, take_snocN h3, h1, List.append_assoc]
    congr 1
    exact (List.replicate_succ' ..).symm
theorem tabGo_tab {l : List Nat} (hm : mayL l = true) (tail : List UInt8) : ∀ (f i f2 : Nat) (pre : List (Nat × Nat)) (short : Bool), tabAll l = pre ++ tabP l f i → l.length - i ≤ f → l.length - i ≤ f2 → i ≤ l.length → (short = true → i < l.length → l.getD i 0 ≠ 0) →
    tabGo (bytesS (putsS w0 (tabAll l)) ++ tail) l.length f2 (putsLen pre) (l.take i) short = some (l, putsLen (tabAll l)) := by
  have hlast := mayL_last hm
  have hok := tabAll_ok hm
  have hlen := puts_length hok
  obtain ⟨hm1, hm2, hm3⟩ := mayL_facts hm
  intro f
  induction f with
  | zero =>
    intro i f2 pre short hE hf hf2 hi hs
    obtain rfl : i = l.length := by omega
    rw [List.take_length, tabGo_done (Nat.le_refl _), hE, tabP, List.append_nil]
  | succ f ih =>
    intro i f2 pre short hE hf hf2 hi hs
    by_cases hin : i < l.length
    · obtain ⟨f3, rfl⟩ : ∃ f3, f2 = f3 + 1 := ⟨f2 - 1, by omega⟩
      have htl : (l.take i).length = i := by rw [List.length_take]; omega
      have hDl : (bytesS (putsS w0 (tabAll l)) ++ tail).length = (putsLen (tabAll l) + 7) / 8 + tail.length := by rw [List.length_append, hlen]
      rw [tabP, if_pos hin] at hE
      rw [tabGo, htl, if_neg (by omega)]
      by_cases hx : l.getD i 0 = 0
      · rw [if_pos hx] at hE
        have hz := zr_facts l 15 i
        have hz15 := zr_le l 15 i
        obtain ⟨z, hzz⟩ : ∃ z, z = zr l 15 i := ⟨_, rfl⟩
        rw [← hzz] at hE hz hz15
        have hiz : i + z + 1 ≤ l.length := by
          rcases Nat.lt_or_ge (i + z) l.length with h | h
          · omega
          · exfalso
            by_cases h0 : i = l.length - 1
            · rw [h0] at hx; omega
            · have h1 := hz.1 (l.length - 1 - i) (by omega) (by omega)
              rw [show i + (l.length - 1 - i) = l.length - 1 by omega] at h1
              omega
        have e1 := num_puts (a := pre) (k := 4) (v := 0) (b := (4, z) :: tabP l f (i + z + 1)) tail (hE ▸ hok)
        have e2 := num_puts (a := pre ++ [(4, 0)]) (k := 4) (v := z) (b := tabP l f (i + z + 1)) tail (by rw [List.append_assoc]; exact hE ▸ hok)
        rw [← hE] at e1
        rw [List.append_assoc, show [((4 : Nat), (0 : Nat))] ++ (4, z) :: tabP l f (i + z + 1) = (4, 0) :: (4, z) :: tabP l f (i + z + 1) from rfl, ← hE, putsLen_append] at e2
        have e3 : putsLen pre + putsLen [((4 : Nat), (0 : Nat))] = putsLen pre + 4 := rfl
        rw [e3] at e2
        have hL : putsLen (tabAll l) = putsLen pre + (4 + (4 + putsLen (tabP l f (i + z + 1)))) := by rw [hE, putsLen_append]; rfl
        rw [if_neg (by omega), e1, if_neg (by simp), if_neg (by omega), e2, if_neg]
        · have e4 : l.take i ++ List.replicate (z + 1) 0 = l.take (i + z + 1) := by
            rw [show i + z + 1 = i + (z + 1) by omega, take_zeros (z + 1) i (by omega)]
            intro j hj
            by_cases hj0 : j = 0
            · rw [hj0]; exact hx
            · exact hz.1 j (by omega) (by omega)
          have e5 : putsLen pre + 4 + 4 = putsLen (pre ++ [(4, 0), (4, z)]) := by rw [putsLen_append]; rfl
          rw [e4, e5]
          refine ih (i + z + 1) f3 _ _ ?_ (by omega) (by omega) hiz ?_
          · rw [hE, List.append_assoc]; rfl
          · intro hs2 _
            have h15 := of_decide_eq_true hs2
            exact hz.2 h15
        · rintro (h | h)
          · exact hs h hin hx
          · omega
      · rw [if_neg hx] at hE
        have e1 := num_puts (a := pre) (k := 4) (v := l.getD i 0) (b := tabP l f (i + 1)) tail (hE ▸ hok)
        rw [← hE] at e1
        have hL : putsLen (tabAll l) = putsLen pre + (4 + putsLen (tabP l f (i + 1))) := by rw [hE, putsLen_append]; rfl
        rw [if_neg (by omega), e1, if_pos hx]
        have hxi : l[i]? = some (l.getD i 0) := by rw [List.getD, List.getElem?_eq_getElem hin, Option.getD_some]
        have e5 : putsLen pre + 4 = putsLen (pre ++ [(4, l.getD i 0)]) := by rw [putsLen_append]; rfl
        rw [← take_snocN hxi, e5]
        refine ih (i + 1) f3 _ _ ?_ (by omega) (by omega) (by omega) (fun h => by cases h)
        rw [hE, List.append_assoc]; rfl
    · obtain rfl : i = l.length := by omega
      rw [List.take_length, tabGo_done (Nat.le_refl _), hE, tabP_end _ _ _ (Nat.le_refl _), List.append_nil]
theorem table_back {l : List Nat} (hm : mayL l = true) (tail : List UInt8) : tableL (tableB l ++ tail) = some (l, (tableB l).length) := by
  have hok := tabAll_ok hm
  have hlen := puts_length hok
  obtain ⟨hm1, hm2, hm3⟩ := mayL_facts hm
  have hB : tableB l = bytesS (putsS w0 (tabAll l)) := rfl
  have hlen' : (tableB l).length = (putsLen (tabAll l) + 7) / 8 := hlen
  have h8 : numAt (tableB l ++ tail) 0 8 = l.length - 1 := num_puts (a := []) (k := 8) (v := l.length - 1) (b := tabP l l.length 0) tail hok
  have hgo := tabGo_tab hm tail l.length 0 l.length [(8, l.length - 1)] false rfl (by omega) (by omega) (by omega) (fun h => by cases h)
  have hp8 : putsLen [((8 : Nat), l.length - 1)] = 8 := rfl
  rw [hp8, List.take_zero, ← hB] at hgo
  have hL : putsLen (tabAll l) = 8 + putsLen (tabP l l.length 0) := rfl
  have hDl : (tableB l ++ tail).length = (putsLen (tabAll l) + 7) / 8 + tail.length := by rw [List.length_append, hlen']
  unfold tableL
  rw [if_neg (by omega), h8, show l.length - 1 + 1 = l.length by omega, hgo]
  unfold tabEnd
  have hpad : ∃ k, (8 * (tableB l ++ tail).length - putsLen (tabAll l)) % 8 = k ∧ putsLen (tabAll l) + k = 8 * ((putsLen (tabAll l) + 7) / 8) := ⟨_, rfl, by rw [hDl]; omega⟩
  obtain ⟨k, hk, hk2⟩ := hpad
  have hz : numAt (tableB l ++ tail) (putsLen (tabAll l)) k = 0 := by
    rw [numAt_leN, leN_append, hB, leN_puts hok, hlen, ← hk2, Nat.pow_add, Nat.mul_assoc, Nat.add_mul_div_left _ _ (Nat.two_pow_pos _), Nat.div_eq_of_lt (pvalP_lt _ hok), Nat.zero_add, Nat.mul_mod_right]
  show (if numAt (tableB l ++ tail) (putsLen (tabAll l)) ((8 * (tableB l ++ tail).length - putsLen (tabAll l)) % 8) ≠ 0 ∨ mayL l = false then none else _) = _
  rw [hk, hz, if_neg (by rw [hm]; simp), hk2, hlen', hDl]
  congr 2
  omega
end Go.Proofs.YtaelgbbnmjbjiaaGreat
namespace Go.Proofs.YtaelgbbnmjbjiaaGreat
open Go.RowKit
theorem num_any_back : ∀ (f x i n : Nat) (tail : List UInt8), f + i = 5 → i ≤ 4 → x < 2 ^ (32 - 7 * i) → n + x * 2 ^ (7 * i) ≤ 4294967295 → (0 < i → 0 < x) →
    numGo (numB f x ++ tail) i n = some (n + x * 2 ^ (7 * i), i + (numB f x).length)
  | 0, x, i, n, tail, h1, h2, _, _, _ => by omega
  | f + 1, x, i, n, tail, h1, h2, hx, hn, h0 => by
    rw [numB]
    by_cases h : 128 ≤ x
    · rw [if_pos h, List.cons_append, numGo, if_pos (by omega)]
      have hb : (UInt8.ofNat (x % 128 + 128)).toNat = x % 128 + 128 := by rw [u8_ofNat]; omega
      rw [hb, if_pos (by omega), show (x % 128 + 128) % 128 = x % 128 by omega]
      have hi3 : i ≤ 3 := by
        rcases Nat.lt_or_ge i 4 with h3 | h3
        · omega
        · obtain rfl : i = 4 := by omega
          have : (2 : Nat) ^ (32 - 7 * 4) = 16 := by decide
          omega
      have e1 : 2 ^ (7 * (i + 1)) = 128 * 2 ^ (7 * i) := by rw [show 7 * (i + 1) = 7 * i + 7 by omega, Nat.pow_add]; omega
      have e2 : n + x % 128 * 2 ^ (7 * i) + x / 128 * 2 ^ (7 * (i + 1)) = n + x * 2 ^ (7 * i) := by
        rw [e1, ← Nat.mul_assoc, Nat.add_assoc, ← Nat.add_mul, show x % 128 + x / 128 * 128 = x by omega]
      have e3 : x / 128 < 2 ^ (32 - 7 * (i + 1)) := by
        have h4 : 2 ^ (32 - 7 * i) = 128 * 2 ^ (32 - 7 * (i + 1)) := by rw [show 32 - 7 * i = (32 - 7 * (i + 1)) + 7 by omega, Nat.pow_add]; omega
        rw [h4] at hx
        omega
      rw [num_any_back f (x / 128) (i + 1) _ tail (by omega) (by omega) e3 (by rw [e2]; exact hn) (fun _ => by omega), e2, List.length_cons]
      congr 2
      omega
    · rw [if_neg h, List.cons_append, List.nil_append, numGo, if_pos (by omega)]
      have hb : (UInt8.ofNat x).toNat = x := by rw [u8_ofNat]; omega
      rw [hb, if_neg (by omega), show x % 128 = x by omega, if_neg]
      · rfl
      · rintro (h3 | h3)
        · omega
        · have := h0 h3.1; omega
theorem num_back {v : Nat} (hv : v ≤ 4294967295) (tail : List UInt8) : numGo (numB 5 v ++ tail) 0 0 = some (v, (numB 5 v).length) := by
  have := num_any_back 5 v 0 0 tail rfl (by omega) (by show v < 2 ^ 32; omega) (by omega) (fun h => by omega)
  rw [this]
  simp
theorem getGo_back : ∀ (sh pre : List Nat) (front tail : List UInt8), (∀ x ∈ sh, x ≤ 64) → getGo (front ++ (sh.flatMap (numB 5) ++ tail)) sh.length front.length pre = some (pre ++ sh, front.length + (sh.flatMap (numB 5)).length)
  | [], pre, front, tail, _ => by simp [getGo]
  | x :: r, pre, front, tail, h => by
    have hx := h x (List.mem_cons_self)
    have h1 := num_back (v := x) (by omega) (r.flatMap (numB 5) ++ tail)
    have h2 := getGo_back r (pre ++ [x]) (front ++ numB 5 x) tail (fun y hy => h y (List.mem_cons_of_mem _ hy))
    rw [List.length_cons, getGo, List.drop_left, List.flatMap_cons, List.append_assoc, h1]
    show getGo _ r.length (front.length + (numB 5 x).length) (pre ++ [x]) = _
    rw [List.length_append, List.append_assoc] at h2
    rw [h2, List.append_assoc, List.length_append, Nat.add_assoc]
    rfl
theorem share_back {sh : List Nat} (hm : fmayL sh 6 = true) (tail : List UInt8) : shareL (shareB sh ++ tail) = some (sh, 6, (shareB sh).length) := by
  obtain ⟨h1, h2, -, h4, -⟩ := fmayL_facts hm
  have e : shareB sh ++ tail = 6 :: (numB 5 sh.length ++ (sh.flatMap (numB 5) ++ tail)) := by
    unfold shareB; simp
  have e2 : (6 :: (numB 5 sh.length ++ (sh.flatMap (numB 5) ++ tail)) : List UInt8) = (6 :: numB 5 sh.length) ++ (sh.flatMap (numB 5) ++ tail) := rfl
  have h5 := getGo_back sh [] (6 :: numB 5 sh.length) tail (fun x hx => h4 x hx)
  rw [e, shareL_cons, num_back (v := sh.length) (by omega)]
  show (if (6 : UInt8).toNat < 5 ∨ 9 < (6 : UInt8).toNat ∨ 64 < sh.length then none else getEnd (6 : UInt8).toNat (getGo _ sh.length (1 + (numB 5 sh.length).length) [])) = _
  have e6 : (6 : UInt8).toNat = 6 := rfl
  rw [e6, if_neg (by omega), e2, show 1 + (numB 5 sh.length).length = (6 :: numB 5 sh.length).length by rw [List.length_cons]; omega, h5]
  show (if fmayL ([] ++ sh) 6 then _ else none) = _
  rw [List.nil_append, if_pos hm]
  congr 3
  unfold shareB
  simp
  omega
end Go.Proofs.YtaelgbbnmjbjiaaGreat
namespace Go.Proofs.YtaelgbbnmjbjiaaGreat
open Go.RowKit
theorem take_snocB {D : List UInt8} {q : Nat} (h : q < D.length) : D.take q ++ [D.getD q 0] = D.take (q + 1) := by
  rw [List.take_add_one, List.getElem?_eq_getElem h, List.getD, List.getElem?_eq_getElem h]
  rfl
theorem getD_take {D : List UInt8} {q i : Nat} (h : i < q) : (D.take q).getD i 0 = D.getD i 0 := by
  rw [List.getD, List.getD, List.getElem?_take_of_lt h]
theorem copyL_take (D : List UInt8) (d : Nat) : ∀ (n q : Nat), 1 ≤ d → d ≤ q → q + n ≤ D.length → (∀ j, j < n → D.getD (q - d + j) 0 = D.getD (q + j) 0) → copyL d n (D.take q) = D.take (q + n)
  | 0, q, _, _, _, _ => rfl
  | n + 1, q, h1, h2, h3, h4 => by
    have hl : (D.take q).length = q := by rw [List.length_take]; omega
    have h5 := h4 0 (by omega)
    rw [Nat.add_zero, Nat.add_zero] at h5
    rw [copyL, hl, getD_take (by omega), h5, take_snocB (by omega), copyL_take D d n (q + 1) h1 (by omega) (by omega)]
    · rw [show q + 1 + n = q + (n + 1) by omega]
    · intro j hj
      have := h4 (j + 1) (by omega)
      rw [show q - d + (j + 1) = q + 1 - d + j by omega, show q + (j + 1) = q + 1 + j by omega] at this
      exact this
theorem runGo_fit (D : List UInt8) : ∀ (L : List Sq) (p : Nat), FitL D p L → runGo D.length L (D.take p) (litsL (D.drop p) L) = some (D.take (fitEnd p L), D.drop (fitEnd p L))
  | [], p, _ => rfl
  | x :: r, p, h => by
    obtain ⟨h1, -, h3, h4, h5, h6, h7⟩ := h
    have hl : (D.take p).length = p := by rw [List.length_take]; omega
    have e1 : litsL (D.drop p) (x :: r) = (D.drop p).take x.lits ++ litsL (D.drop (p + x.lits + x.len)) r := by
      rw [litsL, List.drop_drop, show p + (x.lits + x.len) = p + x.lits + x.len by omega]
    have hl2 : ((D.drop p).take x.lits).length = x.lits := by rw [List.length_take, List.length_drop]; omega
    have e2 : ((D.drop p).take x.lits ++ litsL (D.drop (p + x.lits + x.len)) r).take x.lits = (D.drop p).take x.lits := by
      rw [List.take_append_of_le_length (by omega), List.take_of_length_le (by omega)]
    have e3 : ((D.drop p).take x.lits ++ litsL (D.drop (p + x.lits + x.len)) r).drop x.lits = litsL (D.drop (p + x.lits + x.len)) r := by
      rw [List.drop_append_of_le_length (by omega), List.drop_of_length_le (by omega), List.nil_append]
    have e4 : D.take p ++ (D.drop p).take x.lits = D.take (p + x.lits) := by
      rw [List.take_add]
    have hbad : runBad x (p + x.lits) ((D.drop p).take x.lits ++ litsL (D.drop (p + x.lits + x.len)) r).length D.length = false := by
      have a1 : decide (((D.drop p).take x.lits ++ litsL (D.drop (p + x.lits + x.len)) r).length < x.lits) = false := decide_eq_false (by rw [List.length_append]; omega)
      have a2 : decide (x.dist < 1) = false := decide_eq_false (by omega)
      have a3 : decide (p + x.lits < x.dist) = false := decide_eq_false (by omega)
      have a4 : decide (x.len = 0) = false := decide_eq_false (by omega)
      have a5 : decide (D.length < p + x.lits) = false := decide_eq_false (by omega)
      have a6 : decide (D.length - (p + x.lits) < x.len) = false := decide_eq_false (by omega)
      unfold runBad
      rw [a1, a2, a3, a4, a5, a6]
      simp
    rw [e1, runGo, hl, hbad, if_neg (by simp), e2, e3, e4, copyL_take D x.dist x.len (p + x.lits) h4 h5 h3 h6]
    exact runGo_fit D r _ h7
theorem FitL.end_le {D : List UInt8} : ∀ {L : List Sq} {p : Nat}, FitL D p L → fitEnd p L ≤ D.length
  | [], _, h => h
  | x :: r, p, h => FitL.end_le (L := r) (p := p + x.lits + x.len) h.2.2.2.2.2.2
theorem run_back {D : List UInt8} {L : List Sq} (h : FitL D 0 L) : runL (litsL D L) L D.length = some D := by
  have h1 := runGo_fit D L 0 h
  have h2 := h.end_le
  rw [List.take_zero, List.drop_zero] at h1
  unfold runL
  rw [h1]
  show (if D.length - (D.take (fitEnd 0 L)).length < (D.drop (fitEnd 0 L)).length then none else some (D.take (fitEnd 0 L) ++ D.drop (fitEnd 0 L))) = _
  rw [List.length_take, List.length_drop, if_neg (by omega), List.take_append_drop]
end Go.Proofs.YtaelgbbnmjbjiaaGreat
namespace Go.Proofs.YtaelgbbnmjbjiaaGreat
open Go.RowKit
theorem toL_at {l : List Nat} {s : Nat} : ∀ {p i q : Nat}, (toL l p s)[i]? = some q → symOf l q = s ∧ (toL l q s).length = i ∧ q < p
  | 0, i, q, h => by simp [toL] at h
  | p + 1, i, q, h => by
    rw [toL] at h
    by_cases hs : symOf l p = s
    · rw [if_pos hs] at h
      rcases Nat.lt_or_ge i (toL l p s).length with h1 | h1
      · rw [List.getElem?_append_left h1] at h
        obtain ⟨a, b, c⟩ := toL_at h
        exact ⟨a, b, by omega⟩
      · rw [List.getElem?_append_right h1] at h
        have h2 : i - (toL l p s).length = 0 := by
          rcases Nat.eq_zero_or_pos (i - (toL l p s).length) with h3 | h3
          · exact h3
          · rw [List.getElem?_eq_none (by rw [List.length_singleton]; omega)] at h; cases h
        rw [h2] at h
        simp only [List.getElem?_cons_zero, Option.some.injEq] at h
        subst h
        exact ⟨hs, by omega, by omega⟩
    · rw [if_neg hs] at h
      obtain ⟨a, b, c⟩ := toL_at h
      exact ⟨a, b, by omega⟩
theorem nxt_val {l : List Nat} {s : Nat} (hs : s < l.length) : ∀ p, (nxt l p).getD s 0 = l.getD s 0 + (toL l p s).length
  | 0 => rfl
  | p + 1 => by
    have ih := nxt_val hs p
    have hl := nxt_len l p
    rw [nxt, getD_set, toL]
    by_cases h : symOf l p = s
    · rw [if_pos ⟨h.symm, by omega⟩, if_pos h, h, ih, List.length_append, List.length_singleton]; omega
    · rw [if_neg (fun e => h e.1.symm), if_neg h, ih]
theorem nOf_at {l : List Nat} {s i q : Nat} (hs : s < l.length) (h : (toL l 64 s)[i]? = some q) : symOf l q = s ∧ nOf l q = l.getD s 0 + i ∧ q < 64 := by
  obtain ⟨h1, h2, h3⟩ := toL_at h
  refine ⟨h1, ?_, h3⟩
  unfold nOf
  rw [h1, nxt_val hs, h2]
theorem get_getD {l : List Nat} {i : Nat} (h : i < l.length) : l[i]? = some (l.getD i 0) := by rw [List.getD, List.getElem?_eq_getElem h, Option.getD_some]
theorem bitLen7 : ∀ x : Fin 128, 64 ≤ x.val → Lib.bitLen x.val = 7 := by decide +kernel
theorem bitLen_top : ∀ x : Fin 256, ∀ m : Fin 8, 2 ^ m.val ≤ x.val → x.val < 2 ^ (m.val + 1) → Lib.bitLen x.val = m.val + 1 := by decide +kernel
theorem pow_le64 {n : Nat} (h : n ≤ 6) : 2 ^ n ≤ 64 ∧ ∃ k, 64 = 2 ^ n * k := by
  refine ⟨(Nat.pow_le_pow_right (by omega) h : 2 ^ n ≤ 2 ^ 6), 2 ^ (6 - n), ?_⟩
  rw [← Nat.pow_add, show n + (6 - n) = 6 by omega]
theorem enc_back {sh : List Nat} {k s : Nat} {X : Nat × WSt} (h : EncOk k X) (hsum : sumL sh = 64) (h0 : 0 < sh.getD s 0) :
    ∃ nb, nb = nbL X.1 (sh.getD s 0) ∧ nb ≤ 6 ∧ symOf sh ((encStep sh X s).1 - 64) = s ∧ bitsOf sh ((encStep sh X s).1 - 64) = nb ∧ baseOf sh ((encStep sh X s).1 - 64) + X.1 % 2 ^ nb = X.1 - 64 := by
  obtain ⟨-, h2, h3, h4, h5⟩ := encStep_facts h hsum h0
  have hs : s < sh.length := by
    rcases Nat.lt_or_ge s sh.length with h | h
    · exact h
    · rw [getD_out h] at h0; omega
  refine ⟨_, rfl, h2, ?_⟩
  obtain ⟨nb, hnb⟩ : ∃ nb, nb = nbL X.1 (sh.getD s 0) := ⟨_, rfl⟩
  rw [← hnb] at h2 h3 h4 h5 ⊢
  have hlo := h.lo
  have hhi := h.hi
  obtain ⟨hp64, kk, hkk⟩ := pow_le64 h2
  have hget : (toL sh 64 s)[X.1 / 2 ^ nb - sh.getD s 0]? = some ((toL sh 64 s).getD (X.1 / 2 ^ nb - sh.getD s 0) 0) := get_getD h4
  obtain ⟨a1, a2, a3⟩ := nOf_at hs hget
  have hq : (encStep sh X s).1 - 64 = (toL sh 64 s).getD (X.1 / 2 ^ nb - sh.getD s 0) 0 := by
    unfold encStep
    rw [← hnb]
    show 64 + _ - 64 = _
    rw [Nat.add_sub_cancel_left]
  have hx : nOf sh ((toL sh 64 s).getD (X.1 / 2 ^ nb - sh.getD s 0) 0) = X.1 / 2 ^ nb := by rw [a2]; omega
  have hbl : Lib.bitLen X.1 = nb + Lib.bitLen (X.1 / 2 ^ nb) := Lib.bitLen_shift nb X.1 (by omega) (by omega)
  have h7 := bitLen7 ⟨X.1, hhi⟩ hlo
  have hbits : bitsOf sh ((toL sh 64 s).getD (X.1 / 2 ^ nb - sh.getD s 0) 0) = nb := by
    unfold bitsOf
    rw [hx]
    simp only at h7
    omega
  rw [hq]
  refine ⟨a1, hbits, ?_⟩
  unfold baseOf
  rw [hbits, hx]
  have hdm := Nat.div_add_mod X.1 (2 ^ nb)
  have hge : 64 ≤ X.1 / 2 ^ nb * 2 ^ nb := by
    have : kk ≤ X.1 / 2 ^ nb := by
      rw [Nat.le_div_iff_mul_le (Nat.two_pow_pos _), Nat.mul_comm]; omega
    have h8 := Nat.mul_le_mul_right (2 ^ nb) this
    rw [Nat.mul_comm kk] at h8
    omega
  rw [Nat.mul_comm] at hdm
  omega
theorem fd_back {sh : List Nat} (hsum : sumL sh = 64) : ∀ (l : List Nat), (∀ s ∈ l, 0 < sh.getD s 0) → ∃ P, (encGo sh l.reverse).2 = putsS w0 P ∧ putsOk P ∧ EncOk l.length (encGo sh l.reverse) ∧
    ∀ (rest : List (Nat × Nat)) (out : List Nat), putsOk rest → fdGo sh (bytesS (putsS w0 (P ++ rest))) l.length ((encGo sh l.reverse).1 - 64) (putsLen P) out = some (out ++ l, 0, 0)
  | [], _ => ⟨[], rfl, (fun p hp => by cases hp), ⟨by show 64 ≤ 64; omega, by show 64 < 128; omega, w0_ok, by show 8 * 0 + 0 ≤ _; omega⟩, fun rest out _ => by rw [List.append_nil]; rfl⟩
  | s :: r, hp => by
    obtain ⟨P, hP1, hP2, hE, hfd⟩ := fd_back hsum r (fun q hq => hp q (List.mem_cons_of_mem _ hq))
    have h0 := hp s (List.mem_cons_self)
    obtain ⟨nb, hnb, hnb6, hsy, hbi, hba⟩ := enc_back hE hsum h0
    have hE2 := (encStep_facts hE hsum h0).1
    rw [List.reverse_cons, encGo_snoc]
    obtain ⟨X, hX⟩ : ∃ X, X = encGo sh r.reverse := ⟨_, rfl⟩
    rw [← hX] at hP1 hE hfd hnb hsy hbi hba hE2 ⊢
    have hok1 : putsOk [(nb, X.1 % 2 ^ nb)] := by
      intro p hp
      rw [List.mem_singleton] at hp
      subst hp
      exact ⟨by show nb ≤ 32; omega, Nat.mod_lt _ (Nat.two_pow_pos _)⟩
    refine ⟨P ++ [(nb, X.1 % 2 ^ nb)], ?_, ?_, hE2, ?_⟩
    · rw [putsS_append, ← hP1]
      unfold encStep
      rw [← hnb]; rfl
    · intro p hp
      rcases List.mem_append.1 hp with h | h
      · exact hP2 p h
      · exact hok1 p h
    · intro rest out hr
      have hok2 : putsOk (P ++ (nb, X.1 % 2 ^ nb) :: rest) := by
        intro p hp
        rcases List.mem_append.1 hp with h | h
        · exact hP2 p h
        · rcases List.mem_cons.1 h with h | h
          · exact hok1 p (by rw [h]; exact List.mem_cons_self)
          · exact hr p h
      have hnum := num_puts [] hok2
      rw [List.append_nil] at hnum
      have e1 : (P ++ [(nb, X.1 % 2 ^ nb)]) ++ rest = P ++ (nb, X.1 % 2 ^ nb) :: rest := by rw [List.append_assoc]; rfl
      have e2 : putsLen (P ++ [(nb, X.1 % 2 ^ nb)]) = putsLen P + nb := by rw [putsLen_append]; rfl
      rw [e1, e2, List.length_cons, fdGo, hbi, if_neg (by omega), Nat.add_sub_cancel, hnum, hba, hsy]
      have h1 := hfd ((nb, X.1 % 2 ^ nb) :: rest) (out ++ [s]) (fun p hp => hok2 p (List.mem_append_right _ hp))
      rw [h1, List.append_assoc]; rfl
theorem last_byte {D : List UInt8} (h : 0 < D.length) : leN D / 2 ^ (8 * (D.length - 1)) = (D.getD (D.length - 1) 0).toNat := by
  have e : D = D.take (D.length - 1) ++ [D.getD (D.length - 1) 0] := by
    rw [take_snocB (by omega), show D.length - 1 + 1 = D.length by omega, List.take_length]
  have hl : (D.take (D.length - 1)).length = D.length - 1 := by rw [List.length_take]; omega
  have h1 := leN_append (D.take (D.length - 1)) [D.getD (D.length - 1) 0]
  rw [← e, hl] at h1
  have h2 := leN_lt (D.take (D.length - 1))
  rw [hl] at h2
  rw [h1, Nat.add_mul_div_left _ _ (Nat.two_pow_pos _), Nat.div_eq_of_lt h2, Nat.zero_add]
  show (D.getD (D.length - 1) 0).toNat + 256 * 0 = _
  omega
theorem fse_back {sh l : List Nat} (hm : fmayL sh 6 = true) (hp : ∀ s ∈ l, 0 < sh.getD s 0) : fdecodeL sh (encodeL sh l) l.length = some l := by
  obtain ⟨-, -, -, -, hsum⟩ := fmayL_facts hm
  have hsum : sumL sh = 64 := hsum
  obtain ⟨P, hP1, hP2, hE, hfd⟩ := fd_back hsum l hp
  obtain ⟨X, hX⟩ : ∃ X, X = encGo sh l.reverse := ⟨_, rfl⟩
  rw [← hX] at hP1 hE hfd
  have hlo := hE.lo
  have hhi := hE.hi
  have hrest : putsOk [(6, X.1 - 64), (1, 1)] := by
    intro p hp
    rcases List.mem_cons.1 hp with h | h
    · subst h; exact ⟨by show 6 ≤ 32; omega, by show X.1 - 64 < 64; omega⟩
    · rw [List.mem_singleton] at h
      subst h; exact ⟨by show 1 ≤ 32; omega, by show 1 < 2; omega⟩
  have hok : putsOk (P ++ [(6, X.1 - 64), (1, 1)]) := by
    intro p hp
    rcases List.mem_append.1 hp with h | h
    · exact hP2 p h
    · exact hrest p h
  have hD : encodeL sh l = bytesS (putsS w0 (P ++ [(6, X.1 - 64), (1, 1)])) := by
    rw [putsS_append, ← hP1, hX]; rfl
  obtain ⟨D, hDD⟩ : ∃ D, D = encodeL sh l := ⟨_, rfl⟩
  rw [← hDD] at hD ⊢
  have hT : putsLen (P ++ [(6, X.1 - 64), (1, 1)]) = putsLen P + 7 := by rw [putsLen_append]; rfl
  have hlen : D.length = (putsLen P + 7 + 7) / 8 := by rw [hD, puts_length hok, hT]
  have hval : leN D = pvalP P + 2 ^ putsLen P * (X.1 - 64 + 64) := by
    rw [hD, leN_puts hok, pvalP_append]
    show pvalP P + 2 ^ putsLen P * (X.1 - 64 + 2 ^ 6 * (1 + 2 ^ 1 * 0)) = _
    rw [show (2 : Nat) ^ 6 * (1 + 2 ^ 1 * 0) = 64 by decide]
  have hpl := pvalP_lt P hP2
  have hlow : 2 ^ (putsLen P + 6) ≤ leN D := by
    rw [hval, Nat.pow_add]
    have : 2 ^ putsLen P * 2 ^ 6 ≤ 2 ^ putsLen P * (X.1 - 64 + 64) := Nat.mul_le_mul_left _ (by omega)
    omega
  have hhigh : leN D < 2 ^ (putsLen P + 7) := by
    rw [hval, Nat.pow_add]
    have : 2 ^ putsLen P * (X.1 - 64 + 64 + 1) ≤ 2 ^ putsLen P * 2 ^ 7 := Nat.mul_le_mul_left _ (by omega)
    rw [Nat.mul_add] at this
    omega
  have hpos : 0 < D.length := by omega
  have hlast := last_byte hpos
  obtain ⟨m, hm1, hm2⟩ : ∃ m, putsLen P + 6 = 8 * (D.length - 1) + m ∧ m < 8 := ⟨putsLen P + 6 - 8 * (D.length - 1), by omega, by omega⟩
  have hb1 : 2 ^ m ≤ (D.getD (D.length - 1) 0).toNat := by
    rw [← hlast, Nat.le_div_iff_mul_le (Nat.two_pow_pos _), ← Nat.pow_add, Nat.add_comm m, ← hm1]; exact hlow
  have hb2 : (D.getD (D.length - 1) 0).toNat < 2 ^ (m + 1) := by
    rw [← hlast, Nat.div_lt_iff_lt_mul (Nat.two_pow_pos _), ← Nat.pow_add, show m + 1 + 8 * (D.length - 1) = putsLen P + 7 by omega]; exact hhigh
  have hbl : Lib.bitLen (D.getD (D.length - 1) 0).toNat = m + 1 := bitLen_top ⟨(D.getD (D.length - 1) 0).toNat, UInt8.toNat_lt _⟩ ⟨m, hm2⟩ hb1 hb2
  have hfb : fdBits D = putsLen P + 6 := by unfold fdBits; rw [hbl]; omega
  have hne : D.getD (D.length - 1) 0 ≠ 0 := by
    intro e
    have := Nat.two_pow_pos m
    rw [e] at hb1
    have e0 : (0 : UInt8).toNat = 0 := rfl
    omega
  have hnum := num_puts (a := P) (k := 6) (v := X.1 - 64) (b := [(1, 1)]) [] hok
  rw [List.append_nil, ← hD] at hnum
  have hgo := hfd [(6, X.1 - 64), (1, 1)] [] hrest
  rw [← hD, List.nil_append] at hgo
  unfold fdecodeL
  rw [if_neg, hfb, Nat.add_sub_cancel, hnum, hgo]
  · rfl
  · rintro (h | h | h | h)
    · rw [hm] at h; cases h
    · omega
    · exact hne h
    · omega
end Go.Proofs.YtaelgbbnmjbjiaaGreat
namespace Go.Proofs.YtaelgbbnmjbjiaaGreat
open Go.RowKit
def stpPost (r : Option (List Sq × List UInt8)) (g : Nat) (A : Option Addr) (w : World) (e : Ending) (w' : World) : Prop :=
  w.grownBy w' (some g) ∧ match r with
  | none => (∃ A' n' c', e = .returned (.slice A' n' c')) ∧ ∃ l' A' c', bk A' = bk A ∧ IsPk w' g l' A' c' true
  | some (out, rest) => ∃ A1 c1 A' c', e = .returned (.slice A1 out.length c1) ∧ OwnS w' w.heap.size A1 out.length c1 out ∧ bk A' = bk A ∧ IsPk w' g rest A' c' false
theorem stpPost_bad {r : Option (List Sq × List UInt8)} {g c' n1 c1 : Nat} {w w' : World} {l' : List UInt8} {A A' A1 : Option Addr} (h : r = none) (hp : IsPk w' g l' A' c' true) (hA : bk A' = bk A) (hg : w.grownBy w' (some g)) : stpPost r g A w (.returned (.slice A1 n1 c1)) w' := by
  subst h; exact ⟨hg, ⟨_, _, _, rfl⟩, _, _, _, hA, hp⟩
set_option maxHeartbeats 2000000 in
set_option maxRecDepth 100000 in
theorem pkStepsBad (g c : Nat) (l : List UInt8) (A : Option Addr) (n : Nat) (w : World) (h : IsPk w g l A c true) (hn : n ≤ 65536) :
    Calls Tryz.prog 52 #[.pointer (some ⟨g, 0, none⟩), .int .i64 (n : Int)] w (stpPost none g A w) := by
  have HN := Lib.hid (pk_num_bad g c l A true ((n : Int) / 4) w h (.inl rfl))
  clear h
  go_enter Tryz.func52, Tryz.ntmps52
  go_wp2_with fail
  refine HN.out.mono ?_
  rintro e w1 ⟨rfl, hp1, hg1⟩
  have c1 := hp1.blk.cell 1
  simp only [List.getElem?_toArray, List.getElem?_cons_zero, List.getElem?_cons_succ] at c1
  go_wp2
  go_ret
  exact stpPost_bad rfl hp1 rfl hg1
set_option maxHeartbeats 4000000 in
set_option maxRecDepth 100000 in
theorem pkSteps (g c : Nat) (l : List UInt8) (A : Option Addr) (n : Nat) (w : World) (h : IsPk w g l A c false) (hl : l.length ≤ 140737488351232) (hn : n ≤ 65536) :
    Calls Tryz.prog 52 #[.pointer (some ⟨g, 0, none⟩), .int .i64 (n : Int)] w (stpPost (stepsL l n) g A w) := by
  obtain ⟨R, hR⟩ : ∃ R, stepsL l n = R := ⟨_, rfl⟩
  rw [hR]
  unfold stepsL at hR
  have E4 := Lib.hid (show (n : Int) / 4 = ((n / 4 : Nat) : Int) by omega)
  cases hp : pkNum l ((n / 4 : Nat) : Int) with
  | none =>
    rw [hp] at hR
    have HD := Lib.hid (show R = none from hR.symm)
    have HN := Lib.hid (pk_num_bad g c l A false _ w h (.inr hp))
    clear hR hp h hl
    go_enter Tryz.func52, Tryz.ntmps52
    go_wp2_with fail
    rw [E4.out]
    refine HN.out.mono ?_
    rintro e w1 ⟨rfl, hp1, hg1⟩
    have c1 := hp1.blk.cell 1
    simp only [List.getElem?_toArray, List.getElem?_cons_zero, List.getElem?_cons_succ] at c1
    go_wp2
    go_ret
    exact stpPost_bad HD.out hp1 rfl hg1
  | some p =>
    obtain ⟨many, k⟩ := p
    rw [hp] at hR
    obtain ⟨hk, -, hmany, -⟩ := pkNum_facts hp
    have HN := Lib.hid (pk_num_any g c l A _ many k w h hp)
    have hmn : many ≤ 65536 := by omega
    obtain ⟨bA, hbA, hbL⟩ : ∃ b, bk A = some b ∧ b < w.heap.size := by
      have h0 : 0 < l.length := by
        cases l with
        | nil => cases hp
        | cons _ _ => simp
      obtain ⟨b, o, x, rfl, -, hc⟩ := h.data.at_ h0
      exact ⟨b, rfl, block_lt hc⟩
    have HDm := Lib.hid (show R = if many = 0 then some ([], l.drop k) else stepsCodes many (str3 many 3 (l.drop k) []) from hR.symm)
    have hl1 : (l.drop k).length ≤ 140737488351232 := by rw [List.length_drop]; omega
    have hA1 : bk (cutA A c k) = bk A := bk_cut A c k
    generalize l.drop k = l1 at *
    generalize cutA A c k = A1 at *
    generalize c - k = ck at *
    clear hR hp h hl hk
    go_enter Tryz.func52, Tryz.ntmps52
    go_wp2_with fail
    rw [E4.out]
    refine HN.out.mono ?_
    rintro e w1 ⟨rfl, hp1, hg1⟩
    have c1 := hp1.blk.cell 1
    simp only [List.getElem?_toArray, List.getElem?_cons_zero, List.getElem?_cons_succ] at c1
    by_cases hm0 : many = 0
    · have HD := Lib.hid (HDm.out.trans (if_pos hm0))
      have em : ((many : Int) == 0) = true := by rw [hm0]; rfl
      clear hm0
      go_wp2
      go_ret
      rw [HD.out]
      exact ⟨hg1, none, 0, _, _, rfl, OwnS.nil _ _, hA1, hp1⟩
    · have HD := Lib.hid (HDm.out.trans (if_neg hm0))
      have em : ((many : Int) == 0) = false := beq_eq_false_iff_ne.2 (by omega)
      have hgw : g < w1.heap.size := hp1.blk.lt
      have hww := hg1.size
      have HC0 := Lib.hid (Cells.new w1 122 (#[.slice none 0 0, .slice none 0 0, .slice none 0 0]) (n := 3) (F := fun _ => .slice none 0 0) rfl (fun i hi => by
        rcases (by omega : i = 0 ∨ i = 1 ∨ i = 2) with rfl | rfl | rfl <;> rfl))
      have HBA := Lib.hid ((Below.refl w1.heap.size w1).alloc (Nat.le_refl _) (.cells #[.slice none 0 0, .slice none 0 0, .slice none 0 0] 122))
      have HPA := Lib.hid (hp1.later HBA.out)
      have HGA := Lib.hid (grown_trans hg1 (grown_below HBA.out))
      clear hp1 hg1 HN HDm hm0
      go_wp2
      generalize (w1.alloc (.cells #[.slice none 0 0, .slice none 0 0, .slice none 0 0] 122)) = w2 at *
      generalize hcb : w1.heap.size = cb at *
      go_loopg [31] 3 (fun gg s31 wr => ∃ (k : Nat) (F : Nat → Value) (l' : List UInt8) (A' : Option Addr) (c' : Nat) (bad : Bool), k ≤ 3 ∧ 3 - k ≤ gg ∧ s31 = .int .i64 (k : Int) ∧ Cells wr cb 122 3 F ∧ IsPk wr g l' A' c' bad ∧ bk A' = bk A ∧ w.grownBy wr (some g) ∧
        ((bad = true ∧ R = none) ∨ (bad = false ∧ l'.length ≤ 140737488351232 ∧ ∃ (cs : List (List Nat)) (As : Nat → Option Addr) (cc : Nat → Nat), cs.length = k ∧ (∀ j, j < k → F j = .slice (As j) many (cc j) ∧ OwnN wr w.heap.size (As j) many (cc j) (cs.getD j [])) ∧
          (∀ x ∈ cs, ∀ y ∈ x, y ≤ 16) ∧ R = stepsCodes many (str3 many (3 - k) l' cs))))
      case atStart => exact ⟨0, _, l1, A1, ck, false, by omega, by omega, rfl, HC0.out, HPA.out, hA1, HGA.out, .inr ⟨rfl, hl1, [], fun _ => none, fun _ => 0, rfl, fun j hj => by omega, by simp, HD.out⟩⟩
      case round =>
        obtain ⟨k, F, l', A', c', bad, hk, hgg, rfl, hcel, hpk, hAA, hgr, hst⟩ := hrel
        by_cases hk3 : k < 3
        · have hcg : g ≠ cb := by omega
          have hstep : Calls Tryz.prog 93 #[.pointer (some ⟨g, 0, none⟩), .int .i64 (many : Int)] wr fun e w' => ∃ A9 n9 c9 l9 B9 d9 bad9, e = .returned (.slice A9 n9 c9) ∧ Cells w' cb 122 3 F ∧ IsPk w' g l9 B9 d9 bad9 ∧ bk B9 = bk A ∧ w.grownBy w' (some g) ∧
              ((bad9 = true ∧ R = none) ∨ (bad9 = false ∧ l9.length ≤ 140737488351232 ∧ ∃ (cs : List (List Nat)) (As : Nat → Option Addr) (cc : Nat → Nat), cs.length = k + 1 ∧ (∀ j, j < k → F j = .slice (As j) many (cc j)) ∧ n9 = many ∧ A9 = As k ∧ c9 = cc k ∧ (∀ j, j < k + 1 → OwnN w' w.heap.size (As j) many (cc j) (cs.getD j [])) ∧
                (∀ x ∈ cs, ∀ y ∈ x, y ≤ 16) ∧ R = stepsCodes many (str3 many (3 - (k + 1)) l9 cs))) := by
            rcases hst with ⟨rfl, hR⟩ | ⟨rfl, hl', cs, As, cc, hcs, hrow, hsm, hR⟩
            · refine (pkStreamBad g c' l' A' many wr hpk).mono ?_
              rintro e w' ⟨hg2, ⟨A9, n9, c9, rfl⟩, l9, B9, d9, hB9, hp9⟩
              exact ⟨A9, n9, c9, l9, B9, d9, true, rfl, hcel.kept hg2 (by simpa using hcg), hp9, hB9.trans hAA, grown_trans hgr hg2, .inl ⟨rfl, hR⟩⟩
            · refine (pkStream g c' l' A' many wr hpk hl' hmn).mono ?_
              rintro e w' ⟨hg2, hpost⟩
              cases hs : streamL l' many with
              | none =>
                rw [hs] at hpost
                obtain ⟨⟨A9, n9, c9, rfl⟩, l9, B9, d9, hB9, hp9⟩ := hpost
                refine ⟨A9, n9, c9, l9, B9, d9, true, rfl, hcel.kept hg2 (by simpa using hcg), hp9, hB9.trans hAA, grown_trans hgr hg2, .inl ⟨rfl, ?_⟩⟩
                rw [hR, show 3 - k = (2 - k) + 1 by omega, str3, hs]; rfl
              | some q =>
                obtain ⟨cd, rest⟩ := q
                rw [hs] at hpost
                obtain ⟨A9, c9, B9, d9, rfl, hown, hB9, hp9⟩ := hpost
                obtain ⟨hf1, hf2, hf3⟩ := streamL_facts hs
                rw [hf1] at hown ⊢
                refine ⟨A9, many, c9, rest, B9, d9, false, rfl, hcel.kept hg2 (by simpa using hcg), hp9, hB9.trans hAA, grown_trans hgr hg2, .inr ⟨rfl, by omega, cs ++ [cd], fun j => if j = k then A9 else As j, fun j => if j = k then c9 else cc j, by simp [hcs], ?_, rfl, by simp, by simp, ?_, ?_, ?_⟩⟩
                · intro j hj
                  simp only [if_neg (show ¬ j = k by omega)]
                  exact (hrow j hj).1
                · intro j hj
                  by_cases e : j = k
                  · subst e
                    simp only [if_true]
                    rw [show (cs ++ [cd]).getD j [] = cd by simp [List.getD, ← hcs]]
                    exact Own.mono hown hgr.size
                  · simp only [if_neg e]
                    rw [show (cs ++ [cd]).getD j [] = cs.getD j [] by simp only [List.getD]; rw [List.getElem?_append_left (by omega)]]
                    exact Own.kept (hrow j (by omega)).2 hg2 (.inr (Own.ne_blk (hrow j (by omega)).2 hpk.blk (by decide)))
                · intro x hx
                  rcases List.mem_append.1 hx with h1 | h1
                  · exact hsm x h1
                  · rw [List.mem_singleton.1 h1]; exact hf2
                · rw [hR, show 3 - k = (2 - k) + 1 by omega, str3, hs]
                  show _ = stepsCodes many (str3 many (3 - (k + 1)) rest (cs ++ [cd]))
                  rw [show 3 - (k + 1) = 2 - k by omega]; rfl
          have HS := Lib.hid hstep
          clear hstep hst hcel hpk hgr
          go_wp2_with fail
          refine HS.out.mono ?_
          rintro e w3 ⟨A9, n9, c9, l9, B9, d9, bad9, rfl, hcel, hpk, hB9, hgr, hst⟩
          have f3 := hcel.frozen k
          have q3 := hcel.cell hk3
          have HC3 := Lib.hid (hcel.set k (.slice A9 n9 c9))
          have hgs := grown_set w3 ⟨cb, k, none⟩ (.slice A9 n9 c9)
          have hcbw : w.heap.size ≤ cb := by omega
          have HP3 := Lib.hid (hpk.kept hgs (by simpa using fun e => hcg e.symm) (.inr (by rw [hB9, hbA]; simp only [ne_eq, Option.some.injEq]; omega)))
          have HG3 := Lib.hid (grown_own hgr hgs (by intro k hk; cases hk; exact hcbw))
          have hst' : (bad9 = true ∧ R = none) ∨ (bad9 = false ∧ l9.length ≤ 140737488351232 ∧ ∃ (cs : List (List Nat)) (As : Nat → Option Addr) (cc : Nat → Nat), cs.length = k + 1 ∧ (∀ j, j < k + 1 → (if j = k then Value.slice A9 n9 c9 else F j) = .slice (As j) many (cc j) ∧ OwnN (w3.setCell ⟨cb, k, none⟩ (.slice A9 n9 c9)) w.heap.size (As j) many (cc j) (cs.getD j [])) ∧
              (∀ x ∈ cs, ∀ y ∈ x, y ≤ 16) ∧ R = stepsCodes many (str3 many (3 - (k + 1)) l9 cs)) := by
            rcases hst with h | ⟨h1, h2, cs, As, cc, h3, h4, rfl, rfl, rfl, h5, h6, h7⟩
            · exact .inl h
            · refine .inr ⟨h1, h2, cs, As, cc, h3, fun j hj => ⟨?_, Own.kept (h5 j hj) hgs (.inr (hcel.ne_own (h5 j hj) (by decide)))⟩, h6, h7⟩
              by_cases e : j = k
              · subst e; rw [if_pos rfl]
              · rw [if_neg e]; exact h4 j (by omega)
          have HST := Lib.hid hst'
          clear hst hst' hcel hpk hgr hgs HS
          go_wp2
          go_roundg (3 - (k + 1))
          case measure => omega
          case rel => exact ⟨k + 1, _, l9, B9, d9, bad9, by omega, by omega, by go_num, HC3.out, HP3.out, hB9, HG3.out, HST.out⟩
        · obtain rfl : k = 3 := by omega
          have q0 := hpk.blk.cell 0
          simp only [List.getElem?_toArray, List.getElem?_cons_zero, List.getElem?_cons_succ] at q0
          have HC := Lib.hid hcel
          rcases hst with ⟨rfl, hR⟩ | ⟨rfl, hl', cs, As, cc, hcs, hrow, hsm, hR⟩
          · have HN := Lib.hid (pk_num_bad g c' l' A' true (l'.length : Int) wr hpk (.inl rfl))
            have HG := Lib.hid hgr
            clear hpk hcel hgr
            go_wp2_with fail
            refine HN.out.mono ?_
            rintro e w4 ⟨rfl, hp4, hg4⟩
            have HT := Lib.hid (pk_take_bad g c' l' A' true 0 w4 hp4 (.inl rfl))
            have HG4 := Lib.hid (grown_trans HG.out hg4)
            clear hp4 hg4 q0
            go_wp2_with fail
            refine HT.out.mono ?_
            rintro e w5 ⟨rfl, hp5, hg5⟩
            have d5 := hp5.blk.cell 1
            simp only [List.getElem?_toArray, List.getElem?_cons_zero, List.getElem?_cons_succ] at d5
            have HP5 := Lib.hid hp5
            have HG5 := Lib.hid (grown_trans HG4.out hg5)
            clear hp5 hg5
            go_wp2
            go_ret
            exact stpPost_bad hR HP5.out hAA HG5.out
          · have HD3 := Lib.hid (show R = stepsNum many cs l' (pkNum l' (l'.length : Int)) from hR)
            have HROW := Lib.hid hrow
            have HSM := Lib.hid hsm
            have HG := Lib.hid hgr
            have HP := Lib.hid hpk
            clear hrow hsm hR hgr hpk hcel
            cases hp : pkNum l' (l'.length : Int) with
            | none =>
              have HN := Lib.hid (pk_num_bad g c' l' A' false (l'.length : Int) wr HP.out (.inr hp))
              have HD4 := Lib.hid (HD3.out.trans (by rw [hp, stepsNum]) : R = none)
              go_wp2_with fail
              refine HN.out.mono ?_
              rintro e w4 ⟨rfl, hp4, hg4⟩
              have HT := Lib.hid (pk_take_bad g c' l' A' true 0 w4 hp4 (.inl rfl))
              have HG4 := Lib.hid (grown_trans HG.out hg4)
              clear hp4 hg4 q0
              go_wp2_with fail
              refine HT.out.mono ?_
              rintro e w5 ⟨rfl, hp5, hg5⟩
              have d5 := hp5.blk.cell 1
              simp only [List.getElem?_toArray, List.getElem?_cons_zero, List.getElem?_cons_succ] at d5
              have HP5 := Lib.hid hp5
              have HG5 := Lib.hid (grown_trans HG4.out hg5)
              clear hp5 hg5
              go_wp2
              go_ret
              exact stpPost_bad HD4.out HP5.out hAA HG5.out
            | some p =>
              obtain ⟨bn, kk⟩ := p
              obtain ⟨hkk, hbn, -, -⟩ := pkNum_facts hp
              have HD4 := Lib.hid (HD3.out.trans (by rw [hp, stepsNum]))
              have HN := Lib.hid (pk_num_any g c' l' A' _ bn kk wr HP.out hp)
              go_wp2_with fail
              refine HN.out.mono ?_
              rintro e w4 ⟨rfl, hp4, hg4⟩
              have HP4 := Lib.hid hp4
              have HG4 := Lib.hid (grown_trans HG.out hg4)
              have HC4 := Lib.hid (HC.out.kept hg4 (by simp only [ne_eq, Option.some.injEq]; omega))
              have HROW4 := Lib.hid (fun j hj => Own.kept (HROW.out j hj).2 hg4 (.inr (Own.ne_blk (HROW.out j hj).2 HP.out.blk (by decide))))
              have hA4 : bk (cutA A' c' kk) = bk A := (bk_cut _ _ _).trans hAA
              have hl4 : (l'.drop kk).length ≤ 140737488351232 := by rw [List.length_drop]; omega
              clear hp4 hg4 hp q0 HN
              generalize l'.drop kk = l4 at *
              generalize cutA A' c' kk = A4 at *
              generalize c' - kk = c4 at *
              by_cases hbl : l4.length < bn
              · have HD5 := Lib.hid (HD4.out.trans (if_pos hbl))
                have HT := Lib.hid (pk_take_bad g c4 l4 A4 false bn w4 HP4.out (.inr (by omega)))
                clear hbl
                go_wp2_with fail
                refine HT.out.mono ?_
                rintro e w5 ⟨rfl, hp5, hg5⟩
                have d5 := hp5.blk.cell 1
                simp only [List.getElem?_toArray, List.getElem?_cons_zero, List.getElem?_cons_succ] at d5
                have HP5 := Lib.hid hp5
                have HG5 := Lib.hid (grown_trans HG4.out hg5)
                clear hp5 hg5
                go_wp2
                go_ret
                exact stpPost_bad HD5.out HP5.out hA4 HG5.out
              · have HD5 := Lib.hid (HD4.out.trans (if_neg hbl))
                have HT := Lib.hid (pk_take_any g c4 l4 A4 bn w4 HP4.out (by omega))
                go_wp2_with fail
                refine HT.out.mono ?_
                rintro e w5 ⟨rfl, hp5, hg5⟩
                have d5 := hp5.blk.cell 1
                simp only [List.getElem?_toArray, List.getElem?_cons_zero, List.getElem?_cons_succ] at d5
                have HP5 := Lib.hid hp5
                have HG5 := Lib.hid (grown_trans HG4.out hg5)
                have HC5 := Lib.hid (HC4.out.kept hg5 (by simp only [ne_eq, Option.some.injEq]; omega))
                have HROW5 := Lib.hid (fun j hj => Own.kept (HROW4.out j hj) hg5 (.inr (Own.ne_blk (HROW4.out j hj) HP4.out.blk (by decide))))
                have HB5 := Lib.hid (Rd.keptB (Bs.take bn HP4.out.data) hg5 (.inr HP4.out.ne) : Bs w5 A4 (l4.take bn))
                have hlb : (l4.take bn).length = bn := by rw [List.length_take]; omega
                have hA5 : bk (cutA A4 c4 bn) = bk A := (bk_cut _ _ _).trans hA4
                have HNR := Lib.hid (newReader A4 bn c4 (l4.take bn) w5 hlb HB5.out (by omega))
                have HSl := Lib.hid hlb
                clear hp5 hg5 HT hbl hlb HB5
                generalize l4.take bn = s at *
                generalize l4.drop bn = l5 at *
                generalize cutA A4 c4 bn = A5 at *
                generalize c4 - bn = c5 at *
                go_wp2_with fail
                refine HNR.out.mono ?_
                rintro e w6 ⟨gr, Ar, cr, rfl, hgr, hAr, hrow6, hb6⟩
                have hb5 := HG5.out.size
                have HSt := Lib.hid (⟨hrow6, HP5.out.later hb6, HC5.out.later hb6, fun j hj => Own.later (HROW5.out j hj) hb6, OwnS.nil _ _, grown_own HG5.out (grown_of_below hb6) (by intro k hk; cases hk), by omega, fun b hb => by rw [hA5, hbA] at hb; cases hb; exact hbL, fun b hb => by have := hAr b hb; omega⟩ :
                  StpR w w6 s gr Ar cr g l5 A5 c5 cb F many As cc (fun k => cs.getD k []) 0 false none 0 0 [])
                have HF := Lib.hid (fun j hj => (HROW.out j hj).1)
                have HD6 := Lib.hid HD5.out
                have hcs16 : ∀ k i, (cs.getD k []).getD i 0 ≤ 16 := fun k i => by
                  refine getD_le (fun x hx => ?_)
                  simp only [List.getD] at hx
                  cases e : cs[k]? with
                  | none => rw [e] at hx; simp at hx
                  | some c => rw [e] at hx; exact HSM.out c (List.mem_of_getElem? e) x (by simpa using hx)
                have HCS := Lib.hid hcs16
                clear hcs16 hrow6 hb6 hgr hAr HP5 HG5 HC5 HROW5 HP4 HG4 HC4 HROW4 HROW HSM HC HG HP HD3 HD4 HD5 HNR hb5 d5
                generalize hcsf : (fun k => cs.getD k []) = cs' at HSt HD6
                have HCf := Lib.hid hcsf
                go_wp2
                go_loopg [10, 56] many (fun gg s10 s56 wr => ∃ (i a co : Nat) (b : Bool) (Ao : Option Addr) (out : List Sq), i ≤ many ∧ many - i ≤ gg ∧ s10 = .slice Ao i co ∧ s56 = .int .i64 (i : Int) ∧ StpR w wr s gr Ar cr g l5 A5 c5 cb F many As cc cs' a b Ao i co out ∧ a ≤ 8 * s.length ∧
                  R = stepsEnd s l5 (stepGo s cs' (many - i) i a b out))
                case atStart => exact ⟨0, 0, 0, false, none, [], by omega, by omega, rfl, rfl, HSt.out, by omega, HD6.out⟩
                case round =>
                  obtain ⟨i, a, co, b, Ao, out, hi, hgi, rfl, rfl, hst, ha, hR⟩ := hrel
                  by_cases him : i < many
                  · have hvb := hst.grown.size
                    have HV0 := Lib.hid (Cells.new wr 126 (#[.int .i64 0, .int .i64 0, .int .i64 0]) (n := 3) (F := fun j => natv (([] : List Nat).getD j 0)) rfl (fun i hi => by
                      rcases (by omega : i = 0 ∨ i = 1 ∨ i = 2) with rfl | rfl | rfl <;> rfl))
                    have HS0 := Lib.hid (hst.later ((Below.refl wr.heap.size wr).alloc (Nat.le_refl _) (.cells #[.int .i64 0, .int .i64 0, .int .i64 0] 126)))
                    obtain ⟨T, hT⟩ : ∃ T, rd3 s [(cs' 0).getD i 0, (cs' 1).getD i 0, (cs' 2).getD i 0] a b [] = T := ⟨_, rfl⟩
                    have HR2 := Lib.hid (by rw [hR, show many - i = (many - (i + 1)) + 1 by omega, stepGo, hT] : R = stepsEnd s l5 (stepGo s cs' (many - (i + 1)) (i + 1) T.1 T.2.1 (out ++ [sqOf T.2.2])))
                    have HT := Lib.hid hT
                    clear hst hR hT
                    go_wp2
                    generalize (wr.alloc (.cells #[.int .i64 0, .int .i64 0, .int .i64 0] 126)) = w7 at *
                    generalize wr.heap.size = vb at *
                    go_loopg [59] 3 (fun gg s59 wi => ∃ (k a2 : Nat) (b2 : Bool) (vs : List Nat), k ≤ 3 ∧ 3 - k ≤ gg ∧ s59 = .int .i64 (k : Int) ∧ vs.length = k ∧ StpR w wi s gr Ar cr g l5 A5 c5 cb F many As cc cs' a2 b2 Ao i co out ∧ a2 ≤ 8 * s.length ∧
                      Cells wi vb 126 3 (fun j => natv (vs.getD j 0)) ∧ rd3 s ([(cs' 0).getD i 0, (cs' 1).getD i 0, (cs' 2).getD i 0].drop k) a2 b2 vs = T)
                    case atStart => exact ⟨0, a, b, [], by omega, by omega, rfl, rfl, HS0.out, ha, HV0.out, HT.out⟩
                    case round =>
                      obtain ⟨k, a2, b2, vs, hk, hgk, rfl, hvs, hst, ha2, hcel, hrd⟩ := hrel
                      by_cases hk3 : k < 3
                      · have q1 := hst.codes.cell hk3
                        rw [HF.out k hk3] at q1
                        obtain ⟨gq, hAq, q2⟩ := OwnN.cell_at (hst.rows k hk3) him
                        have hx16 : (cs' k).getD i 0 ≤ 16 := by rw [← HCf.out]; exact HCS.out k i
                        have hdrop : [(cs' 0).getD i 0, (cs' 1).getD i 0, (cs' 2).getD i 0].drop k = (cs' k).getD i 0 :: [(cs' 0).getD i 0, (cs' 1).getD i 0, (cs' 2).getD i 0].drop (k + 1) := by
                          rcases (by omega : k = 0 ∨ k = 1 ∨ k = 2) with rfl | rfl | rfl <;> rfl
                        rw [hdrop, rd3] at hrd
                        generalize hxx : (cs' k).getD i 0 = x at *
                        rw [hAq] at q1
                        have HRD := Lib.hid hrd
                        clear hrd hdrop hxx
                        cases x with
                        | zero =>
                          have HC8 := Lib.hid (hcel.ext (F' := fun j => natv ((vs ++ [0]).getD j 0)) (fun j hj => by
                            by_cases e : j < k
                            · simp only [List.getD]; rw [List.getElem?_append_left (by omega)]
                            · simp only [List.getD]
                              rw [List.getElem?_eq_none (by omega)]
                              rcases (by omega : j = k ∨ k + 1 ≤ j) with rfl | h
                              · rw [List.getElem?_append_right (by omega), hvs, Nat.sub_self]; rfl
                              · rw [List.getElem?_eq_none (by simp; omega)]))
                          have HS8 := Lib.hid hst
                          clear hcel hst
                          go_wp2
                          go_roundg (3 - (k + 1))
                          case measure => omega
                          case rel => exact ⟨k + 1, a2, b2, vs ++ [0], by omega, by omega, by go_num, by simp [hvs], HS8.out, ha2, HC8.out, by
                            have := HRD.out
                            simpa [numT] using this⟩
                        | succ y =>
                          have hp15 : y ≤ 15 := by omega
                          by_cases hbits : 8 * s.length < a2 + y
                          · have hnT : numT s a2 (y + 1) = (2 ^ y, a2, true) := by unfold numT; rw [if_neg (by omega), Nat.add_sub_cancel, if_pos hbits]
                            rw [hnT] at HRD
                            have HTk := Lib.hid (reader_take_bad gr a2 cr y s Ar wr hst.row (by rw [HSl.out]; omega) (by omega) ha2 hbits)
                            have HS8 := Lib.hid hst
                            have HC8 := Lib.hid hcel
                            clear hst hcel hnT hbits
                            go_wp2_with fail
                            refine HTk.out.mono ?_
                            rintro e w8 ⟨rfl, hr8, hg8⟩
                            have HS9 := Lib.hid (HS8.out.take hr8 hg8)
                            have HC9 := Lib.hid (HC8.out.kept hg8 (by simpa using fun e => (HC8.out.ne_blk HS8.out.row.blk (by decide)) e.symm))
                            have d1 := HS9.out.pk.blk.cell 1
                            simp only [List.getElem?_toArray, List.getElem?_cons_zero, List.getElem?_cons_succ] at d1
                            have f1 := HS9.out.pk.blk.frozen 1
                            have HS10 := Lib.hid (HS9.out.setBad true)
                            have HC10 := Lib.hid (HC9.out.kept (grown_set w8 ⟨g, 1, none⟩ (.bool true)) (by simpa using fun e => (HC9.out.ne_blk HS9.out.pk.blk (by decide)) e.symm))
                            have f2 := HC10.out.frozen k
                            have q3 := HC10.out.cell hk3
                            clear q1 q2 hr8 hg8 HS8 HC8 HTk
                            cases b2
                            all_goals go_wp2
                            all_goals rw [num_or0 hp15]
                            all_goals
                              have HSx := Lib.hid (HS10.out.cell HC10.out hvb k (.int .i64 ((2 ^ y : Nat) : Int)))
                              have HCx := Lib.hid ((HC10.out.set k (.int .i64 ((2 ^ y : Nat) : Int))).ext (F' := fun j => natv ((vs ++ [2 ^ y]).getD j 0)) (fun j hj => by subst hvs; exact vs_ext vs (2 ^ y) j))
                              go_roundg (3 - (k + 1))
                            all_goals first
                              | omega
                              | exact ⟨k + 1, a2, true, vs ++ [2 ^ y], by omega, by omega, by go_num, by simp [hvs], HSx.out, ha2, HCx.out, by have := HRD.out; simpa using this⟩
                          · have hnT : numT s a2 (y + 1) = (2 ^ y + numAt s a2 y, a2 + y, false) := by unfold numT; rw [if_neg (by omega), Nat.add_sub_cancel, if_neg hbits]
                            rw [hnT] at HRD
                            have HTk := Lib.hid (reader_take_ok gr a2 cr y s Ar wr hst.row (by rw [HSl.out]; omega) (by omega) (by omega))
                            have hlow := numAt_lt s a2 y
                            have HS8 := Lib.hid hst
                            have HC8 := Lib.hid hcel
                            generalize numAt s a2 y = low at *
                            have HE := Lib.hid (num_or2 hp15 hlow)
                            clear hst hcel hnT hlow
                            go_wp2_with fail
                            refine HTk.out.mono ?_
                            rintro e w8 ⟨rfl, hr8, hg8⟩
                            have HS9 := Lib.hid (HS8.out.take hr8 hg8)
                            have HC9 := Lib.hid (HC8.out.kept hg8 (by simpa using fun e => (HC8.out.ne_blk HS8.out.row.blk (by decide)) e.symm))
                            have d1 := HS9.out.pk.blk.cell 1
                            simp only [List.getElem?_toArray, List.getElem?_cons_zero, List.getElem?_cons_succ] at d1
                            have f1 := HS9.out.pk.blk.frozen 1
                            have HS10 := Lib.hid (HS9.out.setBad b2)
                            have HC10 := Lib.hid (HC9.out.kept (grown_set w8 ⟨g, 1, none⟩ (.bool b2)) (by simpa using fun e => (HC9.out.ne_blk HS9.out.pk.blk (by decide)) e.symm))
                            have f2 := HC10.out.frozen k
                            have q3 := HC10.out.cell hk3
                            clear q1 q2 hr8 hg8 HS8 HC8 HTk
                            cases b2
                            all_goals go_wp2
                            all_goals rw [HE.out]
                            all_goals
                              have HSx := Lib.hid (HS10.out.cell HC10.out hvb k (.int .i64 ((2 ^ y + low : Nat) : Int)))
                              have HCx := Lib.hid ((HC10.out.set k (.int .i64 ((2 ^ y + low : Nat) : Int))).ext (F' := fun j => natv ((vs ++ [2 ^ y + low]).getD j 0)) (fun j hj => by subst hvs; exact vs_ext vs (2 ^ y + low) j))
                              go_roundg (3 - (k + 1))
                            all_goals first
                              | omega
                              | exact ⟨k + 1, a2 + y, _, vs ++ [2 ^ y + low], by omega, by omega, by go_num, by simp [hvs], HSx.out, by omega, HCx.out, by have := HRD.out; simpa using this⟩
                      · obtain rfl : k = 3 := by omega
                        have hTe : T = (a2, b2, vs) := by rw [← hrd]; rfl
                        have p0 := hcel.cell (i := 0) (by omega)
                        have p1 := hcel.cell (i := 1) (by omega)
                        have p2 := hcel.cell (i := 2) (by omega)
                        have hTb := rd3_le (s := s) [(cs' 0).getD i 0, (cs' 1).getD i 0, (cs' 2).getD i 0] a b [] (fun c hcm => by
                          rw [← HCf.out] at hcm
                          simp only [List.mem_cons, List.not_mem_nil, or_false] at hcm
                          rcases hcm with rfl | rfl | rfl <;> exact HCS.out _ _) (by simp)
                        rw [HT.out, hTe] at hTb
                        have hv0 : vs.getD 0 0 ≤ 65536 := getD_le hTb.1
                        have hv1 : vs.getD 1 0 ≤ 65536 := getD_le hTb.1
                        have hv2 : vs.getD 2 0 ≤ 65536 := getD_le hTb.1
                        rw [hTe] at HR2
                        simp only [sqOf] at HR2
                        generalize vs.getD 0 0 = v0 at *
                        generalize vs.getD 1 0 = v1 at *
                        generalize vs.getD 2 0 = v2 at *
                        simp only [natv] at p0 p1 p2
                        have HS8 := Lib.hid hst
                        clear hst hcel hTe hTb hrd
                        go_wp2_with (at_builtin; go_loud (refine wpList_append_sq rfl _ _ rfl w.heap.size Ao i co out wr ⟨v0, v1 + 4, v2 + 1⟩ ?hw ?hs HS8.out.own ?hx ?hb ?hbase ?_; (case hs => simp [Act.eval]); (case hx => simp [Act.eval])))
                        case hw => rfl
                        case hb => omega
                        case hbase => exact HS8.out.grown.size
                        intro A9 c9 w9 hown9 hg9
                        have HS9 := Lib.hid (HS8.out.append hown9 hg9)
                        clear hown9 hg9 p0 p1 p2
                        go_wp2
                        go_roundg (many - (i + 1))
                        case measure => omega
                        case rel => exact ⟨i + 1, a2, c9, b2, A9, out ++ [⟨v0, v1 + 4, v2 + 1⟩], by omega, by omega, rfl, by go_num, HS9.out, ha2, HR2.out⟩
                  · obtain rfl : i = many := by omega
                    have HR2 := Lib.hid (by rw [hR, Nat.sub_self, stepGo]; rfl : R = if b = true ∨ numAt s a ((8 * s.length - a) % 8) ≠ 0 ∨ 0 < 8 * s.length - (a + (8 * s.length - a) % 8) then none else some (out, l5))
                    have HS8 := Lib.hid hst
                    have hol := OwnS.length hst.own
                    have hleft : (8 * s.length - a) % 8 < 8 := Nat.mod_lt _ (by omega)
                    have ha8 : a + (8 * s.length - a) % 8 ≤ 8 * s.length := by have := Nat.mod_le (8 * s.length - a) 8; omega
                    have HLeft := Lib.hid (reader_left gr a cr s Ar wr hst.row (by rw [HSl.out]; omega) ha)
                    have HT := Lib.hid (fun q => reader_take_ok gr a cr ((8 * s.length - a) % 8) s Ar (wr.drewN q) (HS8.out.row.later (below_drewN wr q)) (by rw [HSl.out]; omega) (by omega) ha8)
                    have HLL := Lib.hid (fun wq h => reader_left gr (a + (8 * s.length - a) % 8) cr s Ar wq h (by rw [HSl.out]; omega) ha8)
                    clear hst hR
                    generalize hL : 8 * s.length - a = left at *
                    have hE : ((left : Int)) % 8 = ((left % 8 : Nat) : Int) := by omega
                    have HEE := Lib.hid hE
                    clear hE
                    generalize hq8 : left % 8 = q8 at *
                    generalize numAt s a q8 = rest at *
                    generalize hl5 : 8 * s.length - (a + q8) = left5 at *
                    clear hL hl5 hq8
                    go_wp2_with fail
                    refine HLeft.out.mono ?_
                    rintro e w9 ⟨rfl, q, rfl⟩
                    go_wp2_with fail
                    rw [HEE.out]
                    refine (HT.out q).mono ?_
                    rintro e w10 ⟨rfl, hr10, hg10⟩
                    have HS10 := Lib.hid ((HS8.out.later (below_drewN wr q)).take hr10 hg10)
                    have HLL10 := Lib.hid (HLL.out w10 hr10)
                    clear hr10 hg10 HS8 HLeft HT HLL
                    by_cases hrest : rest = 0
                    · have hr0 : ((rest : Int) != 0) = false := by rw [hrest]; rfl
                      by_cases h5 : 0 < left5
                      · have HD5 := Lib.hid (HR2.out.trans (if_pos (.inr (.inr h5))))
                        have h5' : 0 < (left5 : Int) := by omega
                        clear hrest
                        go_wp2_with fail
                        refine HLL10.out.mono ?_
                        rintro e w11 ⟨rfl, q', rfl⟩
                        have HS11 := Lib.hid (HS10.out.later (below_drewN w10 q'))
                        have d1 := HS11.out.pk.blk.cell 1
                        simp only [List.getElem?_toArray, List.getElem?_cons_zero, List.getElem?_cons_succ] at d1
                        have f1 := HS11.out.pk.blk.frozen 1
                        have HS12 := Lib.hid (HS11.out.setBad true)
                        go_wp2
                        go_ret
                        exact stpPost_bad HD5.out HS12.out.pk hA5 HS12.out.grown
                      · have h5' : (left5 : Int) ≤ 0 := by omega
                        go_wp2_with fail
                        refine HLL10.out.mono ?_
                        rintro e w11 ⟨rfl, q', rfl⟩
                        have HS11 := Lib.hid (HS10.out.later (below_drewN w10 q'))
                        cases b with
                        | true =>
                          have HD5 := Lib.hid (HR2.out.trans (if_pos (.inl rfl)))
                          clear hrest
                          go_wp2
                          go_ret
                          exact stpPost_bad HD5.out HS11.out.pk hA5 HS11.out.grown
                        | false =>
                          have HD5 := Lib.hid (HR2.out.trans (if_neg (by rintro (h | h | h); cases h; exact h hrest; exact h5 h)))
                          clear hrest
                          go_wp2
                          go_ret
                          rw [HD5.out]
                          exact ⟨HS11.out.grown, Ao, co, A5, c5, by rw [hol]; rfl, by rw [hol]; exact HS11.out.own, hA5, HS11.out.pk⟩
                    · have hr0 : ((rest : Int) != 0) = true := by simpa using hrest
                      have HD5 := Lib.hid (HR2.out.trans (if_pos (.inr (.inl hrest))))
                      have d1 := HS10.out.pk.blk.cell 1
                      simp only [List.getElem?_toArray, List.getElem?_cons_zero, List.getElem?_cons_succ] at d1
                      have f1 := HS10.out.pk.blk.frozen 1
                      have HS12 := Lib.hid (HS10.out.setBad true)
                      clear hrest
                      go_wp2
                      go_ret
                      exact stpPost_bad HD5.out HS12.out.pk hA5 HS12.out.grown
end Go.Proofs.YtaelgbbnmjbjiaaGreat
namespace Go.Proofs.YtaelgbbnmjbjiaaGreat
open Go.RowKit
theorem bytesEqual (A1 A2 : Option Addr) (n c m d : Nat) (l1 l2 : List UInt8) (w : World) (h1 : l1.length = n) (h2 : l2.length = m) (hr1 : Bs w A1 l1) (hr2 : Bs w A2 l2) :
    Calls Tryz.prog 54 #[.slice A1 n c, .slice A2 m d] w fun e w' => e = .returned (.bool (l1 == l2)) ∧ w' = w := by
  have key : ∀ (A : Option Addr) (l : List UInt8), Bs w A l → Lib.BytesIn w A l.length (Lib.numsL l) := by
    intro A l h h0
    obtain ⟨b, o, e, hc⟩ := h (by simpa using h0)
    refine ⟨b, o, e, fun i hi => ?_⟩
    rw [hc i (by simpa using hi)]
    simp [Lib.numsL, List.getD, List.getElem?_eq_getElem hi, u8v]
  have := Tryz.bytes_Equal_all A1 A2 n c m d (Lib.numsL l1) (Lib.numsL l2) w (by rw [Lib.numsL_length, h1]) (by rw [Lib.numsL_length, h2]) (by rw [← h1]; exact key A1 l1 hr1) (by rw [← h2]; exact key A2 l2 hr2)
  rwa [Lib.bytesOf_numsL, Lib.bytesOf_numsL] at this
def takeE (l : List UInt8) (n : Nat) : Option (List UInt8 × List UInt8) := if l.length < n then none else some (l.take n, l.drop n)
def runSteps (lits : List UInt8) (n : Nat) : Option (List Sq × List UInt8) → Option (List UInt8 × List UInt8)
  | none => none
  | some (sq, rest) => (runL lits sq n).bind fun out => some (out, rest)
def runLits (n : Nat) : Option (List UInt8 × List UInt8) → Option (List UInt8 × List UInt8)
  | none => none
  | some (lits, rest) => runSteps lits n (stepsL rest n)
def bodyL (mode : UInt8) (n : Nat) (l : List UInt8) : Option (List UInt8 × List UInt8) :=
  if mode = 0 then takeE l n
  else if mode = 1 then (match l with | [] => none | x :: r => some (List.replicate n x, r))
  else runLits n (litL l n)
def endL (mode : UInt8) (n : Nat) : Option (List UInt8 × List UInt8) → Nat × List UInt8
  | none => (5, [])
  | some (out, s) => if s.length ≠ 4 ∨ out.length ≠ n ∨ (n = 0 ∧ mode ≠ 0) then (5, []) else if s = sumOf out then (0, out) else (6, [])
def numL (mode : UInt8) (l : List UInt8) (most : Int) : Option (Nat × Nat) → Nat × List UInt8
  | none => (5, [])
  | some (n, k) => if most < (n : Int) then (11, []) else endL mode n (bodyL mode n (l.drop k))
def modeL (most : Int) : List UInt8 → Nat × List UInt8
  | [] => (5, [])
  | mode :: l => if 2 < mode.toNat then (5, []) else numL mode l most (pkNum l 4294967295)
def unpackL (data : List UInt8) (most : Int) : Nat × List UInt8 :=
  if most < 0 ∨ 65536 < most then (1, []) else modeL most data
def unpPost (r : Nat × List UInt8) (w : World) (e : Ending) (w' : World) : Prop :=
  Below w.heap.size w w' ∧ ∃ A n c, e = .returned (.tuple #[.slice A n c, .int .i64 (r.1 : Int)]) ∧ NewB w' w.heap.size A n c r.2
theorem unpPost_bad {r : Nat × List UInt8} {w w' : World} {E : Nat} (h : r = (E, [])) (hb : Below w.heap.size w w') : unpPost r w (.returned (.tuple #[.slice none 0 0, .int .i64 (E : Int)])) w' := by
  subst h
  exact ⟨hb, none, 0, 0, rfl, NewB.nil _ _⟩
theorem decGo_len {F : Nat → Nat → Option UInt8} {l : List UInt8} : ∀ (n a : Nat) (out : List UInt8) {r : List UInt8 × Nat}, decGo F l n a out = some r → r.1.length = out.length + n
  | 0, a, out, r, h => by
    simp only [decGo, Option.some.injEq] at h
    subst h; rfl
  | n + 1, a, out, r, h => by
    rw [decGo_succ] at h
    cases hs : symD F l 12 a 0 0 with
    | none => rw [hs] at h; cases h
    | some p =>
      obtain ⟨u, a2⟩ := p
      rw [hs, decNext] at h
      have := decGo_len n _ _ h
      rw [this]; simp; omega
theorem decodeL_len {lens : List Nat} {l : List UInt8} {n : Nat} {out : List UInt8} (h : decodeL lens l n = some out) : out.length = n := by
  unfold decodeL at h
  split at h
  · cases h
  · generalize hG : decGo (decF lens (codesL lens) 256) l n 0 [] = G at h
    cases G with
    | none => cases h
    | some p =>
      obtain ⟨o, a⟩ := p
      rw [decEnd] at h
      split at h
      · cases h
      · injection h with h
        subst h
        have := decGo_len n _ _ hG
        simpa using this
theorem litL_facts {l : List UInt8} {n : Nat} {lits rest : List UInt8} (h : litL l n = some (lits, rest)) : lits.length ≤ n ∧ rest.length ≤ l.length := by
  unfold litL at h
  cases hp : pkNum l (n : Int) with
  | none => rw [hp] at h; cases h
  | some p =>
    obtain ⟨many, k⟩ := p
    obtain ⟨-, -, hm, -⟩ := pkNum_facts hp
    rw [hp, litMany] at h
    have hle : (l.drop k).length ≤ l.length := by rw [List.length_drop]; omega
    generalize l.drop k = l1 at *
    cases l1 with
    | nil => cases h
    | cons hb l2 =>
      simp only [litHow] at h
      rw [List.length_cons] at hle
      split at h
      · split at h
        · cases h
        · simp only [Option.some.injEq, Prod.mk.injEq] at h
          obtain ⟨rfl, rfl⟩ := h
          simp only [List.length_take, List.length_drop]
          omega
      · generalize tableL l2 = T at h
        cases T with
        | none => cases h
        | some q =>
          obtain ⟨lens, k3⟩ := q
          rw [litTab] at h
          split at h
          · cases h
          · generalize pkNum (l2.drop k3) ((l2.drop k3).length : Int) = N at h
            cases N with
            | none => cases h
            | some r =>
              obtain ⟨bn, kk⟩ := r
              rw [litNum] at h
              split at h
              · cases h
              · generalize hD : decodeL lens (((l2.drop k3).drop kk).take bn) many = D at h
                cases D with
                | none => cases h
                | some out =>
                  simp only [litDec, Option.some.injEq, Prod.mk.injEq] at h
                  obtain ⟨rfl, rfl⟩ := h
                  have := decodeL_len hD
                  simp only [List.length_drop]
                  omega
theorem stepGo_len {s : List UInt8} {cs : Nat → List Nat} : ∀ (r i a : Nat) (b : Bool) (out : List Sq), (stepGo s cs r i a b out).2.2.length = out.length + r
  | 0, i, a, b, out => rfl
  | r + 1, i, a, b, out => by
    rw [stepGo, stepGo_len r]; simp; omega
theorem stepsL_len {l : List UInt8} {n : Nat} {sq : List Sq} {rest : List UInt8} (h : stepsL l n = some (sq, rest)) : sq.length ≤ n := by
  unfold stepsL at h
  cases hp : pkNum l ((n / 4 : Nat) : Int) with
  | none => rw [hp] at h; cases h
  | some p =>
    obtain ⟨many, k⟩ := p
    obtain ⟨-, -, hm, -⟩ := pkNum_facts hp
    rw [hp, stepsMany] at h
    split at h
    · simp only [Option.some.injEq, Prod.mk.injEq] at h
      obtain ⟨rfl, -⟩ := h
      simp
    · generalize str3 many 3 (l.drop k) [] = S at h
      cases S with
      | none => cases h
      | some q =>
        obtain ⟨cs, l2⟩ := q
        rw [stepsCodes] at h
        generalize pkNum l2 (l2.length : Int) = N2 at h
        cases N2 with
        | none => cases h
        | some p2 =>
          obtain ⟨bn, kk⟩ := p2
          rw [stepsNum] at h
          split at h
          · cases h
          · unfold stepsEnd at h
            split at h
            · cases h
            · simp only [Option.some.injEq, Prod.mk.injEq] at h
              obtain ⟨rfl, -⟩ := h
              rw [stepGo_len]
              simp; omega
theorem runGo_len {most : Nat} : ∀ (l : List Sq) (out rest : List UInt8) {r : List UInt8 × List UInt8}, runGo most l out rest = some r → out.length ≤ most → r.1.length ≤ most
  | [], out, rest, r, h, ho => by
    simp only [runGo, Option.some.injEq] at h
    subst h; exact ho
  | x :: l, out, rest, r, h, ho => by
    rw [runGo] at h
    split at h
    · cases h
    · rename_i hb
      refine runGo_len l _ _ h ?_
      rw [copyL_len, List.length_append, List.length_take]
      unfold runBad at hb
      simp only [Bool.or_eq_true, Bool.and_eq_true, decide_eq_true_eq] at hb
      omega
theorem runL_len {lits : List UInt8} {l : List Sq} {most : Nat} {out : List UInt8} (h : runL lits l most = some out) : out.length ≤ most := by
  unfold runL at h
  generalize hG : runGo most l [] lits = G at h
  cases G with
  | none => cases h
  | some p =>
    obtain ⟨o, r⟩ := p
    have h1 := runGo_len l [] lits hG (by simp)
    rw [runEnd] at h
    split at h
    · cases h
    · injection h with h
      subst h
      rw [List.length_append]
      simp only at h1
      omega
end Go.Proofs.YtaelgbbnmjbjiaaGreat
