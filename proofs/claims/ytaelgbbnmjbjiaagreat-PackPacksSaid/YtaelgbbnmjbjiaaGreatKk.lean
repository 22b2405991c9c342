/-
  Parts of the proofs, in the order in which they build: D6, V4a, V4b, Y15, V4c, V4d, Y1, Y2, Y3.
-/
import Derived.Test.YtaelgbbnmjbjiaaGreatKd
import Derived.Test.YtaelgbbnmjbjiaaGreatKe
import Derived.Test.YtaelgbbnmjbjiaaGreatKg
import Derived.Test.YtaelgbbnmjbjiaaGreatKh
import Derived.Test.YtaelgbbnmjbjiaaGreatKj
set_option linter.unusedSimpArgs false
set_option linter.unusedVariables false
namespace Go.Proofs.YtaelgbbnmjbjiaaGreat
open Go.RowKit
theorem refXor (a b : Nat) (w : World) (ha : a < 4294967296) (hb : b < 4294967296) : Calls Tryz.prog 80 #[.int .i64 (a : Int), .int .i64 (b : Int)] w fun e w' => e = .returned (.int .i64 ((a ^^^ b : Nat) : Int)) ∧ w' = w := by
  have HX := Lib.hid (i64_xor_nat a b (by omega) (by omega))
  go_enter Tryz.func80, Tryz.ntmps80
  go_wp2
  go_ret
  exact ⟨ret_int HX.out, rfl⟩
theorem all_xor {x : Nat} (h : x < 4294967296) : 4294967295 ^^^ x = 4294967295 - x := by
  have h1 := congrArg BitVec.toNat (BitVec.allOnes_xor (x := BitVec.ofNat 32 x))
  rw [BitVec.toNat_xor, BitVec.toNat_not, BitVec.toNat_allOnes, BitVec.toNat_ofNat, Nat.mod_eq_of_lt (by omega)] at h1
  exact h1
set_option maxHeartbeats 4000000 in
set_option maxRecDepth 10000 in
theorem refCrc (A : Option Addr) (n c : Nat) (l : List UInt8) (w : World) (hl : l.length = n) (hr : Bs w A l) (hn : n ≤ 1000000000000) :
    Calls Tryz.prog 37 #[.slice A n c] w fun e w' => e = .returned (.int .i64 (Pl.crcL l : Nat)) ∧ w' = w := by
  have HL := Lib.hid hl
  have HR := Lib.hid hr
  clear hl hr
  go_enter Tryz.func37, Tryz.ntmps37
  go_wp2_with fail
  go_loopg [3, 4] n (fun gg s3 s4 wr => ∃ k x : Nat, k ≤ n ∧ n - k ≤ gg ∧ s3 = .int .i64 (x : Int) ∧ s4 = .int .i64 (k : Int) ∧ x = crcTo l k ∧ x < 4294967296 ∧ wr = w)
  case atStart => exact ⟨0, 4294967295, by omega, by omega, rfl, rfl, by simp [crcTo], by omega, rfl⟩
  case round =>
    obtain ⟨k, x, hk, hgg, rfl, rfl, hx, hx32, rfl⟩ := hrel
    by_cases hkn : k < n
    · obtain ⟨b, o, u, hA, hu, hc⟩ := HR.out.at_ (by rw [HL.out]; exact hkn : k < l.length)
      subst hA
      have hu8 : u.toNat < 256 := u.toNat_lt
      have HX := Lib.hid hx
      have HU := Lib.hid hu
      have HXo := Lib.hid (refXor x u.toNat wr hx32 (by omega))
      have hx1 : x ^^^ u.toNat < 4294967296 := Nat.xor_lt_two_pow (n := 32) hx32 (by omega)
      obtain ⟨y0, hy⟩ : ∃ y0, y0 = x ^^^ u.toNat := ⟨_, rfl⟩
      rw [← hy] at HXo hx1
      have HY := Lib.hid hy
      clear hx hu hy
      go_wp2_with fail
      refine HXo.out.mono ?_
      rintro e w1 ⟨rfl, rfl⟩
      go_wp2_with fail
      obtain ⟨wo, rfl⟩ : ∃ wo : World, wo = w1 := ⟨_, rfl⟩
      go_loopg [3, 5] 8 (fun gj s3 s5 wr => ∃ j y : Nat, j ≤ 8 ∧ 8 - j ≤ gj ∧ s3 = .int .i64 (y : Int) ∧ s5 = .int .i64 (j : Int) ∧ Pl.stN (8 - j) y = Pl.stN 8 y0 ∧ y < 4294967296 ∧ wr = wo)
      case atStart => exact ⟨0, y0, by omega, by omega, rfl, rfl, rfl, hx1, rfl⟩
      case round =>
        obtain ⟨j, y, hj, hgj, rfl, rfl, hst, hy32, rfl⟩ := hrel
        by_cases hj8 : j < 8
        · have HST := Lib.hid (show Pl.stN (8 - (j + 1)) (Pl.st y) = Pl.stN 8 y0 by rw [← hst, show 8 - j = (8 - (j + 1)) + 1 by omega]; rfl)
          have hy1 := Pl.st_lt hy32
          have hsv : Pl.st y = if y % 2 = 1 then (y / 2) ^^^ 2197175160 else y / 2 := by
            unfold Pl.st
            rw [Nat.shiftRight_eq_div_pow, Nat.pow_one]
            split
            · rfl
            · exact Nat.xor_zero _
          have HSV := Lib.hid hsv
          clear hst hsv
          by_cases hodd : y % 2 = 1
          · have g1 : ((y : Int) % 2 == 1) = true := by rw [beq_iff_eq]; omega
            have HX2 := Lib.hid (refXor (y / 2) 2197175160 wr (by omega) (by omega))
            have HS := Lib.hid (show Pl.st y = (y / 2) ^^^ 2197175160 by rw [HSV.out, if_pos hodd])
            rw [← HS.out] at HX2
            clear hodd
            go_wp2_with fail
            refine HX2.out.mono ?_
            rintro e w2 ⟨rfl, rfl⟩
            go_wp2
            go_roundg (8 - (j + 1))
            case measure => omega
            case rel => exact ⟨j + 1, Pl.st y, by omega, by omega, rfl, by go_num, HST.out, hy1, rfl⟩
          · have g1 : ((y : Int) % 2 == 1) = false := by rw [beq_eq_false_iff_ne]; omega
            have HS := Lib.hid (show Pl.st y = y / 2 by rw [HSV.out, if_neg hodd])
            clear hodd
            go_wp2
            go_roundg (8 - (j + 1))
            case measure => omega
            case rel => exact ⟨j + 1, y / 2, by omega, by omega, by go_num, by go_num, by rw [← HS.out]; exact HST.out, by omega, rfl⟩
        · obtain rfl : j = 8 := by omega
          have HN := Lib.hid (show y = crcTo l (k + 1) by
            have h : y = Pl.stN 8 y0 := by rw [← hst]; rfl
            rw [h, HY.out]; unfold crcTo; rw [foldl_crc_take HU.out]; rw [show (l.take k).foldl (fun x b => Pl.crcByte x b.toNat) 4294967295 = x from HX.out.symm]; rfl)
          clear hst
          go_wp2
          go_roundg (n - (k + 1))
          case measure => omega
          case rel => exact ⟨k + 1, y, by omega, by omega, rfl, by go_num, HN.out, hy32, rfl⟩
    · obtain rfl : k = n := by omega
      have HV := Lib.hid (show 4294967295 - x = Pl.crcL l by rw [← all_xor hx32, hx]; exact crcTo_end HL.out)
      clear hx
      go_wp2
      go_ret
      exact ⟨ret_int (by rw [← HV.out]; omega), rfl⟩
set_option maxHeartbeats 2000000 in
set_option maxRecDepth 10000 in
theorem refPutNum (A : Option Addr) (n c : Nat) (l : List UInt8) (v : Nat) (w : World) (hl : l.length = n) (hr : Bs w A l) (hn : n ≤ 1000000000000) (hv : v ≤ 4294967295) :
    Calls Tryz.prog 79 #[.slice A n c, .int .i64 (v : Int)] w fun e w' => ∃ A' m c', e = .returned (.tuple #[.slice A' m c', .int .i64 0]) ∧ OwnB w' w.heap.size A' m c' (l ++ numB 5 v) ∧ Below w.heap.size w w' := by
  have HL := Lib.hid hl
  have HR := Lib.hid hr
  clear hl hr
  go_enter Tryz.func79, Tryz.ntmps79
  go_wp2_with (at_builtin; refine wpList_append_rd rfl _ _ elemB rfl w.heap.size none 0 0 [] rfl (Own.nil _ _ _) A n c (l.map u8v) rfl HR.out ?h1 (u8_one _) ?h2 ?h3 ?hb ?_)
  case h1 => rw [List.length_map]; exact HL.out
  case h2 => omega
  case h3 => omega
  case hb => exact Nat.le_refl _
  intro A' c' w1 hown hb hg hat
  have HO := Lib.hid (show OwnB w1 w.heap.size A' n c' l by
    exact hown)
  have HB := Lib.hid hb
  clear hown hb hg hat
  go_wp2_with fail
  go_loopg [1, 6] 5 (fun gg s1 s6 wr => ∃ (f x m co : Nat) (Ao : Option Addr) (out : List UInt8), f ≤ 5 ∧ f ≤ gg ∧ s1 = .int .i64 (x : Int) ∧ s6 = .slice Ao m co ∧ x < 128 * 2 ^ (7 * f) ∧ x ≤ 4294967295 ∧ OwnB wr w.heap.size Ao m co out ∧ m ≤ 1000000000010 ∧ m + f ≤ n + 5 ∧ out ++ numB f x = l ++ numB 5 v ∧ Below w.heap.size w wr)
  case atStart => exact ⟨5, v, n, c', A', l, by omega, by omega, rfl, by first | rfl | (rw [Nat.zero_add]), by omega, hv, HO.out, by omega, by omega, rfl, HB.out⟩
  case round =>
    obtain ⟨f, x, m, co, Ao, out, hf, hgg, rfl, rfl, hx, hx32, hown, hm, hmf, heq, hbel⟩ := hrel
    have HO := Lib.hid hown
    have HQ := Lib.hid heq
    have HBel := Lib.hid hbel
    have HX := Lib.hid hx
    clear hown heq hbel hx
    by_cases h128 : 128 ≤ x
    · obtain ⟨f', rfl⟩ : ∃ f', f = f' + 1 := by
        have hx := HX.out
        cases f with
        | zero => omega
        | succ f => exact ⟨f, rfl⟩
      have HX2 := Lib.hid (show x / 128 < 128 * 2 ^ (7 * f') by
        have h := HX.out
        rw [show 7 * (f' + 1) = 7 * f' + 7 by omega, Nat.pow_add] at h
        generalize 2 ^ (7 * f') = p at *
        omega)
      have HQ2 := Lib.hid (show (out ++ [UInt8.ofNat (x % 128 + 128)]) ++ numB f' (x / 128) = l ++ numB 5 v by
        have h := HQ.out
        rw [numB, if_pos h128] at h
        rw [List.append_assoc]
        exact h)
      go_wp2_with (at_builtin; refine wpList_append_one rfl _ _ elemB rfl w.heap.size Ao m co (out.map u8v) wr (.int .u8 ((x : Int) % 128 + 128)) rfl rfl HO.out ?hx rfl ?d1 ?d2 ?d3 ?_)
      case hx => exact rfl
      case d1 => omega
      case d2 => omega
      case d3 => exact HBel.out.size
      intro A3 c3 w3 hown3 hb3 hgr3 hat3
      have HO3 := Lib.hid (ownB_snoc (b := UInt8.ofNat (x % 128 + 128)) hown3 (by rw [UInt8.toNat_ofNat']; omega))
      have HB3 := Lib.hid (HBel.out.trans hb3)
      clear hown3 hb3 hgr3 hat3
      go_wp2
      go_roundg f'
      case measure => omega
      case rel => exact ⟨f', x / 128, m + 1, c3, A3, out ++ [UInt8.ofNat (x % 128 + 128)], by omega, by omega, by go_num, rfl, HX2.out, by omega, HO3.out, by omega, by omega, HQ2.out, HB3.out⟩
    · have HQ2 := Lib.hid (show out ++ [UInt8.ofNat x] = l ++ numB 5 v by
        have h := HQ.out
        have : numB f x = [UInt8.ofNat x] := by
          cases f with
          | zero => rfl
          | succ f => rw [numB, if_neg h128]
        rw [this] at h
        exact h)
      go_wp2_with (at_builtin; refine wpList_append_one rfl _ _ elemB rfl w.heap.size Ao m co (out.map u8v) wr (.int .u8 (x : Int)) rfl rfl HO.out rfl rfl ?d1 ?d2 ?d3 ?_)
      case d1 => omega
      case d2 => omega
      case d3 => exact HBel.out.size
      intro A3 c3 w3 hown3 hb3 hgr3 hat3
      have HO3 := Lib.hid (ownB_snoc (b := UInt8.ofNat x) hown3 (by rw [UInt8.toNat_ofNat']; omega))
      have HB3 := Lib.hid (HBel.out.trans hb3)
      clear hown3 hb3 hgr3 hat3
      go_wp2
      go_ret2
      exact ⟨A3, m + 1, c3, rfl, by rw [← HQ2.out]; exact HO3.out, HB3.out⟩
theorem refNum (A : Option Addr) (n c : Nat) (l : List UInt8) (v : Nat) (w : World) (hl : l.length = n) (hr : Bs w A l) (hn : n ≤ 1000000000000) (hv : v ≤ 4294967295) :
    Calls Tryz.prog 36 #[.slice A n c, .int .i64 (v : Int)] w fun e w' => ∃ A' m c', e = .returned (.slice A' m c') ∧ OwnB w' w.heap.size A' m c' (l ++ numB 5 v) ∧ Below w.heap.size w w' := by
  have HP := Lib.hid (refPutNum A n c l v w hl hr hn hv)
  clear hl hr
  go_enter Tryz.func36, Tryz.ntmps36
  go_wp2_with fail
  refine HP.out.mono ?_
  rintro e w1 ⟨A1, m1, c1, rfl, hown, hb⟩
  have HO := Lib.hid hown
  have HB := Lib.hid hb
  clear hown hb HP
  go_wp2
  go_ret
  exact ⟨A1, m1, c1, rfl, HO.out, HB.out⟩
theorem sumOf_step {d : List UInt8} {k : Nat} (hk : k < 4) : (sumOf d).take (k + 1) = (sumOf d).take k ++ [UInt8.ofNat (Pl.crcL d / 2 ^ (8 * k))] := by
  obtain rfl | rfl | rfl | rfl : k = 0 ∨ k = 1 ∨ k = 2 ∨ k = 3 := by omega
  · show [UInt8.ofNat (Pl.crcL d)] = [UInt8.ofNat (Pl.crcL d / 1)]
    rw [Nat.div_one]
  all_goals rfl
set_option maxHeartbeats 4000000 in
set_option maxRecDepth 10000 in
theorem refFramed (m : Nat) (A : Option Addr) (n c : Nat) (d : List UInt8) (A2 : Option Addr) (n2 c2 : Nat) (body : List UInt8) (w : World) (hm : m < 256) (hl : d.length = n) (hr : Bs w A d) (hn : n ≤ 65536) (hl2 : body.length = n2) (hr2 : Bs w A2 body) (hn2 : n2 ≤ 1000000000) :
    Calls Tryz.prog 16 #[.int .u8 (m : Int), .slice A n c, .slice A2 n2 c2] w fun e w' => ∃ S k cs, e = .returned (.slice S k cs) ∧ OwnB w' w.heap.size S k cs (UInt8.ofNat m :: numB 5 n ++ body ++ sumOf d) ∧ Below w.heap.size w w' := by
  have hba := (Below.refl w.heap.size w).alloc (Nat.le_refl _) (.cells #[.int .u8 (m : Int)] 5)
  have e : u8v (UInt8.ofNat m) = .int .u8 (m : Int) := by
    unfold u8v
    rw [UInt8.toNat_ofNat', Nat.mod_eq_of_lt hm]
  have hr6 : Bs (w.alloc (.cells #[.int .u8 (m : Int)] 5)) (some ⟨w.heap.size, 0, none⟩) [UInt8.ofNat m] := by
    unfold Bs
    rw [List.map_cons, List.map_nil, e]
    exact Rd.one w (.int .u8 (m : Int)) 5
  have HP := Lib.hid (refNum (some ⟨w.heap.size, 0, none⟩) 1 1 [UInt8.ofNat m] n _ rfl hr6 (by omega) (by omega))
  have HL := Lib.hid hl
  have HR := Lib.hid hr
  have HL2 := Lib.hid hl2
  have HR2 := Lib.hid hr2
  have HBa := Lib.hid hba
  clear hr6 e hba hl hr hl2 hr2
  go_enter Tryz.func16, Tryz.ntmps16
  go_wp2_with fail
  refine HP.out.mono ?_
  rintro e w1 ⟨A1, m1, c1, rfl, hown1, hb1⟩
  have hsz := HBa.out.size
  have hm1 := OwnB.length hown1
  have hnb := numB_len 5 n
  rw [List.length_append, List.length_singleton] at hm1
  have HO1 := Lib.hid (Own.mono hown1 hsz)
  have HB1 := Lib.hid (HBa.out.trans (hb1.mono hsz))
  clear hown1 hb1 HP
  go_wp2_with (at_builtin; refine wpList_append_rd rfl _ _ elemB rfl w.heap.size A1 m1 c1 (([UInt8.ofNat m] ++ numB 5 n).map u8v) rfl HO1.out A2 n2 c2 (body.map u8v) rfl ?a1 ?a2 (u8_one _) ?a3 ?a4 ?a5 ?_)
  case a1 => exact HR2.out.later HB1.out
  case a2 => rw [List.length_map]; exact HL2.out
  case a3 => omega
  case a4 => omega
  case a5 => exact HB1.out.size
  intro A3 c3 w3 hown3 hb3 hg3 hat3
  have HB3 := Lib.hid (HB1.out.trans hb3)
  have HO3 := Lib.hid (show OwnB w3 w.heap.size A3 (m1 + n2) c3 (UInt8.ofNat m :: numB 5 n ++ body ++ (sumOf d).take 0) from by
    unfold OwnB
    simp only [List.map_append, List.map_cons, List.cons_append, List.append_assoc, List.map_nil, List.nil_append, List.take_zero, List.append_nil] at hown3 ⊢; exact hown3)
  have HC := Lib.hid (refCrc A n c d w3 HL.out (HR.out.later HB3.out) (by omega))
  have hlt := Pl.crcL_lt d
  obtain ⟨s, hs⟩ : ∃ s, s = Pl.crcL d := ⟨_, rfl⟩
  rw [← hs] at HC hlt
  have HS := Lib.hid hs
  clear hown3 hb3 hg3 hat3 HO1 HB1 hs
  go_wp2_with fail
  refine HC.out.mono ?_
  rintro e w4 ⟨rfl, rfl⟩
  go_wp2_with fail
  go_loopg [7, 9] 4 (fun gg s7 s9 wr => ∃ (k q co : Nat) (Ao : Option Addr), k ≤ 4 ∧ 4 - k ≤ gg ∧ s7 = .slice Ao q co ∧ q = m1 + n2 + k ∧ s9 = .int .i64 (k : Int) ∧ OwnB wr w.heap.size Ao q co (UInt8.ofNat m :: numB 5 n ++ body ++ (sumOf d).take k) ∧ Below w.heap.size w wr)
  case atStart => exact ⟨0, m1 + n2, c3, A3, by omega, by omega, rfl, rfl, rfl, HO3.out, HB3.out⟩
  case round =>
    clear HO3 HB3
    obtain ⟨k, q, co, Ao, hk, hgg, rfl, hq, rfl, hown, hbel⟩ := hrel
    have HO := Lib.hid hown
    have HB := Lib.hid hbel
    clear hown hbel
    by_cases hk4 : k < 4
    · have HSt := Lib.hid (sumOf_step (d := d) hk4)
      have hqb : q ≤ 2000000000 := by omega
      have HQ := Lib.hid hq
      clear hq
      go_wp2_with (at_builtin; refine wpList_append_one rfl _ _ elemB rfl w.heap.size Ao q co ((UInt8.ofNat m :: numB 5 n ++ body ++ (sumOf d).take k).map u8v) wr (.int .u8 ((s : Int) / 2 ^ (8 * k) % 256)) rfl rfl HO.out rfl rfl ?d1 ?d2 ?d3 ?_)
      case d1 => omega
      case d2 => omega
      case d3 => exact HB.out.size
      intro A5 c5 w5 hown5 hb5 hg5 hat5
      have HO5 := Lib.hid (show OwnB w5 w.heap.size A5 (q + 1) c5 (UInt8.ofNat m :: numB 5 n ++ body ++ (sumOf d).take (k + 1)) from by
        rw [HSt.out, ← HS.out, ← List.append_assoc]
        exact ownB_snoc (b := UInt8.ofNat (s / 2 ^ (8 * k))) (by simp only [List.map_append, List.map_cons, List.cons_append, List.append_assoc, List.map_take] at hown5 ⊢; exact hown5) (by rw [UInt8.toNat_ofNat', div_pow_cast]; omega))
      have HB5 := Lib.hid (HB.out.trans hb5)
      clear hown5 hb5 hg5 hat5 HO HB
      go_wp2
      go_roundg (4 - (k + 1))
      case measure => omega
      case rel => exact ⟨k + 1, q + 1, c5, A5, by omega, by omega, rfl, by have := HQ.out; omega, by go_num, HO5.out, HB5.out⟩
    · obtain rfl : k = 4 := by omega
      go_wp2
      go_ret
      exact ⟨Ao, q, co, rfl, HO.out, HB.out⟩
end Go.Proofs.YtaelgbbnmjbjiaaGreat
namespace Go.Proofs.YtaelgbbnmjbjiaaGreat
open Go.RowKit
def TopTo (l : List Nat) (m i : Nat) : Prop := i < m ∧ (∀ j, j < m → l.getD j 0 ≤ l.getD i 0) ∧ ∀ j, j < i → l.getD j 0 ≠ l.getD i 0
theorem TopTo.top {l : List Nat} {i : Nat} (h : TopTo l l.length i) : TopAt l i := by
  refine ⟨h.1, fun x hx => ?_, h.2.2⟩
  obtain ⟨k, hk, rfl⟩ := getD_mem hx
  exact h.2.1 k hk
theorem TopTo.new {l : List Nat} {m i : Nat} (h : TopTo l m i) (h2 : l.getD i 0 < l.getD m 0) : TopTo l (m + 1) m := by
  refine ⟨by omega, fun j hj => ?_, fun j hj => ?_⟩
  · rcases (by omega : j < m ∨ j = m) with h3 | rfl
    · have := h.2.1 j h3; omega
    · exact Nat.le_refl _
  · have := h.2.1 j hj; omega
theorem TopTo.old {l : List Nat} {m i : Nat} (h : TopTo l m i) (h2 : l.getD m 0 ≤ l.getD i 0) : TopTo l (m + 1) i := by
  refine ⟨by have := h.1; omega, fun j hj => ?_, h.2.2⟩
  rcases (by omega : j < m ∨ j = m) with h3 | rfl
  · exact h.2.1 j h3
  · exact h2
set_option maxHeartbeats 2000000 in
set_option maxRecDepth 10000 in
theorem refGreatest (A : Option Addr) (n c : Nat) (l : List Nat) (w : World) (hl : l.length = n) (hr : Ns w A l) (h0 : 0 < n) (hn : n ≤ 1000000000) :
    Calls Tryz.prog 85 #[.slice A n c] w fun e w' => ∃ i : Nat, e = .returned (.int .i64 (i : Int)) ∧ TopAt l i ∧ ∃ q, w' = w.drewN q := by
  have HL := Lib.hid hl
  have HR := Lib.hid hr
  clear hl hr
  go_enter Tryz.func85, Tryz.ntmps85
  go_wp2
  go_loopg [3, 4] n (fun gg s3 s4 wr => ∃ i m q : Nat, m ≤ n ∧ n - m ≤ gg ∧ s3 = .int .i64 (i : Int) ∧ s4 = .int .i64 (m : Int) ∧ i < m ∧ TopTo l m i ∧ wr = w.drewN q)
  case atStart => exact ⟨0, 1, 0, by omega, by omega, rfl, rfl, by omega, ⟨by omega, fun j hj => by (have e : j = 0 := by omega); rw [e]; exact Nat.le_refl _, fun j hj => by omega⟩, rfl⟩
  case round =>
    obtain ⟨i, m, q, hm, hgg, rfl, rfl, him, ht, rfl⟩ := hrel
    have HT := Lib.hid ht
    clear ht
    by_cases hmn : m < n
    · obtain ⟨b, o, x, hA, hx, hcx⟩ := HR.out.at_ (by rw [HL.out]; omega : m < l.length)
      obtain ⟨b2, o2, y, hA2, hy, hcy⟩ := HR.out.at_ (by rw [HL.out]; omega : i < l.length)
      rw [hA] at hA2
      obtain ⟨rfl, rfl⟩ : b = b2 ∧ o = o2 := by
        injection hA2 with h; injection h with h1 h2; exact ⟨h1, h2⟩
      subst hA
      have HE1 := Lib.hid (show l.getD m 0 = x by simp [List.getD, hx])
      have HE2 := Lib.hid (show l.getD i 0 = y by simp [List.getD, hy])
      have i1 : (m : Int) < n := by omega
      have i2 : (i : Int) < n := by omega
      clear hx hy hA2
      go_wp2
      go_quiet (fail)
      clear i1 i2
      by_cases hxy : y < x
      · have g : decide (y < x) = true := decide_eq_true (by omega)
        have HT2 := Lib.hid (HT.out.new (by rw [HE1.out, HE2.out]; exact hxy))
        go_wp2
        go_roundg (n - (m + 1))
        case measure => omega
        case rel => exact ⟨m, m + 1, _, by omega, by omega, rfl, by go_num, by omega, HT2.out, rfl⟩
      · have g : decide (y < x) = false := decide_eq_false (by omega)
        have HT2 := Lib.hid (HT.out.old (by rw [HE1.out, HE2.out]; omega))
        go_wp2
        go_roundg (n - (m + 1))
        case measure => omega
        case rel => exact ⟨i, m + 1, _, by omega, by omega, rfl, by go_num, by omega, HT2.out, rfl⟩
    · obtain rfl : m = n := by omega
      go_wp2
      go_ret
      exact ⟨i, rfl, TopTo.top (by rw [HL.out]; exact HT.out), q, rfl⟩
set_option maxHeartbeats 1000000 in
set_option maxRecDepth 10000 in
theorem refShMay (A : Option Addr) (n c : Nat) (l : List Nat) (w : World) (hl : l.length = n) (hr : Ns w A l) (hmay : fmayL l 6 = true) :
    Calls Tryz.prog 86 #[.slice A n c, .int .i64 6] w fun e w' => e = .returned (.bool true) ∧ w' = w := by
  obtain ⟨f1, f2, f3, f4, f5⟩ := fmayL_facts hmay
  obtain ⟨N, rfl⟩ : ∃ N, n = N + 1 := ⟨n - 1, by omega⟩
  obtain ⟨b, o, x, rfl, hx, hc⟩ := hr.at_ (by omega : N < l.length)
  have hx0 : x ≠ 0 := by
    rw [hl, Nat.add_sub_cancel] at f3
    intro e
    rw [List.getD, hx, e] at f3
    exact f3 rfl
  have hx0' : ((x : Int) == 0) = false := beq_eq_false_iff_ne.2 (by omega)
  have h64 : (N : Int) + 1 ≤ 64 := by omega
  have HL := Lib.hid hl
  have HR := Lib.hid hr
  have HB := Lib.hid f4
  have HS := Lib.hid f5
  clear hl hr f1 f2 f3 f4 f5 hmay hx hx0
  go_enter Tryz.func86, Tryz.ntmps86
  go_wp2
  go_loopg [5, 6] (N + 1) (fun g s5 s6 wr => ∃ k : Nat, k ≤ N + 1 ∧ N + 1 - k ≤ g ∧ s5 = .int .i64 (sumL (l.take k) : Nat) ∧ s6 = .int .i64 k ∧ wr = w)
  case atStart => exact ⟨0, Nat.zero_le _, by omega, rfl, rfl, rfl⟩
  case round =>
    obtain ⟨k, hk, hg, rfl, rfl, rfl⟩ := hrel
    by_cases hlt : k < N + 1
    · obtain ⟨b', o', y, e', hy, hcy⟩ := HR.out.at_ (by rw [HL.out]; exact hlt : k < l.length)
      cases e'
      have hk1 := sumL_step hy
      have hy64 : y ≤ 64 := HB.out y (List.mem_of_getElem? hy)
      have hsl : sumL (l.take (k + 1)) ≤ 64 := by
        have := sumL_take_le l (k + 1)
        have := HS.out
        omega
      have K1 := Lib.hid hk1
      have hs1 : sumL (l.take k) + y ≤ 64 := by omega
      clear hy hk1 hsl
      generalize sumL (l.take k) = s at *
      go_wp2
      go_roundg (N + 1 - (k + 1))
      case measure => omega
      case rel => exact ⟨k + 1, by omega, by omega, int_eq (by rw [K1.out]; omega), by go_num, rfl⟩
    · obtain rfl : k = N + 1 := by omega
      have e : sumL (l.take (N + 1)) = 64 := by
        rw [List.take_of_length_le (by rw [HL.out]; exact Nat.le_refl _)]; exact HS.out
      rw [e]
      go_wp2
      go_ret
      exact ⟨rfl, rfl⟩
set_option maxHeartbeats 2000000 in
set_option maxRecDepth 10000 in
theorem refPutShare (A : Option Addr) (n c : Nat) (sh : List Nat) (w : World) (hl : sh.length = n) (hr : Ns w A sh) (hmay : fmayL sh 6 = true) :
    Calls Tryz.prog 45 #[.slice A n c, .int .i64 6] w fun e w' => ∃ S m cs, e = .returned (.tuple #[.slice S m cs, .int .i64 0]) ∧ OwnB w' w.heap.size S m cs (shareB sh) ∧ Below w.heap.size w w' := by
  obtain ⟨f1, f2, f3, f4, f5⟩ := fmayL_facts hmay
  have HM := Lib.hid (refShMay A n c sh w hl hr hmay)
  have hba := (Below.refl w.heap.size w).alloc (Nat.le_refl _) (.cells #[.int .u8 6] 5)
  have hr6 : Bs (w.alloc (.cells #[.int .u8 6] 5)) (some ⟨w.heap.size, 0, none⟩) [6] := Rd.one w (.int .u8 6) 5
  have HP := Lib.hid (refPutNum (some ⟨w.heap.size, 0, none⟩) 1 1 [6] n _ rfl hr6 (by omega) (by omega))
  have HL := Lib.hid hl
  have HR := Lib.hid hr
  have HBa := Lib.hid hba
  have HB := Lib.hid f4
  have hn64 : n ≤ 64 := by omega
  clear hl hr f1 f2 f3 f4 f5 hmay hr6 hba
  go_enter Tryz.func45, Tryz.ntmps45
  go_wp2_with fail
  refine HM.out.mono ?_
  rintro e w0 ⟨rfl, rfl⟩
  go_wp2_with fail
  refine HP.out.mono ?_
  rintro e w1 ⟨A1, m1, c1, rfl, hown1, hb1⟩
  have hsz := HBa.out.size
  have hm1 := OwnB.length hown1
  have hnb := numB_len 5 n
  rw [List.length_append, List.length_singleton] at hm1
  have HO1 := Lib.hid (show OwnB w1 w0.heap.size A1 m1 c1 ([6] ++ numB 5 sh.length ++ (sh.take 0).flatMap (numB 5)) by
    rw [HL.out, List.take_zero, List.flatMap_nil, List.append_nil]
    exact Own.mono hown1 hsz)
  have HB1 := Lib.hid (HBa.out.trans (hb1.mono hsz))
  clear hown1 hb1 HP HM
  go_wp2_with fail
  go_loopg [7, 8] n (fun gg s7 s8 wr => ∃ (k m co : Nat) (Ao : Option Addr), k ≤ n ∧ n - k ≤ gg ∧ s7 = .slice Ao m co ∧ s8 = .int .i64 (k : Int) ∧ m ≤ 10 + 6 * k ∧ OwnB wr w0.heap.size Ao m co ([6] ++ numB 5 sh.length ++ (sh.take k).flatMap (numB 5)) ∧ Below w0.heap.size w0 wr)
  case atStart => exact ⟨0, m1, c1, A1, by omega, by omega, rfl, rfl, by omega, HO1.out, HB1.out⟩
  case round =>
    clear HO1 HB1 HBa
    obtain ⟨k, m, co, Ao, hk, hgg, rfl, rfl, hm, hown, hbel⟩ := hrel
    have HO := Lib.hid hown
    have HBel := Lib.hid hbel
    clear hown hbel
    by_cases hkn : k < n
    · obtain ⟨b, o, x, hA, hx, hc⟩ := HR.out.at_ (by rw [HL.out]; exact hkn : k < sh.length)
      subst hA
      have hc2 := (HBel.out.cell (by simpa using block_lt hc)).trans hc
      have hx64 : x ≤ 64 := HB.out x (List.mem_of_getElem? hx)
      have HSt := Lib.hid (flatMap_step (numB 5) hx)
      have HP := Lib.hid (refPutNum Ao m co _ x wr (OwnB.length HO.out) (OwnB.bs HO.out) (by omega) (by omega))
      clear hx hc
      go_wp2_with fail
      refine HP.out.mono ?_
      rintro e w3 ⟨A3, m3, c3, rfl, hown3, hb3⟩
      have hm3 := OwnB.length hown3
      rw [List.length_append, OwnB.length HO.out] at hm3
      have hnb3 := numB_len 5 x
      have HO3 := Lib.hid (show OwnB w3 w0.heap.size A3 m3 c3 ([6] ++ numB 5 sh.length ++ (sh.take (k + 1)).flatMap (numB 5)) by
        rw [HSt.out, ← List.append_assoc]
        exact Own.mono hown3 HBel.out.size)
      have HB3 := Lib.hid (HBel.out.trans (hb3.mono HBel.out.size))
      clear hown3 hb3 HP
      go_wp2
      go_roundg (n - (k + 1))
      case measure => omega
      case rel => exact ⟨k + 1, m3, c3, A3, by omega, by omega, rfl, by go_num, by omega, HO3.out, HB3.out⟩
    · obtain rfl : k = n := by omega
      have HO3 := Lib.hid (show OwnB wr w0.heap.size Ao m co (shareB sh) by
        have h := HO.out
        rw [List.take_of_length_le (by rw [HL.out]; exact Nat.le_refl _)] at h
        exact h)
      go_wp2
      go_ret2
      exact ⟨Ao, m, co, rfl, HO3.out, HBel.out⟩
end Go.Proofs.YtaelgbbnmjbjiaaGreat
namespace Go.Proofs.YtaelgbbnmjbjiaaGreat
open Go.RowKit
theorem TopAt.pos {l : List Nat} {i : Nat} (h : TopAt l i) (hs : 0 < sumL l) : 0 < l.getD i 0 := by
  have h2 := sum_le_nz (l := l) (m := l.getD i 0) h.2.1
  rcases Nat.eq_zero_or_pos (l.getD i 0) with h3 | h3
  · rw [h3, Nat.zero_mul] at h2; omega
  · exact h3
structure ShU (counts : List Nat) (N i : Nat) (O : List Nat) : Prop where
  len : O.length = N
  at_ : ∀ j, O.getD j 0 = if j < i then shV counts j else 0
theorem ShU.skip {counts O : List Nat} {N i : Nat} (h : ShU counts N i O) (hx : counts[i]? = some 0) : ShU counts N (i + 1) O :=
  ⟨h.len, sh_skip h.at_ hx⟩
theorem ShU.put {counts O : List Nat} {N i x X : Nat} (h : ShU counts N i O) (hx : counts[i]? = some x) (h0 : 0 < x) (hi : i < N) (hX : X = max 1 (x * 64 / sumL counts)) : ShU counts N (i + 1) (O.set i X) ∧ sumL (O.set i X) = sumL O + X := by
  have hv : shV counts i = X := by
    unfold shV
    have : counts.getD i 0 = x := by rw [List.getD, hx]; rfl
    rw [this, if_pos h0, hX]
  have hz : O.getD i 0 = 0 := by rw [h.at_ i, if_neg (by omega)]
  refine ⟨⟨by rw [List.length_set]; exact h.len, fun j => ?_⟩, ?_⟩
  · rw [getD_set]
    by_cases e : j = i
    · rw [if_pos ⟨e, by rw [h.len]; exact hi⟩, e, if_pos (by omega), hv]
    · rw [if_neg (fun h => e h.1), h.at_ j]
      by_cases h3 : j < i
      · rw [if_pos h3, if_pos (by omega)]
      · rw [if_neg h3, if_neg (by omega)]
  · have := sum_set O i X (by rw [h.len]; exact hi)
    omega
theorem OwnN.at_get {w : World} {base n c k : Nat} {A : Option Addr} {l : List Nat} (h : OwnN w base A n c l) (hk : k < n) : ∃ g, A = some ⟨g, 0, none⟩ ∧ base ≤ g ∧ w.cell? ⟨g, k, none⟩ = some (.int .i64 ((l.getD k 0 : Nat) : Int)) ∧ w.frozen? ⟨g, k, none⟩ = false := by
  have hlen := OwnN.length h
  obtain ⟨g, v, hA, hb, -, hv, hc, hf⟩ := Own.at_ h hk
  refine ⟨g, hA, hb, ?_, hf⟩
  rw [hc]
  rw [List.getElem?_map, List.getElem?_eq_getElem (by omega)] at hv
  simp only [List.getD, List.getElem?_eq_getElem (show k < l.length by omega), Option.getD_some]
  simpa [natv] using hv.symm
theorem OwnN.put {w : World} {base g n c k v : Nat} {l : List Nat} (h : OwnN w base (some ⟨g, 0, none⟩) n c l) : OwnN (w.setCell ⟨g, k, none⟩ (.int .i64 (v : Int))) base (some ⟨g, 0, none⟩) n c (l.set k v) := by
  have h2 := (Own.stored h k (natv v)).1
  unfold OwnN
  rw [List.map_set]
  exact h2
set_option maxHeartbeats 8000000 in
set_option maxRecDepth 10000 in
theorem refShare (A : Option Addr) (n c : Nat) (l : List Nat) (w : World) (hl : l.length = n) (hr : Ns w A l) (hn : n ≤ 64) (hb : ∀ x ∈ l, x ≤ 65536) (h0 : 0 < nz l) (h32 : nz l ≤ 32) :
    Calls Tryz.prog 44 #[.slice A n c, .int .i64 6] w fun e w' => ∃ S m cs sh, e = .returned (.tuple #[.slice S m cs, .int .i64 0]) ∧ OwnN w' w.heap.size S m cs sh ∧ ShareX l sh ∧ Below w.heap.size w w' := by
  have HL := Lib.hid hl
  have HR := Lib.hid hr
  have HBd := Lib.hid hb
  have H0 := Lib.hid h0
  have H32 := Lib.hid h32
  clear hl hr hb h0 h32
  have g0 : decide ((64 : Int) < (n : Int)) = false := decide_eq_false (by omega)
  go_enter Tryz.func44, Tryz.ntmps44
  go_wp2
  clear g0
  go_loopg [7, 8, 9, 10] n (fun gg s7 s8 s9 s10 wr => ∃ (k t al so : Nat), k ≤ n ∧ n - k ≤ gg ∧ s7 = .int .i64 (al : Int) ∧ s8 = .int .i64 (so : Int) ∧ s9 = .int .i64 ((t : Int) - 1) ∧ s10 = .int .i64 (k : Int) ∧ al = sumL (l.take k) ∧ so = nz (l.take k) ∧ al ≤ 65536 * k ∧ so ≤ k ∧ t ≤ k ∧ (∀ p, t ≤ p → p < k → l.getD p 0 = 0) ∧ (0 < t → 0 < l.getD (t - 1) 0) ∧ wr = w)
  case atStart => exact ⟨0, 0, 0, 0, by omega, by omega, rfl, rfl, rfl, rfl, rfl, rfl, by omega, by omega, by omega, fun p h1 h2 => by omega, fun h => by omega, rfl⟩
  case round =>
    obtain ⟨k, t, al, so, hk, hgg, rfl, rfl, rfl, rfl, hal, hso, hal9, hso9, htk, hz, hp, rfl⟩ := hrel
    have HAl := Lib.hid hal
    have HSo := Lib.hid hso
    have HZ := Lib.hid hz
    have HP := Lib.hid hp
    clear hz hp hal hso
    by_cases hkn : k < n
    · obtain ⟨b, o, x, hA, hx, hcx⟩ := HR.out.at_ (by rw [HL.out]; exact hkn : k < l.length)
      subst hA
      have hxd : l.getD k 0 = x := by simp [List.getD, hx]
      have hx16 := HBd.out x (List.mem_of_getElem? hx)
      have HXd := Lib.hid hxd
      have HAl2 := Lib.hid (show al + x = sumL (l.take (k + 1)) by rw [sumL_step hx, HAl.out])
      have HSo2 := Lib.hid (nz_step hx)
      clear hx hxd
      by_cases hx0 : 0 < x
      · have HZ2 := Lib.hid (show ∀ p, k + 1 ≤ p → p < k + 1 → l.getD p 0 = 0 from fun p h1 h2 => by omega)
        have HP2 := Lib.hid (show 0 < k + 1 → 0 < l.getD (k + 1 - 1) 0 from fun _ => by rw [Nat.add_sub_cancel, HXd.out]; exact hx0)
        have HSo3 := Lib.hid (show so + 1 = nz (l.take (k + 1)) by rw [HSo2.out, if_pos hx0, HSo.out])
        go_wp2
        go_roundg (n - (k + 1))
        case measure => omega
        case rel => exact ⟨k + 1, k + 1, al + x, so + 1, by omega, by omega, by go_num, by go_num, by go_num, by go_num, HAl2.out, HSo3.out, by omega, by omega, by omega, HZ2.out, HP2.out, rfl⟩
      · have HZ2 := Lib.hid (show ∀ p, t ≤ p → p < k + 1 → l.getD p 0 = 0 from fun p h1 h2 => by
          by_cases e : p = k
          · rw [e, HXd.out]; omega
          · exact HZ.out p h1 (by omega))
        have HSo3 := Lib.hid (show so = nz (l.take (k + 1)) by rw [HSo2.out, if_neg hx0, HSo.out]; rfl)
        go_wp2
        go_roundg (n - (k + 1))
        case measure => omega
        case rel => exact ⟨k + 1, t, al + x, so, by omega, by omega, by go_num, rfl, rfl, by go_num, HAl2.out, HSo3.out, by omega, by omega, by omega, HZ2.out, HP.out, rfl⟩
    · obtain rfl : k = n := by omega
      have hlt : l.take k = l := List.take_of_length_le (by rw [HL.out]; exact Nat.le_refl _)
      have hals := HAl.out
      have hsos := HSo.out
      rw [hlt] at hals hsos
      have hso1 : 0 < so ∧ so ≤ 32 := by
        have h1 := H0.out
        have h2 := H32.out
        omega
      have hal1 : 0 < al := by
        have h1 := nz_pos H0.out
        omega
      have ht0 : 0 < t := by
        rcases Nat.eq_zero_or_pos t with h | h
        · exfalso
          subst h
          have h1 : ∀ x ∈ l, x = 0 := fun x hx => by
            obtain ⟨p, hp, rfl⟩ := getD_mem hx
            exact HZ.out p (Nat.zero_le _) (by rw [← HL.out]; exact hp)
          have h2 := sum_le_nz (l := l) (m := 0) (fun x hx => by rw [h1 x hx]; exact Nat.le_refl _)
          omega
        · exact h
      obtain ⟨m, rfl⟩ : ∃ m, t = m + 1 := ⟨t - 1, by omega⟩
      have e1 : ((m + 1 : Nat) : Int) - 1 = (m : Int) := by omega
      rw [e1]
      have HAl3 := Lib.hid hals
      have HTop := Lib.hid (show 0 < l.getD m 0 by have h := HP.out (by omega); exact h)
      have HZ3 := Lib.hid HZ.out
      clear hlt hals hsos e1 HZ HP HAl HSo H0 H32 hgg hkn hso9
      obtain ⟨N, hN⟩ : ∃ N, N = m + 1 := ⟨_, rfl⟩
      have HN := Lib.hid hN
      have hN9 : 0 < N ∧ N ≤ 64 ∧ N ≤ k := by omega
      have e2 : (m : Int) + 1 = (N : Int) := by omega
      have hmN : m < N := by omega
      have i5 : (m : Int) < 64 := by omega
      have gs1 : ((so : Int) == 0) = false := beq_eq_false_iff_ne.2 (by omega)
      have gs2 : decide ((64 : Int) < 2 * (so : Int)) = false := decide_eq_false (by omega)
      obtain ⟨ti, hi, hz0, hz1, hz2⟩ := info_parts elemN_info
      obtain ⟨w0, hw0⟩ : ∃ w0, w0 = wr := ⟨_, rfl⟩
      subst hw0
      clear hN
      go_wp2_with (at_make; refine wpList_make_full _ rfl _ _ 45 rfl w0.heap.size 3 ti _ 1 Tryz.underlying45 hi hz0 hz1 .i64 .i64 N N N rfl ?e1 ?e2 rfl (by rw [hz2]; omega) (by unfold maxLen; omega) (Nat.le_refl _) ?_)
      case e1 => rw [← e2]; try rfl
      case e2 => rw [← e2]; try rfl
      intro w1 hown1 hg1
      rw [made_zeros] at hown1
      have HO1 := Lib.hid (show OwnN w1 w0.heap.size (some ⟨w0.heap.size, 0, none⟩) N N (List.replicate N 0) from hown1)
      have HB1 := Lib.hid ((Below.refl _ _).grown hg1 (Nat.le_refl _) (fun k hk => by cases hk) : Below w0.heap.size w0 w1)
      have HU1 := Lib.hid (⟨List.length_replicate, fun j => by rw [if_neg (by omega), List.getD, List.getElem?_replicate]; split <;> rfl⟩ : ShU l N 0 (List.replicate N 0))
      have HS1 := Lib.hid (sumL_zeros N)
      obtain ⟨go, hgo⟩ : ∃ go, go = w0.heap.size := ⟨_, rfl⟩
      rw [← hgo]
      rw [← hgo] at HO1
      have HGo := Lib.hid hgo
      clear hown1 hg1 hi hz0 hz1 hz2 hgo e2
      go_wp2_with fail
      go_loopg [12, 13] N (fun gg s12 s13 wr => ∃ (i su : Nat) (O : List Nat), i ≤ N ∧ N - i ≤ gg ∧ s12 = .int .i64 (su : Int) ∧ s13 = .int .i64 (i : Int) ∧ ShU l N i O ∧ su = sumL O ∧ su ≤ 64 * i ∧ OwnN wr go (some ⟨go, 0, none⟩) N N O ∧ Below w0.heap.size w0 wr)
      case atStart => exact ⟨0, 0, _, by omega, by omega, rfl, rfl, HU1.out, HS1.out.symm, by omega, HO1.out, HB1.out⟩
      case round =>
        clear HU1 HS1 HO1 HB1
        obtain ⟨i, su, O, hi, hgi, rfl, rfl, hU, hsu, hsu9, hO, hB⟩ := hrel
        have HU := Lib.hid hU
        have HSu := Lib.hid hsu
        have HO := Lib.hid hO
        have HB := Lib.hid hB
        clear hU hsu hO hB
        by_cases hiN : i < N
        · have him : i ≤ m := by have := HN.out; omega
          have g1 : decide ((i : Int) ≤ (m : Int)) = true := decide_eq_true (by omega)
          obtain ⟨b, o, x, hA, hx, hc⟩ := HR.out.at_ (by rw [HL.out]; omega : i < l.length)
          subst hA
          have hc2 := (HB.out.cell (by simpa using block_lt hc)).trans hc
          have hx16 := HBd.out x (List.mem_of_getElem? hx)
          have HX := Lib.hid hx
          clear hx hc
          have i2 : (i : Int) < k := by omega
          by_cases hx0 : x = 0
          · have g2 : ((x : Int) == 0) = true := by rw [hx0]; rfl
            have HU2 := Lib.hid (HU.out.skip (by rw [HX.out, hx0]))
            clear hx0
            go_wp2
            go_roundg (N - (i + 1))
            case measure => omega
            case rel => exact ⟨i + 1, su, O, by omega, by omega, rfl, by go_num, HU2.out, HSu.out, by omega, HO.out, HB.out⟩
          · have g2 : ((x : Int) == 0) = false := beq_eq_false_iff_ne.2 (by omega)
            obtain ⟨q, hq⟩ : ∃ q, q = x * 64 / al := ⟨_, rfl⟩
            have hq64 : q ≤ 64 := by
              have h1 : x ≤ al := by
                rw [HAl3.out]
                exact mem_le_sum (List.mem_of_getElem? HX.out)
              rw [hq]
              exact Nat.div_le_of_le_mul (by omega)
            have eq : ((x : Int) * 64 / (al : Int)) = (q : Int) := by rw [hq]; simp
            obtain ⟨P1, P2⟩ := HU.out.put (X := max 1 q) HX.out (by omega) hiN (by rw [hq, HAl3.out])
            obtain ⟨X, hX⟩ : ∃ X, X = max 1 q := ⟨_, rfl⟩
            rw [← hX] at P1 P2
            have hX9 : X ≤ 64 ∧ 1 ≤ X := by omega
            have HU2 := Lib.hid P1
            have HS2 := Lib.hid P2
            have HXq := Lib.hid hX
            obtain ⟨g, hg, hgg, hcz, hfz⟩ := OwnN.at_get HO.out hiN
            cases hg
            have HO2 := Lib.hid (OwnN.put (k := i) (v := X) HO.out)
            have HB2 := Lib.hid (HB.out.setCell (p := ⟨go, i, none⟩) (by have := HGo.out; show w0.heap.size ≤ go; omega) (.int .i64 (X : Int)))
            have i3 : (i : Int) < N := by omega
            clear hq hX P1 P2 hx0
            by_cases hq1 : q < 1
            · have hqz : q = 0 := by omega
              have hX1 : X = 1 := by have := HXq.out; omega
              subst hX1
              have g3 : decide ((q : Int) < 1) = true := decide_eq_true (by omega)
              have HO3 := Lib.hid (show OwnN ((wr.setCell ⟨go, i, none⟩ (.int .i64 (q : Int))).setCell ⟨go, i, none⟩ (.int .i64 1)) go (some ⟨go, 0, none⟩) N N (O.set i 1) by
                have h := OwnN.put (k := i) (v := 1) (OwnN.put (k := i) (v := q) HO.out)
                rw [List.set_set] at h
                exact h)
              have HB3 := Lib.hid ((HB.out.setCell (p := ⟨go, i, none⟩) (by have := HGo.out; show w0.heap.size ≤ go; omega) (.int .i64 (q : Int))).setCell (p := ⟨go, i, none⟩) (by have := HGo.out; show w0.heap.size ≤ go; omega) (.int .i64 1))
              clear hqz
              go_wp2
              go_roundg (N - (i + 1))
              case measure => omega
              case rel => exact ⟨i + 1, su + 1, _, by omega, by omega, by go_num, by go_num, HU2.out, by rw [HS2.out, HSu.out], by omega, HO3.out, HB3.out⟩
            · have hXq : X = q := by have := HXq.out; omega
              subst hXq
              have g3 : decide ((X : Int) < 1) = false := decide_eq_false (by omega)
              go_wp2
              go_roundg (N - (i + 1))
              case measure => omega
              case rel => exact ⟨i + 1, su + X, _, by omega, by omega, by go_num, by go_num, HU2.out, by rw [HS2.out, HSu.out], by omega, HO2.out, HB2.out⟩
        · obtain rfl : i = N := by omega
          have him : ¬ i ≤ m := by have := HN.out; omega
          have g1 : decide (i ≤ m) = false := decide_eq_false (by omega)
          have HFin := Lib.hid (fun f hf => ⟨O, fun j => by
              rw [HU.out.at_ j]
              split
              · rfl
              · next h =>
                have hz : l.getD j 0 = 0 := by
                  by_cases hjk : j < k
                  · exact HZ3.out j (by have := HN.out; omega) hjk
                  · exact getD_out (by rw [HL.out]; omega)
                unfold shV
                rw [hz, if_neg (by omega)], .inr (by
              have hN := HN.out
              rw [HU.out.len, HU.out.at_, if_pos (by omega)]
              unfold shV
              rw [show i - 1 = m by omega, if_pos HTop.out]
              omega), hf⟩ : ∀ f, AdjR O f → ShareX l f)
          have HLen := Lib.hid HU.out.len
          obtain ⟨w2, hw2⟩ : ∃ w2, w2 = wr := ⟨_, rfl⟩
          subst hw2
          have HOq := Lib.hid HO.out
          have HBq := Lib.hid HB.out
          have hsu5 : su ≤ 4096 := by omega
          clear HU HO HB him
          go_wp2_with fail
          go_loopg [12] su (fun gg s12 wr => ∃ (su : Nat) (O : List Nat), su ≤ gg ∧ s12 = .int .i64 (su : Int) ∧ su ≤ 4096 ∧ su = sumL O ∧ O.length = i ∧ OwnN wr go (some ⟨go, 0, none⟩) i i O ∧ (∀ f, AdjR O f → ShareX l f) ∧ Below w0.heap.size w0 wr)
          case atStart => exact ⟨su, O, Nat.le_refl _, rfl, hsu5, HSu.out, HLen.out, HOq.out, HFin.out, HBq.out⟩
          case round =>
            clear HOq HBq HFin HSu HLen hsu5 hsu9
            obtain ⟨su, O, hg, rfl, hsu9, hsu, hlen, hO, hfin, hB⟩ := hrel
            have HSu := Lib.hid hsu
            have HLen := Lib.hid hlen
            have HO := Lib.hid hO
            have HFin := Lib.hid hfin
            have HB := Lib.hid hB
            clear hsu hlen hO hfin hB
            by_cases hsz : 64 < su
            · have HGr := Lib.hid (refGreatest (some ⟨go, 0, none⟩) i i O wr HLen.out (OwnN.ns HO.out) hN9.1 (by omega))
              go_wp2_with fail
              refine HGr.out.mono ?_
              rintro e w3 ⟨p, rfl, htop, q3, rfl⟩
              have hpi : p < i := by rw [← HLen.out]; exact htop.1
              have HO3 := Lib.hid (Own.later HO.out (below_drewN wr q3))
              have HB3 := Lib.hid (HB.out.trans ((below_drewN wr q3).mono HB.out.size))
              obtain ⟨w3, hw3⟩ : ∃ w3, w3 = wr.drewN q3 := ⟨_, rfl⟩
              rw [← hw3] at HO3 HB3 ⊢
              obtain ⟨v, hv⟩ : ∃ v, v = O.getD p 0 := ⟨_, rfl⟩
              have hv1 : 0 < v := by rw [hv]; exact htop.pos (by rw [← HSu.out]; omega)
              have hv9 : v ≤ 4096 := by
                have h1 : v ≤ sumL O := by rw [hv]; exact mem_le_sum (getD_mem' htop.1)
                have h2 := HSu.out
                omega
              obtain ⟨g, hg2, -, hcz, hfz⟩ := OwnN.at_get HO3.out hpi
              cases hg2
              rw [← hv] at hcz
              have HO4 := Lib.hid (OwnN.put (k := p) (v := v - 1) HO3.out)
              have HB4 := Lib.hid (HB3.out.setCell (p := ⟨go, p, none⟩) (by have := HGo.out; show w0.heap.size ≤ go; omega) (.int .i64 ((v - 1 : Nat) : Int)))
              have ev : ((v - 1 : Nat) : Int) = (v : Int) - 1 := by omega
              rw [ev] at HO4 HB4
              have HS4 := Lib.hid (show su - 1 = sumL (O.set p (v - 1)) by
                have h1 := sum_set O p (v - 1) htop.1
                have h2 := HSu.out
                omega)
              have HF4 := Lib.hid (show ∀ f, AdjR (O.set p (v - 1)) f → ShareX l f from fun f hf => HFin.out f (.dec (by rw [← HSu.out]; exact hsz) htop (by rw [← hv]; exact hf)))
              have HL4 := Lib.hid (show (O.set p (v - 1)).length = i by rw [List.length_set]; exact HLen.out)
              have i2 : (p : Int) < i := by omega
              clear hw3 hv htop ev HGr
              go_wp2
              go_roundg (su - 1)
              case measure => omega
              case rel => exact ⟨su - 1, _, Nat.le_refl _, by go_num, by omega, HS4.out, HL4.out, HO4.out, HF4.out, HB4.out⟩
            · obtain ⟨w4, hw4⟩ : ∃ w4, w4 = wr := ⟨_, rfl⟩
              subst hw4
              have HOq := Lib.hid HO.out
              have HBq := Lib.hid HB.out
              have hsu64 : su ≤ 64 := by omega
              clear HO HB
              go_wp2_with fail
              go_loopg [12] (64 - su) (fun gg s12 wr => ∃ (su : Nat) (O : List Nat), 64 - su ≤ gg ∧ s12 = .int .i64 (su : Int) ∧ su ≤ 64 ∧ su = sumL O ∧ O.length = i ∧ OwnN wr go (some ⟨go, 0, none⟩) i i O ∧ (∀ f, AdjR O f → ShareX l f) ∧ Below w0.heap.size w0 wr)
              case atStart => exact ⟨su, O, Nat.le_refl _, rfl, hsu64, HSu.out, HLen.out, HOq.out, HFin.out, HBq.out⟩
              case round =>
                clear HOq HBq HFin HSu HLen hsu64 hsu9 hsz
                obtain ⟨su, O, hg, rfl, hsu9, hsu, hlen, hO, hfin, hB⟩ := hrel
                have HSu := Lib.hid hsu
                have HLen := Lib.hid hlen
                have HO := Lib.hid hO
                have HFin := Lib.hid hfin
                have HB := Lib.hid hB
                clear hsu hlen hO hfin hB
                by_cases hsz : su < 64
                · have HGr := Lib.hid (refGreatest (some ⟨go, 0, none⟩) i i O wr HLen.out (OwnN.ns HO.out) hN9.1 (by omega))
                  go_wp2_with fail
                  refine HGr.out.mono ?_
                  rintro e w3 ⟨p, rfl, htop, q3, rfl⟩
                  have hpi : p < i := by rw [← HLen.out]; exact htop.1
                  have HO3 := Lib.hid (Own.later HO.out (below_drewN wr q3))
                  have HB3 := Lib.hid (HB.out.trans ((below_drewN wr q3).mono HB.out.size))
                  obtain ⟨w3, hw3⟩ : ∃ w3, w3 = wr.drewN q3 := ⟨_, rfl⟩
                  rw [← hw3] at HO3 HB3 ⊢
                  obtain ⟨v, hv⟩ : ∃ v, v = O.getD p 0 := ⟨_, rfl⟩
                  have hv9 : v ≤ 4096 := by
                    have h1 : v ≤ sumL O := by rw [hv]; exact mem_le_sum (getD_mem' htop.1)
                    have h2 := HSu.out
                    omega
                  obtain ⟨g, hg2, -, hcz, hfz⟩ := OwnN.at_get HO3.out hpi
                  cases hg2
                  rw [← hv] at hcz
                  have HO4 := Lib.hid (OwnN.put (k := p) (v := v + 1) HO3.out)
                  have HB4 := Lib.hid (HB3.out.setCell (p := ⟨go, p, none⟩) (by have := HGo.out; show w0.heap.size ≤ go; omega) (.int .i64 ((v + 1 : Nat) : Int)))
                  have ev : ((v + 1 : Nat) : Int) = (v : Int) + 1 := by omega
                  rw [ev] at HO4 HB4
                  have HS4 := Lib.hid (show su + 1 = sumL (O.set p (v + 1)) by
                    have h1 := sum_set O p (v + 1) htop.1
                    have h2 := HSu.out
                    omega)
                  have HF4 := Lib.hid (show ∀ f, AdjR (O.set p (v + 1)) f → ShareX l f from fun f hf => HFin.out f (.inc (by rw [← HSu.out]; exact hsz) htop (by rw [← hv]; exact hf)))
                  have HL4 := Lib.hid (show (O.set p (v + 1)).length = i by rw [List.length_set]; exact HLen.out)
                  have i2 : (p : Int) < i := by omega
                  clear hw3 hv htop ev HGr
                  go_wp2
                  go_roundg (64 - (su + 1))
                  case measure => omega
                  case rel => exact ⟨su + 1, _, Nat.le_refl _, by go_num, by omega, HS4.out, HL4.out, HO4.out, HF4.out, HB4.out⟩
                · have HX := Lib.hid (HFin.out O (.done (by have := HSu.out; omega)))
                  go_wp2
                  go_ret2
                  exact ⟨_, i, _, O, rfl, by rw [← HGo.out]; exact HO.out, HX.out, HB.out⟩
end Go.Proofs.YtaelgbbnmjbjiaaGreat
namespace Go.Proofs.YtaelgbbnmjbjiaaGreat
open Go.RowKit
theorem nxt_getD (l : List Nat) (s : Nat) : ∀ p, (∀ q, q < p → symOf l q < l.length) → (nxt l p).getD s 0 = l.getD s 0 + (toL l p s).length
  | 0, _ => by show l.getD s 0 = l.getD s 0 + 0; omega
  | p + 1, h => by
    have ih := nxt_getD l s p (fun q hq => h q (by omega))
    have hp := h p (by omega)
    have hl : (nxt l p).length = l.length := nxt_len l p
    rw [nxt, toL]
    by_cases e : symOf l p = s
    · rw [if_pos e, List.length_append, List.length_singleton, ← e, List.getD, List.getElem?_set_self (by rw [hl]; exact hp)]
      show (nxt l p).getD (symOf l p) 0 + 1 = _
      rw [e, ih]; omega
    · rw [if_neg e, ← ih, List.getD, List.getElem?_set_ne e]; rfl
theorem nOf_eq {l : List Nat} {p : Nat} (h : ∀ q, q < p → symOf l q < l.length) : nOf l p = l.getD (symOf l p) 0 + (toL l p (symOf l p)).length := nxt_getD l _ p h
theorem toL_nth (l : List Nat) (s : Nat) : ∀ n i, i < (toL l n s).length → (toL l n s).getD i 0 < n ∧ symOf l ((toL l n s).getD i 0) = s ∧ (toL l ((toL l n s).getD i 0) s).length = i
  | 0, i, h => by cases h
  | n + 1, i, h => by
    by_cases e : symOf l n = s
    · rw [toL, if_pos e] at h ⊢
      rw [List.length_append, List.length_singleton] at h
      by_cases hi : i < (toL l n s).length
      · obtain ⟨h1, h2, h3⟩ := toL_nth l s n i hi
        have e2 : (toL l n s ++ [n]).getD i 0 = (toL l n s).getD i 0 := by
          rw [List.getD, List.getElem?_append_left hi]; rfl
        rw [e2]; exact ⟨by omega, h2, h3⟩
      · have hi2 : i = (toL l n s).length := by omega
        have e2 : (toL l n s ++ [n]).getD i 0 = n := by
          rw [List.getD, hi2, List.getElem?_concat_length]; rfl
        rw [e2]; exact ⟨by omega, e, hi2.symm⟩
    · rw [toL, if_neg e] at h ⊢
      obtain ⟨h1, h2, h3⟩ := toL_nth l s n i h
      exact ⟨by omega, h2, h3⟩
theorem toL_mono (l : List Nat) (s : Nat) {p q : Nat} (h : p ≤ q) : (toL l p s).length ≤ (toL l q s).length := by
  induction h with
  | refl => exact Nat.le_refl _
  | step h ih =>
    rw [toL]
    split
    · rw [List.length_append]; omega
    · exact ih
theorem toL_less {l : List Nat} {s p q : Nat} (h : p < q) (hp : symOf l p = s) : (toL l p s).length < (toL l q s).length := by
  have h1 := toL_mono l s (show p + 1 ≤ q from h)
  rw [toL, if_pos hp, List.length_append, List.length_singleton] at h1
  omega
theorem place_one {l : List Nat} {s x n p : Nat} (hs : ∀ q, q < n → symOf l q < l.length) (hx : l.getD s 0 ≤ x) (hi : x - l.getD s 0 < (toL l n s).length) (hp : p < n) :
    (symOf l p = s ∧ nOf l p = x) ↔ p = (toL l n s).getD (x - l.getD s 0) 0 := by
  obtain ⟨h1, h2, h3⟩ := toL_nth l s n _ hi
  generalize hq : (toL l n s).getD (x - l.getD s 0) 0 = q at h1 h2 h3 ⊢
  constructor
  · rintro ⟨h4, h5⟩
    have h6 := nOf_eq (l := l) (p := p) (fun k hk => hs k (by omega))
    rw [h4, h5] at h6
    rcases Nat.lt_trichotomy p q with h | h | h
    · have := toL_less h h4; omega
    · exact h
    · have := toL_less h h2; omega
  · rintro rfl
    refine ⟨h2, ?_⟩
    rw [nOf_eq (fun k hk => hs k (by omega)), h2, h3]; omega
theorem place43 {q : Nat} (h : q < 64) : 3 * (43 * q % 64) % 64 = q := by omega
end Go.Proofs.YtaelgbbnmjbjiaaGreat
namespace Go.Proofs.YtaelgbbnmjbjiaaGreat
open Go.RowKit
def plA (l : List Nat) (q j : Nat) : Value := .int .i64 (if j % 2 = 0 ∧ 3 * (j / 2) % 64 < q then ((symOf l (j / 2) : Nat) : Int) else 0)
def plB (l : List Nat) (p j : Nat) : Value := .int .i64 (if j % 2 = 0 then ((symOf l (j / 2) : Nat) : Int) else if j / 2 < p then ((nOf l (j / 2) : Nat) : Int) else 0)
theorem back43 {x : Nat} (h : x < 64) : 43 * (3 * x % 64) % 64 = x := by omega
theorem plA_step {l : List Nat} {q s : Nat} (hq : q < 64) (hs : (symL l 0)[q]? = some s) (j : Nat) (hj : j < 128) : (if j = 43 * q % 64 * 2 then Value.int .i64 (s : Int) else plA l q j) = plA l (q + 1) j := by
  unfold plA
  by_cases e : j = 43 * q % 64 * 2
  · rw [if_pos e]
    have h1 : j / 2 = 43 * q % 64 := by omega
    have h2 := place43 hq
    rw [h1, h2, if_pos ⟨by omega, by omega⟩]
    unfold symOf
    rw [h2, List.getD, hs]; rfl
  · rw [if_neg e]
    by_cases h2 : j % 2 = 0
    · have h3 : 3 * (j / 2) % 64 ≠ q := by
        intro h
        have h4 := back43 (x := j / 2) (by omega)
        rw [h] at h4
        omega
      by_cases h4 : 3 * (j / 2) % 64 < q
      · rw [if_pos ⟨h2, h4⟩, if_pos ⟨h2, by omega⟩]
      · rw [if_neg (fun h => h4 h.2), if_neg (fun h => by omega)]
    · rw [if_neg (fun h => h2 h.1), if_neg (fun h => h2 h.1)]
theorem plA_end {l : List Nat} (j : Nat) (_hj : j < 128) : plA l 64 j = plB l 0 j := by
  unfold plA plB
  by_cases h : j % 2 = 0
  · rw [if_pos ⟨h, by omega⟩, if_pos h]
  · rw [if_neg (fun h2 => h h2.1), if_neg h, if_neg (by omega)]
theorem plB_step {l : List Nat} {p x : Nat} (hx : x = nOf l p) (j : Nat) (_hj : j < 128) : (if j = p * 2 + 1 then Value.int .i64 (x : Int) else plB l p j) = plB l (p + 1) j := by
  unfold plB
  by_cases e : j = p * 2 + 1
  · rw [if_pos e, if_neg (by omega), if_pos (by omega), show j / 2 = p by omega, hx]
  · rw [if_neg e]
    by_cases h : j % 2 = 0
    · rw [if_pos h, if_pos h]
    · rw [if_neg h, if_neg h]
      by_cases h2 : j / 2 < p
      · rw [if_pos h2, if_pos (by omega)]
      · rw [if_neg h2, if_neg (by omega)]
theorem plB_sym (l : List Nat) (p q : Nat) : plB l p (q * 2) = .int .i64 ((symOf l q : Nat) : Int) := by
  unfold plB
  rw [if_pos (by omega), show q * 2 / 2 = q by omega]
theorem plB_num (l : List Nat) {p q : Nat} (h : q < p) : plB l p (q * 2 + 1) = .int .i64 ((nOf l q : Nat) : Int) := by
  unfold plB
  rw [if_neg (by omega), show (q * 2 + 1) / 2 = q by omega, if_pos h]
theorem elemPl_info : (Tryz.prog.info? 114).map (fun i => (i.zero, i.size, i.bytes)) = some (some (.agg #[.int .i64 0, .int .i64 0]), 2, 16) := by kernel_rfl
theorem pl_sum {l : List Nat} {s x i : Nat} (hl : sumL l = 64) (hs : l[s]? = some x) (hi : i < x) : sumL (l.take s) + i < 64 := by
  have h1 := sumL_step hs
  have h2 := sumL_take_le l (s + 1)
  omega
theorem made_pl (n : Nat) : ∀ j, j < n * 2 → (madeCells #[Value.int .i64 0, Value.int .i64 0] (n * 2))[j]? = some (.int .i64 0) := fun j hj => by
  unfold madeCells
  have h : j % 2 = 0 ∨ j % 2 = 1 := by omega
  rcases h with h | h <;> simp [hj, h]
theorem cells_owns {w : World} {base g n k : Nat} {e : TypeId} {cs : Array Value} {F : Nat → Value} (h : w.ownsRow base e k (.slice (some ⟨g, 0, none⟩) n n) n cs.toList) (hs : cs.size = n * k) (hc : ∀ j, j < n * k → cs[j]? = some (F j)) : Cells w g e (n * k) F := by
  rcases h.2 with ⟨hv, -⟩ | ⟨g', cap, cur, hv, -, hg, -, -, hsz, ht⟩
  · simp at hv
  · simp only [Value.slice.injEq, Option.some.injEq, Addr.mk.injEq, true_and, and_true] at hv
    obtain ⟨rfl, rfl⟩ := hv
    have e1 : cur.toList = cs.toList := by
      rw [← ht, List.take_of_length_le (by rw [Array.length_toList, hsz]; exact Nat.le_refl _)]
    refine ⟨cur, hg, hsz, fun i hi => ?_⟩
    rw [← Array.getElem?_toList, e1, Array.getElem?_toList]
    exact hc i hi
set_option maxHeartbeats 8000000 in
set_option maxRecDepth 10000 in
theorem refTable (A : Option Addr) (n c : Nat) (l : List Nat) (w : World) (hl : l.length = n) (hr : Ns w A l) (hmay : fmayL l 6 = true) :
    Calls Tryz.prog 87 #[.slice A n c, .int .i64 6] w fun e w' => ∃ (g cs : Nat), e = .returned (.slice (some ⟨g, 0, none⟩) 64 cs) ∧ w.heap.size ≤ g ∧ Cells w' g 114 128 (plB l 64) ∧ Below w.heap.size w w' := by
  obtain ⟨f1, f2, f3, f4, f5⟩ := fmayL_facts hmay
  have HL := Lib.hid hl
  have HR := Lib.hid hr
  have HB64 := Lib.hid f4
  have HS := Lib.hid (show sumL l = 64 from f5)
  have hn64 : n ≤ 64 := by omega
  obtain ⟨ti, hi, hz0, hz1, hz2⟩ := info_parts elemPl_info
  clear hl hr hmay f1 f2 f3 f4 f5
  go_enter Tryz.func87, Tryz.ntmps87
  go_wp2_with (at_make; refine wpList_make_full _ rfl _ _ 111 rfl w.heap.size 114 ti _ 2 Tryz.underlying111 hi hz0 hz1 .i64 .i64 64 64 64 rfl rfl rfl rfl (by rw [hz2]; omega) (by unfold maxLen; omega) (Nat.le_refl _) ?_)
  intro w1 hown1 hg1
  have HC1 := Lib.hid (show Cells w1 w.heap.size 114 128 (plA l 0) from (cells_owns hown1 (by unfold madeCells; simp) (made_pl 64)).ext (fun j hj => by unfold plA; rw [if_neg (by omega)]))
  have HB1 := Lib.hid ((Below.refl _ _).grown hg1 (Nat.le_refl _) (fun k hk => by cases hk) : Below w.heap.size w w1)
  obtain ⟨g, hg⟩ : ∃ g, g = w.heap.size := ⟨_, rfl⟩
  rw [← hg] at HC1 ⊢
  have HG := Lib.hid hg
  clear hown1 hg1 hi hz0 hz1 hz2 hg
  go_wp2_with fail
  go_loopg [7, 8] n (fun gg s7 s8 wr => ∃ (s q : Nat), s ≤ n ∧ n - s ≤ gg ∧ s7 = .int .i64 ((43 * q % 64 : Nat) : Int) ∧ s8 = .int .i64 (s : Int) ∧ q = sumL (l.take s) ∧ q ≤ 64 ∧ Cells wr g 114 128 (plA l q) ∧ Below w.heap.size w wr)
  case atStart => exact ⟨0, 0, by omega, by omega, rfl, rfl, rfl, by omega, HC1.out, HB1.out⟩
  case round =>
    clear HC1 HB1
    obtain ⟨s, q, hs, hgg, rfl, rfl, hq, hq64, hC, hB⟩ := hrel
    have HQ := Lib.hid hq
    have HC := Lib.hid hC
    have HB := Lib.hid hB
    clear hq hC hB
    by_cases hsn : s < n
    · obtain ⟨b, o, x, hA, hx, hc⟩ := HR.out.at_ (by rw [HL.out]; exact hsn : s < l.length)
      subst hA
      have hx64 : x ≤ 64 := HB64.out x (List.mem_of_getElem? hx)
      have HX := Lib.hid hx
      have HStep := Lib.hid (sumL_step hx)
      have hlt := block_lt hc
      have HCx := Lib.hid hc
      have hg0 : (s : Int) < 64 := by omega
      obtain ⟨w2, hw2⟩ : ∃ w2, w2 = wr := ⟨_, rfl⟩
      subst hw2
      have HC2 := Lib.hid HC.out
      have HB2 := Lib.hid HB.out
      clear hx hc HC HB
      go_wp2_with fail
      go_loopg [7, 9] x (fun gg s7 s9 wr => ∃ (i r : Nat), i ≤ x ∧ x - i ≤ gg ∧ s7 = .int .i64 ((43 * r % 64 : Nat) : Int) ∧ s9 = .int .i64 (i : Int) ∧ r = q + i ∧ Cells wr g 114 128 (plA l r) ∧ Below w.heap.size w wr)
      case atStart => exact ⟨0, q, by omega, by omega, rfl, rfl, rfl, HC2.out, HB2.out⟩
      case round =>
        clear HC2 HB2
        obtain ⟨i, r, hi, hgi, rfl, rfl, hr, hC, hB⟩ := hrel
        have HRq := Lib.hid hr
        have HC := Lib.hid hC
        have HB := Lib.hid hB
        clear hr hC hB
        have hc2 := (HB.out.cell (by simpa using hlt)).trans HCx.out
        by_cases hix : i < x
        · have hr64 : r < 64 := by rw [HRq.out, HQ.out]; exact pl_sum HS.out HX.out hix
          obtain ⟨p, hp⟩ : ∃ p, p = 43 * r % 64 := ⟨_, rfl⟩
          have hp64 : p < 64 := by omega
          have e1 : 43 * (r + 1) % 64 = (p + 43) % 64 := by omega
          have hsym : (symL l 0)[r]? = some s := by
            have h := symL_at l 0 s x i HX.out hix
            rw [Nat.zero_add] at h
            rw [HRq.out, HQ.out]; exact h
          have hcz := HC.out.cell (i := p * 2) (by omega)
          have hfz := HC.out.frozen (p * 2)
          have HC3 := Lib.hid (show Cells (wr.setCell ⟨g, p * 2, none⟩ (.int .i64 (s : Int))) g 114 128 (plA l (r + 1)) from (HC.out.set (p * 2) (.int .i64 (s : Int))).ext (fun j hj => by
            have h := plA_step hr64 hsym j hj
            rw [← hp] at h
            exact h))
          have HB3 := Lib.hid (HB.out.setCell (p := ⟨g, p * 2, none⟩) (by have := HG.out; show w.heap.size ≤ g; omega) (.int .i64 (s : Int)))
          rw [← hp]
          have HE1 := Lib.hid e1
          have i2 : (p : Int) < 64 := by omega
          clear hp e1 hsym
          go_wp2
          go_roundg (x - (i + 1))
          case measure => omega
          case rel => exact ⟨i + 1, r + 1, by omega, by omega, by rw [HE1.out]; go_num, by go_num, by have := HRq.out; omega, HC3.out, HB3.out⟩
        · obtain rfl : i = x := by omega
          have HQ2 := Lib.hid (show r = sumL (l.take (s + 1)) by rw [HStep.out, HRq.out, HQ.out])
          have hr64 : r ≤ 64 := by
            have h1 := sumL_take_le l (s + 1)
            have h2 := HS.out
            have h3 := HQ2.out
            omega
          go_wp2
          go_roundg (n - (s + 1))
          case measure => omega
          case rel => exact ⟨s + 1, r, by omega, by omega, rfl, by go_num, HQ2.out, hr64, HC.out, HB.out⟩
    · obtain rfl : s = n := by omega
      have hq : q = 64 := by rw [HQ.out, List.take_of_length_le (by rw [HL.out]; exact Nat.le_refl _)]; exact HS.out
      subst hq
      have HC2 := Lib.hid (HC.out.ext (fun j hj => plA_end j hj))
      have HB2 := Lib.hid HB.out
      obtain ⟨w2, hw2⟩ : ∃ w2, w2 = wr := ⟨_, rfl⟩
      subst hw2
      clear HC HB HQ hsn hgg
      go_wp2_with fail
      go_loopg [10] 64 (fun gg s10 wr => ∃ (p : Nat), p ≤ 64 ∧ 64 - p ≤ gg ∧ s10 = .int .i64 (p : Int) ∧ Cells wr g 114 128 (plB l p) ∧ Below w.heap.size w wr)
      case atStart => exact ⟨0, by omega, by omega, rfl, HC2.out, HB2.out⟩
      case round =>
        clear HC2 HB2
        obtain ⟨p, hp, hgg, rfl, hC, hB⟩ := hrel
        have HC := Lib.hid hC
        have HB := Lib.hid hB
        clear hC hB
        by_cases hp64 : p < 64
        · obtain ⟨S, hSy⟩ : ∃ S, S = symOf l p := ⟨_, rfl⟩
          have hSn : S < s := by rw [hSy, ← HL.out]; exact (symOf_lt HS.out hp64).1
          obtain ⟨b, o, y, hA, hy, hc⟩ := HR.out.at_ (by rw [HL.out]; exact hSn : S < l.length)
          subst hA
          have hy64 : y ≤ 64 := HB64.out y (List.mem_of_getElem? hy)
          have hyd : l.getD S 0 = y := by simp [List.getD, hy]
          have HYd := Lib.hid hyd
          have hc2 := (HB.out.cell (by simpa using block_lt hc)).trans hc
          have c0 := HC.out.cell (i := p * 2) (by omega)
          rw [plB_sym, ← hSy] at c0
          have HSy := Lib.hid hSy
          have i1 : (p : Int) < 64 := by omega
          have i2 : (S : Int) < s := by omega
          obtain ⟨w3, hw3⟩ : ∃ w3, w3 = wr := ⟨_, rfl⟩
          subst hw3
          clear hy hyd hSy hc
          go_wp2_with fail
          go_loopg [11, 12] p (fun gg s11 s12 wr => ∃ (q v r : Nat), q ≤ p ∧ p - q ≤ gg ∧ s11 = .int .i64 (v : Int) ∧ s12 = .int .i64 (q : Int) ∧ v = y + (toL l q S).length ∧ v ≤ 64 + q ∧ wr = w3.drewN r)
          case atStart => exact ⟨0, y, 0, by omega, by omega, rfl, rfl, rfl, by omega, rfl⟩
          case round =>
            obtain ⟨q, v, r, hq, hgq, rfl, rfl, hv, hv9, rfl⟩ := hrel
            have HV := Lib.hid hv
            clear hv
            by_cases hqp : q < p
            · obtain ⟨Q, hQ⟩ : ∃ Q, Q = symOf l q := ⟨_, rfl⟩
              have c1 := HC.out.cell (i := q * 2) (by omega)
              rw [plB_sym, ← hQ] at c1
              have i3 : (q : Int) < 64 := by omega
              have HT := Lib.hid (show (toL l (q + 1) S).length = (toL l q S).length + (if Q = S then 1 else 0) by
                rw [toL, ← hQ]
                split
                · simp
                · rfl)
              clear hQ
              go_wp2
              go_quiet (fail)
              by_cases hQS : Q = S
              · have g1 : ((Q : Int) == S) = true := by rw [hQS]; simp
                have HV2 := Lib.hid (show v + 1 = y + (toL l (q + 1) S).length by rw [HT.out, if_pos hQS, HV.out]; omega)
                clear hQS
                go_wp2
                go_roundg (p - (q + 1))
                case measure => omega
                case rel => exact ⟨q + 1, v + 1, _, by omega, by omega, by go_num, by go_num, HV2.out, by omega, rfl⟩
              · have g1 : ((Q : Int) == S) = false := beq_eq_false_iff_ne.2 (by omega)
                have HV2 := Lib.hid (show v = y + (toL l (q + 1) S).length by rw [HT.out, if_neg hQS, HV.out]; rfl)
                clear hQS
                go_wp2
                go_roundg (p - (q + 1))
                case measure => omega
                case rel => exact ⟨q + 1, v, _, by omega, by omega, rfl, by go_num, HV2.out, by omega, rfl⟩
            · obtain rfl : q = p := by omega
              have HN := Lib.hid (show v = nOf l q by
                rw [nOf_eq (fun t ht => (symOf_lt HS.out (by omega)).1), ← HSy.out, HYd.out, HV.out])
              have HC3 := Lib.hid (HC.out.later (below_drewN w3 r))
              have HB3 := Lib.hid (HB.out.trans ((below_drewN w3 r).mono HB.out.size))
              have hcz := HC.out.cell (i := q * 2 + 1) (by omega)
              have hfz := HC.out.frozen (q * 2 + 1)
              have HC4 := Lib.hid ((HC3.out.set (q * 2 + 1) (.int .i64 (v : Int))).ext (fun j hj => plB_step HN.out j hj))
              have HB4 := Lib.hid (HB3.out.setCell (p := ⟨g, q * 2 + 1, none⟩) (by have := HG.out; show w.heap.size ≤ g; omega) (.int .i64 (v : Int)))
              go_wp2
              go_roundg (64 - (q + 1))
              case measure => omega
              case rel => exact ⟨q + 1, by omega, by omega, by go_num, HC4.out, HB4.out⟩
        · obtain rfl : p = 64 := by omega
          go_wp2
          go_ret
          exact ⟨g, 64, rfl, Nat.le_of_eq HG.out.symm, HC.out, HB.out⟩
end Go.Proofs.YtaelgbbnmjbjiaaGreat
namespace Go.Proofs.YtaelgbbnmjbjiaaGreat
open Go.RowKit
theorem nbGo_at {st q : Nat} : ∀ f n j, n ≤ j → j ≤ n + f → (∀ i, n ≤ i → i < j → 2 * q ≤ st / 2 ^ i) → (j = n + f ∨ st / 2 ^ j < 2 * q) → nbGo f st q n = j
  | 0, n, j, h1, h2, _, _ => by show n = j; omega
  | f + 1, n, j, h1, h2, h3, h4 => by
    unfold nbGo
    by_cases e : n = j
    · subst e
      have h5 : st / 2 ^ n < 2 * q := by
        rcases h4 with h | h
        · omega
        · exact h
      rw [if_neg (by omega)]
    · rw [if_pos (by have := h3 n (Nat.le_refl _) (by omega); omega)]
      exact nbGo_at f (n + 1) j (by omega) (by omega) (fun i hi hj => h3 i (by omega) hj) (by
        rcases h4 with h | h
        · exact .inl (by omega)
        · exact .inr h)
set_option maxHeartbeats 8000000 in
set_option maxRecDepth 10000 in
theorem refFEncode (A : Option Addr) (n c : Nat) (sh : List Nat) (A2 : Option Addr) (n2 c2 : Nat) (l : List Nat) (w : World) (hl : sh.length = n) (hr : Ns w A sh) (hmay : fmayL sh 6 = true) (hl2 : l.length = n2) (hr2 : Ns w A2 l) (hn2 : n2 ≤ 65536) (hx : ∀ x ∈ l, x < n ∧ 0 < sh.getD x 0) :
    Calls Tryz.prog 46 #[.slice A n c, .int .i64 6, .slice A2 n2 c2] w fun e w' => ∃ S m cs, e = .returned (.tuple #[.slice S m cs, .int .i64 0]) ∧ OwnB w' w.heap.size S m cs (encodeL sh l) ∧ Below w.heap.size w w' := by
  obtain ⟨f1, f2, f3, f4, f5⟩ := fmayL_facts hmay
  have HM := Lib.hid (refShMay A n c sh w hl hr hmay)
  have HTb := Lib.hid (refTable A n c sh w hl hr hmay)
  have HL := Lib.hid hl
  have HR := Lib.hid hr
  have HL2 := Lib.hid hl2
  have HR2 := Lib.hid hr2
  have HX := Lib.hid hx
  have HB64 := Lib.hid f4
  have HS := Lib.hid (show sumL sh = 64 from f5)
  have hn64 : n ≤ 64 := by omega
  have g0 : decide ((65536 : Int) < (n2 : Int)) = false := decide_eq_false (by omega)
  clear hl hr hmay hl2 hr2 hx f1 f2 f3 f4 f5
  go_enter Tryz.func46, Tryz.ntmps46
  go_wp2_with fail
  refine HM.out.mono ?_
  rintro e w1 ⟨rfl, rfl⟩
  obtain ⟨w0, hw0⟩ : ∃ w0, w0 = w1 := ⟨_, rfl⟩
  subst hw0
  go_wp2_with fail
  go_loopg [9] n2 (fun gg s9 wr => ∃ k, k ≤ n2 ∧ n2 - k ≤ gg ∧ s9 = .int .i64 (k : Int) ∧ wr = w0)
  case atStart => exact ⟨0, by omega, by omega, rfl, rfl⟩
  case round =>
    obtain ⟨k, hk, hgg, rfl, rfl⟩ := hrel
    by_cases hkn : k < n2
    · obtain ⟨b, o, x, hA, hx, hc⟩ := HR2.out.at_ (by rw [HL2.out]; exact hkn : k < l.length)
      subst hA
      obtain ⟨hxn, hx0⟩ := HX.out x (List.mem_of_getElem? hx)
      obtain ⟨b2, o2, y, hA, hy, hc2⟩ := HR.out.at_ (by rw [HL.out]; exact hxn : x < sh.length)
      subst hA
      have hyd : sh.getD x 0 = y := by simp [List.getD, hy]
      rw [hyd] at hx0
      have g1 : decide (n ≤ x) = false := decide_eq_false (by omega)
      have g2 : ((y : Int) == 0) = false := beq_eq_false_iff_ne.2 (by omega)
      have i1 : (k : Int) < n2 := by omega
      have i2 : (x : Int) < n := by omega
      clear hx hy hyd
      go_wp2
      go_roundg (n2 - (k + 1))
      case measure => omega
      case rel => exact ⟨k + 1, by omega, by omega, by go_num, rfl⟩
    · obtain rfl : k = n2 := by omega
      obtain ⟨w3, hw3⟩ : ∃ w3, w3 = wr := ⟨_, rfl⟩
      subst hw3
      go_wp2_with fail
      refine HTb.out.mono ?_
      rintro e w2 ⟨g, cs, rfl, hgw, hC, hB⟩
      have HC := Lib.hid hC
      have HB := Lib.hid hB
      have hglt := hC.lt
      clear hC hB HTb HM hkn hgg
      have e0 : ((k : Nat) : Int) - 1 = (k : Int) - 1 := rfl
      clear e0
      go_wp2_with fail
      go_loopg [12, 13, 14] k (fun gg s12 s13 s14 wr => ∃ (j m co st : Nat) (Ao : Option Addr) (row : List Nat) (X : Nat × WSt), j ≤ k ∧ j ≤ gg ∧ s12 = .slice Ao m co ∧ s13 = .int .i64 (st : Int) ∧ s14 = .int .i64 ((j : Int) - 1) ∧ st = X.1 ∧ X = encGo sh (l.drop j).reverse ∧ EncOk (k - j) X ∧ RowS row X.2 ∧ OwnN wr w2.heap.size Ao m co row ∧ Below w2.heap.size w2 wr)
      case atStart => exact ⟨k, 0, 0, 64, none, [], (64, ([], 0, 0)), Nat.le_refl _, Nat.le_refl _, rfl, rfl, by go_num, rfl, by rw [List.drop_of_length_le (by rw [HL2.out]; exact Nat.le_refl _)]; rfl, by rw [Nat.sub_self]; exact ⟨by decide, by decide, w0_ok, by decide⟩, RowS.nil, OwnN.nil _ _, Below.refl _ _⟩
      case round =>
        obtain ⟨j, m, co, st, Ao, row, X, hj, hgj, rfl, rfl, rfl, hst, hX, hok, hrow, hO, hb⟩ := hrel
        have HXe := Lib.hid hX
        have HOk := Lib.hid hok
        have HRow := Lib.hid hrow
        have HO := Lib.hid hO
        have HBr := Lib.hid hb
        have HSt := Lib.hid hst
        have hst9 : 64 ≤ st ∧ st < 128 := by rw [hst]; exact ⟨hok.lo, hok.hi⟩
        have hm9 : m ≤ 6 * (k - j) := by
          have h1 := OwnN.length hO
          have h2 := hrow.len
          have h3 := hok.len
          omega
        clear hX hok hrow hO hb hst
        cases j with
        | zero =>
          have HPt : Hid (Calls Tryz.prog 83 #[.slice Ao m co, .int .i64 6, .int .i64 ((st : Int) - 64)] wr _) := Lib.hid (by
            have h := refPut Ao m co row 6 (st - 64) wr (OwnN.length HO.out) (OwnN.ns HO.out) (by omega) (by omega) (by show st - 64 < 64; omega)
            have e : ((st - 64 : Nat) : Int) = (st : Int) - 64 := by omega
            rw [e] at h
            exact h)
          go_wp2_with fail
          refine HPt.out.mono ?_
          rintro e w4 ⟨A4, m4, c4, rfl, hown4, hb4⟩
          have hm4 := OwnN.length hown4
          rw [List.length_append, bitR_len, OwnN.length HO.out] at hm4
          have hm49 : m4 ≤ 1000000 := by omega
          have HO4 := Lib.hid (show OwnN w4 w2.heap.size A4 m4 c4 (row ++ bitR 6 (st - 64)) from Own.mono hown4 HBr.out.size)
          have HB4 := Lib.hid (HBr.out.trans (hb4.mono HBr.out.size))
          clear hown4 hb4 HPt hm4
          go_wp2_with (at_builtin; refine wpList_append_one rfl _ _ elemN rfl w2.heap.size A4 m4 c4 ((row ++ bitR 6 (st - 64)).map natv) w4 (.int .i64 1) ?hw rfl HO4.out ?hx rfl ?d1 ?d2 HB4.out.size ?_)
          case hw => rfl
          case hx => rfl
          case d1 => omega
          case d2 => omega
          intro A5 c5 w5 hown5 hb5 hg5 hat5
          have HRow5 := Lib.hid ((HRow.out.put (k := 6) (v := st - 64) (by omega) (by show st - 64 < 64; omega)).put (k := 1) (v := 1) (by omega) (by decide))
          have HO5 := Lib.hid (show OwnN w5 w2.heap.size A5 (m4 + 1) c5 (row ++ bitR 6 (st - 64) ++ bitR 1 1) from by
            unfold OwnN
            rw [List.map_append, List.map_append, List.append_assoc]
            exact hown5)
          have HB5 := Lib.hid (HB4.out.trans hb5)
          have HPk := Lib.hid (refBitPack A5 (m4 + 1) c5 _ w5 (OwnN.length HO5.out) (OwnN.ns HO5.out) (by omega) HRow5.out.bits)
          clear hown5 hb5 hg5 hat5 HO4 HB4
          go_wp2_with fail
          refine HPk.out.mono ?_
          rintro e w6 ⟨A6, m6, c6, rfl, hown6, hb6⟩
          have HO6 := Lib.hid (show OwnB w6 w3.heap.size A6 m6 c6 (encodeL sh l) by
            rw [HRow5.out.pack, ← marked_put] at hown6
            have e1 : X = encGo sh l.reverse := by rw [HXe.out, List.drop_zero]
            unfold encodeL
            rw [← e1, ← HSt.out]
            exact Own.mono hown6 (Nat.le_trans HB.out.size HB5.out.size))
          have HB6 := Lib.hid (HB.out.trans ((HB5.out.mono HB.out.size).trans (hb6.mono (Nat.le_trans HB.out.size HB5.out.size))))
          clear hown6 hb6 HPk
          go_wp2
          go_ret2
          exact ⟨A6, m6, c6, rfl, HO6.out, HB6.out⟩
        | succ j =>
          have e1 : ((j + 1 : Nat) : Int) - 1 = (j : Int) := by omega
          rw [e1]
          obtain ⟨b, o, s, hA, hs, hc⟩ := HR2.out.at_ (by rw [HL2.out]; omega : j < l.length)
          subst hA
          obtain ⟨hsn, hs0⟩ := HX.out s (List.mem_of_getElem? hs)
          obtain ⟨b2, o2, q, hA, hq, hc2⟩ := HR.out.at_ (by rw [HL.out]; exact hsn : s < sh.length)
          subst hA
          have hqd : sh.getD s 0 = q := by simp [List.getD, hq]
          have hq64 : q ≤ 64 := HB64.out q (List.mem_of_getElem? hq)
          rw [hqd] at hs0
          have hcs := (HBr.out.cell (by simpa using block_lt ((HB.out.cell (by simpa using block_lt hc)).trans hc))).trans ((HB.out.cell (by simpa using block_lt hc)).trans hc)
          have HQ1 := Lib.hid ((HB.out.cell (by simpa using block_lt hc2)).trans hc2)
          have HEnc := Lib.hid (show X.1 = st ∧ RowS row X.2 from ⟨HSt.out.symm, HRow.out⟩)
          have HNext := Lib.hid (show encStep sh X s = encGo sh (l.drop j).reverse by
            rw [drop_step hs, List.reverse_cons, encGo_snoc, HXe.out])
          have HFacts := Lib.hid (encStep_facts (s := s) HOk.out HS.out (by rw [hqd]; exact hs0))
          have HQd := Lib.hid hqd
          have i1 : (j : Int) < k := by omega
          have i2 : (s : Int) < n := by omega
          obtain ⟨w4, hw4⟩ : ∃ w4, w4 = wr := ⟨_, rfl⟩
          subst hw4
          have HO4 := Lib.hid HO.out
          have HB4 := Lib.hid HBr.out
          clear hs hq hqd hc hc2 e1 HO HBr HRow HXe HSt
          go_wp2_with fail
          go_loopg [12, 16] 7 (fun gg s12 s16 wr => ∃ (i m co y : Nat) (Ao : Option Addr), i ≤ 7 ∧ 7 - i ≤ gg ∧ s12 = .slice Ao m co ∧ s16 = .int .i64 (y : Int) ∧ y = st / 2 ^ i ∧ (∀ t, t < i → 2 * q ≤ st / 2 ^ t) ∧ m ≤ 1000000 + i ∧ OwnN wr w2.heap.size Ao m co (row ++ bitR i st) ∧ Below w2.heap.size w2 wr)
          case atStart => exact ⟨0, m, co, st, Ao, by omega, by omega, rfl, rfl, by rw [Nat.pow_zero, Nat.div_one], fun t ht => by omega, by omega, by rw [bitR, List.append_nil]; exact HO4.out, HB4.out⟩
          case round =>
            clear HO4 HB4 hm9
            obtain ⟨i, m, co, y, Ao, hi, hgi, rfl, rfl, hy, hall, hm9, hO, hb⟩ := hrel
            have HO := Lib.hid hO
            have HBr := Lib.hid hb
            have HAll := Lib.hid hall
            have HY := Lib.hid hy
            have hy9 : y ≤ 127 := by
              have := Nat.div_le_self st (2 ^ i)
              omega
            have hcq := (HBr.out.cell (by simpa using block_lt HQ1.out)).trans HQ1.out
            clear hO hb hall hy
            by_cases hgo : 2 * q ≤ y
            · have hi7 : i < 7 := by
                rcases (by omega : i < 7 ∨ i = 7) with h | h
                · exact h
                · exfalso
                  have h2 := HY.out
                  rw [h, show (2 : Nat) ^ 7 = 128 from rfl, Nat.div_eq_of_lt (by omega)] at h2
                  omega
              have HY2 := Lib.hid (show y / 2 = st / 2 ^ (i + 1) by rw [HY.out, Nat.pow_succ, Nat.div_div_eq_div_mul])
              have HA2 := Lib.hid (show ∀ t, t < i + 1 → 2 * q ≤ st / 2 ^ t from fun t ht => by
                rcases (by omega : t < i ∨ t = i) with h | rfl
                · exact HAll.out t h
                · rw [← HY.out]; exact hgo)
              go_wp2_with (at_builtin; refine wpList_append_one rfl _ _ elemN rfl w2.heap.size Ao m co ((row ++ bitR i st).map natv) wr (.int .i64 ((y : Int) % 2)) ?hw rfl HO.out ?hx rfl ?d1 ?d2 HBr.out.size ?_)
              case hw => rfl
              case hx => rfl
              case d1 => omega
              case d2 => omega
              intro A5 c5 w5 hown5 hb5 hg5 hat5
              have HO5 := Lib.hid (show OwnN w5 w2.heap.size A5 (m + 1) c5 (row ++ bitR (i + 1) st) from by
                rw [bitR_snoc, ← HY.out, ← List.append_assoc]
                unfold OwnN
                rw [List.map_append, List.map_append, List.append_assoc]
                exact hown5)
              have HB5 := Lib.hid (HBr.out.trans hb5)
              clear hown5 hb5 hg5 hat5
              go_wp2
              go_roundg (7 - (i + 1))
              case measure => omega
              case rel => exact ⟨i + 1, m + 1, c5, y / 2, A5, by omega, by omega, rfl, by go_num, HY2.out, HA2.out, by omega, HO5.out, HB5.out⟩
            · have HNb := Lib.hid (show nbL st q = i from nbGo_at 7 0 i (Nat.zero_le _) (by omega) (fun t _ ht => HAll.out t ht) (.inr (by rw [← HY.out]; omega)))
              have HF := Lib.hid (show EncOk (k - j) (encStep sh X s) ∧ q ≤ y ∧ y - q < (toL sh 64 s).length by
                have h := HFacts.out
                rw [HEnc.out.1, HQd.out, HNb.out, ← HY.out] at h
                refine ⟨?_, h.2.2.1, h.2.2.2.1⟩
                have e : k - (j + 1) + 1 = k - j := by omega
                rw [e] at h
                exact h.1)
              obtain ⟨P, hP⟩ : ∃ P, P = (toL sh 64 s).getD (y - q) 0 := ⟨_, rfl⟩
              have HP := Lib.hid hP
              have hP64 : P < 64 := by
                rw [hP]
                exact toL_lt sh s 64 _ (getD_mem' HF.out.2.2)
              have HRow6 := Lib.hid (show RowS (row ++ bitR i st) (encStep sh X s).2 by
                have h := HEnc.out.2.put (k := i) (v := st % 2 ^ i) (by omega) (Nat.mod_lt _ (Nat.two_pow_pos _))
                rw [bitR_mod0] at h
                unfold encStep
                rw [HEnc.out.1, HQd.out, HNb.out]
                exact h)
              have HSt6 := Lib.hid (show (encStep sh X s).1 = 64 + P by
                unfold encStep
                rw [HEnc.out.1, HQd.out, HNb.out, ← HY.out, HP.out])
              have HOne := Lib.hid (fun p (hp : p < 64) => by
                have h := place_one (l := sh) (s := s) (x := y) (n := 64) (p := p) (fun t ht => (symOf_lt HS.out ht).1) (by rw [HQd.out]; exact HF.out.2.1) (by rw [HQd.out]; exact HF.out.2.2) hp
                rw [HQd.out, ← HP.out] at h
                exact h : ∀ p, p < 64 → ((symOf sh p = s ∧ nOf sh p = y) ↔ p = P))
              obtain ⟨w5, hw5⟩ : ∃ w5, w5 = wr := ⟨_, rfl⟩
              subst hw5
              clear hP
              go_wp2_with fail
              go_loopg [13, 17] 64 (fun gg s13 s17 wr => ∃ (p v : Nat), p ≤ 64 ∧ 64 - p ≤ gg ∧ s13 = .int .i64 (v : Int) ∧ s17 = .int .i64 (p : Int) ∧ v = (if P < p then 64 + P else st) ∧ wr = w5)
              case atStart => exact ⟨0, st, by omega, by omega, rfl, rfl, by rw [if_neg (by omega)], rfl⟩
              case round =>
                obtain ⟨p, v, hp, hgp, rfl, rfl, hv, rfl⟩ := hrel
                have HV := Lib.hid hv
                clear hv
                by_cases hp64 : p < 64
                · have HCr := HC.out.later HBr.out
                  have t0 := HCr.cell (i := p * 2) (by omega)
                  have t1 := HCr.cell (i := p * 2 + 1) (by omega)
                  rw [plB_sym] at t0
                  rw [plB_num sh hp64] at t1
                  have hone := HOne.out p hp64
                  obtain ⟨Q, hQ⟩ : ∃ Q, Q = symOf sh p := ⟨_, rfl⟩
                  obtain ⟨N, hN⟩ : ∃ N, N = nOf sh p := ⟨_, rfl⟩
                  rw [← hQ] at t0 hone
                  rw [← hN] at t1 hone
                  have HOn := Lib.hid hone
                  have i3 : (p : Int) < 64 := by omega
                  clear HCr hone hQ hN
                  by_cases hQs : Q = s
                  · have g1 : ((Q : Int) == s) = true := by rw [hQs]; simp
                    by_cases hNy : N = y
                    · have g2 : ((N : Int) == y) = true := by rw [hNy]; simp
                      have HV2 := Lib.hid (show 64 + p = (if P < p + 1 then 64 + P else st) by
                        have h := HOn.out.1 ⟨hQs, hNy⟩
                        rw [if_pos (by omega), h])
                      clear hQs hNy
                      go_wp2
                      go_roundg (64 - (p + 1))
                      case measure => omega
                      case rel => exact ⟨p + 1, 64 + p, by omega, by omega, by go_num, by go_num, HV2.out, rfl⟩
                    · have g2 : ((N : Int) == y) = false := beq_eq_false_iff_ne.2 (by omega)
                      have HV2 := Lib.hid (show v = (if P < p + 1 then 64 + P else st) by
                        have h : p ≠ P := fun h => hNy (HOn.out.2 h).2
                        rw [HV.out]
                        by_cases h2 : P < p
                        · rw [if_pos h2, if_pos (by omega)]
                        · rw [if_neg h2, if_neg (by omega)])
                      clear hQs hNy
                      go_wp2
                      go_roundg (64 - (p + 1))
                      case measure => omega
                      case rel => exact ⟨p + 1, v, by omega, by omega, rfl, by go_num, HV2.out, rfl⟩
                  · have g1 : ((Q : Int) == s) = false := beq_eq_false_iff_ne.2 (by omega)
                    have HV2 := Lib.hid (show v = (if P < p + 1 then 64 + P else st) by
                      have h : p ≠ P := fun h => hQs (HOn.out.2 h).1
                      rw [HV.out]
                      by_cases h2 : P < p
                      · rw [if_pos h2, if_pos (by omega)]
                      · rw [if_neg h2, if_neg (by omega)])
                    clear hQs
                    go_wp2
                    go_roundg (64 - (p + 1))
                    case measure => omega
                    case rel => exact ⟨p + 1, v, by omega, by omega, rfl, by go_num, HV2.out, rfl⟩
                · obtain rfl : p = 64 := by omega
                  have HV2 := Lib.hid (show v = (encStep sh X s).1 by rw [HSt6.out, HV.out, if_pos hP64])
                  clear hm9
                  go_wp2
                  go_roundg j
                  case measure => omega
                  case rel => exact ⟨j, m, co, v, Ao, _, _, by omega, Nat.le_refl _, rfl, rfl, rfl, HV2.out, HNext.out, HF.out.1, HRow6.out, HO.out, HBr.out⟩
end Go.Proofs.YtaelgbbnmjbjiaaGreat
namespace Go.Proofs.YtaelgbbnmjbjiaaGreat
open Go.RowKit
def comL : Nat → List UInt8 → List UInt8 → Nat
  | 0, _, _ => 0
  | k + 1, x :: xs, y :: ys => if x = y then comL k xs ys + 1 else 0
  | _ + 1, [], _ => 0
  | _ + 1, _ :: _, [] => 0
def sameL (l : List UInt8) (a b : Nat) : Nat := comL 259 (l.drop a) (l.drop b)
theorem comL_le : ∀ (k : Nat) (xs ys : List UInt8), comL k xs ys ≤ k ∧ comL k xs ys ≤ xs.length ∧ comL k xs ys ≤ ys.length
  | 0, _, _ => by simp [comL]
  | k + 1, [], ys => by simp [comL]
  | k + 1, _ :: _, [] => by simp [comL]
  | k + 1, x :: xs, y :: ys => by
    have := comL_le k xs ys
    unfold comL
    split
    · simp only [List.length_cons]; omega
    · simp
theorem comL_same : ∀ (k : Nat) (xs ys : List UInt8) (j : Nat), j < comL k xs ys → xs.getD j 0 = ys.getD j 0
  | 0, _, _, j, h => by simp [comL] at h
  | k + 1, [], ys, j, h => by simp [comL] at h
  | k + 1, _ :: _, [], j, h => by simp [comL] at h
  | k + 1, x :: xs, y :: ys, j, h => by
    unfold comL at h
    split at h
    · next e =>
      cases j with
      | zero => simpa using e
      | succ j => simpa using comL_same k xs ys j (by omega)
    · omega
theorem comL_eq : ∀ (k : Nat) (xs ys : List UInt8) (m : Nat), m ≤ k → m ≤ xs.length → m ≤ ys.length → (∀ j, j < m → xs.getD j 0 = ys.getD j 0) → (m = k ∨ m = xs.length ∨ m = ys.length ∨ xs.getD m 0 ≠ ys.getD m 0) → m = comL k xs ys
  | 0, _, _, m, h, _, _, _, _ => by simp only [comL]; omega
  | k + 1, [], ys, m, _, h, _, _, _ => by simp only [comL]; simpa using h
  | k + 1, _ :: _, [], m, _, _, h, _, _ => by simp only [comL]; simpa using h
  | k + 1, x :: xs, y :: ys, m, h1, h2, h3, h4, h5 => by
    unfold comL
    split
    · next e =>
      cases m with
      | zero =>
        rcases h5 with h5 | h5 | h5 | h5
        · omega
        · simp at h5
        · simp at h5
        · exact absurd (by simpa using e) h5
      | succ m =>
        have := comL_eq k xs ys m (by omega) (by simpa using h2) (by simpa using h3) (fun j hj => by simpa using h4 (j + 1) (by omega)) (by
          rcases h5 with h5 | h5 | h5 | h5
          · exact .inl (by omega)
          · exact .inr (.inl (by simpa using h5))
          · exact .inr (.inr (.inl (by simpa using h5)))
          · exact .inr (.inr (.inr (by simpa using h5))))
        omega
    · next e =>
      cases m with
      | zero => rfl
      | succ m => exact absurd (by simpa using h4 0 (by omega)) e
theorem getD_drop (l : List UInt8) (a j : Nat) : (l.drop a).getD j 0 = l.getD (a + j) 0 := by simp [List.getD, List.getElem?_drop]
theorem sameL_eq {l : List UInt8} {a b m : Nat} (h : SameN l a b m) (h2 : m = 259 ∨ b + m = l.length ∨ l.getD (a + m) 0 ≠ l.getD (b + m) 0) (hab : a ≤ b := by omega) : m = sameL l a b := by
  refine comL_eq 259 _ _ m h.1 (by rw [List.length_drop]; have := h.2.1; omega) (by rw [List.length_drop]; have := h.2.1; omega) (fun j hj => by rw [getD_drop, getD_drop]; exact h.2.2 j hj) ?_
  rcases h2 with h2 | h2 | h2
  · exact .inl h2
  · exact .inr (.inr (.inl (by rw [List.length_drop]; omega)))
  · exact .inr (.inr (.inr (by rw [getD_drop, getD_drop]; exact h2)))
theorem sameL_ok (l : List UInt8) (a b : Nat) (hab : a ≤ b) (hb : b ≤ l.length) : SameN l a b (sameL l a b) := by
  have h := comL_le 259 (l.drop a) (l.drop b)
  rw [List.length_drop, List.length_drop] at h
  refine ⟨h.1, by unfold sameL; omega, fun j hj => ?_⟩
  have := comL_same 259 (l.drop a) (l.drop b) j hj
  rwa [getD_drop, getD_drop] at this
set_option maxHeartbeats 2000000 in
set_option maxRecDepth 10000 in
theorem mSameX (g : Nat) (A : Option Addr) (n c a b : Nat) (l : List UInt8) (w : World) (hc0 : w.cell? ⟨g, 0, none⟩ = some (.slice A n c)) (hl : l.length = n) (hr : Bs w A l) (hn : n ≤ 1000000000) (hab : a ≤ b) (hb : b ≤ n) :
    Calls Tryz.prog 62 #[.pointer (some ⟨g, 0, none⟩), .int .i64 (a : Int), .int .i64 (b : Int)] w fun e w' => ∃ m : Nat, e = .returned (.int .i64 (m : Int)) ∧ m = sameL l a b ∧ ∃ q, w' = w.drewN q := by
  have HL := Lib.hid hl
  have HR := Lib.hid hr
  have HC := Lib.hid hc0
  clear hl hr hc0
  go_enter Tryz.func62, Tryz.ntmps62
  go_wp2
  go_loopg [7] 259 (fun gg s7 wr => ∃ m : Nat, m ≤ 259 ∧ 259 - m ≤ gg ∧ s7 = .int .i64 (m : Int) ∧ b + m ≤ n ∧ (∀ j, j < m → l.getD (a + j) 0 = l.getD (b + j) 0) ∧ ∃ q, wr = w.drewN q)
  case atStart => exact ⟨0, by omega, by omega, rfl, by omega, by simp, 0, rfl⟩
  case round =>
    obtain ⟨m, hm, hgg, rfl, hbm, hsame, q, rfl⟩ := hrel
    have HS := Lib.hid hsame
    clear hsame
    have c0 := HC.out
    by_cases h259 : m < 259
    · by_cases hbn : b + m < n
      · obtain ⟨bb, o, x, hA, hx, hcx⟩ := HR.out.at_ (by rw [HL.out]; omega : a + m < l.length)
        obtain ⟨bb2, o2, y, hA2, hy, hcy⟩ := HR.out.at_ (by rw [HL.out]; omega : b + m < l.length)
        rw [hA] at hA2
        obtain ⟨rfl, rfl⟩ : bb = bb2 ∧ o = o2 := by
          injection hA2 with h; injection h with h1 h2; exact ⟨h1, h2⟩
        subst hA
        have E1 : l.getD (a + m) 0 = x := by simp [List.getD, hx]
        have E2 : l.getD (b + m) 0 = y := by simp [List.getD, hy]
        clear hx hy hA2
        have g1 : decide ((m : Int) < 259) = true := decide_eq_true (by omega)
        have g2 : decide ((b : Int) + m < n) = true := decide_eq_true (by omega)
        have i1 : (0 : Int) ≤ (a : Int) + m := by omega
        have i2 : (a : Int) + m < (n : Int) := by omega
        have i3 : (0 : Int) ≤ (b : Int) + m := by omega
        have t1 : ((a : Int) + m).toNat = a + m := by omega
        have t2 : ((b : Int) + m).toNat = b + m := by omega
        have e1 : IntKind.i64.wrap ((a : Int) + m) = (a : Int) + m := wrapi64 (by omega) (by omega)
        have e2 : IntKind.i64.wrap ((b : Int) + m) = (b : Int) + m := wrapi64 (by omega) (by omega)
        have HE1 := Lib.hid E1
        have HE2 := Lib.hid E2
        clear E1 E2
        go_wp2
        go_quiet (fail)
        clear g1 g2 i1 i2 i3 t1 t2 e1 e2
        by_cases hxy : x = y
        · have hb : ((x.toNat : Int) == y.toNat) = true := by rw [hxy]; simp
          have HS2 := Lib.hid (show ∀ j, j < m + 1 → l.getD (a + j) 0 = l.getD (b + j) 0 from fun j hj => by
            by_cases e : j = m
            · rw [e, HE1.out, HE2.out, hxy]
            · exact HS.out j (by omega))
          clear hxy
          go_wp2
          go_roundg (259 - (m + 1))
          case measure => omega
          case rel => exact ⟨m + 1, by omega, by omega, by go_num, by omega, HS2.out, _, rfl⟩
        · have hb : ((x.toNat : Int) == y.toNat) = false := beq_eq_false_iff_ne.2 (fun e => hxy (UInt8.toNat_inj.1 (by omega)))
          have HNe := Lib.hid hxy
          clear hxy
          go_wp2
          go_ret
          exact ⟨m, rfl, sameL_eq ⟨by omega, by rw [HL.out]; omega, HS.out⟩ (.inr (.inr (by rw [HE1.out, HE2.out]; exact HNe.out))), _, drewN_add w q _⟩
      · have g1 : decide ((m : Int) < 259) = true := decide_eq_true (by omega)
        have g2 : decide ((b : Int) + m < n) = false := decide_eq_false (by omega)
        have e2 : IntKind.i64.wrap ((b : Int) + m) = (b : Int) + m := wrapi64 (by omega) (by omega)
        go_wp2
        go_quiet (fail)
        clear g1 g2 e2
        go_wp2
        go_ret
        exact ⟨m, rfl, sameL_eq ⟨by omega, by rw [HL.out]; omega, HS.out⟩ (.inr (.inl (by rw [HL.out]; omega))), _, drewN_add w q _⟩
    · have g1 : decide ((m : Int) < 259) = false := decide_eq_false (by omega)
      go_wp2
      go_quiet (fail)
      clear g1
      go_wp2
      go_ret
      exact ⟨m, rfl, sameL_eq ⟨by omega, by rw [HL.out]; omega, HS.out⟩ (.inl (by omega)), _, drewN_add w q _⟩
end Go.Proofs.YtaelgbbnmjbjiaaGreat
namespace Go.Proofs.YtaelgbbnmjbjiaaGreat
open Go.RowKit
def lastM (l : List UInt8) (m : Nat) : Nat → Nat
  | 0 => 0
  | k + 1 => if markL l k = m then k + 1 else lastM l m k
theorem lastM_le (l : List UInt8) (m : Nat) : ∀ k, lastM l m k ≤ k
  | 0 => Nat.le_refl _
  | k + 1 => by
    have := lastM_le l m k
    unfold lastM
    split <;> omega
theorem lastM_none (l : List UInt8) (m : Nat) : ∀ k p, lastM l m k ≤ p → p < k → markL l p ≠ m
  | 0, p, _, h => by omega
  | k + 1, p, h, h2 => by
    unfold lastM at h
    split at h
    · omega
    · next e =>
      by_cases e2 : p = k
      · rw [e2]; exact e
      · exact lastM_none l m k p h (by omega)
theorem lastM_mark (l : List UInt8) (m : Nat) : ∀ k p, lastM l m k = p + 1 → markL l p = m
  | 0, p, h => by simp [lastM] at h
  | k + 1, p, h => by
    unfold lastM at h
    split at h
    · next e => rw [show p = k by omega]; exact e
    · exact lastM_mark l m k p h
structure LinkOk (l : List UInt8) (head : Nat → Nat) (ah : List Nat) (known : Nat) : Prop where
  hd : ∀ m, m < 4096 → head m = lastM l m known
  ac : ∀ p, p < known → ah.getD p 0 = lastM l (markL l p) p
theorem LinkOk.step {l : List UInt8} {head : Nat → Nat} {ah : List Nat} {known : Nat} (h : LinkOk l head ah known) (hl : known < ah.length) : LinkOk l (fun j => if j = markL l known then known + 1 else head j) (ah.set known (head (markL l known))) (known + 1) := by
  refine ⟨fun m hm => ?_, fun p hp => ?_⟩
  · show (if m = markL l known then known + 1 else head m) = if markL l known = m then known + 1 else lastM l m known
    by_cases e : m = markL l known
    · rw [if_pos e, if_pos e.symm]
    · rw [if_neg e, if_neg (fun h => e h.symm)]
      exact h.hd m hm
  · by_cases e : p = known
    · subst e
      simp only [List.getD, List.getElem?_set, if_true]
      rw [if_pos hl]
      simpa using h.hd _ (markL_lt l p)
    · have h5 := h.ac p (by omega)
      simp only [List.getD, List.getElem?_set] at h5 ⊢
      rw [if_neg (fun e' => e e'.symm)]
      exact h5
set_option maxHeartbeats 4000000 in
set_option maxRecDepth 10000 in
theorem mLinkX (B g : Nat) (l : List UInt8) (A : Option Addr) (n c win : Nat) (head : Nat → Nat) (Aa : Option Addr) (ca known : Nat) (ah : List Nat) (i : Nat) (w : World) (h : Fin_ w B g l A n c win head Aa ca known ah) (hl : l.length = n) (hn : n ≤ 65536) (hc : n ≤ c) (hi : i ≤ n) (hki : known ≤ i) (hlk : LinkOk l head ah known) :
    Calls Tryz.prog 60 #[.pointer (some ⟨g, 0, none⟩), .int .i64 (i : Int)] w fun e w' => (∃ v, e = .returned v) ∧ Below B w w' ∧ Two g Aa w w' ∧ ∃ head' known' ah', known' ≤ i ∧ Fin_ w' B g l A n c win head' Aa ca known' ah' ∧ LinkOk l head' ah' known' ∧ (i + 4 ≤ n → known' = i) := by
  have HF0 := Lib.hid h
  have HL := Lib.hid hl
  have HK0 := Lib.hid hlk
  clear h hl hlk
  go_enter Tryz.func60, Tryz.ntmps60
  go_wp2
  go_loopg [4] (i - known) (fun gg s4 wr => ∃ (head' : Nat → Nat) (known' : Nat) (ah' : List Nat), known' ≤ i ∧ i - known' ≤ gg ∧ Fin_ wr B g l A n c win head' Aa ca known' ah' ∧ Below B w wr ∧ Two g Aa w wr ∧ LinkOk l head' ah' known')
  case atStart => exact ⟨head, known, ah, hki, by omega, HF0.out, Below.refl _ _, Two.refl _ _ _, HK0.out⟩
  case round =>
    obtain ⟨head', k, ah', hk, hgg, hf, hbel, htwo, hlo⟩ := hrel
    have HLo := Lib.hid hlo
    clear hlo
    have HT := Lib.hid htwo
    clear htwo
    have HF := Lib.hid hf
    have HB := Lib.hid hbel
    have c0 := hf.c0
    have cK := hf.cK
    have cA := hf.cA
    clear hf hbel
    by_cases hki : k < i
    · have g1 : decide ((k : Int) < i) = true := decide_eq_true (by omega)
      by_cases h4 : k + 4 ≤ n
      · have g2 : decide ((k : Int) + 4 ≤ n) = true := decide_eq_true (by omega)
        have e2 : IntKind.i64.wrap ((k : Int) + 4) = (k : Int) + 4 := wrapi64 (by omega) (by omega)
        go_wp2
        go_quiet (fail)
        clear g1 g2 e2
        have HF2 := Lib.hid (HF.out.later (below_drewN wr nq))
        obtain ⟨m, hme, hmk, hcall⟩ : ∃ m, m = markL l k ∧ m < 4096 ∧ Calls Tryz.prog 61 #[.pointer (some ⟨g, 0, none⟩), .int .i64 (k : Int)] (wr.drewN nq) fun e w' => e = .returned (.int .i64 (m : Nat)) ∧ ∃ q, w' = (wr.drewN nq).drewN q :=
          ⟨_, rfl, markL_lt l k, mMark g A n c k l (wr.drewN nq) HF2.out.c0 HL.out HF2.out.data (by omega) hc h4⟩
        have HMk := Lib.hid hcall
        have HMe := Lib.hid hme
        clear hcall hme
        go_wp2_with fail
        refine HMk.out.mono ?_
        rintro e w3 ⟨rfl, q2, rfl⟩
        have HF3 := Lib.hid (HF2.out.later (below_drewN (wr.drewN nq) q2))
        have HT3 := Lib.hid ((HT.out.drewN nq).drewN q2)
        have HB3 := Lib.hid ((HB.out.trans ((below_drewN wr nq).mono HF.out.size)).trans ((below_drewN (wr.drewN nq) q2).mono HF2.out.size))
        clear HMk HF2 c0 cK cA
        obtain ⟨w3, hw3⟩ : ∃ w3, w3 = (wr.drewN nq).drewN q2 := ⟨_, rfl⟩
        rw [← hw3] at HF3 HB3 HT3 ⊢
        clear hw3
        obtain ⟨ga, xa, hAa, hga1, hga2, -, hcga, hfga⟩ := Own.at_ HF3.out.ahead (k := k) (by omega)
        subst hAa
        have cK := HF3.out.cK
        have cA := HF3.out.cA
        have cH := HF3.out.cH hmk
        have i1 : (0 : Int) ≤ (m : Int) := by omega
        have i2 : (m : Int) < 4096 := by omega
        have HMK := Lib.hid hmk
        have i3 : (0 : Int) ≤ (k : Int) := by omega
        have i4 : (k : Int) < (n : Int) := by omega
        have HHk := Lib.hid (show k < n by omega)
        go_wp2
        go_region
        have hga : ga ≠ g := by simpa [bk] using HF3.out.cells.ne_own HF3.out.ahead (by decide)
        have HS := Lib.hid (show Fin_ (((w3.setCell ⟨ga, k, none⟩ (.int .i64 (head' m : Nat))).setCell ⟨g, 2 + m, none⟩ (.int .i64 ((k : Int) + 1))).setCell ⟨g, 4099, none⟩ (.int .i64 ((k : Int) + 1))) B g l A n c win (fun j => if j = m then k + 1 else head' j) (some ⟨ga, 0, none⟩) ca (k + 1) (ah'.set k (head' m)) from HF3.out.step HMK.out HHk.out)
        have HLo2 := Lib.hid (show LinkOk l (fun j => if j = m then k + 1 else head' j) (ah'.set k (head' m)) (k + 1) from by rw [HMe.out]; exact HLo.out.step (by have := OwnN.length HF3.out.ahead; have := HHk.out; omega))
        obtain ⟨w4, hw4⟩ : ∃ w4, w4 = w3.setCell ⟨ga, k, none⟩ (.int .i64 (head' m : Nat)) := ⟨_, rfl⟩
        rw [← hw4] at HS ⊢
        have HC4 : Cells w4 g 48 4100 (finF A n c win head' (some ⟨ga, 0, none⟩) ca k) := by
          rw [hw4]; exact HF3.out.cells.kept (grown_set w3 ⟨ga, k, none⟩ _) (by simpa using hga)
        have HT4 := Lib.hid (show Two g (some ⟨ga, 0, none⟩) w w4 by rw [hw4]; exact HT3.out.set_a _)
        have HB4 := Lib.hid (show Below B w w4 by rw [hw4]; exact HB3.out.setCell hga1 _)
        clear hw4 cK cA cH hcga hfga
        have cK : w4.cell? ⟨g, 4099, none⟩ = some (.int .i64 (k : Int)) := HC4.cell (by omega)
        have cH : w4.cell? ⟨g, 2 + m, none⟩ = some (.int .i64 (head' m : Nat)) := by
          rw [HC4.cell (i := 2 + m) (by omega)]
          unfold finF
          rw [if_neg (by omega), if_neg (by omega), if_pos (by omega), show 2 + m - 2 = m by omega]
        have cf : w4.frozen? ⟨g, 2 + m, none⟩ = false := HC4.frozen _
        have HC4' := Lib.hid HC4
        clear HC4
        have e1 : IntKind.i64.wrap ((k : Int) + 1) = ((k + 1 : Nat) : Int) := by rw [wrapi64 (by omega) (by omega)]; rfl
        go_wp2
        go_region
        have HB5 := Lib.hid (show Below B w (w4.setCell ⟨g, 2 + m, none⟩ (.int .i64 ((k : Int) + 1))) from HB4.out.setCell HF3.out.base _)
        have HC5 := HC4'.out.set (2 + m) (.int .i64 ((k : Int) + 1))
        have HT5 := Lib.hid (show Two g (some ⟨ga, 0, none⟩) w (w4.setCell ⟨g, 2 + m, none⟩ (.int .i64 ((k : Int) + 1))) from HT4.out.set_g _)
        obtain ⟨w5, hw5⟩ : ∃ w5, w5 = w4.setCell ⟨g, 2 + m, none⟩ (.int .i64 ((k : Int) + 1)) := ⟨_, rfl⟩
        rw [← hw5] at HS HB5 HC5 HT5 ⊢
        have cK5 : w5.cell? ⟨g, 4099, none⟩ = some (.int .i64 (k : Int)) := by
          rw [HC5.cell (i := 4099) (by omega), if_neg (by omega)]
          unfold finF
          rw [if_neg (by omega), if_neg (by omega), if_neg (by omega), if_neg (by omega)]
        have cf5 : w5.frozen? ⟨g, 4099, none⟩ = false := HC5.frozen _
        clear hw5 cK cH cf HC5
        go_wp2
        go_roundg (i - (k + 1))
        case measure => omega
        case rel => exact ⟨_, k + 1, _, by omega, by omega, HS.out.later (((Below.refl _ _).drew).drew), ((HB5.out.setCell (p := ⟨g, 4099, none⟩) HF3.out.base _).drew).drew, (HT5.out.set_g (i := 4099) _).trans (.of_below (((Below.refl _ _).drew).drew)), HLo2.out⟩
      · have g2 : decide ((k : Int) + 4 ≤ n) = false := decide_eq_false (by omega)
        have e2 : IntKind.i64.wrap ((k : Int) + 4) = (k : Int) + 4 := wrapi64 (by omega) (by omega)
        go_wp2
        go_quiet (fail)
        clear g1 g2 e2
        go_wp2
        go_end0
        exact ⟨⟨_, rfl⟩, HB.out.trans ((below_drewN wr nq).mono HF.out.size), HT.out.drewN nq, _, k, _, hk, HF.out.later (below_drewN wr nq), HLo.out, fun h => by omega⟩
    · have g1 : decide ((k : Int) < i) = false := decide_eq_false (by omega)
      go_wp2
      go_quiet (fail)
      clear g1
      go_wp2
      go_end0
      exact ⟨⟨_, rfl⟩, HB.out.trans ((below_drewN wr nq).mono HF.out.size), HT.out.drewN nq, _, k, _, hk, HF.out.later (below_drewN wr nq), HLo.out, fun h => by omega⟩
end Go.Proofs.YtaelgbbnmjbjiaaGreat
namespace Go.Proofs.YtaelgbbnmjbjiaaGreat
open Go.RowKit
def bestD (l : List UInt8) (i : Nat) : Nat → Nat × Nat
  | 0 => (0, 0)
  | d + 1 => if 4 ≤ sameL l (i - (d + 1)) i ∧ (bestD l i d).1 < sameL l (i - (d + 1)) i then (sameL l (i - (d + 1)) i, d + 1) else bestD l i d
theorem bestD_ok (l : List UInt8) (i : Nat) (hi : i ≤ l.length) : ∀ d, d ≤ i → BestOk l i (bestD l i d).1 (bestD l i d).2
  | 0, _ => .inl ⟨rfl, rfl⟩
  | d + 1, h => by
    unfold bestD
    split
    · next h2 =>
      have h3 := sameL_ok l (i - (d + 1)) i (Nat.sub_le _ _) hi
      exact .inr ⟨h2.1, h3.1, h3.2.1, Nat.succ_le_succ (Nat.zero_le d), h, h3.2.2⟩
    · exact bestD_ok l i hi d (by omega)
theorem bestD_le (l : List UInt8) (i : Nat) : ∀ d, (bestD l i d).1 ≤ 259
  | 0 => Nat.zero_le _
  | d + 1 => by
    unfold bestD
    split
    · exact (comL_le 259 _ _).1
    · exact bestD_le l i d
theorem bestD_full (l : List UInt8) (i d : Nat) (h : (bestD l i d).1 = 259) : ∀ k, bestD l i (d + k) = bestD l i d
  | 0 => rfl
  | k + 1 => by
    have h2 := bestD_full l i d h k
    have h3 : sameL l (i - (d + k + 1)) i ≤ 259 := (comL_le 259 _ _).1
    show (if 4 ≤ sameL l (i - (d + k + 1)) i ∧ (bestD l i (d + k)).1 < sameL l (i - (d + k + 1)) i then (sameL l (i - (d + k + 1)) i, d + k + 1) else bestD l i (d + k)) = _
    rw [if_neg (by rw [h2, h]; omega), h2]
theorem bestD_short (l : List UInt8) (i : Nat) (h : l.length < i + 4) : ∀ d, bestD l i d = (0, 0)
  | 0 => rfl
  | d + 1 => by
    unfold bestD
    have h3 : sameL l (i - (d + 1)) i ≤ (l.drop i).length := (comL_le 259 _ _).2.2
    rw [List.length_drop] at h3
    rw [if_neg (by omega)]
    exact bestD_short l i h d
theorem same_mark (l : List UInt8) (p i : Nat) (h : 4 ≤ sameL l p i) : markL l p = markL l i := by
  have h2 : ∀ j, j < 4 → l.getD (p + j) 0 = l.getD (i + j) 0 := fun j hj => by
    have := comL_same 259 (l.drop p) (l.drop i) j (by show j < sameL l p i; omega)
    rwa [getD_drop, getD_drop] at this
  unfold markL fourL
  have a0 := h2 0 (by omega)
  have a1 := h2 1 (by omega)
  have a2 := h2 2 (by omega)
  have a3 := h2 3 (by omega)
  simp only [Nat.add_zero] at a0
  rw [a0, a1, a2, a3]
theorem bestD_skip (l : List UInt8) (i p : Nat) : ∀ k, p + k ≤ i → (∀ x, p ≤ x → x < p + k → markL l x ≠ markL l i) → bestD l i (i - p) = bestD l i (i - (p + k))
  | 0, _, _ => rfl
  | k + 1, h, hm => by
    rw [bestD_skip l i p k (by omega) (fun x h1 h2 => hm x h1 (by omega))]
    have e : i - (p + k) = (i - (p + (k + 1))) + 1 := by omega
    rw [e]
    show (if 4 ≤ sameL l (i - (i - (p + (k + 1)) + 1)) i ∧ _ then _ else _) = _
    rw [if_neg]
    rintro ⟨h1, -⟩
    rw [show i - (i - (p + (k + 1)) + 1) = p + k by omega] at h1
    exact hm (p + k) (by omega) (by omega) (same_mark l _ _ h1)
theorem bestD_next {l : List UInt8} {i q p : Nat} (hq : q ≤ i) (h : lastM l (markL l i) q = p + 1) :
    bestD l i (i - p) = if 4 ≤ sameL l p i ∧ (bestD l i (i - q)).1 < sameL l p i then (sameL l p i, i - p) else bestD l i (i - q) := by
  have hp := lastM_le l (markL l i) q
  have h1 := bestD_skip l i (p + 1) (q - (p + 1)) (by omega) (fun x h1 h2 => lastM_none l _ q x (by omega) (by omega))
  rw [show p + 1 + (q - (p + 1)) = q by omega] at h1
  rw [← h1]
  have e : i - p = (i - (p + 1)) + 1 := by omega
  rw [e]
  show (if 4 ≤ sameL l (i - (i - (p + 1) + 1)) i ∧ _ then _ else _) = _
  rw [show i - (i - (p + 1) + 1) = p by omega]
theorem bestD_end {l : List UInt8} {i q : Nat} (hq : q ≤ i) (h : lastM l (markL l i) q = 0) : bestD l i i = bestD l i (i - q) := by
  have h1 := bestD_skip l i 0 q (by omega) (fun x h1 h2 => lastM_none l _ q x (by omega) (by omega))
  rw [Nat.sub_zero, Nat.zero_add] at h1
  exact h1
set_option maxHeartbeats 4000000 in
set_option maxRecDepth 10000 in
theorem mBestX (B g : Nat) (l : List UInt8) (A : Option Addr) (n c win : Nat) (head : Nat → Nat) (Aa : Option Addr) (ca known : Nat) (ah : List Nat) (i : Nat) (w : World) (h : Fin_ w B g l A n c win head Aa ca known ah) (hl : l.length = n) (hn : n ≤ 65536) (hc : n ≤ c) (hi : i ≤ n) (hki : known ≤ i) (hwin : win ≤ 65536) (hiw : i ≤ win) (hlk : LinkOk l head ah known) :
    Calls Tryz.prog 25 #[.pointer (some ⟨g, 0, none⟩), .int .i64 (i : Int)] w fun e w' => (∃ L D : Nat, e = .returned (.tuple #[.int .i64 (L : Int), .int .i64 (D : Int)]) ∧ (L, D) = bestD l i i) ∧ Below B w w' ∧ Two g Aa w w' ∧ ∃ head' known' ah', known' ≤ i ∧ Fin_ w' B g l A n c win head' Aa ca known' ah' ∧ LinkOk l head' ah' known' := by
  have HF0 := Lib.hid h
  have HL := Lib.hid hl
  have HK0 := Lib.hid hlk
  have c0 := h.c0
  clear h hl hlk
  have e1 : IntKind.i64.wrap ((i : Int) + 4) = (i : Int) + 4 := wrapi64 (by omega) (by omega)
  go_enter Tryz.func25, Tryz.ntmps25
  by_cases h4 : i + 4 ≤ n
  · have g1 : decide ((n : Int) < (i : Int) + 4) = false := decide_eq_false (by omega)
    have HK := Lib.hid (mLinkX B g l A n c win head Aa ca known ah i w HF0.out HL.out hn hc hi hki HK0.out)
    go_wp2_with fail
    go_step3
    go_wp2_with fail
    clear e1 g1 c0
    refine HK.out.mono ?_
    rintro e w1 ⟨⟨v, rfl⟩, hb1, ht1, head1, known1, ah1, hk1, hf1, hlo1, hke1⟩
    have HLo := Lib.hid hlo1
    have HKe := Lib.hid (hke1 h4)
    clear hlo1 hke1
    have HB1 := Lib.hid hb1
    have HF1 := Lib.hid hf1
    have HT1 := Lib.hid ht1
    clear hb1 hf1 ht1 HK
    obtain ⟨m, hme, hmk, hcall⟩ : ∃ m, m = markL l i ∧ m < 4096 ∧ ∀ q, Calls Tryz.prog 61 #[.pointer (some ⟨g, 0, none⟩), .int .i64 (i : Int)] (w1.drewN q) fun e w' => e = .returned (.int .i64 (m : Nat)) ∧ ∃ p, w' = (w1.drewN q).drewN p :=
      ⟨_, rfl, markL_lt l i, fun q => mMark g A n c i l (w1.drewN q) (HF1.out.later (below_drewN w1 q)).c0 HL.out (HF1.out.later (below_drewN w1 q)).data (by omega) hc h4⟩
    have HMk := Lib.hid hcall
    have HMe := Lib.hid hme
    clear hcall hme
    go_wp2_with fail
    go_step3
    go_wp2_with fail
    have cH := HF1.out.cH hmk
    have i1 : (0 : Int) ≤ (m : Int) := by omega
    have i2 : (m : Int) < 4096 := by omega
    go_quiet ((go_at_call 61; exact Calls.quiet_of (HMk.out _)))
    clear cH i1 i2 HMk
    go_wp2_with fail
    have hm1 := HF1.out.h1 m hmk
    have HH2 := Lib.hid HF1.out.h2
    go_loopg [6, 7, 8] (head1 m) (fun gg s6 s7 s8 wr => ∃ L D a q : Nat, s6 = .int .i64 (L : Int) ∧ s7 = .int .i64 (D : Int) ∧ s8 = .int .i64 (a : Int) ∧ a ≤ known1 ∧ a ≤ gg ∧ (∃ qq, qq ≤ i ∧ (L, D) = bestD l i (i - qq) ∧ a = lastM l m qq) ∧ wr = w1.drewN q)
    case atStart => exact ⟨0, 0, head1 m, nq, rfl, rfl, rfl, hm1, Nat.le_refl _, ⟨i, Nat.le_refl _, by rw [Nat.sub_self]; rfl, by rw [HLo.out.hd m hmk, HKe.out]⟩, rfl⟩
    case round =>
      obtain ⟨L, D, a, q, rfl, rfl, rfl, hak, hag, hok, rfl⟩ := hrel
      obtain ⟨qq, hqq, hLD, haq⟩ := hok
      have HQq := Lib.hid (⟨hqq, hLD, haq⟩ : qq ≤ i ∧ (L, D) = bestD l i (i - qq) ∧ a = lastM l m qq)
      clear hqq hLD haq
      by_cases ha : 0 < a
      · have g1 : decide ((0 : Int) < a) = true := decide_eq_true (by omega)
        have e1 : IntKind.i64.wrap ((a : Int) - 1) = ((a - 1 : Nat) : Int) := by rw [wrapi64 (by omega) (by omega)]; omega
        obtain ⟨d, hd⟩ : ∃ d, i - (a - 1) = d := ⟨_, rfl⟩
        have e2 : IntKind.i64.wrap ((i : Int) - ((a - 1 : Nat) : Int)) = (d : Int) := by rw [wrapi64 (by omega) (by omega)]; omega
        have HD := Lib.hid hd
        clear hd
        have HFq := Lib.hid (HF1.out.later (below_drewN w1 q))
        have HSame := Lib.hid (mSameX g A n c (a - 1) i l (w1.drewN q) HFq.out.c0 HL.out HFq.out.data (by omega) (by omega) (by omega))
        go_wp2_with fail
        refine HSame.out.mono ?_
        rintro e w2 ⟨M, rfl, hs, q2, rfl⟩
        clear HSame
        have HS := Lib.hid hs
        have hM : M ≤ 259 := by rw [hs]; exact (comL_le 259 _ _).1
        have HNx := Lib.hid (by
          have h1 := bestD_next (l := l) (i := i) (q := qq) (p := a - 1) HQq.out.1 (by rw [← HMe.out, ← HQq.out.2.2]; omega)
          rw [← hs, ← HQq.out.2.1, HD.out] at h1
          exact h1 : bestD l i d = if 4 ≤ M ∧ L < M then (M, d) else (L, D))
        clear hs
        have c1 := HF1.out.c1
        obtain ⟨ga, xa, hAa, -, -, hxa, hcga, -⟩ := Own.at_ HF1.out.ahead (k := a - 1) (by omega)
        subst hAa
        have hlen := OwnN.length HF1.out.ahead
        have hxv : xa = .int .i64 ((ah1.getD (a - 1) 0 : Nat) : Int) := by
          rw [List.getElem?_map, List.getElem?_eq_getElem (by omega)] at hxa
          rw [← Option.some.inj hxa]
          simp [List.getD, List.getElem?_eq_getElem (show a - 1 < ah1.length by omega), natv]
        subst hxv
        have hle := HH2.out (a - 1) (by omega)
        have hac := HLo.out.ac (a - 1) (by omega)
        rw [lastM_mark l m qq (a - 1) (by rw [← HQq.out.2.2]; omega)] at hac
        clear hxa hlen
        have cA := HF1.out.cA
        obtain ⟨y, hy⟩ : ∃ y, ah1.getD (a - 1) 0 = y := ⟨_, rfl⟩
        rw [hy] at hcga hle hac
        have HAc := Lib.hid hac
        clear hy hac
        have i3 : (0 : Int) ≤ ((a - 1 : Nat) : Int) := by omega
        have i4 : ((a - 1 : Nat) : Int) < (n : Int) := by omega
        by_cases hw : win < d ∨ L = 259
        · have gw : (decide ((win : Int) < (d : Int)) = true) ∨ (decide ((win : Int) < (d : Int)) = false ∧ ((L : Int) == 259) = true) := by
            by_cases h : win < d
            · exact .inl (decide_eq_true (by omega))
            · refine .inr ⟨decide_eq_false (by omega), ?_⟩
              have : L = 259 := by omega
              rw [this]; rfl
          clear hw
          rcases gw with gw | ⟨gw, gl⟩
          · have gn := of_decide_eq_true gw
            go_wp2
            all_goals first
              | (exfalso; omega)
              | (rw [Exit.noGoto_ret]
                 go_ret2
                 exact absurd gn (by have := HD.out; omega))
          · have gn := of_decide_eq_false gw
            have gn2 : L = 259 := by have := eq_of_beq gl; omega
            go_wp2
            all_goals first
              | (exfalso; omega)
              | (rw [Exit.noGoto_ret]
                 go_ret2
                 exact ⟨⟨259, D, rfl, by
                   have h1 := HQq.out.2.1
                   have h2 := bestD_full l i (i - qq) (by rw [← h1, gn2]) qq
                   rw [show i - qq + qq = i by have := HQq.out.1; omega] at h2
                   rw [h2, ← h1, gn2]⟩, HB1.out.trans ((below_drewN w1 _).mono HF1.out.size), HT1.out.drewN _, _, _, _, hk1, HF1.out.later (below_drewN w1 _), HLo.out⟩)
        · have gw : decide ((win : Int) < (d : Int)) = false := decide_eq_false (by omega)
          have gl : ((L : Int) == 259) = false := beq_eq_false_iff_ne.2 (by omega)
          have gn : d ≤ win := by have := of_decide_eq_false gw; omega
          clear hw
          by_cases hm : 4 ≤ M ∧ L < M
          · have g4 : decide ((4 : Int) ≤ (M : Int)) = true := decide_eq_true (by omega)
            have g5 : decide ((L : Int) < (M : Int)) = true := decide_eq_true (by omega)
            have HOK2 := Lib.hid (by have h1 := HNx.out; rw [if_pos hm] at h1; exact ⟨a - 1, by have := HQq.out; have := HD.out; omega, by rw [HD.out]; exact h1.symm, HAc.out⟩ : ∃ qq, qq ≤ i ∧ (M, d) = bestD l i (i - qq) ∧ y = lastM l m qq)
            go_wp2
            go_roundg y
            case measure => omega
            case rel => exact ⟨M, d, y, _, rfl, rfl, rfl, by omega, Nat.le_refl _, HOK2.out, rfl⟩
          · have HOK := Lib.hid (by have h1 := HNx.out; rw [if_neg hm] at h1; exact ⟨a - 1, by have := HQq.out; have := HD.out; omega, by rw [HD.out]; exact h1.symm, HAc.out⟩ : ∃ qq, qq ≤ i ∧ (L, D) = bestD l i (i - qq) ∧ y = lastM l m qq)
            by_cases h4m : 4 ≤ M
            · have g4 : decide ((4 : Int) ≤ (M : Int)) = true := decide_eq_true (by omega)
              have g5 : decide ((L : Int) < (M : Int)) = false := decide_eq_false (by omega)
              go_wp2
              go_roundg y
              case measure => omega
              case rel => exact ⟨L, D, y, _, rfl, rfl, rfl, by omega, Nat.le_refl _, HOK.out, rfl⟩
            · have g4 : decide ((4 : Int) ≤ (M : Int)) = false := decide_eq_false (by omega)
              go_wp2
              go_roundg y
              case measure => omega
              case rel => exact ⟨L, D, y, _, rfl, rfl, rfl, by omega, Nat.le_refl _, HOK.out, rfl⟩
      · have g1 : decide ((0 : Int) < a) = false := decide_eq_false (by omega)
        go_wp2
        rw [Exit.noGoto_ret]
        go_ret2
        exact ⟨⟨L, D, rfl, by rw [HQq.out.2.1]; exact (bestD_end HQq.out.1 (by rw [← HMe.out, ← HQq.out.2.2]; omega)).symm⟩, HB1.out.trans ((below_drewN w1 _).mono HF1.out.size), HT1.out.drewN _, _, _, _, hk1, HF1.out.later (below_drewN w1 _), HLo.out⟩
  · have g1 : decide ((n : Int) < (i : Int) + 4) = true := decide_eq_true (by omega)
    go_wp2
    go_step3
    go_wp2
    try rw [Exit.noGoto_ret]
    go_ret2
    exact ⟨⟨0, 0, rfl, (bestD_short l i (by rw [HL.out]; omega) i).symm⟩, Below.refl _ _, Two.refl _ _ _, head, known, ah, hki, HF0.out, HK0.out⟩
end Go.Proofs.YtaelgbbnmjbjiaaGreat
