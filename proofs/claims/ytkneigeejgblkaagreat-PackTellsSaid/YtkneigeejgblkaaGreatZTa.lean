/-
  Parts of the proofs about package pack, in the order in which they build: X9, D6, D7.
-/
import Derived.Test.YtkneigeejgblkaaGreatKh
import Derived.StillTailTactics
set_option linter.unusedSimpArgs false
set_option linter.unusedVariables false
/-
  Plain laws: a change of bits within 32 side by side changes the sum.
-/
namespace Go.Proofs.YtkneigeejgblkaaGreat
open Go.RowKit

/-- a bit of bytes is turned -/
def flipB : List UInt8 → Nat → List UInt8
  | [], _ => []
  | x :: r, i => if i < 8 then UInt8.ofNat (x.toNat ^^^ 2 ^ i) :: r else x :: flipB r (i - 8)
theorem flipB_len : ∀ (d : List UInt8) (i : Nat), (flipB d i).length = d.length
  | [], _ => rfl
  | x :: r, i => by
    rw [flipB]
    split
    · rfl
    · rw [List.length_cons, flipB_len r, List.length_cons]
theorem flipB_set : ∀ (d : List UInt8) (i : Nat), flipB d i = d.set (i / 8) (UInt8.ofNat ((d.getD (i / 8) 0).toNat ^^^ 2 ^ (i % 8)))
  | [], i => rfl
  | x :: r, i => by
    rw [flipB]
    by_cases h : i < 8
    · rw [if_pos h, show i / 8 = 0 by omega, show i % 8 = i by omega]; rfl
    · rw [if_neg h, flipB_set r, show i / 8 = (i - 8) / 8 + 1 by omega, show i % 8 = (i - 8) % 8 by omega]; rfl
theorem bits_flip8 : ∀ (x : Fin 256) (j : Fin 8), Pl.bitsOf ((x.val ^^^ 2 ^ j.val) % 256) = (Pl.bitsOf x.val).set j.val ((Pl.bitsOf x.val).getD j.val 0 ^^^ 1) := by decide +kernel
theorem bitsL_cons (x : UInt8) (r : List UInt8) : Pl.bitsL (x :: r) = Pl.bitsOf x.toNat ++ Pl.bitsL r := rfl
theorem bitsOf_len (b : Nat) : (Pl.bitsOf b).length = 8 := rfl
theorem getD_left {a b : List Nat} {i : Nat} (h : i < a.length) : (a ++ b).getD i 0 = a.getD i 0 := by rw [List.getD, List.getD, List.getElem?_append_left h]
theorem getD_right {a b : List Nat} {i : Nat} (h : a.length ≤ i) : (a ++ b).getD i 0 = b.getD (i - a.length) 0 := by rw [List.getD, List.getD, List.getElem?_append_right h]
theorem bitsL_flip : ∀ (d : List UInt8) (i : Nat), i < 8 * d.length → Pl.bitsL (flipB d i) = (Pl.bitsL d).set i ((Pl.bitsL d).getD i 0 ^^^ 1)
  | [], i, h => by simp at h
  | x :: r, i, h => by
    rw [flipB, bitsL_cons]
    by_cases h8 : i < 8
    · have h1 := bits_flip8 ⟨x.toNat, x.toNat_lt⟩ ⟨i, h8⟩
      simp only at h1
      rw [if_pos h8, bitsL_cons, UInt8.toNat_ofNat', h1, List.set_append_left _ _ (by rw [bitsOf_len]; exact h8), getD_left (by rw [bitsOf_len]; exact h8)]
    · rw [if_neg h8, bitsL_cons, bitsL_flip r (i - 8) (by rw [List.length_cons] at h; omega), List.set_append_right _ _ (by rw [bitsOf_len]; omega), getD_right (by rw [bitsOf_len]; omega), bitsOf_len]

/-- bits from one on that are turned, as a mask says: the first k -/
def flips (d : List UInt8) (a mask : Nat) : Nat → List UInt8
  | 0 => d
  | k + 1 => if mask / 2 ^ k % 2 = 1 ∧ (a + k) / 8 < d.length then flipB (flips d a mask k) (a + k) else flips d a mask k
theorem flips_len (d : List UInt8) (a mask : Nat) : ∀ k, (flips d a mask k).length = d.length
  | 0 => rfl
  | k + 1 => by
    rw [flips]
    split
    · rw [flipB_len, flips_len d a mask k]
    · exact flips_len d a mask k
/-- whether any was turned -/
def chgd (d : List UInt8) (a mask : Nat) : Nat → Bool
  | 0 => false
  | k + 1 => if mask / 2 ^ k % 2 = 1 ∧ (a + k) / 8 < d.length then true else chgd d a mask k
def flF (a mask k j : Nat) : Nat := if a ≤ j ∧ j < a + k ∧ mask / 2 ^ (j - a) % 2 = 1 then 1 else 0
theorem flips_bits (d : List UInt8) (a mask : Nat) : ∀ k j, j < 8 * d.length → (Pl.bitsL (flips d a mask k)).getD j 0 = (Pl.bitsL d).getD j 0 ^^^ flF a mask k j
  | 0, j, _ => by
    unfold flF
    rw [if_neg (by omega), Nat.xor_zero]; rfl
  | k + 1, j, hj => by
    have ih := flips_bits d a mask k j hj
    rw [flips]
    by_cases hc : mask / 2 ^ k % 2 = 1 ∧ (a + k) / 8 < d.length
    · have hl := flips_len d a mask k
      have hak : a + k < 8 * (flips d a mask k).length := by rw [hl]; omega
      rw [if_pos hc, bitsL_flip _ _ hak]
      by_cases e : j = a + k
      · subst e
        have h1 : flF a mask k (a + k) = 0 := by unfold flF; rw [if_neg (by omega)]
        have h2 : flF a mask (k + 1) (a + k) = 1 := by unfold flF; rw [if_pos ⟨by omega, by omega, by rw [Nat.add_sub_cancel_left]; exact hc.1⟩]
        rw [h1, Nat.xor_zero] at ih
        rw [h2, List.getD, List.getElem?_set_self (by rw [Pl.bitsL_length]; exact hak), Option.getD_some, ih]
      · have h1 : flF a mask (k + 1) j = flF a mask k j := by
          unfold flF
          by_cases h2 : a ≤ j ∧ j < a + k ∧ mask / 2 ^ (j - a) % 2 = 1
          · rw [if_pos h2, if_pos ⟨h2.1, by omega, h2.2.2⟩]
          · rw [if_neg h2, if_neg (fun h3 => h2 ⟨h3.1, by omega, h3.2.2⟩)]
        rw [h1, ← ih, List.getD, List.getElem?_set_ne (by omega)]; rfl
    · have h1 : flF a mask (k + 1) j = flF a mask k j := by
        unfold flF
        by_cases h2 : a ≤ j ∧ j < a + k ∧ mask / 2 ^ (j - a) % 2 = 1
        · rw [if_pos h2, if_pos ⟨h2.1, by omega, h2.2.2⟩]
        · rw [if_neg h2, if_neg]
          rintro ⟨h3, h4, h5⟩
          by_cases e : j = a + k
          · subst e
            rw [Nat.add_sub_cancel_left] at h5
            exact hc ⟨h5, by omega⟩
          · exact h2 ⟨h3, by omega, h5⟩
      rw [if_neg hc, h1]; exact ih
theorem chgd_false {d : List UInt8} {a mask : Nat} : ∀ {k}, chgd d a mask k = false → flips d a mask k = d
  | 0, _ => rfl
  | k + 1, h => by
    rw [chgd] at h
    rw [flips]
    split at h
    · cases h
    · rename_i hc
      rw [if_neg hc]; exact chgd_false h
theorem chgd_true {d : List UInt8} {a mask : Nat} : ∀ {k}, chgd d a mask k = true → ∃ j, j < k ∧ a + j < 8 * d.length ∧ mask / 2 ^ j % 2 = 1
  | k + 1, h => by
    rw [chgd] at h
    split at h
    · rename_i hc
      exact ⟨k, by omega, by omega, hc.1⟩
    · obtain ⟨j, h1, h2⟩ := chgd_true h
      exact ⟨j, by omega, h2⟩

theorem sumOf_inj {l r : List UInt8} (h : sumOf l = sumOf r) : Pl.crcL l = Pl.crcL r := by
  have hl := Pl.crcL_lt l
  have hr := Pl.crcL_lt r
  unfold sumOf at h
  generalize Pl.crcL l = x at *
  generalize Pl.crcL r = y at *
  simp only [List.cons.injEq, and_true] at h
  obtain ⟨h0, h1, h2, h3⟩ := h
  have k0 := congrArg UInt8.toNat h0
  have k1 := congrArg UInt8.toNat h1
  have k2 := congrArg UInt8.toNat h2
  have k3 := congrArg UInt8.toNat h3
  simp only [UInt8.toNat_ofNat'] at k0 k1 k2 k3
  omega

/-- what is changed within 32 bits side by side has another sum -/
theorem flips_sum {d : List UInt8} {a mask : Nat} (h : chgd d a mask 32 = true) : sumOf (flips d a mask 32) ≠ sumOf d := by
  intro he
  have hs := sumOf_inj he
  obtain ⟨j, hj1, hj2, hj3⟩ := chgd_true h
  have hlen := flips_len d a mask 32
  obtain ⟨m, hm⟩ : ∃ m, m = min 32 (8 * d.length - a) := ⟨_, rfl⟩
  have hx : Pl.xorL (Pl.bitsL d) (Pl.bitsL (flips d a mask 32)) = List.replicate a 0 ++ (List.range m).map (fun k => flF a mask 32 (a + k)) ++ List.replicate (8 * d.length - a - m) 0 := by
    apply List.ext_getElem
    · simp only [Pl.xorL, List.length_zipWith, List.length_append, List.length_replicate, List.length_map, List.length_range, Pl.bitsL_length, hlen]
      omega
    · intro i h1 h2
      have hi : i < 8 * d.length := by
        simp only [Pl.xorL, List.length_zipWith, Pl.bitsL_length, hlen] at h1
        omega
      have hb := flips_bits d a mask 32 i hi
      rw [List.getD, List.getD, List.getElem?_eq_getElem (by rw [Pl.bitsL_length, hlen]; exact hi), List.getElem?_eq_getElem (by rw [Pl.bitsL_length]; exact hi), Option.getD_some, Option.getD_some] at hb
      have hleft : (Pl.xorL (Pl.bitsL d) (Pl.bitsL (flips d a mask 32)))[i] = flF a mask 32 i := by
        simp only [Pl.xorL, List.getElem_zipWith]
        rw [hb, ← Nat.xor_assoc, Nat.xor_self, Nat.zero_xor]
      rw [hleft]
      by_cases c1 : i < a
      · rw [List.getElem_append_left (by simp; omega), List.getElem_append_left (by simp; omega), List.getElem_replicate]
        unfold flF; rw [if_neg (by omega)]
      · by_cases c2 : i < a + m
        · rw [List.getElem_append_left (by simp; omega), List.getElem_append_right (by simp; omega)]
          simp only [List.getElem_map, List.getElem_range, List.length_replicate]
          rw [show a + (i - a) = i by omega]
        · rw [List.getElem_append_right (by simp; omega), List.getElem_replicate]
          unfold flF; rw [if_neg (by omega)]
  refine Pl.crc_burst d (flips d a mask 32) a _ _ hlen.symm hx (by rw [List.length_map, List.length_range]; omega) ⟨flF a mask 32 (a + j), List.mem_map.2 ⟨j, List.mem_range.2 (by omega), rfl⟩, ?_⟩ hs.symm
  unfold flF
  rw [if_pos ⟨by omega, by omega, by rw [Nat.add_sub_cancel_left]; exact hj3⟩]
  omega
end Go.Proofs.YtkneigeejgblkaaGreat

/-
  Walks of the references: numbers, sums, frames; the form of nothing.
-/
namespace Go.Proofs.YtkneigeejgblkaaGreat
open Go.RowKit

theorem refXor (a b : Nat) (w : World) (ha : a < 4294967296) (hb : b < 4294967296) : Calls Tryz.prog 93 #[.int .i64 (a : Int), .int .i64 (b : Int)] w fun e w' => e = .returned (.int .i64 ((a ^^^ b : Nat) : Int)) ∧ w' = w := by
  have HX := Lib.hid (i64_xor_nat a b (by omega) (by omega))
  go_enter Tryz.func93, Tryz.ntmps93
  go_wp2
  go_ret
  exact ⟨ret_int HX.out, rfl⟩

theorem all_xor {x : Nat} (h : x < 4294967296) : 4294967295 ^^^ x = 4294967295 - x := by
  have h1 := congrArg BitVec.toNat (BitVec.allOnes_xor (x := BitVec.ofNat 32 x))
  rw [BitVec.toNat_xor, BitVec.toNat_not, BitVec.toNat_allOnes, BitVec.toNat_ofNat, Nat.mod_eq_of_lt (by omega)] at h1
  exact h1

set_option maxHeartbeats 4000000 in
set_option maxRecDepth 10000 in
theorem refCrc (A : Option Addr) (n c : Nat) (l : List UInt8) (w : World) (hl : l.length = n) (hr : Bs w A l) (hn : n ≤ 1000000000000) :
    Calls Tryz.prog 49 #[.slice A n c] w fun e w' => e = .returned (.int .i64 (Pl.crcL l : Nat)) ∧ w' = w := by
  have HL := Lib.hid hl
  have HR := Lib.hid hr
  clear hl hr
  go_enter Tryz.func49, Tryz.ntmps49
  go_wp2_with fail
  go_loopg [3, 4] n (fun gg s3 s4 wr => ∃ k x : Nat, k ≤ n ∧ n - k ≤ gg ∧ s3 = .int .i64 (x : Int) ∧ s4 = .int .i64 (k : Int) ∧ x = crcTo l k ∧ x < 4294967296 ∧ wr = w)
  case atStart => exact ⟨0, 4294967295, by omega, by omega, rfl, rfl, by simp [crcTo], by omega, rfl⟩
  case round =>
    obtain ⟨k, x, hk, hgg, rfl, rfl, hx, hx32, rfl⟩ := hrel
    by_cases hkn : k < n
    · obtain ⟨b, o, u, hA, hu, hc⟩ := HR.out.at_ (by rw [HL.out]; exact hkn : k < l.length)
      subst hA
      have hu8 : u.toNat < 256 := u.toNat_lt
      have HX := Lib.hid hx
      have HU := Lib.hid hu
      have HXo := Lib.hid (refXor x u.toNat wr hx32 (by omega))
      have hx1 : x ^^^ u.toNat < 4294967296 := Nat.xor_lt_two_pow (n := 32) hx32 (by omega)
      obtain ⟨y0, hy⟩ : ∃ y0, y0 = x ^^^ u.toNat := ⟨_, rfl⟩
      rw [← hy] at HXo hx1
      have HY := Lib.hid hy
      clear hx hu hy
      go_wp2_with fail
      refine HXo.out.mono ?_
      rintro e w1 ⟨rfl, rfl⟩
      go_wp2_with fail
      obtain ⟨wo, rfl⟩ : ∃ wo : World, wo = w1 := ⟨_, rfl⟩
      go_loopg [3, 5] 8 (fun gj s3 s5 wr => ∃ j y : Nat, j ≤ 8 ∧ 8 - j ≤ gj ∧ s3 = .int .i64 (y : Int) ∧ s5 = .int .i64 (j : Int) ∧ Pl.stN (8 - j) y = Pl.stN 8 y0 ∧ y < 4294967296 ∧ wr = wo)
      case atStart => exact ⟨0, y0, by omega, by omega, rfl, rfl, rfl, hx1, rfl⟩
      case round =>
        obtain ⟨j, y, hj, hgj, rfl, rfl, hst, hy32, rfl⟩ := hrel
        by_cases hj8 : j < 8
        · have HST := Lib.hid (show Pl.stN (8 - (j + 1)) (Pl.st y) = Pl.stN 8 y0 by rw [← hst, show 8 - j = (8 - (j + 1)) + 1 by omega]; rfl)
          have hy1 := Pl.st_lt hy32
          have hsv : Pl.st y = if y % 2 = 1 then (y / 2) ^^^ 2197175160 else y / 2 := by
            unfold Pl.st
            rw [Nat.shiftRight_eq_div_pow, Nat.pow_one]
            split
            · rfl
            · exact Nat.xor_zero _
          have HSV := Lib.hid hsv
          clear hst hsv
          by_cases hodd : y % 2 = 1
          · have g1 : ((y : Int) % 2 == 1) = true := by rw [beq_iff_eq]; omega
            have HX2 := Lib.hid (refXor (y / 2) 2197175160 wr (by omega) (by omega))
            have HS := Lib.hid (show Pl.st y = (y / 2) ^^^ 2197175160 by rw [HSV.out, if_pos hodd])
            rw [← HS.out] at HX2
            clear hodd
            go_wp2_with fail
            refine HX2.out.mono ?_
            rintro e w2 ⟨rfl, rfl⟩
            go_wp2
            go_roundg (8 - (j + 1))
            case measure => omega
            case rel => exact ⟨j + 1, Pl.st y, by omega, by omega, rfl, by go_num, HST.out, hy1, rfl⟩
          · have g1 : ((y : Int) % 2 == 1) = false := by rw [beq_eq_false_iff_ne]; omega
            have HS := Lib.hid (show Pl.st y = y / 2 by rw [HSV.out, if_neg hodd])
            clear hodd
            go_wp2
            go_roundg (8 - (j + 1))
            case measure => omega
            case rel => exact ⟨j + 1, y / 2, by omega, by omega, by go_num, by go_num, by rw [← HS.out]; exact HST.out, by omega, rfl⟩
        · obtain rfl : j = 8 := by omega
          have HN := Lib.hid (show y = crcTo l (k + 1) by
            have h : y = Pl.stN 8 y0 := by rw [← hst]; rfl
            rw [h, HY.out]; unfold crcTo; rw [foldl_crc_take HU.out]; rw [show (l.take k).foldl (fun x b => Pl.crcByte x b.toNat) 4294967295 = x from HX.out.symm]; rfl)
          clear hst
          go_wp2
          go_roundg (n - (k + 1))
          case measure => omega
          case rel => exact ⟨k + 1, y, by omega, by omega, rfl, by go_num, HN.out, hy32, rfl⟩
    · obtain rfl : k = n := by omega
      have HV := Lib.hid (show 4294967295 - x = Pl.crcL l by rw [← all_xor hx32, hx]; exact crcTo_end HL.out)
      clear hx
      go_wp2
      go_ret
      exact ⟨ret_int (by rw [← HV.out]; omega), rfl⟩

set_option maxHeartbeats 2000000 in
set_option maxRecDepth 10000 in
theorem refPutNum (A : Option Addr) (n c : Nat) (l : List UInt8) (v : Nat) (w : World) (hl : l.length = n) (hr : Bs w A l) (hn : n ≤ 1000000000000) (hv : v ≤ 4294967295) :
    Calls Tryz.prog 13 #[.slice A n c, .int .i64 (v : Int)] w fun e w' => ∃ A' m c', e = .returned (.tuple #[.slice A' m c', .int .i64 0]) ∧ OwnB w' w.heap.size A' m c' (l ++ numB 5 v) ∧ Below w.heap.size w w' := by
  have HL := Lib.hid hl
  have HR := Lib.hid hr
  clear hl hr
  go_enter Tryz.func13, Tryz.ntmps13
  go_wp2_with (at_builtin; refine wpList_append_rd rfl _ _ elemB rfl w.heap.size none 0 0 [] rfl (Own.nil _ _ _) A n c (l.map u8v) rfl HR.out ?h1 (u8_one _) ?h2 ?h3 ?hb ?_)
  case h1 => rw [List.length_map]; exact HL.out
  case h2 => omega
  case h3 => omega
  case hb => exact Nat.le_refl _
  intro A' c' w1 hown hb hg hat
  have HO := Lib.hid (show OwnB w1 w.heap.size A' n c' l by
    exact hown)
  have HB := Lib.hid hb
  clear hown hb hg hat
  go_wp2_with fail
  go_loopg [1, 6] 5 (fun gg s1 s6 wr => ∃ (f x m co : Nat) (Ao : Option Addr) (out : List UInt8), f ≤ 5 ∧ f ≤ gg ∧ s1 = .int .i64 (x : Int) ∧ s6 = .slice Ao m co ∧ x < 128 * 2 ^ (7 * f) ∧ x ≤ 4294967295 ∧ OwnB wr w.heap.size Ao m co out ∧ m ≤ 1000000000010 ∧ m + f ≤ n + 5 ∧ out ++ numB f x = l ++ numB 5 v ∧ Below w.heap.size w wr)
  case atStart => exact ⟨5, v, n, c', A', l, by omega, by omega, rfl, by first | rfl | (rw [Nat.zero_add]), by omega, hv, HO.out, by omega, by omega, rfl, HB.out⟩
  case round =>
    obtain ⟨f, x, m, co, Ao, out, hf, hgg, rfl, rfl, hx, hx32, hown, hm, hmf, heq, hbel⟩ := hrel
    have HO := Lib.hid hown
    have HQ := Lib.hid heq
    have HBel := Lib.hid hbel
    have HX := Lib.hid hx
    clear hown heq hbel hx
    by_cases h128 : 128 ≤ x
    · obtain ⟨f', rfl⟩ : ∃ f', f = f' + 1 := by
        have hx := HX.out
        cases f with
        | zero => omega
        | succ f => exact ⟨f, rfl⟩
      have HX2 := Lib.hid (show x / 128 < 128 * 2 ^ (7 * f') by
        have h := HX.out
        rw [show 7 * (f' + 1) = 7 * f' + 7 by omega, Nat.pow_add] at h
        generalize 2 ^ (7 * f') = p at *
        omega)
      have HQ2 := Lib.hid (show (out ++ [UInt8.ofNat (x % 128 + 128)]) ++ numB f' (x / 128) = l ++ numB 5 v by
        have h := HQ.out
        rw [numB, if_pos h128] at h
        rw [List.append_assoc]
        exact h)
      go_wp2_with (at_builtin; refine wpList_append_one rfl _ _ elemB rfl w.heap.size Ao m co (out.map u8v) wr (.int .u8 ((x : Int) % 128 + 128)) rfl rfl HO.out ?hx rfl ?d1 ?d2 ?d3 ?_)
      case hx => exact rfl
      case d1 => omega
      case d2 => omega
      case d3 => exact HBel.out.size
      intro A3 c3 w3 hown3 hb3 hgr3 hat3
      have HO3 := Lib.hid (ownB_snoc (b := UInt8.ofNat (x % 128 + 128)) hown3 (by rw [UInt8.toNat_ofNat']; omega))
      have HB3 := Lib.hid (HBel.out.trans hb3)
      clear hown3 hb3 hgr3 hat3
      go_wp2
      go_roundg f'
      case measure => omega
      case rel => exact ⟨f', x / 128, m + 1, c3, A3, out ++ [UInt8.ofNat (x % 128 + 128)], by omega, by omega, by go_num, rfl, HX2.out, by omega, HO3.out, by omega, by omega, HQ2.out, HB3.out⟩
    · have HQ2 := Lib.hid (show out ++ [UInt8.ofNat x] = l ++ numB 5 v by
        have h := HQ.out
        have : numB f x = [UInt8.ofNat x] := by
          cases f with
          | zero => rfl
          | succ f => rw [numB, if_neg h128]
        rw [this] at h
        exact h)
      go_wp2_with (at_builtin; refine wpList_append_one rfl _ _ elemB rfl w.heap.size Ao m co (out.map u8v) wr (.int .u8 (x : Int)) rfl rfl HO.out rfl rfl ?d1 ?d2 ?d3 ?_)
      case d1 => omega
      case d2 => omega
      case d3 => exact HBel.out.size
      intro A3 c3 w3 hown3 hb3 hgr3 hat3
      have HO3 := Lib.hid (ownB_snoc (b := UInt8.ofNat x) hown3 (by rw [UInt8.toNat_ofNat']; omega))
      have HB3 := Lib.hid (HBel.out.trans hb3)
      clear hown3 hb3 hgr3 hat3
      go_wp2
      go_ret2
      exact ⟨A3, m + 1, c3, rfl, by rw [← HQ2.out]; exact HO3.out, HB3.out⟩

theorem refNum (A : Option Addr) (n c : Nat) (l : List UInt8) (v : Nat) (w : World) (hl : l.length = n) (hr : Bs w A l) (hn : n ≤ 1000000000000) (hv : v ≤ 4294967295) :
    Calls Tryz.prog 48 #[.slice A n c, .int .i64 (v : Int)] w fun e w' => ∃ A' m c', e = .returned (.slice A' m c') ∧ OwnB w' w.heap.size A' m c' (l ++ numB 5 v) ∧ Below w.heap.size w w' := by
  have HP := Lib.hid (refPutNum A n c l v w hl hr hn hv)
  clear hl hr
  go_enter Tryz.func48, Tryz.ntmps48
  go_wp2_with fail
  refine HP.out.mono ?_
  rintro e w1 ⟨A1, m1, c1, rfl, hown, hb⟩
  have HO := Lib.hid hown
  have HB := Lib.hid hb
  clear hown hb HP
  go_wp2
  go_ret
  exact ⟨A1, m1, c1, rfl, HO.out, HB.out⟩

theorem sumOf_step {d : List UInt8} {k : Nat} (hk : k < 4) : (sumOf d).take (k + 1) = (sumOf d).take k ++ [UInt8.ofNat (Pl.crcL d / 2 ^ (8 * k))] := by
  obtain rfl | rfl | rfl | rfl : k = 0 ∨ k = 1 ∨ k = 2 ∨ k = 3 := by omega
  · show [UInt8.ofNat (Pl.crcL d)] = [UInt8.ofNat (Pl.crcL d / 1)]
    rw [Nat.div_one]
  all_goals rfl

set_option maxHeartbeats 4000000 in
set_option maxRecDepth 10000 in
theorem refFramed (m : Nat) (A : Option Addr) (n c : Nat) (d : List UInt8) (A2 : Option Addr) (n2 c2 : Nat) (body : List UInt8) (w : World) (hm : m < 256) (hl : d.length = n) (hr : Bs w A d) (hn : n ≤ 65536) (hl2 : body.length = n2) (hr2 : Bs w A2 body) (hn2 : n2 ≤ 1000000000) :
    Calls Tryz.prog 22 #[.int .u8 (m : Int), .slice A n c, .slice A2 n2 c2] w fun e w' => ∃ S k cs, e = .returned (.slice S k cs) ∧ OwnB w' w.heap.size S k cs (UInt8.ofNat m :: numB 5 n ++ body ++ sumOf d) ∧ Below w.heap.size w w' := by
  have hba := (Below.refl w.heap.size w).alloc (Nat.le_refl _) (.cells #[.int .u8 (m : Int)] 5)
  have e : u8v (UInt8.ofNat m) = .int .u8 (m : Int) := by
    unfold u8v
    rw [UInt8.toNat_ofNat', Nat.mod_eq_of_lt hm]
  have hr6 : Bs (w.alloc (.cells #[.int .u8 (m : Int)] 5)) (some ⟨w.heap.size, 0, none⟩) [UInt8.ofNat m] := by
    unfold Bs
    rw [List.map_cons, List.map_nil, e]
    exact Rd.one w (.int .u8 (m : Int)) 5
  have HP := Lib.hid (refNum (some ⟨w.heap.size, 0, none⟩) 1 1 [UInt8.ofNat m] n _ rfl hr6 (by omega) (by omega))
  have HL := Lib.hid hl
  have HR := Lib.hid hr
  have HL2 := Lib.hid hl2
  have HR2 := Lib.hid hr2
  have HBa := Lib.hid hba
  clear hr6 e hba hl hr hl2 hr2
  go_enter Tryz.func22, Tryz.ntmps22
  go_wp2_with fail
  refine HP.out.mono ?_
  rintro e w1 ⟨A1, m1, c1, rfl, hown1, hb1⟩
  have hsz := HBa.out.size
  have hm1 := OwnB.length hown1
  have hnb := numB_len 5 n
  rw [List.length_append, List.length_singleton] at hm1
  have HO1 := Lib.hid (Own.mono hown1 hsz)
  have HB1 := Lib.hid (HBa.out.trans (hb1.mono hsz))
  clear hown1 hb1 HP
  go_wp2_with (at_builtin; refine wpList_append_rd rfl _ _ elemB rfl w.heap.size A1 m1 c1 (([UInt8.ofNat m] ++ numB 5 n).map u8v) rfl HO1.out A2 n2 c2 (body.map u8v) rfl ?a1 ?a2 (u8_one _) ?a3 ?a4 ?a5 ?_)
  case a1 => exact HR2.out.later HB1.out
  case a2 => rw [List.length_map]; exact HL2.out
  case a3 => omega
  case a4 => omega
  case a5 => exact HB1.out.size
  intro A3 c3 w3 hown3 hb3 hg3 hat3
  have HB3 := Lib.hid (HB1.out.trans hb3)
  have HO3 := Lib.hid (show OwnB w3 w.heap.size A3 (m1 + n2) c3 (UInt8.ofNat m :: numB 5 n ++ body ++ (sumOf d).take 0) from by
    unfold OwnB
    simp only [List.map_append, List.map_cons, List.cons_append, List.append_assoc, List.map_nil, List.nil_append, List.take_zero, List.append_nil] at hown3 ⊢; exact hown3)
  have HC := Lib.hid (refCrc A n c d w3 HL.out (HR.out.later HB3.out) (by omega))
  have hlt := Pl.crcL_lt d
  obtain ⟨s, hs⟩ : ∃ s, s = Pl.crcL d := ⟨_, rfl⟩
  rw [← hs] at HC hlt
  have HS := Lib.hid hs
  clear hown3 hb3 hg3 hat3 HO1 HB1 hs
  go_wp2_with fail
  refine HC.out.mono ?_
  rintro e w4 ⟨rfl, rfl⟩
  go_wp2_with fail
  go_loopg [7, 9] 4 (fun gg s7 s9 wr => ∃ (k q co : Nat) (Ao : Option Addr), k ≤ 4 ∧ 4 - k ≤ gg ∧ s7 = .slice Ao q co ∧ q = m1 + n2 + k ∧ s9 = .int .i64 (k : Int) ∧ OwnB wr w.heap.size Ao q co (UInt8.ofNat m :: numB 5 n ++ body ++ (sumOf d).take k) ∧ Below w.heap.size w wr)
  case atStart => exact ⟨0, m1 + n2, c3, A3, by omega, by omega, rfl, rfl, rfl, HO3.out, HB3.out⟩
  case round =>
    clear HO3 HB3
    obtain ⟨k, q, co, Ao, hk, hgg, rfl, hq, rfl, hown, hbel⟩ := hrel
    have HO := Lib.hid hown
    have HB := Lib.hid hbel
    clear hown hbel
    by_cases hk4 : k < 4
    · have HSt := Lib.hid (sumOf_step (d := d) hk4)
      have hqb : q ≤ 2000000000 := by omega
      have HQ := Lib.hid hq
      clear hq
      go_wp2_with (at_builtin; refine wpList_append_one rfl _ _ elemB rfl w.heap.size Ao q co ((UInt8.ofNat m :: numB 5 n ++ body ++ (sumOf d).take k).map u8v) wr (.int .u8 ((s : Int) / 2 ^ (8 * k) % 256)) rfl rfl HO.out rfl rfl ?d1 ?d2 ?d3 ?_)
      case d1 => omega
      case d2 => omega
      case d3 => exact HB.out.size
      intro A5 c5 w5 hown5 hb5 hg5 hat5
      have HO5 := Lib.hid (show OwnB w5 w.heap.size A5 (q + 1) c5 (UInt8.ofNat m :: numB 5 n ++ body ++ (sumOf d).take (k + 1)) from by
        rw [HSt.out, ← HS.out, ← List.append_assoc]
        exact ownB_snoc (b := UInt8.ofNat (s / 2 ^ (8 * k))) (by simp only [List.map_append, List.map_cons, List.cons_append, List.append_assoc, List.map_take] at hown5 ⊢; exact hown5) (by rw [UInt8.toNat_ofNat', div_pow_cast]; omega))
      have HB5 := Lib.hid (HB.out.trans hb5)
      clear hown5 hb5 hg5 hat5 HO HB
      go_wp2
      go_roundg (4 - (k + 1))
      case measure => omega
      case rel => exact ⟨k + 1, q + 1, c5, A5, by omega, by omega, rfl, by have := HQ.out; omega, by go_num, HO5.out, HB5.out⟩
    · obtain rfl : k = 4 := by omega
      go_wp2
      go_ret
      exact ⟨Ao, q, co, rfl, HO.out, HB.out⟩

set_option maxHeartbeats 4000000 in
set_option maxRecDepth 10000 in
/-- the form of nothing -/
theorem refPackNil (w : World) : Calls Tryz.prog 9 #[.slice none 0 0] w fun e w' => ∃ S k cs, e = .returned (.tuple #[.slice S k cs, .int .i64 0]) ∧ OwnB w' w.heap.size S k cs (0 :: numB 5 0 ++ [] ++ sumOf []) ∧ Below w.heap.size w w' := by
  have HF := Lib.hid (refFramed 0 none 0 0 [] none 0 0 [] w (by omega) rfl (Rd.nil _ _) (by omega) rfl (Rd.nil _ _) (by omega))
  go_enter Tryz.func9, Tryz.ntmps9
  go_wp2_with fail
  refine HF.out.mono ?_
  rintro e w1 ⟨S, k, cs, rfl, hown, hb⟩
  have HO := Lib.hid hown
  have HB := Lib.hid hb
  clear hown hb HF
  go_wp2
  go_ret2
  exact ⟨S, k, cs, rfl, HO.out, HB.out⟩
end Go.Proofs.YtkneigeejgblkaaGreat

/-
  Walk of the law PackTells.
-/
namespace Go.Proofs.YtkneigeejgblkaaGreat
open Go.RowKit

/-- a raw form is unpacked, or its sum tells -/
theorem unpack_raw {d s : List UInt8} (hd : d.length ≤ 65536) (hs : s.length = 4) : unpackL (0 :: numB 5 d.length ++ d ++ s) (d.length : Int) = if s = sumOf d then (0, d) else (6, []) := by
  have e : 0 :: numB 5 d.length ++ d ++ s = 0 :: (numB 5 d.length ++ (d ++ s)) := by simp
  rw [e]
  unfold unpackL
  rw [if_neg (by omega)]
  show (if 2 < (0 : UInt8).toNat then (5, []) else numL 0 (numB 5 d.length ++ (d ++ s)) (d.length : Int) (pkNum (numB 5 d.length ++ (d ++ s)) 4294967295)) = _
  rw [if_neg (by decide), pkNum_back (by omega) (by omega)]
  show (if (d.length : Int) < (d.length : Int) then (11, []) else endL 0 d.length (bodyL 0 d.length ((numB 5 d.length ++ (d ++ s)).drop (numB 5 d.length).length))) = _
  rw [if_neg (by omega), List.drop_left]
  unfold bodyL takeE
  rw [if_pos rfl, if_neg (by rw [List.length_append]; omega), List.take_left, List.drop_left, endL, if_neg]
  rintro (h | h | ⟨h, h'⟩)
  · exact h hs
  · exact h rfl
  · exact h' rfl

theorem Own.cut0 {w : World} {base : Nat} {e : TypeId} {A : Option Addr} {n c : Nat} {xs : List Value} (h : Own w base e A n c xs) : Own w base e A 0 c [] := by
  refine ⟨rfl, ?_⟩
  rcases h.2 with ⟨hv, h0⟩ | ⟨g, cap, cur, hv, hb, hg, hnc, hcm, hs, ht⟩
  · simp only [Value.slice.injEq] at hv
    obtain ⟨rfl, rfl, rfl⟩ := hv
    exact .inl ⟨rfl, rfl⟩
  · simp only [Value.slice.injEq] at hv
    obtain ⟨rfl, -, rfl⟩ := hv
    exact .inr ⟨g, c, cur, rfl, hb, hg, Nat.zero_le _, hcm, hs, by simp⟩

theorem u8_flip' : ∀ (y : Fin 256) (r : Fin 8), bits .xor .u8 (y.val : Int) (IntKind.u8.wrap (2 ^ r.val)) = ((y.val ^^^ 2 ^ r.val : Nat) : Int) := by decide +kernel
theorem u8_flip (y : UInt8) {r : Nat} (hr : r < 8) : bits .xor .u8 (y.toNat : Int) (IntKind.u8.wrap (2 ^ r)) = ((UInt8.ofNat (y.toNat ^^^ 2 ^ r)).toNat : Int) := by
  have hy := y.toNat_lt
  have h := u8_flip' ⟨y.toNat, hy⟩ ⟨r, hr⟩
  simp only at h
  have h2 : y.toNat ^^^ 2 ^ r < 2 ^ 8 := Nat.xor_lt_two_pow (by omega) (Nat.pow_lt_pow_right (by omega) hr)
  rw [h, UInt8.toNat_ofNat', Nat.mod_eq_of_lt h2]
theorem form_set {x : UInt8} {a b c : List UInt8} {q : Nat} (v : UInt8) (h : q < b.length) : (x :: a ++ b ++ c).set (a.length + 1 + q) v = x :: a ++ b.set q v ++ c := by
  rw [List.append_assoc, List.set_append_right _ _ (by rw [List.length_cons]; omega), List.length_cons, show a.length + 1 + q - (a.length + 1) = q by omega, List.set_append_left _ _ h, ← List.append_assoc]

set_option maxHeartbeats 8000000 in
set_option maxRecDepth 10000 in
theorem lawTells (A : Option Addr) (n0 c : Nat) (d0 : List UInt8) (at_ : Int) (mask : Nat) (w : World) (hl0 : d0.length = n0) (hr0 : Bs w A d0) (hc0 : n0 ≤ c) (hc2 : c ≤ 9223372036854775807)
    (hA : ∀ b, bk A = some b → b < w.heap.size) (ha1 : -9223372036854775808 ≤ at_) (ha2 : at_ ≤ 9223372036854775807) (hmask : mask < 4294967296) :
    Calls Tryz.prog 6 #[.slice A n0 c, .int .i64 at_, .int .u32 (mask : Int)] w fun e w' => e = .returned (.bool true) ∧ Below w.heap.size w w' := by
  have HL0 := Lib.hid hl0
  have HR0 := Lib.hid hr0
  have HA := Lib.hid hA
  clear hl0 hr0 hA
  go_enter Tryz.func6, Tryz.ntmps6
  go_upto_if 23 with fail
  go_cut [0] from 24 to 25 (fun s0 wx => ∃ (n : Nat) (d : List UInt8), s0 = .slice A n c ∧ d.length = n ∧ n ≤ 65536 ∧ Bs w A d ∧ n ≤ c ∧ wx = w)
  case first =>
    by_cases hbig : 65536 < n0
    · have g1 : decide ((65536 : Int) < (n0 : Int)) = true := decide_eq_true (by omega)
      go_wp2_with (with_reducible refine wpList_slice_hi ?g ?s ?h elemB ?ho A n0 c 65536 ?hs ?hh ?hk ?_; (case ho => exact rfl); (case g => exact rfl); (case hs => exact rfl); (case hh => exact rfl); (case hk => omega))
      go_meet
      case rel => exact ⟨65536, d0.take 65536, rfl, by rw [List.length_take, HL0.out]; omega, by omega, Bs.take _ HR0.out, by omega, rfl⟩
    · have g1 : decide ((65536 : Int) < (n0 : Int)) = false := decide_eq_false (by omega)
      go_wp2_with fail
      go_meet
      case rel => exact ⟨n0, d0, rfl, HL0.out, by omega, HR0.out, hc0, rfl⟩
  case rest =>
    obtain ⟨n, d, rfl, hl, hn, hr, hc, rfl⟩ := hcut
    clear HL0 HR0 hc0
    obtain ⟨w, hw⟩ : ∃ w, w = wc := ⟨_, rfl⟩
    subst hw
    have HL := Lib.hid hl
    have HR := Lib.hid hr
    clear hl hr
    have HN := Lib.hid (refPackNil w)
    go_wp2_with fail
    refine HN.out.mono ?_
    rintro e w1 ⟨S1, m1, c1, rfl, hown1, hb1⟩
    have hcap1 := (Own.cap hown1).1
    have HO1 := Lib.hid (Own.cut0 hown1)
    have HB1 := Lib.hid hb1
    clear hown1 hb1 HN
    go_wp2_with (first | (at_builtin; refine wpList_append_one rfl _ _ elemB rfl w.heap.size S1 0 c1 [] w1 (.int .u8 0) rfl rfl HO1.out rfl rfl ?d1 ?d2 ?d3 ?_) | (with_reducible refine wpList_slice_hi ?g ?s ?h elemB ?ho S1 m1 c1 0 ?hs ?hh ?hk ?_; (case ho => exact rfl); (case g => exact rfl); (case hs => exact rfl); (case hh => exact rfl); (case hk => omega)))
    case d1 => omega
    case d2 => omega
    case d3 => exact HB1.out.size
    intro A2 c2 w2 hown2 hb2 hg2 hat2
    have HO2 := Lib.hid (show OwnB w2 w.heap.size A2 1 c2 [0] from hown2)
    have HB2 := Lib.hid (HB1.out.trans hb2)
    have HPN := Lib.hid (refPutNum A2 1 c2 [0] n w2 rfl (OwnB.bs HO2.out) (by omega) (by omega))
    clear hown2 hb2 hg2 hat2 HO1 HB1
    go_wp2_with fail
    refine HPN.out.mono ?_
    rintro e w3 ⟨A3, m3, c3, rfl, hown3, hb3⟩
    have hm3 := OwnB.length hown3
    have hnb := numB_len 5 n
    rw [List.length_append, List.length_singleton] at hm3
    have hs2 := HB2.out.size
    have HO3 := Lib.hid (show OwnB w3 w.heap.size A3 m3 c3 (0 :: numB 5 n) from Own.mono hown3 hs2)
    have HB3 := Lib.hid (HB2.out.trans (hb3.mono hs2))
    clear hown3 hb3 HPN HO2 HB2
    go_wp2_with (at_builtin; refine wpList_append_rd rfl _ _ elemB rfl w.heap.size A3 m3 c3 ((0 :: numB 5 n).map u8v) rfl HO3.out A n c (d.map u8v) rfl ?a1 ?a2 (u8_one _) ?a3 ?a4 ?a5 ?_)
    case a1 => exact HR.out.later HB3.out
    case a2 => rw [List.length_map]; exact HL.out
    case a3 => omega
    case a4 => omega
    case a5 => exact HB3.out.size
    intro A4 c4 w4 hown4 hb4 hg4 hat4
    have HO4 := Lib.hid (show OwnB w4 w.heap.size A4 (m3 + n) c4 (0 :: numB 5 n ++ d) from by
      unfold OwnB
      simp only [List.map_append, List.map_cons, List.cons_append] at hown4 ⊢; exact hown4)
    have HB4 := Lib.hid (HB3.out.trans hb4)
    have hs4 := HB4.out.size
    have HP := Lib.hid (packPack A n c d w4 HL.out (HR.out.later HB4.out) hn hc hc2 (fun b hb => Nat.lt_of_lt_of_le (HA.out b hb) hs4))
    clear hown4 hb4 hg4 hat4 HO3 HB3
    go_wp2_with fail
    refine HP.out.mono ?_
    rintro e w5 ⟨S5, m5, c5, B, rfl, hown5, hbest, hb5⟩
    have hm5 := OwnB.length hown5
    rw [List.length_append, sumOf_len] at hm5
    have hcap5 := (Own.cap hown5).1
    have hb45 := hb5
    have HW5 := Lib.hid hown5
    have HO5 := Lib.hid (Own.later HO4.out hb5)
    have HB5 := Lib.hid (HB4.out.trans (hb5.mono hs4))
    have g4 : decide ((m5 : Int) < 4) = false := decide_eq_false (by omega)
    have hbl5 := best_len hbest (by rw [HL.out]; exact hn)
    rw [HL.out] at hbl5
    clear hown5 hbest hb5 hb45 HP HO4 HB4
    obtain ⟨k5, rfl⟩ : ∃ k, m5 = k + 4 := ⟨B.length, hm5.symm⟩
    have hk5 : B.length = k5 := by omega
    have hkb : k5 ≤ 70000 := by omega
    have HCut := Lib.hid (show Bs w5 (cutA S5 c5 k5) (sumOf d) from by
      have h := Bs.cut (c := c5) (n := k5) (OwnB.bs HW5.out) (by rw [List.length_append]; omega) (by rw [List.length_append, sumOf_len]; omega)
      rwa [← hk5, List.drop_left, hk5] at h)
    have HLB := Lib.hid hk5
    clear hk5 hm5 hbl5
    go_wp2_with (first | (at_builtin; refine wpList_append_rd rfl _ _ elemB rfl w.heap.size A4 (m3 + n) c4 ((0 :: numB 5 n ++ d).map u8v) rfl HO5.out (cutA S5 c5 k5) 4 (c5 - k5) ((sumOf d).map u8v) ?hx ?a1 ?a2 (u8_one _) ?a3 ?a4 ?a5 ?_) | (with_reducible refine wpList_slice_lo ?g ?s ?h elemB ?ho S5 (k5 + 4) c5 k5 ?hs ?hh ?hk ?_; (case ho => exact rfl); (case g => exact rfl); (case hs => simp [Act.eval]); (case hh => simp [Act.eval]); (case hk => omega)))

    case a1 => exact HCut.out
    case a2 => rw [List.length_map]; rfl
    case a3 => omega
    case a4 => omega
    case a5 => exact HB5.out.size
    intro A6 c6 w6 hown6 hb6 hg6 hat6
    have HO6 := Lib.hid (show OwnB w6 w.heap.size A6 (m3 + n + 4) c6 (0 :: numB 5 n ++ d ++ sumOf d) from by
      unfold OwnB
      simp only [List.map_append, List.map_cons, List.cons_append, List.append_assoc] at hown6 ⊢; exact hown6)
    have HB6 := Lib.hid (HB5.out.trans hb6)
    have hl6 := OwnB.length HO6.out
    obtain ⟨h0, h0', -⟩ | ⟨g6, rfl, hg61, hg62, hcap6, hcap62⟩ := Own.form HO6.out
    · exfalso; omega
    have HU6 := Lib.hid (packUnpack (some ⟨g6, 0, none⟩) (m3 + n + 4) c6 _ (n : Int) w6 hl6 (OwnB.bs HO6.out) (by omega) hcap6 hcap62 (fun h => by cases h) (fun b hb => by cases hb; exact hg62) (by omega) (by omega))
    have hur := unpack_raw (d := d) (s := sumOf d) (by rw [HL.out]; exact hn) (sumOf_len d)
    rw [if_pos rfl, HL.out] at hur
    rw [hur] at HU6
    have hs6 := HB6.out.size
    have HG6 := Lib.hid hg61
    clear hown6 hb6 hg6 hat6 HO5 HB5 HW5 HCut hg61 hg62 hur
    go_wp2_with fail
    refine HU6.out.mono ?_
    rintro e w7 ⟨hb7, A7, n7, c7, rfl, hnew7⟩
    have hn7 : n7 = n := hnew7.1.symm.trans HL.out
    subst hn7
    have HO7 := Lib.hid (Own.later HO6.out hb7)
    have HB7 := Lib.hid (HB6.out.trans (hb7.mono hs6))
    have hs7 := HB7.out.size
    have HSm := Lib.hid (sameAny A7 A n7 c7 n7 c d d w7 HL.out HL.out hnew7.2.1 (HR.out.later HB7.out) (by omega) (by omega))
    rw [beq_self_eq_true] at HSm
    clear hb7 hnew7 HU6 HO6 HB6
    go_wp2_with fail
    refine HSm.out.mono ?_
    rintro e w8 ⟨rfl, hb8⟩
    have HO8 := Lib.hid (Own.later HO7.out hb8)
    have HB8 := Lib.hid (HB7.out.trans (hb8.mono hs7))
    clear hb8 HSm HO7 HB7
    go_upto_if 83 with fail
    go_cut [1] from 82 to 86 (fun s1 wx => ∃ x : Nat, s1 = .int .i64 (x : Int) ∧ x ≤ 9223372036854775807 ∧ wx = w8)
    case first =>
      by_cases hneg : at_ < 0
      · have g5 : decide (at_ < 0) = true := decide_eq_true hneg
        obtain ⟨x, hx⟩ : ∃ x : Nat, (x : Int) = -(at_ + 1) := ⟨(-(at_ + 1)).toNat, by omega⟩
        go_wp2_with fail
        go_meet
        case rel => exact ⟨x, by rw [hx], by omega, rfl⟩
      · have g5 : decide (at_ < 0) = false := decide_eq_false hneg
        obtain ⟨x, hx⟩ : ∃ x : Nat, (x : Int) = at_ := ⟨at_.toNat, by omega⟩
        go_wp2_with fail
        go_meet
        case rel => exact ⟨x, by rw [hx], by omega, rfl⟩
    case rest =>
      obtain ⟨x, rfl, hx, hw8⟩ := hcut
      subst hw8
      obtain ⟨w8, hw8⟩ : ∃ w8, w8 = wc := ⟨_, rfl⟩
      subst hw8
      have i1 : (0 : Int) < 8 * (n7 : Int) + 1 := by omega
      go_wp2_with fail
      obtain ⟨a, ha'⟩ : ∃ a : Nat, a = x % (8 * n7 + 1) := ⟨_, rfl⟩
      have ha : (a : Int) = (x : Int) % (8 * (n7 : Int) + 1) := by rw [ha', Int.natCast_emod]; rfl
      have ha8 : a ≤ 8 * n7 := by have := Nat.mod_lt x (y := 8 * n7 + 1) (by omega); omega
      clear ha'
      rw [← ha]
      clear ha i1 hx
      have HO9 := Lib.hid (show OwnB w8 w.heap.size (some ⟨g6, 0, none⟩) (m3 + n7 + 4) c6 (0 :: numB 5 n7 ++ flips d a mask 0 ++ sumOf d) from HO8.out)
      clear HO8
      go_loopg [16, 17] 32 (fun gg s16 s17 wr => ∃ k : Nat, k ≤ 32 ∧ 32 - k ≤ gg ∧ s16 = .bool (chgd d a mask k) ∧ s17 = .int .i64 (k : Int) ∧ OwnB wr w.heap.size (some ⟨g6, 0, none⟩) (m3 + n7 + 4) c6 (0 :: numB 5 n7 ++ flips d a mask k ++ sumOf d) ∧ Below w.heap.size w wr)
      case atStart => exact ⟨0, by omega, by omega, rfl, rfl, HO9.out, HB8.out⟩
      case round =>
        clear HO9 HB8
        obtain ⟨k, hk, hgk, rfl, rfl, hown, hbel⟩ := hrel
        have HO := Lib.hid hown
        have HB := Lib.hid hbel
        clear hown hbel
        by_cases hk32 : k < 32
        · have hml : mask / 2 ^ k < 4294967296 := Nat.lt_of_le_of_lt (Nat.div_le_self _ _) hmask
          have hbit := u32_and1 hml
          rw [← div_pow_cast] at hbit
          by_cases hc1 : mask / 2 ^ k % 2 = 1
          · have hbit1 : bits .and .u32 ((mask : Int) / 2 ^ k) 1 = 1 := by rw [hbit, hc1]; rfl
            clear hbit
            by_cases hc2 : (a + k) / 8 < n7
            · go_wp2_with fail
              obtain ⟨i, hi⟩ : ∃ i, i = a + k := ⟨_, rfl⟩
              rw [show (a : Int) + (k : Int) = (i : Int) by omega]
              rw [← hi] at hc2
              obtain ⟨q, hq⟩ : ∃ q, q = i / 8 := ⟨_, rfl⟩
              obtain ⟨r, hr⟩ : ∃ r, r = i % 8 := ⟨_, rfl⟩
              have hr8 : r < 8 := by omega
              have hq8 : q < n7 := by omega
              obtain ⟨p, hp⟩ : ∃ p, p = m3 + q := ⟨_, rfl⟩
              obtain ⟨g', y', hg', -, -, hy, hcy, hfy⟩ := Own.at_ HO.out (k := p) (by omega)
              cases hg'
              have hcy' : wr.drew.cell? ⟨g6, p, none⟩ = some y' := hcy
              have hfy' : wr.drew.frozen? ⟨g6, p, none⟩ = false := hfy
              obtain ⟨y, hyl, hyv⟩ : ∃ y : UInt8, (flips d a mask k)[q]? = some y ∧ y' = .int .u8 (y.toNat : Int) := by
                have hlq : q < (flips d a mask k).length := by rw [flips_len, HL.out]; exact hq8
                refine ⟨(flips d a mask k)[q], List.getElem?_eq_getElem hlq, ?_⟩
                have hm : (0 :: numB 5 n7).length = m3 := by rw [List.length_cons]; omega
                rw [List.getElem?_map, List.append_assoc, List.getElem?_append_right (by rw [hm]; omega), hm, show p - m3 = q by omega, List.getElem?_append_left hlq, List.getElem?_eq_getElem hlq] at hy
                exact (Option.some.inj hy).symm
              subst hyv
              have ew1 : IntKind.i64.wrap ((i : Int) / 8) = (q : Int) := by
                rw [show (i : Int) / 8 = (q : Int) by omega]
                exact wrapi64_nat (by omega)
              have ew2 : IntKind.i64.wrap ((m3 : Int) + (q : Int)) = (p : Int) := by
                rw [show (m3 : Int) + (q : Int) = (p : Int) by omega]
                exact wrapi64_nat (by omega)
              have ew3 : (i : Int).tmod 8 = (r : Int) := by
                rw [Int.tmod_eq_emod_of_nonneg (by omega)]
                omega
              have j3 : (0 : Int) ≤ (r : Int) := by omega
              have j4 : (r : Int) < 64 := by omega
              have j1 : (0 : Int) ≤ (p : Int) := by omega
              have j2 : (p : Int) < (m3 : Int) + (n7 : Int) + 4 := by omega
              have HI := Lib.hid hi
              have HQ := Lib.hid hq
              have HRr := Lib.hid hr
              have HP := Lib.hid hp
              have HC2 := Lib.hid hc2
              have HYl := Lib.hid hyl
              clear hi hq hr hp hc2 hyl hy hcy hfy
              refine wp_region_still_tail 17 (by kernel_rfl) (by kernel_rfl) ?_
              simp only [List.take_succ_cons, List.take_zero, List.drop_succ_cons, List.drop_zero]
              repeat still_step
              refine wpStill_nil ?_
              change wpList _ _ _ _ _ wr.drew
              obtain ⟨v8, hv8⟩ : ∃ v8, v8 = UInt8.ofNat (y.toNat ^^^ 2 ^ r) := ⟨_, rfl⟩
              have e8 := u8_flip y hr8
              rw [← hv8] at e8
              rw [e8]
              have HF := Lib.hid (show flips d a mask (k + 1) = (flips d a mask k).set q v8 by
                have hlen := HL.out
                rw [flips, if_pos ⟨hc1, by rw [hlen, ← HI.out, ← HQ.out]; exact hq8⟩, flipB_set, ← HI.out, ← HQ.out, ← HRr.out, hv8]
                congr 3
                rw [List.getD, HYl.out]; rfl)
              have HCh := Lib.hid (show chgd d a mask (k + 1) = true by
                have hlen := HL.out
                rw [chgd, if_pos ⟨hc1, by rw [hlen, ← HI.out, ← HQ.out]; exact hq8⟩])
              have HO2 := Lib.hid (show OwnB (wr.setCell ⟨g6, p, none⟩ (.int .u8 (v8.toNat : Int))) w.heap.size (some ⟨g6, 0, none⟩) (m3 + n7 + 4) c6 (0 :: numB 5 n7 ++ flips d a mask (k + 1) ++ sumOf d) from by
                have h := (Own.stored HO.out p (u8v v8)).1
                rw [← List.map_set] at h
                have hpe : p = (numB 5 n7).length + 1 + q := by rw [HP.out]; omega
                rw [hpe, form_set v8 (by rw [flips_len, HL.out]; exact hq8), ← hpe] at h
                rw [HF.out]
                exact h)
              have HB2 := Lib.hid (HB.out.setCell (p := ⟨g6, p, none⟩) HG6.out (.int .u8 (v8.toNat : Int)))
              clear e8 hv8 HO HB HYl
              go_wp2
              go_roundg (32 - (k + 1))
              case measure => omega
              case rel => exact ⟨k + 1, by omega, by omega, by rw [HCh.out], by go_num, HO2.out, HB2.out.drew⟩
            · have g7 : decide (((a : Int) + (k : Int)) / 8 < (n7 : Int)) = false := decide_eq_false (by omega)
              have HF := Lib.hid (show flips d a mask (k + 1) = flips d a mask k by
                have hlen := HL.out
                rw [flips, if_neg (by rw [hlen]; exact fun h => hc2 h.2)])
              have HCh := Lib.hid (show chgd d a mask (k + 1) = chgd d a mask k by
                have hlen := HL.out
                rw [chgd, if_neg (by rw [hlen]; exact fun h => hc2 h.2)])
              go_wp2
              go_roundg (32 - (k + 1))
              case measure => omega
              case rel => exact ⟨k + 1, by omega, by omega, by rw [HCh.out], by go_num, by rw [HF.out]; exact HO.out, HB.out⟩
          · have hbit0 : bits .and .u32 ((mask : Int) / 2 ^ k) 1 = 0 := by rw [hbit, show mask / 2 ^ k % 2 = 0 by omega]; rfl
            clear hbit
            have HF := Lib.hid (show flips d a mask (k + 1) = flips d a mask k by
              rw [flips, if_neg (fun h => hc1 h.1)])
            have HCh := Lib.hid (show chgd d a mask (k + 1) = chgd d a mask k by
              rw [chgd, if_neg (fun h => hc1 h.1)])
            go_wp2
            go_roundg (32 - (k + 1))
            case measure => omega
            case rel => exact ⟨k + 1, by omega, by omega, by rw [HCh.out], by go_num, by rw [HF.out]; exact HO.out, HB.out⟩
        · obtain rfl : k = 32 := by omega
          have hfl := flips_len d a mask 32
          have hur := unpack_raw (d := flips d a mask 32) (s := sumOf d) (by rw [hfl, HL.out]; exact hn) (sumOf_len d)
          rw [hfl, HL.out] at hur
          have hlf := OwnB.length HO.out
          have hlt := (Own.lt HO.out (k := g6) rfl).2
          have HU := Lib.hid (packUnpack (some ⟨g6, 0, none⟩) (m3 + n7 + 4) c6 _ (n7 : Int) wr hlf (OwnB.bs HO.out) (by omega) hcap6 hcap62 (fun h => by cases h) (fun b hb => by cases hb; exact hlt) (by omega) (by omega))
          rw [hur] at HU
          have hsr := HB.out.size
          obtain ⟨R, hR⟩ : ∃ R, R = (if sumOf d = sumOf (flips d a mask 32) then ((0, flips d a mask 32) : Nat × List UInt8) else (6, [])) := ⟨_, rfl⟩
          rw [← hR] at HU
          have hE : (chgd d a mask 32 = true ∧ R.1 = 6) ∨ (chgd d a mask 32 = false ∧ R.1 = 0) := by
            cases hch : chgd d a mask 32 with
            | true => exact .inl ⟨rfl, by rw [hR, if_neg (fun e => flips_sum hch e.symm)]⟩
            | false => exact .inr ⟨rfl, by rw [hR, chgd_false hch, if_pos rfl]⟩
          clear hur hfl hlf hR
          go_wp2_with fail
          refine HU.out.mono ?_
          rintro e w9 ⟨hb9, A9, n9, c9, rfl, hnew9⟩
          have HB9 := Lib.hid (HB.out.trans (hb9.mono hsr))
          have HLv := Lib.hid (lives_any w9)
          have hs9 := HB9.out.size
          clear hb9 hnew9 HU HO HB
          obtain ⟨E, hEE⟩ : ∃ E, E = R.1 := ⟨_, rfl⟩
          rw [← hEE] at hE ⊢
          clear hEE
          obtain ⟨ch, hch⟩ : ∃ ch, ch = chgd d a mask 32 := ⟨_, rfl⟩
          rw [← hch] at hE ⊢
          clear hch
          rcases hE with ⟨rfl, rfl⟩ | ⟨rfl, rfl⟩
          all_goals
            go_wp2_with fail
            refine HLv.out.mono ?_
            rintro e w10 ⟨rfl, hb10⟩
            go_wp2
            go_ret
            exact ⟨rfl, HB9.out.trans (hb10.mono hs9)⟩
end Go.Proofs.YtkneigeejgblkaaGreat
