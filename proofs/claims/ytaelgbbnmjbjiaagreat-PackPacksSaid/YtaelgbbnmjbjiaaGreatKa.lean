/-
  Parts of the proofs, in the order in which they build: Core, Arith, B1, Own, B2, B3, B4, P1, H1, H2, Own2, H3, M1.
-/
import Derived.Test.YtaelgbbnmjbjiaaGreatRows
import Derived.WalkKit
import Derived.WalkLawsBesides
import Derived.WalkSpells
import Derived.Lib.Hide
import Derived.Outline
import Derived.BigQuiet
import Derived.Deep.QuietTactic
import Derived.Deep.LoopGhost
import Derived.Deep.DeepFit
import Derived.LoopTactic
import Derived.Maps.AppendAt
import Derived.Laws.AppendOwnNone
import Derived.Test.YtaelgbbnmjbjiaaGreatShelf0
import Derived.Deep.RegionLaw
import Derived.Deep.AppendLies
import Derived.Deep.RegionWith
import Derived.Deep.RegionHeld3
import Derived.Lib.AppendZerosOnto
import Derived.DeepKeys3
import Derived.Maps.OwnSet
set_option linter.unusedSimpArgs false
set_option linter.unusedVariables false
namespace Go.Proofs.YtaelgbbnmjbjiaaGreat
open Go.RowKit
def u8v (b : UInt8) : Value := .int .u8 (b.toNat : Int)
def natv (n : Nat) : Value := .int .i64 (n : Int)
theorem block_lt {w : World} {b o : Nat} {v : Value} (h : w.cell? ⟨b, o, none⟩ = some v) : b < w.heap.size := World.block_lt_of_cell? w _ h
def Rd (w : World) (A : Option Addr) (xs : List Value) : Prop :=
  0 < xs.length → ∃ b o, A = some ⟨b, o, none⟩ ∧ ∀ j, j < xs.length → w.cell? ⟨b, o + j, none⟩ = xs[j]?
theorem Rd.nil (w : World) (A : Option Addr) : Rd w A [] := fun h => absurd h (by simp)
theorem Rd.later {w w' : World} {A : Option Addr} {xs : List Value} (h : Rd w A xs) (hb : Below w.heap.size w w') : Rd w' A xs := fun h0 => by
  obtain ⟨b, o, e, hc⟩ := h h0
  refine ⟨b, o, e, fun j hj => ?_⟩
  have hx := hc j hj
  have hlt := block_lt (hx.trans (List.getElem?_eq_getElem hj))
  rw [hb.cell (by simpa using hlt)]
  exact hx
def Bs (w : World) (A : Option Addr) (l : List UInt8) : Prop := Rd w A (l.map u8v)
def Ns (w : World) (A : Option Addr) (l : List Nat) : Prop := Rd w A (l.map natv)
theorem Bs.later {w w' : World} {A : Option Addr} {l : List UInt8} (h : Bs w A l) (hb : Below w.heap.size w w') : Bs w' A l := Rd.later h hb
theorem Ns.later {w w' : World} {A : Option Addr} {l : List Nat} (h : Ns w A l) (hb : Below w.heap.size w w') : Ns w' A l := Rd.later h hb
theorem Bs.at_ {w : World} {A : Option Addr} {l : List UInt8} (h : Bs w A l) {k : Nat} (hk : k < l.length) :
    ∃ b o x, A = some ⟨b, o, none⟩ ∧ l[k]? = some x ∧ w.cell? ⟨b, o + k, none⟩ = some (.int .u8 (x.toNat : Int)) := by
  obtain ⟨b, o, e, hc⟩ := h (by simp; omega)
  refine ⟨b, o, l[k], e, List.getElem?_eq_getElem hk, ?_⟩
  rw [hc k (by simpa using hk), List.getElem?_map, List.getElem?_eq_getElem hk]; rfl
theorem Ns.at_ {w : World} {A : Option Addr} {l : List Nat} (h : Ns w A l) {k : Nat} (hk : k < l.length) :
    ∃ b o x, A = some ⟨b, o, none⟩ ∧ l[k]? = some x ∧ w.cell? ⟨b, o + k, none⟩ = some (.int .i64 (x : Int)) := by
  obtain ⟨b, o, e, hc⟩ := h (by simp; omega)
  refine ⟨b, o, l[k], e, List.getElem?_eq_getElem hk, ?_⟩
  rw [hc k (by simpa using hk), List.getElem?_map, List.getElem?_eq_getElem hk]; rfl
theorem below_drewN (w : World) : ∀ n, Below w.heap.size w (w.drewN n)
  | 0 => Below.refl _ _
  | n + 1 => (below_drewN w n).drew
theorem ret_int {k : IntKind} {a b : Int} (h : a = b) : Ending.returned (.int k a) = .returned (.int k b) := by rw [h]
theorem ret_bool {a b : Bool} (h : a = b) : Ending.returned (.bool a) = .returned (.bool b) := by rw [h]
end Go.Proofs.YtaelgbbnmjbjiaaGreat
namespace Go.Proofs.YtaelgbbnmjbjiaaGreat
open Go.RowKit
theorem wrap64_nat {n : Nat} (h : n < 9223372036854775808) : wrap64 (n : Int) = (n : Int) := IntWalk.wrap64_in _ ⟨by omega, by omega⟩
theorem wrapi64_nat {n : Nat} (h : n < 9223372036854775808) : IntKind.i64.wrap (n : Int) = (n : Int) := by
  rw [IntKind.wrap_i64]; omega
theorem wrapi64 {n : Int} (h0 : -9223372036854775808 ≤ n) (h : n ≤ 9223372036854775807) : IntKind.i64.wrap n = n := by
  rw [IntKind.wrap_i64]; omega
theorem ofInt64 {a : Nat} (ha : a < 18446744073709551616) : (BitVec.ofInt 64 (a : Int)).toNat = a := by
  rw [BitVec.ofInt_natCast, BitVec.toNat_ofNat]; omega
theorem i64_and_nat (a b : Nat) (ha : a < 9223372036854775808) (hb : b < 9223372036854775808) : bits .and .i64 (a : Int) (b : Int) = ((a &&& b : Nat) : Int) := by
  unfold bits
  show IntKind.i64.wrap ((BitVec.ofInt 64 (a : Int) &&& BitVec.ofInt 64 (b : Int)).toNat : Int) = _
  rw [BitVec.toNat_and, ofInt64 (by omega), ofInt64 (by omega)]
  have : a &&& b < 9223372036854775808 := Nat.lt_of_le_of_lt Nat.and_le_left ha
  exact wrapi64_nat this
theorem i64_or_nat (a b : Nat) (ha : a < 9223372036854775808) (hb : b < 9223372036854775808) : bits .or .i64 (a : Int) (b : Int) = ((a ||| b : Nat) : Int) := by
  unfold bits
  show IntKind.i64.wrap ((BitVec.ofInt 64 (a : Int) ||| BitVec.ofInt 64 (b : Int)).toNat : Int) = _
  rw [BitVec.toNat_or, ofInt64 (by omega), ofInt64 (by omega)]
  have : a ||| b < 9223372036854775808 := Nat.or_lt_two_pow (n := 63) ha hb
  exact wrapi64_nat this
theorem i64_xor_nat (a b : Nat) (ha : a < 9223372036854775808) (hb : b < 9223372036854775808) : bits .xor .i64 (a : Int) (b : Int) = ((a ^^^ b : Nat) : Int) := by
  unfold bits
  show IntKind.i64.wrap ((BitVec.ofInt 64 (a : Int) ^^^ BitVec.ofInt 64 (b : Int)).toNat : Int) = _
  rw [BitVec.toNat_xor, ofInt64 (by omega), ofInt64 (by omega)]
  have : a ^^^ b < 9223372036854775808 := Nat.xor_lt_two_pow (n := 63) ha hb
  exact wrapi64_nat this
theorem or_add {v i y : Nat} (hv : v < 2 ^ i) : v ||| (y * 2 ^ i) = v + y * 2 ^ i := by
  have h := Nat.two_pow_add_eq_or_of_lt hv y
  rw [Nat.or_comm, Nat.mul_comm, ← h]; omega
theorem i64_or_add {v i y : Nat} (hv : v < 2 ^ i) (h : v + y * 2 ^ i < 9223372036854775808) : bits .or .i64 (v : Int) ((y * 2 ^ i : Nat) : Int) = ((v + y * 2 ^ i : Nat) : Int) := by
  rw [i64_or_nat _ _ (by omega) (by omega), or_add hv]
theorem i64_and1 {a : Nat} (ha : a < 9223372036854775808) : bits .and .i64 (a : Int) 1 = ((a % 2 : Nat) : Int) := by
  rw [show (1 : Int) = ((1 : Nat) : Int) from rfl, i64_and_nat a 1 ha (by omega), Nat.and_one_is_mod]
theorem div_pow_cast (a k : Nat) : ((a : Int) / 2 ^ k) = ((a / 2 ^ k : Nat) : Int) := by simp
theorem div_pow_le (a k : Nat) : a / 2 ^ k ≤ a := Nat.div_le_self _ _
theorem or_shl {y x j : Nat} (hy : y < 2 ^ j) (h : y + x * 2 ^ j < 9223372036854775808) : bits .or .i64 (y : Int) (wrap64 ((x : Int) * 2 ^ j)) = ((y + x * 2 ^ j : Nat) : Int) := by
  rw [show ((x : Int) * 2 ^ j) = ((x * 2 ^ j : Nat) : Int) from by simp, wrap64_nat (by omega), i64_or_add hy h]
theorem int_eq {k : IntKind} {a b : Int} (h : a = b) : Value.int k a = Value.int k b := by rw [h]
end Go.Proofs.YtaelgbbnmjbjiaaGreat
namespace Go.Proofs.YtaelgbbnmjbjiaaGreat
open Go.RowKit
def bitAt (l : List UInt8) (i : Nat) : Nat := ((l.getD (i / 8) 0).toNat / 2 ^ (i % 8)) % 2
set_option maxHeartbeats 400000 in
theorem bit_any (A : Option Addr) (n c : Nat) (l : List UInt8) (i : Int) (w : World) (hl : l.length = n) (hr : Bs w A l) (h0 : 0 ≤ i) (hi : i < 8 * n) (hn : n ≤ 140737488351232) :
    Calls Tryz.prog 123 #[.slice A n c, .int .i64 i] w fun e w' => e = .returned (.int .i64 (bitAt l i.toNat : Nat)) ∧ w = w' := by
  obtain ⟨k, rfl⟩ := Int.eq_ofNat_of_zero_le h0
  rw [Int.toNat_natCast]
  have hk : k / 8 < n := by omega
  obtain ⟨b, o, x, rfl, hx, hc⟩ := hr.at_ (by rw [hl]; exact hk : k / 8 < l.length)
  have HX := Lib.hid hx
  clear hx hr hl
  go_enter Tryz.func123, Tryz.ntmps123
  go_wp2
  go_ret
  refine ⟨ret_int ?_, rfl⟩
  have hb := x.toNat_lt
  have hd := div_pow_le x.toNat (k % 8)
  rw [div_pow_cast, wrap64_nat (by omega), i64_and1 (by omega)]
  unfold bitAt
  rw [List.getD, HX.out]; rfl
theorem bitAt_lt (l : List UInt8) (i : Nat) : bitAt l i < 2 := Nat.mod_lt _ (by omega)
def numAt (l : List UInt8) (at_ : Nat) : Nat → Nat
  | 0 => 0
  | n + 1 => numAt l at_ n + bitAt l (at_ + n) * 2 ^ n
theorem numAt_lt (l : List UInt8) (a : Nat) : ∀ n, numAt l a n < 2 ^ n
  | 0 => by simp [numAt]
  | n + 1 => by
    have h1 := numAt_lt l a n
    have h2 := bitAt_lt l (a + n)
    rw [numAt, Nat.pow_succ]
    have : bitAt l (a + n) * 2 ^ n ≤ 1 * 2 ^ n := Nat.mul_le_mul_right _ (by omega)
    omega
theorem pow32 {n : Nat} (h : n ≤ 32) : 2 ^ n ≤ 4294967296 := (Nat.pow_le_pow_right (by omega) h : 2 ^ n ≤ 2 ^ 32)
set_option maxHeartbeats 400000 in
theorem number_any (A : Option Addr) (n c : Nat) (l : List UInt8) (a m : Int) (w : World) (hl : l.length = n) (hr : Bs w A l) (h0 : 0 ≤ a) (hm0 : 0 ≤ m) (hm : m ≤ 32) (hi : a + m ≤ 8 * n) (hn : n ≤ 140737488351232) :
    Calls Tryz.prog 115 #[.slice A n c, .int .i64 a, .int .i64 m] w fun e w' => e = .returned (.int .i64 (numAt l a.toNat m.toNat : Nat)) ∧ w = w' := by
  obtain ⟨p, rfl⟩ := Int.eq_ofNat_of_zero_le h0
  obtain ⟨k, rfl⟩ := Int.eq_ofNat_of_zero_le hm0
  rw [Int.toNat_natCast, Int.toNat_natCast]
  have HL := Lib.hid hl
  have HR := Lib.hid hr
  clear hl hr
  go_enter Tryz.func115, Tryz.ntmps115
  go_wp2_with fail
  go_loopg [7, 10] k (fun g s7 s10 wr => ∃ j : Nat, j ≤ k ∧ k - j ≤ g ∧ s7 = .int .i64 (numAt l p j : Nat) ∧ s10 = .int .i64 j ∧ w = wr)
  case atStart => exact ⟨0, Nat.zero_le _, by omega, rfl, rfl, rfl⟩
  case round =>
    obtain ⟨j, hj, hg, rfl, rfl, rfl⟩ := hrel
    by_cases hlt : j < k
    · have hb := bit_any A n c l ((p : Int) + j) w HL.out HR.out (by omega) (by omega) hn
      rw [show ((p : Int) + j).toNat = p + j from by omega] at hb
      have h1 := bitAt_lt l (p + j)
      have h2 := numAt_lt l p j
      have h3 : numAt l p (j + 1) = numAt l p j + bitAt l (p + j) * 2 ^ j := rfl
      have h4 := numAt_lt l p (j + 1)
      have h5 := pow32 (n := j) (by omega)
      have h6 := pow32 (n := j + 1) (by omega)
      generalize bitAt l (p + j) = x at *
      generalize numAt l p j = y at *
      have HB := Lib.hid hb
      have H3 := Lib.hid h3
      clear hb h3
      go_wp2_with fail
      refine HB.out.mono ?_
      rintro e w' ⟨rfl, rfl⟩
      go_wp2
      go_roundg (k - (j + 1))
      case measure => omega
      case rel => exact ⟨j + 1, by omega, by omega, int_eq (by rw [H3.out]; exact or_shl h2 (by rw [← H3.out]; omega)), by go_num, rfl⟩
    · obtain rfl : j = k := by omega
      have H := Lib.hid (rfl : numAt l p j = numAt l p j)
      go_wp2
      go_ret
      exact ⟨rfl, rfl⟩
def mayE (n left : Int) : Int := if n < 0 ∨ 32 < n then 1 else if left < n then 3 else 0
set_option maxHeartbeats 400000 in
theorem may_any (n left : Int) (w : World) : Calls Tryz.prog 114 #[.int .i64 n, .int .i64 left] w fun e w' => e = .returned (.int .i64 (mayE n left)) ∧ w = w' := by
  go_enter Tryz.func114, Tryz.ntmps114
  go_wp2
  · have h : n < 0 ∨ 32 < n := by assumption
    go_ret; exact ⟨ret_int (by unfold mayE; rw [if_pos h]), rfl⟩
  · have h1 : 0 ≤ n ∧ n ≤ 32 := by assumption
    have h2 : left < n := by assumption
    go_ret; exact ⟨ret_int (by unfold mayE; rw [if_neg (by omega), if_pos h2]), rfl⟩
  · have h1 : 0 ≤ n ∧ n ≤ 32 := by assumption
    have h2 : n ≤ left := by assumption
    go_ret; exact ⟨ret_int (by unfold mayE; rw [if_neg (by omega), if_neg (by omega)]), rfl⟩
  · have h : n < 0 := by assumption
    go_ret; exact ⟨ret_int (by unfold mayE; rw [if_pos (.inl h)]), rfl⟩
end Go.Proofs.YtaelgbbnmjbjiaaGreat
namespace Go.Proofs.YtaelgbbnmjbjiaaGreat
open Go.RowKit
def bk (A : Option Addr) : Option Nat := A.map (·.block)
def Own (w : World) (base : Nat) (e : TypeId) (A : Option Addr) (n c : Nat) (xs : List Value) : Prop := w.ownsRow base e 1 (.slice A n c) n xs
theorem ownBlock_eq (A : Option Addr) (n c : Nat) : Value.ownBlock (.slice A n c) = bk A := by cases A <;> rfl
theorem Own.length {w : World} {base : Nat} {e : TypeId} {A : Option Addr} {n c : Nat} {xs : List Value} (h : Own w base e A n c xs) : xs.length = n := by simpa using h.1
theorem Own.nil (w : World) (base : Nat) (e : TypeId) : Own w base e none 0 0 [] := World.ownsRow_nil w base e 1
theorem Own.form {w : World} {base : Nat} {e : TypeId} {A : Option Addr} {n c : Nat} {xs : List Value} (h : Own w base e A n c xs) :
    (A = none ∧ n = 0 ∧ c = 0 ∧ xs = []) ∨ ∃ g, A = some ⟨g, 0, none⟩ ∧ base ≤ g ∧ g < w.heap.size ∧ n ≤ c ∧ c ≤ 9223372036854775807 := by
  have hl := h.length
  rcases h.2 with ⟨hv, h0⟩ | ⟨g, cap, cur, hv, hb, hg, hnc, hcm, -⟩
  · simp only [Value.slice.injEq] at hv
    obtain ⟨rfl, rfl, rfl⟩ := hv
    exact .inl ⟨rfl, rfl, rfl, List.eq_nil_of_length_eq_zero hl⟩
  · simp only [Value.slice.injEq] at hv
    obtain ⟨rfl, -, rfl⟩ := hv
    unfold maxLen at hcm
    exact .inr ⟨g, rfl, hb, (Array.getElem?_eq_some_iff.1 hg).1, hnc, by omega⟩
theorem Own.cap {w : World} {base : Nat} {e : TypeId} {A : Option Addr} {n c : Nat} {xs : List Value} (h : Own w base e A n c xs) : n ≤ c ∧ c ≤ 9223372036854775807 := by
  rcases h.form with ⟨-, rfl, rfl, -⟩ | ⟨g, -, -, -, h1, h2⟩
  · exact ⟨by omega, by omega⟩
  · exact ⟨h1, h2⟩
theorem Own.lt {w : World} {base : Nat} {e : TypeId} {A : Option Addr} {n c : Nat} {xs : List Value} (h : Own w base e A n c xs) {k : Nat} (hk : bk A = some k) : base ≤ k ∧ k < w.heap.size := by
  rcases h.form with ⟨rfl, -⟩ | ⟨g, rfl, h1, h2, -⟩
  · cases hk
  · cases hk; exact ⟨h1, h2⟩
theorem Own.rd {w : World} {base : Nat} {e : TypeId} {A : Option Addr} {n c : Nat} {xs : List Value} (h : Own w base e A n c xs) : Rd w A xs := fun h0 => by
  have hl := h.length
  rcases h.form with ⟨-, -, -, rfl⟩ | ⟨g, rfl, -⟩
  · simp at h0
  · refine ⟨g, 0, rfl, fun j hj => ?_⟩
    rw [Nat.zero_add]
    exact World.ownsRow.cellAt h j (by omega)
theorem Own.at_ {w : World} {base : Nat} {e : TypeId} {A : Option Addr} {n c : Nat} {xs : List Value} (h : Own w base e A n c xs) {k : Nat} (hk : k < n) :
    ∃ g x, A = some ⟨g, 0, none⟩ ∧ base ≤ g ∧ g < w.heap.size ∧ xs[k]? = some x ∧ w.cell? ⟨g, k, none⟩ = some x ∧ w.frozen? ⟨g, k, none⟩ = false := by
  have hl := h.length
  rcases h.form with ⟨-, rfl, -⟩ | ⟨g, rfl, h1, h2, -⟩
  · omega
  · refine ⟨g, xs[k], rfl, h1, h2, List.getElem?_eq_getElem (by omega), ?_, World.ownsRow.frozenAt h k⟩
    rw [World.ownsRow.cellAt h k (by omega), List.getElem?_eq_getElem (by omega)]
theorem Own.kept {w w' : World} {row : Option Nat} {base : Nat} {e : TypeId} {A : Option Addr} {n c : Nat} {xs : List Value} (h : Own w base e A n c xs) (hg : w.grownBy w' row) (hne : bk A = none ∨ bk A ≠ row) :
    Own w' base e A n c xs := World.ownsRow.kept h hg (by rw [ownBlock_eq]; exact hne)
theorem grown_of_below {w w' : World} (h : Below w.heap.size w w') : w.grownBy w' none := ⟨h.os, h.tape, h.output, h.size, fun k hk _ => h.block k hk⟩
theorem Own.later {w w' : World} {base : Nat} {e : TypeId} {A : Option Addr} {n c : Nat} {xs : List Value} (h : Own w base e A n c xs) (hb : Below w.heap.size w w') : Own w' base e A n c xs := by
  refine h.kept (grown_of_below hb) ?_
  cases A <;> simp [bk]
theorem Own.mono {w : World} {base base' : Nat} {e : TypeId} {A : Option Addr} {n c : Nat} {xs : List Value} (h : Own w base e A n c xs) (hb : base' ≤ base) : Own w base' e A n c xs := by
  refine ⟨h.1, ?_⟩
  rcases h.2 with h2 | ⟨g, cap, cur, h1, h2, h3⟩
  · exact .inl h2
  · exact .inr ⟨g, cap, cur, h1, by omega, h3⟩
theorem Own.stored {w : World} {base g : Nat} {e : TypeId} {n c : Nat} {xs : List Value} (h : Own w base e (some ⟨g, 0, none⟩) n c xs) (j : Nat) (u : Value) :
    Own (w.setCell ⟨g, j, none⟩ u) base e (some ⟨g, 0, none⟩) n c (xs.set j u) ∧ w.grownBy (w.setCell ⟨g, j, none⟩ u) (some g) := World.ownsRow.stored h j u
theorem Own.setCell {w : World} {base : Nat} {e : TypeId} {A : Option Addr} {n c : Nat} {xs : List Value} (h : Own w base e A n c xs) {p : Addr} (hne : bk A ≠ some p.block) (u : Value) : Own (w.setCell p u) base e A n c xs := by
  refine h.kept (row := some p.block) ⟨rfl, rfl, rfl, by simp [World.setCell], fun k _ hk => Below.heap_setCell _ _ _ _ (fun e => hk (by rw [e]))⟩ (.inr hne)
theorem Own.drew {w : World} {base : Nat} {e : TypeId} {A : Option Addr} {n c : Nat} {xs : List Value} (h : Own w base e A n c xs) : Own w.drew base e A n c xs := h
theorem Own.alloc {w : World} {base : Nat} {e : TypeId} {A : Option Addr} {n c : Nat} {xs : List Value} (h : Own w base e A n c xs) (o : Obj) : Own (w.alloc o) base e A n c xs :=
  h.later ((Below.refl _ _).alloc (Nat.le_refl _) o)
theorem Rd.alloc {w : World} {A : Option Addr} {xs : List Value} (h : Rd w A xs) (o : Obj) : Rd (w.alloc o) A xs := h.later ((Below.refl _ _).alloc (Nat.le_refl _) o)
theorem Rd.one (w : World) (x : Value) (t : TypeId) : Rd (w.alloc (.cells #[x] t)) (some ⟨w.heap.size, 0, none⟩) [x] := fun _ => by
  refine ⟨w.heap.size, 0, rfl, fun j hj => ?_⟩
  obtain rfl : j = 0 := by simp at hj; omega
  rw [Nat.zero_add, World.cell?_alloc_at _ _ _ _ rfl]; rfl
structure Elem (P : Program) (t e : TypeId) (z : Value) (bytes : Nat) : Prop where
  ht : P.underlying t = some (.slice e)
  hi : (P.info? e).map (fun i => (i.zero, i.size, i.bytes)) = some (some z, 1, bytes)
  hz : z.cells.size = 1
  hc : z.cells = #[z]
theorem run_append_none {P : Program} (w : World) (base : Nat) (t ty e : TypeId) (i : TypeInfo) (ht : P.underlying t = some (.slice e)) (hi : P.info? e = some i)
    (v : Value) (n : Nat) (xs : List Value) (hown : w.ownsRow base e 1 v n xs) (c : Nat) : (Builtin.append_ #[t, t] ty #[v, .slice none 0 c]).run P w = .ok v w := by
  rcases hown.2 with ⟨rfl, rfl⟩ | ⟨g, cap, cur, rfl, _, _, hnc, _⟩
  · simp [Builtin.append_, run_underlying ht, sizeOf, typeInfo, hi, Builtin.lenOf, Builtin.firstCells]
  · simp [Builtin.append_, run_underlying ht, sizeOf, typeInfo, hi, Builtin.lenOf, Builtin.firstCells, hnc, storeCells]
theorem run_append_rd {P : Program} (w : World) {t e : TypeId} {z : Value} {bytes : Nat} (E : Elem P t e z bytes) (ty : TypeId) (base : Nat) (A : Option Addr) (n c : Nat) (xs : List Value) (hown : Own w base e A n c xs)
    (A2 : Option Addr) (m c2 : Nat) (news : List Value) (hr : Rd w A2 news) (hm : news.length = m) (h1 : ∀ u ∈ news, u.oneCell' = true) (hb : (n + m) * bytes ≤ 140737488355328) (h63 : n + m ≤ 9223372036854775807) (hbase : base ≤ w.heap.size) :
    ∃ A' c' w', (Builtin.append_ #[t, t] ty #[.slice A n c, .slice A2 m c2]).run P w = .ok (.slice A' (n + m) c') w' ∧ Own w' base e A' (n + m) c' (xs ++ news) ∧ w.grownBy w' (bk A) ∧ (bk A' = bk A ∨ bk A' = some w.heap.size) := by
  obtain ⟨i0, hi, hz0, hz1, hz2⟩ := info_parts E.hi
  rcases A2 with _ | ad
  · have h0 : news = [] := by
      rcases Nat.eq_zero_or_pos news.length with h | h
      · exact List.eq_nil_of_length_eq_zero h
      · obtain ⟨b, o, e, -⟩ := hr h; cases e
    subst h0
    obtain rfl : m = 0 := hm.symm
    refine ⟨A, c, w, run_append_none w base t ty e i0 E.ht hi _ n xs hown c2, by simpa using hown, ⟨rfl, rfl, rfl, Nat.le_refl _, fun _ _ _ => rfl⟩, .inl rfl⟩
  · have hcells : ∀ j u, news[j]? = some u → w.cell? (ad.add j) = some u := by
      intro j u hu
      have hj : j < news.length := by
        rcases Nat.lt_or_ge j news.length with h | h
        · exact h
        · rw [List.getElem?_eq_none h] at hu; cases hu
      obtain ⟨b, o, he, hc⟩ := hr (by omega)
      cases he
      have e : (⟨b, o, none⟩ : Addr).add j = ⟨b, o + j, none⟩ := by unfold Addr.add; split <;> simp_all
      rw [e, hc j hj, hu]
    obtain ⟨v', w', hrun, h2, h3, -, h5⟩ := run_append_own_at (P := P) w base t ty e i0 z 1 bytes E.ht hi hz0 hz1 hz2 E.hz (by omega) (.slice A n c) n xs hown ad m c2 news (by omega) hcells h1 (by unfold maxLen; omega) hb hbase
    have hform : ∃ A' c', v' = .slice A' (n + m) c' := by
      rcases h2.2 with ⟨rfl, h0⟩ | ⟨g, cap, cur, rfl, -⟩
      · exact ⟨none, 0, by rw [h0]⟩
      · exact ⟨_, cap, rfl⟩
    obtain ⟨A', c', rfl⟩ := hform
    rw [ownBlock_eq, ownBlock_eq] at h5
    rw [ownBlock_eq] at h3
    exact ⟨A', c', w', hrun, h2, h3, h5⟩
theorem wpList_append_rd {P : Program} {w : World} {ops : Array Oper} {rest : List Oper} {o : Oper} {a : Act} {Q : Exit → Act → World → Prop} (hgd : o.guard = none) (s x : Operand) {t e : TypeId} {z : Value} {bytes : Nat} (E : Elem P t e z bytes)
    (ho : o.op = .call { callee := .builtin .append, args := #[s, x], argTypes := #[t, t] })
    (base : Nat) (A : Option Addr) (n c : Nat) (xs : List Value) (hs : a.eval s = .slice A n c) (hown : Own w base e A n c xs)
    (A2 : Option Addr) (m c2 : Nat) (news : List Value) (hx : a.eval x = .slice A2 m c2) (hr : Rd w A2 news) (hm : news.length = m) (h1 : ∀ u ∈ news, u.oneCell' = true) (hb : (n + m) * bytes ≤ 140737488355328) (h63 : n + m ≤ 9223372036854775807) (hbase : base ≤ w.heap.size)
    (h : ∀ A' c' w', Own w' base e A' (n + m) c' (xs ++ news) → Below base w w' → w.grownBy w' (bk A) → (bk A' = bk A ∨ bk A' = some w.heap.size) → wpList P ops Q rest (a.put o.dst (.slice A' (n + m) c')) w') : wpList P ops Q (o :: rest) a w := by
  refine wpList_plain hgd fun K hK => ?_
  obtain ⟨A', c', w', hrun, h2, h3, h4⟩ := run_append_rd w E o.type base A n c xs hown A2 m c2 news hr hm h1 hb h63 hbase
  unfold Oper.wp execOp
  simp only [ho, resolve, invoke, builtin, Sem.run_bind, Sem.run_pure, Result.andThen_ok, List.map_toArray, List.map_cons, List.map_nil, hs, hx, hrun]
  exact hK _ _ (h A' c' w' h2 ((Below.refl _ _).grown h3 hbase (fun k hk => (hown.lt hk).1)) h3 h4)
theorem step_append_rd {P : Program} {w : World} {ops : Array Oper} {o : Oper} {a : Act} {K : Act → World → Prop} {Q : Exit → Act → World → Prop} {E' : Prop} (hgd : o.guard = none) (s x : Operand) {t e : TypeId} {z : Value} {bytes : Nat} (E : Elem P t e z bytes)
    (ho : o.op = .call { callee := .builtin .append, args := #[s, x], argTypes := #[t, t] })
    (base : Nat) (A : Option Addr) (n c : Nat) (xs : List Value) (hs : a.eval s = .slice A n c) (hown : Own w base e A n c xs)
    (A2 : Option Addr) (m c2 : Nat) (news : List Value) (hx : a.eval x = .slice A2 m c2) (hr : Rd w A2 news) (hm : news.length = m) (h1 : ∀ u ∈ news, u.oneCell' = true) (hb : (n + m) * bytes ≤ 140737488355328) (h63 : n + m ≤ 9223372036854775807) (hbase : base ≤ w.heap.size)
    (h : ∀ A' c' w', Own w' base e A' (n + m) c' (xs ++ news) → Below base w w' → w.grownBy w' (bk A) → (bk A' = bk A ∨ bk A' = some w.heap.size) → K (a.put o.dst (.slice A' (n + m) c')) w') :
    if Region.wanted o (yielded ops a.tmps) = true then Oper.wp P o a w K Q else E' := by
  have hw : Region.wanted o (yielded ops a.tmps) = true := by simp [Region.wanted, hgd]
  rw [if_pos hw]
  obtain ⟨A', c', w', hrun, h2, h3, h4⟩ := run_append_rd w E o.type base A n c xs hown A2 m c2 news hr hm h1 hb h63 hbase
  unfold Oper.wp execOp
  simp only [ho, resolve, invoke, builtin, Sem.run_bind, Sem.run_pure, Result.andThen_ok, List.map_toArray, List.map_cons, List.map_nil, hs, hx, hrun]
  exact h A' c' w' h2 ((Below.refl _ _).grown h3 hbase (fun k hk => (hown.lt hk).1)) h3 h4
theorem wpList_append_one {P : Program} {w : World} {ops : Array Oper} {rest : List Oper} {o : Oper} {a : Act} {Q : Exit → Act → World → Prop} (hgd : o.guard = none) (s x : Operand) {t e : TypeId} {z : Value} {bytes : Nat} (E : Elem P t e z bytes)
    (ho : o.op = .call { callee := .builtin .append, args := #[s, x], argTypes := #[t, t] })
    (base : Nat) (A : Option Addr) (n c : Nat) (xs : List Value) (w0 : World) (u : Value) (hw : w = w0.alloc (.cells #[u] e)) (hs : a.eval s = .slice A n c) (hown : Own w0 base e A n c xs)
    (hx : a.eval x = .slice (some ⟨w0.heap.size, 0, none⟩) 1 1) (h1 : u.oneCell' = true) (hb : (n + 1) * bytes ≤ 140737488355328) (h63 : n + 1 ≤ 9223372036854775807) (hbase : base ≤ w0.heap.size)
    (h : ∀ A' c' w', Own w' base e A' (n + 1) c' (xs ++ [u]) → Below base w0 w' → w0.grownBy w' (bk A) → (bk A' = bk A ∨ w0.heap.size ≤ (bk A').getD 0) → wpList P ops Q rest (a.put o.dst (.slice A' (n + 1) c')) w') : wpList P ops Q (o :: rest) a w := by
  subst hw
  have hg0 : w0.grownBy (w0.alloc (.cells #[u] e)) none := World.grownBy_alloc w0 _ none
  refine wpList_append_rd hgd s x E ho base A n c xs hs (hown.alloc _) _ 1 1 [u] hx (Rd.one w0 u e) rfl (fun v hv => by simp at hv; subst hv; exact h1) hb h63 (by simp; omega) (fun A' c' w' h2 h3 h4 h5 => ?_)
  refine h A' c' w' h2 (((Below.refl _ _).alloc hbase _).trans h3) ?_ ?_
  · exact ⟨h4.os, h4.tape, h4.output, Nat.le_trans hg0.size h4.size, fun k hk hne => (h4.block k (by simp; omega) hne).trans (hg0.block k hk (by simp))⟩
  · rcases h5 with h5 | h5
    · exact .inl h5
    · refine .inr ?_
      rw [h5]; simp
theorem elemB : Elem Tryz.prog 22 5 (.int .u8 0) 1 := ⟨Tryz.underlying22, by kernel_rfl, rfl, rfl⟩
theorem elemN : Elem Tryz.prog 45 3 (.int .i64 0) 8 := ⟨Tryz.underlying45, by kernel_rfl, rfl, rfl⟩
def OwnB (w : World) (base : Nat) (A : Option Addr) (n c : Nat) (l : List UInt8) : Prop := Own w base 5 A n c (l.map u8v)
def OwnN (w : World) (base : Nat) (A : Option Addr) (n c : Nat) (l : List Nat) : Prop := Own w base 3 A n c (l.map natv)
theorem u8_one (l : List UInt8) : ∀ u ∈ l.map u8v, u.oneCell' = true := by
  intro u hu
  obtain ⟨x, -, rfl⟩ := List.mem_map.1 hu
  rfl
theorem nat_one (l : List Nat) : ∀ u ∈ l.map natv, u.oneCell' = true := by
  intro u hu
  obtain ⟨x, -, rfl⟩ := List.mem_map.1 hu
  rfl
theorem OwnB.length {w : World} {base n c : Nat} {A : Option Addr} {l : List UInt8} (h : OwnB w base A n c l) : l.length = n := by simpa using Own.length h
theorem OwnN.length {w : World} {base n c : Nat} {A : Option Addr} {l : List Nat} (h : OwnN w base A n c l) : l.length = n := by simpa using Own.length h
theorem OwnB.bs {w : World} {base n c : Nat} {A : Option Addr} {l : List UInt8} (h : OwnB w base A n c l) : Bs w A l := Own.rd h
theorem OwnN.ns {w : World} {base n c : Nat} {A : Option Addr} {l : List Nat} (h : OwnN w base A n c l) : Ns w A l := Own.rd h
theorem OwnB.nil (w : World) (base : Nat) : OwnB w base none 0 0 [] := Own.nil w base _
theorem OwnN.nil (w : World) (base : Nat) : OwnN w base none 0 0 [] := Own.nil w base _
def Blk (w : World) (g : Nat) (t : TypeId) (cs : Array Value) : Prop := w.heap[g]? = some (.cells cs t (0, 0))
theorem Blk.lt {w : World} {g : Nat} {t : TypeId} {cs : Array Value} (h : Blk w g t cs) : g < w.heap.size := (Array.getElem?_eq_some_iff.1 h).1
theorem Blk.cell {w : World} {g : Nat} {t : TypeId} {cs : Array Value} (h : Blk w g t cs) (i : Nat) : w.cell? ⟨g, i, none⟩ = cs[i]? := cell_of_row w g i cs t (0, 0) h
theorem Blk.frozen {w : World} {g : Nat} {t : TypeId} {cs : Array Value} (h : Blk w g t cs) (i : Nat) : w.frozen? ⟨g, i, none⟩ = false := frozen_of_row w g i cs t h
theorem Blk.new (w : World) (t : TypeId) (cs : Array Value) : Blk (w.alloc (.cells cs t)) w.heap.size t cs := heap_alloc_new w _
theorem Blk.kept {w w' : World} {row : Option Nat} {g : Nat} {t : TypeId} {cs : Array Value} (h : Blk w g t cs) (hg : w.grownBy w' row) (hne : row ≠ some g) : Blk w' g t cs := (hg.block g h.lt (fun e => hne e.symm)).trans h
theorem Blk.later {w w' : World} {g : Nat} {t : TypeId} {cs : Array Value} (h : Blk w g t cs) (hb : Below w.heap.size w w') : Blk w' g t cs := (hb.block g h.lt).trans h
theorem Blk.set {w : World} {g : Nat} {t : TypeId} {cs : Array Value} (h : Blk w g t cs) (i : Nat) (u : Value) : Blk (w.setCell ⟨g, i, none⟩ u) g t (cs.setIfInBounds i u) := heap_setCell_same w g i cs t u h
theorem grown_set (w : World) (p : Addr) (u : Value) : w.grownBy (w.setCell p u) (some p.block) :=
  ⟨rfl, rfl, rfl, by simp [World.setCell], fun k _ hk => Below.heap_setCell _ _ _ _ (fun e => hk (by rw [e]))⟩
theorem grown_refl (w : World) (row : Option Nat) : w.grownBy w row := ⟨rfl, rfl, rfl, Nat.le_refl _, fun _ _ _ => rfl⟩
theorem grown_trans {a b c : World} {row : Option Nat} (h : a.grownBy b row) (k : b.grownBy c row) : a.grownBy c row :=
  ⟨k.os.trans h.os, k.tape.trans h.tape, k.output.trans h.output, Nat.le_trans h.size k.size, fun i hi hne => (k.block i (Nat.lt_of_lt_of_le hi h.size) hne).trans (h.block i hi hne)⟩
theorem grown_below {w w' : World} {row : Option Nat} (h : Below w.heap.size w w') : w.grownBy w' row := ⟨h.os, h.tape, h.output, h.size, fun k hk _ => h.block k hk⟩
theorem grown_drew {a b : World} {row : Option Nat} (h : a.grownBy b row) : a.grownBy b.drew row := ⟨h.os, h.tape, h.output, h.size, h.block⟩
theorem below_grown {B : Nat} {w w' : World} {row : Option Nat} (h : w.grownBy w' row) (hB : B ≤ w.heap.size) (hr : ∀ k, row = some k → B ≤ k) : Below B w w' := (Below.refl _ _).grown h hB hr
theorem Rd.kept {w w' : World} {row : Option Nat} {A : Option Addr} {xs : List Value} (h : Rd w A xs) (hg : w.grownBy w' row) (hne : ∀ b o, A = some ⟨b, o, none⟩ → row ≠ some b) : Rd w' A xs := fun h0 => by
  obtain ⟨b, o, e, hc⟩ := h h0
  refine ⟨b, o, e, fun j hj => ?_⟩
  have hx := hc j hj
  have hlt := block_lt (hx.trans (List.getElem?_eq_getElem hj))
  rw [← hx]
  exact World.cell?_of_block (hg.block b hlt (fun e' => hne b o e e'.symm))
theorem Own.ne_blk {w : World} {base n c g : Nat} {e t : TypeId} {A : Option Addr} {xs : List Value} {cs : Array Value} (h : Own w base e A n c xs) (hg : Blk w g t cs) (hne : e ≠ t) : bk A ≠ some g := by
  rcases h.2 with ⟨hv, _⟩ | ⟨g', cap, cur, hv, _, hh, _⟩
  · simp only [Value.slice.injEq] at hv
    rw [hv.1]; simp [bk]
  · simp only [Value.slice.injEq] at hv
    rw [hv.1]
    intro he
    have : g' = g := by simpa [bk] using he
    subst this
    unfold Blk at hg
    rw [hh] at hg
    injection hg with hg
    injection hg with _ ht
    exact hne ht
theorem Own.ne_own {w : World} {base n c base' n' c' : Nat} {e e' : TypeId} {A A' : Option Addr} {xs xs' : List Value} (h : Own w base e A n c xs) (h' : Own w base' e' A' n' c' xs') (hne : e ≠ e') : bk A = none ∨ bk A ≠ bk A' := by
  rcases h'.2 with ⟨hv, _⟩ | ⟨g', cap, cur, hv, _, hh, _⟩
  · simp only [Value.slice.injEq] at hv
    rw [hv.1]
    cases A
    · exact .inl rfl
    · exact .inr (by simp [bk])
  · simp only [Value.slice.injEq] at hv
    rw [hv.1]
    exact .inr (h.ne_blk (g := g') (t := e') (cs := cur) hh hne)
theorem Blk.ne {w : World} {g g' : Nat} {t t' : TypeId} {cs cs' : Array Value} (h : Blk w g t cs) (h' : Blk w g' t' cs') (hne : t ≠ t') : g ≠ g' := by
  rintro rfl
  unfold Blk at h h'
  rw [h] at h'
  injection h' with h'
  injection h' with _ ht
  exact hne ht
theorem Rd.keptB {w w' : World} {row : Option Nat} {A : Option Addr} {xs : List Value} (h : Rd w A xs) (hg : w.grownBy w' row) (hne : bk A = none ∨ bk A ≠ row) : Rd w' A xs := by
  refine h.kept hg (fun b o e => ?_)
  subst e
  rcases hne with hne | hne
  · cases hne
  · exact fun e => hne (by rw [e]; rfl)
end Go.Proofs.YtaelgbbnmjbjiaaGreat
namespace Go.Proofs.YtaelgbbnmjbjiaaGreat
open Go.RowKit
structure IsRow (w : World) (t g : Nat) (l : List UInt8) (a : Nat) (A : Option Addr) (c : Nat) : Prop where
  blk : Blk w g t #[.slice A l.length c, .int .i64 (a : Int)]
  own : OwnB w 0 A l.length c l
  ht : 5 ≠ t
theorem IsRow.data {w : World} {t g a c : Nat} {l : List UInt8} {A : Option Addr} (h : IsRow w t g l a A c) : Bs w A l := h.own.bs
theorem IsRow.ne {w : World} {t g a c : Nat} {l : List UInt8} {A : Option Addr} (h : IsRow w t g l a A c) : bk A ≠ some g := Own.ne_blk h.own h.blk h.ht
theorem IsRow.later {w w' : World} {t g a c : Nat} {l : List UInt8} {A : Option Addr} (h : IsRow w t g l a A c) (hb : Below w.heap.size w w') : IsRow w' t g l a A c :=
  ⟨h.blk.later hb, Own.later h.own hb, h.ht⟩
theorem IsRow.kept {w w' : World} {row : Option Nat} {t g a c : Nat} {l : List UInt8} {A : Option Addr} (h : IsRow w t g l a A c) (hg : w.grownBy w' row) (h1 : row ≠ some g) (h2 : bk A = none ∨ bk A ≠ row) : IsRow w' t g l a A c :=
  ⟨h.blk.kept hg h1, Own.kept h.own hg h2, h.ht⟩
theorem IsRow.set {w : World} {t g a c : Nat} {l : List UInt8} {A : Option Addr} (h : IsRow w t g l a A c) (a' : Nat) : IsRow (w.setCell ⟨g, 1, none⟩ (.int .i64 (a' : Int))) t g l a' A c :=
  ⟨h.blk.set 1 _, Own.kept h.own (grown_set w ⟨g, 1, none⟩ _) (.inr h.ne), h.ht⟩
set_option maxHeartbeats 400000 in
theorem reader_left (g a c : Nat) (l : List UInt8) (A : Option Addr) (w : World) (h : IsRow w 156 g l a A c) (hl : l.length ≤ 140737488351232) (ha : a ≤ 8 * l.length) :
    Calls Tryz.prog 96 #[.pointer (some ⟨g, 0, none⟩)] w fun e w' => e = .returned (.int .i64 (8 * l.length - a : Nat)) ∧ ∃ q, w' = w.drewN q := by
  have c0 := h.blk.cell 0
  have c1 := h.blk.cell 1
  simp only [List.getElem?_toArray, List.getElem?_cons_zero, List.getElem?_cons_succ] at c0 c1
  generalize l.length = n at *
  clear h
  go_enter Tryz.func96, Tryz.ntmps96
  go_wp2
  go_quiet (fail)
  go_wp2
  go_ret
  exact ⟨ret_int (by omega), _, rfl⟩
def takeV (l : List UInt8) (a : Nat) (n : Int) : Value :=
  if mayE n ((8 * l.length - a : Nat) : Int) = 0 then .tuple #[.int .i64 (numAt l a n.toNat : Nat), .int .i64 0] else .tuple #[.int .i64 0, .int .i64 (mayE n ((8 * l.length - a : Nat) : Int))]
def takeA (l : List UInt8) (a : Nat) (n : Int) : Nat := if mayE n ((8 * l.length - a : Nat) : Int) = 0 then a + n.toNat else a
theorem mayE_zero {n left : Int} (h : mayE n left = 0) : 0 ≤ n ∧ n ≤ 32 ∧ n ≤ left := by
  unfold mayE at h
  split at h
  · cases h
  · split at h
    · cases h
    · omega
set_option maxHeartbeats 1000000 in
theorem reader_take (g a c : Nat) (l : List UInt8) (A : Option Addr) (n : Int) (w : World) (h : IsRow w 156 g l a A c) (hl : l.length ≤ 140737488351232) (ha : a ≤ 8 * l.length) (hn0 : -1000000 ≤ n) (hn1 : n ≤ 1000000) :
    Calls Tryz.prog 95 #[.pointer (some ⟨g, 0, none⟩), .int .i64 n] w fun e w' => e = .returned (takeV l a n) ∧ IsRow w' 156 g l (takeA l a n) A c ∧ w.grownBy w' (some g) := by
  have HL := Lib.hid (reader_left g a c l A w h hl ha)
  have HM := Lib.hid (fun w1 => may_any n ((8 * l.length - a : Nat) : Int) w1)
  by_cases hm : mayE n ((8 * l.length - a : Nat) : Int) = 0
  · obtain ⟨h1, h2, h3⟩ := mayE_zero hm
    have hv : takeV l a n = .tuple #[.int .i64 (numAt l a n.toNat : Nat), .int .i64 0] := by unfold takeV; rw [if_pos hm]
    have hA : takeA l a n = a + n.toNat := by unfold takeA; rw [if_pos hm]
    rw [hm] at HM
    rw [hv, hA]
    obtain ⟨k, rfl⟩ := Int.eq_ofNat_of_zero_le h1
    rw [Int.toNat_natCast]
    clear hm hv hA
    go_enter Tryz.func95, Tryz.ntmps95
    go_wp2_with fail
    refine HL.out.mono ?_
    rintro e w1 ⟨rfl, q, rfl⟩
    go_wp2_with fail
    refine (HM.out _).mono ?_
    rintro e w2 ⟨rfl, rfl⟩
    have h' : IsRow ((w.drewN q).setCell ⟨g, 1, none⟩ (.int .i64 ((a + k : Nat) : Int))) 156 g l (a + k) A c := IsRow.set (w := w.drewN q) (h.later (below_drewN w q)) (a + k)
    have c0 := h.blk.cell 0
    have c1 := h.blk.cell 1
    simp only [List.getElem?_toArray, List.getElem?_cons_zero, List.getElem?_cons_succ] at c0 c1
    have f1 := h.blk.frozen 1
    have HN := Lib.hid (fun m => (number_any A l.length c l (a : Int) (k : Int) (((w.drewN q).setCell ⟨g, 1, none⟩ (.int .i64 ((a + k : Nat) : Int))).drewN m) rfl (Bs.later h'.data (below_drewN _ m)) (by omega) (by omega) h2 (by omega) hl).mono fun _ _ ⟨h1, h2⟩ => (⟨h1, h2.symm⟩ : _ ∧ _))
    rw [Int.toNat_natCast, Int.toNat_natCast] at HN
    have HG : (w.grownBy ((w.drewN q).setCell ⟨g, 1, none⟩ (.int .i64 ((a + k : Nat) : Int))) (some g)) := grown_trans (grown_below (below_drewN w q)) (grown_set _ ⟨g, 1, none⟩ _)
    have HG' := Lib.hid HG
    have HH := Lib.hid h'
    clear HG h' h
    generalize hx : numAt l a k = x at *
    have HX := Lib.hid hx
    clear hx
    generalize l.length = n at *
    rw [show ((a + k : Nat) : Int) = (a : Int) + k from by omega] at *
    go_wp2_with fail
    go_quiet ((go_at_call 115; exact Calls.quiet_of_same (HN.out _)))
    go_wp2
    go_ret2
    exact ⟨by rw [HX.out]; rfl, HH.out.later (below_drewN _ _), grown_trans HG'.out (grown_below (below_drewN _ _))⟩
  · have hv : takeV l a n = .tuple #[.int .i64 0, .int .i64 (mayE n ((8 * l.length - a : Nat) : Int))] := by unfold takeV; rw [if_neg hm]
    have hA : takeA l a n = a := by unfold takeA; rw [if_neg hm]
    rw [hv, hA]
    generalize mayE n ((8 * l.length - a : Nat) : Int) = e0 at *
    have hm' : (e0 == 0) = false := beq_eq_false_iff_ne.2 hm
    have H := Lib.hid h
    clear hm hv hA h
    go_enter Tryz.func95, Tryz.ntmps95
    go_wp2_with fail
    refine HL.out.mono ?_
    rintro e w1 ⟨rfl, q, rfl⟩
    go_wp2_with fail
    refine (HM.out _).mono ?_
    rintro e w2 ⟨rfl, rfl⟩
    go_wp2
    go_ret2
    exact ⟨rfl, H.out.later (below_drewN _ _), grown_below (below_drewN _ _)⟩
end Go.Proofs.YtaelgbbnmjbjiaaGreat
namespace Go.Proofs.YtaelgbbnmjbjiaaGreat
open Go.RowKit
theorem newRow {w w1 : World} {t n c : Nat} {A : Option Addr} {l : List UInt8} (h : OwnB w1 w.heap.size A n c l) (a : Nat) (cs : Array Value) (hcs : cs = #[.slice A n c, .int .i64 (a : Int)]) (ht : 5 ≠ t) :
    IsRow (w1.alloc (.cells cs t)) t w1.heap.size l a A c := by
  subst hcs
  have hl := OwnB.length h
  refine ⟨by rw [hl]; exact Blk.new w1 t _, ?_, ht⟩
  rw [hl]
  exact Own.alloc (Own.mono h (Nat.zero_le _)) _
set_option maxHeartbeats 400000 in
theorem newReader (A : Option Addr) (n c : Nat) (l : List UInt8) (w : World) (hl : l.length = n) (hr : Bs w A l) (hn : n ≤ 140737488351232) :
    Calls Tryz.prog 94 #[.slice A n c] w fun e w' => ∃ g A' c', e = .returned (.pointer (some ⟨g, 0, none⟩)) ∧ w.heap.size ≤ g ∧ (∀ b, bk A' = some b → w.heap.size ≤ b) ∧ IsRow w' 156 g l 0 A' c' ∧ Below w.heap.size w w' := by
  have HL := Lib.hid hl
  clear hl
  go_enter Tryz.func94, Tryz.ntmps94
  go_wp2_with (at_builtin; refine wpList_append_rd rfl _ _ elemB rfl w.heap.size none 0 0 [] rfl (Own.nil _ _ _) A n c (l.map u8v) rfl hr ?c1 (u8_one l) ?c2 ?c3 ?c4 ?_)
  case c1 => simpa using HL.out
  case c2 => omega
  case c3 => omega
  case c4 => exact Nat.le_refl _
  intro A' c' w1 hown hb _ _
  have hown' := Lib.hid hown
  clear hown
  go_wp2
  go_ret
  exact ⟨w1.heap.size, A', c', rfl, hb.size, fun b e => (Own.lt hown'.out (k := b) e).1, newRow hown'.out 0 _ rfl (by decide), hb.alloc hb.size _⟩
def numGo : List UInt8 → Nat → Nat → Option (Nat × Nat)
  | [], _, _ => none
  | b :: r, i, n =>
    if i < 5 then
      if 128 ≤ b.toNat then numGo r (i + 1) (n + (b.toNat % 128) * 2 ^ (7 * i))
      else if 4294967295 < n + (b.toNat % 128) * 2 ^ (7 * i) ∨ (0 < i ∧ b.toNat = 0) then none
      else some (n + (b.toNat % 128) * 2 ^ (7 * i), i + 1)
    else none
def numV (r : Option (Nat × Nat)) : Value :=
  match r with
  | some (n, k) => .tuple #[.int .i64 (n : Int), .int .i64 (k : Int), .int .i64 0]
  | none => .tuple #[.int .i64 0, .int .i64 0, .int .i64 3]
theorem drop_get {l : List UInt8} {i : Nat} {x : UInt8} (h : l[i]? = some x) : l.drop i = x :: l.drop (i + 1) := by
  have hlt : i < l.length := by
    rcases Nat.lt_or_ge i l.length with h' | h'
    · exact h'
    · rw [List.getElem?_eq_none h'] at h; cases h
  rw [List.drop_eq_getElem_cons hlt]
  rw [List.getElem?_eq_getElem hlt] at h
  rw [Option.some.inj h]
theorem pow7 {i : Nat} (h : i < 5) : 2 ^ (7 * i) ≤ 268435456 := by
  have : i = 0 ∨ i = 1 ∨ i = 2 ∨ i = 3 ∨ i = 4 := by omega
  rcases this with rfl | rfl | rfl | rfl | rfl <;> decide
theorem num_step {x m i : Nat} (hx : x < 256) (hm : m < 2 ^ (7 * i)) (h7 : 2 ^ (7 * i) ≤ 268435456) :
    bits BinOp.or IntKind.i64 (m : Int) (wrap64 (wrap64 (bits BinOp.and IntKind.u8 (x : Int) 127) * 2 ^ (7 * i))) = ((m + x % 128 * 2 ^ (7 * i) : Nat) : Int) := by
  rw [show (127 : Int) = ((127 : Nat) : Int) from rfl, u8_and_nat x 127 hx (by omega), nat_mask7, wrap64_nat (by omega)]
  have : x % 128 * 2 ^ (7 * i) ≤ 127 * 2 ^ (7 * i) := Nat.mul_le_mul_right _ (by omega)
  exact or_shl hm (by omega)
set_option maxHeartbeats 1000000 in
set_option maxRecDepth 10000 in
theorem num_any (A : Option Addr) (n c : Nat) (l : List UInt8) (w : World) (hl : l.length = n) (hr : Bs w A l) (hn : n ≤ 140737488351232) :
    Calls Tryz.prog 88 #[.slice A n c] w fun e w' => e = .returned (numV (numGo l 0 0)) ∧ w = w' := by
  have HL := Lib.hid hl
  have HR := Lib.hid hr
  clear hl hr
  go_enter Tryz.func88, Tryz.ntmps88
  go_wp2
  go_loopg [5, 6] n (fun g s5 s6 wr => ∃ i m : Nat, i ≤ n ∧ n - i ≤ g ∧ i ≤ 5 ∧ m < 2 ^ (7 * i) ∧ s5 = .int .i64 m ∧ s6 = .int .i64 i ∧ numGo (l.drop i) i m = numGo l 0 0 ∧ w = wr)
  case atStart => exact ⟨0, 0, Nat.zero_le _, by omega, by omega, by omega, rfl, rfl, rfl, rfl⟩
  case round =>
    obtain ⟨i, m, hi, hg, hi5, hm, rfl, rfl, hgo, rfl⟩ := hrel
    have HG := Lib.hid hgo
    clear hgo
    by_cases hlt : i < n ∧ i < 5
    · obtain ⟨hin, h5⟩ := hlt
      obtain ⟨b, o, x, rfl, hx, hc⟩ := HR.out.at_ (by rw [HL.out]; exact hin : i < l.length)
      have hd := drop_get hx
      rw [hd, numGo, if_pos h5] at HG
      have h7 := pow7 h5
      have hxb := x.toNat_lt
      have hm2 : m + x.toNat % 128 * 2 ^ (7 * i) < 2 ^ (7 * (i + 1)) := by
        have : x.toNat % 128 * 2 ^ (7 * i) ≤ 127 * 2 ^ (7 * i) := Nat.mul_le_mul_right _ (by omega)
        have e : 2 ^ (7 * (i + 1)) = 128 * 2 ^ (7 * i) := by rw [Nat.mul_add, Nat.pow_add]; omega
        omega
      obtain ⟨m', hm'⟩ : ∃ m' : Nat, m' = m + x.toNat % 128 * 2 ^ (7 * i) := ⟨_, rfl⟩
      rw [← hm'] at HG hm2
      have E : bits BinOp.or IntKind.i64 (m : Int) (wrap64 (wrap64 (bits BinOp.and IntKind.u8 (x.toNat : Int) 127) * 2 ^ (7 * i))) = (m' : Int) := by
        rw [num_step hxb hm h7, hm']
      have HM2 := Lib.hid hm2
      have HX := Lib.hid (UInt8.toNat_inj (a := x) (b := 0))
      clear hx hd hm hm2 h7 hm' hxb
      go_wp2
      · have hge : 128 ≤ (x.toNat : Int) := by assumption
        go_roundg (n - (i + 1))
        case measure => omega
        case rel => exact ⟨i + 1, m', by omega, by omega, by omega, HM2.out, rfl, by go_num, by rw [← HG.out, if_pos (by omega)], rfl⟩
      · have hlt : (x.toNat : Int) < 128 := by assumption
        have h0 : 0 < i := by assumption
        have ht : 4294967295 < (m' : Int) ∨ ((x.toNat : Int) == 0) = true := by assumption
        go_ret3
        refine ⟨?_, rfl⟩
        rw [← HG.out, if_neg (by omega), if_pos (ht.elim (fun h => .inl (by omega)) (fun h => .inr ⟨h0, by have := beq_iff_eq.1 h; omega⟩))]
        rfl
      · have hlt : (x.toNat : Int) < 128 := by assumption
        have ht : (m' : Int) ≤ 4294967295 ∧ ((x.toNat : Int) == 0) = false := by assumption
        go_ret3
        refine ⟨?_, rfl⟩
        rw [← HG.out, if_neg (by omega), if_neg (by have := beq_eq_false_iff_ne.1 ht.2; omega)]
        rfl
      · have hlt : (x.toNat : Int) < 128 := by assumption
        have ht : (m' : Int) ≤ 4294967295 := by assumption
        have h0 : ¬ 0 < i := by assumption
        go_ret3
        refine ⟨?_, rfl⟩
        rw [← HG.out, if_neg (by omega), if_neg (by omega)]
        rfl
      · have hlt : (x.toNat : Int) < 128 := by assumption
        have ht : 4294967295 < (m' : Int) := by assumption
        go_ret3
        refine ⟨?_, rfl⟩
        rw [← HG.out, if_neg (by omega), if_pos (by omega)]
        rfl
    · have hR : numGo (l.drop i) i m = none := by
        by_cases h5 : i < 5
        · rw [List.drop_eq_nil_of_le (by rw [HL.out]; omega)]; rfl
        · cases l.drop i with
          | nil => rfl
          | cons b r => rw [numGo, if_neg h5]
      rw [hR] at HG
      have H := HG
      by_cases hin : i < n
      · have h5 : ¬ i < 5 := by omega
        clear hlt hm
        go_wp2
        go_ret3
        exact ⟨by rw [← H.out]; rfl, rfl⟩
      · clear hlt hm
        go_wp2
        go_ret3
        exact ⟨by rw [← H.out]; rfl, rfl⟩
end Go.Proofs.YtaelgbbnmjbjiaaGreat
namespace Go.Proofs.YtaelgbbnmjbjiaaGreat
open Go.RowKit
set_option maxHeartbeats 400000 in
theorem newBack_bad (A : Option Addr) (n c : Nat) (l : List UInt8) (w : World) (hl : l.length = n) (hr : Bs w A l) (hn : n ≤ 140737488351232) (hb : n = 0 ∨ l.getD (n - 1) 0 = 0) :
    Calls Tryz.prog 120 #[.slice A n c] w fun e w' => e = .returned (.tuple #[.pointer none, .int .i64 3]) ∧ w = w' := by
  by_cases h0 : n = 0
  · subst h0
    clear hb
    go_enter Tryz.func120, Tryz.ntmps120
    go_wp2
    go_ret2
    exact ⟨rfl, rfl⟩
  · obtain ⟨b, o, x, rfl, hx, hc⟩ := hr.at_ (by omega : n - 1 < l.length)
    have hx0 : x = 0 := by
      rcases hb with h | h
      · omega
      · simpa [List.getD, hx] using h
    subst hx0
    have hc' : w.cell? ⟨b, o + (n - 1), none⟩ = some (.int .u8 0) := hc
    clear hc hx hb hr
    have hne : ((n : Int) == 0) = false := beq_eq_false_iff_ne.2 (by omega)
    go_enter Tryz.func120, Tryz.ntmps120
    go_wp2
    go_ret2
    exact ⟨rfl, rfl⟩
theorem bitLen_le (x : Nat) (h : x < 256) : Lib.bitLen x ≤ 8 := by
  have h2 := (by decide +kernel : ∀ x : Fin 256, Lib.bitLen x.val ≤ 8) ⟨x, h⟩
  exact h2
theorem bitLen_pos (x : Nat) (h : x < 256) (h0 : x ≠ 0) : 1 ≤ Lib.bitLen x := by
  have h2 := (by decide +kernel : ∀ x : Fin 256, x.val ≠ 0 → 1 ≤ Lib.bitLen x.val) ⟨x, h⟩
  exact h2 h0
set_option maxHeartbeats 1000000 in
set_option maxRecDepth 10000 in
theorem newBack (A : Option Addr) (n c : Nat) (l : List UInt8) (w : World) (hl : l.length = n + 1) (hr : Bs w A l) (hn : n ≤ 140737488351232) (hb : (l.getD n 0).toNat ≠ 0) :
    Calls Tryz.prog 120 #[.slice A (n + 1) c] w fun e w' => ∃ g A' c', e = .returned (.tuple #[.pointer (some ⟨g, 0, none⟩), .int .i64 0]) ∧ w.heap.size ≤ g ∧ (∀ b, bk A' = some b → w.heap.size ≤ b) ∧
      IsRow w' 181 g l (8 * n + Lib.bitLen (l.getD n 0).toNat - 1) A' c' ∧ Below w.heap.size w w' := by
  obtain ⟨b, o, x, rfl, hx, hc⟩ := hr.at_ (by omega : n < l.length)
  have hx0 : (l.getD n 0) = x := by simp [List.getD, hx]
  rw [hx0] at hb ⊢
  have hbx : ((x.toNat : Int) == 0) = false := beq_eq_false_iff_ne.2 (by omega)
  have hxb := x.toNat_lt
  have hbl := bitLen_le x.toNat hxb
  have hbl1 := bitLen_pos x.toNat hxb hb
  have hlt := block_lt hc
  have HL := Lib.hid hl
  have HR := Lib.hid hr
  have HX := Lib.hid hxb
  have HB := Lib.hid (fun w1 => Tryz.bits_Len8 (x.toNat : Int) w1 (by omega) (by omega))
  rw [Int.toNat_natCast] at HB
  have HV := Lib.hid (rfl : Lib.bitLen x.toNat = Lib.bitLen x.toNat)
  generalize hK : Lib.bitLen x.toNat = K at HB hbl hbl1 ⊢
  have HK := Lib.hid hK
  have e1 : IntKind.i64.wrap (8 * (n : Int)) = 8 * n := wrapi64 (by omega) (by omega)
  have e2 : IntKind.i64.wrap (8 * (n : Int) + K) = 8 * n + K := wrapi64 (by omega) (by omega)
  have e3 : IntKind.i64.wrap (8 * (n : Int) + K - 1) = 8 * n + K - 1 := wrapi64 (by omega) (by omega)
  have e4 : IntKind.i64.wrap (n : Int) = n := wrapi64 (by omega) (by omega)
  have i1 : (0 : Int) ≤ (n : Int) := by omega
  have i2 : (n : Int) < (n : Int) + 1 := by omega
  clear hx hx0 hb hl hxb hr HV hK
  go_enter Tryz.func120, Tryz.ntmps120
  go_wp2
  go_region_held3 (fun w' => w'.cell? ⟨b, o + n, none⟩ = some (.int .u8 (x.toNat : Int)))
    (first | go_keep | (rw [hb1.cell (by simp; exact hlt)]; assumption))
    ((first | (go_at_call 127; refine (HB.out _).mono ?_; rintro e w' ⟨rfl, rfl⟩) | (refine step_append_rd rfl _ _ elemB rfl w.heap.size none 0 0 [] rfl (Own.nil _ _ _) (some ⟨b, o, none⟩) (n + 1) c (l.map u8v) rfl HR.out (by simpa using HL.out) (u8_one l) (by omega) (by omega) (by simp) ?_; intro A' c' w1 hown1 hb1 hg1 hat1)))
  go_wp2
  go_ret2
  have hown2 : OwnB w' w.heap.size A' (n + 1) c' l := by simpa [OwnB] using hown1
  exact ⟨w'.heap.size, A', c', rfl, hb1.size, fun b e => (Own.lt hown2 (k := b) e).1,
    newRow hown2 (8 * n + K - 1) _ (by rw [show (8 * (n : Int) + K - 1) = ((8 * n + K - 1 : Nat) : Int) from by omega]) (by decide), Below.alloc (Below.trans ((Below.refl _ w).drew) hb1) hb1.size _⟩
set_option maxHeartbeats 400000 in
theorem back_left (g a c : Nat) (l : List UInt8) (A : Option Addr) (w : World) (h : IsRow w 181 g l a A c) :
    Calls Tryz.prog 122 #[.pointer (some ⟨g, 0, none⟩)] w fun e w' => e = .returned (.int .i64 (a : Int)) ∧ w' = w := by
  have c1 := h.blk.cell 1
  simp only [List.getElem?_toArray, List.getElem?_cons_zero, List.getElem?_cons_succ] at c1
  clear h
  go_enter Tryz.func122, Tryz.ntmps122
  go_wp2
  go_ret
  exact ⟨rfl, rfl⟩
def backV (l : List UInt8) (a : Nat) (n : Int) : Value :=
  if mayE n (a : Int) = 0 then .tuple #[.int .i64 (numAt l (a - n.toNat) n.toNat : Nat), .int .i64 0] else .tuple #[.int .i64 0, .int .i64 (mayE n (a : Int))]
def backA (a : Nat) (n : Int) : Nat := if mayE n (a : Int) = 0 then a - n.toNat else a
set_option maxHeartbeats 1000000 in
theorem back_take (g a c : Nat) (l : List UInt8) (A : Option Addr) (n : Int) (w : World) (h : IsRow w 181 g l a A c) (hl : l.length ≤ 140737488351232) (ha : a ≤ 8 * l.length) (hn0 : -1000000 ≤ n) (hn1 : n ≤ 1000000) :
    Calls Tryz.prog 121 #[.pointer (some ⟨g, 0, none⟩), .int .i64 n] w fun e w' => e = .returned (backV l a n) ∧ IsRow w' 181 g l (backA a n) A c ∧ w.grownBy w' (some g) := by
  have HM := Lib.hid (fun w1 => may_any n (a : Int) w1)
  have c0 := h.blk.cell 0
  have c1 := h.blk.cell 1
  simp only [List.getElem?_toArray, List.getElem?_cons_zero, List.getElem?_cons_succ] at c0 c1
  have f1 := h.blk.frozen 1
  by_cases hm : mayE n (a : Int) = 0
  · obtain ⟨h1, h2, h3⟩ := mayE_zero hm
    have hv : backV l a n = .tuple #[.int .i64 (numAt l (a - n.toNat) n.toNat : Nat), .int .i64 0] := by unfold backV; rw [if_pos hm]
    have hA : backA a n = a - n.toNat := by unfold backA; rw [if_pos hm]
    rw [hm] at HM
    rw [hv, hA]
    obtain ⟨k, rfl⟩ := Int.eq_ofNat_of_zero_le h1
    rw [Int.toNat_natCast]
    clear hm hv hA
    have h' : IsRow (w.setCell ⟨g, 1, none⟩ (.int .i64 ((a - k : Nat) : Int))) 181 g l (a - k) A c := IsRow.set h (a - k)
    have HN := Lib.hid (fun m => (number_any A l.length c l ((a - k : Nat) : Int) (k : Int) ((w.setCell ⟨g, 1, none⟩ (.int .i64 ((a - k : Nat) : Int))).drewN m) rfl (Bs.later h'.data (below_drewN _ m)) (by omega) (by omega) h2 (by omega) hl).mono fun _ _ ⟨h1, h2⟩ => (⟨h1, h2.symm⟩ : _ ∧ _))
    rw [Int.toNat_natCast, Int.toNat_natCast] at HN
    have HG' := Lib.hid (grown_set w ⟨g, 1, none⟩ (.int .i64 ((a - k : Nat) : Int)))
    have HH := Lib.hid h'
    clear h' h
    generalize hx : numAt l (a - k) k = x at *
    have HX := Lib.hid hx
    clear hx
    generalize l.length = n at *
    rw [show ((a - k : Nat) : Int) = (a : Int) - k from by omega] at *
    go_enter Tryz.func121, Tryz.ntmps121
    go_wp2_with fail
    refine (HM.out _).mono ?_
    rintro e w2 ⟨rfl, rfl⟩
    go_wp2_with fail
    go_quiet ((go_at_call 115; exact Calls.quiet_of_same (HN.out _)))
    go_wp2
    go_ret2
    exact ⟨rfl, HH.out.later (below_drewN _ _), grown_trans HG'.out (grown_below (below_drewN _ _))⟩
  · have hv : backV l a n = .tuple #[.int .i64 0, .int .i64 (mayE n (a : Int))] := by unfold backV; rw [if_neg hm]
    have hA : backA a n = a := by unfold backA; rw [if_neg hm]
    rw [hv, hA]
    generalize mayE n (a : Int) = e0 at *
    have hm' : (e0 == 0) = false := beq_eq_false_iff_ne.2 hm
    have H := Lib.hid h
    clear hm hv hA h
    go_enter Tryz.func121, Tryz.ntmps121
    go_wp2_with fail
    refine (HM.out _).mono ?_
    rintro e w2 ⟨rfl, rfl⟩
    go_wp2
    go_ret2
    exact ⟨rfl, H.out, grown_refl _ _⟩
end Go.Proofs.YtaelgbbnmjbjiaaGreat
namespace Go.Proofs.YtaelgbbnmjbjiaaGreat
open Go.RowKit
structure IsPk (w : World) (g : Nat) (l : List UInt8) (A : Option Addr) (c : Nat) (bad : Bool) : Prop where
  blk : Blk w g 77 #[.slice A l.length c, .bool bad]
  data : Bs w A l
  ne : bk A ≠ some g
  cap : l.length ≤ c ∧ c ≤ 9223372036854775807
  nil0 : A = none → c = 0
  len : l.length ≤ 140737488351232
theorem IsPk.later {w w' : World} {g c : Nat} {l : List UInt8} {A : Option Addr} {bad : Bool} (h : IsPk w g l A c bad) (hb : Below w.heap.size w w') : IsPk w' g l A c bad :=
  ⟨h.blk.later hb, h.data.later hb, h.ne, h.cap, h.nil0, h.len⟩
theorem IsPk.kept {w w' : World} {row : Option Nat} {g c : Nat} {l : List UInt8} {A : Option Addr} {bad : Bool} (h : IsPk w g l A c bad) (hg : w.grownBy w' row) (h1 : row ≠ some g) (h2 : bk A = none ∨ bk A ≠ row) : IsPk w' g l A c bad :=
  ⟨h.blk.kept hg h1, Rd.keptB h.data hg h2, h.ne, h.cap, h.nil0, h.len⟩
theorem IsPk.setBad {w : World} {g c : Nat} {l : List UInt8} {A : Option Addr} {bad : Bool} (h : IsPk w g l A c bad) (bad' : Bool) : IsPk (w.setCell ⟨g, 1, none⟩ (.bool bad')) g l A c bad' :=
  ⟨h.blk.set 1 _, Rd.keptB h.data (grown_set w ⟨g, 1, none⟩ _) (.inr h.ne), h.ne, h.cap, h.nil0, h.len⟩
def cutA (A : Option Addr) (c n : Nat) : Option Addr := if c = n then A else A.map fun a => a.add n
theorem add_block (a : Addr) (n : Nat) : (a.add n).block = a.block := by unfold Addr.add; split <;> rfl
theorem add_none (b o n : Nat) : (⟨b, o, none⟩ : Addr).add n = ⟨b, o + n, none⟩ := by unfold Addr.add; split <;> simp_all
theorem bk_cut (A : Option Addr) (c n : Nat) : bk (cutA A c n) = bk A := by
  unfold cutA bk
  split
  · rfl
  · cases A <;> simp [add_block]
theorem Rd.cut {w : World} {A : Option Addr} {xs : List Value} {c n : Nat} (h : Rd w A xs) (_hn : n ≤ xs.length) (hc : xs.length ≤ c) : Rd w (cutA A c n) (xs.drop n) := fun h0 => by
  have hlt : n < xs.length := by simp at h0; omega
  obtain ⟨b, o, rfl, hx⟩ := h (by omega)
  refine ⟨b, o + n, by unfold cutA; rw [if_neg (by omega)]; simp [add_none], fun j hj => ?_⟩
  rw [List.length_drop] at hj
  rw [Nat.add_assoc, hx (n + j) (by omega), List.getElem?_drop]
theorem Rd.take {w : World} {A : Option Addr} {xs : List Value} (n : Nat) (h : Rd w A xs) : Rd w A (xs.take n) := fun h0 => by
  have h1 : 0 < xs.length := by simp at h0; omega
  obtain ⟨b, o, rfl, hx⟩ := h h1
  refine ⟨b, o, rfl, fun j hj => ?_⟩
  have hj' : j < n ∧ j < xs.length := by simp at hj; omega
  rw [hx j hj'.2, List.getElem?_take, if_pos hj'.1]
theorem Bs.cut {w : World} {A : Option Addr} {l : List UInt8} {c n : Nat} (h : Bs w A l) (hn : n ≤ l.length) (hc : l.length ≤ c) : Bs w (cutA A c n) (l.drop n) := by
  have := Rd.cut (c := c) (n := n) h (by simpa using hn) (by simpa using hc)
  rwa [← List.map_drop] at this
theorem Bs.take {w : World} {A : Option Addr} {l : List UInt8} (n : Nat) (h : Bs w A l) : Bs w A (l.take n) := by
  have := Rd.take n h
  rwa [← List.map_take] at this
theorem IsPk.cutD {w : World} {g c : Nat} {l : List UInt8} {A : Option Addr} {bad : Bool} (h : IsPk w g l A c bad) (n : Nat) (hn : n ≤ l.length) :
    IsPk ((w.setCell ⟨g, 1, none⟩ (.bool false)).setCell ⟨g, 0, none⟩ (.slice (cutA A c n) (l.length - n) (c - n))) g (l.drop n) (cutA A c n) (c - n) false := by
  have hb := (h.setBad false).blk.set 0 (.slice (cutA A c n) (l.length - n) (c - n))
  have hcap := h.cap
  refine ⟨by rw [List.length_drop]; exact hb, ?_, by rw [bk_cut]; exact h.ne, ⟨by rw [List.length_drop]; omega, by omega⟩, fun e => ?_, by rw [List.length_drop]; have := h.len; omega⟩
  · refine Rd.keptB (Rd.keptB (Bs.cut h.data hn hcap.1) (grown_set w ⟨g, 1, none⟩ _) (.inr ?_)) (grown_set _ ⟨g, 0, none⟩ _) (.inr ?_) <;> (rw [bk_cut]; exact h.ne)
  · have : A = Option.none := by
      unfold cutA at e
      split at e
      · exact e
      · cases A with
        | none => rfl
        | some a => cases e
    have := h.nil0 this
    omega
set_option maxHeartbeats 1000000 in
theorem pk_take_bad (g c : Nat) (l : List UInt8) (A : Option Addr) (bad : Bool) (n : Int) (w : World) (h : IsPk w g l A c bad) (hbad : bad = true ∨ (l.length : Int) < n) :
    Calls Tryz.prog 48 #[.pointer (some ⟨g, 0, none⟩), .int .i64 n] w fun e w' => e = .returned (.slice none 0 0) ∧ IsPk w' g l A c true ∧ w.grownBy w' (some g) := by
  have c0 := h.blk.cell 0
  have c1 := h.blk.cell 1
  simp only [List.getElem?_toArray, List.getElem?_cons_zero, List.getElem?_cons_succ] at c0 c1
  have f1 := h.blk.frozen 1
  have HH := Lib.hid (h.setBad true)
  have HG := Lib.hid (grown_set w ⟨g, 1, none⟩ (.bool true))
  have hl := h.len
  clear h
  generalize l.length = m at *
  cases bad with
  | true =>
    clear hbad
    go_enter Tryz.func48, Tryz.ntmps48
    go_wp2
    go_ret
    exact ⟨rfl, HH.out, HG.out⟩
  | false =>
    have hlt : (m : Int) < n := by
      rcases hbad with h | h
      · cases h
      · exact h
    clear hbad
    go_enter Tryz.func48, Tryz.ntmps48
    go_wp2
    go_ret
    exact ⟨rfl, HH.out, HG.out⟩
set_option maxHeartbeats 1000000 in
theorem pk_take (g c : Nat) (l : List UInt8) (a : Addr) (n : Nat) (w : World) (h : IsPk w g l (some a) c false) (hn : n ≤ l.length) :
    Calls Tryz.prog 48 #[.pointer (some ⟨g, 0, none⟩), .int .i64 n] w fun e w' => e = .returned (.slice (some a) n c) ∧ IsPk w' g (l.drop n) (cutA (some a) c n) (c - n) false ∧ w.grownBy w' (some g) := by
  have c0 := h.blk.cell 0
  have c1 := h.blk.cell 1
  simp only [List.getElem?_toArray, List.getElem?_cons_zero, List.getElem?_cons_succ] at c0 c1
  have f1 := h.blk.frozen 1
  have f0 := h.blk.frozen 0
  have hl := h.len
  have hcap := h.cap
  have HC := Lib.hid (h.cutD n hn)
  have HG := Lib.hid (grown_trans (grown_set w ⟨g, 1, none⟩ (.bool false)) (grown_set (w.setCell ⟨g, 1, none⟩ (.bool false)) ⟨g, 0, none⟩ (.slice (cutA (some a) c n) (l.length - n) (c - n))))
  clear h
  generalize l.length = m at *
  go_enter Tryz.func48, Tryz.ntmps48
  go_wp2
  · have hcn : c = n := by assumption
    go_ret
    subst hcn
    have e : cutA (some a) c c = some a := by unfold cutA; rw [if_pos rfl]
    have H1 := HC.out
    have H2 := HG.out
    rw [e, Nat.sub_self] at H1 H2
    rw [e]
    exact ⟨rfl, H1, H2⟩
  · go_ret
    have e : cutA (some a) c n = some (a.add n) := by unfold cutA; rw [if_neg (by assumption)]; rfl
    have H1 := HC.out
    rw [e] at H1
    have H2 := HG.out
    rw [e] at H2 ⊢
    exact ⟨rfl, H1, H2⟩
set_option maxHeartbeats 1000000 in
theorem pk_take_nil (g : Nat) (w : World) (h : IsPk w g [] none 0 false) :
    Calls Tryz.prog 48 #[.pointer (some ⟨g, 0, none⟩), .int .i64 0] w fun e w' => e = .returned (.slice none 0 0) ∧ IsPk w' g [] none 0 false ∧ w.grownBy w' (some g) := by
  have c0 := h.blk.cell 0
  have c1 := h.blk.cell 1
  simp only [List.getElem?_toArray, List.getElem?_cons_zero, List.getElem?_cons_succ, List.length_nil] at c0 c1
  have f1 := h.blk.frozen 1
  have f0 := h.blk.frozen 0
  have HC := Lib.hid (h.cutD 0 (Nat.le_refl _))
  have HG := Lib.hid (grown_trans (grown_set w ⟨g, 1, none⟩ (.bool false)) (grown_set (w.setCell ⟨g, 1, none⟩ (.bool false)) ⟨g, 0, none⟩ (.slice none 0 0)))
  clear h
  go_enter Tryz.func48, Tryz.ntmps48
  go_wp2
  go_ret
  exact ⟨rfl, HC.out, HG.out⟩
theorem pk_take_any (g c : Nat) (l : List UInt8) (A : Option Addr) (n : Nat) (w : World) (h : IsPk w g l A c false) (hn : n ≤ l.length) :
    Calls Tryz.prog 48 #[.pointer (some ⟨g, 0, none⟩), .int .i64 n] w fun e w' => e = .returned (.slice A n c) ∧ IsPk w' g (l.drop n) (cutA A c n) (c - n) false ∧ w.grownBy w' (some g) := by
  cases A with
  | some a => exact pk_take g c l a n w h hn
  | none =>
    have hc := h.nil0 rfl
    have hcap := h.cap
    subst hc
    obtain rfl : l = [] := List.eq_nil_of_length_eq_zero (by omega)
    obtain rfl : n = 0 := by simpa using hn
    exact pk_take_nil g w h
def pkNum (l : List UInt8) (most : Int) : Option (Nat × Nat) :=
  match numGo l 0 0 with
  | some (n, k) => if most < (n : Int) then none else some (n, k)
  | none => none
theorem numGo_le : ∀ (l : List UInt8) (i n m k : Nat), numGo l i n = some (m, k) → i < k ∧ k ≤ i + l.length ∧ k ≤ 5 ∧ m ≤ 4294967295
  | [], _, _, _, _, h => by cases h
  | b :: r, i, n, m, k, h => by
    rw [numGo] at h
    split at h
    · split at h
      · have := numGo_le r _ _ _ _ h
        simp; omega
      · split at h
        · cases h
        · rename_i h1 h2 h3
          simp only [Option.some.injEq, Prod.mk.injEq] at h
          simp; omega
    · cases h
set_option maxHeartbeats 1000000 in
theorem pk_num_bad (g c : Nat) (l : List UInt8) (A : Option Addr) (bad : Bool) (most : Int) (w : World) (h : IsPk w g l A c bad) (hbad : bad = true ∨ pkNum l most = none) :
    Calls Tryz.prog 49 #[.pointer (some ⟨g, 0, none⟩), .int .i64 most] w fun e w' => e = .returned (.int .i64 0) ∧ IsPk w' g l A c true ∧ w.grownBy w' (some g) := by
  have c0 := h.blk.cell 0
  have c1 := h.blk.cell 1
  simp only [List.getElem?_toArray, List.getElem?_cons_zero, List.getElem?_cons_succ] at c0 c1
  have f1 := h.blk.frozen 1
  have HH := Lib.hid (h.setBad true)
  have HG := Lib.hid (grown_set w ⟨g, 1, none⟩ (.bool true))
  have HN := num_any A l.length c l w rfl h.data h.len
  clear h
  unfold pkNum at hbad
  generalize l.length = m at *
  cases hr : numGo l 0 0 with
  | none =>
    rw [hr] at HN
    simp only [numV] at HN
    have H := Lib.hid HN
    clear HN hbad hr
    cases bad
    all_goals
      go_enter Tryz.func49, Tryz.ntmps49
      go_wp2_with fail
      refine H.out.mono ?_
      rintro e w2 ⟨rfl, rfl⟩
      go_wp2_with fail
      go_ret
      exact ⟨rfl, HH.out, HG.out⟩
  | some x =>
    obtain ⟨n, k⟩ := x
    rw [hr] at HN hbad
    simp only [numV] at HN
    have H := Lib.hid HN
    clear HN hr
    cases bad with
    | true =>
      clear hbad
      go_enter Tryz.func49, Tryz.ntmps49
      go_wp2_with fail
      refine H.out.mono ?_
      rintro e w2 ⟨rfl, rfl⟩
      go_wp2_with fail
      go_ret
      exact ⟨rfl, HH.out, HG.out⟩
    | false =>
      have hlt : most < (n : Int) := by
        rcases hbad with h | h
        · cases h
        · simp only at h
          split at h
          · assumption
          · cases h
      clear hbad
      go_enter Tryz.func49, Tryz.ntmps49
      go_wp2_with fail
      refine H.out.mono ?_
      rintro e w2 ⟨rfl, rfl⟩
      go_wp2_with fail
      go_ret
      exact ⟨rfl, HH.out, HG.out⟩
set_option maxHeartbeats 1000000 in
theorem pk_num (g c : Nat) (l : List UInt8) (a : Addr) (most : Int) (n k : Nat) (w : World) (h : IsPk w g l (some a) c false) (hn : pkNum l most = some (n, k)) :
    Calls Tryz.prog 49 #[.pointer (some ⟨g, 0, none⟩), .int .i64 most] w fun e w' => e = .returned (.int .i64 n) ∧ IsPk w' g (l.drop k) (cutA (some a) c k) (c - k) false ∧ w.grownBy w' (some g) := by
  have c0 := h.blk.cell 0
  have c1 := h.blk.cell 1
  simp only [List.getElem?_toArray, List.getElem?_cons_zero, List.getElem?_cons_succ] at c0 c1
  have f1 := h.blk.frozen 1
  have f0 := h.blk.frozen 0
  have hr : numGo l 0 0 = some (n, k) ∧ ¬ most < (n : Int) := by
    unfold pkNum at hn
    split at hn
    · split at hn
      · cases hn
      · rename_i hx h2
        simp only [Option.some.injEq, Prod.mk.injEq] at hn
        obtain ⟨rfl, rfl⟩ := hn
        exact ⟨hx, h2⟩
    · cases hn
  have hk := (numGo_le l 0 0 n k hr.1).2.1
  have HN := num_any (some a) l.length c l w rfl h.data h.len
  rw [hr.1] at HN
  simp only [numV] at HN
  have H := Lib.hid HN
  have hmost := hr.2
  have hdm : decide (most < (n : Int)) = false := decide_eq_false hmost
  have hl := h.len
  have hcap := h.cap
  have HC := Lib.hid (h.cutD k (by omega))
  have HG := Lib.hid (grown_trans (grown_set w ⟨g, 1, none⟩ (.bool false)) (grown_set (w.setCell ⟨g, 1, none⟩ (.bool false)) ⟨g, 0, none⟩ (.slice (cutA (some a) c k) (l.length - k) (c - k))))
  clear h hr HN hn
  rw [Nat.zero_add] at hk
  generalize l.length = m at *
  go_enter Tryz.func49, Tryz.ntmps49
  go_wp2_with fail
  refine H.out.mono ?_
  rintro e w2 ⟨rfl, rfl⟩
  go_wp2_with fail
  · have hcn : c = k := by assumption
    go_ret
    subst hcn
    have e : cutA (some a) c c = some a := by unfold cutA; rw [if_pos rfl]
    have H1 := HC.out
    have H2 := HG.out
    rw [e, Nat.sub_self] at H1 H2
    rw [e]
    exact ⟨rfl, H1, H2⟩
  · go_ret
    have e : cutA (some a) c k = some (a.add k) := by unfold cutA; rw [if_neg (by assumption)]; rfl
    have H1 := HC.out
    rw [e] at H1
    have H2 := HG.out
    rw [e] at H2 ⊢
    exact ⟨rfl, H1, H2⟩
theorem pk_num_any (g c : Nat) (l : List UInt8) (A : Option Addr) (most : Int) (n k : Nat) (w : World) (h : IsPk w g l A c false) (hn : pkNum l most = some (n, k)) :
    Calls Tryz.prog 49 #[.pointer (some ⟨g, 0, none⟩), .int .i64 most] w fun e w' => e = .returned (.int .i64 n) ∧ IsPk w' g (l.drop k) (cutA A c k) (c - k) false ∧ w.grownBy w' (some g) := by
  cases A with
  | some a => exact pk_num g c l a most n k w h hn
  | none =>
    have hc := h.nil0 rfl
    have hcap := h.cap
    subst hc
    obtain rfl : l = [] := List.eq_nil_of_length_eq_zero (by omega)
    cases hn
end Go.Proofs.YtaelgbbnmjbjiaaGreat
namespace Go.Proofs.YtaelgbbnmjbjiaaGreat
open Go.RowKit
def kraft : List Nat → Nat
  | [] => 0
  | k :: r => (if 0 < k then 2 ^ (11 - k) else 0) + kraft r
def cntPos : List Nat → Nat
  | [] => 0
  | k :: r => (if 0 < k then 1 else 0) + cntPos r
theorem kraft_append (a b : List Nat) : kraft (a ++ b) = kraft a + kraft b := by
  induction a with
  | nil => simp [kraft]
  | cons k r ih => rw [List.cons_append, kraft, kraft, ih]; omega
theorem cntPos_append (a b : List Nat) : cntPos (a ++ b) = cntPos a + cntPos b := by
  induction a with
  | nil => simp [cntPos]
  | cons k r ih => rw [List.cons_append, cntPos, cntPos, ih]; omega
theorem take_snocN {l : List Nat} {k x : Nat} (h : l[k]? = some x) : l.take (k + 1) = l.take k ++ [x] := by
  rw [List.take_add_one, h]; rfl
theorem kraft_step {l : List Nat} {k x : Nat} (h : l[k]? = some x) : kraft (l.take (k + 1)) = kraft (l.take k) + (if 0 < x then 2 ^ (11 - x) else 0) := by
  rw [take_snocN h, kraft_append]; rfl
theorem cntPos_step {l : List Nat} {k x : Nat} (h : l[k]? = some x) : cntPos (l.take (k + 1)) = cntPos (l.take k) + (if 0 < x then 1 else 0) := by
  rw [take_snocN h, cntPos_append]; rfl
theorem kraft_le (l : List Nat) : kraft l ≤ 2048 * l.length := by
  induction l with
  | nil => simp [kraft]
  | cons k r ih =>
    rw [kraft, List.length_cons]
    have : (if 0 < k then 2 ^ (11 - k) else 0) ≤ 2048 := by
      split
      · exact (Nat.pow_le_pow_right (by omega) (by omega) : 2 ^ (11 - k) ≤ 2 ^ 11)
      · omega
    omega
theorem cntPos_le (l : List Nat) : cntPos l ≤ l.length := by
  induction l with
  | nil => simp [cntPos]
  | cons k r ih => rw [cntPos, List.length_cons]; split <;> omega
def mayL (l : List Nat) : Bool := decide (0 < l.length) && decide (l.length ≤ 256) && (l.getD (l.length - 1) 0 != 0) && l.all (fun k => decide (k ≤ 11)) && (kraft l == 2048 || (cntPos l == 1 && l.getD (l.length - 1) 0 == 1))
theorem mayL_head {l : List Nat} (h : l.length = 0 ∨ 256 < l.length ∨ l.getD (l.length - 1) 0 = 0) : mayL l = false := by
  unfold mayL
  rcases h with h | h | h
  · rw [h]; simp
  · rw [decide_eq_false (by omega : ¬ l.length ≤ 256)]; simp
  · rw [h]; simp
theorem mayL_big {l : List Nat} {k x : Nat} (h : l[k]? = some x) (hx : 11 < x) : mayL l = false := by
  have : l.all (fun k => decide (k ≤ 11)) = false := by
    rw [List.all_eq_false]
    exact ⟨x, List.mem_of_getElem? h, by simp; omega⟩
  unfold mayL
  rw [this]; simp
def Small (l : List Nat) (k : Nat) : Prop := ∀ j x, j < k → l[j]? = some x → x ≤ 11
theorem Small.step {l : List Nat} {k x : Nat} (h : Small l k) (hx : l[k]? = some x) (hle : x ≤ 11) : Small l (k + 1) := by
  intro j y hj hy
  by_cases e : j = k
  · subst e; rw [hx] at hy; cases hy; exact hle
  · exact h j y (by omega) hy
theorem mayL_end {l : List Nat} {n x : Nat} (hl : l.length = n + 1) (h256 : n + 1 ≤ 256) (hx : l[n]? = some x) (h0 : x ≠ 0) (hs : Small l (n + 1)) :
    mayL l = (kraft (l.take (n + 1)) == 2048 || (cntPos (l.take (n + 1)) == 1 && x == 1)) := by
  have e : l.take (n + 1) = l := List.take_of_length_le (by omega)
  have hall : l.all (fun k => decide (k ≤ 11)) = true := by
    rw [List.all_eq_true]
    intro y hy
    obtain ⟨j, hj, hy'⟩ := List.getElem_of_mem hy
    simp only [decide_eq_true_eq]
    exact hs j y (by omega) (by rw [List.getElem?_eq_getElem hj, hy'])
  have hd : l.getD (l.length - 1) 0 = x := by rw [hl]; simp [List.getD, hx]
  unfold mayL
  rw [e, hall, hd, hl, decide_eq_true (by omega : 0 < n + 1), decide_eq_true h256]
  have : (x != 0) = true := by simpa using h0
  rw [this]; simp
set_option maxHeartbeats 1000000 in
set_option maxRecDepth 10000 in
theorem huffMay (A : Option Addr) (n c : Nat) (l : List Nat) (w : World) (hl : l.length = n) (hr : Ns w A l) (hn : n ≤ 140737488351232) (hb : ∀ x ∈ l, x ≤ 140737488351232) :
    Calls Tryz.prog 106 #[.slice A n c] w fun e w' => e = .returned (.bool (mayL l)) ∧ w' = w := by
  by_cases h0 : n = 0
  · subst h0
    have HM := Lib.hid (mayL_head (.inl hl))
    clear hl hr hb
    go_enter Tryz.func106, Tryz.ntmps106
    go_wp2
    go_ret
    exact ⟨ret_bool HM.out.symm, rfl⟩
  · have hne : ((n : Int) == 0) = false := beq_eq_false_iff_ne.2 (by omega)
    by_cases h256 : 256 < n
    · have HM := Lib.hid (mayL_head (.inr (.inl (by omega : 256 < l.length))))
      clear hl hr hb
      go_enter Tryz.func106, Tryz.ntmps106
      go_wp2
      go_ret
      exact ⟨ret_bool HM.out.symm, rfl⟩
    · obtain ⟨N, rfl⟩ : ∃ N, n = N + 1 := ⟨n - 1, by omega⟩
      have hne : (((N : Int) + 1) == 0) = false := beq_eq_false_iff_ne.2 (by omega)
      have h256' : (N : Int) + 1 ≤ 256 := by omega
      obtain ⟨b, o, x, rfl, hx, hc⟩ := hr.at_ (by omega : N < l.length)
      by_cases hx0 : x = 0
      · have HM := Lib.hid (mayL_head (.inr (.inr (by rw [hl]; simp [List.getD, hx, hx0]))) : mayL l = false)
        have hx0' : ((x : Int) == 0) = true := by rw [hx0]; rfl
        clear hl hr hb hx hx0
        go_enter Tryz.func106, Tryz.ntmps106
        go_wp2
        go_ret
        exact ⟨ret_bool HM.out.symm, rfl⟩
      · have hx0' : ((x : Int) == 0) = false := beq_eq_false_iff_ne.2 (by omega)
        have HL := Lib.hid hl
        have HR := Lib.hid hr
        have HB := Lib.hid hb
        have HX := Lib.hid hx
        have HX0 := Lib.hid hx0
        clear hl hr hb hx hx0
        go_enter Tryz.func106, Tryz.ntmps106
        go_wp2
        go_loopg [3, 4, 26] (N + 1) (fun g s3 s4 s26 wr => ∃ k : Nat, k ≤ N + 1 ∧ N + 1 - k ≤ g ∧ s3 = .int .i64 (kraft (l.take k) : Nat) ∧ s4 = .int .i64 (cntPos (l.take k) : Nat) ∧ s26 = .int .i64 k ∧ Small l k ∧ wr = w)
        case atStart => exact ⟨0, Nat.zero_le _, by omega, rfl, rfl, rfl, fun j y hj => absurd hj (Nat.not_lt_zero _), rfl⟩
        case round =>
          obtain ⟨k, hk, hg, rfl, rfl, rfl, hsm, rfl⟩ := hrel
          by_cases hlt : k < N + 1
          · obtain ⟨b', o', y, e', hy, hcy⟩ := HR.out.at_ (by rw [HL.out]; exact hlt : k < l.length)
            cases e'
            have hk1 := kraft_step hy
            have hk2 := cntPos_step hy
            have hk3 := kraft_le (l.take k)
            have hk4 := cntPos_le (l.take k)
            rw [List.length_take] at hk3 hk4
            by_cases h11 : 11 < y
            · have HM := Lib.hid (mayL_big hy h11)
              clear hy hk1 hk2
              generalize kraft (l.take k) = s at *
              generalize cntPos (l.take k) = m at *
              go_wp2
              go_ret
              exact ⟨ret_bool HM.out.symm, rfl⟩
            · by_cases h0y : 0 < y
              · rw [if_pos h0y] at hk1 hk2
                have hpw : 2 ^ (11 - y) ≤ 2048 := (Nat.pow_le_pow_right (by omega) (by omega) : 2 ^ (11 - y) ≤ 2 ^ 11)
                have E : wrap64 ((2 : Int) ^ (11 - y)) = ((2 ^ (11 - y) : Nat) : Int) := by
                  rw [show ((2 : Int) ^ (11 - y)) = ((2 ^ (11 - y) : Nat) : Int) from by simp, wrap64_nat (by omega)]
                have K1 := Lib.hid hk1
                have K2 := Lib.hid hk2
                have Hs := Lib.hid (hsm.step hy (by omega))
                clear hy hk1 hk2 hsm
                generalize kraft (l.take k) = s at *
                generalize cntPos (l.take k) = m at *
                generalize 2 ^ (11 - y) = pw at *
                go_wp2
                go_roundg (N + 1 - (k + 1))
                case measure => omega
                case rel => exact ⟨k + 1, by omega, by omega, int_eq (by rw [K1.out]; omega), int_eq (by rw [K2.out]; omega), by go_num, Hs.out, rfl⟩
              · rw [if_neg h0y] at hk1 hk2
                have K1 := Lib.hid hk1
                have K2 := Lib.hid hk2
                have Hs := Lib.hid (hsm.step hy (by omega))
                clear hy hk1 hk2 hsm
                generalize kraft (l.take k) = s at *
                generalize cntPos (l.take k) = m at *
                go_wp2
                go_roundg (N + 1 - (k + 1))
                case measure => omega
                case rel => exact ⟨k + 1, by omega, by omega, int_eq (by rw [K1.out]; omega), int_eq (by rw [K2.out]; omega), by go_num, Hs.out, rfl⟩
          · obtain rfl : k = N + 1 := by omega
            have HM := Lib.hid (mayL_end HL.out (by omega) HX.out HX0.out hsm)
            clear hsm
            generalize kraft (l.take (N + 1)) = s at *
            generalize cntPos (l.take (N + 1)) = m at *
            have F1 : ((s : Int) == 2048) = (s == 2048) := by rw [Bool.eq_iff_iff, beq_iff_eq, beq_iff_eq]; omega
            have F2 : ((m : Int) == 1) = (m == 1) := by rw [Bool.eq_iff_iff, beq_iff_eq, beq_iff_eq]; omega
            have F3 : ((x : Int) == 1) = (x == 1) := by rw [Bool.eq_iff_iff, beq_iff_eq, beq_iff_eq]; omega
            generalize (s == 2048) = b1 at *
            generalize (m == 1) = b2 at *
            generalize (x == 1) = b3 at *
            cases b1 <;> cases b2 <;> cases b3
            all_goals
              go_wp2
              go_ret
              exact ⟨ret_bool (by rw [HM.out]; rfl), rfl⟩
end Go.Proofs.YtaelgbbnmjbjiaaGreat
namespace Go.Proofs.YtaelgbbnmjbjiaaGreat
open Go.RowKit
def BlkN (w : World) (g : Nat) (t : TypeId) (l : List Nat) : Prop := Blk w g t (l.map natv).toArray
theorem BlkN.cell {w : World} {g : Nat} {t : TypeId} {l : List Nat} (h : BlkN w g t l) {i x : Nat} (hx : l[i]? = some x) : w.cell? ⟨g, i, none⟩ = some (.int .i64 (x : Int)) := by
  rw [Blk.cell h, List.getElem?_toArray, List.getElem?_map, hx]; rfl
theorem BlkN.set {w : World} {g : Nat} {t : TypeId} {l : List Nat} (h : BlkN w g t l) (i x : Nat) : BlkN (w.setCell ⟨g, i, none⟩ (.int .i64 (x : Int))) g t (l.set i x) := by
  have := Blk.set h i (.int .i64 (x : Int))
  unfold BlkN
  rw [List.map_set]
  simpa [natv] using this
theorem BlkN.kept {w w' : World} {row : Option Nat} {g : Nat} {t : TypeId} {l : List Nat} (h : BlkN w g t l) (hg : w.grownBy w' row) (hne : row ≠ some g) : BlkN w' g t l := Blk.kept h hg hne
theorem getN {l : List Nat} {i : Nat} (h : i < l.length) : ∃ x, l[i]? = some x := ⟨l[i], List.getElem?_eq_getElem h⟩
def cStep (l : List Nat) (k : Nat) (s : List Nat × Nat) (b : Nat) : List Nat × Nat := if l[b]? = some k then (s.1.set b s.2, s.2 + 1) else s
def cRow (l : List Nat) (k : Nat) (s : List Nat × Nat) : Nat → List Nat × Nat
  | 0 => s
  | m + 1 => cStep l k (cRow l k s m) m
def cAll (l : List Nat) : Nat → List Nat × Nat
  | 0 => (List.replicate 256 0, 0)
  | k + 1 => cRow l (k + 1) ((cAll l k).1, 2 * (cAll l k).2) l.length
def codesL (l : List Nat) : List Nat := (cAll l 11).1
theorem cRow_facts (l : List Nat) (k : Nat) (s : List Nat × Nat) : ∀ m, (cRow l k s m).1.length = s.1.length ∧ (cRow l k s m).2 ≤ s.2 + m
  | 0 => ⟨rfl, by simp [cRow]⟩
  | m + 1 => by
    have h := cRow_facts l k s m
    rw [cRow]; unfold cStep
    split
    · simp; omega
    · exact ⟨h.1, by omega⟩
theorem cAll_facts (l : List Nat) (hl : l.length ≤ 256) : ∀ k, (cAll l k).1.length = 256 ∧ (cAll l k).2 + 256 ≤ 256 * 2 ^ k
  | 0 => ⟨List.length_replicate, by show 0 + 256 ≤ 256 * 2 ^ 0; omega⟩
  | k + 1 => by
    have h := cAll_facts l hl k
    have h2 := cRow_facts l (k + 1) ((cAll l k).1, 2 * (cAll l k).2) l.length
    have e : 2 ^ (k + 1) = 2 * 2 ^ k := by rw [Nat.pow_succ]; omega
    refine ⟨h2.1.trans h.1, ?_⟩
    show (cRow l (k + 1) ((cAll l k).1, 2 * (cAll l k).2) l.length).2 + 256 ≤ 256 * 2 ^ (k + 1)
    have h3 : (cRow l (k + 1) ((cAll l k).1, 2 * (cAll l k).2) l.length).2 ≤ 2 * (cAll l k).2 + l.length := h2.2
    rw [e]; omega
theorem info138 : (Tryz.prog.info? 138).map (·.size) = some 256 := by kernel_rfl
theorem zero138 : Tryz.zeroCells138 = ((List.replicate 256 0).map natv).toArray := by kernel_rfl
set_option maxHeartbeats 2000000 in
set_option maxRecDepth 10000 in
theorem codes_any (A : Option Addr) (n c : Nat) (l : List Nat) (w : World) (hl : l.length = n) (hr : Ns w A l) (hn : n ≤ 256) (hb : ∀ x ∈ l, x ≤ 11) :
    Calls Tryz.prog 107 #[.slice A n c] w fun e w' => e = .returned (.agg ((codesL l).map natv).toArray) ∧ Below w.heap.size w w' := by
  have HL := Lib.hid hl
  have HR := Lib.hid hr
  have HB := Lib.hid hb
  have hz1 : BlkN ((w.alloc (.cells Tryz.zeroCells138 138)).alloc (.cells Tryz.zeroCells138 138)) (w.heap.size + 1) 138 (List.replicate 256 0) := by
    unfold BlkN; rw [← zero138]; have := Blk.new (w.alloc (.cells Tryz.zeroCells138 138)) 138 Tryz.zeroCells138
    simpa using this
  have hz0 : BlkN ((w.alloc (.cells Tryz.zeroCells138 138)).alloc (.cells Tryz.zeroCells138 138)) w.heap.size 138 (List.replicate 256 0) := by
    unfold BlkN; rw [← zero138]; exact (Blk.new w 138 Tryz.zeroCells138).later ((Below.refl _ _).alloc (Nat.le_refl _) _)
  have hbl : Below w.heap.size w ((w.alloc (.cells Tryz.zeroCells138 138)).alloc (.cells Tryz.zeroCells138 138)) := ((Below.refl _ _).alloc (Nat.le_refl _) _).alloc (by simp) _
  clear hl hr hb
  go_enter Tryz.func107, Tryz.ntmps107
  go_wp2
  generalize ((w.alloc (.cells Tryz.zeroCells138 138)).alloc (.cells Tryz.zeroCells138 138)) = w0 at *
  go_loopg [4, 5] 12 (fun g s4 s5 wr => ∃ k : Nat, 1 ≤ k ∧ k ≤ 12 ∧ 12 - k ≤ g ∧ s4 = .int .i64 ((cAll l (k - 1)).2 : Nat) ∧ s5 = .int .i64 k ∧ BlkN wr (w.heap.size + 1) 138 (cAll l (k - 1)).1 ∧ BlkN wr w.heap.size 138 (List.replicate 256 0) ∧ Below w.heap.size w wr)
  case atStart => exact ⟨1, Nat.le_refl _, by omega, by omega, rfl, rfl, hz1, hz0, hbl⟩
  case round =>
    obtain ⟨k, hk1, hk, hg, rfl, rfl, hB1, hB0, hbel⟩ := hrel
    clear hz0 hz1 hbl
    obtain ⟨wo, rfl⟩ : ∃ wo : World, wo = wr := ⟨_, rfl⟩
    by_cases hlt : k ≤ 11
    · have hf := cAll_facts l (by rw [HL.out]; exact hn) (k - 1)
      have hp11 : 2 ^ (k - 1) ≤ 2048 := (Nat.pow_le_pow_right (by omega) (by omega) : 2 ^ (k - 1) ≤ 2 ^ 11)
      have hcode : (cAll l (k - 1)).2 ≤ 1000000 := by omega
      have hnext : cAll l k = cRow l k ((cAll l (k - 1)).1, 2 * (cAll l (k - 1)).2) l.length := by
        obtain ⟨k', rfl⟩ : ∃ k', k = k' + 1 := ⟨k - 1, by omega⟩
        rfl
      have HF := Lib.hid hf.1
      have HN := Lib.hid hnext
      clear hf hp11 hnext
      generalize cAll l (k - 1) = st at *
      obtain ⟨st1, st2⟩ := st
      have hB1' := Lib.hid hB1
      clear hB1
      go_wp2
      go_loopg [4, 16] n (fun g s4 s16 wr => ∃ j : Nat, j ≤ n ∧ n - j ≤ g ∧ s4 = .int .i64 ((cRow l k (st1, 2 * st2) j).2 : Nat) ∧ s16 = .int .i64 j ∧ BlkN wr (w.heap.size + 1) 138 (cRow l k (st1, 2 * st2) j).1 ∧ BlkN wr w.heap.size 138 (List.replicate 256 0) ∧ Below w.heap.size w wr)
      case atStart => exact ⟨0, Nat.zero_le _, by omega, int_eq (by show _ = ((2 * st2 : Nat) : Int); omega), rfl, hB1'.out, hB0, hbel⟩
      case round =>
        obtain ⟨j, hj, hgj, rfl, rfl, hC1, hC0, hbel2⟩ := hrel
        have hcf := cRow_facts l k (st1, 2 * st2) j
        have hC1' := Lib.hid hC1
        have hC0' := Lib.hid hC0
        have hB2 := Lib.hid hbel2
        have HCF := Lib.hid hcf.1
        have hcode2 : (cRow l k (st1, 2 * st2) j).2 ≤ 3000000 := by have := hcf.2; simp only at this; omega
        by_cases hjn : j < n
        · obtain ⟨b, o, x, hA, hx, hc⟩ := HR.out.at_ (by rw [HL.out]; exact hjn : j < l.length)
          subst hA
          have hlt2 := block_lt hc
          have hc2 : wr.cell? ⟨b, o + j, none⟩ = some (.int .i64 (x : Int)) := by rw [hB2.out.cell (by simpa using hlt2)]; exact hc
          have hs : cRow l k (st1, 2 * st2) (j + 1) = cStep l k (cRow l k (st1, 2 * st2) j) j := rfl
          have hold := HCF.out
          simp only at hold
          by_cases hxk : x = k
          · subst hxk
            obtain ⟨y, hy⟩ := getN (by rw [hold, HF.out]; omega : j < (cRow l x (st1, 2 * st2) j).1.length)
            have hcell := hC1.cell hy
            have hfr := Blk.frozen hC1 j
            have hst : cStep l x (cRow l x (st1, 2 * st2) j) j = ((cRow l x (st1, 2 * st2) j).1.set j (cRow l x (st1, 2 * st2) j).2, (cRow l x (st1, 2 * st2) j).2 + 1) := by unfold cStep; rw [if_pos hx]
            rw [hst] at hs
            have HS := Lib.hid hs
            have hj256 : (j : Int) < 256 := by omega
            clear hC1 hC0 hbel2 hcf hx hs hst hold hy hc
            generalize cRow l x (st1, 2 * st2) j = cr at *
            obtain ⟨cr1, cr2⟩ := cr
            go_wp2
            go_roundg (n - (j + 1))
            case measure => omega
            case rel => exact ⟨j + 1, by omega, by omega, int_eq (by rw [HS.out]; omega), by go_num, by rw [HS.out]; exact hC1'.out.set j cr2, BlkN.kept hC0'.out (grown_set _ ⟨_, j, none⟩ _) (by simp), hB2.out.setCell (by simp) _⟩
          · have hst : cStep l k (cRow l k (st1, 2 * st2) j) j = cRow l k (st1, 2 * st2) j := by unfold cStep; rw [if_neg (by rw [hx]; simpa using hxk)]
            rw [hst] at hs
            have HS := Lib.hid hs
            have hne : ((x : Int) == (k : Int)) = false := beq_eq_false_iff_ne.2 (by omega)
            clear hC1 hC0 hbel2 hcf hx hs hst hold hxk hc
            generalize cRow l k (st1, 2 * st2) j = cr at *
            obtain ⟨cr1, cr2⟩ := cr
            go_wp2
            go_roundg (n - (j + 1))
            case measure => omega
            case rel => exact ⟨j + 1, by omega, by omega, int_eq (by rw [HS.out]), by go_num, by rw [HS.out]; exact hC1'.out, hC0'.out, hB2.out⟩
        · obtain rfl : j = n := by omega
          rw [HL.out] at HN
          clear hC1 hC0 hbel2 hcf
          generalize cRow l k (st1, 2 * st2) j = cr at *
          go_wp2
          go_roundg (12 - (k + 1))
          case measure => omega
          case rel => exact ⟨k + 1, by omega, by omega, by omega, int_eq (by rw [Nat.add_sub_cancel, HN.out]), by go_num, by rw [Nat.add_sub_cancel, HN.out]; exact hC1'.out, hC0'.out, hB2.out⟩
    · obtain rfl : k = 12 := by omega
      have hf := cAll_facts l (by rw [HL.out]; exact hn) 11
      have hB1' := Lib.hid hB1
      have hB0' := Lib.hid hB0
      have hbel' := Lib.hid hbel
      have HC := Lib.hid (rfl : codesL l = (cAll l 11).1)
      have hlen : (((cAll l 11).1).map natv).toArray.size = 256 := by simp [hf.1]
      have HLen := Lib.hid hlen
      have HF := Lib.hid hf.1
      clear hB1 hB0 hbel hf hlen hlt
      go_wp2_with (first | (refine wpList_load_row rfl _ _ rfl (w.heap.size + 1) rfl 138 _ (0, 0) _ hB1'.out Tryz.underlying138 rfl ?_ ?_) | (refine wpList_store_row rfl _ _ _ rfl w.heap.size _ rfl rfl 138 _ hB0'.out ?_ ?_ ?_ ?_))
      · obtain ⟨a, h1, h2⟩ := Option.map_eq_some_iff.1 info138
        exact ⟨a, h1, by rw [h2, HF.out]⟩
      · obtain ⟨a, h1, h2⟩ := Option.map_eq_some_iff.1 info138
        exact ⟨a, h1, by rw [h2, HF.out]⟩
      · exact HF.out.symm
      · intro x _; rfl
      · have hrow := setRow_heap wo w.heap.size _ ((List.map natv (cAll l 11).1).toArray) 138 (0, 0) hB0'.out
        refine bodyPost_ret (v := .agg (List.map natv (codesL l)).toArray) (results_cell_row rfl _ _ w.heap.size 138 _ (0, 0) _ rfl hrow Tryz.underlying138 rfl ?_) rfl ⟨rfl, ?_⟩
        · unfold codesL; rw [HLen.out]; exact info138
        · exact hbel'.out.trans ⟨rfl, rfl, rfl, by simp, fun k hk => setRow_other wo w.heap.size k _ (by omega)⟩
end Go.Proofs.YtaelgbbnmjbjiaaGreat
namespace Go.Proofs.YtaelgbbnmjbjiaaGreat
open Go.RowKit
theorem zeros_one (z : Value) (k : Nat) (hc : z.cells = #[z]) : Builtin.zeroCells z.cells k = (List.replicate k z).toArray := by
  rw [hc]
  unfold Builtin.zeroCells
  apply Array.ext
  · simp
  · intro i h1 h2
    simp [Nat.mod_one]
theorem run_append_zeros {P : Program} (w : World) {t e tn : TypeId} {z : Value} {bytes : Nat} (E : Elem P t e z bytes) (kq kn : IntKind) (htn : P.underlying tn = some (.int kn)) (ty : TypeId) (base : Nat) (A : Option Addr) (n c : Nat) (xs : List Value) (hown : Own w base e A n c xs)
    (k : Nat) (h0 : 0 < k) (h1 : z.oneCell' = true) (hb : (n + k) * bytes ≤ 140737488355328) (h63 : n + k ≤ 9223372036854775807) (hbase : base ≤ w.heap.size) :
    ∃ A' c' w', (Builtin.append_ #[t, tn] ty #[.slice A n c, .int kq k]).run P w = .ok (.slice A' (n + k) c') w' ∧ Own w' base e A' (n + k) c' (xs ++ List.replicate k z) ∧ w.grownBy w' (bk A) ∧ (bk A' = bk A ∨ bk A' = some w.heap.size) := by
  obtain ⟨i, hi, hz0, hz1, hz2⟩ := info_parts E.hi
  have hkb : k * bytes ≤ (n + k) * bytes := Nat.mul_le_mul_right _ (by omega)
  have hlen : (xs ++ List.replicate k z).length = (n + k) * 1 := by rw [List.length_append, hown.length, List.length_replicate, Nat.mul_one]
  have grown : ∀ (old : Nat), old < n + k → ∀ (row : Option Nat),
      Own (w.drew.alloc (.cells (xs.toArray ++ Builtin.zeroCells z.cells k ++ Builtin.zeroCells z.cells (grownCap w (n + k) old e - (n + k))) e)) base e (some ⟨w.heap.size, 0, none⟩) (n + k) (grownCap w (n + k) old e) (xs ++ List.replicate k z) ∧
      w.grownBy (w.drew.alloc (.cells (xs.toArray ++ Builtin.zeroCells z.cells k ++ Builtin.zeroCells z.cells (grownCap w (n + k) old e - (n + k))) e)) row := by
    intro old ho row
    have hge := grownCap_ge w (n + k) old e
    have hcm : grownCap w (n + k) old e ≤ maxLen := grownCap_le_maxLen w (n + k) old e (by unfold maxLen; omega)
    refine ⟨⟨hlen, .inr ⟨w.heap.size, _, _, rfl, hbase, heap_alloc_new w.drew _, hge, hcm, ?_, ?_⟩⟩, ⟨rfl, rfl, rfl, by simp, fun k hk _ => heap_alloc_old w.drew _ hk⟩⟩
    · rw [zeros_one z k E.hc]
      simp only [Array.size_append, List.size_toArray, size_zeroCells, E.hz, hown.length, List.length_replicate]
      omega
    · rw [zeros_one z k E.hc, ← hlen]
      simp only [Array.toList_append]
      exact List.take_left
  rcases hown.2 with ⟨hv, rfl⟩ | ⟨g, cap, cur, hv, hbg, hg, hnc, hcm, hcs, htake⟩
  · simp only [Value.slice.injEq] at hv
    obtain ⟨rfl, -, rfl⟩ := hv
    have hx : xs = [] := List.eq_nil_of_length_eq_zero hown.length
    subst hx
    have hr := Lib.run_append_nil_zeros (P := P) w t tn ty e i z kq kn E.ht htn hi hz0 k h0 (by omega) (by omega) (by rw [hz2]; omega)
    have hgr := grown 0 (by omega) none
    simp only [Nat.zero_add, List.nil_append, Array.empty_append] at hgr ⊢
    exact ⟨_, _, _, hr, hgr.1, hgr.2, .inr rfl⟩
  · simp only [Value.slice.injEq] at hv
    obtain ⟨rfl, -, rfl⟩ := hv
    by_cases hroom : n + k ≤ c
    · have hfit : n * 1 + (List.replicate k z).length ≤ cur.size := by rw [List.length_replicate, hcs]; omega
      have hst := run_storeCells_at P g (n * 1) e (List.replicate k z) 0 cur w hg (by simpa using hfit) (fun u hu => by rw [List.eq_of_mem_replicate hu]; exact h1)
      simp only [Nat.add_zero] at hst
      have hw : IntKind.i64.wrap (k : Int) = k := by rw [IntKind.wrap_i64]; omega
      have h48i : ¬ (281474976710656 < (k : Int) * (i.bytes : Int)) := by
        rw [← Int.natCast_mul, hz2]
        omega
      have hneg : ¬ ((k : Int) < 0) := by omega
      have hk : k ≠ 0 := by omega
      have hr : (Builtin.append_ #[t, tn] ty #[.slice (some ⟨g, 0, none⟩) n c, .int kq k]).run P w = .ok (.slice (some ⟨g, 0, none⟩) (n + k) c) (w.setRow g (cur.toList.take (n * 1) ++ List.replicate k z ++ cur.toList.drop (n * 1 + (List.replicate k z).length)).toArray) := by
        have hzc := zeros_one z k E.hc
        simp only [Nat.mul_one] at hst
        simp [Builtin.append_, run_underlying E.ht, run_underlying htn, sizeOf, typeInfo, zeroValue, hi, hz0, hz1, asInt, asIntOf, hw, hneg, h48i, hk, hroom, Addr.add_lit, hzc, hst]
      refine ⟨_, _, _, hr, ⟨hlen, .inr ⟨g, c, _, rfl, hbg, setRow_heap w g cur _ e _ hg, hroom, hcm, ?_, ?_⟩⟩, ⟨rfl, rfl, rfl, by simp, fun k _ hk => setRow_other w g k _ (fun e => hk (by rw [e]; rfl))⟩, .inl rfl⟩
      · simp only [List.size_toArray, List.length_append, List.length_take, List.length_drop, Array.length_toList, List.length_replicate] at hfit ⊢
        omega
      · rw [htake, ← hlen]
        exact List.take_left
    · have holds : ∀ j u, xs[j]? = some u → w.cell? ((⟨g, 0, none⟩ : Addr).add j) = some u := World.ownsRow.cells (g := g) (v := .slice (some ⟨g, 0, none⟩) n c) hown rfl
      have hf := run_firstCells_some (P := P) w.drew i.size n ⟨g, 0, none⟩ n c xs (by rw [hz1, hown.length, Nat.mul_one]) (by simpa using holds)
      have hr := Lib.run_append_grow_zeros (P := P) w t tn ty e i z kq kn E.ht htn hi hz0 (some ⟨g, 0, none⟩) n c xs hf k h0 (by omega) (by omega) (by omega) (by rw [hz2]; omega) (by rw [hz2]; exact growslice_fits (by omega) hb)
      have hgr := grown c (by omega) (some g)
      exact ⟨_, _, _, hr, hgr.1, hgr.2, .inr rfl⟩
theorem wpList_append_zeros {P : Program} {w : World} {ops : Array Oper} {rest : List Oper} {o : Oper} {a : Act} {Q : Exit → Act → World → Prop} (hgd : o.guard = none) (s x : Operand) {t e tn : TypeId} {z : Value} {bytes : Nat} (E : Elem P t e z bytes) (kq kn : IntKind) (htn : P.underlying tn = some (.int kn))
    (ho : o.op = .call { callee := .builtin .append, args := #[s, x], argTypes := #[t, tn] })
    (base : Nat) (A : Option Addr) (n c : Nat) (xs : List Value) (hs : a.eval s = .slice A n c) (hown : Own w base e A n c xs)
    (k : Nat) (hx : a.eval x = .int kq k) (h0 : 0 < k) (h1 : z.oneCell' = true) (hb : (n + k) * bytes ≤ 140737488355328) (h63 : n + k ≤ 9223372036854775807) (hbase : base ≤ w.heap.size)
    (h : ∀ A' c' w', Own w' base e A' (n + k) c' (xs ++ List.replicate k z) → Below base w w' → w.grownBy w' (bk A) → (bk A' = bk A ∨ bk A' = some w.heap.size) → wpList P ops Q rest (a.put o.dst (.slice A' (n + k) c')) w') : wpList P ops Q (o :: rest) a w := by
  obtain ⟨A', c', w', hrun, h2, h3, h4⟩ := run_append_zeros w E kq kn htn o.type base A n c xs hown k h0 h1 hb h63 hbase
  exact Lib.wpList_append_run w hgd s x t tn ho _ _ hs hx _ _ hrun (h A' c' w' h2 ((Below.refl _ _).grown h3 hbase (fun k hk => (hown.lt hk).1)) h3 h4)
end Go.Proofs.YtaelgbbnmjbjiaaGreat
namespace Go.Proofs.YtaelgbbnmjbjiaaGreat
open Go.RowKit
theorem reader_take_ok (g a c k : Nat) (l : List UInt8) (A : Option Addr) (w : World) (h : IsRow w 156 g l a A c) (hl : l.length ≤ 140737488351232) (hk : k ≤ 32) (hak : a + k ≤ 8 * l.length) :
    Calls Tryz.prog 95 #[.pointer (some ⟨g, 0, none⟩), .int .i64 (k : Int)] w fun e w' => e = .returned (.tuple #[.int .i64 (numAt l a k : Nat), .int .i64 0]) ∧ IsRow w' 156 g l (a + k) A c ∧ w.grownBy w' (some g) := by
  have hm : mayE (k : Int) ((8 * l.length - a : Nat) : Int) = 0 := by unfold mayE; rw [if_neg (by omega), if_neg (by omega)]
  have h1 : takeV l a (k : Int) = .tuple #[.int .i64 (numAt l a k : Nat), .int .i64 0] := by unfold takeV; rw [if_pos hm, Int.toNat_natCast]
  have h2 : takeA l a (k : Int) = a + k := by unfold takeA; rw [if_pos hm, Int.toNat_natCast]
  have := reader_take g a c l A (k : Int) w h hl (by omega) (by omega) (by omega)
  rwa [h1, h2] at this
theorem reader_take_bad (g a c k : Nat) (l : List UInt8) (A : Option Addr) (w : World) (h : IsRow w 156 g l a A c) (hl : l.length ≤ 140737488351232) (hk : k ≤ 32) (ha : a ≤ 8 * l.length) (hak : 8 * l.length < a + k) :
    Calls Tryz.prog 95 #[.pointer (some ⟨g, 0, none⟩), .int .i64 (k : Int)] w fun e w' => e = .returned (.tuple #[.int .i64 0, .int .i64 3]) ∧ IsRow w' 156 g l a A c ∧ w.grownBy w' (some g) := by
  have hm : mayE (k : Int) ((8 * l.length - a : Nat) : Int) = 3 := by unfold mayE; rw [if_neg (by omega), if_pos (by omega)]
  have h1 : takeV l a (k : Int) = .tuple #[.int .i64 0, .int .i64 3] := by unfold takeV; rw [hm]; rfl
  have h2 : takeA l a (k : Int) = a := by unfold takeA; rw [hm]; rfl
  have := reader_take g a c l A (k : Int) w h hl ha (by omega) (by omega)
  rwa [h1, h2] at this
theorem IsRow.keptN {w w' : World} {t g a c base n' c' : Nat} {l : List UInt8} {A A' : Option Addr} {xs : List Nat} (h : IsRow w t g l a A c) (ht : 3 ≠ t) (ho : OwnN w base A' n' c' xs) (hg : w.grownBy w' (bk A')) : IsRow w' t g l a A c :=
  h.kept hg (Own.ne_blk ho h.blk ht) (Own.ne_own h.own ho (by decide))
theorem OwnN.keptR {w w' : World} {t g a c base n' c' : Nat} {l : List UInt8} {A A' : Option Addr} {xs : List Nat} (ho : OwnN w base A' n' c' xs) (h : IsRow w t g l a A c) (ht : 3 ≠ t) (hg : w.grownBy w' (some g)) : OwnN w' base A' n' c' xs :=
  Own.kept ho hg (.inr (Own.ne_blk ho h.blk ht))
theorem ownN_snoc {w : World} {base n c x : Nat} {A : Option Addr} {out : List Nat} (h : Own w base 3 A n c (out.map natv ++ [.int .i64 (x : Int)])) : OwnN w base A n c (out ++ [x]) := by
  unfold OwnN; rw [List.map_append]; exact h
theorem ownN_zeros {w : World} {base n c k : Nat} {A : Option Addr} {out : List Nat} (h : Own w base 3 A n c (out.map natv ++ List.replicate k (.int .i64 0))) : OwnN w base A n c (out ++ List.replicate k 0) := by
  unfold OwnN; rw [List.map_append, List.map_replicate]; exact h
def tabGo (l : List UInt8) (n : Nat) : Nat → Nat → List Nat → Bool → Option (List Nat × Nat)
  | 0, a, out, _ => some (out, a)
  | f + 1, a, out, short =>
    if n ≤ out.length then some (out, a)
    else if 8 * l.length < a + 4 then none
    else if numAt l a 4 ≠ 0 then tabGo l n f (a + 4) (out ++ [numAt l a 4]) false
    else if 8 * l.length < a + 4 + 4 then none
    else if short = true ∨ n - out.length < numAt l (a + 4) 4 + 1 then none
    else tabGo l n f (a + 4 + 4) (out ++ List.replicate (numAt l (a + 4) 4 + 1) 0) (decide (numAt l (a + 4) 4 < 15))
def tabEnd (l : List UInt8) : Option (List Nat × Nat) → Option (List Nat × Nat)
  | none => none
  | some (out, a) => if numAt l a ((8 * l.length - a) % 8) ≠ 0 ∨ mayL out = false then none else some (out, l.length - (8 * l.length - (a + (8 * l.length - a) % 8)) / 8)
def tableL (l : List UInt8) : Option (List Nat × Nat) :=
  if 8 * l.length < 8 then none else tabEnd l (tabGo l (numAt l 0 8 + 1) (numAt l 0 8 + 1) 8 [] false)
def tabPost (l : List UInt8) (w : World) (e : Ending) (w' : World) : Prop :=
  Below w.heap.size w w' ∧ match tableL l with
  | none => ∃ E : Int, E ≠ 0 ∧ e = .returned (.tuple #[.slice none 0 0, .int .i64 0, .int .i64 E])
  | some (out, k) => ∃ A' c', e = .returned (.tuple #[.slice A' out.length c', .int .i64 (k : Int), .int .i64 0]) ∧ OwnN w' w.heap.size A' out.length c' out
theorem tabPost_bad {l : List UInt8} {w w' : World} {E : Int} (h : tableL l = none) (hE : E ≠ 0) (hb : Below w.heap.size w w') : tabPost l w (.returned (.tuple #[.slice none 0 0, .int .i64 0, .int .i64 E])) w' := by
  unfold tabPost; rw [h]; exact ⟨hb, E, hE, rfl⟩
theorem tabPost_ok {l : List UInt8} {w w' w5 : World} {out : List Nat} {k m co : Nat} {A : Option Addr} {i : Int} (h : tableL l = some (out, k)) (hm : out.length = m) (_ : OwnN w5 w.heap.size A m co out) (ho : OwnN w' w.heap.size A m co out) (hb : Below w.heap.size w w') (hi : i = (k : Int)) :
    tabPost l w (.returned (.tuple #[.slice A m co, .int .i64 i, .int .i64 0])) w' := by
  subst hm; subst hi
  unfold tabPost; rw [h]; exact ⟨hb, A, co, rfl, ho⟩
theorem tableL_of {l : List UInt8} {n : Nat} {R : Option (List Nat × Nat)} (h8 : ¬ 8 * l.length < 8) (hn : n = numAt l 0 8 + 1) (h : tabGo l n n 8 [] false = R) :
    tableL l = tabEnd l R := by
  unfold tableL; rw [if_neg h8, ← hn, h]
theorem tabGo_done {l : List UInt8} {n f a : Nat} {out : List Nat} {s : Bool} (h : n ≤ out.length) : tabGo l n f a out s = some (out, a) := by
  cases f with
  | zero => rfl
  | succ f => rw [tabGo, if_pos h]
theorem snoc15 {out : List Nat} {x : Nat} (h : ∀ y ∈ out, y ≤ 15) (hx : x ≤ 15) : ∀ y ∈ out ++ [x], y ≤ 15 := by
  intro y hy
  rcases List.mem_append.1 hy with h1 | h1
  · exact h y h1
  · rw [List.mem_singleton.1 h1]; exact hx
theorem zeros15 {out : List Nat} {k : Nat} (h : ∀ y ∈ out, y ≤ 15) : ∀ y ∈ out ++ List.replicate k 0, y ≤ 15 := by
  intro y hy
  rcases List.mem_append.1 hy with h1 | h1
  · exact h y h1
  · rw [List.eq_of_mem_replicate h1]; omega
set_option maxHeartbeats 2000000 in
set_option maxRecDepth 10000 in
theorem huffTable (A : Option Addr) (n c : Nat) (l : List UInt8) (w : World) (hl : l.length = n) (hr : Bs w A l) (hn : n ≤ 140737488351232) :
    Calls Tryz.prog 91 #[.slice A n c] w (tabPost l w) := by
  have HNR := Lib.hid (newReader A n c l w hl hr (by omega))
  have HL := Lib.hid hl
  clear hr hl
  go_enter Tryz.func91, Tryz.ntmps91
  go_wp2_with fail
  refine HNR.out.mono ?_
  rintro e w1 ⟨g, Ar, cr, rfl, hg, hAr, hrow, hb1⟩
  have HB1 := Lib.hid hb1
  have HAR := Lib.hid hAr
  clear hb1 hAr HNR
  by_cases h8 : 8 * l.length < 8
  · have HT := Lib.hid (reader_take_bad g 0 cr 8 l Ar w1 hrow (by rw [HL.out]; omega) (by omega) (by omega) (by omega))
    have HM := Lib.hid (by unfold tableL; rw [if_pos h8] : tableL l = none)
    clear h8 hrow
    go_wp2_with fail
    refine HT.out.mono ?_
    rintro e w2 ⟨rfl, hrow2, hgr2⟩
    have HB2 := Lib.hid (HB1.out.trans (below_grown hgr2 (HB1.out.size) (fun k hk => by cases hk; exact hg)))
    clear hrow2 hgr2
    go_wp2
    go_ret3
    exact tabPost_bad HM.out (by omega) HB2.out
  · have HT := Lib.hid (reader_take_ok g 0 cr 8 l Ar w1 hrow (by rw [HL.out]; omega) (by omega) (by omega))
    clear hrow
    go_wp2_with fail
    refine HT.out.mono ?_
    rintro e w2 ⟨rfl, hrow2, hgr2⟩
    have HB2 := Lib.hid (HB1.out.trans (below_grown hgr2 (HB1.out.size) (fun k hk => by cases hk; exact hg)))
    have hlt := numAt_lt l 0 8
    generalize hN : numAt l 0 8 = N0 at *
    obtain ⟨R, hR⟩ : ∃ R, tabGo l (N0 + 1) (N0 + 1) 8 [] false = R := ⟨_, rfl⟩
    have HM := Lib.hid (tableL_of h8 (by rw [hN]) hR)
    have HR := Lib.hid hR
    have HROW := Lib.hid hrow2
    have HG := Lib.hid hg
    have H8 := Lib.hid (by omega : 8 ≤ 8 * l.length)
    clear hR hN h8 hrow2 hgr2 HT hg
    go_wp2
    go_loopg [8, 9] (N0 + 1) (fun gg s8 s9 wr => ∃ (f a m co : Nat) (Ao : Option Addr) (out : List Nat) (short : Bool), N0 + 1 - m ≤ f ∧ m ≤ N0 + 1 ∧ N0 + 1 - m ≤ gg ∧ s8 = .slice Ao m co ∧ s9 = .bool short ∧ OwnN wr w.heap.size Ao m co out ∧
      IsRow wr 156 g l a Ar cr ∧ a ≤ 8 * l.length ∧ tabGo l (N0 + 1) f a out short = R ∧ (∀ x ∈ out, x ≤ 15) ∧ Below w.heap.size w wr)
    case atStart => exact ⟨N0 + 1, 8, 0, 0, none, [], false, by omega, by omega, by omega, rfl, rfl, OwnN.nil _ _, HROW.out, H8.out, HR.out, by simp, HB2.out⟩
    case round =>
      obtain ⟨f, a, m, co, Ao, out, short, hf, hmn, hgg, rfl, rfl, hown, hrow, ha, hgo, h15, hbel⟩ := hrel
      have hlen := OwnN.length hown
      by_cases hlt2 : m < N0 + 1
      · obtain ⟨f, rfl⟩ : ∃ f', f = f' + 1 := ⟨f - 1, by omega⟩
        rw [tabGo, if_neg (by omega)] at hgo
        have hne15 := numAt_lt l a 4
        by_cases h4 : 8 * l.length < a + 4
        · have HT := Lib.hid (reader_take_bad g a cr 4 l Ar wr hrow (by rw [HL.out]; omega) (by omega) ha h4)
          rw [if_pos h4] at hgo
          have HM2 := Lib.hid (HM.out.trans (by rw [← hgo]; rfl) : tableL l = none)
          have HBel := Lib.hid hbel
          clear hgo h15 hown hrow hbel hlen hne15
          go_wp2_with fail
          refine HT.out.mono ?_
          rintro e w3 ⟨rfl, -, hgr⟩
          go_wp2
          go_ret3
          exact tabPost_bad HM2.out (by omega) (HBel.out.trans (below_grown hgr HBel.out.size (fun k hk => by cases hk; exact HG.out)))
        · have HT := Lib.hid (reader_take_ok g a cr 4 l Ar wr hrow (by rw [HL.out]; omega) (by omega) (by omega))
          rw [if_neg h4] at hgo
          have HO := Lib.hid (fun w' hgr => OwnN.keptR (w' := w') hown hrow (by decide) hgr)
          have HBel := Lib.hid hbel
          have HLen := Lib.hid hlen
          have H15 := Lib.hid h15
          have HGO := Lib.hid hgo
          clear hgo h15 hown hrow hbel hlen
          generalize hx : numAt l a 4 = x at *
          clear hx
          go_wp2_with fail
          refine HT.out.mono ?_
          rintro e w3 ⟨rfl, hrow3, hgr⟩
          have HO3 := Lib.hid (HO.out w3 hgr)
          have HR3 := Lib.hid hrow3
          have HB3 := Lib.hid (HBel.out.trans (below_grown hgr HBel.out.size (fun k hk => by cases hk; exact HG.out)))
          clear HT HO hrow3 hgr
          by_cases hx0 : x = 0
          · have hxe : ((x : Int) == 0) = true := beq_iff_eq.2 (by omega)
            rw [if_neg (by omega)] at HGO
            by_cases h8 : 8 * l.length < a + 4 + 4
            · have HT := Lib.hid (reader_take_bad g (a + 4) cr 4 l Ar w3 HR3.out (by rw [HL.out]; omega) (by omega) (by omega) h8)
              rw [if_pos h8] at HGO
              have HM2 := Lib.hid (HM.out.trans (by rw [← HGO.out]; rfl) : tableL l = none)
              clear HGO h8 h4
              go_wp2_with fail
              refine HT.out.mono ?_
              rintro e w4 ⟨rfl, -, hgr⟩
              go_wp2
              go_ret3
              exact tabPost_bad HM2.out (by omega) (HB3.out.trans (below_grown hgr HB3.out.size (fun k hk => by cases hk; exact HG.out)))
            · have HT := Lib.hid (reader_take_ok g (a + 4) cr 4 l Ar w3 HR3.out (by rw [HL.out]; omega) (by omega) (by omega))
              rw [if_neg h8] at HGO
              have hyl := numAt_lt l (a + 4) 4
              generalize hy : numAt l (a + 4) 4 = y at *
              have H8b := Lib.hid (by omega : a + 4 + 4 ≤ 8 * l.length)
              clear hy h8 h4
              go_wp2_with fail
              refine HT.out.mono ?_
              rintro e w4 ⟨rfl, hrow4, hgr⟩
              have HO4 := Lib.hid (OwnN.keptR HO3.out HR3.out (by decide) hgr)
              have HR4 := Lib.hid hrow4
              have HB4 := Lib.hid (HB3.out.trans (below_grown hgr HB3.out.size (fun k hk => by cases hk; exact HG.out)))
              clear HT hrow4 hgr
              cases short with
              | true =>
                rw [if_pos (.inl rfl)] at HGO
                have HM2 := Lib.hid (HM.out.trans (by rw [← HGO.out]; rfl) : tableL l = none)
                clear HGO
                go_wp2
                go_ret3
                exact tabPost_bad HM2.out (by omega) HB4.out
              | false =>
                by_cases hroom : N0 + 1 - m < y + 1
                · rw [if_pos (.inr (by rw [HLen.out]; exact hroom))] at HGO
                  have HM2 := Lib.hid (HM.out.trans (by rw [← HGO.out]; rfl) : tableL l = none)
                  clear HGO
                  have hroom' : (N0 : Int) + 1 - m < (y : Int) + 1 := by omega
                  go_wp2
                  go_ret3
                  exact tabPost_bad HM2.out (by omega) HB4.out
                · rw [if_neg (by rw [HLen.out]; rintro (h | h); cases h; omega)] at HGO
                  have hroom' : (y : Int) + 1 ≤ (N0 : Int) + 1 - m := by omega
                  go_wp2_with (at_builtin; refine wpList_append_zeros rfl _ _ elemN .i64 .i64 Tryz.underlying3 rfl w.heap.size Ao m co (out.map natv) rfl HO4.out (y + 1) ?c0 ?c1 rfl ?c2 ?c3 ?c4 ?_)
                  case c0 => rfl
                  case c1 => omega
                  case c2 => omega
                  case c3 => omega
                  case c4 => exact HB4.out.size
                  intro A' c' w5 hown5 hb5 hgr5 _
                  have HO5 := Lib.hid (ownN_zeros hown5)
                  have HR5 := Lib.hid (IsRow.keptN HR4.out (by decide) HO4.out hgr5)
                  have HB5 := Lib.hid (HB4.out.trans hb5)
                  clear hown5 hb5 hgr5
                  go_wp2
                  go_roundg (N0 + 1 - (m + (y + 1)))
                  case measure => omega
                  case rel => exact ⟨f, a + 4 + 4, m + (y + 1), c', A', out ++ List.replicate (y + 1) 0, decide (y < 15), by omega, by omega, by omega, rfl, by rw [show decide (y < 15) = decide ((y : Int) < 15) from decide_eq_decide.2 (by omega)], HO5.out, HR5.out, H8b.out, HGO.out, zeros15 H15.out, HB5.out⟩
          · have hxne : ((x : Int) == 0) = false := beq_eq_false_iff_ne.2 (by omega)
            rw [if_pos hx0] at HGO
            go_wp2_with (at_builtin; refine wpList_append_one rfl _ _ elemN rfl w.heap.size Ao m co (out.map natv) w3 (.int .i64 (x : Int)) rfl rfl HO3.out rfl rfl ?c1 ?c2 ?c3 ?_)
            case c1 => omega
            case c2 => omega
            case c3 => exact HB3.out.size
            intro A' c' w4 hown4 hb4 hgr4 _
            have HO4 := Lib.hid (ownN_snoc hown4)
            have HR4 := Lib.hid (IsRow.keptN HR3.out (by decide) HO3.out hgr4)
            have HB4 := Lib.hid (HB3.out.trans hb4)
            clear hown4 hb4 hgr4
            go_wp2
            go_roundg (N0 + 1 - (m + 1))
            case measure => omega
            case rel => exact ⟨f, a + 4, m + 1, c', A', out ++ [x], false, by omega, by omega, by omega, rfl, rfl, HO4.out, HR4.out, by omega, HGO.out, snoc15 H15.out (by omega), HB4.out⟩
      · obtain rfl : m = N0 + 1 := by omega
        rw [tabGo_done (by omega)] at hgo
        have hleft : (8 * l.length - a) % 8 < 8 := Nat.mod_lt _ (by omega)
        have HLeft := Lib.hid (reader_left g a cr l Ar wr hrow (by rw [HL.out]; omega) ha)
        have HT := Lib.hid (fun q => reader_take_ok g a cr ((8 * l.length - a) % 8) l Ar (wr.drewN q) (hrow.later (below_drewN wr q)) (by rw [HL.out]; omega) (by omega) (by have := Nat.mod_le (8 * l.length - a) 8; omega))
        have ha8 : a + (8 * l.length - a) % 8 ≤ 8 * l.length := by have := Nat.mod_le (8 * l.length - a) 8; omega
        have HM2 := Lib.hid (HM.out.trans (by rw [← hgo]; rfl) : tableL l = if numAt l a ((8 * l.length - a) % 8) ≠ 0 ∨ mayL out = false then none else some (out, l.length - (8 * l.length - (a + (8 * l.length - a) % 8)) / 8))
        have HLL := Lib.hid (fun wq h => reader_left g (a + (8 * l.length - a) % 8) cr l Ar wq h (by rw [HL.out]; omega) ha8)
        have HO := Lib.hid (fun w' hgr => OwnN.keptR (w' := w') hown hrow (by decide) hgr)
        have HMay := Lib.hid (fun wq h => huffMay Ao (N0 + 1) co out wq hlen h (by omega) (fun x hx => by have := h15 x hx; omega))
        have HBel := Lib.hid hbel
        have HLen := Lib.hid hlen
        clear hgo h15 hown hrow hbel hlen
        generalize hL : 8 * l.length - a = left at *
        have hE : ((left : Int)) % 8 = ((left % 8 : Nat) : Int) := by omega
        generalize left % 8 = q8 at *
        go_wp2_with fail
        refine HLeft.out.mono ?_
        rintro e w3 ⟨rfl, q, rfl⟩
        go_wp2_with fail
        refine (HT.out q).mono ?_
        rintro e w4 ⟨rfl, hrow4, hgr4⟩
        generalize numAt l a q8 = rest at *
        have HO4 := Lib.hid (HO.out w4 (grown_trans (grown_below (below_drewN wr q)) hgr4))
        have HR4 := Lib.hid hrow4
        have HB4 := Lib.hid (HBel.out.trans (below_grown (grown_trans (grown_below (below_drewN wr q)) hgr4) HBel.out.size (fun k hk => by cases hk; exact HG.out)))
        clear hrow4 hgr4 HO HT
        by_cases hrest : rest = 0
        · have hr0 : ((rest : Int) != 0) = false := by rw [hrest]; rfl
          cases hmay : mayL out with
          | false =>
            have HMay4 := Lib.hid (HMay.out w4 (OwnN.ns HO4.out))
            rw [hmay] at HMay4
            have HM3 := Lib.hid (HM2.out.trans (if_pos (.inr hmay)))
            clear hmay
            go_wp2_with fail
            refine HMay4.out.mono ?_
            rintro e w5 ⟨rfl, rfl⟩
            go_wp2
            go_ret3
            exact tabPost_bad HM3.out (by omega) HB4.out
          | true =>
            have HMay4 := Lib.hid (HMay.out w4 (OwnN.ns HO4.out))
            rw [hmay] at HMay4
            have HM3 := Lib.hid (HM2.out.trans (if_neg (by rw [hmay]; rintro (h | h); exact h hrest; cases h)))
            have HLL4 := Lib.hid (HLL.out w4 HR4.out)
            clear hmay
            go_wp2_with fail
            refine HMay4.out.mono ?_
            rintro e w5 ⟨rfl, rfl⟩
            go_wp2_with fail
            refine HLL4.out.mono ?_
            rintro e w6 ⟨rfl, q', rfl⟩
            go_wp2
            go_ret3
            exact tabPost_ok HM3.out HLen.out HO4.out (HO4.out.later (below_drewN _ _)) (HB4.out.trans ((below_drewN w5 q').mono HB4.out.size)) (by have e0 := HL.out; have e1 := IntWalk.wrap64_in (((8 * l.length - (a + q8) : Nat) : Int) / 8) ⟨by omega, by omega⟩; rw [e1, IntWalk.wrap64_in _ ⟨by omega, by omega⟩]; omega)
        · have hr0 : ((rest : Int) != 0) = true := by simpa using hrest
          have HM3 := Lib.hid (HM2.out.trans (if_pos (.inl hrest)))
          go_wp2
          go_ret3
          exact tabPost_bad HM3.out (by omega) HB4.out
end Go.Proofs.YtaelgbbnmjbjiaaGreat
namespace Go.Proofs.YtaelgbbnmjbjiaaGreat
open Go.RowKit Go.Maps
def keyV (a b : Nat) : Value := .agg #[.int .i64 (a : Int), .int .i64 (b : Int)]
def keyL (a b : Nat) : Lit := .string (keyBytes [.int .i64 (a : Int), .int .i64 (b : Int)])
theorem key_at : Tryz.prog.keyTypeAt 2 150 = true := by kernel_rfl
theorem key_tiled : Tryz.prog.tiled 2 150 = true := by kernel_rfl
theorem keyLaw : WideMaps.KeyLaw Tryz.prog 150 := by
  refine deep_law (P := Tryz.prog) (m := 2) (by decide) key_at key_tiled ?_
  rw [Tryz.underlying150]
theorem keyKeyed : Keyed Tryz.prog 150 := Keyed.of_law keyLaw
theorem keyLits_int (d : Nat) {a : Int} (h : (Lit.int .i64 a).wf = true) : Tryz.prog.keyLits (d + 1) 3 [.int .i64 a] = some [.int .i64 a] := by
  rw [Program.keyLits.eq_def]
  simp only [Tryz.underlying3]
  rw [if_pos ⟨trivial, h⟩]
theorem key_cells : Tryz.prog.cellsOf 150 = 2 := by kernel_rfl
theorem int_cells : Tryz.prog.cellsOf 3 = 1 := by kernel_rfl
theorem key_type : Tryz.prog.keyType 150 = true := by kernel_rfl
theorem types_size : ∃ d, Tryz.prog.types.size + 1 = d + 2 := by
  have h : Nat.ble 1 Tryz.prog.types.size = true := by kernel_rfl
  have := Nat.le_of_ble_eq_true h
  exact ⟨Tryz.prog.types.size - 1, by omega⟩
theorem keyLits_key (d : Nat) {a b : Int} (ha : (Lit.int .i64 a).wf = true) (hb : (Lit.int .i64 b).wf = true) : Tryz.prog.keyLits (d + 2) 150 [.int .i64 a, .int .i64 b] = some [.int .i64 a, .int .i64 b] := by
  rw [Program.keyLits.eq_def]
  simp only [Tryz.underlying150, key_cells]
  simp [int_cells, keyLits_int d ha, keyLits_int d hb]
theorem keyOf_key {a b : Nat} (ha : a < 9223372036854775808) (hb : b < 9223372036854775808) : keyOf Tryz.prog 150 (keyV a b) = some (keyL a b) := by
  obtain ⟨d, hd⟩ := types_size
  unfold keyOf keyV keyL
  have hf : (Value.agg #[.int .i64 (a : Int), .int .i64 (b : Int)]).formed Tryz.prog 150 = true := by simp [Value.formed, Tryz.underlying150, key_cells]
  simp only [Tryz.underlying150, key_type, hf, hd]
  simp [Value.cells, keyLits_key d (WalkArith.wf_i64 (n := (a : Int)) (by omega)) (WalkArith.wf_i64 (n := (b : Int)) (by omega))]
theorem keyL_inj {a b a' b' : Nat} (ha : a < 9223372036854775808) (hb : b < 9223372036854775808) (ha' : a' < 9223372036854775808) (hb' : b' < 9223372036854775808) (h : keyL a b = keyL a' b') : a = a' ∧ b = b' := by
  have h1 := keyOf_key ha hb
  rw [h] at h1
  have := keyKeyed.inj h1 (keyOf_key ha' hb')
  unfold keyV at this
  have h2 : (a : Int) = a' ∧ (b : Int) = b' := by simpa using this
  omega
def Mp (w : World) (b n : Nat) (f : Nat → Nat → Option UInt8) : Prop :=
  ∃ D : DataW Unit, w.ownsMap Tryz.prog 150 (plainElem Tryz.prog 5) b n D ∧ ∀ x y, x < 1099511627776 → y < 1099511627776 →
    match f x y with
    | some v => has D (keyL x y) = true ∧ ∀ z, D.atKey (keyL x y) z = .lit (.int .u8 (v.toNat : Int))
    | none => has D (keyL x y) = false
theorem Mp.made (w : World) : Mp (w.alloc (.map #[] 0)) w.heap.size 0 (fun _ _ => none) :=
  ⟨.map [], World.ownsMap_made w _ _ _, fun _ _ _ _ => rfl⟩
theorem Mp.kept {w w' : World} {row : Option Nat} {b n : Nat} {f : Nat → Nat → Option UInt8} (h : Mp w b n f) (hg : w.grownBy w' row) (hne : row ≠ some b) : Mp w' b n f := by
  obtain ⟨D, h1, h2⟩ := h
  exact ⟨D, h1.kept hg (fun e => hne e.symm), h2⟩
theorem Mp.mono {w : World} {b n n' : Nat} {f : Nat → Nat → Option UInt8} (h : Mp w b n f) (hn : n ≤ n') : Mp w b n' f := by
  obtain ⟨D, h1, h2⟩ := h
  exact ⟨D, h1.mono hn, h2⟩
theorem Mp.ext {w : World} {b n : Nat} {f f' : Nat → Nat → Option UInt8} (h : Mp w b n f) (e : ∀ x y, f x y = f' x y) : Mp w b n f' := by
  obtain rfl : f = f' := by funext x y; exact e x y
  exact h
theorem isMap_of_owns {w : World} {b n : Nat} {D : DataW Unit} (h : w.ownsMap Tryz.prog 150 (plainElem Tryz.prog 5) b n D) : IsMap D := by
  obtain ⟨es, clock, -, -, -, rfl⟩ := h
  exact ⟨_, rfl⟩
theorem Mp.ne_own {w : World} {b n base m c : Nat} {e : TypeId} {A : Option Addr} {xs : List Value} {f : Nat → Nat → Option UInt8} (h : Mp w b n f) (ho : Own w base e A m c xs) : bk A ≠ some b := by
  obtain ⟨D, ⟨es, clock, hb, -⟩, -⟩ := h
  rcases ho.2 with ⟨hv, _⟩ | ⟨g, cap, cur, hv, _, hh, _⟩
  · simp only [Value.slice.injEq] at hv
    rw [hv.1]; simp [bk]
  · simp only [Value.slice.injEq] at hv
    rw [hv.1]
    intro he
    obtain rfl : g = b := by simpa [bk] using he
    rw [hh] at hb
    cases hb
theorem Mp.ne_blk {w : World} {b n g : Nat} {t : TypeId} {cs : Array Value} {f : Nat → Nat → Option UInt8} (h : Mp w b n f) (ho : Blk w g t cs) : g ≠ b := by
  obtain ⟨D, ⟨es, clock, hb, -⟩, -⟩ := h
  rintro rfl
  unfold Blk at ho
  rw [ho] at hb
  cases hb
theorem wpList_Mp_set {P' : Program} (hP : P' = Tryz.prog) {w : World} {ops : Array Oper} {rest : List Oper} {o : Oper} {a : Act} {Q : Exit → Act → World → Prop} (hg : o.guard = none) (m x v : Operand) (hop : o.op = Op.mapUpdate 148 m x v)
    (b n : Nat) (f : Nat → Nat → Option UInt8) (hm : a.eval m = .map (some b)) (hown : Mp w b n f) (hn : n < 1000000) (p q : Nat) (u : UInt8) (hp : p < 1099511627776) (hq : q < 1099511627776) (hx : a.eval x = keyV p q) (hv : a.eval v = .int .u8 (u.toNat : Int))
    (hK : ∀ w', Mp w' b (n + 1) (fun x y => if x = p ∧ y = q then some u else f x y) → w.grownBy w' (some b) → wpList P' ops Q rest (a.put o.dst undef) w') : wpList P' ops Q (o :: rest) a w := by
  subst hP
  obtain ⟨D, h1, h2⟩ := hown
  have hu : plainElem (H := Unit) Tryz.prog 5 (.int .u8 (u.toNat : Int)) = some (.lit (.int .u8 (u.toNat : Int)), []) := plainElem_int Tryz.underlying5 (WalkArith.wf_u8 (by have := u.toNat_lt; omega))
  have hk := keyOf_key (a := p) (b := q) (by omega) (by omega)
  refine wpList_mapUpdate_own w hg m x v 148 hop 150 5 keyKeyed Tryz.underlying148 (plainElem Tryz.prog 5) b n D hm h1 (by unfold maxLen; omega) _ _ (keyL p q) hx hv hk _ [] hu (fun w' h3 h4 => hK w' ⟨_, h3, fun x y hx hy => ?_⟩ h4)
  have hI := isMap_of_owns h1
  by_cases hxy : x = p ∧ y = q
  · obtain ⟨rfl, rfl⟩ := hxy
    show match (if x = x ∧ y = y then some u else f x y) with | some v => _ | none => _
    rw [if_pos ⟨rfl, rfl⟩]
    exact ⟨has_put_same hI (keyKeyed.key hk) _, fun z => atKey_put_same hI (keyKeyed.key hk) _ z⟩
  · show match (if x = p ∧ y = q then some u else f x y) with | some v => _ | none => _
    rw [if_neg hxy]
    have hne : keyL x y ≠ keyL p q := fun e => hxy (keyL_inj (by omega) (by omega) (by omega) (by omega) e)
    have := h2 x y hx hy
    rw [has_put_other hne]
    cases hf : f x y with
    | none => rw [hf] at this; exact this
    | some v =>
      rw [hf] at this
      exact ⟨this.1, fun z => by rw [atKey_put_other hne]; exact this.2 z⟩
theorem wpList_Mp_get {P' : Program} (hP : P' = Tryz.prog) {w : World} {ops : Array Oper} {rest : List Oper} {o : Oper} {a : Act} {Q : Exit → Act → World → Prop} (hg : o.guard = none) (m x : Operand) (hop : o.op = Op.lookup 148 m x true)
    (b n : Nat) (f : Nat → Nat → Option UInt8) (hm : a.eval m = .map (some b)) (hown : Mp w b n f) (p q : Nat) (hp : p < 1099511627776) (hq : q < 1099511627776) (hx : a.eval x = keyV p q)
    (hK : ∀ i : Int, (match f p q with | some u => i = (u.toNat : Int) | none => True) → wpList P' ops Q rest (a.put o.dst (.tuple #[.int .u8 i, .bool (f p q).isSome])) w) : wpList P' ops Q (o :: rest) a w := by
  subst hP
  obtain ⟨D, h1, h2⟩ := hown
  have hk := keyOf_key (a := p) (b := q) (by omega) (by omega)
  refine wpList_lookup_own_ok w hg m x 148 hop 150 5 keyKeyed Tryz.underlying148 (plainElem Tryz.prog 5) (z := .int .u8 0) (by kernel_rfl) _ [] (plainElem_int Tryz.underlying5 rfl) b n D hm h1 _ _ hx hk (fun v ps hv => ?_)
  obtain ⟨c, rfl, hc, -⟩ := plainElem_int_inv Tryz.underlying5 hv
  simp only [Prod.mk.injEq] at hc
  have h := h2 p q hp hq
  cases hf : f p q with
  | none =>
    rw [hf] at h
    rw [h]
    have := hK c (by rw [hf]; trivial)
    rw [hf] at this
    exact this
  | some u =>
    rw [hf] at h
    rw [h.1]
    have hcu : c = (u.toNat : Int) := by
      have := hc.1
      rw [h.2] at this
      simpa using this.symm
    have := hK c (by rw [hf]; exact hcu)
    rw [hf] at this
    exact this
theorem wpList_Mp_hit {P' : Program} (hP : P' = Tryz.prog) {w : World} {ops : Array Oper} {rest : List Oper} {o : Oper} {a : Act} {Q : Exit → Act → World → Prop} (hg : o.guard = none) (m x : Operand) (hop : o.op = Op.lookup 148 m x true)
    (b n : Nat) (f : Nat → Nat → Option UInt8) (hm : a.eval m = .map (some b)) (hown : Mp w b n f) (p q : Nat) (hp : p < 1099511627776) (hq : q < 1099511627776) (hx : a.eval x = keyV p q) (u : UInt8) (hf : f p q = some u)
    (hK : wpList P' ops Q rest (a.put o.dst (.tuple #[.int .u8 (u.toNat : Int), .bool true])) w) : wpList P' ops Q (o :: rest) a w :=
  wpList_Mp_get hP hg m x hop b n f hm hown p q hp hq hx (fun i hi => by rw [hf] at hi ⊢; simp only at hi; subst hi; exact hK)
theorem wpList_Mp_miss {P' : Program} (hP : P' = Tryz.prog) {w : World} {ops : Array Oper} {rest : List Oper} {o : Oper} {a : Act} {Q : Exit → Act → World → Prop} (hg : o.guard = none) (m x : Operand) (hop : o.op = Op.lookup 148 m x true)
    (b n : Nat) (f : Nat → Nat → Option UInt8) (hm : a.eval m = .map (some b)) (hown : Mp w b n f) (p q : Nat) (hp : p < 1099511627776) (hq : q < 1099511627776) (hx : a.eval x = keyV p q) (hf : f p q = none)
    (hK : ∀ i : Int, wpList P' ops Q rest (a.put o.dst (.tuple #[.int .u8 i, .bool false])) w) : wpList P' ops Q (o :: rest) a w :=
  wpList_Mp_get hP hg m x hop b n f hm hown p q hp hq hx (fun i _ => by rw [hf]; exact hK i)
end Go.Proofs.YtaelgbbnmjbjiaaGreat
